/- Joined: TabF, LaysS, SetF, SetG, SetP, PlaceH, TabG, TabH, PlaceI, PlaceJ, PlaceK, TabI, TabJ, TabK, TabL, SetH, SetI, SetJ, SetK, TabM, PeelP, PeelM. -/
import Derived.Test.YtmlbkcpmgcjblaaProg
import Derived.Shelf.SlGeneric
import Derived.Shelf.SlSortCmp.NoneTotal
import Derived.Ground.SlsfProg
import Derived.KernelRfl
import Derived.Deep.QuietTactic
import Derived.BigQuiet
import Derived.Lib.SlBytesConst
import Derived.Maps.Own
import Derived.Maps.Views
import Derived.DeepKeys4
import Derived.Test.YtmlbkcpmgcjblaaZPeelKnown2
/- Layer 15 by types: Zero, the program's and the document's. -/
namespace Go.Proofs.Ytmlbkcpmgcjblaa
open Go.RowKit

/-- All cells are nought. -/
def allZ (L : List Cl) : Bool := L.all fun c => decide (c = Cl.zero)
theorem allZ_bad {L : List Cl} {k : Nat} (hk : k < L.length) (h : ¬ L.getD k default = Cl.zero) : allZ L = false := by
  unfold allZ
  rw [List.all_eq_false]
  exact ⟨L[k], List.getElem_mem hk, by simpa [List.getD, List.getElem?_eq_getElem hk] using h⟩
theorem allZ_all {L : List Cl} (h : ∀ k, k < L.length → L.getD k default = Cl.zero) : allZ L = true := by
  unfold allZ
  rw [List.all_eq_true]
  intro c hc
  obtain ⟨k, hk, rfl⟩ := List.getElem_of_mem hc
  simpa [List.getD, List.getElem?_eq_getElem hk] using h k hk
theorem allZ_iff {L : List Cl} : allZ L = true ↔ ∀ k, k < L.length → L.getD k default = Cl.zero := by
  refine ⟨fun h k hk => ?_, allZ_all⟩
  exact Classical.byContradiction fun hb => by rw [allZ_bad hk hb] at h; cases h
set_option maxRecDepth 100000 in
theorem zero1_ty (c : Cl) : Fn1 Try.prog 81 (Ty.ex (.agg c.a)) (Ty.ex (.bool (!decide (c = Cl.zero)))) := by
  refine ⟨fun args w => by kernel_rfl, fun w v hv => ?_⟩
  have hC := czero_ty c
  refine enter_ty 6 [Ty.ex (.agg c.a)] Try.func81 rfl (by kernel_rfl) ⟨hv, trivial⟩ fun a hF => ?_
  have hB := Below.refl w.heap.size w
  repeat with_reducible first | refine wp_seq ?_ | refine nThen ?_ | refine wp_ret ?_
  refine' reg_all hF ?_ mixed (by kernel_rfl) ?_
  rotate_left
  · repeat (first
        | exact Line.nil
        | ((refine' Line.cons rfl (.run rfl rfl ?_) ?_)
           any_goals (first | exact cAssign rfl rfl | exact cNot rfl rfl | exact cBoxCl rfl rfl)
           rotate_left))
  intro a w1 hF hb hN
  have hBs := hB.size
  replace hB := hB.trans (hb.mono hB.size)
  dsimp only [ext, Option.getD] at hF
  repeat with_reducible first | refine wp_seq ?_ | refine nThen ?_ | refine wp_ret ?_
  refine' reg_all hF ?_ mixed (by kernel_rfl) ?_
  rotate_left
  · repeat (first
        | exact Line.nil
        | ((refine' Line.cons rfl (.run rfl rfl ?_) ?_)
           any_goals (first | exact cAssign rfl rfl | exact cNot rfl rfl | exact cLoadCl34 rfl (.t rfl) | exact cCall1 rfl rfl hC)
           rotate_left))
  intro a w2 hF hb hN
  have hBs := hB.size
  replace hB := hB.trans (hb.mono hB.size)
  dsimp only [ext, Option.getD] at hF
  repeat with_reducible first | refine wp_seq ?_ | refine nThen ?_ | refine wp_ret ?_
  refine ret1 hF rfl rfl fun z hz => ?_
  exact ⟨z, rfl, hz, hB⟩
abbrev zeroFn : Value := .func (.func 81) #[] #[]
set_option maxRecDepth 100000 in
/-- The first that is not nought; -1. -/
theorem idxCl_ty (L : List Cl) (hL : L.length ≤ 1000000) : ∃ r : Int, (decide (0 ≤ r) = !allZ L) ∧ Fn2 Try.prog 110 (Ty.cls 87 L) (Ty.ex zeroFn) (Ty.ex (.int .i64 r)) := by
  by_cases hz : allZ L = true
  · refine ⟨-1, by rw [hz]; rfl, fun args w => by kernel_rfl, fun w v u hv hu => ?_⟩
    have hall := allZ_iff.1 hz
    let TL := Ty.cls 87 L
    refine enter_ty 19 [Ty.ex v, Ty.ex zeroFn] Try.func110 rfl (by kernel_rfl) ⟨rfl, hu, trivial⟩ fun a hF => ?_
    have hB := Below.refl w.heap.size w
    repeat with_reducible first | refine wp_seq ?_ | refine nThen ?_ | refine nBlk ?_ | refine wp_skip ?_ | refine wp_block ?_ | refine wp_exit ?_ | refine xThen ?_ | refine xHere ?_ | refine wp_ret ?_ | refine rThen ?_ | refine rBlk ?_
    refine' reg_all hF ?_ mixed (by kernel_rfl) ?_
    rotate_left
    · repeat (first
          | exact Line.nil
          | ((refine' Line.cons rfl (.run rfl rfl ?_) ?_)
             any_goals (first | exact cMove rfl rfl | exact cAssign rfl rfl | exact cLss rfl rfl rfl)
             rotate_left))
    intro a w1 hF hb hN
    have hBs := hB.size
    replace hB := hB.trans (hb.mono hB.size)
    dsimp only [ext, Option.getD] at hF
    repeat with_reducible first | refine wp_seq ?_ | refine nThen ?_ | refine nBlk ?_ | refine wp_skip ?_ | refine wp_block ?_ | refine wp_exit ?_ | refine xThen ?_ | refine xHere ?_ | refine wp_ret ?_ | refine rThen ?_ | refine rBlk ?_
    have hv1 := TL.below hv hB
    refine' reg_all hF ?_ mixed (by kernel_rfl) ?_
    rotate_left
    · repeat (first
          | exact Line.nil
          | ((refine' Line.cons rfl (.run rfl rfl ?_) ?_)
             any_goals (first | exact cMove rfl rfl | exact cAssign rfl rfl | exact cLenH rfl (.l rfl hv1) (Ty.sl_isSl _ _ _) Try.underlying39 | exact cLss rfl rfl rfl)
             rotate_left))
    intro a w2 hF hb hN
    have hBs := hB.size
    replace hB := hB.trans (hb.mono hB.size)
    dsimp only [ext, Option.getD] at hF
    repeat with_reducible first | refine wp_seq ?_ | refine nThen ?_ | refine nBlk ?_ | refine wp_skip ?_ | refine wp_block ?_ | refine wp_exit ?_ | refine xThen ?_ | refine xHere ?_ | refine wp_ret ?_ | refine rThen ?_ | refine rBlk ?_
    refine loop_ty (fun m a wr => ∃ k : Nat, k + m = L.length ∧ Fr 19 [(0, Ty.ex v), (1, Ty.ex zeroFn), (7, Ty.ex (.int .i64 (L.length : Int))), (8, Ty.ex (.int .i64 (k : Int)))] a wr ∧ Below w.heap.size w wr) L.length ?_ ?_
    · exact ⟨0, by omega, hF.keep [0, 1, 7, 8], hB⟩
    clear hF hB hv1
    rintro m a wr ⟨k, hk, hF, hB⟩
    repeat with_reducible first | refine wp_seq ?_ | refine nThen ?_ | refine nBlk ?_ | refine wp_skip ?_ | refine wp_block ?_ | refine wp_exit ?_ | refine xThen ?_ | refine xHere ?_ | refine wp_ret ?_ | refine rThen ?_ | refine rBlk ?_
    refine' reg_all hF ?_ mixed (by kernel_rfl) ?_
    rotate_left
    · repeat (first
          | exact Line.nil
          | ((refine' Line.cons rfl (.run rfl rfl ?_) ?_)
             any_goals (first | exact cMove rfl rfl | exact cAssign rfl rfl | exact cLss rfl rfl rfl)
             rotate_left))
    intro a w3 hF hb hN
    have hBs := hB.size
    replace hB := hB.trans (hb.mono hB.size)
    dsimp only [ext, Option.getD] at hF
    repeat with_reducible first | refine wp_seq ?_ | refine nThen ?_ | refine nBlk ?_ | refine wp_skip ?_ | refine wp_block ?_ | refine wp_exit ?_ | refine xThen ?_ | refine xHere ?_ | refine wp_ret ?_ | refine rThen ?_ | refine rBlk ?_
    refine cond_ty hF rfl (fun hlt => ?_) (fun hge => ?_)
    · have hlt : k < L.length := by have := of_decide_eq_true hlt; omega
      have hC := zero1_ty (L.getD k default)
      rw [hall k hlt] at hC
      repeat with_reducible first | refine wp_seq ?_ | refine nThen ?_ | refine nBlk ?_ | refine wp_skip ?_ | refine wp_block ?_ | refine wp_exit ?_ | refine xThen ?_ | refine xHere ?_ | refine wp_ret ?_ | refine rThen ?_ | refine rBlk ?_
      refine' reg_all hF ?_ mixed (by kernel_rfl) ?_
      rotate_left
      · repeat (first
            | exact Line.nil
            | ((refine' Line.cons rfl (.run rfl rfl ?_) ?_)
               any_goals (first | exact cMove rfl rfl | exact cAssign rfl rfl | exact cLss rfl rfl rfl)
               rotate_left))
      intro a w4 hF hb hN
      have hBs := hB.size
      replace hB := hB.trans (hb.mono hB.size)
      dsimp only [ext, Option.getD] at hF
      repeat with_reducible first | refine wp_seq ?_ | refine nThen ?_ | refine nBlk ?_ | refine wp_skip ?_ | refine wp_block ?_ | refine wp_exit ?_ | refine xThen ?_ | refine xHere ?_ | refine wp_ret ?_ | refine rThen ?_ | refine rBlk ?_
      have hv4 := TL.below hv hB
      have hix : ∀ {Γ : Ctx} {o : Oper} {x ix : Operand} {kd : IntKind} (ho : o.op = .indexAddr 39 x ix) (hx : Has w4 Γ x (Ty.cls 87 L)) (hi : OpT Γ ix (Ty.ex (.int kd (k : Int)))), OpOk Try.prog w4 Γ o (Ty.at_ 87 Cl.zero.enc) := fun ho hx hi => by
        have h := cIndexCl (P := Try.prog) (k := k) ho hx hi Try.underlying39 info34 hlt
        rwa [hall k hlt] at h
      refine' reg_all hF ?_ mixed (by kernel_rfl) ?_
      rotate_left
      · repeat (first
            | exact Line.nil
            | ((refine' Line.cons rfl (.run rfl rfl ?_) ?_)
               any_goals (first | exact cMove rfl rfl | exact cAssign rfl rfl | exact hix rfl (.l rfl hv4) rfl | exact cLoadCl34 rfl (.t rfl) | exact OpOk.b (c := false) (cCallV1 rfl rfl (.t rfl) hC) (by decide) | exact cLss rfl rfl rfl)
               rotate_left))
      intro a w5 hF hb hN
      have hBs := hB.size
      replace hB := hB.trans (hb.mono hB.size)
      dsimp only [ext, Option.getD] at hF
      repeat with_reducible first | refine wp_seq ?_ | refine nThen ?_ | refine nBlk ?_ | refine wp_skip ?_ | refine wp_block ?_ | refine wp_exit ?_ | refine xThen ?_ | refine xHere ?_ | refine wp_ret ?_ | refine rThen ?_ | refine rBlk ?_
      refine cond_f hF rfl ?_
      repeat with_reducible first | refine wp_seq ?_ | refine nThen ?_ | refine nBlk ?_ | refine wp_skip ?_ | refine wp_block ?_ | refine wp_exit ?_ | refine xThen ?_ | refine xHere ?_ | refine wp_ret ?_ | refine rThen ?_ | refine rBlk ?_
      refine' reg_all hF ?_ mixed (by kernel_rfl) ?_
      rotate_left
      · repeat (first
            | exact Line.nil
            | ((refine' Line.cons rfl (.run rfl rfl ?_) ?_)
               any_goals (first | exact cMove rfl rfl | exact cAssign rfl rfl | exact cAdd (r := ((k + 1 : Nat) : Int)) rfl rfl rfl (by omega) | exact cLss rfl rfl rfl)
               rotate_left))
      intro a w6 hF hb hN
      have hBs := hB.size
      replace hB := hB.trans (hb.mono hB.size)
      dsimp only [ext, Option.getD] at hF
      repeat with_reducible first | refine wp_seq ?_ | refine nThen ?_ | refine nBlk ?_ | refine wp_skip ?_ | refine wp_block ?_ | refine wp_exit ?_ | refine xThen ?_ | refine xHere ?_ | refine wp_ret ?_ | refine rThen ?_ | refine rBlk ?_
      exact ⟨m - 1, by omega, k + 1, by omega, hF.keep [0, 1, 7, 8], hB⟩
    · have hge : ¬ k < L.length := by have := of_decide_eq_false hge; omega
      repeat with_reducible first | refine wp_seq ?_ | refine nThen ?_ | refine nBlk ?_ | refine wp_skip ?_ | refine wp_block ?_ | refine wp_exit ?_ | refine xThen ?_ | refine xHere ?_ | refine wp_ret ?_ | refine rThen ?_ | refine rBlk ?_
      refine' reg_all hF ?_ mixed (by kernel_rfl) ?_
      rotate_left
      · repeat (first
            | exact Line.nil
            | ((refine' Line.cons rfl (.run rfl rfl ?_) ?_)
               any_goals (first | exact cMove rfl rfl | exact cAssign rfl rfl | exact cLss rfl rfl rfl)
               rotate_left))
      intro a w4 hF hb hN
      have hBs := hB.size
      replace hB := hB.trans (hb.mono hB.size)
      dsimp only [ext, Option.getD] at hF
      repeat with_reducible first | refine wp_seq ?_ | refine nThen ?_ | refine nBlk ?_ | refine wp_skip ?_ | refine wp_block ?_ | refine wp_exit ?_ | refine xThen ?_ | refine xHere ?_ | refine wp_ret ?_ | refine rThen ?_ | refine rBlk ?_
      refine ret1 hF rfl rfl fun z hz => ?_
      exact ⟨z, rfl, hz, hB⟩
  · have hz : allZ L = false := by simpa using hz
    obtain ⟨k0, hk0, hne0, hlo⟩ : ∃ k, k < L.length ∧ ¬ L.getD k default = Cl.zero ∧ ∀ j, j < k → L.getD j default = Cl.zero := by
      have hex : ∃ k, k < L.length ∧ ¬ L.getD k default = Cl.zero := Classical.byContradiction fun h => by
        have : allZ L = true := allZ_all fun k hk => Classical.byContradiction fun hb => h ⟨k, hk, hb⟩
        rw [this] at hz; cases hz
      have key : ∀ n, (∃ k, k < n ∧ k < L.length ∧ ¬ L.getD k default = Cl.zero) → ∃ k, k < L.length ∧ ¬ L.getD k default = Cl.zero ∧ ∀ j, j < k → L.getD j default = Cl.zero := by
        intro n
        induction n with
        | zero => rintro ⟨k, h, _⟩; omega
        | succ n ih =>
          rintro ⟨k, h1, h2, h3⟩
          by_cases hn : ∃ k, k < n ∧ k < L.length ∧ ¬ L.getD k default = Cl.zero
          · exact ih hn
          · refine ⟨k, h2, h3, fun j hj => Classical.byContradiction fun hb => hn ⟨j, by omega, by omega, hb⟩⟩
      obtain ⟨k, h1, h2⟩ := hex
      exact key (k + 1) ⟨k, by omega, h1, h2⟩
    refine ⟨(k0 : Int), by rw [hz]; exact decide_eq_true (by omega), fun args w => by kernel_rfl, fun w v u hv hu => ?_⟩
    let TL := Ty.cls 87 L
    refine enter_ty 19 [Ty.ex v, Ty.ex zeroFn] Try.func110 rfl (by kernel_rfl) ⟨rfl, hu, trivial⟩ fun a hF => ?_
    have hB := Below.refl w.heap.size w
    repeat with_reducible first | refine wp_seq ?_ | refine nThen ?_ | refine nBlk ?_ | refine wp_skip ?_ | refine wp_block ?_ | refine wp_exit ?_ | refine xThen ?_ | refine xHere ?_ | refine wp_ret ?_ | refine rThen ?_ | refine rBlk ?_
    refine' reg_all hF ?_ mixed (by kernel_rfl) ?_
    rotate_left
    · repeat (first
          | exact Line.nil
          | ((refine' Line.cons rfl (.run rfl rfl ?_) ?_)
             any_goals (first | exact cMove rfl rfl | exact cAssign rfl rfl | exact cLss rfl rfl rfl)
             rotate_left))
    intro a w1 hF hb hN
    have hBs := hB.size
    replace hB := hB.trans (hb.mono hB.size)
    dsimp only [ext, Option.getD] at hF
    repeat with_reducible first | refine wp_seq ?_ | refine nThen ?_ | refine nBlk ?_ | refine wp_skip ?_ | refine wp_block ?_ | refine wp_exit ?_ | refine xThen ?_ | refine xHere ?_ | refine wp_ret ?_ | refine rThen ?_ | refine rBlk ?_
    have hv1 := TL.below hv hB
    refine' reg_all hF ?_ mixed (by kernel_rfl) ?_
    rotate_left
    · repeat (first
          | exact Line.nil
          | ((refine' Line.cons rfl (.run rfl rfl ?_) ?_)
             any_goals (first | exact cMove rfl rfl | exact cAssign rfl rfl | exact cLenH rfl (.l rfl hv1) (Ty.sl_isSl _ _ _) Try.underlying39 | exact cLss rfl rfl rfl)
             rotate_left))
    intro a w2 hF hb hN
    have hBs := hB.size
    replace hB := hB.trans (hb.mono hB.size)
    dsimp only [ext, Option.getD] at hF
    repeat with_reducible first | refine wp_seq ?_ | refine nThen ?_ | refine nBlk ?_ | refine wp_skip ?_ | refine wp_block ?_ | refine wp_exit ?_ | refine xThen ?_ | refine xHere ?_ | refine wp_ret ?_ | refine rThen ?_ | refine rBlk ?_
    refine loop_ty (fun m a wr => ∃ k : Nat, k + m = L.length ∧ k ≤ k0 ∧ Fr 19 [(0, Ty.ex v), (1, Ty.ex zeroFn), (7, Ty.ex (.int .i64 (L.length : Int))), (8, Ty.ex (.int .i64 (k : Int)))] a wr ∧ Below w.heap.size w wr) L.length ?_ ?_
    · exact ⟨0, by omega, by omega, hF.keep [0, 1, 7, 8], hB⟩
    clear hF hB hv1
    rintro m a wr ⟨k, hk, hk2, hF, hB⟩
    repeat with_reducible first | refine wp_seq ?_ | refine nThen ?_ | refine nBlk ?_ | refine wp_skip ?_ | refine wp_block ?_ | refine wp_exit ?_ | refine xThen ?_ | refine xHere ?_ | refine wp_ret ?_ | refine rThen ?_ | refine rBlk ?_
    refine' reg_all hF ?_ mixed (by kernel_rfl) ?_
    rotate_left
    · repeat (first
          | exact Line.nil
          | ((refine' Line.cons rfl (.run rfl rfl ?_) ?_)
             any_goals (first | exact cMove rfl rfl | exact cAssign rfl rfl | exact OpOk.b (c := true) (cLss rfl rfl rfl) (decide_eq_true (by omega)) | exact cLss rfl rfl rfl)
             rotate_left))
    intro a w3 hF hb hN
    have hBs := hB.size
    replace hB := hB.trans (hb.mono hB.size)
    dsimp only [ext, Option.getD] at hF
    repeat with_reducible first | refine wp_seq ?_ | refine nThen ?_ | refine nBlk ?_ | refine wp_skip ?_ | refine wp_block ?_ | refine wp_exit ?_ | refine xThen ?_ | refine xHere ?_ | refine wp_ret ?_ | refine rThen ?_ | refine rBlk ?_
    refine cond_t hF rfl ?_
    have hC := zero1_ty (L.getD k default)
    repeat with_reducible first | refine wp_seq ?_ | refine nThen ?_ | refine nBlk ?_ | refine wp_skip ?_ | refine wp_block ?_ | refine wp_exit ?_ | refine xThen ?_ | refine xHere ?_ | refine wp_ret ?_ | refine rThen ?_ | refine rBlk ?_
    refine' reg_all hF ?_ mixed (by kernel_rfl) ?_
    rotate_left
    · repeat (first
          | exact Line.nil
          | ((refine' Line.cons rfl (.run rfl rfl ?_) ?_)
             any_goals (first | exact cMove rfl rfl | exact cAssign rfl rfl | exact cLss rfl rfl rfl)
             rotate_left))
    intro a w4 hF hb hN
    have hBs := hB.size
    replace hB := hB.trans (hb.mono hB.size)
    dsimp only [ext, Option.getD] at hF
    repeat with_reducible first | refine wp_seq ?_ | refine nThen ?_ | refine nBlk ?_ | refine wp_skip ?_ | refine wp_block ?_ | refine wp_exit ?_ | refine xThen ?_ | refine xHere ?_ | refine wp_ret ?_ | refine rThen ?_ | refine rBlk ?_
    have hv4 := TL.below hv hB
    refine' reg_all hF ?_ mixed (by kernel_rfl) ?_
    rotate_left
    · repeat (first
          | exact Line.nil
          | ((refine' Line.cons rfl (.run rfl rfl ?_) ?_)
             any_goals (first | exact cMove rfl rfl | exact cAssign rfl rfl | exact cIndexCl (k := k) rfl (.l rfl hv4) rfl Try.underlying39 info34 (by omega) | exact cLoadCl34 rfl (.t rfl) | exact cCallV1 rfl rfl (.t rfl) hC | exact cLss rfl rfl rfl)
             rotate_left))
    intro a w5 hF hb hN
    have hBs := hB.size
    replace hB := hB.trans (hb.mono hB.size)
    dsimp only [ext, Option.getD] at hF
    repeat with_reducible first | refine wp_seq ?_ | refine nThen ?_ | refine nBlk ?_ | refine wp_skip ?_ | refine wp_block ?_ | refine wp_exit ?_ | refine xThen ?_ | refine xHere ?_ | refine wp_ret ?_ | refine rThen ?_ | refine rBlk ?_
    refine cond_ty hF rfl (fun hin => ?_) (fun hout => ?_)
    · have hkk : k = k0 := Classical.byContradiction fun h => by
        rw [hlo k (by omega)] at hin
        simp at hin
      subst hkk
      repeat with_reducible first | refine wp_seq ?_ | refine nThen ?_ | refine nBlk ?_ | refine wp_skip ?_ | refine wp_block ?_ | refine wp_exit ?_ | refine xThen ?_ | refine xHere ?_ | refine wp_ret ?_ | refine rThen ?_ | refine rBlk ?_
      refine' reg_all hF ?_ mixed (by kernel_rfl) ?_
      rotate_left
      · repeat (first
            | exact Line.nil
            | ((refine' Line.cons rfl (.run rfl rfl ?_) ?_)
               any_goals (first | exact cMove rfl rfl | exact cAssign rfl rfl | exact cLss rfl rfl rfl)
               rotate_left))
      intro a w6 hF hb hN
      have hBs := hB.size
      replace hB := hB.trans (hb.mono hB.size)
      dsimp only [ext, Option.getD] at hF
      repeat with_reducible first | refine wp_seq ?_ | refine nThen ?_ | refine nBlk ?_ | refine wp_skip ?_ | refine wp_block ?_ | refine wp_exit ?_ | refine xThen ?_ | refine xHere ?_ | refine wp_ret ?_ | refine rThen ?_ | refine rBlk ?_
      refine ret1 hF rfl rfl fun z hz => ?_
      exact ⟨z, rfl, hz, hB⟩
    · have hkk : k < k0 := Classical.byContradiction fun h => by
        obtain rfl : k = k0 := by omega
        simp at hout
        exact hne0 (by simpa [List.getD] using hout)
      repeat with_reducible first | refine wp_seq ?_ | refine nThen ?_ | refine nBlk ?_ | refine wp_skip ?_ | refine wp_block ?_ | refine wp_exit ?_ | refine xThen ?_ | refine xHere ?_ | refine wp_ret ?_ | refine rThen ?_ | refine rBlk ?_
      refine' reg_all hF ?_ mixed (by kernel_rfl) ?_
      rotate_left
      · repeat (first
            | exact Line.nil
            | ((refine' Line.cons rfl (.run rfl rfl ?_) ?_)
               any_goals (first | exact cMove rfl rfl | exact cAssign rfl rfl | exact cAdd (r := ((k + 1 : Nat) : Int)) rfl rfl rfl (by omega) | exact cLss rfl rfl rfl)
               rotate_left))
      intro a w6 hF hb hN
      have hBs := hB.size
      replace hB := hB.trans (hb.mono hB.size)
      dsimp only [ext, Option.getD] at hF
      repeat with_reducible first | refine wp_seq ?_ | refine nThen ?_ | refine nBlk ?_ | refine wp_skip ?_ | refine wp_block ?_ | refine wp_exit ?_ | refine xThen ?_ | refine xHere ?_ | refine wp_ret ?_ | refine rThen ?_ | refine rBlk ?_
      exact ⟨m - 1, by omega, k + 1, by omega, by omega, hF.keep [0, 1, 7, 8], hB⟩
set_option maxRecDepth 100000 in
theorem contCl_ty (L : List Cl) (hL : L.length ≤ 1000000) : Fn2 Try.prog 80 (Ty.cls 87 L) (Ty.ex zeroFn) (Ty.ex (.bool (!allZ L))) := by
  obtain ⟨r, hr, hI⟩ := idxCl_ty L hL
  refine ⟨fun args w => by kernel_rfl, fun w v u hv hu => ?_⟩
  refine enter_ty 9 [Ty.ex v, Ty.ex zeroFn] Try.func80 rfl (by kernel_rfl) ⟨rfl, hu, trivial⟩ fun a hF => ?_
  have hB := Below.refl w.heap.size w
  repeat with_reducible first | refine wp_seq ?_ | refine nThen ?_ | refine wp_ret ?_
  refine' reg_all hF ?_ mixed (by kernel_rfl) ?_
  rotate_left
  · repeat (first
        | exact Line.nil
        | ((refine' Line.cons rfl (.run rfl rfl ?_) ?_)
           any_goals (first | exact cMove rfl rfl | exact cAssign rfl rfl | exact cGeq rfl rfl rfl)
           rotate_left))
  intro a w1 hF hb hN
  have hBs := hB.size
  replace hB := hB.trans (hb.mono hB.size)
  dsimp only [ext, Option.getD] at hF
  repeat with_reducible first | refine wp_seq ?_ | refine nThen ?_ | refine wp_ret ?_
  have hv1 := (Ty.cls 87 L).below hv hB
  refine' reg_all hF ?_ mixed (by kernel_rfl) ?_
  rotate_left
  · repeat (first
        | exact Line.nil
        | ((refine' Line.cons rfl (.run rfl rfl ?_) ?_)
           any_goals (first | exact cMove rfl rfl | exact cAssign rfl rfl | exact cCallH2 rfl (.l rfl hv1) (.t rfl) hI | exact OpOk.b (cGeq rfl rfl rfl) hr | exact cGeq rfl rfl rfl)
           rotate_left))
  intro a w2 hF hb hN
  have hBs := hB.size
  replace hB := hB.trans (hb.mono hB.size)
  dsimp only [ext, Option.getD] at hF
  repeat with_reducible first | refine wp_seq ?_ | refine nThen ?_ | refine wp_ret ?_
  refine ret1 hF rfl rfl fun z hz => ?_
  exact ⟨z, rfl, hz, hB⟩
set_option maxRecDepth 100000 in
theorem tzero_ty (seed : Nat) (L : List Cl) : Fn1 Try.prog 34 (Ty.tab 87 seed L) (Ty.ex (.bool (goodN (L.length : Int) && allZ L))) := by
  refine ⟨fun args w => by kernel_rfl, fun w v ⟨s, hv, hs⟩ => ?_⟩
  subst hv
  have hG := tgood_ty seed L
  by_cases hg : goodN (L.length : Int) = true
  · obtain ⟨N, hN, _, hN2⟩ := goodN_rng hg
    have hC := contCl_ty L (by omega)
    rw [hg] at hG ⊢
    refine enter_ty 11 [Ty.ex (.agg #[.int .u64 (seed : Int), s])] Try.func34 rfl (by kernel_rfl) ⟨rfl, trivial⟩ fun a hF => ?_
    have hB := Below.refl w.heap.size w
    repeat with_reducible first | refine wp_seq ?_ | refine nThen ?_ | refine wp_ret ?_
    refine' reg_all hF ?_ mixed (by kernel_rfl) ?_
    rotate_left
    · repeat (first
          | exact Line.nil
          | (refine' Line.cons rfl (.no rfl rfl rfl rfl rfl rfl) ?_; rotate_left)
          | ((first | refine' Line.cons rfl (.run rfl rfl ?_) ?_ | refine' Line.cons rfl (.yes rfl rfl rfl rfl ?_) ?_)
             any_goals (first | exact cMove rfl rfl | exact cAssign rfl rfl | exact cNot rfl rfl | exact cBoxTab rfl rfl | exact cPickT rfl rfl rfl | exact cPickF rfl rfl rfl)
             rotate_left))
    intro a w1 hF hb hN
    have hBs := hB.size
    replace hB := hB.trans (hb.mono hB.size)
    dsimp only [ext, Option.getD] at hF
    repeat with_reducible first | refine wp_seq ?_ | refine nThen ?_ | refine wp_ret ?_
    have hs1 := (Ty.cls 87 L).below hs hB
    have ht1 : (Ty.tab 87 seed L).p w1 (.agg #[.int .u64 (seed : Int), s]) := ⟨s, rfl, hs1⟩
    refine' reg_all hF ?_ mixed (by kernel_rfl) ?_
    rotate_left
    · repeat (first
          | exact Line.nil
          | (refine' Line.cons rfl (.no rfl rfl rfl rfl rfl rfl) ?_; rotate_left)
          | ((first | refine' Line.cons rfl (.run rfl rfl ?_) ?_ | refine' Line.cons rfl (.yes rfl rfl rfl rfl ?_) ?_)
             any_goals (first | exact cMove rfl rfl | exact cAssign rfl rfl | exact cNot rfl rfl | exact cLoadT46 rfl (.t rfl) | exact cCallH1 rfl (.l rfl ht1) hG | exact cFldL46 rfl (.t rfl) | exact cRowOf46 rfl (.t rfl) | exact cCallH2 rfl (.l rfl hs1) (.t rfl) hC | exact cPickT rfl rfl rfl | exact cPickF rfl rfl rfl)
             rotate_left))
    intro a w2 hF hb hN
    have hBs := hB.size
    replace hB := hB.trans (hb.mono hB.size)
    dsimp only [ext, Option.getD] at hF
    repeat with_reducible first | refine wp_seq ?_ | refine nThen ?_ | refine wp_ret ?_
    refine ret1 hF rfl rfl fun z hz => ?_
    refine ⟨z, rfl, ?_, hB⟩
    rw [Bool.true_and, show allZ L = !!allZ L by simp]
    exact hz
  · have hg : goodN (L.length : Int) = false := by simpa using hg
    rw [hg] at hG ⊢
    refine enter_ty 11 [Ty.ex (.agg #[.int .u64 (seed : Int), s])] Try.func34 rfl (by kernel_rfl) ⟨rfl, trivial⟩ fun a hF => ?_
    have hB := Below.refl w.heap.size w
    repeat with_reducible first | refine wp_seq ?_ | refine nThen ?_ | refine wp_ret ?_
    refine' reg_all hF ?_ mixed (by kernel_rfl) ?_
    rotate_left
    · repeat (first
          | exact Line.nil
          | (refine' Line.cons rfl (.no rfl rfl rfl rfl rfl rfl) ?_; rotate_left)
          | ((first | refine' Line.cons rfl (.run rfl rfl ?_) ?_ | refine' Line.cons rfl (.yes rfl rfl rfl rfl ?_) ?_)
             any_goals (first | exact cMove rfl rfl | exact cAssign rfl rfl | exact cNot rfl rfl | exact cBoxTab rfl rfl | exact cPickT rfl rfl rfl | exact cPickF rfl rfl rfl)
             rotate_left))
    intro a w1 hF hb hN
    have hBs := hB.size
    replace hB := hB.trans (hb.mono hB.size)
    dsimp only [ext, Option.getD] at hF
    repeat with_reducible first | refine wp_seq ?_ | refine nThen ?_ | refine wp_ret ?_
    have hs1 := (Ty.cls 87 L).below hs hB
    have ht1 : (Ty.tab 87 seed L).p w1 (.agg #[.int .u64 (seed : Int), s]) := ⟨s, rfl, hs1⟩
    refine' reg_all hF ?_ mixed (by kernel_rfl) ?_
    rotate_left
    · repeat (first
          | exact Line.nil
          | (refine' Line.cons rfl (.no rfl rfl rfl rfl rfl rfl) ?_; rotate_left)
          | ((first | refine' Line.cons rfl (.run rfl rfl ?_) ?_ | refine' Line.cons rfl (.yes rfl rfl rfl rfl ?_) ?_)
             any_goals (first | exact cMove rfl rfl | exact cAssign rfl rfl | exact cNot rfl rfl | exact cLoadT46 rfl (.t rfl) | exact cCallH1 rfl (.l rfl ht1) hG | exact cPickT rfl rfl rfl | exact cPickF rfl rfl rfl)
             rotate_left))
    intro a w2 hF hb hN
    have hBs := hB.size
    replace hB := hB.trans (hb.mono hB.size)
    dsimp only [ext, Option.getD] at hF
    repeat with_reducible first | refine wp_seq ?_ | refine nThen ?_ | refine wp_ret ?_
    refine ret1 hF rfl rfl fun z hz => ?_
    exact ⟨z, rfl, hz, hB⟩
end Go.Proofs.Ytmlbkcpmgcjblaa

/- The library's contracts, laid at this translation. -/
namespace Go.Proofs.Ytmlbkcpmgcjblaa
open Go.RowKit Go.Shelf

def laysSortS_ren : Go.Shelf.Ren := ⟨fun | 6 => 65 | 15 => 102 | 14 => 101 | 28 => 130 | 29 => 131 | 20 => 122 | 21 => 123 | 22 => 124 | 23 => 125 | 24 => 126 | 25 => 127 | 26 => 128 | 27 => 129 | 46 => 137 | 47 => 138 | 48 => 139 | 49 => 140 | 50 => 141 | 57 => 142 | n => n, fun | 22 => 24 | 24 => 34 | 25 => 91 | 3 => 3 | 39 => 112 | 0 => 0 | 53 => 115 | 55 => 38 | 4 => 4 | 46 => 159 | 45 => 158 | 50 => 135 | 5 => 5 | 9 => 9 | 66 => 168 | 70 => 172 | 76 => 174 | 77 => 175 | n => n, fun | n => n⟩
theorem laysSortS : Go.Proofs.SlLaysF0.n6 Try.prog laysSortS_ren := {
  mixed := by kernel_rfl
  f6 := ⟨Try.f65.name, by decide, Try.func65.trans (congrArg some (by kernel_rfl))⟩
  f14 := ⟨Try.f101.name, by decide, Try.func101.trans (congrArg some (by kernel_rfl))⟩
  f15 := Try.func102.trans (congrArg some (by kernel_rfl))
  f20 := ⟨Try.f122.name, by decide, Try.func122.trans (congrArg some (by kernel_rfl))⟩
  f21 := ⟨Try.f123.name, by decide, Try.func123.trans (congrArg some (by kernel_rfl))⟩
  f22 := ⟨Try.f124.name, by decide, Try.func124.trans (congrArg some (by kernel_rfl))⟩
  f23 := ⟨Try.f125.name, by decide, Try.func125.trans (congrArg some (by kernel_rfl))⟩
  f24 := ⟨Try.f126.name, by decide, Try.func126.trans (congrArg some (by kernel_rfl))⟩
  f25 := ⟨Try.f127.name, by decide, Try.func127.trans (congrArg some (by kernel_rfl))⟩
  f26 := ⟨Try.f128.name, by decide, Try.func128.trans (congrArg some (by kernel_rfl))⟩
  f27 := ⟨Try.f129.name, by decide, Try.func129.trans (congrArg some (by kernel_rfl))⟩
  f28 := Try.func130.trans (congrArg some (by kernel_rfl))
  f29 := Try.func131.trans (congrArg some (by kernel_rfl))
  f46 := ⟨Try.f137.name, by decide, Try.func137.trans (congrArg some (by kernel_rfl))⟩
  f47 := Try.func138.trans (congrArg some (by kernel_rfl))
  f48 := Try.func139.trans (congrArg some (by kernel_rfl))
  f49 := ⟨Try.f140.name, by decide, Try.func140.trans (congrArg some (by kernel_rfl))⟩
  f50 := ⟨Try.f141.name, by decide, Try.func141.trans (congrArg some (by kernel_rfl))⟩
  f57 := ⟨Try.f142.name, by decide, Try.func142.trans (congrArg some (by kernel_rfl))⟩
  t0 := Try.underlying0
  a0 := Try.isAgg0
  z0 := Try.sizeOf0
  v0 := Try.zeroValue0
  t3 := Try.underlying3
  a3 := Try.isAgg3
  z3 := Try.sizeOf3
  v3 := Try.zeroValue3
  t4 := Try.underlying4
  a4 := Try.isAgg4
  z4 := Try.sizeOf4
  v4 := Try.zeroValue4
  t5 := Try.underlying5
  a5 := Try.isAgg5
  z5 := Try.sizeOf5
  v5 := Try.zeroValue5
  t9 := Try.underlying9
  a9 := Try.isAgg9
  z9 := Try.sizeOf9
  v9 := Try.zeroValue9
  t22 := Try.underlying24
  a22 := Try.isAgg24
  z22 := Try.sizeOf24
  v22 := Try.zeroValue24
  t25 := Try.underlying91
  a25 := Try.isAgg91
  z25 := Try.sizeOf91
  v25 := Try.zeroValue91
  t39 := Try.underlying112
  a39 := Try.isAgg112
  z39 := Try.sizeOf112
  v39 := Try.zeroValue112
  t45 := Try.underlying158
  a45 := Try.isAgg158
  z45 := Try.sizeOf158
  v45 := Try.zeroValue158
  t46 := Try.underlying159
  a46 := Try.isAgg159
  z46 := Try.sizeOf159
  v46 := Try.zeroValue159
  t50 := Try.underlying135
  a50 := Try.isAgg135
  z50 := Try.sizeOf135
  v50 := Try.zeroValue135
  t53 := Try.underlying115
  a53 := Try.isAgg115
  z53 := Try.sizeOf115
  v53 := Try.zeroValue115
  t55 := Try.underlying38
  a55 := Try.isAgg38
  z55 := Try.sizeOf38
  v55 := Try.zeroValue38
  t66 := Try.underlying168
  a66 := Try.isAgg168
  z66 := Try.sizeOf168
  v66 := Try.zeroValue168
  t70 := Try.underlying172
  a70 := Try.isAgg172
  z70 := Try.sizeOf172
  v70 := Try.zeroValue172
  t76 := Try.underlying174
  a76 := Try.isAgg174
  z76 := Try.sizeOf174
  v76 := Try.zeroValue174
  t77 := Try.underlying175
  a77 := Try.isAgg175
  z77 := Try.sizeOf175
  v77 := Try.zeroValue175 }
end Go.Proofs.Ytmlbkcpmgcjblaa

/- Layer 10: SortFunc by the library's contract; Compact; Of. -/
namespace Go.Proofs.Ytmlbkcpmgcjblaa
open Go.RowKit

theorem rd_box {w : World} {g : Nat} {t : TypeId} {l : List Nat} (h : Blk w g t (u8s l)) : Rd w (some ⟨g, 0, none⟩) (l.map bv) := by
  have := Rd.of_blk0 h
  simpa [u8s] using this
set_option maxRecDepth 100000 in
/-- Sum.Cmp, its world to the letter. -/
theorem cmpW (x y : Sm) (w : World) : Calls Try.prog 66 #[.agg (u8s x.l), .agg (u8s y.l)] w fun e w' => e = .returned (.int .i64 (cmpL x.l y.l)) ∧ ∃ q os, w' = Sort.grow (w.drewN q) os := by
  have h0 : Blk ((w.alloc (.cells (u8s x.l) 34)).alloc (.cells (u8s y.l) 34)) w.heap.size 34 (u8s x.l) := (Blk.new w _ _).alloc _
  have h1 : Blk ((w.alloc (.cells (u8s x.l) 34)).alloc (.cells (u8s y.l) 34)) (w.heap.size + 1) 34 (u8s y.l) := Blk.newAt (w.alloc _) _ _ _ (by simp)
  have hc : ∀ n, Calls Try.prog 103 #[.slice (some ⟨w.heap.size, 0, none⟩) 32 32, .slice (some ⟨w.heap.size + 1, 0, none⟩) 32 32] (((w.alloc (.cells (u8s x.l) 34)).alloc (.cells (u8s y.l) 34)).drewN n)
      fun e w' => e = .returned (.int .i64 (cmpL x.l y.l)) ∧ w' = (((w.alloc (.cells (u8s x.l) 34)).alloc (.cells (u8s y.l) 34)).drewN n) := fun n =>
    Compare_any _ _ 32 32 32 32 x.l y.l _ x.len y.len (rd_box (h0.drewN n)) (rd_box (h1.drewN n)) (by simp) (by simp) x.lt y.lt
  have HC := Lib.hid hc
  clear hc h0 h1
  generalize cmpL x.l y.l = r at *
  go_enter Try.func66, Try.ntmps66
  go_wp2_with fail
  go_quiet ((go_at_call 103; exact Calls.quiet_of_same (HC.out _)))
  go_wp2_with fail
  go_ret
  exact ⟨rfl, _, _, by rw [Sort.alloc_eq_grow, Sort.alloc_eq_grow, Sort.grow_grow]; rfl⟩

/-! ### Sorted -/
def ltS (x y : Sm) : Bool := decide (cmpL x.l y.l < 0)
def sortL (D : List Sm) : List Sm := D.mergeSort fun x y => !ltS y x
theorem sortL_len (D : List Sm) : (sortL D).length = D.length := by simp [sortL]
theorem ltS_swo : Sort.SWO (ltOf fun x y : Sm => cmpL x.l y.l) where
  irrefl x := by
    show decide (cmpL x.l x.l < 0) = false
    rw [(cmpL_eq x.l x.l).2 rfl]
    rfl
  trans x y z h1 h2 := by
    unfold ltOf at *
    simp only [decide_eq_true_eq] at *
    exact (cmpL_trans x.l y.l z.l (by omega) (by omega)).2 (.inl h1)
  ntrans x y z h1 h2 := by
    unfold ltOf at *
    simp only [decide_eq_false_iff_not] at *
    have s1 := cmpL_swap x.l y.l
    have s2 := cmpL_swap y.l z.l
    have s3 := cmpL_swap x.l z.l
    have := (cmpL_trans z.l y.l x.l (by omega) (by omega)).1
    omega
theorem flatK_flat (D : List Sm) : Sort.flatK Sm.enc 32 D.toArray = (flat D).toArray := by
  refine Sort.ext_get! (by simp [flat_len]) fun t ht => ?_
  have ht' : t < D.length * 32 := by simpa using ht
  have hq : t / 32 < D.length := by omega
  rw [Sort.get_flatK _ _ _ _ (by simpa using ht')]
  have e1 : D.toArray[t / 32]! = D.getD (t / 32) default := by simp [List.getD, hq]
  have hfl := flat_at D hq
  have hg : (flat D)[t]? = (D.getD (t / 32) default).enc[t % 32]? := by
    have h1 : ((flat D).drop (t / 32 * 32))[t % 32]? = (flat D)[t]? := by rw [List.getElem?_drop]; congr 1; omega
    rw [← h1, hfl, List.getElem?_append_left (by rw [enc_len]; omega)]
  rw [e1]
  have h2 : t % 32 < (D.getD (t / 32) default).enc.length := by rw [enc_len]; omega
  have h3 : t < (flat D).length := by rw [flat_len]; exact ht'
  rw [getElem!_pos (D.getD (t / 32) default).enc (t % 32) h2]
  rw [getElem!_pos (flat D).toArray t (by simpa using h3)]
  rw [List.getElem?_eq_getElem h3, List.getElem?_eq_getElem h2] at hg
  injection hg with hg
  simpa using hg.symm
theorem holds_seg {w : World} {e : TypeId} {g off cap : Nat} {D : List Sm} (h : SegL w e 32 g off D.length cap (flat D)) : Sort.HoldsK Sm.enc 32 w g off D.toArray := by
  obtain ⟨hl, hn, hm, cs, hb, hs, hx⟩ := h
  unfold Sort.HoldsK
  rw [flatK_flat]
  intro j hj
  have hj' : j < (flat D).length := by simpa using hj
  have hj2 : j < D.length * 32 := by rw [← flat_len]; exact hj'
  refine ⟨?_, hb.frozen _⟩
  rw [hb.cell, hx j hj2, List.getElem?_eq_getElem hj', getElem!_pos (flat D).toArray j hj]
  simp
theorem seg_sorted {w : World} {e : TypeId} {g off cap n : Nat} {D : List Sm} (D' : List Sm) (os : Array Obj) (h : SegL w e 32 g off D.length cap (flat D)) (hl' : D'.length = D.length) :
    SegL (sortWorldK Sm.enc 32 w g off n D'.toArray os) e 32 g off D.length cap (flat D') ∧ Keeps [g] w (sortWorldK Sm.enc 32 w g off n D'.toArray os) := by
  obtain ⟨hl, hn, hm, cs, hb, hs, hx⟩ := h
  have hle : D.length * 32 ≤ cap * 32 := Nat.mul_le_mul_right _ hn
  unfold sortWorldK Sort.putRowK
  rw [flatK_flat]
  have hfl : (flat D').length = D.length * 32 := by rw [flat_len, hl']
  have hsz : ∀ W : World, (Sort.putRow id W g off (flat D').toArray).heap.size = W.heap.size := fun W => Sort.size_putRow id W g off _
  have hblk : (Sort.grow (Sort.putRow id (Sort.ahead w n) g off (flat D').toArray) os).heap[g]? = some (.cells (Sort.putCells id off (flat D').toArray cs) e (0, 0)) := by
    have hgl : g < (Sort.putRow id (Sort.ahead w n) g off (flat D').toArray).heap.size := by rw [hsz]; exact hb.lt
    unfold Sort.grow
    simp only []
    rw [Array.getElem?_append_left hgl]
    unfold Sort.putRow Sort.mapBlock
    simp only [Array.getElem?_modify, if_true]
    have : (Sort.ahead w n).heap[g]? = w.heap[g]? := rfl
    rw [this]
    unfold Blk at hb
    rw [hb]
    rfl
  refine ⟨⟨hfl, hn, hm, _, hblk, by simpa [Sort.putCells] using hs, fun j hj => ?_⟩, ⟨rfl, rfl, rfl, ?_, fun k hk hne => ?_⟩⟩
  · unfold Sort.putCells
    have hoj : off + j < cs.size := by omega
    rw [Array.getElem?_mapIdx, Array.getElem?_eq_getElem hoj]
    simp only [Option.map_some]
    have hjf : j < (flat D').length := by omega
    rw [if_pos (by simp; omega), show off + j - off = j by omega, getElem!_pos (flat D').toArray j (by simpa using hjf), List.getElem?_eq_getElem hjf]
    simp
  · show w.heap.size ≤ ((Sort.putRow id (Sort.ahead w n) g off (flat D').toArray).heap ++ os).size
    rw [Array.size_append, hsz]
    exact Nat.le_add_right _ _
  · show ((Sort.putRow id (Sort.ahead w n) g off (flat D').toArray).heap ++ os)[k]? = w.heap[k]?
    rw [Array.getElem?_append_left (by rw [hsz]; exact hk)]
    unfold Sort.putRow Sort.mapBlock
    simp only [Array.getElem?_modify]
    rw [if_neg (fun h => hne (by simp [h]))]
    rfl
theorem sort_any (D : List Sm) (w : World) (g off cap : Nat) (hs : SegL w 34 32 g off D.length cap (flat D)) (hD : D.length ≤ 1000000) :
    Calls Try.prog 65 #[.slice (some ⟨g, off, none⟩) D.length cap, .func (.func 66) #[] #[]] w fun e w' => ∃ u, e = .returned u ∧ SegL w' 34 32 g off D.length cap (flat (sortL D)) ∧ Keeps [g] w w' := by
  have h := AnyQ.slices_SortFunc_total laysSortS 32 Try.isAgg34 Try.sizeOf34 Sm.enc enc_len (fun x v hv => enc_one x v hv) (fun x y : Sm => cmpL x.l y.l) ltS_swo 66 #[] g off cap D.toArray w (fun args w => by kernel_rfl)
    (fun _ _ _ _ x y => cmpW x y _) (holds_seg hs) hs.lt (by simp; omega) (fun x y h1 h2 => by
      unfold ltOf at h1 h2
      simp only [decide_eq_false_iff_not] at h1 h2
      have h3 := cmpL_swap x.l y.l
      exact Sm.ext_l ((cmpL_eq x.l y.l).1 (by omega)))
  refine Calls.mono h fun e w' ⟨he, n, os, hw⟩ => ⟨_, he, ?_⟩
  subst hw
  exact seg_sorted (sortL D) os hs (sortL_len D)
theorem sort_none (w : World) : Calls Try.prog 65 #[.slice none 0 0, .func (.func 66) #[] #[]] w fun e w' => ∃ u, e = .returned u ∧ w' = w :=
  Calls.mono (AnyF.slices_SortFunc_none laysSortS none 0 (.func (.func 66) #[] #[]) w) fun _ _ ⟨h1, h2⟩ => ⟨_, h1, h2⟩
end Go.Proofs.Ytmlbkcpmgcjblaa

/- Layer 10: the walks of Compact, Of. -/
namespace Go.Proofs.Ytmlbkcpmgcjblaa
open Go.RowKit

/-- The first m, of alike neighbours only the first. -/
def ddL (D : List Sm) : Nat → List Sm
  | 0 => []
  | m + 1 => if m = 0 ∨ ¬ D.getD m default = D.getD (m - 1) default then ddL D m ++ [D.getD m default] else ddL D m
theorem ddL_le (D : List Sm) : ∀ m, (ddL D m).length ≤ m
  | 0 => Nat.le_refl _
  | m + 1 => by
    have := ddL_le D m
    unfold ddL
    split
    · simp; omega
    · omega
theorem ddL_new {D : List Sm} {m : Nat} (h : m = 0 ∨ ¬ D.getD m default = D.getD (m - 1) default) : ddL D (m + 1) = ddL D m ++ [D.getD m default] := by
  rw [ddL, if_pos h]
theorem ddL_old {D : List Sm} {m : Nat} (h0 : m ≠ 0) (h : D.getD m default = D.getD (m - 1) default) : ddL D (m + 1) = ddL D m := by
  rw [ddL, if_neg (by rintro (h1 | h1); exact h0 h1; exact h1 h)]
theorem take_snoc' (D : List Sm) {m : Nat} (h : m < D.length) : D.take (m + 1) = D.take m ++ [D.getD m default] := by
  rw [List.take_succ_eq_append_getElem h]
  simp [List.getD, List.getElem?_eq_getElem h]
theorem getD_set (D : List Sm) {i j : Nat} (x : Sm) (hi : i < D.length) : (D.set i x).getD j default = if i = j then x else D.getD j default := by
  simp only [List.getD, List.getElem?_set]
  by_cases h : i = j
  · subst h; simp [hi]
  · simp [h]
theorem getD_drop (D : List Sm) (k j : Nat) : (D.drop k).getD j default = D.getD (k + j) default := by
  simp [List.getD, List.getElem?_drop]

set_option maxRecDepth 100000 in
set_option maxHeartbeats 2000000 in
theorem compact_any (D : List Sm) (w : World) (g off cap : Nat) (hs0 : SegL w 34 32 g off D.length cap (flat D)) (hD : D.length ≤ 1000000) :
    Calls Try.prog 67 #[.slice (some ⟨g, off, none⟩) D.length cap] w fun e w' => ∃ k, e = .returned (.slice (some ⟨g, off, none⟩) k cap) ∧ k = (ddL D D.length).length ∧ SegL w' 34 32 g off k cap (flat (ddL D D.length)) ∧ Keeps [g] w w' := by
  have hcap : D.length ≤ cap := hs0.2.1
  refine enter_ty 61 [Ty.ex (.slice (some ⟨g, off, none⟩) D.length cap)] Try.func67 rfl (by kernel_rfl) ⟨rfl, trivial⟩ fun a hF => ?_
  have hB := Below.refl w.heap.size w
  repeat with_reducible first | refine wp_seq ?_ | refine nThen ?_ | refine nBlk ?_ | refine wp_skip ?_ | refine wp_block ?_ | refine wp_exit ?_ | refine xThen ?_ | refine xHere ?_ | refine wp_ret ?_ | refine rThen ?_ | refine rBlk ?_
  refine' reg_all hF ?_ mixed (by kernel_rfl) ?_
  rotate_left
  · repeat (first
        | exact Line.nil
        | ((refine' Line.cons rfl (.run rfl rfl ?_) ?_)
           any_goals (first | exact cMove rfl rfl | exact cAssign rfl rfl | exact cLss rfl rfl rfl)
           rotate_left))
  intro a w1 hF hb hN
  have hBs := hB.size
  replace hB := hB.trans (hb.mono hB.size)
  dsimp only [ext, Option.getD] at hF
  repeat with_reducible first | refine wp_seq ?_ | refine nThen ?_ | refine nBlk ?_ | refine wp_skip ?_ | refine wp_block ?_ | refine wp_exit ?_ | refine xThen ?_ | refine xHere ?_ | refine wp_ret ?_ | refine rThen ?_ | refine rBlk ?_
  refine' reg_all hF ?_ mixed (by kernel_rfl) ?_
  rotate_left
  · repeat (first
        | exact Line.nil
        | ((refine' Line.cons rfl (.run rfl rfl ?_) ?_)
           any_goals (first | exact cLenEx rfl rfl Try.underlying24 | exact cMove rfl rfl | exact cAssign rfl rfl | exact cLss rfl rfl rfl)
           rotate_left))
  intro a w2 hF hb hN
  have hBs := hB.size
  replace hB := hB.trans (hb.mono hB.size)
  dsimp only [ext, Option.getD] at hF
  repeat with_reducible first | refine wp_seq ?_ | refine nThen ?_ | refine nBlk ?_ | refine wp_skip ?_ | refine wp_block ?_ | refine wp_exit ?_ | refine xThen ?_ | refine xHere ?_ | refine wp_ret ?_ | refine rThen ?_ | refine rBlk ?_
  refine cond_ty hF rfl (fun h0 => ?_) (fun h1 => ?_)
  · have h0 := of_decide_eq_true h0
    have hdd : ddL D D.length = D := by
      match D, h0 with
      | [], _ => rfl
      | [x], _ => simp [ddL]
      | x :: y :: r, h => simp at h; omega
    repeat with_reducible first | refine wp_seq ?_ | refine nThen ?_ | refine nBlk ?_ | refine wp_skip ?_ | refine wp_block ?_ | refine wp_exit ?_ | refine xThen ?_ | refine xHere ?_ | refine wp_ret ?_ | refine rThen ?_ | refine rBlk ?_
    refine' reg_all hF ?_ mixed (by kernel_rfl) ?_
    rotate_left
    · repeat (first
          | exact Line.nil
          | ((refine' Line.cons rfl (.run rfl rfl ?_) ?_)
             any_goals (first | exact cMove rfl rfl | exact cAssign rfl rfl | exact cLss rfl rfl rfl)
             rotate_left))
    intro a w3 hF hb hN
    have hBs := hB.size
    replace hB := hB.trans (hb.mono hB.size)
    dsimp only [ext, Option.getD] at hF
    repeat with_reducible first | refine wp_seq ?_ | refine nThen ?_ | refine nBlk ?_ | refine wp_skip ?_ | refine wp_block ?_ | refine wp_exit ?_ | refine xThen ?_ | refine xHere ?_ | refine wp_ret ?_ | refine rThen ?_ | refine rBlk ?_
    refine ret1 hF rfl rfl fun z hz => ?_
    have hz : z = .slice (some ⟨g, off, none⟩) D.length cap := hz
    subst hz
    rw [hdd]
    exact ⟨D.length, rfl, rfl, hs0.below hB, Keeps.of_below hB⟩
  have h1 := of_decide_eq_false h1
  repeat with_reducible first | refine wp_seq ?_ | refine nThen ?_ | refine nBlk ?_ | refine wp_skip ?_ | refine wp_block ?_ | refine wp_exit ?_ | refine xThen ?_ | refine xHere ?_ | refine wp_ret ?_ | refine rThen ?_ | refine rBlk ?_
  refine' reg_all hF ?_ mixed (by kernel_rfl) ?_
  rotate_left
  · repeat (first
        | exact Line.nil
        | ((refine' Line.cons rfl (.run rfl rfl ?_) ?_)
           any_goals (first | exact cMove rfl rfl | exact cAssign rfl rfl | exact cLss rfl rfl rfl)
           rotate_left))
  intro a w3 hF hb hN
  have hBs := hB.size
  replace hB := hB.trans (hb.mono hB.size)
  dsimp only [ext, Option.getD] at hF
  repeat with_reducible first | refine wp_seq ?_ | refine nThen ?_ | refine nBlk ?_ | refine wp_skip ?_ | refine wp_block ?_ | refine wp_exit ?_ | refine xThen ?_ | refine xHere ?_ | refine wp_ret ?_ | refine rThen ?_ | refine rBlk ?_
  refine loop_ty (fun m a wr => ∃ k : Nat, k + m = D.length ∧ 1 ≤ k ∧ Fr 61 [(0, Ty.ex (.slice (some ⟨g, off, none⟩) D.length cap)), (3, Ty.ex (.int .i64 (k : Int)))] a wr ∧ Below w.heap.size w wr ∧ ddL D k = D.take k) (D.length - 1) ?_ ?_
  · refine ⟨1, by omega, Nat.le_refl _, hF.keep [0, 3], hB, ?_⟩
    rw [ddL_new (.inl rfl), take_snoc' D (by omega)]
    rfl
  clear hF hB
  rintro m a wr ⟨k, hk, hk1, hF, hB, hdd⟩
  repeat with_reducible first | refine wp_seq ?_ | refine nThen ?_ | refine nBlk ?_ | refine wp_skip ?_ | refine wp_block ?_ | refine wp_exit ?_ | refine xThen ?_ | refine xHere ?_ | refine wp_ret ?_ | refine rThen ?_ | refine rBlk ?_
  refine' reg_all hF ?_ mixed (by kernel_rfl) ?_
  rotate_left
  · repeat (first
        | exact Line.nil
        | ((refine' Line.cons rfl (.run rfl rfl ?_) ?_)
           any_goals (first | exact cLenEx rfl rfl Try.underlying24 | exact cMove rfl rfl | exact cAssign rfl rfl | exact cLss rfl rfl rfl)
           rotate_left))
  intro a w4 hF hb hN
  have hBs := hB.size
  replace hB := hB.trans (hb.mono hB.size)
  dsimp only [ext, Option.getD] at hF
  repeat with_reducible first | refine wp_seq ?_ | refine nThen ?_ | refine nBlk ?_ | refine wp_skip ?_ | refine wp_block ?_ | refine wp_exit ?_ | refine xThen ?_ | refine xHere ?_ | refine wp_ret ?_ | refine rThen ?_ | refine rBlk ?_
  refine cond_ty hF rfl (fun hlt => ?_) (fun hge => ?_)
  rotate_left
  · have hge : ¬ k < D.length := by simpa using hge
    obtain rfl : k = D.length := by omega
    rw [List.take_length] at hdd
    repeat with_reducible first | refine wp_seq ?_ | refine nThen ?_ | refine nBlk ?_ | refine wp_skip ?_ | refine wp_block ?_ | refine wp_exit ?_ | refine xThen ?_ | refine xHere ?_ | refine wp_ret ?_ | refine rThen ?_ | refine rBlk ?_
    refine' reg_all hF ?_ mixed (by kernel_rfl) ?_
    rotate_left
    · repeat (first
          | exact Line.nil
          | ((refine' Line.cons rfl (.run rfl rfl ?_) ?_)
             any_goals (first | exact cMove rfl rfl | exact cAssign rfl rfl | exact cLss rfl rfl rfl)
             rotate_left))
    intro a w5 hF hb hN
    have hBs := hB.size
    replace hB := hB.trans (hb.mono hB.size)
    dsimp only [ext, Option.getD] at hF
    repeat with_reducible first | refine wp_seq ?_ | refine nThen ?_ | refine nBlk ?_ | refine wp_skip ?_ | refine wp_block ?_ | refine wp_exit ?_ | refine xThen ?_ | refine xHere ?_ | refine wp_ret ?_ | refine rThen ?_ | refine rBlk ?_
    refine ret1 hF rfl rfl fun z hz => ?_
    have hz : z = .slice (some ⟨g, off, none⟩) D.length cap := hz
    subst hz
    rw [hdd]
    exact ⟨D.length, rfl, rfl, hs0.below hB, Keeps.of_below hB⟩
  have hlt : k < D.length := by simpa using hlt
  have hsl : (Ty.sums 34 D).p w4 (.slice (some ⟨g, off, none⟩) D.length cap) := (hs0.below hB).sl
  repeat with_reducible first | refine wp_seq ?_ | refine nThen ?_ | refine nBlk ?_ | refine wp_skip ?_ | refine wp_block ?_ | refine wp_exit ?_ | refine xThen ?_ | refine xHere ?_ | refine wp_ret ?_ | refine rThen ?_ | refine rBlk ?_
  refine' reg_all hF ?_ mixed (by kernel_rfl) ?_
  rotate_left
  · repeat (first
        | exact Line.nil
        | ((refine' Line.cons rfl (.run rfl rfl ?_) ?_)
           any_goals (first | exact cSub (r := ((k - 1 : Nat) : Int)) rfl rfl rfl (by omega) | exact cIndexSum (k := k - 1) rfl (.l rfl hsl) rfl Try.underlying24 sizeS (by omega) | exact cIndexSum (k := k) rfl (.l rfl hsl) rfl Try.underlying24 sizeS hlt | exact cLoadSum rfl (.t rfl) Try.underlying34 sizeS | exact cEqlAgg rfl rfl rfl guardS (eqlS _ _) | exact cMove rfl rfl | exact cAssign rfl rfl | exact cLss rfl rfl rfl)
           rotate_left))
  intro a w5 hF hb hN
  have hBs := hB.size
  replace hB := hB.trans (hb.mono hB.size)
  dsimp only [ext, Option.getD] at hF
  repeat with_reducible first | refine wp_seq ?_ | refine nThen ?_ | refine nBlk ?_ | refine wp_skip ?_ | refine wp_block ?_ | refine wp_exit ?_ | refine xThen ?_ | refine xHere ?_ | refine wp_ret ?_ | refine rThen ?_ | refine rBlk ?_
  refine cond_ty hF rfl (fun hdup => ?_) (fun hnew => ?_)
  rotate_left
  · have hnew : ¬ D.getD k default = D.getD (k - 1) default := by simpa using hnew
    repeat with_reducible first | refine wp_seq ?_ | refine nThen ?_ | refine nBlk ?_ | refine wp_skip ?_ | refine wp_block ?_ | refine wp_exit ?_ | refine xThen ?_ | refine xHere ?_ | refine wp_ret ?_ | refine rThen ?_ | refine rBlk ?_
    refine' reg_all hF ?_ mixed (by kernel_rfl) ?_
    rotate_left
    · repeat (first
          | exact Line.nil
          | ((refine' Line.cons rfl (.run rfl rfl ?_) ?_)
             any_goals (first | exact cAdd (r := ((k + 1 : Nat) : Int)) rfl rfl rfl (by omega) | exact cMove rfl rfl | exact cAssign rfl rfl | exact cLss rfl rfl rfl)
             rotate_left))
    intro a w6 hF hb hN
    have hBs := hB.size
    replace hB := hB.trans (hb.mono hB.size)
    dsimp only [ext, Option.getD] at hF
    repeat with_reducible first | refine wp_seq ?_ | refine nThen ?_ | refine nBlk ?_ | refine wp_skip ?_ | refine wp_block ?_ | refine wp_exit ?_ | refine xThen ?_ | refine xHere ?_ | refine wp_ret ?_ | refine rThen ?_ | refine rBlk ?_
    refine ⟨m - 1, by omega, k + 1, by omega, by omega, hF.keep [0, 3], hB, ?_⟩
    rw [ddL_new (.inr hnew), hdd, take_snoc' D hlt]
  have hdup : D.getD k default = D.getD (k - 1) default := by simpa using hdup
  repeat with_reducible first | refine wp_seq ?_ | refine nThen ?_ | refine nBlk ?_ | refine wp_skip ?_ | refine wp_block ?_ | refine wp_exit ?_ | refine xThen ?_ | refine xHere ?_ | refine wp_ret ?_ | refine rThen ?_ | refine rBlk ?_
  refine' reg_all hF ?_ mixed (by kernel_rfl) ?_
  rotate_left
  · repeat (first
        | exact Line.nil
        | ((refine' Line.cons rfl (.run rfl rfl ?_) ?_)
           any_goals (first | exact cSliceLoEx rfl rfl rfl Try.underlying24 sizeS hlt hcap | exact cMove rfl rfl | exact cAssign rfl rfl | exact cLss rfl rfl rfl)
           rotate_left))
  intro a w6 hF hb hN
  have hBs := hB.size
  replace hB := hB.trans (hb.mono hB.size)
  dsimp only [ext, Option.getD] at hF
  repeat with_reducible first | refine wp_seq ?_ | refine nThen ?_ | refine nBlk ?_ | refine wp_skip ?_ | refine wp_block ?_ | refine wp_exit ?_ | refine xThen ?_ | refine xHere ?_ | refine wp_ret ?_ | refine rThen ?_ | refine rBlk ?_
  refine' reg_all hF ?_ mixed (by kernel_rfl) ?_
  rotate_left
  · repeat (first
        | exact Line.nil
        | ((refine' Line.cons rfl (.run rfl rfl ?_) ?_)
           any_goals (first | exact cMove rfl rfl | exact cAssign rfl rfl | exact cLss rfl rfl rfl)
           rotate_left))
  intro a w7 hF hb hN
  have hBs := hB.size
  replace hB := hB.trans (hb.mono hB.size)
  dsimp only [ext, Option.getD] at hF
  repeat with_reducible first | refine wp_seq ?_ | refine nThen ?_ | refine nBlk ?_ | refine wp_skip ?_ | refine wp_block ?_ | refine wp_exit ?_ | refine xThen ?_ | refine xHere ?_ | refine wp_ret ?_ | refine rThen ?_ | refine rBlk ?_
  refine loop_ty (fun m a wr => ∃ (q j : Nat) (E : List Sm), k + q + m = D.length ∧ 1 ≤ q ∧ E.length = D.length ∧ j = (ddL D (k + q)).length ∧ j ≤ k + q - 1 ∧ E.take j = ddL D (k + q) ∧ (∀ i, k + q - 1 ≤ i → E.getD i default = D.getD i default) ∧
      Fr 61 [(0, Ty.ex (.slice (some ⟨g, off, none⟩) D.length cap)), (4, Ty.ex (.slice (some ⟨g, off + k * 32, none⟩) (D.length - k) (cap - k))), (3, Ty.ex (.int .i64 (j : Int))), (5, Ty.ex (.int .i64 (q : Int)))] a wr ∧ SegL wr 34 32 g off D.length cap (flat E) ∧ Keeps [g] w wr) (D.length - (k + 1)) ?_ ?_
  · refine ⟨1, k, D, by omega, Nat.le_refl _, rfl, ?_, by omega, ?_, fun i _ => rfl, hF.keep [0, 4, 3, 5], hs0.below hB, Keeps.of_below hB⟩
    · rw [ddL_old (by omega) hdup, hdd]; simp; omega
    · rw [ddL_old (by omega) hdup, hdd]
  clear hF hB hsl hs0
  rintro m a wr ⟨q, j, E, hq, hq1, hE, hj, hjle, hjt, hsame, hF, hseg, hKw⟩
  have hB := Below.refl wr.heap.size wr
  have hs2 : (Ty.sums 34 (E.drop k)).p wr (.slice (some ⟨g, off + k * 32, none⟩) (D.length - k) (cap - k)) := by
    have h := hseg.drop_sl (k := k) (by omega)
    rw [flat_drop] at h
    show SlP _ _ _ (E.drop k).length _
    rw [List.length_drop, hE]
    exact h
  repeat with_reducible first | refine wp_seq ?_ | refine nThen ?_ | refine nBlk ?_ | refine wp_skip ?_ | refine wp_block ?_ | refine wp_exit ?_ | refine xThen ?_ | refine xHere ?_ | refine wp_ret ?_ | refine rThen ?_ | refine rBlk ?_
  refine' reg_all hF ?_ mixed (by kernel_rfl) ?_
  rotate_left
  · repeat (first
        | exact Line.nil
        | ((refine' Line.cons rfl (.run rfl rfl ?_) ?_)
           any_goals (first | exact cLenEx rfl rfl Try.underlying24 | exact cMove rfl rfl | exact cAssign rfl rfl | exact cLss rfl rfl rfl)
           rotate_left))
  intro a w8 hF hb hN
  have hBs := hB.size
  replace hB := hB.trans (hb.mono hB.size)
  dsimp only [ext, Option.getD] at hF
  repeat with_reducible first | refine wp_seq ?_ | refine nThen ?_ | refine nBlk ?_ | refine wp_skip ?_ | refine wp_block ?_ | refine wp_exit ?_ | refine xThen ?_ | refine xHere ?_ | refine wp_ret ?_ | refine rThen ?_ | refine rBlk ?_
  refine cond_ty hF rfl (fun hlt2 => ?_) (fun hge2 => ?_)
  rotate_left
  · have hge2 : ¬ q < D.length - k := by simpa using hge2
    have hend : k + q = D.length := by omega
    rw [hend] at hj hjt
    have hjn : j < D.length := by omega
    repeat with_reducible first | refine wp_seq ?_ | refine nThen ?_ | refine nBlk ?_ | refine wp_skip ?_ | refine wp_block ?_ | refine wp_exit ?_ | refine xThen ?_ | refine xHere ?_ | refine wp_ret ?_ | refine rThen ?_ | refine rBlk ?_
    refine' region_ty 3 mixed (by kernel_rfl) hF ?_ ?_
    rotate_left
    · simp only [List.take_succ_cons, List.take_zero]
      repeat (first
          | exact Line.nil
          | ((refine' Line.cons rfl (.run rfl rfl ?_) ?_)
             any_goals (first | exact cSliceLoEx rfl rfl rfl Try.underlying24 sizeS hjn hcap | exact cMove rfl rfl | exact cAssign rfl rfl | exact cLss rfl rfl rfl)
             rotate_left))
    intro a w9 hF hb hN
    have hBs := hB.size
    replace hB := hB.trans (hb.mono hB.size)
    simp only [List.take_succ_cons, List.take_zero, List.drop_succ_cons, List.drop_zero] at hF hN ⊢
    dsimp only [ext, Option.getD] at hF
    refine tlClear (Δ := [(0, Ty.ex (.slice (some ⟨g, off, none⟩) D.length cap)), (3, Ty.ex (.int .i64 (j : Int)))]) (k := j) hF rfl rfl rfl rfl Try.underlying24 infoS zero32_size zeroS_one (hseg.below hB) (by omega) (hF.keep [0, 3]) rfl ?_
    intro w10 zs hzl hF hseg2 hk2
    refine wpList_nil ?_
    repeat with_reducible first | refine wp_seq ?_ | refine nThen ?_ | refine nBlk ?_ | refine wp_skip ?_ | refine wp_block ?_ | refine wp_exit ?_ | refine xThen ?_ | refine xHere ?_ | refine wp_ret ?_ | refine rThen ?_ | refine rBlk ?_
    replace hKw : Keeps [g] w w10 := (hKw.trans (Keeps.of_below hB)).trans hk2
    have hB := Below.refl w10.heap.size w10
    refine' reg_all hF ?_ mixed (by kernel_rfl) ?_
    rotate_left
    · repeat (first
          | exact Line.nil
          | ((refine' Line.cons rfl (.run rfl rfl ?_) ?_)
             any_goals (first | exact cSliceHiEx rfl rfl rfl Try.underlying24 sizeS (by omega) | exact cMove rfl rfl | exact cAssign rfl rfl | exact cLss rfl rfl rfl)
             rotate_left))
    intro a w11 hF hb hN
    have hBs := hB.size
    replace hB := hB.trans (hb.mono hB.size)
    dsimp only [ext, Option.getD] at hF
    repeat with_reducible first | refine wp_seq ?_ | refine nThen ?_ | refine nBlk ?_ | refine wp_skip ?_ | refine wp_block ?_ | refine wp_exit ?_ | refine xThen ?_ | refine xHere ?_ | refine wp_ret ?_ | refine rThen ?_ | refine rBlk ?_
    refine ret1 hF rfl rfl fun z hz => ?_
    have hz : z = .slice (some ⟨g, off, none⟩) j cap := hz
    subst hz
    refine ⟨j, rfl, hj, ?_, hKw.trans (Keeps.of_below hB)⟩
    have h5 := (hseg2.below hB).take (k := j) (by omega)
    have h6 : (over (flat E) (j * 32) zs).take (j * 32) = flat (ddL D D.length) := by
      unfold over
      rw [List.append_assoc, List.take_append_of_le_length (by rw [List.length_take, flat_len]; omega), List.take_take, Nat.min_self, flat_take, hjt]
    rwa [h6] at h5
  have hlt2 : q < D.length - k := by simpa using hlt2
  have hs2' := (Ty.sums 34 (E.drop k)).below hs2 hB
  have e1 : (E.drop k).getD q default = D.getD (k + q) default := by rw [getD_drop]; exact hsame _ (by omega)
  have e2 : (E.drop k).getD (q - 1) default = D.getD (k + q - 1) default := by rw [getD_drop, show k + (q - 1) = k + q - 1 by omega]; exact hsame _ (by omega)
  repeat with_reducible first | refine wp_seq ?_ | refine nThen ?_ | refine nBlk ?_ | refine wp_skip ?_ | refine wp_block ?_ | refine wp_exit ?_ | refine xThen ?_ | refine xHere ?_ | refine wp_ret ?_ | refine rThen ?_ | refine rBlk ?_
  refine' reg_all hF ?_ mixed (by kernel_rfl) ?_
  rotate_left
  · repeat (first
        | exact Line.nil
        | ((refine' Line.cons rfl (.run rfl rfl ?_) ?_)
           any_goals (first | exact cSub (r := ((q - 1 : Nat) : Int)) rfl rfl rfl (by omega) | exact cIndexSum (k := q - 1) rfl (.l rfl hs2') rfl Try.underlying24 sizeS (by simp; omega) | exact cIndexSum (k := q) rfl (.l rfl hs2') rfl Try.underlying24 sizeS (by simp; omega) | exact cLoadSum rfl (.t rfl) Try.underlying34 sizeS | exact cNeqAgg rfl rfl rfl guardS (neqS _ _) | exact cMove rfl rfl | exact cAssign rfl rfl | exact cLss rfl rfl rfl)
           rotate_left))
  intro a w9 hF hb hN
  have hBs := hB.size
  replace hB := hB.trans (hb.mono hB.size)
  dsimp only [ext, Option.getD] at hF
  repeat with_reducible first | refine wp_seq ?_ | refine nThen ?_ | refine nBlk ?_ | refine wp_skip ?_ | refine wp_block ?_ | refine wp_exit ?_ | refine xThen ?_ | refine xHere ?_ | refine wp_ret ?_ | refine rThen ?_ | refine rBlk ?_
  rw [e1, e2] at hF
  refine cond_ty hF rfl (fun hnew => ?_) (fun hold => ?_)
  · have hnew : ¬ D.getD (k + q) default = D.getD (k + q - 1) default := by simpa using hnew
    have hs3 := (Ty.sums 34 (E.drop k)).below hs2 hB
    repeat with_reducible first | refine wp_seq ?_ | refine nThen ?_ | refine nBlk ?_ | refine wp_skip ?_ | refine wp_block ?_ | refine wp_exit ?_ | refine xThen ?_ | refine xHere ?_ | refine wp_ret ?_ | refine rThen ?_ | refine rBlk ?_
    refine' region_ty 7 mixed (by kernel_rfl) hF ?_ ?_
    rotate_left
    · simp only [List.take_succ_cons, List.take_zero]
      repeat (first
          | exact Line.nil
          | ((refine' Line.cons rfl (.run rfl rfl ?_) ?_)
             any_goals (first | exact cIndexSum (k := q) rfl (.l rfl hs3) rfl Try.underlying24 sizeS (by simp; omega) | exact cLoadSum rfl (.t rfl) Try.underlying34 sizeS | exact cIndexEx (k := j) rfl rfl rfl Try.underlying24 sizeS (by omega) | exact cMove rfl rfl | exact cAssign rfl rfl | exact cLss rfl rfl rfl)
             rotate_left))
    intro a w10 hF hb hN
    have hBs := hB.size
    replace hB := hB.trans (hb.mono hB.size)
    simp only [List.take_succ_cons, List.take_zero, List.drop_succ_cons, List.drop_zero] at hF hN ⊢
    dsimp only [ext, Option.getD] at hF
    rw [e1] at hF
    refine tlStoreAt (Δ := [(0, Ty.ex (.slice (some ⟨g, off, none⟩) D.length cap)), (4, Ty.ex (.slice (some ⟨g, off + k * 32, none⟩) (D.length - k) (cap - k))), (3, Ty.ex (.int .i64 (j : Int))), (5, Ty.ex (.int .i64 (q : Int)))]) (k := j * 32) hF rfl rfl rfl rfl rfl (hseg.below hB) (by rw [u8s_size, Sm.len]; omega) (by rw [u8s_size, Sm.len]; exact sizeS) (u8s_one _) (hF.keep [0, 4, 3, 5]) rfl ?_
    intro w11 hF hseg2 hk2
    refine wpList_nil ?_
    repeat with_reducible first | refine wp_seq ?_ | refine nThen ?_ | refine nBlk ?_ | refine wp_skip ?_ | refine wp_block ?_ | refine wp_exit ?_ | refine xThen ?_ | refine xHere ?_ | refine wp_ret ?_ | refine rThen ?_ | refine rBlk ?_
    replace hKw : Keeps [g] w w11 := (hKw.trans (Keeps.of_below hB)).trans hk2
    have hB := Below.refl w11.heap.size w11
    refine' reg_all hF ?_ mixed (by kernel_rfl) ?_
    rotate_left
    · repeat (first
          | exact Line.nil
          | ((refine' Line.cons rfl (.run rfl rfl ?_) ?_)
             any_goals (first | exact cAdd (r := ((j + 1 : Nat) : Int)) rfl rfl rfl (by omega) | exact cMove rfl rfl | exact cAssign rfl rfl | exact cLss rfl rfl rfl)
             rotate_left))
    intro a w12 hF hb hN
    have hBs := hB.size
    replace hB := hB.trans (hb.mono hB.size)
    dsimp only [ext, Option.getD] at hF
    repeat with_reducible first | refine wp_seq ?_ | refine nThen ?_ | refine nBlk ?_ | refine wp_skip ?_ | refine wp_block ?_ | refine wp_exit ?_ | refine xThen ?_ | refine xHere ?_ | refine wp_ret ?_ | refine rThen ?_ | refine rBlk ?_
    refine' reg_all hF ?_ mixed (by kernel_rfl) ?_
    rotate_left
    · repeat (first
          | exact Line.nil
          | ((refine' Line.cons rfl (.run rfl rfl ?_) ?_)
             any_goals (first | exact cAdd (r := ((q + 1 : Nat) : Int)) rfl rfl rfl (by omega) | exact cMove rfl rfl | exact cAssign rfl rfl | exact cLss rfl rfl rfl)
             rotate_left))
    intro a w13 hF hb hN
    have hBs := hB.size
    replace hB := hB.trans (hb.mono hB.size)
    dsimp only [ext, Option.getD] at hF
    repeat with_reducible first | refine wp_seq ?_ | refine nThen ?_ | refine nBlk ?_ | refine wp_skip ?_ | refine wp_block ?_ | refine wp_exit ?_ | refine xThen ?_ | refine xHere ?_ | refine wp_ret ?_ | refine rThen ?_ | refine rBlk ?_
    have h7 : over (flat E) (j * 32) (u8s (D.getD (k + q) default).l).toList = flat (E.set j (D.getD (k + q) default)) := by
      rw [u8s_list]
      exact over_flat E _ (by omega)
    rw [h7] at hseg2
    have hdd2 : ddL D (k + (q + 1)) = ddL D (k + q) ++ [D.getD (k + q) default] := ddL_new (.inr hnew)
    refine ⟨m - 1, by omega, q + 1, j + 1, E.set j (D.getD (k + q) default), by omega, by omega, by simp [hE], ?_, by omega, ?_, fun i hi => ?_, hF.keep [0, 4, 3, 5], hseg2.below hB, hKw.trans (Keeps.of_below hB)⟩
    · rw [hdd2, List.length_append, ← hj]; rfl
    · rw [hdd2, ← hjt, take_snoc' _ (by rw [List.length_set]; omega), getD_set E _ (by omega), if_pos rfl, List.take_set_of_le (Nat.le_refl _)]
    · rw [getD_set E _ (by omega), if_neg (by omega)]
      exact hsame i (by omega)
  · have hold : D.getD (k + q) default = D.getD (k + q - 1) default := by simpa using hold
    repeat with_reducible first | refine wp_seq ?_ | refine nThen ?_ | refine nBlk ?_ | refine wp_skip ?_ | refine wp_block ?_ | refine wp_exit ?_ | refine xThen ?_ | refine xHere ?_ | refine wp_ret ?_ | refine rThen ?_ | refine rBlk ?_
    refine' reg_all hF ?_ mixed (by kernel_rfl) ?_
    rotate_left
    · repeat (first
          | exact Line.nil
          | ((refine' Line.cons rfl (.run rfl rfl ?_) ?_)
             any_goals (first | exact cAdd (r := ((q + 1 : Nat) : Int)) rfl rfl rfl (by omega) | exact cMove rfl rfl | exact cAssign rfl rfl | exact cLss rfl rfl rfl)
             rotate_left))
    intro a w10 hF hb hN
    have hBs := hB.size
    replace hB := hB.trans (hb.mono hB.size)
    dsimp only [ext, Option.getD] at hF
    repeat with_reducible first | refine wp_seq ?_ | refine nThen ?_ | refine nBlk ?_ | refine wp_skip ?_ | refine wp_block ?_ | refine wp_exit ?_ | refine xThen ?_ | refine xHere ?_ | refine wp_ret ?_ | refine rThen ?_ | refine rBlk ?_
    have hdd2 : ddL D (k + (q + 1)) = ddL D (k + q) := ddL_old (m := k + q) (by omega) hold
    exact ⟨m - 1, by omega, q + 1, j, E, by omega, by omega, hE, by rw [hdd2]; exact hj, by omega, by rw [hdd2]; exact hjt, fun i hi => hsame i (by omega), hF.keep [0, 4, 3, 5], hseg.below hB, hKw.trans (Keeps.of_below hB)⟩

set_option maxRecDepth 100000 in
theorem compact_none (w : World) : Calls Try.prog 67 #[.slice none 0 0] w fun e w' => e = .returned (.slice none 0 0) ∧ Below w.heap.size w w' := by
  refine enter_ty 61 [Ty.ex (.slice none 0 0)] Try.func67 rfl (by kernel_rfl) ⟨rfl, trivial⟩ fun a hF => ?_
  have hB := Below.refl w.heap.size w
  repeat with_reducible first | refine wp_seq ?_ | refine nThen ?_ | refine wp_ret ?_ | refine rThen ?_
  refine' reg_all hF ?_ mixed (by kernel_rfl) ?_
  rotate_left
  · repeat (first
        | exact Line.nil
        | ((refine' Line.cons rfl (.run rfl rfl ?_) ?_)
           any_goals (first | exact cMove rfl rfl | exact cAssign rfl rfl | exact cLss rfl rfl rfl)
           rotate_left))
  intro a w1 hF hb hN
  have hBs := hB.size
  replace hB := hB.trans (hb.mono hB.size)
  dsimp only [ext, Option.getD] at hF
  repeat with_reducible first | refine wp_seq ?_ | refine nThen ?_ | refine wp_ret ?_ | refine rThen ?_
  refine' reg_all hF ?_ mixed (by kernel_rfl) ?_
  rotate_left
  · repeat (first
        | exact Line.nil
        | ((refine' Line.cons rfl (.run rfl rfl ?_) ?_)
           any_goals (first | exact cLenEx rfl rfl Try.underlying24 | exact cMove rfl rfl | exact cAssign rfl rfl | exact cLss rfl rfl rfl)
           rotate_left))
  intro a w2 hF hb hN
  have hBs := hB.size
  replace hB := hB.trans (hb.mono hB.size)
  dsimp only [ext, Option.getD] at hF
  repeat with_reducible first | refine wp_seq ?_ | refine nThen ?_ | refine wp_ret ?_ | refine rThen ?_
  refine cond_ty hF rfl (fun h0 => ?_) (fun h1 => ?_)
  · repeat with_reducible first | refine wp_seq ?_ | refine nThen ?_ | refine wp_ret ?_ | refine rThen ?_
    refine' reg_all hF ?_ mixed (by kernel_rfl) ?_
    rotate_left
    · repeat (first
          | exact Line.nil
          | ((refine' Line.cons rfl (.run rfl rfl ?_) ?_)
             any_goals (first | exact cMove rfl rfl | exact cAssign rfl rfl | exact cLss rfl rfl rfl)
             rotate_left))
    intro a w3 hF hb hN
    have hBs := hB.size
    replace hB := hB.trans (hb.mono hB.size)
    dsimp only [ext, Option.getD] at hF
    repeat with_reducible first | refine wp_seq ?_ | refine nThen ?_ | refine wp_ret ?_ | refine rThen ?_
    refine ret1 hF rfl rfl fun z hz => ?_
    have hz : z = .slice none 0 0 := hz
    subst hz
    exact ⟨rfl, hB⟩
  · exact absurd (of_decide_eq_false h1) (by decide)

/-- A set's row: sorted, each once. -/
def setL (D : List Sm) : List Sm := ddL (sortL D) D.length
theorem setL_len (D : List Sm) : (setL D).length ≤ D.length := ddL_le _ _
set_option maxRecDepth 100000 in
set_option maxHeartbeats 1000000 in
theorem of_ty (D : List Sm) (hD : D.length ≤ 1000000) : FnSeg1 Try.prog 19 (Ty.sums 34 D) 34 32 (setL D).length (flat (setL D)) := by
  refine ⟨fun args w => by kernel_rfl, fun w v hv => ?_⟩
  refine enter_ty 10 [Ty.sums 34 D] Try.func19 rfl (by kernel_rfl) ⟨hv, trivial⟩ fun a hF => ?_
  have hB := Below.refl w.heap.size w
  repeat with_reducible first | refine wp_seq ?_ | refine nThen ?_ | refine wp_ret ?_
  refine' reg_all hF ?_ mixed (by kernel_rfl) ?_
  rotate_left
  · repeat (first
        | exact Line.nil
        | ((refine' Line.cons rfl (.run rfl rfl ?_) ?_)
           any_goals (first | exact cMove rfl rfl | exact cAssign rfl rfl)
           rotate_left))
  intro a w1 hF hb hN
  have hBs := hB.size
  replace hB := hB.trans (hb.mono hB.size)
  dsimp only [ext, Option.getD] at hF
  repeat with_reducible first | refine wp_seq ?_ | refine nThen ?_ | refine wp_ret ?_
  refine' reg_all hF ?_ mixed (by kernel_rfl) ?_
  rotate_left
  · repeat (first
        | exact Line.nil
        | ((refine' Line.cons rfl (.run rfl rfl ?_) ?_)
           any_goals (first | exact cCallS1 rfl (.t rfl) (cloneS_ty D hD) | exact cMove rfl rfl | exact cAssign rfl rfl)
           rotate_left))
  intro a w2 hF hb hN
  have hBs := hB.size
  replace hB := hB.trans (hb.mono hB.size)
  dsimp only [ext, Option.getD] at hF
  repeat with_reducible first | refine wp_seq ?_ | refine nThen ?_ | refine wp_ret ?_
  obtain ⟨u, ⟨S, hseg, hS⟩, hF⟩ := hF.open (s := 3) rfl
  replace hS : ∀ y ∈ S, w.heap.size ≤ y := fun y hy => Nat.le_trans hBs (hS y hy)
  have hen : Enters Try.prog 65 := fun args w => by kernel_rfl
  have hec : Enters Try.prog 67 := fun args w => by kernel_rfl
  rcases hseg.cases with ⟨rfl, h0, h1, rfl⟩ | ⟨g, off, cap, rfl, rfl, hl⟩
  · have hD0 : D = [] := List.eq_nil_of_length_eq_zero h0
    subst hD0
    refine' region_ty 1 mixed (by kernel_rfl) hF ?_ ?_
    rotate_left
    · simp only [List.take_succ_cons, List.take_zero]
      repeat (first
          | exact Line.nil
          | ((refine' Line.cons rfl (.run rfl rfl ?_) ?_)
             any_goals (first | exact cMove rfl rfl | exact cAssign rfl rfl)
             rotate_left))
    intro a w3 hF hb hN
    have hBs := hB.size
    replace hB := hB.trans (hb.mono hB.size)
    simp only [List.take_succ_cons, List.take_zero, List.drop_succ_cons, List.drop_zero] at hF hN ⊢
    dsimp only [ext, Option.getD] at hF
    refine tlCall rfl rfl rfl (args := #[.slice none 0 0, .func (.func 66) #[] #[]]) ?_ hen (sort_none w3) ?_
    · simp only [List.map_toArray, List.map_cons, List.map_nil, hF.getEx (s := 6) rfl]
      rfl
    rintro z w4 rfl
    have hF := (hF.keep [3]).put (d := 7) (by decide) (Below.refl _ _) (V := Ty.ex z) rfl
    refine wpList_nil ?_
    repeat with_reducible first | refine wp_seq ?_ | refine nThen ?_ | refine wp_ret ?_
    refine' reg_all hF ?_ mixed (by kernel_rfl) ?_
    rotate_left
    · repeat (first
          | exact Line.nil
          | ((refine' Line.cons rfl (.run rfl rfl ?_) ?_)
             any_goals (first | exact cCallW1 rfl rfl hec (fun W x hb hx => by have hx : x = .slice none 0 0 := hx; subst hx; exact (compact_none W).mono fun _ _ ⟨a, b⟩ => ⟨_, a, rfl, b⟩) (ρ := Ty.ex (.slice none 0 0)) | exact cMove rfl rfl | exact cAssign rfl rfl)
             rotate_left))
    intro a w5 hF hb hN
    have hBs := hB.size
    replace hB := hB.trans (hb.mono hB.size)
    dsimp only [ext, Option.getD] at hF
    repeat with_reducible first | refine wp_seq ?_ | refine nThen ?_ | refine wp_ret ?_
    refine ret1 hF rfl rfl fun z hz => ?_
    have hz : z = .slice none 0 0 := hz
    subst hz
    exact ⟨_, rfl, ⟨[], Seg.nil _ _ _, by simp⟩, hB⟩
  · have hg : w.heap.size ≤ g := hS g (by simp)
    refine' region_ty 1 mixed (by kernel_rfl) hF ?_ ?_
    rotate_left
    · simp only [List.take_succ_cons, List.take_zero]
      repeat (first
          | exact Line.nil
          | ((refine' Line.cons rfl (.run rfl rfl ?_) ?_)
             any_goals (first | exact cMove rfl rfl | exact cAssign rfl rfl)
             rotate_left))
    intro a w3 hF hb hN
    have hBs := hB.size
    replace hB := hB.trans (hb.mono hB.size)
    simp only [List.take_succ_cons, List.take_zero, List.drop_succ_cons, List.drop_zero] at hF hN ⊢
    dsimp only [ext, Option.getD] at hF
    refine tlCall rfl rfl rfl (args := #[.slice (some ⟨g, off, none⟩) D.length cap, .func (.func 66) #[] #[]]) ?_ hen (sort_any D w3 g off cap (hl.below hb) hD) ?_
    · simp only [List.map_toArray, List.map_cons, List.map_nil, hF.getEx (s := 6) rfl]
      rfl
    rintro z w4 ⟨hl4, hk4⟩
    have hF := ((hF.keep [3]).free1 hk4 (hl.below hb) rfl).put (d := 7) (by decide) (Below.refl _ _) (V := Ty.ex z) rfl
    replace hB := below_own hB hk4 (by simpa using hg)
    refine wpList_nil ?_
    repeat with_reducible first | refine wp_seq ?_ | refine nThen ?_ | refine wp_ret ?_
    have hsl := sortL_len D
    refine' region_ty 1 mixed (by kernel_rfl) hF ?_ ?_
    rotate_left
    · simp only [List.take_succ_cons, List.take_zero]
      repeat (first
          | exact Line.nil
          | ((refine' Line.cons rfl (.run rfl rfl ?_) ?_)
             any_goals (first | exact cMove rfl rfl | exact cAssign rfl rfl)
             rotate_left))
    intro a w5 hF hb hN
    have hBs := hB.size
    replace hB := hB.trans (hb.mono hB.size)
    simp only [List.take_succ_cons, List.take_zero, List.drop_succ_cons, List.drop_zero] at hF hN ⊢
    dsimp only [ext, Option.getD] at hF
    refine tlCall rfl rfl rfl (args := #[.slice (some ⟨g, off, none⟩) D.length cap]) ?_ hec (R := fun u w' => u = .slice (some ⟨g, off, none⟩) (setL D).length cap ∧ SegL w' 34 32 g off (setL D).length cap (flat (setL D)) ∧ Keeps [g] w5 w') ?_ ?_
    · simp only [List.map_toArray, List.map_cons, List.map_nil, hF.getEx (s := 8) rfl]
    · have h := compact_any (sortL D) w5 g off cap (by rw [hsl]; exact hl4.below hb) (by omega)
      rw [hsl] at h
      refine h.mono fun e w' ⟨k, h1, h2, h3, h4⟩ => ?_
      subst h2
      exact ⟨_, h1, rfl, h3, h4⟩
    rintro z w6 ⟨rfl, hl6, hk6⟩
    have hF := ((hF.keep []).free1 hk6 (hl4.below hb) rfl).put (d := 9) (by decide) (Below.refl _ _) (V := Ty.ex (.slice (some ⟨g, off, none⟩) (setL D).length cap)) rfl
    replace hB := below_own hB hk6 (by simpa using hg)
    refine' tlOp hF rfl rfl rfl ?_ ?_
    rotate_left
    · first | exact cMove rfl rfl | exact cAssign rfl rfl
    intro a w7 hF hb
    have hBs := hB.size
    replace hB := hB.trans (hb.mono hB.size)
    try (refine wpList_nil ?_)
    repeat with_reducible first | refine wp_seq ?_ | refine nThen ?_ | refine wp_ret ?_
    refine ret1 hF rfl rfl fun z hz => ?_
    have hz : z = .slice (some ⟨g, off, none⟩) (setL D).length cap := hz
    subst hz
    exact ⟨_, rfl, ⟨[g], (hl6.below hb).seg, by simpa using hg⟩, hB⟩
end Go.Proofs.Ytmlbkcpmgcjblaa

/- Layer 10, plainly: a set's row is strictly rising, holds the same. -/
namespace Go.Proofs.Ytmlbkcpmgcjblaa
open Go.RowKit

def srt (L : List Sm) : Prop := L.Pairwise fun x y => cmpL x.l y.l < 0
theorem Sm.ext' {x y : Sm} (h : x.l = y.l) : x = y := by
  cases x; cases y; simp only at h; subst h; rfl
theorem cmp_self (x : Sm) : cmpL x.l x.l = 0 := (cmpL_eq _ _).2 rfl
theorem cmp_zero {x y : Sm} : cmpL x.l y.l = 0 ↔ x = y := ⟨fun h => Sm.ext' ((cmpL_eq _ _).1 h), fun h => by rw [h]; exact cmp_self y⟩
theorem cmp_lt_trans {x y z : Sm} (h1 : cmpL x.l y.l ≤ 0) (h2 : cmpL y.l z.l ≤ 0) (h : cmpL x.l y.l < 0 ∨ cmpL y.l z.l < 0) : cmpL x.l z.l < 0 := (cmpL_trans _ _ _ h1 h2).2 h
theorem sortL_le (D : List Sm) : (sortL D).Pairwise fun x y => cmpL x.l y.l ≤ 0 := by
  have h := List.pairwise_mergeSort (le := fun x y : Sm => !ltS y x) (fun a b c h1 h2 => by
    simp only [ltS, Bool.not_eq_true', decide_eq_false_iff_not] at *
    have s1 := cmpL_swap a.l b.l
    have s2 := cmpL_swap b.l c.l
    have s3 := cmpL_swap a.l c.l
    have := (cmpL_trans a.l b.l c.l (by omega) (by omega)).1
    omega) (fun a b => by
    simp only [ltS, Bool.or_eq_true, Bool.not_eq_true', decide_eq_false_iff_not] at *
    have s1 := cmpL_swap a.l b.l
    omega) D
  refine List.Pairwise.imp ?_ h
  intro x y h
  simp only [ltS, Bool.not_eq_true', decide_eq_false_iff_not] at h
  have s1 := cmpL_swap x.l y.l
  omega
theorem sortL_mem (D : List Sm) (x : Sm) : x ∈ sortL D ↔ x ∈ D := (List.mergeSort_perm D _).mem_iff
theorem le_get {D : List Sm} (h : D.Pairwise fun x y => cmpL x.l y.l ≤ 0) {i j : Nat} (hij : i < j) (hj : j < D.length) : cmpL (D.getD i default).l (D.getD j default).l ≤ 0 := by
  have h1 := List.pairwise_iff_getElem.1 h i j (by omega) hj hij
  simpa [List.getD, hj, show i < D.length by omega] using h1
theorem lt_get {D : List Sm} (h : srt D) {i j : Nat} (hij : i < j) (hj : j < D.length) : cmpL (D.getD i default).l (D.getD j default).l < 0 := by
  have h1 := List.pairwise_iff_getElem.1 h i j (by omega) hj hij
  simpa [List.getD, hj, show i < D.length by omega] using h1
theorem ddL_facts {D : List Sm} (h : D.Pairwise fun x y => cmpL x.l y.l ≤ 0) : ∀ m, m ≤ D.length → srt (ddL D m) ∧ ∀ x, x ∈ ddL D m ↔ ∃ j, j < m ∧ D.getD j default = x
  | 0, _ => ⟨List.Pairwise.nil, fun x => by simp [ddL]⟩
  | m + 1, hm => by
    obtain ⟨h1, h2⟩ := ddL_facts h m (by omega)
    by_cases hn : m = 0 ∨ ¬ D.getD m default = D.getD (m - 1) default
    · rw [ddL_new hn]
      constructor
      · refine List.pairwise_append.2 ⟨h1, List.pairwise_singleton _ _, fun x hx y hy => ?_⟩
        obtain ⟨j, hj, rfl⟩ := (h2 x).1 hx
        simp only [List.mem_singleton] at hy
        subst hy
        have hn : ¬ D.getD m default = D.getD (m - 1) default := hn.resolve_left (by omega)
        have a1 := le_get h (i := m - 1) (j := m) (by omega) (by omega)
        have a2 : ¬ cmpL (D.getD (m - 1) default).l (D.getD m default).l = 0 := fun e => hn (cmp_zero.1 e).symm
        by_cases hjm : j = m - 1
        · subst hjm; omega
        · exact cmp_lt_trans (le_get h (i := j) (j := m - 1) (by omega) (by omega)) a1 (.inr (by omega))
      · intro x
        rw [List.mem_append, h2, List.mem_singleton]
        constructor
        · rintro (⟨j, hj, rfl⟩ | rfl)
          · exact ⟨j, by omega, rfl⟩
          · exact ⟨m, by omega, rfl⟩
        · rintro ⟨j, hj, rfl⟩
          by_cases hjm : j = m
          · subst hjm; exact .inr rfl
          · exact .inl ⟨j, by omega, rfl⟩
    · have hn' : ¬ m = 0 ∧ D.getD m default = D.getD (m - 1) default := by
        refine ⟨fun e => hn (.inl e), Classical.byContradiction fun e => hn (.inr e)⟩
      rw [ddL_old hn'.1 hn'.2]
      refine ⟨h1, fun x => ?_⟩
      rw [h2]
      constructor
      · rintro ⟨j, hj, rfl⟩
        exact ⟨j, by omega, rfl⟩
      · rintro ⟨j, hj, rfl⟩
        by_cases hjm : j = m
        · subst hjm; exact ⟨j - 1, by omega, hn'.2.symm⟩
        · exact ⟨j, by omega, rfl⟩
theorem setL_srt (D : List Sm) : srt (setL D) := by
  have h := (ddL_facts (sortL_le D) D.length (by rw [sortL_len]; exact Nat.le_refl _)).1
  exact h
theorem setL_mem (D : List Sm) (x : Sm) : x ∈ setL D ↔ x ∈ D := by
  have h := (ddL_facts (sortL_le D) D.length (by rw [sortL_len]; exact Nat.le_refl _)).2 x
  refine h.trans ?_
  rw [← sortL_mem D x, mem_get, sortL_len]
theorem srt_nodup {L : List Sm} (h : srt L) : L.Nodup := List.Pairwise.imp (fun {a b} h e => by subst e; rw [cmp_self] at h; omega) h
theorem srt_ext : ∀ {L M : List Sm}, srt L → srt M → (∀ x, x ∈ L ↔ x ∈ M) → L = M
  | [], [], _, _, _ => rfl
  | [], y :: M, _, _, h => absurd ((h y).2 (by simp)) (by simp)
  | x :: L, [], _, _, h => absurd ((h x).1 (by simp)) (by simp)
  | x :: L, y :: M, hL, hM, h => by
    obtain ⟨a1, a2⟩ := List.pairwise_cons.1 hL
    obtain ⟨b1, b2⟩ := List.pairwise_cons.1 hM
    have hxy : x = y := by
      rcases List.mem_cons.1 ((h x).1 (by simp)) with e | e
      · exact e
      rcases List.mem_cons.1 ((h y).2 (by simp)) with e' | e'
      · exact e'.symm
      have c1 := b1 x e
      have c2 := a1 y e'
      have := cmpL_swap x.l y.l
      omega
    subst hxy
    congr 1
    refine srt_ext a2 b2 fun z => ?_
    have hz := h z
    simp only [List.mem_cons] at hz
    constructor
    · intro hz1
      rcases hz.1 (.inr hz1) with e | e
      · subst e; have := a1 z hz1; rw [cmp_self] at this; omega
      · exact e
    · intro hz1
      rcases hz.2 (.inr hz1) with e | e
      · subst e; have := b1 z hz1; rw [cmp_self] at this; omega
      · exact e
theorem goodL_srt {L : List Sm} (h : srt L) : goodL L = decide (L.length ≤ 512) := goodL_all fun k hk => lt_get h (by omega) hk
theorem setL_self {L : List Sm} (h : srt L) : setL L = L := srt_ext (setL_srt L) h (setL_mem L)
theorem srt_filter {L : List Sm} (h : srt L) (p : Sm → Bool) : srt (L.filter p) := List.Pairwise.filter p h
end Go.Proofs.Ytmlbkcpmgcjblaa

/- Layer 14 by types: ints, awake. -/
namespace Go.Proofs.Ytmlbkcpmgcjblaa
open Go.RowKit

theorem ivn_drop {L : List Nat} {k : Nat} (h : k < L.length) : (L.map ivn).drop k = ivn (L.getD k 0) :: (L.map ivn).drop (k + 1) := by
  have h1 : k < (L.map ivn).length := by rw [List.length_map]; exact h
  rw [List.drop_eq_getElem_cons h1]
  congr 1
  rw [List.getElem_map]
  simp [List.getD, List.getElem?_eq_getElem h]
theorem sizeI : (Try.prog.info? 3).map (·.size) = some 1 := by kernel_rfl
end Go.Proofs.Ytmlbkcpmgcjblaa

/- Layer 15 by types: table.Of. -/
namespace Go.Proofs.Ytmlbkcpmgcjblaa
open Go.RowKit

theorem cAllocN {P : Program} {w0 : World} {Γ : Ctx} {o : Oper} {t : TypeId} {z : Array Value} (ho : o.op = .alloc t) (hz : ∀ w : World, (Instr.alloc t true (.tuple #[])).run P w = .ok (.pointer (some ⟨w.heap.size, 0, none⟩)) (w.alloc (.cells z t))) : OpOk P w0 Γ o (Ty.var w0 t z) :=
  .new fun a w hb _ => ⟨_, _, ⟨w.heap.size, rfl, hb.size, Blk.new w _ _⟩, ((Keeps.refl [] w).alloc _).below, by unfold execOp; simp [ho, hz]⟩
section
variable {P : Program} {w0 : World} {Γ : Ctx} {o : Oper} {x : Operand} {e : TypeId} {seed : Nat} {L : List Cl} {err : Value} {w1 : World}
theorem cExtT (ho : o.op = .extract x 0) (hx : OpT Γ x (Ty.tabE w1 e seed L err)) : OpOk P w0 Γ o (Ty.tabO w1 e seed L) :=
  .val fun a w _ hs => by
    obtain ⟨v, h1, u, h2, h3⟩ := hs x _ (by simp [ho, Op.operands]) hx
    refine ⟨u, h3, ?_⟩
    unfold execOp
    simp [ho, h1, h2, Instr.extract]
theorem cExtE (ho : o.op = .extract x 1) (hx : OpT Γ x (Ty.tabE w1 e seed L err)) : OpOk P w0 Γ o (Ty.ex err) :=
  .val fun a w _ hs => by
    obtain ⟨v, h1, u, h2, h3⟩ := hs x _ (by simp [ho, Op.operands]) hx
    refine ⟨err, rfl, ?_⟩
    unfold execOp
    simp [ho, h1, h2, Instr.extract]
end
theorem placesN_len3 (seed : Nat) (n : Int) (x : Sm) : (placesN seed n x).length ≤ 3 := by
  unfold placesN
  split
  · rw [plc_len]; exact Nat.le_refl _
  · simp
/-- The cells of a set's table. -/
def ofL (seed : Nat) (n : Int) (D : List Sm) : List Cl := if goodN n then tall seed (tzero n.toNat) (setL D) 1 else []
theorem tall_snoc (seed : Nat) (L : List Cl) (xs : List Sm) (x : Sm) (n : Int) : tall seed L (xs ++ [x]) n = tput seed (tall seed L xs n) x n := by unfold tall; rw [List.foldl_append]; rfl
theorem take_snocN (P : List Nat) {j : Nat} (h : j < P.length) : P.take (j + 1) = P.take j ++ [P.getD j 0] := by
  rw [List.take_succ_eq_append_getElem h]
  simp [List.getD, List.getElem?_eq_getElem h]
theorem fold_snoc (P : List Nat) {j : Nat} (h : j < P.length) (L : List Cl) (x : Sm) (n : Int) : (P.take (j + 1)).foldl (fun L i => tputAt L i x n) L = tputAt ((P.take j).foldl (fun L i => tputAt L i x n) L) (P.getD j 0) x n := by
  rw [take_snocN P h, List.foldl_append]
  rfl
theorem getD_mem {P : List Nat} {j : Nat} (h : j < P.length) : P.getD j 0 ∈ P := by
  simp only [List.getD, List.getElem?_eq_getElem h, Option.getD_some]
  exact List.getElem_mem h
/-- An element of a row of one's own, as an address. -/
theorem cell_at {w : World} {e : TypeId} {g off n cap : Nat} {L : List Cl} (h : SegL w e 65 g off n cap (flatC L)) {i : Nat} (hi : i < L.length) : (Ty.at_ e (L.getD i default).enc).p w (.pointer (some ⟨g, off + i * 65, none⟩)) := by
  obtain ⟨g', off', he, h⟩ := SlP.elem (k := i * 65) h.sl (by rw [flatC_len]; omega)
  simp only [Option.some.injEq, Addr.mk.injEq] at he
  obtain ⟨rfl, rfl, _⟩ := he
  have h := h (i * 65)
  rw [flatC_at _ hi] at h
  exact at_pre _ _ h
theorem segl_far {w : World} {e t : TypeId} {sz g off n cap g2 : Nat} {xs : List Value} {cs : Array Value} (h : SegL w e sz g off n cap xs) (hb : Blk w g2 t cs) (hne : (t == e) = false) : g2 ≠ g := fun hm => by
  subst hm
  obtain ⟨cs', fr, h1⟩ := h.block
  unfold Blk at hb
  rw [hb] at h1
  simp only [Option.some.injEq, Obj.cells.injEq] at h1
  rw [h1.2.1] at hne
  simp at hne
set_option maxRecDepth 100000 in
set_option maxHeartbeats 4000000 in
theorem tof_ty (seed : Nat) (n : Int) (D : List Sm) (hD : D.length ≤ 1000000) (hsd : seed < 18446744073709551616) : FnR3 Try.prog 31 (Ty.ex (.int .u64 (seed : Int))) (Ty.ex (.int .i64 n)) (Ty.sums 34 D) (fun w => Ty.tabE w 87 (newS seed n) (ofL seed n D) (newE n)) := by
  refine ⟨fun args w => by kernel_rfl, fun w v u q hv hu hq => ?_⟩
  have hNw := tnew_ty seed n
  refine enter_ty 54 [Ty.ex (.int .u64 (seed : Int)), Ty.ex (.int .i64 n), Ty.ex q] Try.func31 rfl (by kernel_rfl) ⟨hv, hu, rfl, trivial⟩ fun a hF => ?_
  have hB := Below.refl w.heap.size w
  let TD := Ty.sums 34 D
  repeat with_reducible first | refine wp_seq ?_ | refine nThen ?_ | refine nBlk ?_ | refine wp_skip ?_ | refine wp_block ?_ | refine wp_exit ?_ | refine xThen ?_ | refine xHere ?_ | refine wp_ret ?_ | refine rThen ?_
  refine' reg_all hF ?_ mixed (by kernel_rfl) ?_
  rotate_left
  · repeat (first
        | exact Line.nil
        | (refine' Line.cons rfl (.new rfl rfl (run_alloc_i infoT46) rfl) ?_; rotate_left)
        | ((refine' Line.cons rfl (.run rfl rfl ?_) ?_)
           any_goals (first | exact cMove rfl rfl | exact cAssign rfl rfl | exact cLss rfl rfl rfl | exact cNeq rfl rfl rfl)
           rotate_left))
  intro a w1 hF hb hN
  have hBs := hB.size
  replace hB := hB.trans (hb.mono hB.size)
  dsimp only [ext, Option.getD] at hF
  repeat with_reducible first | refine wp_seq ?_ | refine nThen ?_ | refine nBlk ?_ | refine wp_skip ?_ | refine wp_block ?_ | refine wp_exit ?_ | refine xThen ?_ | refine xHere ?_ | refine wp_ret ?_ | refine rThen ?_
  obtain ⟨z, ⟨g6, rfl, hg6, hb6⟩, hF⟩ := hF.open (s := 6) rfl
  have hg6 : w.heap.size ≤ g6 := hg6
  repeat with_reducible first | refine wp_seq ?_ | refine nThen ?_ | refine nBlk ?_ | refine wp_skip ?_ | refine wp_block ?_ | refine wp_exit ?_ | refine xThen ?_ | refine xHere ?_ | refine wp_ret ?_ | refine rThen ?_
  refine wp_region_lit ?_
  refine' tlOp hF rfl rfl rfl ?_ ?_
  rotate_left
  · first | exact cMove rfl rfl | exact cAssign rfl rfl | exact cLss rfl rfl rfl | exact cNeq rfl rfl rfl
  intro a w2 hF hb
  have hBs := hB.size
  replace hB := hB.trans (hb.mono hB.size)
  try (refine wpList_nil ?_)
  repeat with_reducible first | refine wp_seq ?_ | refine nThen ?_ | refine nBlk ?_ | refine wp_skip ?_ | refine wp_block ?_ | refine wp_exit ?_ | refine xThen ?_ | refine xHere ?_ | refine wp_ret ?_ | refine rThen ?_
  replace hb6 := hb6.below hb
  refine' tlOp hF rfl rfl rfl ?_ ?_
  rotate_left
  · first | exact cMove rfl rfl | exact cAssign rfl rfl | exact cLss rfl rfl rfl | exact cNeq rfl rfl rfl
  intro a w3 hF hb
  have hBs := hB.size
  replace hB := hB.trans (hb.mono hB.size)
  try (refine wpList_nil ?_)
  repeat with_reducible first | refine wp_seq ?_ | refine nThen ?_ | refine nBlk ?_ | refine wp_skip ?_ | refine wp_block ?_ | refine wp_exit ?_ | refine xThen ?_ | refine xHere ?_ | refine wp_ret ?_ | refine rThen ?_
  replace hb6 := hb6.below hb
  have hw3 := hB.size
  refine' tlOp hF rfl rfl rfl ?_ ?_
  rotate_left
  · first | exact cCallR2 rfl (.t rfl) (.t rfl) hNw (tabE_olds _ _ _ _) | exact cMove rfl rfl | exact cAssign rfl rfl | exact cLss rfl rfl rfl | exact cNeq rfl rfl rfl
  intro a w4 hF hb
  have hBs := hB.size
  replace hB := hB.trans (hb.mono hB.size)
  try (refine wpList_nil ?_)
  repeat with_reducible first | refine wp_seq ?_ | refine nThen ?_ | refine nBlk ?_ | refine wp_skip ?_ | refine wp_block ?_ | refine wp_exit ?_ | refine xThen ?_ | refine xHere ?_ | refine wp_ret ?_ | refine rThen ?_
  replace hb6 := hb6.below hb
  refine' tlOp hF rfl rfl rfl ?_ ?_
  rotate_left
  · first | exact cMove rfl rfl | exact cAssign rfl rfl | exact cLss rfl rfl rfl | exact cNeq rfl rfl rfl
  intro a w5 hF hb
  have hBs := hB.size
  replace hB := hB.trans (hb.mono hB.size)
  try (refine wpList_nil ?_)
  repeat with_reducible first | refine wp_seq ?_ | refine nThen ?_ | refine nBlk ?_ | refine wp_skip ?_ | refine wp_block ?_ | refine wp_exit ?_ | refine xThen ?_ | refine xHere ?_ | refine wp_ret ?_ | refine rThen ?_
  replace hb6 := hb6.below hb
  refine' tlOp hF rfl rfl rfl ?_ ?_
  rotate_left
  · first | exact cExtT rfl rfl | exact cMove rfl rfl | exact cAssign rfl rfl | exact cLss rfl rfl rfl | exact cNeq rfl rfl rfl
  intro a w6 hF hb
  have hBs := hB.size
  replace hB := hB.trans (hb.mono hB.size)
  try (refine wpList_nil ?_)
  repeat with_reducible first | refine wp_seq ?_ | refine nThen ?_ | refine nBlk ?_ | refine wp_skip ?_ | refine wp_block ?_ | refine wp_exit ?_ | refine xThen ?_ | refine xHere ?_ | refine wp_ret ?_ | refine rThen ?_
  replace hb6 := hb6.below hb
  refine' tlOp hF rfl rfl rfl ?_ ?_
  rotate_left
  · first | exact cExtE rfl rfl | exact cMove rfl rfl | exact cAssign rfl rfl | exact cLss rfl rfl rfl | exact cNeq rfl rfl rfl
  intro a w7 hF hb
  have hBs := hB.size
  replace hB := hB.trans (hb.mono hB.size)
  try (refine wpList_nil ?_)
  repeat with_reducible first | refine wp_seq ?_ | refine nThen ?_ | refine nBlk ?_ | refine wp_skip ?_ | refine wp_block ?_ | refine wp_exit ?_ | refine xThen ?_ | refine xHere ?_ | refine wp_ret ?_ | refine rThen ?_
  replace hb6 := hb6.below hb
  have hlt6 := hb6.lt
  have hw7 := hB.size
  refine' tlOp hF rfl rfl rfl ?_ ?_
  rotate_left
  · first | exact cAllocN rfl (run_alloc_i infoT46) | exact cMove rfl rfl | exact cAssign rfl rfl | exact cLss rfl rfl rfl | exact cNeq rfl rfl rfl
  intro a w8 hF hb
  have hBs := hB.size
  replace hB := hB.trans (hb.mono hB.size)
  try (refine wpList_nil ?_)
  repeat with_reducible first | refine wp_seq ?_ | refine nThen ?_ | refine nBlk ?_ | refine wp_skip ?_ | refine wp_block ?_ | refine wp_exit ?_ | refine xThen ?_ | refine xHere ?_ | refine wp_ret ?_ | refine rThen ?_
  replace hb6 := hb6.below hb
  obtain ⟨z, ⟨g8, rfl, hg8, hb8⟩, hF⟩ := hF.open (s := 8) rfl
  have hg8 : w7.heap.size ≤ g8 := hg8
  obtain ⟨z, ⟨s18, rfl, S18, hs18, hS18⟩, hF⟩ := hF.open (s := 18) rfl
  refine tlStoreV (Δ := [(0, Ty.ex (.int .u64 (seed : Int))), (1, Ty.ex (.int .i64 n)), (2, Ty.ex q), (6, Ty.ex (.pointer (some ⟨g6, 0, none⟩))), (8, Ty.ex (.pointer (some ⟨g8, 0, none⟩))), (19, Ty.ex (newE n))]) hF rfl rfl rfl rfl (hF.getEx (s := 18) rfl) hb8 rfl sizeT46 (sl_one hs18.sl _) (hF.keep [0, 1, 2, 6, 8, 19]) rfl ?_
  intro w9 hF hb8' hkx
  replace hb6 := hb6.keeps hkx (by simp only [List.mem_singleton]; intro h; subst h; omega)
  replace hs18 := hs18.keeps hkx (seg_far hs18 hb8 (by decide))
  replace hB := below_own hB hkx (by intro y hy; simp only [List.mem_singleton] at hy; omega)
  replace hb8 : Blk w9 g8 41 #[.int .u64 (newS seed n : Int), s18] := hb8'
  have hne68 : g6 ≠ g8 := by omega
  clear hb8' hkx hlt6
  refine' tlOp hF rfl rfl rfl ?_ ?_
  rotate_left
  · first | exact cMove rfl rfl | exact cAssign rfl rfl | exact cLss rfl rfl rfl | exact cNeq rfl rfl rfl
  intro a w10 hF hb
  have hBs := hB.size
  replace hB := hB.trans (hb.mono hB.size)
  try (refine wpList_nil ?_)
  repeat with_reducible first | refine wp_seq ?_ | refine nThen ?_ | refine nBlk ?_ | refine wp_skip ?_ | refine wp_block ?_ | refine wp_exit ?_ | refine xThen ?_ | refine xHere ?_ | refine wp_ret ?_ | refine rThen ?_
  replace hb6 := hb6.below hb
  replace hb8 := hb8.below hb
  replace hs18 := hs18.below hb
  replace hF := hF.keep [0, 1, 2, 6, 8, 9]
  dsimp only [pick, look] at hF
  by_cases hgn : goodN n = true
  rotate_left
  · have hgn : goodN n = false := by simpa using hgn
    have e1 : newS seed n = 0 := by unfold newS; rw [hgn]; rfl
    have e2 : ofL seed n D = [] := by unfold ofL; rw [hgn]; rfl
    have e3 : newE n = .int .i64 1 := by unfold newE; rw [hgn]; rfl
    rw [e1, e2, e3]
    rw [e3] at hF
    refine' reg_all hF ?_ mixed (by kernel_rfl) ?_
    rotate_left
    · repeat (first
          | exact Line.nil
          | ((refine' Line.cons rfl (.run rfl rfl ?_) ?_)
             any_goals (first | exact cMove rfl rfl | exact cAssign rfl rfl | exact OpOk.b (c := true) (cNeq rfl rfl rfl) rfl | exact cLss rfl rfl rfl | exact cNeq rfl rfl rfl)
             rotate_left))
    intro a w11 hF hb hN
    have hBs := hB.size
    replace hB := hB.trans (hb.mono hB.size)
    dsimp only [ext, Option.getD] at hF
    repeat with_reducible first | refine wp_seq ?_ | refine nThen ?_ | refine nBlk ?_ | refine wp_skip ?_ | refine wp_block ?_ | refine wp_exit ?_ | refine xThen ?_ | refine xHere ?_ | refine wp_ret ?_ | refine rThen ?_
    replace hb6 := hb6.below hb
    refine cond_t hF rfl ?_
    repeat with_reducible first | refine wp_seq ?_ | refine nThen ?_ | refine nBlk ?_ | refine wp_skip ?_ | refine wp_block ?_ | refine wp_exit ?_ | refine xThen ?_ | refine xHere ?_ | refine wp_ret ?_ | refine rThen ?_
    refine wp_region_lit ?_
    refine' tlOp hF rfl rfl rfl ?_ ?_
    rotate_left
    · first | exact cBuildE rfl (fun w => buildT046 w) | exact cMove rfl rfl | exact cAssign rfl rfl | exact cLss rfl rfl rfl | exact cNeq rfl rfl rfl
    intro a w12 hF hb
    have hBs := hB.size
    replace hB := hB.trans (hb.mono hB.size)
    try (refine wpList_nil ?_)
    repeat with_reducible first | refine wp_seq ?_ | refine nThen ?_ | refine nBlk ?_ | refine wp_skip ?_ | refine wp_block ?_ | refine wp_exit ?_ | refine xThen ?_ | refine xHere ?_ | refine wp_ret ?_ | refine rThen ?_
    replace hb6 := hb6.below hb
    refine' tlOp hF rfl rfl rfl ?_ ?_
    rotate_left
    · first | exact cMove rfl rfl | exact cAssign rfl rfl | exact cLss rfl rfl rfl | exact cNeq rfl rfl rfl
    intro a w12 hF hb
    have hBs := hB.size
    replace hB := hB.trans (hb.mono hB.size)
    try (refine wpList_nil ?_)
    repeat with_reducible first | refine wp_seq ?_ | refine nThen ?_ | refine nBlk ?_ | refine wp_skip ?_ | refine wp_block ?_ | refine wp_exit ?_ | refine xThen ?_ | refine xHere ?_ | refine wp_ret ?_ | refine rThen ?_
    replace hb6 := hb6.below hb
    refine tlStoreV (Δ := [(6, Ty.ex (.pointer (some ⟨g6, 0, none⟩))), (23, Ty.ex (.int .i64 1))]) hF rfl rfl rfl rfl (hF.getEx (s := 22) rfl) hb6 rfl sizeT46 (tabCells 0 _ _ _) (hF.keep [6, 23]) rfl ?_
    intro w13 hF hb6 hkx
    replace hB := below_own hB hkx (by intro y hy; simp only [List.mem_singleton] at hy; omega)
    refine' tlOp hF rfl rfl rfl ?_ ?_
    rotate_left
    · first | exact cMove rfl rfl | exact cAssign rfl rfl | exact cLss rfl rfl rfl | exact cNeq rfl rfl rfl
    intro a w14 hF hb
    have hBs := hB.size
    replace hB := hB.trans (hb.mono hB.size)
    try (refine wpList_nil ?_)
    repeat with_reducible first | refine wp_seq ?_ | refine nThen ?_ | refine nBlk ?_ | refine wp_skip ?_ | refine wp_block ?_ | refine wp_exit ?_ | refine xThen ?_ | refine xHere ?_ | refine wp_ret ?_ | refine rThen ?_
    refine retCell2 hF rfl rfl rfl (hb6.below hb) Try.underlying41 rfl sizeT46 ?_
    exact ⟨_, rfl, ⟨_, rfl, _, rfl, [], Seg.nil _ _ _, by simp⟩, hB⟩
  obtain ⟨N, rfl, hN1, hN2⟩ := goodN_rng hgn
  have e1 : newS seed (N : Int) = seed := by unfold newS; rw [hgn]; rfl
  have e2 : ofL seed (N : Int) D = tall seed (tzero N) (setL D) 1 := by unfold ofL; rw [hgn, Int.toNat_natCast]; rfl
  have e3 : newE (N : Int) = .int .i64 0 := by unfold newE; rw [hgn]; rfl
  have e4 : newL (N : Int) = tzero N := by unfold newL; rw [hgn, Int.toNat_natCast]; rfl
  rw [e1, e2, e3]
  rw [e1] at hb8
  rw [e3] at hF
  rw [e4, tzero_len] at hs18
  obtain ⟨g, off, cap, es, rfl, hsl⟩ : ∃ g off cap, s18 = .slice (some ⟨g, off, none⟩) N cap ∧ S18 = [g] ∧ SegL w10 87 65 g off N cap (flatC (tzero N)) := by
    rcases hs18.cases with ⟨_, h0, _⟩ | h
    · omega
    · exact h
  have hgw : w.heap.size ≤ g := Nat.le_trans hw3 (hS18 g (by simp))
  rw [es] at hb8
  clear hs18 hS18 e1 e2 e3 e4 es
  refine' reg_all hF ?_ mixed (by kernel_rfl) ?_
  rotate_left
  · repeat (first
        | exact Line.nil
        | ((refine' Line.cons rfl (.run rfl rfl ?_) ?_)
           any_goals (first | exact cMove rfl rfl | exact cAssign rfl rfl | exact OpOk.b (c := false) (cNeq rfl rfl rfl) rfl | exact cLss rfl rfl rfl | exact cNeq rfl rfl rfl)
           rotate_left))
  intro a w11 hF hb hN
  have hBs := hB.size
  replace hB := hB.trans (hb.mono hB.size)
  dsimp only [ext, Option.getD] at hF
  repeat with_reducible first | refine wp_seq ?_ | refine nThen ?_ | refine nBlk ?_ | refine wp_skip ?_ | refine wp_block ?_ | refine wp_exit ?_ | refine xThen ?_ | refine xHere ?_ | refine wp_ret ?_ | refine rThen ?_
  replace hb6 := hb6.below hb
  replace hb8 := hb8.below hb
  replace hsl := hsl.below hb
  refine cond_f hF rfl ?_
  repeat with_reducible first | refine wp_seq ?_ | refine nThen ?_ | refine nBlk ?_ | refine wp_skip ?_ | refine wp_block ?_ | refine wp_exit ?_ | refine xThen ?_ | refine xHere ?_ | refine wp_ret ?_ | refine rThen ?_
  have hq11 := TD.below hq hB
  have hw11 := hB.size
  refine' reg_all hF ?_ mixed (by kernel_rfl) ?_
  rotate_left
  · repeat (first
        | exact Line.nil
        | ((refine' Line.cons rfl (.run rfl rfl ?_) ?_)
           any_goals (first | exact cMove rfl rfl | exact cAssign rfl rfl | exact cCallS1 rfl (.l rfl hq11) (of_ty D hD) | exact cLenH rfl (.t rfl) (Ty.seg_isSl _ _ _ _ _) Try.underlying25 | exact cLss rfl rfl rfl | exact cNeq rfl rfl rfl)
           rotate_left))
  intro a w12 hF hb hN
  have hBs := hB.size
  replace hB := hB.trans (hb.mono hB.size)
  dsimp only [ext, Option.getD] at hF
  repeat with_reducible first | refine wp_seq ?_ | refine nThen ?_ | refine nBlk ?_ | refine wp_skip ?_ | refine wp_block ?_ | refine wp_exit ?_ | refine xThen ?_ | refine xHere ?_ | refine wp_ret ?_ | refine rThen ?_
  replace hb6 := hb6.below hb
  replace hb8 := hb8.below hb
  replace hsl := hsl.below hb
  have hXl := setL_len D
  generalize setL D = X at *
  obtain ⟨v25, ⟨S25, hs25, hS25⟩, hF⟩ := hF.open (s := 25) rfl
  refine loop_ty (fun m a wr => ∃ k : Nat, k + m = X.length ∧ Fr 54 [(0, Ty.ex (.int .u64 (seed : Int))), (1, Ty.ex (.int .i64 (N : Int))), (6, Ty.ex (.pointer (some ⟨g6, 0, none⟩))), (8, Ty.ex (.pointer (some ⟨g8, 0, none⟩))), (25, Ty.ex v25), (26, Ty.ex (.int .i64 (X.length : Int))), (27, Ty.ex (.int .i64 (k : Int)))] a wr ∧ Below w.heap.size w wr ∧ Blk wr g6 41 zeroT ∧ Blk wr g8 41 #[.int .u64 (seed : Int), .slice (some ⟨g, off, none⟩) N cap] ∧ SegL wr 87 65 g off N cap (flatC (tall seed (tzero N) (X.take k) 1)) ∧ Seg wr 34 32 v25 X.length (flat X) S25) X.length ?_ ?_
  · exact ⟨0, by omega, hF.keep [0, 1, 6, 8, 25, 26, 27], hB, hb6, hb8, hsl, hs25⟩
  clear hF hB hb6 hb8 hsl hs25
  rintro m a wr ⟨k, hk, hF, hB, hb6, hb8, hsl, hs25⟩
  repeat with_reducible first | refine wp_seq ?_ | refine nThen ?_ | refine nBlk ?_ | refine wp_skip ?_ | refine wp_block ?_ | refine wp_exit ?_ | refine xThen ?_ | refine xHere ?_ | refine wp_ret ?_ | refine rThen ?_
  refine' reg_all hF ?_ mixed (by kernel_rfl) ?_
  rotate_left
  · repeat (first
        | exact Line.nil
        | ((refine' Line.cons rfl (.run rfl rfl ?_) ?_)
           any_goals (first | exact cMove rfl rfl | exact cAssign rfl rfl | exact cLss rfl rfl rfl | exact cNeq rfl rfl rfl)
           rotate_left))
  intro a w13 hF hb hN
  have hBs := hB.size
  replace hB := hB.trans (hb.mono hB.size)
  dsimp only [ext, Option.getD] at hF
  repeat with_reducible first | refine wp_seq ?_ | refine nThen ?_ | refine nBlk ?_ | refine wp_skip ?_ | refine wp_block ?_ | refine wp_exit ?_ | refine xThen ?_ | refine xHere ?_ | refine wp_ret ?_ | refine rThen ?_
  replace hb6 := hb6.below hb
  replace hb8 := hb8.below hb
  replace hsl := hsl.below hb
  replace hs25 := hs25.below hb
  refine cond_ty hF rfl (fun hlt => ?_) (fun hge => ?_)
  rotate_left
  · have hge : ¬ k < X.length := by have := of_decide_eq_false hge; omega
    obtain rfl : k = X.length := by omega
    rw [List.take_length] at hsl
    have h8 : (Ty.at_ 41 [.int .u64 (seed : Int), .slice (some ⟨g, off, none⟩) N cap]).p w13 (.pointer (some ⟨g8, 0, none⟩)) := blk_at hb8
    have hn6 := segl_far hsl hb6 (by decide)
    repeat with_reducible first | refine wp_seq ?_ | refine nThen ?_ | refine nBlk ?_ | refine wp_skip ?_ | refine wp_block ?_ | refine wp_exit ?_ | refine xThen ?_ | refine xHere ?_ | refine wp_ret ?_ | refine rThen ?_
    refine wp_region_lit ?_
    refine' tlOp hF rfl rfl rfl ?_ ?_
    rotate_left
    · first | exact cLoadT46 rfl (.l rfl h8) | exact cMove rfl rfl | exact cAssign rfl rfl | exact cLss rfl rfl rfl | exact cNeq rfl rfl rfl
    intro a w14 hF hb
    have hBs := hB.size
    replace hB := hB.trans (hb.mono hB.size)
    try (refine wpList_nil ?_)
    repeat with_reducible first | refine wp_seq ?_ | refine nThen ?_ | refine nBlk ?_ | refine wp_skip ?_ | refine wp_block ?_ | refine wp_exit ?_ | refine xThen ?_ | refine xHere ?_ | refine wp_ret ?_ | refine rThen ?_
    replace hb6 := hb6.below hb
    replace hsl := hsl.below hb
    refine tlStoreV (Δ := [(6, Ty.ex (.pointer (some ⟨g6, 0, none⟩)))]) hF rfl rfl rfl rfl (hF.getEx (s := 53) rfl) hb6 rfl sizeT46 (tabCells seed _ _ _) (hF.keep [6]) rfl ?_
    intro w15 hF hb6 hkx
    replace hB := below_own hB hkx (by intro y hy; simp only [List.mem_singleton] at hy; omega)
    replace hsl := hsl.keeps hkx (by simpa using Ne.symm hn6)
    refine' tlOp hF rfl rfl rfl ?_ ?_
    rotate_left
    · first | exact cMove rfl rfl | exact cAssign rfl rfl | exact cLss rfl rfl rfl | exact cNeq rfl rfl rfl
    intro a w16 hF hb
    have hBs := hB.size
    replace hB := hB.trans (hb.mono hB.size)
    try (refine wpList_nil ?_)
    repeat with_reducible first | refine wp_seq ?_ | refine nThen ?_ | refine nBlk ?_ | refine wp_skip ?_ | refine wp_block ?_ | refine wp_exit ?_ | refine xThen ?_ | refine xHere ?_ | refine wp_ret ?_ | refine rThen ?_
    refine retCell2 hF rfl rfl rfl (hb6.below hb) Try.underlying41 rfl sizeT46 ?_
    refine ⟨_, rfl, ⟨_, rfl, _, rfl, [g], ?_, fun y hy => ?_⟩, hB⟩
    · rw [tall_len, tzero_len]
      exact (hsl.below hb).seg
    · simp only [List.mem_singleton] at hy
      omega
  have hlt : k < X.length := by have := of_decide_eq_true hlt; omega
  have htk : X.take (k + 1) = X.take k ++ [X.getD k default] := take_snoc' X hlt
  have hnx : tall seed (tzero N) (X.take (k + 1)) 1 = tput seed (tall seed (tzero N) (X.take k) 1) (X.getD k default) 1 := by rw [htk, tall_snoc]
  have hMl : (tall seed (tzero N) (X.take k) 1).length = N := by rw [tall_len, tzero_len]
  obtain ⟨M, hM⟩ : ∃ M, M = tall seed (tzero N) (X.take k) 1 := ⟨_, rfl⟩
  rw [← hM] at hsl hnx hMl
  obtain ⟨x, hx⟩ : ∃ x, x = X.getD k default := ⟨_, rfl⟩
  rw [← hx] at hnx
  have hsl25 := hs25.sl
  have hlt25 := hs25.lt
  have hw13 := hB.size
  repeat with_reducible first | refine wp_seq ?_ | refine nThen ?_ | refine nBlk ?_ | refine wp_skip ?_ | refine wp_block ?_ | refine wp_exit ?_ | refine xThen ?_ | refine xHere ?_ | refine wp_ret ?_ | refine rThen ?_
  refine' region_ty 3 mixed (by kernel_rfl) hF ?_ ?_
  rotate_left
  · simp only [List.take_succ_cons, List.take_zero]
    repeat (first
        | exact Line.nil
        | (refine' Line.cons rfl (.new rfl rfl (run_alloc_i infoS) rfl) ?_; rotate_left)
        | ((refine' Line.cons rfl (.run rfl rfl ?_) ?_)
           any_goals (first | exact cMove rfl rfl | exact cAssign rfl rfl | exact cIndexSum (k := k) rfl (.l rfl hsl25) rfl Try.underlying25 sizeS hlt | exact cLoadSum rfl (.t rfl) Try.underlying34 sizeS | exact cLss rfl rfl rfl | exact cNeq rfl rfl rfl)
           rotate_left))
  intro a w14 hF hb hN
  have hBs := hB.size
  replace hB := hB.trans (hb.mono hB.size)
  simp only [List.take_succ_cons, List.take_zero, List.drop_succ_cons, List.drop_zero] at hF hN ⊢
  dsimp only [ext, Option.getD] at hF
  replace hb6 := hb6.below hb
  replace hb8 := hb8.below hb
  replace hsl := hsl.below hb
  replace hs25 := hs25.below hb
  obtain ⟨z, ⟨g11, rfl, hg11, hb11⟩, hF⟩ := hF.open (s := 11) rfl
  have hg11 : w13.heap.size ≤ g11 := hg11
  have hn6 : g6 ≠ g11 := fun h => by subst h; exact absurd (hb6.ne hb11 (by decide)) (by simp)
  have hn8 : g8 ≠ g11 := fun h => by subst h; exact absurd (hb8.ne hb11 (by decide)) (by simp)
  have hng := segl_far hsl hb11 (by decide)
  refine tlStoreV (Δ := [(0, Ty.ex (.int .u64 (seed : Int))), (1, Ty.ex (.int .i64 (N : Int))), (6, Ty.ex (.pointer (some ⟨g6, 0, none⟩))), (8, Ty.ex (.pointer (some ⟨g8, 0, none⟩))), (11, Ty.ex (.pointer (some ⟨g11, 0, none⟩))), (25, Ty.ex v25), (26, Ty.ex (.int .i64 (X.length : Int))), (27, Ty.ex (.int .i64 (k : Int)))]) hF rfl rfl rfl rfl (hF.getEx (s := 30) rfl) hb11 (sumSz _) (by show _ = some (u8s _).size; rw [Sm.size]; exact sizeS) (u8s_one _) (hF.keep [0, 1, 6, 8, 11, 25, 26, 27]) rfl ?_
  intro w15 hF hb11' hkx
  refine wpList_nil ?_
  replace hB := below_own hB hkx (by intro y hy; simp only [List.mem_singleton] at hy; omega)
  replace hb6 := hb6.keeps hkx (by simpa using hn6)
  replace hb8 := hb8.keeps hkx (by simpa using hn8)
  replace hsl := hsl.keeps hkx (by simpa using Ne.symm hng)
  replace hs25 := hs25.keeps hkx (by intro y hy hm; simp only [List.mem_singleton] at hm; have := hlt25 y hy; omega)
  have h11 : (Ty.at_ 34 x.enc).p w15 (.pointer (some ⟨g11, 0, none⟩)) := by
    have h := blk_at hb11'
    rw [← hx] at h
    rwa [show (Value.agg (u8s x.l)).cells.toList = x.enc from u8s_list _] at h
  clear hb11 hb11' hkx
  have hPp := places_ty seed (N : Int) x hsd
  have hPd : ∀ j, j < (placesN seed (N : Int) x).length → (placesN seed (N : Int) x).getD j 0 < N := fun j hj => places_lt seed N x _ (getD_mem hj)
  have hput : tput seed M x 1 = (placesN seed (N : Int) x).foldl (fun L i => tputAt L i x 1) M := by unfold tput; rw [hMl]
  have hPl3 := placesN_len3 seed (N : Int) x
  generalize placesN seed (N : Int) x = PL at *
  repeat with_reducible first | refine wp_seq ?_ | refine nThen ?_ | refine nBlk ?_ | refine wp_skip ?_ | refine wp_block ?_ | refine wp_exit ?_ | refine xThen ?_ | refine xHere ?_ | refine wp_ret ?_ | refine rThen ?_
  refine' reg_all hF ?_ mixed (by kernel_rfl) ?_
  rotate_left
  · repeat (first
        | exact Line.nil
        | ((refine' Line.cons rfl (.run rfl rfl ?_) ?_)
           any_goals (first | exact cMove rfl rfl | exact cAssign rfl rfl | exact cLoadSum rfl (.l rfl h11) Try.underlying34 sizeS | exact cCall3 rfl rfl rfl rfl hPp | exact cLen rfl rfl (Ty.sl_isSl _ _ _) Try.underlying66 | exact cLss rfl rfl rfl | exact cNeq rfl rfl rfl)
           rotate_left))
  intro a w16 hF hb hN
  have hBs := hB.size
  replace hB := hB.trans (hb.mono hB.size)
  dsimp only [ext, Option.getD] at hF
  repeat with_reducible first | refine wp_seq ?_ | refine nThen ?_ | refine nBlk ?_ | refine wp_skip ?_ | refine wp_block ?_ | refine wp_exit ?_ | refine xThen ?_ | refine xHere ?_ | refine wp_ret ?_ | refine rThen ?_
  replace hb6 := hb6.below hb
  replace hb8 := hb8.below hb
  replace hsl := hsl.below hb
  replace hs25 := hs25.below hb
  replace h11 := (Ty.at_ 34 x.enc).below h11 hb
  obtain ⟨v34, hv34, hF⟩ := hF.open (s := 34) rfl
  refine wp_mono (Q := fun e a wr => e = .exit 2 ∧ Fr 54 [(0, Ty.ex (.int .u64 (seed : Int))), (1, Ty.ex (.int .i64 (N : Int))), (6, Ty.ex (.pointer (some ⟨g6, 0, none⟩))), (8, Ty.ex (.pointer (some ⟨g8, 0, none⟩))), (25, Ty.ex v25), (26, Ty.ex (.int .i64 (X.length : Int))), (27, Ty.ex (.int .i64 (k : Int)))] a wr ∧ Below w.heap.size w wr ∧ Blk wr g6 41 zeroT ∧ Blk wr g8 41 #[.int .u64 (seed : Int), .slice (some ⟨g, off, none⟩) N cap] ∧ SegL wr 87 65 g off N cap (flatC (tput seed M x 1)) ∧ Seg wr 34 32 v25 X.length (flat X) S25) ?_ ?_
  · refine loop_ty (fun m a wr => ∃ j : Nat, j + m = PL.length ∧ Fr 54 [(0, Ty.ex (.int .u64 (seed : Int))), (1, Ty.ex (.int .i64 (N : Int))), (6, Ty.ex (.pointer (some ⟨g6, 0, none⟩))), (8, Ty.ex (.pointer (some ⟨g8, 0, none⟩))), (11, Ty.ex (.pointer (some ⟨g11, 0, none⟩))), (25, Ty.ex v25), (26, Ty.ex (.int .i64 (X.length : Int))), (27, Ty.ex (.int .i64 (k : Int))), (34, Ty.ex v34), (35, Ty.ex (.int .i64 (PL.length : Int))), (36, Ty.ex (.int .i64 (j : Int)))] a wr ∧ Below w.heap.size w wr ∧ Blk wr g6 41 zeroT ∧ Blk wr g8 41 #[.int .u64 (seed : Int), .slice (some ⟨g, off, none⟩) N cap] ∧ SegL wr 87 65 g off N cap (flatC ((PL.take j).foldl (fun L i => tputAt L i x 1) M)) ∧ Seg wr 34 32 v25 X.length (flat X) S25 ∧ (Ty.at_ 34 x.enc).p wr (.pointer (some ⟨g11, 0, none⟩)) ∧ (Ty.sl 3 PL.length (PL.map ivn)).p wr v34) PL.length ?_ ?_
    · exact ⟨0, by omega, hF.keep [0, 1, 6, 8, 11, 25, 26, 27, 34, 35, 36], hB, hb6, hb8, hsl, hs25, h11, hv34⟩
    clear hF hB hb6 hb8 hsl hs25 h11 hv34 hsl25
    rintro m a wr ⟨j, hj, hF, hB, hb6, hb8, hsl, hs25, h11, hv34⟩
    repeat with_reducible first | refine wp_seq ?_ | refine nThen ?_ | refine nBlk ?_ | refine wp_skip ?_ | refine wp_block ?_ | refine wp_exit ?_ | refine xThen ?_ | refine xHere ?_ | refine wp_ret ?_ | refine rThen ?_
    refine' reg_all hF ?_ mixed (by kernel_rfl) ?_
    rotate_left
    · repeat (first
          | exact Line.nil
          | ((refine' Line.cons rfl (.run rfl rfl ?_) ?_)
             any_goals (first | exact cMove rfl rfl | exact cAssign rfl rfl | exact cLss rfl rfl rfl | exact cNeq rfl rfl rfl)
             rotate_left))
    intro a w17 hF hb hN
    have hBs := hB.size
    replace hB := hB.trans (hb.mono hB.size)
    dsimp only [ext, Option.getD] at hF
    repeat with_reducible first | refine wp_seq ?_ | refine nThen ?_ | refine nBlk ?_ | refine wp_skip ?_ | refine wp_block ?_ | refine wp_exit ?_ | refine xThen ?_ | refine xHere ?_ | refine wp_ret ?_ | refine rThen ?_
    replace hb6 := hb6.below hb
    replace hb8 := hb8.below hb
    replace hsl := hsl.below hb
    replace hs25 := hs25.below hb
    replace h11 := (Ty.at_ 34 x.enc).below h11 hb
    replace hv34 := (Ty.sl 3 PL.length (PL.map ivn)).below hv34 hb
    refine cond_ty hF rfl (fun hlt2 => ?_) (fun hge2 => ?_)
    rotate_left
    · have hge2 : ¬ j < PL.length := by have := of_decide_eq_false hge2; omega
      obtain rfl : j = PL.length := by omega
      rw [List.take_length, ← hput] at hsl
      repeat with_reducible first | refine wp_seq ?_ | refine nThen ?_ | refine nBlk ?_ | refine wp_skip ?_ | refine wp_block ?_ | refine wp_exit ?_ | refine xThen ?_ | refine xHere ?_ | refine wp_ret ?_ | refine rThen ?_
      exact ⟨rfl, hF.keep [0, 1, 6, 8, 25, 26, 27], hB, hb6, hb8, hsl, hs25⟩
    have hlt2 : j < PL.length := by have := of_decide_eq_true hlt2; omega
    have hi := hPd j hlt2
    have hfs := fold_snoc PL hlt2 M x 1
    have hd1 := ivn_drop hlt2
    have hFl : ((PL.take j).foldl (fun L i => tputAt L i x 1) M).length = N := by rw [foldAt_len, hMl]
    generalize (PL.take j).foldl (fun L i => tputAt L i x 1) M = R at *
    generalize PL.getD j 0 = i at *
    have hcell := cell_at hsl (i := i) (by omega)
    have h8 : (Ty.at_ 41 [.int .u64 (seed : Int), .slice (some ⟨g, off, none⟩) N cap]).p w17 (.pointer (some ⟨g8, 0, none⟩)) := blk_at hb8
    repeat with_reducible first | refine wp_seq ?_ | refine nThen ?_ | refine nBlk ?_ | refine wp_skip ?_ | refine wp_block ?_ | refine wp_exit ?_ | refine xThen ?_ | refine xHere ?_ | refine wp_ret ?_ | refine rThen ?_
    refine' reg_all hF ?_ mixed (by kernel_rfl) ?_
    rotate_left
    · repeat (first
          | exact Line.nil
          | ((refine' Line.cons rfl (.run rfl rfl ?_) ?_)
             any_goals (first | exact cMove rfl rfl | exact cAssign rfl rfl | exact cIndexS (k := j) (sz := 1) rfl (.l rfl hv34) rfl Try.underlying66 sizeI hlt2 (by rw [List.length_map]; omega) | exact cLoad1 (u := ivn i) rfl (Has.c (.t rfl) (fun W v h => by rw [Nat.mul_one, hd1] at h; exact h)) (pts_at _ _) Try.underlying3 rfl | exact cLss rfl rfl rfl | exact cNeq rfl rfl rfl)
             rotate_left))
    intro a w18 hF hb hN
    have hBs := hB.size
    replace hB := hB.trans (hb.mono hB.size)
    dsimp only [ext, Option.getD] at hF
    repeat with_reducible first | refine wp_seq ?_ | refine nThen ?_ | refine nBlk ?_ | refine wp_skip ?_ | refine wp_block ?_ | refine wp_exit ?_ | refine xThen ?_ | refine xHere ?_ | refine wp_ret ?_ | refine rThen ?_
    replace hb6 := hb6.below hb
    replace hb8 := hb8.below hb
    replace hsl := hsl.below hb
    replace hs25 := hs25.below hb
    replace h11 := (Ty.at_ 34 x.enc).below h11 hb
    replace hv34 := (Ty.sl 3 PL.length (PL.map ivn)).below hv34 hb
    replace hcell := (Ty.at_ 87 _).below hcell hb
    replace h8 := (Ty.at_ 41 _).below h8 hb
    refine' region_ty 11 mixed (by kernel_rfl) hF ?_ ?_
    rotate_left
    · simp only [List.take_succ_cons, List.take_zero]
      repeat (first
          | exact Line.nil
          | ((refine' Line.cons rfl (.run rfl rfl ?_) ?_)
             any_goals (first | exact cMove rfl rfl | exact cAssign rfl rfl | exact cFldL46 rfl (.l rfl h8) | exact cRowOf46 rfl (.t rfl) | exact cIndexEx (k := i) (sz := 65) rfl rfl rfl Try.underlying39 info34 hi | exact cLoadCl34 rfl (.l rfl hcell) | exact cLoadSum rfl (.l rfl h11) Try.underlying34 sizeS | exact cCall2 rfl rfl rfl (put_ty _ _) | exact cLss rfl rfl rfl | exact cNeq rfl rfl rfl)
             rotate_left))
    intro a w19 hF hb hN
    have hBs := hB.size
    replace hB := hB.trans (hb.mono hB.size)
    simp only [List.take_succ_cons, List.take_zero, List.drop_succ_cons, List.drop_zero] at hF hN ⊢
    dsimp only [ext, Option.getD] at hF
    replace hb6 := hb6.below hb
    replace hb8 := hb8.below hb
    replace hsl := hsl.below hb
    replace hs25 := hs25.below hb
    replace h11 := (Ty.at_ 34 x.enc).below h11 hb
    replace hv34 := (Ty.sl 3 PL.length (PL.map ivn)).below hv34 hb
    have hn6 := segl_far hsl hb6 (by decide)
    have hn8 := segl_far hsl hb8 (by decide)
    obtain ⟨csg, frg, hbg⟩ := hsl.block
    have hbl : ∃ cs, Blk w19 g 87 cs := by
      obtain ⟨_, _, _, cs, h, _⟩ := hsl
      exact ⟨cs, h⟩
    obtain ⟨csb, hbl⟩ := hbl
    refine tlStoreAt (Δ := [(0, Ty.ex (.int .u64 (seed : Int))), (1, Ty.ex (.int .i64 (N : Int))), (6, Ty.ex (.pointer (some ⟨g6, 0, none⟩))), (8, Ty.ex (.pointer (some ⟨g8, 0, none⟩))), (11, Ty.ex (.pointer (some ⟨g11, 0, none⟩))), (25, Ty.ex v25), (26, Ty.ex (.int .i64 (X.length : Int))), (27, Ty.ex (.int .i64 (k : Int))), (34, Ty.ex v34), (35, Ty.ex (.int .i64 (PL.length : Int))), (36, Ty.ex (.int .i64 (j : Int)))]) (k := i * 65) hF rfl rfl rfl rfl rfl hsl (by rw [Cl.size]; omega) (by rw [Cl.size]; exact info34) (Cl.one _) (hF.keep [0, 1, 6, 8, 11, 25, 26, 27, 34, 35, 36]) rfl ?_
    intro w20 hF hsl hk20
    refine wpList_nil ?_
    replace hB := below_own hB hk20 (by intro y hy; simp only [List.mem_singleton] at hy; omega)
    replace hb6 := hb6.keeps hk20 (by simpa using hn6)
    replace hb8 := hb8.keeps hk20 (by simpa using hn8)
    replace hs25 := hs25.keeps hk20 (seg_far hs25 hbl (by decide))
    replace h11 := (Ty.at_ 34 x.enc).far h11 hk20 hbl rfl
    replace hv34 := (Ty.sl 3 PL.length (PL.map ivn)).far hv34 hk20 hbl rfl
    rw [show ((R.getD i default).put x 1).a.toList = ((R.getD i default).put x 1).enc from rfl, over_flatC _ _ (by omega)] at hsl
    rw [show R.set i ((R.getD i default).put x 1) = tputAt R i x 1 from rfl, ← hfs] at hsl
    repeat with_reducible first | refine wp_seq ?_ | refine nThen ?_ | refine nBlk ?_ | refine wp_skip ?_ | refine wp_block ?_ | refine wp_exit ?_ | refine xThen ?_ | refine xHere ?_ | refine wp_ret ?_ | refine rThen ?_
    refine' reg_all hF ?_ mixed (by kernel_rfl) ?_
    rotate_left
    · repeat (first
          | exact Line.nil
          | ((refine' Line.cons rfl (.run rfl rfl ?_) ?_)
             any_goals (first | exact cMove rfl rfl | exact cAssign rfl rfl | exact cAdd (r := ((j + 1 : Nat) : Int)) rfl rfl rfl (by omega) | exact cLss rfl rfl rfl | exact cNeq rfl rfl rfl)
             rotate_left))
    intro a w21 hF hb hN
    have hBs := hB.size
    replace hB := hB.trans (hb.mono hB.size)
    dsimp only [ext, Option.getD] at hF
    repeat with_reducible first | refine wp_seq ?_ | refine nThen ?_ | refine nBlk ?_ | refine wp_skip ?_ | refine wp_block ?_ | refine wp_exit ?_ | refine xThen ?_ | refine xHere ?_ | refine wp_ret ?_ | refine rThen ?_
    exact ⟨m - 1, by omega, j + 1, by omega, hF.keep [0, 1, 6, 8, 11, 25, 26, 27, 34, 35, 36], hB, hb6.below hb, hb8.below hb, hsl.below hb, hs25.below hb, (Ty.at_ 34 x.enc).below h11 hb, (Ty.sl 3 PL.length (PL.map ivn)).below hv34 hb⟩
  clear hF hB hb6 hb8 hsl hs25 h11 hv34 hsl25
  rintro e a wr ⟨rfl, hF, hB, hb6, hb8, hsl, hs25⟩
  repeat with_reducible first | refine wp_seq ?_ | refine nThen ?_ | refine nBlk ?_ | refine wp_skip ?_ | refine wp_block ?_ | refine wp_exit ?_ | refine xThen ?_ | refine xHere ?_ | refine wp_ret ?_ | refine rThen ?_
  refine' reg_all hF ?_ mixed (by kernel_rfl) ?_
  rotate_left
  · repeat (first
        | exact Line.nil
        | ((refine' Line.cons rfl (.run rfl rfl ?_) ?_)
           any_goals (first | exact cMove rfl rfl | exact cAssign rfl rfl | exact cAdd (r := ((k + 1 : Nat) : Int)) rfl rfl rfl (by omega) | exact cLss rfl rfl rfl | exact cNeq rfl rfl rfl)
           rotate_left))
  intro a w17 hF hb hN
  have hBs := hB.size
  replace hB := hB.trans (hb.mono hB.size)
  dsimp only [ext, Option.getD] at hF
  repeat with_reducible first | refine wp_seq ?_ | refine nThen ?_ | refine nBlk ?_ | refine wp_skip ?_ | refine wp_block ?_ | refine wp_exit ?_ | refine xThen ?_ | refine xHere ?_ | refine wp_ret ?_ | refine rThen ?_
  refine ⟨m - 1, by omega, k + 1, by omega, hF.keep [0, 1, 6, 8, 25, 26, 27], hB, hb6.below hb, hb8.below hb, ?_, hs25.below hb⟩
  rw [hnx]
  exact hsl.below hb
end Go.Proofs.Ytmlbkcpmgcjblaa

/- The laws' helpers of layers 15 to 18 by types: cellOf, tableOf, sameT, few. -/
namespace Go.Proofs.Ytmlbkcpmgcjblaa
open Go.RowKit

/-- A value of one cell is stored into a field of a variable of the call's own. -/
theorem tlStoreF {P : Program} {ops : Array Oper} {Q : Exit → Act → World → Prop} {rest : List Oper} {o : Oper} {a : Act} {w : World} {N : Nat} {Γ : Ctx} {ty t : TypeId} {p : Nat} {y : Operand} {g k : Nat} {cs : Array Value} {v : Value} {Δ : Ctx} (hF : Fr N Γ a w) (hg : o.guard = none) (hd : o.dst = none) (ho : o.op = .store ty (.tmp p) y) (hp : look Γ p = some (Ty.ex (.pointer (some ⟨g, k, none⟩)))) (hy : a.eval y = v)
    (hB : Blk w g t cs) (hk : k + v.cells.size ≤ cs.size) (hi : (P.info? ty).map (·.size) = some v.cells.size) (h1 : v.cells.all (·.oneCell') = true) (hΔ : Fr N Δ a w) (hfree : Δ.free t = true)
    (hq : ∀ w', Fr N Δ a w' → Blk w' g t (splice cs k v.cells.toList) → Keeps [g] w w' → wpList P ops Q rest a w') : wpList P ops Q (o :: rest) a w := by
  refine wpList_plain hg fun K hK => ?_
  unfold Oper.wp execOp
  simp only [ho, hF.getEx hp, hy, Instr.storeAt, Instr.sureAddr, Sem.run_bind, Sem.run_pure, Result.andThen_ok, storeVar_cells ty _ v, run_storeVar_mid w g k ty v.cells (hB.there hk) hi h1]
  have h2 := hB.setCells v.cells.toList k
  have h3 : Keeps [g] w (w.setCells g k v.cells.toList) := Keeps.setCells (.inl (by simp)) _ _ (Keeps.refl _ _)
  refine hK _ _ ?_
  rw [hd]
  refine hq _ (hΔ.free h3 (fun b hb _ => ?_) hfree) h2 h3
  simp only [List.mem_singleton] at hb
  subst hb
  exact ⟨cs, (0, 0), hB⟩
theorem sl_cells {v : Value} (h : ∃ A l c, v = .slice A l c) : v.cells = #[v] := by
  obtain ⟨A, l, c, rfl⟩ := h
  rfl
theorem sl_one1 {v : Value} (h : ∃ A l c, v = .slice A l c) : v.cells.all (·.oneCell') = true := by
  obtain ⟨A, l, c, rfl⟩ := h
  simp [Value.cells, Value.oneCell']
theorem splice2 (a b v : Value) (h : v.cells = #[v]) : splice #[a, b] 1 v.cells.toList = #[a, v] := by rw [h]; rfl
theorem seg_isA {w : World} {e : TypeId} {sz n : Nat} {v : Value} {xs : List Value} {S : List Nat} (h : Seg w e sz v n xs S) : ∃ A l c, v = .slice A l c := by
  obtain ⟨A, c, h1, _⟩ := h.form
  exact ⟨A, n, c, h1⟩
theorem cBuildC1 {P : Program} {w0 : World} {Γ : Ctx} {o : Oper} {t : TypeId} {x : Operand} {v z : Value} (ho : o.op = .build t #[(0, x)]) (hx : OpT Γ x (Ty.ex v)) (hr : ∀ w : World, (Instr.build t #[(0, v)]).run P w = .ok z w) : OpOk P w0 Γ o (Ty.ex z) :=
  cBuildP (vs := #[(0, v)]) ho (fun a w hs => by
    obtain ⟨v', h1, h2⟩ := hs x _ (by simp [ho, Op.operands]) hx
    have h2 : v' = v := h2
    simp [h1, h2]) hr
set_option maxRecDepth 100000 in
theorem cellOf16_ty (c : Cl) : Fn1 Try.prog 100 (Ty.ex (.agg c.a)) (Ty.ex (.agg c.a)) := by
  refine ⟨fun args w => by kernel_rfl, fun w v hv => ?_⟩
  refine enter_ty 10 [Ty.ex (.agg c.a)] Try.func100 rfl (by kernel_rfl) ⟨hv, trivial⟩ fun a hF => ?_
  have hB := Below.refl w.heap.size w
  repeat with_reducible first | refine wp_seq ?_ | refine nThen ?_ | refine wp_ret ?_
  refine' reg_all hF ?_ mixed (by kernel_rfl) ?_
  rotate_left
  · repeat (first
        | exact Line.nil
        | (refine' Line.cons rfl (.new rfl rfl (run_alloc_i infoC49) rfl) ?_; rotate_left)
        | ((refine' Line.cons rfl (.run rfl rfl ?_) ?_)
           any_goals (first | exact cBoxCl rfl rfl)
           rotate_left))
  intro a w1 hF hb hN
  have hBs := hB.size
  replace hB := hB.trans (hb.mono hB.size)
  dsimp only [ext, Option.getD] at hF
  repeat with_reducible first | refine wp_seq ?_ | refine nThen ?_ | refine wp_ret ?_
  obtain ⟨z, ⟨gx, rfl, hgx, hbx⟩, hF⟩ := hF.open (s := 2) rfl
  repeat with_reducible first | refine wp_seq ?_ | refine nThen ?_ | refine wp_ret ?_
  refine' region_ty 7 mixed (by kernel_rfl) hF ?_ ?_
  rotate_left
  · simp only [List.take_succ_cons, List.take_zero]
    repeat (first
        | exact Line.nil
        | ((refine' Line.cons rfl (.run rfl rfl ?_) ?_)
           any_goals (first | exact cFldN34 rfl (.t rfl) | exact cFldK34 rfl (.t rfl) | exact cFldC34 rfl (.t rfl) | exact cLoadN rfl (.t rfl) | exact cLoadSum rfl (.t rfl) Try.underlying34 sizeS | exact cBuild3 rfl rfl rfl rfl (fun w => buildC49 _ _ _ w))
           rotate_left))
  intro a w2 hF hb hN
  have hBs := hB.size
  replace hB := hB.trans (hb.mono hB.size)
  simp only [List.take_succ_cons, List.take_zero, List.drop_succ_cons, List.drop_zero] at hF hN ⊢
  dsimp only [ext, Option.getD] at hF
  replace hbx := hbx.below hb
  refine tlStoreV (Δ := [(2, Ty.ex (.pointer (some ⟨_, 0, none⟩)))]) hF rfl rfl rfl rfl (hF.getEx (s := 9) rfl) hbx (clSz _ _) ((by show _ = some (Cl.a _).size; rw [Cl.size]; exact info49)) (Cl.one _) (hF.keep [2]) rfl ?_
  intro w3 hF hbx hkx
  refine wpList_nil ?_
  replace hB := below_own hB hkx (by intro y hy; simp only [List.mem_singleton] at hy; omega)
  repeat with_reducible first | refine wp_seq ?_ | refine nThen ?_ | refine wp_ret ?_
  refine retCell hF rfl rfl hbx (Try.underlying105) rfl ((by show _ = some (Cl.a _).size; rw [Cl.size]; exact info49)) ?_
  exact ⟨_, rfl, rfl, hB⟩
set_option maxRecDepth 100000 in
set_option maxHeartbeats 2000000 in
theorem tableOf16_ty (seed : Nat) (L : List Cl) (hL : L.length ≤ 1000000) : FnR1 Try.prog 63 (Ty.tab 87 seed L) (fun w => Ty.tabO w 105 seed L) := by
  refine ⟨fun args w => by kernel_rfl, fun w v ⟨s, hv, hs⟩ => ?_⟩
  subst hv
  let TL := Ty.cls 87 L
  refine enter_ty 27 [Ty.ex (.agg #[.int .u64 (seed : Int), s])] Try.func63 rfl (by kernel_rfl) ⟨rfl, trivial⟩ fun a hF => ?_
  have hB := Below.refl w.heap.size w
  repeat with_reducible first | refine wp_seq ?_ | refine nThen ?_ | refine nBlk ?_ | refine wp_skip ?_ | refine wp_block ?_ | refine wp_exit ?_ | refine xThen ?_ | refine xHere ?_ | refine wp_ret ?_
  refine' reg_all hF ?_ mixed (by kernel_rfl) ?_
  rotate_left
  · repeat (first
        | exact Line.nil
        | (refine' Line.cons rfl (.new rfl rfl (run_alloc_i infoT83) rfl) ?_; rotate_left)
        | ((refine' Line.cons rfl (.run rfl rfl ?_) ?_)
           any_goals (first | exact cMove rfl rfl | exact cAssign rfl rfl | exact cBoxTab rfl rfl | exact cLss rfl rfl rfl)
           rotate_left))
  intro a w1 hF hb hN
  have hBs := hB.size
  replace hB := hB.trans (hb.mono hB.size)
  dsimp only [ext, Option.getD] at hF
  repeat with_reducible first | refine wp_seq ?_ | refine nThen ?_ | refine nBlk ?_ | refine wp_skip ?_ | refine wp_block ?_ | refine wp_exit ?_ | refine xThen ?_ | refine xHere ?_ | refine wp_ret ?_
  obtain ⟨z, ⟨g2, rfl, hg2, hb2⟩, hF⟩ := hF.open (s := 2) rfl
  have hg2 : w.heap.size ≤ g2 := hg2
  obtain ⟨p1, hp1, hF⟩ := hF.open (s := 1) rfl
  have hs1 := TL.below hs hB
  have hB0 := hB
  have hw1 := hB.size
  have hlt2 := hb2.lt
  replace hB := Below.refl w1.heap.size w1
  repeat with_reducible first | refine wp_seq ?_ | refine nThen ?_ | refine nBlk ?_ | refine wp_skip ?_ | refine wp_block ?_ | refine wp_exit ?_ | refine xThen ?_ | refine xHere ?_ | refine wp_ret ?_
  refine' region_ty 4 mixed (by kernel_rfl) hF ?_ ?_
  rotate_left
  · simp only [List.take_succ_cons, List.take_zero]
    repeat (first
        | exact Line.nil
        | (refine' Line.cons rfl (.new rfl rfl (run_alloc_i infoT83) rfl) ?_; rotate_left)
        | ((refine' Line.cons rfl (.run rfl rfl ?_) ?_)
           any_goals (first | exact cMove rfl rfl | exact cAssign rfl rfl | exact cFldS46 rfl (.l rfl hp1) | exact cLoadU64 rfl (.t rfl) | exact cBuildC1 rfl rfl (fun w => buildTs83 _ w) | exact cLss rfl rfl rfl)
           rotate_left))
  intro a w2 hF hb hN
  have hBs := hB.size
  replace hB := hB.trans (hb.mono hB.size)
  simp only [List.take_succ_cons, List.take_zero, List.drop_succ_cons, List.drop_zero] at hF hN ⊢
  dsimp only [ext, Option.getD] at hF
  obtain ⟨z, ⟨g3, rfl, hg3, hb3⟩, hF⟩ := hF.open (s := 3) rfl
  have hg3 : w1.heap.size ≤ g3 := hg3
  refine tlStoreV (Δ := [(1, Ty.ex p1), (2, Ty.ex (.pointer (some ⟨g2, 0, none⟩))), (3, Ty.ex (.pointer (some ⟨g3, 0, none⟩)))]) hF rfl rfl rfl rfl (hF.getEx (s := 7) rfl) hb3 rfl sizeT83 (tabCells seed _ _ _) (hF.keep [1, 2, 3]) rfl ?_
  intro w3 hF hb3 hkx
  refine wpList_nil ?_
  replace hB := below_own hB hkx (by intro y hy; simp only [List.mem_singleton] at hy; omega)
  replace hb3 : Blk w3 g3 52 #[.int .u64 (seed : Int), .slice none 0 0] := hb3
  clear hkx
  repeat with_reducible first | refine wp_seq ?_ | refine nThen ?_ | refine nBlk ?_ | refine wp_skip ?_ | refine wp_block ?_ | refine wp_exit ?_ | refine xThen ?_ | refine xHere ?_ | refine wp_ret ?_
  refine' reg_all hF ?_ mixed (by kernel_rfl) ?_
  rotate_left
  · repeat (first
        | exact Line.nil
        | ((refine' Line.cons rfl (.run rfl rfl ?_) ?_)
           any_goals (first | exact cMove rfl rfl | exact cAssign rfl rfl | exact cLss rfl rfl rfl)
           rotate_left))
  intro a w4 hF hb hN
  have hBs := hB.size
  replace hB := hB.trans (hb.mono hB.size)
  dsimp only [ext, Option.getD] at hF
  repeat with_reducible first | refine wp_seq ?_ | refine nThen ?_ | refine nBlk ?_ | refine wp_skip ?_ | refine wp_block ?_ | refine wp_exit ?_ | refine xThen ?_ | refine xHere ?_ | refine wp_ret ?_
  replace hb3 := hb3.below hb
  refine loop_ty (fun m a wr => ∃ (i : Nat) (u : Value) (S : List Nat), i + m = L.length ∧ Fr 27 [(1, Ty.ex p1), (2, Ty.ex (.pointer (some ⟨g2, 0, none⟩))), (3, Ty.ex (.pointer (some ⟨g3, 0, none⟩))), (4, Ty.ex (.int .i64 (i : Int)))] a wr ∧ Below w1.heap.size w1 wr ∧ Blk wr g3 52 #[.int .u64 (seed : Int), u] ∧ Seg wr 105 65 u i (flatC (L.take i)) S ∧ ∀ y ∈ S, w1.heap.size ≤ y) L.length ?_ ?_
  · exact ⟨0, _, [], by omega, hF.keep [1, 2, 3, 4], hB, hb3, Seg.nil _ _ _, by simp⟩
  clear hF hB hb3
  rintro m a wr ⟨i, u, S, hi, hF, hB, hb3, hseg, hS⟩
  have hp := (Ty.at_ 41 [.int .u64 (seed : Int), s]).below hp1 hB
  have hsr := TL.below hs1 hB
  repeat with_reducible first | refine wp_seq ?_ | refine nThen ?_ | refine nBlk ?_ | refine wp_skip ?_ | refine wp_block ?_ | refine wp_exit ?_ | refine xThen ?_ | refine xHere ?_ | refine wp_ret ?_
  refine' reg_all hF ?_ mixed (by kernel_rfl) ?_
  rotate_left
  · repeat (first
        | exact Line.nil
        | ((refine' Line.cons rfl (.run rfl rfl ?_) ?_)
           any_goals (first | exact cMove rfl rfl | exact cAssign rfl rfl | exact cFldL46 rfl (.l rfl hp) | exact cRowOf46 rfl (.t rfl) | exact cLenH rfl (.l rfl hsr) (Ty.sl_isSl _ _ _) Try.underlying39 | exact cLss rfl rfl rfl)
           rotate_left))
  intro a w5 hF hb hN
  have hBs := hB.size
  replace hB := hB.trans (hb.mono hB.size)
  dsimp only [ext, Option.getD] at hF
  repeat with_reducible first | refine wp_seq ?_ | refine nThen ?_ | refine nBlk ?_ | refine wp_skip ?_ | refine wp_block ?_ | refine wp_exit ?_ | refine xThen ?_ | refine xHere ?_ | refine wp_ret ?_
  replace hb3 := hb3.below hb
  replace hseg := hseg.below hb
  replace hp := (Ty.at_ 41 [.int .u64 (seed : Int), s]).below hp1 hB
  replace hsr := TL.below hs1 hB
  have h3 : (Ty.at_ 52 [.int .u64 (seed : Int), u]).p w5 (.pointer (some ⟨g3, 0, none⟩)) := blk_at hb3
  refine cond_ty hF rfl (fun hlt => ?_) (fun hge => ?_)
  · have hlt : i < L.length := by have := of_decide_eq_true hlt; omega
    have hsn := flatC_snoc L hlt
    have hC := cellOf16_ty (L.getD i default)
    repeat with_reducible first | refine wp_seq ?_ | refine nThen ?_ | refine nBlk ?_ | refine wp_skip ?_ | refine wp_block ?_ | refine wp_exit ?_ | refine xThen ?_ | refine xHere ?_ | refine wp_ret ?_
    refine' region_ty 9 mixed (by kernel_rfl) hF ?_ ?_
    rotate_left
    · simp only [List.take_succ_cons, List.take_zero]
      repeat (first
          | exact Line.nil
          | ((refine' Line.cons rfl (.run rfl rfl ?_) ?_)
             any_goals (first | exact cMove rfl rfl | exact cAssign rfl rfl | exact cFldL46 rfl (.l rfl hp) | exact cRowOf46 rfl (.t rfl) | exact cFldL83 rfl (.l rfl h3) | exact cRowOf83 rfl (.t rfl) | exact cIndexCl (k := i) rfl (.l rfl hsr) rfl Try.underlying39 info34 hlt | exact cLoadCl34 rfl (.t rfl) | exact cCall1 rfl rfl hC | exact cBuildCl1 rfl rfl Try.underlying50 infoC49 | exact cLss rfl rfl rfl)
             rotate_left))
    intro a w6 hF hb hN
    have hBs := hB.size
    replace hB := hB.trans (hb.mono hB.size)
    simp only [List.take_succ_cons, List.take_zero, List.drop_succ_cons, List.drop_zero] at hF hN ⊢
    dsimp only [ext, Option.getD] at hF
    replace hb3 := hb3.below hb
    replace hseg := hseg.below hb
    have hf3 := seg_far hseg hb3 (by decide)
    refine tlAppend (Δ := [(1, Ty.ex p1), (2, Ty.ex (.pointer (some ⟨g2, 0, none⟩))), (3, Ty.ex (.pointer (some ⟨g3, 0, none⟩))), (4, Ty.ex (.int .i64 (i : Int)))]) (n := i) (m := 1) (news := flatC [L.getD i default]) hF rfl rfl rfl rfl Try.underlying50 infoC49 zero65_cells rfl hseg (.t rfl) sl_news (flatC_len _) flatC_one' (by simp [maxLen]; omega) (by omega) (hF.keep [1, 2, 3, 4]) rfl ?_
    intro a w7 u' S' hF hseg' hk7 hS'
    replace hb3 := hb3.keeps hk7 (fun hm => hf3 g3 hm (by simp))
    have hbS : ∀ y ∈ S', w1.heap.size ≤ y := own_next hB hS hS'
    replace hB := below_own hB hk7 hS
    rw [flatC_one, hsn] at hseg'
    refine' tlOp hF rfl rfl rfl ?_ ?_
    rotate_left
    · first | exact cFieldExE rfl rfl Try.underlying52 rfl size_row83 | exact cMove rfl rfl | exact cAssign rfl rfl | exact cLss rfl rfl rfl
    intro a w8 hF hb
    have hBs := hB.size
    replace hB := hB.trans (hb.mono hB.size)
    try (refine wpList_nil ?_)
    repeat with_reducible first | refine wp_seq ?_ | refine nThen ?_ | refine nBlk ?_ | refine wp_skip ?_ | refine wp_block ?_ | refine wp_exit ?_ | refine xThen ?_ | refine xHere ?_ | refine wp_ret ?_
    replace hb3 := hb3.below hb
    replace hseg' := hseg'.below hb
    have hcu := sl_cells (seg_isA hseg')
    refine tlStoreF (k := 0 + 1) (Δ := [(1, Ty.ex p1), (2, Ty.ex (.pointer (some ⟨g2, 0, none⟩))), (3, Ty.ex (.pointer (some ⟨g3, 0, none⟩))), (4, Ty.ex (.int .i64 (i : Int)))]) hF rfl rfl rfl rfl (hF.getEx (s := 24) rfl) hb3 (by rw [hcu]; exact Nat.le_refl 2) (by rw [hcu]; exact size_row83) (sl_one1 (seg_isA hseg')) (hF.keep [1, 2, 3, 4]) rfl ?_
    intro w9 hF hb3' hk9
    refine wpList_nil ?_
    replace hseg' := hseg'.keeps hk9 (seg_far hseg' hb3 (by decide))
    replace hB := below_own hB hk9 (by intro y hy; simp only [List.mem_singleton] at hy; omega)
    replace hb3 : Blk w9 g3 52 #[.int .u64 (seed : Int), u'] := by
      rw [Nat.zero_add, splice2 _ _ _ hcu] at hb3'
      exact hb3'
    repeat with_reducible first | refine wp_seq ?_ | refine nThen ?_ | refine nBlk ?_ | refine wp_skip ?_ | refine wp_block ?_ | refine wp_exit ?_ | refine xThen ?_ | refine xHere ?_ | refine wp_ret ?_
    refine' reg_all hF ?_ mixed (by kernel_rfl) ?_
    rotate_left
    · repeat (first
          | exact Line.nil
          | ((refine' Line.cons rfl (.run rfl rfl ?_) ?_)
             any_goals (first | exact cMove rfl rfl | exact cAssign rfl rfl | exact cAdd (r := ((i + 1 : Nat) : Int)) rfl rfl rfl (by omega) | exact cLss rfl rfl rfl)
             rotate_left))
    intro a w10 hF hb hN
    have hBs := hB.size
    replace hB := hB.trans (hb.mono hB.size)
    dsimp only [ext, Option.getD] at hF
    repeat with_reducible first | refine wp_seq ?_ | refine nThen ?_ | refine nBlk ?_ | refine wp_skip ?_ | refine wp_block ?_ | refine wp_exit ?_ | refine xThen ?_ | refine xHere ?_ | refine wp_ret ?_
    exact ⟨m - 1, by omega, i + 1, u', S', by omega, hF.keep [1, 2, 3, 4], hB, hb3.below hb, hseg'.below hb, hbS⟩
  have hge : ¬ i < L.length := by have := of_decide_eq_false hge; omega
  obtain rfl : i = L.length := by omega
  rw [List.take_length] at hseg
  replace hb2 : Blk w5 g2 52 #[.int .u64 0, .slice none 0 0] := hb2.below hB
  replace hB := hB0.trans (hB.mono hw1)
  repeat with_reducible first | refine wp_seq ?_ | refine nThen ?_ | refine nBlk ?_ | refine wp_skip ?_ | refine wp_block ?_ | refine wp_exit ?_ | refine xThen ?_ | refine xHere ?_ | refine wp_ret ?_
  refine wp_region_lit ?_
  refine' tlOp hF rfl rfl rfl ?_ ?_
  rotate_left
  · first | exact cLoadT83 rfl (.l rfl h3) | exact cMove rfl rfl | exact cAssign rfl rfl | exact cLss rfl rfl rfl
  intro a w6 hF hb
  have hBs := hB.size
  replace hB := hB.trans (hb.mono hB.size)
  try (refine wpList_nil ?_)
  repeat with_reducible first | refine wp_seq ?_ | refine nThen ?_ | refine nBlk ?_ | refine wp_skip ?_ | refine wp_block ?_ | refine wp_exit ?_ | refine xThen ?_ | refine xHere ?_ | refine wp_ret ?_
  replace hb2 := hb2.below hb
  replace hseg := hseg.below hb
  refine tlStoreV (Δ := [(2, Ty.ex (.pointer (some ⟨g2, 0, none⟩)))]) hF rfl rfl rfl rfl (hF.getEx (s := 26) rfl) hb2 rfl sizeT83 (sl_one hseg.sl _) (hF.keep [2]) rfl ?_
  intro w7 hF hb2' hkx
  refine wpList_nil ?_
  replace hB := below_own hB hkx (by intro y hy; simp only [List.mem_singleton] at hy; omega)
  replace hseg := hseg.keeps hkx (seg_far hseg hb2 (by decide))
  repeat with_reducible first | refine wp_seq ?_ | refine nThen ?_ | refine nBlk ?_ | refine wp_skip ?_ | refine wp_block ?_ | refine wp_exit ?_ | refine xThen ?_ | refine xHere ?_ | refine wp_ret ?_
  refine retCell hF rfl rfl hb2' Try.underlying52 rfl sizeT83 ?_
  exact ⟨_, rfl, ⟨u, rfl, S, hseg, fun y hy => Nat.le_trans hw1 (hS y hy)⟩, hB⟩
set_option maxRecDepth 100000 in
set_option maxHeartbeats 2000000 in
theorem sameT16_ty (sa sb : Nat) (A B : List Cl) (hA : A.length ≤ 1000000) : Fn2 Try.prog 62 (Ty.tab 105 sa A) (Ty.tab 105 sb B) (Ty.ex (.bool (decide (sa = sb) && decide (A = B)))) := by
  refine ⟨fun args w => by kernel_rfl, fun w v u ⟨s, hv, hs⟩ ⟨s2, hu, hs2⟩ => ?_⟩
  subst hv hu
  let TA := Ty.cls 105 A
  let TB := Ty.cls 105 B
  by_cases hse : sa = sb
  rotate_left
  · rw [decide_eq_false hse, Bool.false_and]
    have e1 : (!decide ((sa : Int) = (sb : Int))) = true := by rw [decide_eq_false (by omega)]; rfl
    refine enter_ty 38 [Ty.ex (.agg #[.int .u64 (sa : Int), s]), Ty.ex (.agg #[.int .u64 (sb : Int), s2])] Try.func62 rfl (by kernel_rfl) ⟨rfl, rfl, trivial⟩ fun a hF => ?_
    have hB := Below.refl w.heap.size w
    repeat with_reducible first | refine wp_seq ?_ | refine nThen ?_ | refine nBlk ?_ | refine wp_skip ?_ | refine wp_block ?_ | refine wp_exit ?_ | refine xThen ?_ | refine xHere ?_ | refine wp_ret ?_ | refine rThen ?_ | refine rBlk ?_
    refine' reg_all hF ?_ mixed (by kernel_rfl) ?_
    rotate_left
    · repeat (first
          | exact Line.nil
          | (refine' Line.cons rfl (.no rfl rfl rfl rfl rfl rfl) ?_; rotate_left)
          | ((first | refine' Line.cons rfl (.run rfl rfl ?_) ?_ | refine' Line.cons rfl (.yes rfl rfl rfl rfl ?_) ?_)
             any_goals (first | exact cMove rfl rfl | exact cAssign rfl rfl | exact cBoxTab rfl rfl | exact cPickT rfl rfl rfl | exact cPickF rfl rfl rfl | exact cLss rfl rfl rfl | exact cNeq rfl rfl rfl)
             rotate_left))
    intro a w1 hF hb hN
    have hBs := hB.size
    replace hB := hB.trans (hb.mono hB.size)
    dsimp only [ext, Option.getD] at hF
    repeat with_reducible first | refine wp_seq ?_ | refine nThen ?_ | refine nBlk ?_ | refine wp_skip ?_ | refine wp_block ?_ | refine wp_exit ?_ | refine xThen ?_ | refine xHere ?_ | refine wp_ret ?_ | refine rThen ?_ | refine rBlk ?_
    refine' reg_all hF ?_ mixed (by kernel_rfl) ?_
    rotate_left
    · repeat (first
          | exact Line.nil
          | (refine' Line.cons rfl (.no rfl rfl rfl rfl rfl rfl) ?_; rotate_left)
          | ((first | refine' Line.cons rfl (.run rfl rfl ?_) ?_ | refine' Line.cons rfl (.yes rfl rfl rfl rfl ?_) ?_)
             any_goals (first | exact cMove rfl rfl | exact cAssign rfl rfl | exact cFldS83 rfl (.t rfl) | exact cLoadU64 rfl (.t rfl) | exact OpOk.b (cNeq rfl rfl rfl) e1 | exact cPickT rfl rfl rfl | exact cPickF rfl rfl rfl | exact cLss rfl rfl rfl | exact cNeq rfl rfl rfl)
             rotate_left))
    intro a w2 hF hb hN
    have hBs := hB.size
    replace hB := hB.trans (hb.mono hB.size)
    dsimp only [ext, Option.getD] at hF
    repeat with_reducible first | refine wp_seq ?_ | refine nThen ?_ | refine nBlk ?_ | refine wp_skip ?_ | refine wp_block ?_ | refine wp_exit ?_ | refine xThen ?_ | refine xHere ?_ | refine wp_ret ?_ | refine rThen ?_ | refine rBlk ?_
    refine cond_t hF rfl ?_
    repeat with_reducible first | refine wp_seq ?_ | refine nThen ?_ | refine nBlk ?_ | refine wp_skip ?_ | refine wp_block ?_ | refine wp_exit ?_ | refine xThen ?_ | refine xHere ?_ | refine wp_ret ?_ | refine rThen ?_ | refine rBlk ?_
    refine' reg_all hF ?_ mixed (by kernel_rfl) ?_
    rotate_left
    · repeat (first
          | exact Line.nil
          | (refine' Line.cons rfl (.no rfl rfl rfl rfl rfl rfl) ?_; rotate_left)
          | ((first | refine' Line.cons rfl (.run rfl rfl ?_) ?_ | refine' Line.cons rfl (.yes rfl rfl rfl rfl ?_) ?_)
             any_goals (first | exact cMove rfl rfl | exact cAssign rfl rfl | exact cPickT rfl rfl rfl | exact cPickF rfl rfl rfl | exact cLss rfl rfl rfl | exact cNeq rfl rfl rfl)
             rotate_left))
    intro a w3 hF hb hN
    have hBs := hB.size
    replace hB := hB.trans (hb.mono hB.size)
    dsimp only [ext, Option.getD] at hF
    repeat with_reducible first | refine wp_seq ?_ | refine nThen ?_ | refine nBlk ?_ | refine wp_skip ?_ | refine wp_block ?_ | refine wp_exit ?_ | refine xThen ?_ | refine xHere ?_ | refine wp_ret ?_ | refine rThen ?_ | refine rBlk ?_
    refine ret1 hF rfl rfl fun z hz => ?_
    exact ⟨z, rfl, hz, hB⟩
  subst hse
  have e1 : (!decide ((sa : Int) = (sa : Int))) = false := by rw [decide_eq_true rfl]; rfl
  rw [decide_eq_true rfl, Bool.true_and]
  by_cases hlen : A.length = B.length
  rotate_left
  · rw [decide_eq_false (fun h => hlen (by rw [h]))]
    have e2 : (!decide ((A.length : Int) = (B.length : Int))) = true := by rw [decide_eq_false (by omega)]; rfl
    refine enter_ty 38 [Ty.ex (.agg #[.int .u64 (sa : Int), s]), Ty.ex (.agg #[.int .u64 (sa : Int), s2])] Try.func62 rfl (by kernel_rfl) ⟨rfl, rfl, trivial⟩ fun a hF => ?_
    have hB := Below.refl w.heap.size w
    repeat with_reducible first | refine wp_seq ?_ | refine nThen ?_ | refine nBlk ?_ | refine wp_skip ?_ | refine wp_block ?_ | refine wp_exit ?_ | refine xThen ?_ | refine xHere ?_ | refine wp_ret ?_ | refine rThen ?_ | refine rBlk ?_
    refine' reg_all hF ?_ mixed (by kernel_rfl) ?_
    rotate_left
    · repeat (first
          | exact Line.nil
          | (refine' Line.cons rfl (.no rfl rfl rfl rfl rfl rfl) ?_; rotate_left)
          | ((first | refine' Line.cons rfl (.run rfl rfl ?_) ?_ | refine' Line.cons rfl (.yes rfl rfl rfl rfl ?_) ?_)
             any_goals (first | exact cMove rfl rfl | exact cAssign rfl rfl | exact cBoxTab rfl rfl | exact cPickT rfl rfl rfl | exact cPickF rfl rfl rfl | exact cLss rfl rfl rfl | exact cNeq rfl rfl rfl)
             rotate_left))
    intro a w1 hF hb hN
    have hBs := hB.size
    replace hB := hB.trans (hb.mono hB.size)
    dsimp only [ext, Option.getD] at hF
    repeat with_reducible first | refine wp_seq ?_ | refine nThen ?_ | refine nBlk ?_ | refine wp_skip ?_ | refine wp_block ?_ | refine wp_exit ?_ | refine xThen ?_ | refine xHere ?_ | refine wp_ret ?_ | refine rThen ?_ | refine rBlk ?_
    have hs1 := TA.below hs hB
    have hs21 := TB.below hs2 hB
    refine' reg_all hF ?_ mixed (by kernel_rfl) ?_
    rotate_left
    · repeat (first
          | exact Line.nil
          | (refine' Line.cons rfl (.no rfl rfl rfl rfl rfl rfl) ?_; rotate_left)
          | ((first | refine' Line.cons rfl (.run rfl rfl ?_) ?_ | refine' Line.cons rfl (.yes rfl rfl rfl rfl ?_) ?_)
             any_goals (first | exact cMove rfl rfl | exact cAssign rfl rfl | exact cFldS83 rfl (.t rfl) | exact cLoadU64 rfl (.t rfl) | exact OpOk.b (cNeq rfl rfl rfl) e1 | exact cFldL83 rfl (.t rfl) | exact cRowOf83 rfl (.t rfl) | exact cLenH rfl (.l rfl hs1) (Ty.sl_isSl _ _ _) Try.underlying50 | exact cLenH rfl (.l rfl hs21) (Ty.sl_isSl _ _ _) Try.underlying50 | exact OpOk.b (cNeq rfl rfl rfl) e2 | exact cPickT rfl rfl rfl | exact cPickF rfl rfl rfl | exact cLss rfl rfl rfl | exact cNeq rfl rfl rfl)
             rotate_left))
    intro a w2 hF hb hN
    have hBs := hB.size
    replace hB := hB.trans (hb.mono hB.size)
    dsimp only [ext, Option.getD] at hF
    repeat with_reducible first | refine wp_seq ?_ | refine nThen ?_ | refine nBlk ?_ | refine wp_skip ?_ | refine wp_block ?_ | refine wp_exit ?_ | refine xThen ?_ | refine xHere ?_ | refine wp_ret ?_ | refine rThen ?_ | refine rBlk ?_
    refine cond_t hF rfl ?_
    repeat with_reducible first | refine wp_seq ?_ | refine nThen ?_ | refine nBlk ?_ | refine wp_skip ?_ | refine wp_block ?_ | refine wp_exit ?_ | refine xThen ?_ | refine xHere ?_ | refine wp_ret ?_ | refine rThen ?_ | refine rBlk ?_
    refine' reg_all hF ?_ mixed (by kernel_rfl) ?_
    rotate_left
    · repeat (first
          | exact Line.nil
          | (refine' Line.cons rfl (.no rfl rfl rfl rfl rfl rfl) ?_; rotate_left)
          | ((first | refine' Line.cons rfl (.run rfl rfl ?_) ?_ | refine' Line.cons rfl (.yes rfl rfl rfl rfl ?_) ?_)
             any_goals (first | exact cMove rfl rfl | exact cAssign rfl rfl | exact cPickT rfl rfl rfl | exact cPickF rfl rfl rfl | exact cLss rfl rfl rfl | exact cNeq rfl rfl rfl)
             rotate_left))
    intro a w3 hF hb hN
    have hBs := hB.size
    replace hB := hB.trans (hb.mono hB.size)
    dsimp only [ext, Option.getD] at hF
    repeat with_reducible first | refine wp_seq ?_ | refine nThen ?_ | refine nBlk ?_ | refine wp_skip ?_ | refine wp_block ?_ | refine wp_exit ?_ | refine xThen ?_ | refine xHere ?_ | refine wp_ret ?_ | refine rThen ?_ | refine rBlk ?_
    refine ret1 hF rfl rfl fun z hz => ?_
    exact ⟨z, rfl, hz, hB⟩
  have e2 : (!decide ((A.length : Int) = (B.length : Int))) = false := by rw [decide_eq_true (by omega)]; rfl
  refine enter_ty 38 [Ty.ex (.agg #[.int .u64 (sa : Int), s]), Ty.ex (.agg #[.int .u64 (sa : Int), s2])] Try.func62 rfl (by kernel_rfl) ⟨rfl, rfl, trivial⟩ fun a hF => ?_
  have hB := Below.refl w.heap.size w
  repeat with_reducible first | refine wp_seq ?_ | refine nThen ?_ | refine nBlk ?_ | refine wp_skip ?_ | refine wp_block ?_ | refine wp_exit ?_ | refine xThen ?_ | refine xHere ?_ | refine wp_ret ?_ | refine rThen ?_ | refine rBlk ?_
  refine' reg_all hF ?_ mixed (by kernel_rfl) ?_
  rotate_left
  · repeat (first
        | exact Line.nil
        | (refine' Line.cons rfl (.no rfl rfl rfl rfl rfl rfl) ?_; rotate_left)
        | ((first | refine' Line.cons rfl (.run rfl rfl ?_) ?_ | refine' Line.cons rfl (.yes rfl rfl rfl rfl ?_) ?_)
           any_goals (first | exact cMove rfl rfl | exact cAssign rfl rfl | exact cBoxTab rfl rfl | exact cPickT rfl rfl rfl | exact cPickF rfl rfl rfl | exact cLss rfl rfl rfl | exact cNeq rfl rfl rfl)
           rotate_left))
  intro a w1 hF hb hN
  have hBs := hB.size
  replace hB := hB.trans (hb.mono hB.size)
  dsimp only [ext, Option.getD] at hF
  repeat with_reducible first | refine wp_seq ?_ | refine nThen ?_ | refine nBlk ?_ | refine wp_skip ?_ | refine wp_block ?_ | refine wp_exit ?_ | refine xThen ?_ | refine xHere ?_ | refine wp_ret ?_ | refine rThen ?_ | refine rBlk ?_
  have hs1 := TA.below hs hB
  have hs21 := TB.below hs2 hB
  refine' reg_all hF ?_ mixed (by kernel_rfl) ?_
  rotate_left
  · repeat (first
        | exact Line.nil
        | (refine' Line.cons rfl (.no rfl rfl rfl rfl rfl rfl) ?_; rotate_left)
        | ((first | refine' Line.cons rfl (.run rfl rfl ?_) ?_ | refine' Line.cons rfl (.yes rfl rfl rfl rfl ?_) ?_)
           any_goals (first | exact cMove rfl rfl | exact cAssign rfl rfl | exact cFldS83 rfl (.t rfl) | exact cLoadU64 rfl (.t rfl) | exact OpOk.b (cNeq rfl rfl rfl) e1 | exact cFldL83 rfl (.t rfl) | exact cRowOf83 rfl (.t rfl) | exact cLenH rfl (.l rfl hs1) (Ty.sl_isSl _ _ _) Try.underlying50 | exact cLenH rfl (.l rfl hs21) (Ty.sl_isSl _ _ _) Try.underlying50 | exact OpOk.b (cNeq rfl rfl rfl) e2 | exact cPickT rfl rfl rfl | exact cPickF rfl rfl rfl | exact cLss rfl rfl rfl | exact cNeq rfl rfl rfl)
           rotate_left))
  intro a w2 hF hb hN
  have hBs := hB.size
  replace hB := hB.trans (hb.mono hB.size)
  dsimp only [ext, Option.getD] at hF
  repeat with_reducible first | refine wp_seq ?_ | refine nThen ?_ | refine nBlk ?_ | refine wp_skip ?_ | refine wp_block ?_ | refine wp_exit ?_ | refine xThen ?_ | refine xHere ?_ | refine wp_ret ?_ | refine rThen ?_ | refine rBlk ?_
  refine cond_f hF rfl ?_
  repeat with_reducible first | refine wp_seq ?_ | refine nThen ?_ | refine nBlk ?_ | refine wp_skip ?_ | refine wp_block ?_ | refine wp_exit ?_ | refine xThen ?_ | refine xHere ?_ | refine wp_ret ?_ | refine rThen ?_ | refine rBlk ?_
  refine' reg_all hF ?_ mixed (by kernel_rfl) ?_
  rotate_left
  · repeat (first
        | exact Line.nil
        | (refine' Line.cons rfl (.no rfl rfl rfl rfl rfl rfl) ?_; rotate_left)
        | ((first | refine' Line.cons rfl (.run rfl rfl ?_) ?_ | refine' Line.cons rfl (.yes rfl rfl rfl rfl ?_) ?_)
           any_goals (first | exact cMove rfl rfl | exact cAssign rfl rfl | exact cPickT rfl rfl rfl | exact cPickF rfl rfl rfl | exact cLss rfl rfl rfl | exact cNeq rfl rfl rfl)
           rotate_left))
  intro a w3 hF hb hN
  have hBs := hB.size
  replace hB := hB.trans (hb.mono hB.size)
  dsimp only [ext, Option.getD] at hF
  repeat with_reducible first | refine wp_seq ?_ | refine nThen ?_ | refine nBlk ?_ | refine wp_skip ?_ | refine wp_block ?_ | refine wp_exit ?_ | refine xThen ?_ | refine xHere ?_ | refine wp_ret ?_ | refine rThen ?_ | refine rBlk ?_
  refine loop_ty (fun m a wr => ∃ k : Nat, k + m = A.length ∧ Fr 38 [(2, Ty.at_ 52 [.int .u64 (sa : Int), s]), (3, Ty.at_ 52 [.int .u64 (sa : Int), s2]), (5, Ty.ex (.int .i64 (k : Int)))] a wr ∧ Below w.heap.size w wr ∧ ∀ j, j < k → A.getD j default = B.getD j default) A.length ?_ ?_
  · exact ⟨0, by omega, hF.keep [2, 3, 5], hB, fun j hj => by omega⟩
  clear hF hB hs1 hs21
  rintro m a wr ⟨k, hk, hF, hB, hlo⟩
  have hsr := TA.below hs hB
  repeat with_reducible first | refine wp_seq ?_ | refine nThen ?_ | refine nBlk ?_ | refine wp_skip ?_ | refine wp_block ?_ | refine wp_exit ?_ | refine xThen ?_ | refine xHere ?_ | refine wp_ret ?_ | refine rThen ?_ | refine rBlk ?_
  refine' reg_all hF ?_ mixed (by kernel_rfl) ?_
  rotate_left
  · repeat (first
        | exact Line.nil
        | (refine' Line.cons rfl (.no rfl rfl rfl rfl rfl rfl) ?_; rotate_left)
        | ((first | refine' Line.cons rfl (.run rfl rfl ?_) ?_ | refine' Line.cons rfl (.yes rfl rfl rfl rfl ?_) ?_)
           any_goals (first | exact cMove rfl rfl | exact cAssign rfl rfl | exact cFldL83 rfl (.t rfl) | exact cRowOf83 rfl (.t rfl) | exact cLenH rfl (.l rfl hsr) (Ty.sl_isSl _ _ _) Try.underlying50 | exact cPickT rfl rfl rfl | exact cPickF rfl rfl rfl | exact cLss rfl rfl rfl | exact cNeq rfl rfl rfl)
           rotate_left))
  intro a w4 hF hb hN
  have hBs := hB.size
  replace hB := hB.trans (hb.mono hB.size)
  dsimp only [ext, Option.getD] at hF
  repeat with_reducible first | refine wp_seq ?_ | refine nThen ?_ | refine nBlk ?_ | refine wp_skip ?_ | refine wp_block ?_ | refine wp_exit ?_ | refine xThen ?_ | refine xHere ?_ | refine wp_ret ?_ | refine rThen ?_ | refine rBlk ?_
  replace hsr := TA.below hs hB
  have hs2r := TB.below hs2 hB
  refine cond_ty hF rfl (fun hlt => ?_) (fun hge => ?_)
  · have hlt : k < A.length := by have := of_decide_eq_true hlt; omega
    repeat with_reducible first | refine wp_seq ?_ | refine nThen ?_ | refine nBlk ?_ | refine wp_skip ?_ | refine wp_block ?_ | refine wp_exit ?_ | refine xThen ?_ | refine xHere ?_ | refine wp_ret ?_ | refine rThen ?_ | refine rBlk ?_
    refine' reg_all hF ?_ mixed (by kernel_rfl) ?_
    rotate_left
    · repeat (first
          | exact Line.nil
          | (refine' Line.cons rfl (.no rfl rfl rfl rfl rfl rfl) ?_; rotate_left)
          | ((first | refine' Line.cons rfl (.run rfl rfl ?_) ?_ | refine' Line.cons rfl (.yes rfl rfl rfl rfl ?_) ?_)
             any_goals (first | exact cMove rfl rfl | exact cAssign rfl rfl | exact cFldL83 rfl (.t rfl) | exact cRowOf83 rfl (.t rfl) | exact cIndexCl (k := k) rfl (.l rfl hsr) rfl Try.underlying50 info49 hlt | exact cIndexCl (k := k) rfl (.l rfl hs2r) rfl Try.underlying50 info49 (by omega) | exact cLoadCl49 rfl (.t rfl) | exact cNeqAgg rfl rfl rfl guard49 (fun w => neq_cl49 _ _ w) | exact cPickT rfl rfl rfl | exact cPickF rfl rfl rfl | exact cLss rfl rfl rfl | exact cNeq rfl rfl rfl)
             rotate_left))
    intro a w5 hF hb hN
    have hBs := hB.size
    replace hB := hB.trans (hb.mono hB.size)
    dsimp only [ext, Option.getD] at hF
    repeat with_reducible first | refine wp_seq ?_ | refine nThen ?_ | refine nBlk ?_ | refine wp_skip ?_ | refine wp_block ?_ | refine wp_exit ?_ | refine xThen ?_ | refine xHere ?_ | refine wp_ret ?_ | refine rThen ?_ | refine rBlk ?_
    refine cond_ty hF rfl (fun hbad => ?_) (fun hok => ?_)
    · have hbad : ¬ A.getD k default = B.getD k default := by simpa using hbad
      repeat with_reducible first | refine wp_seq ?_ | refine nThen ?_ | refine nBlk ?_ | refine wp_skip ?_ | refine wp_block ?_ | refine wp_exit ?_ | refine xThen ?_ | refine xHere ?_ | refine wp_ret ?_ | refine rThen ?_ | refine rBlk ?_
      refine' reg_all hF ?_ mixed (by kernel_rfl) ?_
      rotate_left
      · repeat (first
            | exact Line.nil
            | (refine' Line.cons rfl (.no rfl rfl rfl rfl rfl rfl) ?_; rotate_left)
            | ((first | refine' Line.cons rfl (.run rfl rfl ?_) ?_ | refine' Line.cons rfl (.yes rfl rfl rfl rfl ?_) ?_)
               any_goals (first | exact cMove rfl rfl | exact cAssign rfl rfl | exact cPickT rfl rfl rfl | exact cPickF rfl rfl rfl | exact cLss rfl rfl rfl | exact cNeq rfl rfl rfl)
               rotate_left))
      intro a w6 hF hb hN
      have hBs := hB.size
      replace hB := hB.trans (hb.mono hB.size)
      dsimp only [ext, Option.getD] at hF
      repeat with_reducible first | refine wp_seq ?_ | refine nThen ?_ | refine nBlk ?_ | refine wp_skip ?_ | refine wp_block ?_ | refine wp_exit ?_ | refine xThen ?_ | refine xHere ?_ | refine wp_ret ?_ | refine rThen ?_ | refine rBlk ?_
      refine ret1 hF rfl rfl fun z hz => ?_
      exact ⟨z, rfl, by rw [decide_eq_false (show ¬ A = B from fun h => hbad (by rw [h]))]; exact hz, hB⟩
    · have hok : A.getD k default = B.getD k default := by simpa using hok
      repeat with_reducible first | refine wp_seq ?_ | refine nThen ?_ | refine nBlk ?_ | refine wp_skip ?_ | refine wp_block ?_ | refine wp_exit ?_ | refine xThen ?_ | refine xHere ?_ | refine wp_ret ?_ | refine rThen ?_ | refine rBlk ?_
      refine' reg_all hF ?_ mixed (by kernel_rfl) ?_
      rotate_left
      · repeat (first
            | exact Line.nil
            | (refine' Line.cons rfl (.no rfl rfl rfl rfl rfl rfl) ?_; rotate_left)
            | ((first | refine' Line.cons rfl (.run rfl rfl ?_) ?_ | refine' Line.cons rfl (.yes rfl rfl rfl rfl ?_) ?_)
               any_goals (first | exact cMove rfl rfl | exact cAssign rfl rfl | exact cAdd (r := ((k + 1 : Nat) : Int)) rfl rfl rfl (by omega) | exact cPickT rfl rfl rfl | exact cPickF rfl rfl rfl | exact cLss rfl rfl rfl | exact cNeq rfl rfl rfl)
               rotate_left))
      intro a w6 hF hb hN
      have hBs := hB.size
      replace hB := hB.trans (hb.mono hB.size)
      dsimp only [ext, Option.getD] at hF
      repeat with_reducible first | refine wp_seq ?_ | refine nThen ?_ | refine nBlk ?_ | refine wp_skip ?_ | refine wp_block ?_ | refine wp_exit ?_ | refine xThen ?_ | refine xHere ?_ | refine wp_ret ?_ | refine rThen ?_ | refine rBlk ?_
      refine ⟨m - 1, by omega, k + 1, by omega, hF.keep [2, 3, 5], hB, fun j hj => ?_⟩
      by_cases hjk : j < k
      · exact hlo j hjk
      · obtain rfl : j = k := by omega
        exact hok
  · have hge : ¬ k < A.length := by have := of_decide_eq_false hge; omega
    repeat with_reducible first | refine wp_seq ?_ | refine nThen ?_ | refine nBlk ?_ | refine wp_skip ?_ | refine wp_block ?_ | refine wp_exit ?_ | refine xThen ?_ | refine xHere ?_ | refine wp_ret ?_ | refine rThen ?_ | refine rBlk ?_
    refine' reg_all hF ?_ mixed (by kernel_rfl) ?_
    rotate_left
    · repeat (first
          | exact Line.nil
          | (refine' Line.cons rfl (.no rfl rfl rfl rfl rfl rfl) ?_; rotate_left)
          | ((first | refine' Line.cons rfl (.run rfl rfl ?_) ?_ | refine' Line.cons rfl (.yes rfl rfl rfl rfl ?_) ?_)
             any_goals (first | exact cMove rfl rfl | exact cAssign rfl rfl | exact cPickT rfl rfl rfl | exact cPickF rfl rfl rfl | exact cLss rfl rfl rfl | exact cNeq rfl rfl rfl)
             rotate_left))
    intro a w5 hF hb hN
    have hBs := hB.size
    replace hB := hB.trans (hb.mono hB.size)
    dsimp only [ext, Option.getD] at hF
    repeat with_reducible first | refine wp_seq ?_ | refine nThen ?_ | refine nBlk ?_ | refine wp_skip ?_ | refine wp_block ?_ | refine wp_exit ?_ | refine xThen ?_ | refine xHere ?_ | refine wp_ret ?_ | refine rThen ?_ | refine rBlk ?_
    refine ret1 hF rfl rfl fun z hz => ?_
    exact ⟨z, rfl, by rw [decide_eq_true (list_extD hlen fun j hj => hlo j (by omega))]; exact hz, hB⟩
end Go.Proofs.Ytmlbkcpmgcjblaa

/- Layer 14 by types: awake. -/
namespace Go.Proofs.Ytmlbkcpmgcjblaa
open Go.RowKit

section
variable {P : Program} {ops : Array Oper} {Q : Exit → Act → World → Prop} {rest : List Oper} {o o2 : Oper} {a : Act} {w : World} {N : Nat} {Γ : Ctx}
/-- A line whose guard is met. -/
theorem tlOpG {j s d : Nat} {V : Ty} (hF : Fr N Γ a w) (hg : o.guard = some (j, true)) (hj : slotOf ops j = some s) (hs : look Γ s = some (Ty.ex (.bool true))) (hd : o.dst = some d) (hN : decide (d < N) = true) (h : OpOk P w Γ o V) (hk : ∀ a' w', Fr N ((d, V) :: Γ) a' w' → Below w.heap.size w w' → wpList P ops Q rest a' w') : wpList P ops Q (o :: rest) a w := by
  obtain ⟨v, h1, h2⟩ := hF.val s _ hs
  have h2 : v = .bool true := h2
  subst h2
  have hw : Region.wanted o (yielded ops a.tmps) = true := by simp [Region.wanted, hg, yielded_of hj h1]
  refine wpList_step fun K hK => ?_
  rw [if_pos hw]
  exact h a w K Q (Below.refl _ _) (fun s τ _ hs => hF.val s τ hs) fun v w' hv hb => by
    rw [hd]
    exact hK _ _ (hk _ _ (hF.put (of_decide_eq_true hN) hb hv) hb)
end
end Go.Proofs.Ytmlbkcpmgcjblaa

/- Layer 14 by types: the walk of PlaceParts. -/
namespace Go.Proofs.Ytmlbkcpmgcjblaa
open Go.RowKit

end Go.Proofs.Ytmlbkcpmgcjblaa

/- Layer 14 by types: the document's Places. -/
namespace Go.Proofs.Ytmlbkcpmgcjblaa
open Go.RowKit

end Go.Proofs.Ytmlbkcpmgcjblaa

/- Layer 15 by types: the document's Minus, Put. -/
namespace Go.Proofs.Ytmlbkcpmgcjblaa
open Go.RowKit

end Go.Proofs.Ytmlbkcpmgcjblaa

/- Layer 15 by types: the document's Minus. -/
namespace Go.Proofs.Ytmlbkcpmgcjblaa
open Go.RowKit

end Go.Proofs.Ytmlbkcpmgcjblaa

/- Layer 15 by types: change, Put, Take, Count; the laws' few. -/
namespace Go.Proofs.Ytmlbkcpmgcjblaa
open Go.RowKit

/-! ### few -/
def ivz (z : Int) : Value := .int .i64 z
def fewB (z : Int) : List Nat := [(z % 256).toNat, (z / 256 % 256).toNat]
theorem fewB_lt (z : Int) : ∀ x ∈ fewB z, x < 256 := by
  intro x hx
  simp only [fewB, List.mem_cons, List.not_mem_nil, or_false] at hx
  rcases hx with rfl | rfl <;> omega
def fewS (z : Int) : Sm := shaS (fewB z)
def fewL (l : List Int) : List Sm := setL (l.map fewS)
theorem fewL_len (l : List Int) : (fewL l).length ≤ l.length := by
  have := setL_len (l.map fewS)
  rwa [List.length_map] at this
theorem u8_wrap (z : Int) : IntKind.u8.wrap z = (((z % 256).toNat : Nat) : Int) := by rw [IntKind.wrap_u8']; omega
theorem ivz_drop {l : List Int} {k : Nat} (h : k < l.length) : (l.map ivz).drop k = ivz (l.getD k 0) :: (l.map ivz).drop (k + 1) := by
  have h1 : k < (l.map ivz).length := by rw [List.length_map]; exact h
  rw [List.drop_eq_getElem_cons h1]
  congr 1
  rw [List.getElem_map]
  simp [List.getD, List.getElem?_eq_getElem h]
theorem shr8z (z : Int) : z.fdiv (2 ^ (8 : Int).toNat) = z / 256 := by
  rw [show (2 : Int) ^ (8 : Int).toNat = 256 by decide, Int.fdiv_eq_ediv_of_nonneg _ (by decide)]
theorem n8i : (0 : Int) ≤ 8 ∧ (8 : Int).toNat ≤ IntKind.i64.bits := by decide
theorem take_snocS (l : List Int) {k : Nat} (h : k < l.length) : (l.map fewS).take (k + 1) = (l.map fewS).take k ++ [fewS (l.getD k 0)] := by
  rw [List.take_succ_eq_append_getElem (by rw [List.length_map]; exact h), List.getElem_map]
  simp [List.getD, List.getElem?_eq_getElem h]
set_option maxRecDepth 100000 in
set_option maxHeartbeats 2000000 in
theorem few16_ty (l : List Int) (τ : Ty) (hτ : Reads τ l.length (l.map ivz)) (hl : l.length ≤ 100000) : FnSeg1 Try.prog 59 τ 34 32 (fewL l).length (flat (fewL l)) := by
  refine ⟨fun args w => by kernel_rfl, fun w v hv0 => ?_⟩
  have hv : (Ty.rd l.length (l.map ivz)).p w v := hτ w v hv0
  have hof := of_ty (l.map fewS) (by rw [List.length_map]; omega)
  have eL : setL (l.map fewS) = fewL l := rfl
  rw [eL] at hof
  generalize fewL l = X at *
  let TV := Ty.rd l.length (l.map ivz)
  refine enter_ty 30 [Ty.ex v] Try.func59 rfl (by kernel_rfl) ⟨rfl, trivial⟩ fun a hF => ?_
  have hB := Below.refl w.heap.size w
  repeat with_reducible first | refine wp_seq ?_ | refine nThen ?_ | refine nBlk ?_ | refine wp_skip ?_ | refine wp_block ?_ | refine wp_exit ?_ | refine xThen ?_ | refine xHere ?_ | refine wp_ret ?_
  refine' reg_all hF ?_ mixed (by kernel_rfl) ?_
  rotate_left
  · repeat (first
        | exact Line.nil
        | ((refine' Line.cons rfl (.run rfl rfl ?_) ?_)
           any_goals (first | exact cMove rfl rfl | exact cAssign rfl rfl | exact cLss rfl rfl rfl)
           rotate_left))
  intro a w1 hF hb hN
  have hBs := hB.size
  replace hB := hB.trans (hb.mono hB.size)
  dsimp only [ext, Option.getD] at hF
  repeat with_reducible first | refine wp_seq ?_ | refine nThen ?_ | refine nBlk ?_ | refine wp_skip ?_ | refine wp_block ?_ | refine wp_exit ?_ | refine xThen ?_ | refine xHere ?_ | refine wp_ret ?_
  refine' reg_all hF ?_ mixed (by kernel_rfl) ?_
  rotate_left
  · repeat (first
        | exact Line.nil
        | ((refine' Line.cons rfl (.run rfl rfl ?_) ?_)
           any_goals (first | exact cMove rfl rfl | exact cAssign rfl rfl | exact cLss rfl rfl rfl)
           rotate_left))
  intro a w2 hF hb hN
  have hBs := hB.size
  replace hB := hB.trans (hb.mono hB.size)
  dsimp only [ext, Option.getD] at hF
  repeat with_reducible first | refine wp_seq ?_ | refine nThen ?_ | refine nBlk ?_ | refine wp_skip ?_ | refine wp_block ?_ | refine wp_exit ?_ | refine xThen ?_ | refine xHere ?_ | refine wp_ret ?_
  refine' reg_all hF ?_ mixed (by kernel_rfl) ?_
  rotate_left
  · repeat (first
        | exact Line.nil
        | ((refine' Line.cons rfl (.run rfl rfl ?_) ?_)
           any_goals (first | exact cMove rfl rfl | exact cAssign rfl rfl | exact cLss rfl rfl rfl)
           rotate_left))
  intro a w3 hF hb hN
  have hBs := hB.size
  replace hB := hB.trans (hb.mono hB.size)
  dsimp only [ext, Option.getD] at hF
  repeat with_reducible first | refine wp_seq ?_ | refine nThen ?_ | refine nBlk ?_ | refine wp_skip ?_ | refine wp_block ?_ | refine wp_exit ?_ | refine xThen ?_ | refine xHere ?_ | refine wp_ret ?_
  refine loop_ty (fun m a wr => ∃ (k : Nat) (u : Value) (S : List Nat), k + m = l.length ∧ Fr 30 [(0, Ty.ex v), (3, Ty.ex u), (4, Ty.ex (.int .i64 (k : Int)))] a wr ∧ Below w.heap.size w wr ∧ Seg wr 34 32 u k (flat ((l.map fewS).take k)) S ∧ ∀ y ∈ S, w.heap.size ≤ y) l.length ?_ ?_
  · exact ⟨0, _, [], by omega, hF.keep [0, 3, 4], hB, Seg.nil _ _ _, by simp⟩
  clear hF hB
  rintro m a wr ⟨k, u, S, hk, hF, hB, hseg, hS⟩
  have hvr := TV.below hv hB
  repeat with_reducible first | refine wp_seq ?_ | refine nThen ?_ | refine nBlk ?_ | refine wp_skip ?_ | refine wp_block ?_ | refine wp_exit ?_ | refine xThen ?_ | refine xHere ?_ | refine wp_ret ?_
  refine' reg_all hF ?_ mixed (by kernel_rfl) ?_
  rotate_left
  · repeat (first
        | exact Line.nil
        | ((refine' Line.cons rfl (.run rfl rfl ?_) ?_)
           any_goals (first | exact cMove rfl rfl | exact cAssign rfl rfl | exact cLenH rfl (.l rfl hvr) (Ty.rd_isSl _ _) Try.underlying66 | exact cLss rfl rfl rfl)
           rotate_left))
  intro a w4 hF hb hN
  have hBs := hB.size
  replace hB := hB.trans (hb.mono hB.size)
  dsimp only [ext, Option.getD] at hF
  repeat with_reducible first | refine wp_seq ?_ | refine nThen ?_ | refine nBlk ?_ | refine wp_skip ?_ | refine wp_block ?_ | refine wp_exit ?_ | refine xThen ?_ | refine xHere ?_ | refine wp_ret ?_
  replace hseg := hseg.below hb
  replace hvr := TV.below hv hB
  refine cond_ty hF rfl (fun hlt => ?_) (fun hge => ?_)
  · have hlt : k < l.length := by have := of_decide_eq_true hlt; omega
    have hd1 := ivz_drop hlt
    have hsn := take_snocS l hlt
    obtain ⟨z, hz⟩ : ∃ z, z = l.getD k 0 := ⟨_, rfl⟩
    rw [← hz] at hd1 hsn
    have hO := sumOf1_ty (e := 70) (τ := Ty.sl 5 2 ((fewB z).map bv)) (fewB z) (reads_sl _ _ _) (fewB_lt z) (by simp [fewB])
    have hY : shaL (fewB z) = (fewS z).l := rfl
    rw [hY] at hO
    generalize fewS z = Y at *
    repeat with_reducible first | refine wp_seq ?_ | refine nThen ?_ | refine nBlk ?_ | refine wp_skip ?_ | refine wp_block ?_ | refine wp_exit ?_ | refine xThen ?_ | refine xHere ?_ | refine wp_ret ?_
    refine' region_ty 16 mixed (by kernel_rfl) hF ?_ ?_
    rotate_left
    · simp only [List.take_succ_cons, List.take_zero]
      repeat (first
          | exact Line.nil
          | ((refine' Line.cons rfl (.run rfl rfl ?_) ?_)
             any_goals (first | exact cMove rfl rfl | exact cAssign rfl rfl | exact cIndexR (k := k) (sz := 1) rfl (.l rfl hvr) rfl Try.underlying66 sizeI hlt (by rw [List.length_map]; omega) | exact cLoad1 (u := ivz z) rfl (Has.c (.t rfl) (fun W v h => by rw [Nat.mul_one, hd1] at h; exact h)) (pts_atR _) Try.underlying3 rfl | exact cConvR (n := z) (r := (((z % 256).toNat : Nat) : Int)) rfl rfl Try.underlying3 Try.underlying5 (u8_wrap z) | exact cShr (r := z / 256) rfl rfl rfl n8i (shr8z z) | exact cConvR (n := z / 256) (r := (((z / 256 % 256).toNat : Nat) : Int)) rfl rfl Try.underlying3 Try.underlying5 (u8_wrap _) | exact cBuildV (vs := [bv (z % 256).toNat, bv (z / 256 % 256).toNat]) rfl (parts2v rfl rfl rfl) Try.underlying70 infoU8 rfl (by simp [Value.cells, bv]) (by decide) (by simp [maxLen]) | exact cBuildT (τs := [Ty.sl 5 2 ((fewB z).map bv)]) rfl (partsT1 rfl (.t rfl) (Ty.sl_isSl _ _ _)) Try.underlying113 infoB rfl | exact cCall1 rfl rfl hO | exact cBuildSums [Y] rfl (parts1v rfl rfl) Try.underlying24 infoS rfl | exact cLss rfl rfl rfl)
             rotate_left))
    intro a w5 hF hb hN
    have hBs := hB.size
    replace hB := hB.trans (hb.mono hB.size)
    simp only [List.take_succ_cons, List.take_zero, List.drop_succ_cons, List.drop_zero] at hF hN ⊢
    dsimp only [ext, Option.getD] at hF
    replace hseg := hseg.below hb
    refine tlAppend (Δ := [(0, Ty.ex v), (4, Ty.ex (.int .i64 (k : Int)))]) (n := k) (m := 1) (news := flat [Y]) hF rfl rfl rfl rfl Try.underlying24 infoS zero32_size rfl hseg (.t rfl) sl_news (flat_len _) flat_one' (by simp [maxLen]; omega) (by omega) (hF.keep [0, 4]) rfl ?_
    intro a w6 u' S' hF hseg' hk7 hS'
    have hbS : ∀ y ∈ S', w.heap.size ≤ y := own_next hB hS hS'
    replace hB := below_own hB hk7 hS
    rw [← flat_append, ← hsn] at hseg'
    refine' tlOp hF rfl rfl rfl ?_ ?_
    rotate_left
    · first | exact cMove rfl rfl | exact cAssign rfl rfl | exact cLss rfl rfl rfl
    intro a w7 hF hb
    have hBs := hB.size
    replace hB := hB.trans (hb.mono hB.size)
    try (refine wpList_nil ?_)
    repeat with_reducible first | refine wp_seq ?_ | refine nThen ?_ | refine nBlk ?_ | refine wp_skip ?_ | refine wp_block ?_ | refine wp_exit ?_ | refine xThen ?_ | refine xHere ?_ | refine wp_ret ?_
    replace hseg' := hseg'.below hb
    refine' reg_all hF ?_ mixed (by kernel_rfl) ?_
    rotate_left
    · repeat (first
          | exact Line.nil
          | ((refine' Line.cons rfl (.run rfl rfl ?_) ?_)
             any_goals (first | exact cMove rfl rfl | exact cAssign rfl rfl | exact cAdd (r := ((k + 1 : Nat) : Int)) rfl rfl rfl (by omega) | exact cLss rfl rfl rfl)
             rotate_left))
    intro a w8 hF hb hN
    have hBs := hB.size
    replace hB := hB.trans (hb.mono hB.size)
    dsimp only [ext, Option.getD] at hF
    repeat with_reducible first | refine wp_seq ?_ | refine nThen ?_ | refine nBlk ?_ | refine wp_skip ?_ | refine wp_block ?_ | refine wp_exit ?_ | refine xThen ?_ | refine xHere ?_ | refine wp_ret ?_
    exact ⟨m - 1, by omega, k + 1, u', S', by omega, hF.keep [0, 3, 4], hB, hseg'.below hb, hbS⟩
  have hge : ¬ k < l.length := by have := of_decide_eq_false hge; omega
  obtain rfl : k = l.length := by omega
  rw [List.take_of_length_le (by rw [List.length_map]; exact Nat.le_refl _)] at hseg
  have hu4 : (Ty.sums 34 (l.map fewS)).p w4 u := by
    have h := hseg.sl
    rwa [show l.length = (l.map fewS).length by rw [List.length_map]] at h
  have hw4 : w.heap.size ≤ w4.heap.size := hB.size
  repeat with_reducible first | refine wp_seq ?_ | refine nThen ?_ | refine nBlk ?_ | refine wp_skip ?_ | refine wp_block ?_ | refine wp_exit ?_ | refine xThen ?_ | refine xHere ?_ | refine wp_ret ?_
  refine' reg_all hF ?_ mixed (by kernel_rfl) ?_
  rotate_left
  · repeat (first
        | exact Line.nil
        | ((refine' Line.cons rfl (.run rfl rfl ?_) ?_)
           any_goals (first | exact cMove rfl rfl | exact cAssign rfl rfl | exact cCallS1 rfl (.l rfl hu4) hof | exact cLss rfl rfl rfl)
           rotate_left))
  intro a w5 hF hb hN
  have hBs := hB.size
  replace hB := hB.trans (hb.mono hB.size)
  dsimp only [ext, Option.getD] at hF
  repeat with_reducible first | refine wp_seq ?_ | refine nThen ?_ | refine nBlk ?_ | refine wp_skip ?_ | refine wp_block ?_ | refine wp_exit ?_ | refine xThen ?_ | refine xHere ?_ | refine wp_ret ?_
  refine ret1 hF rfl rfl fun y hy => ?_
  exact ⟨y, rfl, seg_old hw4 _ _ hy, hB⟩
end Go.Proofs.Ytmlbkcpmgcjblaa

/- Layer 15 by types: change, Put, Take, Count. -/
namespace Go.Proofs.Ytmlbkcpmgcjblaa
open Go.RowKit

set_option maxRecDepth 100000 in
set_option maxHeartbeats 2000000 in
theorem change15_ty {f : FuncId} (seed : Nat) (L : List Cl) (x : Sm) (n : Int) (hL : L.length ≤ 1000000) (hsd : seed < 18446744073709551616) (hf : ∀ c : Cl, Fn2 Try.prog f (Ty.ex (.agg c.a)) (Ty.ex (.agg (u8s x.l))) (Ty.ex (.agg (c.put x n).a))) : FnR3 Try.prog 84 (Ty.tab 87 seed L) (Ty.ex (.agg (u8s x.l))) (Ty.ex (.func (.func f) #[] #[])) (fun w => Ty.tabO w 87 seed (tput seed L x n)) := by
  refine ⟨fun args w => by kernel_rfl, fun w v u q ⟨s, hv, hs⟩ hu hq => ?_⟩
  subst hv
  obtain ⟨fv, hfv⟩ : ∃ fv : Value, fv = .func (.func f) #[] #[] := ⟨_, rfl⟩
  rw [← hfv] at hq
  let TL := Ty.cls 87 L
  refine enter_ty 39 [Ty.ex (.agg #[.int .u64 (seed : Int), s]), Ty.ex (.agg (u8s x.l)), Ty.ex fv] Try.func84 rfl (by kernel_rfl) ⟨rfl, hu, hq, trivial⟩ fun a hF => ?_
  have hB := Below.refl w.heap.size w
  repeat with_reducible first | refine wp_seq ?_ | refine nThen ?_ | refine nBlk ?_ | refine wp_skip ?_ | refine wp_block ?_ | refine wp_exit ?_ | refine xThen ?_ | refine xHere ?_ | refine wp_ret ?_
  refine' reg_all hF ?_ mixed (by kernel_rfl) ?_
  rotate_left
  · repeat (first
        | exact Line.nil
        | (refine' Line.cons rfl (.new rfl rfl (run_alloc_i infoT46) rfl) ?_; rotate_left)
        | ((refine' Line.cons rfl (.run rfl rfl ?_) ?_)
           any_goals (first | exact cMove rfl rfl | exact cAssign rfl rfl | exact cBoxTab rfl rfl | exact cBoxSum rfl rfl | exact cLss rfl rfl rfl)
           rotate_left))
  intro a w1 hF hb hN
  have hBs := hB.size
  replace hB := hB.trans (hb.mono hB.size)
  dsimp only [ext, Option.getD] at hF
  repeat with_reducible first | refine wp_seq ?_ | refine nThen ?_ | refine nBlk ?_ | refine wp_skip ?_ | refine wp_block ?_ | refine wp_exit ?_ | refine xThen ?_ | refine xHere ?_ | refine wp_ret ?_
  obtain ⟨z, ⟨g6, rfl, hg6, hb6⟩, hF⟩ := hF.open (s := 6) rfl
  have hg6 : w.heap.size ≤ g6 := hg6
  obtain ⟨p3, hp3, hF⟩ := hF.open (s := 3) rfl
  obtain ⟨p4, hp4, hF⟩ := hF.open (s := 4) rfl
  have hs1 := TL.below hs hB
  have hB0 := hB
  have hw1 := hB.size
  have hlt6 := hb6.lt
  replace hB := Below.refl w1.heap.size w1
  repeat with_reducible first | refine wp_seq ?_ | refine nThen ?_ | refine nBlk ?_ | refine wp_skip ?_ | refine wp_block ?_ | refine wp_exit ?_ | refine xThen ?_ | refine xHere ?_ | refine wp_ret ?_
  refine' reg_all hF ?_ mixed (by kernel_rfl) ?_
  rotate_left
  · repeat (first
        | exact Line.nil
        | ((refine' Line.cons rfl (.run rfl rfl ?_) ?_)
           any_goals (first | exact cMove rfl rfl | exact cAssign rfl rfl | exact cFldL46 rfl (.l rfl hp3) | exact cRowOf46 rfl (.t rfl) | exact cCallS1 rfl (.l rfl hs1) (cloneC_ty L hL) | exact cLss rfl rfl rfl)
           rotate_left))
  intro a w2 hF hb hN
  have hBs := hB.size
  replace hB := hB.trans (hb.mono hB.size)
  dsimp only [ext, Option.getD] at hF
  repeat with_reducible first | refine wp_seq ?_ | refine nThen ?_ | refine nBlk ?_ | refine wp_skip ?_ | refine wp_block ?_ | refine wp_exit ?_ | refine xThen ?_ | refine xHere ?_ | refine wp_ret ?_
  obtain ⟨u7, ⟨S, hsg, hS⟩, hF⟩ := hF.open (s := 7) rfl
  have hp32 := (Ty.at_ 41 [.int .u64 (seed : Int), s]).below hp3 hB
  have hp42 := (Ty.at_ 34 x.enc).below hp4 hB
  have hs7 : (Ty.cls 87 L).p w2 u7 := hsg.sl
  have hPp := places_ty seed (L.length : Int) x hsd
  have hPl3 := placesN_len3 seed (L.length : Int) x
  have hPd : ∀ j, j < (placesN seed (L.length : Int) x).length → (placesN seed (L.length : Int) x).getD j 0 < L.length := fun j hj => places_lt seed L.length x _ (getD_mem hj)
  have hput : tput seed L x n = (placesN seed (L.length : Int) x).foldl (fun L i => tputAt L i x n) L := rfl
  generalize placesN seed (L.length : Int) x = PL at *
  repeat with_reducible first | refine wp_seq ?_ | refine nThen ?_ | refine nBlk ?_ | refine wp_skip ?_ | refine wp_block ?_ | refine wp_exit ?_ | refine xThen ?_ | refine xHere ?_ | refine wp_ret ?_
  refine' reg_all hF ?_ mixed (by kernel_rfl) ?_
  rotate_left
  · repeat (first
        | exact Line.nil
        | ((refine' Line.cons rfl (.run rfl rfl ?_) ?_)
           any_goals (first | exact cMove rfl rfl | exact cAssign rfl rfl | exact cFldS46 rfl (.l rfl hp32) | exact cLoadU64 rfl (.t rfl) | exact cLenH rfl (.l rfl hs7) (Ty.sl_isSl _ _ _) Try.underlying39 | exact cLoadSum rfl (.l rfl hp42) Try.underlying34 sizeS | exact cCall3 rfl rfl rfl rfl hPp | exact cLen rfl rfl (Ty.sl_isSl _ _ _) Try.underlying66 | exact cLss rfl rfl rfl)
           rotate_left))
  intro a w3 hF hb hN
  have hBs := hB.size
  replace hB := hB.trans (hb.mono hB.size)
  dsimp only [ext, Option.getD] at hF
  repeat with_reducible first | refine wp_seq ?_ | refine nThen ?_ | refine nBlk ?_ | refine wp_skip ?_ | refine wp_block ?_ | refine wp_exit ?_ | refine xThen ?_ | refine xHere ?_ | refine wp_ret ?_
  replace hsg := hsg.below hb
  obtain ⟨v18, hv18, hF⟩ := hF.open (s := 18) rfl
  refine loop_ty (fun m a wr => ∃ j : Nat, j + m = PL.length ∧ Fr 39 [(2, Ty.ex fv), (3, Ty.ex p3), (4, Ty.ex p4), (6, Ty.ex (.pointer (some ⟨g6, 0, none⟩))), (7, Ty.ex u7), (18, Ty.ex v18), (19, Ty.ex (.int .i64 (PL.length : Int))), (20, Ty.ex (.int .i64 (j : Int)))] a wr ∧ Below w1.heap.size w1 wr ∧ Seg wr 87 65 u7 L.length (flatC ((PL.take j).foldl (fun L i => tputAt L i x n) L)) S ∧ (Ty.sl 3 PL.length (PL.map ivn)).p wr v18) PL.length ?_ ?_
  · exact ⟨0, by omega, hF.keep [2, 3, 4, 6, 7, 18, 19, 20], hB, hsg, hv18⟩
  clear hF hB hsg hv18 hp32 hp42 hs7
  rintro m a wr ⟨j, hj, hF, hB, hsg, hv18⟩
  repeat with_reducible first | refine wp_seq ?_ | refine nThen ?_ | refine nBlk ?_ | refine wp_skip ?_ | refine wp_block ?_ | refine wp_exit ?_ | refine xThen ?_ | refine xHere ?_ | refine wp_ret ?_
  refine' reg_all hF ?_ mixed (by kernel_rfl) ?_
  rotate_left
  · repeat (first
        | exact Line.nil
        | ((refine' Line.cons rfl (.run rfl rfl ?_) ?_)
           any_goals (first | exact cMove rfl rfl | exact cAssign rfl rfl | exact cLss rfl rfl rfl)
           rotate_left))
  intro a w4 hF hb hN
  have hBs := hB.size
  replace hB := hB.trans (hb.mono hB.size)
  dsimp only [ext, Option.getD] at hF
  repeat with_reducible first | refine wp_seq ?_ | refine nThen ?_ | refine nBlk ?_ | refine wp_skip ?_ | refine wp_block ?_ | refine wp_exit ?_ | refine xThen ?_ | refine xHere ?_ | refine wp_ret ?_
  replace hsg := hsg.below hb
  replace hv18 : (Ty.sl 3 PL.length (PL.map ivn)).p w4 v18 := (Ty.sl 3 PL.length (PL.map ivn)).below hv18 hb
  refine cond_ty hF rfl (fun hlt2 => ?_) (fun hge2 => ?_)
  · have hlt2 : j < PL.length := by have := of_decide_eq_true hlt2; omega
    have hi := hPd j hlt2
    have hfs := fold_snoc PL hlt2 L x n
    have hd1 := ivn_drop hlt2
    have hFl : ((PL.take j).foldl (fun L i => tputAt L i x n) L).length = L.length := by rw [foldAt_len]
    generalize (PL.take j).foldl (fun L i => tputAt L i x n) L = R at *
    generalize PL.getD j 0 = i at *
    obtain ⟨g, off, cap, eu, eS, hsl⟩ : ∃ g off cap, u7 = .slice (some ⟨g, off, none⟩) L.length cap ∧ S = [g] ∧ SegL w4 87 65 g off L.length cap (flatC R) := by
      rcases hsg.cases with ⟨_, h0, _⟩ | h
      · omega
      · exact h
    have hgw : w1.heap.size ≤ g := by
      have := hS g (by rw [eS]; simp)
      exact this
    rw [eu, hfv] at hF
    have hp44 := (Ty.at_ 34 x.enc).below hp4 hB
    repeat with_reducible first | refine wp_seq ?_ | refine nThen ?_ | refine nBlk ?_ | refine wp_skip ?_ | refine wp_block ?_ | refine wp_exit ?_ | refine xThen ?_ | refine xHere ?_ | refine wp_ret ?_
    refine' reg_all hF ?_ mixed (by kernel_rfl) ?_
    rotate_left
    · repeat (first
          | exact Line.nil
          | ((refine' Line.cons rfl (.run rfl rfl ?_) ?_)
             any_goals (first | exact cMove rfl rfl | exact cAssign rfl rfl | exact cIndexS (k := j) (sz := 1) rfl (.l rfl hv18) rfl Try.underlying66 sizeI hlt2 (by rw [List.length_map]; omega) | exact cLoad1 (u := ivn i) rfl (Has.c (.t rfl) (fun W v h => by rw [Nat.mul_one, hd1] at h; exact h)) (pts_at _ _) Try.underlying3 rfl | exact cLss rfl rfl rfl)
             rotate_left))
    intro a w5 hF hb hN
    have hBs := hB.size
    replace hB := hB.trans (hb.mono hB.size)
    dsimp only [ext, Option.getD] at hF
    repeat with_reducible first | refine wp_seq ?_ | refine nThen ?_ | refine nBlk ?_ | refine wp_skip ?_ | refine wp_block ?_ | refine wp_exit ?_ | refine xThen ?_ | refine xHere ?_ | refine wp_ret ?_
    replace hsl := hsl.below hb
    replace hv18 : (Ty.sl 3 PL.length (PL.map ivn)).p w5 v18 := (Ty.sl 3 PL.length (PL.map ivn)).below hv18 hb
    replace hp44 := (Ty.at_ 34 x.enc).below hp44 hb
    have hcell := cell_at hsl (i := i) (by omega)
    refine' region_ty 10 mixed (by kernel_rfl) hF ?_ ?_
    rotate_left
    · simp only [List.take_succ_cons, List.take_zero]
      repeat (first
          | exact Line.nil
          | ((refine' Line.cons rfl (.run rfl rfl ?_) ?_)
             any_goals (first | exact cMove rfl rfl | exact cAssign rfl rfl | exact cIndexEx (k := i) (sz := 65) rfl rfl rfl Try.underlying39 info34 hi | exact cLoadCl34 rfl (.l rfl hcell) | exact cLoadSum rfl (.l rfl hp44) Try.underlying34 sizeS | exact cCallV2 rfl rfl (.t rfl) (.t rfl) (hf _) | exact cLss rfl rfl rfl)
             rotate_left))
    intro a w6 hF hb hN
    have hBs := hB.size
    replace hB := hB.trans (hb.mono hB.size)
    simp only [List.take_succ_cons, List.take_zero, List.drop_succ_cons, List.drop_zero] at hF hN ⊢
    dsimp only [ext, Option.getD] at hF
    replace hsl := hsl.below hb
    replace hv18 : (Ty.sl 3 PL.length (PL.map ivn)).p w6 v18 := (Ty.sl 3 PL.length (PL.map ivn)).below hv18 hb
    obtain ⟨csb, hbl⟩ : ∃ cs, Blk w6 g 87 cs := by
      obtain ⟨_, _, _, cs, h, _⟩ := hsl
      exact ⟨cs, h⟩
    refine tlStoreAt (Δ := [(2, Ty.ex fv), (3, Ty.ex p3), (4, Ty.ex p4), (6, Ty.ex (.pointer (some ⟨g6, 0, none⟩))), (7, Ty.ex u7), (18, Ty.ex v18), (19, Ty.ex (.int .i64 (PL.length : Int))), (20, Ty.ex (.int .i64 (j : Int)))]) (k := i * 65) hF rfl rfl rfl rfl rfl hsl (by rw [Cl.size]; omega) (by rw [Cl.size]; exact info34) (Cl.one _) (by rw [eu, hfv]; exact hF.keep [2, 3, 4, 6, 7, 18, 19, 20]) rfl ?_
    intro w8 hF hsl hk8
    refine wpList_nil ?_
    replace hB := below_own hB hk8 (by intro y hy; simp only [List.mem_singleton] at hy; omega)
    replace hv18 : (Ty.sl 3 PL.length (PL.map ivn)).p w8 v18 := (Ty.sl 3 PL.length (PL.map ivn)).far hv18 hk8 hbl rfl
    rw [show ((R.getD i default).put x n).a.toList = ((R.getD i default).put x n).enc from rfl, over_flatC _ _ (by omega)] at hsl
    rw [show R.set i ((R.getD i default).put x n) = tputAt R i x n from rfl, ← hfs] at hsl
    replace hsg := hsl.seg
    rw [← eu, ← eS] at hsg
    repeat with_reducible first | refine wp_seq ?_ | refine nThen ?_ | refine nBlk ?_ | refine wp_skip ?_ | refine wp_block ?_ | refine wp_exit ?_ | refine xThen ?_ | refine xHere ?_ | refine wp_ret ?_
    refine' reg_all hF ?_ mixed (by kernel_rfl) ?_
    rotate_left
    · repeat (first
          | exact Line.nil
          | ((refine' Line.cons rfl (.run rfl rfl ?_) ?_)
             any_goals (first | exact cMove rfl rfl | exact cAssign rfl rfl | exact cAdd (r := ((j + 1 : Nat) : Int)) rfl rfl rfl (by omega) | exact cLss rfl rfl rfl)
             rotate_left))
    intro a w9 hF hb hN
    have hBs := hB.size
    replace hB := hB.trans (hb.mono hB.size)
    dsimp only [ext, Option.getD] at hF
    repeat with_reducible first | refine wp_seq ?_ | refine nThen ?_ | refine nBlk ?_ | refine wp_skip ?_ | refine wp_block ?_ | refine wp_exit ?_ | refine xThen ?_ | refine xHere ?_ | refine wp_ret ?_
    exact ⟨m - 1, by omega, j + 1, by omega, hF.keep [2, 3, 4, 6, 7, 18, 19, 20], hB, hsg.below hb, (Ty.sl 3 PL.length (PL.map ivn)).below hv18 hb⟩
  have hge2 : ¬ j < PL.length := by have := of_decide_eq_false hge2; omega
  obtain rfl : j = PL.length := by omega
  rw [List.take_length, ← hput] at hsg
  have hp34 := (Ty.at_ 41 [.int .u64 (seed : Int), s]).below hp3 hB
  replace hb6 : Blk w4 g6 41 #[.int .u64 0, .slice none 0 0] := hb6.below hB
  replace hB := hB0.trans (hB.mono hw1)
  repeat with_reducible first | refine wp_seq ?_ | refine nThen ?_ | refine nBlk ?_ | refine wp_skip ?_ | refine wp_block ?_ | refine wp_exit ?_ | refine xThen ?_ | refine xHere ?_ | refine wp_ret ?_
  refine' region_ty 4 mixed (by kernel_rfl) hF ?_ ?_
  rotate_left
  · simp only [List.take_succ_cons, List.take_zero]
    repeat (first
        | exact Line.nil
        | ((refine' Line.cons rfl (.run rfl rfl ?_) ?_)
           any_goals (first | exact cMove rfl rfl | exact cAssign rfl rfl | exact cFldS46 rfl (.l rfl hp34) | exact cLoadU64 rfl (.t rfl) | exact cBuild2w rfl rfl rfl (fun w => buildT46 (seed : Int) (seg_isA hsg) w) | exact cLss rfl rfl rfl)
           rotate_left))
  intro a w5 hF hb hN
  have hBs := hB.size
  replace hB := hB.trans (hb.mono hB.size)
  simp only [List.take_succ_cons, List.take_zero, List.drop_succ_cons, List.drop_zero] at hF hN ⊢
  dsimp only [ext, Option.getD] at hF
  replace hb6 := hb6.below hb
  replace hsg := hsg.below hb
  refine tlStoreV (Δ := [(6, Ty.ex (.pointer (some ⟨g6, 0, none⟩)))]) hF rfl rfl rfl rfl (hF.getEx (s := 38) rfl) hb6 rfl sizeT46 (sl_one hsg.sl _) (hF.keep [6]) rfl ?_
  intro w8 hF hb6' hkx
  refine wpList_nil ?_
  replace hB := below_own hB hkx (by intro y hy; simp only [List.mem_singleton] at hy; omega)
  replace hsg := hsg.keeps hkx (seg_far hsg hb6 (by decide))
  repeat with_reducible first | refine wp_seq ?_ | refine nThen ?_ | refine nBlk ?_ | refine wp_skip ?_ | refine wp_block ?_ | refine wp_exit ?_ | refine xThen ?_ | refine xHere ?_ | refine wp_ret ?_
  refine retCell hF rfl rfl hb6' Try.underlying41 rfl sizeT46 ?_
  refine ⟨_, rfl, ⟨u7, rfl, S, ?_, fun y hy => Nat.le_trans hw1 (hS y hy)⟩, hB⟩
  rw [tput_len]
  exact hsg
set_option maxRecDepth 100000 in
theorem ttake_ty (seed : Nat) (L : List Cl) (x : Sm) (hL : L.length ≤ 1000000) (hsd : seed < 18446744073709551616) : FnR2 Try.prog 39 (Ty.tab 87 seed L) (Ty.ex (.agg (u8s x.l))) (fun w => Ty.tabO w 87 seed (tput seed L x (-1))) := by
  refine ⟨fun args w => by kernel_rfl, fun w v u ⟨s, hv, hs⟩ hu => ?_⟩
  subst hv
  have hC := change15_ty seed L x (-1) hL hsd (fun c => take_ty c x)
  refine enter_ty 8 [Ty.ex (.agg #[.int .u64 (seed : Int), s]), Ty.ex (.agg (u8s x.l))] Try.func39 rfl (by kernel_rfl) ⟨rfl, hu, trivial⟩ fun a hF => ?_
  have hB := Below.refl w.heap.size w
  repeat with_reducible first | refine wp_seq ?_ | refine nThen ?_ | refine wp_ret ?_
  refine' reg_all hF ?_ mixed (by kernel_rfl) ?_
  rotate_left
  · repeat (first
        | exact Line.nil
        | (refine' Line.cons rfl (.new rfl rfl (run_alloc_i infoT46) rfl) ?_; rotate_left)
        | ((refine' Line.cons rfl (.run rfl rfl ?_) ?_)
           any_goals (first | exact cBoxTab rfl rfl | exact cBoxSum rfl rfl)
           rotate_left))
  intro a w1 hF hb hN
  have hBs := hB.size
  replace hB := hB.trans (hb.mono hB.size)
  dsimp only [ext, Option.getD] at hF
  repeat with_reducible first | refine wp_seq ?_ | refine nThen ?_ | refine wp_ret ?_
  obtain ⟨z, ⟨g4, rfl, hg4, hb4⟩, hF⟩ := hF.open (s := 4) rfl
  have hg4 : w.heap.size ≤ g4 := hg4
  have ht : (Ty.tab 87 seed L).p w1 (.agg #[.int .u64 (seed : Int), s]) := ⟨s, rfl, (Ty.cls 87 L).below hs hB⟩
  have hw1 := hB.size
  repeat with_reducible first | refine wp_seq ?_ | refine nThen ?_ | refine wp_ret ?_
  refine' region_ty 3 mixed (by kernel_rfl) hF ?_ ?_
  rotate_left
  · simp only [List.take_succ_cons, List.take_zero]
    repeat (first
        | exact Line.nil
        | ((refine' Line.cons rfl (.run rfl rfl ?_) ?_)
           any_goals (first | exact cLoadT46 rfl (.t rfl) | exact cLoadSum rfl (.t rfl) Try.underlying34 sizeS | exact cCallR3 rfl (.l rfl ht) (.t rfl) (.t rfl) hC (tabO_olds _ _ _))
           rotate_left))
  intro a w2 hF hb hN
  have hBs := hB.size
  replace hB := hB.trans (hb.mono hB.size)
  simp only [List.take_succ_cons, List.take_zero, List.drop_succ_cons, List.drop_zero] at hF hN ⊢
  dsimp only [ext, Option.getD] at hF
  replace hb4 := hb4.below hb
  obtain ⟨z, ⟨u7, rfl, S, hsg, hS⟩, hF⟩ := hF.open (s := 7) rfl
  refine tlStoreV (Δ := [(4, Ty.ex (.pointer (some ⟨g4, 0, none⟩)))]) hF rfl rfl rfl rfl (hF.getEx (s := 7) rfl) hb4 rfl sizeT46 (sl_one hsg.sl _) (hF.keep [4]) rfl ?_
  intro w3 hF hb4' hkx
  refine wpList_nil ?_
  replace hB := below_own hB hkx (by intro y hy; simp only [List.mem_singleton] at hy; omega)
  replace hsg := hsg.keeps hkx (seg_far hsg hb4 (by decide))
  repeat with_reducible first | refine wp_seq ?_ | refine nThen ?_ | refine wp_ret ?_
  refine retCell hF rfl rfl hb4' Try.underlying41 rfl sizeT46 ?_
  exact ⟨_, rfl, ⟨u7, rfl, S, hsg, fun y hy => Nat.le_trans hw1 (hS y hy)⟩, hB⟩
end Go.Proofs.Ytmlbkcpmgcjblaa

/- Layer 10: the walks of BinarySearchFunc, has, Has. -/
namespace Go.Proofs.Ytmlbkcpmgcjblaa
open Go.RowKit

abbrev cmpF : Value := .func (.func 66) #[] #[]
set_option maxRecDepth 100000 in
set_option maxHeartbeats 2000000 in
theorem bsearch_ty (L : List Sm) (x : Sm) (hL : L.length ≤ 1000000) (hs : srt L) : Fn3 Try.prog 105 (Ty.sums 34 L) (Ty.ex (.agg (u8s x.l))) (Ty.ex cmpF) (Ty.tup [Ty.any, Ty.ex (.bool (decide (x ∈ L)))]) := by
  refine ⟨fun args w => by kernel_rfl, fun w v u t hv hu ht => ?_⟩
  refine enter_ty 49 [Ty.ex v, Ty.ex (.agg (u8s x.l)), Ty.ex cmpF] Try.func105 rfl (by kernel_rfl) ⟨rfl, hu, ht, trivial⟩ fun a hF => ?_
  have hB := Below.refl w.heap.size w
  repeat with_reducible first | refine wp_seq ?_ | refine nThen ?_ | refine nBlk ?_ | refine wp_skip ?_ | refine wp_block ?_ | refine wp_exit ?_ | refine xThen ?_ | refine xHere ?_ | refine wp_ret ?_
  refine' reg_all hF ?_ mixed (by kernel_rfl) ?_
  rotate_left
  · repeat (first
        | exact Line.nil
        | (refine' Line.cons rfl (.no rfl rfl rfl rfl rfl rfl) ?_; rotate_left)
        | ((first | refine' Line.cons rfl (.run rfl rfl ?_) ?_ | refine' Line.cons rfl (.yes rfl rfl rfl rfl ?_) ?_)
           any_goals (first | exact cBoxSum rfl rfl | exact cMove rfl rfl | exact cAssign rfl rfl | exact cPickT rfl rfl rfl | exact cPickF rfl rfl rfl | exact cLss rfl rfl rfl | exact cEql rfl rfl rfl)
           rotate_left))
  intro a w1 hF hb hN
  have hBs := hB.size
  replace hB := hB.trans (hb.mono hB.size)
  dsimp only [ext, Option.getD] at hF
  repeat with_reducible first | refine wp_seq ?_ | refine nThen ?_ | refine nBlk ?_ | refine wp_skip ?_ | refine wp_block ?_ | refine wp_exit ?_ | refine xThen ?_ | refine xHere ?_ | refine wp_ret ?_
  refine' reg_all hF ?_ mixed (by kernel_rfl) ?_
  rotate_left
  · repeat (first
        | exact Line.nil
        | (refine' Line.cons rfl (.no rfl rfl rfl rfl rfl rfl) ?_; rotate_left)
        | ((first | refine' Line.cons rfl (.run rfl rfl ?_) ?_ | refine' Line.cons rfl (.yes rfl rfl rfl rfl ?_) ?_)
           any_goals (first | exact cLenH rfl (.l rfl ((Ty.sums 34 L).below hv hB)) (Ty.sl_isSl _ _ _) Try.underlying25 | exact cMove rfl rfl | exact cAssign rfl rfl | exact cPickT rfl rfl rfl | exact cPickF rfl rfl rfl | exact cLss rfl rfl rfl | exact cEql rfl rfl rfl)
           rotate_left))
  intro a w2 hF hb hN
  have hBs := hB.size
  replace hB := hB.trans (hb.mono hB.size)
  dsimp only [ext, Option.getD] at hF
  repeat with_reducible first | refine wp_seq ?_ | refine nThen ?_ | refine nBlk ?_ | refine wp_skip ?_ | refine wp_block ?_ | refine wp_exit ?_ | refine xThen ?_ | refine xHere ?_ | refine wp_ret ?_
  refine' reg_all hF ?_ mixed (by kernel_rfl) ?_
  rotate_left
  · repeat (first
        | exact Line.nil
        | (refine' Line.cons rfl (.no rfl rfl rfl rfl rfl rfl) ?_; rotate_left)
        | ((first | refine' Line.cons rfl (.run rfl rfl ?_) ?_ | refine' Line.cons rfl (.yes rfl rfl rfl rfl ?_) ?_)
           any_goals (first | exact cMove rfl rfl | exact cAssign rfl rfl | exact cPickT rfl rfl rfl | exact cPickF rfl rfl rfl | exact cLss rfl rfl rfl | exact cEql rfl rfl rfl)
           rotate_left))
  intro a w3 hF hb hN
  have hBs := hB.size
  replace hB := hB.trans (hb.mono hB.size)
  dsimp only [ext, Option.getD] at hF
  repeat with_reducible first | refine wp_seq ?_ | refine nThen ?_ | refine nBlk ?_ | refine wp_skip ?_ | refine wp_block ?_ | refine wp_exit ?_ | refine xThen ?_ | refine xHere ?_ | refine wp_ret ?_
  refine loop_ty (fun m a wr => ∃ lo hi : Nat, hi = lo + m ∧ hi ≤ L.length ∧ Fr 49 [(0, Ty.ex v), (2, Ty.ex cmpF), (4, Ty.at_ 34 x.enc), (8, Ty.ex (.int .i64 (L.length : Int))), (9, Ty.ex (.int .i64 (lo : Int))), (10, Ty.ex (.int .i64 (hi : Int)))] a wr ∧ Below w.heap.size w wr ∧
      (∀ j, j < lo → cmpL (L.getD j default).l x.l < 0) ∧ ∀ j, hi ≤ j → j < L.length → ¬ cmpL (L.getD j default).l x.l < 0) L.length ?_ ?_
  · exact ⟨0, L.length, by omega, Nat.le_refl _, hF.keep [0, 2, 4, 8, 9, 10], hB, fun j hj => by omega, fun j h1 h2 => by omega⟩
  clear hF hB
  rintro m a wr ⟨lo, hi, rfl, hlen, hF, hB, hlo, hhi⟩
  repeat with_reducible first | refine wp_seq ?_ | refine nThen ?_ | refine nBlk ?_ | refine wp_skip ?_ | refine wp_block ?_ | refine wp_exit ?_ | refine xThen ?_ | refine xHere ?_ | refine wp_ret ?_
  refine' reg_all hF ?_ mixed (by kernel_rfl) ?_
  rotate_left
  · repeat (first
        | exact Line.nil
        | (refine' Line.cons rfl (.no rfl rfl rfl rfl rfl rfl) ?_; rotate_left)
        | ((first | refine' Line.cons rfl (.run rfl rfl ?_) ?_ | refine' Line.cons rfl (.yes rfl rfl rfl rfl ?_) ?_)
           any_goals (first | exact cMove rfl rfl | exact cAssign rfl rfl | exact cPickT rfl rfl rfl | exact cPickF rfl rfl rfl | exact cLss rfl rfl rfl | exact cEql rfl rfl rfl)
           rotate_left))
  intro a w4 hF hb hN
  have hBs := hB.size
  replace hB := hB.trans (hb.mono hB.size)
  dsimp only [ext, Option.getD] at hF
  repeat with_reducible first | refine wp_seq ?_ | refine nThen ?_ | refine nBlk ?_ | refine wp_skip ?_ | refine wp_block ?_ | refine wp_exit ?_ | refine xThen ?_ | refine xHere ?_ | refine wp_ret ?_
  refine cond_ty hF rfl (fun hlt => ?_) (fun hge => ?_)
  · have hlt : 0 < m := by have := of_decide_eq_true hlt; omega
    have hmid : (lo + (lo + m)) / 2 < lo + m := by omega
    repeat with_reducible first | refine wp_seq ?_ | refine nThen ?_ | refine nBlk ?_ | refine wp_skip ?_ | refine wp_block ?_ | refine wp_exit ?_ | refine xThen ?_ | refine xHere ?_ | refine wp_ret ?_
    refine' reg_all hF ?_ mixed (by kernel_rfl) ?_
    rotate_left
    · repeat (first
          | exact Line.nil
          | (refine' Line.cons rfl (.no rfl rfl rfl rfl rfl rfl) ?_; rotate_left)
          | ((first | refine' Line.cons rfl (.run rfl rfl ?_) ?_ | refine' Line.cons rfl (.yes rfl rfl rfl rfl ?_) ?_)
             any_goals (first | exact cAdd (r := ((lo + (lo + m) : Nat) : Int)) rfl rfl rfl (by omega) | exact cConvR (r := ((lo + (lo + m) : Nat) : Int)) rfl rfl Try.underlying3 Try.underlying112 (by simp [IntKind.wrap, IntKind.bits]; omega) | exact cShr (r := (((lo + (lo + m)) / 2 : Nat) : Int)) rfl rfl rfl (by decide) (by simp [Int.fdiv_eq_ediv_of_nonneg]) | exact cConvR (r := (((lo + (lo + m)) / 2 : Nat) : Int)) rfl rfl Try.underlying112 Try.underlying3 (by simp [IntKind.wrap, IntKind.bits]; omega) | exact cMove rfl rfl | exact cAssign rfl rfl | exact cPickT rfl rfl rfl | exact cPickF rfl rfl rfl | exact cLss rfl rfl rfl | exact cEql rfl rfl rfl)
             rotate_left))
    intro a w5 hF hb hN
    have hBs := hB.size
    replace hB := hB.trans (hb.mono hB.size)
    dsimp only [ext, Option.getD] at hF
    repeat with_reducible first | refine wp_seq ?_ | refine nThen ?_ | refine nBlk ?_ | refine wp_skip ?_ | refine wp_block ?_ | refine wp_exit ?_ | refine xThen ?_ | refine xHere ?_ | refine wp_ret ?_
    have hh1 : lo ≤ (lo + (lo + m)) / 2 := by omega
    generalize (lo + (lo + m)) / 2 = h at *
    refine' reg_all hF ?_ mixed (by kernel_rfl) ?_
    rotate_left
    · repeat (first
          | exact Line.nil
          | (refine' Line.cons rfl (.no rfl rfl rfl rfl rfl rfl) ?_; rotate_left)
          | ((first | refine' Line.cons rfl (.run rfl rfl ?_) ?_ | refine' Line.cons rfl (.yes rfl rfl rfl rfl ?_) ?_)
             any_goals (first | exact cIndexSum (k := h) rfl (.l rfl ((Ty.sums 34 L).below hv hB)) rfl Try.underlying25 sizeS (by omega) | exact cLoadSum rfl (.t rfl) Try.underlying34 sizeS | exact cCallV2 rfl rfl (.t rfl) (.t rfl) (cmp_ty _ _) | exact cMove rfl rfl | exact cAssign rfl rfl | exact cPickT rfl rfl rfl | exact cPickF rfl rfl rfl | exact cLss rfl rfl rfl | exact cEql rfl rfl rfl)
             rotate_left))
    intro a w6 hF hb hN
    have hBs := hB.size
    replace hB := hB.trans (hb.mono hB.size)
    dsimp only [ext, Option.getD] at hF
    repeat with_reducible first | refine wp_seq ?_ | refine nThen ?_ | refine nBlk ?_ | refine wp_skip ?_ | refine wp_block ?_ | refine wp_exit ?_ | refine xThen ?_ | refine xHere ?_ | refine wp_ret ?_
    refine cond_ty hF rfl (fun hc => ?_) (fun hc => ?_)
    · have hc := of_decide_eq_true hc
      repeat with_reducible first | refine wp_seq ?_ | refine nThen ?_ | refine nBlk ?_ | refine wp_skip ?_ | refine wp_block ?_ | refine wp_exit ?_ | refine xThen ?_ | refine xHere ?_ | refine wp_ret ?_
      refine' reg_all hF ?_ mixed (by kernel_rfl) ?_
      rotate_left
      · repeat (first
            | exact Line.nil
            | (refine' Line.cons rfl (.no rfl rfl rfl rfl rfl rfl) ?_; rotate_left)
            | ((first | refine' Line.cons rfl (.run rfl rfl ?_) ?_ | refine' Line.cons rfl (.yes rfl rfl rfl rfl ?_) ?_)
               any_goals (first | exact cAdd (r := ((h + 1 : Nat) : Int)) rfl rfl rfl (by omega) | exact cMove rfl rfl | exact cAssign rfl rfl | exact cPickT rfl rfl rfl | exact cPickF rfl rfl rfl | exact cLss rfl rfl rfl | exact cEql rfl rfl rfl)
               rotate_left))
      intro a w7 hF hb hN
      have hBs := hB.size
      replace hB := hB.trans (hb.mono hB.size)
      dsimp only [ext, Option.getD] at hF
      repeat with_reducible first | refine wp_seq ?_ | refine nThen ?_ | refine nBlk ?_ | refine wp_skip ?_ | refine wp_block ?_ | refine wp_exit ?_ | refine xThen ?_ | refine xHere ?_ | refine wp_ret ?_
      refine ⟨lo + m - (h + 1), by omega, h + 1, lo + m, by omega, hlen, hF.keep [0, 2, 4, 8, 9, 10], hB, fun j hj => ?_, hhi⟩
      by_cases hjh : j = h
      · subst hjh; exact hc
      · have := lt_get hs (i := j) (j := h) (by omega) (by omega)
        exact cmp_lt_trans (by omega) (by omega) (.inl this)
    · have hc := of_decide_eq_false hc
      repeat with_reducible first | refine wp_seq ?_ | refine nThen ?_ | refine nBlk ?_ | refine wp_skip ?_ | refine wp_block ?_ | refine wp_exit ?_ | refine xThen ?_ | refine xHere ?_ | refine wp_ret ?_
      refine' reg_all hF ?_ mixed (by kernel_rfl) ?_
      rotate_left
      · repeat (first
            | exact Line.nil
            | (refine' Line.cons rfl (.no rfl rfl rfl rfl rfl rfl) ?_; rotate_left)
            | ((first | refine' Line.cons rfl (.run rfl rfl ?_) ?_ | refine' Line.cons rfl (.yes rfl rfl rfl rfl ?_) ?_)
               any_goals (first | exact cMove rfl rfl | exact cAssign rfl rfl | exact cPickT rfl rfl rfl | exact cPickF rfl rfl rfl | exact cLss rfl rfl rfl | exact cEql rfl rfl rfl)
               rotate_left))
      intro a w7 hF hb hN
      have hBs := hB.size
      replace hB := hB.trans (hb.mono hB.size)
      dsimp only [ext, Option.getD] at hF
      repeat with_reducible first | refine wp_seq ?_ | refine nThen ?_ | refine nBlk ?_ | refine wp_skip ?_ | refine wp_block ?_ | refine wp_exit ?_ | refine xThen ?_ | refine xHere ?_ | refine wp_ret ?_
      refine ⟨h - lo, by omega, lo, h, by omega, by omega, hF.keep [0, 2, 4, 8, 9, 10], hB, hlo, fun j hj hjl hjx => ?_⟩
      by_cases hjh : j = h
      · subst hjh; exact hc hjx
      · have := lt_get hs (i := h) (j := j) (by omega) (by omega)
        exact hc (cmp_lt_trans (by omega) (by omega) (.inl this))
  · have hge : m = 0 := by have := of_decide_eq_false hge; omega
    subst hge
    rw [Nat.add_zero] at *
    repeat with_reducible first | refine wp_seq ?_ | refine nThen ?_ | refine nBlk ?_ | refine wp_skip ?_ | refine wp_block ?_ | refine wp_exit ?_ | refine xThen ?_ | refine xHere ?_ | refine wp_ret ?_
    by_cases hle : lo < L.length
    · by_cases he : cmpL (L.getD lo default).l x.l = 0
      · refine' reg_all hF ?_ mixed (by kernel_rfl) ?_
        rotate_left
        · repeat (first
              | exact Line.nil
              | (refine' Line.cons rfl (.no rfl rfl rfl rfl rfl rfl) ?_; rotate_left)
              | ((first | refine' Line.cons rfl (.run rfl rfl ?_) ?_ | refine' Line.cons rfl (.yes rfl rfl rfl rfl ?_) ?_)
                 any_goals (first | exact OpOk.b (c := true) (cLss rfl rfl rfl) (decide_eq_true (by omega)) | exact OpOk.b (c := true) (cEql rfl rfl rfl) (decide_eq_true he) | exact cIndexSum (k := lo) rfl (.l rfl ((Ty.sums 34 L).below hv hB)) rfl Try.underlying25 sizeS hle | exact cLoadSum rfl (.t rfl) Try.underlying34 sizeS | exact cCallV2 rfl rfl (.t rfl) (.t rfl) (cmp_ty _ _) | exact cMove rfl rfl | exact cAssign rfl rfl | exact cPickT rfl rfl rfl | exact cPickF rfl rfl rfl | exact cLss rfl rfl rfl | exact cEql rfl rfl rfl)
                 rotate_left))
        intro a w5 hF hb hN
        have hBs := hB.size
        replace hB := hB.trans (hb.mono hB.size)
        dsimp only [ext, Option.getD] at hF
        repeat with_reducible first | refine wp_seq ?_ | refine nThen ?_ | refine nBlk ?_ | refine wp_skip ?_ | refine wp_block ?_ | refine wp_exit ?_ | refine xThen ?_ | refine xHere ?_ | refine wp_ret ?_
        refine ret2 hF rfl rfl rfl fun y z hy hz => ?_
        refine ⟨_, rfl, ⟨[y, z], rfl, trivial, ?_, trivial⟩, hB⟩
        rw [decide_eq_true (mem_get.2 ⟨lo, hle, cmp_zero.1 he⟩)]
        exact hz
      · refine' reg_all hF ?_ mixed (by kernel_rfl) ?_
        rotate_left
        · repeat (first
              | exact Line.nil
              | (refine' Line.cons rfl (.no rfl rfl rfl rfl rfl rfl) ?_; rotate_left)
              | ((first | refine' Line.cons rfl (.run rfl rfl ?_) ?_ | refine' Line.cons rfl (.yes rfl rfl rfl rfl ?_) ?_)
                 any_goals (first | exact OpOk.b (c := true) (cLss rfl rfl rfl) (decide_eq_true (by omega)) | exact OpOk.b (c := false) (cEql rfl rfl rfl) (decide_eq_false he) | exact cIndexSum (k := lo) rfl (.l rfl ((Ty.sums 34 L).below hv hB)) rfl Try.underlying25 sizeS hle | exact cLoadSum rfl (.t rfl) Try.underlying34 sizeS | exact cCallV2 rfl rfl (.t rfl) (.t rfl) (cmp_ty _ _) | exact cMove rfl rfl | exact cAssign rfl rfl | exact cPickT rfl rfl rfl | exact cPickF rfl rfl rfl | exact cLss rfl rfl rfl | exact cEql rfl rfl rfl)
                 rotate_left))
        intro a w5 hF hb hN
        have hBs := hB.size
        replace hB := hB.trans (hb.mono hB.size)
        dsimp only [ext, Option.getD] at hF
        repeat with_reducible first | refine wp_seq ?_ | refine nThen ?_ | refine nBlk ?_ | refine wp_skip ?_ | refine wp_block ?_ | refine wp_exit ?_ | refine xThen ?_ | refine xHere ?_ | refine wp_ret ?_
        refine ret2 hF rfl rfl rfl fun y z hy hz => ?_
        refine ⟨_, rfl, ⟨[y, z], rfl, trivial, ?_, trivial⟩, hB⟩
        rw [decide_eq_false]
        · exact hz
        · intro hm
          obtain ⟨j, hj, hjx⟩ := mem_get.1 hm
          have h1 : cmpL (L.getD j default).l x.l = 0 := cmp_zero.2 hjx
          rcases Nat.lt_trichotomy j lo with h2 | h2 | h2
          · have := hlo j h2; omega
          · subst h2; exact he h1
          · have h3 := lt_get hs h2 hj
            rw [hjx] at h3
            exact hhi lo (Nat.le_refl _) hle h3
    · refine' reg_all hF ?_ mixed (by kernel_rfl) ?_
      rotate_left
      · repeat (first
            | exact Line.nil
            | (refine' Line.cons rfl (.no rfl rfl rfl rfl rfl rfl) ?_; rotate_left)
            | ((first | refine' Line.cons rfl (.run rfl rfl ?_) ?_ | refine' Line.cons rfl (.yes rfl rfl rfl rfl ?_) ?_)
               any_goals (first | exact OpOk.b (c := false) (cLss rfl rfl rfl) (decide_eq_false (by omega)) | exact cMove rfl rfl | exact cAssign rfl rfl | exact cPickT rfl rfl rfl | exact cPickF rfl rfl rfl | exact cLss rfl rfl rfl | exact cEql rfl rfl rfl)
               rotate_left))
      intro a w5 hF hb hN
      have hBs := hB.size
      replace hB := hB.trans (hb.mono hB.size)
      dsimp only [ext, Option.getD] at hF
      repeat with_reducible first | refine wp_seq ?_ | refine nThen ?_ | refine nBlk ?_ | refine wp_skip ?_ | refine wp_block ?_ | refine wp_exit ?_ | refine xThen ?_ | refine xHere ?_ | refine wp_ret ?_
      refine ret2 hF rfl rfl rfl fun y z hy hz => ?_
      refine ⟨_, rfl, ⟨[y, z], rfl, trivial, ?_, trivial⟩, hB⟩
      rw [decide_eq_false]
      · exact hz
      · intro hm
        obtain ⟨j, hj, hjx⟩ := mem_get.1 hm
        have := hlo j (by omega)
        rw [hjx, cmp_self] at this
        omega

set_option maxRecDepth 100000 in
theorem hasI_ty (L : List Sm) (x : Sm) (hL : L.length ≤ 1000000) (hs : srt L) : Fn2 Try.prog 70 (Ty.sums 34 L) (Ty.ex (.agg (u8s x.l))) (Ty.ex (.bool (decide (x ∈ L)))) := by
  refine ⟨fun args w => by kernel_rfl, fun w v u hv hu => ?_⟩
  refine enter_ty 14 [Ty.ex v, Ty.ex (.agg (u8s x.l))] Try.func70 rfl (by kernel_rfl) ⟨rfl, hu, trivial⟩ fun a hF => ?_
  have hB := Below.refl w.heap.size w
  repeat with_reducible first | refine wp_seq ?_ | refine nThen ?_ | refine wp_ret ?_
  refine' reg_all hF ?_ mixed (by kernel_rfl) ?_
  rotate_left
  · repeat (first
        | exact Line.nil
        | ((refine' Line.cons rfl (.run rfl rfl ?_) ?_)
           any_goals (first | exact cBoxSum rfl rfl | exact cMove rfl rfl | exact cAssign rfl rfl | exact cExtract rfl rfl rfl)
           rotate_left))
  intro a w1 hF hb hN
  have hBs := hB.size
  replace hB := hB.trans (hb.mono hB.size)
  dsimp only [ext, Option.getD] at hF
  repeat with_reducible first | refine wp_seq ?_ | refine nThen ?_ | refine wp_ret ?_
  refine' reg_all hF ?_ mixed (by kernel_rfl) ?_
  rotate_left
  · repeat (first
        | exact Line.nil
        | ((refine' Line.cons rfl (.run rfl rfl ?_) ?_)
           any_goals (first | exact cLoadSum rfl (.t rfl) Try.underlying34 sizeS | exact cCallH3 rfl (.l rfl ((Ty.sums 34 L).below hv hB)) (.t rfl) (.t rfl) (bsearch_ty L x hL hs) | exact cMove rfl rfl | exact cAssign rfl rfl | exact cExtract rfl rfl rfl)
           rotate_left))
  intro a w2 hF hb hN
  have hBs := hB.size
  replace hB := hB.trans (hb.mono hB.size)
  dsimp only [ext, Option.getD] at hF
  repeat with_reducible first | refine wp_seq ?_ | refine nThen ?_ | refine wp_ret ?_
  refine' reg_all hF ?_ mixed (by kernel_rfl) ?_
  rotate_left
  · repeat (first
        | exact Line.nil
        | ((refine' Line.cons rfl (.run rfl rfl ?_) ?_)
           any_goals (first | exact cMove rfl rfl | exact cAssign rfl rfl | exact cExtract rfl rfl rfl)
           rotate_left))
  intro a w3 hF hb hN
  have hBs := hB.size
  replace hB := hB.trans (hb.mono hB.size)
  dsimp only [ext, Option.getD] at hF
  repeat with_reducible first | refine wp_seq ?_ | refine nThen ?_ | refine wp_ret ?_
  refine ret1 hF rfl rfl fun z hz => ?_
  exact ⟨z, rfl, hz, hB⟩
end Go.Proofs.Ytmlbkcpmgcjblaa

/- Layer 10: the walks of IndexFunc, DeleteFunc, Minus, Both. -/
namespace Go.Proofs.Ytmlbkcpmgcjblaa
open Go.RowKit

theorem PredK.at_ {P : Program} {f : FuncId} {cb : Array Value} {S : List Nat} {w w0 : World} {p : Sm → Bool} (h : PredK P f cb S w p) (k : Keeps S w w0) (x : Sm) : ∀ W, Below w0.heap.size w0 W → Ret P f (#[.agg (u8s x.l)] ++ cb) W (Ty.ex (.bool (p x))) := fun W hb => h W x (k.trans (Keeps.of_below hb))
/-- The first that passes, or -1. -/
def FirstP (D : List Sm) (p : Sm → Bool) (r : Int) : Prop := (∃ k : Nat, r = (k : Int) ∧ k < D.length ∧ p (D.getD k default) = true ∧ ∀ j, j < k → p (D.getD j default) = false) ∨ (r = -1 ∧ ∀ j, j < D.length → p (D.getD j default) = false)
theorem first_is (D : List Sm) (p : Sm → Bool) : ∃ r, FirstP D p r := by
  suffices h : ∀ m, m ≤ D.length → (∃ r, FirstP D p r) ∨ ∀ j, j < m → p (D.getD j default) = false by
    rcases h D.length (Nat.le_refl _) with h | h
    · exact h
    · exact ⟨-1, .inr ⟨rfl, h⟩⟩
  intro m
  induction m with
  | zero => intro _; exact .inr fun j hj => by omega
  | succ m ih =>
    intro hm
    rcases ih (by omega) with h | h
    · exact .inl h
    · cases hp : p (D.getD m default) with
      | true => exact .inl ⟨_, .inl ⟨m, rfl, by omega, hp, h⟩⟩
      | false =>
        refine .inr fun j hj => ?_
        by_cases hjm : j = m
        · subst hjm; exact hp
        · exact h j (by omega)

set_option maxRecDepth 100000 in
theorem indexf_any {f : FuncId} {cb : Array Value} {S : List Nat} {p : Sm → Bool} (he : Enters Try.prog f) (D : List Sm) (w : World) (v : Value) (hv : (Ty.sums 34 D).p w v) (hD : D.length ≤ 1000000) (hp : PredK Try.prog f cb S w p) {r : Int} (hr : FirstP D p r) :
    Ret Try.prog 104 #[v, .func (.func f) #[] cb] w (Ty.ex (.int .i64 r)) := by
  generalize hfv : (Value.func (.func f) #[] cb) = fv
  refine enter_ty 19 [Ty.ex v, Ty.ex fv] Try.func104 rfl (by kernel_rfl) ⟨rfl, rfl, trivial⟩ fun a hF => ?_
  subst hfv
  have hB := Below.refl w.heap.size w
  repeat with_reducible first | refine wp_seq ?_ | refine nThen ?_ | refine nBlk ?_ | refine wp_skip ?_ | refine wp_block ?_ | refine wp_exit ?_ | refine xThen ?_ | refine xHere ?_ | refine wp_ret ?_ | refine rThen ?_ | refine rBlk ?_
  refine' reg_all hF ?_ mixed (by kernel_rfl) ?_
  rotate_left
  · repeat (first
        | exact Line.nil
        | ((refine' Line.cons rfl (.run rfl rfl ?_) ?_)
           any_goals (first | exact cMove rfl rfl | exact cAssign rfl rfl | exact cLss rfl rfl rfl)
           rotate_left))
  intro a w1 hF hb hN
  have hBs := hB.size
  replace hB := hB.trans (hb.mono hB.size)
  dsimp only [ext, Option.getD] at hF
  repeat with_reducible first | refine wp_seq ?_ | refine nThen ?_ | refine nBlk ?_ | refine wp_skip ?_ | refine wp_block ?_ | refine wp_exit ?_ | refine xThen ?_ | refine xHere ?_ | refine wp_ret ?_ | refine rThen ?_ | refine rBlk ?_
  refine' reg_all hF ?_ mixed (by kernel_rfl) ?_
  rotate_left
  · repeat (first
        | exact Line.nil
        | ((refine' Line.cons rfl (.run rfl rfl ?_) ?_)
           any_goals (first | exact cLenH rfl (.l rfl ((Ty.sums 34 D).below hv hB)) (Ty.sl_isSl _ _ _) Try.underlying25 | exact cMove rfl rfl | exact cAssign rfl rfl | exact cLss rfl rfl rfl)
           rotate_left))
  intro a w2 hF hb hN
  have hBs := hB.size
  replace hB := hB.trans (hb.mono hB.size)
  dsimp only [ext, Option.getD] at hF
  repeat with_reducible first | refine wp_seq ?_ | refine nThen ?_ | refine nBlk ?_ | refine wp_skip ?_ | refine wp_block ?_ | refine wp_exit ?_ | refine xThen ?_ | refine xHere ?_ | refine wp_ret ?_ | refine rThen ?_ | refine rBlk ?_
  refine loop_ty (fun m a wr => ∃ k : Nat, k + m = D.length ∧ Fr 19 [(0, Ty.ex v), (1, Ty.ex (.func (.func f) #[] cb)), (7, Ty.ex (.int .i64 (D.length : Int))), (8, Ty.ex (.int .i64 (k : Int)))] a wr ∧ Below w.heap.size w wr ∧ ∀ j, j < k → p (D.getD j default) = false) D.length ?_ ?_
  · exact ⟨0, by omega, hF.keep [0, 1, 7, 8], hB, fun j hj => by omega⟩
  clear hF hB
  rintro m a wr ⟨k, hk, hF, hB, hlo⟩
  repeat with_reducible first | refine wp_seq ?_ | refine nThen ?_ | refine nBlk ?_ | refine wp_skip ?_ | refine wp_block ?_ | refine wp_exit ?_ | refine xThen ?_ | refine xHere ?_ | refine wp_ret ?_ | refine rThen ?_ | refine rBlk ?_
  refine' reg_all hF ?_ mixed (by kernel_rfl) ?_
  rotate_left
  · repeat (first
        | exact Line.nil
        | ((refine' Line.cons rfl (.run rfl rfl ?_) ?_)
           any_goals (first | exact cMove rfl rfl | exact cAssign rfl rfl | exact cLss rfl rfl rfl)
           rotate_left))
  intro a w3 hF hb hN
  have hBs := hB.size
  replace hB := hB.trans (hb.mono hB.size)
  dsimp only [ext, Option.getD] at hF
  repeat with_reducible first | refine wp_seq ?_ | refine nThen ?_ | refine nBlk ?_ | refine wp_skip ?_ | refine wp_block ?_ | refine wp_exit ?_ | refine xThen ?_ | refine xHere ?_ | refine wp_ret ?_ | refine rThen ?_ | refine rBlk ?_
  refine cond_ty hF rfl (fun hlt => ?_) (fun hge => ?_)
  · have hlt : k < D.length := by have := of_decide_eq_true hlt; omega
    repeat with_reducible first | refine wp_seq ?_ | refine nThen ?_ | refine nBlk ?_ | refine wp_skip ?_ | refine wp_block ?_ | refine wp_exit ?_ | refine xThen ?_ | refine xHere ?_ | refine wp_ret ?_ | refine rThen ?_ | refine rBlk ?_
    refine' reg_all hF ?_ mixed (by kernel_rfl) ?_
    rotate_left
    · repeat (first
          | exact Line.nil
          | ((refine' Line.cons rfl (.run rfl rfl ?_) ?_)
             any_goals (first | exact cMove rfl rfl | exact cAssign rfl rfl | exact cLss rfl rfl rfl)
             rotate_left))
    intro a w4 hF hb hN
    have hBs := hB.size
    replace hB := hB.trans (hb.mono hB.size)
    dsimp only [ext, Option.getD] at hF
    repeat with_reducible first | refine wp_seq ?_ | refine nThen ?_ | refine nBlk ?_ | refine wp_skip ?_ | refine wp_block ?_ | refine wp_exit ?_ | refine xThen ?_ | refine xHere ?_ | refine wp_ret ?_ | refine rThen ?_ | refine rBlk ?_
    refine' reg_all hF ?_ mixed (by kernel_rfl) ?_
    rotate_left
    · repeat (first
          | exact Line.nil
          | ((refine' Line.cons rfl (.run rfl rfl ?_) ?_)
             any_goals (first | exact cIndexSum (k := k) rfl (.l rfl ((Ty.sums 34 D).below hv hB)) rfl Try.underlying25 sizeS hlt | exact cLoadSum rfl (.t rfl) Try.underlying34 sizeS | exact cCallC1 rfl rfl rfl he (hp.at_ (Keeps.of_below hB) _) | exact cMove rfl rfl | exact cAssign rfl rfl | exact cLss rfl rfl rfl)
             rotate_left))
    intro a w5 hF hb hN
    have hBs := hB.size
    replace hB := hB.trans (hb.mono hB.size)
    dsimp only [ext, Option.getD] at hF
    repeat with_reducible first | refine wp_seq ?_ | refine nThen ?_ | refine nBlk ?_ | refine wp_skip ?_ | refine wp_block ?_ | refine wp_exit ?_ | refine xThen ?_ | refine xHere ?_ | refine wp_ret ?_ | refine rThen ?_ | refine rBlk ?_
    refine cond_ty hF rfl (fun hc => ?_) (fun hc => ?_)
    · repeat with_reducible first | refine wp_seq ?_ | refine nThen ?_ | refine nBlk ?_ | refine wp_skip ?_ | refine wp_block ?_ | refine wp_exit ?_ | refine xThen ?_ | refine xHere ?_ | refine wp_ret ?_ | refine rThen ?_ | refine rBlk ?_
      refine' reg_all hF ?_ mixed (by kernel_rfl) ?_
      rotate_left
      · repeat (first
            | exact Line.nil
            | ((refine' Line.cons rfl (.run rfl rfl ?_) ?_)
               any_goals (first | exact cMove rfl rfl | exact cAssign rfl rfl | exact cLss rfl rfl rfl)
               rotate_left))
      intro a w6 hF hb hN
      have hBs := hB.size
      replace hB := hB.trans (hb.mono hB.size)
      dsimp only [ext, Option.getD] at hF
      repeat with_reducible first | refine wp_seq ?_ | refine nThen ?_ | refine nBlk ?_ | refine wp_skip ?_ | refine wp_block ?_ | refine wp_exit ?_ | refine xThen ?_ | refine xHere ?_ | refine wp_ret ?_ | refine rThen ?_ | refine rBlk ?_
      refine ret1 hF rfl rfl fun z hz => ?_
      refine ⟨z, rfl, ?_, hB⟩
      have hrk : r = (k : Int) := by
        rcases hr with ⟨k', e1, e2, e3, e4⟩ | ⟨e1, e2⟩
        · rcases Nat.lt_trichotomy k k' with h | h | h
          · rw [e4 k h] at hc; cases hc
          · rw [e1, h]
          · rw [hlo k' h] at e3; cases e3
        · rw [e2 k hlt] at hc; cases hc
      rw [hrk]; exact hz
    · repeat with_reducible first | refine wp_seq ?_ | refine nThen ?_ | refine nBlk ?_ | refine wp_skip ?_ | refine wp_block ?_ | refine wp_exit ?_ | refine xThen ?_ | refine xHere ?_ | refine wp_ret ?_ | refine rThen ?_ | refine rBlk ?_
      refine' reg_all hF ?_ mixed (by kernel_rfl) ?_
      rotate_left
      · repeat (first
            | exact Line.nil
            | ((refine' Line.cons rfl (.run rfl rfl ?_) ?_)
               any_goals (first | exact cAdd (r := ((k + 1 : Nat) : Int)) rfl rfl rfl (by omega) | exact cMove rfl rfl | exact cAssign rfl rfl | exact cLss rfl rfl rfl)
               rotate_left))
      intro a w6 hF hb hN
      have hBs := hB.size
      replace hB := hB.trans (hb.mono hB.size)
      dsimp only [ext, Option.getD] at hF
      repeat with_reducible first | refine wp_seq ?_ | refine nThen ?_ | refine nBlk ?_ | refine wp_skip ?_ | refine wp_block ?_ | refine wp_exit ?_ | refine xThen ?_ | refine xHere ?_ | refine wp_ret ?_ | refine rThen ?_ | refine rBlk ?_
      refine ⟨m - 1, by omega, k + 1, by omega, hF.keep [0, 1, 7, 8], hB, fun j hj => ?_⟩
      by_cases hjk : j = k
      · subst hjk; exact hc
      · exact hlo j (by omega)
  · have hge : ¬ k < D.length := by have := of_decide_eq_false hge; omega
    repeat with_reducible first | refine wp_seq ?_ | refine nThen ?_ | refine nBlk ?_ | refine wp_skip ?_ | refine wp_block ?_ | refine wp_exit ?_ | refine xThen ?_ | refine xHere ?_ | refine wp_ret ?_ | refine rThen ?_ | refine rBlk ?_
    refine' reg_all hF ?_ mixed (by kernel_rfl) ?_
    rotate_left
    · repeat (first
          | exact Line.nil
          | ((refine' Line.cons rfl (.run rfl rfl ?_) ?_)
             any_goals (first | exact cMove rfl rfl | exact cAssign rfl rfl | exact cLss rfl rfl rfl)
             rotate_left))
    intro a w4 hF hb hN
    have hBs := hB.size
    replace hB := hB.trans (hb.mono hB.size)
    dsimp only [ext, Option.getD] at hF
    repeat with_reducible first | refine wp_seq ?_ | refine nThen ?_ | refine nBlk ?_ | refine wp_skip ?_ | refine wp_block ?_ | refine wp_exit ?_ | refine xThen ?_ | refine xHere ?_ | refine wp_ret ?_ | refine rThen ?_ | refine rBlk ?_
    refine ret1 hF rfl rfl fun z hz => ?_
    refine ⟨z, rfl, ?_, hB⟩
    have hrk : r = -1 := by
      rcases hr with ⟨k', e1, e2, e3, e4⟩ | ⟨e1, e2⟩
      · rw [hlo k' (by omega)] at e3; cases e3
      · exact e1
    rw [hrk]; exact hz

theorem filt_snoc_in {D : List Sm} {p : Sm → Bool} {m : Nat} (h : m < D.length) (hp : p (D.getD m default) = false) : (D.take (m + 1)).filter (fun x => !p x) = (D.take m).filter (fun x => !p x) ++ [D.getD m default] := by
  rw [take_snoc' D h, List.filter_append]
  generalize D.getD m default = x at *
  simp [hp]
theorem filt_snoc_out {D : List Sm} {p : Sm → Bool} {m : Nat} (h : m < D.length) (hp : p (D.getD m default) = true) : (D.take (m + 1)).filter (fun x => !p x) = (D.take m).filter (fun x => !p x) := by
  rw [take_snoc' D h, List.filter_append]
  generalize D.getD m default = x at *
  simp [hp]
theorem filt_pre {D : List Sm} {p : Sm → Bool} : ∀ {m : Nat}, m ≤ D.length → (∀ j, j < m → p (D.getD j default) = false) → (D.take m).filter (fun x => !p x) = D.take m
  | 0, _, _ => rfl
  | m + 1, h, hp => by rw [filt_snoc_in h (hp m (by omega)), filt_pre (by omega) fun j hj => hp j (by omega), take_snoc' D h]

set_option maxRecDepth 100000 in
set_option maxHeartbeats 2000000 in
theorem delete_any {f : FuncId} {cb : Array Value} {p : Sm → Bool} (he : Enters Try.prog f) (D : List Sm) (w : World) (g off cap : Nat) (hs0 : SegL w 34 32 g off D.length cap (flat D)) (hD : D.length ≤ 1000000) (hp : PredK Try.prog f cb [g] w p) :
    Calls Try.prog 68 #[.slice (some ⟨g, off, none⟩) D.length cap, .func (.func f) #[] cb] w fun e w' => ∃ k, e = .returned (.slice (some ⟨g, off, none⟩) k cap) ∧ k = (D.filter fun x => !p x).length ∧ SegL w' 34 32 g off k cap (flat (D.filter fun x => !p x)) ∧ Keeps [g] w w' := by
  have hcap : D.length ≤ cap := hs0.2.1
  obtain ⟨r, hr⟩ := first_is D p
  generalize hfv : (Value.func (.func f) #[] cb) = fv
  refine enter_ty 42 [Ty.ex (.slice (some ⟨g, off, none⟩) D.length cap), Ty.ex fv] Try.func68 rfl (by kernel_rfl) ⟨rfl, rfl, trivial⟩ fun a hF => ?_
  subst hfv
  have hB := Below.refl w.heap.size w
  repeat with_reducible first | refine wp_seq ?_ | refine nThen ?_ | refine nBlk ?_ | refine wp_skip ?_ | refine wp_block ?_ | refine wp_exit ?_ | refine xThen ?_ | refine xHere ?_ | refine wp_ret ?_ | refine rThen ?_
  refine' reg_all hF ?_ mixed (by kernel_rfl) ?_
  rotate_left
  · repeat (first
        | exact Line.nil
        | ((refine' Line.cons rfl (.run rfl rfl ?_) ?_)
           any_goals (first | exact cMove rfl rfl | exact cAssign rfl rfl | exact cNot rfl rfl | exact cLss rfl rfl rfl | exact cEql rfl rfl rfl)
           rotate_left))
  intro a w1 hF hb hN
  have hBs := hB.size
  replace hB := hB.trans (hb.mono hB.size)
  dsimp only [ext, Option.getD] at hF
  repeat with_reducible first | refine wp_seq ?_ | refine nThen ?_ | refine nBlk ?_ | refine wp_skip ?_ | refine wp_block ?_ | refine wp_exit ?_ | refine xThen ?_ | refine xHere ?_ | refine wp_ret ?_ | refine rThen ?_
  have hei : Enters Try.prog 104 := fun args w => by kernel_rfl
  refine' reg_all hF ?_ mixed (by kernel_rfl) ?_
  rotate_left
  · repeat (first
        | exact Line.nil
        | ((refine' Line.cons rfl (.run rfl rfl ?_) ?_)
           any_goals (first | exact cCallW2 rfl rfl rfl hei (fun W x y hb hx hy => by have hx : x = .slice (some ⟨g, off, none⟩) D.length cap := hx; have hy : y = .func (.func f) #[] cb := hy; subst hx hy; exact indexf_any he D W _ ((hs0.below hB).below hb).sl hD ((hp.later (Keeps.of_below hB)).later (Keeps.of_below hb)) hr) | exact cMove rfl rfl | exact cAssign rfl rfl | exact cNot rfl rfl | exact cLss rfl rfl rfl | exact cEql rfl rfl rfl)
           rotate_left))
  intro a w2 hF hb hN
  have hBs := hB.size
  replace hB := hB.trans (hb.mono hB.size)
  dsimp only [ext, Option.getD] at hF
  repeat with_reducible first | refine wp_seq ?_ | refine nThen ?_ | refine nBlk ?_ | refine wp_skip ?_ | refine wp_block ?_ | refine wp_exit ?_ | refine xThen ?_ | refine xHere ?_ | refine wp_ret ?_ | refine rThen ?_
  refine' reg_all hF ?_ mixed (by kernel_rfl) ?_
  rotate_left
  · repeat (first
        | exact Line.nil
        | ((refine' Line.cons rfl (.run rfl rfl ?_) ?_)
           any_goals (first | exact cMove rfl rfl | exact cAssign rfl rfl | exact cNot rfl rfl | exact cLss rfl rfl rfl | exact cEql rfl rfl rfl)
           rotate_left))
  intro a w3 hF hb hN
  have hBs := hB.size
  replace hB := hB.trans (hb.mono hB.size)
  dsimp only [ext, Option.getD] at hF
  repeat with_reducible first | refine wp_seq ?_ | refine nThen ?_ | refine nBlk ?_ | refine wp_skip ?_ | refine wp_block ?_ | refine wp_exit ?_ | refine xThen ?_ | refine xHere ?_ | refine wp_ret ?_ | refine rThen ?_
  rcases hr with ⟨k, rfl, hk, hpk, hlo⟩ | ⟨rfl, hall⟩
  rotate_left
  · refine cond_t hF rfl ?_
    repeat with_reducible first | refine wp_seq ?_ | refine nThen ?_ | refine nBlk ?_ | refine wp_skip ?_ | refine wp_block ?_ | refine wp_exit ?_ | refine xThen ?_ | refine xHere ?_ | refine wp_ret ?_ | refine rThen ?_
    refine' reg_all hF ?_ mixed (by kernel_rfl) ?_
    rotate_left
    · repeat (first
          | exact Line.nil
          | ((refine' Line.cons rfl (.run rfl rfl ?_) ?_)
             any_goals (first | exact cMove rfl rfl | exact cAssign rfl rfl | exact cNot rfl rfl | exact cLss rfl rfl rfl | exact cEql rfl rfl rfl)
             rotate_left))
    intro a w4 hF hb hN
    have hBs := hB.size
    replace hB := hB.trans (hb.mono hB.size)
    dsimp only [ext, Option.getD] at hF
    repeat with_reducible first | refine wp_seq ?_ | refine nThen ?_ | refine nBlk ?_ | refine wp_skip ?_ | refine wp_block ?_ | refine wp_exit ?_ | refine xThen ?_ | refine xHere ?_ | refine wp_ret ?_ | refine rThen ?_
    refine ret1 hF rfl rfl fun z hz => ?_
    have hz : z = .slice (some ⟨g, off, none⟩) D.length cap := hz
    subst hz
    have hfd : (D.filter fun x => !p x) = D := by have := filt_pre (Nat.le_refl _) hall; rwa [List.take_length] at this
    rw [hfd]
    exact ⟨D.length, rfl, rfl, hs0.below hB, Keeps.of_below hB⟩
  refine cond_ty hF rfl (fun hbad => absurd (of_decide_eq_true hbad) (by omega)) (fun _ => ?_)
  repeat with_reducible first | refine wp_seq ?_ | refine nThen ?_ | refine nBlk ?_ | refine wp_skip ?_ | refine wp_block ?_ | refine wp_exit ?_ | refine xThen ?_ | refine xHere ?_ | refine wp_ret ?_ | refine rThen ?_
  refine' reg_all hF ?_ mixed (by kernel_rfl) ?_
  rotate_left
  · repeat (first
        | exact Line.nil
        | ((refine' Line.cons rfl (.run rfl rfl ?_) ?_)
           any_goals (first | exact cAdd (r := ((k + 1 : Nat) : Int)) rfl rfl rfl (by omega) | exact cMove rfl rfl | exact cAssign rfl rfl | exact cNot rfl rfl | exact cLss rfl rfl rfl | exact cEql rfl rfl rfl)
           rotate_left))
  intro a w4 hF hb hN
  have hBs := hB.size
  replace hB := hB.trans (hb.mono hB.size)
  dsimp only [ext, Option.getD] at hF
  repeat with_reducible first | refine wp_seq ?_ | refine nThen ?_ | refine nBlk ?_ | refine wp_skip ?_ | refine wp_block ?_ | refine wp_exit ?_ | refine xThen ?_ | refine xHere ?_ | refine wp_ret ?_ | refine rThen ?_
  refine loop_ty (fun m a wr => ∃ (i j : Nat) (E : List Sm), i + m = D.length ∧ E.length = D.length ∧ j = ((D.take i).filter fun x => !p x).length ∧ j < i ∧ E.take j = (D.take i).filter (fun x => !p x) ∧ (∀ q, i ≤ q → E.getD q default = D.getD q default) ∧
      Fr 42 [(0, Ty.ex (.slice (some ⟨g, off, none⟩) D.length cap)), (1, Ty.ex (.func (.func f) #[] cb)), (5, Ty.ex (.int .i64 (j : Int))), (6, Ty.ex (.int .i64 (i : Int)))] a wr ∧ SegL wr 34 32 g off D.length cap (flat E) ∧ Keeps [g] w wr) (D.length - (k + 1)) ?_ ?_
  · have hpre := filt_pre (D := D) (p := p) (m := k) (by omega) hlo
    refine ⟨k + 1, k, D, by omega, rfl, ?_, by omega, ?_, fun _ _ => rfl, hF.keep [0, 1, 5, 6], hs0.below hB, Keeps.of_below hB⟩
    · rw [filt_snoc_out hk hpk, hpre]; simp; omega
    · rw [filt_snoc_out hk hpk, hpre]
  clear hF hB hs0
  rintro m a wr ⟨i, j, E, hi, hE, hj, hji, hjt, hsame, hF, hseg, hKw⟩
  have hB := Below.refl wr.heap.size wr
  repeat with_reducible first | refine wp_seq ?_ | refine nThen ?_ | refine nBlk ?_ | refine wp_skip ?_ | refine wp_block ?_ | refine wp_exit ?_ | refine xThen ?_ | refine xHere ?_ | refine wp_ret ?_ | refine rThen ?_
  refine' reg_all hF ?_ mixed (by kernel_rfl) ?_
  rotate_left
  · repeat (first
        | exact Line.nil
        | ((refine' Line.cons rfl (.run rfl rfl ?_) ?_)
           any_goals (first | exact cLenEx rfl rfl Try.underlying25 | exact cMove rfl rfl | exact cAssign rfl rfl | exact cNot rfl rfl | exact cLss rfl rfl rfl | exact cEql rfl rfl rfl)
           rotate_left))
  intro a w8 hF hb hN
  have hBs := hB.size
  replace hB := hB.trans (hb.mono hB.size)
  dsimp only [ext, Option.getD] at hF
  repeat with_reducible first | refine wp_seq ?_ | refine nThen ?_ | refine nBlk ?_ | refine wp_skip ?_ | refine wp_block ?_ | refine wp_exit ?_ | refine xThen ?_ | refine xHere ?_ | refine wp_ret ?_ | refine rThen ?_
  refine cond_ty hF rfl (fun hlt => ?_) (fun hge => ?_)
  rotate_left
  · have hge : ¬ i < D.length := by have := of_decide_eq_false hge; omega
    obtain rfl : i = D.length := by omega
    rw [List.take_length] at hj hjt
    have hjn : j < D.length := hji
    repeat with_reducible first | refine wp_seq ?_ | refine nThen ?_ | refine nBlk ?_ | refine wp_skip ?_ | refine wp_block ?_ | refine wp_exit ?_ | refine xThen ?_ | refine xHere ?_ | refine wp_ret ?_ | refine rThen ?_
    refine' region_ty 3 mixed (by kernel_rfl) hF ?_ ?_
    rotate_left
    · simp only [List.take_succ_cons, List.take_zero]
      repeat (first
          | exact Line.nil
          | ((refine' Line.cons rfl (.run rfl rfl ?_) ?_)
             any_goals (first | exact cSliceLoEx rfl rfl rfl Try.underlying25 sizeS hjn hcap | exact cMove rfl rfl | exact cAssign rfl rfl | exact cNot rfl rfl | exact cLss rfl rfl rfl | exact cEql rfl rfl rfl)
             rotate_left))
    intro a w9 hF hb hN
    have hBs := hB.size
    replace hB := hB.trans (hb.mono hB.size)
    simp only [List.take_succ_cons, List.take_zero, List.drop_succ_cons, List.drop_zero] at hF hN ⊢
    dsimp only [ext, Option.getD] at hF
    refine tlClear (Δ := [(0, Ty.ex (.slice (some ⟨g, off, none⟩) D.length cap)), (5, Ty.ex (.int .i64 (j : Int)))]) (k := j) hF rfl rfl rfl rfl Try.underlying25 infoS zero32_size zeroS_one (hseg.below hB) (by omega) (hF.keep [0, 5]) rfl ?_
    intro w10 zs hzl hF hseg2 hk2
    refine wpList_nil ?_
    repeat with_reducible first | refine wp_seq ?_ | refine nThen ?_ | refine nBlk ?_ | refine wp_skip ?_ | refine wp_block ?_ | refine wp_exit ?_ | refine xThen ?_ | refine xHere ?_ | refine wp_ret ?_ | refine rThen ?_
    replace hKw : Keeps [g] w w10 := (hKw.trans (Keeps.of_below hB)).trans hk2
    have hB := Below.refl w10.heap.size w10
    refine' reg_all hF ?_ mixed (by kernel_rfl) ?_
    rotate_left
    · repeat (first
          | exact Line.nil
          | ((refine' Line.cons rfl (.run rfl rfl ?_) ?_)
             any_goals (first | exact cSliceHiEx rfl rfl rfl Try.underlying25 sizeS (by omega) | exact cMove rfl rfl | exact cAssign rfl rfl | exact cNot rfl rfl | exact cLss rfl rfl rfl | exact cEql rfl rfl rfl)
             rotate_left))
    intro a w11 hF hb hN
    have hBs := hB.size
    replace hB := hB.trans (hb.mono hB.size)
    dsimp only [ext, Option.getD] at hF
    repeat with_reducible first | refine wp_seq ?_ | refine nThen ?_ | refine nBlk ?_ | refine wp_skip ?_ | refine wp_block ?_ | refine wp_exit ?_ | refine xThen ?_ | refine xHere ?_ | refine wp_ret ?_ | refine rThen ?_
    refine ret1 hF rfl rfl fun z hz => ?_
    have hz : z = .slice (some ⟨g, off, none⟩) j cap := hz
    subst hz
    refine ⟨j, rfl, hj, ?_, hKw.trans (Keeps.of_below hB)⟩
    have h5 := (hseg2.below hB).take (k := j) (by omega)
    have h6 : (over (flat E) (j * 32) zs).take (j * 32) = flat (D.filter fun x => !p x) := by
      unfold over
      rw [List.append_assoc, List.take_append_of_le_length (by rw [List.length_take, flat_len]; omega), List.take_take, Nat.min_self, flat_take, hjt]
    rwa [h6] at h5
  have hlt : i < D.length := by have := of_decide_eq_true hlt; omega
  have hB8 := hB.size
  have hg8 : g < w8.heap.size := (hseg.below hB).lt
  have hsE : (Ty.sums 34 E).p w8 (.slice (some ⟨g, off, none⟩) D.length cap) := by
    have h := (hseg.below hB).sl
    rw [← hE] at h ⊢
    exact h
  have e1 : E.getD i default = D.getD i default := hsame i (Nat.le_refl _)
  repeat with_reducible first | refine wp_seq ?_ | refine nThen ?_ | refine nBlk ?_ | refine wp_skip ?_ | refine wp_block ?_ | refine wp_exit ?_ | refine xThen ?_ | refine xHere ?_ | refine wp_ret ?_ | refine rThen ?_
  refine' region_ty 5 mixed (by kernel_rfl) hF ?_ ?_
  rotate_left
  · simp only [List.take_succ_cons, List.take_zero]
    repeat (first
        | exact Line.nil
        | (refine' Line.cons rfl (.new rfl rfl ((run_alloc_i infoS)) rfl) ?_; rotate_left)
        | ((refine' Line.cons rfl (.run rfl rfl ?_) ?_)
           any_goals (first | exact cIndexSum (k := i) rfl (.l rfl hsE) rfl Try.underlying25 sizeS (by omega) | exact cLoadSum rfl (.t rfl) Try.underlying34 sizeS | exact cMove rfl rfl | exact cAssign rfl rfl | exact cNot rfl rfl | exact cLss rfl rfl rfl | exact cEql rfl rfl rfl)
           rotate_left))
  intro a w9 hF hb hN
  have hBs := hB.size
  replace hB := hB.trans (hb.mono hB.size)
  simp only [List.take_succ_cons, List.take_zero, List.drop_succ_cons, List.drop_zero] at hF hN ⊢
  dsimp only [ext, Option.getD] at hF
  rw [e1] at hF
  have hB8 : wr.heap.size ≤ w8.heap.size := hB8
  obtain ⟨z, ⟨gx, rfl, hgx, hbx⟩, hF⟩ := hF.open (s := 7) rfl
  have hgx : w8.heap.size ≤ gx := hgx
  refine tlStoreV (Δ := [(0, Ty.ex (.slice (some ⟨g, off, none⟩) D.length cap)), (1, Ty.ex (.func (.func f) #[] cb)), (5, Ty.ex (.int .i64 (j : Int))), (6, Ty.ex (.int .i64 (i : Int))), (7, Ty.ex (.pointer (some ⟨gx, 0, none⟩)))]) hF rfl rfl rfl rfl (hF.getEx (s := 25) rfl) hbx (by show (u8s _).size = (u8s _).size; rw [u8s_size, u8s_size, Sm.len]; rfl) (by show _ = some (u8s _).size; rw [u8s_size, Sm.len]; exact sizeS) (u8s_one _) (hF.keep [0, 1, 5, 6, 7]) rfl ?_
  intro w10 hF hbx hkx
  refine wpList_nil ?_
  repeat with_reducible first | refine wp_seq ?_ | refine nThen ?_ | refine nBlk ?_ | refine wp_skip ?_ | refine wp_block ?_ | refine wp_exit ?_ | refine xThen ?_ | refine xHere ?_ | refine wp_ret ?_ | refine rThen ?_
  have hseg := (hseg.below hB).keeps hkx (by simp; omega)
  replace hKw : Keeps [g] w w10 := (hKw.trans (Keeps.of_below hB)).trans' hkx (fun x hx => by simp only [List.mem_singleton] at hx; subst hx; exact .inr (Nat.le_trans (Nat.le_trans hKw.size hB8) hgx))
  have hp9 := hp.later hKw
  have hB := Below.refl w10.heap.size w10
  have hax : (Ty.at_ 34 (D.getD i default).enc).p w10 (.pointer (some ⟨gx, 0, none⟩)) := by
    have h := blk_at hbx
    rwa [show (Value.agg (u8s (D.getD i default).l)).cells.toList = (D.getD i default).enc from u8s_list _] at h
  refine' reg_all hF ?_ mixed (by kernel_rfl) ?_
  rotate_left
  · repeat (first
        | exact Line.nil
        | ((refine' Line.cons rfl (.run rfl rfl ?_) ?_)
           any_goals (first | exact cLoadSum rfl (.l rfl hax) Try.underlying34 sizeS | exact cCallC1 rfl rfl rfl he (hp9.at_ (Keeps.of_below hB) _) | exact cMove rfl rfl | exact cAssign rfl rfl | exact cNot rfl rfl | exact cLss rfl rfl rfl | exact cEql rfl rfl rfl)
           rotate_left))
  intro a w11 hF hb hN
  have hBs := hB.size
  replace hB := hB.trans (hb.mono hB.size)
  dsimp only [ext, Option.getD] at hF
  repeat with_reducible first | refine wp_seq ?_ | refine nThen ?_ | refine nBlk ?_ | refine wp_skip ?_ | refine wp_block ?_ | refine wp_exit ?_ | refine xThen ?_ | refine xHere ?_ | refine wp_ret ?_ | refine rThen ?_
  refine cond_ty hF rfl (fun hc => ?_) (fun hc => ?_)
  · have hc : p (D.getD i default) = false := by simpa using hc
    have hdd2 := filt_snoc_in hlt hc
    have hax := (Ty.at_ 34 (D.getD i default).enc).below hax hB
    repeat with_reducible first | refine wp_seq ?_ | refine nThen ?_ | refine nBlk ?_ | refine wp_skip ?_ | refine wp_block ?_ | refine wp_exit ?_ | refine xThen ?_ | refine xHere ?_ | refine wp_ret ?_ | refine rThen ?_
    refine' region_ty 4 mixed (by kernel_rfl) hF ?_ ?_
    rotate_left
    · simp only [List.take_succ_cons, List.take_zero]
      repeat (first
          | exact Line.nil
          | ((refine' Line.cons rfl (.run rfl rfl ?_) ?_)
             any_goals (first | exact cLoadSum rfl (.l rfl hax) Try.underlying34 sizeS | exact cIndexEx (k := j) rfl rfl rfl Try.underlying25 sizeS (by omega) | exact cMove rfl rfl | exact cAssign rfl rfl | exact cNot rfl rfl | exact cLss rfl rfl rfl | exact cEql rfl rfl rfl)
             rotate_left))
    intro a w12 hF hb hN
    have hBs := hB.size
    replace hB := hB.trans (hb.mono hB.size)
    simp only [List.take_succ_cons, List.take_zero, List.drop_succ_cons, List.drop_zero] at hF hN ⊢
    dsimp only [ext, Option.getD] at hF
    refine tlStoreAt (Δ := [(0, Ty.ex (.slice (some ⟨g, off, none⟩) D.length cap)), (1, Ty.ex (.func (.func f) #[] cb)), (5, Ty.ex (.int .i64 (j : Int))), (6, Ty.ex (.int .i64 (i : Int)))]) (k := j * 32) hF rfl rfl rfl rfl rfl (hseg.below hB) (by rw [u8s_size, Sm.len]; omega) (by rw [u8s_size, Sm.len]; exact sizeS) (u8s_one _) (hF.keep [0, 1, 5, 6]) rfl ?_
    intro w13 hF hseg2 hk2
    refine wpList_nil ?_
    repeat with_reducible first | refine wp_seq ?_ | refine nThen ?_ | refine nBlk ?_ | refine wp_skip ?_ | refine wp_block ?_ | refine wp_exit ?_ | refine xThen ?_ | refine xHere ?_ | refine wp_ret ?_ | refine rThen ?_
    replace hKw : Keeps [g] w w13 := (hKw.trans (Keeps.of_below hB)).trans hk2
    have hB := Below.refl w13.heap.size w13
    refine' reg_all hF ?_ mixed (by kernel_rfl) ?_
    rotate_left
    · repeat (first
          | exact Line.nil
          | ((refine' Line.cons rfl (.run rfl rfl ?_) ?_)
             any_goals (first | exact cAdd (r := ((j + 1 : Nat) : Int)) rfl rfl rfl (by omega) | exact cMove rfl rfl | exact cAssign rfl rfl | exact cNot rfl rfl | exact cLss rfl rfl rfl | exact cEql rfl rfl rfl)
             rotate_left))
    intro a w14 hF hb hN
    have hBs := hB.size
    replace hB := hB.trans (hb.mono hB.size)
    dsimp only [ext, Option.getD] at hF
    repeat with_reducible first | refine wp_seq ?_ | refine nThen ?_ | refine nBlk ?_ | refine wp_skip ?_ | refine wp_block ?_ | refine wp_exit ?_ | refine xThen ?_ | refine xHere ?_ | refine wp_ret ?_ | refine rThen ?_
    refine' reg_all hF ?_ mixed (by kernel_rfl) ?_
    rotate_left
    · repeat (first
          | exact Line.nil
          | ((refine' Line.cons rfl (.run rfl rfl ?_) ?_)
             any_goals (first | exact cAdd (r := ((i + 1 : Nat) : Int)) rfl rfl rfl (by omega) | exact cMove rfl rfl | exact cAssign rfl rfl | exact cNot rfl rfl | exact cLss rfl rfl rfl | exact cEql rfl rfl rfl)
             rotate_left))
    intro a w15 hF hb hN
    have hBs := hB.size
    replace hB := hB.trans (hb.mono hB.size)
    dsimp only [ext, Option.getD] at hF
    repeat with_reducible first | refine wp_seq ?_ | refine nThen ?_ | refine nBlk ?_ | refine wp_skip ?_ | refine wp_block ?_ | refine wp_exit ?_ | refine xThen ?_ | refine xHere ?_ | refine wp_ret ?_ | refine rThen ?_
    have h7 : over (flat E) (j * 32) (u8s (D.getD i default).l).toList = flat (E.set j (D.getD i default)) := by
      rw [u8s_list]
      exact over_flat E _ (by omega)
    rw [h7] at hseg2
    refine ⟨m - 1, by omega, i + 1, j + 1, E.set j (D.getD i default), by omega, by simp [hE], ?_, by omega, ?_, fun q hq => ?_, hF.keep [0, 1, 5, 6], hseg2.below hB, hKw.trans (Keeps.of_below hB)⟩
    · rw [hdd2, List.length_append, ← hj]; rfl
    · rw [hdd2, ← hjt, take_snoc' _ (by rw [List.length_set]; omega), getD_set E _ (by omega), if_pos rfl, List.take_set_of_le (Nat.le_refl _)]
    · rw [getD_set E _ (by omega), if_neg (by omega)]
      exact hsame q (by omega)
  · have hc : p (D.getD i default) = true := by simpa using hc
    have hdd2 := filt_snoc_out hlt hc
    repeat with_reducible first | refine wp_seq ?_ | refine nThen ?_ | refine nBlk ?_ | refine wp_skip ?_ | refine wp_block ?_ | refine wp_exit ?_ | refine xThen ?_ | refine xHere ?_ | refine wp_ret ?_ | refine rThen ?_
    refine' reg_all hF ?_ mixed (by kernel_rfl) ?_
    rotate_left
    · repeat (first
          | exact Line.nil
          | ((refine' Line.cons rfl (.run rfl rfl ?_) ?_)
             any_goals (first | exact cAdd (r := ((i + 1 : Nat) : Int)) rfl rfl rfl (by omega) | exact cMove rfl rfl | exact cAssign rfl rfl | exact cNot rfl rfl | exact cLss rfl rfl rfl | exact cEql rfl rfl rfl)
             rotate_left))
    intro a w12 hF hb hN
    have hBs := hB.size
    replace hB := hB.trans (hb.mono hB.size)
    dsimp only [ext, Option.getD] at hF
    repeat with_reducible first | refine wp_seq ?_ | refine nThen ?_ | refine nBlk ?_ | refine wp_skip ?_ | refine wp_block ?_ | refine wp_exit ?_ | refine xThen ?_ | refine xHere ?_ | refine wp_ret ?_ | refine rThen ?_
    exact ⟨m - 1, by omega, i + 1, j, E, by omega, hE, by rw [hdd2]; exact hj, by omega, by rw [hdd2]; exact hjt, fun q hq => hsame q (by omega), hF.keep [0, 1, 5, 6], hseg.below hB, hKw.trans (Keeps.of_below hB)⟩

set_option maxRecDepth 100000 in
theorem delete_none {f : FuncId} {cb : Array Value} {p : Sm → Bool} (he : Enters Try.prog f) (w : World) (hp : PredK Try.prog f cb [] w p) :
    Ret Try.prog 68 #[.slice none 0 0, .func (.func f) #[] cb] w (Ty.ex (.slice none 0 0)) := by
  generalize hfv : (Value.func (.func f) #[] cb) = fv
  refine enter_ty 42 [Ty.ex (.slice none 0 0), Ty.ex fv] Try.func68 rfl (by kernel_rfl) ⟨rfl, rfl, trivial⟩ fun a hF => ?_
  subst hfv
  have hB := Below.refl w.heap.size w
  repeat with_reducible first | refine wp_seq ?_ | refine nThen ?_ | refine wp_ret ?_ | refine rThen ?_
  refine' reg_all hF ?_ mixed (by kernel_rfl) ?_
  rotate_left
  · repeat (first
        | exact Line.nil
        | ((refine' Line.cons rfl (.run rfl rfl ?_) ?_)
           any_goals (first | exact cMove rfl rfl | exact cAssign rfl rfl | exact cEql rfl rfl rfl)
           rotate_left))
  intro a w1 hF hb hN
  have hBs := hB.size
  replace hB := hB.trans (hb.mono hB.size)
  dsimp only [ext, Option.getD] at hF
  repeat with_reducible first | refine wp_seq ?_ | refine nThen ?_ | refine wp_ret ?_ | refine rThen ?_
  have hei : Enters Try.prog 104 := fun args w => by kernel_rfl
  have h0 : ∀ W : World, (Ty.sums 34 []).p W (.slice none 0 0) := fun W => (Seg.nil W 34 32).sl
  refine' reg_all hF ?_ mixed (by kernel_rfl) ?_
  rotate_left
  · repeat (first
        | exact Line.nil
        | ((refine' Line.cons rfl (.run rfl rfl ?_) ?_)
           any_goals (first | exact cCallW2 rfl rfl rfl hei (fun W x y hb hx hy => by have hx : x = .slice none 0 0 := hx; have hy : y = .func (.func f) #[] cb := hy; subst hx hy; exact indexf_any he [] W _ (h0 W) (by simp) ((hp.later (Keeps.of_below hB)).later (Keeps.of_below hb)) (r := -1) (.inr ⟨rfl, fun j hj => by simp at hj⟩)) | exact cMove rfl rfl | exact cAssign rfl rfl | exact cEql rfl rfl rfl)
           rotate_left))
  intro a w2 hF hb hN
  have hBs := hB.size
  replace hB := hB.trans (hb.mono hB.size)
  dsimp only [ext, Option.getD] at hF
  repeat with_reducible first | refine wp_seq ?_ | refine nThen ?_ | refine wp_ret ?_ | refine rThen ?_
  refine' reg_all hF ?_ mixed (by kernel_rfl) ?_
  rotate_left
  · repeat (first
        | exact Line.nil
        | ((refine' Line.cons rfl (.run rfl rfl ?_) ?_)
           any_goals (first | exact cMove rfl rfl | exact cAssign rfl rfl | exact cEql rfl rfl rfl)
           rotate_left))
  intro a w3 hF hb hN
  have hBs := hB.size
  replace hB := hB.trans (hb.mono hB.size)
  dsimp only [ext, Option.getD] at hF
  repeat with_reducible first | refine wp_seq ?_ | refine nThen ?_ | refine wp_ret ?_ | refine rThen ?_
  refine cond_t hF rfl ?_
  repeat with_reducible first | refine wp_seq ?_ | refine nThen ?_ | refine wp_ret ?_ | refine rThen ?_
  refine' reg_all hF ?_ mixed (by kernel_rfl) ?_
  rotate_left
  · repeat (first
        | exact Line.nil
        | ((refine' Line.cons rfl (.run rfl rfl ?_) ?_)
           any_goals (first | exact cMove rfl rfl | exact cAssign rfl rfl | exact cEql rfl rfl rfl)
           rotate_left))
  intro a w4 hF hb hN
  have hBs := hB.size
  replace hB := hB.trans (hb.mono hB.size)
  dsimp only [ext, Option.getD] at hF
  repeat with_reducible first | refine wp_seq ?_ | refine nThen ?_ | refine wp_ret ?_ | refine rThen ?_
  refine ret1 hF rfl rfl fun z hz => ?_
  exact ⟨z, rfl, hz, hB⟩
end Go.Proofs.Ytmlbkcpmgcjblaa

/- Layer 10: the walks of Minus, Both, Either, Add. -/
namespace Go.Proofs.Ytmlbkcpmgcjblaa
open Go.RowKit

theorem infoSL : (Try.prog.info? 25).map (·.size) = some 1 := by kernel_rfl

abbrev pM (B : List Sm) (x : Sm) : Bool := decide (x ∈ B)
abbrev pB (B : List Sm) (x : Sm) : Bool := !decide (x ∈ B)
set_option maxRecDepth 100000 in
theorem minus1_ret (B : List Sm) (gb : Nat) (vb : Value) (W : World) (hs : srt B) (hBl : B.length ≤ 1000000) (hgb : Blk W gb 25 #[vb]) (hvb : (Ty.sums 34 B).p W vb) (x : Sm) :
    Ret Try.prog 69 (#[.agg (u8s x.l)] ++ #[.pointer (some ⟨gb, 0, none⟩)]) W (Ty.ex (.bool (pM B x))) := by
  have hh := hasI_ty B x hBl hs
  unfold pM
  generalize decide (x ∈ B) = r at *
  refine enter_ty 7 [Ty.ex (.agg (u8s x.l)), Ty.ex (.pointer (some ⟨gb, 0, none⟩))] Try.func69 rfl (by kernel_rfl) ⟨rfl, rfl, trivial⟩ fun a hF => ?_
  have hB := Below.refl W.heap.size W
  repeat with_reducible first | refine wp_seq ?_ | refine nThen ?_ | refine wp_ret ?_
  refine' reg_all hF ?_ mixed (by kernel_rfl) ?_
  rotate_left
  · repeat (first
        | exact Line.nil
        | ((refine' Line.cons rfl (.run rfl rfl ?_) ?_)
           any_goals (first | exact cAssign rfl rfl | exact cBoxSum rfl rfl)
           rotate_left))
  intro a w1 hF hb hN
  have hBs := hB.size
  replace hB := hB.trans (hb.mono hB.size)
  dsimp only [ext, Option.getD] at hF
  repeat with_reducible first | refine wp_seq ?_ | refine nThen ?_ | refine wp_ret ?_
  have hab : (Ty.at_ 25 [vb]).p w1 (.pointer (some ⟨gb, 0, none⟩)) := blk_at (hgb.below hB)
  have hvb1 : (Ty.sums 34 B).p w1 vb := (Ty.sums 34 B).below hvb hB
  refine' reg_all hF ?_ mixed (by kernel_rfl) ?_
  rotate_left
  · repeat (first
        | exact Line.nil
        | ((refine' Line.cons rfl (.run rfl rfl ?_) ?_)
           any_goals (first | exact cAssign rfl rfl | exact cLoadSum rfl (.t rfl) Try.underlying34 sizeS | exact cLoad1 rfl (.l rfl hab) (pts_at _ _) Try.underlying25 rfl | exact cCallH2 rfl (.l rfl hvb1) (.t rfl) hh)
           rotate_left))
  intro a w2 hF hb hN
  have hBs := hB.size
  replace hB := hB.trans (hb.mono hB.size)
  dsimp only [ext, Option.getD] at hF
  repeat with_reducible first | refine wp_seq ?_ | refine nThen ?_ | refine wp_ret ?_
  refine ret1 hF rfl rfl fun z hz => ?_
  exact ⟨z, rfl, hz, hB⟩

def minusL (A B : List Sm) : List Sm := (setL A).filter fun x => !pM (setL B) x
set_option maxRecDepth 100000 in
set_option maxHeartbeats 1000000 in
theorem minus_ty (A B : List Sm) (hA : A.length ≤ 1000000) (hBl : B.length ≤ 1000000) : FnSeg2 Try.prog 21 (Ty.sums 34 A) (Ty.sums 34 B) 34 32 (minusL A B).length (flat (minusL A B)) := by
  refine ⟨fun args w => by kernel_rfl, fun w v u hv hu => ?_⟩
  have hu' := hu
  obtain ⟨Au, cu, rfl, -⟩ := hu'
  refine enter_ty 11 [Ty.ex v, Ty.ex (.slice Au B.length cu)] Try.func21 rfl (by kernel_rfl) ⟨rfl, rfl, trivial⟩ fun a hF => ?_
  have hB := Below.refl w.heap.size w
  repeat with_reducible first | refine wp_seq ?_ | refine nThen ?_ | refine wp_ret ?_
  refine' reg_all hF ?_ mixed (by kernel_rfl) ?_
  rotate_left
  · repeat (first
        | exact Line.nil
        | ((refine' Line.cons rfl (.run rfl rfl ?_) ?_)
           any_goals (first | exact cMove rfl rfl | exact cAssign rfl rfl | exact cBoxN rfl rfl)
           rotate_left))
  intro a w1 hF hb hN
  have hBs := hB.size
  replace hB := hB.trans (hb.mono hB.size)
  dsimp only [ext, Option.getD] at hF
  repeat with_reducible first | refine wp_seq ?_ | refine nThen ?_ | refine wp_ret ?_
  obtain ⟨z, ⟨gb, rfl, hgb, hbb⟩, hF⟩ := hF.open (s := 3) rfl
  have hab := blk_at hbb
  have hbb0 := hbb
  refine' region_ty 2 mixed (by kernel_rfl) hF ?_ ?_
  rotate_left
  · simp only [List.take_succ_cons, List.take_zero]
    repeat (first
        | exact Line.nil
        | ((refine' Line.cons rfl (.run rfl rfl ?_) ?_)
           any_goals (first | exact cMove rfl rfl | exact cAssign rfl rfl | exact cLoad1 rfl (.l rfl hab) (pts_at _ _) Try.underlying25 rfl | exact cCallS1 rfl (.l rfl ((Ty.sums 34 B).below hu hB)) (of_ty B hBl))
           rotate_left))
  intro a w2 hF hb hN
  have hBs := hB.size
  replace hB := hB.trans (hb.mono hB.size)
  simp only [List.take_succ_cons, List.take_zero, List.drop_succ_cons, List.drop_zero] at hF hN ⊢
  dsimp only [ext, Option.getD] at hF
  have hb0 := hb
  obtain ⟨vb, ⟨Sb, hsb, hSb⟩, hF⟩ := hF.open (s := 6) rfl
  obtain ⟨Ab, cb, hvb, -⟩ := hsb.form
  subst hvb
  refine tlStoreV (Δ := [(0, Ty.ex v), (3, Ty.ex (.pointer (some ⟨gb, 0, none⟩)))]) hF rfl rfl rfl rfl (hF.getEx (s := 6) rfl) (hbb.below hb) rfl infoSL (by simp [Value.cells, Value.oneCell']) (hF.keep [0, 3]) rfl ?_
  intro w3 hF hbb hkb
  refine wpList_nil ?_
  repeat with_reducible first | refine wp_seq ?_ | refine nThen ?_ | refine wp_ret ?_
  have hkw : Keeps [] w w3 := (Keeps.of_below (S := []) hB).trans' hkb (fun x hx => by simp only [List.mem_singleton] at hx; subst hx; exact .inr hgb)
  have hvb : (Ty.sums 34 (setL B)).p w3 (.slice Ab (setL B).length cb) := by
    refine (Ty.sums 34 (setL B)).st hsb.sl hkb ?_
    intro b hb _
    simp only [List.mem_singleton] at hb
    subst hb
    exact ⟨_, _, _, hbb0.below hb0, rfl⟩
  have hv3 := (Ty.sums 34 A).below hv hkw.below
  have hB3 := hkw.below.size
  have hB := Below.refl w3.heap.size w3
  refine' region_ty 3 mixed (by kernel_rfl) hF ?_ ?_
  rotate_left
  · simp only [List.take_succ_cons, List.take_zero]
    repeat (first
        | exact Line.nil
        | ((refine' Line.cons rfl (.run rfl rfl ?_) ?_)
           any_goals (first | exact cMove rfl rfl | exact cAssign rfl rfl | exact cCallS1 rfl (.l rfl hv3) (of_ty A hA) | exact cMakeFunc rfl rfl)
           rotate_left))
  intro a w4 hF hb hN
  have hBs := hB.size
  replace hB := hB.trans (hb.mono hB.size)
  simp only [List.take_succ_cons, List.take_zero, List.drop_succ_cons, List.drop_zero] at hF hN ⊢
  dsimp only [ext, Option.getD] at hF
  obtain ⟨va, ⟨Sa, hsa, hSa⟩, hF⟩ := hF.open (s := 8) rfl
  have hen : Enters Try.prog 68 := fun args w => by kernel_rfl
  have heg : Enters Try.prog 69 := fun args w => by kernel_rfl
  have hlb := setL_len B
  have hpred : ∀ S : List Nat, (∀ y ∈ S, w3.heap.size ≤ y) → PredK Try.prog 69 #[.pointer (some ⟨gb, 0, none⟩)] S w4 (pM (setL B)) := fun S hS W x k => by
    have k' : Keeps [] w3 W := (Keeps.of_below (S := []) hB).trans' k fun y hy => .inr (hS y hy)
    exact minus1_ret (setL B) gb _ W (setL_srt B) (by omega) (hbb.below k'.below) ((Ty.sums 34 (setL B)).below hvb k'.below) x
  rcases hsa.cases with ⟨rfl, h0, h1, rfl⟩ | ⟨g, off, cap, rfl, rfl, hl⟩
  · refine tlCall rfl rfl rfl (args := #[.slice none 0 0, .func (.func 69) #[] #[.pointer (some ⟨gb, 0, none⟩)]]) ?_ hen (R := fun u w' => u = .slice none 0 0 ∧ Below w4.heap.size w4 w') ?_ ?_
    · simp only [List.map_toArray, List.map_cons, List.map_nil, hF.getEx (s := 8) rfl, hF.getEx (s := 9) rfl]
    · exact Calls.mono (delete_none heg w4 (hpred [] (by simp))) fun e w' ⟨u, a1, a2, a3⟩ => ⟨u, a1, a2, a3⟩
    rintro z w5 ⟨rfl, hb5⟩
    have hF := ((hF.keep []).below hb5).put (d := 10) (by decide) (Below.refl _ _) (V := Ty.ex (.slice none 0 0)) rfl
    replace hB := hB.trans (hb5.mono hB.size)
    refine' tlOp hF rfl rfl rfl ?_ ?_
    rotate_left
    · first | exact cMove rfl rfl | exact cAssign rfl rfl
    intro a w6 hF hb
    have hBs := hB.size
    replace hB := hB.trans (hb.mono hB.size)
    try (refine wpList_nil ?_)
    repeat with_reducible first | refine wp_seq ?_ | refine nThen ?_ | refine wp_ret ?_
    refine ret1 hF rfl rfl fun z hz => ?_
    have hz : z = .slice none 0 0 := hz
    subst hz
    have hA0 : minusL A B = [] := by
      unfold minusL
      rw [List.eq_nil_of_length_eq_zero h0]
      rfl
    rw [hA0]
    exact ⟨_, rfl, ⟨[], Seg.nil _ _ _, by simp⟩, hkw.below.trans (hB.mono hB3)⟩
  · have hg : w3.heap.size ≤ g := hSa g (by simp)
    refine tlCall rfl rfl rfl (args := #[.slice (some ⟨g, off, none⟩) (setL A).length cap, .func (.func 69) #[] #[.pointer (some ⟨gb, 0, none⟩)]]) ?_ hen (R := fun u w' => u = .slice (some ⟨g, off, none⟩) (minusL A B).length cap ∧ SegL w' 34 32 g off (minusL A B).length cap (flat (minusL A B)) ∧ Keeps [g] w4 w') ?_ ?_
    · simp only [List.map_toArray, List.map_cons, List.map_nil, hF.getEx (s := 8) rfl, hF.getEx (s := 9) rfl]
    · refine (delete_any heg (setL A) w4 g off cap hl (by have := setL_len A; omega) (hpred [g] (by simpa using hg))).mono fun e w' ⟨k, h1, h2, h3, h4⟩ => ?_
      subst h2
      exact ⟨_, h1, rfl, h3, h4⟩
    rintro z w5 ⟨rfl, hl5, hk5⟩
    have hF := ((hF.keep []).free1 hk5 hl rfl).put (d := 10) (by decide) (Below.refl _ _) (V := Ty.ex (.slice (some ⟨g, off, none⟩) (minusL A B).length cap)) rfl
    replace hB := below_own hB hk5 (by simpa using hg)
    refine' tlOp hF rfl rfl rfl ?_ ?_
    rotate_left
    · first | exact cMove rfl rfl | exact cAssign rfl rfl
    intro a w6 hF hb
    have hBs := hB.size
    replace hB := hB.trans (hb.mono hB.size)
    try (refine wpList_nil ?_)
    repeat with_reducible first | refine wp_seq ?_ | refine nThen ?_ | refine wp_ret ?_
    refine ret1 hF rfl rfl fun z hz => ?_
    have hz : z = .slice (some ⟨g, off, none⟩) (minusL A B).length cap := hz
    subst hz
    exact ⟨_, rfl, ⟨[g], (hl5.below hb).seg, by simp; exact Nat.le_trans hkw.size hg⟩, hkw.below.trans (hB.mono hB3)⟩
set_option maxRecDepth 100000 in
theorem both1_ret (B : List Sm) (gb : Nat) (vb : Value) (W : World) (hs : srt B) (hBl : B.length ≤ 1000000) (hgb : Blk W gb 25 #[vb]) (hvb : (Ty.sums 34 B).p W vb) (x : Sm) :
    Ret Try.prog 71 (#[.agg (u8s x.l)] ++ #[.pointer (some ⟨gb, 0, none⟩)]) W (Ty.ex (.bool (pB B x))) := by
  have hh := hasI_ty B x hBl hs
  unfold pB
  generalize decide (x ∈ B) = r at *
  refine enter_ty 8 [Ty.ex (.agg (u8s x.l)), Ty.ex (.pointer (some ⟨gb, 0, none⟩))] Try.func71 rfl (by kernel_rfl) ⟨rfl, rfl, trivial⟩ fun a hF => ?_
  have hB := Below.refl W.heap.size W
  repeat with_reducible first | refine wp_seq ?_ | refine nThen ?_ | refine wp_ret ?_
  refine' reg_all hF ?_ mixed (by kernel_rfl) ?_
  rotate_left
  · repeat (first
        | exact Line.nil
        | ((refine' Line.cons rfl (.run rfl rfl ?_) ?_)
           any_goals (first | exact cAssign rfl rfl | exact cNot rfl rfl | exact cBoxSum rfl rfl)
           rotate_left))
  intro a w1 hF hb hN
  have hBs := hB.size
  replace hB := hB.trans (hb.mono hB.size)
  dsimp only [ext, Option.getD] at hF
  repeat with_reducible first | refine wp_seq ?_ | refine nThen ?_ | refine wp_ret ?_
  have hab : (Ty.at_ 25 [vb]).p w1 (.pointer (some ⟨gb, 0, none⟩)) := blk_at (hgb.below hB)
  have hvb1 : (Ty.sums 34 B).p w1 vb := (Ty.sums 34 B).below hvb hB
  refine' reg_all hF ?_ mixed (by kernel_rfl) ?_
  rotate_left
  · repeat (first
        | exact Line.nil
        | ((refine' Line.cons rfl (.run rfl rfl ?_) ?_)
           any_goals (first | exact cAssign rfl rfl | exact cNot rfl rfl | exact cLoadSum rfl (.t rfl) Try.underlying34 sizeS | exact cLoad1 rfl (.l rfl hab) (pts_at _ _) Try.underlying25 rfl | exact cCallH2 rfl (.l rfl hvb1) (.t rfl) hh)
           rotate_left))
  intro a w2 hF hb hN
  have hBs := hB.size
  replace hB := hB.trans (hb.mono hB.size)
  dsimp only [ext, Option.getD] at hF
  repeat with_reducible first | refine wp_seq ?_ | refine nThen ?_ | refine wp_ret ?_
  refine ret1 hF rfl rfl fun z hz => ?_
  exact ⟨z, rfl, hz, hB⟩

def bothL (A B : List Sm) : List Sm := (setL A).filter fun x => !pB (setL B) x
set_option maxRecDepth 100000 in
set_option maxHeartbeats 1000000 in
theorem both_ty (A B : List Sm) (hA : A.length ≤ 1000000) (hBl : B.length ≤ 1000000) : FnSeg2 Try.prog 22 (Ty.sums 34 A) (Ty.sums 34 B) 34 32 (bothL A B).length (flat (bothL A B)) := by
  refine ⟨fun args w => by kernel_rfl, fun w v u hv hu => ?_⟩
  have hu' := hu
  obtain ⟨Au, cu, rfl, -⟩ := hu'
  refine enter_ty 11 [Ty.ex v, Ty.ex (.slice Au B.length cu)] Try.func22 rfl (by kernel_rfl) ⟨rfl, rfl, trivial⟩ fun a hF => ?_
  have hB := Below.refl w.heap.size w
  repeat with_reducible first | refine wp_seq ?_ | refine nThen ?_ | refine wp_ret ?_
  refine' reg_all hF ?_ mixed (by kernel_rfl) ?_
  rotate_left
  · repeat (first
        | exact Line.nil
        | ((refine' Line.cons rfl (.run rfl rfl ?_) ?_)
           any_goals (first | exact cMove rfl rfl | exact cAssign rfl rfl | exact cBoxN rfl rfl)
           rotate_left))
  intro a w1 hF hb hN
  have hBs := hB.size
  replace hB := hB.trans (hb.mono hB.size)
  dsimp only [ext, Option.getD] at hF
  repeat with_reducible first | refine wp_seq ?_ | refine nThen ?_ | refine wp_ret ?_
  obtain ⟨z, ⟨gb, rfl, hgb, hbb⟩, hF⟩ := hF.open (s := 3) rfl
  have hab := blk_at hbb
  have hbb0 := hbb
  refine' region_ty 2 mixed (by kernel_rfl) hF ?_ ?_
  rotate_left
  · simp only [List.take_succ_cons, List.take_zero]
    repeat (first
        | exact Line.nil
        | ((refine' Line.cons rfl (.run rfl rfl ?_) ?_)
           any_goals (first | exact cMove rfl rfl | exact cAssign rfl rfl | exact cLoad1 rfl (.l rfl hab) (pts_at _ _) Try.underlying25 rfl | exact cCallS1 rfl (.l rfl ((Ty.sums 34 B).below hu hB)) (of_ty B hBl))
           rotate_left))
  intro a w2 hF hb hN
  have hBs := hB.size
  replace hB := hB.trans (hb.mono hB.size)
  simp only [List.take_succ_cons, List.take_zero, List.drop_succ_cons, List.drop_zero] at hF hN ⊢
  dsimp only [ext, Option.getD] at hF
  have hb0 := hb
  obtain ⟨vb, ⟨Sb, hsb, hSb⟩, hF⟩ := hF.open (s := 6) rfl
  obtain ⟨Ab, cb, hvb, -⟩ := hsb.form
  subst hvb
  refine tlStoreV (Δ := [(0, Ty.ex v), (3, Ty.ex (.pointer (some ⟨gb, 0, none⟩)))]) hF rfl rfl rfl rfl (hF.getEx (s := 6) rfl) (hbb.below hb) rfl infoSL (by simp [Value.cells, Value.oneCell']) (hF.keep [0, 3]) rfl ?_
  intro w3 hF hbb hkb
  refine wpList_nil ?_
  repeat with_reducible first | refine wp_seq ?_ | refine nThen ?_ | refine wp_ret ?_
  have hkw : Keeps [] w w3 := (Keeps.of_below (S := []) hB).trans' hkb (fun x hx => by simp only [List.mem_singleton] at hx; subst hx; exact .inr hgb)
  have hvb : (Ty.sums 34 (setL B)).p w3 (.slice Ab (setL B).length cb) := by
    refine (Ty.sums 34 (setL B)).st hsb.sl hkb ?_
    intro b hb _
    simp only [List.mem_singleton] at hb
    subst hb
    exact ⟨_, _, _, hbb0.below hb0, rfl⟩
  have hv3 := (Ty.sums 34 A).below hv hkw.below
  have hB3 := hkw.below.size
  have hB := Below.refl w3.heap.size w3
  refine' region_ty 3 mixed (by kernel_rfl) hF ?_ ?_
  rotate_left
  · simp only [List.take_succ_cons, List.take_zero]
    repeat (first
        | exact Line.nil
        | ((refine' Line.cons rfl (.run rfl rfl ?_) ?_)
           any_goals (first | exact cMove rfl rfl | exact cAssign rfl rfl | exact cCallS1 rfl (.l rfl hv3) (of_ty A hA) | exact cMakeFunc rfl rfl)
           rotate_left))
  intro a w4 hF hb hN
  have hBs := hB.size
  replace hB := hB.trans (hb.mono hB.size)
  simp only [List.take_succ_cons, List.take_zero, List.drop_succ_cons, List.drop_zero] at hF hN ⊢
  dsimp only [ext, Option.getD] at hF
  obtain ⟨va, ⟨Sa, hsa, hSa⟩, hF⟩ := hF.open (s := 8) rfl
  have hen : Enters Try.prog 68 := fun args w => by kernel_rfl
  have heg : Enters Try.prog 71 := fun args w => by kernel_rfl
  have hlb := setL_len B
  have hpred : ∀ S : List Nat, (∀ y ∈ S, w3.heap.size ≤ y) → PredK Try.prog 71 #[.pointer (some ⟨gb, 0, none⟩)] S w4 (pB (setL B)) := fun S hS W x k => by
    have k' : Keeps [] w3 W := (Keeps.of_below (S := []) hB).trans' k fun y hy => .inr (hS y hy)
    exact both1_ret (setL B) gb _ W (setL_srt B) (by omega) (hbb.below k'.below) ((Ty.sums 34 (setL B)).below hvb k'.below) x
  rcases hsa.cases with ⟨rfl, h0, h1, rfl⟩ | ⟨g, off, cap, rfl, rfl, hl⟩
  · refine tlCall rfl rfl rfl (args := #[.slice none 0 0, .func (.func 71) #[] #[.pointer (some ⟨gb, 0, none⟩)]]) ?_ hen (R := fun u w' => u = .slice none 0 0 ∧ Below w4.heap.size w4 w') ?_ ?_
    · simp only [List.map_toArray, List.map_cons, List.map_nil, hF.getEx (s := 8) rfl, hF.getEx (s := 9) rfl]
    · exact Calls.mono (delete_none heg w4 (hpred [] (by simp))) fun e w' ⟨u, a1, a2, a3⟩ => ⟨u, a1, a2, a3⟩
    rintro z w5 ⟨rfl, hb5⟩
    have hF := ((hF.keep []).below hb5).put (d := 10) (by decide) (Below.refl _ _) (V := Ty.ex (.slice none 0 0)) rfl
    replace hB := hB.trans (hb5.mono hB.size)
    refine' tlOp hF rfl rfl rfl ?_ ?_
    rotate_left
    · first | exact cMove rfl rfl | exact cAssign rfl rfl
    intro a w6 hF hb
    have hBs := hB.size
    replace hB := hB.trans (hb.mono hB.size)
    try (refine wpList_nil ?_)
    repeat with_reducible first | refine wp_seq ?_ | refine nThen ?_ | refine wp_ret ?_
    refine ret1 hF rfl rfl fun z hz => ?_
    have hz : z = .slice none 0 0 := hz
    subst hz
    have hA0 : bothL A B = [] := by
      unfold bothL
      rw [List.eq_nil_of_length_eq_zero h0]
      rfl
    rw [hA0]
    exact ⟨_, rfl, ⟨[], Seg.nil _ _ _, by simp⟩, hkw.below.trans (hB.mono hB3)⟩
  · have hg : w3.heap.size ≤ g := hSa g (by simp)
    refine tlCall rfl rfl rfl (args := #[.slice (some ⟨g, off, none⟩) (setL A).length cap, .func (.func 71) #[] #[.pointer (some ⟨gb, 0, none⟩)]]) ?_ hen (R := fun u w' => u = .slice (some ⟨g, off, none⟩) (bothL A B).length cap ∧ SegL w' 34 32 g off (bothL A B).length cap (flat (bothL A B)) ∧ Keeps [g] w4 w') ?_ ?_
    · simp only [List.map_toArray, List.map_cons, List.map_nil, hF.getEx (s := 8) rfl, hF.getEx (s := 9) rfl]
    · refine (delete_any heg (setL A) w4 g off cap hl (by have := setL_len A; omega) (hpred [g] (by simpa using hg))).mono fun e w' ⟨k, h1, h2, h3, h4⟩ => ?_
      subst h2
      exact ⟨_, h1, rfl, h3, h4⟩
    rintro z w5 ⟨rfl, hl5, hk5⟩
    have hF := ((hF.keep []).free1 hk5 hl rfl).put (d := 10) (by decide) (Below.refl _ _) (V := Ty.ex (.slice (some ⟨g, off, none⟩) (bothL A B).length cap)) rfl
    replace hB := below_own hB hk5 (by simpa using hg)
    refine' tlOp hF rfl rfl rfl ?_ ?_
    rotate_left
    · first | exact cMove rfl rfl | exact cAssign rfl rfl
    intro a w6 hF hb
    have hBs := hB.size
    replace hB := hB.trans (hb.mono hB.size)
    try (refine wpList_nil ?_)
    repeat with_reducible first | refine wp_seq ?_ | refine nThen ?_ | refine wp_ret ?_
    refine ret1 hF rfl rfl fun z hz => ?_
    have hz : z = .slice (some ⟨g, off, none⟩) (bothL A B).length cap := hz
    subst hz
    exact ⟨_, rfl, ⟨[g], (hl5.below hb).seg, by simp; exact Nat.le_trans hkw.size hg⟩, hkw.below.trans (hB.mono hB3)⟩

end Go.Proofs.Ytmlbkcpmgcjblaa

/- Layer 10: the example that all statements tell; the walks of SetParts, SetLaws. -/
namespace Go.Proofs.Ytmlbkcpmgcjblaa
open Go.RowKit

theorem minusL_mem {A B : List Sm} {x : Sm} : x ∈ minusL A B ↔ x ∈ A ∧ x ∉ B := by
  unfold minusL pM
  rw [List.mem_filter, setL_mem]
  simp [setL_mem]
theorem bothL_mem {A B : List Sm} {x : Sm} : x ∈ bothL A B ↔ x ∈ A ∧ x ∈ B := by
  unfold bothL pB
  rw [List.mem_filter, setL_mem]
  simp [setL_mem]
theorem minusL_srt (A B : List Sm) : srt (minusL A B) := srt_filter (setL_srt A) _
theorem sameL_true {L M : List Sm} (hs : srt L) (hl : L.length ≤ 512) (h : L = M) : sameL L M = true := by
  subst h
  unfold sameL
  rw [goodL_srt hs, decide_eq_true hl]
  simp

abbrev s1 : Sm := sm1 1 (by decide)
abbrev s2 : Sm := sm1 2 (by decide)
theorem build_s1 (w : World) : (Instr.build 34 #[(0, .int .u8 1)]).run Try.prog w = .ok (.agg (u8s s1.l)) w := by kernel_rfl
theorem build_s2 (w : World) : (Instr.build 34 #[(0, .int .u8 2)]).run Try.prog w = .ok (.agg (u8s s2.l)) w := by kernel_rfl
theorem s12 : srt [s1, s2] := List.pairwise_cons.2 ⟨fun y hy => by simp only [List.mem_singleton] at hy; subst hy; decide, List.pairwise_singleton _ _⟩
theorem s_one (x : Sm) : srt [x] := List.pairwise_singleton _ _
end Go.Proofs.Ytmlbkcpmgcjblaa

/- Layer 15, plainly: how many a table tells; the order in which sums are put in; one table less another. -/
namespace Go.Proofs.Ytmlbkcpmgcjblaa
open Go.RowKit

/-! ### The count -/
theorem ofL_len {seed : Nat} {n : Int} {D : List Sm} (hg : goodN n = true) : (ofL seed n D).length = n.toNat := by
  unfold ofL
  rw [if_pos hg, tall_len, tzero_len]
theorem ofL_good {seed : Nat} {n : Int} {D : List Sm} (hg : goodN n = true) : goodN ((ofL seed n D).length : Int) = true := by
  rw [ofL_len hg]
  have := of_decide_eq_true hg
  rwa [Int.toNat_of_nonneg (by omega)]
/-! ### A table less itself -/
theorem tminus_self (A : List Cl) : allZ (tminus A A) = true := allZ_all fun k hk => by
  rw [tminus_len rfl] at hk
  rw [tminus_get rfl hk, minus_self]
theorem allZ_tzero (n : Nat) : allZ (tzero n) = true := allZ_all fun k hk => by
  rw [tzero_len] at hk
  exact tzero_get hk
/-! ### Whatever order -/
theorem tall_back {seed : Nat} {n m : Int} (hnm : n + m = 0) (xs : List Sm) {L : List Cl} (h : NormT L) : tall seed (tall seed L xs n) xs m = L := by
  apply list_extD
  · rw [tall_len, tall_len]
  · intro j hj
    rw [tall_len, tall_len] at hj
    rw [tall_get _ _ _ _ (by rw [tall_len]; exact hj), tall_get _ _ _ _ hj, tall_len]
    exact putAll_back hnm _ _ (h j hj)

/-! ### One less another -/
theorem filter_parts (p : Sm → Bool) : ∀ L : List Sm, L.Perm (L.filter p ++ L.filter fun x => !p x)
  | [] => List.Perm.refl _
  | x :: L => by
    have ih := filter_parts p L
    by_cases h : p x = true
    · rw [List.filter_cons_of_pos h, List.filter_cons_of_neg (by simp [h])]
      exact ih.cons x
    · rw [List.filter_cons_of_neg h, List.filter_cons_of_pos (by simp [h])]
      exact (ih.cons x).trans List.perm_middle.symm
/-- Two heaps less one another are what each has more, less one another. -/
theorem putAll_less (c : Cl) {P Q R M K : List Sm} (hP : P.Perm (R ++ M)) (hQ : Q.Perm (R ++ K)) : (putAll 1 c P).minus (putAll 1 c Q) = (putAll 1 c M).minus (putAll 1 c K) := by
  rw [putAll_perm hP, putAll_perm hQ]
  rw [minus_putAll (m := -1) (by decide), minus_putAll (m := -1) (by decide), putAll_minus, putAll_minus]
  rw [putAll_append, putAll_append]
  congr 1
  rw [putAll_swap 1 (-1) R M, putAll_back (by decide) R _ (minus_norm c c)]
theorem setless {A B : List Sm} : (setL A).Perm ((setL A).filter (fun x => decide (x ∈ B)) ++ minusL A B) := by
  have := filter_parts (fun x => decide (x ∈ B)) (setL A)
  have e : minusL A B = (setL A).filter fun x => !decide (x ∈ B) := by
    unfold minusL pM
    apply List.filter_congr
    intro x _
    simp [setL_mem]
  rw [e]
  exact this
end Go.Proofs.Ytmlbkcpmgcjblaa

/- Peeling, plainly: the first cell that tells a sum which belongs there; taken out, and so on. -/
namespace Go.Proofs.Ytmlbkcpmgcjblaa
open Go.RowKit

/-- Cell j tells a sum that belongs there. -/
def pureAt (seed : Nat) (L : List Cl) (j : Nat) : Bool := (L.getD j default).ok && isAt seed L.length j (L.getD j default).key
/-- The first such; the table's length if there is none. -/
def firstP (p : Nat → Bool) : Nat → Nat → Nat
  | _, 0 => 0
  | j, k + 1 => if p j then 0 else firstP p (j + 1) k + 1
def nextI (seed : Nat) (L : List Cl) : Nat := firstP (pureAt seed L) 0 L.length
theorem firstP_le (p : Nat → Bool) : ∀ (k j : Nat), firstP p j k ≤ k
  | 0, _ => Nat.le_refl _
  | k + 1, j => by
    unfold firstP
    split
    · omega
    · have := firstP_le p k (j + 1); omega
theorem firstP_at (p : Nat → Bool) : ∀ (k j : Nat), firstP p j k < k → p (j + firstP p j k) = true
  | 0, _, h => by unfold firstP at h; omega
  | k + 1, j, h => by
    unfold firstP at h ⊢
    split
    · rename_i hp; simpa using hp
    · rename_i hp
      rw [if_neg hp] at h
      have := firstP_at p k (j + 1) (by omega)
      rwa [show j + 1 + firstP p (j + 1) k = j + (firstP p (j + 1) k + 1) by omega] at this
theorem firstP_no (p : Nat → Bool) : ∀ (k j i : Nat), i < firstP p j k → p (j + i) = false
  | 0, _, i, h => by unfold firstP at h; omega
  | k + 1, j, i, h => by
    unfold firstP at h
    split at h
    · omega
    · rename_i hp
      cases i with
      | zero => simpa using hp
      | succ i =>
        have := firstP_no p k (j + 1) i (by omega)
        rwa [show j + 1 + i = j + (i + 1) by omega] at this
theorem firstP_all (p : Nat → Bool) {k : Nat} (h : firstP p 0 k = k) : ∀ i, i < k → p i = false := fun i hi => by
  have := firstP_no p k 0 i (by omega)
  simpa using this
/-- The peeler's state. -/
structure Pst where
  L : List Cl
  plus : List Sm
  minus : List Sm
  once : Bool
/-- One sum taken out of cell i. -/
def Pst.take (seed : Nat) (s : Pst) (i : Nat) : Pst :=
  let c := s.L.getD i default
  let new := !(decide (c.key ∈ s.plus) || decide (c.key ∈ s.minus))
  if c.n = 1 then ⟨tput seed s.L c.key (-1), s.plus ++ [c.key], s.minus, s.once && new⟩ else ⟨tput seed s.L c.key 1, s.plus, s.minus ++ [c.key], s.once && new⟩
/-- At most m sums are taken out. -/
def Pst.run (seed : Nat) : Nat → Pst → Pst
  | 0, s => s
  | m + 1, s => if nextI seed s.L < s.L.length then Pst.run seed m (s.take seed (nextI seed s.L)) else s
def peelS (seed : Nat) (L : List Cl) : Pst := Pst.run seed 1025 ⟨L, [], [], true⟩
def Pst.fine (s : Pst) : Bool := s.once && allZ s.L
theorem Pst.take_len (seed : Nat) (s : Pst) (i : Nat) : (s.take seed i).L.length = s.L.length := by
  unfold Pst.take
  dsimp only
  split <;> exact tput_len _ _ _ _
theorem Pst.run_len (seed : Nat) : ∀ (m : Nat) (s : Pst), (Pst.run seed m s).L.length = s.L.length
  | 0, _ => rfl
  | m + 1, s => by
    unfold Pst.run
    split
    · rw [Pst.run_len seed m, Pst.take_len]
    · rfl
theorem tall_swap (seed : Nat) (n m : Int) (xs ys : List Sm) (L : List Cl) : tall seed (tall seed L xs n) ys m = tall seed (tall seed L ys m) xs n := by
  apply list_extD
  · simp only [tall_len]
  · intro j hj
    simp only [tall_len] at hj
    rw [tall_get _ _ _ _ (by rw [tall_len]; exact hj), tall_get _ _ _ _ hj, tall_get _ _ _ _ (by rw [tall_len]; exact hj), tall_get _ _ _ _ hj, tall_len, tall_len]
    exact putAll_swap n m _ _ _
theorem tput_back {seed : Nat} {n m : Int} (hnm : n + m = 0) (x : Sm) {L : List Cl} (h : NormT L) : tput seed (tput seed L x n) x m = L := tall_back hnm [x] h
end Go.Proofs.Ytmlbkcpmgcjblaa

/- A map of one's own from sums to bools, as a set. -/
namespace Go.Proofs.Ytmlbkcpmgcjblaa
open Go.RowKit

abbrev MapSB : TypeId := 125
theorem laidS : laidOutB Try.prog = true := by kernel_rfl
theorem wideS : (match Try.prog.underlying 34 with | some (.array _ _) | some (.struct _) => true | _ => false) = true := by rw [Try.underlying34]
set_option maxRecDepth 100000 in
theorem rowS : (34 : TypeId) < Try.prog.types.size := of_decide_eq_true (by kernel_rfl)
set_option maxRecDepth 100000 in
theorem ktS : Try.prog.keyTypeAt 2 34 = true := by kernel_rfl
set_option maxRecDepth 100000 in
theorem lawS : Go.WideMaps.KeyLaw Try.prog 34 := deep_law_laid laidS (m := 2) (by omega) rowS ktS wideS
theorem keyedS : Go.Maps.Keyed Try.prog 34 := Go.Maps.Keyed.of_law lawS
theorem mapM_some {α β : Type} (f : α → Option β) : ∀ l : List α, (∀ i ∈ l, ∃ y, f i = some y) → ∃ ys, l.mapM f = some ys
  | [], _ => ⟨[], rfl⟩
  | i :: l, h => by
    obtain ⟨y, hy⟩ := h i (by simp)
    obtain ⟨ys, hys⟩ := mapM_some f l fun j hj => h j (by simp [hj])
    exact ⟨y :: ys, by simp [List.mapM_cons, hy, hys]⟩
theorem key_lits (x : Sm) : ∃ ls, Try.prog.keyLits (Try.prog.types.size + 1) 34 (Value.agg (u8s x.l)).cells.toList = some ls := by
  obtain ⟨m, hm⟩ : ∃ m, Try.prog.types.size = m + 1 := ⟨Try.prog.types.size - 1, by have : 0 < Try.prog.types.size := of_decide_eq_true (by kernel_rfl); omega⟩
  have hc : Try.prog.cellsOf 34 = 32 := by kernel_rfl
  have hc1 : Try.prog.cellsOf 5 = 1 := by kernel_rfl
  have hl : (Value.agg (u8s x.l)).cells.toList = x.l.map bv := u8s_list _
  rw [hl]
  unfold Program.keyLits
  rw [Try.underlying34]
  have hlen : (x.l.map bv).length = 32 := by rw [List.length_map, x.len]
  simp only [hc, hlen, if_true, hc1, Nat.mul_one]
  obtain ⟨ys, hys⟩ := mapM_some (fun i => Try.prog.keyLits Try.prog.types.size 5 (((x.l.map bv).drop i).take 1)) (List.range 32) fun i hi => by
    have hi := List.mem_range.1 hi
    have hix : i < x.l.length := by rw [x.len]; exact hi
    have hb := x.lt _ (List.getElem_mem hix)
    have e : ((x.l.map bv).drop i).take 1 = [bv x.l[i]] := by
      rw [List.drop_eq_getElem_cons (by rw [List.length_map]; exact hix), List.take_succ_cons, List.take_zero, List.getElem_map]
    rw [e, hm]
    unfold Program.keyLits
    rw [Try.underlying5]
    have hw : (Lit.int .u8 (x.l[i] : Int)).wf = true := by
      simp only [Lit.wf, IntKind.min, IntKind.max, IntKind.signed, IntKind.bits]
      simp
      omega
    exact ⟨[.int .u8 (x.l[i] : Int)], by simp [bv, hw]⟩
  exact ⟨ys.flatten, by rw [hys]; rfl⟩
theorem key_sm (x : Sm) : ∃ l, keyOf Try.prog 34 (.agg (u8s x.l)) = some l := by
  obtain ⟨ls, h⟩ := key_lits x
  have hk : Try.prog.keyType 34 = true := by kernel_rfl
  have hf : (Value.agg (u8s x.l)).formed Try.prog 34 = true := by
    have hc : Try.prog.cellsOf 34 = 32 := by kernel_rfl
    simp [Value.formed, Try.underlying34, hc, u8s_size, x.len]
  unfold keyOf
  rw [Try.underlying34]
  simp only [hk, hf, Bool.and_self, if_true, h, Option.map_some]
  exact ⟨_, rfl⟩
/-- The key's letter. -/
noncomputable def klS (x : Sm) : Lit := Classical.choose (key_sm x)
theorem klS_key (x : Sm) : keyOf Try.prog 34 (.agg (u8s x.l)) = some (klS x) := Classical.choose_spec (key_sm x)
theorem aggS_inj {x y : Sm} (h : Value.agg (u8s x.l) = .agg (u8s y.l)) : x = y := by
  injection h with h
  have h1 : (u8s x.l).toList = (u8s y.l).toList := by rw [h]
  rw [u8s_list, u8s_list] at h1
  have h2 := congrArg (List.map fun v : Value => match v with | .int _ n => n.toNat | _ => 0) h1
  rw [List.map_map, List.map_map] at h2
  have e : ∀ l : List Nat, l.map ((fun v : Value => match v with | .int _ n => n.toNat | _ => 0) ∘ bv) = l := fun l => by
    induction l with
    | nil => rfl
    | cons a l ih => rw [List.map_cons, ih]; rfl
  rw [e, e] at h2
  cases x; cases y
  simp only at h2
  subst h2
  rfl
theorem plainBool_inv {H : Type} {P : Program} {e : TypeId} (he : P.underlying e = some .bool) {v : Value} {z : DataW H × List MemPlace} (h : plainElem P e v = some z) : ∃ b, v = .bool b ∧ z = (.lit (.bool b), []) := by
  unfold plainElem at h
  rw [he] at h
  cases v <;> simp at h
  exact ⟨_, rfl, h.symm⟩
theorem klS_inj {x y : Sm} (h : klS x = klS y) : x = y := aggS_inj (keyedS.inj (klS_key x) (by rw [h]; exact klS_key y))
theorem klS_ne {x y : Sm} (h : ¬ x = y) : klS x ≠ klS y := fun e => h (klS_inj e)
/-- Block b is a map of at most n entries; just the sums of S are true there. -/
def MapIs (w : World) (b n : Nat) (S : List Sm) : Prop := ∃ D : DataW Unit, w.ownsMap Try.prog 34 (plainElem Try.prog 4) b n D ∧ Go.Maps.IsMap D ∧ ∀ x : Sm, D.atKey (klS x) (.lit (.bool false)) = .lit (.bool (decide (x ∈ S)))
theorem zeroB (w : World) : (zeroValue 4).run Try.prog w = .ok (.bool false) w := by kernel_rfl
theorem MapIs.made (w : World) : MapIs (w.alloc (.map #[] 0)) w.heap.size 0 [] := ⟨.map [], World.ownsMap_made w Try.prog 34 _, ⟨[], rfl⟩, fun _ => rfl⟩
theorem MapIs.look {w : World} {b n : Nat} {S : List Sm} (h : MapIs w b n S) (x : Sm) : (Instr.lookup MapSB (.map (some b)) (.agg (u8s x.l)) false).run Try.prog w = .ok (.bool (decide (x ∈ S))) w := by
  obtain ⟨D, h1, h2, h3⟩ := h
  obtain ⟨v, ps, hrun, hv⟩ := h1.lookup keyedS Try.underlying125 (zeroB w) (plainElem_bool Try.underlying4 false) (klS_key x)
  rw [h3 x] at hv
  obtain ⟨c, rfl, hz⟩ := plainBool_inv Try.underlying4 hv
  simp only [Prod.mk.injEq, DataW.lit.injEq, Lit.bool.injEq] at hz
  rw [hrun, hz.1]
theorem MapIs.store {w : World} {b n : Nat} {S : List Sm} (h : MapIs w b n S) (hn : n < maxLen) (x : Sm) : ∃ w', (Instr.mapUpdate MapSB (.map (some b)) (.agg (u8s x.l)) (.bool true)).run Try.prog w = .ok () w' ∧ MapIs w' b (n + 1) (x :: S) ∧ w.grownBy w' (some b) := by
  obtain ⟨D, h1, h2, h3⟩ := h
  obtain ⟨w', hrun, h4, h5⟩ := h1.update keyedS Try.underlying125 hn (klS_key x) (plainElem_bool Try.underlying4 true)
  refine ⟨w', hrun, ⟨_, h4, ?_, fun y => ?_⟩, h5⟩
  · exact h2.put _ _
  · by_cases hxy : y = x
    · subst hxy
      rw [Go.Maps.atKey_put_same h2 (keyedS.key (klS_key y))]
      simp
    · rw [Go.Maps.atKey_put_other (klS_ne hxy), h3 y]
      simp [hxy]
end Go.Proofs.Ytmlbkcpmgcjblaa
