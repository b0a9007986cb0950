/- Joined: LawReconSelf. -/
import Derived.Test.YtmefpnklgfhggaaGreatDoorRows
import Derived.Deep.DeepHandedRow
import Derived.Lib.LaidTab
import Derived.ProofKit
import Derived.SizedLaws
import Derived.Test.YtmefpnklgfhggaaGreatDoorZRecon6
/- The statement ReconSelfSaid is proved here: for every input the law tallyman/tallymanlaw18.ReconSelf returns true, and each argument reads as before; the library's table reads as its initialiser lays it. (alike sets are told alike by strata and one table.) -/
namespace Go.Proofs.YtmefpnklgfhggaaGreatDoor.reconSelf
open Go.ChangeShapes Go.WideShapes Go.ChangeAt Go.RowKit
set_option linter.unusedVariables false
theorem own : ownKnob Tryz.prog.godebug = none := by kernel_rfl
theorem laidOut : laidOutB Tryz.prog = true := by kernel_rfl
theorem gT : Tryz.prog.globalNamed "math/bits.deBruijn64tab" = some 0 := by kernel_rfl
theorem gTType : (Tryz.prog.globals[0]?).map (·.type) = some 183 := by kernel_rfl
theorem cellsE : Tryz.prog.cellsOf 5 = 1 := by kernel_rfl
theorem cellsT : Tryz.prog.cellsOf 183 = 64 := by kernel_rfl
def tabZ : List Int := Lib.deBruijn64tab.map Int.ofNat
noncomputable def laidWorld (os : Os) : World :=
  { World.holding Tryz.prog os ⟨#[], #[], []⟩ with heap := (World.holding Tryz.prog os ⟨#[], #[], []⟩).heap.modify 0 fun
      | .cells _ t frozen => .cells (tabZ.map fun z => Value.int .u8 z).toArray t frozen
      | o => o }
theorem laid_met (os : Os) (args : Array Value) : laidMet Tryz.prog Rows.reconSelfRow.laid ((laidWorld os).forCall (fun _ _ => 0) ⟨#[], args, []⟩).memory :=
  laidMet_of_run' 8 (by kernel_rfl) (by kernel_rfl)
theorem witness_row (os : Os) {H : Type} (enc : TypeId × Value → H) :
    (OpenSpec.ofChange Rows.reconSelfSpec).preRow enc Tryz.prog Tryz.f6 Rows.reconSelfRow.domain false Rows.reconSelfRow.laid ((laidWorld os).forCall (fun _ _ => 0) ⟨#[], #[.slice none 0 0, .int .u64 0], []⟩).memory #[.slice none 0 0, .int .u64 0] := by
  have hw : (DataW.whole enc Tryz.prog ((laidWorld os).forCall (fun _ _ => 0) ⟨#[], #[.slice none 0 0, .int .u64 0], []⟩).memory Tryz.f6.params.toList (OpenSpec.ofChange Rows.reconSelfSpec).vars false (#[.slice none 0 0, .int .u64 0] : Array Value).toList 8).map (fun x => (x.1, x.2.1)) =
      some ([.nil, .lit (.int .u64 0)], []) := by kernel_rfl
  obtain ⟨⟨x1, x2, x3⟩, hx, hx1⟩ := Option.map_eq_some_iff.1 hw
  simp only [Prod.mk.injEq] at hx1
  obtain ⟨rfl, rfl⟩ := hx1
  exact OpenSpec.preRow_of_cond 8 hx (by kernel_rfl) (fun k hk => by cases hk) (by kernel_rfl) (laid_met os _)
theorem tab_ok {W : World} (h : Lib.TabIs Tryz.prog W "math/bits.deBruijn64tab" .u8 tabZ) : TabOk W := by
  refine ⟨⟨0, 0, none⟩, rfl, fun j v hv => ?_, by simp [Lib.deBruijn64tab]⟩
  have hj : j < Lib.deBruijn64tab.length := by have := (List.getElem?_eq_some_iff.1 hv).1; rwa [List.length_map] at this
  have hc := h.cell gT j (by unfold tabZ; rw [List.length_map]; exact hj)
  refine ⟨_, rfl, ?_⟩
  rw [show (⟨0, 0, none⟩ : Addr).add j = ⟨0, j, none⟩ by simp [Addr.add_lit], hc]
  rw [← hv]
  unfold tabZ
  generalize Lib.deBruijn64tab = L at *
  simp [List.getD, List.getElem?_eq_getElem hj, bv]
set_option maxRecDepth 100000 in
set_option maxHeartbeats 2000000 in
theorem lifted (os : Os) (started : os.Started) (H : Type) (enc : TypeId × Value → H) (F : Stop.Interp) :
    ReturnsInHanded {} Tryz.checked os 6 .any ((OpenSpec.ofChange Rows.reconSelfSpec).preRow enc Tryz.prog Tryz.f6 Rows.reconSelfRow.domain false Rows.reconSelfRow.laid) (((OpenSpec.ofChange Rows.reconSelfSpec).at F).post enc Tryz.prog Tryz.f6 false true false false) := by
  refine returnsInHanded_of_row (C := Tryz.checked) (s := OpenSpec.ofChange Rows.reconSelfSpec) own started (by kernel_rfl) Tryz.func6
    (witness_row_at (enc := enc) (C := Tryz.checked) false (laidWorld os) #[.slice none 0 0, .int .u64 0] rfl (by kernel_rfl) (by kernel_rfl) (by kernel_rfl) (witness_row os enc)) ?_
  intro W base args ds gs before hval0 hW _ hcond0 hsz0 hL hsh _
  have hval : ∀ (j : Nat) t v, Tryz.f6.params[j]? = some t → args[j]? = some v → Value.okWide Tryz.prog W .any base t v := hval0
  have hW' := hW
  obtain ⟨p, q, hA0, hV, rfl, _, _⟩ := hW
  have hA : DataW.TrodAll enc Tryz.prog W 0 (fun _ => true) true Tryz.f6.params.toList args.toList ds p := hA0
  rw [Tryz.params6] at hA hval
  obtain ⟨v0, vs0, d0, ds0, p0, q0, hargs, rfl, rfl, h0, r0⟩ := trodAll_cons hA
  obtain ⟨v1, vs1, d1, ds1, p1, q1, rfl, rfl, rfl, h1, r1⟩ := trodAll_cons r0
  obtain ⟨rfl, rfl, rfl⟩ := trodAll_nil r1
  obtain rfl : args = #[v0, v1] := by cases args; simp_all
  obtain ⟨rfl, rfl⟩ := trodVars_none hV
  obtain ⟨a0, len0, cap0, rfl⟩ := okWide_slice Tryz.underlying33 (hval 0 33 v0 rfl rfl)
  have lt0 : ∀ x ∈ p0, x.block < W.heap.size := by obtain ⟨m, hm⟩ := h0; exact DataW.trod_lt m _ _ _ hm
  obtain ⟨l0, hl0, hlc0, hn0, hr0, hN0, hx0⟩ := row_ints Tryz.underlying33 Tryz.underlying3 (by kernel_rfl) h0
  obtain ⟨z1, rfl, rfl, rfl, w1⟩ := open_int Tryz.underlying31 (hval 1 31 v1 rfl rfl) h1
  have b1 := nat_of_wf w1
  simp only [IntKind.min, IntKind.max, IntKind.signed, IntKind.bits] at b1
  obtain ⟨a1, rfl⟩ := Int.eq_ofNat_of_zero_le (show 0 ≤ z1 by simpa using b1.1)
  have htab : Lib.TabIs Tryz.prog W "math/bits.deBruijn64tab" .u8 tabZ := Lib.tabIs_of_head gT gTType Tryz.underlying183 Tryz.underlying5 cellsE cellsT hL
  clear hA0 hval0 hsz0
  refine (lawReconSelf_any l0 a1 (by omega) (ints_rdA hl0 hn0 hN0 hr0) (tab_ok htab)).mono fun e W' ⟨he, bel⟩ => ?_
  subst he
  exact ⟨_, rfl, _, _, _, [], _, [], hW', trodAll_mk1 (shut_bool Tryz.underlying4 _), (trodAll_cons_mk (Below.trod laidOut (by kernel_rfl) (of_decide_eq_true (by kernel_rfl)) h0 bel lt0) (trodAll_cons_mk (shut_int Tryz.underlying31 w1) trodAll_mk0)), rfl, bel.frame _, fun h => by cases h⟩
theorem over : Rows.reconSelfRow.holds Tryz.pinned (OpenSpec.ofChange Rows.reconSelfSpec) :=
  OpenClaim.holds_of_cond 6 Tryz.f6 rfl rfl rfl rfl rfl rfl rfl ⟨rfl, rfl, rfl, rfl, rfl⟩ rfl rfl rfl rfl rfl (by kernel_rfl) Tryz.func6 (by kernel_rfl)
    (of_decide_eq_true (by kernel_rfl)) (by unfold Func.isWrapper; first | (rw [if_pos (by decide +kernel)]; kernel_rfl) | (rw [if_neg (by decide +kernel)]; exact ⟨rfl, rfl⟩))
    (fun os started H enc _ F0 => by rw [OpenClaim.pre_eq_preRow]; exact lifted os started H enc F0)
end Go.Proofs.YtmefpnklgfhggaaGreatDoor.reconSelf
namespace Go.Proofs.YtmefpnklgfhggaaGreatDoor
theorem reconSelf_holds : Rows.ReconSelfSaid := reconSelf.over
#print axioms reconSelf_holds
end Go.Proofs.YtmefpnklgfhggaaGreatDoor
