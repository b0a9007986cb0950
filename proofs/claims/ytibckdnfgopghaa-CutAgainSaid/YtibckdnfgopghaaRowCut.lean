/- A row's reading of a cut.Rule, opened. -/
import Derived.Test.YtibckdnfgopghaaProg
import Derived.Test.YtibckdnfgopghaaRow
import Derived.Lib.SmallJoins
namespace Go.Proofs.Ytibckdnfgopghaa
open Go.RowKit Go.ChangeShapes Go.WideShapes

theorem array5 {α : Type} {cs : Array α} (h : cs.size = 5) : ∃ c0 c1 c2 c3 c4, cs = #[c0, c1, c2, c3, c4] := by
  obtain ⟨l⟩ := cs
  match l, h with
  | [a, b, c, d, e], _ => exact ⟨a, b, c, d, e, rfl⟩

theorem row_rule {H : Type} {enc : TypeId × Value → H} {W : World} {sp : Nat → Bool} {r : Reach} {b0 : Nat} {v : Value} {d : DataW H} {ps : List MemPlace}
    (hv : Value.okWide Try.prog W r b0 37 v) (h : DataW.Trod enc Try.prog W 0 sp true 37 v d ps) :
    ∃ (mn mx wd : Int) (mask want : Nat), v = .agg #[.int .i64 mn, .int .i64 mx, .int .i64 wd, .int .u64 mask, .int .u64 want] ∧ mask < 18446744073709551616 ∧ want < 18446744073709551616 := by
  obtain ⟨cs, rfl, hsz⟩ := okWide_struct Try.underlying37 hv
  have hC : Try.prog.cellsOf 37 = 5 := by kernel_rfl
  have k3 : Try.prog.cellsOf 3 = 1 := by kernel_rfl
  have k24 : Try.prog.cellsOf 24 = 1 := by kernel_rfl
  obtain ⟨c0, c1, c2, c3, c4, rfl⟩ := array5 (hsz.trans hC)
  obtain ⟨fuel, hf⟩ := h
  obtain ⟨xs, n, _, _, hl, hlen, hF⟩ := DataW.trod_struct Try.underlying37 hf
  have some_of : ∀ i, i < 5 → ∃ y, xs[i]? = some y := fun i hi => ⟨_, List.getElem?_eq_getElem (by rw [hlen]; exact hi)⟩
  obtain ⟨y0, e0⟩ := some_of 0 (by omega)
  obtain ⟨y1, e1⟩ := some_of 1 (by omega)
  obtain ⟨y2, e2⟩ := some_of 2 (by omega)
  obtain ⟨y3, e3⟩ := some_of 3 (by omega)
  obtain ⟨y4, e4⟩ := some_of 4 (by omega)
  obtain ⟨n0, f0, _, w0⟩ := DataW.trod_int Try.underlying3 ((hF 0 _ rfl).trans e0)
  obtain ⟨n1, f1, _, w1⟩ := DataW.trod_int Try.underlying3 ((hF 1 _ rfl).trans e1)
  obtain ⟨n2, f2, _, w2⟩ := DataW.trod_int Try.underlying3 ((hF 2 _ rfl).trans e2)
  obtain ⟨n3, f3, _, w3⟩ := DataW.trod_int Try.underlying24 ((hF 3 _ rfl).trans e3)
  obtain ⟨n4, f4, _, w4⟩ := DataW.trod_int Try.underlying24 ((hF 4 _ rfl).trans e4)
  simp [Value.cells, k3, k24] at f0 f1 f2 f3 f4
  subst f0 f1 f2 f3 f4
  have b3 := nat_of_wf w3
  have b4 := nat_of_wf w4
  simp only [IntKind.min, IntKind.max, IntKind.signed, IntKind.bits] at b3 b4
  obtain ⟨m3, rfl⟩ := Int.eq_ofNat_of_zero_le (show 0 ≤ n3 by simpa using b3.1)
  obtain ⟨m4, rfl⟩ := Int.eq_ofNat_of_zero_le (show 0 ≤ n4 by simpa using b4.1)
  exact ⟨n0, n1, n2, m3, m4, rfl, by omega, by omega⟩
end Go.Proofs.Ytibckdnfgopghaa
