/- An argument that is a row of thirty-two bytes each, as a row of sums. -/
import Derived.Test.YtmlbkcpmgcjblaaTyS
import Derived.Test.YtmlbkcpmgcjblaaRow2
import Derived.Deep.Slices
namespace Go.Proofs.Ytmlbkcpmgcjblaa
open Go.RowKit

def RdsS (w : World) (a : Option Addr) (ls : List Sm) : Prop := ∀ i (x : Sm), ls[i]? = some x → ∃ ad, a = some ad ∧ Rd w (some (ad.add (i * 32))) (x.l.map bv)
open Go.ChangeShapes Go.WideShapes Go.Deep in
theorem row_rds {H : Type} {enc : TypeId × Value → H} {P : Program} {W : World} {sp : Nat → Bool} {t e b : TypeId} {a : Option Addr} {len cap : Nat} {d : DataW H} {ps : List MemPlace}
    (ht : P.underlying t = some (.slice e)) (he : P.underlying e = some (.array 32 b)) (hb : P.underlying b = some (.int .u8)) (hC : P.cellsOf e = 32) (hc : P.cellsOf b = 1) (h : DataW.Trod enc P W 0 sp true t (.slice a len cap) d ps) :
    ∃ ls : List Sm, ls.length = len ∧ len ≤ cap ∧ len ≤ maxLen ∧ RdsS W a ls ∧ (a = none → len = 0) := by
  obtain ⟨fuel, hf⟩ := h
  rcases open_slice ht hf with ⟨hcs, _⟩ | ⟨x, l, c, m, n, D, Pl, hcs, _, hl, hm, hmm, _, hi⟩
  · simp [Value.cells] at hcs
    obtain ⟨rfl, rfl, rfl⟩ := hcs
    exact ⟨[], rfl, Nat.le_refl _, Nat.zero_le _, fun i x hi => by simp at hi, fun _ => rfl⟩
  · simp [Value.cells] at hcs
    obtain ⟨rfl, rfl, rfl⟩ := hcs
    have hlm : len ≤ m := by rw [hmm]; split <;> omega
    have hex : ∀ i, i < len → ∃ s : Sm, Rd W (some (x.add (i * 32))) (s.l.map bv) := fun i hil => by
      obtain ⟨cs', h1, h2⟩ := hi i (by omega)
      rw [hC] at h1
      obtain ⟨s, rfl⟩ := sm_of_cells he hb hC hc h2
      obtain ⟨_, hcl, hat⟩ := World.cells?_some h1
      refine ⟨s, fun j v hv => ⟨_, rfl, ?_⟩⟩
      have hj : j < 32 := by have := (List.getElem?_eq_some_iff.1 hv).1; rw [List.length_map, s.len] at this; exact this
      have h3 := hat j hj
      rw [h3]
      exact hv
    have hfun : ∀ i : Fin len, ∃ s : Sm, Rd W (some (x.add (i.val * 32))) (s.l.map bv) := fun i => hex i.val i.isLt
    have hch := Classical.axiomOfChoice hfun
    obtain ⟨f, hf2⟩ := hch
    refine ⟨List.ofFn f, List.length_ofFn, hl, by omega, fun i y hy => ⟨x, rfl, ?_⟩, by simp⟩
    have hil : i < len := by have := (List.getElem?_eq_some_iff.1 hy).1; rwa [List.length_ofFn] at this
    rw [List.getElem?_eq_getElem (by rw [List.length_ofFn]; exact hil), List.getElem_ofFn] at hy
    injection hy with hy
    rw [← hy]
    exact hf2 ⟨i, hil⟩
theorem RdsS.flat {w : World} {a : Option Addr} {ls : List Sm} (h : RdsS w a ls) : Rd w a (flat ls) := fun j v hv => by
  have hj : j < ls.length * 32 := by rw [← flat_len]; exact (List.getElem?_eq_some_iff.1 hv).1
  have hq : j / 32 < ls.length := by omega
  obtain ⟨ad, rfl, hr⟩ := h (j / 32) _ (List.getElem?_eq_getElem hq)
  have hfl := flat_at ls hq
  have h1 : ((Go.Proofs.Ytmlbkcpmgcjblaa.flat ls).drop (j / 32 * 32))[j % 32]? = some v := by
    rw [List.getElem?_drop, show j / 32 * 32 + j % 32 = j by omega]; exact hv
  rw [hfl, List.getElem?_append_left (by rw [enc_len]; omega)] at h1
  have e1 : ls.getD (j / 32) default = ls[j / 32] := by simp [List.getD, List.getElem?_eq_getElem hq]
  rw [e1] at h1
  obtain ⟨ad2, e2, h2⟩ := hr (j % 32) v h1
  injection e2 with e2
  subst e2
  refine ⟨ad, rfl, ?_⟩
  rw [add_add, show j / 32 * 32 + j % 32 = j by omega] at h2
  exact h2
open Go.ChangeShapes Go.WideShapes Go.Deep in
theorem row_sumsR {H : Type} {enc : TypeId × Value → H} {P : Program} {W : World} {sp : Nat → Bool} {t e b : TypeId} {a : Option Addr} {len cap : Nat} {d : DataW H} {ps : List MemPlace}
    (ht : P.underlying t = some (.slice e)) (he : P.underlying e = some (.array 32 b)) (hb : P.underlying b = some (.int .u8)) (hC : P.cellsOf e = 32) (hc : P.cellsOf b = 1) (h : DataW.Trod enc P W 0 sp true t (.slice a len cap) d ps) :
    ∃ ls : List Sm, (Ty.sumsR ls).p W (.slice a len cap) := by
  obtain ⟨ls, h1, h2, h3, h4, h5⟩ := row_rds ht he hb hC hc h
  exact ⟨ls, a, cap, by rw [h1], by omega, fun e => by rw [h1]; exact h5 e, h4.flat⟩
end Go.Proofs.Ytmlbkcpmgcjblaa
