/- From a row's reading of an argument to what a walk takes: whole numbers in a slice; sums of thirty-two bytes. -/
import Derived.Test.YtmlbkcpmgcjblaaRow
import Derived.Test.YtmlbkcpmgcjblaaSm
import Derived.OpenShut
namespace Go.Proofs.Ytmlbkcpmgcjblaa
open Go.RowKit Go.ChangeShapes Go.WideShapes

theorem row_ints {H : Type} {enc : TypeId × Value → H} {P : Program} {W : World} {sp : Nat → Bool} {t e : TypeId} {a : Option Addr} {len cap : Nat} {d : DataW H} {ps : List MemPlace}
    (ht : P.underlying t = some (.slice e)) (he : P.underlying e = some (.int .i64)) (hc : P.cellsOf e = 1) (h : DataW.Trod enc P W 0 sp true t (.slice a len cap) d ps) :
    ∃ l : List Int, l.length = len ∧ len ≤ cap ∧ len ≤ maxLen ∧ Rd W a (l.map (Value.int .i64)) ∧ (a = none → len = 0) ∧ ∀ x ∈ l, -9223372036854775808 ≤ x ∧ x ≤ 9223372036854775807 := by
  obtain ⟨fuel, hf⟩ := h
  rcases open_ints ht he hc hf with ⟨hcs, _⟩ | ⟨x, l, c, zs, hcs, _, hl, hm, hz, _, hcell, hwz⟩
  · simp [Value.cells] at hcs
    obtain ⟨rfl, rfl, rfl⟩ := hcs
    exact ⟨[], rfl, Nat.le_refl _, Nat.zero_le _, Rd.nil _ _, fun _ => rfl, by simp⟩
  · simp [Value.cells] at hcs
    obtain ⟨rfl, rfl, rfl⟩ := hcs
    have hlz : len ≤ zs.length := by rw [hz]; split <;> omega
    refine ⟨zs.take len, by simp; omega, hl, by omega, ?_, by simp, ?_⟩
    · intro j v hv
      refine ⟨x, rfl, ?_⟩
      rw [List.getElem?_map, List.getElem?_take] at hv
      split at hv
      · rename_i hj
        have hjz : j < zs.length := by omega
        rw [List.getElem?_eq_getElem hjz] at hv
        simp only [Option.map_some, Option.some.injEq] at hv
        rw [hcell j hjz, ← hv]
        simp [List.getD, List.getElem?_eq_getElem hjz]
      · simp at hv
    · intro y hy
      have := nat_of_wf (hwz y (List.mem_of_mem_take hy))
      simpa [IntKind.min, IntKind.max, IntKind.signed, IntKind.bits] using this

theorem okWide_arr {P : Program} {w : World} {r : Reach} {base n : Nat} {t e : TypeId} {v : Value} (ht : P.underlying t = some (.array n e)) (h : Value.okWide P w r base t v) : ∃ cs, v = .agg cs ∧ cs.size = P.cellsOf t := by
  unfold Value.okWide at h
  rw [ht] at h
  obtain ⟨cs, h1, h2, _⟩ := h
  exact ⟨cs, h1, h2⟩

theorem take1_drop {α : Type} {l : List α} {i : Nat} {v : α} (h : (l.drop i).take 1 = [v]) : l[i]? = some v := by
  have h1 : ((l.drop i).take 1)[0]? = some v := by rw [h]; rfl
  rw [List.getElem?_take, if_pos (by omega), List.getElem?_drop] at h1
  simpa using h1

/-- Thirty-two cells that read as an array of bytes are a sum. -/
theorem sm_of_cells {H : Type} {enc : TypeId × Value → H} {P : Program} {W : World} {base : Nat} {sp : Nat → Bool} {held : Bool} {t e : TypeId} {fuel : Nat} {cs : List Value} {x : DataW H × List MemPlace}
    (ht : P.underlying t = some (.array 32 e)) (he : P.underlying e = some (.int .u8)) (hC : P.cellsOf t = 32) (hc : P.cellsOf e = 1) (h : DataW.trod enc P W base sp held fuel t cs = some x) :
    ∃ s : Sm, cs = s.enc := by
  obtain ⟨xs, m, _, _, hlen, hxl, hi⟩ := DataW.trod_array ht h
  rw [hC] at hlen
  have hcell : ∀ i, i < 32 → ∃ n : Nat, cs[i]? = some (bv n) ∧ n < 256 := fun i hlt => by
    have h1 := hi i hlt
    rw [hc, Nat.mul_one, List.getElem?_eq_getElem (by omega)] at h1
    obtain ⟨n, h2, _, hw⟩ := DataW.trod_int he h1
    have hb := nat_of_wf hw
    simp only [IntKind.min, IntKind.max, IntKind.signed, IntKind.bits] at hb
    obtain ⟨k, rfl⟩ := Int.eq_ofNat_of_zero_le (show 0 ≤ n by simpa using hb.1)
    exact ⟨k, take1_drop h2, by have := hb.2; simp at this; omega⟩
  let f : Value → Nat := fun v => match v with | .int _ n => n.toNat | _ => 0
  have hfb : ∀ n : Nat, f (bv n) = n := fun n => by show (n : Int).toNat = n; omega
  refine ⟨⟨cs.map f, by simpa using hlen, ?_⟩, ?_⟩
  · intro b hb
    obtain ⟨v, hv, rfl⟩ := List.mem_map.1 hb
    obtain ⟨i, hiv⟩ := List.getElem?_of_mem hv
    obtain ⟨n, h1, h2⟩ := hcell i (by have := (List.getElem?_eq_some_iff.1 hiv).1; omega)
    rw [hiv] at h1
    injection h1 with h1
    rw [h1, hfb]; exact h2
  · unfold Sm.enc
    apply List.ext_getElem?
    intro i
    rw [List.getElem?_map, List.getElem?_map]
    by_cases hlt : i < 32
    · obtain ⟨n, h1, _⟩ := hcell i hlt
      rw [h1]
      simp only [Option.map_some, hfb]
    · rw [List.getElem?_eq_none (by omega)]; rfl
theorem row_sm {H : Type} {enc : TypeId × Value → H} {P : Program} {W : World} {sp : Nat → Bool} {r : Reach} {b0 : Nat} {t e : TypeId} {v : Value} {d : DataW H} {ps : List MemPlace}
    (ht : P.underlying t = some (.array 32 e)) (he : P.underlying e = some (.int .u8)) (hC : P.cellsOf t = 32) (hc : P.cellsOf e = 1)
    (hv : Value.okWide P W r b0 t v) (h : DataW.Trod enc P W 0 sp true t v d ps) : ∃ s : Sm, v = .agg (u8s s.l) := by
  obtain ⟨cs, rfl, hs⟩ := okWide_arr ht hv
  obtain ⟨fuel, hf⟩ := h
  obtain ⟨s, h1⟩ := sm_of_cells ht he hC hc hf
  refine ⟨s, ?_⟩
  simp only [Value.cells] at h1
  congr 1
  apply Array.ext'
  rw [h1]
  simp [u8s, Sm.enc]
end Go.Proofs.Ytmlbkcpmgcjblaa
