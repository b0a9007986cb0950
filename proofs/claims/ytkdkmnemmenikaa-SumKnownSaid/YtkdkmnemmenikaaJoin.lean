/- bytes.Join without a separator, out of the library's contract: what it returns is a slice of the call's own. -/
import Derived.Test.YtkdkmnemmenikaaLaysJ
import Derived.Test.YtkdkmnemmenikaaMemO
namespace Go.Proofs.Ytkdkmnemmenikaa
open Go.RowKit

def bytesU (l : List Nat) : List UInt8 := l.map UInt8.ofNat
theorem bytesU_len (l : List Nat) : (bytesU l).length = l.length := by simp [bytesU]
theorem u8_toNat {x : Nat} (h : x < 256) : (UInt8.ofNat x).toNat = x := by simp [UInt8.toNat_ofNat']; omega

/-- The cells of block b from o on hold slices of the bytes ls. -/
def Parts (w : World) (b o : Nat) (ls : List (List Nat)) : Prop :=
  ∀ i l, ls[i]? = some l → ∃ A cap, w.cell? ⟨b, o + i, none⟩ = some (.slice A l.length cap) ∧ Rd w A (l.map bv) ∧ (A = none → l = []) ∧ ∀ x ∈ l, x < 256

theorem own_fresh {B : Nat} {w : World} {v : Value} {l : List Nat} (h : Lib.FreshBytes B w v (bytesU l)) (hl : ∀ x ∈ l, x < 256) :
    ∃ S, Own w 1 v l.length (l.map bv) S ∧ ∀ x ∈ S, B ≤ x := by
  obtain ⟨g, cap, zs, rfl, hB, hlc, hm, hzl, hz, hb, hc, hf⟩ := h
  rw [bytesU_len] at hlc hb ⊢
  rcases Nat.eq_zero_or_pos cap with h0 | h0
  · subst h0
    have : l = [] := List.eq_nil_of_length_eq_zero (by omega)
    subst this
    exact ⟨[], ⟨by simp, .inl ⟨_, rfl, rfl, rfl⟩⟩, by simp⟩
  · refine ⟨[g], ⟨by simp, .inr ⟨g, 0, cap, rfl, rfl, hlc, hm, World.block_lt_of_cell? w _ (hc 0 h0), fun j hj => ?_, fun j u hu => ?_⟩⟩, by simpa using hB⟩
    · rw [Nat.zero_add]
      exact ⟨by rw [hc j (by omega)]; rfl, hf j (by omega)⟩
    · rw [Nat.zero_add]
      rw [List.getElem?_map] at hu
      obtain ⟨x, hx, rfl⟩ := Option.map_eq_some_iff.1 hu
      obtain ⟨hj, rfl⟩ := List.getElem?_eq_some_iff.1 hx
      rw [hc j (by omega)]
      have e := congrArg (fun z : List UInt8 => z[j]?) hb
      simp only [Lib.bytesOf, bytesU, List.getElem?_map, List.getElem?_take, if_pos hj, List.getElem?_eq_getElem hj, List.getElem?_eq_getElem (show j < zs.length by omega), Option.map_some, Option.some.injEq] at e
      have e2 := congrArg UInt8.toNat e
      have hzj := hz zs[j] (List.getElem_mem _)
      rw [u8_toNat (hl _ (List.getElem_mem _)), u8_toNat (by omega)] at e2
      simp only [bv, List.getD, List.getElem?_eq_getElem (show j < zs.length by omega), Option.getD_some]
      congr 2
      omega

theorem holdsB {w : World} {A : Option Addr} {cap : Nat} {l : List Nat} (hr : Rd w A (l.map bv)) (hA : A = none → l = []) (hx : ∀ x ∈ l, x < 256) :
    Lib.HoldsBytes w (.slice A l.length cap) (bytesU l) := by
  refine ⟨A, cap, by rw [bytesU_len], fun h => by rw [hA h]; rfl, fun a ha i x hi => ?_⟩
  subst ha
  unfold bytesU at hi
  rw [List.getElem?_map] at hi
  obtain ⟨y, hy, rfl⟩ := Option.map_eq_some_iff.1 hi
  obtain ⟨ad, e, h⟩ := hr i (bv y) (by rw [List.getElem?_map, hy]; rfl)
  injection e with e
  subst e
  rw [h, u8_toNat (hx y (List.mem_of_getElem? hy))]
  rfl

theorem flatten_bytesU (ls : List (List Nat)) : (ls.map bytesU).flatten = bytesU ls.flatten := by
  unfold bytesU
  rw [List.map_flatten]

theorem lens_eq (ls : List (List Nat)) : Lib.lens (ls.map bytesU) = ls.flatten.length := by
  unfold Lib.lens
  rw [List.map_map, List.length_flatten]
  congr 1
  apply List.map_congr_left
  intro l _
  simp [bytesU]

theorem intercalate_nil (ls : List (List UInt8)) : ([] : List UInt8).intercalate ls = ls.flatten := by
  unfold List.intercalate
  induction ls with
  | nil => rfl
  | cons l ls ih =>
    cases ls with
    | nil => simp
    | cons l2 ls => simp only [List.intersperse_cons_cons, List.flatten_cons, List.nil_append] at ih ⊢; rw [ih]

theorem join_any (A : Option Addr) (b o n c : Nat) (ls : List (List Nat)) (w : World) (hn : ls.length = n) (hc : n ≤ c) (hA : n ≠ 0 → A = some ⟨b, o, none⟩) (hp : Parts w b o ls) (hlen : ls.flatten.length ≤ 70368744177664) (hn2 : n ≤ 140737488355328) :
    Calls Try.prog 12 #[.slice A n c, .slice none 0 0] w fun e w' => ∃ v S, e = .returned v ∧ Own w' 1 v ls.flatten.length (ls.flatten.map bv) S ∧ Below w.heap.size w w' ∧ ∀ x ∈ S, w.heap.size ≤ x := by
  have hlt : ∀ x ∈ ls.flatten, x < 256 := by
    intro x hx
    obtain ⟨l, hl, hxl⟩ := List.mem_flatten.1 hx
    obtain ⟨i, hi⟩ := List.getElem?_of_mem hl
    obtain ⟨_, _, _, _, _, h⟩ := hp i l hi
    exact h x hxl
  match ls, hn with
  | [], hn =>
    subst hn
    have h := Any.bytes_Join_none laysSlJ14 A c (.slice none 0 0) w
    change Calls Try.prog 12 _ _ _ at h
    refine h.mono ?_
    rintro e w' ⟨rfl, rfl⟩
    exact ⟨_, [], rfl, ⟨by simp, .inl ⟨_, rfl, rfl, rfl⟩⟩, ((Keeps.refl [] w).alloc _).below, by simp⟩
  | [l], hn =>
    subst hn
    obtain rfl := hA (by simp)
    obtain ⟨Al, cl, hcell, hr, hnil, hx⟩ := hp 0 l rfl
    rw [Nat.add_zero] at hcell
    simp only [List.flatten_cons, List.flatten_nil, List.append_nil] at hlen hlt ⊢
    by_cases h0 : l = []
    · subst h0
      have h := Any.bytes_Join_one_empty laysSlJ14 b o c Al cl (.slice none 0 0) w hcell
      change Calls Try.prog 12 _ _ _ at h
      refine h.mono ?_
      rintro e w' ⟨rfl, rfl⟩
      exact ⟨_, [], rfl, Own.nil _ _, Below.refl _ _, by simp⟩
    · obtain ⟨ad, rfl⟩ : ∃ ad, Al = some ad := by
        cases Al with
        | none => exact absurd (hnil rfl) h0
        | some ad => exact ⟨ad, rfl⟩
      have h := Any.bytes_Join_one laysSlJ14 b o c ad cl (bytesU l) (.slice none 0 0) w (by rw [bytesU_len]; exact hcell)
        (fun i x hi => by
          obtain ⟨p, cap, e, _, h2⟩ := holdsB (cap := cl) hr hnil hx
          injection e with e1
          subst e1
          exact h2 ad rfl i x hi)
        (by rw [bytesU_len]; exact List.length_pos_iff.2 h0) (by rw [bytesU_len]; omega)
      change Calls Try.prog 12 _ _ _ at h
      refine h.mono ?_
      rintro e w' ⟨v, rfl, hf, hb⟩
      obtain ⟨S, h1, h2⟩ := own_fresh hf hlt
      exact ⟨v, S, rfl, h1, hb, h2⟩
  | l1 :: l2 :: r, hn =>
    obtain rfl := hA (by rw [← hn]; simp)
    generalize hls : l1 :: l2 :: r = ls at *
    have h2 : 2 ≤ n := by rw [← hn, ← hls]; simp
    have hP : Lib.PartsAt w ⟨b, o, none⟩ ((List.range ls.length).map fun i => (w.cell? ⟨b, o + i, none⟩).getD undef) (ls.map bytesU) := by
      refine ⟨by simp, fun i v hi => ?_, fun i v l hi hl => ?_⟩
      · rw [List.getElem?_map] at hi
        obtain ⟨j, hj, rfl⟩ := Option.map_eq_some_iff.1 hi
        obtain ⟨hj1, hj2⟩ := List.getElem?_eq_some_iff.1 hj
        simp at hj1 hj2
        subst hj2
        obtain ⟨A, cap, hcell, _⟩ := hp i ls[i] (List.getElem?_eq_getElem hj1)
        rw [Addr.add_lit, hcell]
        rfl
      · rw [List.getElem?_map] at hi hl
        obtain ⟨j, hj, rfl⟩ := Option.map_eq_some_iff.1 hi
        obtain ⟨hj1, hj2⟩ := List.getElem?_eq_some_iff.1 hj
        simp at hj1 hj2
        subst hj2
        obtain ⟨l', hl', rfl⟩ := Option.map_eq_some_iff.1 hl
        obtain ⟨A, cap, hcell, hr, hnil, hx⟩ := hp i l' hl'
        rw [hcell]
        exact holdsB hr hnil hx
    have h := Any.bytes_Join_many laysSlJ14 b o n c _ (ls.map bytesU) (.slice none 0 0) [] w (by simpa using hn) h2 hP hc ⟨none, 0, rfl, fun _ => rfl, by simp⟩ (by omega) (by rw [lens_eq, List.length_nil, Nat.zero_mul]; omega)
    change Calls Try.prog 12 _ _ _ at h
    refine h.mono ?_
    rintro e w' ⟨v, rfl, hf, hb⟩
    unfold Lib.join at hf
    rw [intercalate_nil, flatten_bytesU] at hf
    obtain ⟨S, h1, h2⟩ := own_fresh hf hlt
    exact ⟨v, S, rfl, h1, hb, h2⟩
end Go.Proofs.Ytkdkmnemmenikaa
