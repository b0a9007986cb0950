/- Layer 10, plainly: a set's row is strictly rising, holds the same. -/
import Derived.Test.YtmlbkcpmgcjblaaSetG
namespace Go.Proofs.Ytmlbkcpmgcjblaa
open Go.RowKit

def srt (L : List Sm) : Prop := L.Pairwise fun x y => cmpL x.l y.l < 0
theorem Sm.ext' {x y : Sm} (h : x.l = y.l) : x = y := by
  cases x; cases y; simp only at h; subst h; rfl
theorem cmp_self (x : Sm) : cmpL x.l x.l = 0 := (cmpL_eq _ _).2 rfl
theorem cmp_zero {x y : Sm} : cmpL x.l y.l = 0 ↔ x = y := ⟨fun h => Sm.ext' ((cmpL_eq _ _).1 h), fun h => by rw [h]; exact cmp_self y⟩
theorem cmp_lt_trans {x y z : Sm} (h1 : cmpL x.l y.l ≤ 0) (h2 : cmpL y.l z.l ≤ 0) (h : cmpL x.l y.l < 0 ∨ cmpL y.l z.l < 0) : cmpL x.l z.l < 0 := (cmpL_trans _ _ _ h1 h2).2 h
theorem sortL_le (D : List Sm) : (sortL D).Pairwise fun x y => cmpL x.l y.l ≤ 0 := by
  have h := List.pairwise_mergeSort (le := fun x y : Sm => !ltS y x) (fun a b c h1 h2 => by
    simp only [ltS, Bool.not_eq_true', decide_eq_false_iff_not] at *
    have s1 := cmpL_swap a.l b.l
    have s2 := cmpL_swap b.l c.l
    have s3 := cmpL_swap a.l c.l
    have := (cmpL_trans a.l b.l c.l (by omega) (by omega)).1
    omega) (fun a b => by
    simp only [ltS, Bool.or_eq_true, Bool.not_eq_true', decide_eq_false_iff_not] at *
    have s1 := cmpL_swap a.l b.l
    omega) D
  refine List.Pairwise.imp ?_ h
  intro x y h
  simp only [ltS, Bool.not_eq_true', decide_eq_false_iff_not] at h
  have s1 := cmpL_swap x.l y.l
  omega
theorem sortL_mem (D : List Sm) (x : Sm) : x ∈ sortL D ↔ x ∈ D := (List.mergeSort_perm D _).mem_iff
theorem le_get {D : List Sm} (h : D.Pairwise fun x y => cmpL x.l y.l ≤ 0) {i j : Nat} (hij : i < j) (hj : j < D.length) : cmpL (D.getD i default).l (D.getD j default).l ≤ 0 := by
  have h1 := List.pairwise_iff_getElem.1 h i j (by omega) hj hij
  simpa [List.getD, hj, show i < D.length by omega] using h1
theorem lt_get {D : List Sm} (h : srt D) {i j : Nat} (hij : i < j) (hj : j < D.length) : cmpL (D.getD i default).l (D.getD j default).l < 0 := by
  have h1 := List.pairwise_iff_getElem.1 h i j (by omega) hj hij
  simpa [List.getD, hj, show i < D.length by omega] using h1
theorem ddL_facts {D : List Sm} (h : D.Pairwise fun x y => cmpL x.l y.l ≤ 0) : ∀ m, m ≤ D.length → srt (ddL D m) ∧ ∀ x, x ∈ ddL D m ↔ ∃ j, j < m ∧ D.getD j default = x
  | 0, _ => ⟨List.Pairwise.nil, fun x => by simp [ddL]⟩
  | m + 1, hm => by
    obtain ⟨h1, h2⟩ := ddL_facts h m (by omega)
    by_cases hn : m = 0 ∨ ¬ D.getD m default = D.getD (m - 1) default
    · rw [ddL_new hn]
      constructor
      · refine List.pairwise_append.2 ⟨h1, List.pairwise_singleton _ _, fun x hx y hy => ?_⟩
        obtain ⟨j, hj, rfl⟩ := (h2 x).1 hx
        simp only [List.mem_singleton] at hy
        subst hy
        have hn : ¬ D.getD m default = D.getD (m - 1) default := hn.resolve_left (by omega)
        have a1 := le_get h (i := m - 1) (j := m) (by omega) (by omega)
        have a2 : ¬ cmpL (D.getD (m - 1) default).l (D.getD m default).l = 0 := fun e => hn (cmp_zero.1 e).symm
        by_cases hjm : j = m - 1
        · subst hjm; omega
        · exact cmp_lt_trans (le_get h (i := j) (j := m - 1) (by omega) (by omega)) a1 (.inr (by omega))
      · intro x
        rw [List.mem_append, h2, List.mem_singleton]
        constructor
        · rintro (⟨j, hj, rfl⟩ | rfl)
          · exact ⟨j, by omega, rfl⟩
          · exact ⟨m, by omega, rfl⟩
        · rintro ⟨j, hj, rfl⟩
          by_cases hjm : j = m
          · subst hjm; exact .inr rfl
          · exact .inl ⟨j, by omega, rfl⟩
    · have hn' : ¬ m = 0 ∧ D.getD m default = D.getD (m - 1) default := by
        refine ⟨fun e => hn (.inl e), Classical.byContradiction fun e => hn (.inr e)⟩
      rw [ddL_old hn'.1 hn'.2]
      refine ⟨h1, fun x => ?_⟩
      rw [h2]
      constructor
      · rintro ⟨j, hj, rfl⟩
        exact ⟨j, by omega, rfl⟩
      · rintro ⟨j, hj, rfl⟩
        by_cases hjm : j = m
        · subst hjm; exact ⟨j - 1, by omega, hn'.2.symm⟩
        · exact ⟨j, by omega, rfl⟩
theorem setL_srt (D : List Sm) : srt (setL D) := by
  have h := (ddL_facts (sortL_le D) D.length (by rw [sortL_len]; exact Nat.le_refl _)).1
  exact h
theorem setL_mem (D : List Sm) (x : Sm) : x ∈ setL D ↔ x ∈ D := by
  have h := (ddL_facts (sortL_le D) D.length (by rw [sortL_len]; exact Nat.le_refl _)).2 x
  refine h.trans ?_
  rw [← sortL_mem D x, mem_get, sortL_len]
theorem srt_nodup {L : List Sm} (h : srt L) : L.Nodup := List.Pairwise.imp (fun {a b} h e => by subst e; rw [cmp_self] at h; omega) h
theorem srt_ext : ∀ {L M : List Sm}, srt L → srt M → (∀ x, x ∈ L ↔ x ∈ M) → L = M
  | [], [], _, _, _ => rfl
  | [], y :: M, _, _, h => absurd ((h y).2 (by simp)) (by simp)
  | x :: L, [], _, _, h => absurd ((h x).1 (by simp)) (by simp)
  | x :: L, y :: M, hL, hM, h => by
    obtain ⟨a1, a2⟩ := List.pairwise_cons.1 hL
    obtain ⟨b1, b2⟩ := List.pairwise_cons.1 hM
    have hxy : x = y := by
      rcases List.mem_cons.1 ((h x).1 (by simp)) with e | e
      · exact e
      rcases List.mem_cons.1 ((h y).2 (by simp)) with e' | e'
      · exact e'.symm
      have c1 := b1 x e
      have c2 := a1 y e'
      have := cmpL_swap x.l y.l
      omega
    subst hxy
    congr 1
    refine srt_ext a2 b2 fun z => ?_
    have hz := h z
    simp only [List.mem_cons] at hz
    constructor
    · intro hz1
      rcases hz.1 (.inr hz1) with e | e
      · subst e; have := a1 z hz1; rw [cmp_self] at this; omega
      · exact e
    · intro hz1
      rcases hz.2 (.inr hz1) with e | e
      · subst e; have := b1 z hz1; rw [cmp_self] at this; omega
      · exact e
theorem goodL_srt {L : List Sm} (h : srt L) : goodL L = decide (L.length ≤ 512) := goodL_all fun k hk => lt_get h (by omega) hk
theorem srt_of_adj : ∀ {L : List Sm}, (∀ k, k + 1 < L.length → cmpL (L.getD k default).l (L.getD (k + 1) default).l < 0) → srt L
  | [], _ => List.Pairwise.nil
  | [x], _ => List.pairwise_singleton _ _
  | x :: y :: L, h => by
    have ih : srt (y :: L) := srt_of_adj fun k hk => by simpa using h (k + 1) (by simp at hk ⊢; omega)
    refine List.pairwise_cons.2 ⟨fun z hz => ?_, ih⟩
    have h0 : cmpL x.l y.l < 0 := by simpa using h 0 (by simp)
    rcases List.mem_cons.1 hz with e | e
    · subst e; exact h0
    · have := (List.pairwise_cons.1 ih).1 z e
      exact cmp_lt_trans (by omega) (by omega) (.inl h0)
theorem goodL_iff (L : List Sm) : goodL L = true ↔ srt L ∧ L.length ≤ 512 := by
  constructor
  · intro h
    have hs : srt L := srt_of_adj fun k hk => Classical.byContradiction fun hb => by rw [goodL_bad hk hb] at h; cases h
    rw [goodL_srt hs] at h
    exact ⟨hs, of_decide_eq_true h⟩
  · rintro ⟨h1, h2⟩
    rw [goodL_srt h1]; exact decide_eq_true h2
theorem setL_self {L : List Sm} (h : srt L) : setL L = L := srt_ext (setL_srt L) h (setL_mem L)
theorem srt_filter {L : List Sm} (h : srt L) (p : Sm → Bool) : srt (L.filter p) := List.Pairwise.filter p h
end Go.Proofs.Ytmlbkcpmgcjblaa
