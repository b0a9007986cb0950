/- Rows of bytes compared: plainly. -/
namespace Go.Proofs.Ytkdkmnemmenikaa

def cmpL : List Nat → List Nat → Int
  | [], [] => 0
  | [], _ :: _ => -1
  | _ :: _, [] => 1
  | a :: x, b :: y => if a < b then -1 else if b < a then 1 else cmpL x y
theorem cmpL_three : ∀ x y : List Nat, cmpL x y = -1 ∨ cmpL x y = 0 ∨ cmpL x y = 1
  | [], [] => .inr (.inl rfl)
  | [], _ :: _ => .inl rfl
  | _ :: _, [] => .inr (.inr rfl)
  | a :: x, b :: y => by
    have ih := cmpL_three x y
    unfold cmpL
    by_cases h1 : a < b
    · rw [if_pos h1]; exact .inl rfl
    · by_cases h2 : b < a
      · rw [if_neg h1, if_pos h2]; exact .inr (.inr rfl)
      · rw [if_neg h1, if_neg h2]; exact ih
theorem cmpL_swap : ∀ x y : List Nat, cmpL y x = - cmpL x y
  | [], [] => rfl
  | [], _ :: _ => rfl
  | _ :: _, [] => rfl
  | a :: x, b :: y => by
    have ih := cmpL_swap x y
    unfold cmpL
    by_cases h1 : a < b
    · rw [if_neg (by omega), if_pos h1, if_pos h1]; rfl
    · by_cases h2 : b < a
      · rw [if_pos h2, if_neg h1, if_pos h2]
      · rw [if_neg h2, if_neg h1, if_neg h1, if_neg h2]; exact ih
theorem cmpL_eq : ∀ x y : List Nat, cmpL x y = 0 ↔ x = y
  | [], [] => by simp [cmpL]
  | [], _ :: _ => by simp [cmpL]
  | _ :: _, [] => by simp [cmpL]
  | a :: x, b :: y => by
    have ih := cmpL_eq x y
    unfold cmpL
    by_cases h1 : a < b
    · rw [if_pos h1]; simp; omega
    · by_cases h2 : b < a
      · rw [if_neg h1, if_pos h2]; simp; omega
      · rw [if_neg h1, if_neg h2, ih]
        have : a = b := by omega
        simp [this]
theorem cmpL_trans : ∀ x y z : List Nat, cmpL x y ≤ 0 → cmpL y z ≤ 0 → cmpL x z ≤ 0 ∧ (cmpL x y < 0 ∨ cmpL y z < 0 → cmpL x z < 0)
  | [], [], [] => by simp [cmpL]
  | [], [], _ :: _ => by simp [cmpL]
  | [], _ :: _, [] => by simp [cmpL]
  | [], _ :: _, _ :: _ => by simp [cmpL]
  | _ :: _, [], _ => by simp [cmpL]
  | _ :: _, _ :: _, [] => by intro _ h; simp [cmpL] at h
  | a :: x, b :: y, c :: z => by
    have ih := cmpL_trans x y z
    intro h1 h2
    unfold cmpL at h1 h2 ⊢
    by_cases ab : a < b
    · by_cases bc : c < b
      · rw [if_neg (by omega), if_pos bc] at h2; omega
      · rw [if_pos (show a < c by omega)]; exact ⟨by omega, fun _ => by omega⟩
    · by_cases ba : b < a
      · rw [if_neg ab, if_pos ba] at h1; omega
      · rw [if_neg ab, if_neg ba] at h1 ⊢
        have e : a = b := by omega
        subst e
        by_cases ac : a < c
        · rw [if_pos ac]; exact ⟨by omega, fun _ => by omega⟩
        · by_cases ca : c < a
          · rw [if_neg ac, if_pos ca] at h2; omega
          · rw [if_neg ac, if_neg ca] at h2
            rw [if_neg ac, if_neg ca]
            rw [if_neg ac, if_neg ca]
            exact ih h1 h2

/-! Words. -/
end Go.Proofs.Ytkdkmnemmenikaa
