/- Plain laws of cutting: of no program's text but the plain functions. -/
import Derived.Test.YtibckdnfgopghaaRollP
namespace Go.Proofs.Ytibckdnfgopghaa

def fitS (mask want : Nat) (l : List Nat) : Bool := decide (ofS l &&& mask = want)
/-- The first end behind n, of at most f. -/
def scanS (wd mask want : Nat) (b : List Nat) : Nat → Nat → Nat
  | 0, n => n
  | f + 1, n => if fitS mask want ((b.take (n + 1)).drop (n + 1 - wd)) = true then n + 1 else scanS wd mask want b f (n + 1)
def nextS (mn mx wd mask want : Nat) (b : List Nat) : Nat :=
  if min mx b.length < mn then min mx b.length else scanS wd mask want b (min mx b.length + 1 - mn) (mn - 1)

theorem scanS_bounds (wd mask want : Nat) (b : List Nat) : ∀ f n, n ≤ scanS wd mask want b f n ∧ scanS wd mask want b f n ≤ n + f ∧ (1 ≤ f → n + 1 ≤ scanS wd mask want b f n) := by
  intro f
  induction f with
  | zero => intro n; simp [scanS]
  | succ f ih =>
    intro n
    rw [scanS]
    split
    · omega
    · have := ih (n + 1); omega
theorem nextS_bounds (mn mx wd mask want : Nat) (b : List Nat) (h1 : 1 ≤ mn) (h2 : mn ≤ mx) :
    nextS mn mx wd mask want b ≤ b.length ∧ nextS mn mx wd mask want b ≤ mx ∧ (mn ≤ nextS mn mx wd mask want b ∨ nextS mn mx wd mask want b = b.length) ∧ (b.length = 0 ↔ nextS mn mx wd mask want b = 0) := by
  unfold nextS
  split
  · omega
  · have := scanS_bounds wd mask want b (min mx b.length + 1 - mn) (mn - 1); omega

/-- Pieces' ends from at on; b is what is left. -/
def endsS (f : List Nat → Nat) : Nat → Nat → List Nat → List Nat
  | 0, _, _ => []
  | n + 1, s, b => if b.length = 0 then [] else (s + f b) :: endsS f n (s + f b) (b.drop (f b))
def ends (f : List Nat → Nat) (s : Nat) (b : List Nat) : List Nat := endsS f b.length s b
theorem endsS_fuel (f : List Nat → Nat) (hf : ∀ b : List Nat, b.length ≠ 0 → 1 ≤ f b ∧ f b ≤ b.length) : ∀ (n m s : Nat) (b : List Nat), b.length ≤ n → b.length ≤ m → endsS f n s b = endsS f m s b := by
  intro n
  induction n with
  | zero =>
    intro m s b h _
    cases m with
    | zero => rfl
    | succ m => rw [endsS, endsS, if_pos (by omega)]
  | succ n ih =>
    intro m s b h h'
    cases m with
    | zero => rw [endsS, endsS, if_pos (by omega)]
    | succ m =>
      rw [endsS, endsS]
      split
      · rfl
      · rename_i h0
        have := hf b h0
        rw [ih m _ _ (by rw [List.length_drop]; omega) (by rw [List.length_drop]; omega)]
theorem ends_nil (f : List Nat → Nat) (s : Nat) : ends f s [] = [] := rfl
theorem ends_step (f : List Nat → Nat) (hf : ∀ b : List Nat, b.length ≠ 0 → 1 ≤ f b ∧ f b ≤ b.length) (s : Nat) (b : List Nat) (hb : b.length ≠ 0) : ends f s b = (s + f b) :: ends f (s + f b) (b.drop (f b)) := by
  have := hf b hb
  unfold ends
  obtain ⟨n, hn⟩ : ∃ n, b.length = n + 1 := ⟨b.length - 1, by omega⟩
  rw [hn, endsS, if_neg hb, endsS_fuel f hf n (b.drop (f b)).length _ _ (by rw [List.length_drop]; omega) (Nat.le_refl _)]
theorem ends_ind (f : List Nat → Nat) (hf : ∀ b : List Nat, b.length ≠ 0 → 1 ≤ f b ∧ f b ≤ b.length) (M : Nat → List Nat → List Nat → Prop)
    (h0 : ∀ s, M s [] []) (h1 : ∀ s b, b.length ≠ 0 → M (s + f b) (b.drop (f b)) (ends f (s + f b) (b.drop (f b))) → M s b ((s + f b) :: ends f (s + f b) (b.drop (f b)))) : ∀ (n s : Nat) (b : List Nat), b.length ≤ n → M s b (ends f s b) := by
  intro n
  induction n with
  | zero =>
    intro s b h
    obtain rfl : b = [] := List.eq_nil_of_length_eq_zero (by omega)
    exact h0 s
  | succ n ih =>
    intro s b h
    by_cases hb : b.length = 0
    · obtain rfl : b = [] := List.eq_nil_of_length_eq_zero hb
      exact h0 s
    · have := hf b hb
      rw [ends_step f hf s b hb]
      exact h1 s b hb (ih _ _ (by rw [List.length_drop]; omega))
theorem nextS_f (mn mx wd mask want : Nat) (h1 : 1 ≤ mn) (h2 : mn ≤ mx) : ∀ b : List Nat, b.length ≠ 0 → 1 ≤ nextS mn mx wd mask want b ∧ nextS mn mx wd mask want b ≤ b.length := by
  intro b hb
  have := nextS_bounds mn mx wd mask want b h1 h2
  omega
theorem lastL_zero (W : Nat) (b : List Nat) : lastL W 0 b = [] := by simp [lastL]
theorem window_eq (wd d k : Nat) (b : List Nat) (h : d + wd ≤ k) : lastL wd (k - d) (b.drop d) = (b.take k).drop (k - wd) := by
  unfold lastL
  rw [List.take_drop, List.drop_drop]
  congr 2 <;> omega
theorem scan_hit (wd mask want : Nat) (b : List Nat) (m k : Nat) (h : k < m) (hf : fitS mask want ((b.take (k + 1)).drop (k + 1 - wd)) = true) : scanS wd mask want b (m - k) k = k + 1 := by
  obtain ⟨j, rfl⟩ : ∃ j, m = k + (j + 1) := ⟨m - k - 1, by omega⟩
  rw [Nat.add_sub_cancel_left, scanS, if_pos hf]
theorem scan_miss (wd mask want : Nat) (b : List Nat) (m k : Nat) (h : k < m) (hf : fitS mask want ((b.take (k + 1)).drop (k + 1 - wd)) = false) : scanS wd mask want b (m - k) k = scanS wd mask want b (m - (k + 1)) (k + 1) := by
  obtain ⟨j, rfl⟩ : ∃ j, m = k + (j + 1) := ⟨m - k - 1, by omega⟩
  rw [Nat.add_sub_cancel_left, scanS, if_neg (by simp [hf]), show k + (j + 1) - (k + 1) = j by omega]
end Go.Proofs.Ytibckdnfgopghaa
