/- Sums in order, plainly: the order, words, texts. -/
import Derived.Test.YtbhlaafahfeacaaWord
import Derived.Test.YtbhlaafahfeacaaTextP
namespace Go.Proofs.Ytbhlaafahfeacaa
open Go.RowKit

theorem wordF_inj {x y : List Nat} (i : Nat) (hx : ∀ j, x.getD j 0 < 256) (hy : ∀ j, y.getD j 0 < 256) : ∀ t, wordF x i t = wordF y i t → ∀ j, j < t → x.getD (8 * i + (7 - j)) 0 = y.getD (8 * i + (7 - j)) 0
  | 0, _, j, hj => by omega
  | t + 1, h, j, hj => by
    have h1 := hx (8 * i + (7 - t))
    have h2 := hy (8 * i + (7 - t))
    simp only [wordF] at h
    have h3 : wordF x i t = wordF y i t ∧ x.getD (8 * i + (7 - t)) 0 = y.getD (8 * i + (7 - t)) 0 := by omega
    rcases Nat.lt_succ_iff_lt_or_eq.1 hj with h4 | h4
    · exact wordF_inj i hx hy t h3.1 j h4
    · subst h4; exact h3.2
/-- Are the first k words alike? -/
def sameW (x y : List Nat) : Nat → Bool
  | 0 => true
  | k + 1 => sameW x y k && (((wordL x (k : Int) : Nat) : Int) == ((wordL y (k : Int) : Nat) : Int))
theorem sameW_all (x y : Sm) : sameW x.l y.l 4 = decide (x = y) := by
  have key : sameW x.l y.l 4 = true ↔ x = y := by
    constructor
    · intro h
      simp only [sameW, Bool.true_and, Bool.and_eq_true, beq_iff_eq, Int.ofNat_inj] at h
      obtain ⟨⟨⟨h0, h1⟩, h2⟩, h3⟩ := h
      have k0 : wordF x.l 0 8 = wordF y.l 0 8 := h0
      have k1 : wordF x.l 1 8 = wordF y.l 1 8 := h1
      have k2 : wordF x.l 2 8 = wordF y.l 2 8 := h2
      have k3 : wordF x.l 3 8 = wordF y.l 3 8 := h3
      have all : ∀ i, i < 4 → ∀ j, j < 8 → x.l.getD (8 * i + (7 - j)) 0 = y.l.getD (8 * i + (7 - j)) 0 := by
        intro i hi
        have hi' : i = 0 ∨ i = 1 ∨ i = 2 ∨ i = 3 := by omega
        rcases hi' with rfl | rfl | rfl | rfl
        · exact wordF_inj 0 x.get_lt y.get_lt 8 k0
        · exact wordF_inj 1 x.get_lt y.get_lt 8 k1
        · exact wordF_inj 2 x.get_lt y.get_lt 8 k2
        · exact wordF_inj 3 x.get_lt y.get_lt 8 k3
      apply Sm.ext_l
      apply List.ext_getElem (by rw [x.len, y.len])
      intro n h4 h5
      have hn : n < 32 := by have := x.len; omega
      have h6 := all (n / 8) (by omega) (7 - n % 8) (by omega)
      rw [show 8 * (n / 8) + (7 - (7 - n % 8)) = n by omega] at h6
      simpa [List.getD, List.getElem?_eq_getElem h4, List.getElem?_eq_getElem h5] using h6
    · rintro rfl
      simp [sameW]
  rw [Bool.eq_iff_iff, decide_eq_true_eq]
  exact key

/-! Texts. -/
theorem hexd_mono {a b : Nat} (hb : b < 16) (h : a < b) : hexd a < hexd b := by unfold hexd; split <;> split <;> omega
theorem less_cons (a b : Nat) (ha : a < 256) (hb : b < 256) (x y : List Nat) : Op.bytesLess (bytesU (a :: x)) (bytesU (b :: y)) = if a < b then true else if b < a then false else Op.bytesLess (bytesU x) (bytesU y) := by
  have h1 : (UInt8.ofNat a < UInt8.ofNat b) ↔ a < b := by rw [UInt8.lt_iff_toNat_lt, u8_toNat ha, u8_toNat hb]
  have h2 : (UInt8.ofNat a = UInt8.ofNat b) ↔ a = b := by
    constructor
    · intro h; have := congrArg UInt8.toNat h; rwa [u8_toNat ha, u8_toNat hb] at this
    · rintro rfl; rfl
  show Op.bytesLess (UInt8.ofNat a :: bytesU x) (UInt8.ofNat b :: bytesU y) = _
  rw [Op.bytesLess]
  by_cases c1 : a < b
  · simp [h1, c1]
  · by_cases c2 : b < a
    · have : ¬ a = b := by omega
      simp [h1, h2, c1, c2, this]
    · have e : a = b := by omega
      subst e
      simp
theorem less_hex : ∀ (x y : List Nat), x.length = y.length → (∀ a ∈ x, a < 256) → (∀ a ∈ y, a < 256) → Op.bytesLess (bytesU (hexS x)) (bytesU (hexS y)) = decide (cmpL x y < 0)
  | [], [], _, _, _ => by decide
  | [], _ :: _, h, _, _ => by simp at h
  | _ :: _, [], h, _, _ => by simp at h
  | a :: x, b :: y, h, hx, hy => by
    have ih := less_hex x y (by simpa using h) (fun z hz => hx z (by simp [hz])) (fun z hz => hy z (by simp [hz]))
    have ha := hx a (by simp)
    have hb := hy b (by simp)
    have d1 := hexd_lt (show a / 16 < 16 by omega)
    have d2 := hexd_lt (show b / 16 < 16 by omega)
    have d3 := hexd_lt (show a % 16 < 16 by omega)
    have d4 := hexd_lt (show b % 16 < 16 by omega)
    show Op.bytesLess (bytesU (hexd (a / 16) :: hexd (a % 16) :: hexS x)) (bytesU (hexd (b / 16) :: hexd (b % 16) :: hexS y)) = _
    rw [less_cons _ _ d1 d2, less_cons _ _ d3 d4, ih, show cmpL (a :: x) (b :: y) = if a < b then -1 else if b < a then 1 else cmpL x y from rfl]
    by_cases c1 : a / 16 < b / 16
    · rw [if_pos (hexd_mono (by omega) c1), if_pos (show a < b by omega)]; decide
    · by_cases c2 : b / 16 < a / 16
      · have := hexd_mono (show a / 16 < 16 by omega) c2
        rw [if_neg (by omega), if_pos this, if_neg (by omega), if_pos (show b < a by omega)]; decide
      · have e : a / 16 = b / 16 := by omega
        rw [e, if_neg (by omega), if_neg (by omega)]
        by_cases c3 : a % 16 < b % 16
        · rw [if_pos (hexd_mono (by omega) c3), if_pos (show a < b by omega)]; decide
        · by_cases c4 : b % 16 < a % 16
          · have := hexd_mono (show a % 16 < 16 by omega) c4
            rw [if_neg (by omega), if_pos this, if_neg (by omega), if_pos (show b < a by omega)]; decide
          · have e2 : a = b := by omega
            subst e2
            rw [if_neg (by omega), if_neg (by omega), if_neg (by omega), if_neg (by omega)]
theorem strB_toList (l : List Nat) : (strB l).toList = bytesU l := by
  rw [ByteArray.toList_eq]
  unfold strB
  rw [strOfNums_data, List.map_map]
  apply List.map_congr_left
  intro x _
  rfl
theorem less_text (x y : Sm) : Op.bytesLess (strB (hexS x.l)).toList (strB (hexS y.l)).toList = decide (cmpL x.l y.l < 0) := by
  rw [strB_toList, strB_toList]
  exact less_hex x.l y.l (by rw [x.len, y.len]) x.lt y.lt
end Go.Proofs.Ytbhlaafahfeacaa
