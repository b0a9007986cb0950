/- Digits read back, plainly. -/
import Derived.Test.YtkdkmnemmenikaaTextP
import Derived.Test.YtkdkmnemmenikaaStill
import Derived.Lib.Bytealg
import Derived.Laws.ResultCell
namespace Go.Proofs.Ytkdkmnemmenikaa
open Go.RowKit

def goodh (c : Nat) : Bool := (decide (48 ≤ c) && decide (c ≤ 57)) || (decide (97 ≤ c) && decide (c ≤ 102))
def hexv (c : Nat) : Nat := if c ≤ 57 then c - 48 else c - 87
theorem hexv_lt {c : Nat} (h : goodh c = true) : hexv c < 16 := by
  unfold goodh at h; unfold hexv
  simp only [Bool.or_eq_true, Bool.and_eq_true, decide_eq_true_eq] at h
  split <;> omega
theorem hexv_hexd {n : Nat} (h : n < 16) : hexv (hexd n) = n ∧ goodh (hexd n) = true := by
  have h : n = 0 ∨ n = 1 ∨ n = 2 ∨ n = 3 ∨ n = 4 ∨ n = 5 ∨ n = 6 ∨ n = 7 ∨ n = 8 ∨ n = 9 ∨ n = 10 ∨ n = 11 ∨ n = 12 ∨ n = 13 ∨ n = 14 ∨ n = 15 := by omega
  rcases h with rfl | rfl | rfl | rfl | rfl | rfl | rfl | rfl | rfl | rfl | rfl | rfl | rfl | rfl | rfl | rfl <;> decide
theorem hexd_hexv {c : Nat} (h : goodh c = true) : hexd (hexv c) = c := by
  unfold goodh at h; unfold hexv hexd
  simp only [Bool.or_eq_true, Bool.and_eq_true, decide_eq_true_eq] at h
  split <;> split <;> omega

/-- The bytes that the first i digits make. -/
def nibB (d : List Nat) (i j : Nat) : Nat := if 2 * j + 1 < i then hexv (d.getD (2 * j) 0) * 16 + hexv (d.getD (2 * j + 1) 0) else if 2 * j < i then hexv (d.getD (2 * j) 0) else 0
def nib (d : List Nat) (i : Nat) : List Nat := (List.range 32).map (nibB d i)
theorem nib_len (d : List Nat) (i : Nat) : (nib d i).length = 32 := by simp [nib]
theorem nib_get (d : List Nat) (i j : Nat) (h : j < 32) : (nib d i).getD j 0 = nibB d i j := by simp [nib, List.getD, h]
theorem nib_zero (d : List Nat) : nib d 0 = List.replicate 32 0 := by
  apply List.ext_getElem (by simp [nib])
  intro j h1 h2
  simp only [nib, List.getElem_map, List.getElem_range, List.getElem_replicate, nibB]
  rw [if_neg (by omega), if_neg (by omega)]
theorem nib_step (d : List Nat) (i : Nat) : (nib d i).set (i / 2) (nibB d i (i / 2) * 16 + hexv (d.getD i 0)) = nib d (i + 1) := by
  apply List.ext_getElem (by simp [nib])
  intro j h1 h2
  rw [List.getElem_set]
  simp only [nib, List.getElem_map, List.getElem_range]
  by_cases hj : i / 2 = j
  · subst hj
    rw [if_pos rfl]
    unfold nibB
    rcases Nat.mod_two_eq_zero_or_one i with h2 | h2
    · rw [if_neg (by omega), if_neg (by omega), if_neg (by omega), if_pos (by omega), show 2 * (i / 2) = i by omega]; omega
    · rw [if_neg (by omega), if_pos (by omega), if_pos (by omega), show 2 * (i / 2) + 1 = i by omega]
  · rw [if_neg hj]
    unfold nibB
    by_cases h1 : 2 * j + 1 < i
    · rw [if_pos h1, if_pos (by omega)]
    · by_cases h2 : 2 * j < i
      · rw [if_neg h1, if_pos h2, if_neg (by omega), if_pos (by omega)]
      · rw [if_neg h1, if_neg h2, if_neg (by omega), if_neg (by omega)]
theorem nibB_mid (d : List Nat) (i : Nat) (hg : ∀ j, j < i → goodh (d.getD j 0) = true) : nibB d i (i / 2) < 16 := by
  unfold nibB
  rw [if_neg (by omega)]
  split
  · exact hexv_lt (hg _ (by assumption))
  · omega
theorem nib_lt (d : List Nat) (i : Nat) (hg : ∀ j, j < i → goodh (d.getD j 0) = true) : ∀ x ∈ nib d i, x < 256 := by
  intro x hx
  obtain ⟨j, _, rfl⟩ := List.mem_map.1 hx
  unfold nibB
  split
  · have h1 := hexv_lt (hg (2 * j) (by omega))
    have h2 := hexv_lt (hg (2 * j + 1) (by assumption))
    omega
  · split
    · have h1 := hexv_lt (hg (2 * j) (by assumption)); omega
    · omega

/-- A string's bytes. -/
def sB (s : ByteArray) : List Nat := s.data.toList.map UInt8.toNat
theorem sB_len (s : ByteArray) : (sB s).length = s.size := by simp [sB]
theorem sB_get (s : ByteArray) (k : Nat) (h : k < s.size) : (sB s).getD k 0 = (s[k]'h).toNat := by
  have hk : k < s.data.toList.length := by simpa using h
  simp [sB, List.getD, List.getElem?_map, List.getElem?_eq_getElem hk]
  rfl
theorem sB_lt (s : ByteArray) : ∀ x ∈ sB s, x < 256 := by
  intro x hx
  obtain ⟨b, _, rfl⟩ := List.mem_map.1 hx
  exact b.toNat_lt
def GoodAll (d : List Nat) : Prop := d.length = 64 ∧ ∀ j, j < 64 → goodh (d.getD j 0) = true
instance (d : List Nat) : Decidable (GoodAll d) := inferInstanceAs (Decidable (_ ∧ _))
/-- What a text of digits tells. -/
def parseL (d : List Nat) : List Nat := if GoodAll d then nib d 64 else List.replicate 32 0
theorem parseL_len (d : List Nat) : (parseL d).length = 32 := by unfold parseL; split; exact nib_len _ _; simp
theorem parseL_lt (d : List Nat) : ∀ x ∈ parseL d, x < 256 := by
  unfold parseL
  split
  · rename_i h; exact nib_lt d 64 h.2
  · intro x hx; rw [List.mem_replicate] at hx; omega
def parseS (d : List Nat) : Sm := ⟨parseL d, parseL_len d, parseL_lt d⟩
def parseOk (d : List Nat) : Bool := decide (GoodAll d)
theorem parse_good {d : List Nat} (h : GoodAll d) : parseL d = nib d 64 ∧ parseOk d = true := ⟨if_pos h, decide_eq_true h⟩
theorem parse_bad {d : List Nat} (h : ¬ GoodAll d) : parseL d = List.replicate 32 0 ∧ parseOk d = false := ⟨if_neg h, decide_eq_false h⟩

theorem hexS_getD : ∀ (l : List Nat) (j : Nat), j < l.length → (hexS l).getD (2 * j) 0 = hexd (l.getD j 0 / 16) ∧ (hexS l).getD (2 * j + 1) 0 = hexd (l.getD j 0 % 16)
  | c :: l, 0, _ => by simp [hexS]
  | c :: l, j + 1, h => by
    have ih := hexS_getD l j (by simpa using h)
    rw [show 2 * (j + 1) = 2 * j + 2 by omega]
    simpa [hexS] using ih
/-- A sum's own text, read. -/
theorem parse_hex (l : List Nat) (hl : l.length = 32) (hx : ∀ x ∈ l, x < 256) : parseL (hexS l) = l ∧ parseOk (hexS l) = true := by
  have hb : ∀ j, j < 32 → l.getD j 0 < 256 := fun j hj => by
    have : j < l.length := by omega
    simp only [List.getD, List.getElem?_eq_getElem this, Option.getD_some]; exact hx _ (List.getElem_mem _)
  have hg : GoodAll (hexS l) := by
    refine ⟨by rw [hexS_len, hl], fun j hj => ?_⟩
    have h := hexS_getD l (j / 2) (by omega)
    have h2 := hb (j / 2) (by omega)
    rcases Nat.mod_two_eq_zero_or_one j with e | e
    · rw [show j = 2 * (j / 2) by omega, h.1]; exact (hexv_hexd (by omega)).2
    · rw [show j = 2 * (j / 2) + 1 by omega, h.2]; exact (hexv_hexd (by omega)).2
  obtain ⟨h1, h2⟩ := parse_good hg
  refine ⟨?_, h2⟩
  rw [h1]
  apply List.ext_getElem (by rw [nib_len, hl])
  intro j h3 h4
  have h := hexS_getD l j h4
  have h5 := hb j (by omega)
  simp only [nib, List.getElem_map, List.getElem_range, nibB]
  rw [if_pos (by omega), h.1, h.2, (hexv_hexd (by omega)).1, (hexv_hexd (by omega)).1]
  simp only [List.getD, List.getElem?_eq_getElem h4, Option.getD_some]
  omega

/-- The results lie in a block and in a slot. -/
theorem post_blk_tmp {P : Program} {w : World} {fn : Func} {R : Ending → World → Prop} {a : Act} {p u : Tmp} {ty : TypeId} (hr : fn.results = #[.cell p ty, .tmp u]) (hd0 : a.defers = []) (g : Nat) (t : TypeId) (cs : Array Value) (d : TypeDesc) (v : Value)
    (hp : a.tmps.getD p undef = .pointer (some ⟨g, 0, none⟩)) (hB : Blk w g t cs)
    (hu : P.underlying ty = some d) (hd : (match d with | .struct _ | .array _ _ => true | _ => false) = true) (hi : (P.info? ty).map (·.size) = some cs.size) (hv : a.tmps.getD u undef = v)
    (h : R (.returned (.tuple #[.agg cs, v])) w) : bodyPost P fn R .ret a w := by
  refine bodyPost_ret ?_ hd0 h
  rw [results_cell_tmp hr, hp]
  simp only [asAddr, Sem.run_pure, Result.andThen_ok, run_loadVar_row w g t ty cs (0, 0) d hB hu hd hi, hv]
end Go.Proofs.Ytkdkmnemmenikaa
