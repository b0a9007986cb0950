/- Plain laws of rolling sums: of no program's text but the plain functions. -/
import Derived.Test.YtibckdnfgopghaaRollC
namespace Go.Proofs.Ytibckdnfgopghaa

def valS (l : List Nat) : Nat := l.foldl (fun s c => s * 257 + c + 1) 0
theorem onS_mod (s c : Nat) : onS (s % 2305843009213693951) c = (s * 257 + c + 1) % 2305843009213693951 := by
  unfold onS; omega
theorem fold_mod (l : List Nat) : ∀ s, l.foldl onS (s % 2305843009213693951) = l.foldl (fun s c => s * 257 + c + 1) s % 2305843009213693951 := by
  induction l with
  | nil => exact fun s => rfl
  | cons c t ih => intro s; simp only [List.foldl_cons]; rw [onS_mod, ih]
theorem ofS_val (l : List Nat) : ofS l = valS l % 2305843009213693951 := fold_mod l 0
theorem fold_from (l : List Nat) : ∀ s, l.foldl (fun s c => s * 257 + c + 1) s = s * 257 ^ l.length + valS l := by
  induction l with
  | nil => intro s; simp [valS]
  | cons c t ih =>
    intro s
    have h1 := ih (s * 257 + c + 1)
    have h2 := ih (0 * 257 + c + 1)
    simp only [List.foldl_cons, valS] at h1 h2 ⊢
    rw [h1, h2, List.length_cons, Nat.pow_succ]
    have e : s * (257 ^ t.length * 257) = s * 257 * 257 ^ t.length := by rw [Nat.mul_comm (257 ^ t.length), Nat.mul_assoc]
    rw [e, Nat.add_mul, Nat.add_mul, Nat.add_mul, Nat.add_mul]
    omega
theorem valS_cons (c : Nat) (t : List Nat) : valS (c :: t) = (c + 1) * 257 ^ t.length + valS t := by
  have := fold_from t (0 * 257 + c + 1)
  simpa [valS] using this
theorem powS_val : ∀ n, powS n = 257 ^ n % 2305843009213693951
  | 0 => rfl
  | n + 1 => by
    rw [powS, powS_val n, Nat.pow_succ]
    generalize 257 ^ n = x
    omega
theorem without_cons (o : Nat) (t : List Nat) : withoutS (ofS (o :: t)) o (t.length + 1) = ofS t := by
  unfold withoutS
  rw [ofS_val, ofS_val, valS_cons, Nat.add_sub_cancel, powS_val, Nat.mul_mod (o + 1) (257 ^ t.length % 2305843009213693951), Nat.mod_mod, ← Nat.mul_mod]
  generalize (o + 1) * 257 ^ t.length = x
  generalize valS t = v
  omega
theorem ofS_snoc (l : List Nat) (c : Nat) : ofS (l ++ [c]) = onS (ofS l) c := by unfold ofS; rw [List.foldl_append]; rfl
theorem add_mod_inj (x y k : Nat) (hx : x < 2305843009213693951) (hy : y < 2305843009213693951) (h : (x + k) % 2305843009213693951 = (y + k) % 2305843009213693951) : x = y := by omega
theorem onS_inj {s s' c : Nat} (h : s < 2305843009213693951) (h' : s' < 2305843009213693951) (e : onS s c = onS s' c) : s = s' := by
  unfold onS at e
  have e2 : s * 257 % 2305843009213693951 = s' * 257 % 2305843009213693951 := by
    exact add_mod_inj _ _ (c + 1) (Nat.mod_lt _ (by omega)) (Nat.mod_lt _ (by omega)) e
  have inv : ∀ x, x < 2305843009213693951 → x * 257 % 2305843009213693951 * 1327878464449909357 % 2305843009213693951 = x := by
    intro x hx
    rw [Nat.mod_mul_mod, Nat.mul_assoc, show 257 * 1327878464449909357 = 2305843009213693951 * 148 + 1 from rfl, Nat.mul_add, ← Nat.mul_assoc, Nat.mul_comm x, Nat.mul_assoc, Nat.mul_add_mod, Nat.mul_one, Nat.mod_eq_of_lt hx]
  rw [← inv s h, ← inv s' h', e2]
theorem onS_inj' {s c c' : Nat} (h : c < 256) (h' : c' < 256) (e : onS s c = onS s c') : c = c' := by
  unfold onS at e; omega
theorem fold_inj (l : List Nat) : ∀ {s s' : Nat}, s < 2305843009213693951 → s' < 2305843009213693951 → l.foldl onS s = l.foldl onS s' → s = s' := by
  induction l with
  | nil => exact fun _ _ h => h
  | cons c t ih => exact fun h h' e => onS_inj h h' (ih (onS_lt _ _) (onS_lt _ _) e)

/-- One byte unlike: sums unlike. -/
theorem apart (l : List Nat) (k : Nat) (hk : k < l.length) (c : Nat) (hl : l[k] < 256) (hc : c < 256) : ofS l = ofS (l.set k c) ↔ l[k] = c := by
  constructor
  · intro e
    unfold ofS at e
    rw [List.set_eq_take_append_cons_drop, if_pos hk] at e
    have hl2 : l = l.take k ++ l[k] :: l.drop (k + 1) := by rw [List.getElem_cons_drop, List.take_append_drop]
    rw [hl2] at e
    have hs : (List.take k (List.take k l ++ l[k] :: List.drop (k + 1) l)) = l.take k := by rw [← hl2]
    have hd : (List.drop (k + 1) (List.take k l ++ l[k] :: List.drop (k + 1) l)) = l.drop (k + 1) := by rw [← hl2]
    rw [hs, hd, List.foldl_append, List.foldl_append] at e
    simp only [List.foldl_cons] at e
    exact onS_inj' hl hc (fold_inj _ (onS_lt _ _) (onS_lt _ _) e)
  · rintro rfl
    rw [List.set_getElem_self]

/-- The window's list and sum behind n bytes: the last bytes. -/
def lastL (W n : Nat) (b : List Nat) : List Nat := (b.take n).drop (n - W)
theorem stepL_last (W n : Nat) (b : List Nat) (hn : n < b.length) (hW : 1 ≤ W) : stepL W (lastL W n b) b[n] = lastL W (n + 1) b := by
  unfold stepL lastL
  have hlen : ((b.take n).drop (n - W)).length = n - (n - W) := by rw [List.length_drop, List.length_take]; omega
  rw [hlen, List.take_succ_eq_append_getElem hn]
  by_cases h : n - (n - W) = W
  · rw [if_pos h, ← List.drop_one, List.drop_drop, List.drop_append_of_le_length (by rw [List.length_take]; omega)]
    congr 2
    omega
  · rw [if_neg h, List.drop_append_of_le_length (by rw [List.length_take]; omega)]
    congr 2
    omega
theorem stepS_last (W n : Nat) (b : List Nat) (hn : n < b.length) (hW : 1 ≤ W) : stepS W (lastL W n b) (ofS (lastL W n b)) b[n] = ofS (lastL W (n + 1) b) := by
  rw [← stepL_last W n b hn hW]
  unfold stepS stepL
  by_cases h : (lastL W n b).length = W
  · rw [if_pos h, if_pos h, ofS_snoc]
    cases hb : lastL W n b with
    | nil => rw [hb] at h; simp at h; omega
    | cons o t =>
      rw [hb] at h
      obtain rfl : W = t.length + 1 := by simpa using h.symm
      simp only [List.headD_cons, List.tail_cons]
      rw [without_cons]
  · rw [if_neg h, if_neg h, ofS_snoc]
theorem lastL_len (W n : Nat) (b : List Nat) (hn : n ≤ b.length) : (lastL W n b).length = n - (n - W) := by
  unfold lastL; rw [List.length_drop, List.length_take]; omega
end Go.Proofs.Ytibckdnfgopghaa
