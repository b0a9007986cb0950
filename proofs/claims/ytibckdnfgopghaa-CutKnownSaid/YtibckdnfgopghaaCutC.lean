/- Walks of package cut: Parts. -/
import Derived.Test.YtibckdnfgopghaaCutB
namespace Go.Proofs.Ytibckdnfgopghaa
open Go.RowKit

/-- Piece i, of the ends E. -/
def pieceS (b E : List Nat) (i : Nat) : List Nat := (b.take (E.getD i 0)).drop ((0 :: E).getD i 0)
def partsS (b E : List Nat) : List (List Nat) := (List.range E.length).map (pieceS b E)

theorem ends_bounds (f : List Nat → Nat) (hf : ∀ b : List Nat, b.length ≠ 0 → 1 ≤ f b ∧ f b ≤ b.length) : ∀ (n s : Nat) (b : List Nat), b.length ≤ n → ∀ i, i < (ends f s b).length → (s :: ends f s b).getD i 0 < (ends f s b).getD i 0 ∧ (ends f s b).getD i 0 ≤ s + b.length := by
  intro n s b h
  refine ends_ind f hf (fun s b E => ∀ i, i < E.length → (s :: E).getD i 0 < E.getD i 0 ∧ E.getD i 0 ≤ s + b.length) ?_ ?_ n s b h
  · intro s i hi; simp at hi
  · intro s b hb ih i hi
    have hfb := hf b hb
    cases i with
    | zero => simp; omega
    | succ i =>
      have := ih i (by simpa using hi)
      rw [List.length_drop] at this
      simp only [List.getD_cons_succ]
      omega
theorem endsR_bounds (mn mx wd : Int) (mask want : Nat) (b : List Nat) : ∀ i, i < (endsR mn mx wd mask want b).length → (0 :: endsR mn mx wd mask want b).getD i 0 < (endsR mn mx wd mask want b).getD i 0 ∧ (endsR mn mx wd mask want b).getD i 0 ≤ b.length := by
  intro i hi
  unfold endsR at hi ⊢
  split at hi
  · rename_i hg
    rw [if_pos hg]
    have := ends_bounds _ (nextR_f mask want hg) b.length 0 b (Nat.le_refl _) i hi
    omega
  · simp at hi

theorem ends_index {E : List Nat} {n : Nat} (h : ∀ i, i < E.length → (0 :: E).getD i 0 < E.getD i 0 ∧ E.getD i 0 ≤ n) : ∀ i, i ≤ E.length → i ≤ (0 :: E).getD i 0 := by
  intro i
  induction i with
  | zero => simp
  | succ i ih =>
    intro hi
    have h1 := ih (by omega)
    have h2 := h i (by omega)
    rw [List.getD_cons_succ]
    omega
theorem info_bytes : (Try.prog.info? 22).map (fun i => (i.zero, i.size, i.bytes)) = some (some (.slice none 0 0), 1, 24) := by kernel_rfl
/-- Slices that read lists of bytes; none lies in a block of S. -/
def Pcs (w : World) (S : List Nat) (vs : List Value) (ps : List (List Nat)) : Prop :=
  vs.length = ps.length ∧ ∀ (i : Nat) (p : List Nat), ps[i]? = some p → ∃ (A : Option Addr) (c : Nat), vs[i]? = some (Value.slice A p.length c) ∧ p.length ≤ c ∧ c ≤ maxLen ∧ Rd w A (p.map bv) ∧ (∀ ad, A = some ad → ad.block ∉ S ∧ ad.block < w.heap.size) ∧ (A = none → p.length = 0)
theorem Pcs.keeps {w w' : World} {S S' S2 : List Nat} {vs : List Value} {ps : List (List Nat)} (h : Pcs w S vs ps) (k : Keeps S2 w w') (h2 : ∀ x ∈ S2, x ∈ S ∨ w.heap.size ≤ x) (hS : ∀ x ∈ S', x ∈ S ∨ w.heap.size ≤ x) : Pcs w' S' vs ps := by
  refine ⟨h.1, fun i p hp => ?_⟩
  obtain ⟨A, c, h3, h4, h5, h6, h7, h8⟩ := h.2 i p hp
  refine ⟨A, c, h3, h4, h5, h6.keeps k ?_, ?_, h8⟩
  · intro ad e hm
    have := h7 ad e
    rcases h2 _ hm with h9 | h9
    · exact this.1 h9
    · omega
  · intro ad e
    have := h7 ad e
    refine ⟨fun hm => ?_, Nat.lt_of_lt_of_le this.2 k.size⟩
    rcases hS _ hm with h9 | h9
    · exact this.1 h9
    · omega

theorem Pcs.nil (w : World) (S : List Nat) : Pcs w S [] [] := ⟨rfl, by simp⟩
theorem Pcs.snoc {w : World} {S : List Nat} {vs : List Value} {ps : List (List Nat)} (h : Pcs w S vs ps) {A : Option Addr} {c : Nat} {p : List Nat} (h4 : p.length ≤ c) (h5 : c ≤ maxLen) (h6 : Rd w A (p.map bv)) (h7 : ∀ ad, A = some ad → ad.block ∉ S ∧ ad.block < w.heap.size) (h8 : A = none → p.length = 0) : Pcs w S (vs ++ [.slice A p.length c]) (ps ++ [p]) := by
  refine ⟨by simp [h.1], fun i q hq => ?_⟩
  rw [List.getElem?_append] at hq ⊢
  by_cases hi : i < ps.length
  · rw [if_pos hi] at hq
    rw [if_pos (by rw [h.1]; exact hi)]
    exact h.2 i q hq
  · rw [if_neg hi] at hq
    rw [if_neg (by rw [h.1]; exact hi), h.1]
    have hi0 : i - ps.length = 0 := by
      have := (List.getElem?_eq_some_iff.1 hq).1
      simpa using this
    rw [hi0] at hq ⊢
    simp only [List.getElem?_cons_zero, Option.some.injEq] at hq
    subst hq
    exact ⟨A, c, by simp, h4, h5, h6, h7, h8⟩

theorem Parts_any (mn mx wd : Int) (mask want : Nat) (A : Option Addr) (n cap : Nat) (b : List Nat) (w : World) (hl : b.length = n) (hmc : n ≤ cap) (hr : Rd w A (b.map bv)) (hA : A = none → n = 0) (hx : ∀ x ∈ b, x < 256) (hn : n ≤ 4000)
    (hm : mask < 18446744073709551616) :
    Calls Try.prog 27 #[.agg #[.int .i64 mn, .int .i64 mx, .int .i64 wd, .int .u64 mask, .int .u64 want], .slice A n cap] w fun e w' => ∃ v S vs, e = .returned v ∧ Seg w' 22 1 v (endsR mn mx wd mask want b).length vs S ∧ Pcs w' S vs (partsS b (endsR mn mx wd mask want b)) ∧ (∀ x ∈ S, w.heap.size ≤ x) ∧ Below w.heap.size w w' := by
  have hbd := endsR_bounds mn mx wd mask want b
  generalize hEE : endsR mn mx wd mask want b = E at *
  go_enter Try.func27, Try.ntmps27
  go_wp2_with fail
  refine (Ends_any _ _ _ _ _ _ _ _ b _ hl hmc (hr.alloc _) hA hx hn hm).mono ?_
  rintro e w1 ⟨v, S, rfl, hE, hS, hB⟩
  rw [hEE] at hE
  obtain ⟨eA, eC, rfl, he1, he2, heR, heB, _⟩ := hE.form
  have hB1 := ((Below.refl w.heap.size w).alloc (Nat.le_refl _) (.cells #[.int .i64 mn, .int .i64 mx, .int .i64 wd, .int .u64 mask, .int .u64 want] 37)).trans (hB.mono (by simp))
  have hS1 : ∀ x ∈ S, w.heap.size ≤ x := by intro x hx; have := hS x hx; simp at this; omega
  clear hS hB
  have hix := ends_index hbd
  go_wp2_with fail
  go_loopw [5, 6, 13] (fun o f j wr => ∃ (i : Nat) (S2 : List Nat) (vs : List Value), i ≤ E.length ∧ j = .int .i64 i ∧ f = .int .i64 ((0 :: E).getD i 0 : Nat) ∧ Seg wr 22 1 o i vs S2 ∧ Pcs wr S2 vs ((List.range i).map (pieceS b E)) ∧ (∀ x ∈ S2, w1.heap.size ≤ x) ∧ Below w1.heap.size w1 wr) (fun _ _ j _ => E.length - (intOf j).toNat)
  case atStart => exact ⟨0, [], [], Nat.zero_le _, rfl, rfl, Seg.nil _ _ _, Pcs.nil _ _, by simp, Below.refl _ _⟩
  case round =>
    obtain ⟨i, S2, vs, hi, rfl, rfl, hO, hP, hS2, hB2⟩ := hrel
    obtain ⟨oA, oC, rfl, hOf⟩ := hO.form
    by_cases hlt : i < E.length
    · obtain ⟨h1, h2⟩ := hbd i hlt
      have h3 := hix i hi
      have hB3 := hB1.trans (hB2.mono hB1.size)
      obtain ⟨ea, rfl, hc⟩ := (heR.below hB2).at_ (j := i) (by simpa using hlt)
      have hcell : wr.cell? (ea.add i) = some (.int .i64 (E.getD i 0 : Nat)) := by rw [hc]; simp [iv, List.getD, List.getElem?_eq_getElem hlt]
      obtain ⟨ad, rfl⟩ : ∃ ad, A = some ad := by
        cases A with
        | none => exact absurd (hA rfl) (by omega)
        | some ad => exact ⟨ad, rfl⟩
      have hpl : (pieceS b E i).length = E.getD i 0 - (0 :: E).getD i 0 := by unfold pieceS; rw [List.length_drop, List.length_take]; omega
      have hr2 : Rd wr (some (ad.add ((0 :: E).getD i 0))) ((pieceS b E i).map bv) := by
        have := (((hr.below hB3).take (E.getD i 0)).dropAt ((0 :: E).getD i 0))
        rw [← List.map_take, ← List.map_drop] at this
        exact this
      have hnext : (0 :: E).getD (i + 1) 0 = E.getD i 0 := List.getD_cons_succ
      generalize (0 :: E).getD i 0 = x at *
      generalize E.getD i 0 = y at *
      generalize HPI : pieceS b E i = p at *
      clear hc
      go_wp2_with fail
      refine (Clone_any (ad.add x) (y - x) (cap - x) p wr hpl hr2 (by omega)).mono ?_
      rintro e w2 ⟨v, S3, rfl, hC, hS3, hB4⟩
      obtain ⟨cA, cC, rfl, hc1, hc2, hc3, hc4, hc5⟩ := hC.form
      have hO2 := hO.below hB4
      have hlt3 := hC.lt
      have hlt2 := hO.lt
      have hsz := hB2.size
      have hPn : Pcs w2 S2 (vs ++ [.slice cA p.length cC]) ((List.range i).map (pieceS b E) ++ [p]) := by
        refine (hP.keeps (S' := S2) (Keeps.of_below (S := []) hB4) (by simp) (fun x hx => .inl hx)).snoc (by omega) hc2 hc3 ?_ ?_
        · intro ad e
          have := hc4 ad e
          refine ⟨fun hm => ?_, hlt3 _ this⟩
          have := hS3 _ this
          have := hlt2 _ hm
          omega
        · intro e
          have := hc5 e
          omega
      rw [hpl] at hPn
      go_wp2_with (at_builtin; refine wpList_append_seg _ rfl (.tmp 17) (.tmp 23) 42 rfl 22 (.slice none 0 0) 1 24 Try.underlying42 info_bytes rfl (.slice oA i oC) i vs S2 rfl (hO2.alloc _) (some ⟨w2.heap.size, 0, none⟩) 1 1 [.slice cA (y - x) cC] rfl rfl (Rd.of_blk0 (Blk.new _ _ #[.slice cA (y - x) cC])) (by simp) (by simp [Value.oneCell']) (by simp only [maxLen]; omega) (by omega) ?_)
      intro v' w3 S' hseg hK hSS
      have hKp : Keeps S2 w2 w3 := ((Keeps.refl S2 w2).alloc (.cells #[.slice cA (y - x) cC] 22)).trans hK
      have hPf := hPn.keeps (S' := S') hKp (fun x hx => .inl hx) (by
        rcases hSS with rfl | rfl
        · exact fun x hx => .inl hx
        · intro x hx; simp at hx; omega)
      have hB6 : Below w1.heap.size w1 w3 := by
        have h1 : Keeps S2 w1 w2 := Keeps.of_below (hB2.trans (hB4.mono hB2.size))
        exact (h1.trans hKp).belowB (Nat.le_refl _) hS2
      have hsz2 := hB4.size
      have hS' : ∀ x ∈ S', w1.heap.size ≤ x := by
        rcases hSS with rfl | rfl
        · exact hS2
        · intro x hx; simp at hx; omega
      obtain ⟨A', C', rfl, _⟩ := hseg.form
      go_wp2_with fail
      go_roundw
      case rel =>
        refine ⟨i + 1, S', _, by omega, by go_num, by rw [hnext], hseg, ?_, hS', hB6⟩
        rw [List.range_succ, List.map_append, List.map_singleton, HPI]
        exact hPf
      case measure => simp [intOf]; omega
    · obtain rfl : i = E.length := by omega
      go_wp2_with fail
      go_ret
      refine ⟨_, S2, vs, rfl, hO, hP, ?_, hB1.trans (hB2.mono hB1.size)⟩
      intro x hx
      have := hS2 x hx
      have := hB1.size
      omega
end Go.Proofs.Ytibckdnfgopghaa
