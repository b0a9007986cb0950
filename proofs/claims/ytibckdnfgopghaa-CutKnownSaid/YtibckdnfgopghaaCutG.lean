/- Layer 6: the walk of CutLocal; its plain law. -/
import Derived.Test.YtibckdnfgopghaaCutF
namespace Go.Proofs.Ytibckdnfgopghaa
open Go.RowKit

theorem rule5 {w : World} {g : Nat} {t : TypeId} {a b c d e : Value} (h : Blk w g t #[a, b, c, d, e]) : w.cell? ⟨g, 0, none⟩ = some a ∧ w.cell? ⟨g, 1, none⟩ = some b ∧ w.cell? ⟨g, 2, none⟩ = some c ∧ w.cell? ⟨g, 3, none⟩ = some d ∧ w.cell? ⟨g, 4, none⟩ = some e :=
  ⟨h.cell 0, h.cell 1, h.cell 2, h.cell 3, h.cell 4⟩
theorem fit_window (b rest : List Nat) (k j : Nat) (h : k ≤ b.length) : ((b ++ rest).take k).drop j = (b.take k).drop j := by
  rw [List.take_append_of_le_length h]
theorem scan_same (wd mask want : Nat) (b rest : List Nat) : ∀ f n, n + f ≤ b.length → scanS wd mask want (b ++ rest) f n = scanS wd mask want b f n := by
  intro f
  induction f with
  | zero => intro n _; rfl
  | succ f ih =>
    intro n h
    rw [scanS, scanS, fit_window b rest _ _ (by omega), ih (n + 1) (by omega)]
theorem scan_local (wd mask want : Nat) (b rest : List Nat) : ∀ f g n, n + f ≤ b.length → scanS wd mask want b f n = scanS wd mask want (b ++ rest) (f + g) n ∨ (scanS wd mask want b f n = n + f ∧ n + f ≤ scanS wd mask want (b ++ rest) (f + g) n) := by
  intro f g
  induction f with
  | zero =>
    intro n _
    have := scanS_bounds wd mask want (b ++ rest) (0 + g) n
    exact .inr ⟨rfl, by omega⟩
  | succ f ih =>
    intro n h
    rw [show f + 1 + g = (f + g) + 1 by omega, scanS, scanS, fit_window b rest _ _ (by omega)]
    split
    · exact .inl rfl
    · have := ih (n + 1) (by omega)
      omega
theorem next_local (mn mx wd mask want : Nat) (b rest : List Nat) (h1 : 1 ≤ mn) (h2 : mn ≤ mx) :
    nextS mn mx wd mask want b = nextS mn mx wd mask want (b ++ rest) ∨ (nextS mn mx wd mask want b = b.length ∧ b.length ≤ nextS mn mx wd mask want (b ++ rest)) := by
  have hb := nextS_bounds mn mx wd mask want (b ++ rest) h1 h2
  have ha : (b ++ rest).length = b.length + rest.length := List.length_append
  by_cases h : min mx b.length < mn
  · right
    have e : nextS mn mx wd mask want b = b.length := by unfold nextS; rw [if_pos h]; omega
    refine ⟨e, ?_⟩
    by_cases h' : min mx (b ++ rest).length < mn
    · have e' : nextS mn mx wd mask want (b ++ rest) = (b ++ rest).length := by unfold nextS; rw [if_pos h']; omega
      omega
    · have e' : nextS mn mx wd mask want (b ++ rest) = scanS wd mask want (b ++ rest) (min mx (b ++ rest).length + 1 - mn) (mn - 1) := by unfold nextS; rw [if_neg h']
      have := scanS_bounds wd mask want (b ++ rest) (min mx (b ++ rest).length + 1 - mn) (mn - 1)
      omega
  · have e : nextS mn mx wd mask want b = scanS wd mask want b (min mx b.length + 1 - mn) (mn - 1) := by unfold nextS; rw [if_neg h]
    have e' : nextS mn mx wd mask want (b ++ rest) = scanS wd mask want (b ++ rest) (min mx (b ++ rest).length + 1 - mn) (mn - 1) := by unfold nextS; rw [if_neg (by omega)]
    rw [e, e']
    by_cases hm : mx ≤ b.length
    · left
      rw [show min mx (b ++ rest).length = mx by omega, show min mx b.length = mx by omega]
      exact (scan_same wd mask want b rest _ _ (by omega)).symm
    · rcases scan_local wd mask want b rest (min mx b.length + 1 - mn) (min mx (b ++ rest).length - min mx b.length) (mn - 1) (by omega) with h3 | h3
      · left; rw [h3]; congr 1; omega
      · right
        rw [show min mx b.length + 1 - mn + (min mx (b ++ rest).length - min mx b.length) = min mx (b ++ rest).length + 1 - mn by omega] at h3
        omega

theorem lawLocal_any (mn mx wd : Int) (mask want : Nat) (A B : Option Addr) (n c m d : Nat) (b s : List Nat) (w : World) (hl : b.length = n) (hmc : n ≤ c) (hr : Rd w A (b.map bv)) (hA : A = none → n = 0) (hx : ∀ x ∈ b, x < 256) (hn : n ≤ maxLen)
    (hl2 : s.length = m) (hr2 : Rd w B (s.map bv)) (hB : B = none → m = 0) (hx2 : ∀ x ∈ s, x < 256) (hn2 : m ≤ maxLen) (hm : mask < 18446744073709551616) :
    Calls Try.prog 12 #[.agg #[.int .i64 mn, .int .i64 mx, .int .i64 wd, .int .u64 mask, .int .u64 want], .slice A n c, .slice B m d] w fun e w' => e = .returned (.bool true) ∧ Below w.heap.size w w' := by
  unfold maxLen at hn hn2
  by_cases hg : goodS mn mx wd = true
  · by_cases h3 : n ≤ 300
    · by_cases h4 : m ≤ 300
      · go_enter Try.func12, Try.ntmps12
        go_wp2_with fail
        refine (awake6_any _).mono ?_
        rintro e w1 ⟨rfl, hb1⟩
        have hR1 := (Blk.new w 37 #[.int .i64 mn, .int .i64 mx, .int .i64 wd, .int .u64 mask, .int .u64 want]).below hb1
        have hB1 := ((Below.refl w.heap.size w).alloc (Nat.le_refl _) (.cells #[.int .i64 mn, .int .i64 mx, .int .i64 wd, .int .u64 mask, .int .u64 want] 37)).trans (hb1.mono (by simp))
        clear hb1
        have q0 : w1.cell? ⟨w.heap.size, 0, none⟩ = some (.int .i64 mn) := hR1.cell 0
        have q1 : w1.cell? ⟨w.heap.size, 1, none⟩ = some (.int .i64 mx) := hR1.cell 1
        have q2 : w1.cell? ⟨w.heap.size, 2, none⟩ = some (.int .i64 wd) := hR1.cell 2
        have q3 : w1.cell? ⟨w.heap.size, 3, none⟩ = some (.int .u64 mask) := hR1.cell 3
        have q4 : w1.cell? ⟨w.heap.size, 4, none⟩ = some (.int .u64 want) := hR1.cell 4
        go_wp2_with fail
        refine (Good_any mn mx wd mask want _).mono ?_
        rintro e w2 ⟨rfl, hb2⟩
        rw [hg]
        have hB2 := hB1.trans (hb2.mono hB1.size)
        replace hR1 := hR1.below hb2
        clear q0 q1 q2 q3 q4 hB1 hb2
        have q0 : w2.cell? ⟨w.heap.size, 0, none⟩ = some (.int .i64 mn) := hR1.cell 0
        have q1 : w2.cell? ⟨w.heap.size, 1, none⟩ = some (.int .i64 mx) := hR1.cell 1
        have q2 : w2.cell? ⟨w.heap.size, 2, none⟩ = some (.int .i64 wd) := hR1.cell 2
        have q3 : w2.cell? ⟨w.heap.size, 3, none⟩ = some (.int .u64 mask) := hR1.cell 3
        have q4 : w2.cell? ⟨w.heap.size, 4, none⟩ = some (.int .u64 want) := hR1.cell 4
        go_wp2_with fail
        refine (Next_any mn mx wd mask want A n c b w2 hl (hr.below hB2) hA hx (by simp only [maxLen]; omega) hm).mono ?_
        rintro e w3 ⟨rfl, hb3⟩
        have hB3 := hB2.trans (hb3.mono hB2.size)
        replace hR1 := hR1.below hb3
        clear q0 q1 q2 q3 q4 hB2 hb3
        have q0 : w3.cell? ⟨w.heap.size, 0, none⟩ = some (.int .i64 mn) := hR1.cell 0
        have q1 : w3.cell? ⟨w.heap.size, 1, none⟩ = some (.int .i64 mx) := hR1.cell 1
        have q2 : w3.cell? ⟨w.heap.size, 2, none⟩ = some (.int .i64 wd) := hR1.cell 2
        have q3 : w3.cell? ⟨w.heap.size, 3, none⟩ = some (.int .u64 mask) := hR1.cell 3
        have q4 : w3.cell? ⟨w.heap.size, 4, none⟩ = some (.int .u64 want) := hR1.cell 4
        go_wp2_with fail
        go_region_held3 (fun w' => w'.cell? ⟨w.heap.size, 0, none⟩ = some (.int .i64 mn) ∧ w'.cell? ⟨w.heap.size, 1, none⟩ = some (.int .i64 mx) ∧ w'.cell? ⟨w.heap.size, 2, none⟩ = some (.int .i64 wd) ∧ w'.cell? ⟨w.heap.size, 3, none⟩ = some (.int .u64 mask) ∧ w'.cell? ⟨w.heap.size, 4, none⟩ = some (.int .u64 want)) (first | assumption | go_keep)
          (first
            | (rw [if_pos (by rfl)]
               refine wp_append_seg _ (.tmp 28) (.tmp 29) 22 rfl 5 (.int .u8 0) 1 1 Try.underlying22 info_u8 rfl (.slice (some ⟨w3.heap.size, 0, none⟩) 0 0) 0 [] [w3.heap.size] rfl (Seg.ofBlk (cap := 0) (Blk.new w3.drew _ #[]) rfl (by simp [maxLen])) A n c (b.map bv) rfl (by simp [hl]) (((hr.below hB3).drew).alloc _) hA (by simp [bv, Value.oneCell']) (by simp only [maxLen]; omega) (by omega) ?_
               intro v1 wA SA hsA hkA hSA
               rw [Nat.zero_add, List.nil_append] at hsA
               obtain ⟨A1, C1, rfl, _⟩ := hsA.form
               have hA1 : Below w3.heap.size w3 wA := ((((Keeps.refl [] w3).drew).alloc (.cells #[] 5)).trans' hkA (fun x hx => .inr (by simp at hx; omega))).below
               have hRA := rule5 (hR1.below hA1))
            | (rw [if_pos (by rfl)]
               refine wp_append_seg _ (.tmp 30) (.tmp 31) 22 rfl 5 (.int .u8 0) 1 1 Try.underlying22 info_u8 rfl (.slice A1 n C1) n (b.map bv) SA rfl hsA B m d (s.map bv) rfl (by simp [hl2]) (hr2.below (hB3.trans (hA1.mono hB3.size))) hB (by simp [bv, Value.oneCell']) (by simp only [maxLen]; omega) (by omega) ?_
               intro v2 wB SB hsB hkB hSB
               obtain ⟨A2, C2, rfl, hn2', _, hR2, _, hA2⟩ := hsB.form
               have hA3 : Below w3.heap.size w3 wB := by
                 have h1 : Keeps SA w3 wA := Keeps.of_below hA1
                 refine (h1.trans hkB).belowB (Nat.le_refl _) ?_
                 rcases hSA with rfl | rfl
                 · simp
                 · simp
               have hRB := rule5 (hR1.below hA3))
            | (go_at_call 28
               have hB4 := hB3.trans (hA3.mono hB3.size)
               rw [← List.map_append] at hR2
               refine (Next_any mn mx wd mask want A2 (n + m) C2 (b ++ s) wB (by simp [hl, hl2]) hR2 (fun e => (hA2 e).1) (fun x hx' => by rcases List.mem_append.1 hx' with h | h; exact hx x h; exact hx2 x h) (by simp only [maxLen]; omega) hm).mono ?_
               rintro e w5 ⟨rfl, hb5⟩
               have hB5 := hB4.trans (hb5.mono hB4.size)
               have hA5 := hA3.trans (hb5.mono hA3.size)
               have hRC := rule5 (hR1.below hA5)))
        obtain ⟨-, q1, -⟩ := hRC
        have hbd : nextR mn mx wd mask want b ≤ n ∧ (nextR mn mx wd mask want b : Int) ≤ mx ∧ (n = 0 ↔ nextR mn mx wd mask want b = 0) ∧ (nextR mn mx wd mask want b = nextR mn mx wd mask want (b ++ s) ∨ (nextR mn mx wd mask want b = n ∧ n ≤ nextR mn mx wd mask want (b ++ s))) := by
          obtain ⟨a, b', c', rfl, rfl, rfl⟩ := good_cast hg
          have ⟨g1, g2, g3, g4, g5⟩ := good_nat hg
          have e1 := nextS_bounds a b' c' mask want b (by omega) g4
          have e2 := next_local a b' c' mask want b s (by omega) g4
          unfold nextR
          rw [if_pos hg, if_pos hg]
          simp only [Int.toNat_natCast]
          omega
        have hM : nextR mn mx wd mask want (b ++ s) ≤ n + m := by
          obtain ⟨a, b', c', rfl, rfl, rfl⟩ := good_cast hg
          have ⟨g1, g2, g3, g4, g5⟩ := good_nat hg
          have e1 := nextS_bounds a b' c' mask want (b ++ s) (by omega) g4
          unfold nextR
          rw [if_pos hg]
          simp only [Int.toNat_natCast]
          rw [List.length_append] at e1
          omega
        obtain ⟨f1, f2, f3, f4⟩ := hbd
        generalize nextR mn mx wd mask want b = N at *
        generalize nextR mn mx wd mask want (b ++ s) = M at *
        clear hRA hRB hR2 hsA hsB hkA hkB hSA hSB q0 q2 q3 q4 hA5 hA3 hA1 hb5 hB3 hB4
        have k1 : (N : Int) ≤ (n : Int) := by omega
        have k0 : (0 : Int) ≤ (N : Int) := by omega
        by_cases e0 : n = 0
        · have e1 : N = 0 := f3.1 e0
          subst e1
          subst e0
          by_cases e2 : 0 = M
          · subst e2
            go_wp2
            go_ret
            exact ⟨rfl, hB5⟩
          · have e3 : ((0 : Int) == (M : Int)) = false := by simp; omega
            go_wp2
            go_ret
            exact ⟨rfl, hB5⟩
        · have e1 : ¬ N = 0 := fun h => e0 (f3.2 h)
          have e5 : ((n : Int) == 0) = false := by simp; omega
          have e6 : ((N : Int) == 0) = false := by simp; omega
          by_cases e2 : N = M
          · subst e2
            go_wp2
            go_ret
            exact ⟨rfl, hB5⟩
          · have e3 : ((N : Int) == (M : Int)) = false := by simp; omega
            obtain ⟨e7, e8⟩ : N = n ∧ n ≤ M := by omega
            subst e7
            go_wp2
            go_ret
            exact ⟨rfl, hB5⟩
      · go_enter Try.func12, Try.ntmps12
        go_wp2_with (first
          | (go_at_call 24; refine (awake6_any _).mono ?_; rintro e w1 ⟨rfl, hb1⟩; have hR1 := (Blk.new w 37 #[.int .i64 mn, .int .i64 mx, .int .i64 wd, .int .u64 mask, .int .u64 want]).below hb1; have hB1 := ((Below.refl w.heap.size w).alloc (Nat.le_refl _) (.cells #[.int .i64 mn, .int .i64 mx, .int .i64 wd, .int .u64 mask, .int .u64 want] 37)).trans (hb1.mono (by simp)); obtain ⟨q0, q1, q2, q3, q4⟩ := rule5 hR1)
          | (go_at_call 25; refine (Good_any mn mx wd mask want _).mono ?_; rintro e w2 ⟨rfl, hb2⟩; rw [hg]))
        go_ret
        exact ⟨rfl, hB1.trans (hb2.mono hB1.size)⟩
    · go_enter Try.func12, Try.ntmps12
      go_wp2_with (first
        | (go_at_call 24; refine (awake6_any _).mono ?_; rintro e w1 ⟨rfl, hb1⟩; have hR1 := (Blk.new w 37 #[.int .i64 mn, .int .i64 mx, .int .i64 wd, .int .u64 mask, .int .u64 want]).below hb1; have hB1 := ((Below.refl w.heap.size w).alloc (Nat.le_refl _) (.cells #[.int .i64 mn, .int .i64 mx, .int .i64 wd, .int .u64 mask, .int .u64 want] 37)).trans (hb1.mono (by simp)); obtain ⟨q0, q1, q2, q3, q4⟩ := rule5 hR1)
        | (go_at_call 25; refine (Good_any mn mx wd mask want _).mono ?_; rintro e w2 ⟨rfl, hb2⟩; rw [hg]))
      go_ret
      exact ⟨rfl, hB1.trans (hb2.mono hB1.size)⟩
  · have hg' : goodS mn mx wd = false := by simpa using hg
    go_enter Try.func12, Try.ntmps12
    go_wp2_with (first
      | (go_at_call 24; refine (awake6_any _).mono ?_; rintro e w1 ⟨rfl, hb1⟩; have hR1 := (Blk.new w 37 #[.int .i64 mn, .int .i64 mx, .int .i64 wd, .int .u64 mask, .int .u64 want]).below hb1; have hB1 := ((Below.refl w.heap.size w).alloc (Nat.le_refl _) (.cells #[.int .i64 mn, .int .i64 mx, .int .i64 wd, .int .u64 mask, .int .u64 want] 37)).trans (hb1.mono (by simp)); obtain ⟨q0, q1, q2, q3, q4⟩ := rule5 hR1)
      | (go_at_call 25; refine (Good_any mn mx wd mask want _).mono ?_; rintro e w2 ⟨rfl, hb2⟩; rw [hg']))
    go_ret
    exact ⟨rfl, hB1.trans (hb2.mono hB1.size)⟩
end Go.Proofs.Ytibckdnfgopghaa
