/- Layer 6: the walk of CutKnown. -/
import Derived.Test.YtibckdnfgopghaaCutK
import Derived.Test.YtibckdnfgopghaaTyR
namespace Go.Proofs.Ytibckdnfgopghaa
open Go.RowKit

def abcS : List Nat := [97, 98, 99, 100, 101, 102, 103, 104]
def abcL : List Nat := [97, 98, 99, 100, 101, 102, 103, 104, 105, 106, 107, 108]

set_option maxHeartbeats 1600000 in
set_option maxRecDepth 100000 in
theorem lawCutKnown_any (w : World) :
    Calls Try.prog 8 #[] w fun e w' => e = .returned (.bool true) ∧ Below w.heap.size w w' := by
  have kc := fun (w : World) (C : Array Value) (n c : Nat) => Lib.run_convert_bytes_const (P := Try.prog) w 22 5 C n c Try.underlying22 Try.underlying5
  go_enter Try.func8, Try.ntmps8
  go_wp2_with fail
  refine (awake6_any _).mono ?_
  rintro e w1 ⟨rfl, hb1⟩
  go_wp2_with fail
  have hbk := Blk.new w1 37 #[.int .i64 0, .int .i64 0, .int .i64 0, .int .u64 0, .int .u64 0, .int .i64 4, .int .i64 8, .int .i64 5, .int .u64 0, .int .u64 0, .int .i64 8, .int .i64 4, .int .i64 4, .int .u64 0, .int .u64 0, .int .i64 70, .int .i64 99, .int .i64 65, .int .u64 0, .int .u64 0, .int .i64 4, .int .i64 65537, .int .i64 4, .int .u64 0, .int .u64 0]
  have hB2 : Below w.heap.size w (w1.alloc (.cells #[.int .i64 0, .int .i64 0, .int .i64 0, .int .u64 0, .int .u64 0, .int .i64 4, .int .i64 8, .int .i64 5, .int .u64 0, .int .u64 0, .int .i64 8, .int .i64 4, .int .i64 4, .int .u64 0, .int .u64 0, .int .i64 70, .int .i64 99, .int .i64 65, .int .u64 0, .int .u64 0, .int .i64 4, .int .i64 65537, .int .i64 4, .int .u64 0, .int .u64 0] 37)) := hb1.alloc hb1.size _
  generalize w1.alloc (.cells #[.int .i64 0, .int .i64 0, .int .i64 0, .int .u64 0, .int .u64 0, .int .i64 4, .int .i64 8, .int .i64 5, .int .u64 0, .int .u64 0, .int .i64 8, .int .i64 4, .int .i64 4, .int .u64 0, .int .u64 0, .int .i64 70, .int .i64 99, .int .i64 65, .int .u64 0, .int .u64 0, .int .i64 4, .int .i64 65537, .int .i64 4, .int .u64 0, .int .u64 0] 37) = w2 at *
  go_loopw [2] (fun v wr => ∃ k : Nat, k ≤ 5 ∧ v = .int .i64 k ∧ Below w2.heap.size w2 wr) (fun v _ => 5 - (intOf v).toNat)
  case atStart => exact ⟨0, by omega, rfl, Below.refl _ _⟩
  case round =>
    obtain ⟨k, hk, rfl, hBr⟩ := hrel
    have hbr := hbk.below hBr
    by_cases hlt : k < 5
    · have hk5 : k = 0 ∨ k = 1 ∨ k = 2 ∨ k = 3 ∨ k = 4 := by omega
      rcases hk5 with rfl | rfl | rfl | rfl | rfl
      · have hg : goodS 0 0 0 = false := by decide
        have hE : endsR 0 0 0 0 0 abcS = [] := by unfold endsR; rw [hg]; rfl
        have hN : nextR 0 0 0 0 0 abcS = 0 := by unfold nextR; rw [hg]; rfl
        have q0 : wr.cell? ⟨w1.heap.size, 0, none⟩ = some (.int .i64 0) := hbr.cell 0
        have q1 : wr.cell? ⟨w1.heap.size, 1, none⟩ = some (.int .i64 0) := hbr.cell 1
        have q2 : wr.cell? ⟨w1.heap.size, 2, none⟩ = some (.int .i64 0) := hbr.cell 2
        have q3 : wr.cell? ⟨w1.heap.size, 3, none⟩ = some (.int .u64 0) := hbr.cell 3
        have q4 : wr.cell? ⟨w1.heap.size, 4, none⟩ = some (.int .u64 0) := hbr.cell 4
        go_wp2_with fail
        refine (Good_any 0 0 0 0 0 _).mono ?_
        rintro e w3 ⟨rfl, h3⟩
        rw [hg]
        have hb3 := hbr.below h3
        have hB3 := hBr.trans (h3.mono hBr.size)
        clear q0 q1 q2 q3 q4 h3
        have q0 : w3.cell? ⟨w1.heap.size, 0, none⟩ = some (.int .i64 0) := hb3.cell 0
        have q1 : w3.cell? ⟨w1.heap.size, 1, none⟩ = some (.int .i64 0) := hb3.cell 1
        have q2 : w3.cell? ⟨w1.heap.size, 2, none⟩ = some (.int .i64 0) := hb3.cell 2
        have q3 : w3.cell? ⟨w1.heap.size, 3, none⟩ = some (.int .u64 0) := hb3.cell 3
        have q4 : w3.cell? ⟨w1.heap.size, 4, none⟩ = some (.int .u64 0) := hb3.cell 4
        go_wp2_with fail
        refine (Ends_any 0 0 0 0 0 _ 8 8 abcS _ rfl (by omega) (Rd.newF _ _ _ _ _ rfl) (by simp) (by decide) (by omega) (by omega)).mono ?_
        rintro e w4 ⟨v, S, rfl, hs, -, h4⟩
        rw [hE] at hs
        obtain ⟨A, C, rfl, -⟩ := hs.form
        have h4' : Below w3.heap.size w3 w4 := ((Below.refl w3.heap.size w3).alloc (Nat.le_refl _) (.cells #[.int .u8 97, .int .u8 98, .int .u8 99, .int .u8 100, .int .u8 101, .int .u8 102, .int .u8 103, .int .u8 104] 5 (8, 9))).trans (h4.mono (by simp))
        have hb4 := hb3.below h4'
        have hB4 := hB3.trans (h4'.mono hB3.size)
        clear q0 q1 q2 q3 q4 h4 h4' hs
        have q0 : w4.cell? ⟨w1.heap.size, 0, none⟩ = some (.int .i64 0) := hb4.cell 0
        have q1 : w4.cell? ⟨w1.heap.size, 1, none⟩ = some (.int .i64 0) := hb4.cell 1
        have q2 : w4.cell? ⟨w1.heap.size, 2, none⟩ = some (.int .i64 0) := hb4.cell 2
        have q3 : w4.cell? ⟨w1.heap.size, 3, none⟩ = some (.int .u64 0) := hb4.cell 3
        have q4 : w4.cell? ⟨w1.heap.size, 4, none⟩ = some (.int .u64 0) := hb4.cell 4
        go_wp2_with fail
        refine (Parts_any 0 0 0 0 0 _ 8 8 abcS _ rfl (by omega) (Rd.newF _ _ _ _ _ rfl) (by simp) (by decide) (by omega) (by omega)).mono ?_
        rintro e w5 ⟨v, S2, vs, rfl, hs, -, -, h5⟩
        rw [hE] at hs
        obtain ⟨A2, C2, rfl, -⟩ := hs.form
        have h5' : Below w4.heap.size w4 w5 := ((Below.refl w4.heap.size w4).alloc (Nat.le_refl _) (.cells #[.int .u8 97, .int .u8 98, .int .u8 99, .int .u8 100, .int .u8 101, .int .u8 102, .int .u8 103, .int .u8 104] 5 (8, 9))).trans (h5.mono (by simp))
        have hb5 := hb4.below h5'
        have hB5 := hB4.trans (h5'.mono hB4.size)
        clear q0 q1 q2 q3 q4 h5 h5' hs
        have q0 : w5.cell? ⟨w1.heap.size, 0, none⟩ = some (.int .i64 0) := hb5.cell 0
        have q1 : w5.cell? ⟨w1.heap.size, 1, none⟩ = some (.int .i64 0) := hb5.cell 1
        have q2 : w5.cell? ⟨w1.heap.size, 2, none⟩ = some (.int .i64 0) := hb5.cell 2
        have q3 : w5.cell? ⟨w1.heap.size, 3, none⟩ = some (.int .u64 0) := hb5.cell 3
        have q4 : w5.cell? ⟨w1.heap.size, 4, none⟩ = some (.int .u64 0) := hb5.cell 4
        go_wp2_with fail
        refine (Next_any 0 0 0 0 0 _ 8 8 abcS _ rfl (Rd.newF _ _ _ _ _ rfl) (by simp) (by decide) (by simp [maxLen]) (by omega)).mono ?_
        rintro e w6 ⟨rfl, h6⟩
        rw [hN]
        have h6' : Below w5.heap.size w5 w6 := ((Below.refl w5.heap.size w5).alloc (Nat.le_refl _) (.cells #[.int .u8 97, .int .u8 98, .int .u8 99, .int .u8 100, .int .u8 101, .int .u8 102, .int .u8 103, .int .u8 104] 5 (8, 9))).trans (h6.mono (by simp))
        have hB6 := hB5.trans (h6'.mono hB5.size)
        clear q0 q1 q2 q3 q4 h6 h6'
        go_wp2_with fail
        go_roundw
        case rel => exact ⟨1, by omega, rfl, hB6⟩
        case measure => simp [intOf]
      · have hg : goodS 4 8 5 = false := by decide
        have hE : endsR 4 8 5 0 0 abcS = [] := by unfold endsR; rw [hg]; rfl
        have hN : nextR 4 8 5 0 0 abcS = 0 := by unfold nextR; rw [hg]; rfl
        have q0 : wr.cell? ⟨w1.heap.size, 5, none⟩ = some (.int .i64 4) := hbr.cell 5
        have q1 : wr.cell? ⟨w1.heap.size, 6, none⟩ = some (.int .i64 8) := hbr.cell 6
        have q2 : wr.cell? ⟨w1.heap.size, 7, none⟩ = some (.int .i64 5) := hbr.cell 7
        have q3 : wr.cell? ⟨w1.heap.size, 8, none⟩ = some (.int .u64 0) := hbr.cell 8
        have q4 : wr.cell? ⟨w1.heap.size, 9, none⟩ = some (.int .u64 0) := hbr.cell 9
        go_wp2_with fail
        refine (Good_any 4 8 5 0 0 _).mono ?_
        rintro e w3 ⟨rfl, h3⟩
        rw [hg]
        have hb3 := hbr.below h3
        have hB3 := hBr.trans (h3.mono hBr.size)
        clear q0 q1 q2 q3 q4 h3
        have q0 : w3.cell? ⟨w1.heap.size, 5, none⟩ = some (.int .i64 4) := hb3.cell 5
        have q1 : w3.cell? ⟨w1.heap.size, 6, none⟩ = some (.int .i64 8) := hb3.cell 6
        have q2 : w3.cell? ⟨w1.heap.size, 7, none⟩ = some (.int .i64 5) := hb3.cell 7
        have q3 : w3.cell? ⟨w1.heap.size, 8, none⟩ = some (.int .u64 0) := hb3.cell 8
        have q4 : w3.cell? ⟨w1.heap.size, 9, none⟩ = some (.int .u64 0) := hb3.cell 9
        go_wp2_with fail
        refine (Ends_any 4 8 5 0 0 _ 8 8 abcS _ rfl (by omega) (Rd.newF _ _ _ _ _ rfl) (by simp) (by decide) (by omega) (by omega)).mono ?_
        rintro e w4 ⟨v, S, rfl, hs, -, h4⟩
        rw [hE] at hs
        obtain ⟨A, C, rfl, -⟩ := hs.form
        have h4' : Below w3.heap.size w3 w4 := ((Below.refl w3.heap.size w3).alloc (Nat.le_refl _) (.cells #[.int .u8 97, .int .u8 98, .int .u8 99, .int .u8 100, .int .u8 101, .int .u8 102, .int .u8 103, .int .u8 104] 5 (8, 9))).trans (h4.mono (by simp))
        have hb4 := hb3.below h4'
        have hB4 := hB3.trans (h4'.mono hB3.size)
        clear q0 q1 q2 q3 q4 h4 h4' hs
        have q0 : w4.cell? ⟨w1.heap.size, 5, none⟩ = some (.int .i64 4) := hb4.cell 5
        have q1 : w4.cell? ⟨w1.heap.size, 6, none⟩ = some (.int .i64 8) := hb4.cell 6
        have q2 : w4.cell? ⟨w1.heap.size, 7, none⟩ = some (.int .i64 5) := hb4.cell 7
        have q3 : w4.cell? ⟨w1.heap.size, 8, none⟩ = some (.int .u64 0) := hb4.cell 8
        have q4 : w4.cell? ⟨w1.heap.size, 9, none⟩ = some (.int .u64 0) := hb4.cell 9
        go_wp2_with fail
        refine (Parts_any 4 8 5 0 0 _ 8 8 abcS _ rfl (by omega) (Rd.newF _ _ _ _ _ rfl) (by simp) (by decide) (by omega) (by omega)).mono ?_
        rintro e w5 ⟨v, S2, vs, rfl, hs, -, -, h5⟩
        rw [hE] at hs
        obtain ⟨A2, C2, rfl, -⟩ := hs.form
        have h5' : Below w4.heap.size w4 w5 := ((Below.refl w4.heap.size w4).alloc (Nat.le_refl _) (.cells #[.int .u8 97, .int .u8 98, .int .u8 99, .int .u8 100, .int .u8 101, .int .u8 102, .int .u8 103, .int .u8 104] 5 (8, 9))).trans (h5.mono (by simp))
        have hb5 := hb4.below h5'
        have hB5 := hB4.trans (h5'.mono hB4.size)
        clear q0 q1 q2 q3 q4 h5 h5' hs
        have q0 : w5.cell? ⟨w1.heap.size, 5, none⟩ = some (.int .i64 4) := hb5.cell 5
        have q1 : w5.cell? ⟨w1.heap.size, 6, none⟩ = some (.int .i64 8) := hb5.cell 6
        have q2 : w5.cell? ⟨w1.heap.size, 7, none⟩ = some (.int .i64 5) := hb5.cell 7
        have q3 : w5.cell? ⟨w1.heap.size, 8, none⟩ = some (.int .u64 0) := hb5.cell 8
        have q4 : w5.cell? ⟨w1.heap.size, 9, none⟩ = some (.int .u64 0) := hb5.cell 9
        go_wp2_with fail
        refine (Next_any 4 8 5 0 0 _ 8 8 abcS _ rfl (Rd.newF _ _ _ _ _ rfl) (by simp) (by decide) (by simp [maxLen]) (by omega)).mono ?_
        rintro e w6 ⟨rfl, h6⟩
        rw [hN]
        have h6' : Below w5.heap.size w5 w6 := ((Below.refl w5.heap.size w5).alloc (Nat.le_refl _) (.cells #[.int .u8 97, .int .u8 98, .int .u8 99, .int .u8 100, .int .u8 101, .int .u8 102, .int .u8 103, .int .u8 104] 5 (8, 9))).trans (h6.mono (by simp))
        have hB6 := hB5.trans (h6'.mono hB5.size)
        clear q0 q1 q2 q3 q4 h6 h6'
        go_wp2_with fail
        go_roundw
        case rel => exact ⟨2, by omega, rfl, hB6⟩
        case measure => simp [intOf]
      · have hg : goodS 8 4 4 = false := by decide
        have hE : endsR 8 4 4 0 0 abcS = [] := by unfold endsR; rw [hg]; rfl
        have hN : nextR 8 4 4 0 0 abcS = 0 := by unfold nextR; rw [hg]; rfl
        have q0 : wr.cell? ⟨w1.heap.size, 10, none⟩ = some (.int .i64 8) := hbr.cell 10
        have q1 : wr.cell? ⟨w1.heap.size, 11, none⟩ = some (.int .i64 4) := hbr.cell 11
        have q2 : wr.cell? ⟨w1.heap.size, 12, none⟩ = some (.int .i64 4) := hbr.cell 12
        have q3 : wr.cell? ⟨w1.heap.size, 13, none⟩ = some (.int .u64 0) := hbr.cell 13
        have q4 : wr.cell? ⟨w1.heap.size, 14, none⟩ = some (.int .u64 0) := hbr.cell 14
        go_wp2_with fail
        refine (Good_any 8 4 4 0 0 _).mono ?_
        rintro e w3 ⟨rfl, h3⟩
        rw [hg]
        have hb3 := hbr.below h3
        have hB3 := hBr.trans (h3.mono hBr.size)
        clear q0 q1 q2 q3 q4 h3
        have q0 : w3.cell? ⟨w1.heap.size, 10, none⟩ = some (.int .i64 8) := hb3.cell 10
        have q1 : w3.cell? ⟨w1.heap.size, 11, none⟩ = some (.int .i64 4) := hb3.cell 11
        have q2 : w3.cell? ⟨w1.heap.size, 12, none⟩ = some (.int .i64 4) := hb3.cell 12
        have q3 : w3.cell? ⟨w1.heap.size, 13, none⟩ = some (.int .u64 0) := hb3.cell 13
        have q4 : w3.cell? ⟨w1.heap.size, 14, none⟩ = some (.int .u64 0) := hb3.cell 14
        go_wp2_with fail
        refine (Ends_any 8 4 4 0 0 _ 8 8 abcS _ rfl (by omega) (Rd.newF _ _ _ _ _ rfl) (by simp) (by decide) (by omega) (by omega)).mono ?_
        rintro e w4 ⟨v, S, rfl, hs, -, h4⟩
        rw [hE] at hs
        obtain ⟨A, C, rfl, -⟩ := hs.form
        have h4' : Below w3.heap.size w3 w4 := ((Below.refl w3.heap.size w3).alloc (Nat.le_refl _) (.cells #[.int .u8 97, .int .u8 98, .int .u8 99, .int .u8 100, .int .u8 101, .int .u8 102, .int .u8 103, .int .u8 104] 5 (8, 9))).trans (h4.mono (by simp))
        have hb4 := hb3.below h4'
        have hB4 := hB3.trans (h4'.mono hB3.size)
        clear q0 q1 q2 q3 q4 h4 h4' hs
        have q0 : w4.cell? ⟨w1.heap.size, 10, none⟩ = some (.int .i64 8) := hb4.cell 10
        have q1 : w4.cell? ⟨w1.heap.size, 11, none⟩ = some (.int .i64 4) := hb4.cell 11
        have q2 : w4.cell? ⟨w1.heap.size, 12, none⟩ = some (.int .i64 4) := hb4.cell 12
        have q3 : w4.cell? ⟨w1.heap.size, 13, none⟩ = some (.int .u64 0) := hb4.cell 13
        have q4 : w4.cell? ⟨w1.heap.size, 14, none⟩ = some (.int .u64 0) := hb4.cell 14
        go_wp2_with fail
        refine (Parts_any 8 4 4 0 0 _ 8 8 abcS _ rfl (by omega) (Rd.newF _ _ _ _ _ rfl) (by simp) (by decide) (by omega) (by omega)).mono ?_
        rintro e w5 ⟨v, S2, vs, rfl, hs, -, -, h5⟩
        rw [hE] at hs
        obtain ⟨A2, C2, rfl, -⟩ := hs.form
        have h5' : Below w4.heap.size w4 w5 := ((Below.refl w4.heap.size w4).alloc (Nat.le_refl _) (.cells #[.int .u8 97, .int .u8 98, .int .u8 99, .int .u8 100, .int .u8 101, .int .u8 102, .int .u8 103, .int .u8 104] 5 (8, 9))).trans (h5.mono (by simp))
        have hb5 := hb4.below h5'
        have hB5 := hB4.trans (h5'.mono hB4.size)
        clear q0 q1 q2 q3 q4 h5 h5' hs
        have q0 : w5.cell? ⟨w1.heap.size, 10, none⟩ = some (.int .i64 8) := hb5.cell 10
        have q1 : w5.cell? ⟨w1.heap.size, 11, none⟩ = some (.int .i64 4) := hb5.cell 11
        have q2 : w5.cell? ⟨w1.heap.size, 12, none⟩ = some (.int .i64 4) := hb5.cell 12
        have q3 : w5.cell? ⟨w1.heap.size, 13, none⟩ = some (.int .u64 0) := hb5.cell 13
        have q4 : w5.cell? ⟨w1.heap.size, 14, none⟩ = some (.int .u64 0) := hb5.cell 14
        go_wp2_with fail
        refine (Next_any 8 4 4 0 0 _ 8 8 abcS _ rfl (Rd.newF _ _ _ _ _ rfl) (by simp) (by decide) (by simp [maxLen]) (by omega)).mono ?_
        rintro e w6 ⟨rfl, h6⟩
        rw [hN]
        have h6' : Below w5.heap.size w5 w6 := ((Below.refl w5.heap.size w5).alloc (Nat.le_refl _) (.cells #[.int .u8 97, .int .u8 98, .int .u8 99, .int .u8 100, .int .u8 101, .int .u8 102, .int .u8 103, .int .u8 104] 5 (8, 9))).trans (h6.mono (by simp))
        have hB6 := hB5.trans (h6'.mono hB5.size)
        clear q0 q1 q2 q3 q4 h6 h6'
        go_wp2_with fail
        go_roundw
        case rel => exact ⟨3, by omega, rfl, hB6⟩
        case measure => simp [intOf]
      · have hg : goodS 70 99 65 = false := by decide
        have hE : endsR 70 99 65 0 0 abcS = [] := by unfold endsR; rw [hg]; rfl
        have hN : nextR 70 99 65 0 0 abcS = 0 := by unfold nextR; rw [hg]; rfl
        have q0 : wr.cell? ⟨w1.heap.size, 15, none⟩ = some (.int .i64 70) := hbr.cell 15
        have q1 : wr.cell? ⟨w1.heap.size, 16, none⟩ = some (.int .i64 99) := hbr.cell 16
        have q2 : wr.cell? ⟨w1.heap.size, 17, none⟩ = some (.int .i64 65) := hbr.cell 17
        have q3 : wr.cell? ⟨w1.heap.size, 18, none⟩ = some (.int .u64 0) := hbr.cell 18
        have q4 : wr.cell? ⟨w1.heap.size, 19, none⟩ = some (.int .u64 0) := hbr.cell 19
        go_wp2_with fail
        refine (Good_any 70 99 65 0 0 _).mono ?_
        rintro e w3 ⟨rfl, h3⟩
        rw [hg]
        have hb3 := hbr.below h3
        have hB3 := hBr.trans (h3.mono hBr.size)
        clear q0 q1 q2 q3 q4 h3
        have q0 : w3.cell? ⟨w1.heap.size, 15, none⟩ = some (.int .i64 70) := hb3.cell 15
        have q1 : w3.cell? ⟨w1.heap.size, 16, none⟩ = some (.int .i64 99) := hb3.cell 16
        have q2 : w3.cell? ⟨w1.heap.size, 17, none⟩ = some (.int .i64 65) := hb3.cell 17
        have q3 : w3.cell? ⟨w1.heap.size, 18, none⟩ = some (.int .u64 0) := hb3.cell 18
        have q4 : w3.cell? ⟨w1.heap.size, 19, none⟩ = some (.int .u64 0) := hb3.cell 19
        go_wp2_with fail
        refine (Ends_any 70 99 65 0 0 _ 8 8 abcS _ rfl (by omega) (Rd.newF _ _ _ _ _ rfl) (by simp) (by decide) (by omega) (by omega)).mono ?_
        rintro e w4 ⟨v, S, rfl, hs, -, h4⟩
        rw [hE] at hs
        obtain ⟨A, C, rfl, -⟩ := hs.form
        have h4' : Below w3.heap.size w3 w4 := ((Below.refl w3.heap.size w3).alloc (Nat.le_refl _) (.cells #[.int .u8 97, .int .u8 98, .int .u8 99, .int .u8 100, .int .u8 101, .int .u8 102, .int .u8 103, .int .u8 104] 5 (8, 9))).trans (h4.mono (by simp))
        have hb4 := hb3.below h4'
        have hB4 := hB3.trans (h4'.mono hB3.size)
        clear q0 q1 q2 q3 q4 h4 h4' hs
        have q0 : w4.cell? ⟨w1.heap.size, 15, none⟩ = some (.int .i64 70) := hb4.cell 15
        have q1 : w4.cell? ⟨w1.heap.size, 16, none⟩ = some (.int .i64 99) := hb4.cell 16
        have q2 : w4.cell? ⟨w1.heap.size, 17, none⟩ = some (.int .i64 65) := hb4.cell 17
        have q3 : w4.cell? ⟨w1.heap.size, 18, none⟩ = some (.int .u64 0) := hb4.cell 18
        have q4 : w4.cell? ⟨w1.heap.size, 19, none⟩ = some (.int .u64 0) := hb4.cell 19
        go_wp2_with fail
        refine (Parts_any 70 99 65 0 0 _ 8 8 abcS _ rfl (by omega) (Rd.newF _ _ _ _ _ rfl) (by simp) (by decide) (by omega) (by omega)).mono ?_
        rintro e w5 ⟨v, S2, vs, rfl, hs, -, -, h5⟩
        rw [hE] at hs
        obtain ⟨A2, C2, rfl, -⟩ := hs.form
        have h5' : Below w4.heap.size w4 w5 := ((Below.refl w4.heap.size w4).alloc (Nat.le_refl _) (.cells #[.int .u8 97, .int .u8 98, .int .u8 99, .int .u8 100, .int .u8 101, .int .u8 102, .int .u8 103, .int .u8 104] 5 (8, 9))).trans (h5.mono (by simp))
        have hb5 := hb4.below h5'
        have hB5 := hB4.trans (h5'.mono hB4.size)
        clear q0 q1 q2 q3 q4 h5 h5' hs
        have q0 : w5.cell? ⟨w1.heap.size, 15, none⟩ = some (.int .i64 70) := hb5.cell 15
        have q1 : w5.cell? ⟨w1.heap.size, 16, none⟩ = some (.int .i64 99) := hb5.cell 16
        have q2 : w5.cell? ⟨w1.heap.size, 17, none⟩ = some (.int .i64 65) := hb5.cell 17
        have q3 : w5.cell? ⟨w1.heap.size, 18, none⟩ = some (.int .u64 0) := hb5.cell 18
        have q4 : w5.cell? ⟨w1.heap.size, 19, none⟩ = some (.int .u64 0) := hb5.cell 19
        go_wp2_with fail
        refine (Next_any 70 99 65 0 0 _ 8 8 abcS _ rfl (Rd.newF _ _ _ _ _ rfl) (by simp) (by decide) (by simp [maxLen]) (by omega)).mono ?_
        rintro e w6 ⟨rfl, h6⟩
        rw [hN]
        have h6' : Below w5.heap.size w5 w6 := ((Below.refl w5.heap.size w5).alloc (Nat.le_refl _) (.cells #[.int .u8 97, .int .u8 98, .int .u8 99, .int .u8 100, .int .u8 101, .int .u8 102, .int .u8 103, .int .u8 104] 5 (8, 9))).trans (h6.mono (by simp))
        have hB6 := hB5.trans (h6'.mono hB5.size)
        clear q0 q1 q2 q3 q4 h6 h6'
        go_wp2_with fail
        go_roundw
        case rel => exact ⟨4, by omega, rfl, hB6⟩
        case measure => simp [intOf]
      · have hg : goodS 4 65537 4 = false := by decide
        have hE : endsR 4 65537 4 0 0 abcS = [] := by unfold endsR; rw [hg]; rfl
        have hN : nextR 4 65537 4 0 0 abcS = 0 := by unfold nextR; rw [hg]; rfl
        have q0 : wr.cell? ⟨w1.heap.size, 20, none⟩ = some (.int .i64 4) := hbr.cell 20
        have q1 : wr.cell? ⟨w1.heap.size, 21, none⟩ = some (.int .i64 65537) := hbr.cell 21
        have q2 : wr.cell? ⟨w1.heap.size, 22, none⟩ = some (.int .i64 4) := hbr.cell 22
        have q3 : wr.cell? ⟨w1.heap.size, 23, none⟩ = some (.int .u64 0) := hbr.cell 23
        have q4 : wr.cell? ⟨w1.heap.size, 24, none⟩ = some (.int .u64 0) := hbr.cell 24
        go_wp2_with fail
        refine (Good_any 4 65537 4 0 0 _).mono ?_
        rintro e w3 ⟨rfl, h3⟩
        rw [hg]
        have hb3 := hbr.below h3
        have hB3 := hBr.trans (h3.mono hBr.size)
        clear q0 q1 q2 q3 q4 h3
        have q0 : w3.cell? ⟨w1.heap.size, 20, none⟩ = some (.int .i64 4) := hb3.cell 20
        have q1 : w3.cell? ⟨w1.heap.size, 21, none⟩ = some (.int .i64 65537) := hb3.cell 21
        have q2 : w3.cell? ⟨w1.heap.size, 22, none⟩ = some (.int .i64 4) := hb3.cell 22
        have q3 : w3.cell? ⟨w1.heap.size, 23, none⟩ = some (.int .u64 0) := hb3.cell 23
        have q4 : w3.cell? ⟨w1.heap.size, 24, none⟩ = some (.int .u64 0) := hb3.cell 24
        go_wp2_with fail
        refine (Ends_any 4 65537 4 0 0 _ 8 8 abcS _ rfl (by omega) (Rd.newF _ _ _ _ _ rfl) (by simp) (by decide) (by omega) (by omega)).mono ?_
        rintro e w4 ⟨v, S, rfl, hs, -, h4⟩
        rw [hE] at hs
        obtain ⟨A, C, rfl, -⟩ := hs.form
        have h4' : Below w3.heap.size w3 w4 := ((Below.refl w3.heap.size w3).alloc (Nat.le_refl _) (.cells #[.int .u8 97, .int .u8 98, .int .u8 99, .int .u8 100, .int .u8 101, .int .u8 102, .int .u8 103, .int .u8 104] 5 (8, 9))).trans (h4.mono (by simp))
        have hb4 := hb3.below h4'
        have hB4 := hB3.trans (h4'.mono hB3.size)
        clear q0 q1 q2 q3 q4 h4 h4' hs
        have q0 : w4.cell? ⟨w1.heap.size, 20, none⟩ = some (.int .i64 4) := hb4.cell 20
        have q1 : w4.cell? ⟨w1.heap.size, 21, none⟩ = some (.int .i64 65537) := hb4.cell 21
        have q2 : w4.cell? ⟨w1.heap.size, 22, none⟩ = some (.int .i64 4) := hb4.cell 22
        have q3 : w4.cell? ⟨w1.heap.size, 23, none⟩ = some (.int .u64 0) := hb4.cell 23
        have q4 : w4.cell? ⟨w1.heap.size, 24, none⟩ = some (.int .u64 0) := hb4.cell 24
        go_wp2_with fail
        refine (Parts_any 4 65537 4 0 0 _ 8 8 abcS _ rfl (by omega) (Rd.newF _ _ _ _ _ rfl) (by simp) (by decide) (by omega) (by omega)).mono ?_
        rintro e w5 ⟨v, S2, vs, rfl, hs, -, -, h5⟩
        rw [hE] at hs
        obtain ⟨A2, C2, rfl, -⟩ := hs.form
        have h5' : Below w4.heap.size w4 w5 := ((Below.refl w4.heap.size w4).alloc (Nat.le_refl _) (.cells #[.int .u8 97, .int .u8 98, .int .u8 99, .int .u8 100, .int .u8 101, .int .u8 102, .int .u8 103, .int .u8 104] 5 (8, 9))).trans (h5.mono (by simp))
        have hb5 := hb4.below h5'
        have hB5 := hB4.trans (h5'.mono hB4.size)
        clear q0 q1 q2 q3 q4 h5 h5' hs
        have q0 : w5.cell? ⟨w1.heap.size, 20, none⟩ = some (.int .i64 4) := hb5.cell 20
        have q1 : w5.cell? ⟨w1.heap.size, 21, none⟩ = some (.int .i64 65537) := hb5.cell 21
        have q2 : w5.cell? ⟨w1.heap.size, 22, none⟩ = some (.int .i64 4) := hb5.cell 22
        have q3 : w5.cell? ⟨w1.heap.size, 23, none⟩ = some (.int .u64 0) := hb5.cell 23
        have q4 : w5.cell? ⟨w1.heap.size, 24, none⟩ = some (.int .u64 0) := hb5.cell 24
        go_wp2_with fail
        refine (Next_any 4 65537 4 0 0 _ 8 8 abcS _ rfl (Rd.newF _ _ _ _ _ rfl) (by simp) (by decide) (by simp [maxLen]) (by omega)).mono ?_
        rintro e w6 ⟨rfl, h6⟩
        rw [hN]
        have h6' : Below w5.heap.size w5 w6 := ((Below.refl w5.heap.size w5).alloc (Nat.le_refl _) (.cells #[.int .u8 97, .int .u8 98, .int .u8 99, .int .u8 100, .int .u8 101, .int .u8 102, .int .u8 103, .int .u8 104] 5 (8, 9))).trans (h6.mono (by simp))
        have hB6 := hB5.trans (h6'.mono hB5.size)
        clear q0 q1 q2 q3 q4 h6 h6'
        go_wp2_with fail
        go_roundw
        case rel => exact ⟨5, by omega, rfl, hB6⟩
        case measure => simp [intOf]
    · obtain rfl : k = 5 := by omega
      have kc2 : ∀ (o1 o2 : Obj) (C : Array Value) (n c : Nat), (convert 22 22 (.slice (some ⟨wr.heap.size + 1 + 1, 0, none⟩) n c)).run Try.prog (((wr.alloc o1).alloc o2).alloc (.cells C 5)) = .ok (.slice (some ⟨wr.heap.size + 1 + 1, 0, none⟩) n c) (((wr.alloc o1).alloc o2).alloc (.cells C 5 (C.size, C.size + 1))) := by
        intro o1 o2 C n c
        have h := kc ((wr.alloc o1).alloc o2) C n c
        have e : ((wr.alloc o1).alloc o2).heap.size = wr.heap.size + 1 + 1 := by simp
        rw [e] at h
        exact h
      have e2 : ((wr.alloc (.cells #[.int .i64 3, .int .i64 5, .int .i64 2, .int .u64 0, .int .u64 0] 37)).alloc (.cells #[.int .i64 3, .int .i64 5, .int .i64 2, .int .u64 0, .int .u64 1] 37)).heap.size = wr.heap.size + 1 + 1 := by simp
      have hra : Blk (((wr.alloc (.cells #[.int .i64 3, .int .i64 5, .int .i64 2, .int .u64 0, .int .u64 0] 37)).alloc (.cells #[.int .i64 3, .int .i64 5, .int .i64 2, .int .u64 0, .int .u64 1] 37)).alloc (.cells #[.int .u8 97, .int .u8 98, .int .u8 99, .int .u8 100, .int .u8 101, .int .u8 102, .int .u8 103, .int .u8 104, .int .u8 105, .int .u8 106, .int .u8 107, .int .u8 108] 5 (12, 13))) wr.heap.size 37 #[.int .i64 3, .int .i64 5, .int .i64 2, .int .u64 0, .int .u64 0] := ((Blk.new wr _ _).alloc _).alloc _
      have hrb : Blk (((wr.alloc (.cells #[.int .i64 3, .int .i64 5, .int .i64 2, .int .u64 0, .int .u64 0] 37)).alloc (.cells #[.int .i64 3, .int .i64 5, .int .i64 2, .int .u64 0, .int .u64 1] 37)).alloc (.cells #[.int .u8 97, .int .u8 98, .int .u8 99, .int .u8 100, .int .u8 101, .int .u8 102, .int .u8 103, .int .u8 104, .int .u8 105, .int .u8 106, .int .u8 107, .int .u8 108] 5 (12, 13))) (wr.heap.size + 1) 37 #[.int .i64 3, .int .i64 5, .int .i64 2, .int .u64 0, .int .u64 1] := (Blk.newAt (wr.alloc (.cells #[.int .i64 3, .int .i64 5, .int .i64 2, .int .u64 0, .int .u64 0] 37)) _ _ _ (by simp)).alloc _
      have hbb : Rd (((wr.alloc (.cells #[.int .i64 3, .int .i64 5, .int .i64 2, .int .u64 0, .int .u64 0] 37)).alloc (.cells #[.int .i64 3, .int .i64 5, .int .i64 2, .int .u64 0, .int .u64 1] 37)).alloc (.cells #[.int .u8 97, .int .u8 98, .int .u8 99, .int .u8 100, .int .u8 101, .int .u8 102, .int .u8 103, .int .u8 104, .int .u8 105, .int .u8 106, .int .u8 107, .int .u8 108] 5 (12, 13))) (some ⟨wr.heap.size + 1 + 1, 0, none⟩) (abcL.map bv) := Rd.newF ((wr.alloc (.cells #[.int .i64 3, .int .i64 5, .int .i64 2, .int .u64 0, .int .u64 0] 37)).alloc (.cells #[.int .i64 3, .int .i64 5, .int .i64 2, .int .u64 0, .int .u64 1] 37)) 5 #[.int .u8 97, .int .u8 98, .int .u8 99, .int .u8 100, .int .u8 101, .int .u8 102, .int .u8 103, .int .u8 104, .int .u8 105, .int .u8 106, .int .u8 107, .int .u8 108] (12, 13) (wr.heap.size + 1 + 1) e2
      have hbel : Below wr.heap.size wr (((wr.alloc (.cells #[.int .i64 3, .int .i64 5, .int .i64 2, .int .u64 0, .int .u64 0] 37)).alloc (.cells #[.int .i64 3, .int .i64 5, .int .i64 2, .int .u64 0, .int .u64 1] 37)).alloc (.cells #[.int .u8 97, .int .u8 98, .int .u8 99, .int .u8 100, .int .u8 101, .int .u8 102, .int .u8 103, .int .u8 104, .int .u8 105, .int .u8 106, .int .u8 107, .int .u8 108] 5 (12, 13))) := ((((Keeps.refl [] wr).alloc _).alloc _).alloc _).below
      have hE1 : endsR 3 5 2 0 0 abcL = [3, 6, 9, 12] := by decide +kernel
      have hE2 : endsR 3 5 2 0 1 abcL = [5, 10, 12] := by decide +kernel
      have hE0 : endsR 3 5 2 0 0 [] = [] := by decide +kernel
      have hN1 : nextR 3 5 2 0 0 [97, 98] = 2 := by decide +kernel
      have hN2 : nextR 3 5 2 0 1 [97, 98, 99, 100] = 4 := by decide +kernel
      have hN3 : nextR 3 5 2 0 0 [] = 0 := by decide +kernel
      go_wp2_with fail
      clear e2
      generalize (((wr.alloc (.cells #[.int .i64 3, .int .i64 5, .int .i64 2, .int .u64 0, .int .u64 0] 37)).alloc (.cells #[.int .i64 3, .int .i64 5, .int .i64 2, .int .u64 0, .int .u64 1] 37)).alloc (.cells #[.int .u8 97, .int .u8 98, .int .u8 99, .int .u8 100, .int .u8 101, .int .u8 102, .int .u8 103, .int .u8 104, .int .u8 105, .int .u8 106, .int .u8 107, .int .u8 108] 5 (12, 13))) = W9 at *
      have heE : Enters Try.prog 26 := fun args w => by kernel_rfl
      have heN : Enters Try.prog 28 := fun args w => by kernel_rfl
      have heI : Enters Try.prog 29 := fun args w => by kernel_rfl
      have sizeU : (Try.prog.info? 5).map (·.size) = some 1 := by kernel_rfl
      have sizeRule : (Try.prog.info? 37).map (·.size) = some 5 := by kernel_rfl
      have infoInt : (Try.prog.info? 3).map (fun i => (i.zero, i.size, i.bytes)) = some (some (.int .i64 0), 1, 8) := by kernel_rfl
      have cE1 : ∀ W, Below W9.heap.size W9 W → Ret Try.prog 26 #[.agg #[.int .i64 3, .int .i64 5, .int .i64 2, .int .u64 0, .int .u64 0], .slice (some ⟨wr.heap.size + 1 + 1, 0, none⟩) 12 12] W (Ty.sl 3 4 ([3, 6, 9, 12].map iv)) := fun W hb => Calls.mono (Ends_any 3 5 2 0 0 (some ⟨wr.heap.size + 1 + 1, 0, none⟩) 12 12 abcL W rfl (by omega) (hbb.below hb) (by simp) (by decide) (by omega) (by omega)) fun e w' ⟨v, S, h1, h2, _, h4⟩ => ⟨v, h1, by rw [hE1] at h2; exact h2.sl, h4⟩
      have cE2 : ∀ W, Below W9.heap.size W9 W → Ret Try.prog 26 #[.agg #[.int .i64 3, .int .i64 5, .int .i64 2, .int .u64 0, .int .u64 1], .slice (some ⟨wr.heap.size + 1 + 1, 0, none⟩) 12 12] W (Ty.sl 3 3 ([5, 10, 12].map iv)) := fun W hb => Calls.mono (Ends_any 3 5 2 0 1 (some ⟨wr.heap.size + 1 + 1, 0, none⟩) 12 12 abcL W rfl (by omega) (hbb.below hb) (by simp) (by decide) (by omega) (by omega)) fun e w' ⟨v, S, h1, h2, _, h4⟩ => ⟨v, h1, by rw [hE2] at h2; exact h2.sl, h4⟩
      have cE3 : ∀ W, Below W9.heap.size W9 W → Ret Try.prog 26 #[.agg #[.int .i64 3, .int .i64 5, .int .i64 2, .int .u64 0, .int .u64 0], .slice none 0 0] W (Ty.sl 3 0 []) := fun W hb => Calls.mono (Ends_any 3 5 2 0 0 none 0 0 [] W rfl (by omega) (Rd.nil _ _) (by simp) (by simp) (by omega) (by omega)) fun e w' ⟨v, S, h1, h2, _, h4⟩ => ⟨v, h1, by rw [hE0] at h2; exact h2.sl, h4⟩
      have cN1 : ∀ W, Below W9.heap.size W9 W → Ret Try.prog 28 #[.agg #[.int .i64 3, .int .i64 5, .int .i64 2, .int .u64 0, .int .u64 0], .slice (some ⟨wr.heap.size + 1 + 1, 0, none⟩) 2 12] W (Ty.ex (.int .i64 2)) := fun W hb => Ret.of (Calls.mono (Next_any 3 5 2 0 0 (some ⟨wr.heap.size + 1 + 1, 0, none⟩) 2 12 [97, 98] W rfl ((hbb.below hb).take 2) (by simp) (by decide) (by simp [maxLen]) (by omega)) fun e w' ⟨h1, h2⟩ => ⟨by rw [hN1] at h1; exact h1, h2⟩)
      have cN2 : ∀ W, Below W9.heap.size W9 W → Ret Try.prog 28 #[.agg #[.int .i64 3, .int .i64 5, .int .i64 2, .int .u64 0, .int .u64 1], .slice (some ⟨wr.heap.size + 1 + 1, 0, none⟩) 4 12] W (Ty.ex (.int .i64 4)) := fun W hb => Ret.of (Calls.mono (Next_any 3 5 2 0 1 (some ⟨wr.heap.size + 1 + 1, 0, none⟩) 4 12 [97, 98, 99, 100] W rfl ((hbb.below hb).take 4) (by simp) (by decide) (by simp [maxLen]) (by omega)) fun e w' ⟨h1, h2⟩ => ⟨by rw [hN2] at h1; exact h1, h2⟩)
      have cN3 : ∀ W, Below W9.heap.size W9 W → Ret Try.prog 28 #[.agg #[.int .i64 3, .int .i64 5, .int .i64 2, .int .u64 0, .int .u64 0], .slice none 0 0] W (Ty.ex (.int .i64 0)) := fun W hb => Ret.of (Calls.mono (Next_any 3 5 2 0 0 none 0 0 [] W rfl (Rd.nil _ _) (by simp) (by decide) (by simp [maxLen]) (by omega)) fun e w' ⟨h1, h2⟩ => ⟨by rw [hN3] at h1; exact h1, h2⟩)
      have cI : ∀ l : List Nat, l.length ≤ 100 → Fn2 Try.prog 29 (Ty.sl 3 l.length (l.map iv)) (Ty.sl 3 l.length (l.map iv)) (Ty.ex (.bool true)) := fun l hl => ⟨heI, fun W v u hv hu => by
        have hv0 := hv
        have hu0 := hu
        obtain ⟨A, c, rfl, _⟩ := hv0
        obtain ⟨B, d, rfl, _⟩ := hu0
        exact Ret.of (Calls.mono (ints_any A B l.length c l.length d l l W rfl rfl hv.rd hu.rd (by simp [maxLen]; omega) (by simp [maxLen]; omega)) fun e w' ⟨h1, q, h2⟩ => ⟨by rw [decide_eq_true rfl] at h1; exact h1, by subst h2; exact ((Keeps.refl [] W).drewN q).below⟩)⟩
      have cI1 := cI [3, 6, 9, 12] (by decide)
      have cI2 := cI [5, 10, 12] (by decide)
      refine' reg_all (Fr.slots (N := 98) (w := W9) rfl rfl [(3, .pointer (some ⟨wr.heap.size, 0, none⟩)), (4, .pointer (some ⟨wr.heap.size + 1, 0, none⟩)), (5, .slice (some ⟨wr.heap.size + 1 + 1, 0, none⟩) 12 12)] ⟨rfl, rfl, rfl, trivial⟩) ?_ (by kernel_rfl) (by kernel_rfl) ?_
      rotate_left
      · repeat (first
            | exact Line.nil
            | (refine' Line.cons rfl (.no rfl rfl rfl rfl rfl rfl) ?_; rotate_left)
            | ((first | refine' Line.cons rfl (.run rfl rfl ?_) ?_ | refine' Line.cons rfl (.yes rfl rfl rfl rfl ?_) ?_)
               any_goals (first | exact cMove rfl rfl | exact cAssign rfl rfl | exact cNot rfl rfl | exact cLoadAll rfl (.l rfl (blk_at hra)) Try.underlying37 rfl sizeRule | exact cLoadAll rfl (.l rfl (blk_at hrb)) Try.underlying37 rfl sizeRule | exact cCallX2 (f := 26) (v := .agg #[.int .i64 3, .int .i64 5, .int .i64 2, .int .u64 0, .int .u64 0]) (u := .slice (some ⟨wr.heap.size + 1 + 1, 0, none⟩) 12 12) rfl rfl rfl heE cE1 | exact cCallX2 (f := 26) (v := .agg #[.int .i64 3, .int .i64 5, .int .i64 2, .int .u64 0, .int .u64 1]) (u := .slice (some ⟨wr.heap.size + 1 + 1, 0, none⟩) 12 12) rfl rfl rfl heE cE2 | exact cCallX2 (f := 26) (v := .agg #[.int .i64 3, .int .i64 5, .int .i64 2, .int .u64 0, .int .u64 0]) (u := .slice none 0 0) rfl rfl rfl heE cE3 | exact cCallX2 (f := 28) (v := .agg #[.int .i64 3, .int .i64 5, .int .i64 2, .int .u64 0, .int .u64 0]) (u := .slice (some ⟨wr.heap.size + 1 + 1, 0, none⟩) 2 12) rfl rfl rfl heN cN1 | exact cCallX2 (f := 28) (v := .agg #[.int .i64 3, .int .i64 5, .int .i64 2, .int .u64 0, .int .u64 1]) (u := .slice (some ⟨wr.heap.size + 1 + 1, 0, none⟩) 4 12) rfl rfl rfl heN cN2 | exact cCallX2 (f := 28) (v := .agg #[.int .i64 3, .int .i64 5, .int .i64 2, .int .u64 0, .int .u64 0]) (u := .slice none 0 0) rfl rfl rfl heN cN3 | exact cBuildV (vs := [.int .i64 3, .int .i64 6, .int .i64 9, .int .i64 12]) rfl (fun a w _ => by simp [Act.eval]) Try.underlying40 infoInt rfl (by simp [Value.cells]) (by decide) (by simp [maxLen]) | exact cBuildV (vs := [.int .i64 5, .int .i64 10, .int .i64 12]) rfl (fun a w _ => by simp [Act.eval]) Try.underlying40 infoInt rfl (by simp [Value.cells]) (by decide) (by simp [maxLen]) | exact cCall2 rfl rfl rfl cI1 | exact cCall2 rfl rfl rfl cI2 | exact cSliceHiEx (k := 2) rfl rfl rfl Try.underlying22 sizeU (by omega) | exact cSliceHiEx (k := 4) rfl rfl rfl Try.underlying22 sizeU (by omega) | exact cLen rfl rfl (Ty.sl_isSl _ _ _) Try.underlying40 | exact OpOk.b (c := true) (cEql rfl rfl rfl) rfl | exact cPickT rfl rfl rfl | exact cPickF rfl rfl rfl | exact cLss rfl rfl rfl | exact cLeq rfl rfl rfl | exact cGtr rfl rfl rfl | exact cGeq rfl rfl rfl | exact cEql rfl rfl rfl | exact cNeq rfl rfl rfl | exact cExtract rfl rfl rfl)
               rotate_left))
      intro a w12 hF hb hN
      dsimp only [ext, Option.getD] at hF
      refine (‹∀ (a : Act) (w : World), Code.wp Try.prog Code.ret _ a w → _›) _ _ ?_
      refine wp_ret ?_
      refine ret1 hF rfl rfl fun z hz => ?_
      have hQ : Below w.heap.size w wr := hB2.trans (hBr.mono hB2.size)
      exact ⟨by rw [show z = .bool true from hz], (hQ.trans (hbel.mono hQ.size)).trans (hb.mono (Nat.le_trans hQ.size hbel.size))⟩
end Go.Proofs.Ytibckdnfgopghaa
