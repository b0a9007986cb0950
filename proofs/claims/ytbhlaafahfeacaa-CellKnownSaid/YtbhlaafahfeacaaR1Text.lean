/- The walks of tallymanref1's digit and Text. -/
import Derived.Test.YtbhlaafahfeacaaTextA
import Derived.StillTailTactics
namespace Go.Proofs.Ytbhlaafahfeacaa
open Go.RowKit

theorem digit_any (n : Nat) (hn : n < 16) (w : World) :
    Calls Try.prog 53 #[.int .u8 (n : Int)] w fun e w' => e = .returned (.int .u8 ((hexd n : Nat) : Int)) ∧ w' = w := by
  have h : n = 0 ∨ n = 1 ∨ n = 2 ∨ n = 3 ∨ n = 4 ∨ n = 5 ∨ n = 6 ∨ n = 7 ∨ n = 8 ∨ n = 9 ∨ n = 10 ∨ n = 11 ∨ n = 12 ∨ n = 13 ∨ n = 14 ∨ n = 15 := by omega
  rcases h with rfl | rfl | rfl | rfl | rfl | rfl | rfl | rfl | rfl | rfl | rfl | rfl | rfl | rfl | rfl | rfl <;>
    (go_enter Try.func53, Try.ntmps53
     go_wp2
     go_ret
     exact ⟨rfl, rfl⟩)

theorem digit_z (z : Int) (n : Nat) (hz : z = (n : Int)) (hn : n < 16) (w : World) :
    Calls Try.prog 53 #[.int .u8 z] w fun e w' => e = .returned (.int .u8 ((hexd n : Nat) : Int)) ∧ w' = w := by
  subst hz
  exact digit_any n hn w

set_option maxRecDepth 100000 in
set_option maxHeartbeats 4000000 in
theorem R1Text_l (l : List Nat) (hlen : l.length = 32) (hlt : ∀ x ∈ l, x < 256) (w : World) :
    Calls Try.prog 40 #[.agg (u8s l)] w fun e w' => e = .returned (.string (strB (hexS l))) ∧ Below w.heap.size w w' := by
  have HL := Lib.hid hlen
  have HX := Lib.hid hlt
  have hB : Blk (w.alloc (.cells (u8s l) 47)) w.heap.size 47 (u8s l) := Blk.new w _ _
  have hO : Own (w.alloc (.cells (u8s l) 47)) 1 (.slice none 0 0) 0 ((hexS (l.take 0)).map bv) [] := Own.nil _ _
  have hb : Below w.heap.size w (w.alloc (.cells (u8s l) 47)) := ((Keeps.refl [] w).alloc _).below
  clear hlen hlt
  go_enter Try.func40, Try.ntmps40
  go_wp2_with fail
  go_loopw [3, 4] (fun v i wr => ∃ (k : Nat) (A : Option Addr) (c : Nat) (S : List Nat), k ≤ 32 ∧ i = .int .i64 k ∧ v = .slice A (2 * k) c ∧ Own wr 1 (.slice A (2 * k) c) (2 * k) ((hexS (l.take k)).map bv) S ∧ (∀ x ∈ S, w.heap.size < x) ∧ (A = none → 2 * k = 0) ∧ 2 * k ≤ c ∧ Below w.heap.size w wr ∧ Blk wr w.heap.size 47 (u8s l)) (fun _ i _ => 32 - (intOf i).toNat)
  case atStart => exact ⟨0, none, 0, [], by omega, rfl, rfl, hO, by simp, by simp, by omega, hb, hB⟩
  case round =>
    clear hO hb hB
    obtain ⟨k, A, c, S, hk, rfl, rfl, hO, hS, hA, hc, hb, hB⟩ := hrel
    by_cases hk32 : k < 32
    · have hcell : wr.cell? ⟨w.heap.size, k, none⟩ = some (.int .u8 ((l.getD k 0 : Nat) : Int)) := by rw [hB.cell, u8s_get (by rw [HL.out]; exact hk32)]
      have hcA : ∀ o, (wr.alloc o).drew.cell? ⟨w.heap.size, k, none⟩ = some (.int .u8 ((l.getD k 0 : Nat) : Int)) := fun o => by
        show (wr.alloc o).cell? _ = _
        rw [(hB.alloc o).cell, u8s_get (by rw [HL.out]; exact hk32)]
      have hcK : ∀ o w2, Keeps S (wr.drew.alloc o) w2 → w2.cell? ⟨w.heap.size, k, none⟩ = some (.int .u8 ((l.getD k 0 : Nat) : Int)) := fun o w2 h => by
        have h2 : Keeps S wr w2 := (((Keeps.refl S wr).drew).alloc o).trans h
        have h3 : Blk w2 w.heap.size 47 (u8s l) := (h2.block _ hB.lt (fun hx => Nat.lt_irrefl _ (hS _ hx))).trans hB
        rw [h3.cell, u8s_get (by rw [HL.out]; exact hk32)]
      have hd : hexS (l.take (k + 1)) = hexS (l.take k) ++ [hexd (l.getD k 0 / 16), hexd (l.getD k 0 % 16)] := by
        have hl : k < l.length := by rw [HL.out]; exact hk32
        rw [List.take_succ_eq_append_getElem hl, hexS_append]
        simp [hexS, List.getD, List.getElem?_eq_getElem hl]
      have HD := Lib.hid hd
      have hy : l.getD k 0 < 256 := by
        have hl : k < l.length := by rw [HL.out]; exact hk32
        simp only [List.getD, List.getElem?_eq_getElem hl, Option.getD_some]; exact HX.out _ (List.getElem_mem _)
      clear hd
      generalize l.getD k 0 = y at *
      have hp : (y : Int) / 16 = ((y / 16 : Nat) : Int) := by omega
      have hq : (y : Int) % 16 = ((y % 16 : Nat) : Int) := by omega
      have W1 : Hid (IntKind.u8.wrap ((y / 16 : Nat) : Int) = ((y / 16 : Nat) : Int)) := by unfold Hid; simp only [IntKind.wrap, IntKind.bits, IntKind.signed]; simp; omega
      have W2 : Hid ((y : Int).tmod 16 = ((y % 16 : Nat) : Int)) := by unfold Hid; rw [Int.tmod_eq_emod_of_nonneg (by omega)]; omega
      have hpl : y / 16 < 16 := by omega
      have hql : y % 16 < 16 := by omega
      have hd1 : hexd (y / 16) < 256 := hexd_lt (by omega)
      have hd2 : hexd (y % 16) < 256 := hexd_lt (by omega)
      have r0 : (k : Int) < 32 := by omega
      have r1 : (0 : Int) ≤ (k : Int) := by omega
      generalize y / 16 = p at *
      generalize y % 16 = q at *
      go_wp2_with fail
      have w1 : IntKind.u8.wrap (p : Int) = (p : Int) := W1.out
      have w2 : (y : Int).tmod 16 = (q : Int) := W2.out
      go_region_held3 (fun w1 => w1.cell? ⟨w.heap.size, k, none⟩ = some (.int .u8 (y : Int))) (first | exact hcell | exact hcA _ | assumption | trivial)
        (first
         | (go_at_call 53
            refine (digit_z _ _ (by first | exact rfl | exact w1 | exact w2) (by first | exact hpl | exact hql) _).mono ?_
            rintro e w' ⟨rfl, rfl⟩)
         | (rw [if_pos (by rfl)]
            refine wp_app (.tmp 9) (.tmp 20) rfl (.slice A (2 * k) c) (2 * k) _ S (by rfl) (hO.drew.alloc _) (some ⟨wr.heap.size, 0, none⟩) 2 2 [hexd p, hexd q] (by rfl) rfl (Rd.of_blk0 (Blk.newAt _ _ #[.int .u8 ((hexd p : Nat) : Int), .int .u8 ((hexd q : Nat) : Int)] _ (by rfl))) (by simp) (by omega) ?_
            intro A2 c2 w2 S2 hO2 hk2 hS2 hc2 hm2 hA2
            have hcw := hcK _ _ hk2))
      all_goals
        have hS2' : ∀ x ∈ S2, w.heap.size < x := by
          rcases hS2 with rfl | rfl
          · exact hS
          · intro x hx; simp at hx; have := hb.size; have := hB.lt; omega
        have hk3 : Keeps S wr w2 := (((Keeps.refl S wr).drew).alloc _).trans hk2
        have hb2 : Below w.heap.size w w2 := ((((Keeps.of_below (S := []) hb).drew).alloc _).trans' hk2 (fun x hx => .inr (Nat.le_of_lt (hS x hx)))).below
        have hB2 : Blk w2 w.heap.size 47 (u8s l) := (hk3.block _ hB.lt (fun hx => Nat.lt_irrefl _ (hS _ hx))).trans hB
        have hcat : (hexS (l.take k)).map bv ++ [hexd p, hexd q].map bv = (hexS (l.take (k + 1))).map bv := by rw [HD.out, List.map_append]
        rw [hcat] at hO2
        go_wp2_with fail
        exact ⟨⟨k + 1, A2, c2, S2, by omega, by go_num, rfl, hO2, hS2', fun e => by have := hA2 e; omega, hc2, hb2, hB2⟩, by simp [intOf]; omega⟩
    · obtain rfl : k = 32 := by omega
      rw [List.take_of_length_le (by rw [HL.out]; omega)] at hO
      rw [show 2 * 32 = 64 from rfl] at hO hA ⊢
      rw [show ((32 : Nat) : Int) = 32 from rfl]
      have hrs := run_string_rd (P := Try.prog) wr 22 9 5 Try.underlying22 Try.underlying5 Try.underlying9 A 64 c (hexS l) (by rw [hexS_len, HL.out]) hO.rd hA
      clear hO HX
      go_wp2_with fail
      go_ret
      exact ⟨rfl, hb⟩
theorem R1Text_any (x : Sm) (w : World) :
    Calls Try.prog 40 #[.agg (u8s x.l)] w fun e w' => e = .returned (.string (strB (hexS x.l))) ∧ Below w.heap.size w w' := R1Text_l x.l x.len x.lt w
end Go.Proofs.Ytbhlaafahfeacaa
