/- The walk of Sum.Text. -/
import Derived.Test.YtkdkmnemmenikaaApp
import Derived.Test.YtkdkmnemmenikaaTextP
import Derived.WalkLawsBesides
import Derived.Lib.Hide
import Derived.Deep.RegionHeld3
namespace Go.Proofs.Ytkdkmnemmenikaa
open Go.RowKit

theorem digit_at (n : Nat) (hn : n < 16) (W : World) : (Instr.index 9 (.string { data := #[48, 49, 50, 51, 52, 53, 54, 55, 56, 57, 97, 98, 99, 100, 101, 102] }) (.int .u8 (n : Int))).run Try.prog W = .ok (.int .u8 ((hexd n : Nat) : Int)) W := by
  have h : n = 0 ∨ n = 1 ∨ n = 2 ∨ n = 3 ∨ n = 4 ∨ n = 5 ∨ n = 6 ∨ n = 7 ∨ n = 8 ∨ n = 9 ∨ n = 10 ∨ n = 11 ∨ n = 12 ∨ n = 13 ∨ n = 14 ∨ n = 15 := by omega
  rcases h with rfl | rfl | rfl | rfl | rfl | rfl | rfl | rfl | rfl | rfl | rfl | rfl | rfl | rfl | rfl | rfl <;> (show _ = _; kernel_rfl)

set_option maxRecDepth 100000 in
set_option maxHeartbeats 1000000 in
theorem Text_l (l : List Nat) (hlen : l.length = 32) (hlt : ∀ x ∈ l, x < 256) (w : World) :
    Calls Try.prog 7 #[.agg (u8s l)] w fun e w' => e = .returned (.string (strB (hexS l))) ∧ Below w.heap.size w w' := by
  have hmk : ∀ W, (Instr.makeSlice 30 (.int .i64 0) (.int .i64 64)).run Try.prog W = .ok (.slice (some ⟨W.heap.size, 0, none⟩) 0 64) (W.alloc (.cells (u8s (List.replicate 64 0)) 5)) := fun W => by kernel_rfl
  have hsz := u8s_size l
  rw [hlen] at hsz
  have HL := Lib.hid hlen
  have hix : ∀ (k : Nat) (W : World), k < 32 → (Instr.index 24 (.agg (u8s l)) (.int .i64 (k : Int))).run Try.prog W = .ok (.int .u8 ((l.getD k 0 : Nat) : Int)) W := fun k W hk =>
    run_index_arr W _ _ 32 _ _ k _ Try.underlying24 Try.isAgg5 Try.sizeOf5 hk (u8s_get (by rw [hlen]; exact hk))
  have HI := Lib.hid hix
  have HX := Lib.hid hlt
  have hi32 : (Try.prog.info? 24).map (·.size) = some (u8s l).size := by rw [u8s_size, hlen]; kernel_rfl
  have HI2 := Lib.hid hi32
  have hz64 : (u8s (List.replicate 64 0)).size = 64 := by rw [u8s_size]; rfl
  have HZ := Lib.hid hz64
  clear hsz hix hlen hlt hi32 hz64
  generalize u8s (List.replicate 64 0) = Z at *
  go_enter Try.func7, Try.ntmps7
  go_wp2_with (refine wpList_load_blk rfl 24 (.tmp 1) rfl w.heap.size rfl 24 (u8s l) _ ((Blk.new w _ _).alloc _) Try.underlying24 rfl HI2.out ?_)
  have hO : Own ((w.alloc (.cells (u8s l) 24)).alloc (.cells Z 5)) 1 (.slice (some ⟨w.heap.size + 1, 0, none⟩) 0 64) 0 ((hexS (l.take 0)).map bv) [w.heap.size + 1] :=
    Own.ofRoom (Blk.newAt (w.alloc (.cells (u8s l) 24)) _ Z _ (by simp)) HZ.out (by simp [maxLen])
  have hb : Below w.heap.size w ((w.alloc (.cells (u8s l) 24)).alloc (.cells Z 5)) := (((Keeps.refl [] w).alloc _).alloc _).below
  go_loopw [3, 8] (fun v i wr => ∃ (k : Nat) (A : Option Addr) (c : Nat) (S : List Nat), k ≤ 32 ∧ i = .int .i64 k ∧ v = .slice A (2 * k) c ∧ Own wr 1 (.slice A (2 * k) c) (2 * k) ((hexS (l.take k)).map bv) S ∧ (∀ x ∈ S, w.heap.size ≤ x) ∧ (A = none → 2 * k = 0) ∧ 2 * k ≤ c ∧ Below w.heap.size w wr) (fun _ i _ => 32 - (intOf i).toNat)
  case atStart => exact ⟨0, some ⟨w.heap.size + 1, 0, none⟩, 64, [w.heap.size + 1], by omega, rfl, rfl, hO, by simp, by simp, by omega, hb⟩
  case round =>
    clear hO hb
    obtain ⟨k, A, c, S, hk, rfl, rfl, hO, hS, hA, hc, hb⟩ := hrel
    by_cases hk32 : k < 32
    · have hix := fun W => HI.out k W hk32
      have hd : hexS (l.take (k + 1)) = hexS (l.take k) ++ [hexd (l.getD k 0 / 16), hexd (l.getD k 0 % 16)] := by
        have hl : k < l.length := by rw [HL.out]; exact hk32
        rw [List.take_succ_eq_append_getElem hl, hexS_append]
        simp [hexS, List.getD, List.getElem?_eq_getElem hl]
      have HD := Lib.hid hd
      have hy : l.getD k 0 < 256 := by
        have hl : k < l.length := by rw [HL.out]; exact hk32
        simp only [List.getD, List.getElem?_eq_getElem hl, Option.getD_some]; exact HX.out _ (List.getElem_mem _)
      clear hd
      generalize l.getD k 0 = y at *
      have hp : (y : Int) / 16 = ((y / 16 : Nat) : Int) := by omega
      have hq : bits .and .u8 (y : Int) 15 = ((y % 16 : Nat) : Int) := by
        have h := u8_and_nat y 15 hy (by omega)
        rw [nat_mask4] at h
        exact h
      have h1 := digit_at (y / 16) (by omega)
      have h2 := digit_at (y % 16) (by omega)
      have hd1 : hexd (y / 16) < 256 := hexd_lt (by omega)
      have hd2 : hexd (y % 16) < 256 := hexd_lt (by omega)
      generalize y / 16 = p at *
      generalize y % 16 = q at *
      generalize hexd p = u at *
      generalize hexd q = v at *
      go_wp2_with fail
      go_region_held3 (fun _ => True) (trivial)
        ((rw [if_pos (by rfl)]
          refine wp_app (.tmp 11) (.tmp 18) rfl (.slice A (2 * k) c) (2 * k) _ S (by rfl) (hO.drew.alloc _) (some ⟨wr.heap.size, 0, none⟩) 2 2 [u, v] (by rfl) rfl (Rd.of_blk0 (Blk.newAt _ _ #[.int .u8 (u : Int), .int .u8 (v : Int)] _ (by rfl))) (by simp) (by omega) ?_
          intro A2 c2 w2 S2 hO2 hk2 hS2 hc2 hm2 hA2))
      all_goals
        have hS2' : ∀ x ∈ S2, w.heap.size ≤ x := by
          rcases hS2 with rfl | rfl
          · exact hS
          · intro x hx; simp at hx; have := hb.size; omega
        have hb2 : Below w.heap.size w w2 := ((((Keeps.of_below (S := []) hb).drew).alloc _).trans' hk2 (fun x hx => .inr (hS x hx))).below
        have hcat : (hexS (l.take k)).map bv ++ [u, v].map bv = (hexS (l.take (k + 1))).map bv := by rw [HD.out, List.map_append]
        rw [hcat] at hO2
        go_wp2_with fail
        exact ⟨⟨k + 1, A2, c2, S2, by omega, by go_num, rfl, hO2, hS2', fun e => by have := hA2 e; omega, hc2, hb2⟩, by simp [intOf]; omega⟩
    · obtain rfl : k = 32 := by omega
      rw [List.take_of_length_le (by rw [HL.out]; omega)] at hO
      rw [show 2 * 32 = 64 from rfl] at hO hA ⊢
      rw [show ((32 : Nat) : Int) = 32 from rfl]
      have hrs := run_string_rd (P := Try.prog) wr 30 9 5 Try.underlying30 Try.underlying5 Try.underlying9 A 64 c (hexS l) (by rw [hexS_len, HL.out]) hO.rd hA
      clear hO HX HI
      go_wp2_with fail
      go_ret
      exact ⟨rfl, hb⟩
theorem Text_any (x : Sm) (w : World) :
    Calls Try.prog 7 #[.agg (u8s x.l)] w fun e w' => e = .returned (.string (strB (hexS x.l))) ∧ Below w.heap.size w w' := Text_l x.l x.len x.lt w
end Go.Proofs.Ytkdkmnemmenikaa
