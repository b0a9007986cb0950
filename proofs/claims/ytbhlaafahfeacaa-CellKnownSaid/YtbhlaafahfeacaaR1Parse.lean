/- The walk of tallymanref1.Parse. -/
import Derived.Test.YtbhlaafahfeacaaParse
import Derived.Test.YtbhlaafahfeacaaR1Text
import Derived.Test.YtbhlaafahfeacaaR1Xor
import Derived.Deep.QuietTactic
import Derived.BigQuiet
namespace Go.Proofs.Ytbhlaafahfeacaa
open Go.RowKit

def vfind (c m : Nat) : Nat := if goodh c = true ∧ hexv c < m then hexv c else 255
theorem hexd_eq {c m : Nat} (hm : m < 16) : (hexd m = c) ↔ (goodh c = true ∧ hexv c = m) := by
  constructor
  · rintro rfl; exact ⟨(hexv_hexd hm).2, (hexv_hexd hm).1⟩
  · rintro ⟨h, rfl⟩; exact hexd_hexv h
theorem vfind_hit {c m : Nat} (hm : m < 16) (h : hexd m = c) : vfind c (m + 1) = m := by
  have := (hexd_eq hm).1 h
  unfold vfind; rw [if_pos ⟨this.1, by omega⟩]; exact this.2
theorem vfind_miss {c m : Nat} (hm : m < 16) (h : hexd m ≠ c) : vfind c (m + 1) = vfind c m := by
  have h2 : ¬ (goodh c = true ∧ hexv c = m) := fun h3 => h ((hexd_eq hm).2 h3)
  unfold vfind
  by_cases hg : goodh c = true
  · have : hexv c ≠ m := fun e => h2 ⟨hg, e⟩
    by_cases hl : hexv c < m
    · rw [if_pos ⟨hg, by omega⟩, if_pos ⟨hg, hl⟩]
    · rw [if_neg (fun h => by omega), if_neg (fun h => by omega)]
  · rw [if_neg (fun h => hg h.1), if_neg (fun h => hg h.1)]
theorem vfind_good {c : Nat} (h : goodh c = true) : vfind c 16 = hexv c := by unfold vfind; rw [if_pos ⟨h, hexv_lt h⟩]
theorem vfind_bad {c : Nat} (h : goodh c = false) : vfind c 16 = 255 := by unfold vfind; rw [if_neg (by rw [h]; simp)]
theorem zeros47 : u8s (List.replicate 32 0) = #[.int .u8 0, .int .u8 0, .int .u8 0, .int .u8 0, .int .u8 0, .int .u8 0, .int .u8 0, .int .u8 0, .int .u8 0, .int .u8 0, .int .u8 0, .int .u8 0, .int .u8 0, .int .u8 0, .int .u8 0, .int .u8 0, .int .u8 0, .int .u8 0, .int .u8 0, .int .u8 0, .int .u8 0, .int .u8 0, .int .u8 0, .int .u8 0, .int .u8 0, .int .u8 0, .int .u8 0, .int .u8 0, .int .u8 0, .int .u8 0, .int .u8 0, .int .u8 0] := zeros_lit

set_option maxRecDepth 100000 in
set_option maxHeartbeats 2000000 in
theorem R1Parse_any (s : ByteArray) (w : World) :
    Calls Try.prog 39 #[.string s] w fun e w' => e = .returned (.tuple #[.agg (u8s (parseL (sB s))), .bool (parseOk (sB s))]) ∧ Below w.heap.size w w' := by
  have hlen := sB_len s
  have HLEN := Lib.hid hlen
  have hi0 := Lib.hid (info47.trans (congrArg some ((u8s_size (List.replicate 32 0)).trans (by simp : (List.replicate 32 0).length = 32)).symm))
  have ho0 := u8s_one (List.replicate 32 0)
  have hz0 := zeros_lit
  have HZ0 := Lib.hid hz0
  clear hz0 hlen
  by_cases h64 : s.size = 64
  · have hne : (((s.size : Nat) : Int) == 64) = true := by rw [beq_iff_eq]; omega
    have hne2 : (((s.size : Nat) : Int) != 64) = false := by rw [bne_eq_false_iff_eq]; omega
    have H64 := Lib.hid h64
    clear h64
    generalize hPL : parseL (sB s) = PL
    generalize hPO : parseOk (sB s) = PO
    have HPL := Lib.hid hPL
    have HPO := Lib.hid hPO
    clear hPL hPO
    go_enter Try.func39, Try.ntmps39
    go_wp2_with fail
    have hZ0 : Blk ((w.alloc (.cells (u8s (List.replicate 32 0)) 47)).alloc (.cells (u8s (List.replicate 32 0)) 47)) w.heap.size 47 (u8s (List.replicate 32 0)) := (Blk.new w _ _).alloc _
    have hB0 : Blk ((w.alloc (.cells (u8s (List.replicate 32 0)) 47)).alloc (.cells (u8s (List.replicate 32 0)) 47)) (w.heap.size + 1) 47 (u8s (nib (sB s) 0)) := by
      rw [nib_zero]; exact Blk.newAt (w.alloc _) _ _ _ (by simp)
    have hb0 : Below w.heap.size w ((w.alloc (.cells (u8s (List.replicate 32 0)) 47)).alloc (.cells (u8s (List.replicate 32 0)) 47)) := (((Keeps.refl [] w).alloc _).alloc _).below
    go_loopw [5] (fun i wr => ∃ k : Nat, k ≤ 64 ∧ i = .int .i64 k ∧ Hid (∀ j, j < k → goodh ((sB s).getD j 0) = true) ∧ Blk wr w.heap.size 47 (u8s (List.replicate 32 0)) ∧ Blk wr (w.heap.size + 1) 47 (u8s (nib (sB s) k)) ∧ Below w.heap.size w wr) (fun i _ => 64 - (intOf i).toNat)
    case atStart => exact ⟨0, by omega, rfl, by unfold Hid; intro j hj; omega, hZ0, hB0, hb0⟩
    case round =>
      clear hZ0 hB0 hb0 hne hne2
      obtain ⟨k, hk, rfl, HG, hZ, hB, hb⟩ := hrel
      by_cases hk64 : k < 64
      · have hks : k < s.size := by rw [H64.out]; exact hk64
        have hat := fun W => str_at s k hks W
        have HAT := Lib.hid hat
        have hc256 : (sB s).getD k 0 < 256 := by rw [sB_get s k hks]; exact (s[k]).toNat_lt
        have HS := Lib.hid (nib_step (sB s) k)
        have HCG : Hid (goodh ((sB s).getD k 0) = true → ∀ j, j < k + 1 → goodh ((sB s).getD j 0) = true) := by
          unfold Hid; intro hg j hj
          rcases Nat.lt_succ_iff_lt_or_eq.1 hj with h | h
          · exact HG.out j h
          · subst h; exact hg
        have HBAD : Hid (goodh ((sB s).getD k 0) = false → PL = List.replicate 32 0 ∧ PO = false) := by
          unfold Hid; intro hg
          have hb := parse_bad (d := sB s) (fun h => by have := h.2 k hk64; rw [hg] at this; cases this)
          rwa [HPL.out, HPO.out] at hb
        have hcell : ∀ w' : World, Blk w' (w.heap.size + 1) 47 (u8s (nib (sB s) k)) → w'.cell? ⟨w.heap.size + 1, k / 2, none⟩ = some (.int .u8 ((nibB (sB s) k (k / 2) : Nat) : Int)) := fun w' h => by rw [h.cell, u8s_get (by rw [nib_len]; omega), nib_get _ _ _ (by omega)]
        have HCELL := Lib.hid hcell
        have hy := nibB_mid (sB s) k HG.out
        have HST : Hid (∀ (w' : World) (n : Nat), n = hexv ((sB s).getD k 0) → Blk w' (w.heap.size + 1) 47 (u8s (nib (sB s) k)) →
            Blk (w'.setCell ⟨w.heap.size + 1, k / 2, none⟩ (.int .u8 ((nibB (sB s) k (k / 2) * 16 + n : Nat) : Int))) (w.heap.size + 1) 47 (u8s (nib (sB s) (k + 1)))) := by
          unfold Hid; rintro w' n rfl h
          have hst := h.set (k / 2) (.int .u8 ((nibB (sB s) k (k / 2) * 16 + hexv ((sB s).getD k 0) : Nat) : Int))
          rwa [u8s_set, HS.out] at hst
        have hq : (k : Int) / 2 = ((k / 2 : Nat) : Int) := by omega
        have hqb : k / 2 < 32 := by omega
        have HQ := Lib.hid hq
        clear hat hcell HS hq HG
        generalize nibB (sB s) k (k / 2) = y at *
        generalize (sB s).getD k 0 = c at *
        generalize k / 2 = q at *
        have q32 : (q : Int) < 32 := by omega
        have k64i : (k : Int) < 64 := by omega
        go_wp2_with fail
        generalize hwr : wr = w5 at *
        clear hwr
        go_loopw [6, 7] (fun v d wr => ∃ m : Nat, m ≤ 16 ∧ d = .int .u8 m ∧ v = .int .u8 (vfind c m) ∧ Blk wr w.heap.size 47 (u8s (List.replicate 32 0)) ∧ Blk wr (w.heap.size + 1) 47 (u8s (nib (sB s) k)) ∧ Below w.heap.size w wr) (fun _ d _ => 16 - (intOf d).toNat)
        case atStart => exact ⟨0, by omega, rfl, by unfold vfind; rw [if_neg (by omega)]; rfl, hZ, hB, hb⟩
        case round =>
          clear hZ hB hb
          obtain ⟨m, hm, rfl, rfl, hZ, hB, hb⟩ := hrel
          by_cases hm16 : m < 16
          · have hmi : (m : Int) < 16 := by omega
            by_cases heq : hexd m = c
            · have HV := Lib.hid (vfind_hit hm16 heq)
              have hdig := digit_any m hm16
              rw [heq] at hdig
              have HD := Lib.hid hdig
              have hat := HAT.out
              clear heq hdig
              generalize vfind c m = v at *
              go_wp2_with fail
              go_quiet ((go_at_call 53; exact Calls.quiet_of_same (HD.out _)))
              clear hat
              go_wp2_with fail
              exact ⟨⟨m + 1, by omega, by go_num, by rw [HV.out], hZ.drewN _, hB.drewN _, below_drewN hb _⟩, by simp [intOf]; omega⟩
            · have HV := Lib.hid (vfind_miss hm16 heq)
              have hdig := digit_any m hm16
              have hd1 : (((hexd m : Nat) : Int) == (c : Int)) = false := by rw [beq_eq_false_iff_ne]; intro h; exact heq (by omega)
              have HD := Lib.hid hdig
              have hat := HAT.out
              clear heq hdig
              generalize vfind c m = v at *
              generalize hexd m = x at *
              go_wp2_with fail
              go_quiet ((go_at_call 53; exact Calls.quiet_of_same (HD.out _)))
              clear hat
              go_wp2_with fail
              exact ⟨⟨m + 1, by omega, by go_num, by rw [HV.out], hZ.drewN _, hB.drewN _, below_drewN hb _⟩, by simp [intOf]; omega⟩
          · obtain rfl : m = 16 := by omega
            rw [show ((16 : Nat) : Int) = 16 from rfl]
            by_cases hg : goodh c = true
            · rw [vfind_good hg]
              have hn := hexv_lt hg
              have HG2 := Lib.hid (HCG.out hg)
              have c0 := HCELL.out wr hB
              have f0 := hB.frozen q
              have hst := HST.out wr (hexv c) rfl hB
              have HS2 := Lib.hid hst
              have hq := HQ.out
              clear hst HCG HBAD HCELL HST hg HAT
              generalize hexv c = n at *
              have hw1 : IntKind.u8.wrap ((y : Int) * 16) = (y : Int) * 16 := by rw [IntKind.wrap_u8']; omega
              have hw2 : IntKind.u8.wrap ((y : Int) * 16 + (n : Int)) = (y : Int) * 16 + (n : Int) := by rw [IntKind.wrap_u8']; omega
              have n255 : ((n : Int) == 255) = false := by rw [beq_eq_false_iff_ne]; omega
              go_wp2_with fail
              exact ⟨⟨k + 1, by omega, by go_num, HG2, hZ.far (p := ⟨w.heap.size + 1, q, none⟩) (by simp) _, HS2.out, hb.setCell (p := ⟨w.heap.size + 1, q, none⟩) (by simp) _⟩, by simp [intOf]; omega⟩
            · have hgf : goodh c = false := by simpa using hg
              rw [vfind_bad hgf]
              have hbad := HBAD.out hgf
              have HB1 := Lib.hid hbad.1
              have HB2 := Lib.hid hbad.2
              have hob := ho0
              rw [HZ0.out] at hob
              clear hbad hg hgf HCG HBAD HCELL HST HAT HQ
              rw [show ((255 : Nat) : Int) = 255 from rfl]
              go_wp2_with (refine wpList_store_blk rfl 47 (.tmp 2) (.tmp 29) rfl w.heap.size 47 _ _ rfl rfl hZ rfl info47 hob ?_; intro w' hB' hk')
              rw [← HZ0.out] at hB'
              refine post_blk_tmp rfl rfl w.heap.size 47 (u8s (List.replicate 32 0)) _ (.bool false) rfl hB' Try.underlying47 rfl hi0.out rfl ⟨by rw [HB1.out, HB2.out], ?_⟩
              exact ((Keeps.of_below (S := []) hb).trans' hk' (by simp)).below
      · obtain rfl : k = 64 := by omega
        rw [show ((64 : Nat) : Int) = 64 from rfl]
        have hgood := parse_good (d := sB s) ⟨by rw [HLEN.out, H64.out], HG.out⟩
        rw [HPL.out, HPO.out] at hgood
        have HB1 := Lib.hid hgood.1
        have HB2 := Lib.hid hgood.2
        have hl := nib_len (sB s) 64
        have hi1 := Lib.hid (info47.trans (congrArg some ((u8s_size (nib (sB s) 64)).trans hl).symm))
        have ho1 := u8s_one (nib (sB s) 64)
        have hs1 : Hid ((u8s (nib (sB s) 64)).size = (u8s (List.replicate 32 0)).size) := by unfold Hid; rw [u8s_size, u8s_size, hl]; rfl
        clear hgood hl HG HLEN
        generalize nib (sB s) 64 = R at *
        go_wp2_with (first
          | (refine wpList_load_blk rfl 47 (.tmp 4) rfl (w.heap.size + 1) rfl 47 (u8s R) _ hB Try.underlying47 rfl hi1.out ?_)
          | (refine wpList_store_blk rfl 47 (.tmp 2) (.tmp 40) rfl w.heap.size 47 _ (u8s R) rfl rfl hZ hs1.out hi1.out ho1 ?_; intro w' hB' hk'))
        refine post_blk_tmp rfl rfl w.heap.size 47 (u8s R) _ (.bool true) rfl hB' Try.underlying47 rfl hi1.out rfl ⟨by rw [HB1.out, HB2.out], ?_⟩
        exact ((Keeps.of_below (S := []) hb).trans' hk' (by simp)).below
  · have hp := parse_bad (d := sB s) (fun h => h64 (by rw [← HLEN.out]; exact h.1))
    rw [hp.1, hp.2]
    have hne : (((s.size : Nat) : Int) == 64) = false := by rw [beq_eq_false_iff_ne]; omega
    have hne2 : (((s.size : Nat) : Int) != 64) = true := by rw [bne_iff_ne]; omega
    clear h64 hp
    go_enter Try.func39, Try.ntmps39
    go_wp2_with (first
      | (refine wpList_load_blk rfl 47 (.tmp 4) rfl (w.heap.size + 1) rfl 47 (u8s (List.replicate 32 0)) _ (Blk.newAt (w.alloc _) _ _ _ (by simp)) Try.underlying47 rfl hi0.out ?_)
      | (refine wpList_store_blk rfl 47 (.tmp 2) (.tmp 11) rfl w.heap.size 47 _ (u8s (List.replicate 32 0)) rfl rfl ((Blk.new w _ _).alloc _) rfl hi0.out ho0 ?_; intro w' hB' hk'))
    refine post_blk_tmp rfl rfl w.heap.size 47 (u8s (List.replicate 32 0)) _ (.bool false) rfl hB' Try.underlying47 rfl hi0.out rfl ⟨rfl, ?_⟩
    exact ((((Keeps.refl [] w).alloc _).alloc _).trans' hk' (by simp)).below
end Go.Proofs.Ytbhlaafahfeacaa
