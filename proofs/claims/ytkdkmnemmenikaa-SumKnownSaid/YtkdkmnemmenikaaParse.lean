/- The walk of sum.Parse. -/
import Derived.Test.YtkdkmnemmenikaaParseP
import Derived.Test.YtkdkmnemmenikaaLaysI
import Derived.Test.YtkdkmnemmenikaaZero
import Derived.Lib.OthersKept
namespace Go.Proofs.Ytkdkmnemmenikaa
open Go.RowKit

theorem idx_all : ∀ c : Nat, c < 256 → Lib.indexByte [48, 49, 50, 51, 52, 53, 54, 55, 56, 57, 97, 98, 99, 100, 101, 102] c.toUInt8 = if goodh c then (hexv c : Int) else -1 := by decide +kernel
theorem idx_good (c : Nat) (hg : goodh c = true) (w : World) :
    Calls Try.prog 15 #[.string { data := #[48, 49, 50, 51, 52, 53, 54, 55, 56, 57, 97, 98, 99, 100, 101, 102] }, .int .u8 (c : Int)] w fun e w' => e = .returned (.int .i64 ((hexv c : Nat) : Int)) ∧ w = w' := by
  have hc : c < 256 := by unfold goodh at hg; simp only [Bool.or_eq_true, Bool.and_eq_true, decide_eq_true_eq] at hg; omega
  have h := idx_all c hc
  rw [if_pos hg] at h
  refine (Any.strings_IndexByte lays137 { data := #[48, 49, 50, 51, 52, 53, 54, 55, 56, 57, 97, 98, 99, 100, 101, 102] } (c : Int) w).mono ?_
  rintro e w' ⟨rfl, rfl⟩
  exact ⟨by rw [← h]; rfl, rfl⟩
theorem idx_bad (c : Nat) (hc : c < 256) (hg : goodh c = false) (w : World) :
    Calls Try.prog 15 #[.string { data := #[48, 49, 50, 51, 52, 53, 54, 55, 56, 57, 97, 98, 99, 100, 101, 102] }, .int .u8 (c : Int)] w fun e w' => e = .returned (.int .i64 (-1)) ∧ w = w' := by
  have h := idx_all c hc
  rw [if_neg (by rw [hg]; simp)] at h
  refine (Any.strings_IndexByte lays137 { data := #[48, 49, 50, 51, 52, 53, 54, 55, 56, 57, 97, 98, 99, 100, 101, 102] } (c : Int) w).mono ?_
  rintro e w' ⟨rfl, rfl⟩
  exact ⟨by rw [← h]; rfl, rfl⟩
theorem str_at (s : ByteArray) (k : Nat) (h : k < s.size) (W : World) : (Instr.index 9 (.string s) (.int .i64 (k : Int))).run Try.prog W = .ok (.int .u8 (((sB s).getD k 0 : Nat) : Int)) W := by
  rw [run_index_string W _ s _ _ Try.underlying9, dif_pos ⟨by omega, by omega⟩, sB_get s k h]
  simp
theorem good_ascii {c : Nat} (h : goodh c = true) : c < 128 := by unfold goodh at h; simp only [Bool.or_eq_true, Bool.and_eq_true, decide_eq_true_eq] at h; omega

theorem or_nib (y n : Nat) (hy : y < 16) (hn : n < 16) : bits .or .u8 ((y : Int) * 16) (n : Int) = ((y * 16 + n : Nat) : Int) := by
  have hy : y = 0 ∨ y = 1 ∨ y = 2 ∨ y = 3 ∨ y = 4 ∨ y = 5 ∨ y = 6 ∨ y = 7 ∨ y = 8 ∨ y = 9 ∨ y = 10 ∨ y = 11 ∨ y = 12 ∨ y = 13 ∨ y = 14 ∨ y = 15 := by omega
  have hn : n = 0 ∨ n = 1 ∨ n = 2 ∨ n = 3 ∨ n = 4 ∨ n = 5 ∨ n = 6 ∨ n = 7 ∨ n = 8 ∨ n = 9 ∨ n = 10 ∨ n = 11 ∨ n = 12 ∨ n = 13 ∨ n = 14 ∨ n = 15 := by omega
  rcases hy with rfl | rfl | rfl | rfl | rfl | rfl | rfl | rfl | rfl | rfl | rfl | rfl | rfl | rfl | rfl | rfl <;> rcases hn with rfl | rfl | rfl | rfl | rfl | rfl | rfl | rfl | rfl | rfl | rfl | rfl | rfl | rfl | rfl | rfl <;> decide +kernel

set_option maxRecDepth 100000 in
set_option maxHeartbeats 2000000 in
theorem Parse_any (s : ByteArray) (w : World) :
    Calls Try.prog 6 #[.string s] w fun e w' => e = .returned (.tuple #[.agg (u8s (parseL (sB s))), .bool (parseOk (sB s))]) ∧ Below w.heap.size w w' := by
  have hlen := sB_len s
  have HLEN := Lib.hid hlen
  have hi0 := Lib.hid (info32.trans (congrArg some ((u8s_size (List.replicate 32 0)).trans (by simp : (List.replicate 32 0).length = 32)).symm))
  have ho0 := u8s_one (List.replicate 32 0)
  have hz0 := zeros_lit
  have HZ0 := Lib.hid hz0
  clear hz0 hlen
  by_cases h64 : s.size = 64
  · have hne : (((s.size : Nat) : Int) == 64) = true := by rw [beq_iff_eq]; omega
    have hne2 : (((s.size : Nat) : Int) != 64) = false := by rw [bne_eq_false_iff_eq]; omega
    have H64 := Lib.hid h64
    clear h64
    generalize hPL : parseL (sB s) = PL
    generalize hPO : parseOk (sB s) = PO
    have HPL := Lib.hid hPL
    have HPO := Lib.hid hPO
    clear hPL hPO
    go_enter Try.func6, Try.ntmps6
    go_wp2_with fail
    have hZ0 : Blk (((w.alloc (.cells (u8s (List.replicate 32 0)) 24)).alloc (.cells (u8s (List.replicate 32 0)) 24)).iter s 0) w.heap.size 24 (u8s (List.replicate 32 0)) := ((Blk.new w _ _).alloc _).alloc _
    have hB0 : Blk (((w.alloc (.cells (u8s (List.replicate 32 0)) 24)).alloc (.cells (u8s (List.replicate 32 0)) 24)).iter s 0) (w.heap.size + 1) 24 (u8s (nib (sB s) 0)) := by
      rw [nib_zero]; exact (Blk.newAt (w.alloc _) _ _ _ (by simp)).alloc _
    have hI0 : (((w.alloc (.cells (u8s (List.replicate 32 0)) 24)).alloc (.cells (u8s (List.replicate 32 0)) 24)).iter s 0).heap[w.heap.size + 1 + 1]? = some (.stringIter s 0) := by
      have h := World.iter_heap ((w.alloc (.cells (u8s (List.replicate 32 0)) 24)).alloc (.cells (u8s (List.replicate 32 0)) 24)) s 0
      simpa using h
    have hb0 : Below w.heap.size w (((w.alloc (.cells (u8s (List.replicate 32 0)) 24)).alloc (.cells (u8s (List.replicate 32 0)) 24)).iter s 0) := ((((Keeps.refl [] w).alloc _).alloc _).alloc _).below
    go_loopw [5] (fun _ wr => ∃ k : Nat, k ≤ 64 ∧ Hid (∀ j, j < k → goodh ((sB s).getD j 0) = true) ∧ wr.heap[w.heap.size + 1 + 1]? = some (.stringIter s k) ∧ Blk wr w.heap.size 24 (u8s (List.replicate 32 0)) ∧ Blk wr (w.heap.size + 1) 24 (u8s (nib (sB s) k)) ∧ Below w.heap.size w wr) (fun _ wr => 64 - wr.iterPos (w.heap.size + 1 + 1))
    case atStart => exact ⟨0, by omega, by unfold Hid; intro j hj; omega, hI0, hZ0, hB0, hb0⟩
    case round =>
      clear hI0 hZ0 hB0 hb0 hne hne2
      obtain ⟨k, hk, HG, hI, hZ, hB, hb⟩ := hrel
      by_cases hk64 : k < 64
      · have hks : k < s.size := by rw [H64.out]; exact hk64
        have hnx : ∀ ty, (Instr.next (.pointer (some ⟨w.heap.size + 1 + 1, 0, none⟩)) true ty).run Try.prog wr = _ := fun ty => Lib.run_next_any_at wr (w.heap.size + 1 + 1) s k ty hI hks
        obtain ⟨w2, hw2⟩ : ∃ w2, w2 = wr.iterAt (w.heap.size + 1 + 1) s (k + (Utf8.decode s k).2) := ⟨_, rfl⟩
        have hI2 : w2.heap[w.heap.size + 1 + 1]? = some (.stringIter s (k + (Utf8.decode s k).2)) := by rw [hw2]; exact Lib.iterAt_heap wr _ s k _ hI
        have hZ2 : Blk w2 w.heap.size 24 (u8s (List.replicate 32 0)) := by rw [hw2]; exact (Lib.iterAt_other wr _ _ s _ (by omega)).trans hZ
        have hB2 : Blk w2 (w.heap.size + 1) 24 (u8s (nib (sB s) k)) := by rw [hw2]; exact (Lib.iterAt_other wr _ _ s _ (by omega)).trans hB
        have hb2 : Below w.heap.size w w2 := by rw [hw2]; exact Lib.below_iterAt hb (by omega) s _
        rw [← hw2] at hnx
        have hat := fun W => str_at s k hks W
        have hc256 : (sB s).getD k 0 < 256 := by rw [sB_get s k hks]; exact (s[k]).toNat_lt
        have hpos : wr.iterPos (w.heap.size + 1 + 1) = k := by unfold World.iterPos; rw [hI]
        have HPOS := Lib.hid hpos
        clear hI hZ hB hb hw2 hpos
        have HS := nib_step (sB s) k
        have HS := Lib.hid HS
        by_cases hg : goodh ((sB s).getD k 0) = true
        · have hdec : Utf8.decode s k = ((s[k]'hks).toNat, 1) := decode_ascii s k hks (by rw [← sB_get s k hks]; exact good_ascii hg)
          have hd1 : (Utf8.decode s k).2 = 1 := by rw [hdec]
          rw [hd1] at hI2
          have hcell : w2.cell? ⟨w.heap.size + 1, k / 2, none⟩ = some (.int .u8 ((nibB (sB s) k (k / 2) : Nat) : Int)) := by rw [hB2.cell, u8s_get (by rw [nib_len]; omega), nib_get _ _ _ (by omega)]
          have hfr := hB2.frozen (k / 2)
          have hy := nibB_mid (sB s) k HG.out
          have HG2 : Hid (∀ j, j < k + 1 → goodh ((sB s).getD j 0) = true) := by
            unfold Hid; intro j hj
            rcases Nat.lt_succ_iff_lt_or_eq.1 hj with h | h
            · exact HG.out j h
            · subst h; exact hg
          have hst := hB2.set (k / 2) (.int .u8 ((nibB (sB s) k (k / 2) * 16 + hexv ((sB s).getD k 0) : Nat) : Int))
          rw [u8s_set, HS.out] at hst
          have HST := Lib.hid hst
          have hn := hexv_lt hg
          have hq : (k : Int) / 2 = ((k / 2 : Nat) : Int) := by omega
          have hqb : k / 2 < 32 := by omega
          have hgd := idx_good _ hg
          have HGD := Lib.hid hgd
          clear hdec hd1 hst HS hB2 hg hgd
          generalize nibB (sB s) k (k / 2) = y at *
          generalize (Utf8.decode s k).1 = rune at *
          generalize (sB s).getD k 0 = c at *
          generalize hexv c = n at *
          generalize k / 2 = q at *
          have hor := or_nib y n hy hn
          have hwn : IntKind.u8.wrap (n : Int) = (n : Int) := by rw [IntKind.wrap_u8']; omega
          have q32 : (q : Int) < 32 := by omega
          have n0 : decide ((n : Int) < 0) = false := by rw [decide_eq_false_iff_not]; omega
          go_wp2_with fail
          refine (HGD.out _).mono ?_
          rintro e w3 ⟨rfl, rfl⟩
          go_wp2_with fail
          have hI3 : (w2.setCell ⟨w.heap.size + 1, q, none⟩ (.int .u8 ((y * 16 + n : Nat) : Int))).heap[w.heap.size + 1 + 1]? = some (.stringIter s (k + 1)) := by simpa [World.setCell, Array.getElem?_modify] using hI2
          have hP3 : (w2.setCell ⟨w.heap.size + 1, q, none⟩ (.int .u8 ((y * 16 + n : Nat) : Int))).iterPos (w.heap.size + 1 + 1) = k + 1 := by unfold World.iterPos; rw [hI3]
          exact ⟨⟨k + 1, by omega, HG2, hI3, hZ2.far (p := ⟨w.heap.size + 1, q, none⟩) (by simp) _, HST.out, hb2.setCell (p := ⟨w.heap.size + 1, q, none⟩) (by simp) _⟩, by rw [HPOS.out]; have h := hP3; simp only [Int.natCast_add, Int.natCast_mul, Int.cast_ofNat_Int] at h; rw [h]; omega⟩
        · have hgf : goodh ((sB s).getD k 0) = false := by simpa using hg
          have hbad := parse_bad (d := sB s) (fun h => hg (h.2 k hk64))
          rw [HPL.out, HPO.out] at hbad
          have HB1 := Lib.hid hbad.1
          have HB2 := Lib.hid hbad.2
          have hgd := idx_bad _ hc256 hgf
          have HGD := Lib.hid hgd
          have hZ2l := HZ0.out
          have HZL := Lib.hid hZ2l
          clear HS hB2 hg hgd hgf hbad HG hZ2l
          generalize (Utf8.decode s k).1 = rune at *
          generalize (sB s).getD k 0 = c at *
          go_wp2_with fail
          refine (HGD.out _).mono ?_
          rintro e w3 ⟨rfl, rfl⟩
          have hob := ho0
          rw [HZ0.out] at hob
          go_wp2_with (refine wpList_store_blk rfl 24 (.tmp 2) (.tmp 22) rfl w.heap.size 24 _ _ rfl rfl hZ2 rfl info32 hob ?_; intro w' hB' hk')
          rw [← HZ0.out] at hB'
          refine post_blk_tmp rfl rfl w.heap.size 24 (u8s (List.replicate 32 0)) _ (.bool false) rfl hB' Try.underlying24 rfl hi0.out rfl ⟨by rw [HB1.out, HB2.out], ?_⟩
          exact ((Keeps.of_below (S := []) hb2).trans' hk' (by simp)).below
      · obtain rfl : k = 64 := by omega
        have hgood := parse_good (d := sB s) ⟨by rw [HLEN.out, H64.out], HG.out⟩
        rw [HPL.out, HPO.out] at hgood
        have HB1 := Lib.hid hgood.1
        have HB2 := Lib.hid hgood.2
        have hks : ¬ 64 < s.size := by rw [H64.out]; omega
        have hnx : ∀ ty, (Instr.next (.pointer (some ⟨w.heap.size + 1 + 1, 0, none⟩)) true ty).run Try.prog wr = _ := fun ty => Lib.run_next_end_at wr (w.heap.size + 1 + 1) s 64 ty hI hks
        have hl := nib_len (sB s) 64
        have hi1 := Lib.hid (info32.trans (congrArg some ((u8s_size (nib (sB s) 64)).trans hl).symm))
        have ho1 := u8s_one (nib (sB s) 64)
        have hs1 : Hid ((u8s (nib (sB s) 64)).size = (u8s (List.replicate 32 0)).size) := by unfold Hid; rw [u8s_size, u8s_size, hl]; rfl
        clear hgood hks hl HG HLEN
        generalize nib (sB s) 64 = R at *
        go_wp2_with (first
          | (refine wpList_load_blk rfl 24 (.tmp 4) rfl (w.heap.size + 1) rfl 24 (u8s R) _ hB Try.underlying24 rfl hi1.out ?_)
          | (refine wpList_store_blk rfl 24 (.tmp 2) (.tmp 34) rfl w.heap.size 24 _ (u8s R) rfl rfl hZ hs1.out hi1.out ho1 ?_; intro w' hB' hk'))
        refine post_blk_tmp rfl rfl w.heap.size 24 (u8s R) _ (.bool true) rfl hB' Try.underlying24 rfl hi1.out rfl ⟨by rw [HB1.out, HB2.out], ?_⟩
        exact ((Keeps.of_below (S := []) hb).trans' hk' (by simp)).below
  · have hp := parse_bad (d := sB s) (fun h => h64 (by rw [← HLEN.out]; exact h.1))
    rw [hp.1, hp.2]
    have hne : (((s.size : Nat) : Int) == 64) = false := by rw [beq_eq_false_iff_ne]; omega
    have hne2 : (((s.size : Nat) : Int) != 64) = true := by rw [bne_iff_ne]; omega
    clear h64 hp
    go_enter Try.func6, Try.ntmps6
    go_wp2_with (first
      | (refine wpList_load_blk rfl 24 (.tmp 4) rfl (w.heap.size + 1) rfl 24 (u8s (List.replicate 32 0)) _ (Blk.newAt (w.alloc _) _ _ _ (by simp)) Try.underlying24 rfl hi0.out ?_)
      | (refine wpList_store_blk rfl 24 (.tmp 2) (.tmp 10) rfl w.heap.size 24 _ (u8s (List.replicate 32 0)) rfl rfl ((Blk.new w _ _).alloc _) rfl hi0.out ho0 ?_; intro w' hB' hk'))
    refine post_blk_tmp rfl rfl w.heap.size 24 (u8s (List.replicate 32 0)) _ _ rfl hB' Try.underlying24 rfl hi0.out rfl ⟨rfl, ?_⟩
    exact ((((Keeps.refl [] w).alloc _).alloc _).trans' hk' (by simp)).below
end Go.Proofs.Ytkdkmnemmenikaa
