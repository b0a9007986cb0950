/- Layer 13: the walk of CellOrder. -/
import Derived.Test.YtbhlaafahfeacaaCellP
namespace Go.Proofs.Ytbhlaafahfeacaa
open Go.RowKit

/-- The list, begun at place m. -/
def turnL (ls : List Sm) (m : Nat) : List Sm := (List.range ls.length).map fun i => ls.getD ((i + m) % ls.length) Sm.zero
theorem turnL_len (ls : List Sm) (m : Nat) : (turnL ls m).length = ls.length := by simp [turnL]
theorem turnL_perm (ls : List Sm) (m : Nat) (hm : m < ls.length) : (turnL ls m).Perm ls := by
  have h : turnL ls m = ls.drop m ++ ls.take m := by
    apply List.ext_getElem
    · rw [turnL_len]; simp; omega
    · intro i h1 h2
      rw [turnL_len] at h1
      simp only [turnL, List.getElem_map, List.getElem_range]
      by_cases hi : i + m < ls.length
      · rw [Nat.mod_eq_of_lt hi, List.getElem_append_left (by simp; omega), List.getElem_drop]
        simp only [List.getD, List.getElem?_eq_getElem hi, Option.getD_some]
        congr 1; omega
      · have e : (i + m) % ls.length = i + m - ls.length := by
          rw [Nat.mod_eq_sub_mod (by omega), Nat.mod_eq_of_lt (by omega)]
        have hl : i + m - ls.length < ls.length := by omega
        rw [e, List.getElem_append_right (by simp; omega), List.getElem_take]
        simp only [List.getD, List.getElem?_eq_getElem hl, Option.getD_some]
        congr 1; simp; omega
  rw [h]
  have h2 : (ls.drop m ++ ls.take m).Perm (ls.take m ++ ls.drop m) := List.perm_append_comm
  rwa [List.take_append_drop] at h2
theorem turnL_get (ls : List Sm) (m i : Nat) (hi : i < ls.length) : (turnL ls m).take (i + 1) = (turnL ls m).take i ++ [ls.getD ((i + m) % ls.length) Sm.zero] := by
  rw [List.take_succ_eq_append_getElem (by rw [turnL_len]; exact hi)]
  simp [turnL]
theorem take_snoc_sm (ls : List Sm) (i : Nat) (hi : i < ls.length) : ls.take (i + 1) = ls.take i ++ [ls.getD i Sm.zero] := by
  rw [List.take_succ_eq_append_getElem hi]
  simp [List.getD, List.getElem?_eq_getElem hi]
theorem getD_some_sm {ls : List Sm} {i : Nat} (hi : i < ls.length) : ls[i]? = some (ls.getD i Sm.zero) := by
  simp [List.getD, List.getElem?_eq_getElem hi]

set_option maxRecDepth 100000 in
set_option maxHeartbeats 4000000 in
theorem lawCellOrder_any (A : Option Addr) (n c : Nat) (ls : List Sm) (turn : Int) (w : World) (hl : ls.length = n) (hr : Rds w A ls) (hA : A = none → n = 0) (hn : n ≤ maxLen) :
    Calls Try.prog 8 #[.slice A n c, .int .i64 turn] w fun e w' => e = .returned (.bool true) ∧ Below w.heap.size w w' := by
  unfold maxLen at hn
  go_enter Try.func8, Try.ntmps8
  go_wp2_with fail
  refine (awake13_any _).mono ?_
  rintro e w1 ⟨rfl, hb1⟩
  by_cases c1 : n < 1
  · have c1' : (n : Int) < 1 := by omega
    go_wp2_with fail
    go_ret
    exact ⟨rfl, hb1⟩
  have c1' : decide ((n : Int) < 1) = false := decide_eq_false (by omega)
  by_cases c2 : 60 < n
  · have c2' : (60 : Int) < (n : Int) := by omega
    go_wp2_with fail
    go_ret
    exact ⟨rfl, hb1⟩
  have c2' : decide ((60 : Int) < (n : Int)) = false := decide_eq_false (by omega)
  by_cases c3 : turn < 0
  · go_wp2_with fail
    go_ret
    exact ⟨rfl, hb1⟩
  obtain ⟨tn, rfl⟩ := Int.eq_ofNat_of_zero_le (show 0 ≤ turn by omega)
  have c3' : decide ((tn : Int) < 0) = false := decide_eq_false (by omega)
  obtain ⟨ad, rfl⟩ : ∃ ad, A = some ad := by
    cases A with
    | none => have := hA rfl; omega
    | some ad => exact ⟨ad, rfl⟩
  have hzv := zero34
  have hz65 : Cl.zero.a = zero65 := rfl
  have HZ65 := Lib.hid hz65
  have hi0 := Lib.hid (info34.trans (congrArg some Cl.zero.size.symm))
  have hs0 : Hid (Cl.zero.a.size = zero65.size) := Cl.zero.size.trans zero65_size.symm
  have ho0 := Cl.zero.one
  have HI := Lib.hid (fun c : Cl => info34.trans (congrArg some c.size.symm))
  have HSZ := Lib.hid (fun c d : Cl => c.size.trans d.size.symm)
  have HL := Lib.hid hl
  have HN := Lib.hid (show 1 ≤ n ∧ n ≤ 60 from ⟨by omega, by omega⟩)
  have HR := Lib.hid hr
  clear hz65 hl hr c1 c2 c3 hA
  rw [HZ65.out] at ho0 hs0 hi0
  go_wp2_with (first
    | (refine wpList_val rfl _ (exec_build rfl (build_zero34 _)) ?_)
    | (refine wpList_store_blk rfl 34 (.tmp 5) (.tmp 23) rfl w1.heap.size 34 _ zero65 rfl rfl ((Blk.new w1 _ _).alloc _) rfl hi0.out ho0 ?_; intro w2 hA2 hk2)
    | (refine wpList_store_blk rfl 34 (.tmp 6) (.tmp 24) rfl (w1.heap.size + 1) 34 _ zero65 rfl rfl ((Blk.newAt (w1.alloc _) _ _ _ (by simp)).keeps hk2 (by simp)) rfl hi0.out ho0 ?_; intro w3 hB3 hk3))
  have hA3 : Blk w3 w1.heap.size 34 (putAll 1 Cl.zero (ls.take 0)).a := hA2.keeps hk3 (by simp)
  have hB3' : Blk w3 (w1.heap.size + 1) 34 (putAll 1 Cl.zero ((turnL ls (tn % n)).take 0)).a := hB3
  have hb : Below w.heap.size w w3 := (((((Keeps.of_below (S := []) hb1).alloc _).alloc _).trans' hk2 (by have := hb1.size; simp; omega)).trans' hk3 (by have := hb1.size; simp; omega)).below
  have hga : w.heap.size ≤ w1.heap.size := hb1.size
  clear hA2 hB3 hk2 hk3 hb1
  generalize w1.heap.size = ga at *
  have ht1 : (tn : Int) % (n : Int) = ((tn % n : Nat) : Int) := by rw [← Int.natCast_emod]
  have ht2 : (tn : Int).tmod (n : Int) = ((tn % n : Nat) : Int) := by rw [Int.tmod_eq_emod_of_nonneg (by omega)]; exact ht1
  have htm : tn % n < n := Nat.mod_lt _ (by have := HN.out; omega)
  have HT1 := Lib.hid ht1
  have HT2 := Lib.hid ht2
  clear ht1 ht2 hs0 c1' c2' c3'
  generalize tn % n = tm at *
  have hn60 : n ≤ 60 := HN.out.2
  have hn1 : 1 ≤ n := HN.out.1
  go_loopw [7] (fun i wr => ∃ k : Nat, k ≤ n ∧ i = .int .i64 k ∧ Blk wr ga 34 (putAll 1 Cl.zero (ls.take k)).a ∧ Blk wr (ga + 1) 34 (putAll 1 Cl.zero ((turnL ls tm).take k)).a ∧ Below w.heap.size w wr) (fun i _ => n - (intOf i).toNat)
  case atStart => exact ⟨0, by omega, rfl, hA3, hB3', hb⟩
  case round =>
    clear hA3 hB3' hb
    obtain ⟨k, hk, rfl, hA, hB, hb⟩ := hrel
    by_cases hkn : k < n
    · have hkn' : (k : Int) < (n : Int) := by omega
      have hk0 : (0 : Int) ≤ (k : Int) := by omega
      have hs1 : putAll 1 Cl.zero (ls.take (k + 1)) = (putAll 1 Cl.zero (ls.take k)).put (ls.getD k Sm.zero) 1 := by rw [take_snoc_sm ls k (by rw [HL.out]; exact hkn), putAll_snoc]
      have hs2 : putAll 1 Cl.zero ((turnL ls tm).take (k + 1)) = (putAll 1 Cl.zero ((turnL ls tm).take k)).put (ls.getD ((k + tm) % n) Sm.zero) 1 := by rw [turnL_get ls tm k (by rw [HL.out]; exact hkn), putAll_snoc, HL.out]
      have HS1 := Lib.hid hs1
      have HS2 := Lib.hid hs2
      have hrm : (k + tm) % n < n := Nat.mod_lt _ (by omega)
      have hrm1 : ((k : Int) + (tm : Int)) % (n : Int) = (((k + tm) % n : Nat) : Int) := by rw [← Int.natCast_add, ← Int.natCast_emod]
      have hrm2 : ((k : Int) + (tm : Int)).tmod (n : Int) = (((k + tm) % n : Nat) : Int) := by rw [Int.tmod_eq_emod_of_nonneg (by omega)]; exact hrm1
      have HM1 := Lib.hid hrm1
      have HM2 := Lib.hid hrm2
      have hg1 := getD_some_sm (ls := ls) (i := k) (by rw [HL.out]; exact hkn)
      have hg2 := getD_some_sm (ls := ls) (i := (k + tm) % n) (by rw [HL.out]; exact hrm)
      have HG1 := Lib.hid hg1
      have HG2 := Lib.hid hg2
      clear hs1 hs2 hrm1 hrm2 hg1 hg2
      generalize (k + tm) % n = r at *
      generalize ls.getD k Sm.zero = x at *
      generalize ls.getD r Sm.zero = y at *
      generalize hC : putAll 1 Cl.zero (ls.take k) = C at *
      generalize hD : putAll 1 Cl.zero ((turnL ls tm).take k) = D at *
      clear hC hD
      have lc := later_cell34 C hA
      have le := load_elem (HR.out.below hb) HG1.out
      have HP := Lib.hid (fun W => Put_any C x W)
      have ho1 := (C.put x 1).one
      go_wp2_with fail
      refine wp_region_later_tail 6 (by kernel_rfl) (by kernel_rfl) ?_
      simp only [List.take_succ_cons, List.take_zero, List.drop_succ_cons, List.drop_zero]
      repeat (first
        | go_big_quiet_skip
        | (go_big_quiet_want
           first
           | ((first | refine quiet_load _ _ rfl _ _ rfl lc ?_ | refine quiet_load _ _ rfl _ _ rfl le ?_)
              simp only [Act.put, List.setIfInBounds_toArray, List.set_cons_succ, List.set_cons_zero]
              go_big_quiet_on)
           | (go_big_quiet_op
              first
              | go_big_quiet_on
              | (go_big_quiet_call ((go_at_call 20; with_reducible exact later_of (HP.out _)))))))
      refine wpQuiet_nil ?_
      rintro _ ⟨p, rfl⟩
      replace hA := hA.below p.below
      replace hB := hB.below p.below
      replace hb := hb.trans (p.below.mono hb.size)
      clear lc le
      generalize p.wd = w6 at *
      go_wp2_with (refine wpList_store_blk rfl 34 (.tmp 5) (.tmp 36) rfl ga 34 _ (C.put x 1).a rfl rfl hA (HSZ.out _ _) (HI.out _) ho1 ?_; intro w7 hN0 hKs0)
      try simp only [Act.put]
      replace hB := hB.keeps hKs0 (by simp)
      replace hb : Below w.heap.size w w7 := ((Keeps.of_below (S := []) hb).trans' hKs0 (by simp; omega)).below
      clear hA hKs0 ho1 HP hkn' hk0
      have lc := later_cell34 D hB
      have le := load_elem (HR.out.below hb) HG2.out
      have HP2 := Lib.hid (fun W => Put_any D y W)
      have ho2 := (D.put y 1).one
      have wk : IntKind.i64.wrap ((k : Int) + (tm : Int)) = (k : Int) + (tm : Int) := IntWalk.i64_in _ (by omega)
      have kt0 : (0 : Int) ≤ (k : Int) + (tm : Int) := by omega
      have hr0 : (0 : Int) ≤ (r : Int) := by omega
      have hrn : (r : Int) < (n : Int) := by omega
      have q1 := HT1.out
      have q2 := HT2.out
      have q3 := HM1.out
      have q4 := HM2.out
      go_wp2_with fail
      refine wp_region_later_tail 14 (by kernel_rfl) (by kernel_rfl) ?_
      simp only [List.take_succ_cons, List.take_zero, List.drop_succ_cons, List.drop_zero]
      repeat (first
        | go_big_quiet_skip
        | (go_big_quiet_want
           first
           | ((first | refine quiet_load _ _ rfl _ _ rfl lc ?_ | refine quiet_load _ _ rfl _ _ rfl le ?_)
              simp only [Act.put, List.setIfInBounds_toArray, List.set_cons_succ, List.set_cons_zero]
              go_big_quiet_on)
           | (go_big_quiet_op
              first
              | go_big_quiet_on
              | (go_big_quiet_call ((go_at_call 20; with_reducible exact later_of (HP2.out _)))))))
      refine wpQuiet_nil ?_
      rintro _ ⟨p, rfl⟩
      replace hN0 := hN0.below p.below
      replace hB := hB.below p.below
      replace hb := hb.trans (p.below.mono hb.size)
      clear lc le
      generalize p.wd = w6 at *
      go_wp2_with (refine wpList_store_blk rfl 34 (.tmp 6) (.tmp 50) rfl (ga + 1) 34 _ (D.put y 1).a rfl rfl hB (HSZ.out _ _) (HI.out _) ho2 ?_; intro w8 hM0 hKs1)
      try simp only [Act.put]
      clear q1 q2 q3 q4 wk kt0 hr0 hrn
      have hA9 := hN0.keeps hKs1 (by simp)
      rw [← HS1.out] at hA9
      have hB9 := hM0
      rw [← HS2.out] at hB9
      exact ⟨⟨k + 1, by omega, by go_num, hA9, hB9, ((Keeps.of_below (S := []) hb).trans' hKs1 (by simp; omega)).below⟩, by simp [intOf]; omega⟩
    · obtain rfl : k = n := by omega
      have hP : putAll 1 Cl.zero ((turnL ls tm).take k) = putAll 1 Cl.zero ls := by
        rw [List.take_of_length_le (by rw [turnL_len, HL.out]; omega)]
        exact putAll_perm (turnL_perm ls tm (by rw [HL.out]; exact htm)) _
      rw [hP] at hB
      rw [List.take_of_length_le (by rw [HL.out]; omega)] at hA
      have hcn : (putAll 1 Cl.zero ls).n = (k : Int) := by
        rw [putAll_n _ _ zero_norm, HL.out]
        exact (wrap64_of (by simp [Cl.zero] <;> omega) (by simp [Cl.zero] <;> omega)).trans (by simp [Cl.zero])
      have hback : putAll (-1) (putAll 1 Cl.zero ls) ls = Cl.zero := putAll_back _ _ zero_norm
      have hcnt := cell_count hA
      have hcnt' : wr.cell? ⟨ga, 0, none⟩ = some (.int .i64 (k : Int)) := by rw [hcnt]; exact congrArg (fun z => some (Value.int .i64 z)) hcn
      have HB := Lib.hid hback
      have hne := fun W => neq_cl34 (putAll 1 Cl.zero ls) (putAll 1 Cl.zero ls) W
      rw [decide_eq_true rfl] at hne
      have HMI := Lib.hid (fun W => Minus_any (putAll 1 Cl.zero ls) (putAll 1 Cl.zero ls) W)
      rw [minus_self] at HMI
      have HZE := Lib.hid (fun W => CellZero_any Cl.zero W)
      rw [decide_eq_true rfl] at HZE
      have hiC := HI.out (putAll 1 Cl.zero ls)
      have HIC := Lib.hid hiC
      clear hP hcn hback hcnt hiC
      generalize hC : putAll 1 Cl.zero ls = C at *
      clear hC
      have hgdc : Try.prog.eqGuardType Try.prog.depth 34 = false := by kernel_rfl
      go_wp2_with (first
        | (refine wpList_valg rfl _ (exec_load (x := .tmp 5) rfl rfl (load_blk hA Try.underlying34 rfl HIC.out)) ?_)
        | (refine wpList_valg rfl _ (exec_load (x := .tmp 6) rfl rfl (load_blk hB Try.underlying34 rfl HIC.out)) ?_)
        | (go_at_call 26; refine (HMI.out _).mono ?_; rintro e w5 ⟨rfl, hb5⟩)
        | (go_at_call 28; refine (HZE.out _).mono ?_; rintro e w6 ⟨rfl, hb6⟩))
      have hA6 : Blk w6 ga 34 (putAll (-1) C (ls.take 0)).a := (hA.below hb5).below hb6
      have hb6' : Below w.heap.size w w6 := (hb.trans (hb5.mono hb.size)).trans (hb6.mono (Nat.le_trans hb.size hb5.size))
      clear hA hB hb hb5 hb6 hcnt' hne HMI hgdc HIC htm
      go_loopw [8] (fun i wr => ∃ j : Nat, j ≤ k ∧ i = .int .i64 j ∧ Blk wr ga 34 (putAll (-1) C (ls.take j)).a ∧ Below w.heap.size w wr) (fun i _ => k - (intOf i).toNat)
      case atStart => exact ⟨0, by omega, rfl, hA6, hb6'⟩
      case round =>
        clear hA6 hb6'
        obtain ⟨j, hj, rfl, hA, hb⟩ := hrel
        by_cases hjk : j < k
        · have hkn' : (j : Int) < (k : Int) := by omega
          have hk0 : (0 : Int) ≤ (j : Int) := by omega
          have hs1 : putAll (-1) C (ls.take (j + 1)) = (putAll (-1) C (ls.take j)).put (ls.getD j Sm.zero) (-1) := by rw [take_snoc_sm ls j (by rw [HL.out]; exact hjk), putAll_snoc]
          have HS1 := Lib.hid hs1
          have hg1 := getD_some_sm (ls := ls) (i := j) (by rw [HL.out]; exact hjk)
          have HG1 := Lib.hid hg1
          clear hs1 hg1
          generalize ls.getD j Sm.zero = x at *
          generalize hD : putAll (-1) C (ls.take j) = D at *
          clear hD
          have lc := later_cell34 D hA
          have le := load_elem (HR.out.below hb) HG1.out
          have HP := Lib.hid (fun W => Take_any D x W)
          have ho1 := (D.put x (-1)).one
          go_wp2_with fail
          refine wp_region_later_tail 6 (by kernel_rfl) (by kernel_rfl) ?_
          simp only [List.take_succ_cons, List.take_zero, List.drop_succ_cons, List.drop_zero]
          repeat (first
            | go_big_quiet_skip
            | (go_big_quiet_want
               first
               | ((first | refine quiet_load _ _ rfl _ _ rfl lc ?_ | refine quiet_load _ _ rfl _ _ rfl le ?_)
                  simp only [Act.put, List.setIfInBounds_toArray, List.set_cons_succ, List.set_cons_zero]
                  go_big_quiet_on)
               | (go_big_quiet_op
                  first
                  | go_big_quiet_on
                  | (go_big_quiet_call ((go_at_call 21; with_reducible exact later_of (HP.out _)))))))
          refine wpQuiet_nil ?_
          rintro _ ⟨p, rfl⟩
          replace hA := hA.below p.below
          replace hb := hb.trans (p.below.mono hb.size)
          clear lc le
          generalize p.wd = w6 at *
          go_wp2_with (refine wpList_store_blk rfl 34 (.tmp 5) (.tmp 79) rfl ga 34 _ (D.put x (-1)).a rfl rfl hA (HSZ.out _ _) (HI.out _) ho1 ?_; intro w7 hN0 hKs0)
          try simp only [Act.put]
          have hA9 := hN0
          rw [← HS1.out] at hA9
          exact ⟨⟨j + 1, by omega, by go_num, hA9, ((Keeps.of_below (S := []) hb).trans' hKs0 (by simp; omega)).below⟩, by simp [intOf]; omega⟩
        · obtain rfl : j = k := by omega
          rw [List.take_of_length_le (by rw [HL.out]; omega), HB.out] at hA
          have hiz := Lib.hid (info34.trans (congrArg some Cl.zero.size.symm))
          generalize Cl.zero.a = Z at *
          go_wp2_with (first
            | (refine wpList_valg rfl _ (exec_load (x := .tmp 5) rfl rfl (load_blk hA Try.underlying34 rfl hiz.out)) ?_)
            | (go_at_call 28; refine (HZE.out _).mono ?_; rintro e w9 ⟨rfl, hb9⟩))
          go_ret
          exact ⟨rfl, hb.trans (hb9.mono hb.size)⟩
end Go.Proofs.Ytbhlaafahfeacaa
