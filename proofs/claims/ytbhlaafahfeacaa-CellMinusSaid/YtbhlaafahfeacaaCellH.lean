/- Layer 13: the walk of CellMinus. -/
import Derived.Test.YtbhlaafahfeacaaCellP
namespace Go.Proofs.Ytbhlaafahfeacaa
open Go.RowKit

theorem take_snoc_sm (ls : List Sm) (i : Nat) (hi : i < ls.length) : ls.take (i + 1) = ls.take i ++ [ls.getD i Sm.zero] := by
  rw [List.take_succ_eq_append_getElem hi]
  simp [List.getD, List.getElem?_eq_getElem hi]
theorem getD_some_sm {ls : List Sm} {i : Nat} (hi : i < ls.length) : ls[i]? = some (ls.getD i Sm.zero) := by
  simp [List.getD, List.getElem?_eq_getElem hi]
theorem quiet_buildz34 {o : Oper} {a : Act} {W : World → Prop} {Q : Act → Prop} (ho : o.op = .build 34 #[]) (hk : Q (a.put o.dst (.agg zero65))) : o.quiet Try.prog a W Q :=
  ⟨_, fun w _ => by
    have h := build_zero34 w
    unfold Oper.quietAt execOp
    rw [ho]
    simp [h, Oper.quietUpon], hk⟩

set_option maxRecDepth 100000 in
set_option maxHeartbeats 4000000 in
theorem lawCellMinus_any (A : Option Addr) (n c : Nat) (B : Option Addr) (m d : Nat) (ls ks : List Sm) (w : World) (hl : ls.length = n) (hr : Rds w A ls) (hA : A = none → n = 0) (hn : n ≤ maxLen) (hl2 : ks.length = m) (hr2 : Rds w B ks) (hB : B = none → m = 0) (hm : m ≤ maxLen) :
    Calls Try.prog 9 #[.slice A n c, .slice B m d] w fun e w' => e = .returned (.bool true) ∧ Below w.heap.size w w' := by
  unfold maxLen at hn hm
  have HAN := Lib.hid hA
  have HBN := Lib.hid hB
  clear hA hB
  go_enter Try.func9, Try.ntmps9
  go_wp2_with fail
  refine (awake13_any _).mono ?_
  rintro e w1 ⟨rfl, hb1⟩
  by_cases c1 : 40 < n
  · have c1' : (40 : Int) < (n : Int) := by omega
    go_wp2_with fail
    go_ret
    exact ⟨rfl, hb1⟩
  have c1' : decide ((40 : Int) < (n : Int)) = false := decide_eq_false (by omega)
  by_cases c2 : 40 < m
  · have c2' : (40 : Int) < (m : Int) := by omega
    go_wp2_with fail
    go_ret
    exact ⟨rfl, hb1⟩
  have c2' : decide ((40 : Int) < (m : Int)) = false := decide_eq_false (by omega)
  have hzv := zero34
  have hz65 : Cl.zero.a = zero65 := rfl
  have HZ65 := Lib.hid hz65
  have hi0 := Lib.hid (info34.trans (congrArg some Cl.zero.size.symm))
  have ho0 := Cl.zero.one
  have HI := Lib.hid (fun c : Cl => info34.trans (congrArg some c.size.symm))
  have HSZ := Lib.hid (fun c d : Cl => c.size.trans d.size.symm)
  have HL := Lib.hid hl
  have HL2 := Lib.hid hl2
  have HN := Lib.hid (show n ≤ 40 ∧ m ≤ 40 from ⟨by omega, by omega⟩)
  have HR := Lib.hid hr
  have HR2 := Lib.hid hr2
  clear hz65 hl hr hl2 hr2 c1 c2
  rw [HZ65.out] at ho0 hi0
  go_wp2_with (first
    | (refine wpList_val rfl _ (exec_build rfl (build_zero34 _)) ?_)
    | (refine wpList_store_blk rfl 34 (.tmp 5) (.tmp 20) rfl w1.heap.size 34 _ zero65 rfl rfl (((Blk.new w1 _ _).alloc _).alloc _) rfl hi0.out ho0 ?_; intro w2 hA2 hk2)
    | (refine wpList_store_blk rfl 34 (.tmp 6) (.tmp 21) rfl (w1.heap.size + 1) 34 _ zero65 rfl rfl (((Blk.newAt (w1.alloc _) _ _ _ (by simp)).alloc _).keeps hk2 (by simp)) rfl hi0.out ho0 ?_; intro w3 hB3 hk3)
    | (refine wpList_store_blk rfl 34 (.tmp 7) (.tmp 22) rfl (w1.heap.size + 1 + 1) 34 _ zero65 rfl rfl (((Blk.newAt ((w1.alloc _).alloc _) _ _ _ (by simp)).keeps hk2 (by simp; omega)).keeps hk3 (by simp)) rfl hi0.out ho0 ?_; intro w4 hC4 hk4))
  have hA4 : Blk w4 w1.heap.size 34 (putAll 1 Cl.zero (ls.take 0)).a := (hA2.keeps hk3 (by simp)).keeps hk4 (by simp; omega)
  have hB4 : Blk w4 (w1.heap.size + 1) 34 Cl.zero.a := hB3.keeps hk4 (by simp)
  have hC4' : Blk w4 (w1.heap.size + 1 + 1) 34 (putAll 1 Cl.zero (ls.take 0)).a := hC4
  have hb : Below w.heap.size w w4 := ((((((Keeps.of_below (S := []) hb1).alloc _).alloc _).alloc _).trans' hk2 (by have := hb1.size; simp; omega)).trans' hk3 (by have := hb1.size; simp; omega)).trans' hk4 (by have := hb1.size; simp; omega) |>.below
  have hga : w.heap.size ≤ w1.heap.size := hb1.size
  clear hA2 hB3 hC4 hk2 hk3 hk4 hb1 c1' c2'
  generalize w1.heap.size = ga at *
  have hn60 : n ≤ 40 := HN.out.1
  have hm60 : m ≤ 40 := HN.out.2
  go_loopw [8] (fun i wr => ∃ k : Nat, k ≤ n ∧ i = .int .i64 k ∧ Blk wr ga 34 (putAll 1 Cl.zero (ls.take k)).a ∧ Blk wr (ga + 1) 34 Cl.zero.a ∧ Blk wr (ga + 1 + 1) 34 (putAll 1 Cl.zero (ls.take k)).a ∧ Below w.heap.size w wr) (fun i _ => n - (intOf i).toNat)
  case atStart => exact ⟨0, by omega, rfl, hA4, hB4, hC4', hb⟩
  case round =>
    clear hA4 hB4 hC4' hb
    obtain ⟨k, hk, rfl, hA, hB, hC, hb⟩ := hrel
    by_cases hkn : k < n
    · have hkn' : (k : Int) < (n : Int) := by omega
      have hk0 : (0 : Int) ≤ (k : Int) := by omega
      obtain ⟨ad, rfl⟩ : ∃ ad, A = some ad := by
        cases A with
        | none => have := HAN.out rfl; omega
        | some ad => exact ⟨ad, rfl⟩
      have hs1 : putAll 1 Cl.zero (ls.take (k + 1)) = (putAll 1 Cl.zero (ls.take k)).put (ls.getD k Sm.zero) 1 := by rw [take_snoc_sm ls k (by rw [HL.out]; exact hkn), putAll_snoc]
      have HS1 := Lib.hid hs1
      have hg1 := getD_some_sm (ls := ls) (i := k) (by rw [HL.out]; exact hkn)
      have HG1 := Lib.hid hg1
      clear hs1 hg1
      generalize ls.getD k Sm.zero = x at *
      generalize hC' : putAll 1 Cl.zero (ls.take k) = C at *
      clear hC'
      have lc := later_cell34 C hA
      have le := load_elem (HR.out.below hb) HG1.out
      have HP := Lib.hid (fun W => Put_any C x W)
      have ho1 := (C.put x 1).one
      go_wp2_with fail
      refine wp_region_later_tail 6 (by kernel_rfl) (by kernel_rfl) ?_
      simp only [List.take_succ_cons, List.take_zero, List.drop_succ_cons, List.drop_zero]
      repeat (first
        | go_big_quiet_skip
        | (go_big_quiet_want
           first
           | ((first | refine quiet_load _ _ rfl _ _ rfl lc ?_ | refine quiet_load _ _ rfl _ _ rfl le ?_)
              simp only [Act.put, List.setIfInBounds_toArray, List.set_cons_succ, List.set_cons_zero]
              go_big_quiet_on)
           | (go_big_quiet_op
              first
              | go_big_quiet_on
              | (go_big_quiet_call ((go_at_call 20; with_reducible exact later_of (HP.out _)))))))
      refine wpQuiet_nil ?_
      rintro _ ⟨p, rfl⟩
      replace hA := hA.below p.below
      replace hB := hB.below p.below
      replace hC := hC.below p.below
      replace hb := hb.trans (p.below.mono hb.size)
      clear lc le
      generalize p.wd = w6 at *
      go_wp2_with (refine wpList_store_blk rfl 34 (.tmp 5) (.tmp 34) rfl ga 34 _ (C.put x 1).a rfl rfl hA (HSZ.out _ _) (HI.out _) ho1 ?_; intro w7 hN0 hKs0)
      try simp only [Act.put]
      replace hB := hB.keeps hKs0 (by simp)
      replace hC := hC.keeps hKs0 (by simp; omega)
      replace hb : Below w.heap.size w w7 := ((Keeps.of_below (S := []) hb).trans' hKs0 (by simp; omega)).below
      clear hA hKs0 ho1 HP
      have lc := later_cell34 C hC
      have le := load_elem (HR.out.below hb) HG1.out
      have HP2 := Lib.hid (fun W => Put_any C x W)
      have ho2 := (C.put x 1).one
      go_wp2_with fail
      refine wp_region_later_tail 6 (by kernel_rfl) (by kernel_rfl) ?_
      simp only [List.take_succ_cons, List.take_zero, List.drop_succ_cons, List.drop_zero]
      repeat (first
        | go_big_quiet_skip
        | (go_big_quiet_want
           first
           | ((first | refine quiet_load _ _ rfl _ _ rfl lc ?_ | refine quiet_load _ _ rfl _ _ rfl le ?_)
              simp only [Act.put, List.setIfInBounds_toArray, List.set_cons_succ, List.set_cons_zero]
              go_big_quiet_on)
           | (go_big_quiet_op
              first
              | go_big_quiet_on
              | (go_big_quiet_call ((go_at_call 20; with_reducible exact later_of (HP2.out _)))))))
      refine wpQuiet_nil ?_
      rintro _ ⟨p, rfl⟩
      replace hN0 := hN0.below p.below
      replace hB := hB.below p.below
      replace hC := hC.below p.below
      replace hb := hb.trans (p.below.mono hb.size)
      clear lc le
      generalize p.wd = w6 at *
      go_wp2_with (refine wpList_store_blk rfl 34 (.tmp 7) (.tmp 40) rfl (ga + 1 + 1) 34 _ (C.put x 1).a rfl rfl hC (HSZ.out _ _) (HI.out _) ho2 ?_; intro w8 hM0 hKs1)
      try simp only [Act.put]
      have hA9 := hN0.keeps hKs1 (by simp; omega)
      rw [← HS1.out] at hA9
      have hC9 := hM0
      rw [← HS1.out] at hC9
      exact ⟨⟨k + 1, by omega, by go_num, hA9, hB.keeps hKs1 (by simp), hC9, ((Keeps.of_below (S := []) hb).trans' hKs1 (by simp; omega)).below⟩, by simp [intOf]; omega⟩
    · obtain rfl : k = n := by omega
      rw [List.take_of_length_le (by rw [HL.out]; omega)] at hA hC
      have HNX := Lib.hid (putAll_norm 1 ls Cl.zero zero_norm)
      generalize putAll 1 Cl.zero ls = X at *
      go_wp2_with fail
      have hB0 : Blk wr (ga + 1) 34 (putAll 1 Cl.zero (ks.take 0)).a := hB
      have hC0 : Blk wr (ga + 1 + 1) 34 (putAll (-1) X (ks.take 0)).a := hC
      generalize hwr : wr = w5 at *
      clear hwr hB hC
      go_loopw [9] (fun i wr => ∃ j : Nat, j ≤ m ∧ i = .int .i64 j ∧ Blk wr ga 34 X.a ∧ Blk wr (ga + 1) 34 (putAll 1 Cl.zero (ks.take j)).a ∧ Blk wr (ga + 1 + 1) 34 (putAll (-1) X (ks.take j)).a ∧ Below w.heap.size w wr) (fun i _ => m - (intOf i).toNat)
      case atStart => exact ⟨0, by omega, rfl, hA, hB0, hC0, hb⟩
      case round =>
        clear hA hB0 hC0 hb
        obtain ⟨j, hj, rfl, hA, hB, hC, hb⟩ := hrel
        by_cases hjm : j < m
        · have hkn' : (j : Int) < (m : Int) := by omega
          have hk0 : (0 : Int) ≤ (j : Int) := by omega
          obtain ⟨bd, rfl⟩ : ∃ bd, B = some bd := by
            cases B with
            | none => have := HBN.out rfl; omega
            | some bd => exact ⟨bd, rfl⟩
          have hs1 : putAll 1 Cl.zero (ks.take (j + 1)) = (putAll 1 Cl.zero (ks.take j)).put (ks.getD j Sm.zero) 1 := by rw [take_snoc_sm ks j (by rw [HL2.out]; exact hjm), putAll_snoc]
          have hs2 : putAll (-1) X (ks.take (j + 1)) = (putAll (-1) X (ks.take j)).put (ks.getD j Sm.zero) (-1) := by rw [take_snoc_sm ks j (by rw [HL2.out]; exact hjm), putAll_snoc]
          have HS1 := Lib.hid hs1
          have HS2 := Lib.hid hs2
          have hg1 := getD_some_sm (ls := ks) (i := j) (by rw [HL2.out]; exact hjm)
          have HG1 := Lib.hid hg1
          clear hs1 hs2 hg1
          generalize ks.getD j Sm.zero = x at *
          generalize hC' : putAll 1 Cl.zero (ks.take j) = C at *
          generalize hD' : putAll (-1) X (ks.take j) = D at *
          clear hC' hD'
          have lc := later_cell34 C hB
          have le := load_elem (HR2.out.below hb) HG1.out
          have HP := Lib.hid (fun W => Put_any C x W)
          have ho1 := (C.put x 1).one
          go_wp2_with fail
          refine wp_region_later_tail 6 (by kernel_rfl) (by kernel_rfl) ?_
          simp only [List.take_succ_cons, List.take_zero, List.drop_succ_cons, List.drop_zero]
          repeat (first
            | go_big_quiet_skip
            | (go_big_quiet_want
               first
               | ((first | refine quiet_load _ _ rfl _ _ rfl lc ?_ | refine quiet_load _ _ rfl _ _ rfl le ?_)
                  simp only [Act.put, List.setIfInBounds_toArray, List.set_cons_succ, List.set_cons_zero]
                  go_big_quiet_on)
               | (go_big_quiet_op
                  first
                  | go_big_quiet_on
                  | (go_big_quiet_call ((go_at_call 20; with_reducible exact later_of (HP.out _)))))))
          refine wpQuiet_nil ?_
          rintro _ ⟨p, rfl⟩
          replace hA := hA.below p.below
          replace hB := hB.below p.below
          replace hC := hC.below p.below
          replace hb := hb.trans (p.below.mono hb.size)
          clear lc le
          generalize p.wd = w6 at *
          go_wp2_with (refine wpList_store_blk rfl 34 (.tmp 6) (.tmp 52) rfl (ga + 1) 34 _ (C.put x 1).a rfl rfl hB (HSZ.out _ _) (HI.out _) ho1 ?_; intro w7 hN0 hKs0)
          try simp only [Act.put]
          replace hA := hA.keeps hKs0 (by simp)
          replace hC := hC.keeps hKs0 (by simp)
          replace hb : Below w.heap.size w w7 := ((Keeps.of_below (S := []) hb).trans' hKs0 (by simp; omega)).below
          clear hB hKs0 ho1 HP
          have lc := later_cell34 D hC
          have le := load_elem (HR2.out.below hb) HG1.out
          have HP2 := Lib.hid (fun W => Take_any D x W)
          have ho2 := (D.put x (-1)).one
          go_wp2_with fail
          refine wp_region_later_tail 6 (by kernel_rfl) (by kernel_rfl) ?_
          simp only [List.take_succ_cons, List.take_zero, List.drop_succ_cons, List.drop_zero]
          repeat (first
            | go_big_quiet_skip
            | (go_big_quiet_want
               first
               | ((first | refine quiet_load _ _ rfl _ _ rfl lc ?_ | refine quiet_load _ _ rfl _ _ rfl le ?_)
                  simp only [Act.put, List.setIfInBounds_toArray, List.set_cons_succ, List.set_cons_zero]
                  go_big_quiet_on)
               | (go_big_quiet_op
                  first
                  | go_big_quiet_on
                  | (go_big_quiet_call ((go_at_call 21; with_reducible exact later_of (HP2.out _)))))))
          refine wpQuiet_nil ?_
          rintro _ ⟨p, rfl⟩
          replace hN0 := hN0.below p.below
          replace hA := hA.below p.below
          replace hC := hC.below p.below
          replace hb := hb.trans (p.below.mono hb.size)
          clear lc le
          generalize p.wd = w6 at *
          go_wp2_with (refine wpList_store_blk rfl 34 (.tmp 7) (.tmp 58) rfl (ga + 1 + 1) 34 _ (D.put x (-1)).a rfl rfl hC (HSZ.out _ _) (HI.out _) ho2 ?_; intro w8 hM0 hKs1)
          try simp only [Act.put]
          have hB9 := hN0.keeps hKs1 (by simp)
          rw [← HS1.out] at hB9
          have hC9 := hM0
          rw [← HS2.out] at hC9
          exact ⟨⟨j + 1, by omega, by go_num, hA.keeps hKs1 (by simp; omega), hB9, hC9, ((Keeps.of_below (S := []) hb).trans' hKs1 (by simp; omega)).below⟩, by simp [intOf]; omega⟩
        · obtain rfl : j = m := by omega
          rw [List.take_of_length_le (by rw [HL2.out]; omega)] at hB hC
          have hmp : X.minus (putAll 1 Cl.zero ks) = putAll (-1) X ks := by rw [minus_putAll, minus_zero X HNX.out]
          rw [← hmp] at hC
          clear hmp
          generalize putAll 1 Cl.zero ks = Y at *
          have lx := later_cell34 X hA
          have ly := later_cell34 Y hB
          have lz := later_cell34 (X.minus Y) hC
          have HM1 := Lib.hid (fun W => Minus_any X Y W)
          have HM2 := Lib.hid (fun W => Minus_any X X W)
          have HM3 := Lib.hid (fun W => Minus_any X Cl.zero W)
          rw [minus_self] at HM2
          rw [minus_zero X HNX.out, HZ65.out] at HM3
          have HZE := Lib.hid (fun W => CellZero_any Cl.zero W)
          rw [decide_eq_true rfl] at HZE
          have he1 := fun W => eql_cl34 (X.minus Y) (X.minus Y) W
          have he2 := fun W => eql_cl34 X X W
          rw [decide_eq_true rfl] at he1 he2
          have HE1 := Lib.hid he1
          have HE2 := Lib.hid he2
          have hgdc : Try.prog.eqGuardType Try.prog.depth 34 = false := by kernel_rfl
          clear he1 he2 hA hB hC
          generalize (X.minus Y).a = MA at *
          generalize Cl.zero.a = ZA at *
          generalize hXA : X.a = XA at *
          generalize hYA : Y.a = YA at *
          clear hXA hYA
          go_wp2_with fail
          refine wp_region_later (by kernel_rfl) (by kernel_rfl) ?_
          repeat (first
            | go_big_quiet_skip
            | (go_big_quiet_want
               first
               | ((first | refine quiet_load _ _ rfl _ _ rfl lx ?_ | refine quiet_load _ _ rfl _ _ rfl ly ?_ | refine quiet_load _ _ rfl _ _ rfl lz ?_ | refine quiet_eql _ _ _ _ rfl _ _ _ rfl rfl hgdc HE1.out ?_ | refine quiet_eql _ _ _ _ rfl _ _ _ rfl rfl hgdc HE2.out ?_ | refine quiet_buildz34 rfl ?_)
                  simp only [Act.put, List.setIfInBounds_toArray, List.set_cons_succ, List.set_cons_zero]
                  go_big_quiet_on)
               | (go_big_quiet_op
                  first
                  | go_big_quiet_on
                  | (go_big_quiet_call (first
                    | (go_at_call 26; first | with_reducible exact later_of (HM1.out _) | with_reducible exact later_of (HM2.out _) | with_reducible exact later_of (HM3.out _))
                    | (go_at_call 28; with_reducible exact later_of (HZE.out _)))))))
          refine wpQuiet_nil ?_
          rintro _ ⟨p, rfl⟩
          have hbf := hb.trans (p.below.mono hb.size)
          go_wp2_with fail
          go_ret
          exact ⟨rfl, hbf⟩
end Go.Proofs.Ytbhlaafahfeacaa
