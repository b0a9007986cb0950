/- Layer 13: the walk of CellOne. -/
import Derived.Test.YtbhlaafahfeacaaCellP
namespace Go.Proofs.Ytbhlaafahfeacaa
open Go.RowKit

theorem take_snoc_sm (ls : List Sm) (i : Nat) (hi : i < ls.length) : ls.take (i + 1) = ls.take i ++ [ls.getD i Sm.zero] := by
  rw [List.take_succ_eq_append_getElem hi]
  simp [List.getD, List.getElem?_eq_getElem hi]
theorem getD_some_sm {ls : List Sm} {i : Nat} (hi : i < ls.length) : ls[i]? = some (ls.getD i Sm.zero) := by
  simp [List.getD, List.getElem?_eq_getElem hi]
theorem quiet_buildz34 {o : Oper} {a : Act} {W : World → Prop} {Q : Act → Prop} (ho : o.op = .build 34 #[]) (hk : Q (a.put o.dst (.agg zero65))) : o.quiet Try.prog a W Q :=
  ⟨_, fun w _ => by
    have h := build_zero34 w
    unfold Oper.quietAt execOp
    rw [ho]
    simp [h, Oper.quietUpon], hk⟩

theorem wpList_load_g {P : Program} {ops : Array Oper} {rest : List Oper} {o : Oper} {a : Act} {w : World} {Q : Exit → Act → World → Prop} (ty : TypeId) (x : Operand) (ho : o.op = .load ty x) (u v : Value) (hx : a.eval x = u)
    (hl : (Instr.loadAt ty u).run P w = .ok v w) (hw : Region.wanted o (yielded ops a.tmps) = true) (k : wpList P ops Q rest (a.put o.dst v) w) : wpList P ops Q (o :: rest) a w :=
  wpList_valg hw v (exec_load ho hx hl) k
theorem cl_round (c : Cl) (h : Norm c) (ls : List Sm) : putAll (-1) (putAll 1 c ls) ls = c := putAll_back ls c h

set_option maxRecDepth 100000 in
set_option maxHeartbeats 4000000 in
theorem lawCellOne_any (x : Sm) (A : Option Addr) (n c : Nat) (ls : List Sm) (w : World) (hl : ls.length = n) (hr : Rds w A ls) (hA : A = none → n = 0) (hn : n ≤ maxLen) :
    Calls Try.prog 5 #[.agg (u8s x.l), .slice A n c] w fun e w' => e = .returned (.bool true) ∧ Below w.heap.size w w' := by
  unfold maxLen at hn
  have HAN := Lib.hid hA
  clear hA
  go_enter Try.func5, Try.ntmps5
  go_wp2_with fail
  refine (awake13_any _).mono ?_
  rintro e w1 ⟨rfl, hb1⟩
  have hX1 := (Blk.new w 26 (u8s x.l)).below hb1
  have hb1' : Below w.heap.size w w1 := ((Keeps.refl [] w).alloc _).below.trans (hb1.mono (by simp))
  have hr1 := hr.below hb1'
  clear hb1 hr
  by_cases c1 : 40 < n
  · have c1' : (40 : Int) < (n : Int) := by omega
    go_wp2_with fail
    go_ret
    exact ⟨rfl, hb1'⟩
  have c1' : decide ((40 : Int) < (n : Int)) = false := decide_eq_false (by omega)
  have hzv := zero34
  have hz65 : Cl.zero.a = zero65 := rfl
  have HI := Lib.hid (fun c : Cl => info34.trans (congrArg some c.size.symm))
  have HI32 := Lib.hid (info32a.trans (congrArg some x.size.symm))
  have HSZ := Lib.hid (fun c d : Cl => c.size.trans d.size.symm)
  have HZS := Lib.hid (fun c : Cl => c.size.trans zero65_size.symm)
  have HL := Lib.hid hl
  have HR := Lib.hid hr1
  have HP := Lib.hid (fun W => Put_any Cl.zero x W)
  have HT := Lib.hid (fun W => Take_any Cl.zero x W)
  rw [hz65, put_zero] at HP
  rw [hz65, take_zero] at HT
  have hnP : Norm ⟨1, x, chk x⟩ := by unfold Norm; exact wrap64_of (by simp) (by simp)
  have hnM : Norm ⟨-1, x, chk x⟩ := by unfold Norm; exact wrap64_of (by simp) (by simp)
  have HPU := Lib.hid (fun W => Pure_any ⟨1, x, chk x⟩ W)
  rw [(one_ok x).1, (one_ok x).2.1, (one_ok x).2.2] at HPU
  have HPM := Lib.hid (fun W => Pure_any ⟨-1, x, chk x⟩ W)
  rw [(minus_ok x).1, (minus_ok x).2.1, (minus_ok x).2.2] at HPM
  have HBP := Lib.hid (cl_round _ hnP ls)
  have HBM := Lib.hid (cl_round _ hnM ls)
  have hn60 : n ≤ 40 := by omega
  clear hz65 hl hr1 c1 hnP hnM
  have hsz32 : Hid ((u8s x.l).size = (u8s (List.replicate 32 0)).size) := by unfold Hid; rw [x.size, u8s_size]; rfl
  have hi27 := Lib.hid (info32.trans (congrArg some x.size.symm))
  have ho27 := u8s_one x.l
  have hexx : ∀ W, (binOp .eql 27 (.agg (u8s x.l)) (.agg (u8s x.l))).run Try.prog W = .ok (.bool true) W := fun W => by rw [eql_sm, decide_eq_true rfl]
  have HEXX := Lib.hid hexx
  clear hexx
  generalize (⟨1, x, chk x⟩ : Cl) = P0 at *
  generalize (⟨-1, x, chk x⟩ : Cl) = M0 at *
  have hoP := P0.one
  have hoM := M0.one
  generalize u8s x.l = X at *
  go_wp2_with (first
    | (refine wpList_val rfl _ (exec_build rfl (build_zero34 _)) ?_)
    | (refine wpList_load_g 26 (.tmp 2) rfl _ _ rfl (load_blk hX3 Try.underlying26 rfl HI32.out) rfl ?_)
    | (refine wpList_load_g 26 (.tmp 2) rfl _ _ rfl (load_blk hX1 Try.underlying26 rfl HI32.out) rfl ?_)
    | (go_at_call 20; refine (HP.out _).mono ?_; rintro e w2 ⟨rfl, hb2⟩)
    | (refine wpList_store_blk rfl 34 (.tmp 5) (.tmp 22) rfl w2.heap.size 34 _ P0.a rfl rfl (Blk.new w2 _ _) (HZS.out _) (HI.out _) hoP ?_
       intro w3 hP3 hk3
       have hX3 : Blk w3 w.heap.size 26 X := ((hX1.below hb2).alloc _).keeps hk3 (by have := (hX1.below hb2).lt; simp; omega)
       have hb3 : Below w.heap.size w w3 := (((Keeps.of_below (S := []) (hb1'.trans (hb2.mono hb1'.size))).alloc _).trans' hk3 (by have := hb1'.size; have := hb2.size; simp; omega)).below
       have hg2 : w1.heap.size ≤ w2.heap.size := hb2.size)
    | (go_at_call 21; refine (HT.out _).mono ?_; rintro e w4 ⟨rfl, hb4⟩)
    | (refine wpList_store_blk rfl 34 (.tmp 6) (.tmp 25) rfl w4.heap.size 34 _ M0.a rfl rfl (Blk.new w4 _ _) (HZS.out _) (HI.out _) hoM ?_; intro w5 hM5 hk5))
  have hlt3 := hP3.lt
  have hlt4 := hb4.size
  have hA4 : Blk w5 w2.heap.size 34 (putAll 1 P0 (ls.take 0)).a := ((hP3.below hb4).alloc _).keeps hk5 (by simp; omega)
  have hB4 : Blk w5 w4.heap.size 34 (putAll 1 M0 (ls.take 0)).a := hM5
  have hX : Blk w5 w.heap.size 26 X := ((hX3.below hb4).alloc _).keeps hk5 (by have := (hX3.below hb4).lt; simp; omega)
  have hb : Below w.heap.size w w5 := (((Keeps.of_below (S := []) (hb3.trans (hb4.mono hb3.size))).alloc _).trans' hk5 (by have := hb3.size; simp; omega)).below
  have hkb : Below w1.heap.size w1 w5 := (((Keeps.of_below (S := []) (hb2.trans (((Keeps.refl [] w2).alloc _).trans' hk3 (by simp) |>.below.mono hg2) |>.trans (hb4.mono (by omega)))).alloc _).trans' hk5 (by simp; omega)).below
  have hga : w.heap.size < w2.heap.size := by have := hX1.lt; omega
  have hgb : w2.heap.size < w4.heap.size := by omega
  have hg1 : w1.heap.size ≤ w2.heap.size := hg2
  clear hP3 hM5 hX1 hX3 hb1' hb2 hb3 hb4 hk3 hk5 hg2 hlt3 hlt4 HP HT hoP hoM c1'
  go_loopw [7] (fun i wr => ∃ k : Nat, k ≤ n ∧ i = .int .i64 k ∧ Blk wr w2.heap.size 34 (putAll 1 P0 (ls.take k)).a ∧ Blk wr w4.heap.size 34 (putAll 1 M0 (ls.take k)).a ∧ Blk wr w.heap.size 26 X ∧ Below w.heap.size w wr ∧ Below w1.heap.size w1 wr) (fun i _ => n - (intOf i).toNat)
  case atStart => exact ⟨0, by omega, rfl, hA4, hB4, hX, hb, hkb⟩
  case round =>
    clear hA4 hB4 hX hb hkb
    obtain ⟨k, hk, rfl, hA, hB, hX, hb, hkb⟩ := hrel
    by_cases hkn : k < n
    · have hkn' : (k : Int) < (n : Int) := by omega
      have hk0 : (0 : Int) ≤ (k : Int) := by omega
      obtain ⟨ad, rfl⟩ : ∃ ad, A = some ad := by
        cases A with
        | none => have := HAN.out rfl; omega
        | some ad => exact ⟨ad, rfl⟩
      have hs1 : putAll 1 P0 (ls.take (k + 1)) = (putAll 1 P0 (ls.take k)).put (ls.getD k Sm.zero) 1 := by rw [take_snoc_sm ls k (by rw [HL.out]; exact hkn), putAll_snoc]
      have hs2 : putAll 1 M0 (ls.take (k + 1)) = (putAll 1 M0 (ls.take k)).put (ls.getD k Sm.zero) 1 := by rw [take_snoc_sm ls k (by rw [HL.out]; exact hkn), putAll_snoc]
      have HS1 := Lib.hid hs1
      have HS2 := Lib.hid hs2
      have hg1' := getD_some_sm (ls := ls) (i := k) (by rw [HL.out]; exact hkn)
      have HG1 := Lib.hid hg1'
      clear hs1 hs2 hg1'
      generalize ls.getD k Sm.zero = y at *
      generalize hC' : putAll 1 P0 (ls.take k) = C at *
      generalize hD' : putAll 1 M0 (ls.take k) = D at *
      clear hC' hD'
      have lc := later_cell34 C hA
      have ld := later_cell34 D hB
      have le := load_elem (HR.out.below hkb) HG1.out
      have HP1 := Lib.hid (fun W => Put_any C y W)
      have HP2 := Lib.hid (fun W => Put_any D y W)
      have ho1 := (C.put y 1).one
      have ho2 := (D.put y 1).one
      go_wp2_with fail
      refine wp_region_later_tail 12 (by kernel_rfl) (by kernel_rfl) ?_
      simp only [List.take_succ_cons, List.take_zero, List.drop_succ_cons, List.drop_zero]
      repeat (first
        | go_big_quiet_skip
        | (go_big_quiet_want
           first
           | ((first | refine quiet_load _ _ rfl _ _ rfl lc ?_ | refine quiet_load _ _ rfl _ _ rfl ld ?_ | refine quiet_load _ _ rfl _ _ rfl le ?_)
              simp only [Act.put, List.setIfInBounds_toArray, List.set_cons_succ, List.set_cons_zero]
              go_big_quiet_on)
           | (go_big_quiet_op
              first
              | go_big_quiet_on
              | (go_big_quiet_call ((go_at_call 20; first | with_reducible exact later_of (HP1.out _) | with_reducible exact later_of (HP2.out _)))))))
      refine wpQuiet_nil ?_
      rintro _ ⟨p, rfl⟩
      replace hA := hA.below p.below
      replace hB := hB.below p.below
      replace hX := hX.below p.below
      replace hkb := hkb.trans (p.below.mono hkb.size)
      replace hb := hb.trans (p.below.mono hb.size)
      clear lc ld le
      generalize p.wd = w6 at *
      go_wp2_with (first
        | (refine wpList_store_blk rfl 34 (.tmp 5) (.tmp 37) rfl w2.heap.size 34 _ (C.put y 1).a rfl rfl hA (HSZ.out _ _) (HI.out _) ho1 ?_; intro w7 hN0 hKs0)
        | (refine wpList_store_blk rfl 34 (.tmp 6) (.tmp 43) rfl w4.heap.size 34 _ (D.put y 1).a rfl rfl (hB.keeps hKs0 (by simp; omega)) (HSZ.out _ _) (HI.out _) ho2 ?_; intro w8 hN1 hKs1))
      try simp only [Act.put]
      have hA9 := hN0.keeps hKs1 (by simp; omega)
      rw [← HS1.out] at hA9
      have hB9 := hN1
      rw [← HS2.out] at hB9
      have hkk : Keeps [w2.heap.size, w4.heap.size] w6 w8 := (hKs0.mono (by simp)).trans (hKs1.mono (by simp))
      exact ⟨⟨k + 1, by omega, by go_num, hA9, hB9, hX.keeps hkk (by simp; omega), ((Keeps.of_below (S := []) hb).trans' hkk (by simp; omega)).below, ((Keeps.of_below (S := []) hkb).trans' hkk (by simp; omega)).below⟩, by simp [intOf]; omega⟩
    · obtain rfl : k = n := by omega
      rw [List.take_of_length_le (by rw [HL.out]; omega)] at hA hB
      go_wp2_with fail
      have hA4 : Blk wr w2.heap.size 34 (putAll (-1) (putAll 1 P0 ls) (ls.take 0)).a := hA
      have hB4 : Blk wr w4.heap.size 34 (putAll (-1) (putAll 1 M0 ls) (ls.take 0)).a := hB
      have HQ1 : Hid (putAll (-1) (putAll 1 P0 ls) ls = P0) := HBP
      have HQ2 : Hid (putAll (-1) (putAll 1 M0 ls) ls = M0) := HBM
      clear hA hB HBP HBM
      generalize putAll 1 P0 ls = P1 at *
      generalize putAll 1 M0 ls = M1 at *
      generalize hwr : wr = w5 at *
      clear hwr hk hkn
      go_loopw [8] (fun i wr => ∃ j : Nat, j ≤ k ∧ i = .int .i64 j ∧ Blk wr w2.heap.size 34 (putAll (-1) P1 (ls.take j)).a ∧ Blk wr w4.heap.size 34 (putAll (-1) M1 (ls.take j)).a ∧ Blk wr w.heap.size 26 X ∧ Below w.heap.size w wr ∧ Below w1.heap.size w1 wr) (fun i _ => k - (intOf i).toNat)
      case atStart => exact ⟨0, by omega, rfl, hA4, hB4, hX, hb, hkb⟩
      case round =>
        clear hA4 hB4 hX hb hkb
        obtain ⟨j, hj, rfl, hA, hB, hX, hb, hkb⟩ := hrel
        by_cases hkn : j < k
        · have hkn' : (j : Int) < (k : Int) := by omega
          have hk0 : (0 : Int) ≤ (j : Int) := by omega
          obtain ⟨ad, rfl⟩ : ∃ ad, A = some ad := by
            cases A with
            | none => have := HAN.out rfl; omega
            | some ad => exact ⟨ad, rfl⟩
          have hs1 : putAll (-1) P1 (ls.take (j + 1)) = (putAll (-1) P1 (ls.take j)).put (ls.getD j Sm.zero) (-1) := by rw [take_snoc_sm ls j (by rw [HL.out]; exact hkn), putAll_snoc]
          have hs2 : putAll (-1) M1 (ls.take (j + 1)) = (putAll (-1) M1 (ls.take j)).put (ls.getD j Sm.zero) (-1) := by rw [take_snoc_sm ls j (by rw [HL.out]; exact hkn), putAll_snoc]
          have HS1 := Lib.hid hs1
          have HS2 := Lib.hid hs2
          have hg1' := getD_some_sm (ls := ls) (i := j) (by rw [HL.out]; exact hkn)
          have HG1 := Lib.hid hg1'
          clear hs1 hs2 hg1'
          generalize ls.getD j Sm.zero = y at *
          generalize hC' : putAll (-1) P1 (ls.take j) = C at *
          generalize hD' : putAll (-1) M1 (ls.take j) = D at *
          clear hC' hD'
          have lc := later_cell34 C hA
          have ld := later_cell34 D hB
          have le := load_elem (HR.out.below hkb) HG1.out
          have HP1 := Lib.hid (fun W => Take_any C y W)
          have HP2 := Lib.hid (fun W => Take_any D y W)
          have ho1 := (C.put y (-1)).one
          have ho2 := (D.put y (-1)).one
          go_wp2_with fail
          refine wp_region_later_tail 12 (by kernel_rfl) (by kernel_rfl) ?_
          simp only [List.take_succ_cons, List.take_zero, List.drop_succ_cons, List.drop_zero]
          repeat (first
            | go_big_quiet_skip
            | (go_big_quiet_want
               first
               | ((first | refine quiet_load _ _ rfl _ _ rfl lc ?_ | refine quiet_load _ _ rfl _ _ rfl ld ?_ | refine quiet_load _ _ rfl _ _ rfl le ?_)
                  simp only [Act.put, List.setIfInBounds_toArray, List.set_cons_succ, List.set_cons_zero]
                  go_big_quiet_on)
               | (go_big_quiet_op
                  first
                  | go_big_quiet_on
                  | (go_big_quiet_call ((go_at_call 21; first | with_reducible exact later_of (HP1.out _) | with_reducible exact later_of (HP2.out _)))))))
          refine wpQuiet_nil ?_
          rintro _ ⟨p, rfl⟩
          replace hA := hA.below p.below
          replace hB := hB.below p.below
          replace hX := hX.below p.below
          replace hkb := hkb.trans (p.below.mono hkb.size)
          replace hb := hb.trans (p.below.mono hb.size)
          clear lc ld le
          generalize p.wd = w6 at *
          go_wp2_with (first
            | (refine wpList_store_blk rfl 34 (.tmp 5) (.tmp 55) rfl w2.heap.size 34 _ (C.put y (-1)).a rfl rfl hA (HSZ.out _ _) (HI.out _) ho1 ?_; intro w7 hN0 hKs0)
            | (refine wpList_store_blk rfl 34 (.tmp 6) (.tmp 61) rfl w4.heap.size 34 _ (D.put y (-1)).a rfl rfl (hB.keeps hKs0 (by simp; omega)) (HSZ.out _ _) (HI.out _) ho2 ?_; intro w8 hN1 hKs1))
          try simp only [Act.put]
          have hA9 := hN0.keeps hKs1 (by simp; omega)
          rw [← HS1.out] at hA9
          have hB9 := hN1
          rw [← HS2.out] at hB9
          have hkk : Keeps [w2.heap.size, w4.heap.size] w6 w8 := (hKs0.mono (by simp)).trans (hKs1.mono (by simp))
          exact ⟨⟨j + 1, by omega, by go_num, hA9, hB9, hX.keeps hkk (by simp; omega), ((Keeps.of_below (S := []) hb).trans' hkk (by simp; omega)).below, ((Keeps.of_below (S := []) hkb).trans' hkk (by simp; omega)).below⟩, by simp [intOf]; omega⟩
        · obtain rfl : j = k := by omega
          rw [List.take_of_length_le (by rw [HL.out]; omega)] at hA hB
          rw [HQ1.out] at hA
          rw [HQ2.out] at hB
          have hiP := Lib.hid (HI.out P0)
          have hiM := Lib.hid (HI.out M0)
          clear HQ1 HQ2 HI HSZ HZS
          generalize P0.a = PA at *
          generalize M0.a = MA at *
          go_wp2_with (first
            | (refine wpList_load_g 27 (.tmp 9) rfl _ _ rfl (load_blk hY9 Try.underlying27 rfl hi27.out) rfl ?_)
            | (refine wpList_load_g 27 (.tmp 12) rfl _ _ rfl (load_blk hY8 Try.underlying27 rfl hi27.out) rfl ?_)
            | (refine wpList_load_g 26 (.tmp 2) rfl _ _ rfl (load_blk hX9 Try.underlying26 rfl HI32.out) rfl ?_)
            | (refine wpList_load_g 34 (.tmp 6) rfl _ _ rfl (load_blk hM7 Try.underlying34 rfl hiM.out) rfl ?_)
            | (refine wpList_load_g 34 (.tmp 5) rfl _ _ rfl (load_blk hA Try.underlying34 rfl hiP.out) rfl ?_)
            | (go_at_call 22
               (with_reducible refine (HPM.out _).mono ?_)
               rintro e w8 ⟨rfl, hb8⟩)
            | (go_at_call 22
               (with_reducible refine (HPU.out _).mono ?_)
               rintro e w6 ⟨rfl, hb6⟩)
            | (refine wpList_store_blk rfl 27 (.tmp 9) (.tmp 65) rfl w6.heap.size 27 _ X rfl rfl (Blk.new w6 _ _) hsz32.out hi27.out ho27 ?_
               intro w7 hY7 hk7
               have hM7 : Blk w7 w4.heap.size 34 MA := ((hB.below hb6).alloc _).keeps hk7 (by have := (hB.below hb6).lt; simp; omega)
               have hX7 : Blk w7 w.heap.size 26 X := ((hX.below hb6).alloc _).keeps hk7 (by have := (hX.below hb6).lt; simp; omega)
               have hb7 : Below w.heap.size w w7 := (((Keeps.of_below (S := []) (hb.trans (hb6.mono hb.size))).alloc _).trans' hk7 (by have := hb.size; have := hb6.size; simp; omega)).below)
            | (refine wpList_store_blk rfl 27 (.tmp 12) (.tmp 71) rfl w8.heap.size 27 _ X rfl rfl (Blk.new w8 _ _) hsz32.out hi27.out ho27 ?_
               intro w9 hY8 hk9
               have hY9 : Blk w9 w6.heap.size 27 X := ((hY7.below hb8).alloc _).keeps hk9 (by have := (hY7.below hb8).lt; simp; omega)
               have hX9 : Blk w9 w.heap.size 26 X := ((hX7.below hb8).alloc _).keeps hk9 (by have := (hX7.below hb8).lt; simp; omega)
               have hb9 : Below w.heap.size w w9 := (((Keeps.of_below (S := []) (hb7.trans (hb8.mono hb7.size))).alloc _).trans' hk9 (by have := hb7.size; have := hb8.size; simp; omega)).below
               have hexx := HEXX.out))
          go_ret
          exact ⟨rfl, hb9⟩
end Go.Proofs.Ytbhlaafahfeacaa
