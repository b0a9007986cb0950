/- Walks: the reference's PutCell, MinusCell, Pure. -/
import Derived.Test.YtbhlaafahfeacaaCellD
namespace Go.Proofs.Ytbhlaafahfeacaa
open Go.RowKit

theorem quiet_build_cell49 {o : Oper} {a : Act} {W : World → Prop} {Q : Act → Prop} (x y z : Operand) (ho : o.op = .build 49 #[(0, x), (1, y), (2, z)]) (n : Int) (K C : Array Value) (hx : a.eval x = .int .i64 n) (hy : a.eval y = .agg K) (hz : a.eval z = .agg C)
    (hK : K.size = 32) (hC : C.size = 32) (hk : Q (a.put o.dst (.agg (cellA n K C)))) : o.quiet Try.prog a W Q :=
  ⟨_, fun w _ => by
    have h := build_cell49 n K C hK hC w
    unfold Oper.quietAt execOp
    rw [ho]
    simp [hx, hy, hz, h, Oper.quietUpon], hk⟩
theorem later_n49 {w : World} {g : Nat} {t : TypeId} (c : Cl) (hB : Blk w g t c.a) : ∀ w' : World, (∃ p : Later w, w' = p.wd) → (Instr.loadAt 2 (.pointer (some ⟨g, 0, none⟩))).run Try.prog w' = .ok (.int .i64 c.n) w' := by
  rintro w' ⟨p, rfl⟩
  exact load_int64 (cell_count (hB.below p.below))
theorem later_key49 {w : World} {g : Nat} {t : TypeId} (c : Cl) (hB : Blk w g t c.a) : ∀ w' : World, (∃ p : Later w, w' = p.wd) → (Instr.loadAt 47 (.pointer (some ⟨g, 1, none⟩))).run Try.prog w' = .ok (.agg (u8s c.key.l)) w' := by
  rintro w' ⟨p, rfl⟩
  have h := run_loadAt_mid (P := Try.prog) p.wd g 1 47 (u8s c.key.l).toList _ (range_key (hB.below p.below) c.key.size c.check.size) Try.underlying47 rfl (by rw [Array.length_toList, c.key.size]; kernel_rfl)
  rwa [Array.toArray_toList] at h
theorem later_check49 {w : World} {g : Nat} {t : TypeId} (c : Cl) (hB : Blk w g t c.a) : ∀ w' : World, (∃ p : Later w, w' = p.wd) → (Instr.loadAt 47 (.pointer (some ⟨g, 33, none⟩))).run Try.prog w' = .ok (.agg (u8s c.check.l)) w' := by
  rintro w' ⟨p, rfl⟩
  have h := run_loadAt_mid (P := Try.prog) p.wd g 33 47 (u8s c.check.l).toList _ (range_check (hB.below p.below) c.key.size c.check.size) Try.underlying47 rfl (by rw [Array.length_toList, c.check.size]; kernel_rfl)
  rwa [Array.toArray_toList] at h
theorem later_cell49 {w : World} {g : Nat} {t : TypeId} (c : Cl) (hB : Blk w g t c.a) : ∀ w' : World, (∃ p : Later w, w' = p.wd) → (Instr.loadAt 49 (.pointer (some ⟨g, 0, none⟩))).run Try.prog w' = .ok (.agg c.a) w' :=
  load_later hB Try.underlying49 rfl (info49.trans (congrArg some c.size.symm))

set_option maxRecDepth 100000 in
set_option maxHeartbeats 2000000 in
theorem PutCell_any (c : Cl) (x : Sm) (n : Int) (w : World) :
    Calls Try.prog 32 #[.agg c.a, .agg (u8s x.l), .int .i64 n] w fun e w' => e = .returned (.agg (c.put x n).a) ∧ Below w.heap.size w w' := by
  have hC := (((Blk.new w 49 c.a).alloc (.cells (u8s x.l) 47)).alloc (.cells zero65 49))
  have hX := (Blk.newAt (w.alloc (.cells c.a 49)) 47 (u8s x.l) (w.heap.size + 1) (by simp)).alloc (.cells zero65 49)
  have hZ := Blk.newAt ((w.alloc (.cells c.a 49)).alloc (.cells (u8s x.l) 47)) 49 zero65 (w.heap.size + 1 + 1) (by simp)
  have hb : Below w.heap.size w (((w.alloc (.cells c.a 49)).alloc (.cells (u8s x.l) 47)).alloc (.cells zero65 49)) := ((((Keeps.refl [] w).alloc _).alloc _).alloc _).below
  have l1 := later_n49 c hC
  have l2 := later_key49 c hC
  have l3 := later_check49 c hC
  have l4 := load_ref x hX
  have x1 := fun W => R1Xor_any c.key x W
  have x2 := fun W => R1Xor_any c.check (chk x) W
  have x3 := fun W => Check_any x W
  have HX1 := Lib.hid x1
  have HX2 := Lib.hid x2
  have HX3 := Lib.hid x3
  have hR : Hid ((c.put x n).a = cellA (wrap64 (c.n + n)) (u8s (c.key.xor x).l) (u8s (c.check.xor (chk x)).l)) := rfl
  have hi := Lib.hid (info49.trans (congrArg some (c.put x n).size.symm))
  have hs : Hid ((c.put x n).a.size = zero65.size) := (c.put x n).size.trans zero65_size.symm
  have ho := (c.put x n).one
  have hsz1 := (c.key.xor x).size
  have hsz2 := (c.check.xor (chk x)).size
  have HS1 := Lib.hid hsz1
  have HS2 := Lib.hid hsz2
  clear hC hX x1 x2 x3 hsz1 hsz2
  generalize (c.put x n).a = R at *
  generalize hc0 : c.a = CA at *
  clear hc0
  generalize c.n = cn at *
  generalize u8s (c.key.xor x).l = K1 at *
  generalize u8s (c.check.xor (chk x)).l = K2 at *
  generalize u8s c.key.l = K3 at *
  generalize u8s c.check.l = K4 at *
  generalize u8s (chk x).l = K5 at *
  generalize u8s x.l = X at *
  have hzero := zero49
  go_enter Try.func32, Try.ntmps32
  go_wp2_with fail
  refine wp_region_later_tail 14 (by kernel_rfl) (by kernel_rfl) ?_
  simp only [List.take_succ_cons, List.take_zero, List.drop_succ_cons, List.drop_zero]
  repeat (first
    | go_big_quiet_skip
    | (go_big_quiet_want
       first
       | ((first | refine quiet_load _ _ rfl _ _ rfl l1 ?_ | refine quiet_load _ _ rfl _ _ rfl l2 ?_ | refine quiet_load _ _ rfl _ _ rfl l3 ?_ | refine quiet_load _ _ rfl _ _ rfl l4 ?_ | refine quiet_build_cell49 _ _ _ rfl _ _ _ rfl rfl rfl HS1.out HS2.out ?_)
          simp only [Act.put, List.setIfInBounds_toArray, List.set_cons_succ, List.set_cons_zero]
          go_big_quiet_on)
       | (go_big_quiet_op
          first
          | go_big_quiet_on
          | (go_big_quiet_call (first
            | (go_at_call 42; first | with_reducible exact later_of (HX1.out _) | with_reducible exact later_of (HX2.out _))
            | (go_at_call 31; with_reducible exact later_of (HX3.out _)))))))
  refine wpQuiet_nil ?_
  rintro _ ⟨p, rfl⟩
  have hZp := hZ.below p.below
  have hbp := hb.trans (p.below.mono hb.size)
  clear l1 l2 l3 l4 hZ hb
  generalize p.wd = w2 at *
  rw [← hR.out]
  go_wp2_with (refine wpList_store_blk rfl 49 (.tmp 6) (.tmp 20) rfl (w.heap.size + 1 + 1) 49 _ R rfl rfl hZp hs.out hi.out ho ?_; intro w3 hB3 hk3)
  refine post_blk rfl rfl (w.heap.size + 1 + 1) 49 R _ rfl hB3 Try.underlying49 rfl hi.out ⟨rfl, ?_⟩
  exact ((Keeps.of_below (S := []) hbp).trans' hk3 (by simp; omega)).below

set_option maxRecDepth 100000 in
set_option maxHeartbeats 2000000 in
theorem MinusCell_any (c d : Cl) (w : World) :
    Calls Try.prog 33 #[.agg c.a, .agg d.a] w fun e w' => e = .returned (.agg (c.minus d).a) ∧ Below w.heap.size w w' := by
  have hC := (((Blk.new w 49 c.a).alloc (.cells d.a 49)).alloc (.cells zero65 49))
  have hX := (Blk.newAt (w.alloc (.cells c.a 49)) 49 d.a (w.heap.size + 1) (by simp)).alloc (.cells zero65 49)
  have hZ := Blk.newAt ((w.alloc (.cells c.a 49)).alloc (.cells d.a 49)) 49 zero65 (w.heap.size + 1 + 1) (by simp)
  have hb : Below w.heap.size w (((w.alloc (.cells c.a 49)).alloc (.cells d.a 49)).alloc (.cells zero65 49)) := ((((Keeps.refl [] w).alloc _).alloc _).alloc _).below
  have l1 := later_n49 c hC
  have l2 := later_key49 c hC
  have l3 := later_check49 c hC
  have l4 := later_n49 d hX
  have l5 := later_key49 d hX
  have l6 := later_check49 d hX
  have x1 := fun W => R1Xor_any c.key d.key W
  have x2 := fun W => R1Xor_any c.check d.check W
  have HX1 := Lib.hid x1
  have HX2 := Lib.hid x2
  have hR : Hid ((c.minus d).a = cellA (wrap64 (c.n - d.n)) (u8s (c.key.xor d.key).l) (u8s (c.check.xor d.check).l)) := rfl
  have hi := Lib.hid (info49.trans (congrArg some (c.minus d).size.symm))
  have hs : Hid ((c.minus d).a.size = zero65.size) := (c.minus d).size.trans zero65_size.symm
  have ho := (c.minus d).one
  have hsz1 := (c.key.xor d.key).size
  have hsz2 := (c.check.xor d.check).size
  have HS1 := Lib.hid hsz1
  have HS2 := Lib.hid hsz2
  clear hC hX x1 x2 hsz1 hsz2
  generalize (c.minus d).a = R at *
  generalize hc0 : c.a = CA at *
  generalize hd0 : d.a = DA at *
  clear hc0 hd0
  generalize c.n = cn at *
  generalize d.n = dn at *
  generalize u8s (c.key.xor d.key).l = K1 at *
  generalize u8s (c.check.xor d.check).l = K2 at *
  generalize u8s c.key.l = K3 at *
  generalize u8s c.check.l = K4 at *
  generalize u8s d.key.l = K5 at *
  generalize u8s d.check.l = K6 at *
  have hzero := zero49
  go_enter Try.func33, Try.ntmps33
  go_wp2_with fail
  refine wp_region_later_tail 16 (by kernel_rfl) (by kernel_rfl) ?_
  simp only [List.take_succ_cons, List.take_zero, List.drop_succ_cons, List.drop_zero]
  repeat (first
    | go_big_quiet_skip
    | (go_big_quiet_want
       first
       | ((first | refine quiet_load _ _ rfl _ _ rfl l1 ?_ | refine quiet_load _ _ rfl _ _ rfl l2 ?_ | refine quiet_load _ _ rfl _ _ rfl l3 ?_ | refine quiet_load _ _ rfl _ _ rfl l4 ?_ | refine quiet_load _ _ rfl _ _ rfl l5 ?_ | refine quiet_load _ _ rfl _ _ rfl l6 ?_ | refine quiet_build_cell49 _ _ _ rfl _ _ _ rfl rfl rfl HS1.out HS2.out ?_)
          simp only [Act.put, List.setIfInBounds_toArray, List.set_cons_succ, List.set_cons_zero]
          go_big_quiet_on)
       | (go_big_quiet_op
          first
          | go_big_quiet_on
          | (go_big_quiet_call ((go_at_call 42; first | with_reducible exact later_of (HX1.out _) | with_reducible exact later_of (HX2.out _)))))))
  refine wpQuiet_nil ?_
  rintro _ ⟨p, rfl⟩
  have hZp := hZ.below p.below
  have hbp := hb.trans (p.below.mono hb.size)
  clear l1 l2 l3 l4 l5 l6 hZ hb
  generalize p.wd = w2 at *
  rw [← hR.out]
  go_wp2_with (refine wpList_store_blk rfl 49 (.tmp 4) (.tmp 20) rfl (w.heap.size + 1 + 1) 49 _ R rfl rfl hZp hs.out hi.out ho ?_; intro w3 hB3 hk3)
  refine post_blk rfl rfl (w.heap.size + 1 + 1) 49 R _ rfl hB3 Try.underlying49 rfl hi.out ⟨rfl, ?_⟩
  exact ((Keeps.of_below (S := []) hbp).trans' hk3 (by simp; omega)).below

theorem eql_ref_sm (x y : Sm) (w : World) : (binOp .eql 47 (.agg (u8s x.l)) (.agg (u8s y.l))).run Try.prog w = .ok (.bool (decide (x = y))) w := eql_ref x y w

set_option maxRecDepth 100000 in
set_option maxHeartbeats 4000000 in
theorem R13Pure_any (c : Cl) (w : World) :
    Calls Try.prog 30 #[.agg c.a] w fun e w' => e = .returned (.bool c.ok) ∧ Below w.heap.size w w' := by
  have hC := Blk.new w 49 c.a
  have hb : Below w.heap.size w (w.alloc (.cells c.a 49)) := ((Keeps.refl [] w).alloc _).below
  have l1 := later_n49 c hC
  have l2 := later_key49 c hC
  have l3 := later_check49 c hC
  have HX := Lib.hid (fun W => Check_any c.key W)
  have HEQ := Lib.hid (fun W => eql_ref c.check (chk c.key) W)
  have hgd : Try.prog.eqGuardType Try.prog.depth 47 = false := by kernel_rfl
  have hdef1 : Hid (c.ok = ((decide (c.n = 1) || decide (c.n = -1)) && decide (c.check = chk c.key))) := rfl
  generalize c.ok = OK at *
  generalize c.a = CA at *
  generalize hb0 : decide (c.check = chk c.key) = eqb at *
  clear hb0
  generalize c.n = n at *
  generalize u8s c.key.l = K at *
  generalize u8s c.check.l = C at *
  generalize u8s (chk c.key).l = R at *
  have cases3 : (n = 1) ∨ (n = -1) ∨ (n ≠ 1 ∧ n ≠ -1) := by
    by_cases h1 : n = 1 <;> by_cases h2 : n = -1 <;> simp [h1, h2]
  have hok : OK = if n = 1 ∨ n = -1 then eqb else false := by
    rw [hdef1.out]
    rcases cases3 with h | h | ⟨h1, h2⟩
    · rw [if_pos (.inl h), decide_eq_true h]; rfl
    · rw [if_pos (.inr h), decide_eq_true h, Bool.or_true]; rfl
    · rw [if_neg (by rintro (h | h); exact h1 h; exact h2 h), decide_eq_false h1, decide_eq_false h2]; rfl
  clear hdef1
  rcases cases3 with hn | hn | ⟨hn1, hn2⟩
  · have e1 : (n == 1) = true := by rw [hn]; rfl
    obtain rfl : OK = eqb := by rw [hok, if_pos (.inl hn)]
    clear hn hok
    go_enter Try.func30, Try.ntmps30
    go_wp2_with fail
    refine wp_region_later (by kernel_rfl) (by kernel_rfl) ?_
    repeat (first
      | go_big_quiet_skip
      | (go_big_quiet_want
         first
         | ((first | refine quiet_load _ _ rfl _ _ rfl l1 ?_ | refine quiet_load _ _ rfl _ _ rfl l2 ?_ | refine quiet_load _ _ rfl _ _ rfl l3 ?_ | refine quiet_eql _ _ _ _ rfl _ _ _ rfl rfl hgd HEQ.out ?_)
            simp only [Act.put, List.setIfInBounds_toArray, List.set_cons_succ, List.set_cons_zero]
            go_big_quiet_on)
         | (go_big_quiet_op
            first
            | go_big_quiet_on
            | (go_big_quiet_call ((go_at_call 31; with_reducible exact later_of (HX.out _)))))))
    refine wpQuiet_nil ?_
    rintro _ ⟨p, rfl⟩
    have hbf := hb.trans (p.below.mono hb.size)
    go_wp2_with fail
    go_ret
    exact ⟨rfl, hbf⟩
  · have e1 : (n == 1) = false := by rw [hn]; rfl
    have e2 : (n == -1) = true := by rw [hn]; rfl
    obtain rfl : OK = eqb := by rw [hok, if_pos (.inr hn)]
    clear hn hok
    go_enter Try.func30, Try.ntmps30
    go_wp2_with fail
    refine wp_region_later (by kernel_rfl) (by kernel_rfl) ?_
    repeat (first
      | go_big_quiet_skip
      | (go_big_quiet_want
         first
         | ((first | refine quiet_load _ _ rfl _ _ rfl l1 ?_ | refine quiet_load _ _ rfl _ _ rfl l2 ?_ | refine quiet_load _ _ rfl _ _ rfl l3 ?_ | refine quiet_eql _ _ _ _ rfl _ _ _ rfl rfl hgd HEQ.out ?_)
            simp only [Act.put, List.setIfInBounds_toArray, List.set_cons_succ, List.set_cons_zero]
            go_big_quiet_on)
         | (go_big_quiet_op
            first
            | go_big_quiet_on
            | (go_big_quiet_call ((go_at_call 31; with_reducible exact later_of (HX.out _)))))))
    refine wpQuiet_nil ?_
    rintro _ ⟨p, rfl⟩
    have hbf := hb.trans (p.below.mono hb.size)
    go_wp2_with fail
    go_ret
    exact ⟨rfl, hbf⟩
  · have e1 : (n == 1) = false := by rw [beq_eq_false_iff_ne]; exact hn1
    have e2 : (n == -1) = false := by rw [beq_eq_false_iff_ne]; exact hn2
    obtain rfl : OK = false := by rw [hok, if_neg (by rintro (h | h); exact hn1 h; exact hn2 h)]
    clear hn1 hn2 hok
    go_enter Try.func30, Try.ntmps30
    go_wp2_with fail
    refine wp_region_later (by kernel_rfl) (by kernel_rfl) ?_
    repeat (first
      | go_big_quiet_skip
      | (go_big_quiet_want
         first
         | ((first | refine quiet_load _ _ rfl _ _ rfl l1 ?_ | refine quiet_load _ _ rfl _ _ rfl l2 ?_ | refine quiet_load _ _ rfl _ _ rfl l3 ?_ | refine quiet_eql _ _ _ _ rfl _ _ _ rfl rfl hgd HEQ.out ?_)
            simp only [Act.put, List.setIfInBounds_toArray, List.set_cons_succ, List.set_cons_zero]
            go_big_quiet_on)
         | (go_big_quiet_op
            first
            | go_big_quiet_on
            | (go_big_quiet_call ((go_at_call 31; with_reducible exact later_of (HX.out _)))))))
    refine wpQuiet_nil ?_
    rintro _ ⟨p, rfl⟩
    have hbf := hb.trans (p.below.mono hb.size)
    go_wp2_with fail
    go_ret
    exact ⟨rfl, hbf⟩
end Go.Proofs.Ytbhlaafahfeacaa
