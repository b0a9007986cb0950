/- Layer 1: the walk of SumRaw. -/
import Derived.Test.YtbhlaafahfeacaaSumD
import Derived.Test.YtbhlaafahfeacaaParse
import Derived.Test.YtbhlaafahfeacaaR1Text
import Derived.Test.YtbhlaafahfeacaaR1Cmp
import Derived.Test.YtbhlaafahfeacaaR1Word
namespace Go.Proofs.Ytbhlaafahfeacaa
open Go.RowKit

theorem sB_strB {l : List Nat} (h : ∀ x ∈ l, x < 256) : sB (strB l) = l := by
  unfold sB strB
  rw [strOfNums_data, List.map_map, List.map_map]
  have : ∀ x ∈ l, (UInt8.toNat ∘ (fun (z : Int) => UInt8.ofNat z.toNat) ∘ Int.ofNat) x = x := fun x hx => u8_toNat (h x hx)
  conv => rhs; rw [← List.map_id l]
  exact List.map_congr_left this
theorem load_a32 {w : World} {g : Nat} {t : TypeId} (x : Sm) (hB : Blk w g t (u8s x.l)) :
    ∀ w' : World, (∃ p : Later w, w' = p.wd) → (Instr.loadAt 26 (.pointer (some ⟨g, 0, none⟩))).run Try.prog w' = .ok (.agg (u8s x.l)) w' :=
  load_later hB Try.underlying26 rfl (info32a.trans (congrArg some ((u8s_size x.l).trans x.len).symm))
theorem eql_a32 (x y : Sm) (w : World) : (binOp .eql 26 (.agg (u8s x.l)) (.agg (u8s y.l))).run Try.prog w = .ok (.bool (decide (x = y))) w := by
  obtain ⟨i, hi⟩ := info_at
  have h := run_eql_bytes (P := Try.prog) 26 _ 32 i Try.underlying26 hi (by kernel_rfl) Try.underlying5 Try.isAgg5 x.l y.l x.len y.len w
  rw [h]
  congr 2
  simp only [Sm.eq_iff]

set_option maxRecDepth 100000 in
set_option maxHeartbeats 4000000 in
theorem lawSumRaw_any (x y : Sm) (i : Int) (w : World) :
    Calls Try.prog 14 #[.agg (u8s x.l), .agg (u8s y.l), .int .i64 i] w fun e w' => e = .returned (.bool true) ∧ Below w.heap.size w w' := by
  have hu := Try.underlying26
  have hu2 := Try.underlying27
  go_enter Try.func14, Try.ntmps14
  go_wp2_with fail
  refine (awake1_any _).mono ?_
  rintro e w1 ⟨rfl, hb1⟩
  have hX : Blk w1 w.heap.size 26 (u8s x.l) := ((Blk.new w _ _).alloc _).below hb1
  have hY : Blk w1 (w.heap.size + 1) 26 (u8s y.l) := (Blk.newAt (w.alloc _) _ _ _ (by simp)).below hb1
  have hb : Below w.heap.size w w1 := (((Keeps.refl [] w).alloc _).alloc _).below.trans (hb1.mono (by simp; omega))
  clear hb1
  go_wp2_with fail
  refine region_decl (m := 2) (k := 2) ⟨fun i => [13, 14].getD i 0, fun i => .agg (u8s ([x, y].getD i x).l), fun i => [7, 8].getD i 0, fun i => i, fun i => u8s ([x, y].getD i x).l, fun _ => 27, fun _ => u8s (List.replicate 32 0)⟩
    (by kernel_rfl) (backB_spec (by kernel_rfl)) rfl ?_ ?_ ?_ ?_ ?_ ?_ ?_ ?_ ?_
  · intro i o hi ho
    have hout : ∀ {s : Nat}, s = 3 ∨ s = 4 → (∀ i, i < 2 → s ≠ [13, 14].getD i 0) ∧ ∀ i, i < 2 → s ≠ [7, 8].getD i 0 := by
      intro s hs
      constructor <;> intro i hi <;> rcases lt2 hi with rfl | rfl <;> simp <;> omega
    rcases lt2 hi with rfl | rfl
    · injection ho with ho
      subst ho
      exact ⟨rfl, rfl, fun a w' K h1 h2 _ h4 => wp_load_a32 3 rfl w.heap.size _ x ((h1 3 (hout (by simp))).trans rfl) (hX.keeps h2 (by simp)) (h4 w' (Keeps.refl _ _))⟩
    · injection ho with ho
      subst ho
      exact ⟨rfl, rfl, fun a w' K h1 h2 _ h4 => wp_load_a32 4 rfl (w.heap.size + 1) _ y ((h1 4 (hout (by simp))).trans rfl) (hY.keeps h2 (by simp)) (h4 w' (Keeps.refl _ _))⟩
  · intro j o hj ho
    rcases lt2 hj with rfl | rfl <;> (injection ho with ho; subst ho; exact ⟨rfl, rfl, fun a w' K h => wp_alloc_sum rfl h⟩)
  · intro j o hj ho
    rcases lt2 hj with rfl | rfl <;> (injection ho with ho; subst ho; refine ⟨rfl, rfl, rfl, by simp, rfl, ?_, ?_, ?_, ?_, u8s_one _⟩)
    all_goals first
      | exact ⟨_, Array.mem_of_getElem? (i := 0) rfl, rfl, rfl⟩
      | exact ⟨_, Array.mem_of_getElem? (i := 1) rfl, rfl, rfl⟩
      | (rw [u8s_size, u8s_size]; simp [Sm.len])
      | (rw [u8s_size]; simp only [Sm.len]; exact info32)
  · intro i j hi hj hne
    rcases lt2 hi with rfl | rfl <;> rcases lt2 hj with rfl | rfl <;> simp at hne ⊢
  · intro i j hi hj hne
    rcases lt2 hi with rfl | rfl <;> rcases lt2 hj with rfl | rfl <;> simp at hne ⊢
  · intro i j hi hj
    rcases lt2 hi with rfl | rfl <;> rcases lt2 hj with rfl | rfl <;> simp
  · intro i hi
    rcases lt2 hi with rfl | rfl <;> simp
  · intro i hi
    rcases lt2 hi with rfl | rfl <;> simp
  · intro g a w2 hk hg hgn hd hs h1 h2 h3
    have hact := act_is (a := a) [(13, .agg (u8s x.l)), (14, .agg (u8s y.l)), (7, .pointer (some ⟨g 0, 0, none⟩)), (8, .pointer (some ⟨g 1, 0, none⟩))] hd hs ?_ ?_
    rotate_left
    · intro s hs'
      refine h1 s ⟨fun i hi => ?_, fun i hi => ?_⟩ <;> rcases lt2 hi with rfl | rfl <;> simp at hs' ⊢ <;> omega
    · intro p hp
      simp only [List.mem_cons, List.not_mem_nil, or_false] at hp
      rcases hp with rfl | rfl | rfl | rfl
      · exact h2 0 (by omega)
      · exact h2 1 (by omega)
      · exact h3 0 (by omega)
      · exact h3 1 (by omega)
    rw [hact]
    simp only [fold1, List.foldl_cons, List.foldl_nil, List.setIfInBounds_toArray, List.set_cons_succ, List.set_cons_zero]
    obtain ⟨g0, hB0⟩ := hg 0 (by omega)
    obtain ⟨g1, hB1⟩ := hg 1 (by omega)
    have hb2 : Below w.heap.size w w2 := (hb.trans (hk.below.mono hb.size))
    have hB0' : Blk w2 (g 0) 27 (u8s x.l) := hB0
    have hB1' : Blk w2 (g 1) 27 (u8s y.l) := hB1
    clear hB0 hB1
    have hX2 := hX.keeps hk (by simp)
    have hY2 := hY.keeps hk (by simp)
    have hiX := Lib.hid (info32.trans (congrArg some ((u8s_size x.l).trans x.len).symm))
    have hoX := u8s_one x.l
    have hsX : Hid ((u8s x.l).size = (u8s (List.replicate 32 0)).size) := by unfold Hid; rw [u8s_size, u8s_size, x.len]; rfl
    clear hact h1 h2 h3 hd hs hg hgn hX hY hk hb
    generalize g 0 = gx at *
    generalize g 1 = gy at *
    have hPx := fun W => Parse_any (strB (hexS x.l)) W
    have hp := parse_hex x.l x.len x.lt
    rw [sB_strB (hexS_lt x.l x.lt), hp.1, hp.2] at hPx
    have hTx := fun W => Text_any x W
    have hRx := fun W => R1Text_any x W
    have hCxy := fun W => Cmp_any x y W
    have hCyx := fun W => Cmp_any y x W
    have hRxy := fun W => R1Cmp_any x y W
    rw [cmpL_swap x.l y.l] at hCyx
    have hWx := fun W => Word_any x i W
    have hRW := fun W => R1Word_any x i W
    have hXxy := fun W => Xor_any x y W
    have hXyx := fun W => Xor_any y x W
    have hXxyy := fun W => Xor_any (x.xor y) y W
    rw [Sm.xor_assoc, Sm.xor_self, Sm.xor_zero] at hXxyy
    rw [Sm.xor_comm y x] at hXyx
    have hZxy := fun W => Zero_any (x.xor y) W
    have hzz : decide (x.xor y = Sm.zero) = decide (x = y) := by
      rw [Bool.eq_iff_iff, decide_eq_true_eq, decide_eq_true_eq]
      exact ⟨Sm.xor_eq_zero, fun h => by rw [h]; exact Sm.xor_self y⟩
    rw [hzz] at hZxy
    have hexx : ∀ W, (binOp .eql 27 (.agg (u8s x.l)) (.agg (u8s x.l))).run Try.prog W = .ok (.bool true) W := fun W => by rw [eql_sm, decide_eq_true rfl]
    have hezz : ∀ W, (binOp .eql 27 (.agg (u8s (x.xor y).l)) (.agg (u8s (x.xor y).l))).run Try.prog W = .ok (.bool true) W := fun W => by rw [eql_sm, decide_eq_true rfl]
    have hexy := fun W => eql_a32 x y W
    have hgd : Try.prog.eqGuardType Try.prog.depth 27 = false := by kernel_rfl
    have hgd2 : Try.prog.eqGuardType Try.prog.depth 26 = false := by kernel_rfl
    have hPc : (cmpL x.l y.l == 0) = decide (x = y) := by
      rw [Bool.eq_iff_iff, beq_iff_eq, decide_eq_true_eq, cmpL_eq]
      exact Sm.eq_iff x y
    have hP3 := cmpL_three x.l y.l
    have hwP : IntKind.i64.wrap (cmpL x.l y.l) = cmpL x.l y.l := IntWalk.i64_in _ (by omega)
    have HPx := Lib.hid hPx
    have HTx := Lib.hid hTx
    have HRx := Lib.hid hRx
    have HCxy := Lib.hid hCxy
    have HCyx := Lib.hid hCyx
    have HRxy := Lib.hid hRxy
    have HWx := Lib.hid hWx
    have HRW := Lib.hid hRW
    have HXxy := Lib.hid hXxy
    have HXyx := Lib.hid hXyx
    have HXxyy := Lib.hid hXxyy
    have HZxy := Lib.hid hZxy
    have Hexx := Lib.hid hexx
    have Hezz := Lib.hid hezz
    have Hexy := Lib.hid hexy
    have lx := fun W hW => load_sum x (w := W) (t := 27) (g := gx) hW
    have ly := fun W hW => load_sum y (w := W) (t := 27) (g := gy) hW
    have lt := fun W g hW => load_sum x (w := W) (t := 27) (g := g) hW
    have l3 := fun W hW => load_a32 x (w := W) (t := 26) (g := w.heap.size) hW
    have l4 := fun W hW => load_a32 y (w := W) (t := 26) (g := w.heap.size + 1) hW
    have LX := Lib.hid lx
    have LY := Lib.hid ly
    have LT := Lib.hid lt
    have L3 := Lib.hid l3
    have L4 := Lib.hid l4
    have HPC := Lib.hid hPc
    have HWP := Lib.hid hwP
    clear hPx hTx hRx hCxy hCyx hRxy hWx hRW hXxy hXyx hXxyy hZxy hexx hezz hexy lx ly lt l3 l4 hp hzz hPc hP3 hwP
    generalize decide (x = y) = c at *
    generalize strB (hexS x.l) = tx at *
    generalize wordL x.l i = a at *
    generalize cmpL x.l y.l = P at *
    generalize u8s (x.xor y).l = XY at *
    generalize hgX : u8s x.l = X at *
    generalize hgY : u8s y.l = Y at *
    clear hgX hgY
    go_wp2_with (first
      | (refine wpList_load_blk rfl 27 (.tmp 7) rfl gx rfl 27 X _ hB0' Try.underlying27 rfl hiX.out ?_)
      | (go_at_call 25; refine (HTx.out _).mono ?_; rintro e w3 ⟨rfl, hb3⟩)
      | (go_at_call 37; refine (HPx.out _).mono ?_; rintro e w4 ⟨rfl, hb4⟩)
      | (refine wpList_store_blk rfl 27 (.tmp 9) (.tmp 19) rfl w4.heap.size 27 _ X rfl rfl (Blk.new w4 _ _) hsX.out hiX.out hoX ?_; intro w5 hB5 hk5))
    have l34 : w2.heap.size ≤ w4.heap.size := Nat.le_trans hb3.size hb4.size
    have hlx := hB0'.lt
    have hly := hB1'.lt
    have hl3 := hX2.lt
    have hl4 := hY2.lt
    have hX5 : Blk w5 gx 27 X := (((hB0'.below hb3).below hb4).alloc _).keeps hk5 (by simp; omega)
    have hY5 : Blk w5 gy 27 Y := (((hB1'.below hb3).below hb4).alloc _).keeps hk5 (by simp; omega)
    have h35 : Blk w5 w.heap.size 26 X := (((hX2.below hb3).below hb4).alloc _).keeps hk5 (by simp; omega)
    have h45 : Blk w5 (w.heap.size + 1) 26 Y := (((hY2.below hb3).below hb4).alloc _).keeps hk5 (by simp; omega)
    have hb5 : Below w.heap.size w w5 := ((Keeps.of_below (S := []) ((hb2.trans (hb3.mono hb2.size)).trans (hb4.mono (Nat.le_trans hb2.size hb3.size)))).alloc _ |>.trans' hk5 (by have := hb2.size; simp; omega)).below
    clear hB0' hB1' hX2 hY2 hb2 hb3 hb4 hk5 hlx hly hl3 hl4 l34 hu hu2
    generalize w4.heap.size = gt at *
    have lx := LX.out w5 hX5
    have ly := LY.out w5 hY5
    have lt := LT.out w5 gt hB5
    have l3 := L3.out w5 h35
    have l4 := L4.out w5 h45
    have hPC := HPC.out
    have hWP := HWP.out
    clear LX LY LT L3 L4 hX5 hY5 h35 h45 hB5 hoX
    refine wp_region_later (by kernel_rfl) (by kernel_rfl) ?_
    simp only [List.append_eq, List.cons_append, List.nil_append]
    repeat (first
      | go_big_quiet_skip
      | (go_big_quiet_want
         first
         | ((first | refine quiet_load _ _ rfl _ _ rfl lx ?_ | refine quiet_load _ _ rfl _ _ rfl ly ?_ | refine quiet_load _ _ rfl _ _ rfl lt ?_ | refine quiet_load _ _ rfl _ _ rfl l3 ?_ | refine quiet_load _ _ rfl _ _ rfl l4 ?_ | refine quiet_eql _ _ _ _ rfl _ _ _ rfl rfl hgd Hexx.out ?_ | refine quiet_eql _ _ _ _ rfl _ _ _ rfl rfl hgd Hezz.out ?_ | refine quiet_eql _ _ _ _ rfl _ _ _ rfl rfl hgd2 Hexy.out ?_)
            simp only [Act.put, List.setIfInBounds_toArray, List.set_cons_succ, List.set_cons_zero]
            go_big_quiet_on)
         | (go_big_quiet_op
            first
            | go_big_quiet_on
            | (go_big_quiet_call (first
              | (go_at_call 25; with_reducible exact later_of (HTx.out _))
              | (go_at_call 40; with_reducible exact later_of (HRx.out _))
              | (go_at_call 23; first | with_reducible exact later_of (HCxy.out _) | with_reducible exact later_of (HCyx.out _))
              | (go_at_call 41; with_reducible exact later_of (HRxy.out _))
              | (go_at_call 17; first | with_reducible exact later_of (HXxy.out _) | with_reducible exact later_of (HXyx.out _) | with_reducible exact later_of (HXxyy.out _))
              | (go_at_call 24; with_reducible exact later_of (HWx.out _))
              | (go_at_call 43; with_reducible exact later_of (HRW.out _))
              | (go_at_call 18; with_reducible exact later_of (HZxy.out _)))))))
    refine wpQuiet_nil ?_
    rintro _ ⟨p, rfl⟩
    have hbf := hb5.trans (p.below.mono hb5.size)
    go_wp2_with fail
    go_ret
    exact ⟨rfl, hbf⟩
end Go.Proofs.Ytbhlaafahfeacaa
