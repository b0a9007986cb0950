/- Walks: cell.Of, change, Put, Take, Minus; the reference's PutSum, Check, PutCell, MinusCell. -/
import Derived.Test.YtbhlaafahfeacaaCell
namespace Go.Proofs.Ytbhlaafahfeacaa
open Go.RowKit

/-- A sum's check. -/
def chk (x : Sm) : Sm := shaSm (67 :: x.l)
def Cl.put (c : Cl) (x : Sm) (n : Int) : Cl := ⟨wrap64 (c.n + n), c.key.xor x, c.check.xor (chk x)⟩
def Cl.minus (c d : Cl) : Cl := ⟨wrap64 (c.n - d.n), c.key.xor d.key, c.check.xor d.check⟩

set_option maxRecDepth 100000 in
set_option maxHeartbeats 1000000 in
theorem CellOf_any (x : Sm) (w : World) :
    Calls Try.prog 27 #[.agg (u8s x.l)] w fun e w' => e = .returned (.agg (u8s (chk x).l)) ∧ Below w.heap.size w w' := by
  have hX := (Blk.new w 27 (u8s x.l)).alloc (.cells (u8s (List.replicate 32 0)) 27)
  have hZ := Blk.newAt (w.alloc (.cells (u8s x.l) 27)) 27 (u8s (List.replicate 32 0)) (w.heap.size + 1) (by simp)
  have hb : Below w.heap.size w ((w.alloc (.cells (u8s x.l) 27)).alloc (.cells (u8s (List.replicate 32 0)) 27)) := (((Keeps.refl [] w).alloc _).alloc _).below
  have hi := Lib.hid (info32.trans (congrArg some (chk x).size.symm))
  have hs : Hid ((u8s (chk x).l).size = (u8s (List.replicate 32 0)).size) := by unfold Hid; rw [(chk x).size, u8s_size]; rfl
  have ho := u8s_one (chk x).l
  have hc : Hid (shaL (67 :: x.l) = (chk x).l) := rfl
  generalize (chk x).l = R at *
  go_enter Try.func27, Try.ntmps27
  go_wp2_with fail
  have h3 : ((((w.alloc (.cells (u8s x.l) 27)).alloc (.cells (u8s (List.replicate 32 0)) 27)).alloc (.cells #[.int .u8 67] 5)).alloc (.cells #[.slice (some ⟨w.heap.size + 1 + 1, 0, none⟩) 1 1, .slice (some ⟨w.heap.size, 0, none⟩) 32 32] 22)).heap.size = w.heap.size + 1 + 1 + 1 + 1 := by simp
  have hq := Blk.newAt (((w.alloc (.cells (u8s x.l) 27)).alloc (.cells (u8s (List.replicate 32 0)) 27)).alloc (.cells #[.int .u8 67] 5)) 22 #[.slice (some ⟨w.heap.size + 1 + 1, 0, none⟩) 1 1, .slice (some ⟨w.heap.size, 0, none⟩) 32 32] (w.heap.size + 1 + 1 + 1) (by simp)
  have h67 := (Blk.newAt ((w.alloc (.cells (u8s x.l) 27)).alloc (.cells (u8s (List.replicate 32 0)) 27)) 5 #[.int .u8 67] (w.heap.size + 1 + 1) (by simp)).alloc (.cells #[.slice (some ⟨w.heap.size + 1 + 1, 0, none⟩) 1 1, .slice (some ⟨w.heap.size, 0, none⟩) 32 32] 22)
  have hr1 : Rd ((((w.alloc (.cells (u8s x.l) 27)).alloc (.cells (u8s (List.replicate 32 0)) 27)).alloc (.cells #[.int .u8 67] 5)).alloc (.cells #[.slice (some ⟨w.heap.size + 1 + 1, 0, none⟩) 1 1, .slice (some ⟨w.heap.size, 0, none⟩) 32 32] 22)) (some ⟨w.heap.size + 1 + 1, 0, none⟩) (([67] : List Nat).map bv) := Rd.of_blk0 h67
  have hr2 := rd_sum ((hX.alloc (.cells #[.int .u8 67] 5)).alloc (.cells #[.slice (some ⟨w.heap.size + 1 + 1, 0, none⟩) 1 1, .slice (some ⟨w.heap.size, 0, none⟩) 32 32] 22))
  have hp := parts_two (A := some ⟨w.heap.size + 1 + 1, 0, none⟩) (B := some ⟨w.heap.size, 0, none⟩) (c := 1) (d := 32) (a := [67]) (b := x.l) (hq.cell 0) ((hq.cell 1).trans (by rw [x.len]; rfl)) hr1 hr2 (by simp) (by simp) (by decide) x.lt
  refine (Of_any (some ⟨w.heap.size + 1 + 1 + 1, 0, none⟩) (w.heap.size + 1 + 1 + 1) 0 2 2 [[67], x.l] _ rfl (by omega) (fun _ => rfl) hp (by simp [x.len]) (by omega)).mono ?_
  rintro e w2 ⟨rfl, hb2⟩
  have hf : [[67], x.l].flatten = 67 :: x.l := by simp
  rw [hf, hc.out]
  have hZ2 := (((hZ.alloc (.cells #[.int .u8 67] 5)).alloc (.cells #[.slice (some ⟨w.heap.size + 1 + 1, 0, none⟩) 1 1, .slice (some ⟨w.heap.size, 0, none⟩) 32 32] 22))).below hb2
  have hbb : Below w.heap.size w w2 := ((Keeps.of_below (S := []) hb).alloc _ |>.alloc _).below.trans (hb2.mono (by rw [h3]; omega))
  clear hq h67 hr1 hr2 hp hf hb2 hb hX hZ h3 hc
  go_wp2_with (refine wpList_store_blk rfl 27 (.tmp 2) (.tmp 6) rfl (w.heap.size + 1) 27 _ (u8s R) rfl rfl hZ2 hs.out hi.out ho ?_; intro w3 hB3 hk3)
  refine post_blk rfl rfl (w.heap.size + 1) 27 (u8s R) _ rfl hB3 Try.underlying27 rfl hi.out ⟨rfl, ?_⟩
  exact ((Keeps.of_below (S := []) hbb).trans' hk3 (by simp)).below

theorem quiet_build_cell34 {o : Oper} {a : Act} {W : World → Prop} {Q : Act → Prop} (x y z : Operand) (ho : o.op = .build 34 #[(0, x), (1, y), (2, z)]) (n : Int) (K C : Array Value) (hx : a.eval x = .int .i64 n) (hy : a.eval y = .agg K) (hz : a.eval z = .agg C)
    (hK : K.size = 32) (hC : C.size = 32) (hk : Q (a.put o.dst (.agg (cellA n K C)))) : o.quiet Try.prog a W Q :=
  ⟨_, fun w _ => by
    have h := build_cell34 n K C hK hC w
    unfold Oper.quietAt execOp
    rw [ho]
    simp [hx, hy, hz, h, Oper.quietUpon], hk⟩
theorem later_n34 {w : World} {g : Nat} {t : TypeId} (c : Cl) (hB : Blk w g t c.a) : ∀ w' : World, (∃ p : Later w, w' = p.wd) → (Instr.loadAt 2 (.pointer (some ⟨g, 0, none⟩))).run Try.prog w' = .ok (.int .i64 c.n) w' := by
  rintro w' ⟨p, rfl⟩
  exact load_int64 (cell_count (hB.below p.below))
theorem later_key34 {w : World} {g : Nat} {t : TypeId} (c : Cl) (hB : Blk w g t c.a) : ∀ w' : World, (∃ p : Later w, w' = p.wd) → (Instr.loadAt 27 (.pointer (some ⟨g, 1, none⟩))).run Try.prog w' = .ok (.agg (u8s c.key.l)) w' := by
  rintro w' ⟨p, rfl⟩
  have h := run_loadAt_mid (P := Try.prog) p.wd g 1 27 (u8s c.key.l).toList _ (range_key (hB.below p.below) c.key.size c.check.size) Try.underlying27 rfl (by rw [Array.length_toList, c.key.size]; kernel_rfl)
  rwa [Array.toArray_toList] at h
theorem later_check34 {w : World} {g : Nat} {t : TypeId} (c : Cl) (hB : Blk w g t c.a) : ∀ w' : World, (∃ p : Later w, w' = p.wd) → (Instr.loadAt 27 (.pointer (some ⟨g, 33, none⟩))).run Try.prog w' = .ok (.agg (u8s c.check.l)) w' := by
  rintro w' ⟨p, rfl⟩
  have h := run_loadAt_mid (P := Try.prog) p.wd g 33 27 (u8s c.check.l).toList _ (range_check (hB.below p.below) c.key.size c.check.size) Try.underlying27 rfl (by rw [Array.length_toList, c.check.size]; kernel_rfl)
  rwa [Array.toArray_toList] at h
theorem later_cell34 {w : World} {g : Nat} {t : TypeId} (c : Cl) (hB : Blk w g t c.a) : ∀ w' : World, (∃ p : Later w, w' = p.wd) → (Instr.loadAt 34 (.pointer (some ⟨g, 0, none⟩))).run Try.prog w' = .ok (.agg c.a) w' :=
  load_later hB Try.underlying34 rfl (info34.trans (congrArg some c.size.symm))

set_option maxRecDepth 100000 in
set_option maxHeartbeats 2000000 in
theorem change_any (c : Cl) (x : Sm) (n : Int) (w : World) :
    Calls Try.prog 47 #[.agg c.a, .agg (u8s x.l), .int .i64 n] w fun e w' => e = .returned (.agg (c.put x n).a) ∧ Below w.heap.size w w' := by
  have hC := (((Blk.new w 34 c.a).alloc (.cells (u8s x.l) 27)).alloc (.cells zero65 34))
  have hX := (Blk.newAt (w.alloc (.cells c.a 34)) 27 (u8s x.l) (w.heap.size + 1) (by simp)).alloc (.cells zero65 34)
  have hZ := Blk.newAt ((w.alloc (.cells c.a 34)).alloc (.cells (u8s x.l) 27)) 34 zero65 (w.heap.size + 1 + 1) (by simp)
  have hb : Below w.heap.size w (((w.alloc (.cells c.a 34)).alloc (.cells (u8s x.l) 27)).alloc (.cells zero65 34)) := ((((Keeps.refl [] w).alloc _).alloc _).alloc _).below
  have l1 := later_n34 c hC
  have l2 := later_key34 c hC
  have l3 := later_check34 c hC
  have l4 := load_sum x hX
  have x1 := fun W => Xor_any c.key x W
  have x2 := fun W => Xor_any c.check (chk x) W
  have x3 := fun W => CellOf_any x W
  have HX1 := Lib.hid x1
  have HX2 := Lib.hid x2
  have HX3 := Lib.hid x3
  have hR : Hid ((c.put x n).a = cellA (wrap64 (c.n + n)) (u8s (c.key.xor x).l) (u8s (c.check.xor (chk x)).l)) := rfl
  have hi := Lib.hid (info34.trans (congrArg some (c.put x n).size.symm))
  have hs : Hid ((c.put x n).a.size = zero65.size) := (c.put x n).size.trans zero65_size.symm
  have ho := (c.put x n).one
  have hsz1 := (c.key.xor x).size
  have hsz2 := (c.check.xor (chk x)).size
  have HS1 := Lib.hid hsz1
  have HS2 := Lib.hid hsz2
  clear hC hX x1 x2 x3 hsz1 hsz2
  generalize (c.put x n).a = R at *
  generalize hc0 : c.a = CA at *
  clear hc0
  generalize c.n = cn at *
  generalize u8s (c.key.xor x).l = K1 at *
  generalize u8s (c.check.xor (chk x)).l = K2 at *
  generalize u8s c.key.l = K3 at *
  generalize u8s c.check.l = K4 at *
  generalize u8s (chk x).l = K5 at *
  generalize u8s x.l = X at *
  have hzero := zero34
  go_enter Try.func47, Try.ntmps47
  go_wp2_with fail
  refine wp_region_later_tail 14 (by kernel_rfl) (by kernel_rfl) ?_
  simp only [List.take_succ_cons, List.take_zero, List.drop_succ_cons, List.drop_zero]
  repeat (first
    | go_big_quiet_skip
    | (go_big_quiet_want
       first
       | ((first | refine quiet_load _ _ rfl _ _ rfl l1 ?_ | refine quiet_load _ _ rfl _ _ rfl l2 ?_ | refine quiet_load _ _ rfl _ _ rfl l3 ?_ | refine quiet_load _ _ rfl _ _ rfl l4 ?_ | refine quiet_build_cell34 _ _ _ rfl _ _ _ rfl rfl rfl HS1.out HS2.out ?_)
          simp only [Act.put, List.setIfInBounds_toArray, List.set_cons_succ, List.set_cons_zero]
          go_big_quiet_on)
       | (go_big_quiet_op
          first
          | go_big_quiet_on
          | (go_big_quiet_call (first
            | (go_at_call 17; first | with_reducible exact later_of (HX1.out _) | with_reducible exact later_of (HX2.out _))
            | (go_at_call 27; with_reducible exact later_of (HX3.out _)))))))
  refine wpQuiet_nil ?_
  rintro _ ⟨p, rfl⟩
  have hZp := hZ.below p.below
  have hbp := hb.trans (p.below.mono hb.size)
  clear l1 l2 l3 l4 hZ hb
  generalize p.wd = w2 at *
  rw [← hR.out]
  go_wp2_with (refine wpList_store_blk rfl 34 (.tmp 6) (.tmp 20) rfl (w.heap.size + 1 + 1) 34 _ R rfl rfl hZp hs.out hi.out ho ?_; intro w3 hB3 hk3)
  refine post_blk rfl rfl (w.heap.size + 1 + 1) 34 R _ rfl hB3 Try.underlying34 rfl hi.out ⟨rfl, ?_⟩
  exact ((Keeps.of_below (S := []) hbp).trans' hk3 (by simp; omega)).below

set_option maxRecDepth 100000 in
theorem Put_any (c : Cl) (x : Sm) (w : World) :
    Calls Try.prog 20 #[.agg c.a, .agg (u8s x.l)] w fun e w' => e = .returned (.agg (c.put x 1).a) ∧ Below w.heap.size w w' := by
  have hC := (((Blk.new w 34 c.a).alloc (.cells (u8s x.l) 27)).alloc (.cells zero65 34))
  have hX := (Blk.newAt (w.alloc (.cells c.a 34)) 27 (u8s x.l) (w.heap.size + 1) (by simp)).alloc (.cells zero65 34)
  have hZ := Blk.newAt ((w.alloc (.cells c.a 34)).alloc (.cells (u8s x.l) 27)) 34 zero65 (w.heap.size + 1 + 1) (by simp)
  have hb : Below w.heap.size w (((w.alloc (.cells c.a 34)).alloc (.cells (u8s x.l) 27)).alloc (.cells zero65 34)) := ((((Keeps.refl [] w).alloc _).alloc _).alloc _).below
  have x3 := fun W => change_any c x 1 W
  have HX3 := Lib.hid x3
  have hi0 := Lib.hid (info34.trans (congrArg some c.size.symm))
  have hi1 := Lib.hid (info32.trans (congrArg some x.size.symm))
  have hi := Lib.hid (info34.trans (congrArg some (c.put x 1).size.symm))
  have hs : Hid ((c.put x 1).a.size = zero65.size) := (c.put x 1).size.trans zero65_size.symm
  have ho := (c.put x 1).one
  clear x3
  generalize (c.put x 1).a = R at *
  generalize hc0 : c.a = CA at *
  clear hc0
  generalize u8s x.l = X at *
  have hzero := zero34
  go_enter Try.func20, Try.ntmps20
  go_wp2_with (first
    | (refine wpList_load_blk rfl 34 (.tmp 2) rfl w.heap.size rfl 34 CA _ hC Try.underlying34 rfl hi0.out ?_)
    | (refine wpList_load_blk rfl 27 (.tmp 3) rfl (w.heap.size + 1) rfl 27 X _ hX Try.underlying27 rfl hi1.out ?_)
    | (go_at_call 47; refine (HX3.out _).mono ?_; rintro e w2 ⟨rfl, hb2⟩; have hZp := hZ.below hb2)
    | (refine wpList_store_blk rfl 34 (.tmp 4) (.tmp 7) rfl (w.heap.size + 1 + 1) 34 _ R rfl rfl hZp hs.out hi.out ho ?_; intro w3 hB3 hk3))
  refine post_blk rfl rfl (w.heap.size + 1 + 1) 34 R _ rfl hB3 Try.underlying34 rfl hi.out ⟨rfl, ?_⟩
  exact ((Keeps.of_below (S := []) (hb.trans (hb2.mono hb.size))).trans' hk3 (by simp; omega)).below

set_option maxRecDepth 100000 in
theorem Take_any (c : Cl) (x : Sm) (w : World) :
    Calls Try.prog 21 #[.agg c.a, .agg (u8s x.l)] w fun e w' => e = .returned (.agg (c.put x (-1)).a) ∧ Below w.heap.size w w' := by
  have hC := (((Blk.new w 34 c.a).alloc (.cells (u8s x.l) 27)).alloc (.cells zero65 34))
  have hX := (Blk.newAt (w.alloc (.cells c.a 34)) 27 (u8s x.l) (w.heap.size + 1) (by simp)).alloc (.cells zero65 34)
  have hZ := Blk.newAt ((w.alloc (.cells c.a 34)).alloc (.cells (u8s x.l) 27)) 34 zero65 (w.heap.size + 1 + 1) (by simp)
  have hb : Below w.heap.size w (((w.alloc (.cells c.a 34)).alloc (.cells (u8s x.l) 27)).alloc (.cells zero65 34)) := ((((Keeps.refl [] w).alloc _).alloc _).alloc _).below
  have x3 := fun W => change_any c x (-1) W
  have HX3 := Lib.hid x3
  have hi0 := Lib.hid (info34.trans (congrArg some c.size.symm))
  have hi1 := Lib.hid (info32.trans (congrArg some x.size.symm))
  have hi := Lib.hid (info34.trans (congrArg some (c.put x (-1)).size.symm))
  have hs : Hid ((c.put x (-1)).a.size = zero65.size) := (c.put x (-1)).size.trans zero65_size.symm
  have ho := (c.put x (-1)).one
  clear x3
  generalize (c.put x (-1)).a = R at *
  generalize hc0 : c.a = CA at *
  clear hc0
  generalize u8s x.l = X at *
  have hzero := zero34
  go_enter Try.func21, Try.ntmps21
  go_wp2_with (first
    | (refine wpList_load_blk rfl 34 (.tmp 2) rfl w.heap.size rfl 34 CA _ hC Try.underlying34 rfl hi0.out ?_)
    | (refine wpList_load_blk rfl 27 (.tmp 3) rfl (w.heap.size + 1) rfl 27 X _ hX Try.underlying27 rfl hi1.out ?_)
    | (go_at_call 47; refine (HX3.out _).mono ?_; rintro e w2 ⟨rfl, hb2⟩; have hZp := hZ.below hb2)
    | (refine wpList_store_blk rfl 34 (.tmp 4) (.tmp 7) rfl (w.heap.size + 1 + 1) 34 _ R rfl rfl hZp hs.out hi.out ho ?_; intro w3 hB3 hk3))
  refine post_blk rfl rfl (w.heap.size + 1 + 1) 34 R _ rfl hB3 Try.underlying34 rfl hi.out ⟨rfl, ?_⟩
  exact ((Keeps.of_below (S := []) (hb.trans (hb2.mono hb.size))).trans' hk3 (by simp; omega)).below

set_option maxRecDepth 100000 in
set_option maxHeartbeats 2000000 in
theorem Minus_any (c d : Cl) (w : World) :
    Calls Try.prog 26 #[.agg c.a, .agg d.a] w fun e w' => e = .returned (.agg (c.minus d).a) ∧ Below w.heap.size w w' := by
  have hC := (((Blk.new w 34 c.a).alloc (.cells d.a 34)).alloc (.cells zero65 34))
  have hX := (Blk.newAt (w.alloc (.cells c.a 34)) 34 d.a (w.heap.size + 1) (by simp)).alloc (.cells zero65 34)
  have hZ := Blk.newAt ((w.alloc (.cells c.a 34)).alloc (.cells d.a 34)) 34 zero65 (w.heap.size + 1 + 1) (by simp)
  have hb : Below w.heap.size w (((w.alloc (.cells c.a 34)).alloc (.cells d.a 34)).alloc (.cells zero65 34)) := ((((Keeps.refl [] w).alloc _).alloc _).alloc _).below
  have l1 := later_n34 c hC
  have l2 := later_key34 c hC
  have l3 := later_check34 c hC
  have l4 := later_n34 d hX
  have l5 := later_key34 d hX
  have l6 := later_check34 d hX
  have x1 := fun W => Xor_any c.key d.key W
  have x2 := fun W => Xor_any c.check d.check W
  have HX1 := Lib.hid x1
  have HX2 := Lib.hid x2
  have hR : Hid ((c.minus d).a = cellA (wrap64 (c.n - d.n)) (u8s (c.key.xor d.key).l) (u8s (c.check.xor d.check).l)) := rfl
  have hi := Lib.hid (info34.trans (congrArg some (c.minus d).size.symm))
  have hs : Hid ((c.minus d).a.size = zero65.size) := (c.minus d).size.trans zero65_size.symm
  have ho := (c.minus d).one
  have hsz1 := (c.key.xor d.key).size
  have hsz2 := (c.check.xor d.check).size
  have HS1 := Lib.hid hsz1
  have HS2 := Lib.hid hsz2
  clear hC hX x1 x2 hsz1 hsz2
  generalize (c.minus d).a = R at *
  generalize hc0 : c.a = CA at *
  generalize hd0 : d.a = DA at *
  clear hc0 hd0
  generalize c.n = cn at *
  generalize d.n = dn at *
  generalize u8s (c.key.xor d.key).l = K1 at *
  generalize u8s (c.check.xor d.check).l = K2 at *
  generalize u8s c.key.l = K3 at *
  generalize u8s c.check.l = K4 at *
  generalize u8s d.key.l = K5 at *
  generalize u8s d.check.l = K6 at *
  have hzero := zero34
  go_enter Try.func26, Try.ntmps26
  go_wp2_with fail
  refine wp_region_later_tail 16 (by kernel_rfl) (by kernel_rfl) ?_
  simp only [List.take_succ_cons, List.take_zero, List.drop_succ_cons, List.drop_zero]
  repeat (first
    | go_big_quiet_skip
    | (go_big_quiet_want
       first
       | ((first | refine quiet_load _ _ rfl _ _ rfl l1 ?_ | refine quiet_load _ _ rfl _ _ rfl l2 ?_ | refine quiet_load _ _ rfl _ _ rfl l3 ?_ | refine quiet_load _ _ rfl _ _ rfl l4 ?_ | refine quiet_load _ _ rfl _ _ rfl l5 ?_ | refine quiet_load _ _ rfl _ _ rfl l6 ?_ | refine quiet_build_cell34 _ _ _ rfl _ _ _ rfl rfl rfl HS1.out HS2.out ?_)
          simp only [Act.put, List.setIfInBounds_toArray, List.set_cons_succ, List.set_cons_zero]
          go_big_quiet_on)
       | (go_big_quiet_op
          first
          | go_big_quiet_on
          | (go_big_quiet_call ((go_at_call 17; first | with_reducible exact later_of (HX1.out _) | with_reducible exact later_of (HX2.out _)))))))
  refine wpQuiet_nil ?_
  rintro _ ⟨p, rfl⟩
  have hZp := hZ.below p.below
  have hbp := hb.trans (p.below.mono hb.size)
  clear l1 l2 l3 l4 l5 l6 hZ hb
  generalize p.wd = w2 at *
  rw [← hR.out]
  go_wp2_with (refine wpList_store_blk rfl 34 (.tmp 4) (.tmp 20) rfl (w.heap.size + 1 + 1) 34 _ R rfl rfl hZp hs.out hi.out ho ?_; intro w3 hB3 hk3)
  refine post_blk rfl rfl (w.heap.size + 1 + 1) 34 R _ rfl hB3 Try.underlying34 rfl hi.out ⟨rfl, ?_⟩
  exact ((Keeps.of_below (S := []) hbp).trans' hk3 (by simp; omega)).below

end Go.Proofs.Ytbhlaafahfeacaa
