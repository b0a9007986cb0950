/- Cells, plainly; layer 13's awake. -/
import Derived.Test.YtbhlaafahfeacaaCellE
namespace Go.Proofs.Ytbhlaafahfeacaa
open Go.RowKit

theorem wpList_valg {P : Program} {ops : Array Oper} {rest : List Oper} {o : Oper} {a : Act} {w : World} {Q : Exit → Act → World → Prop} (hw : Region.wanted o (yielded ops a.tmps) = true) (v : Value) (h : (execOp a.eval o).run P w = .ok (.value v) w)
    (k : wpList P ops Q rest (a.put o.dst v) w) : wpList P ops Q (o :: rest) a w := by
  unfold wpList
  rw [if_pos hw]
  exact .inl (by unfold Oper.wp; rw [h]; exact k)

theorem wrap64_of {n : Int} (h : -9223372036854775808 ≤ n) (h2 : n ≤ 9223372036854775807) : wrap64 n = n := by unfold wrap64; omega
theorem wrap64_add (a b : Int) : wrap64 (wrap64 a + b) = wrap64 (a + b) := by unfold wrap64; omega
theorem put_zero (x : Sm) : Cl.zero.put x 1 = ⟨1, x, chk x⟩ := by
  unfold Cl.put Cl.zero
  rw [Sm.zero_xor, Sm.zero_xor, wrap64_of (by simp) (by simp)]
  rfl
theorem take_zero (x : Sm) : Cl.zero.put x (-1) = ⟨-1, x, chk x⟩ := by
  unfold Cl.put Cl.zero
  rw [Sm.zero_xor, Sm.zero_xor, wrap64_of (by simp) (by simp)]
  rfl
theorem put_take (x : Sm) : (Cl.put ⟨1, x, chk x⟩ x (-1)) = Cl.zero := by
  unfold Cl.put Cl.zero
  rw [Sm.xor_self, Sm.xor_self, wrap64_of (by simp) (by simp)]
  rfl
theorem one_ok (x : Sm) : (Cl.ok ⟨1, x, chk x⟩) = true ∧ (Cl.plus ⟨1, x, chk x⟩) = true ∧ (Cl.sum ⟨1, x, chk x⟩) = x := by
  have h : (Cl.ok ⟨1, x, chk x⟩) = true := by unfold Cl.ok; simp
  refine ⟨h, ?_, ?_⟩
  · unfold Cl.plus; rw [h]; rfl
  · unfold Cl.sum; rw [if_pos h]
theorem minus_ok (x : Sm) : (Cl.ok ⟨-1, x, chk x⟩) = true ∧ (Cl.plus ⟨-1, x, chk x⟩) = false ∧ (Cl.sum ⟨-1, x, chk x⟩) = x := by
  have h : (Cl.ok ⟨-1, x, chk x⟩) = true := by unfold Cl.ok; simp
  refine ⟨h, ?_, ?_⟩
  · unfold Cl.plus; rw [h]; rfl
  · unfold Cl.sum; rw [if_pos h]

set_option maxRecDepth 100000 in
set_option maxHeartbeats 2000000 in
theorem awake13_any (w : World) : Calls Try.prog 19 #[] w fun e w' => e = .returned (.bool true) ∧ Below w.heap.size w w' := by
  have kc := fun (w : World) (C : Array Value) (n c : Nat) => Lib.run_convert_bytes_const (P := Try.prog) w 22 5 C n c Try.underlying22 Try.underlying5
  go_enter Try.func19, Try.ntmps19
  go_wp2_with fail
  refine (Of_any (some ⟨w.heap.size + 1, 0, none⟩) (w.heap.size + 1) 0 1 1 [[120]] _ rfl (by omega) (fun _ => rfl) ?_ (by simp) (by omega)).mono ?_
  · intro i l hi
    match i, hi with
    | 0, hi =>
      simp only [List.getElem?_cons_zero, Option.some.injEq] at hi
      subst hi
      exact ⟨_, _, (Blk.newAt (w.alloc _) _ #[.slice (some ⟨w.heap.size, 0, none⟩) 1 1] _ (by simp)).cell 0, (Rd.newF w _ #[.int .u8 120] _ _ rfl).alloc _, by simp, by decide⟩
  rintro e w1 ⟨rfl, hb1⟩
  have hb : Below w.heap.size w w1 := (((Keeps.refl [] w).alloc _).alloc _).below.trans (hb1.mono (by simp; omega))
  clear hb1 kc
  have hx : Hid (shaL [[120]].flatten = (shaSm [120]).l) := rfl
  rw [hx.out]
  clear hx
  generalize shaSm [120] = x at *
  have hi1 := Lib.hid (info32.trans (congrArg some x.size.symm))
  have hs1 : Hid ((u8s x.l).size = (u8s (List.replicate 32 0)).size) := by unfold Hid; rw [x.size, u8s_size]; rfl
  have ho1 := u8s_one x.l
  have hzv := zero34
  have hp := fun W => Put_any Cl.zero x W
  rw [put_zero] at hp
  have hz0 : Cl.zero.a = zero65 := rfl
  rw [hz0] at hp
  have hpu := fun W => Pure_any ⟨1, x, chk x⟩ W
  rw [(one_ok x).1, (one_ok x).2.1, (one_ok x).2.2] at hpu
  have hzz := fun W => CellZero_any ⟨1, x, chk x⟩ W
  rw [decide_eq_false (show ¬ (⟨1, x, chk x⟩ : Cl) = Cl.zero from fun h => by have := congrArg Cl.n h; cases this)] at hzz
  have htk := fun W => Take_any ⟨1, x, chk x⟩ x W
  rw [put_take, hz0] at htk
  have hz2 := fun W => CellZero_any Cl.zero W
  rw [decide_eq_true rfl, hz0] at hz2
  have hexx : ∀ W, (binOp .eql 27 (.agg (u8s x.l)) (.agg (u8s x.l))).run Try.prog W = .ok (.bool true) W := fun W => by rw [eql_sm, decide_eq_true rfl]
  have hgd : Try.prog.eqGuardType Try.prog.depth 27 = false := by kernel_rfl
  have hi2 := Lib.hid (info34.trans (congrArg some (Cl.size ⟨1, x, chk x⟩).symm))
  have hs2 : Hid ((Cl.a ⟨1, x, chk x⟩).size = zero65.size) := (Cl.size _).trans zero65_size.symm
  have ho2 := Cl.one ⟨1, x, chk x⟩
  have HP := Lib.hid hp
  have HPU := Lib.hid hpu
  have HZZ := Lib.hid hzz
  have HTK := Lib.hid htk
  have HZ2 := Lib.hid hz2
  have HEXX := Lib.hid hexx
  have LX := Lib.hid (fun W g (h : Blk W g 27 (u8s x.l)) => load_sum x h)
  have LC := Lib.hid (fun W g (h : Blk W g 34 (Cl.a ⟨1, x, chk x⟩)) => later_cell34 ⟨1, x, chk x⟩ h)
  clear hp hpu hzz htk hz2 hz0
  generalize Cl.a ⟨1, x, chk x⟩ = C at *
  generalize u8s x.l = X at *
  go_wp2_with (first
    | (refine wpList_store_blk rfl 27 (.tmp 1) (.tmp 9) rfl w1.heap.size 27 _ X rfl rfl (Blk.new w1 _ _) hs1.out hi1.out ho1 ?_
       intro w2 hB2 hk2
       have hb2 : Below w.heap.size w w2 := (((Keeps.of_below (S := []) hb).alloc _).trans' hk2 (by have := hb.size; simp; omega)).below)
    | (refine wpList_val rfl _ (exec_build rfl (build_zero34 _)) ?_)
    | (refine wpList_load_blk rfl 27 (.tmp 1) rfl w1.heap.size rfl 27 X _ hB2 Try.underlying27 rfl hi1.out ?_)
    | (go_at_call 20
       refine (HP.out _).mono ?_
       rintro e w3 ⟨rfl, hb3⟩
       have hB3 := hB2.below hb3
       have hb3' := hb2.trans (hb3.mono hb2.size))
    | (refine wpList_store_blk rfl 34 (.tmp 2) (.tmp 12) rfl w3.heap.size 34 _ C rfl rfl (Blk.new w3 _ _) hs2.out hi2.out ho2 ?_
       intro w4 hC4 hk4
       have hB4 : Blk w4 w1.heap.size 27 X := (hB3.alloc _).keeps hk4 (by have := hB3.lt; simp; omega)
       have hb4 : Below w.heap.size w w4 := (((Keeps.of_below (S := []) hb3').alloc _).trans' hk4 (by have := hb3'.size; simp; omega)).below)
    | (refine wpList_load_blk rfl 34 (.tmp 2) rfl w3.heap.size rfl 34 C _ hC4 Try.underlying34 rfl hi2.out ?_)
    | (go_at_call 22
       refine (HPU.out _).mono ?_
       rintro e w5 ⟨rfl, hb5⟩
       have hC5 := hC4.below hb5
       have hB5 := hB4.below hb5
       have hb5' := hb4.trans (hb5.mono hb4.size))
    | (refine wpList_store_blk rfl 27 (.tmp 3) (.tmp 16) rfl w5.heap.size 27 _ X rfl rfl (Blk.new w5 _ _) hs1.out hi1.out ho1 ?_
       intro w6 hX6 hk6
       have hB6 : Blk w6 w1.heap.size 27 X := (hB5.alloc _).keeps hk6 (by have := hB5.lt; simp; omega)
       have hC6 : Blk w6 w3.heap.size 34 C := (hC5.alloc _).keeps hk6 (by have := hC5.lt; simp; omega)
       have hb6 : Below w.heap.size w w6 := (((Keeps.of_below (S := []) hb5').alloc _).trans' hk6 (by have := hb5'.size; simp; omega)).below)
    | (refine wpList_valg rfl _ (exec_load (x := .tmp 3) rfl rfl (load_blk hX6 Try.underlying27 rfl hi1.out)) ?_)
    | (refine wpList_valg rfl _ (exec_load (x := .tmp 2) rfl rfl (load_blk hC7 Try.underlying34 rfl hi2.out)) ?_)
    | (refine wpList_valg rfl _ (exec_load (x := .tmp 1) rfl rfl (load_blk hB7 Try.underlying27 rfl hi1.out)) ?_)
    | (refine wpList_valg rfl _ (exec_load (x := .tmp 2) rfl rfl (load_blk hC6 Try.underlying34 rfl hi2.out)) ?_)
    | (refine wpList_valg rfl _ (exec_load (x := .tmp 1) rfl rfl (load_blk hB6 Try.underlying27 rfl hi1.out)) ?_)
    | (go_at_call 21
       refine (HTK.out _).mono ?_
       rintro e w8 ⟨rfl, hb8⟩
       have hb8' := hb7'.trans (hb8.mono hb7'.size))
    | (go_at_call 28
       refine (HZ2.out _).mono ?_
       rintro e w9 ⟨rfl, hb9⟩
       have hb9' := hb8'.trans (hb9.mono hb8'.size))
    | (go_at_call 28
       refine (HZZ.out _).mono ?_
       rintro e w7 ⟨rfl, hb7⟩
       have hB7 := hB6.below hb7
       have hC7 := hC6.below hb7
       have hb7' := hb6.trans (hb7.mono hb6.size)))
  go_ret
  exact ⟨rfl, hb9'⟩
end Go.Proofs.Ytbhlaafahfeacaa
