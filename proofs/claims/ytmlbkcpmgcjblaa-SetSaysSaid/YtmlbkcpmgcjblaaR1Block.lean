/- The walk of the reference's block. -/
import Derived.Test.YtmlbkcpmgcjblaaR1Keys
namespace Go.Proofs.Ytmlbkcpmgcjblaa
open Go.RowKit

set_option maxRecDepth 100000 in
theorem info8a : (Try.prog.info? 116).map (·.size) = some 8 := by kernel_rfl

set_option maxRecDepth 100000 in
set_option maxHeartbeats 6000000 in
theorem block_any (A : Option Addr) (cap : Nat) (st b : List Nat) (w : World) (hh : st.length = 8) (hl : b.length = 64) (hr : Rd w A (b.map bv)) (hx : ∀ x ∈ b, x < 256) :
    Calls Try.prog 119 #[.agg (u32s st), .slice A 64 cap] w fun e w' => e = .returned (.agg (u32s (blockS st b))) ∧ Below w.heap.size w w' := by
  have X := x32_eq
  have C := c32_eq
  have N := n32_eq
  have O := o32_eq
  have P1 := a32_eq
  have P2 := a32_eq'
  have R3 := r32_eq 3 8 (by decide)
  have R10 := r32_eq 10 1024 (by decide)
  have L24 := l32_eq 24 16777216 (by decide)
  have L16 := l32_eq 16 65536 (by decide)
  have L8 := l32_eq 8 256 (by decide)
  have M24 := l32_eq' 24 16777216 (by decide)
  have M16 := l32_eq' 16 65536 (by decide)
  have M8 := l32_eq' 8 256 (by decide)
  have hih := Lib.hid (info8a.trans (congrArg some ((u32s_size st).trans hh).symm))
  have hoh := u32s_one st
  have hk1 := u32s_one keysS
  have HB : Hid (blockS st b = List.zipWith a32 st (roundsS (wordsS b 64) st 64)) := rfl
  have HHH := Lib.hid hh
  have HRr := Lib.hid hr
  have HX := Lib.hid hx
  have HL := Lib.hid hl
  have hlB := blockS_len st b hh
  have HLB := Lib.hid hlB
  clear hh hr hx hl hlB
  generalize blockS st b = B at *
  go_enter Try.func119, Try.ntmps119
  go_wp2_with fail
  have hG0 : Blk ((w.alloc (.cells (u32s st) 116)).alloc (.cells (u32s (List.replicate 8 0)) 116)) w.heap.size 116 (u32s st) := (Blk.new w _ _).alloc _
  have hZ0 : Blk ((w.alloc (.cells (u32s st) 116)).alloc (.cells (u32s (List.replicate 8 0)) 116)) (w.heap.size + 1) 116 (u32s (List.replicate 8 0)) := Blk.newAt (w.alloc _) _ _ _ (by simp)
  have hb0 : Below w.heap.size w ((w.alloc (.cells (u32s st) 116)).alloc (.cells (u32s (List.replicate 8 0)) 116)) := (((Keeps.refl [] w).alloc _).alloc _).below
  refine (keys_any _).mono ?_
  rintro e w1 ⟨rfl, hb1⟩
  have hG1 := hG0.below hb1
  have hZ1 := hZ0.below hb1
  have hb2 := hb0.trans (hb1.mono hb0.size)
  clear hG0 hZ0 hb0 hb1
  go_wp2_with (refine wpList_store_blk rfl 149 (.tmp 5) (.tmp 16) rfl w1.heap.size 149 _ (u32s keysS) rfl rfl (Blk.new w1 _ _) rfl info64 hk1 ?_; intro w2 hK2 hk2)
  have hlz := hZ1.lt
  have hlk := hK2.lt
  have hG2 : Blk (w2.alloc (.cells (u32s (fillTo 64 [])) 149)) w.heap.size 116 (u32s st) := ((hG1.alloc _).keeps hk2 (by simp; omega)).alloc _
  have hZ2 : Blk (w2.alloc (.cells (u32s (fillTo 64 [])) 149)) (w.heap.size + 1) 116 (u32s (List.replicate 8 0)) := ((hZ1.alloc _).keeps hk2 (by simp; omega)).alloc _
  have hK3 : Blk (w2.alloc (.cells (u32s (fillTo 64 [])) 149)) w1.heap.size 149 (u32s keysS) := hK2.alloc _
  have hW : Blk (w2.alloc (.cells (u32s (fillTo 64 [])) 149)) w2.heap.size 149 (u32s (fillTo 64 (wordsS b 0))) := Blk.new w2 _ _
  have hb : Below w.heap.size w (w2.alloc (.cells (u32s (fillTo 64 [])) 149)) := (((Keeps.of_below (S := []) hb2).alloc _).trans' hk2 (by have := hb2.size; simp; omega)).alloc _ |>.below
  clear hG1 hZ1 hb2 hK2 hk2
  generalize w1.heap.size = gk at *
  generalize w2.heap.size = gw at *
  go_loopw [7] (fun i wr => ∃ k : Nat, k ≤ 16 ∧ i = .int .i64 k ∧ Blk wr w.heap.size 116 (u32s st) ∧ Blk wr (w.heap.size + 1) 116 (u32s (List.replicate 8 0)) ∧ Blk wr gk 149 (u32s keysS) ∧ Blk wr gw 149 (u32s (fillTo 64 (wordsS b k))) ∧ Below w.heap.size w wr) (fun i _ => 16 - (intOf i).toNat)
  case atStart => exact ⟨0, by omega, rfl, hG2, hZ2, hK3, hW, hb⟩
  case round =>
    clear hG2 hZ2 hK3 hW hb
    obtain ⟨k, hk, rfl, hG, hZ, hK, hB, hb⟩ := hrel
    by_cases hlt : k < 16
    · have hw : wordsS b (k + 1) = wordsS b k ++ [word4 (b.getD (4 * k) 0) (b.getD (4 * k + 1) 0) (b.getD (4 * k + 2) 0) (b.getD (4 * k + 3) 0)] := by rw [wordsS]; simp only [if_pos hlt]
      have HW := Lib.hid hw
      clear hw
      have hg : ∀ j, j < 64 → ∃ ad, A = some ad ∧ wr.cell? (ad.add j) = some (.int .u8 ((b.getD j 0 : Nat) : Int)) ∧ b.getD j 0 < 256 := fun j hj => by
        obtain ⟨ad, e, h⟩ := (HRr.out.below hb).at_ (j := j) (by simpa [HL.out] using hj)
        have hj' : j < b.length := by have := HL.out; omega
        refine ⟨ad, e, ?_, ?_⟩
        · rw [h]; simp [bv, List.getD, List.getElem?_eq_getElem hj']
        · simp only [List.getD, List.getElem?_eq_getElem hj', Option.getD_some]; exact HX.out _ (List.getElem_mem _)
      obtain ⟨ad, rfl, c0, l0⟩ := hg (4 * k) (by omega)
      obtain ⟨ad1, e, c1, l1⟩ := hg (4 * k + 1) (by omega)
      injection e with e; subst e
      obtain ⟨ad1, e, c2, l2⟩ := hg (4 * k + 2) (by omega)
      injection e with e; subst e
      obtain ⟨ad1, e, c3, l3⟩ := hg (4 * k + 3) (by omega)
      injection e with e; subst e
      clear hg
      generalize b.getD (4 * k) 0 = b0 at *
      generalize b.getD (4 * k + 1) 0 = b1 at *
      generalize b.getD (4 * k + 2) 0 = b2 at *
      generalize b.getD (4 * k + 3) 0 = b3 at *
      have s0 : wr.cell? ⟨gw, k, none⟩ = some (.int .u32 0) := by rw [hB.cell, fillTo_at (wordsS_len b k) (by omega)]
      have f0 := hB.frozen k
      have nG := hG.ne hB (by decide)
      have nZ := hZ.ne hB (by decide)
      go_wp2_with fail
      have e0 : IntKind.i64.wrap (4 * (k : Int)) = 4 * (k : Int) := IntWalk.i64_in _ (by omega)
      have e1 : IntKind.i64.wrap (4 * (k : Int) + 1) = 4 * (k : Int) + 1 := IntWalk.i64_in _ (by omega)
      have e2 : IntKind.i64.wrap (4 * (k : Int) + 2) = 4 * (k : Int) + 2 := IntWalk.i64_in _ (by omega)
      have e3 : IntKind.i64.wrap (4 * (k : Int) + 3) = 4 * (k : Int) + 3 := IntWalk.i64_in _ (by omega)
      have t0 : (4 * (k : Int)).toNat = 4 * k := by omega
      have t1 : (4 * (k : Int) + 1).toNat = 4 * k + 1 := by omega
      have t2 : (4 * (k : Int) + 2).toNat = 4 * k + 2 := by omega
      have t3 : (4 * (k : Int) + 3).toNat = 4 * k + 3 := by omega
      have p0 : (0 : Int) ≤ 4 * (k : Int) := by omega
      have p1 : (0 : Int) ≤ 4 * (k : Int) + 1 := by omega
      have p2 : (0 : Int) ≤ 4 * (k : Int) + 2 := by omega
      have p3 : (0 : Int) ≤ 4 * (k : Int) + 3 := by omega
      have q0 : 4 * (k : Int) < 64 := by omega
      have q1 : 4 * (k : Int) + 1 < 64 := by omega
      have q2 : 4 * (k : Int) + 2 < 64 := by omega
      have q3 : 4 * (k : Int) + 3 < 64 := by omega
      have d1 : wr.cell? ⟨ad.block, ad.off + (4 * k + 1), none⟩ = some (Value.int IntKind.u8 ↑b1) := by rw [← add_pos ad (4 * k + 1) (by omega)]; exact c1
      have d2 : wr.cell? ⟨ad.block, ad.off + (4 * k + 1 + 1), none⟩ = some (Value.int IntKind.u8 ↑b2) := by rw [← add_pos ad (4 * k + 1 + 1) (by omega)]; exact c2
      have d3 : wr.cell? ⟨ad.block, ad.off + (4 * k + 1 + 1 + 1), none⟩ = some (Value.int IntKind.u8 ↑b3) := by rw [← add_pos ad (4 * k + 1 + 1 + 1) (by omega)]; exact c3
      have r0 : (k : Int) < 64 := by omega
      have r1 : (0 : Int) ≤ (k : Int) := by omega
      have w0 := w32_byte l0
      have w1 := w32_byte l1
      have w2 := w32_byte l2
      have w3 := w32_byte l3
      go_still_tail 35, (by kernel_rfl)
      clear e0 e1 e2 e3 t0 t1 t2 t3 p0 p1 p2 p3 q0 q1 q2 q3 w0 w1 w2 w3 c0 c1 c2 c3 d1 d2 d3 l0 l1 l2 l3
      have HO : Hid (o32 (o32 (o32 (l32 b0 24) (l32 b1 16)) (l32 b2 8)) b3 = word4 b0 b1 b2 b3) := rfl
      generalize o32 (o32 (o32 (l32 b0 24) (l32 b1 16)) (l32 b2 8)) b3 = V at *
      have hS := hB.set k (.int .u32 (V : Int))
      rw [fillTo_set (wordsS_len b k) (by omega)] at hS
      go_wp2_with fail
      go_roundw
      case rel => exact ⟨k + 1, by omega, by go_num, (hG.far (p := ⟨gw, k, none⟩) (by simp; omega) _).drew, (hZ.far (p := ⟨gw, k, none⟩) (by simp; omega) _).drew, (hK.far (p := ⟨gw, k, none⟩) (by simp; omega) _).drew, by rw [HW.out, ← HO.out]; exact hS.drew, (hb.setCell (by simp; omega) _).drew⟩
      case measure => simp [intOf]; omega
    · obtain rfl : k = 16 := by omega
      rw [show ((16 : Nat) : Int) = 16 from rfl]
      clear L24 L16 L8 M24 M16 M8 HRr HX HL
      go_wp2_with fail
      generalize hWr : wr = w1 at *
      clear hWr
      go_loopw [8] (fun i wr => ∃ k : Nat, 16 ≤ k ∧ k ≤ 64 ∧ i = .int .i64 k ∧ Blk wr w.heap.size 116 (u32s st) ∧ Blk wr (w.heap.size + 1) 116 (u32s (List.replicate 8 0)) ∧ Blk wr gk 149 (u32s keysS) ∧ Blk wr gw 149 (u32s (fillTo 64 (wordsS b k))) ∧ Below w.heap.size w wr) (fun i _ => 64 - (intOf i).toNat)
      case atStart => exact ⟨16, by omega, by omega, rfl, hG, hZ, hK, hB, hb⟩
      case round =>
        clear hG hZ hK hB hb
        obtain ⟨k, hk1, hk2, rfl, hG, hZ, hK, hB, hb⟩ := hrel
        by_cases hlt : k < 64
        · have hw : wordsS b (k + 1) = wordsS b k ++ [wordN ((wordsS b k).getD (k - 16) 0) ((wordsS b k).getD (k - 15) 0) ((wordsS b k).getD (k - 7) 0) ((wordsS b k).getD (k - 2) 0)] := by rw [wordsS]; simp only [if_neg (show ¬ k < 16 by omega)]
          have HW := Lib.hid hw
          clear hw
          have hlen := wordsS_len b k
          have hC : ∀ w' : World, Blk w' gw 149 (u32s (fillTo 64 (wordsS b k))) →
              w'.cell? ⟨gw, k - 15, none⟩ = some (.int .u32 (((wordsS b k).getD (k - 15) 0 : Nat) : Int)) ∧
              w'.cell? ⟨gw, k - 2, none⟩ = some (.int .u32 (((wordsS b k).getD (k - 2) 0 : Nat) : Int)) ∧
              w'.cell? ⟨gw, k - 16, none⟩ = some (.int .u32 (((wordsS b k).getD (k - 16) 0 : Nat) : Int)) ∧
              w'.cell? ⟨gw, k - 7, none⟩ = some (.int .u32 (((wordsS b k).getD (k - 7) 0 : Nat) : Int)) ∧
              w'.cell? ⟨gw, k, none⟩ = some (.int .u32 0) := fun w' h => by
            simp only [h.cell]
            rw [fillTo_get (by omega), fillTo_get (by omega), fillTo_get (by omega), fillTo_get (by omega), fillTo_at hlen (by omega)]
            exact ⟨rfl, rfl, rfl, rfl, rfl⟩
          have HC := Lib.hid hC
          clear hC
          have hS := fun (w' : World) (h : Blk w' gw 149 (u32s (fillTo 64 (wordsS b k)))) (x : Nat) => h.set k (.int .u32 (x : Int))
          simp only [fillTo_set hlen hlt] at hS
          have HS := Lib.hid hS
          have nG := hG.ne hB (by decide)
          have nZ := hZ.ne hB (by decide)
          clear hS hlen
          generalize (wordsS b k).getD (k - 15) 0 = x15 at *
          generalize (wordsS b k).getD (k - 2) 0 = x2 at *
          generalize (wordsS b k).getD (k - 16) 0 = x16 at *
          generalize (wordsS b k).getD (k - 7) 0 = x7 at *
          have e15 : IntKind.i64.wrap ((k : Int) - 15) = (k : Int) - 15 := IntWalk.i64_in _ (by omega)
          have e2 : IntKind.i64.wrap ((k : Int) - 2) = (k : Int) - 2 := IntWalk.i64_in _ (by omega)
          have e16 : IntKind.i64.wrap ((k : Int) - 16) = (k : Int) - 16 := IntWalk.i64_in _ (by omega)
          have e7 : IntKind.i64.wrap ((k : Int) - 7) = (k : Int) - 7 := IntWalk.i64_in _ (by omega)
          have t15 : ((k : Int) - 15).toNat = k - 15 := by omega
          have t2 : ((k : Int) - 2).toNat = k - 2 := by omega
          have t16 : ((k : Int) - 16).toNat = k - 16 := by omega
          have t7 : ((k : Int) - 7).toNat = k - 7 := by omega
          have p15 : (0 : Int) ≤ (k : Int) - 15 := by omega
          have p2 : (0 : Int) ≤ (k : Int) - 2 := by omega
          have p16 : (0 : Int) ≤ (k : Int) - 16 := by omega
          have p7 : (0 : Int) ≤ (k : Int) - 7 := by omega
          have m16 : (16 : Int) ≤ (k : Int) := by omega
          have m7 : (7 : Int) ≤ (k : Int) := by omega
          have q15 : (k : Int) - 15 < 64 := by omega
          have q2 : (k : Int) - 2 < 64 := by omega
          have q16 : (k : Int) - 16 < 64 := by omega
          have q7 : (k : Int) - 7 < 64 := by omega
          have r0 : (k : Int) < 64 := by omega
          have r1 : (0 : Int) ≤ (k : Int) := by omega
          obtain ⟨c15, c2, -, -, -⟩ := HC.out wr hB
          go_wp2_with fail
          go_quiet (fail)
          replace hG := hG.drewN nq
          replace hZ := hZ.drewN nq
          replace hK := hK.drewN nq
          replace hB := hB.drewN nq
          replace hb := below_drewN hb nq
          clear c15 c2
          generalize wr.drewN nq = w2 at *
          obtain ⟨-, -, c16, c7, s0⟩ := HC.out w2 hB
          have f0 := hB.frozen k
          go_wp2_with fail
          refine wp_region_still_tail 29 (by kernel_rfl) (by kernel_rfl) ?_
          simp only [List.take_succ_cons, List.take_zero, List.drop_succ_cons, List.drop_zero]
          repeat (first | still_step | (still_call (turnedv_q _ _ (by unfold TurnOk; decide) _)))
          refine wpStill_nil ?_
          clear m16 m7 e15 e2 e16 e7 t15 t2 t16 t7 p15 p2 p16 p7 q15 q2 q16 q7 c16 c7
          have HO : Hid (a32 (a32 (a32 x16 (x32 (x32 (rot x15 7) (rot x15 18)) (r32 x15 3))) x7) (x32 (x32 (rot x2 17) (rot x2 19)) (r32 x2 10)) = wordN x16 x15 x7 x2) := rfl
          generalize a32 (a32 (a32 x16 (x32 (x32 (rot x15 7) (rot x15 18)) (r32 x15 3))) x7) (x32 (x32 (rot x2 17) (rot x2 19)) (r32 x2 10)) = V at *
          go_wp2_with fail
          go_roundw
          case rel => exact ⟨k + 1, by omega, by omega, by go_num, (hG.far (p := ⟨gw, k, none⟩) (by simp; omega) _).drew, (hZ.far (p := ⟨gw, k, none⟩) (by simp; omega) _).drew, (hK.far (p := ⟨gw, k, none⟩) (by simp; omega) _).drew, by rw [HW.out, ← HO.out]; exact (HS.out w2 hB V).drew, (hb.setCell (by simp; omega) _).drew⟩
          case measure => simp [intOf]; omega
        · obtain rfl : k = 64 := by omega
          rw [show ((64 : Nat) : Int) = 64 from rfl]
          clear R3 R10 O
          have hfull : fillTo 64 (wordsS b 64) = wordsS b 64 := by unfold fillTo; rw [wordsS_len]; simp
          rw [hfull] at hB
          clear hfull
          have hwl := wordsS_len b 64
          have HWL := Lib.hid hwl
          clear hwl
          have hk0 : keysS.length = 64 := rfl
          generalize wordsS b 64 = ws at *
          go_wp2_with (first
            | (refine wpList_load_blk rfl 116 (.tmp 2) rfl w.heap.size rfl 116 (u32s st) _ hG Try.underlying116 rfl hih.out ?_)
            | (refine wpList_store_blk rfl 116 (.tmp 11) (.tmp 97) rfl wr.heap.size 116 _ (u32s st) rfl rfl (Blk.new wr _ _) ((u32s_size st).trans HHH.out) hih.out hoh ?_; intro w5 hV hk5))
          have lG := hG.lt
          have lZ := hZ.lt
          have lK := hK.lt
          have lW := hB.lt
          have hG5 : Blk w5 w.heap.size 116 (u32s st) := (hG.alloc _).keeps hk5 (by simp; omega)
          have hZ5 : Blk w5 (w.heap.size + 1) 116 (u32s (List.replicate 8 0)) := (hZ.alloc _).keeps hk5 (by simp; omega)
          have hK5 : Blk w5 gk 149 (u32s keysS) := (hK.alloc _).keeps hk5 (by simp; omega)
          have hW5 : Blk w5 gw 149 (u32s ws) := (hB.alloc _).keeps hk5 (by simp; omega)
          have hb5 : Below w.heap.size w w5 := (((Keeps.of_below (S := []) hb).alloc _).trans' hk5 (by have := hb.size; simp; omega)).below
          have nv1 : w.heap.size + 1 < wr.heap.size := lZ
          clear hG hZ hK hB hb hk5 lG lK lW lZ
          generalize wr.heap.size = gv at *
          clear wr
          go_loopw [12] (fun i wr => ∃ k : Nat, k ≤ 64 ∧ i = .int .i64 k ∧ Blk wr w.heap.size 116 (u32s st) ∧ Blk wr (w.heap.size + 1) 116 (u32s (List.replicate 8 0)) ∧ Blk wr gw 149 (u32s ws) ∧ Blk wr gk 149 (u32s keysS) ∧ Blk wr gv 116 (u32s (roundsS ws st k)) ∧ Below w.heap.size w wr) (fun i _ => 64 - (intOf i).toNat)
          case atStart => exact ⟨0, by omega, rfl, hG5, hZ5, hW5, hK5, hV, hb5⟩
          case round =>
            clear hG5 hZ5 hW5 hK5 hV hb5
            obtain ⟨k, hk, rfl, hG, hZ, hW, hK, hV, hb⟩ := hrel
            by_cases hlt : k < 64
            · have hw : roundsS ws st (k + 1) = roundS (keysS.getD k 0) (ws.getD k 0) (roundsS ws st k) := rfl
              obtain ⟨va, vb, vc, vd, ve, vf, vg, vh, hv⟩ := len8 (roundsS_len ws st HHH.out k)
              rw [hv] at hw hV
              have HW := Lib.hid hw
              clear hw hv
              have cw : wr.cell? ⟨gw, k, none⟩ = some (.int .u32 ((ws.getD k 0 : Nat) : Int)) := by rw [hW.cell, u32s_get (by rw [HWL.out]; exact hlt)]
              have ck : wr.cell? ⟨gk, k, none⟩ = some (.int .u32 ((keysS.getD k 0 : Nat) : Int)) := by rw [hK.cell, u32s_get (by rw [hk0]; exact hlt)]
              have hC : ∀ w' : World, Blk w' gv 116 (u32s [va, vb, vc, vd, ve, vf, vg, vh]) →
                  w'.cell? ⟨gv, 0, none⟩ = some (.int .u32 (va : Int)) ∧ w'.cell? ⟨gv, 1, none⟩ = some (.int .u32 (vb : Int)) ∧ w'.cell? ⟨gv, 2, none⟩ = some (.int .u32 (vc : Int)) ∧ w'.cell? ⟨gv, 3, none⟩ = some (.int .u32 (vd : Int)) ∧
                  w'.cell? ⟨gv, 4, none⟩ = some (.int .u32 (ve : Int)) ∧ w'.cell? ⟨gv, 5, none⟩ = some (.int .u32 (vf : Int)) ∧ w'.cell? ⟨gv, 6, none⟩ = some (.int .u32 (vg : Int)) ∧ w'.cell? ⟨gv, 7, none⟩ = some (.int .u32 (vh : Int)) :=
                fun w' h => ⟨h.cell 0, h.cell 1, h.cell 2, h.cell 3, h.cell 4, h.cell 5, h.cell 6, h.cell 7⟩
              have HC := Lib.hid hC
              clear hC
              obtain ⟨c0, c1, c2, c3, c4, c5, c6, c7⟩ := HC.out wr hV
              have r0 : (k : Int) < 64 := by omega
              have r1 : (0 : Int) ≤ (k : Int) := by omega
              generalize ws.getD k 0 = xw at *
              generalize keysS.getD k 0 = xk at *
              go_wp2_with fail
              go_quiet ((go_at_call 135; exact Calls.quiet_of_same (turnedv_q _ _ (by unfold TurnOk; decide) _)))
              replace hG := hG.drewN nq
              replace hZ := hZ.drewN nq
              replace hW := hW.drewN nq
              replace hK := hK.drewN nq
              replace hV := hV.drewN nq
              replace hb := below_drewN hb nq
              clear c0 c1 c2 c3 c4 c5 c6 c7 cw ck
              generalize (wr).drewN nq = w6 at *
              clear nq
              obtain ⟨c0, c1, c2, c3, c4, c5, c6, c7⟩ := HC.out w6 hV
              go_wp2_with fail
              go_quiet ((go_at_call 135; exact Calls.quiet_of_same (turnedv_q _ _ (by unfold TurnOk; decide) _)))
              replace hG := hG.drewN nq
              replace hZ := hZ.drewN nq
              replace hW := hW.drewN nq
              replace hK := hK.drewN nq
              replace hV := hV.drewN nq
              replace hb := below_drewN hb nq
              clear c0 c1 c2 c3 c4 c5 c6 c7
              generalize (w6).drewN nq = w7 at *
              clear nq
              obtain ⟨c0, c1, c2, c3, c4, c5, c6, c7⟩ := HC.out w7 hV
              have f0 := hV.frozen 0
              have f1 := hV.frozen 1
              have f2 := hV.frozen 2
              have f3 := hV.frozen 3
              have f4 := hV.frozen 4
              have f5 := hV.frozen 5
              have f6 := hV.frozen 6
              have f7 := hV.frozen 7
              have ng := hG.lt
              go_wp2_with fail
              go_roundw
              case rel =>
                obtain ⟨hV8, hk9⟩ := round_store hV (a32 (sumE ve vf vg vh xk xw) (sumA va vb vc)) va vb vc (a32 vd (sumE ve vf vg vh xk xw)) ve vf vg
                rw [← roundS_eq, ← HW.out] at hV8
                unfold sumE sumA at hV8 hk9
                clear HC f0 f1 f2 f3 f4 f5 f6 f7 c0 c1 c2 c3 c4 c5 c6 c7
                simp only [a32_e2, a32_e3]
                have nW := hW.ne hV (by decide)
                have nK := hK.ne hV (by decide)
                exact ⟨k + 1, by omega, by go_num, hG.keeps hk9 (by simp; omega), hZ.keeps hk9 (by simp; omega), hW.keeps hk9 (by simpa using nW), hK.keeps hk9 (by simpa using nK), hV8, ((Keeps.of_below (S := []) hb).trans' hk9 (by simp; omega)).below⟩
              case measure => simp [intOf]; omega
            · obtain rfl : k = 64 := by omega
              rw [show ((64 : Nat) : Int) = 64 from rfl]
              have hv := roundsS_len ws st HHH.out 64
              have HV := Lib.hid hv
              clear hW hK hv
              generalize roundsS ws st 64 = v at *
              go_wp2_with fail
              generalize hwr : wr = w6 at *
              clear hwr
              go_loopw [15] (fun i wr => ∃ k : Nat, k ≤ 8 ∧ i = .int .i64 k ∧ Blk wr gv 116 (u32s v) ∧ Blk wr w.heap.size 116 (u32s (mixS st v k)) ∧ Blk wr (w.heap.size + 1) 116 (u32s (List.replicate 8 0)) ∧ Below w.heap.size w wr) (fun i _ => 8 - (intOf i).toNat)
              case atStart => exact ⟨0, by omega, rfl, hV, hG, hZ, hb⟩
              case round =>
                clear hV hG hZ hb
                obtain ⟨k, hk, rfl, hV, hG, hZ, hb⟩ := hrel
                by_cases hlt : k < 8
                · have cs : wr.cell? ⟨w.heap.size, k, none⟩ = some (.int .u32 ((st.getD k 0 : Nat) : Int)) := by rw [hG.cell, mixS_get HHH.out HV.out hlt]
                  have cv : wr.cell? ⟨gv, k, none⟩ = some (.int .u32 ((v.getD k 0 : Nat) : Int)) := by rw [hV.cell, u32s_get (by rw [HV.out]; exact hlt)]
                  have f0 := hG.frozen k
                  have hS := hG.set k (.int .u32 ((a32 (st.getD k 0) (v.getD k 0) : Nat) : Int))
                  rw [mixS_set HHH.out HV.out hlt] at hS
                  generalize st.getD k 0 = xs at *
                  generalize v.getD k 0 = xv at *
                  have r0 : (k : Int) < 8 := by omega
                  have r1 : (0 : Int) ≤ (k : Int) := by omega
                  go_wp2_with fail
                  go_still_tail 9, (by kernel_rfl)
                  go_wp2_with fail
                  go_roundw
                  case rel => exact ⟨k + 1, by omega, by go_num, (hV.far (p := ⟨w.heap.size, k, none⟩) (by simp; omega) _).drew, hS.drew, (hZ.far (p := ⟨w.heap.size, k, none⟩) (by simp) _).drew, (hb.setCell (p := ⟨w.heap.size, k, none⟩) (by simp) _).drew⟩
                  case measure => simp [intOf]; omega
                · obtain rfl : k = 8 := by omega
                  rw [mixS_all HHH.out HV.out, ← HB.out] at hG
                  have HSB : Hid ((u32s B).size = (u32s (List.replicate 8 0)).size) := by unfold Hid; rw [u32s_size, HLB.out]; rfl
                  have HIB := Lib.hid (info8a.trans (congrArg some ((u32s_size B).trans HLB.out).symm))
                  have HOB := Lib.hid (u32s_one B)
                  go_wp2_with (first
                    | (refine wpList_load_blk rfl 116 (.tmp 2) rfl w.heap.size rfl 116 (u32s B) _ hG Try.underlying116 rfl HIB.out ?_)
                    | (refine wpList_store_blk rfl 116 (.tmp 4) (.tmp 199) rfl (w.heap.size + 1) 116 _ (u32s B) rfl rfl hZ HSB.out HIB.out HOB.out ?_; intro w9 hB9 hk9))
                  refine post_blk rfl rfl (w.heap.size + 1) 116 (u32s B) _ rfl hB9 Try.underlying116 rfl HIB.out ⟨rfl, ?_⟩
                  exact ((Keeps.of_below (S := []) hb).trans' hk9 (by simp)).below
end Go.Proofs.Ytmlbkcpmgcjblaa
