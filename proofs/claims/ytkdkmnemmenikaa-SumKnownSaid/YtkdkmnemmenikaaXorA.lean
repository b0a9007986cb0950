/- The walks of Sum.Xor and Sum.Zero. -/
import Derived.Test.YtkdkmnemmenikaaXorP
import Derived.StillTailTactics
import Derived.WalkLawsBesides
import Derived.Lib.Hide
namespace Go.Proofs.Ytkdkmnemmenikaa
open Go.RowKit

theorem info32 : (Try.prog.info? 24).map (·.size) = some 32 := by kernel_rfl

set_option maxRecDepth 100000 in
set_option maxHeartbeats 1000000 in
theorem Xor_l (x y : List Nat) (hx : x.length = 32) (hy : y.length = 32) (w : World) :
    Calls Try.prog 11 #[.agg (u8s x), .agg (u8s y)] w fun e w' => e = .returned (.agg (u8s (xorL x y))) ∧ Below w.heap.size w w' := by
  have X := x8_eq
  have HX := Lib.hid hx
  have HY := Lib.hid hy
  have hR : (u8s (xorL x y)).size = 32 := by rw [u8s_size, xorL_len (by omega), hx]
  have HR := Lib.hid hR
  have HI := Lib.hid (info32.trans (congrArg some hR.symm))
  have H1 := Lib.hid (u8s_one (xorL x y))
  have HM := Lib.hid (mix8_all hx hy)
  clear hx hy hR
  generalize xorL x y = r at *
  go_enter Try.func11, Try.ntmps11
  go_wp2_with fail
  have h0 : Blk (((w.alloc (.cells (u8s x) 24)).alloc (.cells (u8s y) 24)).alloc (.cells (u8s (List.replicate 32 0)) 24)) w.heap.size 24 (u8s (mix8 x y 0)) := ((Blk.new w _ _).alloc _).alloc _
  have h1 : Blk (((w.alloc (.cells (u8s x) 24)).alloc (.cells (u8s y) 24)).alloc (.cells (u8s (List.replicate 32 0)) 24)) (w.heap.size + 1) 24 (u8s y) := (Blk.newAt (w.alloc _) _ _ _ (by simp)).alloc _
  have h2 : Blk (((w.alloc (.cells (u8s x) 24)).alloc (.cells (u8s y) 24)).alloc (.cells (u8s (List.replicate 32 0)) 24)) (w.heap.size + 1 + 1) 24 (u8s (List.replicate 32 0)) := Blk.newAt ((w.alloc _).alloc _) _ _ _ (by simp)
  have hb : Below w.heap.size w (((w.alloc (.cells (u8s x) 24)).alloc (.cells (u8s y) 24)).alloc (.cells (u8s (List.replicate 32 0)) 24)) := ((((Keeps.refl [] w).alloc _).alloc _).alloc _).below
  go_loopw [6] (fun i wr => ∃ k : Nat, k ≤ 32 ∧ i = .int .i64 k ∧ Blk wr w.heap.size 24 (u8s (mix8 x y k)) ∧ Blk wr (w.heap.size + 1) 24 (u8s y) ∧ Blk wr (w.heap.size + 1 + 1) 24 (u8s (List.replicate 32 0)) ∧ Below w.heap.size w wr) (fun i _ => 32 - (intOf i).toNat)
  case atStart => exact ⟨0, by omega, rfl, h0, h1, h2, hb⟩
  case round =>
    clear h0 h1 h2 hb
    obtain ⟨k, hk, rfl, h0, h1, h2, hb⟩ := hrel
    by_cases hk32 : k < 32
    · have c0 : wr.cell? ⟨w.heap.size, k, none⟩ = some (.int .u8 ((x.getD k 0 : Nat) : Int)) := by rw [h0.cell, u8s_get (by rw [mix8_len HX.out HY.out (by omega)]; exact hk32), mix8_get HX.out HY.out hk32]
      have c1 : wr.cell? ⟨w.heap.size + 1, k, none⟩ = some (.int .u8 ((y.getD k 0 : Nat) : Int)) := by rw [h1.cell, u8s_get (by rw [HY.out]; exact hk32)]
      have f0 := h0.frozen k
      have hS := h0.set k (.int .u8 ((x8 (x.getD k 0) (y.getD k 0) : Nat) : Int))
      rw [mix8_set HX.out HY.out hk32] at hS
      generalize x.getD k 0 = a at *
      generalize y.getD k 0 = b at *
      have r0 : (k : Int) < 32 := by omega
      have r1 : (0 : Int) ≤ (k : Int) := by omega
      go_wp2_with fail
      go_still_tail 8, (by kernel_rfl)
      go_wp2_with fail
      go_roundw
      case rel => exact ⟨k + 1, by omega, by go_num, hS.drew, (h1.far (p := ⟨w.heap.size, k, none⟩) (by simp) _).drew, (h2.far (p := ⟨w.heap.size, k, none⟩) (by simp; omega) _).drew, (hb.setCell (p := ⟨w.heap.size, k, none⟩) (by simp) _).drew⟩
      case measure => simp [intOf]; omega
    · obtain rfl : k = 32 := by omega
      rw [HM.out] at h0
      have HZ : Hid ((u8s r).size = (u8s (List.replicate 32 0)).size) := by unfold Hid; rw [HR.out, u8s_size]; rfl
      go_wp2_with (first
        | (refine wpList_load_blk rfl 24 (.tmp 2) rfl w.heap.size rfl 24 (u8s r) _ h0 Try.underlying24 rfl HI.out ?_)
        | (refine wpList_store_blk rfl 24 (.tmp 4) (.tmp 18) rfl (w.heap.size + 1 + 1) 24 _ (u8s r) rfl rfl h2 HZ.out HI.out H1.out ?_; intro w' hB' hk'))
      refine post_blk rfl rfl (w.heap.size + 1 + 1) 24 (u8s r) _ rfl hB' Try.underlying24 rfl HI.out ⟨rfl, ?_⟩
      exact ((Keeps.of_below (S := []) hb).trans' hk' (by simp; omega)).below
theorem Xor_any (x y : Sm) (w : World) :
    Calls Try.prog 11 #[.agg (u8s x.l), .agg (u8s y.l)] w fun e w' => e = .returned (.agg (u8s (x.xor y).l)) ∧ Below w.heap.size w w' := Xor_l x.l y.l x.len y.len w
end Go.Proofs.Ytkdkmnemmenikaa
