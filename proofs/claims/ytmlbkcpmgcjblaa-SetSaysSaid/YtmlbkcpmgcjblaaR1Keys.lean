/- Walks: the reference's keys; turned at all widths in use. -/
import Derived.Test.YtmlbkcpmgcjblaaShaC
namespace Go.Proofs.Ytmlbkcpmgcjblaa
open Go.RowKit

def TurnOk (m : Int) : Prop := m = 2 ∨ m = 6 ∨ m = 7 ∨ m = 11 ∨ m = 13 ∨ m = 17 ∨ m = 18 ∨ m = 19 ∨ m = 22 ∨ m = 25
set_option maxRecDepth 100000 in
theorem turnedv_q (x : Nat) (m : Int) (hm : TurnOk m) (w : World) : Calls Try.prog 135 #[.int .u32 x, .int .u64 m] w fun e w' => e = .returned (.int .u32 (rot x m.natAbs)) ∧ w' = w := by
  rcases hm with rfl | rfl | rfl | rfl | rfl | rfl | rfl | rfl | rfl | rfl
  · exact turned2_q x w
  · exact turned6_q x w
  · exact turned7_q x w
  · exact turned11_q x w
  · exact turned13_q x w
  · exact turned17_q x w
  · exact turned18_q x w
  · exact turned19_q x w
  · exact turned22_q x w
  · exact turned25_q x w

set_option maxRecDepth 100000 in
theorem zero64_lit : u32s (List.replicate 64 0) = u32s (fillTo 64 []) := rfl

set_option maxRecDepth 100000 in
set_option maxHeartbeats 1000000 in
theorem keys_any (w : World) :
    Calls Try.prog 134 #[] w fun e w' => e = .returned (.agg (u32s keysS)) ∧ Below w.heap.size w w' := by
  have h1 := one_keys
  have h2 := u32s_size keysS
  rw [keys_lit] at h1 h2 ⊢
  go_enter Try.func134, Try.ntmps134
  go_wp2_with (refine wpList_store_blk rfl 149 (.tmp 0) (.tmp 1) rfl w.heap.size 149 _ _ rfl rfl (Blk.new w _ _) rfl info64 h1 ?_; intro w' hB' hk')
  refine post_blk rfl rfl w.heap.size 149 _ _ rfl hB' Try.underlying149 rfl info64 ⟨rfl, ?_⟩
  exact (((Keeps.refl [] w).alloc _).trans' hk' (by simp)).below
end Go.Proofs.Ytmlbkcpmgcjblaa
