/- Walks: math/bits.RotateLeft32 and the reference's turned, at the widths in use. -/
import Derived.Test.YtkdkmnemmenikaaProg
import Derived.Test.YtkdkmnemmenikaaShaP
import Derived.WalkLawsBesides
import Derived.Deep.QuietTactic
import Derived.BigQuiet
import Derived.KernelRfl
namespace Go.Proofs.Ytkdkmnemmenikaa
open Go.RowKit

theorem rot2_any (x : Nat) (w : World) :
    Calls Try.prog 20 #[.int .u32 x, .int .i64 (-2)] w fun e w' => e = .returned (.int .u32 (rot x 2)) ∧ w = w' := by
  have h1 := o32_eq
  have h2 : bits .and .u64 (IntKind.u64.wrap (-2)) 31 = 30 := by decide +kernel
  have h3 := r32_eq 2 4 (by decide)
  have h4 := l32_eq 30 1073741824 (by decide)
  go_enter Try.func20, Try.ntmps20
  go_wp2
  go_ret
  exact ⟨rfl, rfl⟩
theorem rot2_q (x : Nat) (w : World) :
    Calls Try.prog 20 #[.int .u32 x, .int .i64 (-2)] w fun e w' => e = .returned (.int .u32 (rot x 2)) ∧ w' = w := (rot2_any x w).mono fun _ _ h => ⟨h.1, h.2.symm⟩
theorem rot6_any (x : Nat) (w : World) :
    Calls Try.prog 20 #[.int .u32 x, .int .i64 (-6)] w fun e w' => e = .returned (.int .u32 (rot x 6)) ∧ w = w' := by
  have h1 := o32_eq
  have h2 : bits .and .u64 (IntKind.u64.wrap (-6)) 31 = 26 := by decide +kernel
  have h3 := r32_eq 6 64 (by decide)
  have h4 := l32_eq 26 67108864 (by decide)
  go_enter Try.func20, Try.ntmps20
  go_wp2
  go_ret
  exact ⟨rfl, rfl⟩
theorem rot6_q (x : Nat) (w : World) :
    Calls Try.prog 20 #[.int .u32 x, .int .i64 (-6)] w fun e w' => e = .returned (.int .u32 (rot x 6)) ∧ w' = w := (rot6_any x w).mono fun _ _ h => ⟨h.1, h.2.symm⟩
theorem rot7_any (x : Nat) (w : World) :
    Calls Try.prog 20 #[.int .u32 x, .int .i64 (-7)] w fun e w' => e = .returned (.int .u32 (rot x 7)) ∧ w = w' := by
  have h1 := o32_eq
  have h2 : bits .and .u64 (IntKind.u64.wrap (-7)) 31 = 25 := by decide +kernel
  have h3 := r32_eq 7 128 (by decide)
  have h4 := l32_eq 25 33554432 (by decide)
  go_enter Try.func20, Try.ntmps20
  go_wp2
  go_ret
  exact ⟨rfl, rfl⟩
theorem rot7_q (x : Nat) (w : World) :
    Calls Try.prog 20 #[.int .u32 x, .int .i64 (-7)] w fun e w' => e = .returned (.int .u32 (rot x 7)) ∧ w' = w := (rot7_any x w).mono fun _ _ h => ⟨h.1, h.2.symm⟩
theorem rot11_any (x : Nat) (w : World) :
    Calls Try.prog 20 #[.int .u32 x, .int .i64 (-11)] w fun e w' => e = .returned (.int .u32 (rot x 11)) ∧ w = w' := by
  have h1 := o32_eq
  have h2 : bits .and .u64 (IntKind.u64.wrap (-11)) 31 = 21 := by decide +kernel
  have h3 := r32_eq 11 2048 (by decide)
  have h4 := l32_eq 21 2097152 (by decide)
  go_enter Try.func20, Try.ntmps20
  go_wp2
  go_ret
  exact ⟨rfl, rfl⟩
theorem rot11_q (x : Nat) (w : World) :
    Calls Try.prog 20 #[.int .u32 x, .int .i64 (-11)] w fun e w' => e = .returned (.int .u32 (rot x 11)) ∧ w' = w := (rot11_any x w).mono fun _ _ h => ⟨h.1, h.2.symm⟩
theorem rot13_any (x : Nat) (w : World) :
    Calls Try.prog 20 #[.int .u32 x, .int .i64 (-13)] w fun e w' => e = .returned (.int .u32 (rot x 13)) ∧ w = w' := by
  have h1 := o32_eq
  have h2 : bits .and .u64 (IntKind.u64.wrap (-13)) 31 = 19 := by decide +kernel
  have h3 := r32_eq 13 8192 (by decide)
  have h4 := l32_eq 19 524288 (by decide)
  go_enter Try.func20, Try.ntmps20
  go_wp2
  go_ret
  exact ⟨rfl, rfl⟩
theorem rot13_q (x : Nat) (w : World) :
    Calls Try.prog 20 #[.int .u32 x, .int .i64 (-13)] w fun e w' => e = .returned (.int .u32 (rot x 13)) ∧ w' = w := (rot13_any x w).mono fun _ _ h => ⟨h.1, h.2.symm⟩
theorem rot17_any (x : Nat) (w : World) :
    Calls Try.prog 20 #[.int .u32 x, .int .i64 (-17)] w fun e w' => e = .returned (.int .u32 (rot x 17)) ∧ w = w' := by
  have h1 := o32_eq
  have h2 : bits .and .u64 (IntKind.u64.wrap (-17)) 31 = 15 := by decide +kernel
  have h3 := r32_eq 17 131072 (by decide)
  have h4 := l32_eq 15 32768 (by decide)
  go_enter Try.func20, Try.ntmps20
  go_wp2
  go_ret
  exact ⟨rfl, rfl⟩
theorem rot17_q (x : Nat) (w : World) :
    Calls Try.prog 20 #[.int .u32 x, .int .i64 (-17)] w fun e w' => e = .returned (.int .u32 (rot x 17)) ∧ w' = w := (rot17_any x w).mono fun _ _ h => ⟨h.1, h.2.symm⟩
theorem rot18_any (x : Nat) (w : World) :
    Calls Try.prog 20 #[.int .u32 x, .int .i64 (-18)] w fun e w' => e = .returned (.int .u32 (rot x 18)) ∧ w = w' := by
  have h1 := o32_eq
  have h2 : bits .and .u64 (IntKind.u64.wrap (-18)) 31 = 14 := by decide +kernel
  have h3 := r32_eq 18 262144 (by decide)
  have h4 := l32_eq 14 16384 (by decide)
  go_enter Try.func20, Try.ntmps20
  go_wp2
  go_ret
  exact ⟨rfl, rfl⟩
theorem rot18_q (x : Nat) (w : World) :
    Calls Try.prog 20 #[.int .u32 x, .int .i64 (-18)] w fun e w' => e = .returned (.int .u32 (rot x 18)) ∧ w' = w := (rot18_any x w).mono fun _ _ h => ⟨h.1, h.2.symm⟩
theorem rot19_any (x : Nat) (w : World) :
    Calls Try.prog 20 #[.int .u32 x, .int .i64 (-19)] w fun e w' => e = .returned (.int .u32 (rot x 19)) ∧ w = w' := by
  have h1 := o32_eq
  have h2 : bits .and .u64 (IntKind.u64.wrap (-19)) 31 = 13 := by decide +kernel
  have h3 := r32_eq 19 524288 (by decide)
  have h4 := l32_eq 13 8192 (by decide)
  go_enter Try.func20, Try.ntmps20
  go_wp2
  go_ret
  exact ⟨rfl, rfl⟩
theorem rot19_q (x : Nat) (w : World) :
    Calls Try.prog 20 #[.int .u32 x, .int .i64 (-19)] w fun e w' => e = .returned (.int .u32 (rot x 19)) ∧ w' = w := (rot19_any x w).mono fun _ _ h => ⟨h.1, h.2.symm⟩
theorem rot22_any (x : Nat) (w : World) :
    Calls Try.prog 20 #[.int .u32 x, .int .i64 (-22)] w fun e w' => e = .returned (.int .u32 (rot x 22)) ∧ w = w' := by
  have h1 := o32_eq
  have h2 : bits .and .u64 (IntKind.u64.wrap (-22)) 31 = 10 := by decide +kernel
  have h3 := r32_eq 22 4194304 (by decide)
  have h4 := l32_eq 10 1024 (by decide)
  go_enter Try.func20, Try.ntmps20
  go_wp2
  go_ret
  exact ⟨rfl, rfl⟩
theorem rot22_q (x : Nat) (w : World) :
    Calls Try.prog 20 #[.int .u32 x, .int .i64 (-22)] w fun e w' => e = .returned (.int .u32 (rot x 22)) ∧ w' = w := (rot22_any x w).mono fun _ _ h => ⟨h.1, h.2.symm⟩
theorem rot25_any (x : Nat) (w : World) :
    Calls Try.prog 20 #[.int .u32 x, .int .i64 (-25)] w fun e w' => e = .returned (.int .u32 (rot x 25)) ∧ w = w' := by
  have h1 := o32_eq
  have h2 : bits .and .u64 (IntKind.u64.wrap (-25)) 31 = 7 := by decide +kernel
  have h3 := r32_eq 25 33554432 (by decide)
  have h4 := l32_eq 7 128 (by decide)
  go_enter Try.func20, Try.ntmps20
  go_wp2
  go_ret
  exact ⟨rfl, rfl⟩
theorem rot25_q (x : Nat) (w : World) :
    Calls Try.prog 20 #[.int .u32 x, .int .i64 (-25)] w fun e w' => e = .returned (.int .u32 (rot x 25)) ∧ w' = w := (rot25_any x w).mono fun _ _ h => ⟨h.1, h.2.symm⟩
/-- The widths in use, by the left turn that is asked. -/
def RotOk (m : Int) : Prop := m = -2 ∨ m = -6 ∨ m = -7 ∨ m = -11 ∨ m = -13 ∨ m = -17 ∨ m = -18 ∨ m = -19 ∨ m = -22 ∨ m = -25
theorem rotv_q (x : Nat) (m : Int) (hm : RotOk m) (w : World) : Calls Try.prog 20 #[.int .u32 x, .int .i64 m] w fun e w' => e = .returned (.int .u32 (rot x m.natAbs)) ∧ w' = w := by
  rcases hm with rfl | rfl | rfl | rfl | rfl | rfl | rfl | rfl | rfl | rfl
  · exact rot2_q x w
  · exact rot6_q x w
  · exact rot7_q x w
  · exact rot11_q x w
  · exact rot13_q x w
  · exact rot17_q x w
  · exact rot18_q x w
  · exact rot19_q x w
  · exact rot22_q x w
  · exact rot25_q x w
end Go.Proofs.Ytkdkmnemmenikaa
