/- The walk of Sum.Cmp. -/
import Derived.Test.YtkdkmnemmenikaaCmp
import Derived.Test.YtkdkmnemmenikaaLater
namespace Go.Proofs.Ytkdkmnemmenikaa
open Go.RowKit

theorem rd_sum {w : World} {g : Nat} {t : TypeId} {l : List Nat} (h : Blk w g t (u8s l)) : Rd w (some ⟨g, 0, none⟩) (l.map bv) := by
  have := Rd.of_blk0 h
  simpa [u8s] using this

set_option maxRecDepth 100000 in
theorem Cmp_any (x y : Sm) (w : World) :
    Calls Try.prog 10 #[.agg (u8s x.l), .agg (u8s y.l)] w fun e w' => e = .returned (.int .i64 (cmpL x.l y.l)) ∧ Below w.heap.size w w' := by
  have h0 : Blk ((w.alloc (.cells (u8s x.l) 24)).alloc (.cells (u8s y.l) 24)) w.heap.size 24 (u8s x.l) := (Blk.new w _ _).alloc _
  have h1 : Blk ((w.alloc (.cells (u8s x.l) 24)).alloc (.cells (u8s y.l) 24)) (w.heap.size + 1) 24 (u8s y.l) := Blk.newAt (w.alloc _) _ _ _ (by simp)
  have hc : ∀ p : Later ((w.alloc (.cells (u8s x.l) 24)).alloc (.cells (u8s y.l) 24)), Calls Try.prog 16 #[.slice (some ⟨w.heap.size, 0, none⟩) 32 32, .slice (some ⟨w.heap.size + 1, 0, none⟩) 32 32] p.wd
      fun e w' => e = .returned (.int .i64 (cmpL x.l y.l)) ∧ Below p.wd.heap.size p.wd w' := fun p =>
    (Compare_any _ _ 32 32 32 32 x.l y.l p.wd x.len y.len (rd_sum (h0.below p.below)) (rd_sum (h1.below p.below)) (by simp) (by simp) x.lt y.lt).mono fun e w' ⟨h, hw⟩ => ⟨h, by rw [hw]; exact Below.refl _ _⟩
  have hb : Below w.heap.size w ((w.alloc (.cells (u8s x.l) 24)).alloc (.cells (u8s y.l) 24)) := (((Keeps.refl [] w).alloc _).alloc _).below
  have HC := Lib.hid hc
  clear hc h0 h1
  generalize cmpL x.l y.l = r at *
  go_enter Try.func10, Try.ntmps10
  go_wp2_with fail
  refine wp_region_later (by kernel_rfl) (by kernel_rfl) ?_
  repeat (first
    | go_big_quiet_skip
    | (go_big_quiet_want
       go_big_quiet_op
       first
       | go_big_quiet_on
       | (go_big_quiet_call ((go_at_call 16; exact later_of (HC.out _))))))
  refine wpQuiet_nil ?_
  rintro _ ⟨p, rfl⟩
  have hbf := hb.trans (p.below.mono hb.size)
  go_wp2_with fail
  go_ret
  exact ⟨rfl, hbf⟩
end Go.Proofs.Ytkdkmnemmenikaa
