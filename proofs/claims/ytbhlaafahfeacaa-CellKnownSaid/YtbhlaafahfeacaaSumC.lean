/- Layer 1: the walk of SumXors. -/
import Derived.Test.YtbhlaafahfeacaaSumA
import Derived.Test.YtbhlaafahfeacaaLater
namespace Go.Proofs.Ytbhlaafahfeacaa
open Go.RowKit

theorem rangeAt_blk {w : World} {g : Nat} {t : TypeId} {cs : Array Value} (h : Blk w g t cs) : w.rangeAt g 0 cs.toList := fun j v hv => by
  rw [Nat.zero_add, h.cell]
  simpa using hv

set_option maxRecDepth 100000 in
set_option maxHeartbeats 800000 in
theorem lawSumXors_any (x y z : Sm) (w : World) :
    Calls Try.prog 4 #[.agg (u8s x.l), .agg (u8s y.l), .agg (u8s z.l)] w fun e w' => e = .returned (.bool true) ∧ Below w.heap.size w w' := by
  have hu := Try.underlying26
  have hu2 := Try.underlying27
  go_enter Try.func4, Try.ntmps4
  go_wp2_with fail
  refine (awake1_any _).mono ?_
  rintro e w1 ⟨rfl, hb1⟩
  have hX : Blk w1 w.heap.size 26 (u8s x.l) := (((Blk.new w _ _).alloc _).alloc _).below hb1
  have hY : Blk w1 (w.heap.size + 1) 26 (u8s y.l) := ((Blk.newAt (w.alloc _) _ _ _ (by simp)).alloc _).below hb1
  have hZ : Blk w1 (w.heap.size + 1 + 1) 26 (u8s z.l) := (Blk.newAt ((w.alloc _).alloc _) _ _ _ (by simp)).below hb1
  have hb : Below w.heap.size w w1 := ((((Keeps.refl [] w).alloc _).alloc _).alloc _).below.trans (hb1.mono (by simp; omega))
  clear hb1
  go_wp2_with fail
  refine region_decl (m := 3) (k := 3) ⟨fun i => [12, 13, 14].getD i 0, fun i => .agg (u8s ([x, y, z].getD i x).l), fun i => [7, 8, 9].getD i 0, fun i => i, fun i => u8s ([x, y, z].getD i x).l, fun _ => 27, fun _ => u8s (List.replicate 32 0)⟩
    (by kernel_rfl) (backB_spec (by kernel_rfl)) rfl ?_ ?_ ?_ ?_ ?_ ?_ ?_ ?_ ?_
  · intro i o hi ho
    have hout : ∀ {s : Nat}, s = 3 ∨ s = 4 ∨ s = 5 → (∀ i, i < 3 → s ≠ [12, 13, 14].getD i 0) ∧ ∀ i, i < 3 → s ≠ [7, 8, 9].getD i 0 := by
      intro s hs
      constructor <;> intro i hi <;> rcases lt3 hi with rfl | rfl | rfl <;> simp <;> omega
    rcases lt3 hi with rfl | rfl | rfl
    · injection ho with ho
      subst ho
      exact ⟨rfl, rfl, fun a w' K h1 h2 _ h4 => wp_load_a32 3 rfl w.heap.size _ x ((h1 3 (hout (by simp))).trans rfl) (hX.keeps h2 (by simp)) (h4 w' (Keeps.refl _ _))⟩
    · injection ho with ho
      subst ho
      exact ⟨rfl, rfl, fun a w' K h1 h2 _ h4 => wp_load_a32 4 rfl (w.heap.size + 1) _ y ((h1 4 (hout (by simp))).trans rfl) (hY.keeps h2 (by simp)) (h4 w' (Keeps.refl _ _))⟩
    · injection ho with ho
      subst ho
      exact ⟨rfl, rfl, fun a w' K h1 h2 _ h4 => wp_load_a32 5 rfl (w.heap.size + 1 + 1) _ z ((h1 5 (hout (by simp))).trans rfl) (hZ.keeps h2 (by simp)) (h4 w' (Keeps.refl _ _))⟩
  · intro j o hj ho
    rcases lt3 hj with rfl | rfl | rfl <;> (injection ho with ho; subst ho; exact ⟨rfl, rfl, fun a w' K h => wp_alloc_sum rfl h⟩)
  · intro j o hj ho
    rcases lt3 hj with rfl | rfl | rfl <;> (injection ho with ho; subst ho; refine ⟨rfl, rfl, rfl, by simp, rfl, ?_, ?_, ?_, ?_, u8s_one _⟩)
    all_goals first
      | exact ⟨_, Array.mem_of_getElem? (i := 0) rfl, rfl, rfl⟩
      | exact ⟨_, Array.mem_of_getElem? (i := 1) rfl, rfl, rfl⟩
      | (rw [u8s_size, u8s_size]; simp [Sm.len])
      | (rw [u8s_size]; simp only [Sm.len]; exact info32)
  · intro i j hi hj hne
    rcases lt3 hi with rfl | rfl | rfl <;> rcases lt3 hj with rfl | rfl | rfl <;> simp at hne ⊢
  · intro i j hi hj hne
    rcases lt3 hi with rfl | rfl | rfl <;> rcases lt3 hj with rfl | rfl | rfl <;> simp at hne ⊢
  · intro i j hi hj
    rcases lt3 hi with rfl | rfl | rfl <;> rcases lt3 hj with rfl | rfl | rfl <;> simp
  · intro i hi
    rcases lt3 hi with rfl | rfl | rfl <;> simp
  · intro i hi
    rcases lt3 hi with rfl | rfl | rfl <;> simp
  · intro g a w2 hk hg hgn hd hs h1 h2 h3
    have hact := act_is (a := a) [(12, .agg (u8s x.l)), (13, .agg (u8s y.l)), (14, .agg (u8s z.l)), (7, .pointer (some ⟨g 0, 0, none⟩)), (8, .pointer (some ⟨g 1, 0, none⟩)), (9, .pointer (some ⟨g 2, 0, none⟩))] hd hs ?_ ?_
    rotate_left
    · intro s hs'
      refine h1 s ⟨fun i hi => ?_, fun i hi => ?_⟩ <;> rcases lt3 hi with rfl | rfl | rfl <;> simp at hs' ⊢ <;> omega
    · intro p hp
      simp only [List.mem_cons, List.not_mem_nil, or_false] at hp
      rcases hp with rfl | rfl | rfl | rfl | rfl | rfl
      · exact h2 0 (by omega)
      · exact h2 1 (by omega)
      · exact h2 2 (by omega)
      · exact h3 0 (by omega)
      · exact h3 1 (by omega)
      · exact h3 2 (by omega)
    rw [hact]
    simp only [fold1, List.foldl_cons, List.foldl_nil, List.setIfInBounds_toArray, List.set_cons_succ, List.set_cons_zero]
    obtain ⟨g0, hB0⟩ := hg 0 (by omega)
    obtain ⟨g1, hB1⟩ := hg 1 (by omega)
    obtain ⟨g2, hB2⟩ := hg 2 (by omega)
    have hb2 : Below w.heap.size w w2 := (hb.trans (hk.below.mono hb.size))
    clear hact h1 h2 h3 hd hs hg hgn hX hY hZ hk
    generalize g 0 = gx at *
    generalize g 1 = gy at *
    generalize g 2 = gz at *
    have lx := load_sum x hB0
    have ly := load_sum y hB1
    have lz := load_sum z hB2
    have e1 : ∀ W, (binOp .eql 27 (.agg (u8s ((x.xor y).xor z).l)) (.agg (u8s (x.xor (y.xor z)).l))).run Try.prog W = .ok (.bool true) W := fun W => by rw [eql_sm, decide_eq_true (Sm.xor_assoc x y z)]
    have e2 : ∀ W, (binOp .eql 27 (.agg (u8s (x.xor y).l)) (.agg (u8s (y.xor x).l))).run Try.prog W = .ok (.bool true) W := fun W => by rw [eql_sm, decide_eq_true (Sm.xor_comm x y)]
    have e3 : ∀ W, (binOp .eql 27 (.agg (u8s (x.xor Sm.zero).l)) (.agg (u8s x.l))).run Try.prog W = .ok (.bool true) W := fun W => by rw [eql_sm, decide_eq_true (Sm.xor_zero x)]
    have hgd : Try.prog.eqGuardType Try.prog.depth 27 = false := by kernel_rfl
    go_wp2_with fail
    refine wp_region_later (by kernel_rfl) (by kernel_rfl) ?_
    repeat (first
      | go_big_quiet_skip
      | (go_big_quiet_want
         first
         | ((first | refine quiet_load _ _ rfl _ _ rfl lx ?_ | refine quiet_load _ _ rfl _ _ rfl ly ?_ | refine quiet_load _ _ rfl _ _ rfl lz ?_ | refine quiet_eql _ _ _ _ rfl _ _ _ rfl rfl hgd e1 ?_ | refine quiet_eql _ _ _ _ rfl _ _ _ rfl rfl hgd e2 ?_ | refine quiet_eql _ _ _ _ rfl _ _ _ rfl rfl hgd e3 ?_ | refine quiet_build0 rfl ?_)
            simp only [Act.put, List.setIfInBounds_toArray, List.set_cons_succ, List.set_cons_zero]
            go_big_quiet_on)
         | (go_big_quiet_op
            first
            | go_big_quiet_on
            | (go_big_quiet_call (first
              | (go_at_call 18; exact later_of (Zero_self _ _))
              | (go_at_call 17; exact later_of (Xor_any _ _ _)))))))
    refine wpQuiet_nil ?_
    rintro _ ⟨p, rfl⟩
    have hbf := hb2.trans (p.below.mono hb2.size)
    go_wp2_with fail
    go_ret
    exact ⟨rfl, hbf⟩
end Go.Proofs.Ytbhlaafahfeacaa
