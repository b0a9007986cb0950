/- The walk of tallymanref1.Cmp. -/
import Derived.Test.YtmlbkcpmgcjblaaCmpP
import Derived.Test.YtmlbkcpmgcjblaaSm
import Derived.Deep.QuietTactic
import Derived.BigQuiet
import Derived.Lib.Hide
namespace Go.Proofs.Ytmlbkcpmgcjblaa
open Go.RowKit

theorem cmpL_drop (x y : List Nat) (k : Nat) (hx : k < x.length) (hy : k < y.length) :
    cmpL (x.drop k) (y.drop k) = if x.getD k 0 < y.getD k 0 then -1 else if y.getD k 0 < x.getD k 0 then 1 else cmpL (x.drop (k + 1)) (y.drop (k + 1)) := by
  rw [List.drop_eq_getElem_cons hx, List.drop_eq_getElem_cons hy]
  simp [cmpL, List.getD, List.getElem?_eq_getElem hx, List.getElem?_eq_getElem hy]

set_option maxRecDepth 100000 in
set_option maxHeartbeats 1000000 in
theorem R1Cmp_l (x y : List Nat) (hx : x.length = 32) (hy : y.length = 32) (w : World) :
    Calls Try.prog 94 #[.agg (u8s x), .agg (u8s y)] w fun e w' => e = .returned (.int .i64 (cmpL x y)) ∧ Below w.heap.size w w' := by
  have h0 : Blk ((w.alloc (.cells (u8s x) 61)).alloc (.cells (u8s y) 61)) w.heap.size 61 (u8s x) := (Blk.new w _ _).alloc _
  have h1 : Blk ((w.alloc (.cells (u8s x) 61)).alloc (.cells (u8s y) 61)) (w.heap.size + 1) 61 (u8s y) := Blk.newAt (w.alloc _) _ _ _ (by simp)
  have hc0 : ∀ k, k < 32 → ((w.alloc (.cells (u8s x) 61)).alloc (.cells (u8s y) 61)).cell? ⟨w.heap.size, k, none⟩ = some (.int .u8 ((x.getD k 0 : Nat) : Int)) := fun k hk => by
    rw [h0.cell, u8s_get (by rw [hx]; exact hk)]
  have hc1 : ∀ k, k < 32 → ((w.alloc (.cells (u8s x) 61)).alloc (.cells (u8s y) 61)).cell? ⟨w.heap.size + 1, k, none⟩ = some (.int .u8 ((y.getD k 0 : Nat) : Int)) := fun k hk => by
    rw [h1.cell, u8s_get (by rw [hy]; exact hk)]
  have hb : Below w.heap.size w ((w.alloc (.cells (u8s x) 61)).alloc (.cells (u8s y) 61)) := (((Keeps.refl [] w).alloc _).alloc _).below
  have HX := Lib.hid hx
  have HY := Lib.hid hy
  clear h0 h1 hx hy
  generalize hX : u8s x = X at *
  generalize hY : u8s y = Y at *
  clear hX hY
  go_enter Try.func94, Try.ntmps94
  go_wp2
  go_loopw [5] (fun i wr => ∃ k : Nat, k ≤ 32 ∧ i = .int .i64 k ∧ cmpL x y = cmpL (x.drop k) (y.drop k) ∧ (∀ j, j < 32 → wr.cell? ⟨w.heap.size, j, none⟩ = some (.int .u8 ((x.getD j 0 : Nat) : Int))) ∧ (∀ j, j < 32 → wr.cell? ⟨w.heap.size + 1, j, none⟩ = some (.int .u8 ((y.getD j 0 : Nat) : Int))) ∧ Below w.heap.size w wr) (fun i _ => 32 - (intOf i).toNat)
  case atStart => exact ⟨0, by omega, rfl, rfl, hc0, hc1, hb⟩
  case round =>
    clear hc0 hc1 hb
    obtain ⟨k, hk, rfl, he, hc0, hc1, hb⟩ := hrel
    have H0 := Lib.hid hc0
    have H1 := Lib.hid hc1
    have HB := Lib.hid hb
    clear hc0 hc1 hb
    by_cases hk32 : k < 32
    · have c0 := H0.out k hk32
      have c1 := H1.out k hk32
      rw [cmpL_drop x y k (by rw [HX.out]; exact hk32) (by rw [HY.out]; exact hk32)] at he
      have HE := Lib.hid he
      clear he
      generalize x.getD k 0 = a at *
      generalize y.getD k 0 = b at *
      have r0 : (k : Int) < 32 := by omega
      have r1 : (0 : Int) ≤ (k : Int) := by omega
      by_cases hab : a < b
      · have e := HE.out
        rw [if_pos hab] at e
        clear HE
        have hi : (a : Int) < (b : Int) := by omega
        go_wp2
        go_quiet (fail)
        go_wp2
        go_ret
        exact ⟨by rw [e]; rfl, ((Keeps.of_below (S := []) HB.out).drewN _).below⟩
      · by_cases hba : b < a
        · have e := HE.out
          rw [if_neg hab, if_pos hba] at e
          clear HE
          have hi : ¬ (a : Int) < (b : Int) := by omega
          have hj : (b : Int) < (a : Int) := by omega
          go_wp2
          go_quiet (fail)
          go_wp2
          go_quiet (fail)
          go_wp2
          go_ret
          exact ⟨by rw [e]; rfl, (((Keeps.of_below (S := []) HB.out).drewN _).drewN _).below⟩
        · have e := HE.out
          rw [if_neg hab, if_neg hba] at e
          have HE2 := Lib.hid e
          clear HE e
          have hi : ¬ (a : Int) < (b : Int) := by omega
          have hj : ¬ (b : Int) < (a : Int) := by omega
          go_wp2
          go_quiet (fail)
          go_wp2
          go_quiet (fail)
          go_wp2
          go_roundw
          case rel => exact ⟨k + 1, by omega, by go_num, HE2.out, H0.out, H1.out, ((Keeps.of_below (S := []) HB.out).drewN _).below⟩
          case measure => simp [intOf]; omega
    · obtain rfl : k = 32 := by omega
      have e : cmpL x y = 0 := by rw [he, List.drop_eq_nil_of_le (by rw [HX.out]; omega), List.drop_eq_nil_of_le (by rw [HY.out]; omega)]; rfl
      clear he
      go_wp2
      go_ret
      exact ⟨by rw [e]; rfl, HB.out⟩
theorem R1Cmp_any (x y : Sm) (w : World) :
    Calls Try.prog 94 #[.agg (u8s x.l), .agg (u8s y.l)] w fun e w' => e = .returned (.int .i64 (cmpL x.l y.l)) ∧ Below w.heap.size w w' := R1Cmp_l x.l y.l x.len y.len w
end Go.Proofs.Ytmlbkcpmgcjblaa
