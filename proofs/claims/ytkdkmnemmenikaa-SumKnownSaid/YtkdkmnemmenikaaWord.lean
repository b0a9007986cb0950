/- Eight bytes of a sum as a number: plainly; the walk of Sum.Word. -/
import Derived.Test.YtkdkmnemmenikaaCmpA
import Derived.Test.YtkdkmnemmenikaaWordP
import Derived.IntWalk
namespace Go.Proofs.Ytkdkmnemmenikaa
open Go.RowKit

set_option maxRecDepth 100000 in
set_option maxHeartbeats 1000000 in
theorem Word_any (x : Sm) (i : Int) (w : World) :
    Calls Try.prog 9 #[.agg (u8s x.l), .int .i64 i] w fun e w' => e = .returned (.int .u64 (wordL x.l i)) ∧ Below w.heap.size w w' := by
  by_cases h0 : i < 0
  · have e : wordL x.l i = 0 := by unfold wordL; rw [if_neg (by omega)]
    rw [e]
    go_enter Try.func9, Try.ntmps9
    go_wp2
    go_ret
    exact ⟨rfl, ((Keeps.refl [] w).alloc _).below⟩
  · by_cases h4 : 4 ≤ i
    · have e : wordL x.l i = 0 := by unfold wordL; rw [if_neg (by omega)]
      rw [e]
      go_enter Try.func9, Try.ntmps9
      go_wp2
      go_ret
      exact ⟨rfl, ((Keeps.refl [] w).alloc _).below⟩
    · obtain ⟨k, rfl⟩ := Int.eq_ofNat_of_zero_le (show 0 ≤ i by omega)
      have hk : k < 4 := by omega
      have e : wordL x.l (k : Int) = wordF x.l k 8 := by unfold wordL; rw [if_pos (by omega)]; rfl
      rw [e]
      have hB := Blk.new w 24 (u8s x.l)
      have hlt := wordF_lt x.l k x.get_lt
      have HLT := Lib.hid hlt
      have hby := x.get_lt
      have HBY := Lib.hid hby
      have hcell : ∀ j, j < 32 → (w.alloc (.cells (u8s x.l) 24)).cell? ⟨w.heap.size, j, none⟩ = some (.int .u8 ((x.l.getD j 0 : Nat) : Int)) := fun j hj => by
        rw [hB.cell, u8s_get (by rw [x.len]; exact hj)]
      have HC := Lib.hid hcell
      have hb : Below w.heap.size w (w.alloc (.cells (u8s x.l) 24)) := ((Keeps.refl [] w).alloc _).below
      have HB := Lib.hid hb
      clear hlt hby hcell hB e h0 h4 hb
      generalize hx : u8s x.l = X at *
      clear hx
      generalize x.l = l at *
      go_enter Try.func9, Try.ntmps9
      go_wp2
      go_loop [5, 6] (fun v j => ∃ t : Nat, t ≤ 8 ∧ v = .int .u64 (wordF l k t) ∧ j = .int .i64 (7 - (t : Int))) (fun _ j => (intOf j + 1).toNat)
      case atStart => exact ⟨0, by omega, rfl, rfl⟩
      case round =>
        obtain ⟨t, ht, rfl, rfl⟩ := hrel
        by_cases h8 : t < 8
        · have hc := HC.out (8 * k + (7 - t)) (by omega)
          have hn : wordF l k t < 72057594037927936 := by
            have h1 := HLT.out t
            have h2 : 256 ^ t ≤ 256 ^ 7 := Nat.pow_le_pow_right (by omega) (by omega)
            omega
          have hb := HBY.out (8 * k + (7 - t))
          have hs : wordF l k (t + 1) = wordF l k t * 256 + l.getD (8 * k + (7 - t)) 0 := rfl
          have HS := Lib.hid hs
          clear hs
          generalize l.getD (8 * k + (7 - t)) 0 = b at *
          generalize wordF l k t = n at *
          have ho := or_byte n b hn hb
          have i0 : (0 : Int) ≤ 7 - (t : Int) := by omega
          have i1 : (t : Int) ≤ 7 := by omega
          have i2 : 8 * (k : Int) + (7 - (t : Int)) < 32 := by omega
          have i3 : (0 : Int) ≤ 8 * (k : Int) + (7 - (t : Int)) := by omega
          have i4 : (8 * (k : Int) + (7 - (t : Int))).toNat = 8 * k + (7 - t) := by omega
          go_wp2
          exact ⟨⟨t + 1, by omega, by rw [HS.out]; go_num, by go_num⟩, by simp [intOf]; omega⟩
        · obtain rfl : t = 8 := by omega
          go_wp2
          go_ret
          exact ⟨rfl, HB.out⟩
end Go.Proofs.Ytkdkmnemmenikaa
