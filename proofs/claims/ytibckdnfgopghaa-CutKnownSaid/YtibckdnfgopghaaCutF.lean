/- Walks of layer 6: awake; the laws. -/
import Derived.Test.YtibckdnfgopghaaCutE
import Derived.Deep.OwnRows
namespace Go.Proofs.Ytibckdnfgopghaa
open Go.RowKit

theorem awake6_any (w : World) :
    Calls Try.prog 24 #[] w fun e w' => e = .returned (.bool true) ∧ Below w.heap.size w w' := by
  have hE : endsR 16 128 8 31 7 (List.replicate 10 0) = [10] := by decide +kernel
  have hg : goodS 16 128 8 = true := by decide
  have hmd : madeCells #[Value.int .u8 0] 10 = ((List.replicate 10 0).map bv).toArray := by kernel_rfl
  have hmk : ∀ w : World, (Instr.makeSlice 22 (.int .i64 10) (.int .i64 10)).run Try.prog w = .ok (.slice (some ⟨w.heap.size, 0, none⟩) 10 10) (w.alloc (.cells ((List.replicate 10 0).map bv).toArray 5)) := fun w => by
    rw [← hmd]
    exact run_make_row' 22 5 (.int .u8 0) 1 Try.underlying22 info_u8 rfl .i64 .i64 10 (by omega) (by omega) w
  clear hmd
  have hrd : ∀ w : World, Rd (w.alloc (.cells ((List.replicate 10 0).map bv).toArray 5)) (some ⟨w.heap.size, 0, none⟩) ((List.replicate 10 0).map bv) := fun w => Rd.of_blk0 (Blk.new w _ _)
  have hcall := fun (w : World) (ad : Addr) (hr : Rd w (some ad) ((List.replicate 10 0).map bv)) => Parts_any 16 128 8 31 7 (some ad) 10 10 (List.replicate 10 0) w rfl (by omega) hr (by simp) (by simp) (by omega) (by omega)
  rw [hE] at hcall
  go_enter Try.func24, Try.ntmps24
  go_wp2_with fail
  go_region_held3 (fun _ => True) (trivial) (first
    | (go_at_call 34
       refine (cutPlain_any _).mono ?_
       rintro e w1 ⟨rfl, hb1⟩)
    | (go_at_call 27
       first
         | refine (hcall _ _ (hrd _)).mono ?_
         | refine (hcall _ _ ((hrd _).drew.below hb1)).mono ?_
       rintro e w2 ⟨v, S, vs, rfl, hseg, hP, hS, hb2⟩
       have hB : Below w.heap.size w w2 := by
         first
           | exact ((Keeps.refl [] w).drew.below.trans (hb1.mono (Nat.le_refl _))).trans (((Below.refl w1.heap.size w1).alloc (Nat.le_refl _) (.cells ((List.replicate 10 0).map bv).toArray 5)).trans (hb2.mono (by simp)) |>.mono hb1.size)
           | exact ((((Below.refl w.heap.size w).alloc (Nat.le_refl _) (.cells ((List.replicate 10 0).map bv).toArray 5)).drew.trans (hb1.mono (by simp))).trans (hb2.mono (Nat.le_trans (by simp) hb1.size)))))
  all_goals
    clear hb2 hS hb1 hcall hrd hmk
    obtain ⟨A, C, rfl, h1, h2, hR, _⟩ := hseg.form
    obtain ⟨A2, C2, hv, h3, _⟩ := hP.2 0 (List.replicate 10 0) rfl
    obtain ⟨ad, rfl, hc⟩ := hR 0 _ hv
    rw [Addr.add_zero'] at hc
    rw [List.length_replicate] at hc
    clear hP hseg hR hv
    go_wp2_with fail
    refine (cutPlain_any _).mono ?_
    rintro e w3 ⟨rfl, hb3⟩
    go_wp2_with fail
    refine (Good_any 16 128 8 31 7 _).mono ?_
    rintro e w4 ⟨rfl, hb4⟩
    rw [hg]
    go_wp2_with fail
    refine (cutPlain_any _).mono ?_
    rintro e w5 ⟨rfl, hb5⟩
    go_wp2_with fail
    refine (own_any 16 128 8 31 7 _).mono ?_
    rintro e w6 ⟨rfl, hb6⟩
    go_wp2_with fail
    refine (refPlain_any _).mono ?_
    rintro e w7 ⟨rfl, hb7⟩
    go_wp2_with fail
    go_ret
    have c3 := hB.trans (hb3.mono hB.size)
    have c4 := c3.trans (hb4.mono c3.size)
    have c5 := c4.trans (hb5.mono c4.size)
    have c6 := c5.trans (hb6.mono c5.size)
    exact ⟨rfl, c6.trans (hb7.mono c6.size)⟩
end Go.Proofs.Ytibckdnfgopghaa
