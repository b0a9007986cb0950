/- Walks of layer 5's RollSays and RollKnown. -/
import Derived.Test.YtibckdnfgopghaaRollE
namespace Go.Proofs.Ytibckdnfgopghaa
open Go.RowKit

theorem lastL_lo (W k : Nat) (l : List Nat) (h : k + 1 < W) : lastL W (k + 1) l = l.take (k + 1) := by
  unfold lastL; rw [show k + 1 - W = 0 by omega, List.drop_zero]
theorem lastL_hi (W k f : Nat) (l : List Nat) (h : k + 1 = f + W) : lastL W (k + 1) l = (l.take (k + 1)).drop f := by
  unfold lastL; rw [show k + 1 - W = f by omega]

set_option maxRecDepth 100000 in
set_option maxHeartbeats 1600000 in
theorem lawSays_mid (W : Nat) (A : Option Addr) (m cap : Nat) (l : List Nat) (w : World) (hl : l.length = m) (hmc : m ≤ cap) (hr : Rd w A (l.map bv)) (hA : A = none → m = 0) (hx : ∀ x ∈ l, x < 256) (h300 : m ≤ 300) (hW1 : 1 ≤ W) (hW64 : W ≤ 64) :
    Calls Try.prog 4 #[.int .i64 (W : Int), .slice A m cap] w fun e w' => e = .returned (.bool true) ∧ Below w.heap.size w w' := by
  have hW : holdS (W : Int) = W := by unfold holdS; rw [if_neg (by omega), if_neg (by omega)]; omega
  go_enter Try.func4, Try.ntmps4
  go_wp2_with fail
  refine (awake5_any _).mono ?_
  rintro e w1 ⟨rfl, hb⟩
  go_wp2_with fail
  refine (New_any _ _).mono ?_
  rintro e w2 ⟨g, rfl, hg, hR, hb2⟩
  rw [hW] at hR
  go_wp2_with fail
  have hB2 : Below w.heap.size w w2 := hb.trans (hb2.mono hb.size)
  have hgB : w.heap.size ≤ g := by have := hb.size; omega
  clear hb hb2 hg hW
  go_loopw [7] (fun i wr => ∃ (k : Nat) (S : List Nat), k ≤ m ∧ i = .int .i64 k ∧ RollAt wr g S W (lastL W k l) (ofS (lastL W k l)) ∧ (∀ x ∈ S, w.heap.size ≤ x) ∧ Below w.heap.size w wr) (fun i _ => m - (intOf i).toNat)
  case atStart => exact ⟨0, [], Nat.zero_le _, rfl, by simpa [lastL, ofS] using hR, by simp, hB2⟩
  case round =>
    clear hR hB2
    obtain ⟨k, S, hk, rfl, hR, hS, hB⟩ := hrel
    by_cases hlt : k < m
    · have hkl : k < l.length := by omega
      obtain ⟨ad, rfl, hc⟩ := hr.at_ (j := k) (by simpa using hkl)
      have hcell : wr.cell? (ad.add k) = some (.int .u8 (l[k] : Nat)) := by rw [hB.cell (World.block_lt_of_cell? w _ hc), hc]; simp [bv]
      have hadlt : ad.block < w.heap.size := by have := World.block_lt_of_cell? w _ hc; rwa [add_block] at this
      have hb := hx _ (List.getElem_mem hkl)
      have hst := stepS_last W k l hkl hW1
      have hsl := stepL_last W k l hkl hW1
      by_cases hf : k + 1 < W
      · have hfn : (k : Int) + 1 - (W : Int) < 0 := by omega
        have hseg : Rd wr (some ad) ((lastL W (k + 1) l).map bv) := by rw [lastL_lo W k l hf, List.map_take]; exact (hr.below hB).take (k + 1)
        have hln : (lastL W (k + 1) l).length = (k + 1) := by rw [lastL_len W (k + 1) l (by omega)]; omega
        have hxs : ∀ x ∈ lastL W (k + 1) l, x < 256 := fun x h => hx x (List.mem_of_mem_take (List.mem_of_mem_drop h))
        have hxs0 : ∀ x ∈ lastL W k l, x < 256 := fun x h => hx x (List.mem_of_mem_take (List.mem_of_mem_drop h))
        have hl0 : (lastL W k l).length ≤ W := by rw [lastL_len W k l (by omega)]; omega
        have hgl := hR.lt g (by simp)
        have hadd := fun q => Add_any g W (ofS (lastL W k l)) l[k] (lastL W k l) S (wr.drewN q) hR hl0 hW1 hW64 (ofS_lt _) hb hxs0
        rw [hst, hsl] at hadd
        have hlt1 := ofS_lt (lastL W (k + 1) l)
        have hsz : wr.heap.size ≤ wr.heap.size := Nat.le_refl _
        clear hst hsl hc
        generalize hz : l[k] = z at *
        generalize hsg : lastL W (k + 1) l = seg at *
        have HS := Lib.hid hsg
        clear hsg
        have hltI : (k : Int) < (m : Int) := by omega
        go_wp2_with fail
        refine (refRoll_any (some ad) (k + 1) cap seg _ hln hseg hxs (by simp only [maxLen]; omega)).mono ?_
        rintro e wA ⟨rfl, q, rfl⟩
        go_wp2_with fail
        refine (hadd q).mono ?_
        rintro e wB ⟨rfl, S', hR', hk', hS'⟩
        have hB' : Below w.heap.size w wB := hB.trans ((((Keeps.refl (g :: S) wr).drewN q).trans hk').belowB hB.size (by intro x hx; rcases List.mem_cons.1 hx with rfl | h; exact hgB; exact hS x h))
        have hSB : ∀ x ∈ S', w.heap.size ≤ x := fun x hx => by
          have := hB.size
          rcases hS' x hx with h | h
          · exact hS x h
          · simp at h; omega
        have hsegB := hseg.keeps (((Keeps.refl (g :: S) wr).drewN q).trans hk') (fun a ha hm => by
          injection ha with ha
          subst ha
          have h1 := hadlt
          try rw [add_block] at hm
          rcases List.mem_cons.1 hm with h | h
          · omega
          · have := hS _ h; omega)
        obtain ⟨A1, C1, hb1, _⟩ := hR'.blk
        rw [hln] at hb1
        have hne1 : ((ofS seg : Int) != (ofS seg : Int)) = false := by simp
        have K1 := Lib.hid hSB
        have K2 := Lib.hid hR'
        have K3 := Lib.hid hB'
        have hg1 : ¬ (2305843009213693951 : Int) ≤ (ofS seg : Int) := by omega
        have K4 := Lib.hid hlt1
        clear hS hR' hSB hB' hk' hS' hadd hseg hR hB hx hlt1
        have hg2 : decide ((2305843009213693951 : Int) ≤ (ofS seg : Int)) = false := decide_eq_false hg1
        clear hg1
        go_wp2_with (first
          | (go_at_call 19; refine (Sum_any _ _ _ _ _ hb1).mono ?_; rintro e w' ⟨rfl, rfl⟩)
          | (go_at_call 20; refine (Len_any _ _ _ _ _ _ _ hb1).mono ?_; rintro e w' ⟨rfl, rfl⟩)
          | (go_at_call 15; refine (Of_any (some ad) (k + 1) cap seg _ hln hsegB hxs (by simp only [maxLen]; omega)).mono ?_; rintro e w' ⟨rfl, rfl⟩))
        go_roundw
        case rel => exact ⟨k + 1, S', by omega, by go_num, by rw [HS.out]; exact K2.out, K1.out, K3.out⟩
        case measure => simp [intOf]; omega
      · obtain ⟨f, hfk⟩ : ∃ f, k + 1 = f + W := ⟨k + 1 - W, by omega⟩
        have hfn : ¬ (k : Int) + 1 - (W : Int) < 0 := by omega
        have hfI : (k : Int) + 1 - (W : Int) = (f : Int) := by omega
        have hcf : ¬ cap = f := by omega
        have hfle : f ≤ k + 1 := by omega
        have hfleI : (f : Int) ≤ (k : Int) + 1 := by omega
        have hf0 : (0 : Int) ≤ (f : Int) := by omega
        have HFK := Lib.hid hfk
        have hseg : Rd wr (some (ad.add f)) ((lastL W (k + 1) l).map bv) := by rw [lastL_hi W k f l hfk, List.map_drop, List.map_take]; exact ((hr.below hB).take (k + 1)).dropAt f
        have hln : (lastL W (k + 1) l).length = (k + 1 - f) := by rw [lastL_len W (k + 1) l (by omega)]; omega
        have hxs : ∀ x ∈ lastL W (k + 1) l, x < 256 := fun x h => hx x (List.mem_of_mem_take (List.mem_of_mem_drop h))
        have hxs0 : ∀ x ∈ lastL W k l, x < 256 := fun x h => hx x (List.mem_of_mem_take (List.mem_of_mem_drop h))
        have hl0 : (lastL W k l).length ≤ W := by rw [lastL_len W k l (by omega)]; omega
        have hgl := hR.lt g (by simp)
        have hadd := fun q => Add_any g W (ofS (lastL W k l)) l[k] (lastL W k l) S (wr.drewN q) hR hl0 hW1 hW64 (ofS_lt _) hb hxs0
        rw [hst, hsl] at hadd
        have hlt1 := ofS_lt (lastL W (k + 1) l)
        have hsz : wr.heap.size ≤ wr.heap.size := Nat.le_refl _
        clear hst hsl hc hfk
        generalize hz : l[k] = z at *
        generalize hsg : lastL W (k + 1) l = seg at *
        have HS := Lib.hid hsg
        clear hsg
        have hltI : (k : Int) < (m : Int) := by omega
        go_wp2_with fail
        refine (refRoll_any (some (ad.add f)) (k + 1 - f) (cap - f) seg _ hln hseg hxs (by simp only [maxLen]; omega)).mono ?_
        rintro e wA ⟨rfl, q, rfl⟩
        go_wp2_with fail
        refine (hadd q).mono ?_
        rintro e wB ⟨rfl, S', hR', hk', hS'⟩
        have hB' : Below w.heap.size w wB := hB.trans ((((Keeps.refl (g :: S) wr).drewN q).trans hk').belowB hB.size (by intro x hx; rcases List.mem_cons.1 hx with rfl | h; exact hgB; exact hS x h))
        have hSB : ∀ x ∈ S', w.heap.size ≤ x := fun x hx => by
          have := hB.size
          rcases hS' x hx with h | h
          · exact hS x h
          · simp at h; omega
        have hsegB := hseg.keeps (((Keeps.refl (g :: S) wr).drewN q).trans hk') (fun a ha hm => by
          injection ha with ha
          subst ha
          have h1 := hadlt
          try rw [add_block] at hm
          rcases List.mem_cons.1 hm with h | h
          · omega
          · have := hS _ h; omega)
        obtain ⟨A1, C1, hb1, _⟩ := hR'.blk
        rw [hln] at hb1
        have hne1 : ((ofS seg : Int) != (ofS seg : Int)) = false := by simp
        have K1 := Lib.hid hSB
        have K2 := Lib.hid hR'
        have K3 := Lib.hid hB'
        have hg1 : ¬ (2305843009213693951 : Int) ≤ (ofS seg : Int) := by omega
        have K4 := Lib.hid hlt1
        clear hS hR' hSB hB' hk' hS' hadd hseg hR hB hx hlt1
        have hg2 : decide ((2305843009213693951 : Int) ≤ (ofS seg : Int)) = false := decide_eq_false hg1
        clear hg1
        have hne2 : (((k + 1 - f : Nat) : Int) != (k : Int) + 1 - (f : Int)) = false := by simp; omega
        go_wp2_with (first
          | (go_at_call 19; refine (Sum_any _ _ _ _ _ hb1).mono ?_; rintro e w' ⟨rfl, rfl⟩)
          | (go_at_call 20; refine (Len_any _ _ _ _ _ _ _ hb1).mono ?_; rintro e w' ⟨rfl, rfl⟩)
          | (go_at_call 15; refine (Of_any (some (ad.add f)) (k + 1 - f) (cap - f) seg _ hln hsegB hxs (by simp only [maxLen]; omega)).mono ?_; rintro e w' ⟨rfl, rfl⟩))
        go_roundw
        case rel => exact ⟨k + 1, S', by omega, by go_num, by rw [HS.out]; exact K2.out, K1.out, K3.out⟩
        case measure => simp [intOf]; omega
    · obtain rfl : k = m := by omega
      go_wp2
      go_ret
      exact ⟨rfl, hB⟩

set_option maxRecDepth 100000 in
set_option maxHeartbeats 1600000 in
theorem lawSays_lo (wd : Int) (A : Option Addr) (m cap : Nat) (l : List Nat) (w : World) (hl : l.length = m) (hmc : m ≤ cap) (hr : Rd w A (l.map bv)) (hA : A = none → m = 0) (hx : ∀ x ∈ l, x < 256) (h300 : m ≤ 300) (hw : wd < 1) :
    Calls Try.prog 4 #[.int .i64 wd, .slice A m cap] w fun e w' => e = .returned (.bool true) ∧ Below w.heap.size w w' := by
  have hW : holdS wd = 1 := by unfold holdS; rw [if_pos hw]
  have hW1 : 1 ≤ 1 := by omega
  have hW64 : 1 ≤ 64 := by omega
  go_enter Try.func4, Try.ntmps4
  go_wp2_with fail
  refine (awake5_any _).mono ?_
  rintro e w1 ⟨rfl, hb⟩
  go_wp2_with fail
  refine (New_any _ _).mono ?_
  rintro e w2 ⟨g, rfl, hg, hR, hb2⟩
  rw [hW] at hR
  go_wp2_with fail
  have hB2 : Below w.heap.size w w2 := hb.trans (hb2.mono hb.size)
  have hgB : w.heap.size ≤ g := by have := hb.size; omega
  clear hb hb2 hg hW
  go_loopw [7] (fun i wr => ∃ (k : Nat) (S : List Nat), k ≤ m ∧ i = .int .i64 k ∧ RollAt wr g S 1 (lastL 1 k l) (ofS (lastL 1 k l)) ∧ (∀ x ∈ S, w.heap.size ≤ x) ∧ Below w.heap.size w wr) (fun i _ => m - (intOf i).toNat)
  case atStart => exact ⟨0, [], Nat.zero_le _, rfl, by simpa [lastL, ofS] using hR, by simp, hB2⟩
  case round =>
    clear hR hB2
    obtain ⟨k, S, hk, rfl, hR, hS, hB⟩ := hrel
    by_cases hlt : k < m
    · have hkl : k < l.length := by omega
      obtain ⟨ad, rfl, hc⟩ := hr.at_ (j := k) (by simpa using hkl)
      have hcell : wr.cell? (ad.add k) = some (.int .u8 (l[k] : Nat)) := by rw [hB.cell (World.block_lt_of_cell? w _ hc), hc]; simp [bv]
      have hadlt : ad.block < w.heap.size := by have := World.block_lt_of_cell? w _ hc; rwa [add_block] at this
      have hb := hx _ (List.getElem_mem hkl)
      have hst := stepS_last 1 k l hkl hW1
      have hsl := stepL_last 1 k l hkl hW1
      by_cases hf : k + 1 < 1
      · exact absurd hf (by omega)
      · have hcf : ¬ cap = k := by omega
        have hseg : Rd wr (some (ad.add k)) ((lastL 1 (k + 1) l).map bv) := by rw [lastL_hi 1 k k l rfl, List.map_drop, List.map_take]; exact ((hr.below hB).take (k + 1)).dropAt k
        have hln : (lastL 1 (k + 1) l).length = 1 := by rw [lastL_len 1 (k + 1) l (by omega)]; omega
        have hxs : ∀ x ∈ lastL 1 (k + 1) l, x < 256 := fun x h => hx x (List.mem_of_mem_take (List.mem_of_mem_drop h))
        have hxs0 : ∀ x ∈ lastL 1 k l, x < 256 := fun x h => hx x (List.mem_of_mem_take (List.mem_of_mem_drop h))
        have hl0 : (lastL 1 k l).length ≤ 1 := by rw [lastL_len 1 k l (by omega)]; omega
        have hgl := hR.lt g (by simp)
        have hadd := fun q => Add_any g 1 (ofS (lastL 1 k l)) l[k] (lastL 1 k l) S (wr.drewN q) hR hl0 hW1 hW64 (ofS_lt _) hb hxs0
        rw [hst, hsl] at hadd
        have hlt1 := ofS_lt (lastL 1 (k + 1) l)
        have hsz : wr.heap.size ≤ wr.heap.size := Nat.le_refl _
        clear hst hsl hc
        generalize hz : l[k] = z at *
        generalize hsg : lastL 1 (k + 1) l = seg at *
        have HS := Lib.hid hsg
        clear hsg
        have hltI : (k : Int) < (m : Int) := by omega
        go_wp2_with fail
        refine (refRoll_any (some (ad.add k)) 1 (cap - k) seg _ hln hseg hxs (by simp only [maxLen]; omega)).mono ?_
        rintro e wA ⟨rfl, q, rfl⟩
        go_wp2_with fail
        refine (hadd q).mono ?_
        rintro e wB ⟨rfl, S', hR', hk', hS'⟩
        have hB' : Below w.heap.size w wB := hB.trans ((((Keeps.refl (g :: S) wr).drewN q).trans hk').belowB hB.size (by intro x hx; rcases List.mem_cons.1 hx with rfl | h; exact hgB; exact hS x h))
        have hSB : ∀ x ∈ S', w.heap.size ≤ x := fun x hx => by
          have := hB.size
          rcases hS' x hx with h | h
          · exact hS x h
          · simp at h; omega
        have hsegB := hseg.keeps (((Keeps.refl (g :: S) wr).drewN q).trans hk') (fun a ha hm => by
          injection ha with ha
          subst ha
          have h1 := hadlt
          try rw [add_block] at hm
          rcases List.mem_cons.1 hm with h | h
          · omega
          · have := hS _ h; omega)
        obtain ⟨A1, C1, hb1, _⟩ := hR'.blk
        rw [hln] at hb1
        have hne1 : ((ofS seg : Int) != (ofS seg : Int)) = false := by simp
        have K1 := Lib.hid hSB
        have K2 := Lib.hid hR'
        have K3 := Lib.hid hB'
        have hg1 : ¬ (2305843009213693951 : Int) ≤ (ofS seg : Int) := by omega
        have K4 := Lib.hid hlt1
        clear hS hR' hSB hB' hk' hS' hadd hseg hR hB hx hlt1
        have hg2 : decide ((2305843009213693951 : Int) ≤ (ofS seg : Int)) = false := decide_eq_false hg1
        clear hg1
        have hne2 : ((1 : Int) != (k : Int) + 1 - (k : Int)) = false := by simp; omega
        have hne3 : (((1 : Nat) : Int) != (k : Int) + 1 - (k : Int)) = false := by simp; omega
        go_wp2_with (first
          | (go_at_call 19; refine (Sum_any _ _ _ _ _ hb1).mono ?_; rintro e w' ⟨rfl, rfl⟩)
          | (go_at_call 20; refine (Len_any _ _ _ _ _ _ _ hb1).mono ?_; rintro e w' ⟨rfl, rfl⟩)
          | (go_at_call 15; refine (Of_any (some (ad.add k)) 1 (cap - k) seg _ hln hsegB hxs (by simp only [maxLen]; omega)).mono ?_; rintro e w' ⟨rfl, rfl⟩))
        go_roundw
        case rel => exact ⟨k + 1, S', by omega, by go_num, by rw [HS.out]; exact K2.out, K1.out, K3.out⟩
        case measure => simp [intOf]; omega
    · obtain rfl : k = m := by omega
      go_wp2
      go_ret
      exact ⟨rfl, hB⟩

set_option maxRecDepth 100000 in
set_option maxHeartbeats 1600000 in
theorem lawSays_hi (wd : Int) (A : Option Addr) (m cap : Nat) (l : List Nat) (w : World) (hl : l.length = m) (hmc : m ≤ cap) (hr : Rd w A (l.map bv)) (hA : A = none → m = 0) (hx : ∀ x ∈ l, x < 256) (h300 : m ≤ 300) (hw : 64 < wd) :
    Calls Try.prog 4 #[.int .i64 wd, .slice A m cap] w fun e w' => e = .returned (.bool true) ∧ Below w.heap.size w w' := by
  have hW : holdS wd = 64 := by unfold holdS; rw [if_neg (by omega), if_pos hw]
  have hw1 : ¬ wd < 1 := by omega
  have hW1 : 1 ≤ 64 := by omega
  have hW64 : 64 ≤ 64 := by omega
  go_enter Try.func4, Try.ntmps4
  go_wp2_with fail
  refine (awake5_any _).mono ?_
  rintro e w1 ⟨rfl, hb⟩
  go_wp2_with fail
  refine (New_any _ _).mono ?_
  rintro e w2 ⟨g, rfl, hg, hR, hb2⟩
  rw [hW] at hR
  go_wp2_with fail
  have hB2 : Below w.heap.size w w2 := hb.trans (hb2.mono hb.size)
  have hgB : w.heap.size ≤ g := by have := hb.size; omega
  clear hb hb2 hg hW
  go_loopw [7] (fun i wr => ∃ (k : Nat) (S : List Nat), k ≤ m ∧ i = .int .i64 k ∧ RollAt wr g S 64 (lastL 64 k l) (ofS (lastL 64 k l)) ∧ (∀ x ∈ S, w.heap.size ≤ x) ∧ Below w.heap.size w wr) (fun i _ => m - (intOf i).toNat)
  case atStart => exact ⟨0, [], Nat.zero_le _, rfl, by simpa [lastL, ofS] using hR, by simp, hB2⟩
  case round =>
    clear hR hB2
    obtain ⟨k, S, hk, rfl, hR, hS, hB⟩ := hrel
    by_cases hlt : k < m
    · have hkl : k < l.length := by omega
      obtain ⟨ad, rfl, hc⟩ := hr.at_ (j := k) (by simpa using hkl)
      have hcell : wr.cell? (ad.add k) = some (.int .u8 (l[k] : Nat)) := by rw [hB.cell (World.block_lt_of_cell? w _ hc), hc]; simp [bv]
      have hadlt : ad.block < w.heap.size := by have := World.block_lt_of_cell? w _ hc; rwa [add_block] at this
      have hb := hx _ (List.getElem_mem hkl)
      have hst := stepS_last 64 k l hkl hW1
      have hsl := stepL_last 64 k l hkl hW1
      by_cases hf : k + 1 < 64
      · have hfn : (k : Int) + 1 - (64 : Int) < 0 := by omega
        have hseg : Rd wr (some ad) ((lastL 64 (k + 1) l).map bv) := by rw [lastL_lo 64 k l hf, List.map_take]; exact (hr.below hB).take (k + 1)
        have hln : (lastL 64 (k + 1) l).length = (k + 1) := by rw [lastL_len 64 (k + 1) l (by omega)]; omega
        have hxs : ∀ x ∈ lastL 64 (k + 1) l, x < 256 := fun x h => hx x (List.mem_of_mem_take (List.mem_of_mem_drop h))
        have hxs0 : ∀ x ∈ lastL 64 k l, x < 256 := fun x h => hx x (List.mem_of_mem_take (List.mem_of_mem_drop h))
        have hl0 : (lastL 64 k l).length ≤ 64 := by rw [lastL_len 64 k l (by omega)]; omega
        have hgl := hR.lt g (by simp)
        have hadd := fun q => Add_any g 64 (ofS (lastL 64 k l)) l[k] (lastL 64 k l) S (wr.drewN q) hR hl0 hW1 hW64 (ofS_lt _) hb hxs0
        rw [hst, hsl] at hadd
        have hlt1 := ofS_lt (lastL 64 (k + 1) l)
        have hsz : wr.heap.size ≤ wr.heap.size := Nat.le_refl _
        clear hst hsl hc
        generalize hz : l[k] = z at *
        generalize hsg : lastL 64 (k + 1) l = seg at *
        have HS := Lib.hid hsg
        clear hsg
        have hltI : (k : Int) < (m : Int) := by omega
        go_wp2_with fail
        refine (refRoll_any (some ad) (k + 1) cap seg _ hln hseg hxs (by simp only [maxLen]; omega)).mono ?_
        rintro e wA ⟨rfl, q, rfl⟩
        go_wp2_with fail
        refine (hadd q).mono ?_
        rintro e wB ⟨rfl, S', hR', hk', hS'⟩
        have hB' : Below w.heap.size w wB := hB.trans ((((Keeps.refl (g :: S) wr).drewN q).trans hk').belowB hB.size (by intro x hx; rcases List.mem_cons.1 hx with rfl | h; exact hgB; exact hS x h))
        have hSB : ∀ x ∈ S', w.heap.size ≤ x := fun x hx => by
          have := hB.size
          rcases hS' x hx with h | h
          · exact hS x h
          · simp at h; omega
        have hsegB := hseg.keeps (((Keeps.refl (g :: S) wr).drewN q).trans hk') (fun a ha hm => by
          injection ha with ha
          subst ha
          have h1 := hadlt
          try rw [add_block] at hm
          rcases List.mem_cons.1 hm with h | h
          · omega
          · have := hS _ h; omega)
        obtain ⟨A1, C1, hb1, _⟩ := hR'.blk
        rw [hln] at hb1
        have hne1 : ((ofS seg : Int) != (ofS seg : Int)) = false := by simp
        have K1 := Lib.hid hSB
        have K2 := Lib.hid hR'
        have K3 := Lib.hid hB'
        have hg1 : ¬ (2305843009213693951 : Int) ≤ (ofS seg : Int) := by omega
        have K4 := Lib.hid hlt1
        clear hS hR' hSB hB' hk' hS' hadd hseg hR hB hx hlt1
        have hg2 : decide ((2305843009213693951 : Int) ≤ (ofS seg : Int)) = false := decide_eq_false hg1
        clear hg1
        go_wp2_with (first
          | (go_at_call 19; refine (Sum_any _ _ _ _ _ hb1).mono ?_; rintro e w' ⟨rfl, rfl⟩)
          | (go_at_call 20; refine (Len_any _ _ _ _ _ _ _ hb1).mono ?_; rintro e w' ⟨rfl, rfl⟩)
          | (go_at_call 15; refine (Of_any (some ad) (k + 1) cap seg _ hln hsegB hxs (by simp only [maxLen]; omega)).mono ?_; rintro e w' ⟨rfl, rfl⟩))
        go_roundw
        case rel => exact ⟨k + 1, S', by omega, by go_num, by rw [HS.out]; exact K2.out, K1.out, K3.out⟩
        case measure => simp [intOf]; omega
      · obtain ⟨f, hfk⟩ : ∃ f, k + 1 = f + 64 := ⟨k + 1 - 64, by omega⟩
        have hfn : ¬ (k : Int) + 1 - (64 : Int) < 0 := by omega
        have hfI : (k : Int) + 1 - (64 : Int) = (f : Int) := by omega
        have hcf : ¬ cap = f := by omega
        have hfle : f ≤ k + 1 := by omega
        have hfleI : (f : Int) ≤ (k : Int) + 1 := by omega
        have hf0 : (0 : Int) ≤ (f : Int) := by omega
        have HFK := Lib.hid hfk
        have hseg : Rd wr (some (ad.add f)) ((lastL 64 (k + 1) l).map bv) := by rw [lastL_hi 64 k f l hfk, List.map_drop, List.map_take]; exact ((hr.below hB).take (k + 1)).dropAt f
        have hln : (lastL 64 (k + 1) l).length = (k + 1 - f) := by rw [lastL_len 64 (k + 1) l (by omega)]; omega
        have hxs : ∀ x ∈ lastL 64 (k + 1) l, x < 256 := fun x h => hx x (List.mem_of_mem_take (List.mem_of_mem_drop h))
        have hxs0 : ∀ x ∈ lastL 64 k l, x < 256 := fun x h => hx x (List.mem_of_mem_take (List.mem_of_mem_drop h))
        have hl0 : (lastL 64 k l).length ≤ 64 := by rw [lastL_len 64 k l (by omega)]; omega
        have hgl := hR.lt g (by simp)
        have hadd := fun q => Add_any g 64 (ofS (lastL 64 k l)) l[k] (lastL 64 k l) S (wr.drewN q) hR hl0 hW1 hW64 (ofS_lt _) hb hxs0
        rw [hst, hsl] at hadd
        have hlt1 := ofS_lt (lastL 64 (k + 1) l)
        have hsz : wr.heap.size ≤ wr.heap.size := Nat.le_refl _
        clear hst hsl hc hfk
        generalize hz : l[k] = z at *
        generalize hsg : lastL 64 (k + 1) l = seg at *
        have HS := Lib.hid hsg
        clear hsg
        have hltI : (k : Int) < (m : Int) := by omega
        go_wp2_with fail
        refine (refRoll_any (some (ad.add f)) (k + 1 - f) (cap - f) seg _ hln hseg hxs (by simp only [maxLen]; omega)).mono ?_
        rintro e wA ⟨rfl, q, rfl⟩
        go_wp2_with fail
        refine (hadd q).mono ?_
        rintro e wB ⟨rfl, S', hR', hk', hS'⟩
        have hB' : Below w.heap.size w wB := hB.trans ((((Keeps.refl (g :: S) wr).drewN q).trans hk').belowB hB.size (by intro x hx; rcases List.mem_cons.1 hx with rfl | h; exact hgB; exact hS x h))
        have hSB : ∀ x ∈ S', w.heap.size ≤ x := fun x hx => by
          have := hB.size
          rcases hS' x hx with h | h
          · exact hS x h
          · simp at h; omega
        have hsegB := hseg.keeps (((Keeps.refl (g :: S) wr).drewN q).trans hk') (fun a ha hm => by
          injection ha with ha
          subst ha
          have h1 := hadlt
          try rw [add_block] at hm
          rcases List.mem_cons.1 hm with h | h
          · omega
          · have := hS _ h; omega)
        obtain ⟨A1, C1, hb1, _⟩ := hR'.blk
        rw [hln] at hb1
        have hne1 : ((ofS seg : Int) != (ofS seg : Int)) = false := by simp
        have K1 := Lib.hid hSB
        have K2 := Lib.hid hR'
        have K3 := Lib.hid hB'
        have hg1 : ¬ (2305843009213693951 : Int) ≤ (ofS seg : Int) := by omega
        have K4 := Lib.hid hlt1
        clear hS hR' hSB hB' hk' hS' hadd hseg hR hB hx hlt1
        have hg2 : decide ((2305843009213693951 : Int) ≤ (ofS seg : Int)) = false := decide_eq_false hg1
        clear hg1
        have hne2 : (((k + 1 - f : Nat) : Int) != (k : Int) + 1 - (f : Int)) = false := by simp; omega
        go_wp2_with (first
          | (go_at_call 19; refine (Sum_any _ _ _ _ _ hb1).mono ?_; rintro e w' ⟨rfl, rfl⟩)
          | (go_at_call 20; refine (Len_any _ _ _ _ _ _ _ hb1).mono ?_; rintro e w' ⟨rfl, rfl⟩)
          | (go_at_call 15; refine (Of_any (some (ad.add f)) (k + 1 - f) (cap - f) seg _ hln hsegB hxs (by simp only [maxLen]; omega)).mono ?_; rintro e w' ⟨rfl, rfl⟩))
        go_roundw
        case rel => exact ⟨k + 1, S', by omega, by go_num, by rw [HS.out]; exact K2.out, K1.out, K3.out⟩
        case measure => simp [intOf]; omega
    · obtain rfl : k = m := by omega
      go_wp2
      go_ret
      exact ⟨rfl, hB⟩

end Go.Proofs.Ytibckdnfgopghaa
