/- Layer 10: SortFunc by the library's contract; Compact; Of. -/
import Derived.Test.YtmlbkcpmgcjblaaSetE
import Derived.Test.YtmlbkcpmgcjblaaLaysS
import Derived.Deep.QuietTactic
import Derived.BigQuiet
namespace Go.Proofs.Ytmlbkcpmgcjblaa
open Go.RowKit

theorem rd_box {w : World} {g : Nat} {t : TypeId} {l : List Nat} (h : Blk w g t (u8s l)) : Rd w (some ⟨g, 0, none⟩) (l.map bv) := by
  have := Rd.of_blk0 h
  simpa [u8s] using this
set_option maxRecDepth 100000 in
/-- Sum.Cmp, its world to the letter. -/
theorem cmpW (x y : Sm) (w : World) : Calls Try.prog 66 #[.agg (u8s x.l), .agg (u8s y.l)] w fun e w' => e = .returned (.int .i64 (cmpL x.l y.l)) ∧ ∃ q os, w' = Sort.grow (w.drewN q) os := by
  have h0 : Blk ((w.alloc (.cells (u8s x.l) 34)).alloc (.cells (u8s y.l) 34)) w.heap.size 34 (u8s x.l) := (Blk.new w _ _).alloc _
  have h1 : Blk ((w.alloc (.cells (u8s x.l) 34)).alloc (.cells (u8s y.l) 34)) (w.heap.size + 1) 34 (u8s y.l) := Blk.newAt (w.alloc _) _ _ _ (by simp)
  have hc : ∀ n, Calls Try.prog 103 #[.slice (some ⟨w.heap.size, 0, none⟩) 32 32, .slice (some ⟨w.heap.size + 1, 0, none⟩) 32 32] (((w.alloc (.cells (u8s x.l) 34)).alloc (.cells (u8s y.l) 34)).drewN n)
      fun e w' => e = .returned (.int .i64 (cmpL x.l y.l)) ∧ w' = (((w.alloc (.cells (u8s x.l) 34)).alloc (.cells (u8s y.l) 34)).drewN n) := fun n =>
    Compare_any _ _ 32 32 32 32 x.l y.l _ x.len y.len (rd_box (h0.drewN n)) (rd_box (h1.drewN n)) (by simp) (by simp) x.lt y.lt
  have HC := Lib.hid hc
  clear hc h0 h1
  generalize cmpL x.l y.l = r at *
  go_enter Try.func66, Try.ntmps66
  go_wp2_with fail
  go_quiet ((go_at_call 103; exact Calls.quiet_of_same (HC.out _)))
  go_wp2_with fail
  go_ret
  exact ⟨rfl, _, _, by rw [Sort.alloc_eq_grow, Sort.alloc_eq_grow, Sort.grow_grow]; rfl⟩

/-! ### Sorted -/
def ltS (x y : Sm) : Bool := decide (cmpL x.l y.l < 0)
def sortL (D : List Sm) : List Sm := D.mergeSort fun x y => !ltS y x
theorem sortL_len (D : List Sm) : (sortL D).length = D.length := by simp [sortL]
theorem ltS_swo : Sort.SWO (ltOf fun x y : Sm => cmpL x.l y.l) where
  irrefl x := by
    show decide (cmpL x.l x.l < 0) = false
    rw [(cmpL_eq x.l x.l).2 rfl]
    rfl
  trans x y z h1 h2 := by
    unfold ltOf at *
    simp only [decide_eq_true_eq] at *
    exact (cmpL_trans x.l y.l z.l (by omega) (by omega)).2 (.inl h1)
  ntrans x y z h1 h2 := by
    unfold ltOf at *
    simp only [decide_eq_false_iff_not] at *
    have s1 := cmpL_swap x.l y.l
    have s2 := cmpL_swap y.l z.l
    have s3 := cmpL_swap x.l z.l
    have := (cmpL_trans z.l y.l x.l (by omega) (by omega)).1
    omega
theorem flatK_flat (D : List Sm) : Sort.flatK Sm.enc 32 D.toArray = (flat D).toArray := by
  refine Sort.ext_get! (by simp [flat_len]) fun t ht => ?_
  have ht' : t < D.length * 32 := by simpa using ht
  have hq : t / 32 < D.length := by omega
  rw [Sort.get_flatK _ _ _ _ (by simpa using ht')]
  have e1 : D.toArray[t / 32]! = D.getD (t / 32) default := by simp [List.getD, hq]
  have hfl := flat_at D hq
  have hg : (flat D)[t]? = (D.getD (t / 32) default).enc[t % 32]? := by
    have h1 : ((flat D).drop (t / 32 * 32))[t % 32]? = (flat D)[t]? := by rw [List.getElem?_drop]; congr 1; omega
    rw [← h1, hfl, List.getElem?_append_left (by rw [enc_len]; omega)]
  rw [e1]
  have h2 : t % 32 < (D.getD (t / 32) default).enc.length := by rw [enc_len]; omega
  have h3 : t < (flat D).length := by rw [flat_len]; exact ht'
  rw [getElem!_pos (D.getD (t / 32) default).enc (t % 32) h2]
  rw [getElem!_pos (flat D).toArray t (by simpa using h3)]
  rw [List.getElem?_eq_getElem h3, List.getElem?_eq_getElem h2] at hg
  injection hg with hg
  simpa using hg.symm
theorem holds_seg {w : World} {e : TypeId} {g off cap : Nat} {D : List Sm} (h : SegL w e 32 g off D.length cap (flat D)) : Sort.HoldsK Sm.enc 32 w g off D.toArray := by
  obtain ⟨hl, hn, hm, cs, hb, hs, hx⟩ := h
  unfold Sort.HoldsK
  rw [flatK_flat]
  intro j hj
  have hj' : j < (flat D).length := by simpa using hj
  have hj2 : j < D.length * 32 := by rw [← flat_len]; exact hj'
  refine ⟨?_, hb.frozen _⟩
  rw [hb.cell, hx j hj2, List.getElem?_eq_getElem hj', getElem!_pos (flat D).toArray j hj]
  simp
theorem seg_sorted {w : World} {e : TypeId} {g off cap n : Nat} {D : List Sm} (D' : List Sm) (os : Array Obj) (h : SegL w e 32 g off D.length cap (flat D)) (hl' : D'.length = D.length) :
    SegL (sortWorldK Sm.enc 32 w g off n D'.toArray os) e 32 g off D.length cap (flat D') ∧ Keeps [g] w (sortWorldK Sm.enc 32 w g off n D'.toArray os) := by
  obtain ⟨hl, hn, hm, cs, hb, hs, hx⟩ := h
  have hle : D.length * 32 ≤ cap * 32 := Nat.mul_le_mul_right _ hn
  unfold sortWorldK Sort.putRowK
  rw [flatK_flat]
  have hfl : (flat D').length = D.length * 32 := by rw [flat_len, hl']
  have hsz : ∀ W : World, (Sort.putRow id W g off (flat D').toArray).heap.size = W.heap.size := fun W => Sort.size_putRow id W g off _
  have hblk : (Sort.grow (Sort.putRow id (Sort.ahead w n) g off (flat D').toArray) os).heap[g]? = some (.cells (Sort.putCells id off (flat D').toArray cs) e (0, 0)) := by
    have hgl : g < (Sort.putRow id (Sort.ahead w n) g off (flat D').toArray).heap.size := by rw [hsz]; exact hb.lt
    unfold Sort.grow
    simp only []
    rw [Array.getElem?_append_left hgl]
    unfold Sort.putRow Sort.mapBlock
    simp only [Array.getElem?_modify, if_true]
    have : (Sort.ahead w n).heap[g]? = w.heap[g]? := rfl
    rw [this]
    unfold Blk at hb
    rw [hb]
    rfl
  refine ⟨⟨hfl, hn, hm, _, hblk, by simpa [Sort.putCells] using hs, fun j hj => ?_⟩, ⟨rfl, rfl, rfl, ?_, fun k hk hne => ?_⟩⟩
  · unfold Sort.putCells
    have hoj : off + j < cs.size := by omega
    rw [Array.getElem?_mapIdx, Array.getElem?_eq_getElem hoj]
    simp only [Option.map_some]
    have hjf : j < (flat D').length := by omega
    rw [if_pos (by simp; omega), show off + j - off = j by omega, getElem!_pos (flat D').toArray j (by simpa using hjf), List.getElem?_eq_getElem hjf]
    simp
  · show w.heap.size ≤ ((Sort.putRow id (Sort.ahead w n) g off (flat D').toArray).heap ++ os).size
    rw [Array.size_append, hsz]
    exact Nat.le_add_right _ _
  · show ((Sort.putRow id (Sort.ahead w n) g off (flat D').toArray).heap ++ os)[k]? = w.heap[k]?
    rw [Array.getElem?_append_left (by rw [hsz]; exact hk)]
    unfold Sort.putRow Sort.mapBlock
    simp only [Array.getElem?_modify]
    rw [if_neg (fun h => hne (by simp [h]))]
    rfl
theorem sort_any (D : List Sm) (w : World) (g off cap : Nat) (hs : SegL w 34 32 g off D.length cap (flat D)) (hD : D.length ≤ 1000000) :
    Calls Try.prog 65 #[.slice (some ⟨g, off, none⟩) D.length cap, .func (.func 66) #[] #[]] w fun e w' => ∃ u, e = .returned u ∧ SegL w' 34 32 g off D.length cap (flat (sortL D)) ∧ Keeps [g] w w' := by
  have h := AnyQ.slices_SortFunc_total laysSortS 32 Try.isAgg34 Try.sizeOf34 Sm.enc enc_len (fun x v hv => enc_one x v hv) (fun x y : Sm => cmpL x.l y.l) ltS_swo 66 #[] g off cap D.toArray w (fun args w => by kernel_rfl)
    (fun _ _ _ _ x y => cmpW x y _) (holds_seg hs) hs.lt (by simp; omega) (fun x y h1 h2 => by
      unfold ltOf at h1 h2
      simp only [decide_eq_false_iff_not] at h1 h2
      have h3 := cmpL_swap x.l y.l
      exact Sm.ext_l ((cmpL_eq x.l y.l).1 (by omega)))
  refine Calls.mono h fun e w' ⟨he, n, os, hw⟩ => ⟨_, he, ?_⟩
  subst hw
  exact seg_sorted (sortL D) os hs (sortL_len D)
theorem sort_none (w : World) : Calls Try.prog 65 #[.slice none 0 0, .func (.func 66) #[] #[]] w fun e w' => ∃ u, e = .returned u ∧ w' = w :=
  Calls.mono (AnyF.slices_SortFunc_none laysSortS none 0 (.func (.func 66) #[] #[]) w) fun _ _ ⟨h1, h2⟩ => ⟨_, h1, h2⟩
end Go.Proofs.Ytmlbkcpmgcjblaa
