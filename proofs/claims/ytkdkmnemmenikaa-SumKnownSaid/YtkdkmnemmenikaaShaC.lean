/- Walks: package sum's rounds, begin, take. -/
import Derived.Test.YtkdkmnemmenikaaShaB
namespace Go.Proofs.Ytkdkmnemmenikaa
open Go.RowKit

set_option maxRecDepth 100000 in
theorem u32s_one (l : List Nat) : (u32s l).all (·.oneCell') = true := by
  unfold u32s; rw [Array.all_eq_true_iff_forall_mem]; intro v hv; simp at hv; obtain ⟨x, _, rfl⟩ := hv; rfl
theorem info64 : (Try.prog.info? 47).map (·.size) = some 64 := by kernel_rfl
set_option maxRecDepth 100000 in
theorem info8 : (Try.prog.info? 39).map (·.size) = some 8 := by kernel_rfl

theorem keys_lit : u32s keysS = #[.int .u32 1116352408, .int .u32 1899447441, .int .u32 3049323471, .int .u32 3921009573, .int .u32 961987163, .int .u32 1508970993, .int .u32 2453635748, .int .u32 2870763221, .int .u32 3624381080, .int .u32 310598401, .int .u32 607225278, .int .u32 1426881987, .int .u32 1925078388, .int .u32 2162078206, .int .u32 2614888103, .int .u32 3248222580, .int .u32 3835390401, .int .u32 4022224774, .int .u32 264347078, .int .u32 604807628, .int .u32 770255983, .int .u32 1249150122, .int .u32 1555081692, .int .u32 1996064986, .int .u32 2554220882, .int .u32 2821834349, .int .u32 2952996808, .int .u32 3210313671, .int .u32 3336571891, .int .u32 3584528711, .int .u32 113926993, .int .u32 338241895, .int .u32 666307205, .int .u32 773529912, .int .u32 1294757372, .int .u32 1396182291, .int .u32 1695183700, .int .u32 1986661051, .int .u32 2177026350, .int .u32 2456956037, .int .u32 2730485921, .int .u32 2820302411, .int .u32 3259730800, .int .u32 3345764771, .int .u32 3516065817, .int .u32 3600352804, .int .u32 4094571909, .int .u32 275423344, .int .u32 430227734, .int .u32 506948616, .int .u32 659060556, .int .u32 883997877, .int .u32 958139571, .int .u32 1322822218, .int .u32 1537002063, .int .u32 1747873779, .int .u32 1955562222, .int .u32 2024104815, .int .u32 2227730452, .int .u32 2361852424, .int .u32 2428436474, .int .u32 2756734187, .int .u32 3204031479, .int .u32 3329325298] := by kernel_rfl
set_option maxRecDepth 100000 in
theorem begin_lit : u32s beginS = #[.int .u32 1779033703, .int .u32 3144134277, .int .u32 1013904242, .int .u32 2773480762, .int .u32 1359893119, .int .u32 2600822924, .int .u32 528734635, .int .u32 1541459225] := by kernel_rfl
theorem one_keys : (u32s keysS).all (·.oneCell') = true := u32s_one _
theorem one_begin : (u32s beginS).all (·.oneCell') = true := u32s_one _
set_option maxRecDepth 100000 in
theorem zero64_new (w : World) : Blk (w.alloc (.cells (u32s (fillTo 64 [])) 47)) w.heap.size 47 (u32s (fillTo 64 [])) := Blk.new _ _ _

set_option maxRecDepth 100000 in
set_option maxHeartbeats 1000000 in
theorem rounds_any (w : World) :
    Calls Try.prog 19 #[] w fun e w' => e = .returned (.agg (u32s keysS)) ∧ Below w.heap.size w w' := by
  have h1 := one_keys
  have h2 := u32s_size keysS
  rw [keys_lit] at h1 h2 ⊢
  go_enter Try.func19, Try.ntmps19
  go_wp2_with (refine wpList_store_blk rfl 47 (.tmp 0) (.tmp 1) rfl w.heap.size 47 _ _ rfl rfl (Blk.new w _ _) rfl info64 h1 ?_; intro w' hB' hk')
  refine post_blk rfl rfl w.heap.size 47 _ _ rfl hB' Try.underlying47 rfl info64 ⟨rfl, ?_⟩
  exact (((Keeps.refl [] w).alloc _).trans' hk' (by simp)).below

set_option maxRecDepth 100000 in
theorem begin_any (w : World) :
    Calls Try.prog 13 #[] w fun e w' => e = .returned (.agg (u32s beginS)) ∧ Below w.heap.size w w' := by
  have h1 := one_begin
  rw [begin_lit] at h1 ⊢
  go_enter Try.func13, Try.ntmps13
  go_wp2_with (refine wpList_store_blk rfl 39 (.tmp 0) (.tmp 1) rfl w.heap.size 39 _ _ rfl rfl (Blk.new w _ _) rfl info8 h1 ?_; intro w' hB' hk')
  refine post_blk rfl rfl w.heap.size 39 _ _ rfl hB' Try.underlying39 rfl info8 ⟨rfl, ?_⟩
  exact (((Keeps.refl [] w).alloc _).trans' hk' (by simp)).below

/-- s with the sums with v in its first k places. -/
def mixS (s v : List Nat) (k : Nat) : List Nat := (List.zipWith a32 s v).take k ++ s.drop k
set_option maxRecDepth 100000 in
theorem mixS_len {s v : List Nat} {k : Nat} (hs : s.length = 8) (hv : v.length = 8) (hk : k ≤ 8) : (mixS s v k).length = 8 := by
  unfold mixS; simp [hs, hv]; omega
theorem mixS_get {s v : List Nat} {k : Nat} (hs : s.length = 8) (hv : v.length = 8) (hk : k < 8) : (u32s (mixS s v k))[k]? = some (.int .u32 ((s.getD k 0 : Nat) : Int)) := by
  have hl : (List.take k (List.zipWith a32 s v)).length = k := by simp [hs, hv]; omega
  rw [u32s_get (by rw [mixS_len hs hv (by omega)]; exact hk)]
  unfold mixS
  rw [List.getD, List.getElem?_append_right (by omega), List.getElem?_drop, hl]
  simp [List.getD]
set_option maxRecDepth 100000 in
theorem mixS_set {s v : List Nat} {k : Nat} (hs : s.length = 8) (hv : v.length = 8) (hk : k < 8) : (u32s (mixS s v k)).setIfInBounds k (.int .u32 ((a32 (s.getD k 0) (v.getD k 0) : Nat) : Int)) = u32s (mixS s v (k + 1)) := by
  have hzl : (List.zipWith a32 s v).length = 8 := by simp [hs, hv]
  have hz : (List.zipWith a32 s v)[k]'(by omega) = a32 (s.getD k 0) (v.getD k 0) := by
    rw [List.getElem_zipWith]
    simp [List.getD, List.getElem?_eq_getElem (show k < s.length by omega), List.getElem?_eq_getElem (show k < v.length by omega)]
  unfold mixS
  rw [List.take_succ_eq_append_getElem (by omega), hz]
  generalize a32 (s.getD k 0) (v.getD k 0) = x at *
  clear hz
  generalize List.zipWith a32 s v = z at *
  have hd : s.drop k = s[k]'(by omega) :: s.drop (k + 1) := List.drop_eq_getElem_cons (by omega)
  rw [hd]
  unfold u32s
  simp only [List.map_append, List.map_cons, List.append_assoc, List.cons_append, List.nil_append]
  have hl : (List.map (fun (x : Nat) => Value.int .u32 (x : Int)) (z.take k)).length = k := by rw [List.length_map, List.length_take]; omega
  rw [List.setIfInBounds_toArray, List.set_append_right _ _ (by omega), hl, Nat.sub_self]
  rfl
set_option maxRecDepth 100000 in
theorem mixS_all {s v : List Nat} (hs : s.length = 8) (hv : v.length = 8) : mixS s v 8 = List.zipWith a32 s v := by
  unfold mixS
  rw [List.take_of_length_le (by simp [hs, hv]), List.drop_of_length_le (by omega), List.append_nil]

set_option maxRecDepth 100000 in
theorem len8 {l : List Nat} (h : l.length = 8) : ∃ a b c d e f g k, l = [a, b, c, d, e, f, g, k] := by
  match l, h with
  | [a, b, c, d, e, f, g, k], _ => exact ⟨a, b, c, d, e, f, g, k, rfl⟩

set_option maxRecDepth 100000 in
theorem round_store {w : World} {g : Nat} {t : TypeId} {a b c d e f h k : Nat} (hV : Blk w g t (u32s [a, b, c, d, e, f, h, k])) (x0 x1 x2 x3 x4 x5 x6 x7 : Nat) :
    Blk ((((((((w.setCell ⟨g, 0, none⟩ (.int .u32 x0)).setCell ⟨g, 1, none⟩ (.int .u32 x1)).setCell ⟨g, 2, none⟩ (.int .u32 x2)).setCell ⟨g, 3, none⟩ (.int .u32 x3)).setCell ⟨g, 4, none⟩ (.int .u32 x4)).setCell ⟨g, 5, none⟩ (.int .u32 x5)).setCell ⟨g, 6, none⟩ (.int .u32 x6)).setCell ⟨g, 7, none⟩ (.int .u32 x7)) g t (u32s [x0, x1, x2, x3, x4, x5, x6, x7]) ∧
    Keeps [g] w ((((((((w.setCell ⟨g, 0, none⟩ (.int .u32 x0)).setCell ⟨g, 1, none⟩ (.int .u32 x1)).setCell ⟨g, 2, none⟩ (.int .u32 x2)).setCell ⟨g, 3, none⟩ (.int .u32 x3)).setCell ⟨g, 4, none⟩ (.int .u32 x4)).setCell ⟨g, 5, none⟩ (.int .u32 x5)).setCell ⟨g, 6, none⟩ (.int .u32 x6)).setCell ⟨g, 7, none⟩ (.int .u32 x7)) := by
  constructor
  · have h := hV.setCells [.int .u32 x0, .int .u32 x1, .int .u32 x2, .int .u32 x3, .int .u32 x4, .int .u32 x5, .int .u32 x6, .int .u32 x7] 0
    rw [splice_all _ _ (by rw [u32s_size]; rfl)] at h
    have e : u32s [x0, x1, x2, x3, x4, x5, x6, x7] = [Value.int .u32 x0, .int .u32 x1, .int .u32 x2, .int .u32 x3, .int .u32 x4, .int .u32 x5, .int .u32 x6, .int .u32 x7].toArray := by simp [u32s]
    rw [e]
    simpa only [World.setCells, Nat.reduceAdd, Nat.zero_add] using h
  · have m : ∀ i, (⟨g, i, none⟩ : Addr).block ∈ [g] ∨ w.heap.size ≤ (⟨g, i, none⟩ : Addr).block := fun i => .inl (by simp)
    exact ((((((((Keeps.refl [g] w).setCell _ (m 0)).setCell _ (m 1)).setCell _ (m 2)).setCell _ (m 3)).setCell _ (m 4)).setCell _ (m 5)).setCell _ (m 6)).setCell _ (m 7)
set_option maxRecDepth 100000 in
theorem roundS_eq (k w a b c d e f g h : Nat) : roundS k w [a, b, c, d, e, f, g, h] = [a32 (sumE e f g h k w) (sumA a b c), a, b, c, a32 d (sumE e f g h k w), e, f, g] := rfl

set_option maxRecDepth 100000 in
set_option maxHeartbeats 4000000 in
theorem take_any (A : Option Addr) (cap g : Nat) (st b : List Nat) (w : World) (hh : st.length = 8) (hg : Blk w g 39 (u32s st)) (hl : b.length = 64) (hr : Rd w A (b.map bv)) (hx : ∀ x ∈ b, x < 256) :
    Calls Try.prog 14 #[.pointer (some ⟨g, 0, none⟩), .slice A 64 cap] w fun e w' => e = .returned (.tuple #[]) ∧ Blk w' g 39 (u32s (blockS st b)) ∧ Keeps [g] w w' := by
  have X := x32_eq
  have C := c32_eq
  have N := n32_eq
  have P1 := a32_eq
  have P2 := a32_eq'
  have hwl := wordsS_len b 64
  have HWL := Lib.hid hwl
  have hk0 : keysS.length = 64 := rfl
  have hsw := u32s_size (wordsS b 64)
  rw [hwl] at hsw
  have HSW := Lib.hid hsw
  have hiw := Lib.hid (info64.trans (congrArg some hsw.symm))
  have hih := Lib.hid (info8.trans (congrArg some ((u32s_size st).trans hh).symm))
  have how := u32s_one (wordsS b 64)
  have hoh := u32s_one st
  have HB : Hid (blockS st b = List.zipWith a32 st (roundsS (wordsS b 64) st 64)) := rfl
  have HHH := Lib.hid hh
  clear hwl hsw hh
  generalize blockS st b = B at *
  go_enter Try.func14, Try.ntmps14
  go_wp2_with fail
  refine (words_any A cap b _ hl hr hx).mono ?_
  rintro e w1 ⟨rfl, hb1⟩
  generalize wordsS b 64 = ws at *
  clear hl hr hx
  go_wp2_with fail
  refine (rounds_any _).mono ?_
  rintro e w2 ⟨rfl, hb2⟩
  have hgl := hg.lt
  have hg2 := (hg.below hb1).below hb2
  have kp2 := (Keeps.of_below (S := []) hb1).trans (Keeps.of_below (S := []) hb2)
  clear hg hb1 hb2
  go_wp2_with (first
    | (refine wpList_store_blk rfl 47 (.tmp 4) (.tmp 14) rfl w2.heap.size 47 _ (u32s ws) rfl rfl ((Blk.new w2 _ _).alloc _) HSW.out hiw.out how ?_; intro w3 hB3 hk3)
    | (refine wpList_store_blk rfl 47 (.tmp 5) (.tmp 15) rfl (w2.heap.size + 1) 47 _ (u32s keysS) rfl rfl ((Blk.newAt (w2.alloc _) _ _ _ (by simp)).keeps hk3 (by simp)) rfl info64 (u32s_one _) ?_; intro w4 hB4 hk4)
    | (refine wpList_load_blk rfl 39 (.tmp 17) rfl g rfl 39 (u32s st) _ (((((hg2.alloc _).alloc _).keeps hk3 (by have := hg2.lt; simp; omega)).keeps hk4 (by have := hg2.lt; simp; omega))) Try.underlying39 rfl hih.out ?_)
    | (refine wpList_store_blk rfl 39 (.tmp 6) (.tmp 18) rfl w4.heap.size 39 _ (u32s st) rfl rfl (Blk.new w4 _ _) ((u32s_size st).trans HHH.out) hih.out hoh ?_; intro w5 hV hk5))
  have l2 := hg2.lt
  have l3 := hB3.lt
  have l4 := hB4.lt
  have s3 : w2.heap.size + 1 < w3.heap.size := by have := hk3.size; simp at this; omega
  have s4 := hk4.size
  have hW : Blk w5 w2.heap.size 47 (u32s ws) := ((hB3.keeps hk4 (by simp)).alloc _).keeps hk5 (by simp; omega)
  have hK : Blk w5 (w2.heap.size + 1) 47 (u32s keysS) := (hB4.alloc _).keeps hk5 (by simp; omega)
  have hG : Blk w5 g 39 (u32s st) := ((((((hg2.alloc _).alloc _).keeps hk3 (by simp; omega)).keeps hk4 (by simp; omega))).alloc _).keeps hk5 (by simp; omega)
  have kp5 : Keeps [] w w5 := (((((kp2.alloc _).alloc _).trans' hk3 (by have := kp2.size; simp; omega)).trans' hk4 (by have := kp2.size; simp; omega)).alloc _).trans' hk5 (by have := kp2.size; simp; omega)
  have hgv : g ≠ w4.heap.size := by omega
  have hgw : w2.heap.size ≠ w4.heap.size := by omega
  have hgk : w2.heap.size + 1 ≠ w4.heap.size := by omega
  have hlv : w.heap.size ≤ w4.heap.size := by have := kp2.size; omega
  clear l2 l3 l4 s3 s4 hk3 hk4 hk5 hB3 hB4 hg2 kp2
  generalize w4.heap.size = gv at *
  generalize w2.heap.size = gw at *
  clear hiw hih how hoh HSW
  go_loopw [19] (fun i wr => ∃ k : Nat, k ≤ 64 ∧ i = .int .i64 k ∧ Blk wr gw 47 (u32s ws) ∧ Blk wr (gw + 1) 47 (u32s keysS) ∧ Blk wr gv 39 (u32s (roundsS ws st k)) ∧ Blk wr g 39 (u32s st) ∧ Keeps [] w wr) (fun i _ => 64 - (intOf i).toNat)
  case atStart => exact ⟨0, by omega, rfl, hW, hK, hV, hG, kp5⟩
  case round =>
    clear hW hK hV hG kp5
    obtain ⟨k, hk, rfl, hW, hK, hV, hG, kp⟩ := hrel
    by_cases hlt : k < 64
    · have hw : roundsS ws st (k + 1) = roundS (keysS.getD k 0) (ws.getD k 0) (roundsS ws st k) := rfl
      obtain ⟨va, vb, vc, vd, ve, vf, vg, vh, hv⟩ := len8 (roundsS_len ws st HHH.out k)
      rw [hv] at hw hV
      have HW := Lib.hid hw
      clear hw hv
      have cw : wr.cell? ⟨gw, k, none⟩ = some (.int .u32 ((ws.getD k 0 : Nat) : Int)) := by rw [hW.cell, u32s_get (by rw [HWL.out]; exact hlt)]
      have ck : wr.cell? ⟨gw + 1, k, none⟩ = some (.int .u32 ((keysS.getD k 0 : Nat) : Int)) := by rw [hK.cell, u32s_get (by rw [hk0]; exact hlt)]
      have hC : ∀ w' : World, Blk w' gv 39 (u32s [va, vb, vc, vd, ve, vf, vg, vh]) →
          w'.cell? ⟨gv, 0, none⟩ = some (.int .u32 (va : Int)) ∧ w'.cell? ⟨gv, 1, none⟩ = some (.int .u32 (vb : Int)) ∧ w'.cell? ⟨gv, 2, none⟩ = some (.int .u32 (vc : Int)) ∧ w'.cell? ⟨gv, 3, none⟩ = some (.int .u32 (vd : Int)) ∧
          w'.cell? ⟨gv, 4, none⟩ = some (.int .u32 (ve : Int)) ∧ w'.cell? ⟨gv, 5, none⟩ = some (.int .u32 (vf : Int)) ∧ w'.cell? ⟨gv, 6, none⟩ = some (.int .u32 (vg : Int)) ∧ w'.cell? ⟨gv, 7, none⟩ = some (.int .u32 (vh : Int)) :=
        fun w' h => ⟨h.cell 0, h.cell 1, h.cell 2, h.cell 3, h.cell 4, h.cell 5, h.cell 6, h.cell 7⟩
      have HC := Lib.hid hC
      clear hC
      obtain ⟨c0, c1, c2, c3, c4, c5, c6, c7⟩ := HC.out wr hV
      have r0 : (k : Int) < 64 := by omega
      have r1 : (0 : Int) ≤ (k : Int) := by omega
      generalize ws.getD k 0 = xw at *
      generalize keysS.getD k 0 = xk at *
      go_wp2_with fail
      go_quiet ((go_at_call 20; exact Calls.quiet_of_same (rotv_q _ _ (by unfold RotOk; decide) _)))
      replace hW := hW.drewN nq
      replace hK := hK.drewN nq
      replace hV := hV.drewN nq
      replace hG := hG.drewN nq
      replace kp := kp.drewN nq
      replace cw : ((wr).drewN nq).cell? ⟨gw, k, none⟩ = some (.int .u32 (xw : Int)) := cw
      replace ck : ((wr).drewN nq).cell? ⟨gw + 1, k, none⟩ = some (.int .u32 (xk : Int)) := ck
      clear c0 c1 c2 c3 c4 c5 c6 c7
      generalize (wr).drewN nq = w6 at *
      clear nq
      obtain ⟨c0, c1, c2, c3, c4, c5, c6, c7⟩ := HC.out w6 hV
      go_wp2_with fail
      go_quiet (fail)
      replace hW := hW.drewN nq
      replace hK := hK.drewN nq
      replace hV := hV.drewN nq
      replace hG := hG.drewN nq
      replace kp := kp.drewN nq
      replace cw : ((w6).drewN nq).cell? ⟨gw, k, none⟩ = some (.int .u32 (xw : Int)) := cw
      replace ck : ((w6).drewN nq).cell? ⟨gw + 1, k, none⟩ = some (.int .u32 (xk : Int)) := ck
      clear c0 c1 c2 c3 c4 c5 c6 c7
      generalize (w6).drewN nq = w7 at *
      clear nq
      obtain ⟨c0, c1, c2, c3, c4, c5, c6, c7⟩ := HC.out w7 hV
      go_wp2_with fail
      go_quiet ((go_at_call 20; exact Calls.quiet_of_same (rotv_q _ _ (by unfold RotOk; decide) _)))
      replace hW := hW.drewN nq
      replace hK := hK.drewN nq
      replace hV := hV.drewN nq
      replace hG := hG.drewN nq
      replace kp := kp.drewN nq
      replace cw : ((w7).drewN nq).cell? ⟨gw, k, none⟩ = some (.int .u32 (xw : Int)) := cw
      replace ck : ((w7).drewN nq).cell? ⟨gw + 1, k, none⟩ = some (.int .u32 (xk : Int)) := ck
      clear c0 c1 c2 c3 c4 c5 c6 c7
      generalize (w7).drewN nq = w8 at *
      clear nq
      obtain ⟨c0, c1, c2, c3, c4, c5, c6, c7⟩ := HC.out w8 hV
      have f0 := hV.frozen 0
      have f1 := hV.frozen 1
      have f2 := hV.frozen 2
      have f3 := hV.frozen 3
      have f4 := hV.frozen 4
      have f5 := hV.frozen 5
      have f6 := hV.frozen 6
      have f7 := hV.frozen 7
      go_wp2_with fail
      go_roundw
      case rel =>
        obtain ⟨hV8, hk9⟩ := round_store hV (a32 (sumE ve vf vg vh xk xw) (sumA va vb vc)) va vb vc (a32 vd (sumE ve vf vg vh xk xw)) ve vf vg
        rw [← roundS_eq, ← HW.out] at hV8
        unfold sumE sumA at hV8 hk9
        clear HC f0 f1 f2 f3 f4 f5 f6 f7 c0 c1 c2 c3 c4 c5 c6 c7 cw ck
        simp only [a32_e2, a32_e3]
        exact ⟨k + 1, by omega, by go_num, hW.keeps hk9 (by simpa using hgw), hK.keeps hk9 (by simpa using hgk), hV8, hG.keeps hk9 (by simpa using hgv), kp.trans' hk9 (by simpa using hlv)⟩
      case measure => simp [intOf]; omega
    · obtain rfl : k = 64 := by omega
      rw [show ((64 : Nat) : Int) = 64 from rfl]
      have hv := roundsS_len ws st HHH.out 64
      have HV := Lib.hid hv
      clear hW hK hv
      generalize roundsS ws st 64 = v at *
      go_wp2_with fail
      generalize hwr : wr = w6 at *
      clear hwr
      go_loopw [109] (fun i wr => ∃ k : Nat, k ≤ 8 ∧ i = .int .i64 k ∧ Blk wr gv 39 (u32s v) ∧ Blk wr g 39 (u32s (mixS st v k)) ∧ Keeps [g] w wr) (fun i _ => 8 - (intOf i).toNat)
      case atStart => exact ⟨0, by omega, rfl, hV, hG, kp.mono (by simp)⟩
      case round =>
        clear hV hG kp
        obtain ⟨k, hk, rfl, hV, hG, kp⟩ := hrel
        by_cases hlt : k < 8
        · have cs : wr.cell? ⟨g, k, none⟩ = some (.int .u32 ((st.getD k 0 : Nat) : Int)) := by rw [hG.cell, mixS_get HHH.out HV.out hlt]
          have cv : wr.cell? ⟨gv, k, none⟩ = some (.int .u32 ((v.getD k 0 : Nat) : Int)) := by rw [hV.cell, u32s_get (by rw [HV.out]; exact hlt)]
          have f0 := hG.frozen k
          have hS := hG.set k (.int .u32 ((a32 (st.getD k 0) (v.getD k 0) : Nat) : Int))
          rw [mixS_set HHH.out HV.out hlt] at hS
          generalize st.getD k 0 = xs at *
          generalize v.getD k 0 = xv at *
          have r0 : (k : Int) < 8 := by omega
          have r1 : (0 : Int) ≤ (k : Int) := by omega
          go_wp2_with fail
          go_still_tail 11, (by kernel_rfl)
          go_wp2_with fail
          go_roundw
          case rel => exact ⟨k + 1, by omega, by go_num, (hV.far (p := ⟨g, k, none⟩) (by simpa using hgv.symm) _).drew, hS.drew, (kp.setCell (p := ⟨g, k, none⟩) _ (by simp)).drew⟩
          case measure => simp [intOf]; omega
        · obtain rfl : k = 8 := by omega
          rw [mixS_all HHH.out HV.out, ← HB.out] at hG
          go_wp2_with fail
          go_end0
          exact ⟨rfl, hG, kp⟩
end Go.Proofs.Ytkdkmnemmenikaa
