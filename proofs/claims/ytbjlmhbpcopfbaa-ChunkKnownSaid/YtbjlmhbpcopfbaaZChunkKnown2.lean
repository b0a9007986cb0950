/- Joined: ShaC, LaysJ, Join, ShaD, TyP, XorP, SetB, WordP, PlaceC, PlaceD, R1Keys, R1Block, R1Xor, App, Still, SumW, R1Of, PlaceE, PlaceF, PlaceG, TabP, XorA, TabA, SetA, CmpP, Cmp, R1Cmp, SetC, SetD, SetE, LaysS, SetF, SetG, SetP, SetH, SetI, SetJ, ChunkA, ChunkB, SetK, ChunkC, TyO, TyFz, Str, ChunkD, CutE, CutF, CutG, CutH, CutI, CutJ, CutK, ChunkP, ChunkE, ChunkH, SetR, SetL, SetM, SetS, ChunkI, ChunkG, ChunkJ, Row, Row2, RowS, RowB. -/
import Derived.Test.YtbjlmhbpcopfbaaProg
import Derived.Shelf.Bytes.SlJoin
import Derived.KernelRfl
import Derived.IntWalk
import Derived.Lib.TrailingZeros
import Derived.Shelf.Spec.TrailingZeros
import Derived.StillTailTactics
import Derived.WalkLawsBesides
import Derived.Lib.Hide
import Derived.Lib.Bytealg
import Derived.Lib.BytesEntry
import Derived.Deep.QuietTactic
import Derived.BigQuiet
import Derived.Shelf.SlGeneric
import Derived.Shelf.SlSortCmp.NoneTotal
import Derived.Ground.SlsfProg
import Derived.Laws.IdiomStrings
import Derived.Laws.BytesArg
import Derived.Deep.OwnRows
import Derived.ProofKit
import Derived.OpenShut
import Derived.ShutString
import Derived.ChangeOld
import Derived.SizedLaws
import Derived.ChangeSlices
import Derived.Carry
import Derived.Deep.Slices
import Derived.ChangeSame
import Derived.Test.YtbjlmhbpcopfbaaZChunkKnown1
/- Walks: package sum's rounds, begin, take. -/
namespace Go.Proofs.Ytbjlmhbpcopfbaa
open Go.RowKit

set_option maxRecDepth 100000 in
theorem u32s_one (l : List Nat) : (u32s l).all (·.oneCell') = true := by
  unfold u32s; rw [Array.all_eq_true_iff_forall_mem]; intro v hv; simp at hv; obtain ⟨x, _, rfl⟩ := hv; rfl
theorem info64 : (Try.prog.info? 92).map (·.size) = some 64 := by kernel_rfl
set_option maxRecDepth 100000 in
theorem info8 : (Try.prog.info? 74).map (·.size) = some 8 := by kernel_rfl

theorem keys_lit : u32s keysS = #[.int .u32 1116352408, .int .u32 1899447441, .int .u32 3049323471, .int .u32 3921009573, .int .u32 961987163, .int .u32 1508970993, .int .u32 2453635748, .int .u32 2870763221, .int .u32 3624381080, .int .u32 310598401, .int .u32 607225278, .int .u32 1426881987, .int .u32 1925078388, .int .u32 2162078206, .int .u32 2614888103, .int .u32 3248222580, .int .u32 3835390401, .int .u32 4022224774, .int .u32 264347078, .int .u32 604807628, .int .u32 770255983, .int .u32 1249150122, .int .u32 1555081692, .int .u32 1996064986, .int .u32 2554220882, .int .u32 2821834349, .int .u32 2952996808, .int .u32 3210313671, .int .u32 3336571891, .int .u32 3584528711, .int .u32 113926993, .int .u32 338241895, .int .u32 666307205, .int .u32 773529912, .int .u32 1294757372, .int .u32 1396182291, .int .u32 1695183700, .int .u32 1986661051, .int .u32 2177026350, .int .u32 2456956037, .int .u32 2730485921, .int .u32 2820302411, .int .u32 3259730800, .int .u32 3345764771, .int .u32 3516065817, .int .u32 3600352804, .int .u32 4094571909, .int .u32 275423344, .int .u32 430227734, .int .u32 506948616, .int .u32 659060556, .int .u32 883997877, .int .u32 958139571, .int .u32 1322822218, .int .u32 1537002063, .int .u32 1747873779, .int .u32 1955562222, .int .u32 2024104815, .int .u32 2227730452, .int .u32 2361852424, .int .u32 2428436474, .int .u32 2756734187, .int .u32 3204031479, .int .u32 3329325298] := by kernel_rfl
set_option maxRecDepth 100000 in
theorem begin_lit : u32s beginS = #[.int .u32 1779033703, .int .u32 3144134277, .int .u32 1013904242, .int .u32 2773480762, .int .u32 1359893119, .int .u32 2600822924, .int .u32 528734635, .int .u32 1541459225] := by kernel_rfl
theorem one_keys : (u32s keysS).all (·.oneCell') = true := u32s_one _
theorem one_begin : (u32s beginS).all (·.oneCell') = true := u32s_one _
set_option maxRecDepth 100000 in
set_option maxHeartbeats 1000000 in
theorem rounds_any (w : World) :
    Calls Try.prog 50 #[] w fun e w' => e = .returned (.agg (u32s keysS)) ∧ Below w.heap.size w w' := by
  have h1 := one_keys
  have h2 := u32s_size keysS
  rw [keys_lit] at h1 h2 ⊢
  go_enter Try.func50, Try.ntmps50
  go_wp2_with (refine wpList_store_blk rfl 92 (.tmp 0) (.tmp 1) rfl w.heap.size 92 _ _ rfl rfl (Blk.new w _ _) rfl info64 h1 ?_; intro w' hB' hk')
  refine post_blk rfl rfl w.heap.size 92 _ _ rfl hB' Try.underlying92 rfl info64 ⟨rfl, ?_⟩
  exact (((Keeps.refl [] w).alloc _).trans' hk' (by simp)).below

set_option maxRecDepth 100000 in
theorem begin_any (w : World) :
    Calls Try.prog 32 #[] w fun e w' => e = .returned (.agg (u32s beginS)) ∧ Below w.heap.size w w' := by
  have h1 := one_begin
  rw [begin_lit] at h1 ⊢
  go_enter Try.func32, Try.ntmps32
  go_wp2_with (refine wpList_store_blk rfl 74 (.tmp 0) (.tmp 1) rfl w.heap.size 74 _ _ rfl rfl (Blk.new w _ _) rfl info8 h1 ?_; intro w' hB' hk')
  refine post_blk rfl rfl w.heap.size 74 _ _ rfl hB' Try.underlying74 rfl info8 ⟨rfl, ?_⟩
  exact (((Keeps.refl [] w).alloc _).trans' hk' (by simp)).below

/-- s with the sums with v in its first k places. -/
def mixS (s v : List Nat) (k : Nat) : List Nat := (List.zipWith a32 s v).take k ++ s.drop k
set_option maxRecDepth 100000 in
theorem mixS_len {s v : List Nat} {k : Nat} (hs : s.length = 8) (hv : v.length = 8) (hk : k ≤ 8) : (mixS s v k).length = 8 := by
  unfold mixS; simp [hs, hv]; omega
theorem mixS_get {s v : List Nat} {k : Nat} (hs : s.length = 8) (hv : v.length = 8) (hk : k < 8) : (u32s (mixS s v k))[k]? = some (.int .u32 ((s.getD k 0 : Nat) : Int)) := by
  have hl : (List.take k (List.zipWith a32 s v)).length = k := by simp [hs, hv]; omega
  rw [u32s_get (by rw [mixS_len hs hv (by omega)]; exact hk)]
  unfold mixS
  rw [List.getD, List.getElem?_append_right (by omega), List.getElem?_drop, hl]
  simp [List.getD]
set_option maxRecDepth 100000 in
theorem mixS_set {s v : List Nat} {k : Nat} (hs : s.length = 8) (hv : v.length = 8) (hk : k < 8) : (u32s (mixS s v k)).setIfInBounds k (.int .u32 ((a32 (s.getD k 0) (v.getD k 0) : Nat) : Int)) = u32s (mixS s v (k + 1)) := by
  have hzl : (List.zipWith a32 s v).length = 8 := by simp [hs, hv]
  have hz : (List.zipWith a32 s v)[k]'(by omega) = a32 (s.getD k 0) (v.getD k 0) := by
    rw [List.getElem_zipWith]
    simp [List.getD, List.getElem?_eq_getElem (show k < s.length by omega), List.getElem?_eq_getElem (show k < v.length by omega)]
  unfold mixS
  rw [List.take_succ_eq_append_getElem (by omega), hz]
  generalize a32 (s.getD k 0) (v.getD k 0) = x at *
  clear hz
  generalize List.zipWith a32 s v = z at *
  have hd : s.drop k = s[k]'(by omega) :: s.drop (k + 1) := List.drop_eq_getElem_cons (by omega)
  rw [hd]
  unfold u32s
  simp only [List.map_append, List.map_cons, List.append_assoc, List.cons_append, List.nil_append]
  have hl : (List.map (fun (x : Nat) => Value.int .u32 (x : Int)) (z.take k)).length = k := by rw [List.length_map, List.length_take]; omega
  rw [List.setIfInBounds_toArray, List.set_append_right _ _ (by omega), hl, Nat.sub_self]
  rfl
set_option maxRecDepth 100000 in
theorem mixS_all {s v : List Nat} (hs : s.length = 8) (hv : v.length = 8) : mixS s v 8 = List.zipWith a32 s v := by
  unfold mixS
  rw [List.take_of_length_le (by simp [hs, hv]), List.drop_of_length_le (by omega), List.append_nil]

set_option maxRecDepth 100000 in
theorem len8 {l : List Nat} (h : l.length = 8) : ∃ a b c d e f g k, l = [a, b, c, d, e, f, g, k] := by
  match l, h with
  | [a, b, c, d, e, f, g, k], _ => exact ⟨a, b, c, d, e, f, g, k, rfl⟩

set_option maxRecDepth 100000 in
theorem round_store {w : World} {g : Nat} {t : TypeId} {a b c d e f h k : Nat} (hV : Blk w g t (u32s [a, b, c, d, e, f, h, k])) (x0 x1 x2 x3 x4 x5 x6 x7 : Nat) :
    Blk ((((((((w.setCell ⟨g, 0, none⟩ (.int .u32 x0)).setCell ⟨g, 1, none⟩ (.int .u32 x1)).setCell ⟨g, 2, none⟩ (.int .u32 x2)).setCell ⟨g, 3, none⟩ (.int .u32 x3)).setCell ⟨g, 4, none⟩ (.int .u32 x4)).setCell ⟨g, 5, none⟩ (.int .u32 x5)).setCell ⟨g, 6, none⟩ (.int .u32 x6)).setCell ⟨g, 7, none⟩ (.int .u32 x7)) g t (u32s [x0, x1, x2, x3, x4, x5, x6, x7]) ∧
    Keeps [g] w ((((((((w.setCell ⟨g, 0, none⟩ (.int .u32 x0)).setCell ⟨g, 1, none⟩ (.int .u32 x1)).setCell ⟨g, 2, none⟩ (.int .u32 x2)).setCell ⟨g, 3, none⟩ (.int .u32 x3)).setCell ⟨g, 4, none⟩ (.int .u32 x4)).setCell ⟨g, 5, none⟩ (.int .u32 x5)).setCell ⟨g, 6, none⟩ (.int .u32 x6)).setCell ⟨g, 7, none⟩ (.int .u32 x7)) := by
  constructor
  · have h := hV.setCells [.int .u32 x0, .int .u32 x1, .int .u32 x2, .int .u32 x3, .int .u32 x4, .int .u32 x5, .int .u32 x6, .int .u32 x7] 0
    rw [splice_all _ _ (by rw [u32s_size]; rfl)] at h
    have e : u32s [x0, x1, x2, x3, x4, x5, x6, x7] = [Value.int .u32 x0, .int .u32 x1, .int .u32 x2, .int .u32 x3, .int .u32 x4, .int .u32 x5, .int .u32 x6, .int .u32 x7].toArray := by simp [u32s]
    rw [e]
    simpa only [World.setCells, Nat.reduceAdd, Nat.zero_add] using h
  · have m : ∀ i, (⟨g, i, none⟩ : Addr).block ∈ [g] ∨ w.heap.size ≤ (⟨g, i, none⟩ : Addr).block := fun i => .inl (by simp)
    exact ((((((((Keeps.refl [g] w).setCell _ (m 0)).setCell _ (m 1)).setCell _ (m 2)).setCell _ (m 3)).setCell _ (m 4)).setCell _ (m 5)).setCell _ (m 6)).setCell _ (m 7)
set_option maxRecDepth 100000 in
theorem roundS_eq (k w a b c d e f g h : Nat) : roundS k w [a, b, c, d, e, f, g, h] = [a32 (sumE e f g h k w) (sumA a b c), a, b, c, a32 d (sumE e f g h k w), e, f, g] := rfl

set_option maxRecDepth 100000 in
set_option maxHeartbeats 4000000 in
theorem take_any (A : Option Addr) (cap g : Nat) (st b : List Nat) (w : World) (hh : st.length = 8) (hg : Blk w g 74 (u32s st)) (hl : b.length = 64) (hr : Rd w A (b.map bv)) (hx : ∀ x ∈ b, x < 256) :
    Calls Try.prog 33 #[.pointer (some ⟨g, 0, none⟩), .slice A 64 cap] w fun e w' => e = .returned (.tuple #[]) ∧ Blk w' g 74 (u32s (blockS st b)) ∧ Keeps [g] w w' := by
  have X := x32_eq
  have C := c32_eq
  have N := n32_eq
  have P1 := a32_eq
  have P2 := a32_eq'
  have hwl := wordsS_len b 64
  have HWL := Lib.hid hwl
  have hk0 : keysS.length = 64 := rfl
  have hsw := u32s_size (wordsS b 64)
  rw [hwl] at hsw
  have HSW := Lib.hid hsw
  have hiw := Lib.hid (info64.trans (congrArg some hsw.symm))
  have hih := Lib.hid (info8.trans (congrArg some ((u32s_size st).trans hh).symm))
  have how := u32s_one (wordsS b 64)
  have hoh := u32s_one st
  have HB : Hid (blockS st b = List.zipWith a32 st (roundsS (wordsS b 64) st 64)) := rfl
  have HHH := Lib.hid hh
  clear hwl hsw hh
  generalize blockS st b = B at *
  go_enter Try.func33, Try.ntmps33
  go_wp2_with fail
  refine (words_any A cap b _ hl hr hx).mono ?_
  rintro e w1 ⟨rfl, hb1⟩
  generalize wordsS b 64 = ws at *
  clear hl hr hx
  go_wp2_with fail
  refine (rounds_any _).mono ?_
  rintro e w2 ⟨rfl, hb2⟩
  have hgl := hg.lt
  have hg2 := (hg.below hb1).below hb2
  have kp2 := (Keeps.of_below (S := []) hb1).trans (Keeps.of_below (S := []) hb2)
  clear hg hb1 hb2
  go_wp2_with (first
    | (refine wpList_store_blk rfl 92 (.tmp 4) (.tmp 14) rfl w2.heap.size 92 _ (u32s ws) rfl rfl ((Blk.new w2 _ _).alloc _) HSW.out hiw.out how ?_; intro w3 hB3 hk3)
    | (refine wpList_store_blk rfl 92 (.tmp 5) (.tmp 15) rfl (w2.heap.size + 1) 92 _ (u32s keysS) rfl rfl ((Blk.newAt (w2.alloc _) _ _ _ (by simp)).keeps hk3 (by simp)) rfl info64 (u32s_one _) ?_; intro w4 hB4 hk4)
    | (refine wpList_load_blk rfl 74 (.tmp 17) rfl g rfl 74 (u32s st) _ (((((hg2.alloc _).alloc _).keeps hk3 (by have := hg2.lt; simp; omega)).keeps hk4 (by have := hg2.lt; simp; omega))) Try.underlying74 rfl hih.out ?_)
    | (refine wpList_store_blk rfl 74 (.tmp 6) (.tmp 18) rfl w4.heap.size 74 _ (u32s st) rfl rfl (Blk.new w4 _ _) ((u32s_size st).trans HHH.out) hih.out hoh ?_; intro w5 hV hk5))
  have l2 := hg2.lt
  have l3 := hB3.lt
  have l4 := hB4.lt
  have s3 : w2.heap.size + 1 < w3.heap.size := by have := hk3.size; simp at this; omega
  have s4 := hk4.size
  have hW : Blk w5 w2.heap.size 92 (u32s ws) := ((hB3.keeps hk4 (by simp)).alloc _).keeps hk5 (by simp; omega)
  have hK : Blk w5 (w2.heap.size + 1) 92 (u32s keysS) := (hB4.alloc _).keeps hk5 (by simp; omega)
  have hG : Blk w5 g 74 (u32s st) := ((((((hg2.alloc _).alloc _).keeps hk3 (by simp; omega)).keeps hk4 (by simp; omega))).alloc _).keeps hk5 (by simp; omega)
  have kp5 : Keeps [] w w5 := (((((kp2.alloc _).alloc _).trans' hk3 (by have := kp2.size; simp; omega)).trans' hk4 (by have := kp2.size; simp; omega)).alloc _).trans' hk5 (by have := kp2.size; simp; omega)
  have hgv : g ≠ w4.heap.size := by omega
  have hgw : w2.heap.size ≠ w4.heap.size := by omega
  have hgk : w2.heap.size + 1 ≠ w4.heap.size := by omega
  have hlv : w.heap.size ≤ w4.heap.size := by have := kp2.size; omega
  clear l2 l3 l4 s3 s4 hk3 hk4 hk5 hB3 hB4 hg2 kp2
  generalize w4.heap.size = gv at *
  generalize w2.heap.size = gw at *
  clear hiw hih how hoh HSW
  go_loopw [19] (fun i wr => ∃ k : Nat, k ≤ 64 ∧ i = .int .i64 k ∧ Blk wr gw 92 (u32s ws) ∧ Blk wr (gw + 1) 92 (u32s keysS) ∧ Blk wr gv 74 (u32s (roundsS ws st k)) ∧ Blk wr g 74 (u32s st) ∧ Keeps [] w wr) (fun i _ => 64 - (intOf i).toNat)
  case atStart => exact ⟨0, by omega, rfl, hW, hK, hV, hG, kp5⟩
  case round =>
    clear hW hK hV hG kp5
    obtain ⟨k, hk, rfl, hW, hK, hV, hG, kp⟩ := hrel
    by_cases hlt : k < 64
    · have hw : roundsS ws st (k + 1) = roundS (keysS.getD k 0) (ws.getD k 0) (roundsS ws st k) := rfl
      obtain ⟨va, vb, vc, vd, ve, vf, vg, vh, hv⟩ := len8 (roundsS_len ws st HHH.out k)
      rw [hv] at hw hV
      have HW := Lib.hid hw
      clear hw hv
      have cw : wr.cell? ⟨gw, k, none⟩ = some (.int .u32 ((ws.getD k 0 : Nat) : Int)) := by rw [hW.cell, u32s_get (by rw [HWL.out]; exact hlt)]
      have ck : wr.cell? ⟨gw + 1, k, none⟩ = some (.int .u32 ((keysS.getD k 0 : Nat) : Int)) := by rw [hK.cell, u32s_get (by rw [hk0]; exact hlt)]
      have hC : ∀ w' : World, Blk w' gv 74 (u32s [va, vb, vc, vd, ve, vf, vg, vh]) →
          w'.cell? ⟨gv, 0, none⟩ = some (.int .u32 (va : Int)) ∧ w'.cell? ⟨gv, 1, none⟩ = some (.int .u32 (vb : Int)) ∧ w'.cell? ⟨gv, 2, none⟩ = some (.int .u32 (vc : Int)) ∧ w'.cell? ⟨gv, 3, none⟩ = some (.int .u32 (vd : Int)) ∧
          w'.cell? ⟨gv, 4, none⟩ = some (.int .u32 (ve : Int)) ∧ w'.cell? ⟨gv, 5, none⟩ = some (.int .u32 (vf : Int)) ∧ w'.cell? ⟨gv, 6, none⟩ = some (.int .u32 (vg : Int)) ∧ w'.cell? ⟨gv, 7, none⟩ = some (.int .u32 (vh : Int)) :=
        fun w' h => ⟨h.cell 0, h.cell 1, h.cell 2, h.cell 3, h.cell 4, h.cell 5, h.cell 6, h.cell 7⟩
      have HC := Lib.hid hC
      clear hC
      obtain ⟨c0, c1, c2, c3, c4, c5, c6, c7⟩ := HC.out wr hV
      have r0 : (k : Int) < 64 := by omega
      have r1 : (0 : Int) ≤ (k : Int) := by omega
      generalize ws.getD k 0 = xw at *
      generalize keysS.getD k 0 = xk at *
      go_wp2_with fail
      go_quiet ((go_at_call 51; exact Calls.quiet_of_same (rotv_q _ _ (by unfold RotOk; decide) _)))
      replace hW := hW.drewN nq
      replace hK := hK.drewN nq
      replace hV := hV.drewN nq
      replace hG := hG.drewN nq
      replace kp := kp.drewN nq
      replace cw : ((wr).drewN nq).cell? ⟨gw, k, none⟩ = some (.int .u32 (xw : Int)) := cw
      replace ck : ((wr).drewN nq).cell? ⟨gw + 1, k, none⟩ = some (.int .u32 (xk : Int)) := ck
      clear c0 c1 c2 c3 c4 c5 c6 c7
      generalize (wr).drewN nq = w6 at *
      clear nq
      obtain ⟨c0, c1, c2, c3, c4, c5, c6, c7⟩ := HC.out w6 hV
      go_wp2_with fail
      go_quiet (fail)
      replace hW := hW.drewN nq
      replace hK := hK.drewN nq
      replace hV := hV.drewN nq
      replace hG := hG.drewN nq
      replace kp := kp.drewN nq
      replace cw : ((w6).drewN nq).cell? ⟨gw, k, none⟩ = some (.int .u32 (xw : Int)) := cw
      replace ck : ((w6).drewN nq).cell? ⟨gw + 1, k, none⟩ = some (.int .u32 (xk : Int)) := ck
      clear c0 c1 c2 c3 c4 c5 c6 c7
      generalize (w6).drewN nq = w7 at *
      clear nq
      obtain ⟨c0, c1, c2, c3, c4, c5, c6, c7⟩ := HC.out w7 hV
      go_wp2_with fail
      go_quiet ((go_at_call 51; exact Calls.quiet_of_same (rotv_q _ _ (by unfold RotOk; decide) _)))
      replace hW := hW.drewN nq
      replace hK := hK.drewN nq
      replace hV := hV.drewN nq
      replace hG := hG.drewN nq
      replace kp := kp.drewN nq
      replace cw : ((w7).drewN nq).cell? ⟨gw, k, none⟩ = some (.int .u32 (xw : Int)) := cw
      replace ck : ((w7).drewN nq).cell? ⟨gw + 1, k, none⟩ = some (.int .u32 (xk : Int)) := ck
      clear c0 c1 c2 c3 c4 c5 c6 c7
      generalize (w7).drewN nq = w8 at *
      clear nq
      obtain ⟨c0, c1, c2, c3, c4, c5, c6, c7⟩ := HC.out w8 hV
      have f0 := hV.frozen 0
      have f1 := hV.frozen 1
      have f2 := hV.frozen 2
      have f3 := hV.frozen 3
      have f4 := hV.frozen 4
      have f5 := hV.frozen 5
      have f6 := hV.frozen 6
      have f7 := hV.frozen 7
      go_wp2_with fail
      go_roundw
      case rel =>
        obtain ⟨hV8, hk9⟩ := round_store hV (a32 (sumE ve vf vg vh xk xw) (sumA va vb vc)) va vb vc (a32 vd (sumE ve vf vg vh xk xw)) ve vf vg
        rw [← roundS_eq, ← HW.out] at hV8
        unfold sumE sumA at hV8 hk9
        clear HC f0 f1 f2 f3 f4 f5 f6 f7 c0 c1 c2 c3 c4 c5 c6 c7 cw ck
        simp only [a32_e2, a32_e3]
        exact ⟨k + 1, by omega, by go_num, hW.keeps hk9 (by simpa using hgw), hK.keeps hk9 (by simpa using hgk), hV8, hG.keeps hk9 (by simpa using hgv), kp.trans' hk9 (by simpa using hlv)⟩
      case measure => simp [intOf]; omega
    · obtain rfl : k = 64 := by omega
      rw [show ((64 : Nat) : Int) = 64 from rfl]
      have hv := roundsS_len ws st HHH.out 64
      have HV := Lib.hid hv
      clear hW hK hv
      generalize roundsS ws st 64 = v at *
      go_wp2_with fail
      generalize hwr : wr = w6 at *
      clear hwr
      go_loopw [109] (fun i wr => ∃ k : Nat, k ≤ 8 ∧ i = .int .i64 k ∧ Blk wr gv 74 (u32s v) ∧ Blk wr g 74 (u32s (mixS st v k)) ∧ Keeps [g] w wr) (fun i _ => 8 - (intOf i).toNat)
      case atStart => exact ⟨0, by omega, rfl, hV, hG, kp.mono (by simp)⟩
      case round =>
        clear hV hG kp
        obtain ⟨k, hk, rfl, hV, hG, kp⟩ := hrel
        by_cases hlt : k < 8
        · have cs : wr.cell? ⟨g, k, none⟩ = some (.int .u32 ((st.getD k 0 : Nat) : Int)) := by rw [hG.cell, mixS_get HHH.out HV.out hlt]
          have cv : wr.cell? ⟨gv, k, none⟩ = some (.int .u32 ((v.getD k 0 : Nat) : Int)) := by rw [hV.cell, u32s_get (by rw [HV.out]; exact hlt)]
          have f0 := hG.frozen k
          have hS := hG.set k (.int .u32 ((a32 (st.getD k 0) (v.getD k 0) : Nat) : Int))
          rw [mixS_set HHH.out HV.out hlt] at hS
          generalize st.getD k 0 = xs at *
          generalize v.getD k 0 = xv at *
          have r0 : (k : Int) < 8 := by omega
          have r1 : (0 : Int) ≤ (k : Int) := by omega
          go_wp2_with fail
          go_still_tail 11, (by kernel_rfl)
          go_wp2_with fail
          go_roundw
          case rel => exact ⟨k + 1, by omega, by go_num, (hV.far (p := ⟨g, k, none⟩) (by simpa using hgv.symm) _).drew, hS.drew, (kp.setCell (p := ⟨g, k, none⟩) _ (by simp)).drew⟩
          case measure => simp [intOf]; omega
        · obtain rfl : k = 8 := by omega
          rw [mixS_all HHH.out HV.out, ← HB.out] at hG
          go_wp2_with fail
          go_end0
          exact ⟨rfl, hG, kp⟩
end Go.Proofs.Ytbjlmhbpcopfbaa

/- The library's contracts, laid at this translation. -/
namespace Go.Proofs.Ytbjlmhbpcopfbaa
open Go.RowKit Go.Shelf

def laysSlJ14_ren : Go.Shelf.Ren := ⟨fun | 14 => 31 | 15 => 48 | n => n, fun | 26 => 57 | 22 => 22 | 3 => 3 | 4 => 4 | 0 => 0 | 9 => 9 | 20 => 20 | 5 => 5 | n => n, fun | n => n⟩
theorem laysSlJ14 : Go.Proofs.SlLaysJ.n14 Try.prog laysSlJ14_ren := {
  mixed := by kernel_rfl
  f14 := Try.func31.trans (congrArg some (by kernel_rfl))
  f15 := Try.func48.trans (congrArg some (by kernel_rfl))
  t0 := Try.underlying0
  a0 := Try.isAgg0
  z0 := Try.sizeOf0
  v0 := Try.zeroValue0
  t3 := Try.underlying3
  a3 := Try.isAgg3
  z3 := Try.sizeOf3
  v3 := Try.zeroValue3
  t4 := Try.underlying4
  a4 := Try.isAgg4
  z4 := Try.sizeOf4
  v4 := Try.zeroValue4
  t9 := Try.underlying9
  a9 := Try.isAgg9
  z9 := Try.sizeOf9
  v9 := Try.zeroValue9
  t20 := Try.underlying20
  a20 := Try.isAgg20
  z20 := Try.sizeOf20
  v20 := Try.zeroValue20
  t22 := Try.underlying22
  a22 := Try.isAgg22
  z22 := Try.sizeOf22
  v22 := Try.zeroValue22
  t26 := Try.underlying57
  a26 := Try.isAgg57
  z26 := Try.sizeOf57
  v26 := Try.zeroValue57
  t5 := Try.underlying5
  z5 := Try.sizeOf5
  i5 := by kernel_rfl }
end Go.Proofs.Ytbjlmhbpcopfbaa

/- bytes.Join without a separator, out of the library's contract: what it returns is a slice of the call's own. -/
namespace Go.Proofs.Ytbjlmhbpcopfbaa
open Go.RowKit

def bytesU (l : List Nat) : List UInt8 := l.map UInt8.ofNat
theorem bytesU_len (l : List Nat) : (bytesU l).length = l.length := by simp [bytesU]
theorem u8_toNat {x : Nat} (h : x < 256) : (UInt8.ofNat x).toNat = x := by simp [UInt8.toNat_ofNat']; omega

/-- The cells of block b from o on hold slices of the bytes ls. -/
def Parts (w : World) (b o : Nat) (ls : List (List Nat)) : Prop :=
  ∀ i l, ls[i]? = some l → ∃ A cap, w.cell? ⟨b, o + i, none⟩ = some (.slice A l.length cap) ∧ Rd w A (l.map bv) ∧ (A = none → l = []) ∧ ∀ x ∈ l, x < 256

theorem own_fresh {B : Nat} {w : World} {v : Value} {l : List Nat} (h : Lib.FreshBytes B w v (bytesU l)) (hl : ∀ x ∈ l, x < 256) :
    ∃ S, Own w 1 v l.length (l.map bv) S ∧ ∀ x ∈ S, B ≤ x := by
  obtain ⟨g, cap, zs, rfl, hB, hlc, hm, hzl, hz, hb, hc, hf⟩ := h
  rw [bytesU_len] at hlc hb ⊢
  rcases Nat.eq_zero_or_pos cap with h0 | h0
  · subst h0
    have : l = [] := List.eq_nil_of_length_eq_zero (by omega)
    subst this
    exact ⟨[], ⟨by simp, .inl ⟨_, rfl, rfl, rfl⟩⟩, by simp⟩
  · refine ⟨[g], ⟨by simp, .inr ⟨g, 0, cap, rfl, rfl, hlc, hm, World.block_lt_of_cell? w _ (hc 0 h0), fun j hj => ?_, fun j u hu => ?_⟩⟩, by simpa using hB⟩
    · rw [Nat.zero_add]
      exact ⟨by rw [hc j (by omega)]; rfl, hf j (by omega)⟩
    · rw [Nat.zero_add]
      rw [List.getElem?_map] at hu
      obtain ⟨x, hx, rfl⟩ := Option.map_eq_some_iff.1 hu
      obtain ⟨hj, rfl⟩ := List.getElem?_eq_some_iff.1 hx
      rw [hc j (by omega)]
      have e := congrArg (fun z : List UInt8 => z[j]?) hb
      simp only [Lib.bytesOf, bytesU, List.getElem?_map, List.getElem?_take, if_pos hj, List.getElem?_eq_getElem hj, List.getElem?_eq_getElem (show j < zs.length by omega), Option.map_some, Option.some.injEq] at e
      have e2 := congrArg UInt8.toNat e
      have hzj := hz zs[j] (List.getElem_mem _)
      rw [u8_toNat (hl _ (List.getElem_mem _)), u8_toNat (by omega)] at e2
      simp only [bv, List.getD, List.getElem?_eq_getElem (show j < zs.length by omega), Option.getD_some]
      congr 2
      omega

theorem holdsB {w : World} {A : Option Addr} {cap : Nat} {l : List Nat} (hr : Rd w A (l.map bv)) (hA : A = none → l = []) (hx : ∀ x ∈ l, x < 256) :
    Lib.HoldsBytes w (.slice A l.length cap) (bytesU l) := by
  refine ⟨A, cap, by rw [bytesU_len], fun h => by rw [hA h]; rfl, fun a ha i x hi => ?_⟩
  subst ha
  unfold bytesU at hi
  rw [List.getElem?_map] at hi
  obtain ⟨y, hy, rfl⟩ := Option.map_eq_some_iff.1 hi
  obtain ⟨ad, e, h⟩ := hr i (bv y) (by rw [List.getElem?_map, hy]; rfl)
  injection e with e
  subst e
  rw [h, u8_toNat (hx y (List.mem_of_getElem? hy))]
  rfl

theorem flatten_bytesU (ls : List (List Nat)) : (ls.map bytesU).flatten = bytesU ls.flatten := by
  unfold bytesU
  rw [List.map_flatten]

theorem lens_eq (ls : List (List Nat)) : Lib.lens (ls.map bytesU) = ls.flatten.length := by
  unfold Lib.lens
  rw [List.map_map, List.length_flatten]
  congr 1
  apply List.map_congr_left
  intro l _
  simp [bytesU]

theorem intercalate_nil (ls : List (List UInt8)) : ([] : List UInt8).intercalate ls = ls.flatten := by
  unfold List.intercalate
  induction ls with
  | nil => rfl
  | cons l ls ih =>
    cases ls with
    | nil => simp
    | cons l2 ls => simp only [List.intersperse_cons_cons, List.flatten_cons, List.nil_append] at ih ⊢; rw [ih]

theorem join_any (A : Option Addr) (b o n c : Nat) (ls : List (List Nat)) (w : World) (hn : ls.length = n) (hc : n ≤ c) (hA : n ≠ 0 → A = some ⟨b, o, none⟩) (hp : Parts w b o ls) (hlen : ls.flatten.length ≤ 70368744177664) (hn2 : n ≤ 140737488355328) :
    Calls Try.prog 31 #[.slice A n c, .slice none 0 0] w fun e w' => ∃ v S, e = .returned v ∧ Own w' 1 v ls.flatten.length (ls.flatten.map bv) S ∧ Below w.heap.size w w' ∧ ∀ x ∈ S, w.heap.size ≤ x := by
  have hlt : ∀ x ∈ ls.flatten, x < 256 := by
    intro x hx
    obtain ⟨l, hl, hxl⟩ := List.mem_flatten.1 hx
    obtain ⟨i, hi⟩ := List.getElem?_of_mem hl
    obtain ⟨_, _, _, _, _, h⟩ := hp i l hi
    exact h x hxl
  match ls, hn with
  | [], hn =>
    subst hn
    have h := Any.bytes_Join_none laysSlJ14 A c (.slice none 0 0) w
    change Calls Try.prog 31 _ _ _ at h
    refine h.mono ?_
    rintro e w' ⟨rfl, rfl⟩
    exact ⟨_, [], rfl, ⟨by simp, .inl ⟨_, rfl, rfl, rfl⟩⟩, ((Keeps.refl [] w).alloc _).below, by simp⟩
  | [l], hn =>
    subst hn
    obtain rfl := hA (by simp)
    obtain ⟨Al, cl, hcell, hr, hnil, hx⟩ := hp 0 l rfl
    rw [Nat.add_zero] at hcell
    simp only [List.flatten_cons, List.flatten_nil, List.append_nil] at hlen hlt ⊢
    by_cases h0 : l = []
    · subst h0
      have h := Any.bytes_Join_one_empty laysSlJ14 b o c Al cl (.slice none 0 0) w hcell
      change Calls Try.prog 31 _ _ _ at h
      refine h.mono ?_
      rintro e w' ⟨rfl, rfl⟩
      exact ⟨_, [], rfl, Own.nil _ _, Below.refl _ _, by simp⟩
    · obtain ⟨ad, rfl⟩ : ∃ ad, Al = some ad := by
        cases Al with
        | none => exact absurd (hnil rfl) h0
        | some ad => exact ⟨ad, rfl⟩
      have h := Any.bytes_Join_one laysSlJ14 b o c ad cl (bytesU l) (.slice none 0 0) w (by rw [bytesU_len]; exact hcell)
        (fun i x hi => by
          obtain ⟨p, cap, e, _, h2⟩ := holdsB (cap := cl) hr hnil hx
          injection e with e1
          subst e1
          exact h2 ad rfl i x hi)
        (by rw [bytesU_len]; exact List.length_pos_iff.2 h0) (by rw [bytesU_len]; omega)
      change Calls Try.prog 31 _ _ _ at h
      refine h.mono ?_
      rintro e w' ⟨v, rfl, hf, hb⟩
      obtain ⟨S, h1, h2⟩ := own_fresh hf hlt
      exact ⟨v, S, rfl, h1, hb, h2⟩
  | l1 :: l2 :: r, hn =>
    obtain rfl := hA (by rw [← hn]; simp)
    generalize hls : l1 :: l2 :: r = ls at *
    have h2 : 2 ≤ n := by rw [← hn, ← hls]; simp
    have hP : Lib.PartsAt w ⟨b, o, none⟩ ((List.range ls.length).map fun i => (w.cell? ⟨b, o + i, none⟩).getD undef) (ls.map bytesU) := by
      refine ⟨by simp, fun i v hi => ?_, fun i v l hi hl => ?_⟩
      · rw [List.getElem?_map] at hi
        obtain ⟨j, hj, rfl⟩ := Option.map_eq_some_iff.1 hi
        obtain ⟨hj1, hj2⟩ := List.getElem?_eq_some_iff.1 hj
        simp at hj1 hj2
        subst hj2
        obtain ⟨A, cap, hcell, _⟩ := hp i ls[i] (List.getElem?_eq_getElem hj1)
        rw [Addr.add_lit, hcell]
        rfl
      · rw [List.getElem?_map] at hi hl
        obtain ⟨j, hj, rfl⟩ := Option.map_eq_some_iff.1 hi
        obtain ⟨hj1, hj2⟩ := List.getElem?_eq_some_iff.1 hj
        simp at hj1 hj2
        subst hj2
        obtain ⟨l', hl', rfl⟩ := Option.map_eq_some_iff.1 hl
        obtain ⟨A, cap, hcell, hr, hnil, hx⟩ := hp i l' hl'
        rw [hcell]
        exact holdsB hr hnil hx
    have h := Any.bytes_Join_many laysSlJ14 b o n c _ (ls.map bytesU) (.slice none 0 0) [] w (by simpa using hn) h2 hP hc ⟨none, 0, rfl, fun _ => rfl, by simp⟩ (by omega) (by rw [lens_eq, List.length_nil, Nat.zero_mul]; omega)
    change Calls Try.prog 31 _ _ _ at h
    refine h.mono ?_
    rintro e w' ⟨v, rfl, hf, hb⟩
    unfold Lib.join at hf
    rw [intercalate_nil, flatten_bytesU] at hf
    obtain ⟨S, h1, h2⟩ := own_fresh hf hlt
    exact ⟨v, S, rfl, h1, hb, h2⟩
end Go.Proofs.Ytbjlmhbpcopfbaa

/- The walk of sum.Of: its padding, its blocks, its bytes. -/
namespace Go.Proofs.Ytbjlmhbpcopfbaa
open Go.RowKit

/-- One byte that lies in a new block is appended. -/
theorem app_byte {ops : Array Oper} {rest : List Oper} {o : Oper} {a : Act} {w : World} {Q : Exit → Act → World → Prop} (hgd : o.guard = none) (s x : Operand)
    (ho : o.op = .call { callee := .builtin .append, args := #[s, x], argTypes := #[22, 22] })
    (v : Value) (n : Nat) (xs : List Value) (S : List Nat) (hs : a.eval s = v) (hseg : Own w 1 v n xs S)
    (g : Nat) (u : Int) (hx : a.eval x = .slice (some ⟨g, 0, none⟩) 1 1) (hc : w.cell? ⟨g, 0, none⟩ = some (.int .u8 u)) (hn : n + 1 ≤ 140737488355328)
    (h : ∀ A' c' w' S', Own w' 1 (.slice A' (n + 1) c') (n + 1) (xs ++ [.int .u8 u]) S' → Keeps S w w' → (S' = S ∨ S' = [w.heap.size]) → n + 1 ≤ c' → c' ≤ maxLen → wpList Try.prog ops Q rest (a.put o.dst (.slice A' (n + 1) c')) w') :
    wpList Try.prog ops Q (o :: rest) a w := by
  refine wpList_append_ownc w hgd s x 22 ho 5 (.int .u8 0) 1 1 Try.underlying22 (by kernel_rfl) rfl v n xs S hs hseg (some ⟨g, 0, none⟩) 1 1 [.int .u8 u] hx rfl ?_ (by simp) (by simp [Value.oneCell']) (by unfold maxLen; omega) (by omega) ?_
  · intro j z hz
    match j, hz with
    | 0, hz =>
      simp only [List.getElem?_cons_zero, Option.some.injEq] at hz
      subst hz
      exact ⟨_, rfl, by rw [Addr.add_lit]; exact hc⟩
  · intro v' w' S' h1 h2 h3
    obtain ⟨A', c', rfl, h4, h5, _⟩ := h1.form
    exact h A' c' w' S' h1 h2 h3 h4 h5

/-- The first m of thirty-two bytes; noughts behind. -/
def outS (r : List Nat) (m : Nat) : List Nat := r.take m ++ List.replicate (32 - m) 0
theorem outS_len {r : List Nat} {m : Nat} (hr : r.length = 32) (hm : m ≤ 32) : (outS r m).length = 32 := by simp [outS, hr]; omega
theorem outS_set {r : List Nat} {m : Nat} (hr : r.length = 32) (hm : m < 32) : (u8s (outS r m)).setIfInBounds m (.int .u8 ((r.getD m 0 : Nat) : Int)) = u8s (outS r (m + 1)) := by
  rw [u8s_set]
  unfold outS
  have hl : (r.take m).length = m := by rw [List.length_take]; omega
  rw [List.set_append_right _ _ (by omega), hl, Nat.sub_self]
  obtain ⟨z, hz⟩ : ∃ z, 32 - m = z + 1 := ⟨32 - m - 1, by omega⟩
  have hg : r.getD m 0 = r[m] := by simp [List.getD, List.getElem?_eq_getElem (show m < r.length by omega)]
  rw [hz, List.replicate_succ, List.set_cons_zero, show 32 - (m + 1) = z by omega, hg, List.take_succ_eq_append_getElem (by omega), List.append_assoc]
  rfl
theorem outS_all {r : List Nat} (hr : r.length = 32) : outS r 32 = r := by unfold outS; rw [List.take_of_length_le (by omega)]; simp
theorem flat_get : ∀ (F : List Nat) (k j : Nat), k < F.length → j < 4 → (F.flatMap bytes4).getD (4 * k + j) 0 = F.getD k 0 / 2 ^ (24 - 8 * j) % 256
  | x :: F, 0, j, _, hj => by
    have h : j = 0 ∨ j = 1 ∨ j = 2 ∨ j = 3 := by omega
    rcases h with rfl | rfl | rfl | rfl <;> simp [bytes4]
  | x :: F, k + 1, j, hk, hj => by
    rw [List.flatMap_cons]
    have ih := flat_get F k j (by simpa using hk) hj
    rw [List.getD, List.getElem?_append_right (by simp [bytes4]; omega)]
    rw [show 4 * (k + 1) + j - (bytes4 x).length = 4 * k + j by simp [bytes4]; omega]
    simpa [List.getD] using ih

theorem step_own {w wr w' : World} {S S' : List Nat} {o : Obj} {t : TypeId} {cs : Array Value} (hZ : Blk wr w.heap.size t cs) (hb : Below w.heap.size w wr) (hS : ∀ x ∈ S, w.heap.size + 1 ≤ x)
    (hk : Keeps S (wr.alloc o) w') (hS' : S' = S ∨ S' = [(wr.alloc o).heap.size]) : Blk w' w.heap.size t cs ∧ Below w.heap.size w w' ∧ ∀ x ∈ S', w.heap.size + 1 ≤ x := by
  have hl := hZ.lt
  have hn : w.heap.size ∉ S := fun hx => by have := hS _ hx; omega
  refine ⟨(hZ.alloc o).keeps hk hn, (((Keeps.of_below (S := []) hb).alloc o).trans' hk (fun x hx => .inr (by have := hS x hx; omega))).below, ?_⟩
  rcases hS' with rfl | rfl
  · exact hS
  · intro x hx
    simp at hx
    omega

/-- The bytes with what is laid behind them, m in all. -/
def padTo (l : List Nat) (m : Nat) : List Nat := l ++ [128] ++ List.replicate (m - (l.length + 1)) 0
theorem padTo_start (l : List Nat) : padTo l (l.length + 1) = l ++ [128] := by simp [padTo]
theorem padTo_succ (l : List Nat) (m : Nat) (h : l.length + 1 ≤ m) : padTo l (m + 1) = padTo l m ++ [0] := by
  unfold padTo
  rw [show m + 1 - (l.length + 1) = (m - (l.length + 1)) + 1 by omega, List.replicate_succ']
  simp only [List.append_assoc]
theorem padTo_len (l : List Nat) (m : Nat) (h : l.length + 1 ≤ m) : (padTo l m).length = m := by simp [padTo]; omega

theorem lenS_get (x : Nat) (k : Nat) (hk : k < 8) : (x : Int) / 2 ^ (56 - 8 * k) % 256 = (((lenS x).getD k 0 : Nat) : Int) := by
  have h : k = 0 ∨ k = 1 ∨ k = 2 ∨ k = 3 ∨ k = 4 ∨ k = 5 ∨ k = 6 ∨ k = 7 := by omega
  rcases h with rfl | rfl | rfl | rfl | rfl | rfl | rfl | rfl <;> simp [lenS]
theorem lenS_take (x k : Nat) (hk : k < 8) : (lenS x).take (k + 1) = (lenS x).take k ++ [(lenS x).getD k 0] := by
  have hl : k < (lenS x).length := by simpa [lenS] using hk
  rw [List.take_succ_eq_append_getElem hl]
  simp [List.getD, List.getElem?_eq_getElem hl]

def lenV : Value → Nat
  | .slice _ n _ => n
  | _ => 0

theorem map_bv_snoc (l : List Nat) (x : Nat) : (l ++ [x]).map bv = l.map bv ++ [.int .u8 (x : Int)] := by simp [bv]

set_option maxRecDepth 100000 in
set_option maxHeartbeats 4000000 in
theorem Of_any
    (A : Option Addr) (b o n c : Nat) (ls : List (List Nat)) (w : World) (hn : ls.length = n) (hc : n ≤ c) (hA : n ≠ 0 → A = some ⟨b, o, none⟩) (hp : Parts w b o ls) (hlen : ls.flatten.length ≤ 1099511627776) (hn2 : n ≤ 1099511627776) :
    Calls Try.prog 14 #[.slice A n c] w fun e w' => e = .returned (.agg (u8s (shaL ls.flatten))) ∧ Below w.heap.size w w' := by
  have hj := fun W (hW : Parts W b o ls) => join_any A b o n c ls W hn hc hA hW (by omega) (by omega)
  have HJ := Lib.hid hj
  have hlt : ∀ x ∈ ls.flatten, x < 256 := by
    intro x hx
    obtain ⟨l, hl, hxl⟩ := List.mem_flatten.1 hx
    obtain ⟨i, hi⟩ := List.getElem?_of_mem hl
    obtain ⟨_, _, _, _, _, h⟩ := hp i l hi
    exact h x hxl
  have hp1 : ∀ o, Parts (w.alloc o) b _ ls := fun ob i l hi => by
    obtain ⟨A, cap, h1, h2, h3⟩ := hp i l hi
    exact ⟨A, cap, (World.cell?_alloc_lt w ob _ (World.block_lt_of_cell? w _ h1)).trans h1, h2.alloc _, h3⟩
  have HP := Lib.hid hp1
  clear hj hp1 hp hn hc hA
  have HR : Hid (shaL ls.flatten = (blocksS beginS ((padS ls.flatten).length / 64) (padS ls.flatten)).flatMap bytes4) := rfl
  generalize shaL ls.flatten = R at *
  generalize hL : ls.flatten.length = L at *
  have HL := Lib.hid hL
  clear hL
  go_enter Try.func14, Try.ntmps14
  go_wp2_with fail
  refine (HJ.out _ (HP.out _)).mono ?_
  rintro e w1 ⟨v1, S1, rfl, hown1, hb1, hS1⟩
  obtain ⟨A1, c1, rfl, h41, h51, -⟩ := hown1.form
  have hZ : Blk w1 w.heap.size 27 (u8s (List.replicate 32 0)) := (Blk.new w _ _).below hb1
  have hb : Below w.heap.size w w1 := ((Keeps.refl [] w).alloc _).below.trans (hb1.mono (by simp))
  have hS : ∀ x ∈ S1, w.heap.size + 1 ≤ x := fun x hx => by have := hS1 x hx; simpa using this
  have hn1 : w.heap.size ∉ S1 := fun hx => by have := hS _ hx; omega
  clear hb1 hS1
  go_wp2_with (at_builtin; refine app_byte rfl (.tmp 17) (.tmp 18) rfl (.slice A1 L c1) L (ls.flatten.map bv) S1 (by rfl) (hown1.alloc _) w1.heap.size 128 (by rfl) (cell_one_new _ _ _ 0 _ rfl) (by omega) ?_; intro A2 c2 w2 S2 hown2 hk2 hS2 hc2 hm2)
  obtain ⟨hZ2, hb2, hS2'⟩ := step_own hZ hb hS hk2 hS2
  have h128 := map_bv_snoc ls.flatten 128
  rw [show ((128 : Nat) : Int) = 128 from rfl] at h128
  rw [← h128, ← padTo_start, HL.out] at hown2
  clear h128
  have HF : Hid (fillS L = (119 - L % 64) % 64) := rfl
  have hF : fillS L < 64 := Nat.mod_lt _ (by omega)
  clear hk2 hS2 hown1 h41 h51 hZ hb hS hn1
  go_loopw [3] (fun v wr => ∃ (m : Nat) (S : List Nat) (A : Option Addr) (c : Nat), L + 1 ≤ m ∧ m ≤ L + 1 + fillS L ∧ v = .slice A m c ∧ Own wr 1 (.slice A m c) m ((padTo ls.flatten m).map bv) S ∧ m ≤ c ∧ c ≤ maxLen ∧ (∀ x ∈ S, w.heap.size + 1 ≤ x) ∧
      Blk wr w.heap.size 27 (u8s (List.replicate 32 0)) ∧ Below w.heap.size w wr) (fun v _ => L + 1 + fillS L - lenV v)
  case atStart => exact ⟨L + 1, S2, A2, c2, Nat.le_refl _, by omega, rfl, hown2, hc2, hm2, hS2', hZ2, hb2⟩
  case round =>
    clear hown2 hc2 hm2 hS2' hZ2 hb2
    obtain ⟨m, S, Am, cm, hm1, hm2, rfl, hown, hc, hcm, hS, hZ, hb⟩ := hrel
    by_cases hlt2 : m < L + 1 + fillS L
    · have hne : m % 64 ≠ 56 := by have := HF.out; omega
      have hq : (((m : Int) % 64) == 56) = false := by rw [beq_eq_false_iff_ne]; omega
      have hq2 : (((m : Int) % 64) != 56) = true := by rw [bne_iff_ne]; omega
      clear hne
      go_wp2_with (at_builtin; refine app_byte rfl (.tmp 24) (.tmp 25) rfl (.slice Am m cm) m _ S (by rfl) (hown.alloc _) wr.heap.size 0 (by rfl) (cell_one_new _ _ _ 0 _ rfl) (by omega) ?_; intro A3 c3 w3 S3 hown3 hk3 hS3 hc3 hm3)
      obtain ⟨hZ3, hb3, hS3'⟩ := step_own hZ hb hS hk3 hS3
      have h0 := map_bv_snoc (padTo ls.flatten m) 0
      rw [show ((0 : Nat) : Int) = 0 from rfl] at h0
      rw [← h0, ← padTo_succ _ _ (by rw [HL.out]; exact hm1)] at hown3
      go_roundw
      case rel => exact ⟨m + 1, S3, A3, c3, by omega, by omega, rfl, hown3, hc3, hm3, hS3', hZ3, hb3⟩
      case measure => simp only [lenV]; omega
    · obtain rfl : m = L + 1 + fillS L := by omega
      have hM : (L + 1 + fillS L) % 64 = 56 := by have := HF.out; omega
      have HM := Lib.hid hM
      have hq : (((L + 1 + fillS L : Nat) : Int) % 64 == 56) = true := by rw [beq_iff_eq]; omega
      have hq2 : (((L + 1 + fillS L : Nat) : Int) % 64 != 56) = false := by rw [bne_eq_false_iff_eq]; omega
      have HP2 : Hid (padTo ls.flatten (L + 1 + fillS L) = ls.flatten ++ [128] ++ List.replicate (fillS L) 0) := by unfold Hid padTo; rw [HL.out, show L + 1 + fillS L - (L + 1) = fillS L by omega]
      have hPl := padTo_len ls.flatten (L + 1 + fillS L) (by rw [HL.out]; omega)
      have HPl := Lib.hid hPl
      clear hPl hM hm1 hm2 hlt2
      generalize padTo ls.flatten (L + 1 + fillS L) = P at *
      have hmb : L + 1 + fillS L ≤ 1099511627840 := by omega
      generalize L + 1 + fillS L = m at *
      go_wp2_with fail
      generalize hwr : wr = w4 at *
      clear hwr
      go_loopw [3, 5] (fun v i wr => ∃ (k : Nat) (S : List Nat) (A : Option Addr) (c : Nat), k ≤ 8 ∧ i = .int .i64 (56 - 8 * (k : Int)) ∧ v = .slice A (m + k) c ∧ Own wr 1 (.slice A (m + k) c) (m + k) ((P ++ (lenS (L * 8)).take k).map bv) S ∧ m + k ≤ c ∧ c ≤ maxLen ∧ (∀ x ∈ S, w.heap.size + 1 ≤ x) ∧
        Blk wr w.heap.size 27 (u8s (List.replicate 32 0)) ∧ Below w.heap.size w wr) (fun v _ _ => m + 8 - lenV v)
      case atStart => exact ⟨0, S, Am, cm, by omega, rfl, rfl, by simpa using hown, hc, hcm, hS, hZ, hb⟩
      case round =>
        clear hown hc hcm hS hZ hb
        obtain ⟨k, S, Ak, ck, hk, rfl, rfl, hown, hc, hcm, hS, hZ, hb⟩ := hrel
        by_cases hk8 : k < 8
        · have i0 : (0 : Int) ≤ 56 - 8 * (k : Int) := by omega
          have i1 : 56 - 8 * (k : Int) ≤ 64 := by omega
          have hv := lenS_get (L * 8) k hk8
          rw [show ((L * 8 : Nat) : Int) = (L : Int) * 8 by omega] at hv
          have HV := Lib.hid hv
          clear hv
          go_wp2_with (at_builtin; refine app_byte rfl (.tmp 31) (.tmp 36) rfl (.slice Ak (m + k) ck) (m + k) _ S (by rfl) (hown.alloc _) wr.heap.size _ (by rfl) (cell_one_new _ _ _ 0 _ rfl) (by omega) ?_; intro A3 c3 w3 S3 hown3 hk3 hS3 hc3 hm3)
          obtain ⟨hZ3, hb3, hS3'⟩ := step_own hZ hb hS hk3 hS3
          rw [HV.out, ← map_bv_snoc, List.append_assoc, ← lenS_take _ _ hk8] at hown3
          have i2 : IntKind.i64.wrap (56 - 8 * (k : Int) - 8) = 56 - 8 * (k : Int) - 8 := IntWalk.i64_in _ (by omega)
          go_wp2_with fail
          clear i2
          go_roundw
          case rel => exact ⟨k + 1, S3, A3, c3, by omega, by go_num, rfl, hown3, hc3, hm3, hS3', hZ3, hb3⟩
          case measure => simp only [lenV]; omega
        · obtain rfl : k = 8 := by omega
          rw [List.take_of_length_le (by simp [lenS])] at hown
          have hpad : P ++ lenS (L * 8) = padS ls.flatten := by rw [HP2.out]; unfold padS; rw [HL.out]
          rw [hpad] at hown
          have hpl : (padS ls.flatten).length = m + 8 := by rw [← hpad, List.length_append, HPl.out]; rfl
          have hpx : ∀ x ∈ padS ls.flatten, x < 256 := by
            intro x hx
            rw [← hpad, HP2.out] at hx
            simp only [List.mem_append, List.mem_singleton, List.mem_replicate] at hx
            rcases hx with ((hx | hx) | hx) | hx
            · exact hlt x hx
            · omega
            · omega
            · simp only [lenS, List.mem_cons, List.not_mem_nil, or_false] at hx; omega
          have hq : (m + 8) % 64 = 0 := by have := HM.out; omega
          have HR2 : Hid (R = (blocksS beginS ((m + 8) / 64) (padS ls.flatten)).flatMap bytes4) := by rw [← hpl]; exact HR
          have HPL := Lib.hid hpl
          have HPX := Lib.hid hpx
          clear hpad hpl hpx HP2 HPl HR HM
          generalize padS ls.flatten = p at *
          have hbb : m + 8 ≤ 1099511627848 := by omega
          obtain ⟨qn, hqn⟩ : ∃ qn, m + 8 = 64 * qn := ⟨(m + 8) / 64, by omega⟩
          have hqd : (m + 8) / 64 = qn := by omega
          rw [hqd] at HR2
          have HQ := Lib.hid hqn
          clear hqn hqd hq hmb
          generalize m + 8 = M at *
          clear HF hF hn2
          go_wp2_with fail
          refine (begin_any _).mono ?_
          rintro e w5 ⟨rfl, hb5⟩
          have hZ5 := hZ.below hb5
          have hown5 := hown.below hb5
          have hbw5 := hb.trans (hb5.mono hb.size)
          have hl5 := hZ5.lt
          clear hown hZ hb hb5
          have hSlt := hown5.lt
          have hgs : ∀ ad, Ak = some ad → 0 < M → ad.block ≠ w5.heap.size := fun ad e h0 hne => by
            obtain ⟨ad', e', hm⟩ := hown5.addr h0
            rw [e] at e'
            injection e' with e'
            subst e'
            have := hSlt _ hm
            omega
          have hAk : Ak = none → qn = 0 := fun e => by
            rcases Nat.eq_zero_or_pos M with h0 | h0
            · have := HQ.out; omega
            · obtain ⟨ad', e', _⟩ := hown5.addr h0
              rw [e] at e'; cases e'
          have hrd5 := hown5.rd
          clear hown5 hSlt
          go_wp2_with (refine wpList_store_blk rfl 74 (.tmp 6) (.tmp 38) rfl w5.heap.size 74 _ (u32s beginS) rfl rfl (Blk.new w5 _ _) rfl info8 one_begin ?_; intro w6 hB6 hk6)
          have hne6 : w.heap.size ≠ w5.heap.size := by omega
          have hZ6 := (hZ5.alloc (.cells #[.int .u32 0, .int .u32 0, .int .u32 0, .int .u32 0, .int .u32 0, .int .u32 0, .int .u32 0, .int .u32 0] 74)).keeps hk6 (by simpa using hne6)
          have hbw6 : Below w.heap.size w w6 := (((Keeps.of_below (S := []) hbw5).alloc _).trans' hk6 (by simp; omega)).below
          have hrd6 : Rd w6 Ak (p.map bv) := by
            rcases Nat.eq_zero_or_pos M with h0 | h0
            · have : p = [] := List.eq_nil_of_length_eq_zero (by rw [HPL.out]; exact h0)
              rw [this]; exact Rd.nil _ _
            · exact (hrd5.alloc _).keeps hk6 (fun ad e => by simpa using hgs ad e h0)
          have hsg : w.heap.size < w5.heap.size := hl5
          clear hZ5 hbw5 hrd5 hk6 hl5
          generalize w5.heap.size = gs at *
          have H8 : Hid (beginS.length = 8) := rfl
          simp only [Act.put]
          go_loopw [3] (fun v wr => ∃ (q : Nat) (rest st : List Nat) (Ar : Option Addr) (cr : Nat), v = .slice Ar (64 * q) cr ∧ Hid (rest.length = 64 * q) ∧ Rd wr Ar (rest.map bv) ∧ (∀ x ∈ rest, x < 256) ∧ 64 * q ≤ cr ∧ cr ≤ maxLen ∧ Hid (st.length = 8) ∧
            Blk wr gs 74 (u32s st) ∧ Hid (blocksS beginS qn p = blocksS st q rest) ∧ (∀ ad, Ar = some ad → 0 < q → ad.block ≠ gs) ∧ (Ar = none → q = 0) ∧ 64 * q ≤ 1099511627848 ∧ Blk wr w.heap.size 27 (u8s (List.replicate 32 0)) ∧ Below w.heap.size w wr) (fun v _ => lenV v)
          case atStart =>
            rw [HQ.out] at hbb hc hgs HPL
            rw [HQ.out]
            exact ⟨qn, p, beginS, Ak, ck, rfl, HPL, hrd6, HPX.out, hc, hcm, H8, hB6, rfl, fun ad e h => hgs ad e (by omega), fun e => hAk e, hbb, hZ6, hbw6⟩
          case round =>
            clear hrd6 hB6 hZ6 hbw6
            obtain ⟨q, rest, st, Ar, cr, rfl, Hrl, hrd, hrx, hqc, hcm2, Hst, hB, HE, hgs2, hnil, hqb, hZ, hb⟩ := hrel
            by_cases hq0 : 0 < q
            · obtain ⟨q, rfl⟩ : ∃ z, q = z + 1 := ⟨q - 1, by omega⟩
              obtain ⟨ad, rfl⟩ : ∃ ad, Ar = some ad := by
                cases Ar with
                | none => have := hnil rfl; omega
                | some ad => exact ⟨ad, rfl⟩
              have z1 : (64 : Int) ≤ 64 * ((q : Int) + 1) := by omega
              have z2 : (64 : Int) ≤ (cr : Int) := by omega
              go_wp2_with fail
              have hrl := Hrl.out
              refine (take_any (some ad) cr gs st (rest.take 64) _ Hst.out hB (by rw [List.length_take]; omega) (by rw [List.map_take]; exact hrd.take 64) (fun x hx => hrx x (List.mem_of_mem_take hx))).mono ?_
              rintro e w7 ⟨rfl, hB7, hk7⟩
              have hZ7 := hZ.keeps hk7 (by simp; omega)
              have hbw7 : Below w.heap.size w w7 := ((Keeps.of_below (S := []) hb).trans' hk7 (by simp; omega)).below
              have hrd7 := hrd.keeps hk7 (fun ad e => by simpa using hgs2 ad e (by omega))
              have hE7 : blocksS beginS qn p = blocksS (blockS st (rest.take 64)) q (rest.drop 64) := HE.out
              have HE7 := Lib.hid hE7
              have HS7 := Lib.hid (blockS_len st (rest.take 64) Hst.out)
              have hrl7 : (rest.drop 64).length = 64 * q := by rw [List.length_drop]; omega
              have HL7 := Lib.hid hrl7
              have hx7 : ∀ x ∈ rest.drop 64, x < 256 := fun x hx => hrx x (List.mem_of_mem_drop hx)
              have hdr := hrd7.drop 64 (c := cr) (fun h => by
                have : (List.drop 64 (List.map bv rest)).length ≠ 0 := fun e => h (List.eq_nil_of_length_eq_zero e)
                rw [List.length_drop, List.length_map] at this
                omega)
              rw [← List.map_drop] at hdr
              clear hE7 hrl7 hrl hB hZ hb hk7 hrd hrd7 HE Hrl Hst hrx
              go_wp2_with fail
              refine ⟨⟨q, rest.drop 64, blockS st (rest.take 64), (if cr = 64 then some ad else some ⟨ad.block, ad.off + 64, none⟩), cr - 64, by rw [show 64 * (q + 1) - 64 = 64 * q by omega], HL7, by simpa [Addr.add] using hdr, hx7, by omega, by omega, HS7, hB7, HE7, fun ad' e h0 => ?_, fun e => ?_, by omega, hZ7, hbw7⟩, by simp only [lenV]; omega⟩
              · have h1 := hgs2 ad rfl (by omega)
                split at e <;> (injection e with e; subst e; exact h1)
              · split at e <;> cases e
            · obtain rfl : q = 0 := by omega
              rw [Nat.mul_zero]
              have hst : blocksS beginS qn p = st := HE.out
              have hR : R = st.flatMap bytes4 := by rw [HR2.out, hst]
              have HRL : Hid ((st.flatMap bytes4).length = 32) := by unfold Hid; rw [flat4_len, Hst.out]
              have HRR := Lib.hid hR
              have hbl := hB.lt
              have hzl := hZ.lt
              have hidx : ∀ (k : Nat) (W : World), k < 8 → (Instr.index 74 (.agg (u32s st)) (.int .i64 (k : Int))).run Try.prog W = .ok (.int .u32 ((st.getD k 0 : Nat) : Int)) W := fun k W hk =>
                run_index_arr W _ _ 8 _ _ k _ Try.underlying74 Try.isAgg72 Try.sizeOf72 hk (u32s_get (by rw [Hst.out]; exact hk))
              have HI := Lib.hid hidx
              have hi8 := Lib.hid (info8.trans (congrArg some ((u32s_size st).trans Hst.out).symm))
              clear hst hR HE HR2 hrd hgs2 hnil hqb hqc hcm2 Hrl hrx hidx
              go_wp2_with (refine wpList_load_blk rfl 74 (.tmp 6) rfl gs rfl 74 (u32s st) _ (hB.alloc _) Try.underlying74 rfl hi8.out ?_)
              have hO := Blk.new wr 27 (u8s (outS (st.flatMap bytes4) 0))
              have hZo := hZ.alloc (.cells (u8s (outS (st.flatMap bytes4) 0)) 27)
              have hbo : Below w.heap.size w (wr.alloc (.cells (u8s (outS (st.flatMap bytes4) 0)) 27)) := hb.alloc hb.size _
              have hgo : w.heap.size < wr.heap.size := hzl
              clear hB hZ hb hbl hzl hi8
              generalize wr.heap.size = go at *
              go_loopw [48] (fun i wr => ∃ k : Nat, k ≤ 8 ∧ i = .int .i64 k ∧ Blk wr go 27 (u8s (outS (st.flatMap bytes4) (4 * k))) ∧ Blk wr w.heap.size 27 (u8s (List.replicate 32 0)) ∧ Below w.heap.size w wr) (fun i _ => 8 - (intOf i).toNat)
              case atStart => exact ⟨0, by omega, rfl, hO, hZo, hbo⟩
              case round =>
                clear hO hZo hbo
                obtain ⟨wo, hwo⟩ : ∃ wo : World, wo = wr := ⟨_, rfl⟩
                clear hwo wo
                obtain ⟨k, hk, rfl, hO, hZ, hb⟩ := hrel
                by_cases hk8 : k < 8
                · have hix := fun W => HI.out k W hk8
                  have hfg := fun j (hj : j < 4) => flat_get st k j (by rw [Hst.out]; exact hk8) hj
                  have HFG := Lib.hid hfg
                  clear hfg
                  generalize st.getD k 0 = xv at *
                  go_wp2_with fail
                  clear hix
                  generalize hwr : wr = w9 at *
                  clear hwr
                  go_loopw [52] (fun i wr => ∃ j : Nat, j ≤ 4 ∧ i = .int .i64 j ∧ Blk wr go 27 (u8s (outS (st.flatMap bytes4) (4 * k + j))) ∧ Blk wr w.heap.size 27 (u8s (List.replicate 32 0)) ∧ Below w.heap.size w wr) (fun i _ => 4 - (intOf i).toNat)
                  case atStart => exact ⟨0, by omega, rfl, hO, hZ, hb⟩
                  case round =>
                    clear hO hZ hb
                    obtain ⟨j, hj, rfl, hO, hZ, hb⟩ := hrel
                    by_cases hj4 : j < 4
                    · have hv := HFG.out j hj4
                      have hset := hO.set (4 * k + j) (.int .u8 (((st.flatMap bytes4).getD (4 * k + j) 0 : Nat) : Int))
                      rw [outS_set HRL.out (by omega), hv] at hset
                      have hc0 : wr.cell? ⟨go, 4 * k + j, none⟩ = some (.int .u8 (((outS (st.flatMap bytes4) (4 * k + j)).getD (4 * k + j) 0 : Nat) : Int)) := by rw [hO.cell, u8s_get (by rw [outS_len HRL.out (by omega)]; omega)]
                      have hf0 := hO.frozen (4 * k + j)
                      generalize (outS (st.flatMap bytes4) (4 * k + j)).getD (4 * k + j) 0 = y at *
                      have i0 : (0 : Int) ≤ 24 - 8 * (j : Int) := by omega
                      have i1 : 24 - 8 * (j : Int) ≤ 32 := by omega
                      have i2 : 8 * (j : Int) ≤ 24 := by omega
                      have i3 : (4 * (k : Int) + (j : Int)) < 32 := by omega
                      have HS := Lib.hid hset
                      clear hset hv
                      go_wp2_with fail
                      have hcast : (xv : Int) / 2 ^ (24 - 8 * j) % 256 = ((xv / 2 ^ (24 - 8 * j) % 256 : Nat) : Int) := by rw [Int.natCast_emod, Int.natCast_ediv, Int.natCast_pow]; rfl
                      refine ⟨⟨j + 1, by omega, by go_num, by rw [hcast]; exact HS.out, hZ.far (p := ⟨go, 4 * k + j, none⟩) (by simp; omega) _, hb.setCell (by simp; omega) _⟩, by simp [intOf]; omega⟩
                    · obtain rfl : j = 4 := by omega
                      go_wp2_with fail
                      refine ⟨⟨k + 1, by omega, by go_num, hO, hZ, hb⟩, by simp [intOf]; omega⟩
                · obtain rfl : k = 8 := by omega
                  rw [outS_all HRL.out, ← HRR.out] at hO
                  have hRl : R.length = 32 := by rw [HRR.out]; exact HRL.out
                  have hi32 : (Try.prog.info? 27).map (·.size) = some (u8s R).size := by rw [u8s_size, hRl]; kernel_rfl
                  have HI2 := Lib.hid hi32
                  have HS2 : Hid ((u8s R).size = (u8s (List.replicate 32 0)).size) := by unfold Hid; rw [u8s_size, u8s_size, hRl]; rfl
                  have H1 := Lib.hid (u8s_one R)
                  clear hi32 hRl
                  go_wp2_with (first
                    | (refine wpList_load_blk rfl 27 (.tmp 7) rfl go rfl 27 (u8s R) _ hO Try.underlying27 rfl HI2.out ?_)
                    | (refine wpList_store_blk rfl 27 (.tmp 2) (.tmp 68) rfl w.heap.size 27 _ (u8s R) rfl rfl hZ HS2.out HI2.out H1.out ?_; intro w' hB' hk'))
                  refine post_blk rfl rfl w.heap.size 27 (u8s R) _ rfl hB' Try.underlying27 rfl HI2.out ⟨rfl, ?_⟩
                  exact ((Keeps.of_below (S := []) hb).trans' hk' (by simp)).below
end Go.Proofs.Ytbjlmhbpcopfbaa

/- Regions by types: sum.Of of parts. -/
namespace Go.Proofs.Ytbjlmhbpcopfbaa
open Go.RowKit


/-- A slice of parts, each bytes. -/
theorem parts_slT {w : World} {e : TypeId} {n : Nat} {v : Value} {ls : List (List Nat)} {τs : List Ty} (h : (Ty.slT e n τs).p w v) (hl : τs.length = ls.length) (hr : ∀ (i : Nat) (l : List Nat) (τ : Ty), ls[i]? = some l → τs[i]? = some τ → Reads τ l.length (l.map bv)) (hx : ∀ l ∈ ls, ∀ x ∈ l, x < 256) (hne : 0 < ls.length) :
    ∃ b o c, v = .slice (some ⟨b, o, none⟩) n c ∧ n ≤ c ∧ Parts w b o ls := by
  obtain ⟨A, c, rfl, h2, h3, h4, h5⟩ := h
  have h0 : 0 < τs.length := by omega
  obtain ⟨g, off, cs, fr, u, rfl, h7, h8, h9⟩ := h5 0 _ (List.getElem?_eq_getElem h0)
  refine ⟨g, off, c, rfl, h2, fun i l hi => ?_⟩
  have hil : i < τs.length := by have := (List.getElem?_eq_some_iff.1 hi).1; omega
  obtain ⟨g', off', cs', fr', u', e', k7, k8, k9⟩ := h5 i _ (List.getElem?_eq_getElem hil)
  injection e' with e'
  injection e' with e1 e2
  subst e1 e2
  rw [h7] at k7
  injection k7 with k7
  injection k7 with k7
  subst k7
  obtain ⟨B, d, hu, hm, hB, hrd⟩ := hr i l _ hi (List.getElem?_eq_getElem hil) w u' k9
  subst hu
  exact ⟨B, d, by rw [cell_of_row w g (off + i) cs e fr h7]; exact k8, hrd, fun e => List.eq_nil_of_length_eq_zero (hB e), hx l (List.mem_of_getElem? hi)⟩
theorem sumOf_ty {e : TypeId} (ls : List (List Nat)) (τs : List Ty) (hl : τs.length = ls.length) (hr : ∀ (i : Nat) (l : List Nat) (τ : Ty), ls[i]? = some l → τs[i]? = some τ → Reads τ l.length (l.map bv)) (hx : ∀ l ∈ ls, ∀ x ∈ l, x < 256) (hne : 0 < ls.length) (hlen : ls.flatten.length ≤ 1099511627776) (hn : ls.length ≤ 1099511627776) :
    Fn1 Try.prog 14 (Ty.slT e ls.length τs) (Ty.ex (.agg (u8s (shaL ls.flatten)))) :=
  ⟨fun args w => by kernel_rfl, fun w v hv => by
    obtain ⟨b, o, c, rfl, hc, hp⟩ := parts_slT hv hl hr hx hne
    exact Ret.of (Of_any _ b o ls.length c ls w rfl hc (fun _ => rfl) hp hlen hn)⟩
theorem sumOf1_ty {e : TypeId} {τ : Ty} (l : List Nat) (hτ : Reads τ l.length (l.map bv)) (hx : ∀ x ∈ l, x < 256) (hlen : l.length ≤ 1099511627776) : Fn1 Try.prog 14 (Ty.slT e 1 [τ]) (Ty.ex (.agg (u8s (shaL l)))) := by
  have h := sumOf_ty (e := e) [l] [τ] rfl (fun i k σ h1 h2 => by
    match i with
    | 0 => simp at h1 h2; subst h1 h2; exact hτ
    | i + 1 => simp at h1) (by simpa using hx) (by simp) (by simpa using hlen) (by simp)
  simpa using h
def shaS (l : List Nat) : Sm := ⟨shaL l, shaL_len l, shaL_lt l⟩
theorem infoU8 : (Try.prog.info? 5).map (fun i => (i.zero, i.size, i.bytes)) = some (some (.int .u8 0), 1, 1) := by kernel_rfl
theorem infoB : (Try.prog.info? 22).map (fun i => (i.zero, i.size, i.bytes)) = some (some (.slice none 0 0), 1, 24) := by kernel_rfl
end Go.Proofs.Ytbjlmhbpcopfbaa

/- Sums laid on each other, plainly. -/
namespace Go.Proofs.Ytbjlmhbpcopfbaa
open Go.RowKit

end Go.Proofs.Ytbjlmhbpcopfbaa

/- Layer 10: words of this translation: rows of sums. -/
namespace Go.Proofs.Ytbjlmhbpcopfbaa
open Go.RowKit

theorem mixed : Try.prog.follows .mixedOrders = true := by kernel_rfl
theorem infoS : (Try.prog.info? 27).map (fun i => (i.zero, i.size, i.bytes)) = some (some (.agg (u8s (List.replicate 32 0))), 32, 32) := by kernel_rfl
theorem sizeS : (Try.prog.info? 27).map (·.size) = some 32 := by kernel_rfl
theorem sizeU : (Try.prog.info? 5).map (·.size) = some 1 := by kernel_rfl
theorem zero32_size : (Value.agg (u8s (List.replicate 32 0))).cells.size = 32 := by decide
theorem enc_one (x : Sm) : ∀ u ∈ x.enc, u.oneCell' = true := by
  intro u hu
  obtain ⟨b, _, rfl⟩ := List.mem_map.1 hu
  rfl

section
variable {w0 : World} {Γ : Ctx} {o : Oper}
theorem cEqlAgg {P : Program} {t t2 : TypeId} {x y : Operand} {xs ys : Array Value} {b : Bool} (ho : o.op = .binOp .eql t x y t2) (hx : OpT Γ x (Ty.ex (.agg xs))) (hy : OpT Γ y (Ty.ex (.agg ys))) (hg : P.eqGuardType P.depth t = false)
    (hr : ∀ w : World, (binOp .eql t (.agg xs) (.agg ys)).run P w = .ok (.bool b) w) : OpOk P w0 Γ o (Ty.ex (.bool b)) :=
  cBin ho hx hy fun w => by rw [Sem.run_bind, run_eqGuard_agg (P := P) w .eql t x y xs ys hg]; exact hr w
theorem cNeqAgg {P : Program} {t t2 : TypeId} {x y : Operand} {xs ys : Array Value} {b : Bool} (ho : o.op = .binOp .neq t x y t2) (hx : OpT Γ x (Ty.ex (.agg xs))) (hy : OpT Γ y (Ty.ex (.agg ys))) (hg : P.eqGuardType P.depth t = false)
    (hr : ∀ w : World, (binOp .neq t (.agg xs) (.agg ys)).run P w = .ok (.bool b) w) : OpOk P w0 Γ o (Ty.ex (.bool b)) :=
  cBin ho hx hy fun w => by rw [Sem.run_bind, run_eqGuard_agg (P := P) w .neq t x y xs ys hg]; exact hr w
theorem dec_l (x y : Sm) : decide (x.l = y.l) = decide (x = y) := by
  rw [Bool.eq_iff_iff, decide_eq_true_eq, decide_eq_true_eq]
  exact ⟨Sm.ext_l, fun h => by rw [h]⟩
theorem guardS : Try.prog.eqGuardType Try.prog.depth 27 = false := by kernel_rfl
theorem cells_byte : Try.prog.cellsOf 5 = 1 := by kernel_rfl
theorem info_u8 : ∃ i, Try.prog.info? 5 = some i := by
  have h : (Try.prog.info? 5).isSome = true := by kernel_rfl
  exact Option.isSome_iff_exists.1 h
theorem eqlS (x y : Sm) (w : World) : (binOp .eql 27 (.agg (u8s x.l)) (.agg (u8s y.l))).run Try.prog w = .ok (.bool (decide (x = y))) w := by
  obtain ⟨i, hi⟩ := info_u8
  rw [run_eql_bytes 27 5 32 i Try.underlying27 hi cells_byte Try.underlying5 Try.isAgg5 x.l y.l x.len y.len w, dec_l]
theorem neqS (x y : Sm) (w : World) : (binOp .neq 27 (.agg (u8s x.l)) (.agg (u8s y.l))).run Try.prog w = .ok (.bool (!decide (x = y))) w := by
  obtain ⟨i, hi⟩ := info_u8
  rw [run_neq_bytes 27 5 32 i Try.underlying27 hi cells_byte Try.underlying5 Try.isAgg5 x.l y.l x.len y.len w, dec_l]
end

/-- A sum whose first byte is b. -/
def sm1 (b : Nat) (h : b < 256) : Sm := ⟨b :: List.replicate 31 0, by simp, fun x hx => by
  rcases List.mem_cons.1 hx with rfl | hx
  · exact h
  · rw [(List.mem_replicate.1 hx).2]; omega⟩
end Go.Proofs.Ytbjlmhbpcopfbaa

/- Eight bytes of a sum as a number: plainly. -/
namespace Go.Proofs.Ytbjlmhbpcopfbaa
open Go.RowKit

end Go.Proofs.Ytbjlmhbpcopfbaa

/- Layer 14 by types: Word, GoodCells, Good, ints. -/
namespace Go.Proofs.Ytbjlmhbpcopfbaa
open Go.RowKit

section
variable {P : Program} {w0 : World} {Γ : Ctx} {o : Oper} {t t2 : TypeId} {x y : Operand}
end
end Go.Proofs.Ytbjlmhbpcopfbaa

/- Layer 14 by types: TrailingZeros64, Level. -/
namespace Go.Proofs.Ytbjlmhbpcopfbaa
open Go.RowKit

section
variable {P : Program} {w0 : World} {Γ : Ctx} {o : Oper}
end
theorem e58 : (2 : Int) ^ (58 : Int).toNat = 288230376151711744 := by decide
end Go.Proofs.Ytbjlmhbpcopfbaa

/- Walks: the reference's keys; turned at all widths in use. -/
namespace Go.Proofs.Ytbjlmhbpcopfbaa
open Go.RowKit

end Go.Proofs.Ytbjlmhbpcopfbaa

/- The walk of the reference's block. -/
namespace Go.Proofs.Ytbjlmhbpcopfbaa
open Go.RowKit

end Go.Proofs.Ytbjlmhbpcopfbaa

/- The walk of tallymanref1.Xor. -/
namespace Go.Proofs.Ytbjlmhbpcopfbaa
open Go.RowKit

end Go.Proofs.Ytbjlmhbpcopfbaa

/- append to a slice of bytes of the call's own. -/
namespace Go.Proofs.Ytbjlmhbpcopfbaa
open Go.RowKit

section
variable {ops : Array Oper} {rest : List Oper} {o : Oper} {a : Act} {w : World} {K : Act → World → Prop} {Q : Exit → Act → World → Prop}
end
end Go.Proofs.Ytbjlmhbpcopfbaa

/- A load of a known run, as a still step. -/
namespace Go.Proofs.Ytbjlmhbpcopfbaa
open Go.RowKit

end Go.Proofs.Ytbjlmhbpcopfbaa

/- Words: slices of slices of bytes. -/
namespace Go.Proofs.Ytbjlmhbpcopfbaa
open Go.RowKit

end Go.Proofs.Ytbjlmhbpcopfbaa

/- The walk of the reference's Of. -/
namespace Go.Proofs.Ytbjlmhbpcopfbaa
open Go.RowKit

end Go.Proofs.Ytbjlmhbpcopfbaa

/- Layer 14 by types: PutSum, Level. -/
namespace Go.Proofs.Ytbjlmhbpcopfbaa
open Go.RowKit

end Go.Proofs.Ytbjlmhbpcopfbaa

/- Layer 14 by types: PutSum, the document's Level. -/
namespace Go.Proofs.Ytbjlmhbpcopfbaa
open Go.RowKit

end Go.Proofs.Ytbjlmhbpcopfbaa

/- Layer 14 by types: place.Of. -/
namespace Go.Proofs.Ytbjlmhbpcopfbaa
open Go.RowKit

theorem e8 : (2 : Int) ^ (8 : Int).toNat = 256 := by decide
end Go.Proofs.Ytbjlmhbpcopfbaa

/- Cells and tables, plainly: sums put in and taken out in whatever order; one less another. -/
namespace Go.Proofs.Ytbjlmhbpcopfbaa
open Go.RowKit

/-- A cell. -/
structure Cl where
  n : Int
  key : Sm
  check : Sm
  deriving DecidableEq
def Cl.zero : Cl := ⟨0, Sm.zero, Sm.zero⟩
instance : Inhabited Cl := ⟨Cl.zero⟩
end Go.Proofs.Ytbjlmhbpcopfbaa

/- The walks of Sum.Xor and Sum.Zero. -/
namespace Go.Proofs.Ytbjlmhbpcopfbaa
open Go.RowKit

end Go.Proofs.Ytbjlmhbpcopfbaa

/- Cells by types: build, fields, ==; the functions of layer 13, the program's and the document's. -/
namespace Go.Proofs.Ytbjlmhbpcopfbaa
open Go.RowKit

theorem fold_splice (off : Nat) : ∀ (l : List Value) (j : Nat) (cells : Array Value), (l.zipIdx j).foldl (fun cs (p : Value × Nat) => cs.setIfInBounds (off + p.2) p.1) cells = splice cells (off + j) l
  | [], _, _ => rfl
  | v :: l, j, cells => by
    rw [List.zipIdx_cons, List.foldl_cons, fold_splice off l (j + 1)]
    rfl
theorem fold_arr (off : Nat) (V cells : Array Value) : V.zipIdx.foldl (fun cs (p : Value × Nat) => cs.setIfInBounds (off + p.2) p.1) cells = splice cells off V.toList := by
  rw [← Array.foldl_toList, Array.toList_zipIdx]
  exact fold_splice off V.toList 0 cells
theorem fill_step {place : Nat → Option (Nat × Nat)} {cells : Array Value} {i off size : Nat} {v : Value} {rest : List (Nat × Value)} (hp : place i = some (off, size)) (hs : v.cells.size = size) (hb : off + size ≤ cells.size) :
    Instr.fill place cells ((i, v) :: rest) = Instr.fill place (splice cells off v.cells.toList) rest := by
  rw [Instr.fill]
  simp only [hp]
  rw [if_neg (by rw [hs]; simp; omega), fold_arr]
section
variable {P : Program} {w0 : World} {Γ : Ctx} {o : Oper}
/-- The address of a field. -/
theorem run_fieldAt {t ft : TypeId} {fs : Array Field} {i off sz : Nat} (hu : P.underlying t = some (.struct fs)) (hf : (fs[i]?).map (fun f => (f.type, f.offset)) = some (ft, off)) (hz : (P.info? ft).map (·.size) = some (sz + 1)) (g o2 : Nat) (w : World) : (Instr.fieldAt t (.pointer (some ⟨g, o2, none⟩)) i).run P w = .ok (.pointer (some ⟨g, o2 + off, none⟩)) w := by
  obtain ⟨f, h1, h2⟩ := Option.map_eq_some_iff.1 hf
  simp only [Prod.mk.injEq] at h2
  obtain ⟨rfl, rfl⟩ := h2
  obtain ⟨inf, hinf, hsz⟩ := Option.map_eq_some_iff.1 hz
  simp [Instr.fieldAt, fieldPlace, run_underlying hu, h1, Instr.sureAddr, sizeOf, typeInfo, hinf, hsz, Addr.add_lit]
theorem cFieldExE {t ft : TypeId} {fs : Array Field} {i off sz g o2 : Nat} {x : Operand} (ho : o.op = .fieldAddr t x i) (hx : OpT Γ x (Ty.ex (.pointer (some ⟨g, o2, none⟩)))) (hu : P.underlying t = some (.struct fs)) (hf : (fs[i]?).map (fun f => (f.type, f.offset)) = some (ft, off)) (hz : (P.info? ft).map (·.size) = some (sz + 1)) : OpOk P w0 Γ o (Ty.ex (.pointer (some ⟨g, o2 + off, none⟩))) :=
  .val fun a w _ hs => by
    obtain ⟨v, h1, h2⟩ := hs x _ (by simp [ho, Op.operands]) hx
    have h2 : v = .pointer (some ⟨g, o2, none⟩) := h2
    refine ⟨_, rfl, ?_⟩
    unfold execOp
    simp [ho, h1, h2, run_fieldAt hu hf hz]
end
section
variable {w0 : World} {Γ : Ctx} {o : Oper} {x : Operand} {e : TypeId} {c : Cl}
end
end Go.Proofs.Ytbjlmhbpcopfbaa

/- Layer 10: the walks of small helpers: rows copied, rows compared. -/
namespace Go.Proofs.Ytbjlmhbpcopfbaa
open Go.RowKit

end Go.Proofs.Ytbjlmhbpcopfbaa

/- Rows of bytes compared: plainly. -/
namespace Go.Proofs.Ytbjlmhbpcopfbaa

def cmpL : List Nat → List Nat → Int
  | [], [] => 0
  | [], _ :: _ => -1
  | _ :: _, [] => 1
  | a :: x, b :: y => if a < b then -1 else if b < a then 1 else cmpL x y
theorem cmpL_swap : ∀ x y : List Nat, cmpL y x = - cmpL x y
  | [], [] => rfl
  | [], _ :: _ => rfl
  | _ :: _, [] => rfl
  | a :: x, b :: y => by
    have ih := cmpL_swap x y
    unfold cmpL
    by_cases h1 : a < b
    · rw [if_neg (by omega), if_pos h1, if_pos h1]; rfl
    · by_cases h2 : b < a
      · rw [if_pos h2, if_neg h1, if_pos h2]
      · rw [if_neg h2, if_neg h1, if_neg h1, if_neg h2]; exact ih
theorem cmpL_eq : ∀ x y : List Nat, cmpL x y = 0 ↔ x = y
  | [], [] => by simp [cmpL]
  | [], _ :: _ => by simp [cmpL]
  | _ :: _, [] => by simp [cmpL]
  | a :: x, b :: y => by
    have ih := cmpL_eq x y
    unfold cmpL
    by_cases h1 : a < b
    · rw [if_pos h1]; simp; omega
    · by_cases h2 : b < a
      · rw [if_neg h1, if_pos h2]; simp; omega
      · rw [if_neg h1, if_neg h2, ih]
        have : a = b := by omega
        simp [this]
theorem cmpL_trans : ∀ x y z : List Nat, cmpL x y ≤ 0 → cmpL y z ≤ 0 → cmpL x z ≤ 0 ∧ (cmpL x y < 0 ∨ cmpL y z < 0 → cmpL x z < 0)
  | [], [], [] => by simp [cmpL]
  | [], [], _ :: _ => by simp [cmpL]
  | [], _ :: _, [] => by simp [cmpL]
  | [], _ :: _, _ :: _ => by simp [cmpL]
  | _ :: _, [], _ => by simp [cmpL]
  | _ :: _, _ :: _, [] => by intro _ h; simp [cmpL] at h
  | a :: x, b :: y, c :: z => by
    have ih := cmpL_trans x y z
    intro h1 h2
    unfold cmpL at h1 h2 ⊢
    by_cases ab : a < b
    · by_cases bc : c < b
      · rw [if_neg (by omega), if_pos bc] at h2; omega
      · rw [if_pos (show a < c by omega)]; exact ⟨by omega, fun _ => by omega⟩
    · by_cases ba : b < a
      · rw [if_neg ab, if_pos ba] at h1; omega
      · rw [if_neg ab, if_neg ba] at h1 ⊢
        have e : a = b := by omega
        subst e
        by_cases ac : a < c
        · rw [if_pos ac]; exact ⟨by omega, fun _ => by omega⟩
        · by_cases ca : c < a
          · rw [if_neg ac, if_pos ca] at h2; omega
          · rw [if_neg ac, if_neg ca] at h2
            rw [if_neg ac, if_neg ca]
            rw [if_neg ac, if_neg ca]
            exact ih h1 h2

end Go.Proofs.Ytbjlmhbpcopfbaa

/- Sums compared by their bytes: plainly; the walks of bytes.Compare and Sum.Cmp. -/
namespace Go.Proofs.Ytbjlmhbpcopfbaa
open Go.RowKit

theorem cmpL_bytes : ∀ (x y : List Nat), (∀ a ∈ x, a < 256) → (∀ a ∈ y, a < 256) → Lib.compareBytes (bytesU x) (bytesU y) = cmpL x y
  | [], [], _, _ => rfl
  | [], _ :: _, _, _ => rfl
  | _ :: _, [], _, _ => rfl
  | a :: x, b :: y, hx, hy => by
    have ih := cmpL_bytes x y (fun z hz => hx z (by simp [hz])) (fun z hz => hy z (by simp [hz]))
    have ha := u8_toNat (hx a (by simp))
    have hb := u8_toNat (hy b (by simp))
    have h1 : (UInt8.ofNat a < UInt8.ofNat b) ↔ a < b := by rw [UInt8.lt_iff_toNat_lt, ha, hb]
    have h2 : (UInt8.ofNat b < UInt8.ofNat a) ↔ b < a := by rw [UInt8.lt_iff_toNat_lt, ha, hb]
    show (if UInt8.ofNat a < UInt8.ofNat b then (-1 : Int) else if UInt8.ofNat b < UInt8.ofNat a then 1 else Lib.compareBytes (bytesU x) (bytesU y)) = _
    rw [ih]
    simp only [h1, h2, cmpL]

theorem run_bytesOf_rd {P : Program} (w : World) (A : Option Addr) (n cap : Nat) (l : List Nat) (hl : l.length = n) (hr : Rd w A (l.map bv)) (hA : A = none → n = 0) (hx : ∀ x ∈ l, x < 256) :
    (Extern.Bytes.bytesOf (.slice A n cap)).run P w = .ok ⟨(bytesU l).toArray⟩ w := by
  cases A with
  | none =>
    have : l = [] := List.eq_nil_of_length_eq_zero (by rw [hl]; exact hA rfl)
    subst this
    rfl
  | some a =>
    subst hl
    have h := Lib.run_loadBytesX (P := P) w (l.map Int.ofNat) a .empty (fun j x hj => by
      rw [List.getElem?_map] at hj
      obtain ⟨y, hy, rfl⟩ := Option.map_eq_some_iff.1 hj
      obtain ⟨ad, e, hc⟩ := hr j (bv y) (by rw [List.getElem?_map, hy]; rfl)
      injection e with e
      subst e
      exact hc)
    rw [List.length_map] at h
    have e : Lib.bytesOf (l.map Int.ofNat) = bytesU l := by
      unfold Lib.bytesOf bytesU
      rw [List.map_map]
      apply List.map_congr_left
      intro x _
      rfl
    rw [e] at h
    simp only [Extern.Bytes.bytesOf]
    rw [h]
    congr 1
    apply ByteArray.ext
    simp
set_option maxRecDepth 100000 in
theorem Compare_any (A B : Option Addr) (n m c d : Nat) (x y : List Nat) (w : World) (hx : x.length = n) (hy : y.length = m) (hr1 : Rd w A (x.map bv)) (hr2 : Rd w B (y.map bv)) (hA : A = none → n = 0) (hB : B = none → m = 0) (h1 : ∀ a ∈ x, a < 256) (h2 : ∀ a ∈ y, a < 256) :
    Calls Try.prog 52 #[.slice A n c, .slice B m d] w fun e w' => e = .returned (.int .i64 (cmpL x y)) ∧ w' = w := by
  have hrun : (Extern.BytealgCompare.compare #[.slice A n c, .slice B m d]).run Try.prog w = .ok (.int .i64 (cmpL x y)) w := by
    change Sem.run Try.prog (do pure (goInt (Extern.BytealgCompare.cmp (← Extern.Bytes.bytesOf (.slice A n c)) (← Extern.Bytes.bytesOf (.slice B m d))))) w = _
    rw [Sem.run_bind, run_bytesOf_rd w A n c x hx hr1 hA h1]
    simp only [Result.andThen_ok]
    rw [Sem.run_bind, run_bytesOf_rd w B m d y hy hr2 hB h2]
    simp only [Result.andThen_ok, Sem.run_pure]
    rw [Lib.cmp_eq, ← cmpL_bytes x y h1 h2]
    rfl
  have HR := Lib.hid hrun
  clear hrun
  go_enter Try.func52, Try.ntmps52
  go_wp2
  rw [run_callFunc_extern Try.func61 (by kernel_rfl) (by kernel_rfl) (by kernel_rfl) (e := Extern.BytealgCompare.compare) (by kernel_rfl), HR.out]
  simp only [Result.andThen]
  rw [Oper.upon_value]
  go_wp2
  go_ret
  exact ⟨rfl, rfl⟩
end Go.Proofs.Ytbjlmhbpcopfbaa

/- The walk of tallymanref1.Cmp. -/
namespace Go.Proofs.Ytbjlmhbpcopfbaa
open Go.RowKit

end Go.Proofs.Ytbjlmhbpcopfbaa

/- Layer 10: the walks of Sum.Cmp, Equal, Good; of the document's own Same, Has, Good. -/
namespace Go.Proofs.Ytbjlmhbpcopfbaa
open Go.RowKit

theorem compare_ty (x y : Sm) : Fn2 Try.prog 52 (Ty.rd 32 x.enc) (Ty.rd 32 y.enc) (Ty.ex (.int .i64 (cmpL x.l y.l))) :=
  ⟨fun args w => by kernel_rfl, fun w v u ⟨A, c, h1, h2, h3, h4⟩ ⟨B, d, k1, k2, k3, k4⟩ => by
    subst h1 k1
    exact Ret.of_eq ((Compare_any A B 32 32 c d x.l y.l w x.len y.len h4 k4 h3 k3 x.lt y.lt).mono fun _ _ ⟨a, b⟩ => ⟨a, b.symm⟩)⟩
set_option maxRecDepth 100000 in
theorem cmp_ty (x y : Sm) : Fn2 Try.prog 37 (Ty.ex (.agg (u8s x.l))) (Ty.ex (.agg (u8s y.l))) (Ty.ex (.int .i64 (cmpL x.l y.l))) := by
  refine ⟨fun args w => by kernel_rfl, fun w v u hv hu => ?_⟩
  refine enter_ty 8 [Ty.ex (.agg (u8s x.l)), Ty.ex (.agg (u8s y.l))] Try.func37 rfl (by kernel_rfl) ⟨hv, hu, trivial⟩ fun a hF => ?_
  have hB := Below.refl w.heap.size w
  repeat with_reducible refine wp_seq ?_
  refine' reg_all hF ?_ mixed (by kernel_rfl) ?_
  rotate_left
  · repeat (first | exact Line.nil | ((refine' Line.cons rfl (.run rfl rfl ?_) ?_); (any_goals (first | exact cBoxSum rfl rfl | exact cAssign rfl rfl)); rotate_left))
  intro a w1 hF hb hN
  replace hB := hB.trans (hb.mono hB.size)
  dsimp only [ext, Option.getD] at hF
  repeat with_reducible first | refine wp_seq ?_ | refine nThen ?_
  refine' reg_all hF ?_ mixed (by kernel_rfl) ?_
  rotate_left
  · repeat (first | exact Line.nil | ((refine' Line.cons rfl (.run rfl rfl ?_) ?_); (any_goals (first | exact cSliceArr rfl (.t rfl) Try.underlying27 sizeU (by simp [maxLen]) | exact cCallH2 rfl (.r rfl (reads_sl _ _ _)) (.r rfl (reads_sl _ _ _)) (compare_ty x y) | exact cAssign rfl rfl)); rotate_left))
  intro a w2 hF hb hN
  replace hB := hB.trans (hb.mono hB.size)
  dsimp only [ext, Option.getD] at hF
  repeat with_reducible first | refine nThen ?_ | refine wp_ret ?_
  refine ret1 hF rfl rfl fun z hz => ?_
  exact ⟨z, rfl, hz, hB⟩
/-- Rising, each less than the next one. -/
def goodL (L : List Sm) : Bool := ((List.range (L.length - 1)).all fun k => decide (cmpL (L.getD k default).l (L.getD (k + 1) default).l < 0)) && decide (L.length ≤ 512)
theorem goodL_bad {L : List Sm} {k : Nat} (hk : k + 1 < L.length) (h : ¬ cmpL (L.getD k default).l (L.getD (k + 1) default).l < 0) : goodL L = false := by
  unfold goodL
  rw [Bool.and_eq_false_iff]
  left
  rw [List.all_eq_false]
  exact ⟨k, by simp; omega, by simpa using h⟩
theorem goodL_all {L : List Sm} (h : ∀ k, k + 1 < L.length → cmpL (L.getD k default).l (L.getD (k + 1) default).l < 0) : goodL L = decide (L.length ≤ 512) := by
  unfold goodL
  have : ((List.range (L.length - 1)).all fun k => decide (cmpL (L.getD k default).l (L.getD (k + 1) default).l < 0)) = true := by
    rw [List.all_eq_true]
    intro k hk
    have := h k (by simp at hk; omega)
    simpa using this
  rw [this, Bool.true_and]

set_option maxRecDepth 100000 in
theorem good_ty (L : List Sm) (hL : L.length ≤ 1000000) : Fn1 Try.prog 22 (Ty.sums 27 L) (Ty.ex (.bool (goodL L))) := by
  refine ⟨fun args w => by kernel_rfl, fun w v hv => ?_⟩
  refine enter_ty 24 [Ty.ex v] Try.func22 rfl (by kernel_rfl) ⟨rfl, trivial⟩ fun a hF => ?_
  have hB := Below.refl w.heap.size w
  repeat with_reducible refine wp_seq ?_
  refine' reg_all hF ?_ mixed (by kernel_rfl) ?_
  rotate_left
  · repeat (first | exact Line.nil | ((refine' Line.cons rfl (.run rfl rfl ?_) ?_); (any_goals exact cAssign rfl rfl); rotate_left))
  intro a w1 hF hb hN
  replace hB := hB.trans (hb.mono hB.size)
  dsimp only [ext, Option.getD] at hF
  repeat with_reducible first | refine wp_seq ?_ | refine nThen ?_
  refine' reg_all hF ?_ mixed (by kernel_rfl) ?_
  rotate_left
  · repeat (first | exact Line.nil | ((refine' Line.cons rfl (.run rfl rfl ?_) ?_); (any_goals exact cAssign rfl rfl); rotate_left))
  intro a w2 hF hb hN
  replace hB := hB.trans (hb.mono hB.size)
  dsimp only [ext, Option.getD] at hF
  repeat with_reducible first | refine nThen ?_ | refine wp_block ?_
  refine loop_ty (fun m a wr => ∃ k : Nat, k + m = L.length + 1 ∧ 1 ≤ k ∧ Fr 24 [(0, Ty.ex v), (3, Ty.ex (.int .i64 (k : Int)))] a wr ∧ Below w.heap.size w wr ∧ ∀ j, j + 1 < k → j + 1 < L.length → cmpL (L.getD j default).l (L.getD (j + 1) default).l < 0) L.length ?_ ?_
  · exact ⟨1, by omega, Nat.le_refl _, hF.keep [0, 3], hB, fun j hj => by omega⟩
  clear hF hB
  rintro m a wr ⟨k, hk, hk1, hF, hB, hlo⟩
  repeat with_reducible refine wp_seq ?_
  refine' reg_all hF ?_ mixed (by kernel_rfl) ?_
  rotate_left
  · repeat (first | exact Line.nil | ((refine' Line.cons rfl (.run rfl rfl ?_) ?_); (any_goals (first | exact cLenH rfl (.l rfl ((Ty.sums 27 L).below hv hB)) (Ty.sl_isSl _ _ _) Try.underlying51 | exact cMove rfl rfl | exact cLss rfl rfl rfl)); rotate_left))
  intro a w4 hF hb hN
  replace hB := hB.trans (hb.mono hB.size)
  dsimp only [ext, Option.getD] at hF
  repeat with_reducible refine nThen ?_
  refine cond_ty hF rfl (fun hlt => ?_) (fun hge => ?_)
  · have hlt : k < L.length := by simpa using hlt
    repeat with_reducible first | refine wp_seq ?_ | refine nThen ?_ | refine wp_skip ?_ | refine wp_block ?_
    refine' reg_all hF ?_ mixed (by kernel_rfl) ?_
    rotate_left
    · repeat (first | exact Line.nil | ((refine' Line.cons rfl (.run rfl rfl ?_) ?_); (any_goals (first | exact cSub (r := ((k - 1 : Nat) : Int)) rfl rfl rfl (by omega) | exact cIndexSum (k := k - 1) rfl (.l rfl ((Ty.sums 27 L).below hv hB)) rfl Try.underlying51 sizeS (by omega) | exact cIndexSum (k := k) rfl (.l rfl ((Ty.sums 27 L).below hv hB)) rfl Try.underlying51 sizeS hlt | exact cLoadSum rfl (.t rfl) Try.underlying27 sizeS | exact cCall2 rfl rfl rfl (cmp_ty _ _) | exact cMove rfl rfl | exact cGeq rfl rfl rfl)); rotate_left))
    intro a w5 hF hb hN
    replace hB := hB.trans (hb.mono hB.size)
    dsimp only [ext, Option.getD] at hF
    repeat with_reducible refine nThen ?_
    refine cond_ty hF rfl (fun hbad => ?_) (fun hok => ?_)
    · have hbad : ¬ cmpL (L.getD (k - 1) default).l (L.getD (k - 1 + 1) default).l < 0 := by
        rw [show k - 1 + 1 = k by omega]; have := of_decide_eq_true hbad; omega
      repeat with_reducible refine wp_seq ?_
      refine' reg_all hF ?_ mixed (by kernel_rfl) ?_
      rotate_left
      · repeat (first | exact Line.nil | ((refine' Line.cons rfl (.run rfl rfl ?_) ?_); (any_goals exact cAssign rfl rfl); rotate_left))
      intro a w6 hF hb hN
      replace hB := hB.trans (hb.mono hB.size)
      dsimp only [ext, Option.getD] at hF
      repeat with_reducible first | refine nThen ?_ | refine wp_ret ?_ | refine rThen ?_ | refine rBlk ?_
      refine ret1 hF rfl rfl fun z hz => ?_
      exact ⟨z, rfl, by rw [goodL_bad (by omega) hbad]; exact hz, hB⟩
    · have hok : cmpL (L.getD (k - 1) default).l (L.getD k default).l < 0 := by have := of_decide_eq_false hok; omega
      repeat with_reducible first | refine nThen ?_ | refine nBlk ?_ | refine wp_skip ?_
      refine' reg_all hF ?_ mixed (by kernel_rfl) ?_
      rotate_left
      · repeat (first | exact Line.nil | ((refine' Line.cons rfl (.run rfl rfl ?_) ?_); (any_goals (first | exact cAdd (r := ((k + 1 : Nat) : Int)) rfl rfl rfl (by omega) | exact cMove rfl rfl | exact cAssign rfl rfl)); rotate_left))
      intro a w6 hF hb hN
      replace hB := hB.trans (hb.mono hB.size)
      dsimp only [ext, Option.getD] at hF
      repeat with_reducible refine nThen ?_
      refine ⟨m - 1, by omega, k + 1, by omega, by omega, hF.keep [0, 3], hB, fun j hj hj2 => ?_⟩
      by_cases hjk : j + 1 < k
      · exact hlo j hjk hj2
      · obtain rfl : j = k - 1 := by omega
        rw [show k - 1 + 1 = k by omega]; exact hok
  · have hge : ¬ k < L.length := by simpa using hge
    repeat with_reducible first | refine wp_seq ?_ | refine nThen ?_ | refine wp_exit ?_ | refine xThen ?_ | refine xHere ?_
    refine' reg_all hF ?_ mixed (by kernel_rfl) ?_
    rotate_left
    · repeat (first | exact Line.nil | ((refine' Line.cons rfl (.run rfl rfl ?_) ?_); (any_goals (first | exact cLenH rfl (.l rfl ((Ty.sums 27 L).below hv hB)) (Ty.sl_isSl _ _ _) Try.underlying51 | exact cMove rfl rfl | exact cAssign rfl rfl | exact cLeq rfl rfl rfl)); rotate_left))
    intro a w5 hF hb hN
    replace hB := hB.trans (hb.mono hB.size)
    dsimp only [ext, Option.getD] at hF
    repeat with_reducible first | refine nThen ?_ | refine wp_ret ?_
    refine ret1 hF rfl rfl fun z hz => ?_
    refine ⟨z, rfl, ?_, hB⟩
    rw [goodL_all fun j hj => hlo j (by omega) hj]
    have hz : z = .bool (decide ((L.length : Int) ≤ 512)) := hz
    rw [hz]
    show _ = _
    congr 2
    simp
    omega
end Go.Proofs.Ytbjlmhbpcopfbaa

/- Layer 10: the walks of Equal, Same; of the document's own Same, Has. -/
namespace Go.Proofs.Ytbjlmhbpcopfbaa
open Go.RowKit

theorem mem_get {L : List Sm} {x : Sm} : x ∈ L ↔ ∃ j, j < L.length ∧ L.getD j default = x := by
  constructor
  · intro h
    obtain ⟨j, hj, rfl⟩ := List.getElem_of_mem h
    exact ⟨j, hj, by simp [List.getD, List.getElem?_eq_getElem hj]⟩
  · rintro ⟨j, hj, rfl⟩
    simp only [List.getD, List.getElem?_eq_getElem hj, Option.getD_some]
    exact List.getElem_mem hj
end Go.Proofs.Ytbjlmhbpcopfbaa

/- Layer 10: the walks of Clone, Grow, Concat. -/
namespace Go.Proofs.Ytbjlmhbpcopfbaa
open Go.RowKit

set_option maxRecDepth 100000 in
theorem cloneS_ty (L : List Sm) (hL : L.length ≤ 1000000) : FnSeg1 Try.prog 39 (Ty.sums 27 L) 27 32 L.length (flat L) := by
  refine ⟨fun args w => by kernel_rfl, fun w v hv => ?_⟩
  have hv' := hv
  obtain ⟨A, c, rfl, hnc, hcm, hA, hr⟩ := hv'
  refine enter_ty 8 [Ty.ex (.slice A L.length c)] Try.func39 rfl (by kernel_rfl) ⟨rfl, trivial⟩ fun a hF => ?_
  have hB := Below.refl w.heap.size w
  repeat with_reducible refine wp_seq ?_
  refine' reg_all hF ?_ mixed (by kernel_rfl) ?_
  rotate_left
  · repeat (first | exact Line.nil | ((refine' Line.cons rfl (.run rfl rfl ?_) ?_); (any_goals exact cAssign rfl rfl); rotate_left))
  intro a w1 hF hb hN
  have hBs := hB.size
  replace hB := hB.trans (hb.mono hB.size)
  dsimp only [ext, Option.getD] at hF
  repeat with_reducible first | refine wp_seq ?_ | refine nThen ?_
  refine' reg_all hF ?_ mixed (by kernel_rfl) ?_
  rotate_left
  · repeat (first | exact Line.nil | ((refine' Line.cons rfl (.run rfl rfl ?_) ?_); (any_goals (first | exact cEqlNil rfl rfl Try.underlying35 | exact cMove rfl rfl)); rotate_left))
  intro a w2 hF hb hN
  have hBs := hB.size
  replace hB := hB.trans (hb.mono hB.size)
  dsimp only [ext, Option.getD] at hF
  repeat with_reducible refine nThen ?_
  refine cond_ty hF rfl (fun h0 => ?_) (fun h1 => ?_)
  · have h0 : A = none := by cases A <;> simp at h0 ⊢
    have hl : L = [] := List.eq_nil_of_length_eq_zero (hA h0).1
    subst hl
    repeat with_reducible refine wp_seq ?_
    refine' reg_all hF ?_ mixed (by kernel_rfl) ?_
    rotate_left
    · repeat (first | exact Line.nil | ((refine' Line.cons rfl (.run rfl rfl ?_) ?_); (any_goals exact cAssign rfl rfl); rotate_left))
    intro a w3 hF hb hN
    have hBs := hB.size
    replace hB := hB.trans (hb.mono hB.size)
    dsimp only [ext, Option.getD] at hF
    repeat with_reducible first | refine nThen ?_ | refine wp_ret ?_ | refine rThen ?_
    refine ret1 hF rfl rfl fun z hz => ?_
    have hz : z = .slice none 0 0 := hz
    subst hz
    exact ⟨_, rfl, ⟨[], Seg.nil _ _ _, by simp⟩, hB⟩
  · repeat with_reducible first | refine wp_seq ?_ | refine nThen ?_ | refine wp_skip ?_
    refine' region_ty 2 mixed (by kernel_rfl) hF ?_ ?_
    rotate_left
    · simp only [List.take_succ_cons, List.take_zero]
      repeat (first | exact Line.nil | ((refine' Line.cons rfl (.run rfl rfl ?_) ?_); (any_goals (first | exact cBuild0 rfl Try.underlying35 infoS | exact cMove rfl rfl)); rotate_left))
    intro a w3 hF hb hN
    have hBs := hB.size
    replace hB := hB.trans (hb.mono hB.size)
    simp only [List.take_succ_cons, List.take_zero, List.drop_succ_cons, List.drop_zero] at hF hN ⊢
    dsimp only [ext, Option.getD] at hF
    obtain ⟨u, ⟨S, hseg, hS⟩, hF⟩ := hF.open (s := 5) rfl
    refine tlAppend (Δ := []) hF rfl rfl rfl rfl Try.underlying35 infoS zero32_size rfl hseg (.l (v := .slice A L.length c) rfl ((Ty.sums 27 L).below hv hB)) sl_news (flat_len _) flat_one' (by simp [maxLen]; omega) (by simp; omega) hF.nil rfl ?_
    intro a w4 u' S' hF hseg' hk2 hS'
    have hbS : ∀ y ∈ S', w.heap.size ≤ y := own_next hB (fun y hy => Nat.le_trans hBs (hS y hy)) hS'
    replace hB := below_own hB hk2 (fun y hy => Nat.le_trans hBs (hS y hy))
    refine' tlOp hF rfl rfl rfl ?_ ?_
    rotate_left
    · exact cAssign rfl rfl
    intro a w5 hF hb
    have hBs := hB.size
    replace hB := hB.trans (hb.mono hB.size)
    try (refine wpList_nil ?_)
    repeat with_reducible first | refine nThen ?_ | refine wp_ret ?_
    refine ret1 hF rfl rfl fun z hz => ?_
    have hz : z = u' := hz
    subst hz
    rw [Nat.zero_add, List.nil_append] at hseg'
    exact ⟨_, rfl, ⟨S', hseg'.below hb, hbS⟩, hB⟩
theorem zeroS_one : ∀ u ∈ (Value.agg (u8s (List.replicate 32 0))).cells.toList, u.oneCell' = true := by
  intro u hu
  have h : u ∈ (u8s (List.replicate 32 0)).toList := hu
  rw [u8s_list] at h
  obtain ⟨b, _, rfl⟩ := List.mem_map.1 h
  rfl
end Go.Proofs.Ytbjlmhbpcopfbaa

/- The library's contracts, laid at this translation. -/
namespace Go.Proofs.Ytbjlmhbpcopfbaa
open Go.RowKit Go.Shelf

def laysSortS_ren : Go.Shelf.Ren := ⟨fun | 6 => 40 | 15 => 55 | 14 => 54 | 28 => 70 | 29 => 71 | 20 => 62 | 21 => 63 | 22 => 64 | 23 => 65 | 24 => 66 | 25 => 67 | 26 => 68 | 27 => 69 | 46 => 75 | 47 => 76 | 48 => 77 | 49 => 78 | 50 => 79 | 57 => 83 | n => n, fun | 22 => 35 | 24 => 27 | 25 => 83 | 3 => 3 | 39 => 88 | 0 => 0 | 53 => 72 | 55 => 63 | 4 => 4 | 46 => 107 | 45 => 106 | 50 => 111 | 5 => 5 | 9 => 9 | 66 => 119 | 70 => 123 | 76 => 130 | 77 => 131 | n => n, fun | n => n⟩
theorem laysSortS : Go.Proofs.SlLaysF0.n6 Try.prog laysSortS_ren := {
  mixed := by kernel_rfl
  f6 := ⟨Try.f40.name, by decide, Try.func40.trans (congrArg some (by kernel_rfl))⟩
  f14 := ⟨Try.f54.name, by decide, Try.func54.trans (congrArg some (by kernel_rfl))⟩
  f15 := Try.func55.trans (congrArg some (by kernel_rfl))
  f20 := ⟨Try.f62.name, by decide, Try.func62.trans (congrArg some (by kernel_rfl))⟩
  f21 := ⟨Try.f63.name, by decide, Try.func63.trans (congrArg some (by kernel_rfl))⟩
  f22 := ⟨Try.f64.name, by decide, Try.func64.trans (congrArg some (by kernel_rfl))⟩
  f23 := ⟨Try.f65.name, by decide, Try.func65.trans (congrArg some (by kernel_rfl))⟩
  f24 := ⟨Try.f66.name, by decide, Try.func66.trans (congrArg some (by kernel_rfl))⟩
  f25 := ⟨Try.f67.name, by decide, Try.func67.trans (congrArg some (by kernel_rfl))⟩
  f26 := ⟨Try.f68.name, by decide, Try.func68.trans (congrArg some (by kernel_rfl))⟩
  f27 := ⟨Try.f69.name, by decide, Try.func69.trans (congrArg some (by kernel_rfl))⟩
  f28 := Try.func70.trans (congrArg some (by kernel_rfl))
  f29 := Try.func71.trans (congrArg some (by kernel_rfl))
  f46 := ⟨Try.f75.name, by decide, Try.func75.trans (congrArg some (by kernel_rfl))⟩
  f47 := Try.func76.trans (congrArg some (by kernel_rfl))
  f48 := Try.func77.trans (congrArg some (by kernel_rfl))
  f49 := ⟨Try.f78.name, by decide, Try.func78.trans (congrArg some (by kernel_rfl))⟩
  f50 := ⟨Try.f79.name, by decide, Try.func79.trans (congrArg some (by kernel_rfl))⟩
  f57 := ⟨Try.f83.name, by decide, Try.func83.trans (congrArg some (by kernel_rfl))⟩
  t0 := Try.underlying0
  a0 := Try.isAgg0
  z0 := Try.sizeOf0
  v0 := Try.zeroValue0
  t3 := Try.underlying3
  a3 := Try.isAgg3
  z3 := Try.sizeOf3
  v3 := Try.zeroValue3
  t4 := Try.underlying4
  a4 := Try.isAgg4
  z4 := Try.sizeOf4
  v4 := Try.zeroValue4
  t5 := Try.underlying5
  a5 := Try.isAgg5
  z5 := Try.sizeOf5
  v5 := Try.zeroValue5
  t9 := Try.underlying9
  a9 := Try.isAgg9
  z9 := Try.sizeOf9
  v9 := Try.zeroValue9
  t22 := Try.underlying35
  a22 := Try.isAgg35
  z22 := Try.sizeOf35
  v22 := Try.zeroValue35
  t25 := Try.underlying83
  a25 := Try.isAgg83
  z25 := Try.sizeOf83
  v25 := Try.zeroValue83
  t39 := Try.underlying88
  a39 := Try.isAgg88
  z39 := Try.sizeOf88
  v39 := Try.zeroValue88
  t45 := Try.underlying106
  a45 := Try.isAgg106
  z45 := Try.sizeOf106
  v45 := Try.zeroValue106
  t46 := Try.underlying107
  a46 := Try.isAgg107
  z46 := Try.sizeOf107
  v46 := Try.zeroValue107
  t50 := Try.underlying111
  a50 := Try.isAgg111
  z50 := Try.sizeOf111
  v50 := Try.zeroValue111
  t53 := Try.underlying72
  a53 := Try.isAgg72
  z53 := Try.sizeOf72
  v53 := Try.zeroValue72
  t55 := Try.underlying63
  a55 := Try.isAgg63
  z55 := Try.sizeOf63
  v55 := Try.zeroValue63
  t66 := Try.underlying119
  a66 := Try.isAgg119
  z66 := Try.sizeOf119
  v66 := Try.zeroValue119
  t70 := Try.underlying123
  a70 := Try.isAgg123
  z70 := Try.sizeOf123
  v70 := Try.zeroValue123
  t76 := Try.underlying130
  a76 := Try.isAgg130
  z76 := Try.sizeOf130
  v76 := Try.zeroValue130
  t77 := Try.underlying131
  a77 := Try.isAgg131
  z77 := Try.sizeOf131
  v77 := Try.zeroValue131 }
end Go.Proofs.Ytbjlmhbpcopfbaa

/- Layer 10: SortFunc by the library's contract; Compact; Of. -/
namespace Go.Proofs.Ytbjlmhbpcopfbaa
open Go.RowKit

theorem rd_box {w : World} {g : Nat} {t : TypeId} {l : List Nat} (h : Blk w g t (u8s l)) : Rd w (some ⟨g, 0, none⟩) (l.map bv) := by
  have := Rd.of_blk0 h
  simpa [u8s] using this
set_option maxRecDepth 100000 in
/-- Sum.Cmp, its world to the letter. -/
theorem cmpW (x y : Sm) (w : World) : Calls Try.prog 37 #[.agg (u8s x.l), .agg (u8s y.l)] w fun e w' => e = .returned (.int .i64 (cmpL x.l y.l)) ∧ ∃ q os, w' = Sort.grow (w.drewN q) os := by
  have h0 : Blk ((w.alloc (.cells (u8s x.l) 27)).alloc (.cells (u8s y.l) 27)) w.heap.size 27 (u8s x.l) := (Blk.new w _ _).alloc _
  have h1 : Blk ((w.alloc (.cells (u8s x.l) 27)).alloc (.cells (u8s y.l) 27)) (w.heap.size + 1) 27 (u8s y.l) := Blk.newAt (w.alloc _) _ _ _ (by simp)
  have hc : ∀ n, Calls Try.prog 52 #[.slice (some ⟨w.heap.size, 0, none⟩) 32 32, .slice (some ⟨w.heap.size + 1, 0, none⟩) 32 32] (((w.alloc (.cells (u8s x.l) 27)).alloc (.cells (u8s y.l) 27)).drewN n)
      fun e w' => e = .returned (.int .i64 (cmpL x.l y.l)) ∧ w' = (((w.alloc (.cells (u8s x.l) 27)).alloc (.cells (u8s y.l) 27)).drewN n) := fun n =>
    Compare_any _ _ 32 32 32 32 x.l y.l _ x.len y.len (rd_box (h0.drewN n)) (rd_box (h1.drewN n)) (by simp) (by simp) x.lt y.lt
  have HC := Lib.hid hc
  clear hc h0 h1
  generalize cmpL x.l y.l = r at *
  go_enter Try.func37, Try.ntmps37
  go_wp2_with fail
  go_quiet ((go_at_call 52; exact Calls.quiet_of_same (HC.out _)))
  go_wp2_with fail
  go_ret
  exact ⟨rfl, _, _, by rw [Sort.alloc_eq_grow, Sort.alloc_eq_grow, Sort.grow_grow]; rfl⟩

/-! ### Sorted -/
def ltS (x y : Sm) : Bool := decide (cmpL x.l y.l < 0)
def sortL (D : List Sm) : List Sm := D.mergeSort fun x y => !ltS y x
theorem sortL_len (D : List Sm) : (sortL D).length = D.length := by simp [sortL]
theorem ltS_swo : Sort.SWO (ltOf fun x y : Sm => cmpL x.l y.l) where
  irrefl x := by
    show decide (cmpL x.l x.l < 0) = false
    rw [(cmpL_eq x.l x.l).2 rfl]
    rfl
  trans x y z h1 h2 := by
    unfold ltOf at *
    simp only [decide_eq_true_eq] at *
    exact (cmpL_trans x.l y.l z.l (by omega) (by omega)).2 (.inl h1)
  ntrans x y z h1 h2 := by
    unfold ltOf at *
    simp only [decide_eq_false_iff_not] at *
    have s1 := cmpL_swap x.l y.l
    have s2 := cmpL_swap y.l z.l
    have s3 := cmpL_swap x.l z.l
    have := (cmpL_trans z.l y.l x.l (by omega) (by omega)).1
    omega
theorem flatK_flat (D : List Sm) : Sort.flatK Sm.enc 32 D.toArray = (flat D).toArray := by
  refine Sort.ext_get! (by simp [flat_len]) fun t ht => ?_
  have ht' : t < D.length * 32 := by simpa using ht
  have hq : t / 32 < D.length := by omega
  rw [Sort.get_flatK _ _ _ _ (by simpa using ht')]
  have e1 : D.toArray[t / 32]! = D.getD (t / 32) default := by simp [List.getD, hq]
  have hfl := flat_at D hq
  have hg : (flat D)[t]? = (D.getD (t / 32) default).enc[t % 32]? := by
    have h1 : ((flat D).drop (t / 32 * 32))[t % 32]? = (flat D)[t]? := by rw [List.getElem?_drop]; congr 1; omega
    rw [← h1, hfl, List.getElem?_append_left (by rw [enc_len]; omega)]
  rw [e1]
  have h2 : t % 32 < (D.getD (t / 32) default).enc.length := by rw [enc_len]; omega
  have h3 : t < (flat D).length := by rw [flat_len]; exact ht'
  rw [getElem!_pos (D.getD (t / 32) default).enc (t % 32) h2]
  rw [getElem!_pos (flat D).toArray t (by simpa using h3)]
  rw [List.getElem?_eq_getElem h3, List.getElem?_eq_getElem h2] at hg
  injection hg with hg
  simpa using hg.symm
theorem holds_seg {w : World} {e : TypeId} {g off cap : Nat} {D : List Sm} (h : SegL w e 32 g off D.length cap (flat D)) : Sort.HoldsK Sm.enc 32 w g off D.toArray := by
  obtain ⟨hl, hn, hm, cs, hb, hs, hx⟩ := h
  unfold Sort.HoldsK
  rw [flatK_flat]
  intro j hj
  have hj' : j < (flat D).length := by simpa using hj
  have hj2 : j < D.length * 32 := by rw [← flat_len]; exact hj'
  refine ⟨?_, hb.frozen _⟩
  rw [hb.cell, hx j hj2, List.getElem?_eq_getElem hj', getElem!_pos (flat D).toArray j hj]
  simp
theorem seg_sorted {w : World} {e : TypeId} {g off cap n : Nat} {D : List Sm} (D' : List Sm) (os : Array Obj) (h : SegL w e 32 g off D.length cap (flat D)) (hl' : D'.length = D.length) :
    SegL (sortWorldK Sm.enc 32 w g off n D'.toArray os) e 32 g off D.length cap (flat D') ∧ Keeps [g] w (sortWorldK Sm.enc 32 w g off n D'.toArray os) := by
  obtain ⟨hl, hn, hm, cs, hb, hs, hx⟩ := h
  have hle : D.length * 32 ≤ cap * 32 := Nat.mul_le_mul_right _ hn
  unfold sortWorldK Sort.putRowK
  rw [flatK_flat]
  have hfl : (flat D').length = D.length * 32 := by rw [flat_len, hl']
  have hsz : ∀ W : World, (Sort.putRow id W g off (flat D').toArray).heap.size = W.heap.size := fun W => Sort.size_putRow id W g off _
  have hblk : (Sort.grow (Sort.putRow id (Sort.ahead w n) g off (flat D').toArray) os).heap[g]? = some (.cells (Sort.putCells id off (flat D').toArray cs) e (0, 0)) := by
    have hgl : g < (Sort.putRow id (Sort.ahead w n) g off (flat D').toArray).heap.size := by rw [hsz]; exact hb.lt
    unfold Sort.grow
    simp only []
    rw [Array.getElem?_append_left hgl]
    unfold Sort.putRow Sort.mapBlock
    simp only [Array.getElem?_modify, if_true]
    have : (Sort.ahead w n).heap[g]? = w.heap[g]? := rfl
    rw [this]
    unfold Blk at hb
    rw [hb]
    rfl
  refine ⟨⟨hfl, hn, hm, _, hblk, by simpa [Sort.putCells] using hs, fun j hj => ?_⟩, ⟨rfl, rfl, rfl, ?_, fun k hk hne => ?_⟩⟩
  · unfold Sort.putCells
    have hoj : off + j < cs.size := by omega
    rw [Array.getElem?_mapIdx, Array.getElem?_eq_getElem hoj]
    simp only [Option.map_some]
    have hjf : j < (flat D').length := by omega
    rw [if_pos (by simp; omega), show off + j - off = j by omega, getElem!_pos (flat D').toArray j (by simpa using hjf), List.getElem?_eq_getElem hjf]
    simp
  · show w.heap.size ≤ ((Sort.putRow id (Sort.ahead w n) g off (flat D').toArray).heap ++ os).size
    rw [Array.size_append, hsz]
    exact Nat.le_add_right _ _
  · show ((Sort.putRow id (Sort.ahead w n) g off (flat D').toArray).heap ++ os)[k]? = w.heap[k]?
    rw [Array.getElem?_append_left (by rw [hsz]; exact hk)]
    unfold Sort.putRow Sort.mapBlock
    simp only [Array.getElem?_modify]
    rw [if_neg (fun h => hne (by simp [h]))]
    rfl
theorem sort_any (D : List Sm) (w : World) (g off cap : Nat) (hs : SegL w 27 32 g off D.length cap (flat D)) (hD : D.length ≤ 1000000) :
    Calls Try.prog 40 #[.slice (some ⟨g, off, none⟩) D.length cap, .func (.func 37) #[] #[]] w fun e w' => ∃ u, e = .returned u ∧ SegL w' 27 32 g off D.length cap (flat (sortL D)) ∧ Keeps [g] w w' := by
  have h := AnyQ.slices_SortFunc_total laysSortS 32 Try.isAgg27 Try.sizeOf27 Sm.enc enc_len (fun x v hv => enc_one x v hv) (fun x y : Sm => cmpL x.l y.l) ltS_swo 37 #[] g off cap D.toArray w (fun args w => by kernel_rfl)
    (fun _ _ _ _ x y => cmpW x y _) (holds_seg hs) hs.lt (by simp; omega) (fun x y h1 h2 => by
      unfold ltOf at h1 h2
      simp only [decide_eq_false_iff_not] at h1 h2
      have h3 := cmpL_swap x.l y.l
      exact Sm.ext_l ((cmpL_eq x.l y.l).1 (by omega)))
  refine Calls.mono h fun e w' ⟨he, n, os, hw⟩ => ⟨_, he, ?_⟩
  subst hw
  exact seg_sorted (sortL D) os hs (sortL_len D)
theorem sort_none (w : World) : Calls Try.prog 40 #[.slice none 0 0, .func (.func 37) #[] #[]] w fun e w' => ∃ u, e = .returned u ∧ w' = w :=
  Calls.mono (AnyF.slices_SortFunc_none laysSortS none 0 (.func (.func 37) #[] #[]) w) fun _ _ ⟨h1, h2⟩ => ⟨_, h1, h2⟩
end Go.Proofs.Ytbjlmhbpcopfbaa

/- Layer 10: the walks of Compact, Of. -/
namespace Go.Proofs.Ytbjlmhbpcopfbaa
open Go.RowKit

/-- The first m, of alike neighbours only the first. -/
def ddL (D : List Sm) : Nat → List Sm
  | 0 => []
  | m + 1 => if m = 0 ∨ ¬ D.getD m default = D.getD (m - 1) default then ddL D m ++ [D.getD m default] else ddL D m
theorem ddL_le (D : List Sm) : ∀ m, (ddL D m).length ≤ m
  | 0 => Nat.le_refl _
  | m + 1 => by
    have := ddL_le D m
    unfold ddL
    split
    · simp; omega
    · omega
theorem ddL_new {D : List Sm} {m : Nat} (h : m = 0 ∨ ¬ D.getD m default = D.getD (m - 1) default) : ddL D (m + 1) = ddL D m ++ [D.getD m default] := by
  rw [ddL, if_pos h]
theorem ddL_old {D : List Sm} {m : Nat} (h0 : m ≠ 0) (h : D.getD m default = D.getD (m - 1) default) : ddL D (m + 1) = ddL D m := by
  rw [ddL, if_neg (by rintro (h1 | h1); exact h0 h1; exact h1 h)]
theorem take_snoc' (D : List Sm) {m : Nat} (h : m < D.length) : D.take (m + 1) = D.take m ++ [D.getD m default] := by
  rw [List.take_succ_eq_append_getElem h]
  simp [List.getD, List.getElem?_eq_getElem h]
theorem getD_set (D : List Sm) {i j : Nat} (x : Sm) (hi : i < D.length) : (D.set i x).getD j default = if i = j then x else D.getD j default := by
  simp only [List.getD, List.getElem?_set]
  by_cases h : i = j
  · subst h; simp [hi]
  · simp [h]
theorem getD_drop (D : List Sm) (k j : Nat) : (D.drop k).getD j default = D.getD (k + j) default := by
  simp [List.getD, List.getElem?_drop]

set_option maxRecDepth 100000 in
set_option maxHeartbeats 2000000 in
theorem compact_any (D : List Sm) (w : World) (g off cap : Nat) (hs0 : SegL w 27 32 g off D.length cap (flat D)) (hD : D.length ≤ 1000000) :
    Calls Try.prog 41 #[.slice (some ⟨g, off, none⟩) D.length cap] w fun e w' => ∃ k, e = .returned (.slice (some ⟨g, off, none⟩) k cap) ∧ k = (ddL D D.length).length ∧ SegL w' 27 32 g off k cap (flat (ddL D D.length)) ∧ Keeps [g] w w' := by
  have hcap : D.length ≤ cap := hs0.2.1
  refine enter_ty 61 [Ty.ex (.slice (some ⟨g, off, none⟩) D.length cap)] Try.func41 rfl (by kernel_rfl) ⟨rfl, trivial⟩ fun a hF => ?_
  have hB := Below.refl w.heap.size w
  repeat with_reducible refine wp_seq ?_
  refine' reg_all hF ?_ mixed (by kernel_rfl) ?_
  rotate_left
  · repeat (first | exact Line.nil | ((refine' Line.cons rfl (.run rfl rfl ?_) ?_); (any_goals exact cAssign rfl rfl); rotate_left))
  intro a w1 hF hb hN
  have hBs := hB.size
  replace hB := hB.trans (hb.mono hB.size)
  dsimp only [ext, Option.getD] at hF
  repeat with_reducible first | refine wp_seq ?_ | refine nThen ?_
  refine' reg_all hF ?_ mixed (by kernel_rfl) ?_
  rotate_left
  · repeat (first | exact Line.nil | ((refine' Line.cons rfl (.run rfl rfl ?_) ?_); (any_goals (first | exact cLenEx rfl rfl Try.underlying35 | exact cMove rfl rfl | exact cLss rfl rfl rfl)); rotate_left))
  intro a w2 hF hb hN
  have hBs := hB.size
  replace hB := hB.trans (hb.mono hB.size)
  dsimp only [ext, Option.getD] at hF
  repeat with_reducible refine nThen ?_
  refine cond_ty hF rfl (fun h0 => ?_) (fun h1 => ?_)
  · have h0 := of_decide_eq_true h0
    have hdd : ddL D D.length = D := by
      match D, h0 with
      | [], _ => rfl
      | [x], _ => simp [ddL]
      | x :: y :: r, h => simp at h; omega
    repeat with_reducible refine wp_seq ?_
    refine' reg_all hF ?_ mixed (by kernel_rfl) ?_
    rotate_left
    · repeat (first | exact Line.nil | ((refine' Line.cons rfl (.run rfl rfl ?_) ?_); (any_goals (first | exact cMove rfl rfl | exact cAssign rfl rfl)); rotate_left))
    intro a w3 hF hb hN
    have hBs := hB.size
    replace hB := hB.trans (hb.mono hB.size)
    dsimp only [ext, Option.getD] at hF
    repeat with_reducible first | refine nThen ?_ | refine wp_ret ?_ | refine rThen ?_
    refine ret1 hF rfl rfl fun z hz => ?_
    have hz : z = .slice (some ⟨g, off, none⟩) D.length cap := hz
    subst hz
    rw [hdd]
    exact ⟨D.length, rfl, rfl, hs0.below hB, Keeps.of_below hB⟩
  have h1 := of_decide_eq_false h1
  repeat with_reducible first | refine wp_seq ?_ | refine nThen ?_ | refine wp_skip ?_
  refine' reg_all hF ?_ mixed (by kernel_rfl) ?_
  rotate_left
  · repeat (first | exact Line.nil | ((refine' Line.cons rfl (.run rfl rfl ?_) ?_); (any_goals exact cAssign rfl rfl); rotate_left))
  intro a w3 hF hb hN
  have hBs := hB.size
  replace hB := hB.trans (hb.mono hB.size)
  dsimp only [ext, Option.getD] at hF
  repeat with_reducible first | refine nThen ?_ | refine wp_block ?_
  refine loop_ty (fun m a wr => ∃ k : Nat, k + m = D.length ∧ 1 ≤ k ∧ Fr 61 [(0, Ty.ex (.slice (some ⟨g, off, none⟩) D.length cap)), (3, Ty.ex (.int .i64 (k : Int)))] a wr ∧ Below w.heap.size w wr ∧ ddL D k = D.take k) (D.length - 1) ?_ ?_
  · refine ⟨1, by omega, Nat.le_refl _, hF.keep [0, 3], hB, ?_⟩
    rw [ddL_new (.inl rfl), take_snoc' D (by omega)]
    rfl
  clear hF hB
  rintro m a wr ⟨k, hk, hk1, hF, hB, hdd⟩
  repeat with_reducible refine wp_seq ?_
  refine' reg_all hF ?_ mixed (by kernel_rfl) ?_
  rotate_left
  · repeat (first | exact Line.nil | ((refine' Line.cons rfl (.run rfl rfl ?_) ?_); (any_goals (first | exact cLenEx rfl rfl Try.underlying35 | exact cMove rfl rfl | exact cLss rfl rfl rfl)); rotate_left))
  intro a w4 hF hb hN
  have hBs := hB.size
  replace hB := hB.trans (hb.mono hB.size)
  dsimp only [ext, Option.getD] at hF
  repeat with_reducible refine nThen ?_
  refine cond_ty hF rfl (fun hlt => ?_) (fun hge => ?_)
  rotate_left
  · have hge : ¬ k < D.length := by simpa using hge
    obtain rfl : k = D.length := by omega
    rw [List.take_length] at hdd
    repeat with_reducible first | refine wp_seq ?_ | refine nThen ?_ | refine wp_exit ?_ | refine xThen ?_ | refine xHere ?_
    refine' reg_all hF ?_ mixed (by kernel_rfl) ?_
    rotate_left
    · repeat (first | exact Line.nil | ((refine' Line.cons rfl (.run rfl rfl ?_) ?_); (any_goals (first | exact cMove rfl rfl | exact cAssign rfl rfl)); rotate_left))
    intro a w5 hF hb hN
    have hBs := hB.size
    replace hB := hB.trans (hb.mono hB.size)
    dsimp only [ext, Option.getD] at hF
    repeat with_reducible first | refine nThen ?_ | refine wp_ret ?_
    refine ret1 hF rfl rfl fun z hz => ?_
    have hz : z = .slice (some ⟨g, off, none⟩) D.length cap := hz
    subst hz
    rw [hdd]
    exact ⟨D.length, rfl, rfl, hs0.below hB, Keeps.of_below hB⟩
  have hlt : k < D.length := by simpa using hlt
  have hsl : (Ty.sums 27 D).p w4 (.slice (some ⟨g, off, none⟩) D.length cap) := (hs0.below hB).sl
  repeat with_reducible first | refine wp_seq ?_ | refine nThen ?_ | refine wp_skip ?_ | refine wp_block ?_
  refine' reg_all hF ?_ mixed (by kernel_rfl) ?_
  rotate_left
  · repeat (first | exact Line.nil | ((refine' Line.cons rfl (.run rfl rfl ?_) ?_); (any_goals (first | exact cSub (r := ((k - 1 : Nat) : Int)) rfl rfl rfl (by omega) | exact cIndexSum (k := k - 1) rfl (.l rfl hsl) rfl Try.underlying35 sizeS (by omega) | exact cIndexSum (k := k) rfl (.l rfl hsl) rfl Try.underlying35 sizeS hlt | exact cLoadSum rfl (.t rfl) Try.underlying27 sizeS | exact cEqlAgg rfl rfl rfl guardS (eqlS _ _) | exact cMove rfl rfl)); rotate_left))
  intro a w5 hF hb hN
  have hBs := hB.size
  replace hB := hB.trans (hb.mono hB.size)
  dsimp only [ext, Option.getD] at hF
  repeat with_reducible refine nThen ?_
  refine cond_ty hF rfl (fun hdup => ?_) (fun hnew => ?_)
  rotate_left
  · have hnew : ¬ D.getD k default = D.getD (k - 1) default := by simpa using hnew
    repeat with_reducible first | refine nThen ?_ | refine nBlk ?_ | refine wp_skip ?_
    refine' reg_all hF ?_ mixed (by kernel_rfl) ?_
    rotate_left
    · repeat (first | exact Line.nil | ((refine' Line.cons rfl (.run rfl rfl ?_) ?_); (any_goals (first | exact cAdd (r := ((k + 1 : Nat) : Int)) rfl rfl rfl (by omega) | exact cMove rfl rfl | exact cAssign rfl rfl)); rotate_left))
    intro a w6 hF hb hN
    have hBs := hB.size
    replace hB := hB.trans (hb.mono hB.size)
    dsimp only [ext, Option.getD] at hF
    repeat with_reducible refine nThen ?_
    refine ⟨m - 1, by omega, k + 1, by omega, by omega, hF.keep [0, 3], hB, ?_⟩
    rw [ddL_new (.inr hnew), hdd, take_snoc' D hlt]
  have hdup : D.getD k default = D.getD (k - 1) default := by simpa using hdup
  repeat with_reducible refine wp_seq ?_
  refine' reg_all hF ?_ mixed (by kernel_rfl) ?_
  rotate_left
  · repeat (first | exact Line.nil | ((refine' Line.cons rfl (.run rfl rfl ?_) ?_); (any_goals (first | exact cSliceLoEx rfl rfl rfl Try.underlying35 sizeS hlt hcap | exact cMove rfl rfl | exact cAssign rfl rfl)); rotate_left))
  intro a w6 hF hb hN
  have hBs := hB.size
  replace hB := hB.trans (hb.mono hB.size)
  dsimp only [ext, Option.getD] at hF
  repeat with_reducible first | refine wp_seq ?_ | refine nThen ?_
  refine' reg_all hF ?_ mixed (by kernel_rfl) ?_
  rotate_left
  · repeat (first | exact Line.nil | ((refine' Line.cons rfl (.run rfl rfl ?_) ?_); (any_goals exact cAssign rfl rfl); rotate_left))
  intro a w7 hF hb hN
  have hBs := hB.size
  replace hB := hB.trans (hb.mono hB.size)
  dsimp only [ext, Option.getD] at hF
  repeat with_reducible first | refine nThen ?_ | refine wp_block ?_
  refine loop_ty (fun m a wr => ∃ (q j : Nat) (E : List Sm), k + q + m = D.length ∧ 1 ≤ q ∧ E.length = D.length ∧ j = (ddL D (k + q)).length ∧ j ≤ k + q - 1 ∧ E.take j = ddL D (k + q) ∧ (∀ i, k + q - 1 ≤ i → E.getD i default = D.getD i default) ∧
      Fr 61 [(0, Ty.ex (.slice (some ⟨g, off, none⟩) D.length cap)), (4, Ty.ex (.slice (some ⟨g, off + k * 32, none⟩) (D.length - k) (cap - k))), (3, Ty.ex (.int .i64 (j : Int))), (5, Ty.ex (.int .i64 (q : Int)))] a wr ∧ SegL wr 27 32 g off D.length cap (flat E) ∧ Keeps [g] w wr) (D.length - (k + 1)) ?_ ?_
  · refine ⟨1, k, D, by omega, Nat.le_refl _, rfl, ?_, by omega, ?_, fun i _ => rfl, hF.keep [0, 4, 3, 5], hs0.below hB, Keeps.of_below hB⟩
    · rw [ddL_old (by omega) hdup, hdd]; simp; omega
    · rw [ddL_old (by omega) hdup, hdd]
  clear hF hB hsl hs0
  rintro m a wr ⟨q, j, E, hq, hq1, hE, hj, hjle, hjt, hsame, hF, hseg, hKw⟩
  have hB := Below.refl wr.heap.size wr
  have hs2 : (Ty.sums 27 (E.drop k)).p wr (.slice (some ⟨g, off + k * 32, none⟩) (D.length - k) (cap - k)) := by
    have h := hseg.drop_sl (k := k) (by omega)
    rw [flat_drop] at h
    show SlP _ _ _ (E.drop k).length _
    rw [List.length_drop, hE]
    exact h
  repeat with_reducible refine wp_seq ?_
  refine' reg_all hF ?_ mixed (by kernel_rfl) ?_
  rotate_left
  · repeat (first | exact Line.nil | ((refine' Line.cons rfl (.run rfl rfl ?_) ?_); (any_goals (first | exact cLenEx rfl rfl Try.underlying35 | exact cMove rfl rfl | exact cLss rfl rfl rfl)); rotate_left))
  intro a w8 hF hb hN
  have hBs := hB.size
  replace hB := hB.trans (hb.mono hB.size)
  dsimp only [ext, Option.getD] at hF
  repeat with_reducible refine nThen ?_
  refine cond_ty hF rfl (fun hlt2 => ?_) (fun hge2 => ?_)
  rotate_left
  · have hge2 : ¬ q < D.length - k := by simpa using hge2
    have hend : k + q = D.length := by omega
    rw [hend] at hj hjt
    have hjn : j < D.length := by omega
    repeat with_reducible first | refine wp_seq ?_ | refine nThen ?_ | refine wp_exit ?_ | refine xThen ?_ | refine xHere ?_
    refine' region_ty 3 mixed (by kernel_rfl) hF ?_ ?_
    rotate_left
    · simp only [List.take_succ_cons, List.take_zero]
      repeat (first | exact Line.nil | ((refine' Line.cons rfl (.run rfl rfl ?_) ?_); (any_goals (first | exact cSliceLoEx rfl rfl rfl Try.underlying35 sizeS hjn hcap | exact cMove rfl rfl)); rotate_left))
    intro a w9 hF hb hN
    have hBs := hB.size
    replace hB := hB.trans (hb.mono hB.size)
    simp only [List.take_succ_cons, List.take_zero, List.drop_succ_cons, List.drop_zero] at hF hN ⊢
    dsimp only [ext, Option.getD] at hF
    refine tlClear (Δ := [(0, Ty.ex (.slice (some ⟨g, off, none⟩) D.length cap)), (3, Ty.ex (.int .i64 (j : Int)))]) (k := j) hF rfl rfl rfl rfl Try.underlying35 infoS zero32_size zeroS_one (hseg.below hB) (by omega) (hF.keep [0, 3]) rfl ?_
    intro w10 zs hzl hF hseg2 hk2
    refine wpList_nil ?_
    repeat with_reducible first | refine wp_seq ?_ | refine nThen ?_
    replace hKw : Keeps [g] w w10 := (hKw.trans (Keeps.of_below hB)).trans hk2
    have hB := Below.refl w10.heap.size w10
    refine' reg_all hF ?_ mixed (by kernel_rfl) ?_
    rotate_left
    · repeat (first | exact Line.nil | ((refine' Line.cons rfl (.run rfl rfl ?_) ?_); (any_goals (first | exact cSliceHiEx rfl rfl rfl Try.underlying35 sizeS (by omega) | exact cMove rfl rfl | exact cAssign rfl rfl)); rotate_left))
    intro a w11 hF hb hN
    have hBs := hB.size
    replace hB := hB.trans (hb.mono hB.size)
    dsimp only [ext, Option.getD] at hF
    repeat with_reducible first | refine nThen ?_ | refine wp_ret ?_ | refine rThen ?_ | refine rBlk ?_
    refine ret1 hF rfl rfl fun z hz => ?_
    have hz : z = .slice (some ⟨g, off, none⟩) j cap := hz
    subst hz
    refine ⟨j, rfl, hj, ?_, hKw.trans (Keeps.of_below hB)⟩
    have h5 := (hseg2.below hB).take (k := j) (by omega)
    have h6 : (over (flat E) (j * 32) zs).take (j * 32) = flat (ddL D D.length) := by
      unfold over
      rw [List.append_assoc, List.take_append_of_le_length (by rw [List.length_take, flat_len]; omega), List.take_take, Nat.min_self, flat_take, hjt]
    rwa [h6] at h5
  have hlt2 : q < D.length - k := by simpa using hlt2
  have hs2' := (Ty.sums 27 (E.drop k)).below hs2 hB
  have e1 : (E.drop k).getD q default = D.getD (k + q) default := by rw [getD_drop]; exact hsame _ (by omega)
  have e2 : (E.drop k).getD (q - 1) default = D.getD (k + q - 1) default := by rw [getD_drop, show k + (q - 1) = k + q - 1 by omega]; exact hsame _ (by omega)
  repeat with_reducible first | refine wp_seq ?_ | refine nThen ?_ | refine wp_skip ?_ | refine wp_block ?_
  refine' reg_all hF ?_ mixed (by kernel_rfl) ?_
  rotate_left
  · repeat (first | exact Line.nil | ((refine' Line.cons rfl (.run rfl rfl ?_) ?_); (any_goals (first | exact cSub (r := ((q - 1 : Nat) : Int)) rfl rfl rfl (by omega) | exact cIndexSum (k := q - 1) rfl (.l rfl hs2') rfl Try.underlying35 sizeS (by simp; omega) | exact cIndexSum (k := q) rfl (.l rfl hs2') rfl Try.underlying35 sizeS (by simp; omega) | exact cLoadSum rfl (.t rfl) Try.underlying27 sizeS | exact cNeqAgg rfl rfl rfl guardS (neqS _ _) | exact cMove rfl rfl)); rotate_left))
  intro a w9 hF hb hN
  have hBs := hB.size
  replace hB := hB.trans (hb.mono hB.size)
  dsimp only [ext, Option.getD] at hF
  repeat with_reducible refine nThen ?_
  rw [e1, e2] at hF
  refine cond_ty hF rfl (fun hnew => ?_) (fun hold => ?_)
  · have hnew : ¬ D.getD (k + q) default = D.getD (k + q - 1) default := by simpa using hnew
    have hs3 := (Ty.sums 27 (E.drop k)).below hs2 hB
    repeat with_reducible refine wp_seq ?_
    refine' region_ty 7 mixed (by kernel_rfl) hF ?_ ?_
    rotate_left
    · simp only [List.take_succ_cons, List.take_zero]
      repeat (first | exact Line.nil | ((refine' Line.cons rfl (.run rfl rfl ?_) ?_); (any_goals (first | exact cIndexSum (k := q) rfl (.l rfl hs3) rfl Try.underlying35 sizeS (by simp; omega) | exact cLoadSum rfl (.t rfl) Try.underlying27 sizeS | exact cIndexEx (k := j) rfl rfl rfl Try.underlying35 sizeS (by omega) | exact cMove rfl rfl)); rotate_left))
    intro a w10 hF hb hN
    have hBs := hB.size
    replace hB := hB.trans (hb.mono hB.size)
    simp only [List.take_succ_cons, List.take_zero, List.drop_succ_cons, List.drop_zero] at hF hN ⊢
    dsimp only [ext, Option.getD] at hF
    rw [e1] at hF
    refine tlStoreAt (Δ := [(0, Ty.ex (.slice (some ⟨g, off, none⟩) D.length cap)), (4, Ty.ex (.slice (some ⟨g, off + k * 32, none⟩) (D.length - k) (cap - k))), (3, Ty.ex (.int .i64 (j : Int))), (5, Ty.ex (.int .i64 (q : Int)))]) (k := j * 32) hF rfl rfl rfl rfl rfl (hseg.below hB) (by rw [u8s_size, Sm.len]; omega) (by rw [u8s_size, Sm.len]; exact sizeS) (u8s_one _) (hF.keep [0, 4, 3, 5]) rfl ?_
    intro w11 hF hseg2 hk2
    refine wpList_nil ?_
    repeat with_reducible refine nThen ?_
    replace hKw : Keeps [g] w w11 := (hKw.trans (Keeps.of_below hB)).trans hk2
    have hB := Below.refl w11.heap.size w11
    refine' reg_all hF ?_ mixed (by kernel_rfl) ?_
    rotate_left
    · repeat (first | exact Line.nil | ((refine' Line.cons rfl (.run rfl rfl ?_) ?_); (any_goals (first | exact cAdd (r := ((j + 1 : Nat) : Int)) rfl rfl rfl (by omega) | exact cMove rfl rfl | exact cAssign rfl rfl)); rotate_left))
    intro a w12 hF hb hN
    have hBs := hB.size
    replace hB := hB.trans (hb.mono hB.size)
    dsimp only [ext, Option.getD] at hF
    repeat with_reducible first | refine nThen ?_ | refine nBlk ?_
    refine' reg_all hF ?_ mixed (by kernel_rfl) ?_
    rotate_left
    · repeat (first | exact Line.nil | ((refine' Line.cons rfl (.run rfl rfl ?_) ?_); (any_goals (first | exact cAdd (r := ((q + 1 : Nat) : Int)) rfl rfl rfl (by omega) | exact cMove rfl rfl | exact cAssign rfl rfl)); rotate_left))
    intro a w13 hF hb hN
    have hBs := hB.size
    replace hB := hB.trans (hb.mono hB.size)
    dsimp only [ext, Option.getD] at hF
    repeat with_reducible refine nThen ?_
    have h7 : over (flat E) (j * 32) (u8s (D.getD (k + q) default).l).toList = flat (E.set j (D.getD (k + q) default)) := by
      rw [u8s_list]
      exact over_flat E _ (by omega)
    rw [h7] at hseg2
    have hdd2 : ddL D (k + (q + 1)) = ddL D (k + q) ++ [D.getD (k + q) default] := ddL_new (.inr hnew)
    refine ⟨m - 1, by omega, q + 1, j + 1, E.set j (D.getD (k + q) default), by omega, by omega, by simp [hE], ?_, by omega, ?_, fun i hi => ?_, hF.keep [0, 4, 3, 5], hseg2.below hB, hKw.trans (Keeps.of_below hB)⟩
    · rw [hdd2, List.length_append, ← hj]; rfl
    · rw [hdd2, ← hjt, take_snoc' _ (by rw [List.length_set]; omega), getD_set E _ (by omega), if_pos rfl, List.take_set_of_le (Nat.le_refl _)]
    · rw [getD_set E _ (by omega), if_neg (by omega)]
      exact hsame i (by omega)
  · have hold : D.getD (k + q) default = D.getD (k + q - 1) default := by simpa using hold
    repeat with_reducible first | refine nThen ?_ | refine nBlk ?_ | refine wp_skip ?_
    refine' reg_all hF ?_ mixed (by kernel_rfl) ?_
    rotate_left
    · repeat (first | exact Line.nil | ((refine' Line.cons rfl (.run rfl rfl ?_) ?_); (any_goals (first | exact cAdd (r := ((q + 1 : Nat) : Int)) rfl rfl rfl (by omega) | exact cMove rfl rfl | exact cAssign rfl rfl)); rotate_left))
    intro a w10 hF hb hN
    have hBs := hB.size
    replace hB := hB.trans (hb.mono hB.size)
    dsimp only [ext, Option.getD] at hF
    repeat with_reducible refine nThen ?_
    have hdd2 : ddL D (k + (q + 1)) = ddL D (k + q) := ddL_old (m := k + q) (by omega) hold
    exact ⟨m - 1, by omega, q + 1, j, E, by omega, by omega, hE, by rw [hdd2]; exact hj, by omega, by rw [hdd2]; exact hjt, fun i hi => hsame i (by omega), hF.keep [0, 4, 3, 5], hseg.below hB, hKw.trans (Keeps.of_below hB)⟩

set_option maxRecDepth 100000 in
theorem compact_none (w : World) : Calls Try.prog 41 #[.slice none 0 0] w fun e w' => e = .returned (.slice none 0 0) ∧ Below w.heap.size w w' := by
  refine enter_ty 61 [Ty.ex (.slice none 0 0)] Try.func41 rfl (by kernel_rfl) ⟨rfl, trivial⟩ fun a hF => ?_
  have hB := Below.refl w.heap.size w
  repeat with_reducible refine wp_seq ?_
  refine' reg_all hF ?_ mixed (by kernel_rfl) ?_
  rotate_left
  · repeat (first | exact Line.nil | ((refine' Line.cons rfl (.run rfl rfl ?_) ?_); (any_goals exact cAssign rfl rfl); rotate_left))
  intro a w1 hF hb hN
  have hBs := hB.size
  replace hB := hB.trans (hb.mono hB.size)
  dsimp only [ext, Option.getD] at hF
  repeat with_reducible first | refine wp_seq ?_ | refine nThen ?_
  refine' reg_all hF ?_ mixed (by kernel_rfl) ?_
  rotate_left
  · repeat (first | exact Line.nil | ((refine' Line.cons rfl (.run rfl rfl ?_) ?_); (any_goals (first | exact cLenEx rfl rfl Try.underlying35 | exact cMove rfl rfl | exact cLss rfl rfl rfl)); rotate_left))
  intro a w2 hF hb hN
  have hBs := hB.size
  replace hB := hB.trans (hb.mono hB.size)
  dsimp only [ext, Option.getD] at hF
  repeat with_reducible refine nThen ?_
  refine cond_ty hF rfl (fun h0 => ?_) (fun h1 => ?_)
  · repeat with_reducible refine wp_seq ?_
    refine' reg_all hF ?_ mixed (by kernel_rfl) ?_
    rotate_left
    · repeat (first | exact Line.nil | ((refine' Line.cons rfl (.run rfl rfl ?_) ?_); (any_goals (first | exact cMove rfl rfl | exact cAssign rfl rfl)); rotate_left))
    intro a w3 hF hb hN
    have hBs := hB.size
    replace hB := hB.trans (hb.mono hB.size)
    dsimp only [ext, Option.getD] at hF
    repeat with_reducible first | refine nThen ?_ | refine wp_ret ?_ | refine rThen ?_
    refine ret1 hF rfl rfl fun z hz => ?_
    have hz : z = .slice none 0 0 := hz
    subst hz
    exact ⟨rfl, hB⟩
  · exact absurd (of_decide_eq_false h1) (by decide)

/-- A set's row: sorted, each once. -/
def setL (D : List Sm) : List Sm := ddL (sortL D) D.length
theorem setL_len (D : List Sm) : (setL D).length ≤ D.length := ddL_le _ _
set_option maxRecDepth 100000 in
set_option maxHeartbeats 1000000 in
theorem of_ty (D : List Sm) (hD : D.length ≤ 1000000) : FnSeg1 Try.prog 24 (Ty.sums 27 D) 27 32 (setL D).length (flat (setL D)) := by
  refine ⟨fun args w => by kernel_rfl, fun w v hv => ?_⟩
  refine enter_ty 10 [Ty.sums 27 D] Try.func24 rfl (by kernel_rfl) ⟨hv, trivial⟩ fun a hF => ?_
  have hB := Below.refl w.heap.size w
  repeat with_reducible refine wp_seq ?_
  refine' reg_all hF ?_ mixed (by kernel_rfl) ?_
  rotate_left
  · repeat (first | exact Line.nil | ((refine' Line.cons rfl (.run rfl rfl ?_) ?_); (any_goals exact cAssign rfl rfl); rotate_left))
  intro a w1 hF hb hN
  have hBs := hB.size
  replace hB := hB.trans (hb.mono hB.size)
  dsimp only [ext, Option.getD] at hF
  repeat with_reducible first | refine wp_seq ?_ | refine nThen ?_
  refine' reg_all hF ?_ mixed (by kernel_rfl) ?_
  rotate_left
  · repeat (first | exact Line.nil | ((refine' Line.cons rfl (.run rfl rfl ?_) ?_); (any_goals (first | exact cCallS1 rfl (.t rfl) (cloneS_ty D hD) | exact cMove rfl rfl | exact cAssign rfl rfl)); rotate_left))
  intro a w2 hF hb hN
  have hBs := hB.size
  replace hB := hB.trans (hb.mono hB.size)
  dsimp only [ext, Option.getD] at hF
  repeat with_reducible first | refine wp_seq ?_ | refine nThen ?_
  obtain ⟨u, ⟨S, hseg, hS⟩, hF⟩ := hF.open (s := 3) rfl
  replace hS : ∀ y ∈ S, w.heap.size ≤ y := fun y hy => Nat.le_trans hBs (hS y hy)
  have hen : Enters Try.prog 40 := fun args w => by kernel_rfl
  have hec : Enters Try.prog 41 := fun args w => by kernel_rfl
  rcases hseg.cases with ⟨rfl, h0, h1, rfl⟩ | ⟨g, off, cap, rfl, rfl, hl⟩
  · have hD0 : D = [] := List.eq_nil_of_length_eq_zero h0
    subst hD0
    refine' region_ty 1 mixed (by kernel_rfl) hF ?_ ?_
    rotate_left
    · simp only [List.take_succ_cons, List.take_zero]
      repeat (first | exact Line.nil | ((refine' Line.cons rfl (.run rfl rfl ?_) ?_); (any_goals exact cMove rfl rfl); rotate_left))
    intro a w3 hF hb hN
    have hBs := hB.size
    replace hB := hB.trans (hb.mono hB.size)
    simp only [List.take_succ_cons, List.take_zero, List.drop_succ_cons, List.drop_zero] at hF hN ⊢
    dsimp only [ext, Option.getD] at hF
    refine tlCall rfl rfl rfl (args := #[.slice none 0 0, .func (.func 37) #[] #[]]) ?_ hen (sort_none w3) ?_
    · simp only [List.map_toArray, List.map_cons, List.map_nil, hF.getEx (s := 6) rfl]
      rfl
    rintro z w4 rfl
    have hF := (hF.keep [3]).put (d := 7) (by decide) (Below.refl _ _) (V := Ty.ex z) rfl
    refine wpList_nil ?_
    repeat with_reducible first | refine wp_seq ?_ | refine nThen ?_
    refine' reg_all hF ?_ mixed (by kernel_rfl) ?_
    rotate_left
    · repeat (first | exact Line.nil | ((refine' Line.cons rfl (.run rfl rfl ?_) ?_); (any_goals (first | exact cCallW1 rfl rfl hec (fun W x hb hx => by have hx : x = .slice none 0 0 := hx; subst hx; exact (compact_none W).mono fun _ _ ⟨a, b⟩ => ⟨_, a, rfl, b⟩) (ρ := Ty.ex (.slice none 0 0)) | exact cMove rfl rfl | exact cAssign rfl rfl)); rotate_left))
    intro a w5 hF hb hN
    have hBs := hB.size
    replace hB := hB.trans (hb.mono hB.size)
    dsimp only [ext, Option.getD] at hF
    repeat with_reducible first | refine nThen ?_ | refine wp_ret ?_
    refine ret1 hF rfl rfl fun z hz => ?_
    have hz : z = .slice none 0 0 := hz
    subst hz
    exact ⟨_, rfl, ⟨[], Seg.nil _ _ _, by simp⟩, hB⟩
  · have hg : w.heap.size ≤ g := hS g (by simp)
    refine' region_ty 1 mixed (by kernel_rfl) hF ?_ ?_
    rotate_left
    · simp only [List.take_succ_cons, List.take_zero]
      repeat (first | exact Line.nil | ((refine' Line.cons rfl (.run rfl rfl ?_) ?_); (any_goals exact cMove rfl rfl); rotate_left))
    intro a w3 hF hb hN
    have hBs := hB.size
    replace hB := hB.trans (hb.mono hB.size)
    simp only [List.take_succ_cons, List.take_zero, List.drop_succ_cons, List.drop_zero] at hF hN ⊢
    dsimp only [ext, Option.getD] at hF
    refine tlCall rfl rfl rfl (args := #[.slice (some ⟨g, off, none⟩) D.length cap, .func (.func 37) #[] #[]]) ?_ hen (sort_any D w3 g off cap (hl.below hb) hD) ?_
    · simp only [List.map_toArray, List.map_cons, List.map_nil, hF.getEx (s := 6) rfl]
      rfl
    rintro z w4 ⟨hl4, hk4⟩
    have hF := ((hF.keep [3]).free1 hk4 (hl.below hb) rfl).put (d := 7) (by decide) (Below.refl _ _) (V := Ty.ex z) rfl
    replace hB := below_own hB hk4 (by simpa using hg)
    refine wpList_nil ?_
    repeat with_reducible first | refine wp_seq ?_ | refine nThen ?_
    have hsl := sortL_len D
    refine' region_ty 1 mixed (by kernel_rfl) hF ?_ ?_
    rotate_left
    · simp only [List.take_succ_cons, List.take_zero]
      repeat (first | exact Line.nil | ((refine' Line.cons rfl (.run rfl rfl ?_) ?_); (any_goals exact cMove rfl rfl); rotate_left))
    intro a w5 hF hb hN
    have hBs := hB.size
    replace hB := hB.trans (hb.mono hB.size)
    simp only [List.take_succ_cons, List.take_zero, List.drop_succ_cons, List.drop_zero] at hF hN ⊢
    dsimp only [ext, Option.getD] at hF
    refine tlCall rfl rfl rfl (args := #[.slice (some ⟨g, off, none⟩) D.length cap]) ?_ hec (R := fun u w' => u = .slice (some ⟨g, off, none⟩) (setL D).length cap ∧ SegL w' 27 32 g off (setL D).length cap (flat (setL D)) ∧ Keeps [g] w5 w') ?_ ?_
    · simp only [List.map_toArray, List.map_cons, List.map_nil, hF.getEx (s := 8) rfl]
    · have h := compact_any (sortL D) w5 g off cap (by rw [hsl]; exact hl4.below hb) (by omega)
      rw [hsl] at h
      refine h.mono fun e w' ⟨k, h1, h2, h3, h4⟩ => ?_
      subst h2
      exact ⟨_, h1, rfl, h3, h4⟩
    rintro z w6 ⟨rfl, hl6, hk6⟩
    have hF := ((hF.keep []).free1 hk6 (hl4.below hb) rfl).put (d := 9) (by decide) (Below.refl _ _) (V := Ty.ex (.slice (some ⟨g, off, none⟩) (setL D).length cap)) rfl
    replace hB := below_own hB hk6 (by simpa using hg)
    refine' tlOp hF rfl rfl rfl ?_ ?_
    rotate_left
    · exact cAssign rfl rfl
    intro a w7 hF hb
    have hBs := hB.size
    replace hB := hB.trans (hb.mono hB.size)
    try (refine wpList_nil ?_)
    repeat with_reducible first | refine nThen ?_ | refine wp_ret ?_
    refine ret1 hF rfl rfl fun z hz => ?_
    have hz : z = .slice (some ⟨g, off, none⟩) (setL D).length cap := hz
    subst hz
    exact ⟨_, rfl, ⟨[g], (hl6.below hb).seg, by simpa using hg⟩, hB⟩
end Go.Proofs.Ytbjlmhbpcopfbaa

/- Layer 10, plainly: a set's row is strictly rising, holds the same. -/
namespace Go.Proofs.Ytbjlmhbpcopfbaa
open Go.RowKit

def srt (L : List Sm) : Prop := L.Pairwise fun x y => cmpL x.l y.l < 0
theorem Sm.ext' {x y : Sm} (h : x.l = y.l) : x = y := by
  cases x; cases y; simp only at h; subst h; rfl
theorem cmp_self (x : Sm) : cmpL x.l x.l = 0 := (cmpL_eq _ _).2 rfl
theorem cmp_zero {x y : Sm} : cmpL x.l y.l = 0 ↔ x = y := ⟨fun h => Sm.ext' ((cmpL_eq _ _).1 h), fun h => by rw [h]; exact cmp_self y⟩
theorem cmp_lt_trans {x y z : Sm} (h1 : cmpL x.l y.l ≤ 0) (h2 : cmpL y.l z.l ≤ 0) (h : cmpL x.l y.l < 0 ∨ cmpL y.l z.l < 0) : cmpL x.l z.l < 0 := (cmpL_trans _ _ _ h1 h2).2 h
theorem sortL_le (D : List Sm) : (sortL D).Pairwise fun x y => cmpL x.l y.l ≤ 0 := by
  have h := List.pairwise_mergeSort (le := fun x y : Sm => !ltS y x) (fun a b c h1 h2 => by
    simp only [ltS, Bool.not_eq_true', decide_eq_false_iff_not] at *
    have s1 := cmpL_swap a.l b.l
    have s2 := cmpL_swap b.l c.l
    have s3 := cmpL_swap a.l c.l
    have := (cmpL_trans a.l b.l c.l (by omega) (by omega)).1
    omega) (fun a b => by
    simp only [ltS, Bool.or_eq_true, Bool.not_eq_true', decide_eq_false_iff_not] at *
    have s1 := cmpL_swap a.l b.l
    omega) D
  refine List.Pairwise.imp ?_ h
  intro x y h
  simp only [ltS, Bool.not_eq_true', decide_eq_false_iff_not] at h
  have s1 := cmpL_swap x.l y.l
  omega
theorem sortL_mem (D : List Sm) (x : Sm) : x ∈ sortL D ↔ x ∈ D := (List.mergeSort_perm D _).mem_iff
theorem le_get {D : List Sm} (h : D.Pairwise fun x y => cmpL x.l y.l ≤ 0) {i j : Nat} (hij : i < j) (hj : j < D.length) : cmpL (D.getD i default).l (D.getD j default).l ≤ 0 := by
  have h1 := List.pairwise_iff_getElem.1 h i j (by omega) hj hij
  simpa [List.getD, hj, show i < D.length by omega] using h1
theorem lt_get {D : List Sm} (h : srt D) {i j : Nat} (hij : i < j) (hj : j < D.length) : cmpL (D.getD i default).l (D.getD j default).l < 0 := by
  have h1 := List.pairwise_iff_getElem.1 h i j (by omega) hj hij
  simpa [List.getD, hj, show i < D.length by omega] using h1
theorem ddL_facts {D : List Sm} (h : D.Pairwise fun x y => cmpL x.l y.l ≤ 0) : ∀ m, m ≤ D.length → srt (ddL D m) ∧ ∀ x, x ∈ ddL D m ↔ ∃ j, j < m ∧ D.getD j default = x
  | 0, _ => ⟨List.Pairwise.nil, fun x => by simp [ddL]⟩
  | m + 1, hm => by
    obtain ⟨h1, h2⟩ := ddL_facts h m (by omega)
    by_cases hn : m = 0 ∨ ¬ D.getD m default = D.getD (m - 1) default
    · rw [ddL_new hn]
      constructor
      · refine List.pairwise_append.2 ⟨h1, List.pairwise_singleton _ _, fun x hx y hy => ?_⟩
        obtain ⟨j, hj, rfl⟩ := (h2 x).1 hx
        simp only [List.mem_singleton] at hy
        subst hy
        have hn : ¬ D.getD m default = D.getD (m - 1) default := hn.resolve_left (by omega)
        have a1 := le_get h (i := m - 1) (j := m) (by omega) (by omega)
        have a2 : ¬ cmpL (D.getD (m - 1) default).l (D.getD m default).l = 0 := fun e => hn (cmp_zero.1 e).symm
        by_cases hjm : j = m - 1
        · subst hjm; omega
        · exact cmp_lt_trans (le_get h (i := j) (j := m - 1) (by omega) (by omega)) a1 (.inr (by omega))
      · intro x
        rw [List.mem_append, h2, List.mem_singleton]
        constructor
        · rintro (⟨j, hj, rfl⟩ | rfl)
          · exact ⟨j, by omega, rfl⟩
          · exact ⟨m, by omega, rfl⟩
        · rintro ⟨j, hj, rfl⟩
          by_cases hjm : j = m
          · subst hjm; exact .inr rfl
          · exact .inl ⟨j, by omega, rfl⟩
    · have hn' : ¬ m = 0 ∧ D.getD m default = D.getD (m - 1) default := by
        refine ⟨fun e => hn (.inl e), Classical.byContradiction fun e => hn (.inr e)⟩
      rw [ddL_old hn'.1 hn'.2]
      refine ⟨h1, fun x => ?_⟩
      rw [h2]
      constructor
      · rintro ⟨j, hj, rfl⟩
        exact ⟨j, by omega, rfl⟩
      · rintro ⟨j, hj, rfl⟩
        by_cases hjm : j = m
        · subst hjm; exact ⟨j - 1, by omega, hn'.2.symm⟩
        · exact ⟨j, by omega, rfl⟩
theorem setL_srt (D : List Sm) : srt (setL D) := by
  have h := (ddL_facts (sortL_le D) D.length (by rw [sortL_len]; exact Nat.le_refl _)).1
  exact h
theorem setL_mem (D : List Sm) (x : Sm) : x ∈ setL D ↔ x ∈ D := by
  have h := (ddL_facts (sortL_le D) D.length (by rw [sortL_len]; exact Nat.le_refl _)).2 x
  refine h.trans ?_
  rw [← sortL_mem D x, mem_get, sortL_len]
theorem srt_nodup {L : List Sm} (h : srt L) : L.Nodup := List.Pairwise.imp (fun {a b} h e => by subst e; rw [cmp_self] at h; omega) h
theorem srt_ext : ∀ {L M : List Sm}, srt L → srt M → (∀ x, x ∈ L ↔ x ∈ M) → L = M
  | [], [], _, _, _ => rfl
  | [], y :: M, _, _, h => absurd ((h y).2 (by simp)) (by simp)
  | x :: L, [], _, _, h => absurd ((h x).1 (by simp)) (by simp)
  | x :: L, y :: M, hL, hM, h => by
    obtain ⟨a1, a2⟩ := List.pairwise_cons.1 hL
    obtain ⟨b1, b2⟩ := List.pairwise_cons.1 hM
    have hxy : x = y := by
      rcases List.mem_cons.1 ((h x).1 (by simp)) with e | e
      · exact e
      rcases List.mem_cons.1 ((h y).2 (by simp)) with e' | e'
      · exact e'.symm
      have c1 := b1 x e
      have c2 := a1 y e'
      have := cmpL_swap x.l y.l
      omega
    subst hxy
    congr 1
    refine srt_ext a2 b2 fun z => ?_
    have hz := h z
    simp only [List.mem_cons] at hz
    constructor
    · intro hz1
      rcases hz.1 (.inr hz1) with e | e
      · subst e; have := a1 z hz1; rw [cmp_self] at this; omega
      · exact e
    · intro hz1
      rcases hz.2 (.inr hz1) with e | e
      · subst e; have := b1 z hz1; rw [cmp_self] at this; omega
      · exact e
theorem goodL_srt {L : List Sm} (h : srt L) : goodL L = decide (L.length ≤ 512) := goodL_all fun k hk => lt_get h (by omega) hk
theorem srt_of_adj : ∀ {L : List Sm}, (∀ k, k + 1 < L.length → cmpL (L.getD k default).l (L.getD (k + 1) default).l < 0) → srt L
  | [], _ => List.Pairwise.nil
  | [x], _ => List.pairwise_singleton _ _
  | x :: y :: L, h => by
    have ih : srt (y :: L) := srt_of_adj fun k hk => by simpa using h (k + 1) (by simp at hk ⊢; omega)
    refine List.pairwise_cons.2 ⟨fun z hz => ?_, ih⟩
    have h0 : cmpL x.l y.l < 0 := by simpa using h 0 (by simp)
    rcases List.mem_cons.1 hz with e | e
    · subst e; exact h0
    · have := (List.pairwise_cons.1 ih).1 z e
      exact cmp_lt_trans (by omega) (by omega) (.inl h0)
theorem goodL_iff (L : List Sm) : goodL L = true ↔ srt L ∧ L.length ≤ 512 := by
  constructor
  · intro h
    have hs : srt L := srt_of_adj fun k hk => Classical.byContradiction fun hb => by rw [goodL_bad hk hb] at h; cases h
    rw [goodL_srt hs] at h
    exact ⟨hs, of_decide_eq_true h⟩
  · rintro ⟨h1, h2⟩
    rw [goodL_srt h1]; exact decide_eq_true h2
theorem setL_self {L : List Sm} (h : srt L) : setL L = L := srt_ext (setL_srt L) h (setL_mem L)
end Go.Proofs.Ytbjlmhbpcopfbaa

/- Layer 10: the walks of BinarySearchFunc, has, Has. -/
namespace Go.Proofs.Ytbjlmhbpcopfbaa
open Go.RowKit

end Go.Proofs.Ytbjlmhbpcopfbaa

/- Layer 10: the walks of IndexFunc, DeleteFunc, Minus, Both. -/
namespace Go.Proofs.Ytbjlmhbpcopfbaa
open Go.RowKit

end Go.Proofs.Ytbjlmhbpcopfbaa

/- Layer 10: the walks of Minus, Both, Either, Add. -/
namespace Go.Proofs.Ytbjlmhbpcopfbaa
open Go.RowKit

abbrev pB (B : List Sm) (x : Sm) : Bool := !decide (x ∈ B)
end Go.Proofs.Ytbjlmhbpcopfbaa

/- Chunks by types: rows of byte slices, rows of pieces; chunk.Cut. -/
namespace Go.Proofs.Ytbjlmhbpcopfbaa
open Go.RowKit

abbrev PiT : TypeId := 29
abbrev nilB : Value := .slice none 0 0
/-- A slice that reads these bytes. -/
def Ty.rdB (b : List Nat) : Ty := ⟨fun w v => ∃ A c, v = .slice A b.length c ∧ b.length ≤ c ∧ c ≤ maxLen ∧ (A = none → b.length = 0) ∧ Rd w A (b.map bv), fun _ => true, fun {w w' v S} h k hA => by
  obtain ⟨A, c, h1, h2, h3, h5, h4⟩ := h
  refine ⟨A, c, h1, h2, h3, h5, fun j u hu => ?_⟩
  obtain ⟨ad, rfl, hc⟩ := h4 j u hu
  have hl := World.block_lt_of_cell? w _ hc
  refine ⟨ad, rfl, (World.cell?_of_block (w := w) (k.block _ hl (fun hm => ?_))).trans hc⟩
  obtain ⟨_, _, _, _, h⟩ := hA _ hm hl
  cases h⟩
theorem rdB_isSl (b : List Nat) : IsSl (Ty.rdB b) b.length := fun _ _ ⟨A, c, h, _⟩ => ⟨A, c, h⟩
theorem reads_rdB (b : List Nat) : Reads (Ty.rdB b) b.length (b.map bv) := fun _ _ ⟨A, c, h1, h2, h3, h5, h4⟩ => ⟨A, c, h1, by omega, h5, h4⟩
/-- A row of byte slices. -/
def Bls (w : World) (vs : List Value) (Ps : List (List Nat)) : Prop := vs.length = Ps.length ∧ ∀ k, k < Ps.length → (Ty.rdB (Ps.getD k [])).p w (vs.getD k nilB)
theorem Bls.below {w w' : World} {vs : List Value} {Ps : List (List Nat)} (h : Bls w vs Ps) (hb : Below w.heap.size w w') : Bls w' vs Ps := ⟨h.1, fun k hk => (Ty.rdB _).below (h.2 k hk) hb⟩
def Ty.bls (Ps : List (List Nat)) : Ty := ⟨fun w v => ∃ vs, Bls w vs Ps ∧ SlP w 22 v Ps.length vs, fun _ => true, fun {w w' v S} ⟨vs, h1, h2⟩ k hA => ⟨vs, ⟨h1.1, fun j hj => (Ty.rdB _).st (h1.2 j hj) k hA⟩, (Ty.sl 22 _ _).st h2 k fun b hb hl => let ⟨_, _, _, _, h⟩ := hA b hb hl; by cases h⟩⟩
theorem bls_isSl (Ps : List (List Nat)) : IsSl (Ty.bls Ps) Ps.length := fun _ _ ⟨_, _, A, c, h, _⟩ => ⟨A, c, h⟩
def pcsB (b : List Nat) : List (List Nat) := partsS b (endsR 16 128 8 31 7 b)
theorem plain_fn : Fn0 Try.prog 27 (Ty.ex (.agg #[.int .i64 16, .int .i64 128, .int .i64 8, .int .u64 31, .int .u64 7])) := ⟨fun args w => by kernel_rfl, fun w => Calls.mono (cutPlain_any w) fun e w' ⟨h1, h2⟩ => ⟨_, h1, rfl, h2⟩⟩
theorem enParts : Enters Try.prog 26 := fun args w => by kernel_rfl
theorem parts_ret (b : List Nat) (hn : b.length ≤ 4000) (hx : ∀ x ∈ b, x < 256) (w : World) (v : Value) (hv : (Ty.rdB b).p w v) : Ret Try.prog 26 #[.agg #[.int .i64 16, .int .i64 128, .int .i64 8, .int .u64 31, .int .u64 7], v] w (Ty.bls (pcsB b)) := by
  obtain ⟨A, c, rfl, h2, h3, h5, h4⟩ := hv
  refine Calls.mono (Parts_any 16 128 8 31 7 A b.length c b w rfl h2 h4 h5 hx hn (by decide)) fun e w' ⟨v, S, vs, he, hs, hp, hS, hb⟩ => ⟨v, he, ⟨vs, ⟨hp.1, fun k hk => ?_⟩, ?_⟩, hb⟩
  · have hk' : k < vs.length := by rw [hp.1]; exact hk
    obtain ⟨A', c', g1, g2, g3, g4, _, g6⟩ := hp.2 k ((pcsB b).getD k []) (by show (pcsB b)[k]? = _; simp [List.getD, List.getElem?_eq_getElem (show k < (pcsB b).length from hk)])
    refine ⟨A', c', ?_, g2, g3, g6, g4⟩
    simp [List.getD, g1]
  · have hl : (endsR 16 128 8 31 7 b).length = (pcsB b).length := by unfold pcsB partsS; simp
    rw [← hl]
    exact hs.sl
theorem encL (x : Sm) : x.enc.length = 32 := by
  show (x.l.map bv).length = 32
  rw [List.length_map, x.len]
/-- Cells of a row of pieces. -/
def flatQ (L : List (Sm × Value)) : List Value := L.flatMap fun p => p.1.enc ++ [p.2]
theorem flatQ_cons (p : Sm × Value) (L : List (Sm × Value)) : flatQ (p :: L) = p.1.enc ++ [p.2] ++ flatQ L := rfl
theorem flatQ_len : ∀ L : List (Sm × Value), (flatQ L).length = L.length * 33
  | [] => rfl
  | p :: L => by
    rw [flatQ_cons, List.length_append, List.length_append, flatQ_len L, List.length_cons, encL p.1]
    simp
    omega
theorem flatQ_at : ∀ (L : List (Sm × Value)) {k : Nat}, k < L.length → (flatQ L).drop (k * 33) = (L.getD k (Sm.zero, nilB)).1.enc ++ [(L.getD k (Sm.zero, nilB)).2] ++ flatQ (L.drop (k + 1))
  | [], _, h => by simp at h
  | p :: L, 0, _ => by rw [Nat.zero_mul, List.drop_zero, flatQ_cons]; rfl
  | p :: L, k + 1, h => by
    have hl : (p.1.enc ++ [p.2]).length = 33 := by rw [List.length_append, encL p.1]; rfl
    rw [flatQ_cons, show (k + 1) * 33 = (p.1.enc ++ [p.2]).length + k * 33 by rw [hl]; omega, List.drop_append]
    rw [show (p.1.enc ++ [p.2]).length + k * 33 - (p.1.enc ++ [p.2]).length = k * 33 by omega, List.drop_of_length_le (by omega), List.nil_append, flatQ_at L (by simpa using h)]
    rfl
theorem flatQ_snoc (L : List (Sm × Value)) (p : Sm × Value) : flatQ (L ++ [p]) = flatQ L ++ flatQ [p] := by
  unfold flatQ
  rw [List.flatMap_append]
/-- These are those pieces. -/
def Pcr (w : World) (L : List (Sm × Value)) (Q : List (Sm × List Nat)) : Prop := L.length = Q.length ∧ ∀ k, k < Q.length → (L.getD k (Sm.zero, nilB)).1 = (Q.getD k (Sm.zero, [])).1 ∧ (Ty.rdB (Q.getD k (Sm.zero, [])).2).p w (L.getD k (Sm.zero, nilB)).2
theorem Pcr.nil (w : World) : Pcr w [] [] := ⟨rfl, fun k h => by simp at h⟩
theorem Pcr.below {w w' : World} {L : List (Sm × Value)} {Q : List (Sm × List Nat)} (h : Pcr w L Q) (hb : Below w.heap.size w w') : Pcr w' L Q := ⟨h.1, fun k hk => ⟨(h.2 k hk).1, (Ty.rdB _).below (h.2 k hk).2 hb⟩⟩
theorem Pcr.snoc {w : World} {L : List (Sm × Value)} {Q : List (Sm × List Nat)} (h : Pcr w L Q) {x : Sm} {b : List Nat} {v : Value} (hv : (Ty.rdB b).p w v) : Pcr w (L ++ [(x, v)]) (Q ++ [(x, b)]) := by
  refine ⟨by rw [List.length_append, List.length_append, h.1]; rfl, fun k hk => ?_⟩
  rw [List.length_append, List.length_singleton] at hk
  by_cases hl : k < Q.length
  · rw [show (L ++ [(x, v)]).getD k (Sm.zero, nilB) = L.getD k (Sm.zero, nilB) by simp [List.getD, List.getElem?_append_left (h.1 ▸ hl)], show (Q ++ [(x, b)]).getD k (Sm.zero, []) = Q.getD k (Sm.zero, []) by simp [List.getD, List.getElem?_append_left hl]]
    exact h.2 k hl
  · have hk : k = Q.length := by omega
    have e1 : (L ++ [(x, v)]).getD k (Sm.zero, nilB) = (x, v) := by rw [hk, ← h.1]; simp [List.getD]
    have e2 : (Q ++ [(x, b)]).getD k (Sm.zero, []) = (x, b) := by rw [hk]; simp [List.getD]
    rw [e1, e2]
    exact ⟨rfl, hv⟩
/-- A row of pieces. -/
def Ty.pcs (Q : List (Sm × List Nat)) : Ty := ⟨fun w v => ∃ L, Pcr w L Q ∧ SlP w PiT v Q.length (flatQ L), fun _ => true, fun {w w' v S} ⟨L, h1, h2⟩ k hA => ⟨L, ⟨h1.1, fun j hj => ⟨(h1.2 j hj).1, (Ty.rdB _).st (h1.2 j hj).2 k hA⟩⟩, (Ty.sl PiT _ _).st h2 k fun b hb hl => let ⟨_, _, _, _, h⟩ := hA b hb hl; by cases h⟩⟩
theorem pcs_isSl (Q : List (Sm × List Nat)) : IsSl (Ty.pcs Q) Q.length := fun _ _ ⟨_, _, A, c, h, _⟩ => ⟨A, c, h⟩
/-- Bytes' pieces. -/
def cutQ (b : List Nat) : List (Sm × List Nat) := (pcsB b).map fun p => (shaS p, p)
def pcA (x : Sm) (v : Value) : Array Value := u8s x.l ++ #[v]
theorem pcA_list (x : Sm) (v : Value) : (pcA x v).toList = x.enc ++ [v] := by
  unfold pcA
  rw [Array.toList_append, u8s_list]
  rfl
theorem pcA_size (x : Sm) (v : Value) : (pcA x v).size = 33 := by
  unfold pcA
  rw [Array.size_append, u8s_size, x.len]; rfl
theorem infoPc : (Try.prog.info? PiT).map (fun i => (i.zero, i.size, i.bytes)) = some (some (.agg (pcA Sm.zero nilB)), 33, 56) := by kernel_rfl
end Go.Proofs.Ytbjlmhbpcopfbaa

/- Chunks by types: chunk.Cut. -/
namespace Go.Proofs.Ytbjlmhbpcopfbaa
open Go.RowKit

theorem zeroPc (w : World) : (zeroValue PiT).run Try.prog w = .ok (.agg (pcA Sm.zero nilB)) w := by kernel_rfl
theorem splicePc (x : Sm) (v : Value) : splice (splice (pcA Sm.zero nilB) 0 (u8s x.l).toList) 32 [v] = pcA x v := by
  have hx : (u8s x.l).size = 32 := by rw [u8s_size, x.len]
  have hz : (pcA Sm.zero nilB).size = 33 := pcA_size _ _
  apply Array.ext_getElem?
  intro j
  rw [splice_get _ _ _ _ (by rw [splice_size, hz]; simp), splice_get _ _ _ _ (by rw [hz]; simp [hx])]
  simp only [Array.length_toList, hx, List.length_singleton]
  by_cases h32 : 32 ≤ j
  · by_cases h33 : j < 33
    · obtain rfl : j = 32 := by omega
      unfold pcA
      rw [if_pos (by omega), Array.getElem?_append_right (by rw [hx]; omega)]
      simp [hx]
    · rw [if_neg (by omega), if_neg (by omega), Array.getElem?_eq_none (by rw [hz]; omega), Array.getElem?_eq_none (by rw [pcA_size]; omega)]
  · unfold pcA
    rw [if_neg (by omega), if_pos (by omega), Array.getElem?_append_left (by rw [hx]; omega)]
    simp
theorem buildPc (x : Sm) {v : Value} (hv : ∃ A l c, v = .slice A l c) (w : World) : (Instr.build PiT #[(0, .agg (u8s x.l)), (1, v)]).run Try.prog w = .ok (.agg (pcA x v)) w := by
  obtain ⟨A, l, c, rfl⟩ := hv
  have hx : (u8s x.l).size = 32 := by rw [u8s_size, x.len]
  have hz : (pcA Sm.zero nilB).size = 33 := pcA_size _ _
  have hu := run_underlying Try.underlying29 w
  have h1 := Try.sizeOf27 w
  have hf : Instr.fill (fun x => ([(0, 32), (32, 1)] : List (Nat × Nat))[x]?) (Value.agg (pcA Sm.zero nilB)).cells [(0, .agg (u8s x.l)), (1, .slice A l c)] = some (pcA x (.slice A l c)) := by
    rw [show (Value.agg (pcA Sm.zero nilB)).cells = pcA Sm.zero nilB from rfl, fill_step (v := .agg (u8s x.l)) (off := 0) (size := 32) rfl hx (by rw [hz]; omega), fill_step (v := .slice A l c) (off := 32) (size := 1) rfl rfl (by rw [splice_size, hz]; exact Nat.le_refl _)]
    rw [show (Value.agg (u8s x.l)).cells = u8s x.l from rfl, show (Value.slice A l c).cells.toList = [.slice A l c] from rfl, splicePc]
    rfl
  simp only [Instr.build, Sem.run_bind, zeroPc w, Result.andThen_ok, hu]
  simp [h1, hf]
theorem cBuildPc {w0 : World} {Γ : Ctx} {o : Oper} {x y : Operand} {s : Sm} {v : Value} (ho : o.op = .build PiT #[(0, x), (1, y)]) (hx : OpT Γ x (Ty.ex (.agg (u8s s.l)))) (hy : OpT Γ y (Ty.ex v)) (hv : ∃ A l c, v = .slice A l c) : OpOk Try.prog w0 Γ o (Ty.ex (.agg (pcA s v))) :=
  cBuildP (vs := #[(0, .agg (u8s s.l)), (1, v)]) ho (fun a w hs => by
    obtain ⟨v', h1, h2⟩ := hs x _ (by simp [ho, Op.operands]) hx
    obtain ⟨u', h3, h4⟩ := hs y _ (by simp [ho, Op.operands]) hy
    have h2 : v' = .agg (u8s s.l) := h2
    have h4 : u' = v := h4
    simp [h1, h2, h3, h4]) (buildPc s hv)
theorem pcs_lt {b : List Nat} (hx : ∀ x ∈ b, x < 256) : ∀ p ∈ pcsB b, (∀ x ∈ p, x < 256) ∧ p.length ≤ b.length := fun p hp => by
  unfold pcsB partsS at hp
  obtain ⟨i, _, rfl⟩ := List.mem_map.1 hp
  unfold pieceS
  refine ⟨fun x hx' => hx x (List.mem_of_mem_take (List.mem_of_mem_drop hx')), ?_⟩
  rw [List.length_drop, List.length_take]
  omega
theorem pcsB_len (b : List Nat) : (pcsB b).length ≤ b.length := by
  have e : (pcsB b).length = (endsR 16 128 8 31 7 b).length := by unfold pcsB partsS; simp
  rw [e]
  have hB := endsR_bounds 16 128 8 31 7 b
  have hI := ends_index hB (endsR 16 128 8 31 7 b).length (Nat.le_refl _)
  cases hk : (endsR 16 128 8 31 7 b).length with
  | zero => exact Nat.zero_le _
  | succ n =>
    rw [hk, List.getD_cons_succ] at hI
    exact Nat.le_trans hI (hB n (by omega)).2
theorem takeB_snoc (X : List (List Nat)) {k : Nat} (h : k < X.length) : X.take (k + 1) = X.take k ++ [X.getD k []] := by
  rw [List.take_succ_eq_append_getElem h]
  simp [List.getD, List.getElem?_eq_getElem h]
theorem newsPc (x : Sm) (v : Value) : (([Value.agg (pcA x v)]).map fun v => v.cells.toList).flatten = flatQ [(x, v)] := by
  have e : (Value.agg (pcA x v)).cells.toList = x.enc ++ [v] := pcA_list x v
  rw [List.map_cons, List.map_nil, e]
  rfl
/-- The first of them. -/
def rowL (Ps : List (List Nat)) (vs : List Value) (k : Nat) : List (Sm × Value) := (List.range k).map fun i => (shaS (Ps.getD i []), vs.getD i nilB)
theorem rowL_succ (Ps : List (List Nat)) (vs : List Value) (k : Nat) : rowL Ps vs (k + 1) = rowL Ps vs k ++ [(shaS (Ps.getD k []), vs.getD k nilB)] := by
  unfold rowL
  rw [List.range_succ, List.map_append]
  rfl
theorem rowL_pcr {w : World} {Ps : List (List Nat)} {vs : List Value} (h : Bls w vs Ps) : Pcr w (rowL Ps vs Ps.length) (Ps.map fun p => (shaS p, p)) := by
  refine ⟨by unfold rowL; rw [List.length_map, List.length_map, List.length_range], fun k hk => ?_⟩
  rw [List.length_map] at hk
  have e1 : (rowL Ps vs Ps.length).getD k (Sm.zero, nilB) = (shaS (Ps.getD k []), vs.getD k nilB) := by simp [rowL, List.getD, hk]
  have e2 : (Ps.map fun p => (shaS p, p)).getD k (Sm.zero, []) = (shaS (Ps.getD k []), Ps.getD k []) := by simp [List.getD, hk]
  rw [e1, e2]
  exact ⟨rfl, h.2 k hk⟩
theorem one_pc (s : Sm) {v : Value} (hv : ∃ A l c, v = .slice A l c) : ∀ u ∈ flatQ [(s, v)], u.oneCell' = true := by
  obtain ⟨A, l, c, rfl⟩ := hv
  intro u hu
  have e : flatQ [(s, .slice A l c)] = s.enc ++ [.slice A l c] := by rw [flatQ_cons]; simp [flatQ]
  rw [e] at hu
  rcases List.mem_append.1 hu with h | h
  · obtain ⟨x, _, rfl⟩ := List.mem_map.1 (show u ∈ s.l.map bv from h)
    rfl
  · simp only [List.mem_singleton] at h
    subst h
    rfl
set_option maxRecDepth 100000 in
set_option maxHeartbeats 2000000 in
theorem ccut_ty (b : List Nat) (hn : b.length ≤ 4000) (hx : ∀ x ∈ b, x < 256) : Fn1 Try.prog 8 (Ty.rdB b) (Ty.pcs (cutQ b)) := by
  refine ⟨fun args w => by kernel_rfl, fun w v hv => ?_⟩
  let TB := Ty.rdB b
  have hv : TB.p w v := hv
  have hps := pcs_lt hx
  have hpr := parts_ret b hn hx
  have hcl : (pcsB b).length ≤ 4000 := Nat.le_trans (pcsB_len b) hn
  unfold cutQ
  generalize pcsB b = Ps at *
  refine enter_ty 24 [Ty.ex v] Try.func8 rfl (by kernel_rfl) ⟨rfl, trivial⟩ fun a hF => ?_
  have hB := Below.refl w.heap.size w
  repeat with_reducible refine wp_seq ?_
  refine' reg_all hF ?_ mixed (by kernel_rfl) ?_
  rotate_left
  · repeat (first | exact Line.nil | ((refine' Line.cons rfl (.run rfl rfl ?_) ?_); (any_goals exact cAssign rfl rfl); rotate_left))
  intro a w1 hF hb hN
  have hBs := hB.size
  replace hB := hB.trans (hb.mono hB.size)
  dsimp only [ext, Option.getD] at hF
  repeat with_reducible first | refine wp_seq ?_ | refine nThen ?_
  refine' reg_all hF ?_ mixed (by kernel_rfl) ?_
  rotate_left
  · repeat (first | exact Line.nil | ((refine' Line.cons rfl (.run rfl rfl ?_) ?_); (any_goals exact cAssign rfl rfl); rotate_left))
  intro a w2 hF hb hN
  have hBs := hB.size
  replace hB := hB.trans (hb.mono hB.size)
  dsimp only [ext, Option.getD] at hF
  repeat with_reducible first | refine wp_seq ?_ | refine nThen ?_
  have hv2 := TB.below hv hB
  refine' reg_all hF ?_ mixed (by kernel_rfl) ?_
  rotate_left
  · repeat (first | exact Line.nil | ((refine' Line.cons rfl (.run rfl rfl ?_) ?_); (any_goals (first | exact cMove rfl rfl | exact cCall0 rfl plain_fn | exact cCallX2 rfl rfl rfl enParts (fun W hb => hpr W v (TB.below hv2 hb)) | exact cLenH rfl (.t rfl) (bls_isSl _) Try.underlying57)); rotate_left))
  intro a w3 hF hb hN
  have hBs := hB.size
  replace hB := hB.trans (hb.mono hB.size)
  dsimp only [ext, Option.getD] at hF
  repeat with_reducible first | refine nThen ?_ | refine wp_block ?_
  obtain ⟨v8, ⟨vs, hbl, hsl⟩, hF⟩ := hF.open (s := 8) rfl
  have hw3 := hB.size
  have hB0 := hB
  replace hB := Below.refl w3.heap.size w3
  let T8 := Ty.sl 22 Ps.length vs
  have hsl : T8.p w3 v8 := hsl
  refine loop_ty (fun m a wr => ∃ (k : Nat) (u : Value) (S : List Nat), k + m = Ps.length ∧ Fr 24 [(3, Ty.ex u), (8, Ty.ex v8), (9, Ty.ex (.int .i64 (Ps.length : Int))), (10, Ty.ex (.int .i64 (k : Int)))] a wr ∧ Below w3.heap.size w3 wr ∧ Seg wr PiT 33 u k (flatQ (rowL Ps vs k)) S ∧ ∀ y ∈ S, w3.heap.size ≤ y) Ps.length ?_ ?_
  · exact ⟨0, _, [], by omega, hF.keep [3, 8, 9, 10], hB, Seg.nil _ _ _, by simp⟩
  clear hF hB
  rintro m a wr ⟨k, u, S, hk, hF, hB, hseg, hS⟩
  repeat with_reducible refine wp_seq ?_
  refine' reg_all hF ?_ mixed (by kernel_rfl) ?_
  rotate_left
  · repeat (first | exact Line.nil | ((refine' Line.cons rfl (.run rfl rfl ?_) ?_); (any_goals exact cLss rfl rfl rfl); rotate_left))
  intro a w4 hF hb hN
  have hBs := hB.size
  replace hB := hB.trans (hb.mono hB.size)
  dsimp only [ext, Option.getD] at hF
  repeat with_reducible first | refine wp_seq ?_ | refine nThen ?_
  replace hseg := hseg.below hb
  refine cond_ty hF rfl (fun hlt => ?_) (fun hge => ?_)
  rotate_left
  · have hge : ¬ k < Ps.length := by have := of_decide_eq_false hge; omega
    have hkP : k = Ps.length := by omega
    rw [hkP] at hseg
    repeat with_reducible first | refine wp_seq ?_ | refine nThen ?_ | refine wp_exit ?_ | refine xThen ?_ | refine xHere ?_
    refine' reg_all hF ?_ mixed (by kernel_rfl) ?_
    rotate_left
    · repeat (first | exact Line.nil | ((refine' Line.cons rfl (.run rfl rfl ?_) ?_); (any_goals (first | exact cMove rfl rfl | exact cAssign rfl rfl)); rotate_left))
    intro a w5 hF hb hN
    have hBs := hB.size
    replace hB := hB.trans (hb.mono hB.size)
    dsimp only [ext, Option.getD] at hF
    repeat with_reducible first | refine nThen ?_ | refine wp_ret ?_
    refine ret1 hF rfl rfl fun z hz => ?_
    refine ⟨z, rfl, ⟨_, rowL_pcr (hbl.below hB), ?_⟩, hB0.trans (hB.mono hw3)⟩
    have hz : z = u := hz
    rw [hz, List.length_map]
    exact (hseg.below hb).sl
  have hlt : k < Ps.length := by have := of_decide_eq_true hlt; omega
  have hts := rowL_succ Ps vs k
  have hpk := hbl.2 k hlt
  obtain ⟨hp256, hpl⟩ := hps (Ps.getD k []) (by rw [List.getD_eq_getElem?_getD, List.getElem?_eq_getElem hlt]; exact List.getElem_mem hlt)
  have hvd : vs.drop (k * 1) = vs.getD k nilB :: vs.drop (k + 1) := by
    have hkl : k < vs.length := by rw [hbl.1]; exact hlt
    rw [Nat.mul_one, List.drop_eq_getElem_cons hkl]
    simp [List.getD, List.getElem?_eq_getElem hkl]
  have hvk : k * 1 < vs.length := by rw [hbl.1]; omega
  generalize Ps.getD k [] = p at *
  generalize vs.getD k nilB = vk at *
  have hO := sumOf1_ty (e := 22) (τ := Ty.rdB p) p (reads_rdB p) hp256 (by omega)
  have hsl4 := T8.below hsl hB
  have hpv := (Ty.rdB p).below hpk hB
  have hsA : ∃ A l c, vk = .slice A l c := by obtain ⟨A, c, h, _⟩ := hpk; exact ⟨A, _, c, h⟩
  repeat with_reducible first | refine wp_seq ?_ | refine nThen ?_ | refine wp_skip ?_ | refine wp_block ?_
  refine' reg_all hF ?_ mixed (by kernel_rfl) ?_
  rotate_left
  · repeat (first | exact Line.nil | ((refine' Line.cons rfl (.run rfl rfl ?_) ?_); (any_goals (first | exact cAssign rfl rfl | exact cIndexS (k := k) (sz := 1) rfl (.l rfl hsl4) rfl Try.underlying57 (by kernel_rfl) hlt hvk | exact cLoad1 (u := vk) rfl (Has.c (.t rfl) (fun W v h => by rw [hvd] at h; exact h)) (pts_at _ _) Try.underlying22 rfl)); rotate_left))
  intro a w5 hF hb hN
  have hBs := hB.size
  replace hB := hB.trans (hb.mono hB.size)
  dsimp only [ext, Option.getD] at hF
  repeat with_reducible refine nThen ?_
  replace hseg := hseg.below hb
  replace hpv := (Ty.rdB p).below hpv hb
  have hw5 := hB.size
  refine' region_ty 7 mixed (by kernel_rfl) hF ?_ ?_
  rotate_left
  · simp only [List.take_succ_cons, List.take_zero]
    repeat (first | exact Line.nil | ((refine' Line.cons rfl (.run rfl rfl ?_) ?_); (any_goals (first | exact cMove rfl rfl | exact cBuildT (τs := [Ty.rdB p]) rfl (partsT1 rfl (.l rfl hpv) (rdB_isSl p)) Try.underlying57 infoB rfl | exact cCall1 rfl rfl hO | exact cBuildPc (s := shaS p) rfl rfl rfl hsA | exact cBuildV (vs := [.agg (pcA (shaS p) vk)]) rfl (parts1v rfl rfl) Try.underlying24 infoPc rfl (by intro z hz; simp only [List.mem_singleton] at hz; subst hz; exact pcA_size _ _) (by decide) (by simp [maxLen]))); rotate_left))
  intro a w6 hF hb hN
  have hBs := hB.size
  replace hB := hB.trans (hb.mono hB.size)
  simp only [List.take_succ_cons, List.take_zero, List.drop_succ_cons, List.drop_zero] at hF hN ⊢
  dsimp only [ext, Option.getD] at hF
  replace hseg := hseg.below hb
  replace hpv := (Ty.rdB p).below hpv hb
  rw [newsPc] at hF
  refine tlAppend (Δ := [(8, Ty.ex v8), (9, Ty.ex (.int .i64 (Ps.length : Int))), (10, Ty.ex (.int .i64 (k : Int)))]) (n := k) (m := 1) (news := flatQ [(shaS p, vk)]) hF rfl rfl rfl rfl Try.underlying24 infoPc (pcA_size _ _) rfl hseg (.t rfl) sl_news (by rw [flatQ_len]; rfl) (one_pc (shaS p) hsA) (by simp [maxLen]; omega) (by omega) (hF.keep [8, 9, 10]) rfl ?_
  intro a w7 u' S' hF hseg' hk7 hS'
  have hbS : ∀ y ∈ S', w3.heap.size ≤ y := own_next hB hS hS'
  replace hB := below_own hB hk7 hS
  rw [← flatQ_snoc, ← hts] at hseg'
  refine' tlOp hF rfl rfl rfl ?_ ?_
  rotate_left
  · exact cAssign rfl rfl
  intro a w8 hF hb
  have hBs := hB.size
  replace hB := hB.trans (hb.mono hB.size)
  try (refine wpList_nil ?_)
  repeat with_reducible first | refine nThen ?_ | refine nBlk ?_
  replace hseg' := hseg'.below hb
  refine' reg_all hF ?_ mixed (by kernel_rfl) ?_
  rotate_left
  · repeat (first | exact Line.nil | ((refine' Line.cons rfl (.run rfl rfl ?_) ?_); (any_goals (first | exact cMove rfl rfl | exact cAdd (r := ((k + 1 : Nat) : Int)) rfl rfl rfl (by omega))); rotate_left))
  intro a w9 hF hb hN
  have hBs := hB.size
  replace hB := hB.trans (hb.mono hB.size)
  dsimp only [ext, Option.getD] at hF
  repeat with_reducible refine nThen ?_
  exact ⟨m - 1, by omega, k + 1, u', S', by omega, hF.keep [3, 8, 9, 10], hB, hseg'.below hb, hbS⟩
end Go.Proofs.Ytbjlmhbpcopfbaa

/- Layer 10: the example that all statements tell; the walks of SetParts, SetLaws. -/
namespace Go.Proofs.Ytbjlmhbpcopfbaa
open Go.RowKit

abbrev s1 : Sm := sm1 1 (by decide)
abbrev s2 : Sm := sm1 2 (by decide)
end Go.Proofs.Ytbjlmhbpcopfbaa

/- Chunks by types: pieces that are read; chunk.Good, chunk.Names. -/
namespace Go.Proofs.Ytbjlmhbpcopfbaa
open Go.RowKit

theorem rd_pre {w : World} {A : Option Addr} {xs ys : List Value} (h : Rd w A (xs ++ ys)) : Rd w A xs := fun j u hu => h j u (by rw [List.getElem?_append_left (List.getElem?_eq_some_iff.1 hu).1]; exact hu)
/-- Pieces that are read. -/
def Ty.pcsR (Q : List (Sm × List Nat)) : Ty := ⟨fun w v => ∃ L, Pcr w L Q ∧ (Ty.rd Q.length (flatQ L)).p w v, fun _ => true, fun ⟨L, h1, h2⟩ k hA => ⟨L, ⟨h1.1, fun j hj => ⟨(h1.2 j hj).1, (Ty.rdB _).st (h1.2 j hj).2 k hA⟩⟩, (Ty.rd _ _).st h2 k hA⟩⟩
theorem pcs_pcsR (Q : List (Sm × List Nat)) : ∀ w v, (Ty.pcs Q).p w v → (Ty.pcsR Q).p w v := fun w v ⟨L, h1, h2⟩ => ⟨L, h1, reads_sl _ _ _ w v h2⟩
theorem pcsR_isSl (Q : List (Sm × List Nat)) : IsSl (Ty.pcsR Q) Q.length := fun _ _ ⟨_, _, A, c, h, _⟩ => ⟨A, c, h⟩
/-- A piece that is pointed to, its bytes' place, a piece as a value. -/
def Ty.pcP (q : Sm × List Nat) : Ty := ⟨fun w v => ∃ u, (Ty.atR (q.1.enc ++ [u])).p w v ∧ (Ty.rdB q.2).p w u, fun _ => true, fun ⟨u, h1, h2⟩ k hA => ⟨u, (Ty.atR _).st h1 k hA, (Ty.rdB _).st h2 k hA⟩⟩
def Ty.pcB (b : List Nat) : Ty := ⟨fun w v => ∃ u, (Ty.atR [u]).p w v ∧ (Ty.rdB b).p w u, fun _ => true, fun ⟨u, h1, h2⟩ k hA => ⟨u, (Ty.atR _).st h1 k hA, (Ty.rdB _).st h2 k hA⟩⟩
def Ty.pc (q : Sm × List Nat) : Ty := ⟨fun w v => ∃ u, v = .agg (pcA q.1 u) ∧ (Ty.rdB q.2).p w u, fun _ => true, fun ⟨u, h1, h2⟩ k hA => ⟨u, h1, (Ty.rdB _).st h2 k hA⟩⟩
theorem at_atR' {e : TypeId} {xs : List Value} (hne : xs ≠ []) : ∀ w v, (Ty.at_ e xs).p w v → (Ty.atR xs).p w v := fun _ _ h => let ⟨ad, h1, h2⟩ := at_rd h; ⟨ad, h1, h2, hne⟩
theorem pcA_arr (x : Sm) (v : Value) : (x.enc ++ [v]).toArray = pcA x v := Array.toList_inj.1 (by rw [pcA_list])
theorem at_pcP {e : TypeId} {w : World} {v u : Value} {x : Sm} {b : List Nat} (h : (Ty.at_ e (pcA x u).toList).p w v) (hu : (Ty.rdB b).p w u) : (Ty.pcP (x, b)).p w v := by
  rw [pcA_list] at h
  exact ⟨u, at_atR' (by simp) _ _ h, hu⟩
theorem run_fieldR {P : Program} {t ft : TypeId} {fs : Array Field} {i off sz : Nat} (hu : P.underlying t = some (.struct fs)) (hf : (fs[i]?).map (fun f => (f.type, f.offset)) = some (ft, off)) (hz : (P.info? ft).map (·.size) = some (sz + 1)) (ad : Addr) (w : World) : (Instr.fieldAt t (.pointer (some ad)) i).run P w = .ok (.pointer (some (ad.add off))) w := by
  obtain ⟨f, h1, h2⟩ := Option.map_eq_some_iff.1 hf
  simp only [Prod.mk.injEq] at h2
  obtain ⟨rfl, rfl⟩ := h2
  obtain ⟨inf, hinf, hsz⟩ := Option.map_eq_some_iff.1 hz
  simp [Instr.fieldAt, fieldPlace, run_underlying hu, h1, Instr.sureAddr, sizeOf, typeInfo, hinf, hsz]
section
variable {P : Program} {w0 : World} {Γ : Ctx} {o : Oper} {x ix : Operand} {t e ft : TypeId} {kd : IntKind} {k sz : Nat} {Q : List (Sm × List Nat)} {q : Sm × List Nat} {b : List Nat} {fs : Array Field}
theorem cIdxQ (ho : o.op = .indexAddr t x ix) (hx : Has w0 Γ x (Ty.pcsR Q)) (hi : OpT Γ ix (Ty.ex (.int kd (k : Int)))) (hu : P.underlying t = some (.slice e)) (hz : (P.info? e).map (·.size) = some 33) (hk : k < Q.length) : OpOk P w0 Γ o (Ty.pcP (Q.getD k (Sm.zero, []))) :=
  .val fun a w hb hs => by
    obtain ⟨v, h1, L, ⟨hl, hL⟩, A, c, rfl, h2, h3, h4⟩ := hx.see hs (by simp [ho, Op.operands]) hb
    obtain ⟨i, h5, h6⟩ := hs ix _ (by simp [ho, Op.operands]) hi
    have h6 : i = .int kd (k : Int) := h6
    have hkl : k < L.length := by omega
    have hne : k * 33 < (flatQ L).length := by rw [flatQ_len]; omega
    obtain ⟨ad, rfl, hc⟩ := h4.at_ hne
    obtain ⟨inf, hinf, hsz⟩ := Option.map_eq_some_iff.1 hz
    have hr := rd_add h4 (k * 33)
    rw [flatQ_at L hkl, (hL k hk).1] at hr
    refine ⟨_, ⟨(L.getD k (Sm.zero, nilB)).2, ⟨ad.add (k * 33), rfl, rd_pre hr, by simp⟩, (hL k hk).2⟩, ?_⟩
    unfold execOp
    simp [ho, h1, h5, h6, Instr.indexAt, asIntOf, run_underlying hu, hk, sizeOf, typeInfo, hinf, hsz]
theorem cIdxQX {n : Nat} {L : List (Sm × Value)} (ho : o.op = .indexAddr t x ix) (hx : Has w0 Γ x (Ty.rd n (flatQ L))) (hi : OpT Γ ix (Ty.ex (.int kd (k : Int)))) (hu : P.underlying t = some (.slice e)) (hz : (P.info? e).map (·.size) = some 33) (hk : k < n) (hkl : k < L.length) : OpOk P w0 Γ o (Ty.atR ((L.getD k (Sm.zero, nilB)).1.enc ++ [(L.getD k (Sm.zero, nilB)).2])) := by
  have h := cIndexR (P := P) ho hx hi hu hz hk (by rw [flatQ_len]; omega)
  rw [flatQ_at L hkl] at h
  exact h.conv (fun w v ⟨ad, h1, h2, h3⟩ => ⟨ad, h1, rd_pre h2, by simp⟩)
theorem cLoadQX {s : Sm} {u : Value} {d : TypeDesc} (ho : o.op = .load t x) (hx : Has w0 Γ x (Ty.atR (s.enc ++ [u]))) (hu : P.underlying t = some d) (hd : (match d with | .struct _ | .array _ _ => true | _ => false) = true) (hi : (P.info? t).map (·.size) = some 33) : OpOk P w0 Γ o (Ty.ex (.agg (pcA s u))) := by
  have h := cLoadK (P := P) ho hx (pts_atR _) hu hd hi (by rw [List.length_append, encL]; exact Nat.le_refl _)
  rwa [List.take_of_length_le (by rw [List.length_append, encL]; exact Nat.le_refl _), pcA_arr] at h
theorem cFldQ0 (ho : o.op = .fieldAddr t x 0) (hx : Has w0 Γ x (Ty.pcP q)) (hu : P.underlying t = some (.struct fs)) (hf : (fs[0]?).map (fun f => (f.type, f.offset)) = some (ft, 0)) (hz : (P.info? ft).map (·.size) = some (sz + 1)) : OpOk P w0 Γ o (Ty.atR q.1.enc) :=
  .val fun a w hb hs => by
    obtain ⟨v, h1, u, ⟨ad, rfl, h2, h3⟩, h4⟩ := hx.see hs (by simp [ho, Op.operands]) hb
    refine ⟨.pointer (some (ad.add 0)), ⟨ad.add 0, rfl, rd_add (rd_pre h2) 0, fun h => ?_⟩, ?_⟩
    · have := congrArg List.length h; rw [encL] at this; cases this
    · unfold execOp
      simp [ho, h1, run_fieldR hu hf hz]
theorem cFldQ1 (ho : o.op = .fieldAddr t x 1) (hx : Has w0 Γ x (Ty.pcP q)) (hu : P.underlying t = some (.struct fs)) (hf : (fs[1]?).map (fun f => (f.type, f.offset)) = some (ft, 32)) (hz : (P.info? ft).map (·.size) = some (sz + 1)) : OpOk P w0 Γ o (Ty.pcB q.2) :=
  .val fun a w hb hs => by
    obtain ⟨v, h1, u, ⟨ad, rfl, h2, h3⟩, h4⟩ := hx.see hs (by simp [ho, Op.operands]) hb
    have h5 := rd_add h2 32
    rw [List.drop_append, encL, List.drop_of_length_le (Nat.le_of_eq (encL _)), List.nil_append, Nat.sub_self, List.drop_zero] at h5
    refine ⟨.pointer (some (ad.add 32)), ⟨u, ⟨ad.add 32, rfl, h5, by simp⟩, h4⟩, ?_⟩
    unfold execOp
    simp [ho, h1, run_fieldR hu hf hz]
theorem cLoadQB {d : TypeDesc} (ho : o.op = .load t x) (hx : Has w0 Γ x (Ty.pcB b)) (hu : P.underlying t = some d) (hd : (match d with | .struct _ | .array _ _ => true | _ => false) = false) : OpOk P w0 Γ o (Ty.rdB b) :=
  .val fun a w hb hs => by
    obtain ⟨v, h1, u, ⟨ad, rfl, h2, h3⟩, h4⟩ := hx.see hs (by simp [ho, Op.operands]) hb
    refine ⟨u, h4, ?_⟩
    have h5 := run_loadVar_one (P := P) h2 hu hd
    unfold execOp
    simp [ho, h1, Instr.loadAt, Instr.sureAddr, h5]
theorem cLoadQ {d : TypeDesc} (ho : o.op = .load t x) (hx : Has w0 Γ x (Ty.pcP q)) (hu : P.underlying t = some d) (hd : (match d with | .struct _ | .array _ _ => true | _ => false) = true) (hi : (P.info? t).map (·.size) = some 33) : OpOk P w0 Γ o (Ty.pc q) :=
  .val fun a w hb hs => by
    obtain ⟨v, h1, u, ⟨ad, rfl, h2, h3⟩, h4⟩ := hx.see hs (by simp [ho, Op.operands]) hb
    refine ⟨.agg (pcA q.1 u), ⟨u, rfl, h4⟩, ?_⟩
    have h5 := run_loadVar_rd (P := P) h2 hu hd (by rw [hi, List.length_append, encL]; rfl)
    rw [pcA_arr] at h5
    unfold execOp
    simp [ho, h1, Instr.loadAt, Instr.sureAddr, h5]
end
theorem sizePc : (Try.prog.info? PiT).map (·.size) = some 33 := by kernel_rfl
theorem sizeB1 : (Try.prog.info? 22).map (·.size) = some 1 := by kernel_rfl
theorem pcA_one (x : Sm) {v : Value} (hv : ∃ A l c, v = .slice A l c) : (Value.agg (pcA x v)).cells.all (·.oneCell') = true := by
  rw [Array.all_eq_true_iff_forall_mem]
  intro u hu
  have h := one_pc x hv u
  rw [flatQ_cons] at h
  refine h (List.mem_append_left _ ?_)
  rw [← pcA_list]
  exact Array.mem_toList_iff.2 hu
theorem rdB_slice {b : List Nat} {w : World} {v : Value} (h : (Ty.rdB b).p w v) : ∃ A l c, v = .slice A l c := let ⟨A, c, e, _⟩ := h; ⟨A, _, c, e⟩
/-- Whether a piece may be. -/
def goodQ (q : Sm × List Nat) : Bool := decide (1 ≤ q.2.length) && (decide (q.2.length ≤ 128) && decide (shaS q.2 = q.1))
set_option maxRecDepth 100000 in
set_option maxHeartbeats 2000000 in
theorem goodq_ty (q : Sm × List Nat) (hx : ∀ x ∈ q.2, x < 256) (hn : q.2.length ≤ 1000000) : Fn1 Try.prog 13 (Ty.pc q) (Ty.ex (.bool (goodQ q))) := by
  refine ⟨fun args w => by kernel_rfl, fun w v hv => ?_⟩
  obtain ⟨u, rfl, hu⟩ := hv
  have hO := sumOf1_ty (e := 22) (τ := Ty.rdB q.2) q.2 (reads_rdB q.2) hx (by omega)
  obtain ⟨x, b⟩ := q
  simp only [goodQ] at *
  generalize hl : b.length = n at *
  refine enter_ty 22 [Ty.ex (.agg (pcA x u))] Try.func13 rfl (by kernel_rfl) ⟨rfl, trivial⟩ fun a hF => ?_
  have hB := Below.refl w.heap.size w
  repeat with_reducible refine wp_seq ?_
  refine' reg_all hF ?_ mixed (by kernel_rfl) ?_
  rotate_left
  · repeat (first | exact Line.nil | ((refine' Line.cons rfl (.run rfl rfl ?_) ?_); (any_goals (first | exact cAssign rfl rfl | exact cBox rfl rfl)); rotate_left))
  intro a w1 hF hb hN
  have hBs := hB.size
  replace hB := hB.trans (hb.mono hB.size)
  dsimp only [ext, Option.getD] at hF
  repeat with_reducible first | refine wp_seq ?_ | refine nThen ?_
  obtain ⟨p, hp, hF⟩ := hF.open (s := 1) rfl
  have hp := at_pcP hp ((Ty.rdB b).below hu hB)
  have hB0 := hB
  by_cases h1 : 1 ≤ n
  · by_cases h2 : n ≤ 128
    · refine' reg_all hF ?_ mixed (by kernel_rfl) ?_
      rotate_left
      · repeat (first | exact Line.nil | ((first | refine' Line.cons rfl (.run rfl rfl ?_) ?_ | refine' Line.cons rfl (.yes rfl rfl rfl rfl ?_) ?_); (any_goals (first | exact cMove rfl rfl | exact cAssign rfl rfl | exact OpOk.b (c := true) (cGeq rfl rfl rfl) (decide_eq_true (by omega)) | exact OpOk.b (c := true) (cLeq rfl rfl rfl) (decide_eq_true (by omega)) | exact cFldQ0 rfl (.l rfl hp) Try.underlying29 rfl sizeS | exact cFldQ1 rfl (.l rfl hp) Try.underlying29 rfl sizeB1 | exact cLoadQB rfl (.t rfl) Try.underlying22 rfl | exact cLenH rfl (.t rfl) (hl ▸ rdB_isSl b) Try.underlying22 | exact cLoadSumR rfl (.t rfl) Try.underlying27 sizeS | exact cBuildT (τs := [Ty.rdB b]) rfl (partsT1 rfl (.t rfl) (rdB_isSl b)) Try.underlying57 infoB rfl | exact cCall1 rfl rfl hO | exact cEqlAgg rfl rfl rfl guardS (eqlS (shaS b) x) | exact cPickT rfl rfl rfl)); rotate_left))
      intro a w2 hF hb hN
      have hBs := hB.size
      replace hB := hB.trans (hb.mono hB.size)
      dsimp only [ext, Option.getD] at hF
      repeat with_reducible first | refine nThen ?_ | refine wp_ret ?_
      refine ret1 hF rfl rfl fun z hz => ?_
      rw [decide_eq_true h1, decide_eq_true h2]
      exact ⟨z, rfl, hz, hB⟩
    · refine' reg_all hF ?_ mixed (by kernel_rfl) ?_
      rotate_left
      · repeat (first | exact Line.nil | (refine' Line.cons rfl (.no rfl rfl rfl rfl rfl rfl) ?_; rotate_left) | ((first | refine' Line.cons rfl (.run rfl rfl ?_) ?_ | refine' Line.cons rfl (.yes rfl rfl rfl rfl ?_) ?_); (any_goals (first | exact cMove rfl rfl | exact cAssign rfl rfl | exact OpOk.b (c := true) (cGeq rfl rfl rfl) (decide_eq_true (by omega)) | exact OpOk.b (c := false) (cLeq rfl rfl rfl) (decide_eq_false (by omega)) | exact cFldQ1 rfl (.l rfl hp) Try.underlying29 rfl sizeB1 | exact cLoadQB rfl (.t rfl) Try.underlying22 rfl | exact cLenH rfl (.t rfl) (hl ▸ rdB_isSl b) Try.underlying22 | exact cPickT rfl rfl rfl | exact cPickF rfl rfl rfl)); rotate_left))
      intro a w2 hF hb hN
      have hBs := hB.size
      replace hB := hB.trans (hb.mono hB.size)
      dsimp only [ext, Option.getD] at hF
      repeat with_reducible first | refine nThen ?_ | refine wp_ret ?_
      refine ret1 hF rfl rfl fun z hz => ?_
      rw [decide_eq_true h1, decide_eq_false h2]
      exact ⟨z, rfl, hz, hB⟩
  · refine' reg_all hF ?_ mixed (by kernel_rfl) ?_
    rotate_left
    · repeat (first | exact Line.nil | (refine' Line.cons rfl (.no rfl rfl rfl rfl rfl rfl) ?_; rotate_left) | ((refine' Line.cons rfl (.run rfl rfl ?_) ?_); (any_goals (first | exact cMove rfl rfl | exact cAssign rfl rfl | exact OpOk.b (c := false) (cGeq rfl rfl rfl) (decide_eq_false (by omega)) | exact cFldQ1 rfl (.l rfl hp) Try.underlying29 rfl sizeB1 | exact cLoadQB rfl (.t rfl) Try.underlying22 rfl | exact cLenH rfl (.t rfl) (hl ▸ rdB_isSl b) Try.underlying22 | exact cPickF rfl rfl rfl)); rotate_left))
    intro a w2 hF hb hN
    have hBs := hB.size
    replace hB := hB.trans (hb.mono hB.size)
    dsimp only [ext, Option.getD] at hF
    repeat with_reducible first | refine nThen ?_ | refine wp_ret ?_
    refine ret1 hF rfl rfl fun z hz => ?_
    rw [decide_eq_false h1]
    exact ⟨z, rfl, hz, hB⟩
/-- The pieces' sums. -/
def nmsQ (Q : List (Sm × List Nat)) : List Sm := Q.map (·.1)
set_option maxRecDepth 100000 in
set_option maxHeartbeats 2000000 in
theorem names_ty (b : List Nat) (hn : b.length ≤ 4000) (hx : ∀ x ∈ b, x < 256) : Fn1 Try.prog 11 (Ty.rdB b) (Ty.sums 27 (nmsQ (cutQ b))) := by
  refine ⟨fun args w => by kernel_rfl, fun w v hv => ?_⟩
  have hC := ccut_ty b hn hx
  have hcl : (cutQ b).length ≤ 4000 := by unfold cutQ; rw [List.length_map]; exact Nat.le_trans (pcsB_len b) hn
  generalize cutQ b = Q at *
  refine enter_ty 20 [Ty.ex v] Try.func11 rfl (by kernel_rfl) ⟨rfl, trivial⟩ fun a hF => ?_
  have hB := Below.refl w.heap.size w
  repeat with_reducible refine wp_seq ?_
  refine' reg_all hF ?_ mixed (by kernel_rfl) ?_
  rotate_left
  · repeat (first | exact Line.nil | ((refine' Line.cons rfl (.run rfl rfl ?_) ?_); (any_goals exact cAssign rfl rfl); rotate_left))
  intro a w1 hF hb hN
  have hBs := hB.size
  replace hB := hB.trans (hb.mono hB.size)
  dsimp only [ext, Option.getD] at hF
  repeat with_reducible first | refine wp_seq ?_ | refine nThen ?_
  refine' reg_all hF ?_ mixed (by kernel_rfl) ?_
  rotate_left
  · repeat (first | exact Line.nil | ((refine' Line.cons rfl (.run rfl rfl ?_) ?_); (any_goals exact cAssign rfl rfl); rotate_left))
  intro a w2 hF hb hN
  have hBs := hB.size
  replace hB := hB.trans (hb.mono hB.size)
  dsimp only [ext, Option.getD] at hF
  repeat with_reducible first | refine wp_seq ?_ | refine nThen ?_
  have hv2 := (Ty.rdB b).below hv hB
  refine' reg_all hF ?_ mixed (by kernel_rfl) ?_
  rotate_left
  · repeat (first | exact Line.nil | ((refine' Line.cons rfl (.run rfl rfl ?_) ?_); (any_goals (first | exact cMove rfl rfl | exact cCallH1 rfl (.l rfl hv2) hC | exact cLenH rfl (.t rfl) (pcs_isSl Q) Try.underlying24)); rotate_left))
  intro a w3 hF hb hN
  have hBs := hB.size
  replace hB := hB.trans (hb.mono hB.size)
  dsimp only [ext, Option.getD] at hF
  repeat with_reducible first | refine nThen ?_ | refine wp_block ?_
  obtain ⟨v7, hv7, hF⟩ := hF.open (s := 7) rfl
  obtain ⟨L, ⟨hLl, hLQ⟩, hv7⟩ := pcs_pcsR Q _ _ hv7
  have hw3 := hB.size
  have hB0 := hB
  replace hB := Below.refl w3.heap.size w3
  refine loop_ty (fun m a wr => ∃ (k : Nat) (u : Value) (S : List Nat), k + m = Q.length ∧ Fr 20 [(3, Ty.ex u), (7, Ty.ex v7), (8, Ty.ex (.int .i64 (Q.length : Int))), (9, Ty.ex (.int .i64 (k : Int)))] a wr ∧ Below w3.heap.size w3 wr ∧ Seg wr 27 32 u k (flat ((nmsQ Q).take k)) S ∧ ∀ y ∈ S, w3.heap.size ≤ y) Q.length ?_ ?_
  · exact ⟨0, _, [], by omega, hF.keep [3, 7, 8, 9], hB, Seg.nil _ _ _, by simp⟩
  clear hF hB
  rintro m a wr ⟨k, u, S, hk, hF, hB, hseg, hS⟩
  repeat with_reducible refine wp_seq ?_
  refine' reg_all hF ?_ mixed (by kernel_rfl) ?_
  rotate_left
  · repeat (first | exact Line.nil | ((refine' Line.cons rfl (.run rfl rfl ?_) ?_); (any_goals exact cLss rfl rfl rfl); rotate_left))
  intro a w4 hF hb hN
  have hBs := hB.size
  replace hB := hB.trans (hb.mono hB.size)
  dsimp only [ext, Option.getD] at hF
  repeat with_reducible first | refine wp_seq ?_ | refine nThen ?_
  replace hseg := hseg.below hb
  refine cond_ty hF rfl (fun hlt => ?_) (fun hge => ?_)
  rotate_left
  · have hge : ¬ k < Q.length := by have := of_decide_eq_false hge; omega
    have hkP : k = Q.length := by omega
    repeat with_reducible first | refine wp_seq ?_ | refine nThen ?_ | refine wp_exit ?_ | refine xThen ?_ | refine xHere ?_
    refine' reg_all hF ?_ mixed (by kernel_rfl) ?_
    rotate_left
    · repeat (first | exact Line.nil | ((refine' Line.cons rfl (.run rfl rfl ?_) ?_); (any_goals (first | exact cMove rfl rfl | exact cAssign rfl rfl)); rotate_left))
    intro a w5 hF hb hN
    have hBs := hB.size
    replace hB := hB.trans (hb.mono hB.size)
    dsimp only [ext, Option.getD] at hF
    repeat with_reducible first | refine nThen ?_ | refine wp_ret ?_
    refine ret1 hF rfl rfl fun z hz => ?_
    have hz : z = u := hz
    have hl : (nmsQ Q).length = Q.length := by unfold nmsQ; rw [List.length_map]
    rw [hkP, ← hl, List.take_length] at hseg
    refine ⟨z, rfl, ?_, hB0.trans (hB.mono hw3)⟩
    rw [hz]
    exact (hseg.below hb).sl
  have hlt : k < Q.length := by have := of_decide_eq_true hlt; omega
  have hts : (nmsQ Q).take (k + 1) = (nmsQ Q).take k ++ [(Q.getD k (Sm.zero, [])).1] := by
    unfold nmsQ
    rw [List.take_succ_eq_append_getElem (by rw [List.length_map]; exact hlt)]
    simp [List.getD, List.getElem?_eq_getElem hlt]
  have hseg4 := hseg
  have hw4 := hB.size
  have hvr := (Ty.rd _ _).below hv7 hB
  obtain ⟨hqx, hqv⟩ := hLQ k hlt
  have hkl : k < L.length := by omega
  repeat with_reducible first | refine wp_seq ?_ | refine nThen ?_ | refine wp_skip ?_ | refine wp_block ?_
  refine' region_ty 3 mixed (by kernel_rfl) hF ?_ ?_
  rotate_left
  · simp only [List.take_succ_cons, List.take_zero]
    repeat (first
        | exact Line.nil
        | (refine' Line.cons rfl (.new rfl rfl ((run_alloc_i infoPc)) rfl) ?_; rotate_left)
        | ((refine' Line.cons rfl (.run rfl rfl ?_) ?_)
           any_goals (first | exact cIdxQX (k := k) (L := L) rfl (.l rfl hvr) rfl Try.underlying24 sizePc hlt hkl | exact cLoadQX rfl (.t rfl) Try.underlying29 rfl sizePc)
           rotate_left))
  intro a w5 hF hb hN
  have hBs := hB.size
  replace hB := hB.trans (hb.mono hB.size)
  simp only [List.take_succ_cons, List.take_zero, List.drop_succ_cons, List.drop_zero] at hF hN ⊢
  dsimp only [ext, Option.getD] at hF
  rw [← hqx] at hts
  generalize Q.getD k (Sm.zero, []) = q at *
  generalize L.getD k (Sm.zero, nilB) = l at *
  obtain ⟨x, u12⟩ := l
  dsimp only at *
  replace hseg := hseg.below hb
  have hsA := rdB_slice hqv
  obtain ⟨z, ⟨gx, rfl, hgx, hbx⟩, hF⟩ := hF.open (s := 5) rfl
  have hgx : w4.heap.size ≤ gx := hgx
  refine tlStoreV (Δ := [(3, Ty.ex u), (5, Ty.ex (.pointer (some ⟨gx, 0, none⟩))), (7, Ty.ex v7), (8, Ty.ex (.int .i64 (Q.length : Int))), (9, Ty.ex (.int .i64 (k : Int)))]) hF rfl rfl rfl rfl (hF.getEx (s := 12) rfl) hbx (by show (pcA _ _).size = (pcA _ _).size; rw [pcA_size, pcA_size]) (by show _ = some (pcA _ _).size; rw [pcA_size]; exact sizePc) (pcA_one _ hsA) (hF.keep [3, 5, 7, 8, 9]) rfl ?_
  intro w6 hF hbx hkx
  refine wpList_nil ?_
  have hSlt : ∀ y ∈ S, y < w4.heap.size := fun y hy => hseg4.lt y hy
  replace hseg := hseg.keeps hkx (by intro y hy hm; simp only [List.mem_singleton] at hm; have := hSlt y hy; omega)
  replace hB := below_own hB hkx (by intro y hy; simp only [List.mem_singleton] at hy; omega)
  repeat with_reducible refine nThen ?_
  have hat := blk_at hbx
  have hp := at_pcP hat ((Ty.rdB q.2).below hqv hB)
  have hwr := hB.size
  refine' region_ty 4 mixed (by kernel_rfl) hF ?_ ?_
  rotate_left
  · simp only [List.take_succ_cons, List.take_zero]
    repeat (first | exact Line.nil | ((refine' Line.cons rfl (.run rfl rfl ?_) ?_); (any_goals (first | exact cMove rfl rfl | exact cFldQ0 rfl (.l rfl hp) Try.underlying29 rfl sizeS | exact cLoadSumR rfl (.t rfl) Try.underlying27 sizeS | exact cBuildSums [x] rfl (parts1v rfl rfl) Try.underlying35 infoS rfl)); rotate_left))
  intro a w7 hF hb hN
  have hBs := hB.size
  replace hB := hB.trans (hb.mono hB.size)
  simp only [List.take_succ_cons, List.take_zero, List.drop_succ_cons, List.drop_zero] at hF hN ⊢
  dsimp only [ext, Option.getD] at hF
  replace hseg := hseg.below hb
  refine tlAppend (Δ := [(7, Ty.ex v7), (8, Ty.ex (.int .i64 (Q.length : Int))), (9, Ty.ex (.int .i64 (k : Int)))]) (n := k) (m := 1) (news := flat [x]) hF rfl rfl rfl rfl Try.underlying35 infoS zero32_size rfl hseg (.t rfl) sl_news (by rw [flat_len]; rfl) flat_one' (by simp [maxLen]; omega) (by omega) (hF.keep [7, 8, 9]) rfl ?_
  intro a w8 u' S' hF hseg' hk8 hS'
  have hbS : ∀ y ∈ S', w3.heap.size ≤ y := own_next hB hS hS'
  replace hB := below_own hB hk8 hS
  rw [flat_one, ← flat_one x, ← flat_append, ← hts] at hseg'
  refine' tlOp hF rfl rfl rfl ?_ ?_
  rotate_left
  · exact cAssign rfl rfl
  intro a w9 hF hb
  have hBs := hB.size
  replace hB := hB.trans (hb.mono hB.size)
  try (refine wpList_nil ?_)
  repeat with_reducible first | refine nThen ?_ | refine nBlk ?_
  replace hseg' := hseg'.below hb
  refine' reg_all hF ?_ mixed (by kernel_rfl) ?_
  rotate_left
  · repeat (first | exact Line.nil | ((refine' Line.cons rfl (.run rfl rfl ?_) ?_); (any_goals (first | exact cMove rfl rfl | exact cAdd (r := ((k + 1 : Nat) : Int)) rfl rfl rfl (by omega))); rotate_left))
  intro a w10 hF hb hN
  have hBs := hB.size
  replace hB := hB.trans (hb.mono hB.size)
  dsimp only [ext, Option.getD] at hF
  repeat with_reducible refine nThen ?_
  exact ⟨m - 1, by omega, k + 1, u', S', by omega, hF.keep [3, 7, 8, 9], hB, hseg'.below hb, hbS⟩
end Go.Proofs.Ytbjlmhbpcopfbaa

/- Regions by types: memory of the call's own that an operation takes over (append in place; constants that are frozen): each such slot has blocks of its own, told apart from all others. -/
namespace Go.Proofs.Ytbjlmhbpcopfbaa
open Go.RowKit

/-- A type with the blocks that are its own. -/
structure OTy where
  τ : Ty
  q : World → Value → List Nat → Prop
  tyq : ∀ {w : World} {v : Value} {S : List Nat}, q w v S → τ.p w v
  st : ∀ {w w' : World} {v : Value} {S T : List Nat}, q w v S → Keeps T w w' → (∀ b ∈ S, b ∉ T) → q w' v S
  lt : ∀ {w : World} {v : Value} {S : List Nat}, q w v S → ∀ b ∈ S, b < w.heap.size
def OTy.ex (v : Value) : OTy := ⟨Ty.ex v, fun _ u S => u = v ∧ S = [], fun h => h.1, fun h _ _ => h, fun h b hb => by rw [h.2] at hb; cases hb⟩
def OTy.seg (w0 : World) (e : TypeId) (sz n : Nat) (xs : List Value) : OTy := ⟨Ty.seg w0 e sz n xs, fun w v S => Seg w e sz v n xs S ∧ ∀ y ∈ S, w0.heap.size ≤ y, fun h => ⟨_, h.1, h.2⟩, fun h k hd => ⟨h.1.keeps k hd, h.2⟩, fun h b hb => h.1.lt b hb⟩
/-- A slice in a block of its own, read alone. -/
def OTy.slo (e : TypeId) (n : Nat) (xs : List Value) : OTy := ⟨Ty.sl e n xs, fun w v S => ∃ g off c cs fr, v = .slice (some ⟨g, off, none⟩) n c ∧ S = [g] ∧ n ≤ c ∧ c ≤ maxLen ∧ w.heap[g]? = some (.cells cs e fr) ∧ ∀ (j : Nat) (u : Value), xs[j]? = some u → cs[off + j]? = some u,
  fun ⟨g, off, c, cs, fr, h1, _, h3, h4, h5, h6⟩ => ⟨_, c, h1, h3, h4, fun h => (by cases h), fun j u hu => ⟨g, off, cs, fr, rfl, h5, h6 j u hu⟩⟩,
  fun ⟨g, off, c, cs, fr, h1, h2, h3, h4, h5, h6⟩ k hd => ⟨g, off, c, cs, fr, h1, h2, h3, h4, (k.block g (Array.getElem?_eq_some_iff.1 h5).1 (hd g (by simp [h2]))).trans h5, h6⟩,
  fun ⟨g, off, c, cs, fr, h1, h2, h3, h4, h5, h6⟩ b hb => by
    rw [h2] at hb
    simp only [List.mem_singleton] at hb
    subst hb
    exact (Array.getElem?_eq_some_iff.1 h5).1⟩

/-- A new variable of the region's own. -/
def OTy.var (w0 : World) (t : TypeId) (z : Array Value) : OTy := ⟨Ty.var w0 t z, fun w v S => ∃ g, v = .pointer (some ⟨g, 0, none⟩) ∧ S = [g] ∧ w0.heap.size ≤ g ∧ Blk w g t z, fun ⟨g, h1, _, h3, h4⟩ => ⟨g, h1, h3, h4⟩,
  fun ⟨g, h1, h2, h3, h4⟩ k hd => ⟨g, h1, h2, h3, h4.keeps k (hd g (by simp [h2]))⟩, fun ⟨g, _, h2, _, h4⟩ b hb => by
    rw [h2] at hb
    simp only [List.mem_singleton] at hb
    subst hb
    exact h4.lt⟩
abbrev OCtx := List (Nat × OTy)
def olook : OCtx → Nat → Option OTy
  | [], _ => none
  | p :: Γ, s => bif Nat.beq p.1 s then some p.2 else olook Γ s
theorem olook_same (d : Nat) (V : OTy) (Γ : OCtx) : olook ((d, V) :: Γ) d = some V := by simp [olook]
theorem olook_ne {d s : Nat} (V : OTy) (Γ : OCtx) (h : d ≠ s) : olook ((d, V) :: Γ) s = olook Γ s := by
  have : Nat.beq d s = false := by
    cases hb : Nat.beq d s with
    | false => rfl
    | true => exact absurd (Nat.eq_of_beq_eq_true hb) h
  simp [olook, this]

/-- An operation that takes over nothing: what it yields is new, or a plain value. -/
def OpO (P : Program) (w0 : World) (Γ : Ctx) (o : Oper) (V : OTy) : Prop :=
  ∀ (a : Act) (w : World) (K : Act → World → Prop) (Q : Exit → Act → World → Prop), Below w0.heap.size w0 w →
    (∀ (s : Nat) (τ : Ty), s ∈ Oper.reads o → look Γ s = some τ → ∃ v, a.tmps[s]? = some v ∧ τ.p w v) →
    (∀ v w' S, V.q w' v S → (∀ b ∈ S, w.heap.size ≤ b) → Below w.heap.size w w' → K (a.put o.dst v) w') → o.wp P a w K Q
/-- An operation that takes over slot s. -/
def OpTk (P : Program) (w0 : World) (Γ : Ctx) (o : Oper) (U V : OTy) (s : Nat) : Prop :=
  ∀ (a : Act) (w : World) (S0 : List Nat) (K : Act → World → Prop) (Q : Exit → Act → World → Prop), Below w0.heap.size w0 w →
    (∀ (s : Nat) (τ : Ty), s ∈ Oper.reads o → look Γ s = some τ → ∃ v, a.tmps[s]? = some v ∧ τ.p w v) →
    (∃ v, a.tmps[s]? = some v ∧ U.q w v S0) →
    (∀ v w' S, V.q w' v S → (∀ b ∈ S, b ∈ S0 ∨ w.heap.size ≤ b) → Keeps S0 w w' → K (a.put o.dst v) w') → o.wp P a w K Q
inductive FactO (P : Program) (ops : Array Oper) (w0 : World) (Γ : Ctx) (o : Oper) (V : OTy) : Prop
  | run (hg : o.guard = none) (h : OpO P w0 Γ o V)
  | yes {j s : Nat} {b : Bool} (hg : o.guard = some (j, b)) (hj : slotOf ops j = some s) (hs : look Γ s = some (Ty.ex (.bool b))) (h : OpO P w0 Γ o V)
  | no {j s : Nat} {b c : Bool} (hg : o.guard = some (j, c)) (hj : slotOf ops j = some s) (hs : look Γ s = some (Ty.ex (.bool b))) (hbc : (b == c) = false) (hV : V = OTy.ex undef)
inductive FactT (P : Program) (ops : Array Oper) (w0 : World) (Γ : Ctx) (o : Oper) (U V : OTy) (s0 : Nat) : Prop
  | run (hg : o.guard = none) (h : OpTk P w0 Γ o U V s0)
  | yes {j s : Nat} {b : Bool} (hg : o.guard = some (j, b)) (hj : slotOf ops j = some s) (hs : look Γ s = some (Ty.ex (.bool b))) (h : OpTk P w0 Γ o U V s0)
/-- Which slot an operation takes over. -/
def takes : List (Nat × Nat) → Nat → Option Nat
  | [], _ => none
  | p :: T, i => bif Nat.beq p.1 i then some p.2 else takes T i
theorem takes_mem : ∀ {T : List (Nat × Nat)} {i s : Nat}, takes T i = some s → (i, s) ∈ T
  | p :: T, i, s, h => by
    unfold takes at h
    cases hb : Nat.beq p.1 i with
    | true =>
      rw [hb] at h
      simp only [cond_true, Option.some.injEq] at h
      have := Nat.eq_of_beq_eq_true hb
      subst this h
      simp
    | false => rw [hb] at h; exact List.mem_cons_of_mem _ (takes_mem h)
inductive LineO (P : Program) (ops : Array Oper) (w0 : World) (T : List (Nat × Nat)) : Nat → Ctx → OCtx → List Oper → List OTy → Prop
  | nil {i : Nat} {Γ : Ctx} {Ω : OCtx} : LineO P ops w0 T i Γ Ω [] []
  | cons {i : Nat} {Γ : Ctx} {Ω : OCtx} {d : Nat} {o : Oper} {V : OTy} {os : List Oper} {Vs : List OTy} (hd : o.dst = some d) (hT : takes T i = none) (h : FactO P ops w0 Γ o V) (t : LineO P ops w0 T (i + 1) ((d, V.τ) :: Γ) ((d, V) :: Ω) os Vs) : LineO P ops w0 T i Γ Ω (o :: os) (V :: Vs)
  | take {i : Nat} {Γ : Ctx} {Ω : OCtx} {d s : Nat} {o : Oper} {U V : OTy} {os : List Oper} {Vs : List OTy} (hd : o.dst = some d) (hT : takes T i = some s) (hU : olook Ω s = some U) (h : FactT P ops w0 Γ o U V s) (t : LineO P ops w0 T (i + 1) ((d, V.τ) :: Γ) ((d, V) :: Ω) os Vs) : LineO P ops w0 T i Γ Ω (o :: os) (V :: Vs)
def extO : Ctx → List Oper → List OTy → Ctx
  | Γ, o :: os, V :: Vs => extO ((o.dst.getD 0, V.τ) :: Γ) os Vs
  | Γ, _, _ => Γ
/-- Slots that were taken over are told no more. -/
def hideT (T : List (Nat × Nat)) (Γ : Ctx) : Ctx := T.foldr (fun p Γ => (p.2, Ty.any) :: Γ) Γ
theorem hideT_look {T : List (Nat × Nat)} {Γ : Ctx} {s : Nat} {τ : Ty} (h : look (hideT T Γ) s = some τ) : τ = Ty.any ∧ (∃ i, (i, s) ∈ T) ∨ look Γ s = some τ ∧ ∀ i, (i, s) ∉ T := by
  induction T with
  | nil => exact .inr ⟨h, fun i hi => by cases hi⟩
  | cons p T ih =>
    have h' : look ((p.2, Ty.any) :: hideT T Γ) s = some τ := h
    by_cases hp : p.2 = s
    · subst hp
      rw [look_same] at h'
      injection h' with h'
      exact .inl ⟨h'.symm, p.1, by simp⟩
    · rw [look_ne _ _ hp] at h'
      rcases ih h' with ⟨h1, i, h2⟩ | ⟨h1, h2⟩
      · exact .inl ⟨h1, i, by simp [h2]⟩
      · refine .inr ⟨h1, fun i hi => ?_⟩
        rcases List.mem_cons.1 hi with h3 | h3
        · subst h3; exact hp rfl
        · exact h2 i h3
/-- What is asked of taking over: it reads that slot; no other reads it. -/
def takeB (N : Nat) (ops : Array Oper) (n : Nat) (T : List (Nat × Nat)) : Bool := T.all fun p => decide (p.1 < n) && decide (p.2 < N) &&
  (match ops[p.1]? with | some o => (o.looksAt ops).contains p.2 | none => false) &&
  (List.range n).all fun k => (k == p.1) || (match ops[k]? with | some o => !(o.looksAt ops).contains p.2 | none => true)
theorem takeB_at {N : Nat} {ops : Array Oper} {n : Nat} {T : List (Nat × Nat)} (h : takeB N ops n T = true) {i s : Nat} (hm : (i, s) ∈ T) : (i < n ∧ s < N) ∧ (∀ o, ops[i]? = some o → s ∈ o.looksAt ops) ∧ ∀ k o, k < n → ops[k]? = some o → s ∈ o.looksAt ops → k = i := by
  have h1 := List.all_eq_true.1 h _ hm
  simp only [Bool.and_eq_true, decide_eq_true_eq] at h1
  obtain ⟨⟨⟨h2, h2'⟩, h3⟩, h4⟩ := h1
  refine ⟨⟨h2, h2'⟩, fun o ho => ?_, fun k o hk ho hs => ?_⟩
  · rw [ho] at h3
    simpa using h3
  · have h5 := List.all_eq_true.1 h4 k (List.mem_range.2 hk)
    rw [ho] at h5
    replace h5 : ((k == i) || !(o.looksAt ops).contains s) = true := h5
    have h6 : ((o.looksAt ops).contains s) = true := by simpa using hs
    rw [h6] at h5
    simpa using h5

section
variable {P : Program} {ops : Array Oper} {w0 : World} {Γ : Ctx} {o : Oper} {V U : OTy}
theorem FactO.at_work (h : FactO P ops w0 Γ o V) {a : Act} {w : World} (hb : Below w0.heap.size w0 w) (hs : Sees ops Γ o a w) (K : Act → World → Prop) (Q : Exit → Act → World → Prop)
    (hK : ∀ v w' S, V.q w' v S → (∀ b ∈ S, w.heap.size ≤ b) → Below w.heap.size w w' → K (a.put o.dst v) w') :
    if Region.wanted o (yielded ops a.tmps) then o.wp P a w K Q else K (a.put o.dst undef) w := by
  cases h with
  | run hg h =>
    rw [if_pos (by simp [Region.wanted, hg])]
    exact h a w K Q hb (fun s τ hr hl => hs s τ (reads_looksAt hr) hl) hK
  | @yes j s b hg hj hl h =>
    obtain ⟨v, hv, he⟩ := hs s _ (guard_looksAt hg hj) hl
    have he : v = .bool b := he
    subst he
    rw [if_pos (by simp [Region.wanted, hg, yielded_of hj hv])]
    exact h a w K Q hb (fun s τ hr hl => hs s τ (reads_looksAt hr) hl) hK
  | @no j s b c hg hj hl hbc hV =>
    obtain ⟨v, hv, he⟩ := hs s _ (guard_looksAt hg hj) hl
    have he : v = .bool b := he
    subst he
    rw [if_neg (by cases b <;> cases c <;> simp at hbc <;> simp [Region.wanted, hg, yielded_of hj hv])]
    exact hK undef w [] (by rw [hV]; exact ⟨rfl, rfl⟩) (by simp) (Below.refl _ _)
theorem FactT.at_work {s0 : Nat} (h : FactT P ops w0 Γ o U V s0) {a : Act} {w : World} {S0 : List Nat} (hb : Below w0.heap.size w0 w) (hs : Sees ops Γ o a w) (hU : ∃ v, a.tmps[s0]? = some v ∧ U.q w v S0) (K : Act → World → Prop) (Q : Exit → Act → World → Prop)
    (hK : ∀ v w' S, V.q w' v S → (∀ b ∈ S, b ∈ S0 ∨ w.heap.size ≤ b) → Keeps S0 w w' → K (a.put o.dst v) w') :
    if Region.wanted o (yielded ops a.tmps) then o.wp P a w K Q else K (a.put o.dst undef) w := by
  cases h with
  | run hg h =>
    rw [if_pos (by simp [Region.wanted, hg])]
    exact h a w S0 K Q hb (fun s τ hr hl => hs s τ (reads_looksAt hr) hl) hU hK
  | @yes j s b hg hj hl h =>
    obtain ⟨v, hv, he⟩ := hs s _ (guard_looksAt hg hj) hl
    have he : v = .bool b := he
    subst he
    rw [if_pos (by simp [Region.wanted, hg, yielded_of hj hv])]
    exact h a w S0 K Q hb (fun s τ hr hl => hs s τ (reads_looksAt hr) hl) hU hK
theorem LineO.at_ {T : List (Nat × Nat)} {l : List Oper} {Vs : List OTy} {m : Nat} {Ω : OCtx} (h : LineO P ops w0 T m Γ Ω l Vs) : ∀ (i : Nat) (o : Oper), l[i]? = some o → ∃ V Γi, Vs[i]? = some V ∧
    (takes T (m + i) = none ∧ FactO P ops w0 Γi o V ∨ ∃ s U, takes T (m + i) = some s ∧ FactT P ops w0 Γi o U V s ∧ ((∃ (j : Nat) (oj : Oper), j < i ∧ l[j]? = some oj ∧ oj.dst = some s ∧ Vs[j]? = some U) ∨ olook Ω s = some U)) ∧
    ∀ (s : Nat) (τ : Ty), look Γi s = some τ → (∃ (j : Nat) (oj : Oper) (Vj : OTy), j < i ∧ l[j]? = some oj ∧ oj.dst = some s ∧ Vs[j]? = some Vj ∧ Vj.τ = τ) ∨ ((∀ (j : Nat) (oj : Oper), j < i → l[j]? = some oj → oj.dst ≠ some s) ∧ look Γ s = some τ) := by
  have key : ∀ {m : Nat} {Γ : Ctx} {Ω : OCtx} {d : Nat} {o : Oper} {V : OTy} {os : List Oper} {Vs : List OTy} (hd : o.dst = some d)
      (ih : ∀ (i : Nat) (o : Oper), os[i]? = some o → ∃ V' Γi, Vs[i]? = some V' ∧
        (takes T (m + 1 + i) = none ∧ FactO P ops w0 Γi o V' ∨ ∃ s U, takes T (m + 1 + i) = some s ∧ FactT P ops w0 Γi o U V' s ∧ ((∃ (j : Nat) (oj : Oper), j < i ∧ os[j]? = some oj ∧ oj.dst = some s ∧ Vs[j]? = some U) ∨ olook ((d, V) :: Ω) s = some U)) ∧
        ∀ (s : Nat) (τ : Ty), look Γi s = some τ → (∃ (j : Nat) (oj : Oper) (Vj : OTy), j < i ∧ os[j]? = some oj ∧ oj.dst = some s ∧ Vs[j]? = some Vj ∧ Vj.τ = τ) ∨ ((∀ (j : Nat) (oj : Oper), j < i → os[j]? = some oj → oj.dst ≠ some s) ∧ look ((d, V.τ) :: Γ) s = some τ))
      (i : Nat) (o' : Oper), os[i]? = some o' → ∃ V' Γi, (V :: Vs)[i + 1]? = some V' ∧
        (takes T (m + (i + 1)) = none ∧ FactO P ops w0 Γi o' V' ∨ ∃ s U, takes T (m + (i + 1)) = some s ∧ FactT P ops w0 Γi o' U V' s ∧ ((∃ (j : Nat) (oj : Oper), j < i + 1 ∧ (o :: os)[j]? = some oj ∧ oj.dst = some s ∧ (V :: Vs)[j]? = some U) ∨ olook Ω s = some U)) ∧
        ∀ (s : Nat) (τ : Ty), look Γi s = some τ → (∃ (j : Nat) (oj : Oper) (Vj : OTy), j < i + 1 ∧ (o :: os)[j]? = some oj ∧ oj.dst = some s ∧ (V :: Vs)[j]? = some Vj ∧ Vj.τ = τ) ∨ ((∀ (j : Nat) (oj : Oper), j < i + 1 → (o :: os)[j]? = some oj → oj.dst ≠ some s) ∧ look Γ s = some τ) := by
    intro m Γ Ω d o V os Vs hd ih i o' ho'
    obtain ⟨V', Γi, h1, h2, h3⟩ := ih i o' ho'
    refine ⟨V', Γi, by simpa using h1, ?_, fun s τ hl => ?_⟩
    · rw [show m + (i + 1) = m + 1 + i by omega]
      rcases h2 with h2 | ⟨s, U, h4, h5, h6⟩
      · exact .inl h2
      · refine .inr ⟨s, U, h4, h5, ?_⟩
        rcases h6 with ⟨j, oj, hj, hoj, hds, hVj⟩ | h6
        · exact .inl ⟨j + 1, oj, by omega, by simpa using hoj, hds, by simpa using hVj⟩
        · by_cases hds : d = s
          · subst hds
            rw [olook_same] at h6
            injection h6 with h6
            subst h6
            exact .inl ⟨0, o, by omega, rfl, hd, rfl⟩
          · rw [olook_ne _ _ hds] at h6
            exact .inr h6
    · rcases h3 s τ hl with ⟨j, oj, Vj, hj, hoj, hds, hVj, hτ⟩ | ⟨hno, hlk⟩
      · exact .inl ⟨j + 1, oj, Vj, by omega, by simpa using hoj, hds, by simpa using hVj, hτ⟩
      · by_cases hds : d = s
        · subst hds
          rw [look_same] at hlk
          injection hlk with hlk
          exact .inl ⟨0, o, V, by omega, rfl, hd, rfl, hlk⟩
        · rw [look_ne _ _ hds] at hlk
          refine .inr ⟨fun j oj hj hoj => ?_, hlk⟩
          cases j with
          | zero =>
            simp only [List.getElem?_cons_zero, Option.some.injEq] at hoj
            subst hoj
            rw [hd]
            simpa using hds
          | succ j => exact hno j oj (by omega) (by simpa using hoj)
  induction h with
  | nil => intro i o h; simp at h
  | @cons m Γ Ω d o V os Vs hd hT hF t ih =>
    intro i o' ho'
    cases i with
    | zero =>
      simp only [List.getElem?_cons_zero, Option.some.injEq] at ho'
      subst ho'
      exact ⟨V, Γ, rfl, .inl ⟨hT, hF⟩, fun s τ hl => .inr ⟨fun j oj hj => absurd hj (Nat.not_lt_zero _), hl⟩⟩
    | succ i => exact key hd ih i o' (by simpa using ho')
  | @take m Γ Ω d s o U V os Vs hd hT hU hF t ih =>
    intro i o' ho'
    cases i with
    | zero =>
      simp only [List.getElem?_cons_zero, Option.some.injEq] at ho'
      subst ho'
      exact ⟨V, Γ, rfl, .inr ⟨s, U, hT, hF, .inr hU⟩, fun s τ hl => .inr ⟨fun j oj hj => absurd hj (Nat.not_lt_zero _), hl⟩⟩
    | succ i => exact key hd ih i o' (by simpa using ho')
theorem LineO.ext_look {T : List (Nat × Nat)} {l : List Oper} {Vs : List OTy} {m : Nat} {Ω : OCtx} (h : LineO P ops w0 T m Γ Ω l Vs) : ∀ (s : Nat) (τ : Ty), look (extO Γ l Vs) s = some τ →
    (∃ (j : Nat) (oj : Oper) (Vj : OTy), l[j]? = some oj ∧ oj.dst = some s ∧ Vs[j]? = some Vj ∧ Vj.τ = τ) ∨ ((∀ (j : Nat) (oj : Oper), l[j]? = some oj → oj.dst ≠ some s) ∧ look Γ s = some τ) := by
  have key : ∀ {Γ : Ctx} {d : Nat} {o : Oper} {V : OTy} {os : List Oper} {Vs : List OTy} (hd : o.dst = some d)
      (ih : ∀ (s : Nat) (τ : Ty), look (extO ((d, V.τ) :: Γ) os Vs) s = some τ → (∃ (j : Nat) (oj : Oper) (Vj : OTy), os[j]? = some oj ∧ oj.dst = some s ∧ Vs[j]? = some Vj ∧ Vj.τ = τ) ∨ ((∀ (j : Nat) (oj : Oper), os[j]? = some oj → oj.dst ≠ some s) ∧ look ((d, V.τ) :: Γ) s = some τ))
      (s : Nat) (τ : Ty), look (extO Γ (o :: os) (V :: Vs)) s = some τ → (∃ (j : Nat) (oj : Oper) (Vj : OTy), (o :: os)[j]? = some oj ∧ oj.dst = some s ∧ (V :: Vs)[j]? = some Vj ∧ Vj.τ = τ) ∨ ((∀ (j : Nat) (oj : Oper), (o :: os)[j]? = some oj → oj.dst ≠ some s) ∧ look Γ s = some τ) := by
    intro Γ d o V os Vs hd ih s τ hl
    have e : extO Γ (o :: os) (V :: Vs) = extO ((d, V.τ) :: Γ) os Vs := by simp [extO, hd]
    rw [e] at hl
    rcases ih s τ hl with ⟨j, oj, Vj, hoj, hds, hVj, hτ⟩ | ⟨hno, hlk⟩
    · exact .inl ⟨j + 1, oj, Vj, by simpa using hoj, hds, by simpa using hVj, hτ⟩
    · by_cases hds : d = s
      · subst hds
        rw [look_same] at hlk
        injection hlk with hlk
        exact .inl ⟨0, o, V, rfl, hd, rfl, hlk⟩
      · rw [look_ne _ _ hds] at hlk
        refine .inr ⟨fun j oj hoj => ?_, hlk⟩
        cases j with
        | zero =>
          simp only [List.getElem?_cons_zero, Option.some.injEq] at hoj
          subst hoj
          rw [hd]
          simpa using hds
        | succ j => exact hno j oj (by simpa using hoj)
  induction h with
  | nil => intro s τ hl; exact .inr ⟨fun j oj h => by simp at h, hl⟩
  | @cons m Γ Ω d o V os Vs hd hT hF t ih => exact key hd ih
  | @take m Γ Ω d s o U V os Vs hd hT hU hF t ih => exact key hd ih
end

/-- Listed, and not taken over. -/
def Live (T : List (Nat × Nat)) (listed : Array Bool) (s : Nat) : Prop := ∀ i, takes T i = some s → listed.getD i false = false
/-- Of the operations that are listed; F: the blocks that are each one's own. -/
structure TInvO (N n : Nat) (l : List Oper) (Vs : List OTy) (T : List (Nat × Nat)) (a0 : Act) (w0 : World) (listed : Array Bool) (a : Act) (w : World) : Prop where
  below : Below w0.heap.size w0 w
  defers : a.defers = []
  size : a.tmps.size = N
  out : ∀ s, (∀ (j : Nat) (oj : Oper), j < n → listed.getD j false = true → l[j]? = some oj → oj.dst ≠ some s) → a.tmps[s]? = a0.tmps[s]?
  own : ∃ F : Nat → List Nat, (∀ (j : Nat) (oj : Oper) (d : Nat) (V : OTy), j < n → listed.getD j false = true → l[j]? = some oj → oj.dst = some d → Vs[j]? = some V → Live T listed d → ∃ v, a.tmps[d]? = some v ∧ V.q w v (F j) ∧ ∀ b ∈ F j, w0.heap.size ≤ b) ∧
    ∀ (j k : Nat) (oj ok : Oper) (dj dk : Nat), j < n → k < n → j ≠ k → listed.getD j false = true → listed.getD k false = true → l[j]? = some oj → l[k]? = some ok → oj.dst = some dj → ok.dst = some dk → Live T listed dj → Live T listed dk → ∀ b ∈ F j, b ∉ F k

section
variable {P : Program} {w0 : World} {Γ : Ctx} {N n : Nat} {l : List Oper} {Vs : List OTy} {T : List (Nat × Nat)} {a0 : Act} {ops : Array Oper}
theorem TInvO.start (hF : Fr N Γ a0 w0) {w : World} (hb : Below w0.heap.size w0 w) (m : Nat) : TInvO N n l Vs T a0 w0 (Array.replicate m false) a0 w :=
  ⟨hb, hF.defers, hF.size, fun _ _ => rfl, fun _ => [], fun j _ _ _ _ h => (by rw [getD_replicate_false] at h; cases h), fun j _ _ _ _ _ _ _ _ h => (by rw [getD_replicate_false] at h; cases h)⟩
theorem TInvO.step (hB : regB ops N n = true) (hTB : takeB N ops n T = true) (hl : ∀ i, i < n → l[i]? = ops[i]?) (hL : LineO P ops w0 T 0 Γ [] l Vs) (hF : Fr N Γ a0 w0) {listed : Array Bool} {a : Act} {w : World} (hI : TInvO N n l Vs T a0 w0 listed a w)
    (hsz : listed.size = ops.size) (hcl : ∀ (j : Nat) (oj : Oper), ops[j]? = some oj → listed.getD j false = true → ∀ e ∈ oj.after, Region.binds .any e = true → listed.getD e.on false = true)
    {i : Nat} {o : Oper} (hi : i < n) (ho : ops[i]? = some o) (hun : listed.getD i false = false) (hdep : ∀ e ∈ o.after, Region.binds .any e = true → listed.getD e.on false = true) (K : Act → World → Prop) (Q : Exit → Act → World → Prop)
    (hK : ∀ a' w', TInvO N n l Vs T a0 w0 (listed.setIfInBounds i true) a' w' → K a' w') :
    if Region.wanted o (yielded ops a.tmps) then o.wp P a w K Q else K (a.put o.dst undef) w := by
  have hli : l[i]? = some o := (hl i hi).trans ho
  obtain ⟨V, Γi, hV, hFa, hlk⟩ := hL.at_ i o hli
  rw [Nat.zero_add] at hFa
  obtain ⟨o', d, ho', hd, hdN, _, hoth⟩ := regB_at hB hi
  obtain rfl : o = o' := Option.some.inj (ho.symm.trans ho')
  obtain ⟨F, hown, hdis⟩ := hI.own
  have wf : ∀ {p q : Nat} {op : Oper}, ops[p]? = some op → Region.waitsFor .any ops p q = true → ∃ e ∈ op.after, Region.binds .any e = true ∧ e.on = q := fun {p q op} hp hw => by
    obtain ⟨oj, hoj, e, he, hb, hon⟩ := Region.waitsFor_spec hw
    obtain rfl : op = oj := Option.some.inj (hp.symm.trans hoj)
    exact ⟨e, he, hb, hon⟩
  -- what is looked at by o alone is live
  have alive : ∀ s, s ∈ o.looksAt ops → Live T listed s := fun s hs i' hi' => by
    obtain ⟨h1, _, h3⟩ := takeB_at hTB (takes_mem hi')
    have := h3 i o hi ho hs
    subst this
    exact hun
  -- the writer of a slot that o looks at is listed
  have writer : ∀ (s j : Nat) (oj : Oper), s ∈ o.looksAt ops → j < i → l[j]? = some oj → oj.dst = some s → listed.getD j false = true := fun s j oj hs hj hoj hds => by
    have hjn : j < n := by omega
    have hoj' : ops[j]? = some oj := (hl j hjn).symm.trans hoj
    obtain ⟨oj2, dj, hoj2, hdj, _, _, hothj⟩ := regB_at hB hjn
    obtain rfl : oj = oj2 := Option.some.inj (hoj'.symm.trans hoj2)
    obtain rfl : dj = s := Option.some.inj (hdj.symm.trans hds)
    have h1 := ((hothj i o hi ho (by omega)).2 hs).1 hj
    obtain ⟨e, he, hb, hon⟩ := wf ho h1
    have h2 := hdep e he hb
    rwa [hon] at h2
  have hsees : Sees ops Γi o a w := by
    intro s τ hs hls
    rcases hlk s τ hls with ⟨j, oj, Vj, hj, hoj, hds, hVj, rfl⟩ | ⟨hno, hl0⟩
    · have hjn : j < n := by omega
      obtain ⟨v, hv1, hv2, _⟩ := hown j oj s Vj hjn (writer s j oj hs hj hoj hds) hoj hds hVj (alive s hs)
      exact ⟨v, hv1, Vj.tyq hv2⟩
    · obtain ⟨v, hv1, hv2⟩ := hF.val s τ hl0
      refine ⟨v, ?_, τ.below hv2 hI.below⟩
      rw [hI.out s (fun k ok hk hlk' hok hdk => ?_)]
      · exact hv1
      · have hok' : ops[k]? = some ok := (hl k hk).symm.trans hok
        have hki : k ≠ i := fun h => by subst h; rw [hun] at hlk'; cases hlk'
        by_cases hlt : k < i
        · exact hno k ok hlt hok hdk
        · obtain ⟨ok2, dk, hok2, hdk2, _, _, hothk⟩ := regB_at hB hk
          obtain rfl : ok = ok2 := Option.some.inj (hok'.symm.trans hok2)
          obtain rfl : dk = s := Option.some.inj (hdk2.symm.trans hdk)
          have h1 := ((hothk i o hi ho (Ne.symm hki)).2 hs).2 (by omega)
          obtain ⟨e, he, hb, hon⟩ := wf hok' h1
          have h2 := hcl k ok hok' hlk' e he hb
          rw [hon, hun] at h2
          cases h2
  have hilt : i < listed.size := by rw [hsz]; exact (Array.getElem?_eq_some_iff.1 ho).1
  have hdne : ∀ (j : Nat) (oj : Oper) (dj : Nat), j < n → j ≠ i → l[j]? = some oj → oj.dst = some dj → d ≠ dj := fun j oj dj hj hne hoj hdj h => by
    subst h
    exact (hoth j oj hj ((hl j hj).symm.trans hoj) hne).1 hdj
  -- the step, for whatever blocks S0 were taken over
  have fin : ∀ (S0 : List Nat) (v : Value) (w' : World) (S : List Nat), V.q w' v S → (∀ b ∈ S, b ∈ S0 ∨ w.heap.size ≤ b) → Keeps S0 w w' → (∀ b ∈ S0, w0.heap.size ≤ b) →
      (∀ (j : Nat) (oj : Oper) (dj : Nat), j < n → j ≠ i → listed.getD j false = true → l[j]? = some oj → oj.dst = some dj → Live T (listed.setIfInBounds i true) dj → ∀ b ∈ F j, b ∉ S0) → K (a.put o.dst v) w' := fun S0 v w' S hv hS hk hS0 hj0 => by
    refine hK _ _ ?_
    rw [hd]
    have hbel : Below w0.heap.size w0 w' := ((Keeps.of_below (S := []) hI.below).trans' hk fun x hx => .inr (hS0 x hx)).below
    have back : ∀ s, Live T (listed.setIfInBounds i true) s → Live T listed s := fun s h i' hi' => by
      have := h i' hi'
      by_cases hii : i = i'
      · subst hii; exact hun
      · rwa [getD_set_ne false hii] at this
    have was : ∀ j, i ≠ j → (listed.setIfInBounds i true).getD j false = true → listed.getD j false = true := fun j hij h => by rwa [getD_set_ne false hij] at h
    refine ⟨hbel, hI.defers, by simp only [Act.put]; simpa using hI.size, fun s hs => ?_, fun j => if j = i then S else F j, fun j oj dj Vj hj hlj hoj hdj hVj hlive => ?_, fun j k oj ok dj dk hj hk' hne hlj hlk2 hoj hok hdj hdk hv1 hv2 => ?_⟩
    · have hds : d ≠ s := fun h => hs i o hi (by simp [Array.getD, hilt]) hli (by rw [hd, h])
      simp only [Act.put]
      rw [Array.getElem?_setIfInBounds_ne hds]
      refine hI.out s (fun j oj hj hlj hoj => ?_)
      refine hs j oj hj ?_ hoj
      by_cases hij : i = j
      · subst hij; rw [hun] at hlj; cases hlj
      · rw [getD_set_ne false hij]; exact hlj
    · by_cases hij : i = j
      · subst hij
        obtain rfl : o = oj := Option.some.inj (hli.symm.trans hoj)
        obtain rfl : d = dj := Option.some.inj (hd.symm.trans hdj)
        obtain rfl : V = Vj := Option.some.inj (hV.symm.trans hVj)
        dsimp only
        rw [if_pos rfl]
        refine ⟨v, ?_, hv, fun b hb => ?_⟩
        · simp only [Act.put]
          rw [Array.getElem?_setIfInBounds_self, if_pos (by rw [hI.size]; exact hdN)]
        · rcases hS b hb with h | h
          · exact hS0 b h
          · exact Nat.le_trans hI.below.size h
      · dsimp only
        rw [if_neg (Ne.symm hij)]
        have hlj' := was j hij hlj
        obtain ⟨u, h1, h2, h3⟩ := hown j oj dj Vj hj hlj' hoj hdj hVj (back dj hlive)
        refine ⟨u, ?_, Vj.st h2 hk (hj0 j oj dj hj (Ne.symm hij) hlj' hoj hdj hlive), h3⟩
        simp only [Act.put]
        rw [Array.getElem?_setIfInBounds_ne (hdne j oj dj hj (Ne.symm hij) hoj hdj)]
        exact h1
    · have ltF : ∀ (j : Nat) (oj : Oper) (dj : Nat), j < n → i ≠ j → (listed.setIfInBounds i true).getD j false = true → l[j]? = some oj → oj.dst = some dj → Live T (listed.setIfInBounds i true) dj → ∀ b ∈ F j, b < w.heap.size := fun j oj dj hj hij hlj hoj hdj hv => by
        obtain ⟨Vj, _, hVj, _⟩ := hL.at_ j oj hoj
        obtain ⟨u, _, h2, _⟩ := hown j oj dj Vj hj (was j hij hlj) hoj hdj hVj (back dj hv)
        exact Vj.lt h2
      by_cases hij : i = j
      · subst hij
        dsimp only
        rw [if_pos rfl, if_neg (Ne.symm hne)]
        intro b hb hbk
        rcases hS b hb with h | h
        · exact hj0 k ok dk hk' (Ne.symm hne) (was k hne hlk2) hok hdk hv2 b hbk h
        · have := ltF k ok dk hk' hne hlk2 hok hdk hv2 b hbk
          omega
      · dsimp only
        rw [if_neg (Ne.symm hij)]
        by_cases hik : i = k
        · subst hik
          rw [if_pos rfl]
          intro b hb hbk
          rcases hS b hbk with h | h
          · exact hj0 j oj dj hj (Ne.symm hij) (was j hij hlj) hoj hdj hv1 b hb h
          · have := ltF j oj dj hj hij hlj hoj hdj hv1 b hb
            omega
        · rw [if_neg (Ne.symm hik)]
          exact hdis j k oj ok dj dk hj hk' hne (was j hij hlj) (was k hik hlk2) hoj hok hdj hdk (back dj hv1) (back dk hv2)
  rcases hFa with ⟨hT, hFa⟩ | ⟨s, U, hT, hFa, hU⟩
  · refine hFa.at_work hI.below hsees K Q (fun v w' S hv hS hb => fin [] v w' S hv (fun b hb' => .inr (hS b hb')) (Keeps.of_below hb) (by simp) (fun _ _ _ _ _ _ _ _ _ _ _ => by simp))
  · rcases hU with ⟨j, oj, hj, hoj, hds, hUj⟩ | hU
    · have hjn : j < n := by omega
      have hsl := (takeB_at hTB (takes_mem hT)).2.1 o ho
      have hlj := writer s j oj hsl hj hoj hds
      obtain ⟨v, hv1, hv2, hv3⟩ := hown j oj s U hjn hlj hoj hds hUj (alive s hsl)
      refine hFa.at_work hI.below hsees ⟨v, hv1, hv2⟩ K Q (fun u w' S hu hS hk => fin (F j) u w' S hu hS hk hv3 (fun k ok dk hk' hne hlk2 hok hdk hlive b hb hbj => ?_))
      by_cases hkj : k = j
      · subst hkj
        obtain rfl : oj = ok := Option.some.inj (hoj.symm.trans hok)
        obtain rfl : s = dk := Option.some.inj (hds.symm.trans hdk)
        have := hlive i hT
        simp [Array.getD, hilt] at this
      · refine hdis k j ok oj dk s hk' hjn hkj hlk2 hlj hok hoj hdk hds (fun i' hi' => ?_) (alive s hsl) b hb hbj
        have := hlive i' hi'
        by_cases hii : i = i'
        · subst hii; exact hun
        · rwa [getD_set_ne false hii] at this
    · cases hU
/-- What is each slot's own, at the end. -/
def OwnsAll (l : List Oper) (Vs : List OTy) (T : List (Nat × Nat)) (w0 : World) (a : Act) (w : World) : Prop := ∃ F : Nat → List Nat, (∀ (j : Nat) (oj : Oper) (d : Nat) (V : OTy), l[j]? = some oj → oj.dst = some d → Vs[j]? = some V → (∀ i, (i, d) ∉ T) → ∃ v, a.tmps[d]? = some v ∧ V.q w v (F j) ∧ ∀ b ∈ F j, w0.heap.size ≤ b) ∧
    ∀ (j k : Nat) (oj ok : Oper) (dj dk : Nat), j ≠ k → l[j]? = some oj → l[k]? = some ok → oj.dst = some dj → ok.dst = some dk → (∀ i, (i, dj) ∉ T) → (∀ i, (i, dk) ∉ T) → ∀ b ∈ F j, b ∉ F k
theorem TInvO.all (hTB : takeB N ops n T = true) (hL : LineO P ops w0 T 0 Γ [] l Vs) (hn : n = l.length) (hF : Fr N Γ a0 w0) {listed : Array Bool} {a : Act} {w : World} (hI : TInvO N n l Vs T a0 w0 listed a w) (hall : ∀ i, i < n → listed.getD i false = true) :
    Fr N (hideT T (extO Γ l Vs)) a w ∧ OwnsAll l Vs T w0 a w := by
  have lt : ∀ (j : Nat) (oj : Oper), l[j]? = some oj → j < n := fun j oj h => by rw [hn]; exact (List.getElem?_eq_some_iff.1 h).1
  obtain ⟨F, hown, hdis⟩ := hI.own
  have lv : ∀ s, (∀ i, (i, s) ∉ T) → Live T listed s := fun s hs i hi => absurd (takes_mem hi) (hs i)
  refine ⟨⟨hI.size, hI.defers, fun s τ hs => ?_⟩, F, fun j oj d V hoj hdj hVj hno => hown j oj d V (lt j oj hoj) (hall j (lt j oj hoj)) hoj hdj hVj (lv d hno), fun j k oj ok dj dk hne hoj hok hdj hdk h1 h2 => hdis j k oj ok dj dk (lt j oj hoj) (lt k ok hok) hne (hall j (lt j oj hoj)) (hall k (lt k ok hok)) hoj hok hdj hdk (lv dj h1) (lv dk h2)⟩
  rcases hideT_look hs with ⟨rfl, i, hi⟩ | ⟨hs, hno⟩
  · have hlt : s < a.tmps.size := by
      rw [hI.size]
      exact (takeB_at hTB hi).1.2
    exact ⟨_, Array.getElem?_eq_getElem hlt, trivial⟩
  · rcases hL.ext_look s τ hs with ⟨j, oj, Vj, hoj, hds, hVj, rfl⟩ | ⟨hno', hl0⟩
    · obtain ⟨v, h1, h2, _⟩ := hown j oj s Vj (lt j oj hoj) (hall j (lt j oj hoj)) hoj hds hVj (lv s hno)
      exact ⟨v, h1, Vj.tyq h2⟩
    · obtain ⟨v, hv1, hv2⟩ := hF.val s τ hl0
      exact ⟨v, by rw [hI.out s (fun j oj _ _ hoj => hno' j oj hoj)]; exact hv1, τ.below hv2 hI.below⟩
end

section
variable {P : Program} {w0 : World} {Γ : Ctx} {N : Nat} {Vs : List OTy} {a0 : Act}
theorem region_own {id : Nat} {Q : Exit → Act → World → Prop} {l : List Oper} {draw : Bool} (n : Nat) (T : List (Nat × Nat)) (hm : P.follows .mixedOrders = true) (hB : (regB l.toArray N n && tailB l.toArray n && takeB N l.toArray n T) = true) (hF : Fr N Γ a0 w0)
    (hL : LineO P l.toArray w0 T 0 Γ [] (l.take n) Vs)
    (hQ : ∀ a w, Fr N (hideT T (extO Γ (l.take n) Vs)) a w → Below w0.heap.size w0 w → OwnsAll (l.take n) Vs T w0 a w → wpList P l.toArray Q (l.drop n) a w) : (Code.region id l.toArray draw).wp P Q a0 w0 := by
  rw [Bool.and_eq_true, Bool.and_eq_true] at hB
  obtain ⟨⟨hB, hT⟩, hTB⟩ := hB
  have hsize : l.toArray.size = l.length := by simp
  have hnl : n ≤ l.toArray.size := by
    unfold tailB at hT
    split at hT
    · rename_i h; simp at h; simp [h]
    · simp only [Bool.and_eq_true, decide_eq_true_eq] at hT; omega
  have hlen : n = (l.take n).length := by simp at hnl ⊢; omega
  have hli : ∀ i, i < n → (l.take n)[i]? = l.toArray[i]? := fun i hi => by simp [hi]
  have hback : ∀ i o, i < n → l.toArray[i]? = some o → ∀ e ∈ o.after, Region.binds .any e = true → e.on < i := fun i o hi ho e he hb => by
    obtain ⟨o', d, ho', _, _, h, _⟩ := regB_at hB hi
    obtain rfl : o = o' := Option.some.inj (ho.symm.trans ho')
    exact h e he hb
  have fin : ∀ (listed : Array Bool) a w, TInvO N n (l.take n) Vs T a0 w0 listed a w → (∀ i, i < n → listed.getD i false = true) → wpList P l.toArray Q (l.drop n) a w := fun listed a w hI hall => by
    obtain ⟨h1, h2⟩ := hI.all hTB hL hlen hF hall
    exact hQ a w h1 hI.below h2
  cases draw with
  | true =>
    have key : ∀ (f : Nat) (listed : Array Bool) (a : Act) (w : World), HeadInv .any l.toArray n listed → wanting n listed = f → TInvO N n (l.take n) Vs T a0 w0 listed a w → wpAny P .any l.toArray Q (f + (l.toArray.size - n)) listed a w := by
      intro f
      induction f with
      | zero =>
        intro listed a w hH h0 hI
        have hall := wanting_zero h0
        have hdl : (l.drop n).length = l.toArray.size - n := by simp
        have e := all_listed hH hall hnl
        have hseq : Region.seqB .any l.toArray (l.toArray.size - n) n listed = true := by
          unfold tailB at hT
          split at hT
          · rename_i h
            have hz : n = l.toArray.size := by simpa using h
            have h2 : l.toArray.size - n = 0 := by omega
            rw [h2]
            simp only [Region.seqB, List.isEmpty_iff]
            unfold Region.ready
            rw [List.filter_eq_nil_iff]
            intro i hi
            have hi' := List.mem_range.1 hi
            have h3 := hall i (by omega)
            have hil : i < listed.size := by rw [hH.size]; exact hi'
            simp [Array.getD, hil] at h3 ⊢
            simp [h3]
          · simp only [Bool.and_eq_true] at hT
            rw [e]; exact hT.2
        have := wpAny_of_seq (md := .any) (Q' := Q) (l.drop n) n listed a w (fun j => by simp [List.getElem?_drop]) (by rw [hdl]; exact hseq) (fin listed a w hI hall)
        rw [Nat.zero_add]
        rwa [hdl] at this
      | succ f ih =>
        intro listed a w hH h0 hI
        rw [show f + 1 + (l.toArray.size - n) = (f + (l.toArray.size - n)) + 1 by omega]
        have hex : ∃ i, i < n ∧ listed.getD i true = false := by
          refine Classical.byContradiction fun hno => ?_
          have hz : wanting n listed = 0 := by
            unfold wanting
            rw [List.length_eq_zero_iff, List.filter_eq_nil_iff]
            intro i hi
            have hi' := List.mem_range.1 hi
            have hl : i < listed.size := by rw [hH.size]; omega
            have h1 : ¬ listed.getD i true = false := fun h => hno ⟨i, hi', h⟩
            simp [Array.getD, hl] at h1 ⊢
            exact h1
          omega
        obtain ⟨i0, hi0, hun0⟩ := hex
        refine ⟨fun hr => ?_, fun i hi => ?_⟩
        · exfalso
          have := ready_head hback hnl hH.size hr i0 hi0
          rw [getD_both hun0] at this
          cases this
        · obtain ⟨h1, o, ho, h2⟩ := mem_ready.1 hi
          have hin : i < n := Nat.lt_of_not_le fun h => by
            have hio := (Array.getElem?_eq_some_iff.1 ho).1
            unfold tailB at hT
            split at hT
            · rename_i h'; simp at h'; omega
            · simp only [Bool.and_eq_true, decide_eq_true_eq] at hT
              exact tail_waits hT.1.1.2 hT.1.2 hT.1.1.1 hH _ i0 rfl hi0 hun0 i h hi
          have hil : i < listed.size := by rw [hH.size]; omega
          have h3 := TInvO.step hB hTB hli hL hF hI hH.size hH.closed hin ho (getD_both h1) h2 (wpAny P .any l.toArray Q (f + (l.toArray.size - n)) (listed.setIfInBounds i true)) Q (fun a' w' hI' => by
            refine ih _ a' w' (hH.set hi hin) ?_ hI'
            have := wanting_set hin hil (getD_both h1)
            omega)
          unfold wpOp
          simp only [ho]
          split
          · rename_i hw
            rw [if_pos hw] at h3
            exact .inl h3
          · rename_i hw
            rw [if_neg hw] at h3
            exact h3
    have inv0 : HeadInv .any l.toArray n (Array.replicate l.toArray.size false) :=
      ⟨by simp, fun j oj _ hl => (by rw [getD_replicate_false] at hl; cases hl), fun t _ ht => getD_in (by simpa using ht) (getD_replicate_false _ _)⟩
    have h0 : wanting n (Array.replicate l.toArray.size false) = n := by
      unfold wanting
      rw [List.filter_eq_self.2 (fun i _ => by rw [getD_replicate_false]; rfl), List.length_range]
    refine wp_region_any hm ?_
    have := key n _ a0 w0.drew inv0 h0 (TInvO.start hF (Below.refl _ _).drew _)
    rw [show n + (l.toArray.size - n) = l.toArray.size by omega] at this
    exact this
  | false =>
    have key : ∀ (f k : Nat) (a : Act) (w : World), k + f = n → TInvO N n (l.take n) Vs T a0 w0 ((List.replicate k true ++ List.replicate (l.toArray.size - k) false).toArray) a w → wpList P l.toArray Q (l.drop k) a w := by
      intro f
      induction f with
      | zero =>
        intro k a w hk hI
        obtain rfl : k = n := by omega
        refine fin _ a w hI (fun i hi => ?_)
        simp [Array.getD, hi]
        omega
      | succ f ih =>
        intro k a w hk hI
        have hkn : k < n := by omega
        have hkl : k < l.length := by omega
        have hdrop : l.drop k = l[k] :: l.drop (k + 1) := by rw [List.drop_eq_getElem_cons hkl]
        have getD_k : ∀ m j, m ≤ l.toArray.size → (List.replicate m true ++ List.replicate (l.toArray.size - m) false).toArray.getD j false = decide (j < m) := fun m j hm => by
          by_cases hj : j < m
          · simp [Array.getD, hj]; omega
          · simp [Array.getD, List.getElem_append, hj]
        have ho : l.toArray[k]? = some l[k] := by simp [hkl]
        have hset : (List.replicate k true ++ List.replicate (l.toArray.size - k) false).toArray.setIfInBounds k true = (List.replicate (k + 1) true ++ List.replicate (l.toArray.size - (k + 1)) false).toArray := by
          apply Array.ext_getElem?
          intro j
          rw [show l.toArray.size - k = (l.toArray.size - (k + 1)) + 1 by omega, List.replicate_succ, List.replicate_succ']
          simp only [List.setIfInBounds_toArray, List.getElem?_toArray, List.append_assoc, List.singleton_append]
          rw [List.set_append_right _ _ (by simp)]
          simp
        rw [hdrop]
        refine wpList_step fun K hK => ?_
        refine TInvO.step hB hTB hli hL hF hI (by simp; omega) (fun j oj hj hl e he hb => ?_) hkn ho (by rw [getD_k k k (by omega)]; simp) (fun e he hb => ?_) K Q (fun a' w' hI' => hK a' w' (ih (k + 1) a' w' (by omega) (by rw [← hset]; exact hI')))
        · rw [getD_k k _ (by omega)] at hl ⊢
          simp only [decide_eq_true_eq] at hl ⊢
          have := hback j oj (by omega) hj e he hb
          omega
        · rw [getD_k k _ (by omega)]
          simp only [decide_eq_true_eq]
          exact hback k _ hkn ho e he hb
    refine wp_region_lit ?_
    have := key n 0 a0 w0 (by omega) (by
      have e : (List.replicate 0 true ++ List.replicate (l.toArray.size - 0) false).toArray = Array.replicate l.toArray.size false := by simp
      rw [e]
      exact TInvO.start hF (Below.refl _ _) _)
    simpa using this
end
/-! ### Lines -/
section
variable {P : Program} {w0 : World} {Γ : Ctx} {o : Oper}
theorem OpO.ex {v : Value} (h : OpOk P w0 Γ o (Ty.ex v)) : OpO P w0 Γ o (OTy.ex v) := fun a w K Q hb hs hK => h a w K Q hb hs fun u w' h1 h2 => hK u w' [] ⟨h1, rfl⟩ (by simp) h2
/-- An operation that lays a row of its own. -/
theorem OpO.new {V : OTy} (h : ∀ (a : Act) (w : World), Below w0.heap.size w0 w → SeesO Γ o a w → ∃ v w' S, V.q w' v S ∧ (∀ b ∈ S, w.heap.size ≤ b) ∧ Below w.heap.size w w' ∧ (execOp a.eval o).run P w = .ok (.value v) w') : OpO P w0 Γ o V := by
  intro a w K Q hb hs hK
  obtain ⟨v, w', S, h1, h2, h3, h4⟩ := h a w hb (sees_of hs)
  unfold Oper.wp
  rw [h4]
  exact hK v w' S h1 h2 h3
theorem cells_len {sz : Nat} : ∀ (vs : List Value), (∀ v ∈ vs, v.cells.size = sz) → ((vs.map fun v => v.cells.toList).flatten).length = vs.length * sz
  | [], _ => by simp
  | v :: vs, hv => by
    have h1 := hv v (by simp)
    rw [List.map_cons, List.flatten_cons, List.length_append, cells_len vs (fun u hu => hv u (by simp [hu])), List.length_cons, Nat.add_mul]
    simp [h1]
    omega
/-- A slice written out, of the call's own. -/
theorem oBuild {t e : TypeId} {z : Value} {sz bytes : Nat} {n : Nat} {parts : Array (Nat × Operand)} {vs : List Value} (ho : o.op = .buildSlice t n parts) (hp : ∀ (a : Act) (w : World), SeesO Γ o a w → (parts.map fun (i, x) => (i, a.eval x)) = (vs.zipIdx.map fun p => (p.2, p.1)).toArray)
    (hu : P.underlying t = some (.slice e)) (hi : (P.info? e).map (fun i => (i.zero, i.size, i.bytes)) = some (some z, sz, bytes)) (hn : vs.length = n) (hv : ∀ v ∈ vs, v.cells.size = sz) (hbig : n * sz ≤ 16777216) (hm : n ≤ maxLen) :
    OpO P w0 Γ o (OTy.seg w0 e sz n (vs.map fun v => v.cells.toList).flatten) :=
  .new fun a w hb hs => by
    have hr := run_buildSlice (P := P) n vs hu hi hn hv hbig w
    have hl : ((vs.map fun v => v.cells.toList).flatten).length = n * sz := by
      rw [cells_len vs hv, hn]
    refine ⟨.slice (some ⟨w.heap.size, 0, none⟩) n n, w.alloc (.cells (vs.map fun v => v.cells.toList).flatten.toArray e), [w.heap.size], ⟨?_, fun y hy => ?_⟩, fun y hy => ?_, ((Keeps.refl [] w).alloc _).below, ?_⟩
    · have h := Seg.ofBlk (w := w.alloc (.cells (vs.map fun v => v.cells.toList).flatten.toArray e)) (sz := sz) (cap := n) (Blk.new w e (vs.map fun v => v.cells.toList).flatten.toArray) (by simpa using hl) hm
      simpa using h
    · simp only [List.mem_singleton] at hy
      subst hy
      exact hb.size
    · simp only [List.mem_singleton] at hy
      omega
    · unfold execOp
      simp only [ho]
      rw [hp a w hs, Sem.run_bind, hr]
      rfl
end
end Go.Proofs.Ytbjlmhbpcopfbaa

/- Regions by types: []byte of a constant string: the row laid is then frozen. -/
namespace Go.Proofs.Ytbjlmhbpcopfbaa
open Go.RowKit

theorem freeze_block {w : World} {g k : Nat} {cs : Array Value} {e : TypeId} {fr : Nat × Nat} (h : w.heap[g]? = some (.cells cs e fr)) : Keeps [g] w (w.freeze ⟨g, k, none⟩ 1) ∧ ∃ fr', (w.freeze ⟨g, k, none⟩ 1).heap[g]? = some (.cells cs e fr') := by
  obtain ⟨lo, hi⟩ := fr
  unfold World.freeze
  rw [if_neg (by decide)]
  refine ⟨⟨rfl, rfl, rfl, by simp, fun j hj hjg => ?_⟩, if lo == hi then (k, k + 1) else (min lo k, max hi (k + 1)), ?_⟩
  · simp only [List.mem_singleton] at hjg
    simp only [Array.getElem?_modify]
    rw [if_neg (fun e => hjg e.symm)]
  · simp only [Array.getElem?_modify, if_true, h, Option.map_some]
section
variable {P : Program} {w0 : World} {Γ : Ctx} {o : Oper}
theorem run_freeze {w : World} {t e : TypeId} {g off n c : Nat} {cs : Array Value} {fr : Nat × Nat} (ht : P.underlying t = some (.slice e)) (he : P.underlying e = some (.int .u8)) (h : w.heap[g]? = some (.cells cs e fr)) : (convert t t (.slice (some ⟨g, off, none⟩) n c)).run P w = .ok (.slice (some ⟨g, off, none⟩) n c) (w.freeze ⟨g, cs.size, none⟩ 1) := by
  have hsh : w.shape? g = some (e, cs.size) := by
    unfold World.shape?
    rw [h]
  simp [convert, run_underlying ht, run_underlying he, markStringish, hsh]
/-- A row of bytes of the region's own is frozen: it reads as it did. -/
theorem tkFreeze {s : Nat} {t e : TypeId} {n : Nat} {xs : List Value} (ho : o.op = .convert t t (.tmp s)) (ht : P.underlying t = some (.slice e)) (he : P.underlying e = some (.int .u8)) (hn : 0 < n) : OpTk P w0 Γ o (OTy.seg w0 e 1 n xs) (OTy.slo e n xs) s := fun a w S0 K Q hb hs ⟨v, hv1, hv2, hv3⟩ hK => by
  rcases hv2.cases with ⟨_, h0, _⟩ | ⟨g, off, cap, rfl, rfl, hl, hnc, hcm, cs, hbl, hsz, hx⟩
  · omega
  · have h1 := run_freeze (P := P) (t := t) (off := off) (n := n) (c := cap) ht he hbl
    obtain ⟨k1, fr', k2⟩ := freeze_block (k := cs.size) hbl
    unfold Oper.wp execOp
    have ea : a.eval (.tmp s) = .slice (some ⟨g, off, none⟩) n cap := by simp [Act.eval, Array.getD_eq_getD_getElem?, hv1]
    simp only [ho, ea, Sem.run_bind, h1, Result.andThen_ok, Sem.run_pure]
    refine hK _ _ [g] ⟨g, off, cap, cs, fr', rfl, rfl, hnc, hcm, k2, fun j u hu => ?_⟩ (fun b hb => .inl hb) k1
    have hj : j < n * 1 := by rw [← hl]; exact (List.getElem?_eq_some_iff.1 hu).1
    rw [hx j hj]
    exact hu
end
end Go.Proofs.Ytbjlmhbpcopfbaa

/- A slice of bytes turned to a string; the strings of bytes. -/
namespace Go.Proofs.Ytbjlmhbpcopfbaa
open Go.RowKit

def strB (l : List Nat) : ByteArray := strOfNums (l.map Int.ofNat)
theorem run_string_rd {P : Program} (w : World) (src dst e : TypeId) (hs : P.underlying src = some (.slice e)) (he : P.underlying e = some (.int .u8)) (hd : P.underlying dst = some .string)
    (A : Option Addr) (n cap : Nat) (l : List Nat) (hl : l.length = n) (hr : Rd w A (l.map bv)) (hA : A = none → n = 0) :
    (convert src dst (.slice A n cap)).run P w = .ok (.string (strB l)) w := by
  cases A with
  | none =>
    have : l = [] := List.eq_nil_of_length_eq_zero (hl.trans (hA rfl))
    subst this
    exact run_convert_bytes_nil w src e hs he n cap dst hd
  | some a =>
    rw [run_convert_bytes_string w src dst e _ n cap hs he hd]
    have hb : l.map bv = (l.map Int.ofNat).map (Value.int .u8) := by rw [List.map_map]; rfl
    have hc := run_loadCells_list (P := P) w a (l.map bv) (fun j v hj => by
      obtain ⟨ad, e, h⟩ := hr j v hj
      injection e with e
      subst e
      exact h)
    rw [List.length_map, hl, hb] at hc
    rw [run_bytesToString w a n cap _ hc, foldl_push_bytes]
    simp [strB, strOfNums, ByteArray.empty, ByteArray.emptyWithCapacity]
    rfl
end Go.Proofs.Ytbjlmhbpcopfbaa

/- Chunks by types: constants that are laid and frozen; strings; what all statements of layer 11 tell. -/
namespace Go.Proofs.Ytbjlmhbpcopfbaa
open Go.RowKit

section
variable {P : Program} {ops : Array Oper} {Q : Exit → Act → World → Prop} {rest : List Oper} {o o2 : Oper} {a : Act} {w w0 : World} {N : Nat} {Γ : Ctx}
theorem tlGd {j s d : Nat} {V : Ty} (hF : Fr N Γ a w) (hg : o.guard = some (j, true)) (hj : slotOf ops j = some s) (hs : look Γ s = some (Ty.ex (.bool true))) (hd : o.dst = some d) (hN : decide (d < N) = true) (h : OpOk P w Γ o V) (hk : ∀ a' w', Fr N ((d, V) :: Γ) a' w' → Below w.heap.size w w' → wpList P ops Q rest a' w') : wpList P ops Q (o :: rest) a w := by
  obtain ⟨v, h1, h2⟩ := hF.val s _ hs
  have h2 : v = .bool true := h2
  subst h2
  have hw : Region.wanted o (yielded ops a.tmps) = true := by simp [Region.wanted, hg, yielded_of hj h1]
  refine wpList_step fun K hK => ?_
  rw [if_pos hw]
  exact h a w K Q (Below.refl _ _) (fun s τ _ hs => hF.val s τ hs) fun v w' hv hb => by
    rw [hd]
    exact hK _ _ (hk _ _ (hF.put (of_decide_eq_true hN) hb hv) hb)
/-- An operation whose guard, if there is one, is met. -/
def Met (ops : Array Oper) (Γ : Ctx) (o : Oper) : Prop := o.guard = none ∨ ∃ j s, o.guard = some (j, true) ∧ slotOf ops j = some s ∧ look Γ s = some (Ty.ex (.bool true))
theorem Met.step (h : Met ops Γ o) (hF : Fr N Γ a w) (hk : ∀ K : Act → World → Prop, (∀ a' w', wpList P ops Q rest a' w' → K a' w') → Oper.wp P o a w K Q) : wpList P ops Q (o :: rest) a w := by
  rcases h with h | ⟨j, s, hg, hj, hs⟩
  · exact wpList_plain h fun K hK => hk K hK
  · obtain ⟨v, h1, h2⟩ := hF.val s _ hs
    have h2 : v = .bool true := h2
    subst h2
    have hw : Region.wanted o (yielded ops a.tmps) = true := by simp [Region.wanted, hg, yielded_of hj h1]
    refine wpList_step fun K hK => ?_
    rw [if_pos hw]
    exact hk K hK
/-- []byte of a constant: laid, then frozen. -/
theorem tlConstB {d1 d2 n : Nat} {t e : TypeId} {vs : List Value} {parts : Array (Nat × Operand)} (hF : Fr N Γ a w) (hd1 : o.dst = some d1) (hN1 : decide (d1 < N) = true) (ho : o.op = .buildSlice t n parts) (hp : ∀ a : Act, (parts.map fun (i, x) => (i, a.eval x)) = (vs.zipIdx.map fun p => (p.2, p.1)).toArray) (hn : vs.length = n) (hc : ∀ v ∈ vs, v.cells = #[v]) (ht : P.underlying t = some (.slice e)) (he : P.underlying e = some (.int .u8)) (hi : (P.info? e).map (fun i => (i.zero, i.size, i.bytes)) = some (some (.int .u8 0), 1, 1))
    (hd2 : o2.dst = some d2) (hN2 : decide (d2 < N) = true) (ho2 : o2.op = .convert t t (.tmp d1)) (hm : n ≤ 1000)
    (hk : ∀ a' w', Fr N ((d2, Ty.sl e n vs) :: Γ) a' w' → Below w.heap.size w w' → wpList P ops Q rest a' w') (hΓ : look Γ d1 = none := by rfl) (g1 : Met ops Γ o := by exact .inl rfl) (g2 : Met ops Γ o2 := by exact .inl rfl) : wpList P ops Q (o :: o2 :: rest) a w := by
  have hr := run_buildSlice (P := P) (t := t) n vs ht hi hn (fun v hv => by rw [hc v hv]; rfl) (by omega) w
  have h1 : (vs.map fun v => v.cells.toList).flatten.toArray = vs.toArray := by
    have : (vs.map fun v => v.cells.toList) = vs.map fun v => [v] := List.map_congr_left fun v hv => by rw [hc v hv]
    rw [this, ← List.flatMap_def]
    simp
  rw [h1] at hr
  refine g1.step hF fun K hK => ?_
  unfold Oper.wp execOp
  simp only [ho]
  rw [hp a, Sem.run_bind, hr]
  refine hK _ _ ?_
  rw [hd1]
  have hF1 : Fr N ((d1, Ty.ex (.slice (some ⟨w.heap.size, 0, none⟩) n n)) :: Γ) (a.put (some d1) (.slice (some ⟨w.heap.size, 0, none⟩) n n)) (w.alloc (.cells vs.toArray e)) := hF.put (of_decide_eq_true hN1) ((Keeps.refl [] w).alloc _).below rfl
  have kc := Lib.run_convert_bytes_const (P := P) w t e vs.toArray n n ht he
  have g2' : Met ops ((d1, Ty.ex (.slice (some ⟨w.heap.size, 0, none⟩) n n)) :: Γ) o2 := by
    rcases g2 with h | ⟨j, s, hg, hj, hs⟩
    · exact .inl h
    · refine .inr ⟨j, s, hg, hj, ?_⟩
      rw [look_ne _ _ (fun e => by subst e; rw [hΓ] at hs; cases hs)]
      exact hs
  refine g2'.step hF1 fun K2 hK2 => ?_
  unfold Oper.wp execOp
  simp only [ho2, hF1.getEx (s := d1) (look_same _ _ _)]
  rw [Sem.run_bind, kc]
  refine hK2 _ _ ?_
  rw [hd2]
  have hb : Below w.heap.size w (w.alloc (.cells vs.toArray e (vs.toArray.size, vs.toArray.size + 1))) := ((Keeps.refl [] w).alloc _).below
  refine hk _ _ ?_ hb
  have hF0 : Fr N Γ (a.put (some d1) (.slice (some ⟨w.heap.size, 0, none⟩) n n)) (w.alloc (.cells vs.toArray e (vs.toArray.size, vs.toArray.size + 1))) := by
    refine ⟨by simp only [Act.put]; simpa using hF.size, hF.defers, fun s τ hs => ?_⟩
    have hne : d1 ≠ s := fun e => by subst e; rw [hΓ] at hs; cases hs
    obtain ⟨v, k1, k2⟩ := hF.val s τ hs
    refine ⟨v, ?_, τ.below k2 hb⟩
    simp only [Act.put]
    rw [Array.getElem?_setIfInBounds_ne hne]
    exact k1
  refine hF0.put (of_decide_eq_true hN2) (Below.refl _ _) ?_
  exact ⟨_, n, rfl, Nat.le_refl _, by simp [maxLen]; omega, fun h => (by cases h), fun j u hu => ⟨w.heap.size, 0, vs.toArray, _, rfl, heap_alloc_new w _, by rw [Nat.zero_add]; simpa using hu⟩⟩
/-- A slice of one slice, both in blocks of the region's own. -/
def OTy.slT1 (e u : TypeId) (n : Nat) (xs : List Value) : OTy := ⟨Ty.slT e 1 [Ty.sl u n xs], fun w v S => ∃ g g2 off c cs fr cs2 fr2, v = .slice (some ⟨g, 0, none⟩) 1 1 ∧ S = [g, g2] ∧ w.heap[g]? = some (.cells cs e fr) ∧ cs[0]? = some (.slice (some ⟨g2, off, none⟩) n c) ∧ n ≤ c ∧ c ≤ maxLen ∧ w.heap[g2]? = some (.cells cs2 u fr2) ∧ ∀ (j : Nat) (x : Value), xs[j]? = some x → cs2[off + j]? = some x,
  fun ⟨g, g2, off, c, cs, fr, cs2, fr2, h1, _, h3, h4, h5, h6, h7, h8⟩ => ⟨_, 1, h1, Nat.le_refl _, by simp [maxLen], fun h => (by cases h), fun j τ hj => by
    cases j with
    | zero =>
      simp only [List.getElem?_cons_zero, Option.some.injEq] at hj
      subst hj
      exact ⟨g, 0, cs, fr, _, rfl, h3, h4, ⟨_, c, rfl, h5, h6, fun h => (by cases h), fun j u hu => ⟨g2, off, cs2, fr2, rfl, h7, h8 j u hu⟩⟩⟩
    | succ j => simp at hj⟩,
  fun ⟨g, g2, off, c, cs, fr, cs2, fr2, h1, h2, h3, h4, h5, h6, h7, h8⟩ k hd => ⟨g, g2, off, c, cs, fr, cs2, fr2, h1, h2, (k.block g (Array.getElem?_eq_some_iff.1 h3).1 (hd g (by simp [h2]))).trans h3, h4, h5, h6, (k.block g2 (Array.getElem?_eq_some_iff.1 h7).1 (hd g2 (by simp [h2]))).trans h7, h8⟩,
  fun ⟨g, g2, off, c, cs, fr, cs2, fr2, h1, h2, h3, h4, h5, h6, h7, h8⟩ b hb => by
    rw [h2] at hb
    simp only [List.mem_cons, List.not_mem_nil, or_false] at hb
    rcases hb with rfl | rfl
    · exact (Array.getElem?_eq_some_iff.1 h3).1
    · exact (Array.getElem?_eq_some_iff.1 h7).1⟩
theorem tkBuildT1 {s n bytes : Nat} {t e u : TypeId} {z : Value} {xs : List Value} (ho : o.op = .buildSlice t 1 #[(0, .tmp s)]) (hu : P.underlying t = some (.slice e)) (hi : (P.info? e).map (fun i => (i.zero, i.size, i.bytes)) = some (some z, 1, bytes)) : OpTk P w0 Γ o (OTy.slo u n xs) (OTy.slT1 e u n xs) s := fun a w S0 K Q hb hs ⟨v, hv1, g2, off, c, cs2, fr2, h1, h2, h3, h4, h5, h6⟩ hK => by
  subst h1
  have hr := run_buildSlice (P := P) (t := t) 1 [.slice (some ⟨g2, off, none⟩) n c] hu hi rfl (by simp [Value.cells]) (by decide) w
  have ea : a.eval (.tmp s) = .slice (some ⟨g2, off, none⟩) n c := by simp [Act.eval, Array.getD_eq_getD_getElem?, hv1]
  unfold Oper.wp execOp
  simp only [ho]
  rw [show ((#[(0, (.tmp s : Operand))] : Array (Nat × Operand)).map fun (i, x) => (i, a.eval x)) = (([.slice (some ⟨g2, off, none⟩) n c] : List Value).zipIdx.map fun p => (p.2, p.1)).toArray by simp [ea], Sem.run_bind, hr]
  have hk : Keeps S0 w (w.alloc (.cells (([.slice (some ⟨g2, off, none⟩) n c] : List Value).map fun v => v.cells.toList).flatten.toArray e)) := (Keeps.refl S0 w).alloc _
  have hl2 := (Array.getElem?_eq_some_iff.1 h5).1
  simp only [Result.andThen_ok, Sem.run_pure]
  refine hK _ _ [w.heap.size, g2] ⟨w.heap.size, g2, off, c, _, (0, 0), cs2, fr2, rfl, rfl, heap_alloc_new w _, by simp [Value.cells], h3, h4, ?_, h6⟩ (fun b hb => ?_) hk
  · rw [((Keeps.refl [] w).alloc _).block g2 hl2 (by simp)]
    exact h5
  · simp only [List.mem_cons, List.not_mem_nil, or_false] at hb
    rcases hb with rfl | rfl
    · exact .inr (Nat.le_refl _)
    · exact .inl (by simp [h2])
/-- Bytes as a string; strings alike. -/
theorem cStrOf {src dst e : TypeId} {x : Operand} {b : List Nat} (ho : o.op = .convert src dst x) (hx : Has w0 Γ x (Ty.rdB b)) (hs : P.underlying src = some (.slice e)) (he : P.underlying e = some (.int .u8)) (hd : P.underlying dst = some .string) : OpOk P w0 Γ o (Ty.ex (.string (strB b))) :=
  .val fun a w hb hs' => by
    obtain ⟨v, h1, A, c, rfl, h2, h3, h4, h5⟩ := hx.see hs' (by simp [ho, Op.operands]) hb
    have hr := run_string_rd (P := P) w src dst e hs he hd A b.length c b rfl h5 h4
    refine ⟨_, rfl, ?_⟩
    unfold execOp
    simp only [ho, h1]
    rw [Sem.run_bind, hr]
    rfl
theorem cEqlStr {t t2 : TypeId} {x y : Operand} {s r : ByteArray} (ho : o.op = .binOp .eql t x y t2) (hx : OpT Γ x (Ty.ex (.string s))) (hy : OpT Γ y (Ty.ex (.string r))) : OpOk P w0 Γ o (Ty.ex (.bool (s.toList == r.toList))) :=
  cBin ho hx hy fun w => by simp [eqGuard, binOp, Op.stringOp]
end
theorem sl_rdB {e : TypeId} (b : List Nat) : ∀ w v, (Ty.sl e b.length (b.map bv)).p w v → (Ty.rdB b).p w v := fun w v h => by
  obtain ⟨A, c, h1, h2, h3, h4, h5⟩ := id h
  subst h1
  exact ⟨A, c, rfl, h2, h3, fun hA => (h4 hA).1, SlP.rd h⟩
theorem bv_cells (l : List Nat) : ∀ v ∈ l.map bv, v.cells = #[v] := fun v hv => by
  obtain ⟨x, _, rfl⟩ := List.mem_map.1 hv
  rfl
theorem infoU8c : (Try.prog.info? 5).map (fun i => (i.zero, i.size, i.bytes)) = some (some (.int .u8 0), 1, 1) := by kernel_rfl
abbrev tenB : List Nat := [48, 49, 50, 51, 52, 53, 54, 55, 56, 57]
theorem ten_str : ((strB tenB).toList == ({ data := #[48, 49, 50, 51, 52, 53, 54, 55, 56, 57] } : ByteArray).toList) = true := by
  have e : strB tenB = ({ data := #[48, 49, 50, 51, 52, 53, 54, 55, 56, 57] } : ByteArray) := rfl
  rw [e]
  exact beq_self_eq_true _
theorem ten_cut : pcsB tenB = [tenB] := by decide +kernel
set_option maxRecDepth 100000 in
set_option maxHeartbeats 1000000 in
theorem awake11_ty : Fn0 Try.prog 7 (Ty.ex (.bool true)) := by
  refine ⟨fun args w => by kernel_rfl, fun w => ?_⟩
  have hO := sumOf1_ty (e := 22) (τ := Ty.sl 5 10 (tenB.map bv)) tenB (reads_sl _ _ _) (by simp) (by simp)
  have hC := ccut_ty tenB (by decide) (by simp)
  have hG := goodq_ty (shaS tenB, tenB) (by simp) (by decide)
  have e1 : cutQ tenB = [(shaS tenB, tenB)] := by unfold cutQ; rw [ten_cut]; rfl
  have e2 : goodQ (shaS tenB, tenB) = true := by simp [goodQ]
  rw [e1] at hC
  rw [e2] at hG
  have e3 : shaL tenB = (shaS tenB).l := rfl
  rw [e3] at hO
  generalize shaS tenB = X at *
  clear e1 e2 e3
  refine enter_ty 33 [] Try.func7 rfl (by kernel_rfl) trivial fun a hF => ?_
  have hB := Below.refl w.heap.size w
  repeat with_reducible refine wp_seq ?_
  refine' reg_all hF ?_ mixed (by kernel_rfl) ?_
  rotate_left
  · repeat (first | exact Line.nil | ((refine' Line.cons rfl (.run rfl rfl ?_) ?_); (any_goals exact cAssign rfl rfl); rotate_left))
  intro a w1 hF hb hN
  have hBs := hB.size
  replace hB := hB.trans (hb.mono hB.size)
  dsimp only [ext, Option.getD] at hF
  repeat with_reducible first | refine wp_seq ?_ | refine nThen ?_
  refine wp_region_lit ?_
  refine tlConstB (n := 10) (vs := tenB.map bv) (hF.keep [0]) rfl rfl rfl (fun a => by simp [Act.eval, bv]) rfl (bv_cells _) Try.underlying22 Try.underlying5 infoU8c rfl rfl rfl (by decide) ?_
  intro a w3 hF hb
  replace hB := hB.trans (hb.mono hB.size)
  refine' tlOp hF rfl rfl rfl ?_ ?_
  rotate_left
  · exact cCallH1 rfl (Has.c (.t rfl) (sl_rdB tenB)) hC
  intro a w4 hF hb
  have hBs := hB.size
  replace hB := hB.trans (hb.mono hB.size)
  try (refine wpList_nil ?_)
  refine' tlOp hF rfl rfl rfl ?_ ?_
  rotate_left
  · exact cAssign rfl rfl
  intro a w5 hF hb
  have hBs := hB.size
  replace hB := hB.trans (hb.mono hB.size)
  try (refine wpList_nil ?_)
  repeat with_reducible first | refine wp_seq ?_ | refine nThen ?_
  obtain ⟨v1, ⟨L, ⟨hLl, hLQ⟩, hsl⟩, hF⟩ := hF.open (s := 1) rfl
  have hL0 := hLQ 0 (by simp)
  have hlen : L.length = 1 := hLl
  obtain ⟨l0, rfl⟩ : ∃ l0, L = [l0] := List.length_eq_one_iff.1 hlen
  obtain ⟨x0, u⟩ := l0
  obtain ⟨hx0, hu0⟩ := hL0
  have hx0 : x0 = X := hx0
  have hu0 : (Ty.rdB tenB).p w5 u := hu0
  subst hx0
  have hat := hsl
  obtain ⟨A, c, rfl, hc1, hc2, hcA, hcell⟩ := hsl
  obtain ⟨g, off, cs, fr, rfl, -, -⟩ := hcell 0 _ (List.getElem?_eq_getElem (by rw [flatQ_len]; simp))
  have hrd := SlP.rd hat
  have e0 : flatQ [(x0, u)] = x0.enc ++ [u] := by rw [flatQ_cons]; simp [flatQ]
  rw [e0] at hrd
  have hsA := rdB_slice hu0
  have hpP : (Ty.atR (x0.enc ++ [u])).p w5 (.pointer (some ⟨g, off + 0 * 33, none⟩)) := ⟨_, rfl, by rw [Nat.zero_mul, Nat.add_zero]; exact hrd, by simp⟩
  have hpB : (Ty.atR [u]).p w5 (.pointer (some ⟨g, off + 0 * 33 + 32, none⟩)) := by
    have h := rd_add hrd 32
    rw [List.drop_append, encL, List.drop_of_length_le (Nat.le_of_eq (encL _)), List.nil_append, Nat.sub_self, List.drop_zero] at h
    exact ⟨_, rfl, by rw [Nat.zero_mul, Nat.add_zero]; exact h, by simp⟩
  have hpS : (Ty.atR x0.enc).p w5 (.pointer (some ⟨g, off + 0 * 33 + 0, none⟩)) := ⟨_, rfl, by rw [Nat.zero_mul, Nat.add_zero]; exact rd_pre hrd, fun h => by have := congrArg List.length h; rw [encL] at this; cases this⟩
  have hpC : (Ty.pc (x0, tenB)).p w5 (.agg (pcA x0 u)) := ⟨u, rfl, hu0⟩
  clear hcell
  refine' region_own 29 [(23, 27), (24, 28)] mixed (by kernel_rfl) hF ?_ ?_
  rotate_left
  · simp only [List.take_succ_cons, List.take_zero]
    repeat (first
        | exact LineO.nil
        | (refine' LineO.cons rfl rfl (.no rfl rfl rfl rfl rfl) ?_; rotate_left)
        | ((first | refine' LineO.cons rfl rfl (.run rfl ?_) ?_ | refine' LineO.cons rfl rfl (.yes rfl rfl rfl ?_) ?_)
           any_goals (first | exact .ex (cMove rfl rfl) | exact .ex (cAssign rfl rfl) | exact .ex (cLenEx rfl rfl Try.underlying24) | exact .ex (cIndexEx (k := 0) (sz := 33) rfl rfl rfl Try.underlying24 sizePc (by simp)) | exact .ex (cLoadQX rfl (.l rfl hpP) Try.underlying29 rfl sizePc) | exact .ex (cCallH1 rfl (.l rfl hpC) hG) | exact .ex (cFieldExE rfl rfl Try.underlying29 rfl sizeB1) | exact .ex (cFieldExE rfl rfl Try.underlying29 rfl sizeS) | exact .ex (cLoad1 rfl (.l rfl hpB) (pts_atR _) Try.underlying22 rfl) | exact .ex (cLoadSumR rfl (.l rfl hpS) Try.underlying27 sizeS) | exact .ex (cStrOf rfl (.l rfl hu0) Try.underlying22 Try.underlying5 Try.underlying9) | exact .ex (OpOk.b (c := true) (cEqlStr rfl rfl rfl) ten_str) | exact oBuild (vs := tenB.map bv) rfl (fun a w _ => by simp [Act.eval, bv]) Try.underlying22 infoU8c rfl (fun v hv => by rw [bv_cells _ v hv]; rfl) (by decide) (by simp [maxLen]) | exact .ex (cCall1 rfl rfl hO) | exact .ex (OpOk.b (c := true) (cEqlAgg rfl rfl rfl guardS (eqlS _ _)) (decide_eq_true rfl)) | exact .ex (cPickT rfl rfl rfl) | exact .ex (cEql rfl rfl rfl))
           rotate_left)
        | ((first | refine' LineO.take rfl rfl rfl (.run rfl ?_) ?_ | refine' LineO.take rfl rfl rfl (.yes rfl rfl rfl ?_) ?_)
           any_goals (first | exact tkFreeze rfl Try.underlying22 Try.underlying5 (by decide) | exact tkBuildT1 rfl Try.underlying57 infoB)
           rotate_left))
  intro a w6 hF hb hN
  have hBs := hb.size
  replace hB := hB.trans (hb.mono hB.size)
  simp only [List.take_succ_cons, List.take_zero, List.drop_succ_cons, List.drop_zero] at hF hN ⊢
  dsimp only [hideT, List.foldr, extO, Option.getD, OTy.ex, OTy.seg, OTy.slo, OTy.var] at hF
  refine wpList_nil ?_
  repeat with_reducible first | refine nThen ?_ | refine wp_ret ?_
  refine ret1 hF rfl rfl fun z hz => ?_
  exact ⟨z, rfl, hz, hB⟩
end Go.Proofs.Ytbjlmhbpcopfbaa

/- Walks of the reference's Next and Ends, of any rule. -/
namespace Go.Proofs.Ytbjlmhbpcopfbaa
open Go.RowKit

end Go.Proofs.Ytbjlmhbpcopfbaa

/- Walks of layer 6: awake; the laws. -/
namespace Go.Proofs.Ytbjlmhbpcopfbaa
open Go.RowKit

end Go.Proofs.Ytbjlmhbpcopfbaa

/- Layer 6: the walk of CutLocal; its plain law. -/
namespace Go.Proofs.Ytbjlmhbpcopfbaa
open Go.RowKit

end Go.Proofs.Ytbjlmhbpcopfbaa

/- Layer 6: the walk of CutFew; its plain law. -/
namespace Go.Proofs.Ytbjlmhbpcopfbaa
open Go.RowKit

end Go.Proofs.Ytbjlmhbpcopfbaa

/- Layer 6: the walk of CutPlain; its plain law. -/
namespace Go.Proofs.Ytbjlmhbpcopfbaa
open Go.RowKit

end Go.Proofs.Ytbjlmhbpcopfbaa

/- Layer 6: the walk of CutSays. -/
namespace Go.Proofs.Ytbjlmhbpcopfbaa
open Go.RowKit

end Go.Proofs.Ytbjlmhbpcopfbaa

/- Layer 6: the walk of CutAgain; its plain law. -/
namespace Go.Proofs.Ytbjlmhbpcopfbaa
open Go.RowKit

theorem ends_shift (f : List Nat → Nat) (hf : ∀ b : List Nat, b.length ≠ 0 → 1 ≤ f b ∧ f b ≤ b.length) : ∀ (n s d : Nat) (b : List Nat), b.length ≤ n → ends f (d + s) b = (ends f s b).map (d + ·) := by
  intro n
  induction n with
  | zero =>
    intro s d b h
    obtain rfl : b = [] := List.eq_nil_of_length_eq_zero (by omega)
    rfl
  | succ n ih =>
    intro s d b h
    by_cases hb : b.length = 0
    · obtain rfl : b = [] := List.eq_nil_of_length_eq_zero hb
      rfl
    · have := hf b hb
      rw [ends_step f hf _ b hb, ends_step f hf s b hb, List.map_cons, Nat.add_assoc, ih (s + f b) d _ (by rw [List.length_drop]; omega)]
end Go.Proofs.Ytbjlmhbpcopfbaa

/- Chunks plainly: the pieces one behind the other; cutting on behind a whole piece. -/
namespace Go.Proofs.Ytbjlmhbpcopfbaa

def fP (b : List Nat) : Nat := nextR 16 128 8 31 7 b
theorem fP_f : ∀ b : List Nat, b.length ≠ 0 → 1 ≤ fP b ∧ fP b ≤ b.length := nextR_f 31 7 (by decide)
theorem pcsB_nil : pcsB [] = [] := by decide +kernel
theorem pcsB_step (b : List Nat) (hb : b.length ≠ 0) : pcsB b = b.take (fP b) :: pcsB (b.drop (fP b)) := by
  have hg : goodS 16 128 8 = true := by decide
  have e1 : ∀ c : List Nat, endsR 16 128 8 31 7 c = ends fP 0 c := fun c => by unfold endsR; rw [if_pos hg]; rfl
  unfold pcsB
  rw [e1, e1, ends_step fP fP_f 0 b hb, Nat.zero_add]
  have h2 := ends_shift fP fP_f _ 0 (fP b) (b.drop (fP b)) (Nat.le_refl _)
  rw [Nat.add_zero] at h2
  rw [h2]
  generalize ends fP 0 (b.drop (fP b)) = E
  unfold partsS
  rw [List.length_cons, List.length_map, List.range_succ_eq_map, List.map_cons, List.map_map]
  congr 1
  refine List.map_congr_left fun i hi => ?_
  have hi := List.mem_range.1 hi
  have g1 : ((E.map (fP b + ·))).getD i 0 = fP b + E.getD i 0 := by simp [List.getD, List.getElem?_map, List.getElem?_eq_getElem hi]
  have g2 : (fP b :: (E.map (fP b + ·))).getD i 0 = fP b + (0 :: E).getD i 0 := by
    cases i with
    | zero => rfl
    | succ i => simp [List.getD, List.getElem?_eq_getElem (show i < E.length by omega)]
  show ((b.take ((E.map (fP b + ·)).getD i 0)).drop ((fP b :: (E.map (fP b + ·))).getD i 0)) = (((b.drop (fP b)).take (E.getD i 0)).drop ((0 :: E).getD i 0))
  rw [g1, g2, ← List.drop_drop, List.drop_take, Nat.add_sub_cancel_left]
end Go.Proofs.Ytbjlmhbpcopfbaa

/- Chunks: the walk of ChunkShares. -/
namespace Go.Proofs.Ytbjlmhbpcopfbaa
open Go.RowKit

theorem rdB_news {w : World} {b : List Nat} : ∀ u, (Ty.rdB b).p w u → ∃ A c, u = .slice A b.length c ∧ (A = none → b.length = 0) ∧ Rd w A (b.map bv) := fun _ ⟨A, c, h1, _, _, h4, h5⟩ => ⟨A, c, h1, h4, h5⟩
theorem bv_oneC (b : List Nat) : ∀ u ∈ b.map bv, u.oneCell' = true := fun u hu => by
  obtain ⟨x, _, rfl⟩ := List.mem_map.1 hu
  rfl
theorem seg_rdB {w : World} {v : Value} {b : List Nat} {S : List Nat} (h : Seg w 5 1 v b.length (b.map bv) S) : (Ty.rdB b).p w v := sl_rdB b w v h.sl
end Go.Proofs.Ytbjlmhbpcopfbaa

/- Chunks: lines for the document's own: a slice of a slice that is read, bytes laid behind nothing, pieces with their bytes in memory of bytes. -/
namespace Go.Proofs.Ytbjlmhbpcopfbaa
open Go.RowKit

section
variable {P : Program} {w0 : World} {Γ : Ctx} {o : Oper}
end
/-- Bytes in memory of bytes. -/
abbrev slB (b : List Nat) : Ty := Ty.sl 5 b.length (b.map bv)
/-- A piece as a value, its bytes in memory of bytes; a slice of one such piece. -/
def Ty.pcT (q : Sm × List Nat) : Ty := ⟨fun w v => ∃ u, v = .agg (pcA q.1 u) ∧ (slB q.2).p w u, fun t => t == 5, fun ⟨u, h1, h2⟩ k hA => ⟨u, h1, (slB q.2).st h2 k hA⟩⟩
section
variable {w0 : World} {Γ : Ctx} {o : Oper}
end
end Go.Proofs.Ytbjlmhbpcopfbaa

/- Layer 10 by types: the document's Of. -/
namespace Go.Proofs.Ytbjlmhbpcopfbaa
open Go.RowKit

end Go.Proofs.Ytbjlmhbpcopfbaa

/- Layer 10: the walks of SetParts, SetLaws. -/
namespace Go.Proofs.Ytbjlmhbpcopfbaa
open Go.RowKit

end Go.Proofs.Ytbjlmhbpcopfbaa

/- Layer 10: the walks of Add, Tell. -/
namespace Go.Proofs.Ytbjlmhbpcopfbaa
open Go.RowKit

end Go.Proofs.Ytbjlmhbpcopfbaa

/- Layer 10 by types: the document's Minus, Both, Either, Bytes, Tell. -/
namespace Go.Proofs.Ytbjlmhbpcopfbaa
open Go.RowKit

end Go.Proofs.Ytbjlmhbpcopfbaa

/- Chunks: the document's Cut, Names, GoodPiece. -/
namespace Go.Proofs.Ytbjlmhbpcopfbaa
open Go.RowKit

theorem apart_u8 {w : World} {S : List Nat} {e : TypeId} (hS : ∀ b ∈ S, b < w.heap.size → ∃ cs fr, w.heap[b]? = some (.cells cs e fr)) (he : (e == 5) = false) : Apart w S (fun t => t == 5) := fun b hb hl => let ⟨cs, fr, h⟩ := hS b hb hl; ⟨cs, e, fr, h, he⟩
end Go.Proofs.Ytbjlmhbpcopfbaa

/- Chunks: where a sum is first had; chunk.Join. -/
namespace Go.Proofs.Ytbjlmhbpcopfbaa
open Go.RowKit

/-- A call through a closure. -/
theorem cCallCQ {P : Program} {w0 : World} {Γ : Ctx} {o : Oper} {f : FuncId} {ats : Array TypeId} {x0 x : Operand} {cb : Array Value} {τ ρ : Ty} (ho : o.op = .call { callee := .value x0, args := #[x], argTypes := ats }) (h0 : OpT Γ x0 (Ty.ex (.func (.func f) #[] cb))) (hx : Has w0 Γ x τ) (he : Enters P f) (hc : ∀ w v, Below w0.heap.size w0 w → τ.p w v → Ret P f (#[v] ++ cb) w ρ) : OpOk P w0 Γ o ρ :=
  .call fun a w hb hs => by
    obtain ⟨v0, k1, k2⟩ := hs x0 _ (by simp [ho, Op.operands, Call.operands]) h0
    have k2 : v0 = .func (.func f) #[] cb := k2
    obtain ⟨u, h1, h2⟩ := hx.see hs (by simp [ho, Op.operands, Call.operands]) hb
    refine ⟨f, #[u] ++ cb, ?_, hc w u hb h2⟩
    rw [exec_goV a.eval ho (k1.trans k2)]
    simp only [List.map_toArray, List.map_cons, List.map_nil, h1]
    exact he _ w
abbrev joinFn (p : Value) : Value := .func (.func 35) #[] #[p]
set_option maxRecDepth 100000 in
theorem joinF_ret (q : Sm × List Nat) (x : Sm) (p : Value) (w : World) (v : Value) (hv : (Ty.pc q).p w v) (hp : (Ty.at_ 27 x.enc).p w p) : Ret Try.prog 35 #[v, p] w (Ty.ex (.bool (decide (q.1 = x)))) := by
  obtain ⟨u, rfl, hu⟩ := hv
  obtain ⟨y, b⟩ := q
  refine enter_ty 8 [Ty.ex (.agg (pcA y u)), Ty.ex p] Try.func35 rfl (by kernel_rfl) ⟨rfl, rfl, trivial⟩ fun a hF => ?_
  have hB := Below.refl w.heap.size w
  repeat with_reducible refine wp_seq ?_
  refine' reg_all hF ?_ mixed (by kernel_rfl) ?_
  rotate_left
  · repeat (first | exact Line.nil | ((refine' Line.cons rfl (.run rfl rfl ?_) ?_); (any_goals (first | exact cAssign rfl rfl | exact cBox rfl rfl)); rotate_left))
  intro a w1 hF hb hN
  have hBs := hB.size
  replace hB := hB.trans (hb.mono hB.size)
  dsimp only [ext, Option.getD] at hF
  repeat with_reducible first | refine wp_seq ?_ | refine nThen ?_
  obtain ⟨p2, hp2, hF⟩ := hF.open (s := 2) rfl
  have hp2 := at_pcP hp2 ((Ty.rdB b).below hu hB)
  have hp1 := (Ty.at_ 27 x.enc).below hp hB
  refine' reg_all hF ?_ mixed (by kernel_rfl) ?_
  rotate_left
  · repeat (first | exact Line.nil | ((refine' Line.cons rfl (.run rfl rfl ?_) ?_); (any_goals (first | exact cAssign rfl rfl | exact cFldQ0 rfl (.l rfl hp2) Try.underlying29 rfl sizeS | exact cLoadSumR rfl (.t rfl) Try.underlying27 sizeS | exact cLoadSum rfl (.l rfl hp1) Try.underlying27 sizeS | exact cEqlAgg rfl rfl rfl guardS (eqlS y x))); rotate_left))
  intro a w2 hF hb hN
  have hBs := hB.size
  replace hB := hB.trans (hb.mono hB.size)
  dsimp only [ext, Option.getD] at hF
  repeat with_reducible first | refine nThen ?_ | refine wp_ret ?_
  refine ret1 hF rfl rfl fun z hz => ?_
  exact ⟨z, rfl, hz, hB⟩
/-- Where a sum is first had. -/
def posQ (Q : List (Sm × List Nat)) (x : Sm) : Nat := Q.findIdx fun q => decide (q.1 = x)
theorem posQ_at {Q : List (Sm × List Nat)} {x : Sm} {k : Nat} (hk : k < Q.length) (h : (Q.getD k (Sm.zero, [])).1 = x) (hlo : ∀ j, j < k → ¬ (Q.getD j (Sm.zero, [])).1 = x) : posQ Q x = k := by
  have e : ∀ j, (hj : j < Q.length) → Q.getD j (Sm.zero, []) = Q[j] := fun j hj => by simp [List.getD, List.getElem?_eq_getElem hj]
  unfold posQ
  rw [List.findIdx_eq hk]
  refine ⟨by rw [← e k hk]; exact decide_eq_true h, fun j hj => ?_⟩
  rw [← e j (by omega)]
  exact decide_eq_false (hlo j hj)
theorem posQ_none {Q : List (Sm × List Nat)} {x : Sm} (hlo : ∀ j, j < Q.length → ¬ (Q.getD j (Sm.zero, [])).1 = x) : posQ Q x = Q.length := by
  unfold posQ
  rw [List.findIdx_eq_length]
  intro q hq
  obtain ⟨j, hj, rfl⟩ := List.getElem_of_mem hq
  have := hlo j hj
  rw [show Q.getD j (Sm.zero, []) = Q[j] by simp [List.getD, List.getElem?_eq_getElem hj]] at this
  exact decide_eq_false this
def posI (Q : List (Sm × List Nat)) (x : Sm) : Int := if posQ Q x < Q.length then (posQ Q x : Int) else -1
set_option maxRecDepth 100000 in
set_option maxHeartbeats 1000000 in
theorem idxQ_ret (Q : List (Sm × List Nat)) (x : Sm) (p : Value) (w : World) (v : Value) (hv : (Ty.pcsR Q).p w v) (hp : (Ty.at_ 27 x.enc).p w p) (hL : Q.length ≤ 1000000) : Ret Try.prog 34 #[v, joinFn p] w (Ty.ex (.int .i64 (posI Q x))) := by
  have he : Enters Try.prog 35 := fun args w => by kernel_rfl
  refine enter_ty 19 [Ty.ex v, Ty.ex (joinFn p)] Try.func34 rfl (by kernel_rfl) ⟨rfl, rfl, trivial⟩ fun a hF => ?_
  have hB := Below.refl w.heap.size w
  repeat with_reducible refine wp_seq ?_
  refine' reg_all hF ?_ mixed (by kernel_rfl) ?_
  rotate_left
  · repeat (first | exact Line.nil | ((refine' Line.cons rfl (.run rfl rfl ?_) ?_); (any_goals exact cAssign rfl rfl); rotate_left))
  intro a w1 hF hb hN
  have hBs := hB.size
  replace hB := hB.trans (hb.mono hB.size)
  dsimp only [ext, Option.getD] at hF
  repeat with_reducible first | refine wp_seq ?_ | refine nThen ?_
  have hv1 := (Ty.pcsR Q).below hv hB
  refine' reg_all hF ?_ mixed (by kernel_rfl) ?_
  rotate_left
  · repeat (first | exact Line.nil | ((refine' Line.cons rfl (.run rfl rfl ?_) ?_); (any_goals (first | exact cMove rfl rfl | exact cLenH rfl (.l rfl hv1) (pcsR_isSl Q) Try.underlying24)); rotate_left))
  intro a w2 hF hb hN
  have hBs := hB.size
  replace hB := hB.trans (hb.mono hB.size)
  dsimp only [ext, Option.getD] at hF
  repeat with_reducible first | refine nThen ?_ | refine wp_block ?_
  refine loop_ty (fun m a wr => ∃ k : Nat, k + m = Q.length ∧ (∀ j, j < k → ¬ (Q.getD j (Sm.zero, [])).1 = x) ∧ Fr 19 [(0, Ty.ex v), (1, Ty.ex (joinFn p)), (7, Ty.ex (.int .i64 (Q.length : Int))), (8, Ty.ex (.int .i64 (k : Int)))] a wr ∧ Below w.heap.size w wr) Q.length ?_ ?_
  · exact ⟨0, by omega, fun j hj => by omega, hF.keep [0, 1, 7, 8], hB⟩
  clear hF hB hv1
  rintro m a wr ⟨k, hk, hlo, hF, hB⟩
  repeat with_reducible refine wp_seq ?_
  refine' reg_all hF ?_ mixed (by kernel_rfl) ?_
  rotate_left
  · repeat (first | exact Line.nil | ((refine' Line.cons rfl (.run rfl rfl ?_) ?_); (any_goals exact cLss rfl rfl rfl); rotate_left))
  intro a w3 hF hb hN
  have hBs := hB.size
  replace hB := hB.trans (hb.mono hB.size)
  dsimp only [ext, Option.getD] at hF
  repeat with_reducible first | refine wp_seq ?_ | refine nThen ?_
  refine cond_ty hF rfl (fun hlt => ?_) (fun hge => ?_)
  · have hlt : k < Q.length := by have := of_decide_eq_true hlt; omega
    have hC := fun w v (hv : (Ty.pc (Q.getD k (Sm.zero, []))).p w v) (hp : (Ty.at_ 27 x.enc).p w p) => joinF_ret (Q.getD k (Sm.zero, [])) x p w v hv hp
    have hat := @posQ_at Q x k hlt
    have hlo' : ¬ (Q.getD k (Sm.zero, [])).1 = x → ∀ j, j < k + 1 → ¬ (Q.getD j (Sm.zero, [])).1 = x := fun h j hj => by
      by_cases e : j = k
      · rw [e]; exact h
      · exact hlo j (by omega)
    repeat with_reducible first | refine wp_seq ?_ | refine nThen ?_ | refine wp_skip ?_ | refine wp_block ?_
    refine' reg_all hF ?_ mixed (by kernel_rfl) ?_
    rotate_left
    · repeat (first | exact Line.nil | ((refine' Line.cons rfl (.run rfl rfl ?_) ?_); (any_goals (first | exact cMove rfl rfl | exact cAssign rfl rfl)); rotate_left))
    intro a w4 hF hb hN
    have hBs := hB.size
    replace hB := hB.trans (hb.mono hB.size)
    dsimp only [ext, Option.getD] at hF
    repeat with_reducible first | refine wp_seq ?_ | refine nThen ?_
    have hv4 := (Ty.pcsR Q).below hv hB
    have hp4 := (Ty.at_ 27 x.enc).below hp hB
    refine' reg_all hF ?_ mixed (by kernel_rfl) ?_
    rotate_left
    · repeat (first | exact Line.nil | ((refine' Line.cons rfl (.run rfl rfl ?_) ?_); (any_goals (first | exact cMove rfl rfl | exact cIdxQ rfl (.l rfl hv4) rfl Try.underlying24 sizePc hlt | exact cLoadQ rfl (.t rfl) Try.underlying29 rfl sizePc | exact cCallCQ rfl rfl (.t rfl) he (fun W v hb hv => hC W v hv ((Ty.at_ 27 x.enc).below hp4 hb)))); rotate_left))
    intro a w5 hF hb hN
    have hBs := hB.size
    replace hB := hB.trans (hb.mono hB.size)
    dsimp only [ext, Option.getD] at hF
    repeat with_reducible refine nThen ?_
    refine cond_ty hF rfl (fun hin => ?_) (fun hout => ?_)
    · have hpos := hat (of_decide_eq_true hin) hlo
      repeat with_reducible refine wp_seq ?_
      refine' reg_all hF ?_ mixed (by kernel_rfl) ?_
      rotate_left
      · repeat (first | exact Line.nil | ((refine' Line.cons rfl (.run rfl rfl ?_) ?_); (any_goals (first | exact cMove rfl rfl | exact cAssign rfl rfl)); rotate_left))
      intro a w6 hF hb hN
      have hBs := hB.size
      replace hB := hB.trans (hb.mono hB.size)
      dsimp only [ext, Option.getD] at hF
      repeat with_reducible first | refine nThen ?_ | refine wp_ret ?_ | refine rThen ?_ | refine rBlk ?_
      refine ret1 hF rfl rfl fun z hz => ?_
      refine ⟨z, rfl, ?_, hB⟩
      unfold posI
      rw [hpos, if_pos hlt]
      exact hz
    · have hlo2 := hlo' (of_decide_eq_false hout)
      repeat with_reducible first | refine nThen ?_ | refine nBlk ?_ | refine wp_skip ?_
      refine' reg_all hF ?_ mixed (by kernel_rfl) ?_
      rotate_left
      · repeat (first | exact Line.nil | ((refine' Line.cons rfl (.run rfl rfl ?_) ?_); (any_goals (first | exact cMove rfl rfl | exact cAdd (r := ((k + 1 : Nat) : Int)) rfl rfl rfl (by omega))); rotate_left))
      intro a w6 hF hb hN
      have hBs := hB.size
      replace hB := hB.trans (hb.mono hB.size)
      dsimp only [ext, Option.getD] at hF
      repeat with_reducible refine nThen ?_
      exact ⟨m - 1, by omega, k + 1, by omega, hlo2, hF.keep [0, 1, 7, 8], hB⟩
  · have hge : ¬ k < Q.length := by have := of_decide_eq_false hge; omega
    have hpos : posQ Q x = Q.length := posQ_none fun j hj => hlo j (by omega)
    repeat with_reducible first | refine wp_seq ?_ | refine nThen ?_ | refine wp_exit ?_ | refine xThen ?_ | refine xHere ?_
    refine' reg_all hF ?_ mixed (by kernel_rfl) ?_
    rotate_left
    · repeat (first | exact Line.nil | ((refine' Line.cons rfl (.run rfl rfl ?_) ?_); (any_goals exact cAssign rfl rfl); rotate_left))
    intro a w4 hF hb hN
    have hBs := hB.size
    replace hB := hB.trans (hb.mono hB.size)
    dsimp only [ext, Option.getD] at hF
    repeat with_reducible first | refine nThen ?_ | refine wp_ret ?_
    refine ret1 hF rfl rfl fun z hz => ?_
    refine ⟨z, rfl, ?_, hB⟩
    unfold posI
    rw [hpos, if_neg (by omega)]
    exact hz
/-- What is put together. -/
def joinGo (Q : List (Sm × List Nat)) : List Sm → List Nat → List Nat × Nat
  | [], acc => (acc, 0)
  | x :: N, acc => if posQ Q x < Q.length then (if goodQ (Q.getD (posQ Q x) (Sm.zero, [])) = true then joinGo Q N (acc ++ (Q.getD (posQ Q x) (Sm.zero, [])).2) else ([], 11)) else ([], 5)
def joinQ (N : List Sm) (Q : List (Sm × List Nat)) : List Nat × Nat := joinGo Q N []
theorem drop_getD {N : List Sm} {k : Nat} (h : k < N.length) : N.drop k = N.getD k default :: N.drop (k + 1) := by
  rw [List.drop_eq_getElem_cons h]
  simp [List.getD, List.getElem?_eq_getElem h]
theorem getD_memQ {Q : List (Sm × List Nat)} {k : Nat} (h : k < Q.length) : Q.getD k (Sm.zero, []) ∈ Q := by
  rw [List.getD_eq_getElem?_getD, List.getElem?_eq_getElem h]
  exact List.getElem_mem h
theorem goodQ_len {q : Sm × List Nat} (h : goodQ q = true) : q.2.length ≤ 128 := by
  unfold goodQ at h
  simp only [Bool.and_eq_true, decide_eq_true_eq] at h
  exact h.2.1
theorem nil_rdB (w : World) : (Ty.rdB []).p w nilB := ⟨none, 0, rfl, Nat.le_refl _, Nat.zero_le _, fun _ => rfl, Rd.nil _ _⟩
set_option maxRecDepth 100000 in
set_option maxHeartbeats 2000000 in
theorem join_ty (N : List Sm) (Q : List (Sm × List Nat)) (hN : N.length ≤ 10000) (hL : Q.length ≤ 1000000) (hQ : ∀ q ∈ Q, (∀ x ∈ q.2, x < 256) ∧ q.2.length ≤ 1000000) : Fn2 Try.prog 17 (Ty.sums 27 N) (Ty.pcsR Q) (Ty.tup [Ty.rdB (joinQ N Q).1, Ty.ex (.int .i64 ((joinQ N Q).2 : Int))]) := by
  refine ⟨fun args w => by kernel_rfl, fun w v0 v1 h0 h1 => ?_⟩
  have enIdx : Enters Try.prog 34 := fun args w => by kernel_rfl
  refine enter_ty 38 [Ty.ex v0, Ty.ex v1] Try.func17 rfl (by kernel_rfl) ⟨rfl, rfl, trivial⟩ fun a hF => ?_
  have hB := Below.refl w.heap.size w
  repeat with_reducible refine wp_seq ?_
  refine' reg_all hF ?_ mixed (by kernel_rfl) ?_
  rotate_left
  · repeat (first | exact Line.nil | ((refine' Line.cons rfl (.run rfl rfl ?_) ?_); (any_goals exact cAssign rfl rfl); rotate_left))
  intro a w1 hF hb hN
  have hBs := hB.size
  replace hB := hB.trans (hb.mono hB.size)
  dsimp only [ext, Option.getD] at hF
  repeat with_reducible first | refine wp_seq ?_ | refine nThen ?_
  refine' reg_all hF ?_ mixed (by kernel_rfl) ?_
  rotate_left
  · repeat (first | exact Line.nil | ((refine' Line.cons rfl (.run rfl rfl ?_) ?_); (any_goals exact cAssign rfl rfl); rotate_left))
  intro a w2 hF hb hN
  have hBs := hB.size
  replace hB := hB.trans (hb.mono hB.size)
  dsimp only [ext, Option.getD] at hF
  repeat with_reducible first | refine wp_seq ?_ | refine nThen ?_
  have k0 := (Ty.sums 27 N).below h0 hB
  refine' reg_all hF ?_ mixed (by kernel_rfl) ?_
  rotate_left
  · repeat (first | exact Line.nil | ((refine' Line.cons rfl (.run rfl rfl ?_) ?_); (any_goals (first | exact cMove rfl rfl | exact cLenH rfl (.l rfl k0) (Ty.sl_isSl _ _ _) Try.underlying35)); rotate_left))
  intro a w3 hF hb hN
  have hBs := hB.size
  replace hB := hB.trans (hb.mono hB.size)
  dsimp only [ext, Option.getD] at hF
  repeat with_reducible first | refine nThen ?_ | refine wp_block ?_
  have k0 := (Ty.sums 27 N).below h0 hB
  have k1 := (Ty.pcsR Q).below h1 hB
  have hw3 := hB.size
  have hB0 := hB
  replace hB := Below.refl w3.heap.size w3
  refine loop_ty (fun m a wr => ∃ (k : Nat) (u : Value) (S : List Nat) (A : List Nat), k + m = N.length ∧ joinQ N Q = joinGo Q (N.drop k) A ∧ A.length ≤ 128 * k ∧ Fr 38 [(1, Ty.ex v1), (6, Ty.ex u), (10, Ty.ex v0), (11, Ty.ex (.int .i64 (N.length : Int))), (12, Ty.ex (.int .i64 (k : Int)))] a wr ∧ Below w3.heap.size w3 wr ∧ Seg wr 5 1 u A.length (A.map bv) S ∧ ∀ y ∈ S, w3.heap.size ≤ y) N.length ?_ ?_
  · exact ⟨0, _, [], [], by omega, rfl, by simp, hF.keep [1, 6, 10, 11, 12], hB, Seg.nil _ _ _, by simp⟩
  clear hF hB
  rintro m a wr ⟨k, u, S, A, hk, hJ, hAl, hF, hB, hseg, hS⟩
  repeat with_reducible refine wp_seq ?_
  refine' reg_all hF ?_ mixed (by kernel_rfl) ?_
  rotate_left
  · repeat (first | exact Line.nil | ((refine' Line.cons rfl (.run rfl rfl ?_) ?_); (any_goals exact cLss rfl rfl rfl); rotate_left))
  intro a w4 hF hb hN
  have hBs := hB.size
  replace hB := hB.trans (hb.mono hB.size)
  dsimp only [ext, Option.getD] at hF
  repeat with_reducible first | refine wp_seq ?_ | refine nThen ?_
  replace hseg := hseg.below hb
  refine cond_ty hF rfl (fun hlt => ?_) (fun hge => ?_)
  rotate_left
  · have hge : ¬ k < N.length := by have := of_decide_eq_false hge; omega
    have hkN : k = N.length := by omega
    rw [hkN, List.drop_length] at hJ
    repeat with_reducible first | refine wp_seq ?_ | refine nThen ?_ | refine wp_exit ?_ | refine xThen ?_ | refine xHere ?_
    refine' reg_all hF ?_ mixed (by kernel_rfl) ?_
    rotate_left
    · repeat (first | exact Line.nil | ((refine' Line.cons rfl (.run rfl rfl ?_) ?_); (any_goals (first | exact cMove rfl rfl | exact cAssign rfl rfl)); rotate_left))
    intro a w5 hF hb hN
    have hBs := hB.size
    replace hB := hB.trans (hb.mono hB.size)
    dsimp only [ext, Option.getD] at hF
    repeat with_reducible first | refine nThen ?_ | refine wp_ret ?_
    replace hseg := hseg.below hb
    refine ret2 hF rfl rfl rfl fun y z hy hz => ?_
    refine ⟨_, rfl, ⟨[y, z], rfl, ?_, ?_, trivial⟩, hB0.trans (hB.mono hw3)⟩
    · rw [hJ]
      have hy : y = u := hy
      rw [hy]
      exact seg_rdB hseg
    · rw [hJ]; exact hz
  have hlt : k < N.length := by have := of_decide_eq_true hlt; omega
  rw [drop_getD hlt] at hJ
  have k0r := (Ty.sums 27 N).below k0 hB
  have hw4 := hB.size
  have hSlt : ∀ y ∈ S, y < w4.heap.size := fun y hy => hseg.lt y hy
  have hseg4 := hseg
  repeat with_reducible first | refine wp_seq ?_ | refine nThen ?_ | refine wp_skip ?_ | refine wp_block ?_
  refine' region_ty 3 mixed (by kernel_rfl) hF ?_ ?_
  rotate_left
  · simp only [List.take_succ_cons, List.take_zero]
    repeat (first
        | exact Line.nil
        | (refine' Line.cons rfl (.new rfl rfl (run_alloc_i infoS) rfl) ?_; rotate_left)
        | ((refine' Line.cons rfl (.run rfl rfl ?_) ?_)
           any_goals (first | exact cIndexSum (L := N) (k := k) rfl (.l rfl k0r) rfl Try.underlying35 sizeS hlt | exact cLoadSum rfl (.t rfl) Try.underlying27 sizeS)
           rotate_left))
  intro a w5 hF hb hN
  have hBs := hB.size
  replace hB := hB.trans (hb.mono hB.size)
  simp only [List.take_succ_cons, List.take_zero, List.drop_succ_cons, List.drop_zero] at hF hN ⊢
  dsimp only [ext, Option.getD] at hF
  generalize N.getD k default = x at *
  replace hseg := hseg.below hb
  obtain ⟨z, ⟨gx, rfl, hgx, hbx⟩, hF⟩ := hF.open (s := 8) rfl
  have hgx : w4.heap.size ≤ gx := hgx
  refine tlStoreV (Δ := [(1, Ty.ex v1), (6, Ty.ex u), (8, Ty.ex (.pointer (some ⟨gx, 0, none⟩))), (10, Ty.ex v0), (11, Ty.ex (.int .i64 (N.length : Int))), (12, Ty.ex (.int .i64 (k : Int)))]) hF rfl rfl rfl rfl (hF.getEx (s := 15) rfl) hbx (by show (u8s _).size = (u8s _).size; rw [u8s_size, u8s_size, Sm.len]; rfl) (by show _ = some (u8s _).size; rw [u8s_size, Sm.len]; exact sizeS) (u8s_one _) (hF.keep [1, 6, 8, 10, 11, 12]) rfl ?_
  intro w6 hF hbx hkx
  refine wpList_nil ?_
  replace hseg := hseg.keeps hkx (by intro y hy hm; simp only [List.mem_singleton] at hm; have := hSlt y hy; omega)
  replace hB := below_own hB hkx (by intro y hy; simp only [List.mem_singleton] at hy; omega)
  have hax : (Ty.at_ 27 x.enc).p w6 (.pointer (some ⟨gx, 0, none⟩)) := by
    have h := blk_at hbx
    rwa [show (Value.agg (u8s x.l)).cells.toList = x.enc from u8s_list _] at h
  have k1r := (Ty.pcsR Q).below k1 hB
  have hpI : posI Q x = if posQ Q x < Q.length then (posQ Q x : Int) else -1 := rfl
  have hgd : posQ Q x < Q.length → (∀ y ∈ (Q.getD (posQ Q x) (Sm.zero, [])).2, y < 256) ∧ (Q.getD (posQ Q x) (Sm.zero, [])).2.length ≤ 1000000 := fun h => hQ _ (getD_memQ h)
  have hI := fun (W : World) (hb : Below w6.heap.size w6 W) => idxQ_ret Q x _ W v1 ((Ty.pcsR Q).below k1r hb) ((Ty.at_ 27 x.enc).below hax hb) hL
  have hgo : joinGo Q (x :: N.drop (k + 1)) A = if posQ Q x < Q.length then (if goodQ (Q.getD (posQ Q x) (Sm.zero, [])) = true then joinGo Q (N.drop (k + 1)) (A ++ (Q.getD (posQ Q x) (Sm.zero, [])).2) else ([], 11)) else ([], 5) := rfl
  rw [hgo] at hJ
  clear hgo
  generalize posI Q x = j at *
  generalize posQ Q x = i at *
  repeat with_reducible first | refine wp_seq ?_ | refine nThen ?_
  refine' reg_all hF ?_ mixed (by kernel_rfl) ?_
  rotate_left
  · repeat (first | exact Line.nil | ((refine' Line.cons rfl (.run rfl rfl ?_) ?_); (any_goals (first | exact cMove rfl rfl | exact cAssign rfl rfl | exact cMakeFunc rfl rfl | exact cCallX2 rfl rfl rfl enIdx hI)); rotate_left))
  intro a w7 hF hb hN
  have hBs := hB.size
  replace hB := hB.trans (hb.mono hB.size)
  dsimp only [ext, Option.getD] at hF
  repeat with_reducible first | refine wp_seq ?_ | refine nThen ?_ | refine wp_block ?_
  replace hseg := hseg.below hb
  by_cases hi : i < Q.length
  rotate_left
  · rw [if_neg hi] at hJ hpI
    subst hpI
    refine' reg_all hF ?_ mixed (by kernel_rfl) ?_
    rotate_left
    · repeat (first | exact Line.nil | ((refine' Line.cons rfl (.run rfl rfl ?_) ?_); (any_goals (first | exact cMove rfl rfl | exact cAssign rfl rfl | exact OpOk.b (c := true) (cLss rfl rfl rfl) (by decide))); rotate_left))
    intro a w8 hF hb hN
    have hBs := hB.size
    replace hB := hB.trans (hb.mono hB.size)
    dsimp only [ext, Option.getD] at hF
    repeat with_reducible refine nThen ?_
    refine cond_t hF rfl ?_
    repeat with_reducible refine wp_seq ?_
    refine' reg_all hF ?_ mixed (by kernel_rfl) ?_
    rotate_left
    · repeat (first | exact Line.nil | ((refine' Line.cons rfl (.run rfl rfl ?_) ?_); (any_goals exact cAssign rfl rfl); rotate_left))
    intro a w9 hF hb hN
    have hBs := hB.size
    replace hB := hB.trans (hb.mono hB.size)
    dsimp only [ext, Option.getD] at hF
    repeat with_reducible first | refine nThen ?_ | refine wp_ret ?_ | refine rThen ?_ | refine rBlk ?_
    refine ret2 hF rfl rfl rfl fun y z hy hz => ?_
    refine ⟨_, rfl, ⟨[y, z], rfl, ?_, ?_, trivial⟩, hB0.trans (hB.mono hw3)⟩
    · rw [hJ]
      have hy : y = nilB := hy
      rw [hy]
      exact nil_rdB _
    · rw [hJ]; exact hz
  rw [if_pos hi] at hJ hpI
  subst hpI
  obtain ⟨hg1, hg2⟩ := hgd hi
  have hG := goodq_ty (Q.getD i (Sm.zero, [])) hg1 hg2
  have hGl := @goodQ_len (Q.getD i (Sm.zero, []))
  have k1r := (Ty.pcsR Q).below k1 hB
  refine' reg_all hF ?_ mixed (by kernel_rfl) ?_
  rotate_left
  · repeat (first | exact Line.nil | ((refine' Line.cons rfl (.run rfl rfl ?_) ?_); (any_goals (first | exact cMove rfl rfl | exact cAssign rfl rfl | exact OpOk.b (c := false) (cLss rfl rfl rfl) (decide_eq_false (by omega)))); rotate_left))
  intro a w8 hF hb hN
  have hBs := hB.size
  replace hB := hB.trans (hb.mono hB.size)
  dsimp only [ext, Option.getD] at hF
  repeat with_reducible refine nThen ?_
  refine cond_f hF rfl ?_
  replace hseg := hseg.below hb
  have k1r := (Ty.pcsR Q).below k1 hB
  repeat with_reducible refine wp_seq ?_
  refine' reg_all hF ?_ mixed (by kernel_rfl) ?_
  rotate_left
  · repeat (first | exact Line.nil | ((refine' Line.cons rfl (.run rfl rfl ?_) ?_); (any_goals (first | exact cMove rfl rfl | exact cAssign rfl rfl | exact cNot rfl rfl | exact cIdxQ rfl (.l rfl k1r) rfl Try.underlying24 sizePc hi | exact cLoadQ rfl (.t rfl) Try.underlying29 rfl sizePc | exact cCallH1 rfl (.t rfl) hG)); rotate_left))
  intro a w9 hF hb hN
  have hBs := hB.size
  replace hB := hB.trans (hb.mono hB.size)
  dsimp only [ext, Option.getD] at hF
  repeat with_reducible refine nThen ?_
  replace hseg := hseg.below hb
  refine cond_ty hF rfl (fun hbad => ?_) (fun hok => ?_)
  · have hbad : ¬ goodQ (Q.getD i (Sm.zero, [])) = true := by simpa using hbad
    rw [if_neg hbad] at hJ
    repeat with_reducible refine wp_seq ?_
    refine' reg_all hF ?_ mixed (by kernel_rfl) ?_
    rotate_left
    · repeat (first | exact Line.nil | ((refine' Line.cons rfl (.run rfl rfl ?_) ?_); (any_goals exact cAssign rfl rfl); rotate_left))
    intro a w10 hF hb hN
    have hBs := hB.size
    replace hB := hB.trans (hb.mono hB.size)
    dsimp only [ext, Option.getD] at hF
    repeat with_reducible first | refine nThen ?_ | refine wp_ret ?_ | refine rThen ?_ | refine rBlk ?_
    refine ret2 hF rfl rfl rfl fun y z hy hz => ?_
    refine ⟨_, rfl, ⟨[y, z], rfl, ?_, ?_, trivial⟩, hB0.trans (hB.mono hw3)⟩
    · rw [hJ]
      have hy : y = nilB := hy
      rw [hy]
      exact nil_rdB _
    · rw [hJ]; exact hz
  have hok : goodQ (Q.getD i (Sm.zero, [])) = true := by simpa using hok
  rw [if_pos hok] at hJ
  have hbl := hGl hok
  have k1r := (Ty.pcsR Q).below k1 hB
  repeat with_reducible first | refine nThen ?_ | refine nBlk ?_ | refine wp_skip ?_
  refine' region_ty 6 mixed (by kernel_rfl) hF ?_ ?_
  rotate_left
  · simp only [List.take_succ_cons, List.take_zero]
    repeat (first | exact Line.nil | ((refine' Line.cons rfl (.run rfl rfl ?_) ?_); (any_goals (first | exact cMove rfl rfl | exact cIdxQ rfl (.l rfl k1r) rfl Try.underlying24 sizePc hi | exact cFldQ1 rfl (.t rfl) Try.underlying29 rfl sizeB1 | exact cLoadQB rfl (.t rfl) Try.underlying22 rfl)); rotate_left))
  intro a w10 hF hb hN
  have hBs := hB.size
  replace hB := hB.trans (hb.mono hB.size)
  simp only [List.take_succ_cons, List.take_zero, List.drop_succ_cons, List.drop_zero] at hF hN ⊢
  dsimp only [ext, Option.getD] at hF
  replace hseg := hseg.below hb
  generalize Q.getD i (Sm.zero, []) = q at *
  refine tlAppend (Δ := [(1, Ty.ex v1), (10, Ty.ex v0), (11, Ty.ex (.int .i64 (N.length : Int))), (12, Ty.ex (.int .i64 (k : Int)))]) (n := A.length) (m := q.2.length) (news := q.2.map bv) hF rfl rfl rfl rfl Try.underlying22 infoU8 rfl rfl hseg (.t rfl) rdB_news (by simp) (bv_oneC _) (by simp [maxLen]; omega) (by omega) (hF.keep [1, 10, 11, 12]) rfl ?_
  intro a w11 u' S' hF hseg' hk11 hS'
  have hbS : ∀ y ∈ S', w3.heap.size ≤ y := own_next hB hS hS'
  replace hB := below_own hB hk11 hS
  rw [← List.map_append, ← List.length_append] at hseg'
  refine' tlOp hF rfl rfl rfl ?_ ?_
  rotate_left
  · exact cAssign rfl rfl
  intro a w12 hF hb
  have hBs := hB.size
  replace hB := hB.trans (hb.mono hB.size)
  try (refine wpList_nil ?_)
  repeat with_reducible first | refine nThen ?_ | refine nBlk ?_
  replace hseg' := hseg'.below hb
  refine' reg_all hF ?_ mixed (by kernel_rfl) ?_
  rotate_left
  · repeat (first | exact Line.nil | ((refine' Line.cons rfl (.run rfl rfl ?_) ?_); (any_goals (first | exact cMove rfl rfl | exact cAdd (r := ((k + 1 : Nat) : Int)) rfl rfl rfl (by omega))); rotate_left))
  intro a w13 hF hb hN
  have hBs := hB.size
  replace hB := hB.trans (hb.mono hB.size)
  dsimp only [ext, Option.getD] at hF
  repeat with_reducible refine nThen ?_
  exact ⟨m - 1, by omega, k + 1, u', S', A ++ q.2, by omega, hJ, by rw [List.length_append]; omega, hF.keep [1, 6, 10, 11, 12], hB, hseg'.below hb, hbS⟩
end Go.Proofs.Ytbjlmhbpcopfbaa

/- Chunks: the document's Join; the law's pieces, names, sums. -/
namespace Go.Proofs.Ytbjlmhbpcopfbaa
open Go.RowKit

section
variable {P : Program} {w0 : World} {Γ : Ctx} {o : Oper} {x : Operand} {t ft : TypeId} {fs : Array Field} {sz : Nat} {s : Sm} {u : Value}
theorem cFldX0 (ho : o.op = .fieldAddr t x 0) (hx : Has w0 Γ x (Ty.atR (s.enc ++ [u]))) (hu : P.underlying t = some (.struct fs)) (hf : (fs[0]?).map (fun f => (f.type, f.offset)) = some (ft, 0)) (hz : (P.info? ft).map (·.size) = some (sz + 1)) : OpOk P w0 Γ o (Ty.atR s.enc) :=
  .val fun a w hb hs => by
    obtain ⟨v, h1, ad, rfl, h2, h3⟩ := hx.see hs (by simp [ho, Op.operands]) hb
    refine ⟨.pointer (some (ad.add 0)), ⟨ad.add 0, rfl, rd_add (rd_pre h2) 0, fun h => ?_⟩, ?_⟩
    · have := congrArg List.length h; rw [encL] at this; cases this
    · unfold execOp
      simp [ho, h1, run_fieldR hu hf hz]
end
end Go.Proofs.Ytbjlmhbpcopfbaa

/- From a row's reading of an argument to what a walk takes: slices of bytes; whole numbers. -/
namespace Go.Proofs.Ytbjlmhbpcopfbaa
open Go.RowKit Go.ChangeShapes Go.WideShapes

end Go.Proofs.Ytbjlmhbpcopfbaa

/- From a row's reading of an argument to what a walk takes: whole numbers in a slice; sums of thirty-two bytes. -/
namespace Go.Proofs.Ytbjlmhbpcopfbaa
open Go.RowKit Go.ChangeShapes Go.WideShapes

end Go.Proofs.Ytbjlmhbpcopfbaa

/- An argument that is a row of thirty-two bytes each, as a row of sums. -/
namespace Go.Proofs.Ytbjlmhbpcopfbaa
open Go.RowKit

end Go.Proofs.Ytbjlmhbpcopfbaa

/- An argument that is a row of bytes, of rows of bytes, of pieces. -/
namespace Go.Proofs.Ytbjlmhbpcopfbaa
open Go.RowKit

section
variable {H : Type} {enc : TypeId × Value → H} {P : Program} {W : World} {base : Nat} {sp : Nat → Bool} {held : Bool}
end
section
variable {H : Type} {enc : TypeId × Value → H} {P : Program} {W : World} {sp : Nat → Bool}
/-- A row of byte slices that is read. -/
def Ty.blsR (Ps : List (List Nat)) : Ty := ⟨fun w v => ∃ vs, Bls w vs Ps ∧ (Ty.rd Ps.length vs).p w v, fun _ => true, fun ⟨vs, h1, h2⟩ k hA => ⟨vs, ⟨h1.1, fun j hj => (Ty.rdB _).st (h1.2 j hj) k hA⟩, (Ty.rd _ _).st h2 k hA⟩⟩
theorem blsR_isSl (Ps : List (List Nat)) : IsSl (Ty.blsR Ps) Ps.length := fun _ _ ⟨_, _, A, c, h, _⟩ => ⟨A, c, h⟩
end
end Go.Proofs.Ytbjlmhbpcopfbaa
