/- Walks: package sum's words: a block spread to a word for each round. -/
import Derived.Test.YtkdkmnemmenikaaShaA
import Derived.Test.YtkdkmnemmenikaaMemA
import Derived.StillTailTactics
import Derived.Lib.Hide
import Derived.Outline
import Derived.IntWalk
import Derived.Deep.RegionHeld3
namespace Go.Proofs.Ytkdkmnemmenikaa
open Go.RowKit

def u32s (l : List Nat) : Array Value := (l.map fun (x : Nat) => Value.int .u32 (x : Int)).toArray
def fillTo (n : Nat) (l : List Nat) : List Nat := l ++ List.replicate (n - l.length) 0
set_option maxRecDepth 100000 in
theorem fillTo_len {n : Nat} {l : List Nat} (h : l.length ≤ n) : (fillTo n l).length = n := by unfold fillTo; simp; omega
theorem u32s_size (l : List Nat) : (u32s l).size = l.length := by simp [u32s]
theorem u32s_get {l : List Nat} {j : Nat} (h : j < l.length) : (u32s l)[j]? = some (.int .u32 ((l.getD j 0 : Nat) : Int)) := by
  simp [u32s, List.getElem?_map, List.getElem?_eq_getElem h, List.getD]
set_option maxRecDepth 100000 in
theorem fillTo_get {n j : Nat} {l : List Nat} (h : j < l.length) : (u32s (fillTo n l))[j]? = some (.int .u32 ((l.getD j 0 : Nat) : Int)) := by
  rw [u32s_get (by unfold fillTo; simp; omega)]
  unfold fillTo
  simp [List.getD, List.getElem?_append_left h]
set_option maxRecDepth 100000 in
theorem fillTo_at {n j : Nat} {l : List Nat} (h : l.length = j) (hj : j < n) : (u32s (fillTo n l))[j]? = some (.int .u32 0) := by
  subst h
  rw [u32s_get (by rw [fillTo_len (by omega)]; exact hj)]
  unfold fillTo
  rw [List.getD, List.getElem?_append_right (Nat.le_refl _), Nat.sub_self, List.getElem?_replicate, if_pos (by omega)]
  rfl
set_option maxRecDepth 100000 in
theorem fillTo_set {n j x : Nat} {l : List Nat} (h : l.length = j) (hj : j < n) : (u32s (fillTo n l)).setIfInBounds j (.int .u32 (x : Int)) = u32s (fillTo n (l ++ [x])) := by
  subst h
  unfold fillTo u32s
  obtain ⟨m, hm⟩ : ∃ m, n - l.length = m + 1 := ⟨n - l.length - 1, by omega⟩
  have h2 : n - (l ++ [x]).length = m := by simp; omega
  rw [hm, h2, List.replicate_succ]
  simp [List.map_append]

set_option maxRecDepth 100000 in
set_option maxHeartbeats 600000 in
theorem words_any (A : Option Addr) (cap : Nat) (b : List Nat) (w : World) (hl : b.length = 64) (hr : Rd w A (b.map bv)) (hx : ∀ x ∈ b, x < 256) :
    Calls Try.prog 18 #[.slice A 64 cap] w fun e w' => e = .returned (.agg (u32s (wordsS b 64))) ∧ Below w.heap.size w w' := by
  have X := x32_eq
  have O := o32_eq
  have P1 := a32_eq
  have P2 := a32_eq'
  have R3 := r32_eq 3 8 (by decide)
  have R10 := r32_eq 10 1024 (by decide)
  have L24 := l32_eq 24 16777216 (by decide)
  have L16 := l32_eq 16 65536 (by decide)
  have L8 := l32_eq 8 256 (by decide)
  have M24 := l32_eq' 24 16777216 (by decide)
  have M16 := l32_eq' 16 65536 (by decide)
  have M8 := l32_eq' 8 256 (by decide)
  go_enter Try.func18, Try.ntmps18
  go_wp2_with fail
  go_loopw [10] (fun i wr => ∃ k : Nat, k ≤ 16 ∧ i = .int .i64 k ∧ Blk wr w.heap.size 47 (u32s (fillTo 64 [])) ∧ Blk wr (w.heap.size + 1) 47 (u32s (fillTo 64 (wordsS b k))) ∧ Below w.heap.size w wr) (fun i _ => 16 - (intOf i).toNat)
  case atStart => exact ⟨0, by omega, rfl, (Blk.new w _ _).alloc _, Blk.newAt _ _ _ _ (by simp), ((Keeps.refl [] w).alloc _).below.alloc (by simp) _⟩
  case round =>
    obtain ⟨k, hk, rfl, hZ, hB, hb⟩ := hrel
    by_cases hlt : k < 16
    · have hw : wordsS b (k + 1) = wordsS b k ++ [word4 (b.getD (4 * k) 0) (b.getD (4 * k + 1) 0) (b.getD (4 * k + 2) 0) (b.getD (4 * k + 3) 0)] := by rw [wordsS]; simp only [if_pos hlt]
      have HW := Lib.hid hw
      clear hw
      have hg : ∀ j, j < 64 → ∃ ad, A = some ad ∧ wr.cell? (ad.add j) = some (.int .u8 ((b.getD j 0 : Nat) : Int)) ∧ b.getD j 0 < 256 := fun j hj => by
        obtain ⟨ad, e, h⟩ := (hr.below hb).at_ (j := j) (by simpa [hl] using hj)
        have hj' : j < b.length := by omega
        refine ⟨ad, e, ?_, ?_⟩
        · rw [h]; simp [bv, List.getD, List.getElem?_eq_getElem hj']
        · simp only [List.getD, List.getElem?_eq_getElem hj', Option.getD_some]; exact hx _ (List.getElem_mem _)
      obtain ⟨ad, rfl, c0, l0⟩ := hg (4 * k) (by omega)
      obtain ⟨ad1, e, c1, l1⟩ := hg (4 * k + 1) (by omega)
      injection e with e; subst e
      obtain ⟨ad1, e, c2, l2⟩ := hg (4 * k + 2) (by omega)
      injection e with e; subst e
      obtain ⟨ad1, e, c3, l3⟩ := hg (4 * k + 3) (by omega)
      injection e with e; subst e
      clear hg
      generalize b.getD (4 * k) 0 = b0 at *
      generalize b.getD (4 * k + 1) 0 = b1 at *
      generalize b.getD (4 * k + 2) 0 = b2 at *
      generalize b.getD (4 * k + 3) 0 = b3 at *
      have s0 : wr.cell? ⟨w.heap.size + 1, k, none⟩ = some (.int .u32 0) := by rw [hB.cell, fillTo_at (wordsS_len b k) (by omega)]
      have f0 := hB.frozen k
      go_wp2_with fail
      have e0 : IntKind.i64.wrap (4 * (k : Int)) = 4 * (k : Int) := IntWalk.i64_in _ (by omega)
      have e1 : IntKind.i64.wrap (4 * (k : Int) + 1) = 4 * (k : Int) + 1 := IntWalk.i64_in _ (by omega)
      have e2 : IntKind.i64.wrap (4 * (k : Int) + 2) = 4 * (k : Int) + 2 := IntWalk.i64_in _ (by omega)
      have e3 : IntKind.i64.wrap (4 * (k : Int) + 3) = 4 * (k : Int) + 3 := IntWalk.i64_in _ (by omega)
      have t0 : (4 * (k : Int)).toNat = 4 * k := by omega
      have t1 : (4 * (k : Int) + 1).toNat = 4 * k + 1 := by omega
      have t2 : (4 * (k : Int) + 2).toNat = 4 * k + 2 := by omega
      have t3 : (4 * (k : Int) + 3).toNat = 4 * k + 3 := by omega
      have p0 : (0 : Int) ≤ 4 * (k : Int) := by omega
      have p1 : (0 : Int) ≤ 4 * (k : Int) + 1 := by omega
      have p2 : (0 : Int) ≤ 4 * (k : Int) + 2 := by omega
      have p3 : (0 : Int) ≤ 4 * (k : Int) + 3 := by omega
      have q0 : 4 * (k : Int) < 64 := by omega
      have q1 : 4 * (k : Int) + 1 < 64 := by omega
      have q2 : 4 * (k : Int) + 2 < 64 := by omega
      have q3 : 4 * (k : Int) + 3 < 64 := by omega
      have d1 : wr.cell? ⟨ad.block, ad.off + (4 * k + 1), none⟩ = some (Value.int IntKind.u8 ↑b1) := by rw [← add_pos ad (4 * k + 1) (by omega)]; exact c1
      have d2 : wr.cell? ⟨ad.block, ad.off + (4 * k + 1 + 1), none⟩ = some (Value.int IntKind.u8 ↑b2) := by rw [← add_pos ad (4 * k + 1 + 1) (by omega)]; exact c2
      have d3 : wr.cell? ⟨ad.block, ad.off + (4 * k + 1 + 1 + 1), none⟩ = some (Value.int IntKind.u8 ↑b3) := by rw [← add_pos ad (4 * k + 1 + 1 + 1) (by omega)]; exact c3
      have r0 : (k : Int) < 64 := by omega
      have r1 : (0 : Int) ≤ (k : Int) := by omega
      have w0 := w32_byte l0
      have w1 := w32_byte l1
      have w2 := w32_byte l2
      have w3 := w32_byte l3
      go_still_tail 35, (by kernel_rfl)
      clear e0 e1 e2 e3 t0 t1 t2 t3 p0 p1 p2 p3 q0 q1 q2 q3 w0 w1 w2 w3 c0 c1 c2 c3 d1 d2 d3 l0 l1 l2 l3
      have HO : Hid (o32 (o32 (o32 (l32 b0 24) (l32 b1 16)) (l32 b2 8)) b3 = word4 b0 b1 b2 b3) := rfl
      generalize o32 (o32 (o32 (l32 b0 24) (l32 b1 16)) (l32 b2 8)) b3 = V at *
      have hS := hB.set k (.int .u32 (V : Int))
      rw [fillTo_set (wordsS_len b k) (by omega)] at hS
      go_wp2_with fail
      go_roundw
      case rel => exact ⟨k + 1, by omega, by go_num, (hZ.far (p := ⟨w.heap.size + 1, k, none⟩) (by simp) _).drew, by rw [HW.out, ← HO.out]; exact hS.drew, (hb.setCell (by simp) _).drew⟩
      case measure => simp [intOf]; omega
    · obtain rfl : k = 16 := by omega
      rw [show ((16 : Nat) : Int) = 16 from rfl]
      clear L24 L16 L8 M24 M16 M8 hr hx hl
      have hz : Blk wr w.heap.size 47 (u32s (fillTo 64 [])) := hZ
      go_wp2_with fail
      generalize hW : wr = w1 at *
      clear hW
      go_loopw [5] (fun i wr => ∃ k : Nat, 16 ≤ k ∧ k ≤ 64 ∧ i = .int .i64 k ∧ Blk wr w.heap.size 47 (u32s (fillTo 64 [])) ∧ Blk wr (w.heap.size + 1) 47 (u32s (fillTo 64 (wordsS b k))) ∧ Below w.heap.size w wr) (fun i _ => 64 - (intOf i).toNat)
      case atStart => exact ⟨16, by omega, by omega, rfl, hz, hB, hb⟩
      case round =>
        clear hZ hB hb
        obtain ⟨k, hk1, hk2, rfl, hZ, hB, hb⟩ := hrel
        by_cases hlt : k < 64
        · have hw : wordsS b (k + 1) = wordsS b k ++ [wordN ((wordsS b k).getD (k - 16) 0) ((wordsS b k).getD (k - 15) 0) ((wordsS b k).getD (k - 7) 0) ((wordsS b k).getD (k - 2) 0)] := by rw [wordsS]; simp only [if_neg (show ¬ k < 16 by omega)]
          have HW := Lib.hid hw
          clear hw
          have hlen := wordsS_len b k
          have hC : ∀ w' : World, Blk w' (w.heap.size + 1) 47 (u32s (fillTo 64 (wordsS b k))) →
              w'.cell? ⟨w.heap.size + 1, k - 15, none⟩ = some (.int .u32 (((wordsS b k).getD (k - 15) 0 : Nat) : Int)) ∧
              w'.cell? ⟨w.heap.size + 1, k - 2, none⟩ = some (.int .u32 (((wordsS b k).getD (k - 2) 0 : Nat) : Int)) ∧
              w'.cell? ⟨w.heap.size + 1, k - 16, none⟩ = some (.int .u32 (((wordsS b k).getD (k - 16) 0 : Nat) : Int)) ∧
              w'.cell? ⟨w.heap.size + 1, k - 7, none⟩ = some (.int .u32 (((wordsS b k).getD (k - 7) 0 : Nat) : Int)) ∧
              w'.cell? ⟨w.heap.size + 1, k, none⟩ = some (.int .u32 0) := fun w' h => by
            simp only [h.cell]
            rw [fillTo_get (by omega), fillTo_get (by omega), fillTo_get (by omega), fillTo_get (by omega), fillTo_at hlen (by omega)]
            exact ⟨rfl, rfl, rfl, rfl, rfl⟩
          have HC := Lib.hid hC
          clear hC
          have hS := fun (w' : World) (h : Blk w' (w.heap.size + 1) 47 (u32s (fillTo 64 (wordsS b k)))) (x : Nat) => h.set k (.int .u32 (x : Int))
          simp only [fillTo_set hlen hlt] at hS
          have HS := Lib.hid hS
          clear hS hlen
          generalize (wordsS b k).getD (k - 15) 0 = x15 at *
          generalize (wordsS b k).getD (k - 2) 0 = x2 at *
          generalize (wordsS b k).getD (k - 16) 0 = x16 at *
          generalize (wordsS b k).getD (k - 7) 0 = x7 at *
          have e15 : IntKind.i64.wrap ((k : Int) - 15) = (k : Int) - 15 := IntWalk.i64_in _ (by omega)
          have e2 : IntKind.i64.wrap ((k : Int) - 2) = (k : Int) - 2 := IntWalk.i64_in _ (by omega)
          have e16 : IntKind.i64.wrap ((k : Int) - 16) = (k : Int) - 16 := IntWalk.i64_in _ (by omega)
          have e7 : IntKind.i64.wrap ((k : Int) - 7) = (k : Int) - 7 := IntWalk.i64_in _ (by omega)
          have t15 : ((k : Int) - 15).toNat = k - 15 := by omega
          have t2 : ((k : Int) - 2).toNat = k - 2 := by omega
          have t16 : ((k : Int) - 16).toNat = k - 16 := by omega
          have t7 : ((k : Int) - 7).toNat = k - 7 := by omega
          have p15 : (0 : Int) ≤ (k : Int) - 15 := by omega
          have p2 : (0 : Int) ≤ (k : Int) - 2 := by omega
          have p16 : (0 : Int) ≤ (k : Int) - 16 := by omega
          have p7 : (0 : Int) ≤ (k : Int) - 7 := by omega
          have m16 : (16 : Int) ≤ (k : Int) := by omega
          have m7 : (7 : Int) ≤ (k : Int) := by omega
          have q15 : (k : Int) - 15 < 64 := by omega
          have q2 : (k : Int) - 2 < 64 := by omega
          have q16 : (k : Int) - 16 < 64 := by omega
          have q7 : (k : Int) - 7 < 64 := by omega
          have r0 : (k : Int) < 64 := by omega
          have r1 : (0 : Int) ≤ (k : Int) := by omega
          obtain ⟨c15, c2, -, -, -⟩ := HC.out wr hB
          go_wp2_with fail
          go_quiet (fail)
          replace hZ := hZ.drewN nq
          replace hB := hB.drewN nq
          replace hb := below_drewN hb nq
          clear c15 c2
          generalize wr.drewN nq = w2 at *
          obtain ⟨-, -, c16, c7, s0⟩ := HC.out w2 hB
          have f0 := hB.frozen k
          go_wp2_with fail
          refine (rot7_any x15 _).mono ?_
          rintro e w' ⟨rfl, rfl⟩
          go_wp2_with fail
          refine (rot18_any x15 _).mono ?_
          rintro e w' ⟨rfl, rfl⟩
          go_wp2_with fail
          refine (rot17_any x2 _).mono ?_
          rintro e w' ⟨rfl, rfl⟩
          go_wp2_with fail
          refine (rot19_any x2 _).mono ?_
          rintro e w' ⟨rfl, rfl⟩
          go_wp2_with fail
          go_still_tail 15, (by kernel_rfl)
          clear m16 m7 e15 e2 e16 e7 t15 t2 t16 t7 p15 p2 p16 p7 q15 q2 q16 q7 c16 c7
          have HO : Hid (a32 (a32 (a32 x16 (x32 (x32 (rot x15 7) (rot x15 18)) (r32 x15 3))) x7) (x32 (x32 (rot x2 17) (rot x2 19)) (r32 x2 10)) = wordN x16 x15 x7 x2) := rfl
          generalize a32 (a32 (a32 x16 (x32 (x32 (rot x15 7) (rot x15 18)) (r32 x15 3))) x7) (x32 (x32 (rot x2 17) (rot x2 19)) (r32 x2 10)) = V at *
          go_wp2_with fail
          go_roundw
          case rel => exact ⟨k + 1, by omega, by omega, by go_num, (hZ.far (p := ⟨w.heap.size + 1, k, none⟩) (by simp) _).drew, by rw [HW.out, ← HO.out]; exact (HS.out w2 hB V).drew, (hb.setCell (by simp) _).drew⟩
          case measure => simp [intOf]; omega
        · obtain rfl : k = 64 := by omega
          rw [show ((64 : Nat) : Int) = 64 from rfl]
          have hfull : fillTo 64 (wordsS b 64) = wordsS b 64 := by unfold fillTo; rw [wordsS_len]; simp
          rw [hfull] at hB
          clear hfull
          have hsz := u32s_size (wordsS b 64)
          rw [wordsS_len] at hsz
          have hone : (u32s (wordsS b 64)).all (·.oneCell') = true := by unfold u32s; rw [Array.all_eq_true_iff_forall_mem]; intro v hv; simp at hv; obtain ⟨x, _, rfl⟩ := hv; rfl
          have hsz0 : (u32s (fillTo 64 [])).size = 64 := by rw [u32s_size, fillTo_len (by simp)]
          have hi : (Try.prog.info? 47).map (·.size) = some 64 := by kernel_rfl
          have HI := Lib.hid (hi.trans (congrArg some hsz.symm))
          have HS := Lib.hid (hsz.trans hsz0.symm)
          have H1 := Lib.hid hone
          clear hsz hsz0 hone hi
          generalize hCS : u32s (wordsS b 64) = CS at *
          have HCS := Lib.hid hCS
          clear hCS
          go_wp2_with (first
            | (refine wpList_load_blk rfl 47 _ rfl (w.heap.size + 1) rfl 47 CS _ hB Try.underlying47 rfl HI.out ?_)
            | (refine wpList_store_blk rfl 47 _ _ rfl w.heap.size 47 _ CS rfl rfl hZ HS.out HI.out H1.out ?_; intro w' hB' hk'))
          refine post_blk rfl rfl w.heap.size 47 CS _ rfl hB' Try.underlying47 rfl HI.out ⟨congrArg (fun z => Ending.returned (.agg z)) HCS.out.symm, ?_⟩
          exact ((Keeps.of_below (S := []) hb).trans' hk' (by simp)).below
end Go.Proofs.Ytkdkmnemmenikaa
