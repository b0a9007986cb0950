/- Walks: the reference's PutSum, Check. -/
import Derived.Test.YtbhlaafahfeacaaCellC
namespace Go.Proofs.Ytbhlaafahfeacaa
open Go.RowKit

set_option maxRecDepth 100000 in
set_option maxHeartbeats 2000000 in
theorem PutSum_any (A : Option Addr) (n c : Nat) (l : List Nat) (S : List Nat) (x : Sm) (w : World) (hO : Own w 1 (.slice A n c) n (l.map bv) S) (hn : n ≤ 1099511627776) :
    Calls Try.prog 49 #[.slice A n c, .agg (u8s x.l)] w fun e w' => ∃ (A' : Option Addr) (c' : Nat) (S' : List Nat), e = .returned (.slice A' (n + 32) c') ∧ Own w' 1 (.slice A' (n + 32) c') (n + 32) ((l ++ x.l).map bv) S' ∧ Keeps S w w' ∧ ∀ y ∈ S', y ∈ S ∨ w.heap.size ≤ y := by
  have hSlt := hO.lt
  have hB := Blk.new w 47 (u8s x.l)
  have hO1 := hO.alloc (.cells (u8s x.l) 47)
  have hk1 : Keeps S w (w.alloc (.cells (u8s x.l) 47)) := (Keeps.refl S w).alloc _
  have HX := Lib.hid x.len
  have HS := Lib.hid hSlt
  clear hO hSlt
  go_enter Try.func49, Try.ntmps49
  go_wp2_with fail
  go_loopw [0, 5] (fun v i wr => ∃ (k : Nat) (A' : Option Addr) (c' : Nat) (S' : List Nat), k ≤ 32 ∧ i = .int .i64 k ∧ v = .slice A' (n + k) c' ∧ Own wr 1 (.slice A' (n + k) c') (n + k) ((l ++ x.l.take k).map bv) S' ∧ (∀ y ∈ S', y ∈ S ∨ w.heap.size + 1 ≤ y) ∧ Keeps S w wr ∧ Blk wr w.heap.size 47 (u8s x.l)) (fun _ i _ => 32 - (intOf i).toNat)
  case atStart => exact ⟨0, A, c, S, by omega, rfl, rfl, by simpa using hO1, fun y hy => .inl hy, hk1, hB⟩
  case round =>
    clear hO1 hk1 hB
    obtain ⟨k, A', c', S', hk, rfl, rfl, hO, hS, hkp, hB⟩ := hrel
    by_cases hk32 : k < 32
    · have hcell : wr.cell? ⟨w.heap.size, k, none⟩ = some (.int .u8 ((x.l.getD k 0 : Nat) : Int)) := by rw [hB.cell, u8s_get (by rw [HX.out]; exact hk32)]
      have ht : x.l.take (k + 1) = x.l.take k ++ [x.l.getD k 0] := by
        have hl : k < x.l.length := by rw [HX.out]; exact hk32
        rw [List.take_succ_eq_append_getElem hl]; simp [List.getD, List.getElem?_eq_getElem hl]
      have HT := Lib.hid ht
      clear ht
      generalize x.l.getD k 0 = y at *
      have k32i : (k : Int) < 32 := by omega
      go_wp2_with (at_builtin; refine app_byte rfl (.tmp 10) (.tmp 14) rfl (.slice A' (n + k) c') (n + k) _ S' (by rfl) (hO.alloc _) wr.heap.size _ (by rfl) (cell_one_new _ _ _ 0 _ rfl) (by omega) ?_; intro A3 c3 w3 S3 hO3 hk3 hS3 hc3 hm3)
      rw [← map_bv_snoc, List.append_assoc, ← HT.out] at hO3
      have hBl := hB.lt
      have hHS : w.heap.size ∉ S' := fun hm => by rcases hS _ hm with h | h; have := HS.out _ h; omega; omega
      have hB3 := (hB.alloc (.cells #[.int .u8 (y : Int)] 5)).keeps hk3 hHS
      have hkp3 : Keeps S w w3 := (hkp.alloc _).trans' hk3 (fun y hy => by rcases hS y hy with h | h; exact .inl h; exact .inr (by omega))
      exact ⟨⟨k + 1, A3, c3, S3, by omega, by go_num, rfl, hO3, by
        rcases hS3 with rfl | rfl
        · exact hS
        · intro y hy; simp at hy; have := hkp.size; right; omega, hkp3, hB3⟩, by simp [intOf]; omega⟩
    · obtain rfl : k = 32 := by omega
      rw [List.take_of_length_le (by rw [HX.out]; omega)] at hO
      rw [show ((32 : Nat) : Int) = 32 from rfl]
      go_wp2_with fail
      go_ret
      exact ⟨A', c', S', rfl, hO, hkp, fun y hy => by rcases hS y hy with h | h; exact .inl h; exact .inr (by omega)⟩

set_option maxRecDepth 100000 in
set_option maxHeartbeats 1000000 in
theorem Check_any (x : Sm) (w : World) :
    Calls Try.prog 31 #[.agg (u8s x.l)] w fun e w' => e = .returned (.agg (u8s (chk x).l)) ∧ Below w.heap.size w w' := by
  have hX := (Blk.new w 47 (u8s x.l)).alloc (.cells (u8s (List.replicate 32 0)) 47)
  have hZ := Blk.newAt (w.alloc (.cells (u8s x.l) 47)) 47 (u8s (List.replicate 32 0)) (w.heap.size + 1) (by simp)
  have hb : Below w.heap.size w ((w.alloc (.cells (u8s x.l) 47)).alloc (.cells (u8s (List.replicate 32 0)) 47)) := (((Keeps.refl [] w).alloc _).alloc _).below
  have hi := Lib.hid (info47.trans (congrArg some (chk x).size.symm))
  have hix := Lib.hid (info47.trans (congrArg some x.size.symm))
  have hs : Hid ((u8s (chk x).l).size = (u8s (List.replicate 32 0)).size) := by unfold Hid; rw [(chk x).size, u8s_size]; rfl
  have ho := u8s_one (chk x).l
  have hc : Hid (shaL ([67] ++ x.l) = (chk x).l) := rfl
  generalize (chk x).l = R at *
  go_enter Try.func31, Try.ntmps31
  go_wp2_with (refine wpList_load_blk rfl 47 (.tmp 1) rfl w.heap.size rfl 47 (u8s x.l) _ (hX.alloc _) Try.underlying47 rfl hix.out ?_)
  have hO := Own.ofBlk (sz := 1) (Blk.newAt ((w.alloc (.cells (u8s x.l) 47)).alloc (.cells (u8s (List.replicate 32 0)) 47)) 5 #[.int .u8 67] (w.heap.size + 1 + 1) (by simp)) (cap := 1) rfl (by simp [maxLen])
  refine (PutSum_any (some ⟨w.heap.size + 1 + 1, 0, none⟩) 1 1 [67] [w.heap.size + 1 + 1] x _ hO (by omega)).mono ?_
  rintro e w2 ⟨A', c', S', rfl, hO2, hk2, hS2⟩
  have hZ2 := (hZ.alloc (.cells #[.int .u8 67] 5)).keeps hk2 (by simp)
  have hb2 : Below w.heap.size w w2 := (((Keeps.of_below (S := []) hb).alloc (.cells #[.int .u8 67] 5)).trans' hk2 (by simp; omega)).below
  have hrd := hO2.rd
  have hA' : A' = none → 1 + 32 = 0 := fun e => by
    subst e
    obtain ⟨ad, e, _⟩ := hO2.addr (by omega)
    cases e
  clear hO hX hZ hb hk2 hO2 hS2
  go_wp2_with fail
  refine (R1Of_any A' (1 + 32) c' ([67] ++ x.l) w2 (by simp [x.len]) hrd hA' (fun y hy => by rcases List.mem_append.1 hy with h | h; simp at h; omega; exact x.lt y h) (by omega)).mono ?_
  rintro e w3 ⟨rfl, hb3⟩
  rw [hc.out]
  have hZ3 := hZ2.below hb3
  have hbb := hb2.trans (hb3.mono hb2.size)
  clear hZ2 hb2 hb3 hrd hA' hc
  go_wp2_with (refine wpList_store_blk rfl 47 (.tmp 2) (.tmp 6) rfl (w.heap.size + 1) 47 _ (u8s R) rfl rfl hZ3 hs.out hi.out ho ?_; intro w4 hB4 hk4)
  refine post_blk rfl rfl (w.heap.size + 1) 47 (u8s R) _ rfl hB4 Try.underlying47 rfl hi.out ⟨rfl, ?_⟩
  exact ((Keeps.of_below (S := []) hbb).trans' hk4 (by simp)).below
end Go.Proofs.Ytbhlaafahfeacaa
