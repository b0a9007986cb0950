/- Layer 6: the walk of CutPlain; its plain law. -/
import Derived.Test.YtibckdnfgopghaaCutH
import Derived.Test.YtibckdnfgopghaaStr
namespace Go.Proofs.Ytibckdnfgopghaa
open Go.RowKit

theorem ends_sizes (f : List Nat → Nat) (mn mx : Nat) (hf : ∀ b : List Nat, b.length ≠ 0 → 1 ≤ f b ∧ f b ≤ b.length) (h1 : ∀ b : List Nat, f b ≤ mx ∧ (mn ≤ f b ∨ f b = b.length)) (b : List Nat) :
    ∀ i, i < (ends f 0 b).length → (ends f 0 b).getD i 0 ≤ (0 :: ends f 0 b).getD i 0 + mx ∧ (i + 1 < (ends f 0 b).length → (0 :: ends f 0 b).getD i 0 + mn ≤ (ends f 0 b).getD i 0) := by
  refine ends_ind f hf (fun s b E => ∀ i, i < E.length → E.getD i 0 ≤ (s :: E).getD i 0 + mx ∧ (i + 1 < E.length → (s :: E).getD i 0 + mn ≤ E.getD i 0)) ?_ ?_ b.length 0 b (Nat.le_refl _)
  · intro s i hi; simp at hi
  · intro s b hb ih i hi
    have h2 := hf b hb
    have h3 := h1 b
    cases i with
    | zero =>
      simp only [List.getD_cons_zero, List.length_cons]
      refine ⟨by omega, fun h => ?_⟩
      have : ends f (s + f b) (b.drop (f b)) ≠ [] := fun e => by rw [e] at h; simp at h
      have hd : (b.drop (f b)).length ≠ 0 := fun e => this (by rw [List.eq_nil_of_length_eq_zero e]; rfl)
      rw [List.length_drop] at hd
      omega
    | succ i =>
      have := ih i (by simpa using hi)
      simp only [List.getD_cons_succ, List.length_cons]
      refine ⟨this.1, fun h => this.2 (by omega)⟩
theorem endsR_sizes (mn mx wd : Nat) (mask want : Nat) (b : List Nat) (hg : goodS mn mx wd = true) :
    ∀ i, i < (endsR mn mx wd mask want b).length → (endsR mn mx wd mask want b).getD i 0 ≤ (0 :: endsR mn mx wd mask want b).getD i 0 + mx ∧ (i + 1 < (endsR mn mx wd mask want b).length → (0 :: endsR mn mx wd mask want b).getD i 0 + mn ≤ (endsR mn mx wd mask want b).getD i 0) := by
  have ⟨g1, g2, g3, g4, g5⟩ := good_nat hg
  have := ends_sizes (nextR mn mx wd mask want) mn mx (nextR_f mask want hg) (fun b => by
    have e1 := nextS_bounds mn mx wd mask want b (by omega) g4
    unfold nextR
    rw [if_pos hg]
    simp only [Int.toNat_natCast]
    omega) b
  unfold endsR
  rw [if_pos hg]
  exact this

set_option maxHeartbeats 1600000 in
set_option maxRecDepth 100000 in
theorem lawPlain_go (A : Option Addr) (n c : Nat) (b : List Nat) (w : World) (hl : b.length = n) (hmc : n ≤ c) (hr : Rd w A (b.map bv)) (hA : A = none → n = 0) (hx : ∀ x ∈ b, x < 256) (h3 : n ≤ 3000) :
    Calls Try.prog 10 #[.slice A n c] w fun e w' => e = .returned (.bool true) ∧ Below w.heap.size w w' := by
  have hg : goodS (16 : Nat) (128 : Nat) (8 : Nat) = true := by decide
  have hfw := endsR_few 16 128 8 31 7 b hg
  have hbd := endsR_bounds 16 128 8 31 7 b
  have hpa := Parts_any 16 128 8 31 7 A n c b
  have hsz := endsR_sizes 16 128 8 31 7 b hg
  simp only [Int.cast_ofNat_Int] at hfw hsz
  rw [hl] at hfw
  generalize hEE : endsR 16 128 8 31 7 b = E at *
  have hix := ends_index hbd
  go_enter Try.func10, Try.ntmps10
  go_wp2_with fail
  refine (awake6_any _).mono ?_
  rintro e w1 ⟨rfl, hb1⟩
  go_wp2_with fail
  refine (cutPlain_any _).mono ?_
  rintro e w2 ⟨rfl, hb2⟩
  have hB2 := hb1.trans (hb2.mono hb1.size)
  go_wp2_with fail
  refine (hpa w2 hl hmc (hr.below hB2) hA hx (by omega) (by omega)).mono ?_
  rintro e w3 ⟨v, S, vs, rfl, hseg, hP, hS, hb3⟩
  obtain ⟨eA, eC, rfl, he1, he2, heR, heB, heN⟩ := hseg.form
  have hB3 := hB2.trans (hb3.mono hB2.size)
  go_wp2_with fail
  go_loopw [4, 5] (fun o i wr => ∃ (k : Nat) (S2 : List Nat), k ≤ E.length ∧ i = .int .i64 k ∧ Seg wr 5 1 o ((0 :: E).getD k 0) ((b.take ((0 :: E).getD k 0)).map bv) S2 ∧ (∀ x ∈ S2, w3.heap.size ≤ x) ∧ Below w3.heap.size w3 wr) (fun _ i _ => E.length - (intOf i).toNat)
  case atStart => exact ⟨0, [], Nat.zero_le _, rfl, Seg.nil _ _ _, by simp, Below.refl _ _⟩
  case round =>
    obtain ⟨k, S2, hk, rfl, hO, hS2, hB4⟩ := hrel
    obtain ⟨oA, oC, rfl, ho1, ho2, hoR, hoB, hoN⟩ := hO.form
    by_cases hlt : k < E.length
    · obtain ⟨b1, b2⟩ := hbd k hlt
      obtain ⟨z1, z2⟩ := hsz k hlt
      have hpk : (partsS b E)[k]? = some (pieceS b E k) := by unfold partsS; rw [List.getElem?_map, List.getElem?_range hlt]; rfl
      obtain ⟨pA, pC, hv, hp1, hp2, hpR, hpB, hpN⟩ := hP.2 k _ hpk
      obtain ⟨ea, rfl, hc⟩ := heR k _ hv
      have hpl : (pieceS b E k).length = E.getD k 0 - (0 :: E).getD k 0 := by unfold pieceS; rw [List.length_drop, List.length_take]; omega
      have hcat : (b.take ((0 :: E).getD k 0)).map bv ++ (pieceS b E k).map bv = (b.take (E.getD k 0)).map bv := by
        rw [← List.map_append]
        congr 1
        unfold pieceS
        have e : b.take ((0 :: E).getD k 0) = (b.take (E.getD k 0)).take ((0 :: E).getD k 0) := by rw [List.take_take]; congr 1; omega
        rw [e, List.take_append_drop]
      have hc4 : wr.cell? (ea.add k) = some (.slice pA (pieceS b E k).length pC) := (hB4.cell (World.block_lt_of_cell? w3 _ hc)).trans hc
      have hnext : (0 :: E).getD (k + 1) 0 = E.getD k 0 := List.getD_cons_succ
      rw [hpl] at hc4 hp1 hpN
      replace hpR := hpR.below hB4
      have hL : E.length ≤ 3000 := by
        have := hix E.length (Nat.le_refl _)
        rw [hfw.2.1] at this
        omega
      generalize (0 :: E).getD k 0 = x at *
      generalize E.getD k 0 = y at *
      generalize pieceS b E k = p at *
      obtain ⟨d, rfl⟩ : ∃ d, y = x + d := ⟨y - x, by omega⟩
      rw [Nat.add_sub_cancel_left] at hpl hc4 hp1 hpN
      have hd1 : 1 ≤ d := by omega
      have hd2 : d ≤ 128 := by omega
      clear hc hP hpa hseg heR hb1 hb2 hb3 hS he1 hEE hix hfw
      have hcat' := Lib.hid hcat
      clear hcat
      have hx3 : x + d ≤ 3000 := by omega
      by_cases hlast : k + 1 < E.length
      · have hd3 : 16 ≤ d := by have := z2 hlast; omega
        go_wp2_with (at_builtin; refine wpList_append_seg _ rfl (.tmp 49) (.tmp 53) 22 rfl 5 (.int .u8 0) 1 1 Try.underlying22 info_u8 rfl (.slice oA x oC) x ((b.take x).map bv) S2 rfl hO pA d pC (p.map bv) rfl (by simp [hpl]) hpR hpN (by simp [bv, Value.oneCell']) (by simp only [maxLen]; omega) (by omega) ?_)
        intro v' w4 S' hseg hK hSS
        have hB5 : Below w3.heap.size w3 w4 := by
          have h1 : Keeps S2 w3 wr := Keeps.of_below hB4
          exact (h1.trans hK).belowB (Nat.le_refl _) hS2
        have hS' : ∀ x ∈ S', w3.heap.size ≤ x := by
          rcases hSS with rfl | rfl
          · exact hS2
          · have := hB4.size; intro x hx; simp at hx; omega
        have hcat := hcat'.out
        rw [List.map_take, List.map_take] at hcat
        rw [hcat] at hseg
        obtain ⟨A', C', rfl, _⟩ := hseg.form
        go_wp2_with fail
        go_roundw
        case rel =>
          refine ⟨k + 1, S', by omega, by go_num, ?_, hS', hB5⟩
          rw [hnext, List.map_take]; exact hseg
        case measure => simp [intOf]; omega
      · go_wp2_with (at_builtin; refine wpList_append_seg _ rfl (.tmp 49) (.tmp 53) 22 rfl 5 (.int .u8 0) 1 1 Try.underlying22 info_u8 rfl (.slice oA x oC) x ((b.take x).map bv) S2 rfl hO pA d pC (p.map bv) rfl (by simp [hpl]) hpR hpN (by simp [bv, Value.oneCell']) (by simp only [maxLen]; omega) (by omega) ?_)
        intro v' w4 S' hseg hK hSS
        have hB5 : Below w3.heap.size w3 w4 := by
          have h1 : Keeps S2 w3 wr := Keeps.of_below hB4
          exact (h1.trans hK).belowB (Nat.le_refl _) hS2
        have hS' : ∀ x ∈ S', w3.heap.size ≤ x := by
          rcases hSS with rfl | rfl
          · exact hS2
          · have := hB4.size; intro x hx; simp at hx; omega
        have hcat := hcat'.out
        rw [List.map_take, List.map_take] at hcat
        rw [hcat] at hseg
        obtain ⟨A', C', rfl, _⟩ := hseg.form
        go_wp2_with fail
        go_roundw
        case rel =>
          refine ⟨k + 1, S', by omega, by go_num, ?_, hS', hB5⟩
          rw [hnext, List.map_take]; exact hseg
        case measure => simp [intOf]; omega
    · obtain rfl : k = E.length := by omega
      rw [hfw.2.1] at *
      rw [List.take_of_length_le (by omega)] at hO hoR
      clear hP hpa hseg heR hb1 hb2 hb3 hS he1 hEE hix hfw
      have hBf := hB3.trans (hB4.mono hB3.size)
      have hs1 := run_string_rd (P := Try.prog) wr 22 9 5 Try.underlying22 Try.underlying5 Try.underlying9 oA n oC b hl hoR (fun e => (hoN e).1)
      have hs2 := run_string_rd (P := Try.prog) wr 22 9 5 Try.underlying22 Try.underlying5 Try.underlying9 A n c b hl (hr.below hBf) hA
      go_wp2_with fail
      go_ret
      exact ⟨rfl, hBf⟩

theorem lawPlain_any (A : Option Addr) (n c : Nat) (b : List Nat) (w : World) (hl : b.length = n) (hmc : n ≤ c) (hr : Rd w A (b.map bv)) (hA : A = none → n = 0) (hx : ∀ x ∈ b, x < 256) (hn : n ≤ maxLen) :
    Calls Try.prog 10 #[.slice A n c] w fun e w' => e = .returned (.bool true) ∧ Below w.heap.size w w' := by
  unfold maxLen at hn
  by_cases h3 : n ≤ 3000
  · exact lawPlain_go A n c b w hl hmc hr hA hx h3
  · go_enter Try.func10, Try.ntmps10
    go_wp2_with (go_at_call 24; refine (awake6_any _).mono ?_; rintro e w1 ⟨rfl, hb1⟩)
    go_ret
    exact ⟨rfl, hb1⟩
end Go.Proofs.Ytibckdnfgopghaa
