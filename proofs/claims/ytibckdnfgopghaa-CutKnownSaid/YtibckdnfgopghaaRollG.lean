/- The walk of layer 5's RollKnown; RollSays in one word. -/
import Derived.Test.YtibckdnfgopghaaRollF
namespace Go.Proofs.Ytibckdnfgopghaa
open Go.RowKit

theorem lawSays_any (wd : Int) (A : Option Addr) (m cap : Nat) (l : List Nat) (w : World) (hl : l.length = m) (hmc : m ≤ cap) (hr : Rd w A (l.map bv)) (hA : A = none → m = 0) (hx : ∀ x ∈ l, x < 256) (hn : m ≤ maxLen) :
    Calls Try.prog 4 #[.int .i64 wd, .slice A m cap] w fun e w' => e = .returned (.bool true) ∧ Below w.heap.size w w' := by
  unfold maxLen at hn
  by_cases h300 : m ≤ 300
  · by_cases h1 : wd < 1
    · exact lawSays_lo wd A m cap l w hl hmc hr hA hx h300 h1
    · by_cases h64 : 64 < wd
      · exact lawSays_hi wd A m cap l w hl hmc hr hA hx h300 h64
      · obtain ⟨W, rfl⟩ := Int.eq_ofNat_of_zero_le (show 0 ≤ wd by omega)
        exact lawSays_mid W A m cap l w hl hmc hr hA hx h300 (by omega) (by omega)
  · go_enter Try.func4, Try.ntmps4
    go_wp2_with (go_at_call 14; refine (awake5_any _).mono ?_; rintro e w1 ⟨rfl, hb⟩)
    go_ret
    exact ⟨rfl, hb⟩

/-- A window that holds the blocks F, all of them made since B. -/
def Win (w : World) (B : Nat) (F : List Nat) (g W : Nat) (l : List Nat) (s : Nat) : Prop := ∃ S, F = g :: S ∧ RollAt w g S W l s ∧ ∀ x ∈ F, B ≤ x
def Disj (F G : List Nat) : Prop := ∀ x ∈ F, x ∉ G
theorem Disj.symm {F G : List Nat} (h : Disj F G) : Disj G F := fun x hg hf => h x hf hg
theorem Win.lt {w : World} {B g W s : Nat} {F l : List Nat} (h : Win w B F g W l s) : ∀ x ∈ F, x < w.heap.size := by
  obtain ⟨S, rfl, hR, _⟩ := h; exact hR.lt
theorem Win.keeps {w w' : World} {B g W s : Nat} {F G l : List Nat} (h : Win w B F g W l s) (k : Keeps G w w') (hd : Disj F G) : Win w' B F g W l s := by
  obtain ⟨S, rfl, hR, hB⟩ := h; exact ⟨S, rfl, hR.keeps k hd, hB⟩
theorem Win.blk {w : World} {B g W s : Nat} {F l : List Nat} (h : Win w B F g W l s) : ∃ A cap, Blk w g 59 #[.int .i64 (W : Int), .slice A l.length cap, .int .u64 (s : Int)] := by
  obtain ⟨S, rfl, hR, _⟩ := h; obtain ⟨A, cap, hb, _⟩ := hR.blk; exact ⟨A, cap, hb⟩
theorem Win.new {w w' : World} {B W : Nat} (hR : RollAt w' w.heap.size [] W [] 0) (hB : B ≤ w.heap.size) : Win w' B [w.heap.size] w.heap.size W [] 0 :=
  ⟨[], rfl, hR, by intro x hx; simp at hx; omega⟩
theorem Win.disj {w : World} {B g W s : Nat} {F l : List Nat} (h : Win w B F g W l s) {F' G : List Nat} (hF : ∀ x ∈ F', x ∈ G ∨ w.heap.size ≤ x) (hd : Disj F G) : Disj F F' := fun x hx hm => by
  rcases hF x hm with h1 | h1
  · exact hd x hx h1
  · have := h.lt x hx; omega
theorem Win.add {w : World} {B g W s c : Nat} {F l : List Nat} (h : Win w B F g W l s) (hl : l.length ≤ W) (h1 : 1 ≤ W) (hW : W ≤ 64) (hs : s < 2305843009213693951) (hc : c < 256) (hx : ∀ x ∈ l, x < 256) (hB : B ≤ w.heap.size) :
    Calls Try.prog 18 #[.pointer (some ⟨g, 0, none⟩), .int .u8 c] w fun e w' => e = .returned (.int .u64 (stepS W l s c : Nat)) ∧
      ∃ F', Win w' B F' g W (stepL W l c) (stepS W l s c) ∧ Keeps F w w' ∧ (∀ x ∈ F', x ∈ F ∨ w.heap.size ≤ x) ∧ Below B w w' := by
  obtain ⟨S, rfl, hR, hF⟩ := h
  refine (Add_any g W s c l S w hR hl h1 hW hs hc hx).mono ?_
  rintro e w' ⟨rfl, S', hR', hk, hS⟩
  refine ⟨rfl, g :: S', ⟨S', rfl, hR', ?_⟩, hk, ?_, hk.belowB hB hF⟩
  · intro x hx
    rcases List.mem_cons.1 hx with rfl | hx
    · exact hF _ (by simp)
    · rcases hS x hx with h | h
      · exact hF x (by simp [h])
      · omega
  · intro x hx
    rcases List.mem_cons.1 hx with rfl | hx
    · exact .inl (by simp)
    · rcases hS x hx with h | h
      · exact .inl (by simp [h])
      · exact .inr h
theorem Win.reset {w : World} {B g W s : Nat} {F l : List Nat} (h : Win w B F g W l s) (hB : B ≤ w.heap.size) :
    Calls Try.prog 23 #[.pointer (some ⟨g, 0, none⟩)] w fun e w' => e = .returned (.tuple #[]) ∧ Win w' B [g] g W [] 0 ∧ Keeps F w w' ∧ Below B w w' := by
  obtain ⟨S, rfl, hR, hF⟩ := h
  refine (Reset_any g W s l S w hR).mono ?_
  rintro e w' ⟨rfl, hR', hk⟩
  exact ⟨rfl, ⟨[], rfl, hR', by intro x hx; simp at hx; subst hx; exact hF _ (by simp)⟩, hk, hk.belowB hB hF⟩

set_option maxRecDepth 100000 in
set_option maxHeartbeats 800000 in
theorem lawKnown_any (w : World) :
    Calls Try.prog 7 #[] w fun e w' => e = .returned (.bool true) ∧ Below w.heap.size w w' := by
  go_enter Try.func7, Try.ntmps7
  go_wp2_with fail
  refine (awake5_any _).mono ?_
  rintro e w1 ⟨rfl, hb1⟩
  go_wp2_with fail
  refine (New_any 2 _).mono ?_
  rintro e w2 ⟨g1, rfl, rfl, hR1, hb2⟩
  go_wp2_with fail
  refine (New_any (-1) _).mono ?_
  rintro e w3 ⟨g2, rfl, rfl, hR2, hb3⟩
  go_wp2_with fail
  refine (New_any 1000 _).mono ?_
  rintro e w4 ⟨g3, rfl, rfl, hR3, hb4⟩
  have hB2 : Below w.heap.size w w2 := hb1.trans (hb2.mono hb1.size)
  have hB3 : Below w.heap.size w w3 := hB2.trans (hb3.mono hB2.size)
  have hB4 : Below w.heap.size w w4 := hB3.trans (hb4.mono hB3.size)
  have h12 : w1.heap.size < w2.heap.size := hR1.lt _ (by simp)
  have h23 : w2.heap.size < w3.heap.size := hR2.lt _ (by simp)
  have W1 := ((Win.new hR1 hb1.size).keeps (Keeps.of_below (S := []) hb3) (by intro x _; simp)).keeps (Keeps.of_below (S := []) hb4) (by intro x _; simp)
  have W2 := (Win.new hR2 hB2.size).keeps (Keeps.of_below (S := []) hb4) (by intro x _; simp)
  have W3 := Win.new hR3 hB3.size
  have d12 : Disj [w1.heap.size] [w2.heap.size] := by intro x hx; simp at hx ⊢; omega
  have d13 : Disj [w1.heap.size] [w3.heap.size] := by intro x hx; simp at hx ⊢; omega
  have d23 : Disj [w2.heap.size] [w3.heap.size] := by intro x hx; simp at hx ⊢; omega
  rw [show holdS 2 = 2 from rfl] at W1
  rw [show holdS (-1) = 1 from rfl] at W2
  rw [show holdS 1000 = 64 from rfl] at W3
  have hsz := hB4.size
  clear hR1 hR2 hR3 hb1 hb2 hb3 hb4 hB2 hB3 h12 h23
  generalize w1.heap.size = g1 at *
  generalize w2.heap.size = g2 at *
  generalize w3.heap.size = g3 at *
  go_wp2_with fail
  refine (W1.add (c := 0) (by decide) (by decide) (by decide) (by decide) (by decide) (by decide) hsz).mono ?_
  rintro e w5 ⟨rfl, F1, V1, k1, h1, b1⟩
  rw [show stepS 2 [] 0 0 = 1 from rfl, show stepL 2 [] 0 = [0] from rfl] at V1
  rw [show stepS 2 [] 0 0 = 1 from rfl]
  have e12 := (W2.disj h1 d12.symm).symm
  have e13 := (W3.disj h1 d13.symm).symm
  replace W2 := W2.keeps k1 d12.symm
  replace W3 := W3.keeps k1 d13.symm
  have B5 := hB4.trans b1
  have z5 := B5.size
  clear W1 k1 h1 b1 d12 d13 hB4 hsz
  go_wp2_with fail
  refine (V1.add (c := 1) (by decide) (by decide) (by decide) (by decide) (by decide) (by decide) z5).mono ?_
  rintro e w6 ⟨rfl, F2, U1, k1, h1, b1⟩
  rw [show stepS 2 [0] 1 1 = 259 from rfl, show stepL 2 [0] 1 = [0, 1] from rfl] at U1
  rw [show stepS 2 [0] 1 1 = 259 from rfl]
  have f12 := (W2.disj h1 e12.symm).symm
  have f13 := (W3.disj h1 e13.symm).symm
  replace W2 := W2.keeps k1 e12.symm
  replace W3 := W3.keeps k1 e13.symm
  have B6 := B5.trans b1
  have z6 := B6.size
  clear V1 k1 h1 b1 e12 e13 B5 z5
  go_wp2_with fail
  refine (U1.add (c := 2) (by decide) (by decide) (by decide) (by decide) (by decide) (by decide) z6).mono ?_
  rintro e w7 ⟨rfl, F3, T1, k1, h1, b1⟩
  rw [show stepS 2 [0, 1] 259 2 = 517 from by decide +kernel, show stepL 2 [0, 1] 2 = [1, 2] from rfl] at T1
  rw [show stepS 2 [0, 1] 259 2 = 517 from by decide +kernel]
  have g12 := (W2.disj h1 f12.symm).symm
  have g13 := (W3.disj h1 f13.symm).symm
  replace W2 := W2.keeps k1 f12.symm
  replace W3 := W3.keeps k1 f13.symm
  have B7 := B6.trans b1
  have z7 := B7.size
  clear U1 k1 h1 b1 f12 f13 B6 z6
  go_wp2_with fail
  refine (W2.add (c := 5) (by decide) (by decide) (by decide) (by decide) (by decide) (by decide) z7).mono ?_
  rintro e w8 ⟨rfl, G1, V2, k1, h1, b1⟩
  rw [show stepS 1 [] 0 5 = 6 from rfl, show stepL 1 [] 5 = [5] from rfl] at V2
  rw [show stepS 1 [] 0 5 = 6 from rfl]
  have h12 := T1.disj h1 g12
  have h23 := (W3.disj h1 d23.symm).symm
  replace T1 := T1.keeps k1 g12
  replace W3 := W3.keeps k1 d23.symm
  have B8 := B7.trans b1
  have z8 := B8.size
  clear W2 k1 h1 b1 g12 d23 B7 z7
  go_wp2_with fail
  refine (V2.add (c := 6) (by decide) (by decide) (by decide) (by decide) (by decide) (by decide) z8).mono ?_
  rintro e w9 ⟨rfl, G2, U2, k1, h1, b1⟩
  rw [show stepS 1 [5] 6 6 = 7 from by decide +kernel, show stepL 1 [5] 6 = [6] from rfl] at U2
  rw [show stepS 1 [5] 6 6 = 7 from by decide +kernel]
  have i23 := (W3.disj h1 h23.symm).symm
  replace T1 := T1.keeps k1 h12
  replace W3 := W3.keeps k1 h23.symm
  have B9 := B8.trans b1
  have z9 := B9.size
  clear V2 k1 h1 b1 h12 h23 B8 z8 U2 i23
  go_wp2_with fail
  go_loopw [9] (fun i wr => ∃ (k : Nat) (F : List Nat) (lx : List Nat) (sx : Nat), k ≤ 100 ∧ i = .int .i64 k ∧ Win wr w.heap.size F g3 64 lx sx ∧ lx.length = min k 64 ∧ sx < 2305843009213693951 ∧ (∀ x ∈ lx, x < 256) ∧ Win wr w.heap.size F3 g1 2 [1, 2] 517 ∧ Disj F3 F ∧ Below w.heap.size w wr) (fun i _ => 100 - (intOf i).toNat)
  case atStart => exact ⟨0, _, [], 0, by omega, rfl, W3, rfl, by omega, by simp, T1, g13, B9⟩
  case round =>
    clear T1 W3 g13 B9 z9
    obtain ⟨k, F, lx, sx, hk, rfl, V, hlx, hsx, hxx, T, D, B⟩ := hrel
    have hz := B.size
    by_cases hlt : k < 100
    · have hk8 : (k : Int) < 256 := by omega
      have K0 := Lib.hid hsx
      have K1 := Lib.hid hlx
      have hl64 : lx.length ≤ 64 := by omega
      have hk64 : Hid (lx.length = 64 ∨ lx.length = k) := by unfold Hid; omega
      clear hsx hlx
      go_wp2_with fail
      refine (V.add (c := k) hl64 (by decide) (by decide) K0.out (by omega) hxx hz).mono ?_
      rintro e w' ⟨rfl, F', V', k1, h1, b1⟩
      go_wp2_with fail
      go_roundw
      case rel =>
        refine ⟨k + 1, F', _, _, by omega, by go_num, V', ?_, stepS_lt _ _ _ _, stepL_lt _ _ _ hxx (by omega), T.keeps k1 D, T.disj h1 D, B.trans b1⟩
        have hlx := K1.out
        unfold stepL
        split
        · rw [List.length_append, List.length_tail]; simp; omega
        · rw [List.length_append]; simp; omega
      case measure => simp [intOf]; omega
    · obtain rfl : k = 100 := by omega
      have hl64 : lx.length = 64 := by omega
      clear hlt hk
      obtain ⟨A1, C1, hb1⟩ := T.blk
      go_wp2_with (first
        | (go_at_call 19; refine (Sum_any _ _ _ _ _ hb1).mono ?_; rintro e w' ⟨rfl, rfl⟩)
        | (go_at_call 20; refine (Len_any _ _ _ _ _ _ _ hb1).mono ?_; rintro e w' ⟨rfl, rfl⟩))
      refine (T.reset hz).mono ?_
      rintro e w10 ⟨rfl, T', k1, b1⟩
      have V' := V.keeps k1 D.symm
      obtain ⟨A2, C2, hb2⟩ := T'.blk
      obtain ⟨A3, C3, hb3⟩ := V'.blk
      rw [hl64] at hb3
      have hBf := B.trans b1
      have e1 : slideS 259 0 2 2 = 517 := by decide +kernel
      have e2 : slideS 98 97 98 0 = 99 := by decide +kernel
      have E1 := Lib.hid e1
      have E2 := Lib.hid e2
      clear hb1 T V hsx e1 e2 hlx hxx
      go_wp2_with (first
        | (go_at_call 19; refine (Sum_any _ _ _ _ _ hb2).mono ?_; rintro e w' ⟨rfl, rfl⟩)
        | (go_at_call_of 20 (Value.pointer (some ⟨g1, 0, none⟩)); refine (Len_any _ _ _ _ _ _ _ hb2).mono ?_; rintro e w' ⟨rfl, rfl⟩)
        | (go_at_call_of 20 (Value.pointer (some ⟨g3, 0, none⟩)); refine (Len_any _ _ _ _ _ _ _ hb3).mono ?_; rintro e w' ⟨rfl, rfl⟩)
        | (go_at_call 15; refine (Of_any none 0 0 [] _ rfl (Rd.nil _ _) (by simp) (by simp [maxLen])).mono ?_; rintro e w' ⟨rfl, rfl⟩; rw [show ofS [] = 0 from rfl]))
      refine (slide_any 259 0 2 2 (by decide) (by decide) (by decide) _).mono ?_
      rintro e w' ⟨rfl, rfl⟩
      rw [E1.out]
      go_wp2_with fail
      refine (slide_any 98 97 98 0 (by decide) (by decide) (by decide) _).mono ?_
      rintro e w' ⟨rfl, rfl⟩
      rw [E2.out]
      go_wp2_with fail
      go_ret
      exact ⟨rfl, hBf⟩
end Go.Proofs.Ytibckdnfgopghaa
