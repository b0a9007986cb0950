/- Walks of layer 5's other laws. -/
import Derived.Test.YtibckdnfgopghaaRollD
namespace Go.Proofs.Ytibckdnfgopghaa
open Go.RowKit

theorem slide_law (l : List Nat) (n : Nat) (hl : l.length = n + 1) (h1 : 1 ≤ n) (h2 : n ≤ 64) : slideS (ofS (l.take n)) (l[0]'(by omega)) (l[n]'(by omega)) n = ofS (l.drop 1) := by
  cases l with
  | nil => simp at hl
  | cons o t =>
    have ht : t.length = n := by simpa using hl
    have hh : holdS (n : Int) = n := by unfold holdS; rw [if_neg (by omega), if_neg (by omega)]; omega
    obtain ⟨m, rfl⟩ : ∃ m, n = m + 1 := ⟨n - 1, by omega⟩
    unfold slideS
    rw [hh, Nat.mod_eq_of_lt (ofS_lt _), List.take_succ_cons]
    simp only [List.getElem_cons_zero, List.getElem_cons_succ, List.drop_succ_cons, List.drop_zero]
    have hlen : (t.take m).length = m := by rw [List.length_take]; omega
    have e := without_cons o (t.take m)
    rw [hlen] at e
    rw [e, ← ofS_snoc]
    congr 1
    rw [← List.take_succ_eq_append_getElem (by omega)]
    exact List.take_of_length_le (by omega)

theorem lawSlides_any (A : Option Addr) (m cap : Nat) (l : List Nat) (s o i : Nat) (wd : Int) (w : World) (hl : l.length = m) (hmc : m ≤ cap) (hr : Rd w A (l.map bv)) (hA : A = none → m = 0) (hx : ∀ x ∈ l, x < 256) (hn : m ≤ maxLen)
    (hs : s < 18446744073709551616) (ho : o < 256) (hi : i < 256) :
    Calls Try.prog 5 #[.slice A m cap, .int .u64 s, .int .u8 o, .int .u8 i, .int .i64 wd] w fun e w' => e = .returned (.bool true) ∧ Below w.heap.size w w' := by
  unfold maxLen at hn
  by_cases h2 : 2 ≤ m
  · by_cases h65 : m ≤ 65
    · obtain ⟨n, rfl⟩ : ∃ n, m = n + 1 := ⟨m - 1, by omega⟩
      have hlaw := Lib.hid (slide_law l n hl (by omega) (by omega))
      have hx0 : l[0]'(by omega) < 256 := hx _ (List.getElem_mem _)
      have hxn : l[n]'(by omega) < 256 := hx _ (List.getElem_mem _)
      obtain ⟨ad, rfl, hc0⟩ := hr.at_ (j := 0) (by simpa using (by omega : 0 < l.length))
      obtain ⟨ad', hade, hcn⟩ := hr.at_ (j := n) (by simpa using (by omega : n < l.length))
      injection hade with hade
      subst hade
      have h1c : ¬ cap = 1 := by omega
      go_enter Try.func5, Try.ntmps5
      go_wp2_with (first
        | (go_at_call 14; refine (awake5_any _).mono ?_; rintro e w1 ⟨rfl, hb⟩)
        | (go_at_call 21; refine (slide_any s o i wd hs ho hi _).mono ?_; rintro e w' ⟨rfl, rfl⟩)
        | (go_at_call 22; refine (refSlide_any s o i wd hs ho hi _).mono ?_; rintro e w' ⟨rfl, rfl⟩))
      have hcell0 : w1.cell? ad = some (.int .u8 (l[0]'(by omega) : Nat)) := by
        have := hb.cell (World.block_lt_of_cell? w _ hc0)
        rw [hc0] at this
        simpa [bv, Addr.add_zero'] using this
      have hcelln : w1.cell? (ad.add n) = some (.int .u8 (l[n]'(by omega) : Nat)) := by rw [hb.cell (World.block_lt_of_cell? w _ hcn), hcn]; simp [bv]
      have hr1 := hr.below hb
      have hra := hr1.take n
      have hrb := hr1.dropAt 1
      rw [← List.map_take] at hra
      rw [← List.map_drop] at hrb
      have hla : (l.take n).length = n := by rw [List.length_take]; omega
      have hlb : (l.drop 1).length = n := by rw [List.length_drop]; omega
      have hxa : ∀ x ∈ l.take n, x < 256 := fun x h => hx x (List.mem_of_mem_take h)
      have hxb : ∀ x ∈ l.drop 1, x < 256 := fun x h => hx x (List.mem_of_mem_drop h)
      have hoa := ofS_lt (l.take n)
      clear hc0 hcn hr hr1 hx
      generalize l[0]'(by omega) = x0 at *
      generalize l[n]'(by omega) = xn at *
      have hnc : (n : Int) ≤ (cap : Int) := by omega
      have hn0 : (n : Int) < (n : Int) + 1 := by omega
      go_quiet (first
        | (go_at_call_of 15 (Value.slice (some ad) n cap); exact Calls.quiet_of_same ((Of_any (some ad) n cap (l.take n) _ hla (hra.drewN _) hxa (by simp only [maxLen]; omega)).mono fun e w' h => ⟨h.1, h.2.symm⟩))
        | (go_at_call 21; exact Calls.quiet_of_same ((slide_any (ofS (l.take n)) x0 xn n (by omega) hx0 hxn _).mono fun e w' h => ⟨h.1, h.2.symm⟩))
        | (go_at_call 15; exact Calls.quiet_of_same ((Of_any (some (ad.add 1)) n (cap - 1) (l.drop 1) _ hlb (hrb.drewN _) hxb (by simp only [maxLen]; omega)).mono fun e w' h => ⟨h.1, h.2.symm⟩)))
      go_wp2
      go_ret
      refine ⟨?_, hb.trans ((((Keeps.refl [] w1).drewN _).below).mono hb.size)⟩
      show Ending.returned (.bool _) = _
      rw [hlaw.out]
      simp
    · go_enter Try.func5, Try.ntmps5
      go_wp2_with (first
        | (go_at_call 14; refine (awake5_any _).mono ?_; rintro e w1 ⟨rfl, hb⟩)
        | (go_at_call 21; refine (slide_any s o i wd hs ho hi _).mono ?_; rintro e w' ⟨rfl, rfl⟩)
        | (go_at_call 22; refine (refSlide_any s o i wd hs ho hi _).mono ?_; rintro e w' ⟨rfl, rfl⟩))
      go_ret
      exact ⟨rfl, hb⟩
  · go_enter Try.func5, Try.ntmps5
    go_wp2_with (first
      | (go_at_call 14; refine (awake5_any _).mono ?_; rintro e w1 ⟨rfl, hb⟩)
      | (go_at_call 21; refine (slide_any s o i wd hs ho hi _).mono ?_; rintro e w' ⟨rfl, rfl⟩)
      | (go_at_call 22; refine (refSlide_any s o i wd hs ho hi _).mono ?_; rintro e w' ⟨rfl, rfl⟩))
    go_ret
    exact ⟨rfl, hb⟩

/-- Two windows, apart, made since block B. -/
def Two (w : World) (B g g2 W : Nat) (l1 : List Nat) (s1 : Nat) (l2 : List Nat) (s2 : Nat) : Prop :=
  ∃ S1 S2, RollAt w g S1 W l1 s1 ∧ RollAt w g2 S2 W l2 s2 ∧ g ≠ g2 ∧ g ∉ S2 ∧ g2 ∉ S1 ∧ (∀ x ∈ S1, x ∉ S2) ∧ B ≤ g ∧ B ≤ g2 ∧ (∀ x ∈ S1, B ≤ x) ∧ ∀ x ∈ S2, B ≤ x
theorem Two.swap {w : World} {B g g2 W s1 s2 : Nat} {l1 l2 : List Nat} (h : Two w B g g2 W l1 s1 l2 s2) : Two w B g2 g W l2 s2 l1 s1 := by
  obtain ⟨S1, S2, a, b, c, d, e, f, i, j, k, m⟩ := h
  exact ⟨S2, S1, b, a, c.symm, e, d, fun x h2 h1 => f x h1 h2, j, i, m, k⟩
theorem Keeps.belowB {S : List Nat} {B : Nat} {w w' : World} (h : Keeps S w w') (hB : B ≤ w.heap.size) (hS : ∀ x ∈ S, B ≤ x) : Below B w w' :=
  ⟨h.os, h.tape, h.output, h.size, fun k hk => h.block k (by omega) (fun hm => by have := hS k hm; omega)⟩
theorem Two.add {w : World} {B g g2 W s1 s2 c : Nat} {l1 l2 : List Nat} (h : Two w B g g2 W l1 s1 l2 s2) (hl : l1.length ≤ W) (h1 : 1 ≤ W) (hW : W ≤ 64) (hs : s1 < 2305843009213693951) (hc : c < 256) (hx : ∀ x ∈ l1, x < 256) :
    Calls Try.prog 18 #[.pointer (some ⟨g, 0, none⟩), .int .u8 c] w fun e w' => e = .returned (.int .u64 (stepS W l1 s1 c : Nat)) ∧ Two w' B g g2 W (stepL W l1 c) (stepS W l1 s1 c) l2 s2 ∧ Below B w w' := by
  obtain ⟨S1, S2, hR1, hR2, c1, c2, c3, c4, c5, c6, c7, c8⟩ := h
  refine (Add_any g W s1 c l1 S1 w hR1 hl h1 hW hs hc hx).mono ?_
  rintro e w' ⟨rfl, S1', hR1', hk, hS⟩
  have hlt := hR2.lt
  have hlt1 := hR1.lt g (by simp)
  refine ⟨rfl, ⟨S1', S2, hR1', hR2.keeps hk ?_, c1, c2, ?_, ?_, c5, c6, ?_, c8⟩, hk.belowB (by omega) ?_⟩
  · intro x hx hm
    rcases List.mem_cons.1 hx with rfl | hx
    · rcases List.mem_cons.1 hm with h | h
      · exact c1 h.symm
      · exact c3 h
    · rcases List.mem_cons.1 hm with rfl | h
      · exact c2 hx
      · exact c4 x h hx
  · intro hm
    rcases hS _ hm with h | h
    · exact c3 h
    · have := hlt g2 (by simp); omega
  · intro x hx hm
    rcases hS x hx with h | h
    · exact c4 x h hm
    · have := hlt x (by simp [hm]); omega
  · intro x hx
    rcases hS x hx with h | h
    · exact c7 x h
    · omega
  · intro x hx
    rcases List.mem_cons.1 hx with rfl | hx
    · exact c5
    · exact c7 x hx
theorem Two.drew {w : World} {B g g2 W s1 s2 : Nat} {l1 l2 : List Nat} (h : Two w B g g2 W l1 s1 l2 s2) : Two w.drew B g g2 W l1 s1 l2 s2 := h
theorem Two.add2 {w : World} {B g g2 W s1 s2 c : Nat} {l1 l2 : List Nat} (h : Two w B g g2 W l1 s1 l2 s2) (hl : l2.length ≤ W) (h1 : 1 ≤ W) (hW : W ≤ 64) (hs : s2 < 2305843009213693951) (hc : c < 256) (hx : ∀ x ∈ l2, x < 256) :
    Calls Try.prog 18 #[.pointer (some ⟨g2, 0, none⟩), .int .u8 c] w fun e w' => e = .returned (.int .u64 (stepS W l2 s2 c : Nat)) ∧ Two w' B g g2 W l1 s1 (stepL W l2 c) (stepS W l2 s2 c) ∧ Below B w w' :=
  (h.swap.add hl h1 hW hs hc hx).mono fun _ _ ⟨a, b, c⟩ => ⟨a, b.swap, c⟩
theorem Two.reset {w : World} {B g g2 W s1 s2 : Nat} {l1 l2 : List Nat} (h : Two w B g g2 W l1 s1 l2 s2) :
    Calls Try.prog 23 #[.pointer (some ⟨g, 0, none⟩)] w fun e w' => e = .returned (.tuple #[]) ∧ Two w' B g g2 W [] 0 l2 s2 ∧ Below B w w' := by
  obtain ⟨S1, S2, hR1, hR2, c1, c2, c3, c4, c5, c6, c7, c8⟩ := h
  refine (Reset_any g W s1 l1 S1 w hR1).mono ?_
  rintro e w' ⟨rfl, hR1', hk⟩
  have hlt1 := hR1.lt g (by simp)
  refine ⟨rfl, ⟨[], S2, hR1', hR2.keeps hk ?_, c1, c2, by simp, by simp, c5, c6, by simp, c8⟩, hk.belowB (by omega) ?_⟩
  · intro x hx hm
    rcases List.mem_cons.1 hx with rfl | hx
    · rcases List.mem_cons.1 hm with h | h
      · exact c1 h.symm
      · exact c3 h
    · rcases List.mem_cons.1 hm with rfl | h
      · exact c2 hx
      · exact c4 x h hx
  · intro x hx
    rcases List.mem_cons.1 hx with rfl | hx
    · exact c5
    · exact c7 x hx
theorem stepL_len (W : Nat) (l : List Nat) (c : Nat) (h : l.length ≤ W) (h1 : 1 ≤ W) : (stepL W l c).length ≤ W := by
  unfold stepL; split
  · rw [List.length_append, List.length_tail]; simp; omega
  · rw [List.length_append]; simp; omega
theorem stepL_lt (W : Nat) (l : List Nat) (c : Nat) (hl : ∀ x ∈ l, x < 256) (hc : c < 256) : ∀ x ∈ stepL W l c, x < 256 := by
  unfold stepL; intro x hx
  split at hx
  · rcases List.mem_append.1 hx with h | h
    · exact hl x (List.mem_of_mem_tail h)
    · simp at h; omega
  · rcases List.mem_append.1 hx with h | h
    · exact hl x h
    · simp at h; omega
theorem Two.blk1 {w : World} {B g g2 W s1 s2 : Nat} {l1 l2 : List Nat} (h : Two w B g g2 W l1 s1 l2 s2) : ∃ A cap, Blk w g 59 #[.int .i64 (W : Int), .slice A l1.length cap, .int .u64 (s1 : Int)] := by
  obtain ⟨S1, S2, a, _⟩ := h
  obtain ⟨A, cap, hb, _⟩ := a.blk
  exact ⟨A, cap, hb⟩

theorem lawReset_any (wd : Int) (A B : Option Addr) (m cap k cap2 : Nat) (l j : List Nat) (w : World) (hl : l.length = m) (hr : Rd w A (l.map bv)) (hx : ∀ x ∈ l, x < 256) (hn : m ≤ maxLen)
    (hl2 : j.length = k) (hr2 : Rd w B (j.map bv)) (hx2 : ∀ x ∈ j, x < 256) (hn2 : k ≤ maxLen) :
    Calls Try.prog 6 #[.int .i64 wd, .slice A m cap, .slice B k cap2] w fun e w' => e = .returned (.bool true) ∧ Below w.heap.size w w' := by
  unfold maxLen at hn hn2
  have hh := holdS_pos wd
  by_cases h100 : m ≤ 100 ∧ k ≤ 100
  · obtain ⟨h1, h2⟩ := h100
    go_enter Try.func6, Try.ntmps6
    go_wp2_with fail
    refine (awake5_any _).mono ?_
    rintro e w1 ⟨rfl, hb⟩
    go_wp2_with fail
    refine (New_any wd _).mono ?_
    rintro e w2 ⟨g, rfl, hg, hR, hb2⟩
    go_wp2_with fail
    refine (New_any wd _).mono ?_
    rintro e w3 ⟨g2, rfl, hg2, hR2, hb3⟩
    go_wp2_with fail
    have hB3 : Below w.heap.size w w3 := (hb.trans (hb2.mono (hb.size))).trans (hb3.mono (Nat.le_trans hb.size hb2.size))
    have hT : Two w3 w.heap.size g g2 (holdS wd) [] 0 [] 0 := by
      have := hb.size
      have := hb2.size
      have hl2 := hR.lt g (by simp)
      exact ⟨[], [], hR.keeps (Keeps.of_below (S := []) hb3) (by simp), hR2, by omega, by simp, by simp, by simp, by omega, by omega, by simp, by simp⟩
    clear hR hR2 hb2 hb3 hb hg hg2
    generalize hWd : holdS wd = W at *
    clear hWd
    go_loopw [9] (fun i wr => ∃ (k : Nat) (lx : List Nat) (sx : Nat), k ≤ m ∧ i = .int .i64 k ∧ Two wr w.heap.size g g2 W lx sx [] 0 ∧ lx.length ≤ W ∧ sx < 2305843009213693951 ∧ (∀ x ∈ lx, x < 256) ∧ Below w.heap.size w wr) (fun i _ => m - (intOf i).toNat)
    case atStart => exact ⟨0, [], 0, Nat.zero_le _, rfl, hT, by simp, by omega, by simp, hB3⟩
    case round =>
      clear hT hB3
      obtain ⟨q, lx, sx, hq, rfl, hT, hlx, hsx, hxx, hB⟩ := hrel
      by_cases hlt : q < m
      · obtain ⟨ad, rfl, hc⟩ := (hr.below hB).at_ (j := q) (by simpa using (by omega : q < l.length))
        have hcell : wr.cell? (ad.add q) = some (.int .u8 (l[q]'(by omega) : Nat)) := by rw [hc]; simp [bv]
        have hb := hx _ (List.getElem_mem (show q < l.length by omega))
        have hstep := hT.add (c := l[q]'(by omega)) hlx hh.1 hh.2 hsx hb hxx
        have h1' := stepL_len W lx (l[q]'(by omega)) hlx hh.1
        have h2' := stepL_lt W lx (l[q]'(by omega)) hxx hb
        have h3' := stepS_lt W lx sx (l[q]'(by omega))
        clear hc hr hT
        generalize l[q]'(by omega) = z at *
        have hq' : (q : Int) < (m : Int) := by omega
        go_wp2_with fail
        refine hstep.mono ?_
        rintro e w' ⟨rfl, hT', hB'⟩
        go_wp2_with fail
        go_roundw
        case rel => exact ⟨q + 1, _, _, by omega, by go_num, hT', h1', h3', h2', hB.trans hB'⟩
        case measure => simp [intOf]; omega
      · obtain rfl : q = m := by omega
        go_wp2_with fail
        refine hT.reset.mono ?_
        rintro e w4 ⟨rfl, hT4, hB4⟩
        have hB5 := hB.trans hB4
        clear hT hB hB4 hxx hlx hsx
        go_wp2_with fail
        go_loopw [10] (fun i wr => ∃ (k' : Nat) (lx : List Nat) (sx : Nat), k' ≤ k ∧ i = .int .i64 k' ∧ Two wr w.heap.size g g2 W lx sx lx sx ∧ lx.length ≤ W ∧ sx < 2305843009213693951 ∧ (∀ x ∈ lx, x < 256) ∧ Below w.heap.size w wr) (fun i _ => k - (intOf i).toNat)
        case atStart => exact ⟨0, [], 0, Nat.zero_le _, rfl, hT4, by simp, by omega, by simp, hB5⟩
        case round =>
          clear hT4 hB5
          obtain ⟨k', lx, sx, hq', rfl, hT, hlx, hsx, hxx, hB⟩ := hrel
          by_cases hlt2 : k' < k
          · obtain ⟨ad, rfl, hc⟩ := (hr2.below hB).at_ (j := k') (by simpa using (by omega : k' < j.length))
            have hadlt : (ad.add k').block < w.heap.size := by
              have := hr2.at_ (j := k') (by simpa using (by omega : k' < j.length))
              obtain ⟨ad', e, h⟩ := this
              injection e with e
              subst e
              exact World.block_lt_of_cell? w _ h
            have hcell : wr.cell? (ad.add k') = some (.int .u8 (j[k']'(by omega) : Nat)) := by rw [hc]; simp [bv]
            have hb := hx2 _ (List.getElem_mem (show k' < j.length by omega))
            clear hc hr2 hr
            generalize j[k']'(by omega) = z at *
            have h1' := stepL_len W lx z hlx hh.1
            have h2' := stepL_lt W lx z hxx hb
            have h3' := stepS_lt W lx sx z
            have hq'' : (k' : Int) < (k : Int) := by omega
            have hq0 : (0 : Int) ≤ (k' : Int) := by omega
            go_wp2_with fail
            go_region_held3 (fun w' => w'.cell? (ad.add k') = some (.int .u8 (z : Int))) (first | assumption | go_keep)
              (first
                | (go_at_call_of 18 (Value.pointer (some ⟨g, 0, none⟩)); refine (hT.drew.add (c := z) hlx hh.1 hh.2 hsx hb hxx).mono ?_; rintro e wA ⟨rfl, hTA, hBA⟩; have hcA : wA.cell? (ad.add k') = some (.int .u8 (z : Int)) := (hBA.cell hadlt).trans hcell)
                | (go_at_call_of 18 (Value.pointer (some ⟨g2, 0, none⟩)); refine (hTA.add2 (c := z) hlx hh.1 hh.2 hsx hb hxx).mono ?_; rintro e wB ⟨rfl, hTB, hBB⟩; have hcB : wB.cell? (ad.add k') = some (.int .u8 (z : Int)) := (hBB.cell hadlt).trans hcA; obtain ⟨A1, C1, hb1⟩ := hTB.blk1; obtain ⟨A2, C2, hb2⟩ := hTB.swap.blk1)
                | (go_at_call_of 20 (Value.pointer (some ⟨g, 0, none⟩)); refine (Len_any _ _ _ _ _ _ _ hb1).mono ?_; rintro e w' ⟨rfl, rfl⟩)
                | (go_at_call_of 20 (Value.pointer (some ⟨g2, 0, none⟩)); refine (Len_any _ _ _ _ _ _ _ hb2).mono ?_; rintro e w' ⟨rfl, rfl⟩)
                | (go_at_call_of 19 (Value.pointer (some ⟨g, 0, none⟩)); refine (Sum_any _ _ _ _ _ hb1).mono ?_; rintro e w' ⟨rfl, rfl⟩)
                | (go_at_call_of 19 (Value.pointer (some ⟨g2, 0, none⟩)); refine (Sum_any _ _ _ _ _ hb2).mono ?_; rintro e w' ⟨rfl, rfl⟩))
            have hBf : Below w.heap.size w wB := (hB.drew.trans hBA).trans hBB
            clear hcell hcA hcB
            go_wp2
            go_roundw
            case rel => exact ⟨k' + 1, _, _, by omega, by go_num, hTB, h1', h3', h2', hBf⟩
            case measure => simp [intOf]; omega
          · obtain rfl : k' = k := by omega
            go_wp2
            go_ret
            exact ⟨rfl, hB⟩
  · by_cases h1 : m ≤ 100
    · have h2 : ¬ k ≤ 100 := by omega
      go_enter Try.func6, Try.ntmps6
      go_wp2_with (go_at_call 14; refine (awake5_any _).mono ?_; rintro e w1 ⟨rfl, hb⟩)
      go_ret
      exact ⟨rfl, hb⟩
    · go_enter Try.func6, Try.ntmps6
      go_wp2_with (go_at_call 14; refine (awake5_any _).mono ?_; rintro e w1 ⟨rfl, hb⟩)
      go_ret
      exact ⟨rfl, hb⟩
end Go.Proofs.Ytibckdnfgopghaa
