/- Walks: place.Good, place.Of. -/
import Derived.Test.YtbhlaafahfeacaaCellC
namespace Go.Proofs.Ytbhlaafahfeacaa
open Go.RowKit

def goodN (n : Int) : Bool := decide (3 ≤ n ∧ n ≤ 1024 ∧ n % 3 = 0)
theorem Good_any (n : Int) (w : World) :
    Calls Try.prog 35 #[.int .i64 n] w fun e w' => e = .returned (.bool (goodN n)) ∧ w = w' := by
  by_cases h1 : 3 ≤ n
  · by_cases h2 : n ≤ 1024
    · have e : goodN n = (n % 3 == 0) := by unfold goodN; rw [Bool.eq_iff_iff, decide_eq_true_eq, beq_iff_eq]; exact ⟨fun h => h.2.2, fun h => ⟨h1, h2, h⟩⟩
      rw [e]
      go_enter Try.func35, Try.ntmps35
      go_wp2
      go_ret
      exact ⟨rfl, rfl⟩
    · have e : goodN n = false := by unfold goodN; exact decide_eq_false (fun h => h2 h.2.1)
      rw [e]
      have h2' : decide (n ≤ 1024) = false := decide_eq_false h2
      go_enter Try.func35, Try.ntmps35
      go_wp2
      go_ret
      exact ⟨rfl, rfl⟩
  · have e : goodN n = false := by unfold goodN; exact decide_eq_false (fun h => h1 h.1)
    rw [e]
    have h1' : decide (3 ≤ n) = false := decide_eq_false h1
    go_enter Try.func35, Try.ntmps35
    go_wp2
    go_ret
    exact ⟨rfl, rfl⟩

/-- The first k bytes of a number, the least first. -/
def leB (s : Nat) : Nat → List Nat
  | 0 => []
  | k + 1 => leB s k ++ [s / 256 ^ k % 256]
theorem leB_len (s : Nat) : ∀ k, (leB s k).length = k
  | 0 => rfl
  | k + 1 => by rw [leB, List.length_append, leB_len s k]; rfl
theorem leB_lt (s : Nat) : ∀ k, ∀ x ∈ leB s k, x < 256
  | 0, x, h => by simp [leB] at h
  | k + 1, x, h => by
    rw [leB, List.mem_append] at h
    rcases h with h | h
    · exact leB_lt s k x h
    · simp at h; omega
/-- What a sum's places are reckoned of. -/
def placeS (seed : Nat) (x : Sm) : Sm := shaSm ((80 :: leB seed 8) ++ x.l)
/-- The first k places. -/
def placesL (s : Sm) (p : Nat) : Nat → List Int
  | 0 => []
  | k + 1 => placesL s p k ++ [((k * p + wordL s.l (k : Int) % p : Nat) : Int)]
theorem placesL_len (s : Sm) (p : Nat) : ∀ k, (placesL s p k).length = k
  | 0 => rfl
  | k + 1 => by rw [placesL, List.length_append, placesL_len s p k]; rfl
/-- All places: none, where there may not be so many cells. -/
def places (seed : Nat) (n : Int) (x : Sm) : List Int := if goodN n then placesL (placeS seed x) (n / 3).toNat 3 else []
theorem info_int : (Try.prog.info? 3).map (fun i => (i.zero, i.size, i.bytes)) = some (some (.int .i64 0), 1, 8) := by kernel_rfl
/-- One whole number that lies in a new block is appended. -/
theorem app_int {ops : Array Oper} {rest : List Oper} {o : Oper} {a : Act} {w : World} {Q : Exit → Act → World → Prop} (hgd : o.guard = none) (s x : Operand)
    (ho : o.op = .call { callee := .builtin .append, args := #[s, x], argTypes := #[23, 23] })
    (v : Value) (n : Nat) (xs : List Value) (S : List Nat) (hs : a.eval s = v) (hseg : Own w 1 v n xs S)
    (g : Nat) (u : Int) (hx : a.eval x = .slice (some ⟨g, 0, none⟩) 1 1) (hc : w.cell? ⟨g, 0, none⟩ = some (.int .i64 u)) (hn : n + 1 ≤ 1099511627776)
    (h : ∀ A' c' w' S', Own w' 1 (.slice A' (n + 1) c') (n + 1) (xs ++ [.int .i64 u]) S' → Keeps S w w' → (S' = S ∨ S' = [w.heap.size]) → n + 1 ≤ c' → c' ≤ maxLen → wpList Try.prog ops Q rest (a.put o.dst (.slice A' (n + 1) c')) w') :
    wpList Try.prog ops Q (o :: rest) a w := by
  refine wpList_append_ownc w hgd s x 23 ho 3 (.int .i64 0) 1 8 Try.underlying23 info_int rfl v n xs S hs hseg (some ⟨g, 0, none⟩) 1 1 [.int .i64 u] hx rfl ?_ (by simp) (by simp [Value.oneCell']) (by unfold maxLen; omega) (by omega) ?_
  · intro j z hz
    match j, hz with
    | 0, hz =>
      simp only [List.getElem?_cons_zero, Option.some.injEq] at hz
      subst hz
      exact ⟨_, rfl, by rw [Addr.add_lit]; exact hc⟩
  · intro v' w' S' h1 h2 h3
    obtain ⟨A', c', rfl, h4, h5, _⟩ := h1.form
    exact h A' c' w' S' h1 h2 h3 h4 h5

set_option maxRecDepth 100000 in
set_option maxHeartbeats 4000000 in
theorem PlaceOf_any (seed : Nat) (n : Int) (x : Sm) (w : World) (hsd : seed < 18446744073709551616) :
    Calls Try.prog 36 #[.int .u64 (seed : Int), .int .i64 n, .agg (u8s x.l)] w fun e w' => ∃ (A : Option Addr) (c : Nat) (S : List Nat), e = .returned (.slice A (places seed n x).length c) ∧ Own w' 1 (.slice A (places seed n x).length c) (places seed n x).length ((places seed n x).map (Value.int .i64)) S ∧ (∀ y ∈ S, w.heap.size ≤ y) ∧ Below w.heap.size w w' := by
  by_cases hg : goodN n = true
  · have hpl : places seed n x = placesL (placeS seed x) (n / 3).toNat 3 := by unfold places; rw [if_pos hg]
    rw [hpl, placesL_len]
    have hgd := Good_any n
    rw [hg] at hgd
    have hn : 3 ≤ n ∧ n ≤ 1024 ∧ n % 3 = 0 := of_decide_eq_true hg
    have HG := Lib.hid hgd
    have hX := Blk.new w 27 (u8s x.l)
    have hb : Below w.heap.size w (w.alloc (.cells (u8s x.l) 27)) := ((Keeps.refl [] w).alloc _).below
    have hp0 : (n / 3).toNat = n.toNat / 3 := by omega
    have hp1 : n / 3 = ((n.toNat / 3 : Nat) : Int) := by omega
    have hp2 : 1 ≤ n.toNat / 3 ∧ n.toNat / 3 ≤ 341 := by omega
    have HP1 := Lib.hid hp1
    rw [hp0]
    clear hpl hg hgd hp0 hp1
    generalize n.toNat / 3 = p at *
    go_enter Try.func36, Try.ntmps36
    go_wp2_with fail
    refine (HG.out _).mono ?_
    rintro e w1 ⟨rfl, rfl⟩
    go_wp2_with fail
    have hB0 := hX.alloc (.cells #[.int .u8 80] 5)
    have hO0 : Own ((w.alloc (.cells (u8s x.l) 27)).alloc (.cells #[.int .u8 80] 5)) 1 (.slice (some ⟨w.heap.size + 1, 0, none⟩) 1 1) 1 ((80 :: leB seed 0).map bv) [w.heap.size + 1] :=
      Own.ofBlk (sz := 1) (Blk.newAt (w.alloc (.cells (u8s x.l) 27)) 5 #[.int .u8 80] (w.heap.size + 1) (by simp)) (cap := 1) rfl (by simp [maxLen])
    have hb0 : Below w.heap.size w ((w.alloc (.cells (u8s x.l) 27)).alloc (.cells #[.int .u8 80] 5)) := ((Keeps.of_below (S := []) hb).alloc _).below
    clear hX hb
    go_loopw [0, 7, 16] (fun sv v i wr => ∃ (k t : Nat) (A : Option Addr) (c : Nat) (S : List Nat), k ≤ 8 ∧ t = seed / 256 ^ k ∧ t < 18446744073709551616 ∧ sv = .int .u64 (t : Int) ∧ i = .int .i64 k ∧ v = .slice A (1 + k) c ∧ Own wr 1 (.slice A (1 + k) c) (1 + k) ((80 :: leB seed k).map bv) S ∧ (∀ y ∈ S, w.heap.size + 1 ≤ y) ∧ Blk wr w.heap.size 27 (u8s x.l) ∧ Below w.heap.size w wr) (fun _ _ i _ => 8 - (intOf i).toNat)
    case atStart => exact ⟨0, seed, _, 1, _, by omega, by simp, hsd, rfl, rfl, rfl, hO0, by simp, hB0, hb0⟩
    case round =>
      clear hO0 hB0 hb0 hsd
      obtain ⟨k, t, A, c, S, hk, ht, htl, rfl, rfl, rfl, hO, hS, hB, hb⟩ := hrel
      have HT := Lib.hid ht
      clear ht
      by_cases hk8 : k < 8
      · have hle : leB seed (k + 1) = leB seed k ++ [t % 256] := by rw [leB, HT.out]
        have ht2 : t / 256 = seed / 256 ^ (k + 1) := by rw [HT.out, Nat.div_div_eq_div_mul, Nat.pow_succ]
        have hdv : (t : Int) / 256 = ((t / 256 : Nat) : Int) := by omega
        have hmd : (t : Int) % 256 = ((t % 256 : Nat) : Int) := by omega
        have htl2 : t / 256 < 18446744073709551616 := by omega
        have HLE := Lib.hid hle
        have HT2 := Lib.hid ht2
        clear hle ht2 HT
        generalize t / 256 = t2 at *
        generalize t % 256 = y at *
        go_wp2_with (at_builtin; refine app_byte rfl (.tmp 18) (.tmp 21) rfl (.slice A (1 + k) c) (1 + k) _ S (by rfl) (hO.alloc _) wr.heap.size _ (by rfl) (cell_one_new _ _ _ 0 _ rfl) (by omega) ?_; intro A3 c3 w3 S3 hO3 hk3 hS3 hc3 hm3)
        rw [← map_bv_snoc, List.cons_append, ← HLE.out] at hO3
        have hl := hB.lt
        obtain ⟨hB3, hb3, hS3'⟩ := step_own hB hb hS hk3 hS3
        exact ⟨⟨k + 1, t2, A3, c3, S3, by omega, HT2.out, htl2, rfl, by go_num, rfl, hO3, hS3', hB3, hb3⟩, by simp [intOf]; omega⟩
      · obtain rfl : k = 8 := by omega
        rw [show ((8 : Nat) : Int) = 8 from rfl]
        clear htl HT
        have hA : A = none → (80 :: leB seed 8) = [] := fun e => by
          subst e
          obtain ⟨ad, e, _⟩ := hO.addr (by omega)
          cases e
        have hrd := hO.rd
        have HA := Lib.hid hA
        clear hA hO hS
        go_wp2_with fail
        have hq := Blk.new wr 22 #[.slice A 9 c, .slice (some ⟨w.heap.size, 0, none⟩) 32 32]
        have hlen : (80 :: leB seed 8).length = 9 := by rw [List.length_cons, leB_len]
        have hp := parts_two (A := A) (B := some ⟨w.heap.size, 0, none⟩) (c := c) (d := 32) (a := 80 :: leB seed 8) (b := x.l) ((hq.cell 0).trans (by rw [hlen]; rfl)) ((hq.cell 1).trans (by rw [x.len]; rfl)) (hrd.alloc _) (rd_sum (hB.alloc _)) HA.out (by simp)
          (fun y hy => by rcases List.mem_cons.1 hy with rfl | h; omega; exact leB_lt _ _ _ h) x.lt
        refine (Of_any (some ⟨wr.heap.size, 0, none⟩) wr.heap.size 0 2 2 [80 :: leB seed 8, x.l] _ rfl (by omega) (fun _ => rfl) hp (by simp [leB_len, x.len]) (by omega)).mono ?_
        rintro e w2 ⟨rfl, hb2⟩
        have hf : [80 :: leB seed 8, x.l].flatten = (80 :: leB seed 8) ++ x.l := by simp
        rw [hf, show shaL ((80 :: leB seed 8) ++ x.l) = (placeS seed x).l from rfl]
        have hbb : Below w.heap.size w w2 := ((Keeps.of_below (S := []) hb).alloc _).below.trans (hb2.mono (by have := hb.size; simp; omega))
        clear hq hlen hp hf hb2 hrd hB hb HA
        generalize hse : placeS seed x = s at *
        have HSE := Lib.hid hse
        clear hse
        have hi1 := Lib.hid (info32.trans (congrArg some s.size.symm))
        have hs1 : Hid ((u8s s.l).size = (u8s (List.replicate 32 0)).size) := by unfold Hid; rw [s.size, u8s_size]; rfl
        have ho1 := u8s_one s.l
        have hn3 := hn.1
        go_wp2_with (refine wpList_store_blk rfl 27 (.tmp 8) (.tmp 29) rfl w2.heap.size 27 _ (u8s s.l) rfl rfl (Blk.new w2 _ _) hs1.out hi1.out ho1 ?_; intro w3 hB3 hk3)
        rw [HP1.out]
        have hb3 : Below w.heap.size w w3 := (((Keeps.of_below (S := []) hbb).alloc _).trans' hk3 (by have := hbb.size; simp; omega)).below
        have hgs : w.heap.size ≤ w2.heap.size := hbb.size
        have hO0 := Own.nil w3 1
        clear hbb hk3
        generalize w2.heap.size = gs at *
        have hp1 : 1 ≤ p := hp2.1
        have hp3 : p ≤ 341 := hp2.2
        clear hn hn3 hp2 HP1 HG
        go_loopw [10, 32] (fun v i wr => ∃ (k : Nat) (A : Option Addr) (c : Nat) (S : List Nat), k ≤ 3 ∧ i = .int .i64 k ∧ v = .slice A k c ∧ Own wr 1 (.slice A k c) k ((placesL s p k).map (Value.int .i64)) S ∧ (∀ y ∈ S, w.heap.size ≤ y ∧ y ≠ gs) ∧ Blk wr gs 27 (u8s s.l) ∧ Below w.heap.size w wr) (fun _ i _ => 3 - (intOf i).toNat)
        case atStart => exact ⟨0, none, 0, [], by omega, rfl, rfl, hO0, by simp, hB3, hb3⟩
        case round =>
          clear hO0 hB3 hb3
          obtain ⟨k, A, c, S, hk, rfl, rfl, hO, hS, hB, hb⟩ := hrel
          by_cases hk3 : k < 3
          · have hpl : placesL s p (k + 1) = placesL s p k ++ [((k * p + wordL s.l (k : Int) % p : Nat) : Int)] := rfl
            have HPL := Lib.hid hpl
            have HW := Lib.hid (fun W => Word_any s (k : Int) W)
            have hwl : wordL s.l (k : Int) < 18446744073709551616 := by
              unfold wordL
              split
              · exact wordF_lt s.l _ s.get_lt 8
              · omega
            clear hpl
            generalize wordL s.l (k : Int) = wd at *
            have hr1 : (wd : Int) % (p : Int) = ((wd % p : Nat) : Int) := by rw [← Int.natCast_emod]
            have hr2 : (wd : Int).tmod (p : Int) = ((wd % p : Nat) : Int) := by rw [Int.tmod_eq_emod_of_nonneg (by omega)]; exact hr1
            have hrl : wd % p < p := Nat.mod_lt _ (by omega)
            have hm1 : (k : Int) * (p : Int) = ((k * p : Nat) : Int) := by rw [Int.natCast_mul]
            have hm2 : k * p ≤ 682 := by
              have : k * p ≤ 2 * p := Nat.mul_le_mul_right _ (by omega)
              omega
            have HR1 := Lib.hid hr1
            have HR2 := Lib.hid hr2
            clear hr1 hr2
            generalize wd % p = r at *
            generalize k * p = kp at *
            have hpz : ((p : Int) == 0) = false := by rw [beq_eq_false_iff_ne]; omega
            have wp1 : IntKind.u64.wrap (p : Int) = (p : Int) := wrap64u _ (by omega) (by omega)
            have q1 := HR1.out
            have q2 := HR2.out
            go_wp2_with (first
              | (refine wpList_load_blk rfl 27 (.tmp 8) rfl gs rfl 27 (u8s s.l) _ hB Try.underlying27 rfl hi1.out ?_)
              | (go_at_call 24
                 refine (HW.out _).mono ?_
                 rintro e w5 ⟨rfl, hb5⟩
                 have hO5 := hO.below hb5
                 have hB5 := hB.below hb5
                 have hbb := hb.trans (hb5.mono hb.size))
              | (at_builtin; refine app_int rfl (.tmp 35) (.tmp 47) rfl (.slice A k c) k _ S (by rfl) (hO5.alloc _) w5.heap.size _ (by rfl) (cell_one_new _ _ _ 0 _ rfl) (by omega) ?_; intro A3 c3 w6 S3 hO6 hk6 hS6 hc6 hm6))
            have hv : (kp : Int) + (r : Int) = ((kp + r : Nat) : Int) := by omega
            rw [hv, show List.map (Value.int .i64) (placesL s p k) ++ [Value.int .i64 ((kp + r : Nat) : Int)] = List.map (Value.int .i64) (placesL s p (k + 1)) from by rw [HPL.out, List.map_append]; rfl] at hO6
            have hgl := hB5.lt
            have hB6 := (hB5.alloc (.cells #[.int .i64 ((kp : Int) + (r : Int))] 3)).keeps hk6 (fun hm => (hS _ hm).2 rfl)
            have hb6 : Below w.heap.size w w6 := (((Keeps.of_below (S := []) hbb).alloc _).trans' hk6 (fun y hy => .inr (hS y hy).1)).below
            have hwl5 := hbb.size
            exact ⟨⟨k + 1, A3, c3, S3, by omega, by go_num, rfl, hO6, by
              rcases hS6 with rfl | rfl
              · exact hS
              · intro y hy; simp at hy; omega, hB6, hb6⟩, by simp [intOf]; omega⟩
          · obtain rfl : k = 3 := by omega
            rw [show ((3 : Nat) : Int) = 3 from rfl]
            go_wp2_with fail
            go_ret
            exact ⟨A, c, S, rfl, by rw [HSE.out]; exact hO, fun y hy => (hS y hy).1, hb⟩
  · have hpl : places seed n x = [] := by unfold places; rw [if_neg hg]
    rw [hpl]
    have hgf : goodN n = false := by simpa using hg
    have hgd := Good_any n
    rw [hgf] at hgd
    have HG := Lib.hid hgd
    clear hpl hg hgf hgd
    go_enter Try.func36, Try.ntmps36
    go_wp2_with fail
    refine (HG.out _).mono ?_
    rintro e w1 ⟨rfl, rfl⟩
    go_wp2_with fail
    go_ret
    exact ⟨none, 0, [], rfl, Own.nil _ _, by simp, ((Keeps.refl [] w).alloc _).below⟩
end Go.Proofs.Ytbhlaafahfeacaa
