/- Layer 1: the walk of SumParts: however bytes are parted, their sum is the same. -/
import Derived.Test.YtbhlaafahfeacaaSumA
namespace Go.Proofs.Ytbhlaafahfeacaa
open Go.RowKit

theorem later {w w' : World} {p : Addr} {v : Value} (hb : Below w.heap.size w w') (h : w.cell? p = some v) : w'.cell? p = some v :=
  (hb.cell (World.block_lt_of_cell? w _ h)).trans h

theorem Own.place {w : World} {sz n cap : Nat} {A : Option Addr} {xs : List Value} {S : List Nat} (h : Own w sz (.slice A n cap) n xs S) (h0 : 0 < n) : ∃ g off, A = some ⟨g, off, none⟩ ∧ w.rangeAt g off xs := by
  rcases h.2 with ⟨_, _, hn, _⟩ | ⟨g, off, c, e, _, _, _, _, _, hr⟩
  · omega
  · injection e with e
    exact ⟨g, off, e, hr⟩
theorem parts_one {w : World} {g : Nat} {A : Option Addr} {cap : Nat} {l : List Nat} (hc : w.cell? ⟨g, 0, none⟩ = some (.slice A l.length cap)) (hr : Rd w A (l.map bv)) (hA : A = none → l = []) (hx : ∀ x ∈ l, x < 256) : Parts w g 0 [l] := by
  intro i k hi
  match i, hi with
  | 0, hi =>
    simp only [List.getElem?_cons_zero, Option.some.injEq] at hi
    subst hi
    exact ⟨A, cap, hc, hr, hA, hx⟩

/-- Where what stands from f on lies. -/
def subA (A : Option Addr) (cap f : Nat) : Option Addr := if cap = f then A else A.map (·.add f)
theorem slice_mid (A : Option Addr) (n cap f t : Nat) (h1 : f ≤ t) (h2 : t ≤ cap) (W : World) :
    (Instr.slice 22 (.slice A n cap) (some (.int .i64 (f : Int))) (some (.int .i64 (t : Int))) none).run Try.prog W = .ok (.slice (subA A cap f) (t - f) (cap - f)) W := by
  have h4 : (t : Int) ≤ (cap : Int) := by omega
  have h6 : ¬ t < f := by omega
  simp [Instr.slice, run_underlying Try.underlying22, go_sem, h4, h6, Try.sizeOf5, subA]
theorem slice_from (A : Option Addr) (n cap f : Nat) (h1 : f ≤ n) (W : World) :
    (Instr.slice 22 (.slice A n cap) (some (.int .i64 (f : Int))) none none).run Try.prog W = .ok (.slice (subA A cap f) (n - f) (cap - f)) W := by
  have h3 : (f : Int) ≤ (n : Int) := by omega
  simp [Instr.slice, run_underlying Try.underlying22, go_sem, h3, Try.sizeOf5, subA]
theorem subA_rd {w : World} {A : Option Addr} {cap f t : Nat} {b : List Nat} (hr : Rd w A (b.map bv)) (hc : b.length ≤ cap) (_ht : t ≤ b.length) : Rd w (subA A cap f) (((b.take t).drop f).map bv) := by
  have h := (hr.take t).drop f (c := cap) (fun hne e => hne (List.drop_of_length_le (by rw [List.length_take, List.length_map]; omega)))
  rw [List.map_drop, List.map_take]
  exact h
theorem info_bytes : (Try.prog.info? 22).map (fun i => (i.zero, i.size, i.bytes)) = some (some (.slice none 0 0), 1, 24) := by kernel_rfl

/-- The values vs are slices of the bytes ls. -/
def PartsV (w : World) (vs : List Value) (ls : List (List Nat)) : Prop :=
  vs.length = ls.length ∧ ∀ (i : Nat) (l : List Nat), ls[i]? = some l → ∃ (A : Option Addr) (cap : Nat), vs[i]? = some (Value.slice A l.length cap) ∧ Rd w A (l.map bv) ∧ (A = none → l = []) ∧ ∀ x ∈ l, x < 256
theorem PartsV.nil (w : World) : PartsV w [] [] := ⟨rfl, by simp⟩
theorem PartsV.snoc {w : World} {vs : List Value} {ls : List (List Nat)} (h : PartsV w vs ls) {A : Option Addr} {cap : Nat} {l : List Nat} (hr : Rd w A (l.map bv)) (hA : A = none → l = []) (hx : ∀ x ∈ l, x < 256) :
    PartsV w (vs ++ [Value.slice A l.length cap]) (ls ++ [l]) := by
  refine ⟨by simp [h.1], fun i k hi => ?_⟩
  by_cases hl : i < ls.length
  · rw [List.getElem?_append_left hl] at hi
    rw [List.getElem?_append_left (by rw [h.1]; exact hl)]
    exact h.2 i k hi
  · rw [List.getElem?_append_right (by omega)] at hi
    rw [List.getElem?_append_right (by rw [h.1]; omega), h.1]
    have h0 : i - ls.length = 0 := by
      have := (List.getElem?_eq_some_iff.1 hi).1
      simp at this; omega
    rw [h0] at hi ⊢
    simp only [List.getElem?_cons_zero, Option.some.injEq] at hi
    subst hi
    exact ⟨A, cap, rfl, hr, hA, hx⟩
theorem PartsV.one {w : World} {vs : List Value} {ls : List (List Nat)} (h : PartsV w vs ls) : ∀ u ∈ vs, u.oneCell' = true := by
  intro u hu
  obtain ⟨i, hi⟩ := List.getElem?_of_mem hu
  have hl : i < ls.length := by rw [← h.1]; exact (List.getElem?_eq_some_iff.1 hi).1
  obtain ⟨A, cap, e, _⟩ := h.2 i ls[i] (List.getElem?_eq_getElem hl)
  rw [hi] at e
  injection e with e
  rw [e]; rfl
theorem PartsV.parts {w w' : World} {vs : List Value} {ls : List (List Nat)} (h : PartsV w vs ls) (hb : Below w.heap.size w w') {g off : Nat} (hr : w'.rangeAt g off vs) : Parts w' g off ls := fun i l hi => by
  obtain ⟨A, cap, e, h1, h2, h3⟩ := h.2 i l hi
  exact ⟨A, cap, hr i _ e, h1.below hb, h2, h3⟩

/-- One slice of bytes that lies in a new block is appended. -/
theorem app_slice {ops : Array Oper} {rest : List Oper} {o : Oper} {a : Act} {w : World} {Q : Exit → Act → World → Prop} (hgd : o.guard = none) (s x : Operand)
    (ho : o.op = .call { callee := .builtin .append, args := #[s, x], argTypes := #[25, 25] })
    (v : Value) (n : Nat) (xs : List Value) (S : List Nat) (hs : a.eval s = v) (hseg : Own w 1 v n xs S)
    (g : Nat) (A : Option Addr) (m c : Nat) (hx : a.eval x = .slice (some ⟨g, 0, none⟩) 1 1) (hc : w.cell? ⟨g, 0, none⟩ = some (.slice A m c)) (hn : n + 1 ≤ 1099511627776)
    (h : ∀ A' c' w' S', Own w' 1 (.slice A' (n + 1) c') (n + 1) (xs ++ [.slice A m c]) S' → Keeps S w w' → (S' = S ∨ S' = [w.heap.size]) → n + 1 ≤ c' → c' ≤ maxLen → wpList Try.prog ops Q rest (a.put o.dst (.slice A' (n + 1) c')) w') :
    wpList Try.prog ops Q (o :: rest) a w := by
  refine wpList_append_ownc w hgd s x 25 ho 22 (.slice none 0 0) 1 24 Try.underlying25 info_bytes rfl v n xs S hs hseg (some ⟨g, 0, none⟩) 1 1 [.slice A m c] hx rfl ?_ (by simp) (by simp [Value.oneCell']) (by unfold maxLen; omega) (by omega) ?_
  · intro j z hz
    match j, hz with
    | 0, hz =>
      simp only [List.getElem?_cons_zero, Option.some.injEq] at hz
      subst hz
      exact ⟨_, rfl, by rw [Addr.add_lit]; exact hc⟩
  · intro v' w' S' h1 h2 h3
    obtain ⟨A', c', rfl, h4, h5, _⟩ := h1.form
    exact h A' c' w' S' h1 h2 h3 h4 h5

theorem grown_step {w wr w' : World} {S S' : List Nat} {o : Obj} (hb : Below w.heap.size w wr) (hS : ∀ x ∈ S, w.heap.size ≤ x)
    (hk : Keeps S (wr.alloc o) w') (hS' : S' = S ∨ S' = [(wr.alloc o).heap.size]) : Below w.heap.size w w' ∧ ∀ x ∈ S', w.heap.size ≤ x := by
  refine ⟨(((Keeps.of_below (S := []) hb).alloc o).trans' hk (fun x hx => .inr (hS x hx))).below, ?_⟩
  rcases hS' with rfl | rfl
  · exact hS
  · intro x hx
    have := hb.size
    simp at hx
    omega

set_option maxRecDepth 100000 in
set_option maxHeartbeats 4000000 in
theorem lawSumParts_any (A B : Option Addr) (n cap m d : Nat) (b : List Nat) (cuts : List Int) (w : World) (hl : b.length = n) (hc : n ≤ cap) (hr : Rd w A (b.map bv)) (hA : A = none → n = 0) (hx : ∀ x ∈ b, x < 256) (hn : n ≤ maxLen)
    (hm : cuts.length = m) (hr2 : Rd w B (cuts.map (Value.int .i64))) (hm2 : m ≤ maxLen) :
    Calls Try.prog 3 #[.slice A n cap, .slice B m d] w fun e w' => e = .returned (.bool true) ∧ Below w.heap.size w w' := by
  unfold maxLen at hn hm2
  have HL := Lib.hid hl
  have HM := Lib.hid hm
  clear hl hm
  go_enter Try.func3, Try.ntmps3
  go_wp2_with fail
  refine (awake1_any _).mono ?_
  rintro e w1 ⟨rfl, hb1⟩
  by_cases hbig : n ≤ 2000
  · by_cases hbig2 : m ≤ 20
    · have HX := Lib.hid hx
      clear hx
      go_wp2_with fail
      have hO := Own.nil w1 1
      go_loopw [5, 6, 7] (fun v fv i wr => ∃ (k f : Nat) (ls : List (List Nat)) (vs : List Value) (C : Option Addr) (c : Nat) (S : List Nat), k ≤ m ∧ i = .int .i64 k ∧ f ≤ n ∧ fv = .int .i64 f ∧ v = .slice C ls.length c ∧ ls.length ≤ k ∧
        Own wr 1 (.slice C ls.length c) ls.length vs S ∧ (∀ x ∈ S, w.heap.size ≤ x) ∧ PartsV w vs ls ∧ Hid (ls.flatten = b.take f) ∧ Below w.heap.size w wr) (fun _ _ i _ => m - (intOf i).toNat)
      case atStart => exact ⟨0, 0, [], [], none, 0, [], by omega, rfl, by omega, rfl, rfl, by simp, hO, by simp, PartsV.nil w, by unfold Hid; simp, hb1⟩
      case round =>
        clear hO hb1
        obtain ⟨k, f, ls, vs, C, c, S, hk, rfl, hf, rfl, rfl, hlk, hO, hS, hP, HF, hb⟩ := hrel
        by_cases hkm : k < m
        · obtain ⟨ad, e, hcell0⟩ := hr2.at_ (j := k) (by rw [List.length_map, HM.out]; exact hkm)
          subst e
          rw [List.getElem_map] at hcell0
          have hcell := later hb hcell0
          generalize cuts[k]'(by rw [HM.out]; exact hkm) = y at *
          by_cases c1 : (f : Int) ≤ y
          · by_cases c2 : y ≤ (n : Int)
            · obtain ⟨t, rfl⟩ := Int.eq_ofNat_of_zero_le (show 0 ≤ y by omega)
              have hsl := slice_mid A n cap f t (by omega) (by omega)
              have hpl : ((b.take t).drop f).length = t - f := by rw [List.length_drop, List.length_take, HL.out]; omega
              have hpr := subA_rd (f := f) (t := t) (cap := cap) hr (by rw [HL.out]; exact hc) (by rw [HL.out]; omega)
              have hpn : subA A cap f = none → (b.take t).drop f = [] := fun e => by
                apply List.eq_nil_of_length_eq_zero
                rw [hpl]
                unfold subA at e
                split at e
                · have := hA e; omega
                · cases A with
                  | none => have := hA rfl; omega
                  | some a => cases e
              have hpx : ∀ x ∈ (b.take t).drop f, x < 256 := fun x hx => HX.out x (List.mem_of_mem_take (List.mem_of_mem_drop hx))
              have hP2 := hP.snoc (cap := cap - f) hpr hpn hpx
              rw [hpl] at hP2
              have HPl := Lib.hid hpl
              have HP2 := Lib.hid hP2
              have hF2 : (ls ++ [(b.take t).drop f]).flatten = b.take t := by
                rw [List.flatten_append, HF.out, List.flatten_cons, List.flatten_nil, List.append_nil]
                have e : b.take f = (b.take t).take f := by rw [List.take_take, Nat.min_eq_left (by omega)]
                rw [e, List.take_append_drop]
              have HF2 := Lib.hid hF2
              have hll : (ls ++ [(b.take t).drop f]).length = ls.length + 1 := by simp
              have HLL := Lib.hid hll
              clear hpl hpr hpn hpx hP2 hF2 hll
              generalize ls ++ [(b.take t).drop f] = ls2 at *
              generalize ls.length = q at *
              go_wp2_with (at_builtin; refine app_slice rfl (.tmp 39) (.tmp 47) rfl (.slice C q c) q vs S (by rfl) (hO.alloc _) wr.heap.size (subA A cap f) (t - f) (cap - f) (by rfl) (cell_one_new _ _ _ 0 _ rfl) (by omega) ?_; intro A3 c3 w3 S3 hO3 hk3 hS3 hc3 hm3; obtain ⟨hb3, hS3'⟩ := grown_step hb hS hk3 hS3; have hcell3 := later hb3 hcell0)
              exact ⟨⟨k + 1, t, ls2, vs ++ [.slice (subA A cap f) (t - f) (cap - f)], A3, c3, S3, by omega, by go_num, by omega, rfl, by rw [HLL.out], by rw [HLL.out]; omega, by rw [HLL.out]; exact hO3, hS3', HP2.out, HF2, hb3⟩, by simp [intOf]; omega⟩
            · go_wp2_with fail
              exact ⟨⟨k + 1, f, ls, vs, C, c, S, by omega, by go_num, by omega, rfl, rfl, by omega, hO, hS, hP, HF, hb⟩, by simp [intOf]; omega⟩
          · go_wp2_with fail
            exact ⟨⟨k + 1, f, ls, vs, C, c, S, by omega, by go_num, by omega, rfl, rfl, by omega, hO, hS, hP, HF, hb⟩, by simp [intOf]; omega⟩
        · obtain rfl : k = m := by omega
          have hsl := slice_from A n cap f hf
          have hpl : (b.drop f).length = n - f := by rw [List.length_drop, HL.out]
          have hpr := subA_rd (f := f) (t := n) (cap := cap) hr (by rw [HL.out]; exact hc) (by rw [HL.out]; omega)
          rw [List.take_of_length_le (by rw [HL.out]; omega)] at hpr
          have hpn : subA A cap f = none → b.drop f = [] := fun e => by
            apply List.eq_nil_of_length_eq_zero
            rw [hpl]
            unfold subA at e
            split at e
            · have := hA e; omega
            · cases A with
              | none => have := hA rfl; omega
              | some a => cases e
          have hpx : ∀ x ∈ b.drop f, x < 256 := fun x hx => HX.out x (List.mem_of_mem_drop hx)
          have hP2 := hP.snoc (cap := cap - f) hpr hpn hpx
          rw [hpl] at hP2
          have HP2 := Lib.hid hP2
          have hF2 : (ls ++ [b.drop f]).flatten = b := by rw [List.flatten_append, HF.out, List.flatten_cons, List.flatten_nil, List.append_nil, List.take_append_drop]
          have HF2 := Lib.hid hF2
          have hll : (ls ++ [b.drop f]).length = ls.length + 1 := by simp
          have HLL := Lib.hid hll
          clear hpl hpr hpn hpx hP2 hF2 hll
          generalize ls ++ [b.drop f] = ls2 at *
          generalize ls.length = q at *
          go_wp2_with (at_builtin; refine app_slice rfl (.tmp 53) (.tmp 57) rfl (.slice C q c) q vs S (by rfl) (hO.alloc _) wr.heap.size (subA A cap f) (n - f) (cap - f) (by rfl) (cell_one_new _ _ _ 0 _ rfl) (by omega) ?_; intro A3 c3 w3 S3 hO3 hk3 hS3 hc3 hm3; obtain ⟨hb3, hS3'⟩ := grown_step hb hS hk3 hS3)
          obtain ⟨g, off, rfl, hrange⟩ := hO3.place (by omega)
          refine (Of_any _ g off (q + 1) c3 ls2 _ HLL.out hc3 (fun _ => rfl) (HP2.out.parts hb3 hrange) (by rw [HF2.out, HL.out]; omega) (by omega)).mono ?_
          rintro e w4 ⟨rfl, hb4⟩
          rw [HF2.out]
          have hb5 := hb3.trans (hb4.mono hb3.size)
          have heq := eql_sum (shaL b) (shaL b) (shaL_len _) (shaL_len _)
          rw [decide_eq_true rfl] at heq
          have HE := Lib.hid heq
          have hAb : A = none → b = [] := fun e => List.eq_nil_of_length_eq_zero (by rw [HL.out]; exact hA e)
          have hof := Of_any (some ⟨w4.heap.size, 0, none⟩) w4.heap.size 0 1 1 [b] (w4.alloc (.cells #[.slice A n cap] 22)) rfl (by omega) (fun _ => rfl)
            (parts_one (cap := cap) (by rw [HL.out]; exact (Blk.new w4 _ _).cell 0) ((hr.below hb5).alloc _) hAb HX.out) (by simp [HL.out]; omega) (by omega)
          simp only [List.flatten_cons, List.flatten_nil, List.append_nil] at hof
          have HOF := Lib.hid hof
          clear heq hof hb3 hb4 hO3 hrange HF2 HP2 HLL
          generalize shaL b = R at *
          go_wp2_with fail
          refine HOF.out.mono ?_
          rintro e w6 ⟨rfl, hb6⟩
          have hb7 : Below w.heap.size w w6 := (hb5.alloc hb5.size _).trans (hb6.mono (by have := hb5.size; simp; omega))
          have heq := HE.out
          go_wp2_with fail
          go_ret
          exact ⟨rfl, hb7⟩
    · go_wp2_with fail
      go_ret
      exact ⟨rfl, hb1⟩
  · go_wp2_with fail
    go_ret
    exact ⟨rfl, hb1⟩
end Go.Proofs.Ytbhlaafahfeacaa
