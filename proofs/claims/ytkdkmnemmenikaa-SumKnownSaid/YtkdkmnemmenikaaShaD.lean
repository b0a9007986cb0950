/- The walk of sum.Of: its padding, its blocks, its bytes. -/
import Derived.Test.YtkdkmnemmenikaaShaC
import Derived.Test.YtkdkmnemmenikaaJoin
import Derived.Test.YtkdkmnemmenikaaSm
namespace Go.Proofs.Ytkdkmnemmenikaa
open Go.RowKit

/-- One byte that lies in a new block is appended. -/
theorem app_byte {ops : Array Oper} {rest : List Oper} {o : Oper} {a : Act} {w : World} {Q : Exit → Act → World → Prop} (hgd : o.guard = none) (s x : Operand)
    (ho : o.op = .call { callee := .builtin .append, args := #[s, x], argTypes := #[30, 30] })
    (v : Value) (n : Nat) (xs : List Value) (S : List Nat) (hs : a.eval s = v) (hseg : Own w 1 v n xs S)
    (g : Nat) (u : Int) (hx : a.eval x = .slice (some ⟨g, 0, none⟩) 1 1) (hc : w.cell? ⟨g, 0, none⟩ = some (.int .u8 u)) (hn : n + 1 ≤ 140737488355328)
    (h : ∀ A' c' w' S', Own w' 1 (.slice A' (n + 1) c') (n + 1) (xs ++ [.int .u8 u]) S' → Keeps S w w' → (S' = S ∨ S' = [w.heap.size]) → n + 1 ≤ c' → c' ≤ maxLen → wpList Try.prog ops Q rest (a.put o.dst (.slice A' (n + 1) c')) w') :
    wpList Try.prog ops Q (o :: rest) a w := by
  refine wpList_append_ownc w hgd s x 30 ho 5 (.int .u8 0) 1 1 Try.underlying30 (by kernel_rfl) rfl v n xs S hs hseg (some ⟨g, 0, none⟩) 1 1 [.int .u8 u] hx rfl ?_ (by simp) (by simp [Value.oneCell']) (by unfold maxLen; omega) (by omega) ?_
  · intro j z hz
    match j, hz with
    | 0, hz =>
      simp only [List.getElem?_cons_zero, Option.some.injEq] at hz
      subst hz
      exact ⟨_, rfl, by rw [Addr.add_lit]; exact hc⟩
  · intro v' w' S' h1 h2 h3
    obtain ⟨A', c', rfl, h4, h5, _⟩ := h1.form
    exact h A' c' w' S' h1 h2 h3 h4 h5

theorem blocksS_all (l : List Nat) (st : List Nat) (q : Nat) : blocksS st (q + 1) l = blocksS (blockS st (l.take 64)) q (l.drop 64) := rfl

/-- The first m of thirty-two bytes; noughts behind. -/
def outS (r : List Nat) (m : Nat) : List Nat := r.take m ++ List.replicate (32 - m) 0
theorem outS_len {r : List Nat} {m : Nat} (hr : r.length = 32) (hm : m ≤ 32) : (outS r m).length = 32 := by simp [outS, hr]; omega
theorem outS_set {r : List Nat} {m : Nat} (hr : r.length = 32) (hm : m < 32) : (u8s (outS r m)).setIfInBounds m (.int .u8 ((r.getD m 0 : Nat) : Int)) = u8s (outS r (m + 1)) := by
  rw [u8s_set]
  unfold outS
  have hl : (r.take m).length = m := by rw [List.length_take]; omega
  rw [List.set_append_right _ _ (by omega), hl, Nat.sub_self]
  obtain ⟨z, hz⟩ : ∃ z, 32 - m = z + 1 := ⟨32 - m - 1, by omega⟩
  have hg : r.getD m 0 = r[m] := by simp [List.getD, List.getElem?_eq_getElem (show m < r.length by omega)]
  rw [hz, List.replicate_succ, List.set_cons_zero, show 32 - (m + 1) = z by omega, hg, List.take_succ_eq_append_getElem (by omega), List.append_assoc]
  rfl
theorem outS_all {r : List Nat} (hr : r.length = 32) : outS r 32 = r := by unfold outS; rw [List.take_of_length_le (by omega)]; simp
theorem flat_get : ∀ (F : List Nat) (k j : Nat), k < F.length → j < 4 → (F.flatMap bytes4).getD (4 * k + j) 0 = F.getD k 0 / 2 ^ (24 - 8 * j) % 256
  | x :: F, 0, j, _, hj => by
    have h : j = 0 ∨ j = 1 ∨ j = 2 ∨ j = 3 := by omega
    rcases h with rfl | rfl | rfl | rfl <;> simp [bytes4]
  | x :: F, k + 1, j, hk, hj => by
    rw [List.flatMap_cons]
    have ih := flat_get F k j (by simpa using hk) hj
    rw [List.getD, List.getElem?_append_right (by simp [bytes4]; omega)]
    rw [show 4 * (k + 1) + j - (bytes4 x).length = 4 * k + j by simp [bytes4]; omega]
    simpa [List.getD] using ih

theorem step_own {w wr w' : World} {S S' : List Nat} {o : Obj} {t : TypeId} {cs : Array Value} (hZ : Blk wr w.heap.size t cs) (hb : Below w.heap.size w wr) (hS : ∀ x ∈ S, w.heap.size + 1 ≤ x)
    (hk : Keeps S (wr.alloc o) w') (hS' : S' = S ∨ S' = [(wr.alloc o).heap.size]) : Blk w' w.heap.size t cs ∧ Below w.heap.size w w' ∧ ∀ x ∈ S', w.heap.size + 1 ≤ x := by
  have hl := hZ.lt
  have hn : w.heap.size ∉ S := fun hx => by have := hS _ hx; omega
  refine ⟨(hZ.alloc o).keeps hk hn, (((Keeps.of_below (S := []) hb).alloc o).trans' hk (fun x hx => .inr (by have := hS x hx; omega))).below, ?_⟩
  rcases hS' with rfl | rfl
  · exact hS
  · intro x hx
    simp at hx
    omega

/-- The bytes with what is laid behind them, m in all. -/
def padTo (l : List Nat) (m : Nat) : List Nat := l ++ [128] ++ List.replicate (m - (l.length + 1)) 0
theorem padTo_start (l : List Nat) : padTo l (l.length + 1) = l ++ [128] := by simp [padTo]
theorem padTo_succ (l : List Nat) (m : Nat) (h : l.length + 1 ≤ m) : padTo l (m + 1) = padTo l m ++ [0] := by
  unfold padTo
  rw [show m + 1 - (l.length + 1) = (m - (l.length + 1)) + 1 by omega, List.replicate_succ']
  simp only [List.append_assoc]
theorem padTo_len (l : List Nat) (m : Nat) (h : l.length + 1 ≤ m) : (padTo l m).length = m := by simp [padTo]; omega

theorem lenS_get (x : Nat) (k : Nat) (hk : k < 8) : (x : Int) / 2 ^ (56 - 8 * k) % 256 = (((lenS x).getD k 0 : Nat) : Int) := by
  have h : k = 0 ∨ k = 1 ∨ k = 2 ∨ k = 3 ∨ k = 4 ∨ k = 5 ∨ k = 6 ∨ k = 7 := by omega
  rcases h with rfl | rfl | rfl | rfl | rfl | rfl | rfl | rfl <;> simp [lenS]
theorem lenS_take (x k : Nat) (hk : k < 8) : (lenS x).take (k + 1) = (lenS x).take k ++ [(lenS x).getD k 0] := by
  have hl : k < (lenS x).length := by simpa [lenS] using hk
  rw [List.take_succ_eq_append_getElem hl]
  simp [List.getD, List.getElem?_eq_getElem hl]

def lenV : Value → Nat
  | .slice _ n _ => n
  | _ => 0

theorem map_bv_snoc (l : List Nat) (x : Nat) : (l ++ [x]).map bv = l.map bv ++ [.int .u8 (x : Int)] := by simp [bv]

set_option maxRecDepth 100000 in
set_option maxHeartbeats 4000000 in
theorem Of_any
    (A : Option Addr) (b o n c : Nat) (ls : List (List Nat)) (w : World) (hn : ls.length = n) (hc : n ≤ c) (hA : n ≠ 0 → A = some ⟨b, o, none⟩) (hp : Parts w b o ls) (hlen : ls.flatten.length ≤ 1099511627776) (hn2 : n ≤ 1099511627776) :
    Calls Try.prog 5 #[.slice A n c] w fun e w' => e = .returned (.agg (u8s (shaL ls.flatten))) ∧ Below w.heap.size w w' := by
  have hj := fun W (hW : Parts W b o ls) => join_any A b o n c ls W hn hc hA hW (by omega) (by omega)
  have HJ := Lib.hid hj
  have hlt : ∀ x ∈ ls.flatten, x < 256 := by
    intro x hx
    obtain ⟨l, hl, hxl⟩ := List.mem_flatten.1 hx
    obtain ⟨i, hi⟩ := List.getElem?_of_mem hl
    obtain ⟨_, _, _, _, _, h⟩ := hp i l hi
    exact h x hxl
  have hp1 : ∀ o, Parts (w.alloc o) b _ ls := fun ob i l hi => by
    obtain ⟨A, cap, h1, h2, h3⟩ := hp i l hi
    exact ⟨A, cap, (World.cell?_alloc_lt w ob _ (World.block_lt_of_cell? w _ h1)).trans h1, h2.alloc _, h3⟩
  have HP := Lib.hid hp1
  clear hj hp1 hp hn hc hA
  have HR : Hid (shaL ls.flatten = (blocksS beginS ((padS ls.flatten).length / 64) (padS ls.flatten)).flatMap bytes4) := rfl
  generalize shaL ls.flatten = R at *
  generalize hL : ls.flatten.length = L at *
  have HL := Lib.hid hL
  clear hL
  go_enter Try.func5, Try.ntmps5
  go_wp2_with fail
  refine (HJ.out _ (HP.out _)).mono ?_
  rintro e w1 ⟨v1, S1, rfl, hown1, hb1, hS1⟩
  obtain ⟨A1, c1, rfl, h41, h51, -⟩ := hown1.form
  have hZ : Blk w1 w.heap.size 24 (u8s (List.replicate 32 0)) := (Blk.new w _ _).below hb1
  have hb : Below w.heap.size w w1 := ((Keeps.refl [] w).alloc _).below.trans (hb1.mono (by simp))
  have hS : ∀ x ∈ S1, w.heap.size + 1 ≤ x := fun x hx => by have := hS1 x hx; simpa using this
  have hn1 : w.heap.size ∉ S1 := fun hx => by have := hS _ hx; omega
  clear hb1 hS1
  go_wp2_with (at_builtin; refine app_byte rfl (.tmp 17) (.tmp 18) rfl (.slice A1 L c1) L (ls.flatten.map bv) S1 (by rfl) (hown1.alloc _) w1.heap.size 128 (by rfl) (cell_one_new _ _ _ 0 _ rfl) (by omega) ?_; intro A2 c2 w2 S2 hown2 hk2 hS2 hc2 hm2)
  obtain ⟨hZ2, hb2, hS2'⟩ := step_own hZ hb hS hk2 hS2
  have h128 := map_bv_snoc ls.flatten 128
  rw [show ((128 : Nat) : Int) = 128 from rfl] at h128
  rw [← h128, ← padTo_start, HL.out] at hown2
  clear h128
  have HF : Hid (fillS L = (119 - L % 64) % 64) := rfl
  have hF : fillS L < 64 := Nat.mod_lt _ (by omega)
  clear hk2 hS2 hown1 h41 h51 hZ hb hS hn1
  go_loopw [3] (fun v wr => ∃ (m : Nat) (S : List Nat) (A : Option Addr) (c : Nat), L + 1 ≤ m ∧ m ≤ L + 1 + fillS L ∧ v = .slice A m c ∧ Own wr 1 (.slice A m c) m ((padTo ls.flatten m).map bv) S ∧ m ≤ c ∧ c ≤ maxLen ∧ (∀ x ∈ S, w.heap.size + 1 ≤ x) ∧
      Blk wr w.heap.size 24 (u8s (List.replicate 32 0)) ∧ Below w.heap.size w wr) (fun v _ => L + 1 + fillS L - lenV v)
  case atStart => exact ⟨L + 1, S2, A2, c2, Nat.le_refl _, by omega, rfl, hown2, hc2, hm2, hS2', hZ2, hb2⟩
  case round =>
    clear hown2 hc2 hm2 hS2' hZ2 hb2
    obtain ⟨m, S, Am, cm, hm1, hm2, rfl, hown, hc, hcm, hS, hZ, hb⟩ := hrel
    by_cases hlt2 : m < L + 1 + fillS L
    · have hne : m % 64 ≠ 56 := by have := HF.out; omega
      have hq : (((m : Int) % 64) == 56) = false := by rw [beq_eq_false_iff_ne]; omega
      have hq2 : (((m : Int) % 64) != 56) = true := by rw [bne_iff_ne]; omega
      clear hne
      go_wp2_with (at_builtin; refine app_byte rfl (.tmp 24) (.tmp 25) rfl (.slice Am m cm) m _ S (by rfl) (hown.alloc _) wr.heap.size 0 (by rfl) (cell_one_new _ _ _ 0 _ rfl) (by omega) ?_; intro A3 c3 w3 S3 hown3 hk3 hS3 hc3 hm3)
      obtain ⟨hZ3, hb3, hS3'⟩ := step_own hZ hb hS hk3 hS3
      have h0 := map_bv_snoc (padTo ls.flatten m) 0
      rw [show ((0 : Nat) : Int) = 0 from rfl] at h0
      rw [← h0, ← padTo_succ _ _ (by rw [HL.out]; exact hm1)] at hown3
      go_roundw
      case rel => exact ⟨m + 1, S3, A3, c3, by omega, by omega, rfl, hown3, hc3, hm3, hS3', hZ3, hb3⟩
      case measure => simp only [lenV]; omega
    · obtain rfl : m = L + 1 + fillS L := by omega
      have hM : (L + 1 + fillS L) % 64 = 56 := by have := HF.out; omega
      have HM := Lib.hid hM
      have hq : (((L + 1 + fillS L : Nat) : Int) % 64 == 56) = true := by rw [beq_iff_eq]; omega
      have hq2 : (((L + 1 + fillS L : Nat) : Int) % 64 != 56) = false := by rw [bne_eq_false_iff_eq]; omega
      have HP2 : Hid (padTo ls.flatten (L + 1 + fillS L) = ls.flatten ++ [128] ++ List.replicate (fillS L) 0) := by unfold Hid padTo; rw [HL.out, show L + 1 + fillS L - (L + 1) = fillS L by omega]
      have hPl := padTo_len ls.flatten (L + 1 + fillS L) (by rw [HL.out]; omega)
      have HPl := Lib.hid hPl
      clear hPl hM hm1 hm2 hlt2
      generalize padTo ls.flatten (L + 1 + fillS L) = P at *
      have hmb : L + 1 + fillS L ≤ 1099511627840 := by omega
      generalize L + 1 + fillS L = m at *
      go_wp2_with fail
      generalize hwr : wr = w4 at *
      clear hwr
      go_loopw [3, 5] (fun v i wr => ∃ (k : Nat) (S : List Nat) (A : Option Addr) (c : Nat), k ≤ 8 ∧ i = .int .i64 (56 - 8 * (k : Int)) ∧ v = .slice A (m + k) c ∧ Own wr 1 (.slice A (m + k) c) (m + k) ((P ++ (lenS (L * 8)).take k).map bv) S ∧ m + k ≤ c ∧ c ≤ maxLen ∧ (∀ x ∈ S, w.heap.size + 1 ≤ x) ∧
        Blk wr w.heap.size 24 (u8s (List.replicate 32 0)) ∧ Below w.heap.size w wr) (fun v _ _ => m + 8 - lenV v)
      case atStart => exact ⟨0, S, Am, cm, by omega, rfl, rfl, by simpa using hown, hc, hcm, hS, hZ, hb⟩
      case round =>
        clear hown hc hcm hS hZ hb
        obtain ⟨k, S, Ak, ck, hk, rfl, rfl, hown, hc, hcm, hS, hZ, hb⟩ := hrel
        by_cases hk8 : k < 8
        · have i0 : (0 : Int) ≤ 56 - 8 * (k : Int) := by omega
          have i1 : 56 - 8 * (k : Int) ≤ 64 := by omega
          have hv := lenS_get (L * 8) k hk8
          rw [show ((L * 8 : Nat) : Int) = (L : Int) * 8 by omega] at hv
          have HV := Lib.hid hv
          clear hv
          go_wp2_with (at_builtin; refine app_byte rfl (.tmp 31) (.tmp 36) rfl (.slice Ak (m + k) ck) (m + k) _ S (by rfl) (hown.alloc _) wr.heap.size _ (by rfl) (cell_one_new _ _ _ 0 _ rfl) (by omega) ?_; intro A3 c3 w3 S3 hown3 hk3 hS3 hc3 hm3)
          obtain ⟨hZ3, hb3, hS3'⟩ := step_own hZ hb hS hk3 hS3
          rw [HV.out, ← map_bv_snoc, List.append_assoc, ← lenS_take _ _ hk8] at hown3
          have i2 : IntKind.i64.wrap (56 - 8 * (k : Int) - 8) = 56 - 8 * (k : Int) - 8 := IntWalk.i64_in _ (by omega)
          go_wp2_with fail
          clear i2
          go_roundw
          case rel => exact ⟨k + 1, S3, A3, c3, by omega, by go_num, rfl, hown3, hc3, hm3, hS3', hZ3, hb3⟩
          case measure => simp only [lenV]; omega
        · obtain rfl : k = 8 := by omega
          rw [List.take_of_length_le (by simp [lenS])] at hown
          have hpad : P ++ lenS (L * 8) = padS ls.flatten := by rw [HP2.out]; unfold padS; rw [HL.out]
          rw [hpad] at hown
          have hpl : (padS ls.flatten).length = m + 8 := by rw [← hpad, List.length_append, HPl.out]; rfl
          have hpx : ∀ x ∈ padS ls.flatten, x < 256 := by
            intro x hx
            rw [← hpad, HP2.out] at hx
            simp only [List.mem_append, List.mem_singleton, List.mem_replicate] at hx
            rcases hx with ((hx | hx) | hx) | hx
            · exact hlt x hx
            · omega
            · omega
            · simp only [lenS, List.mem_cons, List.not_mem_nil, or_false] at hx; omega
          have hq : (m + 8) % 64 = 0 := by have := HM.out; omega
          have HR2 : Hid (R = (blocksS beginS ((m + 8) / 64) (padS ls.flatten)).flatMap bytes4) := by rw [← hpl]; exact HR
          have HPL := Lib.hid hpl
          have HPX := Lib.hid hpx
          clear hpad hpl hpx HP2 HPl HR HM
          generalize padS ls.flatten = p at *
          have hbb : m + 8 ≤ 1099511627848 := by omega
          obtain ⟨qn, hqn⟩ : ∃ qn, m + 8 = 64 * qn := ⟨(m + 8) / 64, by omega⟩
          have hqd : (m + 8) / 64 = qn := by omega
          rw [hqd] at HR2
          have HQ := Lib.hid hqn
          clear hqn hqd hq hmb
          generalize m + 8 = M at *
          clear HF hF hn2
          go_wp2_with fail
          refine (begin_any _).mono ?_
          rintro e w5 ⟨rfl, hb5⟩
          have hZ5 := hZ.below hb5
          have hown5 := hown.below hb5
          have hbw5 := hb.trans (hb5.mono hb.size)
          have hl5 := hZ5.lt
          clear hown hZ hb hb5
          have hSlt := hown5.lt
          have hgs : ∀ ad, Ak = some ad → 0 < M → ad.block ≠ w5.heap.size := fun ad e h0 hne => by
            obtain ⟨ad', e', hm⟩ := hown5.addr h0
            rw [e] at e'
            injection e' with e'
            subst e'
            have := hSlt _ hm
            omega
          have hAk : Ak = none → qn = 0 := fun e => by
            rcases Nat.eq_zero_or_pos M with h0 | h0
            · have := HQ.out; omega
            · obtain ⟨ad', e', _⟩ := hown5.addr h0
              rw [e] at e'; cases e'
          have hrd5 := hown5.rd
          clear hown5 hSlt
          go_wp2_with (refine wpList_store_blk rfl 39 (.tmp 6) (.tmp 38) rfl w5.heap.size 39 _ (u32s beginS) rfl rfl (Blk.new w5 _ _) rfl info8 one_begin ?_; intro w6 hB6 hk6)
          have hne6 : w.heap.size ≠ w5.heap.size := by omega
          have hZ6 := (hZ5.alloc (.cells #[.int .u32 0, .int .u32 0, .int .u32 0, .int .u32 0, .int .u32 0, .int .u32 0, .int .u32 0, .int .u32 0] 39)).keeps hk6 (by simpa using hne6)
          have hbw6 : Below w.heap.size w w6 := (((Keeps.of_below (S := []) hbw5).alloc _).trans' hk6 (by simp; omega)).below
          have hrd6 : Rd w6 Ak (p.map bv) := by
            rcases Nat.eq_zero_or_pos M with h0 | h0
            · have : p = [] := List.eq_nil_of_length_eq_zero (by rw [HPL.out]; exact h0)
              rw [this]; exact Rd.nil _ _
            · exact (hrd5.alloc _).keeps hk6 (fun ad e => by simpa using hgs ad e h0)
          have hsg : w.heap.size < w5.heap.size := hl5
          clear hZ5 hbw5 hrd5 hk6 hl5
          generalize w5.heap.size = gs at *
          have H8 : Hid (beginS.length = 8) := rfl
          simp only [Act.put]
          go_loopw [3] (fun v wr => ∃ (q : Nat) (rest st : List Nat) (Ar : Option Addr) (cr : Nat), v = .slice Ar (64 * q) cr ∧ Hid (rest.length = 64 * q) ∧ Rd wr Ar (rest.map bv) ∧ (∀ x ∈ rest, x < 256) ∧ 64 * q ≤ cr ∧ cr ≤ maxLen ∧ Hid (st.length = 8) ∧
            Blk wr gs 39 (u32s st) ∧ Hid (blocksS beginS qn p = blocksS st q rest) ∧ (∀ ad, Ar = some ad → 0 < q → ad.block ≠ gs) ∧ (Ar = none → q = 0) ∧ 64 * q ≤ 1099511627848 ∧ Blk wr w.heap.size 24 (u8s (List.replicate 32 0)) ∧ Below w.heap.size w wr) (fun v _ => lenV v)
          case atStart =>
            rw [HQ.out] at hbb hc hgs HPL
            rw [HQ.out]
            exact ⟨qn, p, beginS, Ak, ck, rfl, HPL, hrd6, HPX.out, hc, hcm, H8, hB6, rfl, fun ad e h => hgs ad e (by omega), fun e => hAk e, hbb, hZ6, hbw6⟩
          case round =>
            clear hrd6 hB6 hZ6 hbw6
            obtain ⟨q, rest, st, Ar, cr, rfl, Hrl, hrd, hrx, hqc, hcm2, Hst, hB, HE, hgs2, hnil, hqb, hZ, hb⟩ := hrel
            by_cases hq0 : 0 < q
            · obtain ⟨q, rfl⟩ : ∃ z, q = z + 1 := ⟨q - 1, by omega⟩
              obtain ⟨ad, rfl⟩ : ∃ ad, Ar = some ad := by
                cases Ar with
                | none => have := hnil rfl; omega
                | some ad => exact ⟨ad, rfl⟩
              have z1 : (64 : Int) ≤ 64 * ((q : Int) + 1) := by omega
              have z2 : (64 : Int) ≤ (cr : Int) := by omega
              go_wp2_with fail
              have hrl := Hrl.out
              refine (take_any (some ad) cr gs st (rest.take 64) _ Hst.out hB (by rw [List.length_take]; omega) (by rw [List.map_take]; exact hrd.take 64) (fun x hx => hrx x (List.mem_of_mem_take hx))).mono ?_
              rintro e w7 ⟨rfl, hB7, hk7⟩
              have hZ7 := hZ.keeps hk7 (by simp; omega)
              have hbw7 : Below w.heap.size w w7 := ((Keeps.of_below (S := []) hb).trans' hk7 (by simp; omega)).below
              have hrd7 := hrd.keeps hk7 (fun ad e => by simpa using hgs2 ad e (by omega))
              have hE7 : blocksS beginS qn p = blocksS (blockS st (rest.take 64)) q (rest.drop 64) := HE.out
              have HE7 := Lib.hid hE7
              have HS7 := Lib.hid (blockS_len st (rest.take 64) Hst.out)
              have hrl7 : (rest.drop 64).length = 64 * q := by rw [List.length_drop]; omega
              have HL7 := Lib.hid hrl7
              have hx7 : ∀ x ∈ rest.drop 64, x < 256 := fun x hx => hrx x (List.mem_of_mem_drop hx)
              have hdr := hrd7.drop 64 (c := cr) (fun h => by
                have : (List.drop 64 (List.map bv rest)).length ≠ 0 := fun e => h (List.eq_nil_of_length_eq_zero e)
                rw [List.length_drop, List.length_map] at this
                omega)
              rw [← List.map_drop] at hdr
              clear hE7 hrl7 hrl hB hZ hb hk7 hrd hrd7 HE Hrl Hst hrx
              go_wp2_with fail
              refine ⟨⟨q, rest.drop 64, blockS st (rest.take 64), (if cr = 64 then some ad else some ⟨ad.block, ad.off + 64, none⟩), cr - 64, by rw [show 64 * (q + 1) - 64 = 64 * q by omega], HL7, by simpa [Addr.add] using hdr, hx7, by omega, by omega, HS7, hB7, HE7, fun ad' e h0 => ?_, fun e => ?_, by omega, hZ7, hbw7⟩, by simp only [lenV]; omega⟩
              · have h1 := hgs2 ad rfl (by omega)
                split at e <;> (injection e with e; subst e; exact h1)
              · split at e <;> cases e
            · obtain rfl : q = 0 := by omega
              rw [Nat.mul_zero]
              have hst : blocksS beginS qn p = st := HE.out
              have hR : R = st.flatMap bytes4 := by rw [HR2.out, hst]
              have HRL : Hid ((st.flatMap bytes4).length = 32) := by unfold Hid; rw [flat4_len, Hst.out]
              have HRR := Lib.hid hR
              have hbl := hB.lt
              have hzl := hZ.lt
              have hidx : ∀ (k : Nat) (W : World), k < 8 → (Instr.index 39 (.agg (u32s st)) (.int .i64 (k : Int))).run Try.prog W = .ok (.int .u32 ((st.getD k 0 : Nat) : Int)) W := fun k W hk =>
                run_index_arr W _ _ 8 _ _ k _ Try.underlying39 Try.isAgg37 Try.sizeOf37 hk (u32s_get (by rw [Hst.out]; exact hk))
              have HI := Lib.hid hidx
              have hi8 := Lib.hid (info8.trans (congrArg some ((u32s_size st).trans Hst.out).symm))
              clear hst hR HE HR2 hrd hgs2 hnil hqb hqc hcm2 Hrl hrx hidx
              go_wp2_with (refine wpList_load_blk rfl 39 (.tmp 6) rfl gs rfl 39 (u32s st) _ (hB.alloc _) Try.underlying39 rfl hi8.out ?_)
              have hO := Blk.new wr 24 (u8s (outS (st.flatMap bytes4) 0))
              have hZo := hZ.alloc (.cells (u8s (outS (st.flatMap bytes4) 0)) 24)
              have hbo : Below w.heap.size w (wr.alloc (.cells (u8s (outS (st.flatMap bytes4) 0)) 24)) := hb.alloc hb.size _
              have hgo : w.heap.size < wr.heap.size := hzl
              clear hB hZ hb hbl hzl hi8
              generalize wr.heap.size = go at *
              go_loopw [48] (fun i wr => ∃ k : Nat, k ≤ 8 ∧ i = .int .i64 k ∧ Blk wr go 24 (u8s (outS (st.flatMap bytes4) (4 * k))) ∧ Blk wr w.heap.size 24 (u8s (List.replicate 32 0)) ∧ Below w.heap.size w wr) (fun i _ => 8 - (intOf i).toNat)
              case atStart => exact ⟨0, by omega, rfl, hO, hZo, hbo⟩
              case round =>
                clear hO hZo hbo
                obtain ⟨wo, hwo⟩ : ∃ wo : World, wo = wr := ⟨_, rfl⟩
                clear hwo wo
                obtain ⟨k, hk, rfl, hO, hZ, hb⟩ := hrel
                by_cases hk8 : k < 8
                · have hix := fun W => HI.out k W hk8
                  have hfg := fun j (hj : j < 4) => flat_get st k j (by rw [Hst.out]; exact hk8) hj
                  have HFG := Lib.hid hfg
                  clear hfg
                  generalize st.getD k 0 = xv at *
                  go_wp2_with fail
                  clear hix
                  generalize hwr : wr = w9 at *
                  clear hwr
                  go_loopw [52] (fun i wr => ∃ j : Nat, j ≤ 4 ∧ i = .int .i64 j ∧ Blk wr go 24 (u8s (outS (st.flatMap bytes4) (4 * k + j))) ∧ Blk wr w.heap.size 24 (u8s (List.replicate 32 0)) ∧ Below w.heap.size w wr) (fun i _ => 4 - (intOf i).toNat)
                  case atStart => exact ⟨0, by omega, rfl, hO, hZ, hb⟩
                  case round =>
                    clear hO hZ hb
                    obtain ⟨j, hj, rfl, hO, hZ, hb⟩ := hrel
                    by_cases hj4 : j < 4
                    · have hv := HFG.out j hj4
                      have hset := hO.set (4 * k + j) (.int .u8 (((st.flatMap bytes4).getD (4 * k + j) 0 : Nat) : Int))
                      rw [outS_set HRL.out (by omega), hv] at hset
                      have hc0 : wr.cell? ⟨go, 4 * k + j, none⟩ = some (.int .u8 (((outS (st.flatMap bytes4) (4 * k + j)).getD (4 * k + j) 0 : Nat) : Int)) := by rw [hO.cell, u8s_get (by rw [outS_len HRL.out (by omega)]; omega)]
                      have hf0 := hO.frozen (4 * k + j)
                      generalize (outS (st.flatMap bytes4) (4 * k + j)).getD (4 * k + j) 0 = y at *
                      have i0 : (0 : Int) ≤ 24 - 8 * (j : Int) := by omega
                      have i1 : 24 - 8 * (j : Int) ≤ 32 := by omega
                      have i2 : 8 * (j : Int) ≤ 24 := by omega
                      have i3 : (4 * (k : Int) + (j : Int)) < 32 := by omega
                      have HS := Lib.hid hset
                      clear hset hv
                      go_wp2_with fail
                      have hcast : (xv : Int) / 2 ^ (24 - 8 * j) % 256 = ((xv / 2 ^ (24 - 8 * j) % 256 : Nat) : Int) := by rw [Int.natCast_emod, Int.natCast_ediv, Int.natCast_pow]; rfl
                      refine ⟨⟨j + 1, by omega, by go_num, by rw [hcast]; exact HS.out, hZ.far (p := ⟨go, 4 * k + j, none⟩) (by simp; omega) _, hb.setCell (by simp; omega) _⟩, by simp [intOf]; omega⟩
                    · obtain rfl : j = 4 := by omega
                      go_wp2_with fail
                      refine ⟨⟨k + 1, by omega, by go_num, hO, hZ, hb⟩, by simp [intOf]; omega⟩
                · obtain rfl : k = 8 := by omega
                  rw [outS_all HRL.out, ← HRR.out] at hO
                  have hRl : R.length = 32 := by rw [HRR.out]; exact HRL.out
                  have hi32 : (Try.prog.info? 24).map (·.size) = some (u8s R).size := by rw [u8s_size, hRl]; kernel_rfl
                  have HI2 := Lib.hid hi32
                  have HS2 : Hid ((u8s R).size = (u8s (List.replicate 32 0)).size) := by unfold Hid; rw [u8s_size, u8s_size, hRl]; rfl
                  have H1 := Lib.hid (u8s_one R)
                  clear hi32 hRl
                  go_wp2_with (first
                    | (refine wpList_load_blk rfl 24 (.tmp 7) rfl go rfl 24 (u8s R) _ hO Try.underlying24 rfl HI2.out ?_)
                    | (refine wpList_store_blk rfl 24 (.tmp 2) (.tmp 68) rfl w.heap.size 24 _ (u8s R) rfl rfl hZ HS2.out HI2.out H1.out ?_; intro w' hB' hk'))
                  refine post_blk rfl rfl w.heap.size 24 (u8s R) _ rfl hB' Try.underlying24 rfl HI2.out ⟨rfl, ?_⟩
                  exact ((Keeps.of_below (S := []) hb).trans' hk' (by simp)).below
end Go.Proofs.Ytkdkmnemmenikaa
