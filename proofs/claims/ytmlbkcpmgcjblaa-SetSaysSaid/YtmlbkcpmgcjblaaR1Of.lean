/- The walk of the reference's Of. -/
import Derived.Test.YtmlbkcpmgcjblaaR1Block
import Derived.Test.YtmlbkcpmgcjblaaShaD
import Derived.Test.YtmlbkcpmgcjblaaR1Xor
import Derived.Test.YtmlbkcpmgcjblaaApp
import Derived.Test.YtmlbkcpmgcjblaaStill
import Derived.Test.YtmlbkcpmgcjblaaSumW
namespace Go.Proofs.Ytmlbkcpmgcjblaa
open Go.RowKit

theorem step_own2 {w wr w' : World} {S S' : List Nat} {o : Obj} {t t' : TypeId} {cs cs' : Array Value} (hZ : Blk wr w.heap.size t cs) (hG : Blk wr (w.heap.size + 1) t' cs') (hb : Below w.heap.size w wr) (hS : ∀ x ∈ S, w.heap.size + 2 ≤ x)
    (hk : Keeps S (wr.alloc o) w') (hS' : S' = S ∨ S' = [(wr.alloc o).heap.size]) : Blk w' w.heap.size t cs ∧ Blk w' (w.heap.size + 1) t' cs' ∧ Below w.heap.size w w' ∧ ∀ x ∈ S', w.heap.size + 2 ≤ x := by
  have hl := hG.lt
  have hn : w.heap.size ∉ S := fun hx => by have := hS _ hx; omega
  have hn2 : w.heap.size + 1 ∉ S := fun hx => by have := hS _ hx; omega
  refine ⟨(hZ.alloc o).keeps hk hn, (hG.alloc o).keeps hk hn2, (((Keeps.of_below (S := []) hb).alloc o).trans' hk (fun x hx => .inr (by have := hS x hx; omega))).below, ?_⟩
  rcases hS' with rfl | rfl
  · exact hS
  · intro x hx
    simp at hx
    omega

set_option maxRecDepth 100000 in
set_option maxHeartbeats 4000000 in
theorem R1Of_any (A : Option Addr) (L cap : Nat) (l : List Nat) (w : World) (hl : l.length = L) (hr : Rd w A (l.map bv)) (hA : A = none → L = 0) (hx : ∀ x ∈ l, x < 256) (hn : L ≤ 1099511627776) :
    Calls Try.prog 95 #[.slice A L cap] w fun e w' => e = .returned (.agg (u8s (shaL l))) ∧ Below w.heap.size w w' := by
  have HL := Lib.hid hl
  have HR : Hid (shaL l = (blocksS beginS ((padS l).length / 64) (padS l)).flatMap bytes4) := rfl
  have h1 := one_begin
  rw [begin_lit] at h1
  have h4 : ∀ w', Blk w' (w.heap.size + 1) 116 #[.int .u32 1779033703, .int .u32 3144134277, .int .u32 1013904242, .int .u32 2773480762, .int .u32 1359893119, .int .u32 2600822924, .int .u32 528734635, .int .u32 1541459225] → Blk w' (w.heap.size + 1) 116 (u32s beginS) := fun w' h => by rw [begin_lit]; exact h
  have H4 := Lib.hid h4
  clear hl h4
  generalize shaL l = R at *
  go_enter Try.func95, Try.ntmps95
  have hb0 : Below w.heap.size w ((w.alloc (.cells (u8s (List.replicate 32 0)) 61)).alloc (.cells (u32s (List.replicate 8 0)) 116)) := (((Keeps.refl [] w).alloc _).alloc _).below
  have hZ0 : Blk ((w.alloc (.cells (u8s (List.replicate 32 0)) 61)).alloc (.cells (u32s (List.replicate 8 0)) 116)) w.heap.size 61 (u8s (List.replicate 32 0)) := (Blk.new w _ _).alloc _
  have hr0 : Rd ((w.alloc (.cells (u8s (List.replicate 32 0)) 61)).alloc (.cells (u32s (List.replicate 8 0)) 116)) A (l.map bv) := hr.below hb0
  have HA : ∀ ad, A = some ad → 0 < L → ad.block ≠ w.heap.size + 1 := fun ad e h0 hne => by
    obtain ⟨ad', e', h⟩ := hr.at_ (j := 0) (by rw [List.length_map, HL.out]; exact h0)
    have := World.block_lt_of_cell? w _ h
    rw [e] at e'; injection e' with e'; subst e'
    rw [add_block] at this; omega
  have HA2 := Lib.hid HA
  have hrn : L = 0 → l = [] := fun h => List.eq_nil_of_length_eq_zero (by rw [HL.out]; exact h)
  have HRN := Lib.hid hrn
  clear HA hr hrn
  go_wp2_with (first
    | (refine wpList_store_blk rfl 116 (.tmp 3) (.tmp 10) rfl (w.heap.size + 1) 116 _ _ rfl rfl (Blk.newAt (w.alloc _) _ _ _ (by simp)) rfl info8a h1 ?_
       intro w1 hB1 hk1
       have hG1 := H4.out w1 hB1
       have hZ1 : Blk w1 w.heap.size 61 (u8s (List.replicate 32 0)) := hZ0.keeps hk1 (by simp)
       have hb1 : Below w.heap.size w w1 := ((Keeps.of_below (S := []) hb0).trans' hk1 (by simp)).below
       have hr1 : Rd w1 A (l.map bv) := by
         rcases Nat.eq_zero_or_pos L with h | h
         · rw [HRN.out h]; exact Rd.nil _ _
         · exact hr0.keeps hk1 (fun ad e => by simpa using HA2.out ad e h)
       clear hk1 hB1 hZ0 hb0 hr0)
    | (at_builtin
       refine wpList_app rfl (.tmp 11) (.tmp 12) rfl (.slice (some ⟨w1.heap.size, 0, none⟩) 0 0) 0 [] [] (by rfl) ⟨by simp, .inl ⟨_, rfl, rfl, rfl⟩⟩ A L cap l (by rfl) HL.out (hr1.alloc _) hA (by omega) ?_
       intro A2 c2 w2 S2 hO2 hk2 hS2 hc2 hm2 _
       rw [Nat.zero_add, List.nil_append] at hO2
       have hS2a : S2 = [] ∨ S2 = [(w1.alloc (.cells #[] 5)).heap.size] := hS2
       have hS2b : ∀ x ∈ S2, w.heap.size + 2 ≤ x := by
         have hl1 := hG1.lt
         rcases hS2a with rfl | rfl
         · simp
         · intro x hx; simp at hx; omega
       have hZ2 := (hZ1.alloc (.cells #[] 5)).keeps hk2 (by simp)
       have hG2 := (hG1.alloc (.cells #[] 5)).keeps hk2 (by simp)
       have hb2 : Below w.heap.size w w2 := (((Keeps.of_below (S := []) hb1).alloc (.cells #[] 5)).trans hk2).below
       clear hS2 hS2a hk2 hZ1 hG1 hb1)
    | (at_builtin
       refine app_byte rfl (.tmp 13) (.tmp 14) rfl (.slice A2 L c2) L (l.map bv) S2 (by rfl) (hO2.alloc _) w2.heap.size 128 (by rfl) (cell_one_new _ _ _ 0 _ rfl) (by omega) ?_
       intro A3 c3 w3 S3 hown2 hk2 hS2 hc2 hm2))
  obtain ⟨hZ3, hG3, hb3, hS3'⟩ := step_own2 hZ2 hG2 hb2 hS2b hk2 hS2
  have h128 := map_bv_snoc l 128
  rw [show ((128 : Nat) : Int) = 128 from rfl] at h128
  rw [← h128, ← padTo_start, HL.out] at hown2
  clear h128
  have HF : Hid (fillS L = (119 - L % 64) % 64) := rfl
  have hF : fillS L < 64 := Nat.mod_lt _ (by omega)
  clear hk2 hS2 hO2 hS2b h1 hA HA2 HRN hr1 hZ2 hG2 hb2
  go_loopw [4] (fun v wr => ∃ (m : Nat) (S : List Nat) (A : Option Addr) (c : Nat), L + 1 ≤ m ∧ m ≤ L + 1 + fillS L ∧ v = .slice A m c ∧ Own wr 1 (.slice A m c) m ((padTo l m).map bv) S ∧ m ≤ c ∧ c ≤ maxLen ∧ (∀ x ∈ S, w.heap.size + 2 ≤ x) ∧
      Blk wr w.heap.size 61 (u8s (List.replicate 32 0)) ∧ Blk wr (w.heap.size + 1) 116 (u32s beginS) ∧ Below w.heap.size w wr) (fun v _ => L + 1 + fillS L - lenV v)
  case atStart => exact ⟨L + 1, S3, A3, c3, Nat.le_refl _, by omega, rfl, hown2, hc2, hm2, hS3', hZ3, hG3, hb3⟩
  case round =>
    clear hown2 hc2 hm2 hS3' hZ3 hG3 hb3
    obtain ⟨m, S, Am, cm, hm1, hm2, rfl, hown, hc, hcm, hS, hZ, hG, hb⟩ := hrel
    by_cases hlt2 : m < L + 1 + fillS L
    · have hne : m % 64 ≠ 56 := by have := HF.out; omega
      have hq : (((m : Int) % 64) == 56) = false := by rw [beq_eq_false_iff_ne]; omega
      have hq2 : (((m : Int) % 64) != 56) = true := by rw [bne_iff_ne]; omega
      clear hne
      go_wp2_with (at_builtin; refine app_byte rfl (.tmp 20) (.tmp 21) rfl (.slice Am m cm) m _ S (by rfl) (hown.alloc _) wr.heap.size 0 (by rfl) (cell_one_new _ _ _ 0 _ rfl) (by omega) ?_; intro A3 c3 w3 S3 hown3 hk3 hS3 hc3 hm3)
      obtain ⟨hZ3, hG3, hb3, hS3'⟩ := step_own2 hZ hG hb hS hk3 hS3
      have h0 := map_bv_snoc (padTo l m) 0
      rw [show ((0 : Nat) : Int) = 0 from rfl] at h0
      rw [← h0, ← padTo_succ _ _ (by rw [HL.out]; exact hm1)] at hown3
      go_roundw
      case rel => exact ⟨m + 1, S3, A3, c3, by omega, by omega, rfl, hown3, hc3, hm3, hS3', hZ3, hG3, hb3⟩
      case measure => simp only [lenV]; omega
    · obtain rfl : m = L + 1 + fillS L := by omega
      have hM : (L + 1 + fillS L) % 64 = 56 := by have := HF.out; omega
      have HM := Lib.hid hM
      have hq : (((L + 1 + fillS L : Nat) : Int) % 64 == 56) = true := by rw [beq_iff_eq]; omega
      have hq2 : (((L + 1 + fillS L : Nat) : Int) % 64 != 56) = false := by rw [bne_eq_false_iff_eq]; omega
      have HP2 : Hid (padTo l (L + 1 + fillS L) = l ++ [128] ++ List.replicate (fillS L) 0) := by unfold Hid padTo; rw [HL.out, show L + 1 + fillS L - (L + 1) = fillS L by omega]
      have hPl := padTo_len l (L + 1 + fillS L) (by rw [HL.out]; omega)
      have HPl := Lib.hid hPl
      clear hPl hM hm1 hm2 hlt2
      generalize padTo l (L + 1 + fillS L) = P at *
      have hmb : L + 1 + fillS L ≤ 1099511627840 := by omega
      generalize L + 1 + fillS L = m at *
      go_wp2_with fail
      generalize hwr : wr = w4 at *
      clear hwr
      go_loopw [4, 6] (fun v i wr => ∃ (k : Nat) (S : List Nat) (A : Option Addr) (c : Nat), k ≤ 8 ∧ i = .int .i64 k ∧ v = .slice A (m + k) c ∧ Own wr 1 (.slice A (m + k) c) (m + k) ((P ++ (lenS (L * 8)).take k).map bv) S ∧ m + k ≤ c ∧ c ≤ maxLen ∧ (∀ x ∈ S, w.heap.size + 2 ≤ x) ∧
        Blk wr w.heap.size 61 (u8s (List.replicate 32 0)) ∧ Blk wr (w.heap.size + 1) 116 (u32s beginS) ∧ Below w.heap.size w wr) (fun v _ _ => m + 8 - lenV v)
      case atStart => exact ⟨0, S, Am, cm, by omega, rfl, rfl, by simpa using hown, hc, hcm, hS, hZ, hG, hb⟩
      case round =>
        clear hown hc hcm hS hZ hG hb
        obtain ⟨k, S, Ak, ck, hk, rfl, rfl, hown, hc, hcm, hS, hZ, hG, hb⟩ := hrel
        by_cases hk8 : k < 8
        · have i0 : (0 : Int) ≤ 56 - 8 * (k : Int) := by omega
          have i1 : 56 - 8 * (k : Int) ≤ 64 := by omega
          have hv := lenS_get (L * 8) k hk8
          rw [show ((L * 8 : Nat) : Int) = (L : Int) * 8 by omega] at hv
          have HV := Lib.hid hv
          clear hv
          go_wp2_with (at_builtin; refine app_byte rfl (.tmp 31) (.tmp 39) rfl (.slice Ak (m + k) ck) (m + k) _ S (by rfl) (hown.alloc _) wr.heap.size _ (by rfl) (cell_one_new _ _ _ 0 _ rfl) (by omega) ?_; intro A3 c3 w3 S3 hown3 hk3 hS3 hc3 hm3)
          obtain ⟨hZ3, hG3, hb3, hS3'⟩ := step_own2 hZ hG hb hS hk3 hS3
          rw [HV.out, ← map_bv_snoc, List.append_assoc, ← lenS_take _ _ hk8] at hown3
          exact ⟨⟨k + 1, S3, A3, c3, by omega, by go_num, rfl, hown3, hc3, hm3, hS3', hZ3, hG3, hb3⟩, by simp only [lenV]; omega⟩
        · obtain rfl : k = 8 := by omega
          rw [show ((8 : Nat) : Int) = 8 from rfl]
          rw [List.take_of_length_le (by simp [lenS])] at hown
          have hpad : P ++ lenS (L * 8) = padS l := by rw [HP2.out]; unfold padS; rw [HL.out]
          rw [hpad] at hown
          have hpl : (padS l).length = m + 8 := by rw [← hpad, List.length_append, HPl.out]; rfl
          have hpx : ∀ x ∈ padS l, x < 256 := by
            intro x hx'
            rw [← hpad, HP2.out] at hx'
            simp only [List.mem_append, List.mem_singleton, List.mem_replicate] at hx'
            rcases hx' with ((hx' | hx') | hx') | hx'
            · exact hx x hx'
            · omega
            · omega
            · simp only [lenS, List.mem_cons, List.not_mem_nil, or_false] at hx'; omega
          have hq : (m + 8) % 64 = 0 := by have := HM.out; omega
          have HR2 : Hid (R = (blocksS beginS ((m + 8) / 64) (padS l)).flatMap bytes4) := by rw [← hpl]; exact HR
          have HPL := Lib.hid hpl
          have HPX := Lib.hid hpx
          clear hpad hpl hpx HP2 HPl HR HM hx
          generalize padS l = p at *
          have hbb : m + 8 ≤ 1099511627848 := by omega
          obtain ⟨qn, hqn⟩ : ∃ qn, m + 8 = 64 * qn := ⟨(m + 8) / 64, by omega⟩
          have hqd : (m + 8) / 64 = qn := by omega
          rw [hqd] at HR2
          have HQ := Lib.hid hqn
          have hrd := hown.rd
          have hnil : Ak = none → qn = 0 := fun e => by
            rcases Nat.eq_zero_or_pos (m + 8) with h0 | h0
            · omega
            · obtain ⟨ad', e', _⟩ := hown.addr h0
              rw [e] at e'; cases e'
          have hsep : ∀ ad, Ak = some ad → 0 < m + 8 → w.heap.size + 2 ≤ ad.block := fun ad e h0 => by
            obtain ⟨ad', e', hm⟩ := hown.addr h0
            rw [e] at e'
            injection e' with e'
            subst e'
            exact hS _ hm
          rw [hqn] at hc hbb hsep HPL ⊢
          clear hqn hqd hq hmb hown hS HQ HF hF
          go_wp2_with fail
          generalize hwr : wr = w5 at *
          clear hwr
          go_loopw [7] (fun i wr => ∃ (j f : Nat) (st : List Nat), j ≤ qn ∧ f = 64 * j ∧ i = .int .i64 f ∧ Hid (st.length = 8) ∧ Blk wr (w.heap.size + 1) 116 (u32s st) ∧ Blk wr w.heap.size 61 (u8s (List.replicate 32 0)) ∧ Rd wr Ak (p.map bv) ∧ Below w.heap.size w wr ∧
            Hid (blocksS beginS qn p = blocksS st (qn - j) (p.drop f))) (fun i _ => 64 * qn - (intOf i).toNat)
          case atStart => exact ⟨0, 0, beginS, by omega, rfl, rfl, rfl, hG, hZ, hrd, hb, by unfold Hid; rw [List.drop_zero]; rfl⟩
          case round =>
            clear hG hZ hrd hb
            obtain ⟨j, f, st, hj, hf, rfl, Hst, hG, hZ, hrd, hb, HE⟩ := hrel
            by_cases hjq : j < qn
            · have hsl : ∀ W, (Instr.slice 70 (.slice Ak (64 * qn) ck) (some (.int .i64 (f : Int))) (some (.int .i64 ((f : Int) + 64))) none).run Try.prog W = .ok (.slice (subA Ak ck f) 64 (ck - f)) W := fun W => by
                have h := slice_mid Ak (64 * qn) ck f (f + 64) (by omega) (by omega) W
                rw [show f + 64 - f = 64 by omega, show ((f + 64 : Nat) : Int) = (f : Int) + 64 by omega] at h
                exact h
              have e1 : IntKind.i64.wrap ((f : Int) + 64) = (f : Int) + 64 := IntWalk.i64_in _ (by omega)
              have hfq : (f : Int) < ((64 * qn : Nat) : Int) := by omega
              have hi8 := info8a.trans (congrArg some ((u32s_size st).trans Hst.out).symm)
              have hld := load_blk hG.drew Try.underlying116 rfl hi8
              have hblk := subA_rd (cap := ck) (f := f) (t := f + 64) hrd.drew (by rw [HPL.out]; exact hc) (by rw [HPL.out]; omega)
              have hbl : ((p.take (f + 64)).drop f).length = 64 := by rw [List.length_drop, List.length_take, HPL.out]; omega
              have hE2 : blocksS st (qn - j) (p.drop f) = blocksS (blockS st ((p.take (f + 64)).drop f)) (qn - (j + 1)) (p.drop (f + 64)) := by
                obtain ⟨q, hq⟩ : ∃ q, qn - j = q + 1 := ⟨qn - j - 1, by omega⟩
                rw [hq, show qn - (j + 1) = q by omega, blocksS_all, List.drop_drop, List.drop_take, show f + 64 - f = 64 by omega]
              have HSL := Lib.hid hsl
              have HLD := Lib.hid hld
              have HE2 := Lib.hid (HE.out.trans hE2)
              have HB8 := Lib.hid hi8
              have hS8 := u32s_one (blockS st ((p.take (f + 64)).drop f))
              have hL8 := blockS_len st ((p.take (f + 64)).drop f) Hst.out
              have HL8 := Lib.hid hL8
              have hbk := block_any (subA Ak ck f) (ck - f) st ((p.take (f + 64)).drop f) wr.drew Hst.out hbl hblk (fun x hx => HPX.out x (List.mem_of_mem_take (List.mem_of_mem_drop hx)))
              have HBK := Lib.hid hbk
              have HF := Lib.hid hf
              have hfb : f + 64 ≤ 64 * qn := by omega
              clear hsl hld hE2 HE hi8 hblk hbl hL8 hbk hf
              generalize blockS st ((p.take (f + 64)).drop f) = st2 at *
              go_wp2_with fail
              have hsl := HSL.out
              refine wp_region_still_tail 6 (by kernel_rfl) (by kernel_rfl) ?_
              simp only [List.take_succ_cons, List.take_zero, List.drop_succ_cons, List.drop_zero]
              refine wpStill_load rfl 116 (.tmp 3) rfl _ _ rfl HLD.out ?_
              repeat still_step
              refine wpStill_nil ?_
              clear hsl
              go_wp2_with fail
              refine HBK.out.mono ?_
              rintro e w6 ⟨rfl, hb6⟩
              have hG6 := hG.drew.below hb6
              have HS8 : Hid ((u32s st2).size = (u32s st).size) := by unfold Hid; rw [u32s_size, u32s_size, HL8.out, Hst.out]
              have HI8 := Lib.hid (info8a.trans (congrArg some ((u32s_size st2).trans HL8.out).symm))
              go_wp2_with (refine wpList_store_blk rfl 116 (.tmp 3) (.tmp 53) rfl (w.heap.size + 1) 116 _ (u32s st2) rfl rfl hG6 HS8.out HI8.out hS8 ?_; intro w7 hB7 hk7)
              go_roundw
              case rel =>
                exact ⟨j + 1, f + 64, st2, by omega, by have := HF.out; omega, by go_num, HL8, hB7, (hZ.drew.below hb6).keeps hk7 (by simp), (hrd.drew.below hb6).keeps hk7 (fun ad e => by have := hsep ad e (by omega); simp; omega),
                  ((Keeps.of_below (S := []) (hb.drew.trans (hb6.mono hb.size))).trans' hk7 (by simp)).below, HE2⟩
              case measure => simp [intOf]; omega
            · obtain rfl : j = qn := by omega
              have hE := HE.out
              rw [Nat.sub_self] at hE
              have hRF : R = st.flatMap bytes4 := by rw [HR2.out, hE]; rfl
              have hRl : R.length = 32 := by rw [hRF, flat4_len, Hst.out]
              have hfg : ∀ k, k < 32 → R.getD k 0 = st.getD (k / 4) 0 / 2 ^ (24 - 8 * (k % 4)) % 256 := fun k hk => by
                rw [hRF]
                have h := flat_get st (k / 4) (k % 4) (by rw [Hst.out]; omega) (by omega)
                rwa [show 4 * (k / 4) + k % 4 = k by omega] at h
              have HFG := Lib.hid hfg
              have HRL := Lib.hid hRl
              clear hRF hRl hfg hE HE HR2 hsep hnil hrd HPX HPL
              go_wp2_with fail
              have hO : Blk (wr.alloc (.cells (u8s (List.replicate 32 0)) 61)) wr.heap.size 61 (u8s (outS R 0)) := Blk.new wr _ _
              have hG9 := hG.alloc (.cells (u8s (List.replicate 32 0)) 61)
              have hZ9 := hZ.alloc (.cells (u8s (List.replicate 32 0)) 61)
              have hb9 : Below w.heap.size w (wr.alloc (.cells (u8s (List.replicate 32 0)) 61)) := ((Keeps.of_below (S := []) hb).alloc _).below
              have hgs : w.heap.size + 1 < wr.heap.size := hG.lt
              clear hG hZ hb
              generalize wr.heap.size = gs at *
              go_loopw [9] (fun i wr => ∃ k : Nat, k ≤ 32 ∧ i = .int .i64 k ∧ Blk wr gs 61 (u8s (outS R k)) ∧ Blk wr (w.heap.size + 1) 116 (u32s st) ∧ Blk wr w.heap.size 61 (u8s (List.replicate 32 0)) ∧ Below w.heap.size w wr) (fun i _ => 32 - (intOf i).toNat)
              case atStart => exact ⟨0, by omega, rfl, hO, hG9, hZ9, hb9⟩
              case round =>
                clear hO hG9 hZ9 hb9
                obtain ⟨k, hk, rfl, hO, hG, hZ, hb⟩ := hrel
                by_cases hk32 : k < 32
                · have hset := hO.set k (.int .u8 ((R.getD k 0 : Nat) : Int))
                  rw [outS_set HRL.out hk32, HFG.out k hk32] at hset
                  have hc0 : wr.cell? ⟨gs, k, none⟩ = some (.int .u8 (((outS R k).getD k 0 : Nat) : Int)) := by rw [hO.cell, u8s_get (by rw [outS_len HRL.out (by omega)]; omega)]
                  have hf0 := hO.frozen k
                  have hc1 : wr.cell? ⟨w.heap.size + 1, k / 4, none⟩ = some (.int .u32 ((st.getD (k / 4) 0 : Nat) : Int)) := by rw [hG.cell, u32s_get (by rw [Hst.out]; omega)]
                  have hq : (k : Int) / 4 = ((k / 4 : Nat) : Int) := by omega
                  have hm : (k : Int) % 4 = ((k % 4 : Nat) : Int) := by omega
                  have q8 : k / 4 < 8 := by omega
                  have m4 : k % 4 < 4 := by omega
                  have HS := Lib.hid hset
                  clear hset
                  generalize (outS R k).getD k 0 = y at *
                  generalize k / 4 = q at *
                  generalize k % 4 = m at *
                  generalize st.getD q 0 = xv at *
                  have q8i : (q : Int) < 8 := by omega
                  have i0 : (0 : Int) ≤ 24 - 8 * (m : Int) := by omega
                  have i1 : 24 - 8 * (m : Int) ≤ 32 := by omega
                  have i2 : 8 * (m : Int) ≤ 24 := by omega
                  have i3 : (k : Int) < 32 := by omega
                  go_wp2_with fail
                  have hcast : (xv : Int) / 2 ^ (24 - 8 * m) % 256 = ((xv / 2 ^ (24 - 8 * m) % 256 : Nat) : Int) := by rw [Int.natCast_emod, Int.natCast_ediv, Int.natCast_pow]; rfl
                  exact ⟨⟨k + 1, by omega, by go_num, by rw [hcast]; exact HS.out, hG.far (p := ⟨gs, k, none⟩) (by simp; omega) _, hZ.far (p := ⟨gs, k, none⟩) (by simp; omega) _, hb.setCell (p := ⟨gs, k, none⟩) (by simp; omega) _⟩, by simp [intOf]; omega⟩
                · obtain rfl : k = 32 := by omega
                  rw [outS_all HRL.out] at hO
                  have HI2 := Lib.hid (info47.trans (congrArg some ((u8s_size R).trans HRL.out).symm))
                  have HS2 : Hid ((u8s R).size = (u8s (List.replicate 32 0)).size) := by unfold Hid; rw [u8s_size, u8s_size, HRL.out]; rfl
                  have H1 := Lib.hid (u8s_one R)
                  go_wp2_with (first
                    | (refine wpList_load_blk rfl 61 (.tmp 8) rfl gs rfl 61 (u8s R) _ hO Try.underlying61 rfl HI2.out ?_)
                    | (refine wpList_store_blk rfl 61 (.tmp 2) (.tmp 71) rfl w.heap.size 61 _ (u8s R) rfl rfl hZ HS2.out HI2.out H1.out ?_; intro w' hB' hk'))
                  refine post_blk rfl rfl w.heap.size 61 (u8s R) _ rfl hB' Try.underlying61 rfl HI2.out ⟨rfl, ?_⟩
                  exact ((Keeps.of_below (S := []) hb).trans' hk' (by simp)).below
end Go.Proofs.Ytmlbkcpmgcjblaa
