/- Layer 1: the walk of SumSays. -/
import Derived.Test.YtbhlaafahfeacaaSumE
import Derived.Test.YtbhlaafahfeacaaR1Parse
import Derived.Test.YtbhlaafahfeacaaR1Of
namespace Go.Proofs.Ytbhlaafahfeacaa
open Go.RowKit

/-- The sum of bytes. -/
def shaSm (l : List Nat) : Sm := ⟨shaL l, shaL_len l, shaL_lt l⟩
theorem load_ref {w : World} {g : Nat} {t : TypeId} (x : Sm) (hB : Blk w g t (u8s x.l)) :
    ∀ w' : World, (∃ p : Later w, w' = p.wd) → (Instr.loadAt 47 (.pointer (some ⟨g, 0, none⟩))).run Try.prog w' = .ok (.agg (u8s x.l)) w' :=
  load_later hB Try.underlying47 rfl (info47.trans (congrArg some ((u8s_size x.l).trans x.len).symm))
theorem eql_ref (x y : Sm) (w : World) : (binOp .eql 47 (.agg (u8s x.l)) (.agg (u8s y.l))).run Try.prog w = .ok (.bool (decide (x = y))) w := by
  obtain ⟨i, hi⟩ := info_at
  have h := run_eql_bytes (P := Try.prog) 47 _ 32 i Try.underlying47 hi (by kernel_rfl) Try.underlying5 Try.isAgg5 x.l y.l x.len y.len w
  rw [h]
  congr 2
  simp only [Sm.eq_iff]
theorem quiet_build47 {o : Oper} {a : Act} {C : World → Prop} {K : Act → Prop} (ho : o.op = .build 47 #[]) (hk : K (a.put o.dst (.agg (u8s Sm.zero.l)))) : o.quiet Try.prog a C K :=
  ⟨_, fun w _ => by
    have hz := Try.zeroValue47
    have e : u8s Sm.zero.l = #[.int .u8 0, .int .u8 0, .int .u8 0, .int .u8 0, .int .u8 0, .int .u8 0, .int .u8 0, .int .u8 0, .int .u8 0, .int .u8 0, .int .u8 0, .int .u8 0, .int .u8 0, .int .u8 0, .int .u8 0, .int .u8 0, .int .u8 0, .int .u8 0, .int .u8 0, .int .u8 0, .int .u8 0, .int .u8 0, .int .u8 0, .int .u8 0, .int .u8 0, .int .u8 0, .int .u8 0, .int .u8 0, .int .u8 0, .int .u8 0, .int .u8 0, .int .u8 0] := zeros_lit
    unfold Oper.quietAt execOp
    rw [ho, e]
    simp [go_sem, hz, Oper.quietUpon], hk⟩
theorem quiet_build47' {o : Oper} {a : Act} {C : World → Prop} {K : Act → Prop} (N0 : Array Value) (e : u8s Sm.zero.l = N0) (ho : o.op = .build 47 #[]) (hk : K (a.put o.dst (.agg N0))) : o.quiet Try.prog a C K := by
  subst e; exact quiet_build47 ho hk
theorem parts_two {w : World} {g : Nat} {A B : Option Addr} {c d : Nat} {a b : List Nat} (h0 : w.cell? ⟨g, 0, none⟩ = some (.slice A a.length c)) (h1 : w.cell? ⟨g, 1, none⟩ = some (.slice B b.length d))
    (hr1 : Rd w A (a.map bv)) (hr2 : Rd w B (b.map bv)) (hA : A = none → a = []) (hB : B = none → b = []) (hx1 : ∀ x ∈ a, x < 256) (hx2 : ∀ x ∈ b, x < 256) : Parts w g 0 [a, b] := by
  intro i k hi
  match i, hi with
  | 0, hi =>
    simp only [List.getElem?_cons_zero, Option.some.injEq] at hi
    subst hi
    exact ⟨A, c, h0, hr1, hA, hx1⟩
  | 1, hi =>
    simp only [List.getElem?_cons_succ, List.getElem?_cons_zero, Option.some.injEq] at hi
    subst hi
    exact ⟨B, d, h1, hr2, hB, hx2⟩

set_option maxRecDepth 100000 in
set_option maxHeartbeats 4000000 in
theorem lawSumSays_any (A B : Option Addr) (n c m d : Nat) (a b : List Nat) (t : ByteArray) (i : Int) (w : World) (hl1 : a.length = n) (hc1 : n ≤ c) (hr1 : Rd w A (a.map bv)) (hA : A = none → n = 0) (hx1 : ∀ x ∈ a, x < 256) (hn1 : n ≤ maxLen)
    (hl2 : b.length = m) (hc2 : m ≤ d) (hr2 : Rd w B (b.map bv)) (hB : B = none → m = 0) (hx2 : ∀ x ∈ b, x < 256) (hn2 : m ≤ maxLen) :
    Calls Try.prog 13 #[.slice A n c, .slice B m d, .string t, .int .i64 i] w fun e w' => e = .returned (.bool true) ∧ Below w.heap.size w w' := by
  unfold maxLen at hn1 hn2
  subst hl1
  subst hl2
  have HX1 := Lib.hid hx1
  have HX2 := Lib.hid hx2
  have HAn := Lib.hid (fun e => List.eq_nil_of_length_eq_zero (hA e))
  have HBn := Lib.hid (fun e => List.eq_nil_of_length_eq_zero (hB e))
  clear hx1 hx2 hA hB hc1 hc2
  go_enter Try.func13, Try.ntmps13
  go_wp2_with fail
  refine (awake1_any _).mono ?_
  rintro e w1 ⟨rfl, hb1⟩
  by_cases c1 : 3000 < a.length
  · have c1' : (3000 : Int) < (a.length : Int) := by omega
    go_wp2_with fail
    go_ret
    exact ⟨rfl, hb1⟩
  · have c1' : decide ((3000 : Int) < (a.length : Int)) = false := decide_eq_false (by omega)
    by_cases c2 : 3000 < b.length
    · have c2' : (3000 : Int) < (b.length : Int) := by omega
      go_wp2_with fail
      go_ret
      exact ⟨rfl, hb1⟩
    · have c2' : decide ((3000 : Int) < (b.length : Int)) = false := decide_eq_false (by omega)
      have l1 : a.length ≤ 3000 := by omega
      have l2 : b.length ≤ 3000 := by omega
      have hr1' := hr1.below hb1
      have hr2' := hr2.below hb1
      clear hr1 hr2 c1 c2
      go_wp2_with fail
      have hB1 := Blk.new w1 22 #[.slice A a.length c, .slice B b.length d]
      refine (Of_any (some ⟨w1.heap.size, 0, none⟩) w1.heap.size 0 2 2 [a, b] _ rfl (by omega) (fun _ => rfl) (parts_two (hB1.cell 0) (hB1.cell 1) (hr1'.alloc _) (hr2'.alloc _) HAn.out HBn.out HX1.out HX2.out) (by simp; omega) (by omega)).mono ?_
      rintro e w2 ⟨rfl, hb2⟩
      have hf : [a, b].flatten = a ++ b := by simp
      rw [hf]
      have hbA : Below w1.heap.size w1 w2 := ((Keeps.refl [] w1).alloc _).below.trans (hb2.mono (by simp))
      have hr1'' := hr1'.below hbA
      have hr2'' := hr2'.below hbA
      have hbB := hb1.trans (hbA.mono hb1.size)
      clear hb1 hb2 hbA hr1' hr2' hf hB1
      go_wp2_with fail
      have hB2 := Blk.new w2 22 #[.slice B b.length d]
      refine (Of_any (some ⟨w2.heap.size, 0, none⟩) w2.heap.size 0 1 1 [b] _ rfl (by omega) (fun _ => rfl) (parts_one (hB2.cell 0) (hr2''.alloc _) HBn.out HX2.out) (by simp; omega) (by omega)).mono ?_
      rintro e w3 ⟨rfl, hb3⟩
      have hf : [b].flatten = b := by simp
      rw [hf]
      have hbA : Below w2.heap.size w2 w3 := ((Keeps.refl [] w2).alloc _).below.trans (hb3.mono (by simp))
      have hr1' := hr1''.below hbA
      have hr2' := hr2''.below hbA
      have hb3' := hbB.trans (hbA.mono hbB.size)
      clear hbB hb3 hbA hr1'' hr2'' hf hB2
      have hSA : Hid (shaL (a ++ b) = (shaSm (a ++ b)).l) := rfl
      have hSB : Hid (shaL b = (shaSm b).l) := rfl
      rw [hSA.out, hSB.out]
      generalize hp : shaSm (a ++ b) = p at *
      generalize hq : shaSm b = q at *
      clear hp hq
      have hsz : ∀ x : Sm, (u8s x.l).size = (u8s (List.replicate 32 0)).size := fun x => by rw [u8s_size, u8s_size, x.len]; rfl
      have hi27 : ∀ x : Sm, (Try.prog.info? 27).map (·.size) = some (u8s x.l).size := fun x => info32.trans (congrArg some ((u8s_size x.l).trans x.len).symm)
      have hi47 : ∀ x : Sm, (Try.prog.info? 47).map (·.size) = some (u8s x.l).size := fun x => info47.trans (congrArg some ((u8s_size x.l).trans x.len).symm)
      have HSZ := Lib.hid hsz
      have HI27 := Lib.hid hi27
      have HI47 := Lib.hid hi47
      clear hsz hi27 hi47
      have hA0 : A = none → a.length = 0 := fun e => by rw [HAn.out e]; rfl
      have hB0 : B = none → b.length = 0 := fun e => by rw [HBn.out e]; rfl
      have HA0 := Lib.hid hA0
      have HB0 := Lib.hid hB0
      clear hA0 hB0 c1' c2'
      generalize hla : a.length = n at *
      generalize hlb : b.length = m at *
      have HLA := Lib.hid hla
      have HLB := Lib.hid hlb
      clear hla hlb
      go_wp2_with (first
        | (refine wpList_store_blk rfl 27 (.tmp 9) (.tmp 30) rfl w3.heap.size 27 _ (u8s p.l) rfl rfl ((Blk.new w3 _ _).alloc _) (HSZ.out p) (HI27.out p) (u8s_one _) ?_; intro w4 hB4 hk4)
        | (refine wpList_store_blk rfl 27 (.tmp 10) (.tmp 33) rfl (w3.heap.size + 1) 27 _ (u8s q.l) rfl rfl ((Blk.newAt (w3.alloc _) _ _ _ (by simp)).keeps hk4 (by simp)) (HSZ.out q) (HI27.out q) (u8s_one _) ?_
           intro w5 hB5 hk5
           have h9 : Blk w5 w3.heap.size 27 (u8s p.l) := hB4.keeps hk5 (by simp)
           have hk35 : Keeps [] w3 w5 := (((((Keeps.refl [] w3).alloc _).alloc _).trans' hk4 (by simp)).trans' hk5 (by simp))
           have hb5 : Below w.heap.size w w5 := hb3'.trans (hk35.below.mono hb3'.size)
           have hr1'' := hr1'.below hk35.below
           have hr2'' := hr2'.below hk35.below
           clear hb3' hk35 hk4 hk5 hB4 hr1' hr2')
        | (at_builtin
           refine wpList_app rfl (.tmp 34) (.tmp 35) rfl (.slice (some ⟨w5.heap.size, 0, none⟩) 0 0) 0 [] [] (by rfl) ⟨by simp, .inl ⟨_, rfl, rfl, rfl⟩⟩ A n c a (by rfl) HLA.out (hr1''.alloc _) HA0.out (by omega) ?_
           intro A2 c2 w6 S2 hO2 hk2 hS2 hc2 hm2 _
           rw [Nat.zero_add, List.nil_append] at hO2
           have hk6 : Keeps [] w5 w6 := ((Keeps.refl [] w5).alloc _).trans hk2
           have hS2a : S2 = [] ∨ S2 = [(w5.alloc (.cells #[] 5)).heap.size] := hS2
           have hS2b : ∀ x ∈ S2, w5.heap.size ≤ x := by
             rcases hS2a with rfl | rfl
             · simp
             · intro x hx; simp at hx; omega
           have hr26 := hr2''.below hk6.below)
        | (at_builtin
           refine wpList_app rfl (.tmp 36) (.tmp 37) rfl (.slice A2 n c2) n _ S2 (by rfl) hO2 B m d b (by rfl) HLB.out hr26 HB0.out (by omega) ?_
           intro A3 c3 w7 S3 hO3 hk3 hS3 hc3 hm3 hA3))
      generalize w3.heap.size = g9 at *
      have hk7 : Keeps [] w5 w7 := hk6.trans' hk3 (fun x hx => .inr (hS2b x hx))
      have hrd7 := hO3.rd
      rw [← List.map_append] at hrd7
      refine (R1Of_any A3 (n + m) c3 (a ++ b) w7 (by rw [List.length_append, HLA.out, HLB.out]) hrd7 (fun e => (hA3 e).1) (fun x hx => by rcases List.mem_append.1 hx with h | h; exact HX1.out x h; exact HX2.out x h) (by omega)).mono ?_
      rintro e w8 ⟨rfl, hb8⟩
      rw [hSA.out]
      have hk8 : Below w5.heap.size w5 w8 := hk7.below.trans (hb8.mono hk7.size)
      have hr28 := hr2''.below hk8
      clear hk6 hk7 hb8 hrd7 hO2 hO3 hk2 hk3 hr26 hS2b hS2 hS3 hA3 hc2 hm2 hc3 hm3
      go_wp2_with fail
      refine (R1Of_any B m d b w8 HLB.out hr28 HB0.out HX2.out (by omega)).mono ?_
      rintro e w9 ⟨rfl, hb9⟩
      rw [hSB.out]
      have hk9 : Below w5.heap.size w5 w9 := hk8.trans (hb9.mono hk8.size)
      have h9a := h9.below hk9
      have h10a := hB5.below hk9
      have hb9' : Below w.heap.size w w9 := hb5.trans (hk9.mono hb5.size)
      have hg9 := hB5.lt
      have hg9' := hk9.size
      clear hk8 hb9 hk9 hr28 hr1'' hr2'' h9 hB5 hb5
      go_wp2_with (first
        | (refine wpList_store_blk rfl 47 (.tmp 11) (.tmp 39) rfl w9.heap.size 47 _ (u8s p.l) rfl rfl ((Blk.new w9 _ _).alloc _) (HSZ.out p) (HI47.out p) (u8s_one _) ?_; intro w10 hB10 hk10)
        | (refine wpList_store_blk rfl 47 (.tmp 12) (.tmp 41) rfl (w9.heap.size + 1) 47 _ (u8s q.l) rfl rfl ((Blk.newAt (w9.alloc _) _ _ _ (by simp)).keeps hk10 (by simp)) (HSZ.out q) (HI47.out q) (u8s_one _) ?_; intro w11 hB11 hk11))
      have h11 : Blk w11 w9.heap.size 47 (u8s p.l) := hB10.keeps hk11 (by simp)
      have hk911 : Keeps [] w9 w11 := (((((Keeps.refl [] w9).alloc _).alloc _).trans' hk10 (by simp)).trans' hk11 (by simp))
      have h9b := h9a.below hk911.below
      have h10b := h10a.below hk911.below
      have hb11 : Below w.heap.size w w11 := hb9'.trans (hk911.below.mono hb9'.size)
      clear hk911 hk10 hk11 hB10 h9a h10a hb9' hg9 hg9'
      generalize w9.heap.size = g11 at *
      refine (Parse_any t w11).mono ?_
      rintro e w12 ⟨rfl, hb12⟩
      have hz : Hid (parseL (sB t) = (parseS (sB t)).l) := rfl
      rw [hz.out]
      have h9c := h9b.below hb12
      have h10c := h10b.below hb12
      have h11c := h11.below hb12
      have h12c := hB11.below hb12
      have hb12' := hb11.trans (hb12.mono hb11.size)
      clear h9b h10b h11 hB11 hb11 hb12
      generalize hzz : parseS (sB t) = z at *
      generalize hok : parseOk (sB t) = ok at *
      have HOK := Lib.hid hok
      clear hzz hok
      go_wp2_with (first
        | (refine wpList_store_blk rfl 27 (.tmp 13) (.tmp 45) rfl w12.heap.size 27 _ (u8s z.l) rfl rfl (Blk.new w12 _ _) (HSZ.out z) (HI27.out z) (u8s_one _) ?_; intro w13 hB13 hk13))
      have hk123 : Keeps [] w12 w13 := ((Keeps.refl [] w12).alloc _).trans' hk13 (by simp)
      have h9d := h9c.below hk123.below
      have h10d := h10c.below hk123.below
      have h11d := h11c.below hk123.below
      have h12d := h12c.below hk123.below
      have hb13 := hb12'.trans (hk123.below.mono hb12'.size)
      clear h9c h10c h11c h12c hb12' hk123 hk13
      generalize w12.heap.size = g13 at *
      refine (R1Parse_any t w13).mono ?_
      rintro e w14 ⟨rfl, hb14⟩
      rw [hz.out, HOK.out]
      have h9e := h9d.below hb14
      have h10e := h10d.below hb14
      have h11e := h11d.below hb14
      have h12e := h12d.below hb14
      have h13e := hB13.below hb14
      have hb14' := hb13.trans (hb14.mono hb13.size)
      clear h9d h10d h11d h12d hB13 hb13 hb14
      go_wp2_with (first
        | (refine wpList_store_blk rfl 47 (.tmp 15) (.tmp 50) rfl w14.heap.size 47 _ (u8s z.l) rfl rfl (Blk.new w14 _ _) (HSZ.out z) (HI47.out z) (u8s_one _) ?_; intro w15 hB15 hk15))
      have hk145 : Keeps [] w14 w15 := ((Keeps.refl [] w14).alloc _).trans' hk15 (by simp)
      have h9f := h9e.below hk145.below
      have h10f := h10e.below hk145.below
      have h11f := h11e.below hk145.below
      have h12f := h12e.below hk145.below
      have h13f := h13e.below hk145.below
      have hb15 := hb14'.trans (hk145.below.mono hb14'.size)
      clear h9e h10e h11e h12e h13e hb14' hk145 hk15 hz HOK
      generalize w14.heap.size = g15 at *
      have lx := load_sum p h9f
      have ly := load_sum q h10f
      have lt := load_sum z h13f
      have l3 := load_ref p h11f
      have l4 := load_ref q h12f
      have l5 := load_ref z hB15
      have hTx := fun W => Text_any p W
      have hRx := fun W => R1Text_any p W
      have hCxy := fun W => Cmp_any p q W
      have hRxy := fun W => R1Cmp_any p q W
      have hWx := fun W => Word_any p i W
      have hRW := fun W => R1Word_any p i W
      have hXxy := fun W => Xor_any p q W
      have hRX := fun W => R1Xor_any p q W
      have hZx := fun W => Zero_any p W
      have hepp : ∀ W, (binOp .eql 47 (.agg (u8s p.l)) (.agg (u8s p.l))).run Try.prog W = .ok (.bool true) W := fun W => by rw [eql_ref, decide_eq_true rfl]
      have heqq : ∀ W, (binOp .eql 47 (.agg (u8s q.l)) (.agg (u8s q.l))).run Try.prog W = .ok (.bool true) W := fun W => by rw [eql_ref, decide_eq_true rfl]
      have hezz : ∀ W, (binOp .eql 47 (.agg (u8s z.l)) (.agg (u8s z.l))).run Try.prog W = .ok (.bool true) W := fun W => by rw [eql_ref, decide_eq_true rfl]
      have hexx : ∀ W, (binOp .eql 47 (.agg (u8s (p.xor q).l)) (.agg (u8s (p.xor q).l))).run Try.prog W = .ok (.bool true) W := fun W => by rw [eql_ref, decide_eq_true rfl]
      have hep0 := fun W => eql_ref p Sm.zero W
      have hgd : Try.prog.eqGuardType Try.prog.depth 47 = false := by kernel_rfl
      have HTx := Lib.hid hTx
      have HRx := Lib.hid hRx
      have HCxy := Lib.hid hCxy
      have HRxy := Lib.hid hRxy
      have HWx := Lib.hid hWx
      have HRW := Lib.hid hRW
      have HXxy := Lib.hid hXxy
      have HRX := Lib.hid hRX
      have HZx := Lib.hid hZx
      have Hepp := Lib.hid hepp
      have Heqq := Lib.hid heqq
      have Hezz := Lib.hid hezz
      have Hexx := Lib.hid hexx
      have Hep0 := Lib.hid hep0
      clear hTx hRx hCxy hRxy hWx hRW hXxy hRX hZx hepp heqq hezz hexx hep0 h9f h10f h11f h12f h13f hB15 HSZ HI27 HI47 hSA hSB HX1 HX2 HAn HBn HA0 HB0 HLA HLB
      generalize decide (p = Sm.zero) = c0 at *
      generalize strB (hexS p.l) = tx at *
      generalize wordL p.l i = a0 at *
      generalize cmpL p.l q.l = P at *
      generalize u8s (p.xor q).l = XY at *
      generalize hgX : u8s p.l = X at *
      generalize hgY : u8s q.l = Y at *
      generalize hgZ : u8s z.l = Z at *
      generalize hgN : u8s Sm.zero.l = N0 at *
      have HGN := Lib.hid hgN
      clear hgX hgY hgZ hgN
      refine wp_region_later (by kernel_rfl) (by kernel_rfl) ?_
      repeat (first
        | go_big_quiet_skip
        | (go_big_quiet_want
           first
           | ((first | refine quiet_load _ _ rfl _ _ rfl lx ?_ | refine quiet_load _ _ rfl _ _ rfl ly ?_ | refine quiet_load _ _ rfl _ _ rfl lt ?_ | refine quiet_load _ _ rfl _ _ rfl l3 ?_ | refine quiet_load _ _ rfl _ _ rfl l4 ?_ | refine quiet_load _ _ rfl _ _ rfl l5 ?_ | refine quiet_eql _ _ _ _ rfl _ _ _ rfl rfl hgd Hepp.out ?_ | refine quiet_eql _ _ _ _ rfl _ _ _ rfl rfl hgd Heqq.out ?_ | refine quiet_eql _ _ _ _ rfl _ _ _ rfl rfl hgd Hezz.out ?_ | refine quiet_eql _ _ _ _ rfl _ _ _ rfl rfl hgd Hexx.out ?_ | refine quiet_eql _ _ _ _ rfl _ _ _ rfl rfl hgd Hep0.out ?_ | refine quiet_build47' N0 HGN.out rfl ?_)
              simp only [Act.put, List.setIfInBounds_toArray, List.set_cons_succ, List.set_cons_zero]
              go_big_quiet_on)
           | (go_big_quiet_op
              first
              | go_big_quiet_on
              | (go_big_quiet_call (first
                | (go_at_call 25; with_reducible exact later_of (HTx.out _))
                | (go_at_call 40; with_reducible exact later_of (HRx.out _))
                | (go_at_call 23; with_reducible exact later_of (HCxy.out _))
                | (go_at_call 41; with_reducible exact later_of (HRxy.out _))
                | (go_at_call 17; with_reducible exact later_of (HXxy.out _))
                | (go_at_call 42; with_reducible exact later_of (HRX.out _))
                | (go_at_call 24; with_reducible exact later_of (HWx.out _))
                | (go_at_call 43; with_reducible exact later_of (HRW.out _))
                | (go_at_call 18; with_reducible exact later_of (HZx.out _)))))))
      refine wpQuiet_nil ?_
      rintro _ ⟨p, rfl⟩
      have hbf := hb15.trans (p.below.mono hb15.size)
      go_wp2_with fail
      go_ret
      exact ⟨rfl, hbf⟩
end Go.Proofs.Ytbhlaafahfeacaa
