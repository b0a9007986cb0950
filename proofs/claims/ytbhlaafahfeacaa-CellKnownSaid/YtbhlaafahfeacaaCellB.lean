/- Walks: cell.Zero, cell.Pure. -/
import Derived.Test.YtbhlaafahfeacaaCellA
namespace Go.Proofs.Ytbhlaafahfeacaa
open Go.RowKit

theorem wpList_val {P : Program} {ops : Array Oper} {rest : List Oper} {o : Oper} {a : Act} {w : World} {Q : Exit → Act → World → Prop} (hgd : o.guard = none) (v : Value) (h : (execOp a.eval o).run P w = .ok (.value v) w)
    (k : wpList P ops Q rest (a.put o.dst v) w) : wpList P ops Q (o :: rest) a w :=
  wpList_plain hgd fun _ hK => by unfold Oper.wp; rw [h]; exact hK _ _ k
theorem exec_build {P : Program} {o : Oper} {a : Act} {w : World} {t : TypeId} {v : Value} (ho : o.op = .build t #[]) (h : (Instr.build t #[]).run P w = .ok v w) : (execOp a.eval o).run P w = .ok (.value v) w := by
  unfold execOp
  rw [ho]
  simp [h]
theorem quiet_neq {P : Program} {o : Oper} {a : Act} {C : World → Prop} {K : Act → Prop} (t t2 : TypeId) (x y : Operand) (ho : o.op = .binOp .neq t x y t2) (xs ys : Array Value) (b : Bool) (hx : a.eval x = .agg xs) (hy : a.eval y = .agg ys)
    (hg : P.eqGuardType P.depth t = false) (hl : ∀ w, (binOp .neq t (.agg xs) (.agg ys)).run P w = .ok (.bool b) w) (hk : K (a.put o.dst (.bool b))) : o.quiet P a C K :=
  ⟨.bool b, fun w _ => by
    have h := hl w
    have h2 := run_eqGuard_agg (P := P) w .neq t x y xs ys hg
    unfold Oper.quietAt execOp
    simp only [ho, hx, hy]
    simp [h, h2, Oper.quietUpon], hk⟩
theorem neq_sm (x y : Sm) (w : World) : (binOp .neq 27 (.agg (u8s x.l)) (.agg (u8s y.l))).run Try.prog w = .ok (.bool (!decide (x = y))) w := by
  obtain ⟨i, hi⟩ := info_at
  have h := run_neq_bytes (P := Try.prog) 27 _ 32 i Try.underlying27 hi (by kernel_rfl) Try.underlying5 Try.isAgg5 x.l y.l x.len y.len w
  rw [h]
  congr 3
  simp only [Sm.eq_iff]
/-- The results lie in a block and in two slots. -/
theorem post_blk_tmp2 {P : Program} {w : World} {fn : Func} {R : Ending → World → Prop} {a : Act} {p u q : Tmp} {ty : TypeId} (hr : fn.results = #[.cell p ty, .tmp u, .tmp q]) (hd0 : a.defers = []) (g : Nat) (t : TypeId) (cs : Array Value) (d : TypeDesc) (v v2 : Value)
    (hp : a.tmps.getD p undef = .pointer (some ⟨g, 0, none⟩)) (hB : Blk w g t cs)
    (hu : P.underlying ty = some d) (hd : (match d with | .struct _ | .array _ _ => true | _ => false) = true) (hi : (P.info? ty).map (·.size) = some cs.size) (hv : a.tmps.getD u undef = v) (hv2 : a.tmps.getD q undef = v2)
    (h : R (.returned (.tuple #[.agg cs, v, v2])) w) : bodyPost P fn R .ret a w := by
  refine bodyPost_ret ?_ hd0 h
  have hp' : a.tmps[p]?.getD undef = .pointer (some ⟨g, 0, none⟩) := by simpa using hp
  have hv' : a.tmps[u]?.getD undef = v := by simpa using hv
  have hw' : a.tmps[q]?.getD undef = v2 := by simpa using hv2
  simp [results, hr, hp', hv', hw', asAddr, run_loadVar_row w g t ty cs (0, 0) d hB hu hd hi]

theorem heap_setCells_far {g k : Nat} (hk : k ≠ g) : ∀ (vs : List Value) (w : World) (o : Nat), (w.setCells g o vs).heap[k]? = w.heap[k]?
  | [], _, _ => rfl
  | v :: vs, w, o => (heap_setCells_far hk vs (w.setCell ⟨g, o, none⟩ v) (o + 1)).trans (Below.heap_setCell w ⟨g, o, none⟩ v k hk)
theorem cell_setCells_far {w : World} {g o : Nat} {vs : List Value} {p : Addr} (h : p.block ≠ g) : (w.setCells g o vs).cell? p = w.cell? p :=
  World.cell?_of_block (w := w) (heap_setCells_far h vs w o)

def Cl.ok (c : Cl) : Bool := (decide (c.n = 1) || decide (c.n = -1)) && decide (c.check = chk c.key)
def Cl.sum (c : Cl) : Sm := if c.ok then c.key else Sm.zero
def Cl.plus (c : Cl) : Bool := c.ok && decide (c.n = 1)

set_option maxRecDepth 100000 in
theorem CellZero_any (c : Cl) (w : World) :
    Calls Try.prog 28 #[.agg c.a] w fun e w' => e = .returned (.bool (decide (c = Cl.zero))) ∧ Below w.heap.size w w' := by
  have hC := Blk.new w 34 c.a
  have hi := Lib.hid (info34.trans (congrArg some c.size.symm))
  have heq := fun W => eql_cl34 c Cl.zero W
  have hz : Cl.zero.a = zero65 := rfl
  rw [hz] at heq
  have hb : Below w.heap.size w (w.alloc (.cells c.a 34)) := ((Keeps.refl [] w).alloc _).below
  have hgd : Try.prog.eqGuardType Try.prog.depth 34 = false := by kernel_rfl
  clear hz
  generalize decide (c = Cl.zero) = r at *
  generalize c.a = CA at *
  go_enter Try.func28, Try.ntmps28
  go_wp2_with (first
    | (refine wpList_load_blk rfl 34 (.tmp 1) rfl w.heap.size rfl 34 CA _ hC Try.underlying34 rfl hi.out ?_)
    | (refine wpList_val rfl _ (exec_build rfl (build_zero34 _)) ?_))
  go_ret
  exact ⟨rfl, hb⟩

set_option maxRecDepth 100000 in
set_option maxHeartbeats 4000000 in
theorem Pure_any (c : Cl) (w : World) :
    Calls Try.prog 22 #[.agg c.a] w fun e w' => e = .returned (.tuple #[.agg (u8s c.sum.l), .bool c.plus, .bool c.ok]) ∧ Below w.heap.size w w' := by
  have hC := (Blk.new w 34 c.a).alloc (.cells (u8s (List.replicate 32 0)) 27)
  have hZ := Blk.newAt (w.alloc (.cells c.a 34)) 27 (u8s (List.replicate 32 0)) (w.heap.size + 1) (by simp)
  have hb : Below w.heap.size w ((w.alloc (.cells c.a 34)).alloc (.cells (u8s (List.replicate 32 0)) 27)) := (((Keeps.refl [] w).alloc _).alloc _).below
  have L1 := Lib.hid (fun W (h : Blk W w.heap.size 34 c.a) => later_n34 c h)
  have L2 := Lib.hid (fun W (h : Blk W w.heap.size 34 c.a) => later_key34 c h)
  have L3 := Lib.hid (fun W (h : Blk W w.heap.size 34 c.a) => later_check34 c h)
  have HC00 := Lib.hid (fun W (h : Blk W w.heap.size 34 c.a) => cell_count h)
  have HR00 := Lib.hid (fun W (h : Blk W w.heap.size 34 c.a) => range_key h c.key.size c.check.size)
  have HX := Lib.hid (fun W => CellOf_any c.key W)
  have HNE := Lib.hid (fun W => neq_sm c.check (chk c.key) W)
  have hgd : Try.prog.eqGuardType Try.prog.depth 27 = false := by kernel_rfl
  have hik := Lib.hid (info32.trans (congrArg some c.key.size.symm))
  have hsk : Hid ((u8s c.key.l).size = (u8s (List.replicate 32 0)).size) := by unfold Hid; rw [c.key.size, u8s_size]; rfl
  have hok1 := u8s_one c.key.l
  have hok0 := u8s_one (List.replicate 32 0)
  have hz0 := zeros_lit
  rw [hz0] at hok0
  have HZ0 := Lib.hid hz0
  have hi0 := Lib.hid (info32.trans (congrArg some (Sm.zero.size.symm)))
  have hdef1 : Hid (c.ok = ((decide (c.n = 1) || decide (c.n = -1)) && decide (c.check = chk c.key))) := rfl
  have hdef2 : Hid (c.plus = (c.ok && decide (c.n = 1))) := rfl
  have hdef3 : Hid (c.sum = if c.ok then c.key else Sm.zero) := rfl
  clear hz0
  generalize c.ok = OK at *
  generalize c.plus = PL at *
  generalize c.sum = SU at *
  generalize c.a = CA at *
  generalize hb0 : decide (c.check = chk c.key) = eqb at *
  clear hb0
  generalize c.n = n at *
  generalize hkey : c.key = key at *
  have HKEY := Lib.hid hkey
  clear hkey
  generalize hK : u8s key.l = K at *
  have HK := Lib.hid hK
  generalize u8s c.check.l = C at *
  generalize u8s (chk key).l = R at *
  clear hK
  have cases3 : (n = 1 ∨ n = -1) ∧ eqb = true ∨ (n = 1 ∨ n = -1) ∧ eqb = false ∨ (n ≠ 1 ∧ n ≠ -1) := by
    cases eqb <;> by_cases h1 : n = 1 <;> by_cases h2 : n = -1 <;> simp [h1, h2]
  rcases cases3 with ⟨hn, rfl⟩ | ⟨hn, rfl⟩ | ⟨hn1, hn2⟩
  · have hok : OK = true := by rw [hdef1.out]; rcases hn with rfl | rfl <;> rfl
    subst hok
    have e3 : SU = key := by rw [hdef3.out, if_pos rfl]
    subst e3
    have e2 : PL = decide (n = 1) := by rw [hdef2.out, Bool.true_and]
    clear hdef1 hdef2 hdef3
    have HC0 := Lib.hid (fun W (h : Blk W w.heap.size 34 CA) => HC00.out W h)
    have hPL : (n == 1) = PL := by rw [e2]; rfl
    clear e2
    rcases hn with hn | hn
    all_goals
      first
        | (have e1 : (n == 1) = true := by rw [hn]; rfl
           have e1' : (n != 1) = false := by rw [hn]; rfl)
        | (have e1 : (n == 1) = false := by rw [hn]; rfl
           have e1' : (n != 1) = true := by rw [hn]; rfl
           have e2 : (n == -1) = true := by rw [hn]; rfl
           have e2' : (n != -1) = false := by rw [hn]; rfl)
      rw [e1] at hPL
      subst hPL
      clear hn
      have l1 := L1.out _ hC
      have l2 := L2.out _ hC
      have l3 := L3.out _ hC
      go_enter Try.func22, Try.ntmps22
      go_wp2_with fail
      refine wp_region_later (by kernel_rfl) (by kernel_rfl) ?_
      repeat (first
        | go_big_quiet_skip
        | (go_big_quiet_want
           first
           | ((first | refine quiet_load _ _ rfl _ _ rfl l1 ?_ | refine quiet_load _ _ rfl _ _ rfl l2 ?_ | refine quiet_load _ _ rfl _ _ rfl l3 ?_ | refine quiet_neq _ _ _ _ rfl _ _ _ rfl rfl hgd HNE.out ?_)
              simp only [Act.put, List.setIfInBounds_toArray, List.set_cons_succ, List.set_cons_zero]
              go_big_quiet_on)
           | (go_big_quiet_op
              first
              | go_big_quiet_on
              | (go_big_quiet_call ((go_at_call 27; with_reducible exact later_of (HX.out _)))))))
      refine wpQuiet_nil ?_
      rintro _ ⟨p, rfl⟩
      have hC2 := hC.below p.below
      have hZ2 := hZ.below p.below
      have hb2 := hb.trans (p.below.mono hb.size)
      clear l1 l2 l3 hC hZ hb
      generalize p.wd = w2 at *
      have l1 := L1.out _ hC2
      have l2 := L2.out _ hC2
      go_wp2_with fail
      clear l1 l2
      have hu27 := Try.underlying27
      obtain ⟨Kl, hKl⟩ : ∃ Kl : List Value, Kl = K.toList := ⟨_, rfl⟩
      have hKa : K = Kl.toArray := by rw [hKl]
      have hlen : Kl.length = 32 := by rw [hKl, Array.length_toList, ← HK.out, SU.size]
      have hi27 := info32.trans (congrArg some hlen.symm)
      have hone : ∀ v ∈ Kl, v.oneCell' = true := by
        rw [hKl, ← HK.out]; intro v hv
        have := u8s_one SU.l
        rw [Array.all_eq_true_iff_forall_mem] at this
        exact this v (by simpa using hv)
      have hr1 : w2.rangeAt w.heap.size 1 Kl := by rw [hKl]; exact HR00.out _ hC2
      have hc0 : w2.cell? ⟨w.heap.size, 0, none⟩ = some (.int .i64 n) := HC0.out _ hC2
      have ht2 : w2.there (w.heap.size + 1) 0 32 := hZ2.there (by simp [u8s_size])
      clear hKl
      subst hKa
      have HOK0 := Lib.hid hok0
      have HOK1 := Lib.hid hok1
      clear hok0 hok1 hgd
      go_region_held3 (fun w' => w'.rangeAt w.heap.size 1 Kl ∧ w'.cell? ⟨w.heap.size, 0, none⟩ = some (.int .i64 n) ∧ w'.there (w.heap.size + 1) 0 32) (first | go_keep_ranges | (refine ⟨?_, ?_, ?_⟩ <;> first | go_keep_ranges | (rw [cell_setCells_far (by simp)]; assumption))) (fail)
      all_goals
      go_wp2_with fail
      have hB3 : Blk (w2.drew.setCells (w.heap.size + 1) 0 Kl) (w.heap.size + 1) 27 Kl.toArray := by
        have h := hZ2.drew.setCells Kl 0
        rwa [splice_all _ _ (by rw [hlen, u8s_size]; simp)] at h
      refine post_blk_tmp2 rfl rfl (w.heap.size + 1) 27 Kl.toArray _ (.bool _) (.bool true) rfl hB3 Try.underlying27 rfl (by rw [List.size_toArray]; exact hi27) rfl rfl ⟨by rw [HK.out], ?_⟩
      exact (Keeps.setCells (.inr (by omega)) Kl 0 ((Keeps.of_below (S := []) hb2).drew)).below
  · have hok : OK = false := by rw [hdef1.out, Bool.and_false]
    subst hok
    have e3 : SU = Sm.zero := by rw [hdef3.out, if_neg (by simp)]
    have e2 : PL = false := by rw [hdef2.out, Bool.false_and]
    subst e2
    have E3 := Lib.hid e3
    clear hdef1 hdef2 hdef3 e3
    rcases hn with hn | hn
    all_goals
      first
        | (have e1 : (n == 1) = true := by rw [hn]; rfl
           have e1' : (n != 1) = false := by rw [hn]; rfl)
        | (have e1 : (n == 1) = false := by rw [hn]; rfl
           have e1' : (n != 1) = true := by rw [hn]; rfl
           have e2 : (n == -1) = true := by rw [hn]; rfl
           have e2' : (n != -1) = false := by rw [hn]; rfl)
      clear hn
      have l1 := L1.out _ hC
      have l2 := L2.out _ hC
      have l3 := L3.out _ hC
      go_enter Try.func22, Try.ntmps22
      go_wp2_with fail
      refine wp_region_later (by kernel_rfl) (by kernel_rfl) ?_
      repeat (first
        | go_big_quiet_skip
        | (go_big_quiet_want
           first
           | ((first | refine quiet_load _ _ rfl _ _ rfl l1 ?_ | refine quiet_load _ _ rfl _ _ rfl l2 ?_ | refine quiet_load _ _ rfl _ _ rfl l3 ?_ | refine quiet_neq _ _ _ _ rfl _ _ _ rfl rfl hgd HNE.out ?_)
              simp only [Act.put, List.setIfInBounds_toArray, List.set_cons_succ, List.set_cons_zero]
              go_big_quiet_on)
           | (go_big_quiet_op
              first
              | go_big_quiet_on
              | (go_big_quiet_call ((go_at_call 27; with_reducible exact later_of (HX.out _)))))))
      refine wpQuiet_nil ?_
      rintro _ ⟨p, rfl⟩
      have hZ2 := hZ.below p.below
      have hb2 := hb.trans (p.below.mono hb.size)
      clear l1 l2 l3 hC hZ hb
      generalize p.wd = w2 at *
      go_wp2_with (refine wpList_store_blk rfl 27 (.tmp 2) (.tmp 21) rfl (w.heap.size + 1) 27 _ _ rfl rfl hZ2 rfl info32 hok0 ?_; intro w' hB' hk')
      rw [← HZ0.out] at hB'
      refine post_blk_tmp2 rfl rfl (w.heap.size + 1) 27 (u8s (List.replicate 32 0)) _ (.bool false) (.bool false) rfl hB' Try.underlying27 rfl hi0.out rfl rfl ⟨by rw [E3.out]; rfl, ?_⟩
      exact ((Keeps.of_below (S := []) hb2).trans' hk' (by simp)).below
  · have hok : OK = false := by rw [hdef1.out, decide_eq_false hn1, decide_eq_false hn2]; rfl
    subst hok
    have e3 : SU = Sm.zero := by rw [hdef3.out, if_neg (by simp)]
    have e2 : PL = false := by rw [hdef2.out, Bool.false_and]
    subst e2
    have E3 := Lib.hid e3
    have e1 : (n == 1) = false := by rw [beq_eq_false_iff_ne]; exact hn1
    have e1' : (n != 1) = true := by rw [bne_iff_ne]; exact hn1
    have e2 : (n == -1) = false := by rw [beq_eq_false_iff_ne]; exact hn2
    have e2' : (n != -1) = true := by rw [bne_iff_ne]; exact hn2
    clear hdef1 hdef2 hdef3 e3 hn1 hn2
    all_goals
      have l1 := L1.out _ hC
      have l2 := L2.out _ hC
      have l3 := L3.out _ hC
      go_enter Try.func22, Try.ntmps22
      go_wp2_with fail
      refine wp_region_later (by kernel_rfl) (by kernel_rfl) ?_
      repeat (first
        | go_big_quiet_skip
        | (go_big_quiet_want
           first
           | ((first | refine quiet_load _ _ rfl _ _ rfl l1 ?_ | refine quiet_load _ _ rfl _ _ rfl l2 ?_ | refine quiet_load _ _ rfl _ _ rfl l3 ?_ | refine quiet_neq _ _ _ _ rfl _ _ _ rfl rfl hgd HNE.out ?_)
              simp only [Act.put, List.setIfInBounds_toArray, List.set_cons_succ, List.set_cons_zero]
              go_big_quiet_on)
           | (go_big_quiet_op
              first
              | go_big_quiet_on
              | (go_big_quiet_call ((go_at_call 27; with_reducible exact later_of (HX.out _)))))))
      refine wpQuiet_nil ?_
      rintro _ ⟨p, rfl⟩
      have hZ2 := hZ.below p.below
      have hb2 := hb.trans (p.below.mono hb.size)
      clear l1 l2 l3 hC hZ hb
      generalize p.wd = w2 at *
      go_wp2_with (refine wpList_store_blk rfl 27 (.tmp 2) (.tmp 21) rfl (w.heap.size + 1) 27 _ _ rfl rfl hZ2 rfl info32 hok0 ?_; intro w' hB' hk')
      rw [← HZ0.out] at hB'
      refine post_blk_tmp2 rfl rfl (w.heap.size + 1) 27 (u8s (List.replicate 32 0)) _ (.bool false) (.bool false) rfl hB' Try.underlying27 rfl hi0.out rfl rfl ⟨by rw [E3.out]; rfl, ?_⟩
      exact ((Keeps.of_below (S := []) hb2).trans' hk' (by simp)).below
end Go.Proofs.Ytbhlaafahfeacaa
