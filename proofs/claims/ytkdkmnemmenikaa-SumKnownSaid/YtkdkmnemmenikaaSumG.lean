/- Layer 1: the walk of SumKnown. -/
import Derived.Test.YtkdkmnemmenikaaTyV
import Derived.Test.YtkdkmnemmenikaaTyP
import Derived.Test.YtkdkmnemmenikaaParse
import Derived.Test.YtkdkmnemmenikaaZero
import Derived.Test.YtkdkmnemmenikaaWord
import Derived.Test.YtkdkmnemmenikaaXorA
import Derived.Test.YtkdkmnemmenikaaSumA
import Derived.Test.YtkdkmnemmenikaaSetC
namespace Go.Proofs.Ytkdkmnemmenikaa
open Go.RowKit

theorem Fn1.exact {P : Program} {f : FuncId} {v u : Value} (en : Enters P f) (h : ∀ w, Calls P f #[v] w fun e w' => e = .returned u ∧ Below w.heap.size w w') : Fn1 P f (Ty.ex v) (Ty.ex u) := ⟨en, fun w v' hv => by
  have hv : v' = v := hv
  subst hv
  exact Ret.of (h w)⟩
theorem Fn2.exact {P : Program} {f : FuncId} {v v2 u : Value} (en : Enters P f) (h : ∀ w, Calls P f #[v, v2] w fun e w' => e = .returned u ∧ Below w.heap.size w w') : Fn2 P f (Ty.ex v) (Ty.ex v2) (Ty.ex u) := ⟨en, fun w v' v2' hv hv2 => by
  have hv : v' = v := hv
  have hv2 : v2' = v2 := hv2
  subst hv hv2
  exact Ret.of (h w)⟩
theorem awake1_ty : Fn0 Try.prog 4 (Ty.ex (.bool true)) := ⟨fun args w => by kernel_rfl, fun w => Ret.of (awake1_any w)⟩
theorem text_ty (x : Sm) : Fn1 Try.prog 7 (Ty.ex (.agg (u8s x.l))) (Ty.ex (.string (strB (hexS x.l)))) := .exact (fun args w => by kernel_rfl) (Text_any x)
theorem parse_ty (s : ByteArray) (x : Sm) (b : Bool) (h1 : parseL (sB s) = x.l) (h2 : parseOk (sB s) = b) : Fn1 Try.prog 6 (Ty.ex (.string s)) (Ty.tup [Ty.ex (.agg (u8s x.l)), Ty.ex (.bool b)]) := ⟨fun args w => by kernel_rfl, fun w v hv => by
  have hv : v = .string s := hv
  subst hv
  have h := Parse_any s w
  rw [h1, h2] at h
  exact h.mono fun e w' ⟨k1, k2⟩ => ⟨_, k1, ⟨_, rfl, rfl, rfl, trivial⟩, k2⟩⟩
theorem zeroS_ty (x : Sm) (b : Bool) (h : decide (x = Sm.zero) = b) : Fn1 Try.prog 8 (Ty.ex (.agg (u8s x.l))) (Ty.ex (.bool b)) := .exact (fun args w => by kernel_rfl) (by subst h; exact Zero_any x)
theorem word1_ty (x : Sm) (i : Int) (n : Nat) (h : wordL x.l i = n) : Fn2 Try.prog 9 (Ty.ex (.agg (u8s x.l))) (Ty.ex (.int .i64 i)) (Ty.ex (.int .u64 (n : Int))) := .exact (fun args w => by kernel_rfl) (by subst h; exact Word_any x i)
theorem xorS_ty (x y : Sm) : Fn2 Try.prog 11 (Ty.ex (.agg (u8s x.l))) (Ty.ex (.agg (u8s y.l))) (Ty.ex (.agg (u8s (x.xor y).l))) := .exact (fun args w => by kernel_rfl) (Xor_any x y)
theorem cmpS_ty (x y : Sm) (n : Int) (h : cmpL x.l y.l = n) : Fn2 Try.prog 10 (Ty.ex (.agg (u8s x.l))) (Ty.ex (.agg (u8s y.l))) (Ty.ex (.int .i64 n)) := by subst h; exact cmp_ty x y
theorem sumOf0_ty : Fn1 Try.prog 5 (Ty.ex (.slice none 0 0)) (Ty.ex (.agg (u8s (shaS []).l))) := ⟨fun args w => by kernel_rfl, fun w v hv => by
  have hv : v = .slice none 0 0 := hv
  subst hv
  have h := Of_any none 0 0 0 0 [] w rfl (Nat.le_refl _) (fun h => absurd rfl h) (fun i l h => by simp at h) (by simp) (by simp)
  rw [List.flatten_nil] at h
  have e : shaL [] = (shaS []).l := rfl
  rw [e] at h
  generalize shaS [] = E at *
  exact Ret.of h⟩
section
variable {P : Program} {w0 : World} {Γ : Ctx} {o : Oper} {x y : Operand} {t t2 e : TypeId} {s r : ByteArray}
theorem cAllocS {z : Array Value} (ho : o.op = .alloc t) (hz : ∀ w : World, (Instr.alloc t true (.tuple #[])).run P w = .ok (.pointer (some ⟨w.heap.size, 0, none⟩)) (w.alloc (.cells z t))) : OpOk P w0 Γ o (Ty.var w0 t z) := fun _ w _ _ hb _ hK =>
  wp_new ho (hz w) (hK _ _ ⟨_, rfl, hb.size, Blk.new w _ _⟩ ((Keeps.refl [] w).alloc _).below)
theorem cAddStr (ho : o.op = .binOp .add t x y t2) (hx : OpT Γ x (Ty.ex (.string s))) (hy : OpT Γ y (Ty.ex (.string r))) (hs : s.size ≤ 1000000) (hr : r.size ≤ 1000000) : OpOk P w0 Γ o (Ty.ex (.string (s ++ r))) :=
  cBin ho hx hy fun w => by
    have h : (s.size : Int) + (r.size : Int) ≤ 9223372036854775807 := by omega
    simp [eqGuard, binOp, Op.stringOp, h]
theorem cEqlStr1 (ho : o.op = .binOp .eql t x y t2) (hx : OpT Γ x (Ty.ex (.string s))) (hy : OpT Γ y (Ty.ex (.string r))) : OpOk P w0 Γ o (Ty.ex (.bool (s.toList == r.toList))) :=
  cBin ho hx hy fun w => by simp [eqGuard, binOp, Op.stringOp]
theorem cStrLo {k : Nat} {kd : IntKind} (ho : o.op = .slice t x (some y) none none) (hx : OpT Γ x (Ty.ex (.string s))) (hy : OpT Γ y (Ty.ex (.int kd (k : Int)))) (hu : P.underlying t = some .string) (hk : k ≤ s.size) : OpOk P w0 Γ o (Ty.ex (.string (s.extract k s.size))) :=
  .val fun a w _ hs => by
    obtain ⟨v, h1, h2⟩ := hs x _ (by simp [ho, Op.operands]) hx
    obtain ⟨i, h3, h4⟩ := hs y _ (by simp [ho, Op.operands]) hy
    have h2 : v = .string s := h2
    have h4 : i = .int kd (k : Int) := h4
    refine ⟨_, rfl, ?_⟩
    unfold execOp
    have hr : (Instr.sliceAt t (.string s) (some (.int kd (k : Int))) none none).run P w = .ok (.string (s.extract k s.size)) w := by
      rw [run_sliceAt_string _ _ _ _ _ _ hu]
      have h := run_slice_string_l (P := P) w t s hu kd (k : Int) (by omega) (by omega)
      rw [Int.toNat_natCast] at h
      exact h
    simp only [ho, h1, h2, h3, h4, Option.map_some, Option.map_none]
    rw [Sem.run_bind, hr]
    rfl
theorem cStrHi {k : Nat} {kd : IntKind} (ho : o.op = .slice t x none (some y) none) (hx : OpT Γ x (Ty.ex (.string s))) (hy : OpT Γ y (Ty.ex (.int kd (k : Int)))) (hu : P.underlying t = some .string) (hk : k ≤ s.size) : OpOk P w0 Γ o (Ty.ex (.string (s.extract 0 k))) :=
  .val fun a w _ hs => by
    obtain ⟨v, h1, h2⟩ := hs x _ (by simp [ho, Op.operands]) hx
    obtain ⟨i, h3, h4⟩ := hs y _ (by simp [ho, Op.operands]) hy
    have h2 : v = .string s := h2
    have h4 : i = .int kd (k : Int) := h4
    refine ⟨_, rfl, ?_⟩
    unfold execOp
    have hr : (Instr.sliceAt t (.string s) none (some (.int kd (k : Int))) none).run P w = .ok (.string (s.extract 0 k)) w := by
      rw [run_sliceAt_string _ _ _ _ _ _ hu]
      have h := run_slice_string_h (P := P) w t s hu kd (k : Int) (by omega) (by omega)
      rw [Int.toNat_natCast] at h
      exact h
    simp only [ho, h1, h2, h3, h4, Option.map_some, Option.map_none]
    rw [Sem.run_bind, hr]
    rfl
end
abbrev StL : TypeId := 29
abbrev StT : TypeId := 9
theorem infoStr : (Try.prog.info? StT).map (fun i => (i.zero, i.size, i.bytes)) = some (some (.string ⟨#[]⟩), 1, 16) := by kernel_rfl
theorem sizeStr : (Try.prog.info? StT).map (·.size) = some 1 := by kernel_rfl
theorem parts6s {Γ : Ctx} {o : Oper} {t : TypeId} {n : Nat} {c0 c1 : Value} {x y z u : Operand} {v2 v3 v4 v5 : Value} (ho : o.op = .buildSlice t n #[(0, .const c0), (1, .const c1), (2, x), (3, y), (4, z), (5, u)]) (hx : OpT Γ x (Ty.ex v2)) (hy : OpT Γ y (Ty.ex v3)) (hz : OpT Γ z (Ty.ex v4)) (hu : OpT Γ u (Ty.ex v5)) : ∀ (a : Act) (w : World), SeesO Γ o a w → ((#[(0, .const c0), (1, .const c1), (2, x), (3, y), (4, z), (5, u)] : Array (Nat × Operand)).map fun (i, x) => (i, a.eval x)) = (([c0, c1, v2, v3, v4, v5] : List Value).zipIdx.map fun p => (p.2, p.1)).toArray := fun a w hs => by
  obtain ⟨b2, h1, h2⟩ := hs x _ (by simp [ho, Op.operands]) hx
  obtain ⟨b3, h3, h4⟩ := hs y _ (by simp [ho, Op.operands]) hy
  obtain ⟨b4, h5, h6⟩ := hs z _ (by simp [ho, Op.operands]) hz
  obtain ⟨b5, h7, h8⟩ := hs u _ (by simp [ho, Op.operands]) hu
  have h2 : b2 = v2 := h2
  have h4 : b3 = v3 := h4
  have h6 : b4 = v4 := h6
  have h8 : b5 = v5 := h8
  subst h2 h4 h6 h8
  simp [h1, h3, h5, h7, show a.eval (.const c0) = c0 from rfl, show a.eval (.const c1) = c1 from rfl]
def wS : Sm := ⟨[1, 2, 0, 0, 0, 0, 0, 128, 3] ++ List.replicate 23 0, by decide, by decide⟩
def xS : Sm := ⟨[1, 3] ++ List.replicate 30 0, by decide, by decide⟩
def yS : Sm := ⟨[2] ++ List.replicate 31 0, by decide, by decide⟩
theorem buildW (w : World) : (Instr.build 24 #[(0, .int .u8 1), (1, .int .u8 2), (2, .int .u8 0), (3, .int .u8 0), (4, .int .u8 0), (5, .int .u8 0), (6, .int .u8 0), (7, .int .u8 128), (8, .int .u8 3)]).run Try.prog w = .ok (.agg (u8s wS.l)) w := by kernel_rfl
theorem buildX (w : World) : (Instr.build 24 #[(0, .int .u8 1), (1, .int .u8 3)]).run Try.prog w = .ok (.agg (u8s xS.l)) w := by kernel_rfl
theorem buildY (w : World) : (Instr.build 24 #[(0, .int .u8 2)]).run Try.prog w = .ok (.agg (u8s yS.l)) w := by kernel_rfl
def tE : ByteArray := strB (hexS (shaS []).l)
theorem tE_size : tE.size = 64 := by decide +kernel
theorem tE_str : (tE.toList == ({ data := #[101, 51, 98, 48, 99, 52, 52, 50, 57, 56, 102, 99, 49, 99, 49, 52, 57, 97, 102, 98, 102, 52, 99, 56, 57, 57, 54, 102, 98, 57, 50, 52, 50, 55, 97, 101, 52, 49, 101, 52, 54, 52, 57, 98, 57, 51, 52, 99, 97, 52, 57, 53, 57, 57, 49, 98, 55, 56, 53, 50, 98, 56, 53, 53] } : ByteArray).toList) = true := by decide +kernel
theorem tE_l : parseL (sB tE) = (shaS []).l := by decide +kernel
theorem tE_ok : parseOk (sB tE) = true := by decide +kernel
def badS (T : ByteArray) : List ByteArray := [{ data := #[] }, { data := #[101, 51] }, T ++ { data := #[48] }, ({ data := #[69, 51] } : ByteArray) ++ T.extract 2 T.size, ({ data := #[103, 51] } : ByteArray) ++ T.extract 2 T.size, T.extract 0 63 ++ { data := #[32] }]
theorem bad_all : (badS tE).all (fun s => !parseOk (sB s)) = true := by decide +kernel
theorem bad_zero {s : ByteArray} (h : parseOk (sB s) = false) : parseL (sB s) = Sm.zero.l := (parse_bad (of_decide_eq_false h)).1
theorem wrd0 : wordL wS.l 0 = 9223372036854776321 := by decide +kernel
theorem wrd1 : wordL wS.l 1 = 3 := by decide +kernel
theorem wrd4 : wordL wS.l 4 = 0 := by decide +kernel
theorem wrdm : wordL wS.l (-1) = 0 := by decide +kernel
theorem cmpWX : cmpL wS.l xS.l = -1 := by decide +kernel
theorem cmpYW : cmpL yS.l wS.l = 1 := by decide +kernel
theorem cmpWW : cmpL wS.l wS.l = 0 := by decide +kernel
theorem xorWW : decide (wS.xor wS = Sm.zero) = true := by decide +kernel
theorem notW : decide (wS = Sm.zero) = false := by decide +kernel
theorem cBuildS1 {w0 : World} {Γ : Ctx} {o : Oper} {a0 : Value} {x : Sm} (ho : o.op = .build 24 #[(0, .const a0)]) (hr : ∀ w, (Instr.build 24 #[(0, a0)]).run Try.prog w = .ok (.agg (u8s x.l)) w) : OpOk Try.prog w0 Γ o (Ty.ex (.agg (u8s x.l))) := cBuildP (vs := #[(0, a0)]) ho (fun a w _ => by simp [Act.eval]) hr
theorem cBuildS2 {w0 : World} {Γ : Ctx} {o : Oper} {a0 a1 : Value} {x : Sm} (ho : o.op = .build 24 #[(0, .const a0), (1, .const a1)]) (hr : ∀ w, (Instr.build 24 #[(0, a0), (1, a1)]).run Try.prog w = .ok (.agg (u8s x.l)) w) : OpOk Try.prog w0 Γ o (Ty.ex (.agg (u8s x.l))) := cBuildP (vs := #[(0, a0), (1, a1)]) ho (fun a w _ => by simp [Act.eval]) hr
theorem made_zeros1 (n : Nat) : (madeCells (Value.int .u8 0).cells (n * 1)).toList = (List.replicate n 0).map bv := by
  rw [Nat.mul_one]
  simp only [madeCells, Value.cells, bv, List.map_replicate]
  refine List.eq_replicate_iff.2 ⟨by simp, fun b hb => ?_⟩
  simp only [Array.toList_map, Array.toList_range, List.mem_map] at hb
  obtain ⟨x, _, rfl⟩ := hb
  show #[Value.int .u8 0][x % 1]! = Value.int .u8 ((0 : Nat) : Int)
  rw [Nat.mod_one]; rfl
theorem infoU8s : (Try.prog.info? 5).map (fun i => (i.zero, i.size, i.bytes)) = some (some (.int .u8 0), 1, 1) := by kernel_rfl
theorem infoBs : (Try.prog.info? 30).map (fun i => (i.zero, i.size, i.bytes)) = some (some (.slice none 0 0), 1, 24) := by kernel_rfl
theorem run_makeZ {P : Program} {t e : TypeId} (n : Nat) (hn : n ≤ 1000000) (ht : P.underlying t = some (.slice e)) (hi : (P.info? e).map (fun i => (i.zero, i.size, i.bytes)) = some (some (.int .u8 0), 1, 1)) (w : World) :
    (Instr.makeSlice t (.int .i64 (n : Int)) (.int .i64 (n : Int))).run P w = .ok (.slice (some ⟨w.heap.size, 0, none⟩) n n) (w.alloc (.cells ((List.replicate n 0).map bv).toArray e)) := by
  obtain ⟨i, h1, h2, h3, h4⟩ := info_parts hi
  have h := run_make (P := P) w t e i _ ht h1 h2 .i64 .i64 (n : Int) (n : Int) (by omega) (Int.le_refl _) (by rw [h4]; omega) (by omega)
  rw [Int.toNat_natCast, h3] at h
  rw [h]
  congr 3
  exact Array.toList_inj.1 (by rw [made_zeros1])
theorem cMakeZ {w0 : World} {Γ : Ctx} {o : Oper} {n : Nat} (ho : o.op = .makeSlice 30 (.const (.int .i64 (n : Int))) (.const (.int .i64 (n : Int)))) (hn : n ≤ 1000000) : OpOk Try.prog w0 Γ o (Ty.sl 5 n ((List.replicate n 0).map bv)) :=
  .new fun a w hb hs => by
    refine ⟨.slice (some ⟨w.heap.size, 0, none⟩) n n, w.alloc (.cells ((List.replicate n 0).map bv).toArray 5), ?_, ((Keeps.refl [] w).alloc _).below, ?_⟩
    · have h := Seg.ofBlk (w := w.alloc (.cells ((List.replicate n 0).map bv).toArray 5)) (sz := 1) (cap := n) (Blk.new w 5 ((List.replicate n 0).map bv).toArray) (by simp) (by simp [maxLen]; omega)
      have h := h.sl
      rw [List.toList_toArray] at h
      exact h
    · unfold execOp
      simp [ho, Act.eval, run_makeZ n hn Try.underlying30 infoU8s]
theorem sum_at {w : World} {g : Nat} {x : Sm} (h : Blk w g 24 (Value.agg (u8s x.l)).cells) : (Ty.at_ 24 x.enc).p w (.pointer (some ⟨g, 0, none⟩)) := by
  have h := blk_at h
  rwa [show (Value.agg (u8s x.l)).cells.toList = x.enc from u8s_list _] at h
set_option maxRecDepth 100000 in
set_option maxHeartbeats 4000000 in
theorem lawSumKnown_any (W : World) : Calls Try.prog 3 #[] W fun e w' => e = .returned (.bool true) ∧ Below W.heap.size W w' := by
  have hO0 := sumOf0_ty
  have hT := text_ty (shaS [])
  have hPa := parse_ty tE (shaS []) true tE_l tE_ok
  have hT64 := tE_size
  have hTs := tE_str
  have hbad := bad_all
  rw [show strB (hexS (shaS []).l) = tE from rfl] at hT
  generalize tE = T at *
  generalize shaS [] = E at *
  have hbad : ∀ k, k < 6 → parseOk (sB ((badS T).getD k { data := #[] })) = false := fun k hk => by
    have h := List.all_eq_true.1 hbad ((badS T)[k]'hk) (List.getElem_mem _)
    rw [show (badS T).getD k { data := #[] } = (badS T)[k]'hk by rw [List.getD_eq_getElem?_getD, List.getElem?_eq_getElem (show k < (badS T).length from hk)]; rfl]
    simpa using h
  have hO56 := sumOf1_ty (e := 30) (τ := Ty.sl 5 56 ((List.replicate 56 0).map bv)) (List.replicate 56 0) (reads_sl _ _ _) (by simp) (by simp)
  have hO551 := sumOf2_ty (e := 30) (τ := Ty.sl 5 55 ((List.replicate 55 0).map bv)) (σ := Ty.sl 5 1 ((List.replicate 1 0).map bv)) (List.replicate 55 0) (List.replicate 1 0) (reads_sl _ _ _) (reads_sl _ _ _) (by simp) (by simp) (by simp)
  rw [List.replicate_append_replicate] at hO551
  have e56 : shaL (List.replicate 56 0) = (shaS (List.replicate 56 0)).l := rfl
  rw [e56] at hO56
  rw [show 55 + 1 = 56 from rfl, e56] at hO551
  generalize shaS (List.replicate 56 0) = L6 at *
  clear e56
  have hO2 := sumOf2_ty (e := 30) (τ := Ty.sl 5 1 [bv 97]) (σ := Ty.sl 5 2 [bv 98, bv 99]) [97] [98, 99] (reads_sl _ _ _) (reads_sl _ _ _) (by simp) (by simp) (by simp)
  have hO3 := sumOf1_ty (e := 30) (τ := Ty.sl 5 3 [bv 97, bv 98, bv 99]) [97, 98, 99] (reads_sl _ _ _) (by simp) (by simp)
  have e3 : shaL [97, 98, 99] = (shaS [97, 98, 99]).l := rfl
  rw [e3] at hO3
  rw [show [97] ++ [98, 99] = [97, 98, 99] from rfl, e3] at hO2
  generalize shaS [97, 98, 99] = C3 at *
  clear e3
  have hZ := zeroS_ty Sm.zero true (decide_eq_true rfl)
  have hZx := zeroS_ty (wS.xor wS) true xorWW
  have hZw := zeroS_ty wS false notW
  have hW0 := word1_ty wS 0 _ wrd0
  have hW1 := word1_ty wS 1 _ wrd1
  have hW4 := word1_ty wS 4 _ wrd4
  have hWm := word1_ty wS (-1) _ wrdm
  have hXX := xorS_ty wS wS
  have hC1 := cmpS_ty wS xS _ cmpWX
  have hC2 := cmpS_ty yS wS _ cmpYW
  have hC0 := cmpS_ty wS wS _ cmpWW
  have bW := buildW
  have bX := buildX
  have bY := buildY
  generalize wS.xor wS = V at *
  generalize wS = V9 at *
  generalize xS = VX at *
  generalize yS = VY at *
  refine enter_ty 140 [] Try.func3 rfl (by kernel_rfl) trivial fun a hF => ?_
  have hB := Below.refl W.heap.size W
  repeat with_reducible first | refine wp_seq ?_ | refine nThen ?_ | refine nBlk ?_ | refine wp_skip ?_ | refine wp_block ?_ | refine wp_exit ?_ | refine xThen ?_ | refine xHere ?_ | refine xFar (by decide) ?_ | refine wp_ret ?_ | refine rThen ?_ | refine rBlk ?_
  refine' reg_all hF ?_ mixed (by kernel_rfl) ?_
  rotate_left
  · repeat (first
        | exact Line.nil
        | (refine' Line.cons rfl (.no rfl rfl rfl rfl rfl rfl) ?_; rotate_left)
        | ((first | refine' Line.cons rfl (.run rfl rfl ?_) ?_ | refine' Line.cons rfl (.yes rfl rfl rfl rfl ?_) ?_)
           any_goals (first | exact cMove rfl rfl | exact cAssign rfl rfl | exact cNot rfl rfl | exact cPickT rfl rfl rfl | exact cPickF rfl rfl rfl | exact cLss rfl rfl rfl | exact cLeq rfl rfl rfl | exact cGtr rfl rfl rfl | exact cGeq rfl rfl rfl | exact cEql rfl rfl rfl | exact cNeq rfl rfl rfl | exact cExtract rfl rfl rfl)
           rotate_left))
  intro a w1 hF hb hN
  have hBs := hB.size
  replace hB := hB.trans (hb.mono hB.size)
  dsimp only [ext, Option.getD] at hF
  repeat with_reducible first | refine wp_seq ?_ | refine nThen ?_ | refine nBlk ?_ | refine wp_skip ?_ | refine wp_block ?_ | refine wp_exit ?_ | refine xThen ?_ | refine xHere ?_ | refine xFar (by decide) ?_ | refine wp_ret ?_ | refine rThen ?_ | refine rBlk ?_
  refine' reg_all hF ?_ mixed (by kernel_rfl) ?_
  rotate_left
  · repeat (first
        | exact Line.nil
        | (refine' Line.cons rfl (.no rfl rfl rfl rfl rfl rfl) ?_; rotate_left)
        | ((first | refine' Line.cons rfl (.run rfl rfl ?_) ?_ | refine' Line.cons rfl (.yes rfl rfl rfl rfl ?_) ?_)
           any_goals (first | exact cMove rfl rfl | exact cAssign rfl rfl | exact cNot rfl rfl | exact cCall0 rfl awake1_ty | exact cPickT rfl rfl rfl | exact cPickF rfl rfl rfl | exact cLss rfl rfl rfl | exact cLeq rfl rfl rfl | exact cGtr rfl rfl rfl | exact cGeq rfl rfl rfl | exact cEql rfl rfl rfl | exact cNeq rfl rfl rfl | exact cExtract rfl rfl rfl)
           rotate_left))
  intro a w2 hF hb hN
  have hBs := hB.size
  replace hB := hB.trans (hb.mono hB.size)
  dsimp only [ext, Option.getD] at hF
  repeat with_reducible first | refine wp_seq ?_ | refine nThen ?_ | refine nBlk ?_ | refine wp_skip ?_ | refine wp_block ?_ | refine wp_exit ?_ | refine xThen ?_ | refine xHere ?_ | refine xFar (by decide) ?_ | refine wp_ret ?_ | refine rThen ?_ | refine rBlk ?_
  refine cond_f hF rfl ?_
  replace hF := hF.nil
  repeat with_reducible first | refine wp_seq ?_ | refine nThen ?_ | refine nBlk ?_ | refine wp_skip ?_ | refine wp_block ?_ | refine wp_exit ?_ | refine xThen ?_ | refine xHere ?_ | refine xFar (by decide) ?_ | refine wp_ret ?_ | refine rThen ?_ | refine rBlk ?_
  have hw2 := hB.size
  refine' region_ty 2 mixed (by kernel_rfl) hF ?_ ?_
  rotate_left
  · simp only [List.take_succ_cons, List.take_zero]
    repeat (first
        | exact Line.nil
        | (refine' Line.cons rfl (.no rfl rfl rfl rfl rfl rfl) ?_; rotate_left)
        | (refine' Line.cons rfl (.new rfl rfl (run_alloc_i infoS) rfl) ?_; rotate_left)
        | ((first | refine' Line.cons rfl (.run rfl rfl ?_) ?_ | refine' Line.cons rfl (.yes rfl rfl rfl rfl ?_) ?_)
           any_goals (first | exact cMove rfl rfl | exact cAssign rfl rfl | exact cNot rfl rfl | exact cCallH1 rfl (.t rfl) hO0 | exact cPickT rfl rfl rfl | exact cPickF rfl rfl rfl | exact cLss rfl rfl rfl | exact cLeq rfl rfl rfl | exact cGtr rfl rfl rfl | exact cGeq rfl rfl rfl | exact cEql rfl rfl rfl | exact cNeq rfl rfl rfl | exact cExtract rfl rfl rfl)
           rotate_left))
  intro a w3 hF hb hN
  have hBs := hB.size
  replace hB := hB.trans (hb.mono hB.size)
  simp only [List.take_succ_cons, List.take_zero, List.drop_succ_cons, List.drop_zero] at hF hN ⊢
  dsimp only [ext, Option.getD] at hF
  obtain ⟨p1, ⟨g1, rfl, hg1, hb1⟩, hF⟩ := hF.open (s := 1) rfl
  refine tlStoreV (Δ := [(1, Ty.ex (.pointer (some ⟨g1, 0, none⟩)))]) hF rfl rfl rfl rfl (hF.getEx (s := 12) rfl) hb1 (by show (u8s _).size = (u8s _).size; rw [u8s_size, u8s_size, Sm.len]; rfl) (by show _ = some (u8s _).size; rw [u8s_size, Sm.len]; exact sizeS) (u8s_one _) (hF.keep [1]) rfl ?_
  intro w4 hF hb1 hk1
  refine wpList_nil ?_
  replace hB := below_own hB hk1 (by intro y hy; simp only [List.mem_singleton] at hy; omega)
  have k1 := sum_at hb1
  clear hb1
  have hB0 := hB
  have hzw4 := hB0.size
  replace hB := Below.refl w4.heap.size w4
  repeat with_reducible first | refine wp_seq ?_ | refine nThen ?_ | refine nBlk ?_ | refine wp_skip ?_ | refine wp_block ?_ | refine wp_exit ?_ | refine xThen ?_ | refine xHere ?_ | refine xFar (by decide) ?_ | refine wp_ret ?_ | refine rThen ?_ | refine rBlk ?_
  refine wp_region_lit ?_
  refine' tlOp hF rfl rfl rfl ?_ ?_
  rotate_left
  · first | exact cLoadSum rfl (.l rfl k1) Try.underlying24 sizeS | exact cMove rfl rfl | exact cAssign rfl rfl | exact cPickT rfl rfl rfl | exact cPickF rfl rfl rfl | exact cNot rfl rfl | exact cLss rfl rfl rfl | exact cLeq rfl rfl rfl | exact cGtr rfl rfl rfl | exact cGeq rfl rfl rfl | exact cEql rfl rfl rfl | exact cNeq rfl rfl rfl | exact cExtract rfl rfl rfl
  intro a w5 hF hb
  have hBs := hB.size
  replace hB := hB.trans (hb.mono hB.size)
  try (refine wpList_nil ?_)
  repeat with_reducible first | refine wp_seq ?_ | refine nThen ?_ | refine nBlk ?_ | refine wp_skip ?_ | refine wp_block ?_ | refine wp_exit ?_ | refine xThen ?_ | refine xHere ?_ | refine xFar (by decide) ?_ | refine wp_ret ?_ | refine rThen ?_ | refine rBlk ?_
  refine' tlOp hF rfl rfl rfl ?_ ?_
  rotate_left
  · first | exact cCall1 rfl rfl hT | exact cMove rfl rfl | exact cAssign rfl rfl | exact cPickT rfl rfl rfl | exact cPickF rfl rfl rfl | exact cNot rfl rfl | exact cLss rfl rfl rfl | exact cLeq rfl rfl rfl | exact cGtr rfl rfl rfl | exact cGeq rfl rfl rfl | exact cEql rfl rfl rfl | exact cNeq rfl rfl rfl | exact cExtract rfl rfl rfl
  intro a w6 hF hb
  have hBs := hB.size
  replace hB := hB.trans (hb.mono hB.size)
  try (refine wpList_nil ?_)
  repeat with_reducible first | refine wp_seq ?_ | refine nThen ?_ | refine nBlk ?_ | refine wp_skip ?_ | refine wp_block ?_ | refine wp_exit ?_ | refine xThen ?_ | refine xHere ?_ | refine xFar (by decide) ?_ | refine wp_ret ?_ | refine rThen ?_ | refine rBlk ?_
  refine' tlOp hF rfl rfl rfl ?_ ?_
  rotate_left
  · first | exact cCall1 rfl rfl hPa | exact cMove rfl rfl | exact cAssign rfl rfl | exact cPickT rfl rfl rfl | exact cPickF rfl rfl rfl | exact cNot rfl rfl | exact cLss rfl rfl rfl | exact cLeq rfl rfl rfl | exact cGtr rfl rfl rfl | exact cGeq rfl rfl rfl | exact cEql rfl rfl rfl | exact cNeq rfl rfl rfl | exact cExtract rfl rfl rfl
  intro a w7 hF hb
  have hBs := hB.size
  replace hB := hB.trans (hb.mono hB.size)
  try (refine wpList_nil ?_)
  repeat with_reducible first | refine wp_seq ?_ | refine nThen ?_ | refine nBlk ?_ | refine wp_skip ?_ | refine wp_block ?_ | refine wp_exit ?_ | refine xThen ?_ | refine xHere ?_ | refine xFar (by decide) ?_ | refine wp_ret ?_ | refine rThen ?_ | refine rBlk ?_
  refine' tlOp hF rfl rfl rfl ?_ ?_
  rotate_left
  · first | exact cMove rfl rfl | exact cAssign rfl rfl | exact cPickT rfl rfl rfl | exact cPickF rfl rfl rfl | exact cNot rfl rfl | exact cLss rfl rfl rfl | exact cLeq rfl rfl rfl | exact cGtr rfl rfl rfl | exact cGeq rfl rfl rfl | exact cEql rfl rfl rfl | exact cNeq rfl rfl rfl | exact cExtract rfl rfl rfl
  intro a w8 hF hb
  have hBs := hB.size
  replace hB := hB.trans (hb.mono hB.size)
  try (refine wpList_nil ?_)
  repeat with_reducible first | refine wp_seq ?_ | refine nThen ?_ | refine nBlk ?_ | refine wp_skip ?_ | refine wp_block ?_ | refine wp_exit ?_ | refine xThen ?_ | refine xHere ?_ | refine xFar (by decide) ?_ | refine wp_ret ?_ | refine rThen ?_ | refine rBlk ?_
  refine' tlOp hF rfl rfl rfl ?_ ?_
  rotate_left
  · first | exact cMove rfl rfl | exact cAssign rfl rfl | exact cPickT rfl rfl rfl | exact cPickF rfl rfl rfl | exact cNot rfl rfl | exact cLss rfl rfl rfl | exact cLeq rfl rfl rfl | exact cGtr rfl rfl rfl | exact cGeq rfl rfl rfl | exact cEql rfl rfl rfl | exact cNeq rfl rfl rfl | exact cExtract rfl rfl rfl
  intro a w9 hF hb
  have hBs := hB.size
  replace hB := hB.trans (hb.mono hB.size)
  try (refine wpList_nil ?_)
  repeat with_reducible first | refine wp_seq ?_ | refine nThen ?_ | refine nBlk ?_ | refine wp_skip ?_ | refine wp_block ?_ | refine wp_exit ?_ | refine xThen ?_ | refine xHere ?_ | refine xFar (by decide) ?_ | refine wp_ret ?_ | refine rThen ?_ | refine rBlk ?_
  refine' tlOp hF rfl rfl rfl ?_ ?_
  rotate_left
  · first | exact cMove rfl rfl | exact cAssign rfl rfl | exact cPickT rfl rfl rfl | exact cPickF rfl rfl rfl | exact cNot rfl rfl | exact cLss rfl rfl rfl | exact cLeq rfl rfl rfl | exact cGtr rfl rfl rfl | exact cGeq rfl rfl rfl | exact cEql rfl rfl rfl | exact cNeq rfl rfl rfl | exact cExtract rfl rfl rfl
  intro a w10 hF hb
  have hBs := hB.size
  replace hB := hB.trans (hb.mono hB.size)
  try (refine wpList_nil ?_)
  repeat with_reducible first | refine wp_seq ?_ | refine nThen ?_ | refine nBlk ?_ | refine wp_skip ?_ | refine wp_block ?_ | refine wp_exit ?_ | refine xThen ?_ | refine xHere ?_ | refine xFar (by decide) ?_ | refine wp_ret ?_ | refine rThen ?_ | refine rBlk ?_
  have hw10 := hB.size
  refine' tlOp hF rfl rfl rfl ?_ ?_
  rotate_left
  · first | exact cAllocS rfl (run_alloc_i infoS) | exact cMove rfl rfl | exact cAssign rfl rfl | exact cPickT rfl rfl rfl | exact cPickF rfl rfl rfl | exact cNot rfl rfl | exact cLss rfl rfl rfl | exact cLeq rfl rfl rfl | exact cGtr rfl rfl rfl | exact cGeq rfl rfl rfl | exact cEql rfl rfl rfl | exact cNeq rfl rfl rfl | exact cExtract rfl rfl rfl
  intro a w11 hF hb
  have hBs := hB.size
  replace hB := hB.trans (hb.mono hB.size)
  try (refine wpList_nil ?_)
  repeat with_reducible first | refine wp_seq ?_ | refine nThen ?_ | refine nBlk ?_ | refine wp_skip ?_ | refine wp_block ?_ | refine wp_exit ?_ | refine xThen ?_ | refine xHere ?_ | refine xFar (by decide) ?_ | refine wp_ret ?_ | refine rThen ?_ | refine rBlk ?_
  obtain ⟨p2, ⟨g2, rfl, hg2, hb2⟩, hF⟩ := hF.open (s := 2) rfl
  refine tlStoreV (Δ := [(1, Ty.ex (.pointer (some ⟨g1, 0, none⟩))), (2, Ty.ex (.pointer (some ⟨g2, 0, none⟩))), (18, Ty.ex (.bool true))]) hF rfl rfl rfl rfl (hF.getEx (s := 17) rfl) hb2 (by show (u8s _).size = (u8s _).size; rw [u8s_size, u8s_size, Sm.len]; rfl) (by show _ = some (u8s _).size; rw [u8s_size, Sm.len]; exact sizeS) (u8s_one _) (hF.keep [1, 2, 18]) rfl ?_
  intro w12 hF hb2 hk2
  replace hB := below_own hB hk2 (by intro y hy; simp only [List.mem_singleton] at hy; omega)
  have k2 := sum_at hb2
  clear hb2
  replace k1 := (Ty.at_ 24 _).below k1 hB
  replace hB0 := hB0.trans (hB.mono hzw4)
  have hzw12 := hB0.size
  replace hB := Below.refl w12.heap.size w12
  refine' tlOp hF rfl rfl rfl ?_ ?_
  rotate_left
  · first | exact cMove rfl rfl | exact cAssign rfl rfl | exact cPickT rfl rfl rfl | exact cPickF rfl rfl rfl | exact cNot rfl rfl | exact cLss rfl rfl rfl | exact cLeq rfl rfl rfl | exact cGtr rfl rfl rfl | exact cGeq rfl rfl rfl | exact cEql rfl rfl rfl | exact cNeq rfl rfl rfl | exact cExtract rfl rfl rfl
  intro a w13 hF hb
  have hBs := hB.size
  replace hB := hB.trans (hb.mono hB.size)
  try (refine wpList_nil ?_)
  repeat with_reducible first | refine wp_seq ?_ | refine nThen ?_ | refine nBlk ?_ | refine wp_skip ?_ | refine wp_block ?_ | refine wp_exit ?_ | refine xThen ?_ | refine xHere ?_ | refine xFar (by decide) ?_ | refine wp_ret ?_ | refine rThen ?_ | refine rBlk ?_
  repeat with_reducible first | refine wp_seq ?_ | refine nThen ?_ | refine nBlk ?_ | refine wp_skip ?_ | refine wp_block ?_ | refine wp_exit ?_ | refine xThen ?_ | refine xHere ?_ | refine xFar (by decide) ?_ | refine wp_ret ?_ | refine rThen ?_ | refine rBlk ?_
  replace hF := hF.keep [1, 2, 3]
  have k1r := (Ty.at_ 24 _).below k1 hB
  refine' reg_all hF ?_ mixed (by kernel_rfl) ?_
  rotate_left
  · repeat (first
        | exact Line.nil
        | (refine' Line.cons rfl (.no rfl rfl rfl rfl rfl rfl) ?_; rotate_left)
        | ((first | refine' Line.cons rfl (.run rfl rfl ?_) ?_ | refine' Line.cons rfl (.yes rfl rfl rfl rfl ?_) ?_)
           any_goals (first | exact cMove rfl rfl | exact cAssign rfl rfl | exact cNot rfl rfl | exact cLoadSum rfl (.l rfl k1r) Try.underlying24 sizeS | exact cCall1 rfl rfl hT | exact cAddStr rfl rfl rfl (by first | decide | (rw [ByteArray.size_extract]; omega) | omega) (by first | decide | (rw [ByteArray.size_extract]; omega) | omega) | exact cStrLo (k := 2) rfl rfl rfl Try.underlying9 (by omega) | exact cStrHi (k := 63) rfl rfl rfl Try.underlying9 (by omega) | exact cBuildV (vs := (badS T).map .string) rfl (parts6s rfl rfl rfl rfl rfl) Try.underlying29 infoStr rfl (by simp [badS, Value.cells]) (by decide) (by simp [maxLen]) | exact cPickT rfl rfl rfl | exact cPickF rfl rfl rfl | exact cLss rfl rfl rfl | exact cLeq rfl rfl rfl | exact cGtr rfl rfl rfl | exact cGeq rfl rfl rfl | exact cEql rfl rfl rfl | exact cNeq rfl rfl rfl | exact cExtract rfl rfl rfl)
           rotate_left))
  intro a w14 hF hb hN
  have hBs := hB.size
  replace hB := hB.trans (hb.mono hB.size)
  dsimp only [ext, Option.getD] at hF
  repeat with_reducible first | refine wp_seq ?_ | refine nThen ?_ | refine nBlk ?_ | refine wp_skip ?_ | refine wp_block ?_ | refine wp_exit ?_ | refine xThen ?_ | refine xHere ?_ | refine xFar (by decide) ?_ | refine wp_ret ?_ | refine rThen ?_ | refine rBlk ?_
  replace hF := hF.keep [1, 2, 3, 4]
  have eflat : (((badS T).map Value.string).map fun v => v.cells.toList).flatten = (badS T).map Value.string := by simp [badS, Value.cells]
  rw [eflat] at hF
  clear eflat
  have hbl : (badS T).length = 6 := rfl
  generalize badS T = Bs at *
  repeat with_reducible first | refine wp_seq ?_ | refine nThen ?_ | refine nBlk ?_ | refine wp_skip ?_ | refine wp_block ?_ | refine wp_exit ?_ | refine xThen ?_ | refine xHere ?_ | refine xFar (by decide) ?_ | refine wp_ret ?_ | refine rThen ?_ | refine rBlk ?_
  refine' reg_all hF ?_ mixed (by kernel_rfl) ?_
  rotate_left
  · repeat (first
        | exact Line.nil
        | (refine' Line.cons rfl (.no rfl rfl rfl rfl rfl rfl) ?_; rotate_left)
        | ((first | refine' Line.cons rfl (.run rfl rfl ?_) ?_ | refine' Line.cons rfl (.yes rfl rfl rfl rfl ?_) ?_)
           any_goals (first | exact cMove rfl rfl | exact cAssign rfl rfl | exact cNot rfl rfl | exact cPickT rfl rfl rfl | exact cPickF rfl rfl rfl | exact cLss rfl rfl rfl | exact cLeq rfl rfl rfl | exact cGtr rfl rfl rfl | exact cGeq rfl rfl rfl | exact cEql rfl rfl rfl | exact cNeq rfl rfl rfl | exact cExtract rfl rfl rfl)
           rotate_left))
  intro a w15 hF hb hN
  have hBs := hB.size
  replace hB := hB.trans (hb.mono hB.size)
  dsimp only [ext, Option.getD] at hF
  repeat with_reducible first | refine wp_seq ?_ | refine nThen ?_ | refine nBlk ?_ | refine wp_skip ?_ | refine wp_block ?_ | refine wp_exit ?_ | refine xThen ?_ | refine xHere ?_ | refine xFar (by decide) ?_ | refine wp_ret ?_ | refine rThen ?_ | refine rBlk ?_
  obtain ⟨v4, k4, hF⟩ := hF.open (s := 4) rfl
  replace k1 := (Ty.at_ 24 _).below k1 hB
  replace k2 := (Ty.at_ 24 _).below k2 hB
  replace hB0 := hB0.trans (hB.mono hzw12)
  have hzw15 := hB0.size
  replace hB := Below.refl w15.heap.size w15
  let TB := Ty.sl StT 6 (Bs.map Value.string)
  have k4 : TB.p w15 v4 := k4
  refine loop_ty (fun m a wr => ∃ (k : Nat), k + m = 6 ∧ Fr 140 [(1, Ty.ex (.pointer (some ⟨g1, 0, none⟩))), (2, Ty.ex (.pointer (some ⟨g2, 0, none⟩))), (3, Ty.ex (.bool true)), (4, Ty.ex v4), (5, Ty.ex (.int .i64 (k : Int)))] a wr ∧ Below w15.heap.size w15 wr) 6 ?_ ?_
  · exact ⟨0, by omega, hF.keep [1, 2, 3, 4, 5], hB⟩
  clear hF hB
  rintro m a wr ⟨k, hk, hF, hB⟩
  have k4r := TB.below k4 hB
  repeat with_reducible first | refine wp_seq ?_ | refine nThen ?_ | refine nBlk ?_ | refine wp_skip ?_ | refine wp_block ?_ | refine wp_exit ?_ | refine xThen ?_ | refine xHere ?_ | refine xFar (by decide) ?_ | refine wp_ret ?_ | refine rThen ?_ | refine rBlk ?_
  refine' reg_all hF ?_ mixed (by kernel_rfl) ?_
  rotate_left
  · repeat (first
        | exact Line.nil
        | (refine' Line.cons rfl (.no rfl rfl rfl rfl rfl rfl) ?_; rotate_left)
        | ((first | refine' Line.cons rfl (.run rfl rfl ?_) ?_ | refine' Line.cons rfl (.yes rfl rfl rfl rfl ?_) ?_)
           any_goals (first | exact cMove rfl rfl | exact cAssign rfl rfl | exact cNot rfl rfl | exact cLenH rfl (.l rfl k4r) (Ty.sl_isSl _ _ _) Try.underlying29 | exact cPickT rfl rfl rfl | exact cPickF rfl rfl rfl | exact cLss rfl rfl rfl | exact cLeq rfl rfl rfl | exact cGtr rfl rfl rfl | exact cGeq rfl rfl rfl | exact cEql rfl rfl rfl | exact cNeq rfl rfl rfl | exact cExtract rfl rfl rfl)
           rotate_left))
  intro a w16 hF hb hN
  have hBs := hB.size
  replace hB := hB.trans (hb.mono hB.size)
  dsimp only [ext, Option.getD] at hF
  repeat with_reducible first | refine wp_seq ?_ | refine nThen ?_ | refine nBlk ?_ | refine wp_skip ?_ | refine wp_block ?_ | refine wp_exit ?_ | refine xThen ?_ | refine xHere ?_ | refine xFar (by decide) ?_ | refine wp_ret ?_ | refine rThen ?_ | refine rBlk ?_
  refine cond_ty hF rfl (fun hlt => ?_) (fun hge => ?_)
  · have hlt : k < 6 := by have := of_decide_eq_true hlt; omega
    have hok := hbad k hlt
    have hvd : (Bs.map Value.string).drop (k * 1) = Value.string (Bs.getD k { data := #[] }) :: (Bs.map Value.string).drop (k + 1) := by
      have hl : k < (Bs.map Value.string).length := by rw [List.length_map, hbl]; exact hlt
      rw [Nat.mul_one, List.drop_eq_getElem_cons hl]
      simp [List.getD, List.getElem?_eq_getElem (show k < Bs.length by omega)]
    have hPb := parse_ty (Bs.getD k { data := #[] }) Sm.zero false (bad_zero hok) hok
    generalize Bs.getD k { data := #[] } = sb at *
    have k4r := TB.below k4 hB
    repeat with_reducible first | refine wp_seq ?_ | refine nThen ?_ | refine nBlk ?_ | refine wp_skip ?_ | refine wp_block ?_ | refine wp_exit ?_ | refine xThen ?_ | refine xHere ?_ | refine xFar (by decide) ?_ | refine wp_ret ?_ | refine rThen ?_ | refine rBlk ?_
    refine wp_region_lit ?_
    refine' tlOp hF rfl rfl rfl ?_ ?_
    rotate_left
    · first | exact cMove rfl rfl | exact cAssign rfl rfl | exact cPickT rfl rfl rfl | exact cPickF rfl rfl rfl | exact cNot rfl rfl | exact cLss rfl rfl rfl | exact cLeq rfl rfl rfl | exact cGtr rfl rfl rfl | exact cGeq rfl rfl rfl | exact cEql rfl rfl rfl | exact cNeq rfl rfl rfl | exact cExtract rfl rfl rfl
    intro a x0 hF hb
    have hBs := hB.size
    replace hB := hB.trans (hb.mono hB.size)
    try (refine wpList_nil ?_)
    repeat with_reducible first | refine wp_seq ?_ | refine nThen ?_ | refine nBlk ?_ | refine wp_skip ?_ | refine wp_block ?_ | refine wp_exit ?_ | refine xThen ?_ | refine xHere ?_ | refine xFar (by decide) ?_ | refine wp_ret ?_ | refine rThen ?_ | refine rBlk ?_
    refine' tlOp hF rfl rfl rfl ?_ ?_
    rotate_left
    · first | exact cMove rfl rfl | exact cAssign rfl rfl | exact cPickT rfl rfl rfl | exact cPickF rfl rfl rfl | exact cNot rfl rfl | exact cLss rfl rfl rfl | exact cLeq rfl rfl rfl | exact cGtr rfl rfl rfl | exact cGeq rfl rfl rfl | exact cEql rfl rfl rfl | exact cNeq rfl rfl rfl | exact cExtract rfl rfl rfl
    intro a x1 hF hb
    have hBs := hB.size
    replace hB := hB.trans (hb.mono hB.size)
    try (refine wpList_nil ?_)
    repeat with_reducible first | refine wp_seq ?_ | refine nThen ?_ | refine nBlk ?_ | refine wp_skip ?_ | refine wp_block ?_ | refine wp_exit ?_ | refine xThen ?_ | refine xHere ?_ | refine xFar (by decide) ?_ | refine wp_ret ?_ | refine rThen ?_ | refine rBlk ?_
    replace k4r := TB.below k4 hB
    refine' tlOp hF rfl rfl rfl ?_ ?_
    rotate_left
    · first | exact cIndexS (k := k) (sz := 1) rfl (.l rfl k4r) rfl Try.underlying29 sizeStr hlt (by rw [Nat.mul_one, List.length_map, hbl]; exact hlt) | exact cMove rfl rfl | exact cAssign rfl rfl | exact cPickT rfl rfl rfl | exact cPickF rfl rfl rfl | exact cNot rfl rfl | exact cLss rfl rfl rfl | exact cLeq rfl rfl rfl | exact cGtr rfl rfl rfl | exact cGeq rfl rfl rfl | exact cEql rfl rfl rfl | exact cNeq rfl rfl rfl | exact cExtract rfl rfl rfl
    intro a x2 hF hb
    have hBs := hB.size
    replace hB := hB.trans (hb.mono hB.size)
    try (refine wpList_nil ?_)
    repeat with_reducible first | refine wp_seq ?_ | refine nThen ?_ | refine nBlk ?_ | refine wp_skip ?_ | refine wp_block ?_ | refine wp_exit ?_ | refine xThen ?_ | refine xHere ?_ | refine xFar (by decide) ?_ | refine wp_ret ?_ | refine rThen ?_ | refine rBlk ?_
    refine' tlOp hF rfl rfl rfl ?_ ?_
    rotate_left
    · first | exact cLoad1 rfl (Has.c (.t rfl) (fun W v h => by rw [hvd] at h; exact h)) (pts_at _ _) Try.underlying9 rfl | exact cMove rfl rfl | exact cAssign rfl rfl | exact cPickT rfl rfl rfl | exact cPickF rfl rfl rfl | exact cNot rfl rfl | exact cLss rfl rfl rfl | exact cLeq rfl rfl rfl | exact cGtr rfl rfl rfl | exact cGeq rfl rfl rfl | exact cEql rfl rfl rfl | exact cNeq rfl rfl rfl | exact cExtract rfl rfl rfl
    intro a x3 hF hb
    have hBs := hB.size
    replace hB := hB.trans (hb.mono hB.size)
    try (refine wpList_nil ?_)
    repeat with_reducible first | refine wp_seq ?_ | refine nThen ?_ | refine nBlk ?_ | refine wp_skip ?_ | refine wp_block ?_ | refine wp_exit ?_ | refine xThen ?_ | refine xHere ?_ | refine xFar (by decide) ?_ | refine wp_ret ?_ | refine rThen ?_ | refine rBlk ?_
    refine' tlOp hF rfl rfl rfl ?_ ?_
    rotate_left
    · first | exact cCall1 rfl rfl hPb | exact cMove rfl rfl | exact cAssign rfl rfl | exact cPickT rfl rfl rfl | exact cPickF rfl rfl rfl | exact cNot rfl rfl | exact cLss rfl rfl rfl | exact cLeq rfl rfl rfl | exact cGtr rfl rfl rfl | exact cGeq rfl rfl rfl | exact cEql rfl rfl rfl | exact cNeq rfl rfl rfl | exact cExtract rfl rfl rfl
    intro a x4 hF hb
    have hBs := hB.size
    replace hB := hB.trans (hb.mono hB.size)
    try (refine wpList_nil ?_)
    repeat with_reducible first | refine wp_seq ?_ | refine nThen ?_ | refine nBlk ?_ | refine wp_skip ?_ | refine wp_block ?_ | refine wp_exit ?_ | refine xThen ?_ | refine xHere ?_ | refine xFar (by decide) ?_ | refine wp_ret ?_ | refine rThen ?_ | refine rBlk ?_
    refine' tlOp hF rfl rfl rfl ?_ ?_
    rotate_left
    · first | exact cMove rfl rfl | exact cAssign rfl rfl | exact cPickT rfl rfl rfl | exact cPickF rfl rfl rfl | exact cNot rfl rfl | exact cLss rfl rfl rfl | exact cLeq rfl rfl rfl | exact cGtr rfl rfl rfl | exact cGeq rfl rfl rfl | exact cEql rfl rfl rfl | exact cNeq rfl rfl rfl | exact cExtract rfl rfl rfl
    intro a x5 hF hb
    have hBs := hB.size
    replace hB := hB.trans (hb.mono hB.size)
    try (refine wpList_nil ?_)
    repeat with_reducible first | refine wp_seq ?_ | refine nThen ?_ | refine nBlk ?_ | refine wp_skip ?_ | refine wp_block ?_ | refine wp_exit ?_ | refine xThen ?_ | refine xHere ?_ | refine xFar (by decide) ?_ | refine wp_ret ?_ | refine rThen ?_ | refine rBlk ?_
    refine' tlOp hF rfl rfl rfl ?_ ?_
    rotate_left
    · first | exact cMove rfl rfl | exact cAssign rfl rfl | exact cPickT rfl rfl rfl | exact cPickF rfl rfl rfl | exact cNot rfl rfl | exact cLss rfl rfl rfl | exact cLeq rfl rfl rfl | exact cGtr rfl rfl rfl | exact cGeq rfl rfl rfl | exact cEql rfl rfl rfl | exact cNeq rfl rfl rfl | exact cExtract rfl rfl rfl
    intro a x6 hF hb
    have hBs := hB.size
    replace hB := hB.trans (hb.mono hB.size)
    try (refine wpList_nil ?_)
    repeat with_reducible first | refine wp_seq ?_ | refine nThen ?_ | refine nBlk ?_ | refine wp_skip ?_ | refine wp_block ?_ | refine wp_exit ?_ | refine xThen ?_ | refine xHere ?_ | refine xFar (by decide) ?_ | refine wp_ret ?_ | refine rThen ?_ | refine rBlk ?_
    refine' tlOp hF rfl rfl rfl ?_ ?_
    rotate_left
    · first | exact cMove rfl rfl | exact cAssign rfl rfl | exact cPickT rfl rfl rfl | exact cPickF rfl rfl rfl | exact cNot rfl rfl | exact cLss rfl rfl rfl | exact cLeq rfl rfl rfl | exact cGtr rfl rfl rfl | exact cGeq rfl rfl rfl | exact cEql rfl rfl rfl | exact cNeq rfl rfl rfl | exact cExtract rfl rfl rfl
    intro a x7 hF hb
    have hBs := hB.size
    replace hB := hB.trans (hb.mono hB.size)
    try (refine wpList_nil ?_)
    repeat with_reducible first | refine wp_seq ?_ | refine nThen ?_ | refine nBlk ?_ | refine wp_skip ?_ | refine wp_block ?_ | refine wp_exit ?_ | refine xThen ?_ | refine xHere ?_ | refine xFar (by decide) ?_ | refine wp_ret ?_ | refine rThen ?_ | refine rBlk ?_
    have hx7 := hB.size
    refine' tlOp hF rfl rfl rfl ?_ ?_
    rotate_left
    · first | exact cAllocS rfl (run_alloc_i infoS) | exact cMove rfl rfl | exact cAssign rfl rfl | exact cPickT rfl rfl rfl | exact cPickF rfl rfl rfl | exact cNot rfl rfl | exact cLss rfl rfl rfl | exact cLeq rfl rfl rfl | exact cGtr rfl rfl rfl | exact cGeq rfl rfl rfl | exact cEql rfl rfl rfl | exact cNeq rfl rfl rfl | exact cExtract rfl rfl rfl
    intro a x8 hF hb
    have hBs := hB.size
    replace hB := hB.trans (hb.mono hB.size)
    try (refine wpList_nil ?_)
    repeat with_reducible first | refine wp_seq ?_ | refine nThen ?_ | refine nBlk ?_ | refine wp_skip ?_ | refine wp_block ?_ | refine wp_exit ?_ | refine xThen ?_ | refine xHere ?_ | refine xFar (by decide) ?_ | refine wp_ret ?_ | refine rThen ?_ | refine rBlk ?_
    obtain ⟨p6, ⟨g6, rfl, hg6, hb6⟩, hF⟩ := hF.open (s := 6) rfl
    refine tlStoreV (Δ := [(1, Ty.ex (.pointer (some ⟨g1, 0, none⟩))), (2, Ty.ex (.pointer (some ⟨g2, 0, none⟩))), (3, Ty.ex (.bool true)), (4, Ty.ex v4), (5, Ty.ex (.int .i64 (k : Int))), (6, Ty.ex (.pointer (some ⟨g6, 0, none⟩))), (48, Ty.ex (.bool false))]) hF rfl rfl rfl rfl (hF.getEx (s := 47) rfl) hb6 (by show (u8s _).size = (u8s _).size; rw [u8s_size, u8s_size, Sm.len]; rfl) (by show _ = some (u8s _).size; rw [u8s_size, Sm.len]; exact sizeS) (u8s_one _) (hF.keep [1, 2, 3, 4, 5, 6, 48]) rfl ?_
    intro x9 hF hb6 hk6
    replace hB := below_own hB hk6 (by intro y hy; simp only [List.mem_singleton] at hy; omega)
    have k6 := sum_at hb6
    clear hb6
    refine' tlOp hF rfl rfl rfl ?_ ?_
    rotate_left
    · first | exact cMove rfl rfl | exact cAssign rfl rfl | exact cPickT rfl rfl rfl | exact cPickF rfl rfl rfl | exact cNot rfl rfl | exact cLss rfl rfl rfl | exact cLeq rfl rfl rfl | exact cGtr rfl rfl rfl | exact cGeq rfl rfl rfl | exact cEql rfl rfl rfl | exact cNeq rfl rfl rfl | exact cExtract rfl rfl rfl
    intro a x10 hF hb
    have hBs := hB.size
    replace hB := hB.trans (hb.mono hB.size)
    try (refine wpList_nil ?_)
    repeat with_reducible first | refine wp_seq ?_ | refine nThen ?_ | refine nBlk ?_ | refine wp_skip ?_ | refine wp_block ?_ | refine wp_exit ?_ | refine xThen ?_ | refine xHere ?_ | refine xFar (by decide) ?_ | refine wp_ret ?_ | refine rThen ?_ | refine rBlk ?_
    replace k6 := (Ty.at_ 24 _).below k6 hb
    repeat with_reducible first | refine wp_seq ?_ | refine nThen ?_ | refine nBlk ?_ | refine wp_skip ?_ | refine wp_block ?_ | refine wp_exit ?_ | refine xThen ?_ | refine xHere ?_ | refine xFar (by decide) ?_ | refine wp_ret ?_ | refine rThen ?_ | refine rBlk ?_
    refine' reg_all hF ?_ mixed (by kernel_rfl) ?_
    rotate_left
    · repeat (first
          | exact Line.nil
          | (refine' Line.cons rfl (.no rfl rfl rfl rfl rfl rfl) ?_; rotate_left)
          | ((first | refine' Line.cons rfl (.run rfl rfl ?_) ?_ | refine' Line.cons rfl (.yes rfl rfl rfl rfl ?_) ?_)
             any_goals (first | exact cMove rfl rfl | exact cAssign rfl rfl | exact cNot rfl rfl | exact cLoadSum rfl (.l rfl k6) Try.underlying24 sizeS | exact cCall1 rfl rfl hZ | exact cPickT rfl rfl rfl | exact cPickF rfl rfl rfl | exact cLss rfl rfl rfl | exact cLeq rfl rfl rfl | exact cGtr rfl rfl rfl | exact cGeq rfl rfl rfl | exact cEql rfl rfl rfl | exact cNeq rfl rfl rfl | exact cExtract rfl rfl rfl)
             rotate_left))
    intro a x11 hF hb hN
    have hBs := hB.size
    replace hB := hB.trans (hb.mono hB.size)
    dsimp only [ext, Option.getD] at hF
    repeat with_reducible first | refine wp_seq ?_ | refine nThen ?_ | refine nBlk ?_ | refine wp_skip ?_ | refine wp_block ?_ | refine wp_exit ?_ | refine xThen ?_ | refine xHere ?_ | refine xFar (by decide) ?_ | refine wp_ret ?_ | refine rThen ?_ | refine rBlk ?_
    refine cond_f hF rfl ?_
    repeat with_reducible first | refine wp_seq ?_ | refine nThen ?_ | refine nBlk ?_ | refine wp_skip ?_ | refine wp_block ?_ | refine wp_exit ?_ | refine xThen ?_ | refine xHere ?_ | refine xFar (by decide) ?_ | refine wp_ret ?_ | refine rThen ?_ | refine rBlk ?_
    refine' reg_all hF ?_ mixed (by kernel_rfl) ?_
    rotate_left
    · repeat (first
          | exact Line.nil
          | (refine' Line.cons rfl (.no rfl rfl rfl rfl rfl rfl) ?_; rotate_left)
          | ((first | refine' Line.cons rfl (.run rfl rfl ?_) ?_ | refine' Line.cons rfl (.yes rfl rfl rfl rfl ?_) ?_)
             any_goals (first | exact cMove rfl rfl | exact cAssign rfl rfl | exact cNot rfl rfl | exact cAdd (r := ((k + 1 : Nat) : Int)) rfl rfl rfl (by omega) | exact cPickT rfl rfl rfl | exact cPickF rfl rfl rfl | exact cLss rfl rfl rfl | exact cLeq rfl rfl rfl | exact cGtr rfl rfl rfl | exact cGeq rfl rfl rfl | exact cEql rfl rfl rfl | exact cNeq rfl rfl rfl | exact cExtract rfl rfl rfl)
             rotate_left))
    intro a x12 hF hb hN
    have hBs := hB.size
    replace hB := hB.trans (hb.mono hB.size)
    dsimp only [ext, Option.getD] at hF
    repeat with_reducible first | refine wp_seq ?_ | refine nThen ?_ | refine nBlk ?_ | refine wp_skip ?_ | refine wp_block ?_ | refine wp_exit ?_ | refine xThen ?_ | refine xHere ?_ | refine xFar (by decide) ?_ | refine wp_ret ?_ | refine rThen ?_ | refine rBlk ?_
    exact ⟨m - 1, by omega, k + 1, by omega, hF.keep [1, 2, 3, 4, 5], hB⟩
  replace hF := hF.keep [1, 2, 3]
  have hw16 := hB.size
  repeat with_reducible first | refine wp_seq ?_ | refine nThen ?_ | refine nBlk ?_ | refine wp_skip ?_ | refine wp_block ?_ | refine wp_exit ?_ | refine xThen ?_ | refine xHere ?_ | refine xFar (by decide) ?_ | refine wp_ret ?_ | refine rThen ?_ | refine rBlk ?_
  refine' region_ty 5 mixed (by kernel_rfl) hF ?_ ?_
  rotate_left
  · simp only [List.take_succ_cons, List.take_zero]
    repeat (first
        | exact Line.nil
        | (refine' Line.cons rfl (.no rfl rfl rfl rfl rfl rfl) ?_; rotate_left)
        | (refine' Line.cons rfl (.new rfl rfl (run_alloc_i infoS) rfl) ?_; rotate_left)
        | ((first | refine' Line.cons rfl (.run rfl rfl ?_) ?_ | refine' Line.cons rfl (.yes rfl rfl rfl rfl ?_) ?_)
           any_goals (first | exact cMove rfl rfl | exact cAssign rfl rfl | exact cNot rfl rfl | exact cMakeZ (n := 55) rfl (by decide) | exact cMakeZ (n := 1) rfl (by decide) | exact cBuildT (τs := [Ty.sl 5 55 ((List.replicate 55 0).map bv), Ty.sl 5 1 ((List.replicate 1 0).map bv)]) rfl (partsT2 rfl (.t rfl) (.t rfl) (Ty.sl_isSl _ _ _) (Ty.sl_isSl _ _ _)) Try.underlying35 infoBs rfl | exact cCall1 rfl rfl hO551 | exact cPickT rfl rfl rfl | exact cPickF rfl rfl rfl | exact cLss rfl rfl rfl | exact cLeq rfl rfl rfl | exact cGtr rfl rfl rfl | exact cGeq rfl rfl rfl | exact cEql rfl rfl rfl | exact cNeq rfl rfl rfl | exact cExtract rfl rfl rfl)
           rotate_left))
  intro a w17 hF hb hN
  have hBs := hB.size
  replace hB := hB.trans (hb.mono hB.size)
  simp only [List.take_succ_cons, List.take_zero, List.drop_succ_cons, List.drop_zero] at hF hN ⊢
  dsimp only [ext, Option.getD] at hF
  obtain ⟨p8, ⟨g8, rfl, hg8, hb8⟩, hF⟩ := hF.open (s := 8) rfl
  refine tlStoreV (Δ := [(1, Ty.ex (.pointer (some ⟨g1, 0, none⟩))), (2, Ty.ex (.pointer (some ⟨g2, 0, none⟩))), (3, Ty.ex (.bool true)), (8, Ty.ex (.pointer (some ⟨g8, 0, none⟩)))]) hF rfl rfl rfl rfl (hF.getEx (s := 58) rfl) hb8 (by show (u8s _).size = (u8s _).size; rw [u8s_size, u8s_size, Sm.len]; rfl) (by show _ = some (u8s _).size; rw [u8s_size, Sm.len]; exact sizeS) (u8s_one _) (hF.keep [1, 2, 3, 8]) rfl ?_
  intro w18 hF hb8 hk8
  refine wpList_nil ?_
  replace hB := below_own hB hk8 (by intro y hy; simp only [List.mem_singleton] at hy; omega)
  have k8 := sum_at hb8
  clear hb8
  replace k1 := (Ty.at_ 24 _).below k1 hB
  replace k2 := (Ty.at_ 24 _).below k2 hB
  replace hB0 := hB0.trans (hB.mono hzw15)
  have hzw18 := hB0.size
  replace hB := Below.refl w18.heap.size w18
  repeat with_reducible first | refine wp_seq ?_ | refine nThen ?_ | refine nBlk ?_ | refine wp_skip ?_ | refine wp_block ?_ | refine wp_exit ?_ | refine xThen ?_ | refine xHere ?_ | refine xFar (by decide) ?_ | refine wp_ret ?_ | refine rThen ?_ | refine rBlk ?_
  have hw18 := hB.size
  refine' region_ty 2 mixed (by kernel_rfl) hF ?_ ?_
  rotate_left
  · simp only [List.take_succ_cons, List.take_zero]
    repeat (first
        | exact Line.nil
        | (refine' Line.cons rfl (.no rfl rfl rfl rfl rfl rfl) ?_; rotate_left)
        | (refine' Line.cons rfl (.new rfl rfl (run_alloc_i infoS) rfl) ?_; rotate_left)
        | ((first | refine' Line.cons rfl (.run rfl rfl ?_) ?_ | refine' Line.cons rfl (.yes rfl rfl rfl rfl ?_) ?_)
           any_goals (first | exact cMove rfl rfl | exact cAssign rfl rfl | exact cNot rfl rfl | exact cBuildP (vs := #[(0, .int .u8 1), (1, .int .u8 2), (2, .int .u8 0), (3, .int .u8 0), (4, .int .u8 0), (5, .int .u8 0), (6, .int .u8 0), (7, .int .u8 128), (8, .int .u8 3)]) rfl (fun a w _ => by simp [Act.eval]) bW | exact cPickT rfl rfl rfl | exact cPickF rfl rfl rfl | exact cLss rfl rfl rfl | exact cLeq rfl rfl rfl | exact cGtr rfl rfl rfl | exact cGeq rfl rfl rfl | exact cEql rfl rfl rfl | exact cNeq rfl rfl rfl | exact cExtract rfl rfl rfl)
           rotate_left))
  intro a w19 hF hb hN
  have hBs := hB.size
  replace hB := hB.trans (hb.mono hB.size)
  simp only [List.take_succ_cons, List.take_zero, List.drop_succ_cons, List.drop_zero] at hF hN ⊢
  dsimp only [ext, Option.getD] at hF
  obtain ⟨p9, ⟨g9, rfl, hg9, hb9⟩, hF⟩ := hF.open (s := 9) rfl
  refine tlStoreV (Δ := [(1, Ty.ex (.pointer (some ⟨g1, 0, none⟩))), (2, Ty.ex (.pointer (some ⟨g2, 0, none⟩))), (3, Ty.ex (.bool true)), (8, Ty.ex (.pointer (some ⟨g8, 0, none⟩))), (9, Ty.ex (.pointer (some ⟨g9, 0, none⟩)))]) hF rfl rfl rfl rfl (hF.getEx (s := 59) rfl) hb9 (by show (u8s _).size = (u8s _).size; rw [u8s_size, u8s_size, Sm.len]; rfl) (by show _ = some (u8s _).size; rw [u8s_size, Sm.len]; exact sizeS) (u8s_one _) (hF.keep [1, 2, 3, 8, 9]) rfl ?_
  intro w20 hF hb9 hk9
  refine wpList_nil ?_
  replace hB := below_own hB hk9 (by intro y hy; simp only [List.mem_singleton] at hy; omega)
  have k9 := sum_at hb9
  clear hb9
  replace k1 := (Ty.at_ 24 _).below k1 hB
  replace k2 := (Ty.at_ 24 _).below k2 hB
  replace k8 := (Ty.at_ 24 _).below k8 hB
  replace hB0 := hB0.trans (hB.mono hzw18)
  have hzw20 := hB0.size
  replace hB := Below.refl w20.heap.size w20
  repeat with_reducible first | refine wp_seq ?_ | refine nThen ?_ | refine nBlk ?_ | refine wp_skip ?_ | refine wp_block ?_ | refine wp_exit ?_ | refine xThen ?_ | refine xHere ?_ | refine xFar (by decide) ?_ | refine wp_ret ?_ | refine rThen ?_ | refine rBlk ?_
  refine' region_fz 81 mixed (by kernel_rfl) hF ?_ ?_
  rotate_left
  · simp only [List.append_eq, List.cons_append, List.nil_append, List.take_succ_cons, List.take_zero]
    repeat (first
      | exact LineF.nil
      | ((first | refine' LineF.cons rfl (.run rfl ?_) ?_ ?_ | refine' LineF.cons rfl (.yes rfl rfl rfl ?_) ?_ ?_)
         any_goals (first | exact OpF.of (cMove rfl rfl) | exact OpF.of (cAssign rfl rfl) | exact OpF.of (cNot rfl rfl) | exact OpF.of (cLoadSum rfl (.l rfl k1) Try.underlying24 sizeS) | exact OpF.of (cLoadSum rfl (.l rfl k2) Try.underlying24 sizeS) | exact OpF.of (cLoadSum rfl (.l rfl k8) Try.underlying24 sizeS) | exact OpF.of (cLoadSum rfl (.l rfl k9) Try.underlying24 sizeS) | exact OpF.of (cCall1 rfl rfl hT) | exact OpF.of (OpOk.b (c := true) (cEqlStr1 rfl rfl rfl) hTs) | exact OpF.of (OpOk.b (c := true) (cEqlAgg rfl rfl rfl guardS (eqlS _ _)) (decide_eq_true rfl)) | exact OpF.of (cMakeZ (n := 56) rfl (by decide)) | exact OpF.of (cBuildT (τs := [Ty.sl 5 56 ((List.replicate 56 0).map bv)]) rfl (partsT1 rfl (.t rfl) (Ty.sl_isSl _ _ _)) Try.underlying35 infoBs rfl) | exact OpF.of (cCall1 rfl rfl hO56) | exact cBuildN (vs := [bv 97]) rfl (fun a w _ => by simp [Act.eval, bv]) Try.underlying30 infoU8s rfl (by simp [bv, Value.cells]) (by decide) (by simp [maxLen]) | exact cBuildN (vs := [bv 98, bv 99]) rfl (fun a w _ => by simp [Act.eval, bv]) Try.underlying30 infoU8s rfl (by simp [bv, Value.cells]) (by decide) (by simp [maxLen]) | exact cBuildN (vs := [bv 97, bv 98, bv 99]) rfl (fun a w _ => by simp [Act.eval, bv]) Try.underlying30 infoU8s rfl (by simp [bv, Value.cells]) (by decide) (by simp [maxLen]) | exact cFreezeN rfl rfl Try.underlying30 Try.underlying5 | exact OpF.of (cBuildT (τs := [Ty.sl 5 1 [bv 97], Ty.sl 5 2 [bv 98, bv 99]]) rfl (partsT2 rfl (Has.c (.t rfl) nsl_sl) (Has.c (.t rfl) nsl_sl) (Ty.sl_isSl _ _ _) (Ty.sl_isSl _ _ _)) Try.underlying35 infoBs rfl) | exact OpF.of (cBuildT (τs := [Ty.sl 5 3 [bv 97, bv 98, bv 99]]) rfl (partsT1 rfl (Has.c (.t rfl) nsl_sl) (Ty.sl_isSl _ _ _)) Try.underlying35 infoBs rfl) | exact OpF.of (cCall1 rfl rfl hO2) | exact OpF.of (cCall1 rfl rfl hO3) | exact OpF.of (cCall2 rfl rfl rfl hW0) | exact OpF.of (cCall2 rfl rfl rfl hW1) | exact OpF.of (cCall2 rfl rfl rfl hW4) | exact OpF.of (cCall2 rfl rfl rfl hWm) | exact OpF.of (OpOk.b (c := true) (cEql rfl rfl rfl) (decide_eq_true rfl)) | exact OpF.of (cBuildS2 rfl bX) | exact OpF.of (cBuildS1 rfl bY) | exact OpF.of (cCall2 rfl rfl rfl hC1) | exact OpF.of (cCall2 rfl rfl rfl hC2) | exact OpF.of (cCall2 rfl rfl rfl hC0) | exact OpF.of (cCall2 rfl rfl rfl hXX) | exact OpF.of (cCall1 rfl rfl hZx) | exact OpF.of (cCall1 rfl rfl hZw) | exact OpF.of (cPickT rfl rfl rfl) | exact OpF.of (cPickF rfl rfl rfl) | exact OpF.of (cLss rfl rfl rfl) | exact OpF.of (cLeq rfl rfl rfl) | exact OpF.of (cGtr rfl rfl rfl) | exact OpF.of (cGeq rfl rfl rfl) | exact OpF.of (cEql rfl rfl rfl) | exact OpF.of (cNeq rfl rfl rfl) | exact OpF.of (cExtract rfl rfl rfl))
         any_goals (first | exact Fst.ex _ | exact Fst.sl _ _ _ | exact Fst.nsl _ _ _ _ | exact Fst.at_ _ _ | exact Fst.slT _ _ _ (by simp [Fst.sl]))
         rotate_left))
  intro a w21 hF hb
  have hBs := hB.size
  replace hB := hB.trans (hb.mono hB.size)
  simp only [List.append_eq, List.cons_append, List.nil_append] at hF ⊢
  simp only [List.take_succ_cons, List.take_zero, List.drop_succ_cons, List.drop_zero] at hF ⊢
  dsimp only [ext, Option.getD] at hF
  refine wpList_nil ?_
  repeat with_reducible first | refine wp_seq ?_ | refine nThen ?_ | refine nBlk ?_ | refine wp_skip ?_ | refine wp_block ?_ | refine wp_exit ?_ | refine xThen ?_ | refine xHere ?_ | refine xFar (by decide) ?_ | refine wp_ret ?_ | refine rThen ?_ | refine rBlk ?_
  refine ret1 hF rfl rfl fun z hz => ?_
  exact ⟨by rw [show z = .bool true from hz], hB0.trans (hB.mono hzw20)⟩
end Go.Proofs.Ytkdkmnemmenikaa
