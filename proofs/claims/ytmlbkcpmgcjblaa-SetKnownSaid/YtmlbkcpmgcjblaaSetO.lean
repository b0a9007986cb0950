/- Layer 10: words for the walk of SetKnown. -/
import Derived.Test.YtmlbkcpmgcjblaaSetN
namespace Go.Proofs.Ytmlbkcpmgcjblaa
open Go.RowKit

/-- A slice of one, all of its memory. -/
def Ty.one (e : TypeId) (u : Value) : Ty := ⟨fun w v => ∃ g cs fr, v = .slice (some ⟨g, 0, none⟩) 1 1 ∧ w.heap[g]? = some (.cells cs e fr) ∧ cs[0]? = some u, fun t => t == e, fun ⟨g, cs, fr, h1, h2, h3⟩ k hA => ⟨g, cs, fr, h1, keeps_block k hA h2 (by simp), h3⟩⟩
theorem zc31 : #[(.int .u8 1 : Value)] ++ Builtin.zeroCells #[.int .u8 0] 31 = (bv 1 :: List.replicate 31 (bv 0)).toArray := by kernel_rfl
section
variable {w0 : World} {Γ : Ctx} {o : Oper}
theorem cBuildOne (ho : o.op = .buildSlice 70 1 #[(0, .const (.int .u8 1))]) : OpOk Try.prog w0 Γ o (Ty.one 5 (.int .u8 1)) :=
  .new fun a w _ hs => by
    have hr := run_buildSlice (P := Try.prog) (t := 70) 1 [(.int .u8 1 : Value)] Try.underlying70 infoU8 rfl (by simp [Value.cells]) (by decide) w
    refine ⟨.slice (some ⟨w.heap.size, 0, none⟩) 1 1, _, ⟨w.heap.size, #[.int .u8 1], (0, 0), rfl, heap_alloc_new w _, rfl⟩, ((Keeps.refl [] w).alloc _).below, ?_⟩
    unfold execOp
    simp only [ho]
    rw [show ((#[(0, (.const (.int .u8 1) : Operand))] : Array (Nat × Operand)).map fun (i, x) => (i, a.eval x)) = (([(.int .u8 1 : Value)]).zipIdx.map fun p => (p.2, p.1)).toArray by simp [Act.eval], Sem.run_bind, hr]
    rfl
theorem cAppend31 (ho : ∃ s, o.op = .call { callee := .builtin .append, args := #[.tmp s, .const (.int .i64 31)], argTypes := #[70, 3] } ∧ look Γ s = some (Ty.one 5 (.int .u8 1))) : OpOk Try.prog w0 Γ o (Ty.sl 5 32 (bv 1 :: List.replicate 31 (bv 0))) := by
  obtain ⟨s, ho, hx⟩ := ho
  refine .new fun a w hb hs => ?_
  obtain ⟨u, h1, g, cs, fr, rfl, h2, h3⟩ := hs (.tmp s) _ (by simp [ho, Op.operands, Call.operands]) hx
  obtain ⟨inf, hinf, hz, hsz, hby⟩ := info_parts infoU8
  have hc : (Builtin.firstCells 1 1 (.slice (some ⟨g, 0, none⟩) 1 1)).run Try.prog w.drew = .ok #[.int .u8 1] w.drew := run_firstCells_some (P := Try.prog) w.drew 1 1 ⟨g, 0, none⟩ 1 1 [.int .u8 1] rfl fun j v hv => by
    match j with
    | 0 =>
      simp at hv
      subst hv
      have := cell_of_row w.drew g 0 cs 5 fr h2
      rw [show (⟨g, 0, none⟩ : Addr).add 0 = ⟨g, 0, none⟩ by simp [Addr.add_lit], this]
      exact h3
    | j + 1 => simp at hv
  have hge := grownCap_ge w 32 1 5
  have hm := grownCap_le_maxLen w 32 1 5 (by simp [maxLen])
  have hrun : (Builtin.append_ #[70, 3] o.type #[.slice (some ⟨g, 0, none⟩) 1 1, .int .i64 31]).run Try.prog w = .ok (.slice (some ⟨w.heap.size, 0, none⟩) 32 (grownCap w 32 1 5)) (w.drew.alloc (.cells (#[.int .u8 1] ++ Builtin.zeroCells #[.int .u8 0] 31 ++ Builtin.zeroCells #[.int .u8 0] (grownCap w 32 1 5 - 32)) 5)) := by
    have hw : IntKind.i64.wrap (31 : Int) = 31 := by decide
    have h63 : ¬ ((9223372036854775807 : Int) < 1 + max 31 0) := by decide
    simp [h63, Builtin.append_, run_underlying Try.underlying70, run_underlying Try.underlying3, sizeOf, typeInfo, zeroValue, hinf, hz, hsz, hby, asInt, asIntOf, hw, Question.forced, newRow, grownCap, hc, Builtin.nextslicecap, Value.cells]
  have hcells : ∀ (j : Nat) (v : Value), (bv 1 :: List.replicate 31 (bv 0))[j]? = some v → (#[(.int .u8 1 : Value)] ++ Builtin.zeroCells #[.int .u8 0] 31 ++ Builtin.zeroCells #[.int .u8 0] (grownCap w 32 1 5 - 32))[j]? = some v := fun j v hv => by
    have hj : j < 32 := by have := (List.getElem?_eq_some_iff.1 hv).1; simpa using this
    have e1 : (#[(.int .u8 1 : Value)] ++ Builtin.zeroCells #[.int .u8 0] 31) = (bv 1 :: List.replicate 31 (bv 0)).toArray := zc31
    rw [Array.getElem?_append_left (by rw [e1]; simpa using hj), e1]
    simpa using hv
  refine ⟨_, _, ⟨some ⟨w.heap.size, 0, none⟩, grownCap w 32 1 5, rfl, hge, hm, fun h => (by cases h), fun j v hv => ⟨w.heap.size, 0, _, (0, 0), rfl, Blk.new w.drew _ _, by rw [Nat.zero_add]; exact hcells j v hv⟩⟩, ((Keeps.refl [] w).drew.alloc _).below, ?_⟩
  unfold execOp
  simp only [ho, resolve, invoke, builtin, Sem.run_bind, Sem.run_pure, Result.andThen_ok, List.map_toArray, List.map_cons, List.map_nil, h1, show a.eval (.const (.int .i64 31)) = .int .i64 31 from rfl, hrun]
theorem cQuoN {P : Program} {t t2 : TypeId} {x y : Operand} {m n r : Nat} (ho : o.op = .binOp .quo t x y t2) (hx : OpT Γ x (Ty.ex (.int .i64 (m : Int)))) (hy : OpT Γ y (Ty.ex (.int .i64 (n : Int)))) (hn : 0 < n) (hr : m / n = r) (hb : r ≤ 9223372036854775807) : OpOk P w0 Γ o (Ty.ex (.int .i64 (r : Int))) := by
  have h := cQuoW (P := P) (w0 := w0) ho hx hy (by omega)
  rwa [← Int.ofNat_tdiv, hr, show IntKind.i64.wrap (r : Int) = r from IntWalk.i64_in _ (by omega)] at h
theorem cBuild2v {P : Program} {t : TypeId} {x y : Operand} {v u z : Value} (ho : o.op = .build t #[(0, x), (1, y)]) (hx : OpT Γ x (Ty.ex v)) (hy : OpT Γ y (Ty.ex u)) (hr : ∀ w : World, (Instr.build t #[(0, v), (1, u)]).run P w = .ok z w) : OpOk P w0 Γ o (Ty.ex z) :=
  cBuildP (vs := #[(0, v), (1, u)]) ho (fun a w hs => by
    obtain ⟨v', h1, h2⟩ := hs x _ (by simp [ho, Op.operands]) hx
    obtain ⟨u', h3, h4⟩ := hs y _ (by simp [ho, Op.operands]) hy
    have h2 : v' = v := h2
    have h4 : u' = u := h4
    simp [h1, h2, h3, h4]) hr
end

/-- A sum whose first two bytes are told. -/
def e2 (a b : Nat) : Sm := ⟨a % 256 :: b % 256 :: List.replicate 30 0, by simp, fun x hx => by
  rcases List.mem_cons.1 hx with rfl | hx
  · omega
  rcases List.mem_cons.1 hx with rfl | hx
  · omega
  · rw [(List.mem_replicate.1 hx).2]; omega⟩
theorem build_e2 (a b : Nat) (w : World) : (Instr.build 34 #[(0, .int .u8 ((a % 256 : Nat) : Int)), (1, .int .u8 ((b % 256 : Nat) : Int))]).run Try.prog w = .ok (.agg (u8s (e2 a b).l)) w := by
  show _ = Result.ok (Value.agg (bv (a % 256) :: bv (b % 256) :: (List.replicate 30 0).map bv).toArray) w
  unfold bv
  generalize a % 256 = x
  generalize b % 256 = y
  kernel_rfl
def fullN (n : Nat) : List Sm := (List.range n).map fun i => e2 (i / 256) i
abbrev full : List Sm := fullN 512
theorem fullN_succ (n : Nat) : fullN (n + 1) = fullN n ++ [e2 (n / 256) n] := by simp [fullN, List.range_succ]
theorem fullN_len (n : Nat) : (fullN n).length = n := by simp [fullN]
theorem e2_lt {i j : Nat} (h : i < j) (hj : j < 512) : cmpL (e2 (i / 256) i).l (e2 (j / 256) j).l < 0 := by
  show cmpL (i / 256 % 256 :: i % 256 :: _) (j / 256 % 256 :: j % 256 :: _) < 0
  unfold cmpL
  by_cases h1 : i / 256 % 256 < j / 256 % 256
  · rw [if_pos h1]; omega
  · rw [if_neg h1, if_neg (by omega)]
    unfold cmpL
    rw [if_pos (by omega)]; omega
abbrev s9 : Sm := sm1 9 (by decide)
theorem e2_s9 {i : Nat} (hi : i < 512) : cmpL (e2 (i / 256) i).l s9.l < 0 := by
  show cmpL (i / 256 % 256 :: i % 256 :: _) (9 :: _) < 0
  unfold cmpL
  rw [if_pos (by omega)]; omega
theorem full_srt : srt full := by
  unfold full fullN srt
  rw [List.pairwise_map]
  refine List.Pairwise.imp_of_mem ?_ List.pairwise_lt_range
  intro a b ha hb h
  exact e2_lt h (List.mem_range.1 hb)
theorem more_srt : srt (full ++ [s9]) := List.pairwise_append.2 ⟨full_srt, List.pairwise_singleton _ _, fun x hx y hy => by
  simp only [List.mem_singleton] at hy
  subst hy
  obtain ⟨i, hi, rfl⟩ := List.mem_map.1 hx
  exact e2_s9 (List.mem_range.1 hi)⟩
theorem full_mem {i : Nat} (hi : i < 512) : e2 (i / 256) i ∈ full := List.mem_map.2 ⟨i, List.mem_range.2 hi, rfl⟩
theorem s9_not : s9 ∉ full := fun h => by
  obtain ⟨i, hi, e⟩ := List.mem_map.1 h
  have := e2_s9 (List.mem_range.1 hi)
  rw [e, cmp_self] at this
  omega
end Go.Proofs.Ytmlbkcpmgcjblaa
