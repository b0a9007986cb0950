/- Walks: the laws' cellOf; the reference's PutSum, Check, Pure. -/
import Derived.Test.YtbhlaafahfeacaaCellB
namespace Go.Proofs.Ytbhlaafahfeacaa
open Go.RowKit

theorem wpList_quiet {P : Program} {ops : Array Oper} {C : World → Prop} {Q : Exit → Act → World → Prop} {rest : List Oper} : ∀ (l : List Oper) (a : Act) (w : World), C w →
    wpQuiet P ops C (fun a' => ∀ w', C w' → wpList P ops Q rest a' w') l a → wpList P ops Q (l ++ rest) a w
  | [], _, w, hw, h => h w hw
  | o :: l, a, w, hw, h => by
    simp only [List.cons_append, wpList]
    simp only [wpQuiet] at h
    split
    · rename_i hwant
      rw [if_pos hwant] at h
      exact .inl (Oper.wp_of_quiet hw (fun a w' hw' hk => wpList_quiet l a w' hw' hk) h)
    · rename_i hn
      rw [if_neg hn] at h
      exact wpList_quiet l _ w hw h
/-- A plain region, its first n operations over the class of all later worlds. -/
theorem wp_plain_later {P : Program} {id : Nat} {Q : Exit → Act → World → Prop} {a : Act} {w : World} {l : List Oper} (n : Nat)
    (h : wpQuiet P l.toArray (fun w' => ∃ p : Later w, w' = p.wd) (fun a' => ∀ w', (∃ p : Later w, w' = p.wd) → wpList P l.toArray Q (l.drop n) a' w') (l.take n) a) : (Code.region id l.toArray false).wp P Q a w := by
  refine wp_region_lit ?_
  have h2 := wpList_quiet (rest := l.drop n) (l.take n) a w ⟨⟨w, Below.refl _ _⟩, rfl⟩ h
  rwa [List.take_append_drop] at h2
theorem exec_load {P : Program} {o : Oper} {a : Act} {w : World} {ty : TypeId} {x : Operand} {u v : Value} (ho : o.op = .load ty x) (hx : a.eval x = u) (hl : (Instr.loadAt ty u).run P w = .ok v w) : (execOp a.eval o).run P w = .ok (.value v) w := by
  unfold execOp
  simp only [ho, hx]
  simp [hl]
theorem exec_build_cell49 {o : Oper} {a : Act} {w : World} {x y z : Operand} {n : Int} {K C : Array Value} (ho : o.op = .build 49 #[(0, x), (1, y), (2, z)]) (hx : a.eval x = .int .i64 n) (hy : a.eval y = .agg K) (hz : a.eval z = .agg C)
    (hK : K.size = 32) (hC : C.size = 32) : (execOp a.eval o).run Try.prog w = .ok (.value (.agg (cellA n K C))) w := by
  have h := build_cell49 n K C hK hC w
  unfold execOp
  rw [ho]
  simp [hx, hy, hz, h]
theorem now {w : World} {P : Program} {ty : TypeId} {u v : Value} (h : ∀ w' : World, (∃ p : Later w, w' = p.wd) → (Instr.loadAt ty u).run P w' = .ok v w') : (Instr.loadAt ty u).run P w = .ok v w := h w ⟨⟨w, Below.refl _ _⟩, rfl⟩

set_option maxRecDepth 100000 in
theorem cellOf_any (c : Cl) (w : World) :
    Calls Try.prog 29 #[.agg c.a] w fun e w' => e = .returned (.agg c.a) ∧ Below w.heap.size w w' := by
  have hC := (Blk.new w 34 c.a).alloc (.cells zero65 49)
  have hZ := Blk.newAt (w.alloc (.cells c.a 34)) 49 zero65 (w.heap.size + 1) (by simp)
  have hb : Below w.heap.size w ((w.alloc (.cells c.a 34)).alloc (.cells zero65 49)) := (((Keeps.refl [] w).alloc _).alloc _).below
  have l1 := Lib.hid (now (later_n34 c hC))
  have l2 := Lib.hid (now (later_key34 c hC))
  have l3 := Lib.hid (now (later_check34 c hC))
  have hs1 := Lib.hid c.key.size
  have hs2 := Lib.hid c.check.size
  have hR : Hid (c.a = cellA c.n (u8s c.key.l) (u8s c.check.l)) := rfl
  have hi := Lib.hid (info49.trans (congrArg some c.size.symm))
  have hs : Hid (c.a.size = zero65.size) := c.size.trans zero65_size.symm
  have ho := c.one
  have hz1 := zero49
  clear hC
  generalize hc : c.a = CA at *
  generalize c.n = n at *
  generalize u8s c.key.l = K at *
  generalize u8s c.check.l = C at *
  clear hc
  go_enter Try.func29, Try.ntmps29
  go_wp2_with (first
    | (refine wpList_val rfl _ (exec_load (x := .tmp 3) rfl rfl l1.out) ?_)
    | (refine wpList_val rfl _ (exec_load (x := .tmp 5) rfl rfl l2.out) ?_)
    | (refine wpList_val rfl _ (exec_load (x := .tmp 7) rfl rfl l3.out) ?_)
    | (refine wpList_val rfl _ (exec_build_cell49 rfl rfl rfl rfl hs1.out hs2.out) ?_; rw [← hR.out])
    | (refine wpList_store_blk rfl 49 (.tmp 2) (.tmp 9) rfl (w.heap.size + 1) 49 _ CA rfl rfl hZ hs.out hi.out ho ?_; intro w3 hB3 hk3))
  refine post_blk rfl rfl (w.heap.size + 1) 49 CA _ rfl hB3 Try.underlying49 rfl hi.out ⟨rfl, ?_⟩
  exact ((Keeps.of_below (S := []) hb).trans' hk3 (by simp)).below
end Go.Proofs.Ytbhlaafahfeacaa
