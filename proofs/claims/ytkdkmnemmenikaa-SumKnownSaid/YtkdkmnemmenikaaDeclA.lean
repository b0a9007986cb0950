/- Small words for the use of region_decl. -/
import Derived.Test.YtkdkmnemmenikaaDecl
import Derived.Test.YtkdkmnemmenikaaSm
import Derived.Test.YtkdkmnemmenikaaXorA
namespace Go.Proofs.Ytkdkmnemmenikaa
open Go.RowKit

def backB (ops : Array Oper) : Bool := (List.range ops.size).all fun i => match ops[i]? with | some o => o.after.all fun e => !Region.binds .any e || decide (e.on < i) | none => true
theorem backB_spec {ops : Array Oper} (h : backB ops = true) : ∀ i o, ops[i]? = some o → ∀ e ∈ o.after, Region.binds .any e = true → e.on < i := by
  intro i o ho e he hb
  unfold backB at h
  rw [List.all_eq_true] at h
  have h1 := h i (List.mem_range.2 (Array.getElem?_eq_some_iff.1 ho).1)
  rw [ho] at h1
  simp only [Array.all_eq_true_iff_forall_mem] at h1
  have h2 := h1 e he
  simp [hb] at h2
  exact h2

def fold1 (ps : List (Nat × Value)) (t : Array Value) : Array Value := ps.foldl (fun t p => t.setIfInBounds p.1 p.2) t
theorem act_eq {a : Act} : ∀ (ps : List (Nat × Value)) (t : Array Value), a.tmps.size = t.size → (∀ s, (∀ p ∈ ps, s ≠ p.1) → a.tmps[s]? = t[s]?) → (∀ p ∈ ps, a.tmps[p.1]? = some p.2) → a.tmps = fold1 ps t
  | [], t, _, h2, _ => Array.ext_getElem? (fun s => h2 s (by simp))
  | p :: ps, t, h1, h2, h3 => by
    refine act_eq ps (t.setIfInBounds p.1 p.2) (by simpa using h1) (fun s hs => ?_) (fun q hq => h3 q (by simp [hq]))
    have hp := h3 p (by simp)
    by_cases hsp : s = p.1
    · subst hsp
      have hl : p.1 < t.size := by rw [← h1]; exact (Array.getElem?_eq_some_iff.1 hp).1
      rw [hp, Array.getElem?_setIfInBounds_self, if_pos hl]
    · rw [Array.getElem?_setIfInBounds_ne (by omega)]
      exact h2 s (fun q hq => by
        rcases List.mem_cons.1 hq with rfl | hq
        · exact hsp
        · exact hs q hq)
theorem act_is {a a0 : Act} (ps : List (Nat × Value)) (hd : a.defers = a0.defers) (h1 : a.tmps.size = a0.tmps.size) (h2 : ∀ s, (∀ p ∈ ps, s ≠ p.1) → a.tmps[s]? = a0.tmps[s]?) (h3 : ∀ p ∈ ps, a.tmps[p.1]? = some p.2) :
    a = ⟨fold1 ps a0.tmps, a0.defers⟩ := by
  cases a
  simp only at hd
  subst hd
  congr 1
  exact act_eq ps a0.tmps h1 h2 h3

/-- A new variable that holds a sum's noughts. -/
theorem wp_alloc_sum {o : Oper} {a : Act} {w : World} {K : Act → World → Prop} {Q : Exit → Act → World → Prop} (ho : o.op = .alloc 24)
    (h : K (a.put o.dst (.pointer (some ⟨w.heap.size, 0, none⟩))) (w.alloc (.cells (u8s (List.replicate 32 0)) 24))) : o.wp Try.prog a w K Q := by
  have hz := Try.zeroValue24
  unfold Oper.wp execOp
  rw [ho]
  simp [go_sem, hz]
  exact h
theorem info32a : (Try.prog.info? 23).map (·.size) = some 32 := by kernel_rfl
/-- A sum's bytes, loaded out of a block that is just these. -/
theorem wp_load_a32 {o : Oper} {a : Act} {w : World} {K : Act → World → Prop} {Q : Exit → Act → World → Prop} (s : Nat) (ho : o.op = .load 23 (.tmp s)) (b : Nat) (t : TypeId) (x : Sm)
    (hs : a.tmps[s]? = some (.pointer (some ⟨b, 0, none⟩))) (hB : Blk w b t (u8s x.l)) (h : K (a.put o.dst (.agg (u8s x.l))) w) : o.wp Try.prog a w K Q :=
  wp_load_row 23 (.tmp s) ho b (eval_tmp hs) t (u8s x.l) (0, 0) _ hB Try.underlying23 rfl (info32a.trans (congrArg some ((u8s_size x.l).trans x.len).symm)) h
theorem lt2 {i : Nat} (h : i < 2) : i = 0 ∨ i = 1 := by omega
theorem lt3 {i : Nat} (h : i < 3) : i = 0 ∨ i = 1 ∨ i = 2 := by omega
end Go.Proofs.Ytkdkmnemmenikaa
