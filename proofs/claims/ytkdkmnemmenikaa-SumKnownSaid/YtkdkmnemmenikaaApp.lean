/- append to a slice of bytes of the call's own. -/
import Derived.Test.YtkdkmnemmenikaaProg
import Derived.Test.YtkdkmnemmenikaaMemO
import Derived.KernelRfl
namespace Go.Proofs.Ytkdkmnemmenikaa
open Go.RowKit

theorem info_byte : (Try.prog.info? 5).map (fun i => (i.zero, i.size, i.bytes)) = some (some (.int .u8 0), 1, 1) := by kernel_rfl
theorem bv_one (l : List Nat) : ∀ u ∈ l.map bv, u.oneCell' = true := by intro u hu; simp at hu; obtain ⟨x, _, rfl⟩ := hu; rfl

section
variable {ops : Array Oper} {rest : List Oper} {o : Oper} {a : Act} {w : World} {K : Act → World → Prop} {Q : Exit → Act → World → Prop}
theorem wp_app (s x : Operand) (ho : o.op = .call { callee := .builtin .append, args := #[s, x], argTypes := #[30, 30] })
    (v : Value) (n : Nat) (xs : List Value) (S : List Nat) (hs : a.eval s = v) (hown : Own w 1 v n xs S)
    (A : Option Addr) (m c : Nat) (l : List Nat) (hx : a.eval x = .slice A m c) (hl : l.length = m) (hr : Rd w A (l.map bv)) (hA : A = none → m = 0) (hn : n + m ≤ 140737488355328)
    (h : ∀ A' c' w' S', Own w' 1 (.slice A' (n + m) c') (n + m) (xs ++ l.map bv) S' → Keeps S w w' → (S' = S ∨ S' = [w.heap.size]) → n + m ≤ c' → c' ≤ maxLen → (A' = none → n + m = 0 ∧ c' = 0) → K (a.put o.dst (.slice A' (n + m) c')) w') : o.wp Try.prog a w K Q := by
  refine wp_append_ownc w s x 30 ho 5 (.int .u8 0) 1 1 Try.underlying30 info_byte rfl v n xs S hs hown A m c (l.map bv) hx (by simp [hl]) hr hA (bv_one l) (by unfold maxLen; omega) (by omega) ?_
  intro v' w' S' h1 h2 h3
  obtain ⟨A', c', rfl, h4, h5, _, h6⟩ := h1.form
  exact h A' c' w' S' h1 h2 h3 h4 h5 h6
theorem wpList_app (hgd : o.guard = none) (s x : Operand) (ho : o.op = .call { callee := .builtin .append, args := #[s, x], argTypes := #[30, 30] })
    (v : Value) (n : Nat) (xs : List Value) (S : List Nat) (hs : a.eval s = v) (hown : Own w 1 v n xs S)
    (A : Option Addr) (m c : Nat) (l : List Nat) (hx : a.eval x = .slice A m c) (hl : l.length = m) (hr : Rd w A (l.map bv)) (hA : A = none → m = 0) (hn : n + m ≤ 140737488355328)
    (h : ∀ A' c' w' S', Own w' 1 (.slice A' (n + m) c') (n + m) (xs ++ l.map bv) S' → Keeps S w w' → (S' = S ∨ S' = [w.heap.size]) → n + m ≤ c' → c' ≤ maxLen → (A' = none → n + m = 0 ∧ c' = 0) → wpList Try.prog ops Q rest (a.put o.dst (.slice A' (n + m) c')) w') :
    wpList Try.prog ops Q (o :: rest) a w :=
  wpList_plain hgd fun _ hK => wp_app s x ho v n xs S hs hown A m c l hx hl hr hA hn fun A' c' w' S' h1 h2 h3 h4 h5 h6 => hK _ _ (h A' c' w' S' h1 h2 h3 h4 h5 h6)
end
end Go.Proofs.Ytkdkmnemmenikaa
