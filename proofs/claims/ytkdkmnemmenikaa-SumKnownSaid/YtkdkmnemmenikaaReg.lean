/- A region that draws its order, by an invariant over what has come up. -/
import Derived.Test.YtkdkmnemmenikaaMemA
import Derived.Orders
namespace Go.Proofs.Ytkdkmnemmenikaa
open Go.RowKit

def left (l : List Bool) : Nat := (l.filter (!·)).length
theorem left_set : ∀ (l : List Bool) (i : Nat), l[i]? = some false → left (l.set i true) + 1 = left l
  | b :: l, 0, h => by
    simp at h
    subst h
    simp [left]
  | b :: l, i + 1, h => by
    have ih := left_set l i (by simpa using h)
    unfold left at ih ⊢
    cases b <;> simp at ih ⊢ <;> omega
theorem left_zero {l : List Bool} (h : left l = 0) : ∀ b ∈ l, b = true := by
  intro b hb
  unfold left at h
  have := List.eq_nil_of_length_eq_zero h
  cases b with
  | true => rfl
  | false =>
    have : false ∈ l.filter (!·) := List.mem_filter.2 ⟨hb, rfl⟩
    simp_all
theorem left_replicate (n : Nat) : left (List.replicate n false) = n := by simp [left]

theorem ready_all {ops : Array Oper} {listed : Array Bool} (hback : ∀ i o, ops[i]? = some o → ∀ e ∈ o.after, Region.binds .any e = true → e.on < i) (hs : listed.size = ops.size)
    (h : Region.ready .any ops listed = []) : ∀ i, i < ops.size → listed.getD i false = true := by
  intro i
  induction i using Nat.strongRecOn with
  | ind i ih =>
    intro hi
    cases hv : listed.getD i false with
    | true => rfl
    | false =>
      exfalso
      have hmem : i ∈ Region.ready .any ops listed := mem_ready.2 ⟨by
          have hl : i < listed.size := by omega
          simpa [Array.getD, hl] using hv, ops[i], Array.getElem?_eq_getElem hi, fun e he hb => by
          have h1 := hback i ops[i] (Array.getElem?_eq_getElem hi) e he hb
          exact ih e.on h1 (by omega)⟩
      rw [h] at hmem
      cases hmem

/-- **A region by an invariant**: whatever order is picked. -/
theorem region_inv {P : Program} {id : Nat} {ops : Array Oper} {Q : Exit → Act → World → Prop} {a : Act} {w : World} (hm : P.follows .mixedOrders = true)
    (hback : ∀ i o, ops[i]? = some o → ∀ e ∈ o.after, Region.binds .any e = true → e.on < i)
    (Inv : Array Bool → Act → World → Prop) (h0 : Inv (Array.replicate ops.size false) a w.drew)
    (hstep : ∀ (listed : Array Bool) a w i o, listed.size = ops.size → Inv listed a w → ops[i]? = some o → listed.getD i true = false → (∀ e ∈ o.after, Region.binds .any e = true → listed.getD e.on false = true) →
      if Region.wanted o (yielded ops a.tmps) then o.wp P a w (fun a' w' => Inv (listed.setIfInBounds i true) a' w') Q else Inv (listed.setIfInBounds i true) (a.put o.dst undef) w)
    (hend : ∀ (listed : Array Bool) a w, (∀ i, i < ops.size → listed.getD i false = true) → Inv listed a w → Q .normal a w) : (Code.region id ops true).wp P Q a w := by
  have key : ∀ (fuel : Nat) (listed : Array Bool) (a : Act) (w : World), listed.size = ops.size → left listed.toList = fuel → Inv listed a w → wpAny P .any ops Q fuel listed a w := by
    intro fuel
    induction fuel with
    | zero =>
      intro listed a w hs hl hI
      have hall : ∀ i, i < ops.size → listed.getD i false = true := fun i hi => by
        have hi' : i < listed.size := by omega
        have := left_zero hl listed[i] (by simp)
        simpa [Array.getD, hi'] using this
      refine ⟨?_, hend listed a w hall hI⟩
      cases hr : Region.ready .any ops listed with
      | nil => rfl
      | cons i r =>
        have hmem : i ∈ Region.ready .any ops listed := by rw [hr]; simp
        obtain ⟨h1, o, ho, _⟩ := mem_ready.1 hmem
        have hi : i < ops.size := (Array.getElem?_eq_some_iff.1 ho).1
        have h2 := hall i hi
        have hi' : i < listed.size := by omega
        simp [Array.getD, hi'] at h1 h2
        rw [h1] at h2; cases h2
    | succ fuel ih =>
      intro listed a w hs hl hI
      refine ⟨fun hr => hend listed a w (ready_all hback hs hr) hI, fun i hi => ?_⟩
      obtain ⟨h1, o, ho, h2⟩ := mem_ready.1 hi
      have hio : i < ops.size := (Array.getElem?_eq_some_iff.1 ho).1
      have hi' : i < listed.size := by omega
      have hnext : ∀ a' w', Inv (listed.setIfInBounds i true) a' w' → wpAny P .any ops Q fuel (listed.setIfInBounds i true) a' w' := fun a' w' h => by
        refine ih _ a' w' (by simpa using hs) ?_ h
        have hfalse : listed.toList[i]? = some false := by
          simp [Array.getD, hi'] at h1
          simp [hi', h1]
        have := left_set listed.toList i hfalse
        rw [hl] at this
        simpa using this
      have h3 := hstep listed a w i o hs hI ho h1 h2
      unfold wpOp
      simp only [ho]
      split
      · rename_i hw
        rw [if_pos hw] at h3
        exact .inl (Oper.wp_mono hnext h3)
      · rename_i hw
        rw [if_neg hw] at h3
        exact hnext _ _ h3
  refine wp_region_any hm (key _ _ a _ (by simp) ?_ h0)
  simpa using left_replicate ops.size
end Go.Proofs.Ytkdkmnemmenikaa
