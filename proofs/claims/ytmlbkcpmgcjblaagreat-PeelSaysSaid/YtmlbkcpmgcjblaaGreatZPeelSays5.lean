/- Joined: TyE, PeelE, PeelF, PeelG, PeelH, TabO, PeelI, PeelJ, PeelL, RPeelA, RPeelB, SetR, TabQ. -/
import Derived.Test.YtmlbkcpmgcjblaaGreatZPeelSays4
/- Regions by types: one operation that acts (an append in place), beside others that look at no memory. -/
namespace Go.Proofs.YtmlbkcpmgcjblaaGreat
open Go.RowKit

section
variable {P : Program} {w0 : World} {N : Nat} {a0 : Act}
/-- A region by an invariant of what is listed. -/
theorem region_inv {id : Nat} {Q : Exit → Act → World → Prop} {l : List Oper} {draw : Bool} (n : Nat) (hm : P.follows .mixedOrders = true) (hB : (regB l.toArray N n && tailB l.toArray n) = true) (I : Array Bool → Act → World → Prop)
    (start : ∀ w, Below w0.heap.size w0 w → I (Array.replicate l.toArray.size false) a0 w)
    (step : ∀ (listed : Array Bool) (a : Act) (w : World) (i : Nat) (o : Oper), I listed a w → listed.size = l.toArray.size → (∀ (j : Nat) (oj : Oper), l.toArray[j]? = some oj → listed.getD j false = true → ∀ e ∈ oj.after, Region.binds .any e = true → listed.getD e.on false = true) →
      i < n → l.toArray[i]? = some o → listed.getD i false = false → (∀ e ∈ o.after, Region.binds .any e = true → listed.getD e.on false = true) → ∀ (K : Act → World → Prop) (Q : Exit → Act → World → Prop), (∀ a' w', I (listed.setIfInBounds i true) a' w' → K a' w') →
      if Region.wanted o (yielded l.toArray a.tmps) then o.wp P a w K Q else K (a.put o.dst undef) w)
    (hQ : ∀ (listed : Array Bool) a w, I listed a w → (∀ i, i < n → listed.getD i false = true) → wpList P l.toArray Q (l.drop n) a w) : (Code.region id l.toArray draw).wp P Q a0 w0 := by
  rw [Bool.and_eq_true] at hB
  obtain ⟨hB, hT⟩ := hB
  have hsize : l.toArray.size = l.length := by simp
  have hnl : n ≤ l.toArray.size := by
    unfold tailB at hT
    split at hT
    · rename_i h; simp at h; simp [h]
    · simp only [Bool.and_eq_true, decide_eq_true_eq] at hT; omega
  have hlen : n = (l.take n).length := by simp at hnl ⊢; omega
  have hli : ∀ i, i < n → (l.take n)[i]? = l.toArray[i]? := fun i hi => by simp [hi]
  have hback : ∀ i o, i < n → l.toArray[i]? = some o → ∀ e ∈ o.after, Region.binds .any e = true → e.on < i := fun i o hi ho e he hb => by
    obtain ⟨o', d, ho', _, _, h, _⟩ := regB_at hB hi
    obtain rfl : o = o' := Option.some.inj (ho.symm.trans ho')
    exact h e he hb
  have fin : ∀ (listed : Array Bool) a w, I listed a w → (∀ i, i < n → listed.getD i false = true) → wpList P l.toArray Q (l.drop n) a w := hQ
  cases draw with
  | true =>
    have key : ∀ (f : Nat) (listed : Array Bool) (a : Act) (w : World), HeadInv .any l.toArray n listed → wanting n listed = f → I listed a w → wpAny P .any l.toArray Q (f + (l.toArray.size - n)) listed a w := by
      intro f
      induction f with
      | zero =>
        intro listed a w hH h0 hI
        have hall := wanting_zero h0
        have hdl : (l.drop n).length = l.toArray.size - n := by simp
        have e := all_listed hH hall hnl
        have hseq : Region.seqB .any l.toArray (l.toArray.size - n) n listed = true := by
          unfold tailB at hT
          split at hT
          · rename_i h
            have hz : n = l.toArray.size := by simpa using h
            have h2 : l.toArray.size - n = 0 := by omega
            rw [h2]
            simp only [Region.seqB, List.isEmpty_iff]
            unfold Region.ready
            rw [List.filter_eq_nil_iff]
            intro i hi
            have hi' := List.mem_range.1 hi
            have h3 := hall i (by omega)
            have hil : i < listed.size := by rw [hH.size]; exact hi'
            simp [Array.getD, hil] at h3 ⊢
            simp [h3]
          · simp only [Bool.and_eq_true] at hT
            rw [e]; exact hT.2
        have := wpAny_of_seq (md := .any) (Q' := Q) (l.drop n) n listed a w (fun j => by simp [List.getElem?_drop]) (by rw [hdl]; exact hseq) (fin listed a w hI hall)
        rw [Nat.zero_add]
        rwa [hdl] at this
      | succ f ih =>
        intro listed a w hH h0 hI
        rw [show f + 1 + (l.toArray.size - n) = (f + (l.toArray.size - n)) + 1 by omega]
        have hex : ∃ i, i < n ∧ listed.getD i true = false := by
          refine Classical.byContradiction fun hno => ?_
          have hz : wanting n listed = 0 := by
            unfold wanting
            rw [List.length_eq_zero_iff, List.filter_eq_nil_iff]
            intro i hi
            have hi' := List.mem_range.1 hi
            have hl : i < listed.size := by rw [hH.size]; omega
            have h1 : ¬ listed.getD i true = false := fun h => hno ⟨i, hi', h⟩
            simp [Array.getD, hl] at h1 ⊢
            exact h1
          omega
        obtain ⟨i0, hi0, hun0⟩ := hex
        refine ⟨fun hr => ?_, fun i hi => ?_⟩
        · exfalso
          have := ready_head hback hnl hH.size hr i0 hi0
          rw [getD_both hun0] at this
          cases this
        · obtain ⟨h1, o, ho, h2⟩ := mem_ready.1 hi
          have hin : i < n := Nat.lt_of_not_le fun h => by
            have hio := (Array.getElem?_eq_some_iff.1 ho).1
            unfold tailB at hT
            split at hT
            · rename_i h'; simp at h'; omega
            · simp only [Bool.and_eq_true, decide_eq_true_eq] at hT
              exact tail_waits hT.1.1.2 hT.1.2 hT.1.1.1 hH _ i0 rfl hi0 hun0 i h hi
          have hil : i < listed.size := by rw [hH.size]; omega
          have h3 := step listed a w i o hI hH.size hH.closed hin ho (getD_both h1) h2 (wpAny P .any l.toArray Q (f + (l.toArray.size - n)) (listed.setIfInBounds i true)) Q (fun a' w' hI' => by
            refine ih _ a' w' (hH.set hi hin) ?_ hI'
            have := wanting_set hin hil (getD_both h1)
            omega)
          unfold wpOp
          simp only [ho]
          split
          · rename_i hw
            rw [if_pos hw] at h3
            exact .inl h3
          · rename_i hw
            rw [if_neg hw] at h3
            exact h3
    have inv0 : HeadInv .any l.toArray n (Array.replicate l.toArray.size false) :=
      ⟨by simp, fun j oj _ hl => (by rw [getD_replicate_false] at hl; cases hl), fun t _ ht => getD_in (by simpa using ht) (getD_replicate_false _ _)⟩
    have h0 : wanting n (Array.replicate l.toArray.size false) = n := by
      unfold wanting
      rw [List.filter_eq_self.2 (fun i _ => by rw [getD_replicate_false]; rfl), List.length_range]
    refine wp_region_any hm ?_
    have := key n _ a0 w0.drew inv0 h0 (start w0.drew (Below.refl _ _).drew)
    rw [show n + (l.toArray.size - n) = l.toArray.size by omega] at this
    exact this
  | false =>
    have key : ∀ (f k : Nat) (a : Act) (w : World), k + f = n → I ((List.replicate k true ++ List.replicate (l.toArray.size - k) false).toArray) a w → wpList P l.toArray Q (l.drop k) a w := by
      intro f
      induction f with
      | zero =>
        intro k a w hk hI
        obtain rfl : k = n := by omega
        refine fin _ a w hI (fun i hi => ?_)
        simp [Array.getD, hi]
        omega
      | succ f ih =>
        intro k a w hk hI
        have hkn : k < n := by omega
        have hkl : k < l.length := by omega
        have hdrop : l.drop k = l[k] :: l.drop (k + 1) := by rw [List.drop_eq_getElem_cons hkl]
        have getD_k : ∀ m j, m ≤ l.toArray.size → (List.replicate m true ++ List.replicate (l.toArray.size - m) false).toArray.getD j false = decide (j < m) := fun m j hm => by
          by_cases hj : j < m
          · simp [Array.getD, hj]; omega
          · simp [Array.getD, List.getElem_append, hj]
        have ho : l.toArray[k]? = some l[k] := by simp [hkl]
        have hset : (List.replicate k true ++ List.replicate (l.toArray.size - k) false).toArray.setIfInBounds k true = (List.replicate (k + 1) true ++ List.replicate (l.toArray.size - (k + 1)) false).toArray := by
          apply Array.ext_getElem?
          intro j
          rw [show l.toArray.size - k = (l.toArray.size - (k + 1)) + 1 by omega, List.replicate_succ, List.replicate_succ']
          simp only [List.setIfInBounds_toArray, List.getElem?_toArray, List.append_assoc, List.singleton_append]
          rw [List.set_append_right _ _ (by simp)]
          simp
        rw [hdrop]
        refine wpList_step fun K hK => ?_
        refine step _ a w k _ hI (by simp; omega) (fun j oj hj hl e he hb => ?_) hkn ho (by rw [getD_k k k (by omega)]; simp) (fun e he hb => ?_) K Q (fun a' w' hI' => hK a' w' (ih (k + 1) a' w' (by omega) (by rw [← hset]; exact hI')))
        · rw [getD_k k _ (by omega)] at hl ⊢
          simp only [decide_eq_true_eq] at hl ⊢
          have := hback j oj (by omega) hj e he hb
          omega
        · rw [getD_k k _ (by omega)]
          simp only [decide_eq_true_eq]
          exact hback k _ hkn ho e he hb
    refine wp_region_lit ?_
    have := key n 0 a0 w0 (by omega) (by
      have e : (List.replicate 0 true ++ List.replicate (l.toArray.size - 0) false).toArray = Array.replicate l.toArray.size false := by simp
      rw [e]
      exact start w0 (Below.refl _ _))
    simpa using this
end
/-- The operations for which the p-th waits. -/
def ancB (ops : Array Oper) (p : Nat) (A : List Nat) : Bool := A.all fun i => i == p || A.any fun j => decide (i < j) && decide (j ≤ p) && Region.waitsFor .any ops j i
theorem anc_listed {ops : Array Oper} {p : Nat} {A : List Nat} {listed : Array Bool} (hA : ancB ops p A = true) (hcl : ∀ (j : Nat) (oj : Oper), ops[j]? = some oj → listed.getD j false = true → ∀ e ∈ oj.after, Region.binds .any e = true → listed.getD e.on false = true) (hp : listed.getD p false = true) : ∀ (m i : Nat), i ∈ A → p ≤ i + m → listed.getD i false = true := by
  intro m
  induction m with
  | zero =>
    intro i hi hm
    have h1 := List.all_eq_true.1 hA i hi
    simp only [Bool.or_eq_true, beq_iff_eq, List.any_eq_true, Bool.and_eq_true, decide_eq_true_eq] at h1
    rcases h1 with rfl | ⟨j, _, ⟨h2, h3⟩, _⟩
    · exact hp
    · omega
  | succ m ih =>
    intro i hi hm
    have h1 := List.all_eq_true.1 hA i hi
    simp only [Bool.or_eq_true, beq_iff_eq, List.any_eq_true, Bool.and_eq_true, decide_eq_true_eq] at h1
    rcases h1 with rfl | ⟨j, hj, ⟨h2, h3⟩, h4⟩
    · exact hp
    · have h5 := ih j hj (by omega)
      obtain ⟨oj, hoj, e, he, hb, hon⟩ := Region.waitsFor_spec h4
      have h6 := hcl j oj hoj h5 e he hb
      rwa [hon] at h6
/-- An operation that looks at no memory. -/
def FloatOk (P : Program) (Γ : Ctx) (o : Oper) (V : Ty) : Prop := o.guard = none ∧ ∃ v, V = Ty.ex v ∧ ∀ (a : Act) (w : World), (∀ (x : Operand) (u : Value), x ∈ o.op.operands.toList → OpT Γ x (Ty.ex u) → a.eval x = u) → (execOp a.eval o).run P w = .ok (.value v) w
/-- An operation that acts: what then holds of its value and the world. -/
def OpEv (P : Program) (w0 : World) (Γ : Ctx) (o : Oper) (R : Value → World → Prop) : Prop :=
  ∀ (a : Act) (w : World) (K : Act → World → Prop) (Q : Exit → Act → World → Prop), Below w0.heap.size w0 w →
    (∀ (s : Nat) (τ : Ty), s ∈ Oper.reads o → look Γ s = some τ → ∃ v, a.tmps[s]? = some v ∧ τ.p w v) →
    (∀ v w', R v w' → K (a.put o.dst v) w') → o.wp P a w K Q
inductive LineE (P : Program) (ops : Array Oper) (w0 : World) (p : Nat) (A : List Nat) (R : Value → World → Prop) : Nat → Ctx → List Oper → List Ty → Prop
  | nil {i : Nat} {Γ : Ctx} : LineE P ops w0 p A R i Γ [] []
  | cons {i : Nat} {Γ : Ctx} {d : Nat} {o : Oper} {V : Ty} {os : List Oper} {Vs : List Ty} (hi : Nat.beq i p = false) (hA : A.contains i = true) (hd : o.dst = some d) (h : Fact P ops w0 Γ o V) (tl : LineE P ops w0 p A R (i + 1) ((d, V) :: Γ) os Vs) : LineE P ops w0 p A R i Γ (o :: os) (V :: Vs)
  | float {i : Nat} {Γ : Ctx} {d : Nat} {o : Oper} {V : Ty} {os : List Oper} {Vs : List Ty} (hi : Nat.beq i p = false) (hd : o.dst = some d) (h : FloatOk P Γ o V) (tl : LineE P ops w0 p A R (i + 1) ((d, V) :: Γ) os Vs) : LineE P ops w0 p A R i Γ (o :: os) (V :: Vs)
  | event {i : Nat} {Γ : Ctx} {d : Nat} {o : Oper} {os : List Oper} {Vs : List Ty} (hi : Nat.beq i p = true) (hd : o.dst = some d) (hg : o.guard = none) (h : OpEv P w0 Γ o R) (tl : LineE P ops w0 p A R (i + 1) ((d, Ty.any) :: Γ) os Vs) : LineE P ops w0 p A R i Γ (o :: os) (Ty.any :: Vs)
section
variable {P : Program} {ops : Array Oper} {w0 : World} {p : Nat} {A : List Nat} {R : Value → World → Prop} {Γ : Ctx}
def LineE.Says (P : Program) (ops : Array Oper) (w0 : World) (p : Nat) (A : List Nat) (R : Value → World → Prop) (i : Nat) (Γ : Ctx) (o : Oper) (V : Ty) : Prop :=
  (i ≠ p ∧ A.contains i = true ∧ Fact P ops w0 Γ o V) ∨ (i ≠ p ∧ FloatOk P Γ o V) ∨ (i = p ∧ V = Ty.any ∧ o.guard = none ∧ OpEv P w0 Γ o R)
theorem look_back {i : Nat} {Γ Γi : Ctx} {d : Nat} {V : Ty} {o : Oper} {os : List Oper} {Vs : List Ty} (hd : o.dst = some d)
    (h : ∀ (s : Nat) (τ : Ty), look Γi s = some τ → (∃ (j : Nat) (oj : Oper), j < i ∧ os[j]? = some oj ∧ oj.dst = some s ∧ Vs[j]? = some τ) ∨ ((∀ (j : Nat) (oj : Oper), j < i → os[j]? = some oj → oj.dst ≠ some s) ∧ look ((d, V) :: Γ) s = some τ)) :
    ∀ (s : Nat) (τ : Ty), look Γi s = some τ → (∃ (j : Nat) (oj : Oper), j < i + 1 ∧ (o :: os)[j]? = some oj ∧ oj.dst = some s ∧ (V :: Vs)[j]? = some τ) ∨ ((∀ (j : Nat) (oj : Oper), j < i + 1 → (o :: os)[j]? = some oj → oj.dst ≠ some s) ∧ look Γ s = some τ) := by
  intro s τ hl
  rcases h s τ hl with ⟨j, oj, hj, hoj, hds, hVj⟩ | ⟨hno, hlk⟩
  · exact .inl ⟨j + 1, oj, by omega, by simpa using hoj, hds, by simpa using hVj⟩
  · by_cases hds : d = s
    · subst hds
      rw [look_same] at hlk
      injection hlk with hlk
      subst hlk
      exact .inl ⟨0, o, by omega, rfl, hd, rfl⟩
    · rw [look_ne _ _ hds] at hlk
      refine .inr ⟨fun j oj hj hoj => ?_, hlk⟩
      cases j with
      | zero =>
        simp only [List.getElem?_cons_zero, Option.some.injEq] at hoj
        subst hoj
        rw [hd]
        simpa using hds
      | succ j => exact hno j oj (by omega) (by simpa using hoj)
theorem beq_no {i p : Nat} (h : Nat.beq i p = false) : i ≠ p := fun e => by subst e; simp at h
theorem LineE.at_ {m : Nat} {l : List Oper} {Vs : List Ty} (h : LineE P ops w0 p A R m Γ l Vs) : ∀ (i : Nat) (o : Oper), l[i]? = some o → ∃ V Γi, Vs[i]? = some V ∧ LineE.Says P ops w0 p A R (m + i) Γi o V ∧
    ∀ (s : Nat) (τ : Ty), look Γi s = some τ → (∃ (j : Nat) (oj : Oper), j < i ∧ l[j]? = some oj ∧ oj.dst = some s ∧ Vs[j]? = some τ) ∨ ((∀ (j : Nat) (oj : Oper), j < i → l[j]? = some oj → oj.dst ≠ some s) ∧ look Γ s = some τ) := by
  have base : ∀ {Γ : Ctx} {o : Oper} {os : List Oper} {V : Ty} {Vs : List Ty} (s : Nat) (τ : Ty), look Γ s = some τ → (∃ (j : Nat) (oj : Oper), j < 0 ∧ (o :: os)[j]? = some oj ∧ oj.dst = some s ∧ (V :: Vs)[j]? = some τ) ∨ ((∀ (j : Nat) (oj : Oper), j < 0 → (o :: os)[j]? = some oj → oj.dst ≠ some s) ∧ look Γ s = some τ) := fun s τ hl => .inr ⟨fun j oj hj => absurd hj (Nat.not_lt_zero _), hl⟩
  induction h with
  | nil => intro i o h; simp at h
  | @cons m Γ d o V os Vs hi hA hd hF t ih =>
    intro i o' ho'
    cases i with
    | zero =>
      simp only [List.getElem?_cons_zero, Option.some.injEq] at ho'
      subst ho'
      exact ⟨V, Γ, rfl, .inl ⟨by simpa using beq_no hi, by simpa using hA, hF⟩, base⟩
    | succ i =>
      simp only [List.getElem?_cons_succ] at ho'
      obtain ⟨V', Γi, h1, h2, h3⟩ := ih i o' ho'
      exact ⟨V', Γi, by simpa using h1, by rw [show m + (i + 1) = m + 1 + i by omega]; exact h2, look_back hd h3⟩
  | @float m Γ d o V os Vs hi hd hF t ih =>
    intro i o' ho'
    cases i with
    | zero =>
      simp only [List.getElem?_cons_zero, Option.some.injEq] at ho'
      subst ho'
      exact ⟨V, Γ, rfl, .inr (.inl ⟨by simpa using beq_no hi, hF⟩), base⟩
    | succ i =>
      simp only [List.getElem?_cons_succ] at ho'
      obtain ⟨V', Γi, h1, h2, h3⟩ := ih i o' ho'
      exact ⟨V', Γi, by simpa using h1, by rw [show m + (i + 1) = m + 1 + i by omega]; exact h2, look_back hd h3⟩
  | @event m Γ d o os Vs hi hd hg hF t ih =>
    intro i o' ho'
    cases i with
    | zero =>
      simp only [List.getElem?_cons_zero, Option.some.injEq] at ho'
      subst ho'
      exact ⟨Ty.any, Γ, rfl, .inr (.inr ⟨by simpa using Nat.eq_of_beq_eq_true hi, rfl, hg, hF⟩), base⟩
    | succ i =>
      simp only [List.getElem?_cons_succ] at ho'
      obtain ⟨V', Γi, h1, h2, h3⟩ := ih i o' ho'
      exact ⟨V', Γi, by simpa using h1, by rw [show m + (i + 1) = m + 1 + i by omega]; exact h2, look_back hd h3⟩
theorem LineE.ext_look {m : Nat} {l : List Oper} {Vs : List Ty} (h : LineE P ops w0 p A R m Γ l Vs) : ∀ (s : Nat) (τ : Ty), look (ext Γ l Vs) s = some τ →
    (∃ (j : Nat) (oj : Oper), l[j]? = some oj ∧ oj.dst = some s ∧ Vs[j]? = some τ) ∨ ((∀ (j : Nat) (oj : Oper), l[j]? = some oj → oj.dst ≠ some s) ∧ look Γ s = some τ) := by
  have go : ∀ {Γ : Ctx} {d : Nat} {V : Ty} {o : Oper} {os : List Oper} {Vs : List Ty} (_ : o.dst = some d) (_ : ∀ (s : Nat) (τ : Ty), look (ext ((d, V) :: Γ) os Vs) s = some τ → (∃ (j : Nat) (oj : Oper), os[j]? = some oj ∧ oj.dst = some s ∧ Vs[j]? = some τ) ∨ ((∀ (j : Nat) (oj : Oper), os[j]? = some oj → oj.dst ≠ some s) ∧ look ((d, V) :: Γ) s = some τ)) (s : Nat) (τ : Ty), look (ext Γ (o :: os) (V :: Vs)) s = some τ → (∃ (j : Nat) (oj : Oper), (o :: os)[j]? = some oj ∧ oj.dst = some s ∧ (V :: Vs)[j]? = some τ) ∨ ((∀ (j : Nat) (oj : Oper), (o :: os)[j]? = some oj → oj.dst ≠ some s) ∧ look Γ s = some τ) := by
    intro Γ d V o os Vs hd ih s τ hl
    have e : ext Γ (o :: os) (V :: Vs) = ext ((d, V) :: Γ) os Vs := by simp [ext, hd]
    rw [e] at hl
    rcases ih s τ hl with ⟨j, oj, hoj, hds, hVj⟩ | ⟨hno, hlk⟩
    · exact .inl ⟨j + 1, oj, by simpa using hoj, hds, by simpa using hVj⟩
    · by_cases hds : d = s
      · subst hds
        rw [look_same] at hlk
        injection hlk with hlk
        subst hlk
        exact .inl ⟨0, o, rfl, hd, rfl⟩
      · rw [look_ne _ _ hds] at hlk
        refine .inr ⟨fun j oj hoj => ?_, hlk⟩
        cases j with
        | zero =>
          simp only [List.getElem?_cons_zero, Option.some.injEq] at hoj
          subst hoj
          rw [hd]
          simpa using hds
        | succ j => exact hno j oj (by simpa using hoj)
  induction h with
  | nil => intro s τ hl; exact .inr ⟨fun j oj h => by simp at h, hl⟩
  | cons hi hA hd hF t ih => exact go hd ih
  | float hi hd hF t ih => exact go hd ih
  | event hi hd hg hF t ih => exact go hd ih
end
/-- Of the operations that are listed. -/
structure TInvE (N n p : Nat) (R : Value → World → Prop) (l : List Oper) (Vs : List Ty) (a0 : Act) (w0 : World) (listed : Array Bool) (a : Act) (w : World) : Prop where
  defers : a.defers = []
  size : a.tmps.size = N
  out : ∀ s, (∀ (j : Nat) (oj : Oper), j < n → listed.getD j false = true → l[j]? = some oj → oj.dst ≠ some s) → a.tmps[s]? = a0.tmps[s]?
  exs : ∀ (j : Nat) (oj : Oper) (d : Nat) (v : Value), j < n → listed.getD j false = true → l[j]? = some oj → oj.dst = some d → Vs[j]? = some (Ty.ex v) → a.tmps[d]? = some v
  pre : listed.getD p false = false → Below w0.heap.size w0 w ∧ ∀ (j : Nat) (oj : Oper) (d : Nat) (V : Ty), j < n → listed.getD j false = true → l[j]? = some oj → oj.dst = some d → Vs[j]? = some V → ∃ v, a.tmps[d]? = some v ∧ V.p w v
  post : listed.getD p false = true → ∃ op d v, l[p]? = some op ∧ op.dst = some d ∧ a.tmps[d]? = some v ∧ R v w
theorem ty_ex_inj (w : World) {v u : Value} (h : Ty.ex v = Ty.ex u) : v = u := by
  have := congrArg (fun τ : Ty => τ.p w v) h
  exact this.mp rfl
theorem any_ne_ex (w : World) (v : Value) : Ty.any ≠ Ty.ex v := fun h => by
  have h1 := (congrArg (fun τ : Ty => τ.p w (.bool true)) h).mp trivial
  have h2 := (congrArg (fun τ : Ty => τ.p w (.bool false)) h).mp trivial
  have h1 : Value.bool true = v := h1
  have h2 : Value.bool false = v := h2
  rw [← h2] at h1
  cases h1
section
variable {P : Program} {w0 : World} {p : Nat} {A : List Nat} {R : Value → World → Prop} {Γ : Ctx} {N n : Nat} {l : List Oper} {Vs : List Ty} {a0 : Act} {ops : Array Oper}
theorem TInvE.start (hF : Fr N Γ a0 w0) {w : World} (hb : Below w0.heap.size w0 w) (m : Nat) : TInvE N n p R l Vs a0 w0 (Array.replicate m false) a0 w :=
  ⟨hF.defers, hF.size, fun _ _ => rfl, fun j _ _ _ _ h => (by rw [getD_replicate_false] at h; cases h), fun _ => ⟨hb, fun j _ _ _ _ h => (by rw [getD_replicate_false] at h; cases h)⟩, fun h => (by rw [getD_replicate_false] at h; cases h)⟩
theorem TInvE.step (hpn : p < n) (hB : regB ops N n = true) (hAn : ancB ops p A = true) (hl : ∀ i, i < n → l[i]? = ops[i]?) (hL : LineE P ops w0 p A R 0 Γ l Vs) (hF : Fr N Γ a0 w0) {listed : Array Bool} {a : Act} {w : World} (hI : TInvE N n p R l Vs a0 w0 listed a w)
    (hsz : listed.size = ops.size) (hcl : ∀ (j : Nat) (oj : Oper), ops[j]? = some oj → listed.getD j false = true → ∀ e ∈ oj.after, Region.binds .any e = true → listed.getD e.on false = true)
    {i : Nat} {o : Oper} (hi : i < n) (ho : ops[i]? = some o) (hun : listed.getD i false = false) (hdep : ∀ e ∈ o.after, Region.binds .any e = true → listed.getD e.on false = true) (K : Act → World → Prop) (Q : Exit → Act → World → Prop)
    (hK : ∀ a' w', TInvE N n p R l Vs a0 w0 (listed.setIfInBounds i true) a' w' → K a' w') :
    if Region.wanted o (yielded ops a.tmps) then o.wp P a w K Q else K (a.put o.dst undef) w := by
  have hli : l[i]? = some o := (hl i hi).trans ho
  obtain ⟨V, Γi, hV, hFa, hlk⟩ := hL.at_ i o hli
  rw [Nat.zero_add] at hFa
  obtain ⟨o', d, ho', hd, hdN, _, hoth⟩ := regB_at hB hi
  obtain rfl : o = o' := Option.some.inj (ho.symm.trans ho')
  have wf : ∀ {p q : Nat} {op : Oper}, ops[p]? = some op → Region.waitsFor .any ops p q = true → ∃ e ∈ op.after, Region.binds .any e = true ∧ e.on = q := fun {p q op} hp hw => by
    obtain ⟨oj, hoj, e, he, hb, hon⟩ := Region.waitsFor_spec hw
    obtain rfl : op = oj := Option.some.inj (hp.symm.trans hoj)
    exact ⟨e, he, hb, hon⟩
  have hilt : i < listed.size := by rw [hsz]; exact (Array.getElem?_eq_some_iff.1 ho).1
  -- slots from before the region, and slots of earlier operations
  have hold : ∀ {s : Nat} {τ : Ty}, s ∈ o.looksAt ops → look Γi s = some τ → (∃ (j : Nat) (oj : Oper), j < n ∧ listed.getD j false = true ∧ l[j]? = some oj ∧ oj.dst = some s ∧ Vs[j]? = some τ) ∨ (a.tmps[s]? = a0.tmps[s]? ∧ look Γ s = some τ) := by
    intro s τ hs hls
    rcases hlk s τ hls with ⟨j, oj, hj, hoj, hds, hVj⟩ | ⟨hno, hl0⟩
    · have hjn : j < n := by omega
      have hoj' : ops[j]? = some oj := (hl j hjn).symm.trans hoj
      obtain ⟨oj2, dj, hoj2, hdj, _, _, hothj⟩ := regB_at hB hjn
      obtain rfl : oj = oj2 := Option.some.inj (hoj'.symm.trans hoj2)
      obtain rfl : dj = s := Option.some.inj (hdj.symm.trans hds)
      have h1 := ((hothj i o hi ho (by omega)).2 hs).1 hj
      obtain ⟨e, he, hb, hon⟩ := wf ho h1
      have h2 := hdep e he hb
      rw [hon] at h2
      exact .inl ⟨j, oj, hjn, h2, hoj, hdj, hVj⟩
    · refine .inr ⟨hI.out s (fun k ok hk hlk' hok hdk => ?_), hl0⟩
      have hok' : ops[k]? = some ok := (hl k hk).symm.trans hok
      have hki : k ≠ i := fun h => by subst h; rw [hun] at hlk'; cases hlk'
      by_cases hlt : k < i
      · exact hno k ok hlt hok hdk
      · obtain ⟨ok2, dk, hok2, hdk2, _, _, hothk⟩ := regB_at hB hk
        obtain rfl : ok = ok2 := Option.some.inj (hok'.symm.trans hok2)
        obtain rfl : dk = s := Option.some.inj (hdk2.symm.trans hdk)
        have h1 := ((hothk i o hi ho (Ne.symm hki)).2 hs).2 (by omega)
        obtain ⟨e, he, hb, hon⟩ := wf hok' h1
        have h2 := hcl k ok hok' hlk' e he hb
        rw [hon, hun] at h2
        cases h2
  have hseesP : listed.getD p false = false → Sees ops Γi o a w := by
    intro hp s τ hs hls
    rcases hold hs hls with ⟨j, oj, hj, hlj, hoj, hdj, hVj⟩ | ⟨h1, h2⟩
    · exact (hI.pre hp).2 j oj s τ hj hlj hoj hdj hVj
    · obtain ⟨v, hv1, hv2⟩ := hF.val s τ h2
      exact ⟨v, h1.trans hv1, τ.below hv2 (hI.pre hp).1⟩
  have hex : ∀ {s : Nat} {u : Value}, s ∈ o.looksAt ops → look Γi s = some (Ty.ex u) → a.tmps[s]? = some u := by
    intro s u hs hls
    rcases hold hs hls with ⟨j, oj, hj, hlj, hoj, hdj, hVj⟩ | ⟨h1, h2⟩
    · exact hI.exs j oj s u hj hlj hoj hdj hVj
    · obtain ⟨v, hv1, hv2⟩ := hF.val s _ h2
      have hv2 : v = u := hv2
      subst hv2
      exact h1.trans hv1
  have hdne : ∀ (j : Nat) (oj : Oper) (dj : Nat), j < n → j ≠ i → l[j]? = some oj → oj.dst = some dj → d ≠ dj := fun j oj dj hj hne hoj hdj h => by
    subst h
    exact (hoth j oj hj ((hl j hj).symm.trans hoj) hne).1 hdj
  have near : ∀ v : Value, (a.put (some d) v).tmps[d]? = some v := fun v => by
    simp only [Act.put]
    rw [Array.getElem?_setIfInBounds_self, if_pos (by rw [hI.size]; exact hdN)]
  have far : ∀ (v : Value) (j : Nat) (oj : Oper) (dj : Nat), j < n → j ≠ i → l[j]? = some oj → oj.dst = some dj → (a.put (some d) v).tmps[dj]? = a.tmps[dj]? := fun v j oj dj hj hji hoj hdj => by
    simp only [Act.put]
    rw [Array.getElem?_setIfInBounds_ne (hdne j oj dj hj hji hoj hdj)]
  have hout : ∀ (v : Value) (s : Nat), (∀ (j : Nat) (oj : Oper), j < n → (listed.setIfInBounds i true).getD j false = true → l[j]? = some oj → oj.dst ≠ some s) → (a.put (some d) v).tmps[s]? = a0.tmps[s]? := fun v s hs => by
    have hds : d ≠ s := fun h => hs i o hi (by simp [Array.getD, hilt]) hli (by rw [hd, h])
    simp only [Act.put]
    rw [Array.getElem?_setIfInBounds_ne hds]
    refine hI.out s (fun j oj hj hlj hoj => ?_)
    refine hs j oj hj ?_ hoj
    by_cases hij : i = j
    · subst hij; rw [hun] at hlj; cases hlj
    · rw [getD_set_ne false hij]; exact hlj
  have hexs : ∀ (u : Value), (∀ v, V = Ty.ex v → u = v) → ∀ (j : Nat) (oj : Oper) (dj : Nat) (v : Value), j < n → (listed.setIfInBounds i true).getD j false = true → l[j]? = some oj → oj.dst = some dj → Vs[j]? = some (Ty.ex v) → (a.put (some d) u).tmps[dj]? = some v := fun u hu j oj dj v hj hlj hoj hdj hVj => by
    by_cases hij : i = j
    · subst hij
      obtain rfl : o = oj := Option.some.inj (hli.symm.trans hoj)
      obtain rfl : d = dj := Option.some.inj (hd.symm.trans hdj)
      rw [near, hu v (Option.some.inj (hV.symm.trans hVj))]
    · rw [getD_set_ne false hij] at hlj
      rw [far u j oj dj hj (Ne.symm hij) hoj hdj]
      exact hI.exs j oj dj v hj hlj hoj hdj hVj
  have hsz2 : ∀ v : Value, (a.put (some d) v).tmps.size = N := fun v => by simp only [Act.put]; simpa using hI.size
  -- the p-th stays as it was
  have hpost : ∀ (v : Value) (w' : World), i ≠ p → w' = w → (listed.setIfInBounds i true).getD p false = true → ∃ op d' v', l[p]? = some op ∧ op.dst = some d' ∧ (a.put (some d) v).tmps[d']? = some v' ∧ R v' w' := fun v w' hip hw hlp => by
    subst hw
    rw [getD_set_ne false hip] at hlp
    obtain ⟨op, d', v', h1, h2, h3, h4⟩ := hI.post hlp
    refine ⟨op, d', v', h1, h2, ?_, h4⟩
    rw [far v p op d' hpn (Ne.symm hip) h1 h2]
    exact h3
  rcases hFa with ⟨hip, hin, hFc⟩ | ⟨hip, hg, v, rfl, hrun⟩ | ⟨hip, rfl, hg, hE⟩
  · have hpf : listed.getD p false = false := by
      cases hp : listed.getD p false with
      | false => rfl
      | true =>
        have := anc_listed hAn hcl hp p i (by simpa using hin) (by omega)
        rw [hun] at this
        cases this
    obtain ⟨hbl, hvals⟩ := hI.pre hpf
    have hpf' : (listed.setIfInBounds i true).getD p false = false := by rw [getD_set_ne false hip]; exact hpf
    refine hFc.at_work hbl (hseesP hpf) K Q (fun u w' hv hb _ => hK _ _ ?_)
    rw [hd]
    refine ⟨hI.defers, hsz2 u, hout u, hexs u fun v e => by subst e; exact hv, fun _ => ⟨hbl.trans (hb.mono hbl.size), fun j oj dj Vj hj hlj hoj hdj hVj => ?_⟩, fun h => by rw [hpf'] at h; cases h⟩
    by_cases hij : i = j
    · subst hij
      obtain rfl : o = oj := Option.some.inj (hli.symm.trans hoj)
      obtain rfl : d = dj := Option.some.inj (hd.symm.trans hdj)
      obtain rfl : V = Vj := Option.some.inj (hV.symm.trans hVj)
      exact ⟨u, near u, hv⟩
    · rw [getD_set_ne false hij] at hlj
      obtain ⟨u', h1, h2⟩ := hvals j oj dj Vj hj hlj hoj hdj hVj
      exact ⟨u', (far u j oj dj hj (Ne.symm hij) hoj hdj).trans h1, Vj.below h2 hb⟩
  · rw [if_pos (by simp [Region.wanted, hg])]
    have hr := hrun a w fun x u hx hu => by
      cases x with
      | tmp s =>
        have h := hex (s := s) (u := u) (by unfold Oper.looksAt; exact List.mem_append_left _ (List.mem_filterMap.2 ⟨_, hx, rfl⟩)) hu
        simp [Act.eval, Array.getD_eq_getD_getElem?, h]
      | const c => have h : c = u := ty_ex_inj w hu; simp [Act.eval, h]
      | func f => have h := ty_ex_inj w hu; simp [Act.eval, ← h]
      | global g => have h := ty_ex_inj w hu; simp [Act.eval, ← h]
    unfold Oper.wp
    simp only [hr]
    refine hK _ _ ?_
    rw [hd]
    refine ⟨hI.defers, hsz2 v, hout v, hexs v fun v' e => ty_ex_inj w e, fun h => ?_, hpost v w hip rfl⟩
    rw [getD_set_ne false hip] at h
    obtain ⟨hbl, hvals⟩ := hI.pre h
    refine ⟨hbl, fun j oj dj Vj hj hlj hoj hdj hVj => ?_⟩
    by_cases hij : i = j
    · subst hij
      obtain rfl : o = oj := Option.some.inj (hli.symm.trans hoj)
      obtain rfl : d = dj := Option.some.inj (hd.symm.trans hdj)
      obtain rfl : Ty.ex v = Vj := Option.some.inj (hV.symm.trans hVj)
      exact ⟨v, near v, rfl⟩
    · rw [getD_set_ne false hij] at hlj
      obtain ⟨u', h1, h2⟩ := hvals j oj dj Vj hj hlj hoj hdj hVj
      exact ⟨u', (far v j oj dj hj (Ne.symm hij) hoj hdj).trans h1, h2⟩
  · subst hip
    obtain ⟨hbl, hvals⟩ := hI.pre hun
    rw [if_pos (by simp [Region.wanted, hg])]
    refine hE a w K Q hbl (fun s τ hr hls => hseesP hun s τ (reads_looksAt hr) hls) fun v w' hR => hK _ _ ?_
    rw [hd]
    refine ⟨hI.defers, hsz2 v, hout v, fun j oj dj v' hj hlj hoj hdj hVj => ?_, fun h => ?_, fun _ => ⟨o, d, v, hli, hd, near v, hR⟩⟩
    · by_cases hij : i = j
      · subst hij
        have e : Ty.any = Ty.ex v' := Option.some.inj (hV.symm.trans hVj)
        exact absurd e (any_ne_ex w v')
      · rw [getD_set_ne false hij] at hlj
        exact (far v j oj dj hj (Ne.symm hij) hoj hdj).trans (hI.exs j oj dj v' hj hlj hoj hdj hVj)
    · have : (listed.setIfInBounds i true).getD i false = true := by simp [Array.getD, hilt]
      rw [this] at h
      cases h
end
section
variable {P : Program} {w0 : World} {p : Nat} {A : List Nat} {R : Value → World → Prop} {Γ : Ctx} {N : Nat} {Vs : List Ty} {a0 : Act}
/-- **A region with one operation that acts.** -/
theorem region_ev {id dp : Nat} {Q : Exit → Act → World → Prop} {l : List Oper} {draw : Bool} (n p : Nat) (A : List Nat) (R : Value → World → Prop) (hm : P.follows .mixedOrders = true) (hB : (regB l.toArray N n && tailB l.toArray n && ancB l.toArray p A && decide (p < n)) = true) (hdp : slotOf l.toArray p = some dp) (hF : Fr N Γ a0 w0)
    (hL : LineE P l.toArray w0 p A R 0 Γ (l.take n) Vs)
    (hQ : ∀ a w, a.tmps.size = N → a.defers = [] → ∀ v, a.tmps[dp]? = some v → R v w → (∀ s u, look (ext Γ (l.take n) Vs) s = some (Ty.ex u) → a.tmps[s]? = some u) → wpList P l.toArray Q (l.drop n) a w) : (Code.region id l.toArray draw).wp P Q a0 w0 := by
  simp only [Bool.and_eq_true, decide_eq_true_eq] at hB
  obtain ⟨⟨⟨hB, hT⟩, hAn⟩, hpn⟩ := hB
  have hnl : n ≤ l.toArray.size := by
    unfold tailB at hT
    split at hT
    · rename_i h; simp at h; simp [h]
    · simp only [Bool.and_eq_true, decide_eq_true_eq] at hT; omega
  have hli : ∀ i, i < n → (l.take n)[i]? = l.toArray[i]? := fun i hi => by simp [hi]
  have hlen : n = (l.take n).length := by simp at hnl ⊢; omega
  refine region_inv (a0 := a0) (w0 := w0) (N := N) n hm (by simp [hB, hT]) (TInvE N n p R (l.take n) Vs a0 w0) (fun w hb => TInvE.start hF hb _) (fun listed a w i o hI hsz hcl hi ho hun hdep K Q hK => TInvE.step hpn hB hAn hli hL hF hI hsz hcl hi ho hun hdep K Q hK) fun listed a w hI hall => ?_
  obtain ⟨op, d, v, h1, h2, h3, h4⟩ := hI.post (hall p hpn)
  have e : d = dp := by
    have h5 := (hli p hpn).symm.trans h1
    unfold slotOf at hdp
    rw [h5] at hdp
    exact Option.some.inj (h2.symm.trans hdp)
  subst e
  refine hQ a w hI.size hI.defers v h3 h4 fun s u hs => ?_
  · rcases hL.ext_look s _ hs with ⟨j, oj, hoj, hds, hVj⟩ | ⟨hno, hl0⟩
    · have hj : j < n := by rw [hlen]; exact (List.getElem?_eq_some_iff.1 hoj).1
      exact hI.exs j oj s u hj (hall j hj) hoj hds hVj
    · obtain ⟨v, h1, h2⟩ := hF.val s _ hl0
      have h2 : v = u := h2
      subst h2
      rw [hI.out s (fun j oj _ _ hoj => hno j oj hoj)]
      exact h1
theorem Fr.bare {a : Act} {w : World} (h1 : a.tmps.size = N) (h2 : a.defers = []) : Fr N [] a w := ⟨h1, h2, fun s τ hs => by cases hs⟩
variable {o : Oper}
theorem fMove {x : Operand} {v : Value} (hg : o.guard = none) (ho : o.op = .move x) (hx : OpT Γ x (Ty.ex v)) : FloatOk P Γ o (Ty.ex v) := ⟨hg, v, rfl, fun a w h => by
  have h1 := h x v (by simp [ho, Op.operands]) hx
  unfold execOp
  simp [ho, h1]⟩
theorem fNil {x : Operand} {A : Addr} (hg : o.guard = none) (ho : o.op = .nilCheck x) (hx : OpT Γ x (Ty.ex (.pointer (some A)))) : FloatOk P Γ o (Ty.ex (.pointer (some A))) := ⟨hg, _, rfl, fun a w h => by
  have h1 := h x _ (by simp [ho, Op.operands]) hx
  unfold execOp
  simp [ho, h1]⟩
theorem fField {t : TypeId} {i : Nat} {x : Operand} {v u : Value} (hg : o.guard = none) (ho : o.op = .fieldAddr t x i) (hx : OpT Γ x (Ty.ex v)) (hr : ∀ w : World, (Instr.fieldAt t v i).run P w = .ok u w) : FloatOk P Γ o (Ty.ex u) := ⟨hg, _, rfl, fun a w h => by
  have h1 := h x _ (by simp [ho, Op.operands]) hx
  unfold execOp
  simp [ho, h1, hr]⟩
end
end Go.Proofs.YtmlbkcpmgcjblaaGreat

/- The peeler's take. -/
namespace Go.Proofs.YtmlbkcpmgcjblaaGreat
open Go.RowKit

/-- An append that may write in the room of a row of the call's own, as what acts in a region. -/
theorem evAppend {P : Program} {w0 : World} {Γ : Ctx} {o : Oper} {s : Nat} {x : Operand} {t e : TypeId} {z v : Value} {sz bytes n m : Nat} {xs news : List Value} {S : List Nat} {τ : Ty} (ho : o.op = .call { callee := .builtin .append, args := #[.tmp s, x], argTypes := #[t, t] }) (hs : look Γ s = some (Ty.ex v)) (ht : P.underlying t = some (.slice e)) (hi : (P.info? e).map (fun i => (i.zero, i.size, i.bytes)) = some (some z, sz, bytes)) (hzs : z.cells.size = sz)
    (hseg : Seg w0 e sz v n xs S) (hx : Has w0 Γ x τ) (hτ : ∀ {w : World} u, τ.p w u → ∃ A c, u = .slice A m c ∧ (A = none → m = 0) ∧ Rd w A news) (hl : news.length = m * sz) (h1 : ∀ u ∈ news, u.oneCell' = true) (h63 : n + m ≤ maxLen) (hbytes : (n + m) * bytes ≤ 140737488355328) :
    OpEv P w0 Γ o (fun v' w' => Keeps S w0 w' ∧ ∃ S', Seg w' e sz v' (n + m) (xs ++ news) S' ∧ ∀ b ∈ S', b ∈ S ∨ w0.heap.size ≤ b) := fun a w K Q hb hr hK => by
  obtain ⟨v', hv1, hv2⟩ := hr s _ (by simp [Oper.reads, ho, Op.operands, Call.operands]) hs
  have hv2 : v' = v := hv2
  subst hv2
  obtain ⟨u, hu1, hu2⟩ := hx.see (sees_of hr) (by simp [ho, Op.operands, Call.operands]) hb
  obtain ⟨A, c, rfl, hA, hrd⟩ := hτ u hu2
  refine wp_append_seg w (.tmp s) x t ho e z sz bytes ht hi hzs v' n xs S (by simp [Act.eval, Array.getD_eq_getD_getElem?, hv1]) (hseg.below hb) A m c news hu1 hl hrd hA h1 h63 hbytes fun v2 w' S' h2 h3 h4 => ?_
  refine hK v2 w' ⟨(Keeps.of_below hb).trans h3, S', h2, fun y hy => ?_⟩
  rcases h4 with rfl | rfl
  · exact .inl hy
  · simp only [List.mem_singleton] at hy
    subst hy
    exact .inr hb.size
theorem segs_apart {w : World} {e e2 : TypeId} {sz sz2 n n2 : Nat} {v v2 : Value} {xs ys : List Value} {S S2 : List Nat} (h : Seg w e sz v n xs S) (h2 : Seg w e2 sz2 v2 n2 ys S2) (hne : (e2 == e) = false) : ∀ y ∈ S, y ∉ S2 := fun y hy hm => by
  obtain ⟨cs, fr, k1⟩ := h.blocks y hy (h.lt y hy)
  obtain ⟨cs', fr', k2⟩ := h2.blocks y hm (h2.lt y hm)
  rw [k1] at k2
  simp only [Option.some.injEq, Obj.cells.injEq] at k2
  rw [k2.2.1] at hne
  simp at hne
theorem blk_apart {w : World} {e t : TypeId} {sz n g : Nat} {v : Value} {xs : List Value} {S : List Nat} {cs : Array Value} (h : Seg w e sz v n xs S) (hb : Blk w g t cs) (hne : (t == e) = false) : g ∉ S := fun hm => by
  have := seg_far h hb hne g hm
  simp at this
theorem MapIs.apart {w : World} {b m : Nat} {M : List Sm} {e : TypeId} {sz n : Nat} {v : Value} {xs : List Value} {S : List Nat} (h : MapIs w b m M) (hs : Seg w e sz v n xs S) : b ∉ S := fun hm => by
  obtain ⟨cs, fr, k1⟩ := hs.blocks b hm (hs.lt b hm)
  obtain ⟨es, clock, k2⟩ := h.obj
  rw [k1] at k2
  cases k2
theorem Ty.keepSeg (τ : Ty) {w w' : World} {v v2 : Value} {e : TypeId} {sz n : Nat} {xs : List Value} {S : List Nat} (h : τ.p w v) (k : Keeps S w w') (hs : Seg w e sz v2 n xs S) (he : τ.el e = false) : τ.p w' v := τ.st h k fun b hb hl => by
  obtain ⟨cs, fr, k1⟩ := hs.blocks b hb (hs.lt b hb)
  exact ⟨cs, e, fr, k1, he⟩
theorem cIndexArrEx {P : Program} {w0 : World} {Γ : Ctx} {o : Oper} {t ea : TypeId} {x ix : Operand} {g off n k : Nat} {kd : IntKind} (ho : o.op = .indexAddr t x ix) (hx : OpT Γ x (Ty.ex (.pointer (some ⟨g, off, none⟩)))) (hi : OpT Γ ix (Ty.ex (.int kd (k : Int)))) (hu : P.underlying t = some (.array n ea)) (hz : (P.info? ea).map (·.size) = some 1) (hk : k < n) : OpOk P w0 Γ o (Ty.ex (.pointer (some ⟨g, off + k, none⟩))) :=
  .val fun a w hb hs => by
    obtain ⟨v, h1, h2⟩ := hs x _ (by simp [ho, Op.operands]) hx
    have h2 : v = .pointer (some ⟨g, off, none⟩) := h2
    obtain ⟨i, h5, h6⟩ := hs ix _ (by simp [ho, Op.operands]) hi
    have h6 : i = .int kd (k : Int) := h6
    obtain ⟨inf, hinf, hsz⟩ := Option.map_eq_some_iff.1 hz
    refine ⟨_, rfl, ?_⟩
    unfold execOp
    simp [ho, h1, h2, h5, h6, Instr.indexAt, Instr.sureAddr, asIntOf, run_underlying hu, hk, sizeOf, typeInfo, hinf, hsz, Addr.add_lit]
abbrev SL2 : TypeId := 86
theorem sizeSL2 : (Tryz.prog.info? SL2).map (·.size) = some 2 := by kernel_rfl
theorem sizeSS1 : (Tryz.prog.info? 31).map (·.size) = some 1 := by kernel_rfl
theorem fieldR (g o2 : Nat) (w : World) : (Instr.fieldAt PeelT (.pointer (some ⟨g, o2, none⟩)) 3).run Tryz.prog w = .ok (.pointer (some ⟨g, o2 + 4, none⟩)) w := run_fieldAt Tryz.underlying88 rfl sizeSL2 g o2 w
theorem peel_cells0 {seed : Nat} {sL sP s0 s1 v : Value} {bm : Nat} (h : v.cells = #[v]) : splice (peelCells seed sL sP bm s0 s1).toArray 4 v.cells.toList = (peelCells seed sL sP bm v s1).toArray := by rw [h]; rfl
theorem peel_cells1 {seed : Nat} {sL sP s0 s1 v : Value} {bm : Nat} (h : v.cells = #[v]) : splice (peelCells seed sL sP bm s0 s1).toArray 5 v.cells.toList = (peelCells seed sL sP bm s0 v).toArray := by rw [h]; rfl
section
variable {w w' w'' : World} {gp seed bm n : Nat} {sL sP s0 s1 v : Value} {L : List Cl} {B : List Bool} {S r0 r1 : List Sm} {SL SP S0 S1 S' : List Nat} {x : Sm}
theorem PeelMem.add1 (h : PeelMem w gp seed sL sP bm s0 s1 L B S r0 r1 SL SP S0 S1 n) (k : Keeps S1 w w') (hs : Seg w' 36 32 v (r1.length + 1) (flat (r1 ++ [x])) S') (hS : ∀ b ∈ S', b ∈ S1 ∨ w.heap.size ≤ b) (hb : Blk w'' gp PeelT (peelCells seed sL sP bm s0 v).toArray) (k2 : Keeps [gp] w' w'') : PeelMem w'' gp seed sL sP bm s0 v L B S r0 (r1 ++ [x]) SL SP S0 S' n := by
  have hgp : gp ∉ S1 := blk_apart h.plus h.blk (by decide)
  have hb1 := h.blk.keeps k hgp
  have t1 := h.tab.keeps k (segs_apart h.tab h.plus (by decide))
  have p1 := h.pure.keeps k (segs_apart h.pure h.plus (by decide))
  have d1 := h.had.keeps k (h.had.apart h.plus)
  have m1 := h.minus.keeps k h.apart
  refine ⟨hb, t1.keeps k2 (seg_far t1 hb1 (by decide)), p1.keeps k2 (seg_far p1 hb1 (by decide)), d1.keeps k2 ?_, m1.keeps k2 (seg_far m1 hb1 (by decide)), ?_, fun y hy hm => ?_⟩
  · simpa using d1.ne hb1
  · have := hs.keeps k2 (seg_far hs hb1 (by decide))
    rwa [show r1.length + 1 = (r1 ++ [x]).length by simp] at this
  · rcases hS y hm with h1 | h1
    · exact h.apart y hy h1
    · have := h.minus.lt y hy; omega
theorem PeelMem.add0 (h : PeelMem w gp seed sL sP bm s0 s1 L B S r0 r1 SL SP S0 S1 n) (k : Keeps S0 w w') (hs : Seg w' 36 32 v (r0.length + 1) (flat (r0 ++ [x])) S') (hS : ∀ b ∈ S', b ∈ S0 ∨ w.heap.size ≤ b) (hb : Blk w'' gp PeelT (peelCells seed sL sP bm v s1).toArray) (k2 : Keeps [gp] w' w'') : PeelMem w'' gp seed sL sP bm v s1 L B S (r0 ++ [x]) r1 SL SP S' S1 n := by
  have hgp : gp ∉ S0 := blk_apart h.minus h.blk (by decide)
  have hb1 := h.blk.keeps k hgp
  have t1 := h.tab.keeps k (segs_apart h.tab h.minus (by decide))
  have p1 := h.pure.keeps k (segs_apart h.pure h.minus (by decide))
  have d1 := h.had.keeps k (h.had.apart h.minus)
  have m1 := h.plus.keeps k fun y hy hm => h.apart y hm hy
  refine ⟨hb, t1.keeps k2 (seg_far t1 hb1 (by decide)), p1.keeps k2 (seg_far p1 hb1 (by decide)), d1.keeps k2 ?_, ?_, m1.keeps k2 (seg_far m1 hb1 (by decide)), fun y hy hm => ?_⟩
  · simpa using d1.ne hb1
  · have := hs.keeps k2 (seg_far hs hb1 (by decide))
    rwa [show r0.length + 1 = (r0 ++ [x]).length by simp] at this
  · rcases hS y hy with h1 | h1
    · exact h.apart y h1 hm
    · have := h.plus.lt y hm; omega
/-- A cell changed. -/
theorem PeelMem.cell {L' : List Cl} {g off cap : Nat} (h : PeelMem w gp seed sL sP bm s0 s1 L B S r0 r1 SL SP S0 S1 n) (eS : SL = [g]) (eL : sL = .slice (some ⟨g, off, none⟩) L.length cap) (hl : L'.length = L.length) (hk : Keeps [g] w w') (h1 : SegL w' 41 65 g off L.length cap (flatC L')) : PeelMem w' gp seed sL sP bm s0 s1 L' B S r0 r1 SL SP S0 S1 n := by
  subst eS
  have hgp : gp ∉ [g] := blk_apart h.tab h.blk (by decide)
  refine ⟨h.blk.keeps hk hgp, ?_, ?_, h.had.keeps hk (h.had.apart h.tab), h.minus.keeps hk (segs_apart h.minus h.tab (by decide)), h.plus.keeps hk (segs_apart h.plus h.tab (by decide)), h.apart⟩
  · rw [eL, hl]; exact h1.seg
  · rw [hl]; exact h.pure.keeps hk (segs_apart h.pure h.tab (by decide))
end
theorem Fr.keepSeg {N : Nat} {Γ : Ctx} {a : Act} {w w' : World} {v : Value} {e : TypeId} {sz n : Nat} {xs : List Value} {S : List Nat} (h : Fr N Γ a w) (k : Keeps S w w') (hs : Seg w e sz v n xs S) (he : Γ.free e = true) : Fr N Γ a w' := h.keeps k fun _ _ hl b hb hlt => by
  obtain ⟨cs, fr, k1⟩ := hs.blocks b hb hlt
  exact ⟨cs, e, fr, k1, Ctx.free_look he hl⟩
theorem exs_nil : ∀ (s : Nat) (τ : Ty), look [] s = some τ → ∃ v, τ = Ty.ex v := fun s τ h => by cases h
theorem exs_cons {Γ : Ctx} {d : Nat} {v : Value} (h : ∀ (s : Nat) (τ : Ty), look Γ s = some τ → ∃ v, τ = Ty.ex v) : ∀ (s : Nat) (τ : Ty), look ((d, Ty.ex v) :: Γ) s = some τ → ∃ v, τ = Ty.ex v := fun s τ hs => by
  by_cases hds : d = s
  · subst hds
    rw [look_same] at hs
    injection hs with hs
    exact ⟨v, hs.symm⟩
  · rw [look_ne _ _ hds] at hs
    exact h s τ hs
/-- The map told anew. -/
theorem PeelMem.seen {w w' : World} {gp seed bm n m : Nat} {sL sP s0 s1 : Value} {L : List Cl} {B : List Bool} {S S2 r0 r1 : List Sm} {SL SP S0 S1 : List Nat} (h : PeelMem w gp seed sL sP bm s0 s1 L B S r0 r1 SL SP S0 S1 n) (k : Keeps [bm] w w') (h1 : MapIs w' bm m S2) : PeelMem w' gp seed sL sP bm s0 s1 L B S2 r0 r1 SL SP S0 S1 m := by
  have nm : ∀ {e : TypeId} {sz n : Nat} {v : Value} {xs : List Value} {S : List Nat}, Seg w e sz v n xs S → ∀ y ∈ S, y ∉ [bm] := fun hs y hy hm => by
    simp only [List.mem_singleton] at hm
    subst hm
    exact h.had.apart hs hy
  exact ⟨h.blk.keeps k (by simpa using fun e => h.had.ne h.blk e.symm), h.tab.keeps k (nm h.tab), h.pure.keeps k (nm h.pure), h1, h.minus.keeps k (nm h.minus), h.plus.keeps k (nm h.plus), h.apart⟩
/-- All blocks of a peeler are at lo or above. -/
structure PeelOwn (lo gp bm : Nat) (SL SP S0 S1 : List Nat) : Prop where
  gp : lo ≤ gp
  bm : lo ≤ bm
  tab : ∀ y ∈ SL, lo ≤ y
  pure : ∀ y ∈ SP, lo ≤ y
  minus : ∀ y ∈ S0, lo ≤ y
  plus : ∀ y ∈ S1, lo ≤ y
theorem below_lo {lo : Nat} {w wr w' : World} {S : List Nat} (hB : Below lo w wr) (hlo : lo ≤ w.heap.size) (hk : Keeps S wr w') (hS : ∀ y ∈ S, lo ≤ y) : Below lo w w' :=
  ⟨hk.os.trans hB.os, hk.tape.trans hB.tape, hk.output.trans hB.output, Nat.le_trans hB.size hk.size, fun k hkl => (hk.block k (Nat.lt_of_lt_of_le (Nat.lt_of_lt_of_le hkl hlo) hB.size) fun hm => by have := hS k hm; omega).trans (hB.block k hkl)⟩
end Go.Proofs.YtmlbkcpmgcjblaaGreat

/- The peeler's take: the walk. -/
namespace Go.Proofs.YtmlbkcpmgcjblaaGreat
open Go.RowKit

theorem at5 {W : World} {g : Nat} {x : Sm} (h : Blk W g 36 (u8s x.l)) : (Ty.at_ 36 x.enc).p W (.pointer (some ⟨g, 0, none⟩)) := by
  have h := blk_at h
  rwa [u8s_list] at h
abbrev RetT (P : Program) (f : FuncId) (args : Array Value) (w : World) (Q : Value → World → Prop) : Prop := Calls P f args w fun e w' => ∃ u, e = .returned u ∧ Q u w'
set_option maxRecDepth 100000 in
set_option maxHeartbeats 4000000 in
theorem takeP_any {w : World} {lo gp seed bm n : Nat} {sL sP s0 s1 : Value} {L : List Cl} {S r0 r1 : List Sm} {SL SP S0 S1 : List Nat} (h : PeelMem w gp seed sL sP bm s0 s1 L (pureB seed L) S r0 r1 SL SP S0 S1 n) (ho : PeelOwn lo gp bm SL SP S0 S1) (hlo : lo ≤ w.heap.size) (hsd : seed < 18446744073709551616) (hrl : r0.length + r1.length ≤ 1100) (hnl : n ≤ 1100) {i : Nat} (hi : i < L.length) (hp : pureAt seed L i = true) (hc : (L.getD i default).n = 1) {x : Sm} (hx : (L.getD i default).key = x) :
    RetT Tryz.prog 32 #[.pointer (some ⟨gp, 0, none⟩), .int .i64 (i : Int)] w fun u w' => u = .bool (!decide (x ∈ S)) ∧ Below lo w w' ∧ ∃ v' S', PeelMem w' gp seed sL sP bm s0 v' (tput seed L x (-1)) (pureB seed (tput seed L x (-1))) (x :: S) r0 (r1 ++ [x]) SL SP S0 S' (n + 1) ∧ PeelOwn lo gp bm SL SP S0 S' := by
  have hen : Enters Tryz.prog 30 := fun args w => by kernel_rfl
  have hPu := pure_ty (L.getD i default)
  unfold pureAt at hp
  simp only [Bool.and_eq_true] at hp
  have hsum : (L.getD i default).sum = x := (Cl.sum_ok hp.1).trans hx
  have hplus : (L.getD i default).plus = true := by unfold Cl.plus; rw [hp.1, Bool.true_and]; exact decide_eq_true hc
  rw [hsum, hplus, hp.1] at hPu
  clear hp hsum hplus
  have hPp := places_ty seed (L.length : Int) x hsd
  have hPl3 := placesN_len3 seed (L.length : Int) x
  have hPd : ∀ j, j < (placesN seed (L.length : Int) x).length → (placesN seed (L.length : Int) x).getD j 0 < L.length := fun j hj => places_lt seed L.length x _ (getD_mem hj)
  have hput : tput seed L x (-1) = (placesN seed (L.length : Int) x).foldl (fun L i => tputAt L i x (-1)) L := rfl
  rw [hput]
  clear hput
  generalize placesN seed (L.length : Int) x = PL at *
  refine enter_ty 94 [Ty.ex (.pointer (some ⟨gp, 0, none⟩)), Ty.ex (.int .i64 (i : Int))] Tryz.func32 rfl (by kernel_rfl) ⟨rfl, rfl, trivial⟩ fun a hF => ?_
  have hB := Below.refl w.heap.size w
  repeat with_reducible refine wp_seq ?_
  refine' reg_all hF ?_ mixed (by kernel_rfl) ?_
  rotate_left
  · repeat (first | exact Line.nil | ((refine' Line.cons rfl (.run rfl rfl ?_) ?_); (any_goals exact cAssign rfl rfl); rotate_left))
  intro a w0 hF hb hN
  have hBs := hB.size
  replace hB := hB.trans (hb.mono hB.size)
  dsimp only [ext, Option.getD] at hF
  repeat with_reducible first | refine wp_seq ?_ | refine nThen ?_
  refine wp_region_lit ?_
  refine' tlOp hF rfl rfl rfl ?_ ?_
  rotate_left
  · exact cMove rfl rfl
  intro a w1 hF hb
  have hBs := hB.size
  replace hB := hB.trans (hb.mono hB.size)
  try (refine wpList_nil ?_)
  refine' tlOp hF rfl rfl rfl ?_ ?_
  rotate_left
  · exact cNilOk rfl rfl
  intro a w2 hF hb
  have hBs := hB.size
  replace hB := hB.trans (hb.mono hB.size)
  try (refine wpList_nil ?_)
  refine' tlOp hF rfl rfl rfl ?_ ?_
  rotate_left
  · exact cPeelT rfl (.l rfl (h.below hB).at_)
  intro a w3 hF hb
  have hBs := hB.size
  replace hB := hB.trans (hb.mono hB.size)
  try (refine wpList_nil ?_)
  refine' tlOp hF rfl rfl rfl ?_ ?_
  rotate_left
  · exact cFldLx rfl (.t rfl)
  intro a w4 hF hb
  have hBs := hB.size
  replace hB := hB.trans (hb.mono hB.size)
  try (refine wpList_nil ?_)
  refine' tlOp hF rfl rfl rfl ?_ ?_
  rotate_left
  · exact cLoad1 (u := sL) rfl (.t rfl) (pts_at _ _) Tryz.underlying24 rfl
  intro a w5 hF hb
  have hBs := hB.size
  replace hB := hB.trans (hb.mono hB.size)
  try (refine wpList_nil ?_)
  replace hF := hF.as hF (s := 18) (σ := Ty.cls 41 L) rfl (fun v hv => by rw [show v = sL from hv]; exact (h.below hB).tab.sl)
  refine' tlOp hF rfl rfl rfl ?_ ?_
  rotate_left
  · exact cMove rfl rfl
  intro a w6 hF hb
  have hBs := hB.size
  replace hB := hB.trans (hb.mono hB.size)
  try (refine wpList_nil ?_)
  refine' tlOp hF rfl rfl rfl ?_ ?_
  rotate_left
  · exact cIndexCl (k := i) rfl (.t rfl) rfl Tryz.underlying24 info34 hi
  intro a w7 hF hb
  have hBs := hB.size
  replace hB := hB.trans (hb.mono hB.size)
  try (refine wpList_nil ?_)
  refine' tlOp hF rfl rfl rfl ?_ ?_
  rotate_left
  · exact cLoadCl34 rfl (.t rfl)
  intro a w8 hF hb
  have hBs := hB.size
  replace hB := hB.trans (hb.mono hB.size)
  try (refine wpList_nil ?_)
  refine' tlOp hF rfl rfl rfl ?_ ?_
  rotate_left
  · exact cCall1 rfl rfl hPu
  intro a w9 hF hb
  have hBs := hB.size
  replace hB := hB.trans (hb.mono hB.size)
  try (refine wpList_nil ?_)
  refine' tlOp hF rfl rfl rfl ?_ ?_
  rotate_left
  · exact cMove rfl rfl
  intro a w10 hF hb
  have hBs := hB.size
  replace hB := hB.trans (hb.mono hB.size)
  try (refine wpList_nil ?_)
  refine' tlOp hF rfl rfl rfl ?_ ?_
  rotate_left
  · exact cExtV rfl rfl rfl
  intro a w11 hF hb
  have hBs := hB.size
  replace hB := hB.trans (hb.mono hB.size)
  try (refine wpList_nil ?_)
  refine' tlOp hF rfl rfl rfl ?_ ?_
  rotate_left
  · exact cExtV rfl rfl rfl
  intro a w12 hF hb
  have hBs := hB.size
  replace hB := hB.trans (hb.mono hB.size)
  try (refine wpList_nil ?_)
  refine' tlOp hF rfl rfl rfl ?_ ?_
  rotate_left
  · exact cExtV rfl rfl rfl
  intro a w13 hF hb
  have hBs := hB.size
  replace hB := hB.trans (hb.mono hB.size)
  try (refine wpList_nil ?_)
  have hw13 := hB.size
  refine' tlOp hF rfl rfl rfl ?_ ?_
  rotate_left
  · exact cAllocN rfl (run_alloc_i infoS)
  intro a w14 hF hb
  have hBs := hB.size
  replace hB := hB.trans (hb.mono hB.size)
  try (refine wpList_nil ?_)
  obtain ⟨z, ⟨g5, rfl, hg5, hb5⟩, hF⟩ := hF.open (s := 5) rfl
  have hg5 : w13.heap.size ≤ g5 := hg5
  refine tlStoreV (Δ := [(0, Ty.ex (.pointer (some ⟨gp, 0, none⟩))), (5, Ty.ex (.pointer (some ⟨g5, 0, none⟩))), (24, Ty.ex (.bool true)), (25, Ty.ex (.bool true))]) hF rfl rfl rfl rfl (hF.getEx (s := 23) rfl) hb5 (sumSz _) (by show _ = some (u8s _).size; rw [Sm.size]; exact sizeS) (u8s_one _) (hF.keep [0, 5, 24, 25]) rfl ?_
  intro w15 hF hb5' hkx
  replace hB := below_own hB hkx (by intro y hy; simp only [List.mem_singleton] at hy; omega)
  replace hb5 : Blk w15 g5 36 (u8s x.l) := hb5'
  clear hb5' hkx
  refine' tlOp hF rfl rfl rfl ?_ ?_
  rotate_left
  · exact cAssign rfl rfl
  intro a w16 hF hb
  have hBs := hB.size
  replace hB := hB.trans (hb.mono hB.size)
  try (refine wpList_nil ?_)
  replace hb5 := hb5.below hb
  refine' tlOp hF rfl rfl rfl ?_ ?_
  rotate_left
  · exact cAssign rfl rfl
  intro a w17 hF hb
  have hBs := hB.size
  replace hB := hB.trans (hb.mono hB.size)
  try (refine wpList_nil ?_)
  repeat with_reducible first | refine wp_seq ?_ | refine nThen ?_
  replace hb5 := hb5.below hb
  refine' reg_all hF ?_ mixed (by kernel_rfl) ?_
  rotate_left
  · repeat (first | exact Line.nil | ((refine' Line.cons rfl (.run rfl rfl ?_) ?_); (any_goals exact cAssign rfl rfl); rotate_left))
  intro a w18 hF hb hN
  have hBs := hB.size
  replace hB := hB.trans (hb.mono hB.size)
  dsimp only [ext, Option.getD] at hF
  repeat with_reducible first | refine wp_seq ?_ | refine nThen ?_
  replace hb5 := hb5.below hb
  refine' reg_all hF ?_ mixed (by kernel_rfl) ?_
  rotate_left
  · repeat (first | exact Line.nil | ((refine' Line.cons rfl (.run rfl rfl ?_) ?_); (any_goals exact cMove rfl rfl); rotate_left))
  intro a w19 hF hb hN
  have hBs := hB.size
  replace hB := hB.trans (hb.mono hB.size)
  dsimp only [ext, Option.getD] at hF
  repeat with_reducible refine nThen ?_
  replace hb5 := hb5.below hb
  refine cond_t hF rfl ?_
  refine' reg_all hF ?_ mixed (by kernel_rfl) ?_
  rotate_left
  · repeat (first | exact Line.nil | ((refine' Line.cons rfl (.run rfl rfl ?_) ?_); (any_goals exact cAssign rfl rfl); rotate_left))
  intro a w20 hF hb hN
  have hBs := hB.size
  replace hB := hB.trans (hb.mono hB.size)
  dsimp only [ext, Option.getD] at hF
  repeat with_reducible first | refine wp_seq ?_ | refine nThen ?_
  replace hb5 := hb5.below hb
  have hq := h.below hB
  have hat := hq.at_
  have h5 := at5 hb5
  have hg5w : w.heap.size ≤ g5 := by omega
  refine' region_ev 13 10 [2, 3, 4, 5, 6, 7, 8, 9, 10] (dp := 37) (fun v' w' => Keeps S1 w20 w' ∧ ∃ S', Seg w' 36 32 v' (r1.length + 1) (flat r1 ++ flat [x]) S' ∧ ∀ b ∈ S', b ∈ S1 ∨ w20.heap.size ≤ b) mixed (by kernel_rfl) rfl hF ?_ ?_
  rotate_left
  · simp only [List.take_succ_cons, List.take_zero]
    refine' LineE.float rfl rfl ?_ ?_
    any_goals exact fMove rfl rfl rfl
    rotate_left
    refine' LineE.float rfl rfl ?_ ?_
    any_goals exact fMove rfl rfl rfl
    rotate_left
    refine' LineE.cons rfl rfl rfl (.run rfl rfl ?_) ?_
    any_goals exact cMove rfl rfl
    rotate_left
    refine' LineE.cons rfl rfl rfl (.run rfl rfl ?_) ?_
    any_goals exact cMove rfl rfl
    rotate_left
    refine' LineE.cons rfl rfl rfl (.run rfl rfl ?_) ?_
    any_goals exact cNilOk rfl rfl
    rotate_left
    refine' LineE.cons rfl rfl rfl (.run rfl rfl ?_) ?_
    any_goals exact cPeelR rfl (.l rfl hat)
    rotate_left
    refine' LineE.cons rfl rfl rfl (.run rfl rfl ?_) ?_
    any_goals exact cIndexArr (k := 1) rfl (.t rfl) rfl Tryz.underlying86 sizeSS1 (by decide)
    rotate_left
    refine' LineE.cons rfl rfl rfl (.run rfl rfl ?_) ?_
    any_goals exact cLoad1 (u := s1) rfl (.t rfl) (pts_at _ _) Tryz.underlying31 rfl
    rotate_left
    refine' LineE.cons rfl rfl rfl (.run rfl rfl ?_) ?_
    any_goals exact cLoadSum rfl (.l rfl h5) Tryz.underlying36 sizeS
    rotate_left
    refine' LineE.cons rfl rfl rfl (.run rfl rfl ?_) ?_
    any_goals exact cBuildSums [x] rfl (parts1v rfl rfl) Tryz.underlying31 infoS rfl
    rotate_left
    refine' LineE.event rfl rfl rfl ?_ ?_
    any_goals exact evAppend (m := 1) (news := flat [x]) rfl rfl Tryz.underlying31 infoS zero32_size hq.plus (.t rfl) sl_news (flat_len _) flat_one' (by simp [maxLen]; omega) (by omega)
    rotate_left
    refine' LineE.float rfl rfl ?_ ?_
    any_goals exact fNil rfl rfl rfl
    rotate_left
    refine' LineE.float rfl rfl ?_ ?_
    any_goals exact fField rfl rfl rfl (fieldR gp 0)
    rotate_left
    exact LineE.nil
  intro a W hsz hdf v' hv37 ⟨hk, S', hseg, hS'⟩ hX
  simp only [List.take_succ_cons, List.take_zero, List.drop_succ_cons, List.drop_zero] at hX ⊢
  dsimp only [ext, Option.getD] at hX
  have hF : Fr 94 [(0, Ty.ex (.pointer (some ⟨gp, 0, none⟩))), (5, Ty.ex (.pointer (some ⟨g5, 0, none⟩))), (9, Ty.ex (.func (.func 23) #[] #[])), (28, Ty.ex (.int .i64 1)), (37, Ty.ex v'), (39, Ty.ex (.pointer (some ⟨gp, 0 + 4, none⟩)))] a W := ((((((Fr.bare hsz hdf).letter (hX 39 _ rfl)).letter hv37).letter (hX 28 _ rfl)).letter (hX 9 _ rfl)).letter (hX 5 _ rfl)).letter (hX 0 _ rfl)
  rw [← flat_append] at hseg
  have hOS : ∀ y ∈ S', lo ≤ y := fun y hy => (hS' y hy).elim (ho.plus y) fun h => Nat.le_trans (Nat.le_trans hlo hB.size) h
  have hL : Below lo w W := below_lo (hB.mono hlo) hlo hk ho.plus
  have hg5n : g5 ∉ S1 := fun hm => by have := h.plus.lt g5 hm; omega
  replace hb5 := hb5.keeps hk hg5n
  have hbp := hq.blk.keeps hk (blk_apart hq.plus hq.blk (by decide))
  have hB0 := hB
  replace hB := Below.refl W.heap.size W
  refine' tlOp hF rfl rfl rfl ?_ ?_
  rotate_left
  · exact cIndexArrEx (k := 1) rfl rfl rfl Tryz.underlying86 sizeSS1 (by decide)
  intro a w30 hF hb
  have hBs := hB.size
  replace hB := hB.trans (hb.mono hB.size)
  try (refine wpList_nil ?_)
  replace hseg := hseg.below hb
  replace hbp := hbp.below hb
  replace hb5 := hb5.below hb
  have hk30 := hk.trans (Keeps.of_below (S := S1) (hb.mono (Nat.le_refl _)))
  have hL30 : Below lo w w30 := hL.trans (hb.mono (Nat.le_trans hlo hL.size))
  have hc1 := sl_cells (seg_isA hseg)
  have ho1 := sl_one1 (seg_isA hseg)
  refine tlStoreF (k := 4 + 1) (v := v') (Δ := [(0, Ty.ex (.pointer (some ⟨gp, 0, none⟩))), (5, Ty.ex (.pointer (some ⟨g5, 0, none⟩))), (9, Ty.ex (.func (.func 23) #[] #[]))]) hF rfl rfl rfl rfl (hF.getEx (s := 37) rfl) hbp (by rw [hc1]; simp [peelCells]) (by rw [hc1]; exact sizeSS1) ho1 (hF.keep [0, 5, 9]) rfl ?_
  intro w31 hF hbp' hk31
  refine wpList_nil ?_
  rw [peel_cells1 hc1] at hbp'
  have hM := PeelMem.add1 hq hk30 hseg hS' hbp' hk31
  have hg5p : g5 ∉ [gp] := by simpa using hb5.ne hbp (by decide)
  replace hb5 := hb5.keeps hk31 hg5p
  have hL : Below lo w w31 := below_lo hL30 hlo hk31 (by intro y hy; simp only [List.mem_singleton] at hy; subst hy; exact ho.gp)
  clear hk30 hL30 hk31 hbp hbp' hseg hk hq hat h5 hB0 hB hX hb
  have hO : PeelOwn lo gp bm SL SP S0 S' := ⟨ho.gp, ho.bm, ho.tab, ho.pure, ho.minus, hOS⟩
  have hB := Below.refl w31.heap.size w31
  have hat := hM.at_
  have hsL := hM.tab.sl
  have h5 := at5 hb5
  repeat with_reducible first | refine wp_seq ?_ | refine nThen ?_
  refine' reg_all hF ?_ mixed (by kernel_rfl) ?_
  rotate_left
  · repeat (first | exact Line.nil | ((refine' Line.cons rfl (.run rfl rfl ?_) ?_); (any_goals (first | exact cMove rfl rfl | exact cNilOk rfl rfl | exact cPeelT rfl (.l rfl hat) | exact cFldSx rfl (.t rfl) | exact cLoadU64 rfl (.t rfl) | exact cFldLx rfl (.t rfl) | exact cLoad1 (u := sL) rfl (.t rfl) (pts_at _ _) Tryz.underlying24 rfl | exact cLenH rfl (.l rfl hsL) (Ty.sl_isSl _ _ _) Tryz.underlying24 | exact cLoadSum rfl (.l rfl h5) Tryz.underlying36 sizeS | exact cCall3 rfl rfl rfl rfl hPp | exact cLen rfl rfl (Ty.sl_isSl _ _ _) Tryz.underlying23)); rotate_left))
  intro a w32 hF hb hN
  have hBs := hB.size
  replace hB := hB.trans (hb.mono hB.size)
  dsimp only [ext, Option.getD] at hF
  repeat with_reducible first | refine nThen ?_ | refine wp_block ?_
  replace hM := hM.below hb
  replace hb5 := hb5.below hb
  obtain ⟨v53, hv53, hF⟩ := hF.open (s := 53) rfl
  refine loop_ty (fun m a wr => ∃ j : Nat, j + m = PL.length ∧ Fr 94 [(0, Ty.ex (.pointer (some ⟨gp, 0, none⟩))), (5, Ty.ex (.pointer (some ⟨g5, 0, none⟩))), (9, Ty.ex (.func (.func 23) #[] #[])), (53, Ty.ex v53), (54, Ty.ex (.int .i64 (PL.length : Int))), (55, Ty.ex (.int .i64 (j : Int)))] a wr ∧ Below lo w wr ∧ PeelMem wr gp seed sL sP bm s0 v' ((PL.take j).foldl (fun L i => tputAt L i x (-1)) L) (pureB seed ((PL.take j).foldl (fun L i => tputAt L i x (-1)) L)) S r0 (r1 ++ [x]) SL SP S0 S' n ∧ Blk wr g5 36 (u8s x.l) ∧ (Ty.sl 3 PL.length (PL.map ivn)).p wr v53) PL.length ?_ ?_
  · exact ⟨0, by omega, hF.keep [0, 5, 9, 53, 54, 55], hL.trans (hb.mono (Nat.le_trans hlo hL.size)), hM, hb5, hv53⟩
  clear hF hB hL hM hb5 hv53 hat hsL h5 hb hBs
  rintro m a wr ⟨j, hj, hF, hL, hM, hb5, hv53⟩
  have hB := Below.refl wr.heap.size wr
  repeat with_reducible refine wp_seq ?_
  refine' reg_all hF ?_ mixed (by kernel_rfl) ?_
  rotate_left
  · repeat (first | exact Line.nil | ((refine' Line.cons rfl (.run rfl rfl ?_) ?_); (any_goals exact cLss rfl rfl rfl); rotate_left))
  intro a w40 hF hb hN
  have hBs := hB.size
  replace hB := hB.trans (hb.mono hB.size)
  dsimp only [ext, Option.getD] at hF
  repeat with_reducible first | refine wp_seq ?_ | refine nThen ?_
  have hL40 : Below lo w w40 := hL.trans (hb.mono (Nat.le_trans hlo hL.size))
  replace hM := hM.below hb
  replace hb5 := hb5.below hb
  replace hv53 : (Ty.sl 3 PL.length (PL.map ivn)).p w40 v53 := (Ty.sl 3 PL.length (PL.map ivn)).below hv53 hb
  refine cond_ty hF rfl (fun hlt => ?_) (fun hge => ?_)
  · have hlt : j < PL.length := by have := of_decide_eq_true hlt; omega
    have hi := hPd j hlt
    have hfs := fold_snoc PL hlt L x (-1)
    have hd1 := ivn_drop hlt
    have hFl : ((PL.take j).foldl (fun L i => tputAt L i x (-1)) L).length = L.length := by rw [foldAt_len]
    generalize (PL.take j).foldl (fun L i => tputAt L i x (-1)) L = R at *
    generalize PL.getD j 0 = i2 at *
    repeat with_reducible first | refine wp_seq ?_ | refine nThen ?_ | refine wp_skip ?_ | refine wp_block ?_
    refine' reg_all hF ?_ mixed (by kernel_rfl) ?_
    rotate_left
    · repeat (first | exact Line.nil | ((refine' Line.cons rfl (.run rfl rfl ?_) ?_); (any_goals (first | exact cAssign rfl rfl | exact cIndexS (k := j) (sz := 1) rfl (.l rfl hv53) rfl Tryz.underlying23 sizeI hlt (by rw [List.length_map]; omega) | exact cLoad1 (u := ivn i2) rfl (Has.c (.t rfl) (fun W v h => by rw [Nat.mul_one, hd1] at h; exact h)) (pts_at _ _) Tryz.underlying3 rfl)); rotate_left))
    intro a w41 hF hb hN
    have hBs := hB.size
    replace hB := hB.trans (hb.mono hB.size)
    dsimp only [ext, Option.getD] at hF
    repeat with_reducible first | refine wp_seq ?_ | refine nThen ?_
    replace hM := hM.below hb
    replace hb5 := hb5.below hb
    replace hv53 : (Ty.sl 3 PL.length (PL.map ivn)).p w41 v53 := (Ty.sl 3 PL.length (PL.map ivn)).below hv53 hb
    have hL41 : Below lo w w41 := hL40.trans (hb.mono (Nat.le_trans hlo hL40.size))
    obtain ⟨g, off, cap, eu, eS, hsl⟩ : ∃ g off cap, sL = .slice (some ⟨g, off, none⟩) R.length cap ∧ SL = [g] ∧ SegL w41 41 65 g off R.length cap (flatC R) := by
      rcases hM.tab.cases with ⟨_, h0, _⟩ | h
      · omega
      · exact h
    have hat := hM.at_
    rw [eu] at hat
    have h5 := at5 hb5
    have hcell := cell_at hsl (i := i2) (by omega)
    have hiR : i2 < R.length := by omega
    refine' region_ty 18 mixed (by kernel_rfl) hF ?_ ?_
    rotate_left
    · simp only [List.take_succ_cons, List.take_zero]
      repeat (first | exact Line.nil | ((refine' Line.cons rfl (.run rfl rfl ?_) ?_); (any_goals (first | exact cMove rfl rfl | exact cNilOk rfl rfl | exact cPeelT rfl (.l rfl hat) | exact cFldLx rfl (.t rfl) | exact cLoad1 (u := .slice (some ⟨g, off, none⟩) R.length cap) rfl (.t rfl) (pts_at _ _) Tryz.underlying24 rfl | exact cIndexEx (k := i2) (sz := 65) rfl rfl rfl Tryz.underlying24 info34 hiR | exact cLoadCl34 rfl (.l rfl hcell) | exact cLoadSum rfl (.l rfl h5) Tryz.underlying36 sizeS | exact cCallV2 rfl rfl (.t rfl) (.t rfl) (take_ty _ _))); rotate_left))
    intro a w42 hF hb hN
    have hBs := hB.size
    replace hB := hB.trans (hb.mono hB.size)
    simp only [List.take_succ_cons, List.take_zero, List.drop_succ_cons, List.drop_zero] at hF hN ⊢
    dsimp only [ext, Option.getD] at hF
    replace hM := hM.below hb
    replace hb5 := hb5.below hb
    replace hv53 : (Ty.sl 3 PL.length (PL.map ivn)).p w42 v53 := (Ty.sl 3 PL.length (PL.map ivn)).below hv53 hb
    have hL42 : Below lo w w42 := hL41.trans (hb.mono (Nat.le_trans hlo hL41.size))
    replace hsl := hsl.below hb
    refine tlStoreAt (Δ := [(0, Ty.ex (.pointer (some ⟨gp, 0, none⟩))), (5, Ty.ex (.pointer (some ⟨g5, 0, none⟩))), (9, Ty.ex (.func (.func 23) #[] #[])), (11, Ty.ex (ivn i2)), (53, Ty.ex v53), (54, Ty.ex (.int .i64 (PL.length : Int))), (55, Ty.ex (.int .i64 (j : Int)))]) (k := i2 * 65) hF rfl rfl rfl rfl rfl hsl (by rw [Cl.size]; omega) (by rw [Cl.size]; exact info34) (Cl.one _) (hF.keep [0, 5, 9, 11, 53, 54, 55]) rfl ?_
    intro w43 hF hsl hk43
    refine wpList_nil ?_
    rw [show ((R.getD i2 default).put x (-1)).a.toList = ((R.getD i2 default).put x (-1)).enc from rfl, over_flatC _ _ (by omega)] at hsl
    rw [show R.set i2 ((R.getD i2 default).put x (-1)) = tputAt R i2 x (-1) from rfl] at hsl
    have hl2 : (tputAt R i2 x (-1)).length = R.length := tputAt_len _ _ _ _
    have hgS : ∀ y ∈ [g], lo ≤ y := by rw [← eS]; exact ho.tab
    have hL43 : Below lo w w43 := below_lo hL42 hlo hk43 hgS
    replace hv53 := (Ty.sl 3 PL.length (PL.map ivn)).keepSeg hv53 (by rw [eS]; exact hk43) hM.tab rfl
    have hg5g : g5 ∉ [g] := by
      have := blk_apart hM.tab hb5 (by decide)
      rwa [eS] at this
    replace hb5 := hb5.keeps hk43 hg5g
    have hM2 := hM.cell eS eu hl2 hk43 hsl
    clear hM hsl hcell hat h5
    replace hB := Below.refl w43.heap.size w43
    repeat with_reducible refine nThen ?_
    refine' region_ty 2 mixed (by kernel_rfl) hF ?_ ?_
    rotate_left
    · simp only [List.take_succ_cons, List.take_zero]
      repeat (first | exact Line.nil | ((refine' Line.cons rfl (.run rfl rfl ?_) ?_); (any_goals exact cMove rfl rfl); rotate_left))
    intro a w44 hF hb hN
    have hBs := hB.size
    replace hB := hB.trans (hb.mono hB.size)
    simp only [List.take_succ_cons, List.take_zero, List.drop_succ_cons, List.drop_zero] at hF hN ⊢
    dsimp only [ext, Option.getD] at hF
    have hM44 := hM2.below hb
    replace hb5 := hb5.below hb
    replace hv53 : (Ty.sl 3 PL.length (PL.map ivn)).p w44 v53 := (Ty.sl 3 PL.length (PL.map ivn)).below hv53 hb
    have hL44 : Below lo w w44 := hL43.trans (hb.mono (Nat.le_trans hlo hL43.size))
    have hlk := look_any hM44 (by rw [pureB_len, hl2]) hsd (i := i2) (by rw [hl2]; exact hiR)
    rw [pureB_set x (-1) hiR, ← hfs] at hlk
    refine tlCall rfl rfl rfl (args := #[.pointer (some ⟨gp, 0, none⟩), ivn i2]) ?_ hen (R := fun u w' => PeelMem w' gp seed sL sP bm s0 v' ((PL.take (j + 1)).foldl (fun L i => tputAt L i x (-1)) L) (pureB seed ((PL.take (j + 1)).foldl (fun L i => tputAt L i x (-1)) L)) S r0 (r1 ++ [x]) SL SP S0 S' n ∧ Keeps SP w44 w') ?_ ?_
    · simp only [List.map_toArray, List.map_cons, List.map_nil, hF.getEx (s := 77) rfl, hF.getEx (s := 78) rfl]
    · exact hlk.mono fun e w' ⟨h1, h2, h3⟩ => ⟨_, h1, h2, h3⟩
    rintro z w45 ⟨hM, hk45⟩
    have hF := ((hF.keep [0, 5, 9, 53, 54, 55]).keepSeg hk45 hM44.pure rfl).put (d := 79) (by decide) (Below.refl _ _) (V := Ty.ex z) rfl
    have hL45 : Below lo w w45 := below_lo hL44 hlo hk45 ho.pure
    replace hv53 := (Ty.sl 3 PL.length (PL.map ivn)).keepSeg hv53 hk45 hM44.pure rfl
    replace hb5 := hb5.keeps hk45 (blk_apart hM44.pure hb5 (by decide))
    replace hB := Below.refl w45.heap.size w45
    refine wpList_nil ?_
    repeat with_reducible first | refine nThen ?_ | refine nBlk ?_
    refine' reg_all hF ?_ mixed (by kernel_rfl) ?_
    rotate_left
    · repeat (first | exact Line.nil | ((refine' Line.cons rfl (.run rfl rfl ?_) ?_); (any_goals (first | exact cMove rfl rfl | exact cAdd (r := ((j + 1 : Nat) : Int)) rfl rfl rfl (by omega))); rotate_left))
    intro a w46 hF hb hN
    have hBs := hB.size
    replace hB := hB.trans (hb.mono hB.size)
    dsimp only [ext, Option.getD] at hF
    repeat with_reducible refine nThen ?_
    exact ⟨m - 1, by omega, j + 1, by omega, hF.keep [0, 5, 9, 53, 54, 55], hL45.trans (hb.mono (Nat.le_trans hlo hL45.size)), hM.below hb, hb5.below hb, (Ty.sl 3 PL.length (PL.map ivn)).below hv53 hb⟩
  have hge : ¬ j < PL.length := by have := of_decide_eq_false hge; omega
  obtain rfl : j = PL.length := by omega
  rw [List.take_of_length_le (Nat.le_refl _)] at hM
  generalize PL.foldl (fun L i => tputAt L i x (-1)) L = R at *
  clear hv53
  have hat := hM.at_
  have h5 := at5 hb5
  have hmp : (Ty.mapS bm n S).p w40 (.map (some bm)) := ⟨rfl, hM.had⟩
  replace hB := Below.refl w40.heap.size w40
  repeat with_reducible first | refine wp_seq ?_ | refine nThen ?_ | refine wp_exit ?_ | refine xThen ?_ | refine xHere ?_
  refine' reg_all hF ?_ mixed (by kernel_rfl) ?_
  rotate_left
  · repeat (first | exact Line.nil | ((refine' Line.cons rfl (.run rfl rfl ?_) ?_); (any_goals (first | exact cMove rfl rfl | exact cAssign rfl rfl | exact cNilOk rfl rfl | exact cPeelM rfl (.l rfl hat) | exact cLoad1 (u := .map (some bm)) rfl (.t rfl) (pts_at _ _) Tryz.underlying85 rfl | exact cLoadSum rfl (.l rfl h5) Tryz.underlying36 sizeS | exact cLookS rfl (.l rfl hmp) rfl)); rotate_left))
  intro a w50 hF hb hN
  have hBs := hB.size
  replace hB := hB.trans (hb.mono hB.size)
  dsimp only [ext, Option.getD] at hF
  repeat with_reducible first | refine wp_seq ?_ | refine nThen ?_
  replace hM := hM.below hb
  have h5 := at5 (hb5.below hb)
  have hat := hM.at_
  refine' region_ty 5 mixed (by kernel_rfl) hF ?_ ?_
  rotate_left
  · simp only [List.take_succ_cons, List.take_zero]
    repeat (first | exact Line.nil | ((refine' Line.cons rfl (.run rfl rfl ?_) ?_); (any_goals (first | exact cMove rfl rfl | exact cNilOk rfl rfl | exact cPeelM rfl (.l rfl hat) | exact cLoad1 (u := .map (some bm)) rfl (.t rfl) (pts_at _ _) Tryz.underlying85 rfl | exact cLoadSum rfl (.l rfl h5) Tryz.underlying36 sizeS)); rotate_left))
  intro a w51 hF hb hN
  have hBs := hB.size
  replace hB := hB.trans (hb.mono hB.size)
  simp only [List.take_succ_cons, List.take_zero, List.drop_succ_cons, List.drop_zero] at hF hN ⊢
  dsimp only [ext, Option.getD] at hF
  replace hM := hM.below hb
  have hL51 : Below lo w w51 := hL40.trans (hB.mono (Nat.le_trans hlo hL40.size))
  refine tlMapPut rfl rfl rfl (hF.getEx (s := 90) rfl) (hF.getEx (s := 91) rfl) rfl hM.had (by simp [maxLen]; omega) ?_
  intro w52 hmap hk52
  have hM := hM.seen hk52 hmap
  have hF := (hF.keep [12]).exs (w' := w52) (exs_cons exs_nil)
  have hL52 : Below lo w w52 := below_lo hL51 hlo hk52 (by intro y hy; simp only [List.mem_singleton] at hy; subst hy; exact ho.bm)
  replace hB := Below.refl w52.heap.size w52
  refine wpList_nil ?_
  repeat with_reducible first | refine wp_seq ?_ | refine nThen ?_
  refine' reg_all hF ?_ mixed (by kernel_rfl) ?_
  rotate_left
  · repeat (first | exact Line.nil | ((refine' Line.cons rfl (.run rfl rfl ?_) ?_); (any_goals (first | exact cMove rfl rfl | exact cAssign rfl rfl | exact cNot rfl rfl)); rotate_left))
  intro a w53 hF hb hN
  have hBs := hB.size
  replace hB := hB.trans (hb.mono hB.size)
  dsimp only [ext, Option.getD] at hF
  repeat with_reducible first | refine nThen ?_ | refine wp_ret ?_
  refine ret1 hF rfl rfl fun z hz => ?_
  exact ⟨z, rfl, hz, hL52.trans (hb.mono (Nat.le_trans hlo hL52.size)), v', S', hM.below hb, hO⟩
set_option maxRecDepth 100000 in
set_option maxHeartbeats 4000000 in
theorem takeM_any {w : World} {lo gp seed bm n : Nat} {sL sP s0 s1 : Value} {L : List Cl} {S r0 r1 : List Sm} {SL SP S0 S1 : List Nat} (h : PeelMem w gp seed sL sP bm s0 s1 L (pureB seed L) S r0 r1 SL SP S0 S1 n) (ho : PeelOwn lo gp bm SL SP S0 S1) (hlo : lo ≤ w.heap.size) (hsd : seed < 18446744073709551616) (hrl : r0.length + r1.length ≤ 1100) (hnl : n ≤ 1100) {i : Nat} (hi : i < L.length) (hp : pureAt seed L i = true) (hc : ¬ (L.getD i default).n = 1) {x : Sm} (hx : (L.getD i default).key = x) :
    RetT Tryz.prog 32 #[.pointer (some ⟨gp, 0, none⟩), .int .i64 (i : Int)] w fun u w' => u = .bool (!decide (x ∈ S)) ∧ Below lo w w' ∧ ∃ v' S', PeelMem w' gp seed sL sP bm v' s1 (tput seed L x (1)) (pureB seed (tput seed L x (1))) (x :: S) (r0 ++ [x]) r1 SL SP S' S1 (n + 1) ∧ PeelOwn lo gp bm SL SP S' S1 := by
  have hen : Enters Tryz.prog 30 := fun args w => by kernel_rfl
  have hPu := pure_ty (L.getD i default)
  unfold pureAt at hp
  simp only [Bool.and_eq_true] at hp
  have hsum : (L.getD i default).sum = x := (Cl.sum_ok hp.1).trans hx
  have hplus : (L.getD i default).plus = false := by unfold Cl.plus; rw [hp.1, Bool.true_and]; exact decide_eq_false hc
  rw [hsum, hplus, hp.1] at hPu
  clear hp hsum hplus
  have hPp := places_ty seed (L.length : Int) x hsd
  have hPl3 := placesN_len3 seed (L.length : Int) x
  have hPd : ∀ j, j < (placesN seed (L.length : Int) x).length → (placesN seed (L.length : Int) x).getD j 0 < L.length := fun j hj => places_lt seed L.length x _ (getD_mem hj)
  have hput : tput seed L x (1) = (placesN seed (L.length : Int) x).foldl (fun L i => tputAt L i x (1)) L := rfl
  rw [hput]
  clear hput
  generalize placesN seed (L.length : Int) x = PL at *
  refine enter_ty 94 [Ty.ex (.pointer (some ⟨gp, 0, none⟩)), Ty.ex (.int .i64 (i : Int))] Tryz.func32 rfl (by kernel_rfl) ⟨rfl, rfl, trivial⟩ fun a hF => ?_
  have hB := Below.refl w.heap.size w
  repeat with_reducible refine wp_seq ?_
  refine' reg_all hF ?_ mixed (by kernel_rfl) ?_
  rotate_left
  · repeat (first | exact Line.nil | ((refine' Line.cons rfl (.run rfl rfl ?_) ?_); (any_goals exact cAssign rfl rfl); rotate_left))
  intro a w0 hF hb hN
  have hBs := hB.size
  replace hB := hB.trans (hb.mono hB.size)
  dsimp only [ext, Option.getD] at hF
  repeat with_reducible first | refine wp_seq ?_ | refine nThen ?_
  refine wp_region_lit ?_
  refine' tlOp hF rfl rfl rfl ?_ ?_
  rotate_left
  · exact cMove rfl rfl
  intro a w1 hF hb
  have hBs := hB.size
  replace hB := hB.trans (hb.mono hB.size)
  try (refine wpList_nil ?_)
  refine' tlOp hF rfl rfl rfl ?_ ?_
  rotate_left
  · exact cNilOk rfl rfl
  intro a w2 hF hb
  have hBs := hB.size
  replace hB := hB.trans (hb.mono hB.size)
  try (refine wpList_nil ?_)
  refine' tlOp hF rfl rfl rfl ?_ ?_
  rotate_left
  · exact cPeelT rfl (.l rfl (h.below hB).at_)
  intro a w3 hF hb
  have hBs := hB.size
  replace hB := hB.trans (hb.mono hB.size)
  try (refine wpList_nil ?_)
  refine' tlOp hF rfl rfl rfl ?_ ?_
  rotate_left
  · exact cFldLx rfl (.t rfl)
  intro a w4 hF hb
  have hBs := hB.size
  replace hB := hB.trans (hb.mono hB.size)
  try (refine wpList_nil ?_)
  refine' tlOp hF rfl rfl rfl ?_ ?_
  rotate_left
  · exact cLoad1 (u := sL) rfl (.t rfl) (pts_at _ _) Tryz.underlying24 rfl
  intro a w5 hF hb
  have hBs := hB.size
  replace hB := hB.trans (hb.mono hB.size)
  try (refine wpList_nil ?_)
  replace hF := hF.as hF (s := 18) (σ := Ty.cls 41 L) rfl (fun v hv => by rw [show v = sL from hv]; exact (h.below hB).tab.sl)
  refine' tlOp hF rfl rfl rfl ?_ ?_
  rotate_left
  · exact cMove rfl rfl
  intro a w6 hF hb
  have hBs := hB.size
  replace hB := hB.trans (hb.mono hB.size)
  try (refine wpList_nil ?_)
  refine' tlOp hF rfl rfl rfl ?_ ?_
  rotate_left
  · exact cIndexCl (k := i) rfl (.t rfl) rfl Tryz.underlying24 info34 hi
  intro a w7 hF hb
  have hBs := hB.size
  replace hB := hB.trans (hb.mono hB.size)
  try (refine wpList_nil ?_)
  refine' tlOp hF rfl rfl rfl ?_ ?_
  rotate_left
  · exact cLoadCl34 rfl (.t rfl)
  intro a w8 hF hb
  have hBs := hB.size
  replace hB := hB.trans (hb.mono hB.size)
  try (refine wpList_nil ?_)
  refine' tlOp hF rfl rfl rfl ?_ ?_
  rotate_left
  · exact cCall1 rfl rfl hPu
  intro a w9 hF hb
  have hBs := hB.size
  replace hB := hB.trans (hb.mono hB.size)
  try (refine wpList_nil ?_)
  refine' tlOp hF rfl rfl rfl ?_ ?_
  rotate_left
  · exact cMove rfl rfl
  intro a w10 hF hb
  have hBs := hB.size
  replace hB := hB.trans (hb.mono hB.size)
  try (refine wpList_nil ?_)
  refine' tlOp hF rfl rfl rfl ?_ ?_
  rotate_left
  · exact cExtV rfl rfl rfl
  intro a w11 hF hb
  have hBs := hB.size
  replace hB := hB.trans (hb.mono hB.size)
  try (refine wpList_nil ?_)
  refine' tlOp hF rfl rfl rfl ?_ ?_
  rotate_left
  · exact cExtV rfl rfl rfl
  intro a w12 hF hb
  have hBs := hB.size
  replace hB := hB.trans (hb.mono hB.size)
  try (refine wpList_nil ?_)
  refine' tlOp hF rfl rfl rfl ?_ ?_
  rotate_left
  · exact cExtV rfl rfl rfl
  intro a w13 hF hb
  have hBs := hB.size
  replace hB := hB.trans (hb.mono hB.size)
  try (refine wpList_nil ?_)
  have hw13 := hB.size
  refine' tlOp hF rfl rfl rfl ?_ ?_
  rotate_left
  · exact cAllocN rfl (run_alloc_i infoS)
  intro a w14 hF hb
  have hBs := hB.size
  replace hB := hB.trans (hb.mono hB.size)
  try (refine wpList_nil ?_)
  obtain ⟨z, ⟨g5, rfl, hg5, hb5⟩, hF⟩ := hF.open (s := 5) rfl
  have hg5 : w13.heap.size ≤ g5 := hg5
  refine tlStoreV (Δ := [(0, Ty.ex (.pointer (some ⟨gp, 0, none⟩))), (5, Ty.ex (.pointer (some ⟨g5, 0, none⟩))), (24, Ty.ex (.bool false)), (25, Ty.ex (.bool true))]) hF rfl rfl rfl rfl (hF.getEx (s := 23) rfl) hb5 (sumSz _) (by show _ = some (u8s _).size; rw [Sm.size]; exact sizeS) (u8s_one _) (hF.keep [0, 5, 24, 25]) rfl ?_
  intro w15 hF hb5' hkx
  replace hB := below_own hB hkx (by intro y hy; simp only [List.mem_singleton] at hy; omega)
  replace hb5 : Blk w15 g5 36 (u8s x.l) := hb5'
  clear hb5' hkx
  refine' tlOp hF rfl rfl rfl ?_ ?_
  rotate_left
  · exact cAssign rfl rfl
  intro a w16 hF hb
  have hBs := hB.size
  replace hB := hB.trans (hb.mono hB.size)
  try (refine wpList_nil ?_)
  replace hb5 := hb5.below hb
  refine' tlOp hF rfl rfl rfl ?_ ?_
  rotate_left
  · exact cAssign rfl rfl
  intro a w17 hF hb
  have hBs := hB.size
  replace hB := hB.trans (hb.mono hB.size)
  try (refine wpList_nil ?_)
  repeat with_reducible first | refine wp_seq ?_ | refine nThen ?_
  replace hb5 := hb5.below hb
  refine' reg_all hF ?_ mixed (by kernel_rfl) ?_
  rotate_left
  · repeat (first | exact Line.nil | ((refine' Line.cons rfl (.run rfl rfl ?_) ?_); (any_goals exact cAssign rfl rfl); rotate_left))
  intro a w18 hF hb hN
  have hBs := hB.size
  replace hB := hB.trans (hb.mono hB.size)
  dsimp only [ext, Option.getD] at hF
  repeat with_reducible first | refine wp_seq ?_ | refine nThen ?_
  replace hb5 := hb5.below hb
  refine' reg_all hF ?_ mixed (by kernel_rfl) ?_
  rotate_left
  · repeat (first | exact Line.nil | ((refine' Line.cons rfl (.run rfl rfl ?_) ?_); (any_goals exact cMove rfl rfl); rotate_left))
  intro a w19 hF hb hN
  have hBs := hB.size
  replace hB := hB.trans (hb.mono hB.size)
  dsimp only [ext, Option.getD] at hF
  repeat with_reducible refine nThen ?_
  replace hb5 := hb5.below hb
  refine cond_f hF rfl ?_
  repeat with_reducible first | refine wp_seq ?_ | refine nThen ?_ | refine wp_skip ?_
  skip
  skip
  have hq := h.below hB
  have hat := hq.at_
  have h5 := at5 hb5
  have hg5w : w.heap.size ≤ g5 := by omega
  refine' region_ev 13 10 [2, 3, 4, 5, 6, 7, 8, 9, 10] (dp := 37) (fun v' w' => Keeps S0 w19 w' ∧ ∃ S', Seg w' 36 32 v' (r0.length + 1) (flat r0 ++ flat [x]) S' ∧ ∀ b ∈ S', b ∈ S0 ∨ w19.heap.size ≤ b) mixed (by kernel_rfl) rfl hF ?_ ?_
  rotate_left
  · simp only [List.take_succ_cons, List.take_zero]
    refine' LineE.float rfl rfl ?_ ?_
    any_goals exact fMove rfl rfl rfl
    rotate_left
    refine' LineE.float rfl rfl ?_ ?_
    any_goals exact fMove rfl rfl rfl
    rotate_left
    refine' LineE.cons rfl rfl rfl (.run rfl rfl ?_) ?_
    any_goals exact cMove rfl rfl
    rotate_left
    refine' LineE.cons rfl rfl rfl (.run rfl rfl ?_) ?_
    any_goals exact cMove rfl rfl
    rotate_left
    refine' LineE.cons rfl rfl rfl (.run rfl rfl ?_) ?_
    any_goals exact cNilOk rfl rfl
    rotate_left
    refine' LineE.cons rfl rfl rfl (.run rfl rfl ?_) ?_
    any_goals exact cPeelR rfl (.l rfl hat)
    rotate_left
    refine' LineE.cons rfl rfl rfl (.run rfl rfl ?_) ?_
    any_goals exact cIndexArr (k := 0) rfl (.t rfl) rfl Tryz.underlying86 sizeSS1 (by decide)
    rotate_left
    refine' LineE.cons rfl rfl rfl (.run rfl rfl ?_) ?_
    any_goals exact cLoad1 (u := s0) rfl (.t rfl) (pts_at _ _) Tryz.underlying31 rfl
    rotate_left
    refine' LineE.cons rfl rfl rfl (.run rfl rfl ?_) ?_
    any_goals exact cLoadSum rfl (.l rfl h5) Tryz.underlying36 sizeS
    rotate_left
    refine' LineE.cons rfl rfl rfl (.run rfl rfl ?_) ?_
    any_goals exact cBuildSums [x] rfl (parts1v rfl rfl) Tryz.underlying31 infoS rfl
    rotate_left
    refine' LineE.event rfl rfl rfl ?_ ?_
    any_goals exact evAppend (m := 1) (news := flat [x]) rfl rfl Tryz.underlying31 infoS zero32_size hq.minus (.t rfl) sl_news (flat_len _) flat_one' (by simp [maxLen]; omega) (by omega)
    rotate_left
    refine' LineE.float rfl rfl ?_ ?_
    any_goals exact fNil rfl rfl rfl
    rotate_left
    refine' LineE.float rfl rfl ?_ ?_
    any_goals exact fField rfl rfl rfl (fieldR gp 0)
    rotate_left
    exact LineE.nil
  intro a W hsz hdf v' hv37 ⟨hk, S', hseg, hS'⟩ hX
  simp only [List.take_succ_cons, List.take_zero, List.drop_succ_cons, List.drop_zero] at hX ⊢
  dsimp only [ext, Option.getD] at hX
  have hF : Fr 94 [(0, Ty.ex (.pointer (some ⟨gp, 0, none⟩))), (5, Ty.ex (.pointer (some ⟨g5, 0, none⟩))), (9, Ty.ex (.func (.func 21) #[] #[])), (28, Ty.ex (.int .i64 0)), (37, Ty.ex v'), (39, Ty.ex (.pointer (some ⟨gp, 0 + 4, none⟩)))] a W := ((((((Fr.bare hsz hdf).letter (hX 39 _ rfl)).letter hv37).letter (hX 28 _ rfl)).letter (hX 9 _ rfl)).letter (hX 5 _ rfl)).letter (hX 0 _ rfl)
  rw [← flat_append] at hseg
  have hOS : ∀ y ∈ S', lo ≤ y := fun y hy => (hS' y hy).elim (ho.minus y) fun h => Nat.le_trans (Nat.le_trans hlo hB.size) h
  have hL : Below lo w W := below_lo (hB.mono hlo) hlo hk ho.minus
  have hg5n : g5 ∉ S0 := fun hm => by have := h.minus.lt g5 hm; omega
  replace hb5 := hb5.keeps hk hg5n
  have hbp := hq.blk.keeps hk (blk_apart hq.minus hq.blk (by decide))
  have hB0 := hB
  replace hB := Below.refl W.heap.size W
  refine' tlOp hF rfl rfl rfl ?_ ?_
  rotate_left
  · exact cIndexArrEx (k := 0) rfl rfl rfl Tryz.underlying86 sizeSS1 (by decide)
  intro a w30 hF hb
  have hBs := hB.size
  replace hB := hB.trans (hb.mono hB.size)
  try (refine wpList_nil ?_)
  replace hseg := hseg.below hb
  replace hbp := hbp.below hb
  replace hb5 := hb5.below hb
  have hk30 := hk.trans (Keeps.of_below (S := S0) (hb.mono (Nat.le_refl _)))
  have hL30 : Below lo w w30 := hL.trans (hb.mono (Nat.le_trans hlo hL.size))
  have hc1 := sl_cells (seg_isA hseg)
  have ho1 := sl_one1 (seg_isA hseg)
  refine tlStoreF (k := 4 + 0) (v := v') (Δ := [(0, Ty.ex (.pointer (some ⟨gp, 0, none⟩))), (5, Ty.ex (.pointer (some ⟨g5, 0, none⟩))), (9, Ty.ex (.func (.func 21) #[] #[]))]) hF rfl rfl rfl rfl (hF.getEx (s := 37) rfl) hbp (by rw [hc1]; simp [peelCells]) (by rw [hc1]; exact sizeSS1) ho1 (hF.keep [0, 5, 9]) rfl ?_
  intro w31 hF hbp' hk31
  refine wpList_nil ?_
  rw [peel_cells0 hc1] at hbp'
  have hM := PeelMem.add0 hq hk30 hseg hS' hbp' hk31
  have hg5p : g5 ∉ [gp] := by simpa using hb5.ne hbp (by decide)
  replace hb5 := hb5.keeps hk31 hg5p
  have hL : Below lo w w31 := below_lo hL30 hlo hk31 (by intro y hy; simp only [List.mem_singleton] at hy; subst hy; exact ho.gp)
  clear hk30 hL30 hk31 hbp hbp' hseg hk hq hat h5 hB0 hB hX hb
  have hO : PeelOwn lo gp bm SL SP S' S1 := ⟨ho.gp, ho.bm, ho.tab, ho.pure, hOS, ho.plus⟩
  have hB := Below.refl w31.heap.size w31
  have hat := hM.at_
  have hsL := hM.tab.sl
  have h5 := at5 hb5
  repeat with_reducible first | refine wp_seq ?_ | refine nThen ?_
  refine' reg_all hF ?_ mixed (by kernel_rfl) ?_
  rotate_left
  · repeat (first | exact Line.nil | ((refine' Line.cons rfl (.run rfl rfl ?_) ?_); (any_goals (first | exact cMove rfl rfl | exact cNilOk rfl rfl | exact cPeelT rfl (.l rfl hat) | exact cFldSx rfl (.t rfl) | exact cLoadU64 rfl (.t rfl) | exact cFldLx rfl (.t rfl) | exact cLoad1 (u := sL) rfl (.t rfl) (pts_at _ _) Tryz.underlying24 rfl | exact cLenH rfl (.l rfl hsL) (Ty.sl_isSl _ _ _) Tryz.underlying24 | exact cLoadSum rfl (.l rfl h5) Tryz.underlying36 sizeS | exact cCall3 rfl rfl rfl rfl hPp | exact cLen rfl rfl (Ty.sl_isSl _ _ _) Tryz.underlying23)); rotate_left))
  intro a w32 hF hb hN
  have hBs := hB.size
  replace hB := hB.trans (hb.mono hB.size)
  dsimp only [ext, Option.getD] at hF
  repeat with_reducible first | refine nThen ?_ | refine wp_block ?_
  replace hM := hM.below hb
  replace hb5 := hb5.below hb
  obtain ⟨v53, hv53, hF⟩ := hF.open (s := 53) rfl
  refine loop_ty (fun m a wr => ∃ j : Nat, j + m = PL.length ∧ Fr 94 [(0, Ty.ex (.pointer (some ⟨gp, 0, none⟩))), (5, Ty.ex (.pointer (some ⟨g5, 0, none⟩))), (9, Ty.ex (.func (.func 21) #[] #[])), (53, Ty.ex v53), (54, Ty.ex (.int .i64 (PL.length : Int))), (55, Ty.ex (.int .i64 (j : Int)))] a wr ∧ Below lo w wr ∧ PeelMem wr gp seed sL sP bm v' s1 ((PL.take j).foldl (fun L i => tputAt L i x (1)) L) (pureB seed ((PL.take j).foldl (fun L i => tputAt L i x (1)) L)) S (r0 ++ [x]) r1 SL SP S' S1 n ∧ Blk wr g5 36 (u8s x.l) ∧ (Ty.sl 3 PL.length (PL.map ivn)).p wr v53) PL.length ?_ ?_
  · exact ⟨0, by omega, hF.keep [0, 5, 9, 53, 54, 55], hL.trans (hb.mono (Nat.le_trans hlo hL.size)), hM, hb5, hv53⟩
  clear hF hB hL hM hb5 hv53 hat hsL h5 hb hBs
  rintro m a wr ⟨j, hj, hF, hL, hM, hb5, hv53⟩
  have hB := Below.refl wr.heap.size wr
  repeat with_reducible refine wp_seq ?_
  refine' reg_all hF ?_ mixed (by kernel_rfl) ?_
  rotate_left
  · repeat (first | exact Line.nil | ((refine' Line.cons rfl (.run rfl rfl ?_) ?_); (any_goals exact cLss rfl rfl rfl); rotate_left))
  intro a w40 hF hb hN
  have hBs := hB.size
  replace hB := hB.trans (hb.mono hB.size)
  dsimp only [ext, Option.getD] at hF
  repeat with_reducible first | refine wp_seq ?_ | refine nThen ?_
  have hL40 : Below lo w w40 := hL.trans (hb.mono (Nat.le_trans hlo hL.size))
  replace hM := hM.below hb
  replace hb5 := hb5.below hb
  replace hv53 : (Ty.sl 3 PL.length (PL.map ivn)).p w40 v53 := (Ty.sl 3 PL.length (PL.map ivn)).below hv53 hb
  refine cond_ty hF rfl (fun hlt => ?_) (fun hge => ?_)
  · have hlt : j < PL.length := by have := of_decide_eq_true hlt; omega
    have hi := hPd j hlt
    have hfs := fold_snoc PL hlt L x (1)
    have hd1 := ivn_drop hlt
    have hFl : ((PL.take j).foldl (fun L i => tputAt L i x (1)) L).length = L.length := by rw [foldAt_len]
    generalize (PL.take j).foldl (fun L i => tputAt L i x (1)) L = R at *
    generalize PL.getD j 0 = i2 at *
    repeat with_reducible first | refine wp_seq ?_ | refine nThen ?_ | refine wp_skip ?_ | refine wp_block ?_
    refine' reg_all hF ?_ mixed (by kernel_rfl) ?_
    rotate_left
    · repeat (first | exact Line.nil | ((refine' Line.cons rfl (.run rfl rfl ?_) ?_); (any_goals (first | exact cAssign rfl rfl | exact cIndexS (k := j) (sz := 1) rfl (.l rfl hv53) rfl Tryz.underlying23 sizeI hlt (by rw [List.length_map]; omega) | exact cLoad1 (u := ivn i2) rfl (Has.c (.t rfl) (fun W v h => by rw [Nat.mul_one, hd1] at h; exact h)) (pts_at _ _) Tryz.underlying3 rfl)); rotate_left))
    intro a w41 hF hb hN
    have hBs := hB.size
    replace hB := hB.trans (hb.mono hB.size)
    dsimp only [ext, Option.getD] at hF
    repeat with_reducible first | refine wp_seq ?_ | refine nThen ?_
    replace hM := hM.below hb
    replace hb5 := hb5.below hb
    replace hv53 : (Ty.sl 3 PL.length (PL.map ivn)).p w41 v53 := (Ty.sl 3 PL.length (PL.map ivn)).below hv53 hb
    have hL41 : Below lo w w41 := hL40.trans (hb.mono (Nat.le_trans hlo hL40.size))
    obtain ⟨g, off, cap, eu, eS, hsl⟩ : ∃ g off cap, sL = .slice (some ⟨g, off, none⟩) R.length cap ∧ SL = [g] ∧ SegL w41 41 65 g off R.length cap (flatC R) := by
      rcases hM.tab.cases with ⟨_, h0, _⟩ | h
      · omega
      · exact h
    have hat := hM.at_
    rw [eu] at hat
    have h5 := at5 hb5
    have hcell := cell_at hsl (i := i2) (by omega)
    have hiR : i2 < R.length := by omega
    refine' region_ty 18 mixed (by kernel_rfl) hF ?_ ?_
    rotate_left
    · simp only [List.take_succ_cons, List.take_zero]
      repeat (first | exact Line.nil | ((refine' Line.cons rfl (.run rfl rfl ?_) ?_); (any_goals (first | exact cMove rfl rfl | exact cNilOk rfl rfl | exact cPeelT rfl (.l rfl hat) | exact cFldLx rfl (.t rfl) | exact cLoad1 (u := .slice (some ⟨g, off, none⟩) R.length cap) rfl (.t rfl) (pts_at _ _) Tryz.underlying24 rfl | exact cIndexEx (k := i2) (sz := 65) rfl rfl rfl Tryz.underlying24 info34 hiR | exact cLoadCl34 rfl (.l rfl hcell) | exact cLoadSum rfl (.l rfl h5) Tryz.underlying36 sizeS | exact cCallV2 rfl rfl (.t rfl) (.t rfl) (put_ty _ _))); rotate_left))
    intro a w42 hF hb hN
    have hBs := hB.size
    replace hB := hB.trans (hb.mono hB.size)
    simp only [List.take_succ_cons, List.take_zero, List.drop_succ_cons, List.drop_zero] at hF hN ⊢
    dsimp only [ext, Option.getD] at hF
    replace hM := hM.below hb
    replace hb5 := hb5.below hb
    replace hv53 : (Ty.sl 3 PL.length (PL.map ivn)).p w42 v53 := (Ty.sl 3 PL.length (PL.map ivn)).below hv53 hb
    have hL42 : Below lo w w42 := hL41.trans (hb.mono (Nat.le_trans hlo hL41.size))
    replace hsl := hsl.below hb
    refine tlStoreAt (Δ := [(0, Ty.ex (.pointer (some ⟨gp, 0, none⟩))), (5, Ty.ex (.pointer (some ⟨g5, 0, none⟩))), (9, Ty.ex (.func (.func 21) #[] #[])), (11, Ty.ex (ivn i2)), (53, Ty.ex v53), (54, Ty.ex (.int .i64 (PL.length : Int))), (55, Ty.ex (.int .i64 (j : Int)))]) (k := i2 * 65) hF rfl rfl rfl rfl rfl hsl (by rw [Cl.size]; omega) (by rw [Cl.size]; exact info34) (Cl.one _) (hF.keep [0, 5, 9, 11, 53, 54, 55]) rfl ?_
    intro w43 hF hsl hk43
    refine wpList_nil ?_
    rw [show ((R.getD i2 default).put x (1)).a.toList = ((R.getD i2 default).put x (1)).enc from rfl, over_flatC _ _ (by omega)] at hsl
    rw [show R.set i2 ((R.getD i2 default).put x (1)) = tputAt R i2 x (1) from rfl] at hsl
    have hl2 : (tputAt R i2 x (1)).length = R.length := tputAt_len _ _ _ _
    have hgS : ∀ y ∈ [g], lo ≤ y := by rw [← eS]; exact ho.tab
    have hL43 : Below lo w w43 := below_lo hL42 hlo hk43 hgS
    replace hv53 := (Ty.sl 3 PL.length (PL.map ivn)).keepSeg hv53 (by rw [eS]; exact hk43) hM.tab rfl
    have hg5g : g5 ∉ [g] := by
      have := blk_apart hM.tab hb5 (by decide)
      rwa [eS] at this
    replace hb5 := hb5.keeps hk43 hg5g
    have hM2 := hM.cell eS eu hl2 hk43 hsl
    clear hM hsl hcell hat h5
    replace hB := Below.refl w43.heap.size w43
    repeat with_reducible refine nThen ?_
    refine' region_ty 2 mixed (by kernel_rfl) hF ?_ ?_
    rotate_left
    · simp only [List.take_succ_cons, List.take_zero]
      repeat (first | exact Line.nil | ((refine' Line.cons rfl (.run rfl rfl ?_) ?_); (any_goals exact cMove rfl rfl); rotate_left))
    intro a w44 hF hb hN
    have hBs := hB.size
    replace hB := hB.trans (hb.mono hB.size)
    simp only [List.take_succ_cons, List.take_zero, List.drop_succ_cons, List.drop_zero] at hF hN ⊢
    dsimp only [ext, Option.getD] at hF
    have hM44 := hM2.below hb
    replace hb5 := hb5.below hb
    replace hv53 : (Ty.sl 3 PL.length (PL.map ivn)).p w44 v53 := (Ty.sl 3 PL.length (PL.map ivn)).below hv53 hb
    have hL44 : Below lo w w44 := hL43.trans (hb.mono (Nat.le_trans hlo hL43.size))
    have hlk := look_any hM44 (by rw [pureB_len, hl2]) hsd (i := i2) (by rw [hl2]; exact hiR)
    rw [pureB_set x (1) hiR, ← hfs] at hlk
    refine tlCall rfl rfl rfl (args := #[.pointer (some ⟨gp, 0, none⟩), ivn i2]) ?_ hen (R := fun u w' => PeelMem w' gp seed sL sP bm v' s1 ((PL.take (j + 1)).foldl (fun L i => tputAt L i x (1)) L) (pureB seed ((PL.take (j + 1)).foldl (fun L i => tputAt L i x (1)) L)) S (r0 ++ [x]) r1 SL SP S' S1 n ∧ Keeps SP w44 w') ?_ ?_
    · simp only [List.map_toArray, List.map_cons, List.map_nil, hF.getEx (s := 77) rfl, hF.getEx (s := 78) rfl]
    · exact hlk.mono fun e w' ⟨h1, h2, h3⟩ => ⟨_, h1, h2, h3⟩
    rintro z w45 ⟨hM, hk45⟩
    have hF := ((hF.keep [0, 5, 9, 53, 54, 55]).keepSeg hk45 hM44.pure rfl).put (d := 79) (by decide) (Below.refl _ _) (V := Ty.ex z) rfl
    have hL45 : Below lo w w45 := below_lo hL44 hlo hk45 ho.pure
    replace hv53 := (Ty.sl 3 PL.length (PL.map ivn)).keepSeg hv53 hk45 hM44.pure rfl
    replace hb5 := hb5.keeps hk45 (blk_apart hM44.pure hb5 (by decide))
    replace hB := Below.refl w45.heap.size w45
    refine wpList_nil ?_
    repeat with_reducible first | refine nThen ?_ | refine nBlk ?_
    refine' reg_all hF ?_ mixed (by kernel_rfl) ?_
    rotate_left
    · repeat (first | exact Line.nil | ((refine' Line.cons rfl (.run rfl rfl ?_) ?_); (any_goals (first | exact cMove rfl rfl | exact cAdd (r := ((j + 1 : Nat) : Int)) rfl rfl rfl (by omega))); rotate_left))
    intro a w46 hF hb hN
    have hBs := hB.size
    replace hB := hB.trans (hb.mono hB.size)
    dsimp only [ext, Option.getD] at hF
    repeat with_reducible refine nThen ?_
    exact ⟨m - 1, by omega, j + 1, by omega, hF.keep [0, 5, 9, 53, 54, 55], hL45.trans (hb.mono (Nat.le_trans hlo hL45.size)), hM.below hb, hb5.below hb, (Ty.sl 3 PL.length (PL.map ivn)).below hv53 hb⟩
  have hge : ¬ j < PL.length := by have := of_decide_eq_false hge; omega
  obtain rfl : j = PL.length := by omega
  rw [List.take_of_length_le (Nat.le_refl _)] at hM
  generalize PL.foldl (fun L i => tputAt L i x (1)) L = R at *
  clear hv53
  have hat := hM.at_
  have h5 := at5 hb5
  have hmp : (Ty.mapS bm n S).p w40 (.map (some bm)) := ⟨rfl, hM.had⟩
  replace hB := Below.refl w40.heap.size w40
  repeat with_reducible first | refine wp_seq ?_ | refine nThen ?_ | refine wp_exit ?_ | refine xThen ?_ | refine xHere ?_
  refine' reg_all hF ?_ mixed (by kernel_rfl) ?_
  rotate_left
  · repeat (first | exact Line.nil | ((refine' Line.cons rfl (.run rfl rfl ?_) ?_); (any_goals (first | exact cMove rfl rfl | exact cAssign rfl rfl | exact cNilOk rfl rfl | exact cPeelM rfl (.l rfl hat) | exact cLoad1 (u := .map (some bm)) rfl (.t rfl) (pts_at _ _) Tryz.underlying85 rfl | exact cLoadSum rfl (.l rfl h5) Tryz.underlying36 sizeS | exact cLookS rfl (.l rfl hmp) rfl)); rotate_left))
  intro a w50 hF hb hN
  have hBs := hB.size
  replace hB := hB.trans (hb.mono hB.size)
  dsimp only [ext, Option.getD] at hF
  repeat with_reducible first | refine wp_seq ?_ | refine nThen ?_
  replace hM := hM.below hb
  have h5 := at5 (hb5.below hb)
  have hat := hM.at_
  refine' region_ty 5 mixed (by kernel_rfl) hF ?_ ?_
  rotate_left
  · simp only [List.take_succ_cons, List.take_zero]
    repeat (first | exact Line.nil | ((refine' Line.cons rfl (.run rfl rfl ?_) ?_); (any_goals (first | exact cMove rfl rfl | exact cNilOk rfl rfl | exact cPeelM rfl (.l rfl hat) | exact cLoad1 (u := .map (some bm)) rfl (.t rfl) (pts_at _ _) Tryz.underlying85 rfl | exact cLoadSum rfl (.l rfl h5) Tryz.underlying36 sizeS)); rotate_left))
  intro a w51 hF hb hN
  have hBs := hB.size
  replace hB := hB.trans (hb.mono hB.size)
  simp only [List.take_succ_cons, List.take_zero, List.drop_succ_cons, List.drop_zero] at hF hN ⊢
  dsimp only [ext, Option.getD] at hF
  replace hM := hM.below hb
  have hL51 : Below lo w w51 := hL40.trans (hB.mono (Nat.le_trans hlo hL40.size))
  refine tlMapPut rfl rfl rfl (hF.getEx (s := 90) rfl) (hF.getEx (s := 91) rfl) rfl hM.had (by simp [maxLen]; omega) ?_
  intro w52 hmap hk52
  have hM := hM.seen hk52 hmap
  have hF := (hF.keep [12]).exs (w' := w52) (exs_cons exs_nil)
  have hL52 : Below lo w w52 := below_lo hL51 hlo hk52 (by intro y hy; simp only [List.mem_singleton] at hy; subst hy; exact ho.bm)
  replace hB := Below.refl w52.heap.size w52
  refine wpList_nil ?_
  repeat with_reducible first | refine wp_seq ?_ | refine nThen ?_
  refine' reg_all hF ?_ mixed (by kernel_rfl) ?_
  rotate_left
  · repeat (first | exact Line.nil | ((refine' Line.cons rfl (.run rfl rfl ?_) ?_); (any_goals (first | exact cMove rfl rfl | exact cAssign rfl rfl | exact cNot rfl rfl)); rotate_left))
  intro a w53 hF hb hN
  have hBs := hB.size
  replace hB := hB.trans (hb.mono hB.size)
  dsimp only [ext, Option.getD] at hF
  repeat with_reducible first | refine nThen ?_ | refine wp_ret ?_
  refine ret1 hF rfl rfl fun z hz => ?_
  exact ⟨z, rfl, hz, hL52.trans (hb.mono (Nat.le_trans hlo hL52.size)), v', S', hM.below hb, hO⟩
end Go.Proofs.YtmlbkcpmgcjblaaGreat

/- peel.All by types: what it makes and tells. -/
namespace Go.Proofs.YtmlbkcpmgcjblaaGreat
open Go.RowKit

abbrev nilS : Value := .slice none 0 0
abbrev ResT : TypeId := 47
theorem infoRes : (Tryz.prog.info? ResT).map (fun i => (i.zero, i.size, i.bytes)) = some (some (.agg #[nilS, nilS, .int .u64 0, nilS]), 4, 80) := by kernel_rfl
theorem sizeRes : (Tryz.prog.info? ResT).map (·.size) = some 4 := by kernel_rfl
theorem buildR0 (w : World) : (Instr.build ResT #[]).run Tryz.prog w = .ok (.agg #[nilS, nilS, .int .u64 0, nilS]) w := by kernel_rfl
theorem buildSL2 (w : World) : (Instr.build SL2 #[]).run Tryz.prog w = .ok (.agg #[nilS, nilS]) w := by kernel_rfl
theorem buildRL (n : Int) {s : Value} (hs : ∃ A l c, s = .slice A l c) (w : World) : (Instr.build ResT #[(2, .agg #[.int .u64 n, s])]).run Tryz.prog w = .ok (.agg #[nilS, nilS, .int .u64 n, s]) w := by
  obtain ⟨A, l, c, rfl⟩ := hs
  have hz : (zeroValue ResT).run Tryz.prog w = .ok (.agg #[nilS, nilS, .int .u64 0, nilS]) w := by kernel_rfl
  have hu := run_underlying Tryz.underlying47 w
  simp only [Instr.build, Sem.run_bind, hz, Result.andThen_ok, hu]
  simp [Instr.fill, Value.cells]
theorem buildR (n : Int) {p q s : Value} (hp : ∃ A l c, p = .slice A l c) (hq : ∃ A l c, q = .slice A l c) (hs : ∃ A l c, s = .slice A l c) (w : World) : (Instr.build ResT #[(0, p), (1, q), (2, .agg #[.int .u64 n, s])]).run Tryz.prog w = .ok (.agg #[p, q, .int .u64 n, s]) w := by
  obtain ⟨A, l, c, rfl⟩ := hs
  obtain ⟨A1, l1, c1, rfl⟩ := hp
  obtain ⟨A2, l2, c2, rfl⟩ := hq
  have hz : (zeroValue ResT).run Tryz.prog w = .ok (.agg #[nilS, nilS, .int .u64 0, nilS]) w := by kernel_rfl
  have hu := run_underlying Tryz.underlying47 w
  have h2 := Tryz.sizeOf32 w
  simp only [Instr.build, Sem.run_bind, hz, Result.andThen_ok, hu]
  simp [h2, Instr.fill, Value.cells]
theorem buildPeel (n : Nat) (b : Nat) {s q : Value} (hs : ∃ A l c, s = .slice A l c) (hq : ∃ A l c, q = .slice A l c) (w : World) : (Instr.build PeelT #[(0, .agg #[.int .u64 (n : Int), s]), (1, q), (2, .map (some b)), (3, .agg #[nilS, nilS])]).run Tryz.prog w = .ok (.agg (peelCells n s q b nilS nilS).toArray) w := by
  obtain ⟨A, l, c, rfl⟩ := hs
  obtain ⟨A1, l1, c1, rfl⟩ := hq
  have hz : (zeroValue PeelT).run Tryz.prog w = .ok (.agg #[.int .u64 0, nilS, nilS, .map none, nilS, nilS]) w := by kernel_rfl
  have hu := run_underlying Tryz.underlying88 w
  have h1 := Tryz.sizeOf27 w
  simp only [Instr.build, Sem.run_bind, hz, Result.andThen_ok, hu]
  simp [h1, Instr.fill, Value.cells, peelCells]
/-- A result, as it reads. -/
def Ty.res (P M : List Sm) (sd : Nat) (L : List Cl) : Ty := ⟨fun w v => ∃ p q s, v = .agg #[p, q, .int .u64 (sd : Int), s] ∧ SlP w 36 p P.length (flat P) ∧ SlP w 36 q M.length (flat M) ∧ SlP w 41 s L.length (flatC L), fun t => t == 36 || t == 41, fun {w w' v G} ⟨p, q, s, h1, h2, h3, h4⟩ k hA => by
  have a1 : Apart w G (fun t => t == 36) := fun b hb hl => let ⟨cs, t, fr, k1, k2⟩ := hA b hb hl; ⟨cs, t, fr, k1, by simp only [Bool.or_eq_false_iff] at k2; exact k2.1⟩
  have a2 : Apart w G (fun t => t == 41) := fun b hb hl => let ⟨cs, t, fr, k1, k2⟩ := hA b hb hl; ⟨cs, t, fr, k1, by simp only [Bool.or_eq_false_iff] at k2; exact k2.2⟩
  exact ⟨p, q, s, h1, (Ty.sums 36 P).st h2 k a1, (Ty.sums 36 M).st h3 k a1, (Ty.cls 41 L).st h4 k a2⟩⟩
/-- Blocks of a type that is hung upon stand. -/
theorem Seg.keepA {w w' : World} {e : TypeId} {sz n : Nat} {v : Value} {xs : List Value} {S G : List Nat} {el : TypeId → Bool} (h : Seg w e sz v n xs S) (k : Keeps G w w') (hA : Apart w G el) (he : el e = true) : Seg w' e sz v n xs S := h.keeps k fun y hy hm => by
  obtain ⟨cs, fr, k1⟩ := h.blocks y hy (h.lt y hy)
  obtain ⟨cs', t, fr', k2, k3⟩ := hA y hm (h.lt y hy)
  rw [k1] at k2
  simp only [Option.some.injEq, Obj.cells.injEq] at k2
  rw [← k2.2.1, he] at k3
  cases k3
theorem MapIs.keepA {w w' : World} {b n : Nat} {S : List Sm} {G : List Nat} {el : TypeId → Bool} (h : MapIs w b n S) (k : Keeps G w w') (hA : Apart w G el) : MapIs w' b n S := h.keeps k fun hm => by
  obtain ⟨cs, t, fr, h3, _⟩ := hA b hm h.lt
  obtain ⟨es, clock, h4⟩ := h.obj
  rw [h4] at h3
  cases h3
/-- A map of one's own, new. -/
def Ty.mapO (w0 : World) : Ty := ⟨fun w v => ∃ b, v = .map (some b) ∧ w0.heap.size ≤ b ∧ MapIs w b 0 [], fun _ => false, fun ⟨b, h1, h2, h3⟩ k hA => ⟨b, h1, h2, h3.keepA k hA⟩⟩
/-- A peeler's parts, as a value. -/
def Ty.peelV (w0 : World) (seed : Nat) (L : List Cl) : Ty := ⟨fun w v => ∃ s q b SL SP, v = .agg (peelCells seed s q b nilS nilS).toArray ∧ Seg w 41 65 s L.length (flatC L) SL ∧ Seg w 4 1 q L.length ((List.replicate L.length false).map bvl) SP ∧ MapIs w b 0 [] ∧ w0.heap.size ≤ b ∧ (∀ y ∈ SL, w0.heap.size ≤ y) ∧ ∀ y ∈ SP, w0.heap.size ≤ y, fun t => t == 41 || t == 4, fun ⟨s, q, b, SL, SP, h1, h2, h3, h4, h5, h6, h7⟩ k hA => ⟨s, q, b, SL, SP, h1, h2.keepA k hA (by simp), h3.keepA k hA (by simp), h4.keepA k hA, h5, h6, h7⟩⟩
def Ty.peelP (w0 : World) (seed : Nat) (L : List Cl) : Ty := ⟨fun w v => ∃ g s q b SL SP, v = .pointer (some ⟨g, 0, none⟩) ∧ PeelMem w g seed s q b nilS nilS L (List.replicate L.length false) [] [] [] SL SP [] [] 0 ∧ PeelOwn w0.heap.size g b SL SP [] [], fun t => t == PeelT || t == 41 || t == 4, fun {w w' v G} ⟨g, s, q, b, SL, SP, h1, h2, h3⟩ k hA => by
  refine ⟨g, s, q, b, SL, SP, h1, ⟨h2.blk.keeps k fun hm => ?_, h2.tab.keepA k hA (by simp), h2.pure.keepA k hA (by simp), h2.had.keepA k hA, h2.minus.keeps k (by simp), h2.plus.keeps k (by simp), h2.apart⟩, h3⟩
  obtain ⟨cs', t, fr', k2, k3⟩ := hA g hm h2.blk.lt
  have hb := h2.blk
  unfold Blk at hb
  rw [hb] at k2
  simp only [Option.some.injEq, Obj.cells.injEq] at k2
  rw [← k2.2.1] at k3
  simp at k3⟩
section
variable {w0 : World} {Γ : Ctx} {o : Oper}
theorem cMakeMapS (ho : o.op = .makeMap MapSB none) : OpOk Tryz.prog w0 Γ o (Ty.mapO w0) :=
  .new fun a w hb _ => ⟨.map (some w.heap.size), w.alloc (.map #[] 0), ⟨_, rfl, hb.size, MapIs.made w⟩, ((Keeps.refl [] w).alloc _).below, by
    unfold execOp
    simp only [ho]
    simp [run_makeSB]⟩
theorem infoBool : (Tryz.prog.info? 4).map (fun i => (i.zero, i.size, i.bytes)) = some (some (.bool false), 1, 1) := by kernel_rfl
theorem made_bools (n : Nat) : (madeCells (Value.bool false).cells (n * 1)).toList = (List.replicate n false).map bvl := by
  rw [Nat.mul_one]
  simp only [madeCells, Value.cells, bvl, List.map_replicate]
  refine List.eq_replicate_iff.2 ⟨by simp, fun b hb => ?_⟩
  simp only [Array.toList_map, Array.toList_range, List.mem_map] at hb
  obtain ⟨x, _, rfl⟩ := hb
  show #[Value.bool false][x % 1]! = Value.bool false
  rw [Nat.mod_one]; rfl
theorem run_makeBools {P : Program} {t e : TypeId} (n : Nat) (hn : n ≤ 1000000) (ht : P.underlying t = some (.slice e)) (hi : (P.info? e).map (fun i => (i.zero, i.size, i.bytes)) = some (some (.bool false), 1, 1)) (w : World) :
    (Instr.makeSlice t (.int .i64 (n : Int)) (.int .i64 (n : Int))).run P w = .ok (.slice (some ⟨w.heap.size, 0, none⟩) n n) (w.alloc (.cells ((List.replicate n false).map bvl).toArray e)) := by
  obtain ⟨i, h1, h2, h3, h4⟩ := info_parts hi
  have h := run_make (P := P) w t e i _ ht h1 h2 .i64 .i64 (n : Int) (n : Int) (by omega) (Int.le_refl _) (by rw [h4]; omega) (by omega)
  rw [Int.toNat_natCast, h3] at h
  rw [h]
  congr 3
  exact Array.toList_inj.1 (by rw [made_bools])
theorem cMakeBools {x y : Operand} {n : Nat} (ho : o.op = .makeSlice 84 x y) (hx : OpT Γ x (Ty.ex (.int .i64 (n : Int)))) (hy : OpT Γ y (Ty.ex (.int .i64 (n : Int)))) (hn : n ≤ 1000000) : OpOk Tryz.prog w0 Γ o (Ty.seg w0 4 1 n ((List.replicate n false).map bvl)) :=
  .new fun a w hb hs => by
    obtain ⟨u, h1, h2⟩ := hs x _ (by simp [ho, Op.operands]) hx
    obtain ⟨u', h3, h4⟩ := hs y _ (by simp [ho, Op.operands]) hy
    have h2 : u = .int .i64 (n : Int) := h2
    have h4 : u' = .int .i64 (n : Int) := h4
    refine ⟨.slice (some ⟨w.heap.size, 0, none⟩) n n, w.alloc (.cells ((List.replicate n false).map bvl).toArray 4), ⟨[w.heap.size], ?_, fun y hy => ?_⟩, ((Keeps.refl [] w).alloc _).below, ?_⟩
    · have h := Seg.ofBlk (w := w.alloc (.cells ((List.replicate n false).map bvl).toArray 4)) (sz := 1) (cap := n) (Blk.new w 4 ((List.replicate n false).map bvl).toArray) (by simp) (by simp [maxLen]; omega)
      simpa using h
    · simp only [List.mem_singleton] at hy
      subst hy
      exact hb.size
    · unfold execOp
      simp [ho, h1, h2, h3, h4, run_makeBools n hn Tryz.underlying84 infoBool]
theorem cBuildPeel {x y z u : Operand} {seed : Nat} {L : List Cl} (ho : o.op = .build PeelT #[(0, x), (1, y), (2, z), (3, u)]) (hx : OpT Γ x (Ty.tabO w0 41 seed L)) (hy : OpT Γ y (Ty.seg w0 4 1 L.length ((List.replicate L.length false).map bvl))) (hz : OpT Γ z (Ty.mapO w0)) (hu : OpT Γ u (Ty.ex (.agg #[nilS, nilS]))) : OpOk Tryz.prog w0 Γ o (Ty.peelV w0 seed L) :=
  .val fun a w hb hs => by
    obtain ⟨v, h1, s, rfl, SL, h2, h3⟩ := hs x _ (by simp [ho, Op.operands]) hx
    obtain ⟨q, h4, SP, h5, h6⟩ := hs y _ (by simp [ho, Op.operands]) hy
    obtain ⟨m, h7, b, rfl, h8, h9⟩ := hs z _ (by simp [ho, Op.operands]) hz
    obtain ⟨e, h10, h11⟩ := hs u _ (by simp [ho, Op.operands]) hu
    have h11 : e = .agg #[nilS, nilS] := h11
    subst h11
    refine ⟨_, ⟨s, q, b, SL, SP, rfl, h2, h5, h9, h8, h3, h6⟩, ?_⟩
    unfold execOp
    simp only [ho]
    have e1 : ((#[(0, x), (1, y), (2, z), (3, u)] : Array (Nat × Operand)).map fun (i, x) => (i, a.eval x)) = #[(0, .agg #[.int .u64 (seed : Int), s]), (1, q), (2, .map (some b)), (3, .agg #[nilS, nilS])] := by simp [h1, h4, h7, h10]
    rw [e1, Sem.run_bind, buildPeel seed b (seg_isA h2) (seg_isA h5) w]
    rfl
theorem cBoxPeel {x : Operand} {seed : Nat} {L : List Cl} (ho : o.op = .box PeelT x) (hx : OpT Γ x (Ty.peelV w0 seed L)) : OpOk Tryz.prog w0 Γ o (Ty.peelP w0 seed L) :=
  .new fun a w hb hs => by
    obtain ⟨u, h1, s, q, b, SL, SP, rfl, h2, h3, h4, h5, h6, h7⟩ := hs x _ (by simp [ho, Op.operands]) hx
    have hbl : Below w.heap.size w (w.alloc (.cells (peelCells seed s q b nilS nilS).toArray PeelT)) := ((Keeps.refl [] w).alloc _).below
    refine ⟨.pointer (some ⟨w.heap.size, 0, none⟩), w.alloc (.cells (peelCells seed s q b nilS nilS).toArray PeelT), ⟨_, s, q, b, SL, SP, rfl, ⟨Blk.new w _ _, h2.below hbl, h3.below hbl, h4.keeps (Keeps.of_below (S := []) hbl) (by simp), Seg.nil _ _ _, Seg.nil _ _ _, by simp⟩, ⟨hb.size, h5, h6, h7, by simp, by simp⟩⟩, hbl, ?_⟩
    unfold execOp
    simp only [ho, h1]
    simp [Instr.box, newVar, newRow, go_sem, Value.cells]
end
end Go.Proofs.YtmlbkcpmgcjblaaGreat

/- peel.All by types: the walk. -/
namespace Go.Proofs.YtmlbkcpmgcjblaaGreat
open Go.RowKit

theorem sl_nil (w : World) (e : TypeId) : SlP w e nilS 0 [] := (Seg.nil w e 1).sl
section
variable {P : Program} {ops : Array Oper} {Q : Exit → Act → World → Prop} {N : Nat} {Γ : Ctx} {a : Act} {w : World} {o : Oper} {rest : List Oper}
/-- An operation whose guard says no. -/
theorem tlOpN {j s d : Nat} {b c : Bool} (hF : Fr N Γ a w) (hg : o.guard = some (j, c)) (hj : slotOf ops j = some s) (hs : look Γ s = some (Ty.ex (.bool b))) (hbc : (b == c) = false) (hd : o.dst = some d) (hN : decide (d < N) = true) (hk : ∀ a', Fr N ((d, Ty.ex undef) :: Γ) a' w → wpList P ops Q rest a' w) : wpList P ops Q (o :: rest) a w := by
  refine wpList_step fun K hK => ?_
  obtain ⟨v, hv, e⟩ := hF.val s _ hs
  have e : v = .bool b := e
  subst e
  rw [if_neg (by cases b <;> cases c <;> simp at hbc <;> simp [Region.wanted, hg, yielded_of hj hv])]
  rw [hd]
  exact hK _ _ (hk _ (hF.put (of_decide_eq_true hN) (Below.refl _ _) rfl))
end
section
variable {w0 : World} {Γ : Ctx} {o : Oper}
theorem cBuildI {P : Program} {t : TypeId} {i : Nat} {x : Operand} {v z : Value} (ho : o.op = .build t #[(i, x)]) (hx : OpT Γ x (Ty.ex v)) (hr : ∀ w : World, (Instr.build t #[(i, v)]).run P w = .ok z w) : OpOk P w0 Γ o (Ty.ex z) :=
  .val fun a w _ hs => by
    obtain ⟨u, h1, h2⟩ := hs x _ (by simp [ho, Op.operands]) hx
    have h2 : u = v := h2
    subst h2
    refine ⟨_, rfl, ?_⟩
    unfold execOp
    simp [ho, h1, hr]
theorem cBuildRes {x y z : Operand} {P M : List Sm} {seed : Nat} {s : Value} {L : List Cl} {n1 n2 : Nat} (ho : o.op = .build ResT #[(0, x), (1, y), (2, z)]) (hx : OpT Γ x (Ty.seg w0 36 32 n1 (flat P))) (hy : OpT Γ y (Ty.seg w0 36 32 n2 (flat M))) (hz : OpT Γ z (Ty.ex (.agg #[.int .u64 (seed : Int), s]))) (hs : SlP w0 41 s L.length (flatC L)) (h1 : n1 = P.length) (h2 : n2 = M.length) : OpOk Tryz.prog w0 Γ o (Ty.res P M seed L) :=
  .val fun a w hb hs' => by
    subst h1 h2
    obtain ⟨p, k1, S1, k2, _⟩ := hs' x _ (by simp [ho, Op.operands]) hx
    obtain ⟨q, k3, S2, k4, _⟩ := hs' y _ (by simp [ho, Op.operands]) hy
    obtain ⟨e, k5, k6⟩ := hs' z _ (by simp [ho, Op.operands]) hz
    have k6 : e = .agg #[.int .u64 (seed : Int), s] := k6
    subst k6
    refine ⟨_, ⟨p, q, s, rfl, k2.sl, k4.sl, (Ty.cls 41 L).below hs hb⟩, ?_⟩
    unfold execOp
    simp only [ho]
    have e1 : ((#[(0, x), (1, y), (2, z)] : Array (Nat × Operand)).map fun (i, x) => (i, a.eval x)) = #[(0, p), (1, q), (2, .agg #[.int .u64 (seed : Int), s])] := by simp [k1, k3, k5]
    rw [e1, Sem.run_bind, buildR (seed : Int) (seg_isA k2) (seg_isA k4) (sl_isA hs) w]
    rfl
end
theorem run_stop {seed m : Nat} {s : Pst} (h : ¬ nextI seed s.L < s.L.length) : Pst.run seed m s = s := by
  cases m with
  | zero => rfl
  | succ m => unfold Pst.run; rw [if_neg h]
theorem mem_plus {x y : Sm} {p q S : List Sm} (h : y ∈ S ↔ y ∈ p ∨ y ∈ q) : y ∈ x :: S ↔ y ∈ p ++ [x] ∨ y ∈ q := by
  simp only [List.mem_cons, List.mem_append, List.not_mem_nil, or_false, h]
  by_cases a : y = x <;> by_cases b : y ∈ p <;> by_cases c : y ∈ q <;> simp [a, b, c]
theorem mem_minus {x y : Sm} {p q S : List Sm} (h : y ∈ S ↔ y ∈ p ∨ y ∈ q) : y ∈ x :: S ↔ y ∈ p ∨ y ∈ q ++ [x] := by
  simp only [List.mem_cons, List.mem_append, List.not_mem_nil, or_false, h]
  by_cases a : y = x <;> by_cases b : y ∈ p <;> by_cases c : y ∈ q <;> simp [a, b, c]
theorem res_one {n : Int} {p q s : Value} (hp : ∃ A l c, p = .slice A l c) (hq : ∃ A l c, q = .slice A l c) (hs : ∃ A l c, s = .slice A l c) : (Value.agg #[p, q, .int .u64 n, s]).cells.all (·.oneCell') = true := by
  obtain ⟨A, l, c, rfl⟩ := hs
  obtain ⟨A1, l1, c1, rfl⟩ := hp
  obtain ⟨A2, l2, c2, rfl⟩ := hq
  simp [Value.cells, Value.oneCell']
theorem hatT {seed bm : Nat} {sL sP s0 s1 : Value} : ∀ w v, (Ty.at_ PeelT (peelCells seed sL sP bm s0 s1)).p w v → (Ty.at_ PeelT [.int .u64 (seed : Int), sL]).p w v := fun w v h => at_pre (xs := [.int .u64 (seed : Int), sL]) (ys := [sP, .map (some bm), s0, s1]) w v h
set_option maxRecDepth 100000 in
set_option maxHeartbeats 8000000 in
theorem pall_ty (seed : Nat) (L : List Cl) (hsd : seed < 18446744073709551616) : Fn1 Tryz.prog 10 (Ty.tab 41 seed L) (Ty.tup [Ty.res (resP seed L) (resM seed L) (resS seed L) (resL seed L), Ty.ex (.int .i64 (resN seed L))]) := by
  refine ⟨fun args w => by kernel_rfl, fun w v ⟨s, hv, hs⟩ => ?_⟩
  subst hv
  have hG := tgood_ty seed L
  refine enter_ty 88 [Ty.ex (.agg #[.int .u64 (seed : Int), s])] Tryz.func10 rfl (by kernel_rfl) ⟨rfl, trivial⟩ fun a hF => ?_
  have hB := Below.refl w.heap.size w
  let TL := Ty.cls 41 L
  repeat with_reducible refine wp_seq ?_
  refine' reg_all hF ?_ mixed (by kernel_rfl) ?_
  rotate_left
  · repeat (first
        | exact Line.nil
        | (refine' Line.cons rfl (.new rfl rfl (run_alloc_i infoRes) rfl) ?_; rotate_left)
        | ((refine' Line.cons rfl (.run rfl rfl ?_) ?_)
           any_goals (first | exact cAssign rfl rfl | exact cBoxTab rfl rfl)
           rotate_left))
  intro a w1 hF hb hN
  have hBs := hB.size
  replace hB := hB.trans (hb.mono hB.size)
  dsimp only [ext, Option.getD] at hF
  repeat with_reducible first | refine wp_seq ?_ | refine nThen ?_
  obtain ⟨z, ⟨g2, rfl, hg2, hb2⟩, hF⟩ := hF.open (s := 2) rfl
  have hg2 : w.heap.size ≤ g2 := hg2
  have hs1 := TL.below hs hB
  have ht1 : (Ty.tab 41 seed L).p w1 (.agg #[.int .u64 (seed : Int), s]) := ⟨s, rfl, hs1⟩
  by_cases hok : goodN (L.length : Int) = true
  rotate_left
  · have hok : goodN (L.length : Int) = false := by simpa using hok
    have hpk : peelOk seed L = false := by unfold peelOk; rw [hok]; rfl
    rw [show resP seed L = [] by unfold resP; rw [hpk]; rfl, show resM seed L = [] by unfold resM; rw [hpk]; rfl, show resS seed L = 0 by unfold resS; rw [hok]; rfl, show resL seed L = [] by unfold resL; rw [hok]; rfl, show resN seed L = 1 by unfold resN; rw [hok]; rfl]
    rw [hok] at hG
    refine' reg_all hF ?_ mixed (by kernel_rfl) ?_
    rotate_left
    · repeat (first | exact Line.nil | ((refine' Line.cons rfl (.run rfl rfl ?_) ?_); (any_goals (first | exact cNot rfl rfl | exact cLoadT46 rfl (.t rfl) | exact cCallH1 rfl (.l rfl ht1) hG)); rotate_left))
    intro a w2 hF hb hN
    have hBs := hB.size
    replace hB := hB.trans (hb.mono hB.size)
    dsimp only [ext, Option.getD] at hF
    repeat with_reducible refine nThen ?_
    refine cond_t hF rfl ?_
    repeat with_reducible refine wp_seq ?_
    replace hb2 := hb2.below hb
    refine' region_ty 1 mixed (by kernel_rfl) hF ?_ ?_
    rotate_left
    · simp only [List.take_succ_cons, List.take_zero]
      repeat (first | exact Line.nil | ((refine' Line.cons rfl (.run rfl rfl ?_) ?_); (any_goals exact cBuildE rfl (fun w => buildR0 w)); rotate_left))
    intro a w3 hF hb hN
    have hBs := hB.size
    replace hB := hB.trans (hb.mono hB.size)
    simp only [List.take_succ_cons, List.take_zero, List.drop_succ_cons, List.drop_zero] at hF hN ⊢
    dsimp only [ext, Option.getD] at hF
    replace hb2 := hb2.below hb
    refine tlStoreV (Δ := [(2, Ty.ex (.pointer (some ⟨g2, 0, none⟩)))]) hF rfl rfl rfl rfl (hF.getEx (s := 12) rfl) hb2 rfl sizeRes (by simp [Value.cells, Value.oneCell']) (hF.keep [2]) rfl ?_
    intro w4 hF hb2 hkx
    replace hB := below_own hB hkx (by intro y hy; simp only [List.mem_singleton] at hy; omega)
    refine' tlOp hF rfl rfl rfl ?_ ?_
    rotate_left
    · exact cAssign rfl rfl
    intro a w5 hF hb
    have hBs := hB.size
    replace hB := hB.trans (hb.mono hB.size)
    try (refine wpList_nil ?_)
    repeat with_reducible first | refine nThen ?_ | refine wp_ret ?_ | refine rThen ?_
    refine retCell2 hF rfl rfl rfl (hb2.below hb) Tryz.underlying47 rfl sizeRes ?_
    exact ⟨_, rfl, ⟨[_, _], rfl, ⟨nilS, nilS, nilS, rfl, sl_nil _ _, sl_nil _ _, sl_nil _ _⟩, rfl, trivial⟩, hB⟩
  rw [hok] at hG
  refine' reg_all hF ?_ mixed (by kernel_rfl) ?_
  rotate_left
  · repeat (first | exact Line.nil | ((refine' Line.cons rfl (.run rfl rfl ?_) ?_); (any_goals (first | exact cNot rfl rfl | exact cLoadT46 rfl (.t rfl) | exact cCallH1 rfl (.l rfl ht1) hG)); rotate_left))
  intro a w2 hF hb hN
  have hBs := hB.size
  replace hB := hB.trans (hb.mono hB.size)
  dsimp only [ext, Option.getD] at hF
  repeat with_reducible refine nThen ?_
  replace hb2 := hb2.below hb
  refine cond_f hF rfl ?_
  repeat with_reducible first | refine wp_seq ?_ | refine nThen ?_ | refine wp_skip ?_
  obtain ⟨N, hN, hN1, hN2⟩ := goodN_rng hok
  have hLl : L.length ≤ 1024 := by omega
  have hs2 := TL.below hs hB
  obtain ⟨p1, hp1, hF⟩ := hF.open (s := 1) rfl
  clear hs hs1 ht1 hG
  have hw2 := hB.size
  have hB0 := hB
  obtain ⟨lo, elo⟩ : ∃ lo, lo = w2.heap.size := ⟨_, rfl⟩
  replace hB := Below.refl w2.heap.size w2
  refine' reg_all hF ?_ mixed (by kernel_rfl) ?_
  rotate_left
  · repeat (first | exact Line.nil | ((refine' Line.cons rfl (.run rfl rfl ?_) ?_); (any_goals (first | exact cAssign rfl rfl | exact cFldS46 rfl (.l rfl hp1) | exact cLoadU64 rfl (.t rfl) | exact cFldL46 rfl (.l rfl hp1) | exact cRowOf46 rfl (.t rfl) | exact cCallS1 rfl (.l rfl hs2) (cloneC_ty L (by omega)) | exact cBuildTabO (L := L) rfl rfl rfl (fun s hs w => buildT46 _ hs w) | exact cLenH rfl (.l rfl hs2) (Ty.sl_isSl _ _ _) Tryz.underlying24 | exact cMakeBools rfl rfl rfl (by omega) | exact cMakeMapS rfl | exact cBuildE rfl (fun w => buildSL2 w) | exact cBuildPeel (L := L) (seed := seed) rfl rfl rfl rfl rfl | exact cBoxPeel rfl rfl)); rotate_left))
  intro a w3 hF hb hN
  have hBs := hB.size
  replace hB := hB.trans (hb.mono hB.size)
  dsimp only [ext, Option.getD] at hF
  repeat with_reducible first | refine wp_seq ?_ | refine nThen ?_
  obtain ⟨z, ⟨gp, sL, sP, bm, SL, SP, rfl, hM, hO⟩, hF⟩ := hF.open (s := 4) rfl
  rw [← elo] at hO hB
  have hL := hB
  have hg2l : g2 < lo := by rw [elo]; exact hb2.lt
  clear hs2 hp1
  have hat := hM.at_
  have hsP := hM.pure.sl
  replace hB := Below.refl w3.heap.size w3
  refine' reg_all hF ?_ mixed (by kernel_rfl) ?_
  rotate_left
  · repeat (first | exact Line.nil | ((refine' Line.cons rfl (.run rfl rfl ?_) ?_); (any_goals (first | exact cMove rfl rfl | exact cNilOk rfl rfl | exact cPeelP rfl (.l rfl hat) | exact cLoad1 (u := sP) rfl (.t rfl) (pts_at _ _) Tryz.underlying84 rfl | exact cLenH rfl (.l rfl hsP) (Ty.sl_isSl _ _ _) Tryz.underlying84)); rotate_left))
  intro a w4 hF hb hN
  have hBs := hB.size
  replace hB := hB.trans (hb.mono hB.size)
  dsimp only [ext, Option.getD] at hF
  repeat with_reducible first | refine nThen ?_ | refine wp_block ?_
  replace hM := hM.below hb
  have hlo4 : lo ≤ w3.heap.size := by rw [elo]; exact hL.size
  replace hL := hL.trans (hb.mono hlo4)
  have hen : Enters Tryz.prog 30 := fun args w => by kernel_rfl
  have het : Enters Tryz.prog 32 := fun args w => by kernel_rfl
  refine loop_ty (fun m a wr => ∃ i : Nat, i + m = L.length ∧ Fr 88 [(2, Ty.ex (.pointer (some ⟨g2, 0, none⟩))), (4, Ty.ex (.pointer (some ⟨gp, 0, none⟩))), (31, Ty.ex (.int .i64 (L.length : Int))), (32, Ty.ex (.int .i64 (i : Int)))] a wr ∧ Below lo w2 wr ∧ PeelMem wr gp seed sL sP bm nilS nilS L (mixB seed L i) [] [] [] SL SP [] [] 0) L.length ?_ ?_
  · exact ⟨0, by omega, hF.keep [2, 4, 31, 32], hL, by rw [mixB_zero]; exact hM⟩
  clear hF hB hL hM hat hsP hb hBs
  rintro m a wr ⟨i, hi, hF, hL, hM⟩
  have hB := Below.refl wr.heap.size wr
  have hlor : lo ≤ wr.heap.size := by rw [elo]; exact hL.size
  have hL0 := hL
  repeat with_reducible refine wp_seq ?_
  refine' reg_all hF ?_ mixed (by kernel_rfl) ?_
  rotate_left
  · repeat (first | exact Line.nil | ((refine' Line.cons rfl (.run rfl rfl ?_) ?_); (any_goals exact cLss rfl rfl rfl); rotate_left))
  intro a w10 hF hb hN
  have hBs := hB.size
  replace hB := hB.trans (hb.mono hB.size)
  dsimp only [ext, Option.getD] at hF
  repeat with_reducible first | refine wp_seq ?_ | refine nThen ?_
  replace hM := hM.below hb
  replace hL := hL.trans (hb.mono hlor)
  refine cond_ty hF rfl (fun hlt => ?_) (fun hge => ?_)
  · have hlt : i < L.length := by have := of_decide_eq_true hlt; omega
    repeat with_reducible first | refine wp_seq ?_ | refine nThen ?_ | refine wp_skip ?_ | refine wp_block ?_
    refine' reg_all hF ?_ mixed (by kernel_rfl) ?_
    rotate_left
    · repeat (first | exact Line.nil | ((refine' Line.cons rfl (.run rfl rfl ?_) ?_); (any_goals (first | exact cMove rfl rfl | exact cAssign rfl rfl)); rotate_left))
    intro a w11 hF hb hN
    have hBs := hB.size
    replace hB := hB.trans (hb.mono hB.size)
    dsimp only [ext, Option.getD] at hF
    repeat with_reducible refine nThen ?_
    replace hM := hM.below hb
    have hlo11 : lo ≤ w11.heap.size := Nat.le_trans hlor hB.size
    refine' region_ty 2 mixed (by kernel_rfl) hF ?_ ?_
    rotate_left
    · simp only [List.take_succ_cons, List.take_zero]
      repeat (first | exact Line.nil | ((refine' Line.cons rfl (.run rfl rfl ?_) ?_); (any_goals exact cMove rfl rfl); rotate_left))
    intro a w12 hF hb hN
    have hBs := hB.size
    replace hB := hB.trans (hb.mono hB.size)
    simp only [List.take_succ_cons, List.take_zero, List.drop_succ_cons, List.drop_zero] at hF hN ⊢
    dsimp only [ext, Option.getD] at hF
    replace hM := hM.below hb
    replace hL : Below lo w2 w12 := hL0.trans (hB.mono hlor)
    have hlk := look_any hM (mixB_len (by omega)) hsd (i := i) hlt
    rw [mixB_set hlt] at hlk
    refine tlCall rfl rfl rfl (args := #[.pointer (some ⟨gp, 0, none⟩), ivn i]) ?_ hen (R := fun u w' => PeelMem w' gp seed sL sP bm nilS nilS L (mixB seed L (i + 1)) [] [] [] SL SP [] [] 0 ∧ Keeps SP w12 w') ?_ ?_
    · simp only [List.map_toArray, List.map_cons, List.map_nil, hF.getEx (s := 35) rfl, hF.getEx (s := 36) rfl]; rfl
    · exact hlk.mono fun e w' ⟨h1, h2, h3⟩ => ⟨_, h1, h2, h3⟩
    rintro z w13 ⟨hM2, hk13⟩
    have hF := ((hF.keep [2, 4, 31, 32]).keepSeg hk13 hM.pure rfl).put (d := 37) (by decide) (Below.refl _ _) (V := Ty.ex z) rfl
    have hlo12 : lo ≤ w12.heap.size := Nat.le_trans hlor hB.size
    replace hL := below_lo hL (by rw [elo]; exact Nat.le_refl _) hk13 hO.pure
    replace hB := Below.refl w13.heap.size w13
    have hlo13 : lo ≤ w13.heap.size := by rw [elo]; exact hL.size
    refine wpList_nil ?_
    repeat with_reducible first | refine nThen ?_ | refine nBlk ?_
    refine' reg_all hF ?_ mixed (by kernel_rfl) ?_
    rotate_left
    · repeat (first | exact Line.nil | ((refine' Line.cons rfl (.run rfl rfl ?_) ?_); (any_goals (first | exact cMove rfl rfl | exact cAdd (r := ((i + 1 : Nat) : Int)) rfl rfl rfl (by omega))); rotate_left))
    intro a w14 hF hb hN
    have hBs := hB.size
    replace hB := hB.trans (hb.mono hB.size)
    dsimp only [ext, Option.getD] at hF
    repeat with_reducible refine nThen ?_
    exact ⟨m - 1, by omega, i + 1, by omega, hF.keep [2, 4, 31, 32], hL.trans (hb.mono hlo13), hM2.below hb⟩
  have hge : ¬ i < L.length := by have := of_decide_eq_false hge; omega
  obtain rfl : i = L.length := by omega
  rw [mixB_all] at hM
  repeat with_reducible first | refine wp_seq ?_ | refine nThen ?_ | refine wp_exit ?_ | refine xThen ?_ | refine xHere ?_
  have hlo10 : lo ≤ w10.heap.size := Nat.le_trans hlor hB.size
  replace hB := Below.refl w10.heap.size w10
  refine' reg_all hF ?_ mixed (by kernel_rfl) ?_
  rotate_left
  · repeat (first | exact Line.nil | ((refine' Line.cons rfl (.run rfl rfl ?_) ?_); (any_goals exact cAssign rfl rfl); rotate_left))
  intro a w20 hF hb hN
  have hBs := hB.size
  replace hB := hB.trans (hb.mono hB.size)
  dsimp only [ext, Option.getD] at hF
  repeat with_reducible first | refine wp_seq ?_ | refine nThen ?_
  refine' reg_all hF ?_ mixed (by kernel_rfl) ?_
  rotate_left
  · repeat (first | exact Line.nil | ((refine' Line.cons rfl (.run rfl rfl ?_) ?_); (any_goals exact cAssign rfl rfl); rotate_left))
  intro a w21 hF hb hN
  have hBs := hB.size
  replace hB := hB.trans (hb.mono hB.size)
  dsimp only [ext, Option.getD] at hF
  repeat with_reducible first | refine nThen ?_ | refine wp_block ?_
  replace hM := hM.below hB
  replace hL := hL.trans (hB.mono hlo10)
  refine wp_mono (Q := fun e a w' => e = .exit 2 ∧ ∃ S s0 s1 S0 S1 n, Fr 88 [(2, Ty.ex (.pointer (some ⟨g2, 0, none⟩))), (4, Ty.ex (.pointer (some ⟨gp, 0, none⟩))), (6, Ty.ex (.bool (peelS seed L).once))] a w' ∧ Below lo w2 w' ∧ PeelMem w' gp seed sL sP bm s0 s1 (peelS seed L).L (pureB seed (peelS seed L).L) S (peelS seed L).minus (peelS seed L).plus SL SP S0 S1 n) ?_ ?_
  · refine loop_ty (fun m a wr => ∃ (n : Nat) (st : Pst) (S : List Sm) (s0 s1 : Value) (S0 S1 : List Nat), n + m = 1025 ∧ Fr 88 [(2, Ty.ex (.pointer (some ⟨g2, 0, none⟩))), (4, Ty.ex (.pointer (some ⟨gp, 0, none⟩))), (6, Ty.ex (.bool st.once)), (7, Ty.ex (.int .i64 (n : Int)))] a wr ∧ Below lo w2 wr ∧ PeelMem wr gp seed sL sP bm s0 s1 st.L (pureB seed st.L) S st.minus st.plus SL SP S0 S1 n ∧ PeelOwn lo gp bm SL SP S0 S1 ∧ (∀ y, y ∈ S ↔ y ∈ st.plus ∨ y ∈ st.minus) ∧ st.L.length = L.length ∧ Pst.run seed m st = peelS seed L ∧ st.plus.length + st.minus.length = n) 1025 ?_ ?_
    · exact ⟨0, ⟨L, [], [], true⟩, [], nilS, nilS, [], [], rfl, hF.keep [2, 4, 6, 7], hL, hM, hO, by simp, rfl, rfl, rfl⟩
    clear hF hB hL hM hO hb hBs
    rintro m a wr ⟨n, st, S, s0, s1, S0, S1, hn, hF, hL, hM, hO, hS, hlen, hrun, hcnt⟩
    have hB := Below.refl wr.heap.size wr
    have hlor : lo ≤ wr.heap.size := by rw [elo]; exact hL.size
    repeat with_reducible refine wp_seq ?_
    refine' reg_all hF ?_ mixed (by kernel_rfl) ?_
    rotate_left
    · repeat (first | exact Line.nil | ((refine' Line.cons rfl (.run rfl rfl ?_) ?_); (any_goals (first | exact cMove rfl rfl | exact cLeq rfl rfl rfl)); rotate_left))
    intro a w30 hF hb hN
    have hBs := hB.size
    replace hB := hB.trans (hb.mono hB.size)
    dsimp only [ext, Option.getD] at hF
    repeat with_reducible refine nThen ?_
    replace hM := hM.below hb
    replace hL := hL.trans (hb.mono hlor)
    have hlo30 : lo ≤ w30.heap.size := Nat.le_trans hlor hB.size
    refine cond_ty hF rfl (fun hle => ?_) (fun hgt => ?_)
    · have hle : n ≤ 1024 := by have := of_decide_eq_true hle; omega
      have hI := idxBool_ty (pureB seed st.L) true (by rw [pureB_len]; omega)
      rw [idx_pure] at hI
      have hat := hM.at_
      have hsP : (Ty.sl 4 (pureB seed st.L).length ((pureB seed st.L).map bvl)).p w30 sP := by rw [pureB_len]; exact hM.pure.sl
      replace hB := Below.refl w30.heap.size w30
      by_cases hlt : nextI seed st.L < st.L.length
      · rw [if_pos hlt] at hI
        have hpu := (next_at (seed := seed) hlt (by
          have := firstP_at (pureAt seed st.L) st.L.length 0 (by unfold nextI at hlt; omega)
          rw [Nat.zero_add] at this
          exact this)).2
        have hrn := run_next (m := m - 1) (s := st) hlt
        rw [show m - 1 + 1 = m by omega, hrun] at hrn
        have htk : st.take seed (nextI seed st.L) = _ := rfl
        rw [htk] at hrn
        unfold Pst.take at hrn
        dsimp only at hrn
        generalize nextI seed st.L = i at *
        repeat with_reducible first | refine wp_seq ?_ | refine nThen ?_ | refine wp_skip ?_ | refine wp_block ?_
        refine' reg_all hF ?_ mixed (by kernel_rfl) ?_
        rotate_left
        · repeat (first | exact Line.nil | ((refine' Line.cons rfl (.run rfl rfl ?_) ?_); (any_goals (first | exact cMove rfl rfl | exact cAssign rfl rfl | exact cNilOk rfl rfl | exact cPeelP rfl (.l rfl hat) | exact cLoad1 (u := sP) rfl (.t rfl) (pts_at _ _) Tryz.underlying84 rfl | exact cCallH2 rfl (.l rfl hsP) (.t rfl) hI)); rotate_left))
        intro a w31 hF hb hN
        have hBs := hB.size
        replace hB := hB.trans (hb.mono hB.size)
        dsimp only [ext, Option.getD] at hF
        repeat with_reducible first | refine wp_seq ?_ | refine nThen ?_
        refine' reg_all hF ?_ mixed (by kernel_rfl) ?_
        rotate_left
        · repeat (first | exact Line.nil | ((refine' Line.cons rfl (.run rfl rfl ?_) ?_); (any_goals (first | exact cMove rfl rfl | exact cLss rfl rfl rfl)); rotate_left))
        intro a w32 hF hb hN
        have hBs := hB.size
        replace hB := hB.trans (hb.mono hB.size)
        dsimp only [ext, Option.getD] at hF
        repeat with_reducible refine nThen ?_
        refine cond_ty hF rfl (fun hneg => ?_) (fun _ => ?_)
        · exact absurd (of_decide_eq_true hneg) (by omega)
        repeat with_reducible first | refine nThen ?_ | refine wp_skip ?_
        refine wp_region_lit ?_
        refine' tlOp hF rfl rfl rfl ?_ ?_
        rotate_left
        · exact cMove rfl rfl
        intro a w33 hF hb
        have hBs := hB.size
        replace hB := hB.trans (hb.mono hB.size)
        try (refine wpList_nil ?_)
        refine' tlOp hF rfl rfl rfl ?_ ?_
        rotate_left
        · exact cMove rfl rfl
        intro a w34 hF hb
        have hBs := hB.size
        replace hB := hB.trans (hb.mono hB.size)
        try (refine wpList_nil ?_)
        replace hM := hM.below hB
        replace hL := hL.trans (hB.mono hlo30)
        have hlo34 : lo ≤ w34.heap.size := Nat.le_trans hlo30 hB.size
        obtain ⟨x, hx⟩ : ∃ x, (st.L.getD i default).key = x := ⟨_, rfl⟩
        rw [hx] at hrn
        have hSx : decide (x ∈ S) = (decide (x ∈ st.plus) || decide (x ∈ st.minus)) := by rw [← Bool.decide_or]; exact decide_eq_decide.2 (hS x)
        rw [← hSx] at hrn
        by_cases hc : (st.L.getD i default).n = 1
        · rw [if_pos hc] at hrn
          have hlk := takeP_any hM hO hlo34 hsd (by omega) (by omega) hlt hpu hc hx
          refine tlCall rfl rfl rfl (args := #[.pointer (some ⟨gp, 0, none⟩), ivn i]) ?_ het hlk ?_
          · simp only [List.map_toArray, List.map_cons, List.map_nil, hF.getEx (s := 50) rfl, hF.getEx (s := 51) rfl]; rfl
          rintro z w35 ⟨rfl, hB35, v', S', hM2, hO2⟩
          have hF := ((hF.keep [2, 4, 6, 7]).exs (w' := w35) (exs_cons (exs_cons (exs_cons (exs_cons exs_nil))))).put (d := 52) (by decide) (Below.refl _ _) (V := Ty.ex (.bool (!decide (x ∈ S)))) rfl
          replace hL := hL.trans hB35
          replace hB := Below.refl w35.heap.size w35
          have hlo35 : lo ≤ w35.heap.size := by rw [elo]; exact hL.size
          cases hxs : decide (x ∈ S) with
          | true =>
            rw [hxs, Bool.not_true, Bool.and_false] at hrn
            rw [hxs] at hF
            refine' tlOp hF rfl rfl rfl ?_ ?_
            rotate_left
            · exact cMove rfl rfl
            intro a w36 hF hb
            have hBs := hB.size
            replace hB := hB.trans (hb.mono hB.size)
            try (refine wpList_nil ?_)
            refine tlOpN hF rfl rfl rfl rfl rfl rfl fun a hF => ?_
            refine' tlOp hF rfl rfl rfl ?_ ?_
            rotate_left
            · exact cPickF rfl rfl rfl
            intro a w37 hF hb
            have hBs := hB.size
            replace hB := hB.trans (hb.mono hB.size)
            try (refine wpList_nil ?_)
            refine' tlOp hF rfl rfl rfl ?_ ?_
            rotate_left
            · exact cAssign rfl rfl
            intro a w38 hF hb
            have hBs := hB.size
            replace hB := hB.trans (hb.mono hB.size)
            try (refine wpList_nil ?_)
            repeat with_reducible first | refine nThen ?_ | refine nBlk ?_
            refine' reg_all hF ?_ mixed (by kernel_rfl) ?_
            rotate_left
            · repeat (first | exact Line.nil | ((refine' Line.cons rfl (.run rfl rfl ?_) ?_); (any_goals (first | exact cMove rfl rfl | exact cAssign rfl rfl | exact cAdd (r := ((n + 1 : Nat) : Int)) rfl rfl rfl (by omega))); rotate_left))
            intro a w39 hF hb hN
            have hBs := hB.size
            replace hB := hB.trans (hb.mono hB.size)
            dsimp only [ext, Option.getD] at hF
            repeat with_reducible refine nThen ?_
            exact ⟨m - 1, by omega, n + 1, ⟨tput seed st.L x (-1), st.plus ++ [x], st.minus, false⟩, _, _, _, _, _, by omega, hF.keep [2, 4, 6, 7], hL.trans (hB.mono hlo35), hM2.below hB, hO2, fun y => mem_plus (hS y), by rw [tput_len]; exact hlen, hrn.symm, by simp; omega⟩
          | false =>
            rw [hxs, Bool.not_false, Bool.and_true] at hrn
            rw [hxs] at hF
            refine' tlOp hF rfl rfl rfl ?_ ?_
            rotate_left
            · exact cMove rfl rfl
            intro a w36 hF hb
            have hBs := hB.size
            replace hB := hB.trans (hb.mono hB.size)
            try (refine wpList_nil ?_)
            refine tlOpG hF rfl rfl rfl rfl rfl (cMove rfl rfl) fun a w37 hF hb => ?_
            replace hB := hB.trans (hb.mono hB.size)
            refine' tlOp hF rfl rfl rfl ?_ ?_
            rotate_left
            · exact cPickT rfl rfl rfl
            intro a w38 hF hb
            have hBs := hB.size
            replace hB := hB.trans (hb.mono hB.size)
            try (refine wpList_nil ?_)
            refine' tlOp hF rfl rfl rfl ?_ ?_
            rotate_left
            · exact cAssign rfl rfl
            intro a w39 hF hb
            have hBs := hB.size
            replace hB := hB.trans (hb.mono hB.size)
            try (refine wpList_nil ?_)
            repeat with_reducible first | refine nThen ?_ | refine nBlk ?_
            refine' reg_all hF ?_ mixed (by kernel_rfl) ?_
            rotate_left
            · repeat (first | exact Line.nil | ((refine' Line.cons rfl (.run rfl rfl ?_) ?_); (any_goals (first | exact cMove rfl rfl | exact cAssign rfl rfl | exact cAdd (r := ((n + 1 : Nat) : Int)) rfl rfl rfl (by omega))); rotate_left))
            intro a w40 hF hb hN
            have hBs := hB.size
            replace hB := hB.trans (hb.mono hB.size)
            dsimp only [ext, Option.getD] at hF
            repeat with_reducible refine nThen ?_
            exact ⟨m - 1, by omega, n + 1, ⟨tput seed st.L x (-1), st.plus ++ [x], st.minus, st.once⟩, _, _, _, _, _, by omega, hF.keep [2, 4, 6, 7], hL.trans (hB.mono hlo35), hM2.below hB, hO2, fun y => mem_plus (hS y), by rw [tput_len]; exact hlen, hrn.symm, by simp; omega⟩
        · rw [if_neg hc] at hrn
          have hlk := takeM_any hM hO hlo34 hsd (by omega) (by omega) hlt hpu hc hx
          refine tlCall rfl rfl rfl (args := #[.pointer (some ⟨gp, 0, none⟩), ivn i]) ?_ het hlk ?_
          · simp only [List.map_toArray, List.map_cons, List.map_nil, hF.getEx (s := 50) rfl, hF.getEx (s := 51) rfl]; rfl
          rintro z w35 ⟨rfl, hB35, v', S', hM2, hO2⟩
          have hF := ((hF.keep [2, 4, 6, 7]).exs (w' := w35) (exs_cons (exs_cons (exs_cons (exs_cons exs_nil))))).put (d := 52) (by decide) (Below.refl _ _) (V := Ty.ex (.bool (!decide (x ∈ S)))) rfl
          replace hL := hL.trans hB35
          replace hB := Below.refl w35.heap.size w35
          have hlo35 : lo ≤ w35.heap.size := by rw [elo]; exact hL.size
          cases hxs : decide (x ∈ S) with
          | true =>
            rw [hxs, Bool.not_true, Bool.and_false] at hrn
            rw [hxs] at hF
            refine' tlOp hF rfl rfl rfl ?_ ?_
            rotate_left
            · exact cMove rfl rfl
            intro a w36 hF hb
            have hBs := hB.size
            replace hB := hB.trans (hb.mono hB.size)
            try (refine wpList_nil ?_)
            refine tlOpN hF rfl rfl rfl rfl rfl rfl fun a hF => ?_
            refine' tlOp hF rfl rfl rfl ?_ ?_
            rotate_left
            · exact cPickF rfl rfl rfl
            intro a w37 hF hb
            have hBs := hB.size
            replace hB := hB.trans (hb.mono hB.size)
            try (refine wpList_nil ?_)
            refine' tlOp hF rfl rfl rfl ?_ ?_
            rotate_left
            · exact cAssign rfl rfl
            intro a w38 hF hb
            have hBs := hB.size
            replace hB := hB.trans (hb.mono hB.size)
            try (refine wpList_nil ?_)
            repeat with_reducible first | refine nThen ?_ | refine nBlk ?_
            refine' reg_all hF ?_ mixed (by kernel_rfl) ?_
            rotate_left
            · repeat (first | exact Line.nil | ((refine' Line.cons rfl (.run rfl rfl ?_) ?_); (any_goals (first | exact cMove rfl rfl | exact cAssign rfl rfl | exact cAdd (r := ((n + 1 : Nat) : Int)) rfl rfl rfl (by omega))); rotate_left))
            intro a w39 hF hb hN
            have hBs := hB.size
            replace hB := hB.trans (hb.mono hB.size)
            dsimp only [ext, Option.getD] at hF
            repeat with_reducible refine nThen ?_
            exact ⟨m - 1, by omega, n + 1, ⟨tput seed st.L x 1, st.plus, st.minus ++ [x], false⟩, _, _, _, _, _, by omega, hF.keep [2, 4, 6, 7], hL.trans (hB.mono hlo35), hM2.below hB, hO2, fun y => mem_minus (hS y), by rw [tput_len]; exact hlen, hrn.symm, by simp; omega⟩
          | false =>
            rw [hxs, Bool.not_false, Bool.and_true] at hrn
            rw [hxs] at hF
            refine' tlOp hF rfl rfl rfl ?_ ?_
            rotate_left
            · exact cMove rfl rfl
            intro a w36 hF hb
            have hBs := hB.size
            replace hB := hB.trans (hb.mono hB.size)
            try (refine wpList_nil ?_)
            refine tlOpG hF rfl rfl rfl rfl rfl (cMove rfl rfl) fun a w37 hF hb => ?_
            replace hB := hB.trans (hb.mono hB.size)
            refine' tlOp hF rfl rfl rfl ?_ ?_
            rotate_left
            · exact cPickT rfl rfl rfl
            intro a w38 hF hb
            have hBs := hB.size
            replace hB := hB.trans (hb.mono hB.size)
            try (refine wpList_nil ?_)
            refine' tlOp hF rfl rfl rfl ?_ ?_
            rotate_left
            · exact cAssign rfl rfl
            intro a w39 hF hb
            have hBs := hB.size
            replace hB := hB.trans (hb.mono hB.size)
            try (refine wpList_nil ?_)
            repeat with_reducible first | refine nThen ?_ | refine nBlk ?_
            refine' reg_all hF ?_ mixed (by kernel_rfl) ?_
            rotate_left
            · repeat (first | exact Line.nil | ((refine' Line.cons rfl (.run rfl rfl ?_) ?_); (any_goals (first | exact cMove rfl rfl | exact cAssign rfl rfl | exact cAdd (r := ((n + 1 : Nat) : Int)) rfl rfl rfl (by omega))); rotate_left))
            intro a w40 hF hb hN
            have hBs := hB.size
            replace hB := hB.trans (hb.mono hB.size)
            dsimp only [ext, Option.getD] at hF
            repeat with_reducible refine nThen ?_
            exact ⟨m - 1, by omega, n + 1, ⟨tput seed st.L x 1, st.plus, st.minus ++ [x], st.once⟩, _, _, _, _, _, by omega, hF.keep [2, 4, 6, 7], hL.trans (hB.mono hlo35), hM2.below hB, hO2, fun y => mem_minus (hS y), by rw [tput_len]; exact hlen, hrn.symm, by simp; omega⟩
      · rw [if_neg hlt] at hI
        rw [run_stop hlt] at hrun
        repeat with_reducible first | refine wp_seq ?_ | refine nThen ?_ | refine wp_skip ?_ | refine wp_block ?_
        refine' reg_all hF ?_ mixed (by kernel_rfl) ?_
        rotate_left
        · repeat (first | exact Line.nil | ((refine' Line.cons rfl (.run rfl rfl ?_) ?_); (any_goals (first | exact cMove rfl rfl | exact cAssign rfl rfl | exact cNilOk rfl rfl | exact cPeelP rfl (.l rfl hat) | exact cLoad1 (u := sP) rfl (.t rfl) (pts_at _ _) Tryz.underlying84 rfl | exact cCallH2 rfl (.l rfl hsP) (.t rfl) hI)); rotate_left))
        intro a w31 hF hb hN
        have hBs := hB.size
        replace hB := hB.trans (hb.mono hB.size)
        dsimp only [ext, Option.getD] at hF
        repeat with_reducible first | refine wp_seq ?_ | refine nThen ?_
        refine' reg_all hF ?_ mixed (by kernel_rfl) ?_
        rotate_left
        · repeat (first | exact Line.nil | ((refine' Line.cons rfl (.run rfl rfl ?_) ?_); (any_goals (first | exact cMove rfl rfl | exact cLss rfl rfl rfl)); rotate_left))
        intro a w32 hF hb hN
        have hBs := hB.size
        replace hB := hB.trans (hb.mono hB.size)
        dsimp only [ext, Option.getD] at hF
        repeat with_reducible refine nThen ?_
        refine cond_ty hF rfl (fun _ => ?_) (fun hneg => ?_)
        · repeat with_reducible first | refine wp_exit ?_ | refine xThen ?_ | refine xFar (by decide) ?_
          subst hrun
          exact ⟨rfl, S, s0, s1, S0, S1, n, hF.keep [2, 4, 6], hL.trans (hB.mono hlo30), hM.below hB⟩
        · exact absurd (of_decide_eq_false hneg) (by omega)
    · have hgt : ¬ n ≤ 1024 := by have := of_decide_eq_false hgt; omega
      obtain rfl : m = 0 := by omega
      have hrun : st = peelS seed L := hrun
      repeat with_reducible first | refine wp_exit ?_ | refine xThen ?_
      subst hrun
      exact ⟨rfl, S, s0, s1, S0, S1, n, hF.keep [2, 4, 6], hL, hM⟩
  clear hF hB hL hM hO hb hBs
  rintro e a wr ⟨rfl, S, s0, s1, S0, S1, n, hF, hL, hM⟩
  have hlor : lo ≤ wr.heap.size := by rw [elo]; exact hL.size
  have hB := Below.refl wr.heap.size wr
  have hat := hM.at_
  have eok : peelOk seed L = ((peelS seed L).once && allZ (peelS seed L).L) := by unfold peelOk Pst.fine; rw [hok, Bool.true_and]
  have eS : resS seed L = seed := by unfold resS; rw [hok]; rfl
  have eL : resL seed L = (peelS seed L).L := by unfold resL; rw [hok]; rfl
  have hlen : (peelS seed L).L.length = L.length := Pst.run_len _ _ _
  have hf1 := peel_few1 (seed := seed) (L := L)
  have hgd : goodN ((peelS seed L).L.length : Int) = true := by rw [hlen]; exact hok
  have eP : resP seed L = if peelOk seed L then setL (peelS seed L).plus else [] := rfl
  have eM : resM seed L = if peelOk seed L then setL (peelS seed L).minus else [] := rfl
  have eN : resN seed L = if peelOk seed L then 0 else 10 := by unfold resN; rw [hok]; rfl
  rw [eS, eL, eP, eM, eN, eok]
  generalize peelS seed L = st at *
  clear eok eS eL eP eM eN
  have hTZ := tzero_ty seed st.L
  rw [hgd, Bool.true_and] at hTZ
  have htb : (Ty.tab 41 seed st.L).p wr (.agg #[.int .u64 (seed : Int), sL]) := ⟨sL, rfl, hM.tab.sl⟩
  repeat with_reducible first | refine wp_seq ?_ | refine nThen ?_ | refine xHere ?_
  refine wp_mono (Q := fun e a w' => e = .normal ∧ Fr 88 [(2, Ty.ex (.pointer (some ⟨g2, 0, none⟩))), (4, Ty.ex (.pointer (some ⟨gp, 0, none⟩))), (65, Ty.ex (.bool (!(st.once && allZ st.L))))] a w' ∧ Below wr.heap.size wr w') ?_ ?_
  · cases ho : st.once with
    | true =>
      rw [ho] at hF
      rw [Bool.true_and]
      refine' reg_all hF ?_ mixed (by kernel_rfl) ?_
      rotate_left
      · repeat (first | exact Line.nil | ((first | refine' Line.cons rfl (.run rfl rfl ?_) ?_ | refine' Line.cons rfl (.yes rfl rfl rfl rfl ?_) ?_); (any_goals (first | exact cMove rfl rfl | exact cNot rfl rfl | exact cNilOk rfl rfl | exact cPeelT rfl (.l rfl hat) | exact cLoadT46 rfl (Has.c (.t rfl) hatT) | exact cCallH1 rfl (.l rfl htb) hTZ | exact cPickF rfl rfl rfl)); rotate_left))
      intro a w50 hF hb hN
      have hBs := hB.size
      replace hB := hB.trans (hb.mono hB.size)
      dsimp only [ext, Option.getD] at hF
      exact ⟨rfl, hF.keep [2, 4, 65], hB⟩
    | false =>
      rw [ho] at hF
      rw [Bool.false_and]
      refine' reg_all hF ?_ mixed (by kernel_rfl) ?_
      rotate_left
      · repeat (first | exact Line.nil | (refine' Line.cons rfl (.no rfl rfl rfl rfl rfl rfl) ?_; rotate_left) | ((refine' Line.cons rfl (.run rfl rfl ?_) ?_); (any_goals (first | exact cMove rfl rfl | exact cNot rfl rfl | exact cPickT rfl rfl rfl)); rotate_left))
      intro a w50 hF hb hN
      have hBs := hB.size
      replace hB := hB.trans (hb.mono hB.size)
      dsimp only [ext, Option.getD] at hF
      exact ⟨rfl, hF.keep [2, 4, 65], hB⟩
  clear hF hB
  rintro e a w51 ⟨rfl, hF, hB⟩
  replace hL := hL.trans (hB.mono hlor)
  replace hM := hM.below hB
  have hat := hM.at_
  have hlo51 : lo ≤ w51.heap.size := Nat.le_trans hlor hB.size
  have hb2' : Blk w51 g2 ResT #[nilS, nilS, .int .u64 0, nilS] := (hL.block g2 hg2l).trans hb2
  clear htb
  replace hB := Below.refl w51.heap.size w51
  have hsLA := seg_isA hM.tab
  have hfin : ∀ {w'}, Below lo w2 w' → Below w.heap.size w w' := fun hl => hB0.trans (hl.mono (by rw [elo]; exact hw2))
  have hg2S : ∀ {w'}, Keeps [g2] w51 w' → SlP w' 41 sL st.L.length (flatC st.L) := fun hk => (hM.tab.keeps hk (seg_far hM.tab hb2' (by decide))).sl
  repeat with_reducible refine nThen ?_
  cases hz : (st.once && allZ st.L) with
  | false =>
    rw [hz] at hF
    simp only [Bool.false_eq_true, if_false]
    refine cond_t hF rfl ?_
    repeat with_reducible refine wp_seq ?_
    refine' region_ty 5 mixed (by kernel_rfl) hF ?_ ?_
    rotate_left
    · simp only [List.take_succ_cons, List.take_zero]
      repeat (first | exact Line.nil | ((refine' Line.cons rfl (.run rfl rfl ?_) ?_); (any_goals (first | exact cMove rfl rfl | exact cNilOk rfl rfl | exact cPeelT rfl (.l rfl hat) | exact cLoadT46 rfl (Has.c (.t rfl) hatT) | exact cBuildI rfl rfl (fun w => buildRL _ hsLA w))); rotate_left))
    intro a w52 hF hb hN
    have hBs := hB.size
    replace hB := hB.trans (hb.mono hB.size)
    simp only [List.take_succ_cons, List.take_zero, List.drop_succ_cons, List.drop_zero] at hF hN ⊢
    dsimp only [ext, Option.getD] at hF
    replace hb2' := hb2'.below hb
    replace hL := hL.trans (hb.mono hlo51)
    have hlo52 : lo ≤ w52.heap.size := Nat.le_trans hlo51 hb.size
    refine tlStoreV (Δ := [(2, Ty.ex (.pointer (some ⟨g2, 0, none⟩)))]) hF rfl rfl rfl rfl (hF.getEx (s := 70) rfl) hb2' rfl sizeRes (res_one ⟨_, _, _, rfl⟩ ⟨_, _, _, rfl⟩ hsLA) (hF.keep [2]) rfl ?_
    intro w53 hF hb2'' hkx
    have hsl := hg2S ((Keeps.of_below (S := [g2]) hb).trans hkx)
    have hB53 : Below w.heap.size w w53 := below_own (hfin hL) hkx (by intro y hy; simp only [List.mem_singleton] at hy; omega)
    replace hB := hB53
    refine' tlOp hF rfl rfl rfl ?_ ?_
    rotate_left
    · exact cAssign rfl rfl
    intro a w54 hF hb
    have hBs := hB.size
    replace hB := hB.trans (hb.mono hB.size)
    try (refine wpList_nil ?_)
    repeat with_reducible first | refine nThen ?_ | refine wp_ret ?_ | refine rThen ?_
    refine retCell2 hF rfl rfl rfl (hb2''.below hb) Tryz.underlying47 rfl sizeRes ?_
    exact ⟨_, rfl, ⟨[_, _], rfl, ⟨nilS, nilS, sL, rfl, sl_nil _ _, sl_nil _ _, (Ty.cls 41 st.L).below hsl hb⟩, rfl, trivial⟩, hB⟩
  | true =>
    rw [hz] at hF
    simp only [if_true]
    refine cond_f hF rfl ?_
    repeat with_reducible first | refine wp_seq ?_ | refine nThen ?_ | refine wp_skip ?_
    have hs0 : (Ty.sums 36 st.minus).p w51 s0 := hM.minus.sl
    have hs1 : (Ty.sums 36 st.plus).p w51 s1 := hM.plus.sl
    have hO0 := of_ty st.minus (by omega)
    have hO1 := of_ty st.plus (by omega)
    have hsl0 := hM.tab.sl
    generalize setL st.plus = P at *
    generalize setL st.minus = M at *
    refine' region_ty 17 mixed (by kernel_rfl) hF ?_ ?_
    rotate_left
    · simp only [List.take_succ_cons, List.take_zero]
      repeat (first | exact Line.nil | ((refine' Line.cons rfl (.run rfl rfl ?_) ?_); (any_goals (first | exact cMove rfl rfl | exact cNilOk rfl rfl | exact cPeelR rfl (.l rfl hat) | exact cIndexArr (k := 1) rfl (.t rfl) rfl Tryz.underlying86 sizeSS1 (by decide) | exact cIndexArr (k := 0) rfl (.t rfl) rfl Tryz.underlying86 sizeSS1 (by decide) | exact cLoad1 (u := s1) rfl (.t rfl) (pts_at _ _) Tryz.underlying31 rfl | exact cLoad1 (u := s0) rfl (.t rfl) (pts_at _ _) Tryz.underlying31 rfl | exact cCallS1 rfl (.l rfl hs1) hO1 | exact cCallS1 rfl (.l rfl hs0) hO0 | exact cPeelT rfl (.l rfl hat) | exact cLoadT46 rfl (Has.c (.t rfl) hatT) | exact cBuildRes (P := P) (M := M) (L := st.L) rfl rfl rfl rfl hsl0 rfl rfl)); rotate_left))
    intro a w52 hF hb hN
    have hBs := hB.size
    replace hB := hB.trans (hb.mono hB.size)
    simp only [List.take_succ_cons, List.take_zero, List.drop_succ_cons, List.drop_zero] at hF hN ⊢
    dsimp only [ext, Option.getD] at hF
    replace hb2' := hb2'.below hb
    replace hL := hL.trans (hb.mono hlo51)
    obtain ⟨z, ⟨p, q, s', rfl, k1, k2, k3⟩, hF⟩ := hF.open (s := 87) rfl
    refine tlStoreV (Δ := [(2, Ty.ex (.pointer (some ⟨g2, 0, none⟩)))]) hF rfl rfl rfl rfl (hF.getEx (s := 87) rfl) hb2' rfl sizeRes (res_one (sl_isA k1) (sl_isA k2) (sl_isA k3)) (hF.keep [2]) rfl ?_
    intro w53 hF hb2'' hkx
    have hres : (Ty.res P M seed st.L).p w53 (.agg #[p, q, .int .u64 (seed : Int), s']) := (Ty.res P M seed st.L).far (by exact ⟨p, q, s', rfl, k1, k2, k3⟩) hkx hb2' rfl
    have hB53 : Below w.heap.size w w53 := below_own (hfin hL) hkx (by intro y hy; simp only [List.mem_singleton] at hy; omega)
    replace hB := hB53
    refine' tlOp hF rfl rfl rfl ?_ ?_
    rotate_left
    · exact cAssign rfl rfl
    intro a w54 hF hb
    have hBs := hB.size
    replace hB := hB.trans (hb.mono hB.size)
    try (refine wpList_nil ?_)
    repeat with_reducible first | refine nThen ?_ | refine wp_ret ?_
    refine retCell2 hF rfl rfl rfl (hb2''.below hb) Tryz.underlying47 rfl sizeRes ?_
    exact ⟨_, rfl, ⟨[_, _], rfl, (Ty.res P M seed st.L).below hres hb, rfl, trivial⟩, hB⟩
end Go.Proofs.YtmlbkcpmgcjblaaGreat

/- Layer 15 by types: TableKnown. -/
namespace Go.Proofs.YtmlbkcpmgcjblaaGreat
open Go.RowKit

theorem minL_good {s t : Nat} {A B : List Cl} (h : minOk s t A B = true) : minL s t A B = tminus A B := by unfold minL; rw [h]; rfl
theorem minS_good {s t : Nat} {A B : List Cl} (h : minOk s t A B = true) : minS s t A B = s := by unfold minS; rw [h]; rfl
theorem minE_good {s t : Nat} {A B : List Cl} (h : minOk s t A B = true) : minE s t A B = .int .i64 0 := by unfold minE; rw [h]; rfl
end Go.Proofs.YtmlbkcpmgcjblaaGreat

/- peel.Own by types. -/
namespace Go.Proofs.YtmlbkcpmgcjblaaGreat
open Go.RowKit

/-- The address of a result that is read. -/
def Ty.resA (P M : List Sm) (sd : Nat) (L : List Cl) : Ty := ⟨fun w v => ∃ p q s, (Ty.at_ ResT [p, q, .int .u64 (sd : Int), s]).p w v ∧ SlP w 36 p P.length (flat P) ∧ SlP w 36 q M.length (flat M) ∧ SlP w 41 s L.length (flatC L), fun t => t == ResT || (t == 36 || t == 41), fun {w w' v G} ⟨p, q, s, h1, h2, h3, h4⟩ k hA => by
  have a0 : Apart w G (fun t => t == ResT) := fun b hb hl => let ⟨cs, t, fr, k1, k2⟩ := hA b hb hl; ⟨cs, t, fr, k1, by simp only [Bool.or_eq_false_iff] at k2; exact k2.1⟩
  have a1 : Apart w G (fun t => t == 36) := fun b hb hl => let ⟨cs, t, fr, k1, k2⟩ := hA b hb hl; ⟨cs, t, fr, k1, by simp only [Bool.or_eq_false_iff] at k2; exact k2.2.1⟩
  have a2 : Apart w G (fun t => t == 41) := fun b hb hl => let ⟨cs, t, fr, k1, k2⟩ := hA b hb hl; ⟨cs, t, fr, k1, by simp only [Bool.or_eq_false_iff] at k2; exact k2.2.2⟩
  exact ⟨p, q, s, (Ty.at_ ResT _).st h1 k a0, (Ty.sums 36 P).st h2 k a1, (Ty.sums 36 M).st h3 k a1, (Ty.cls 41 L).st h4 k a2⟩⟩
section
variable {ops : Array Oper} {Q : Exit → Act → World → Prop} {N : Nat} {Γ : Ctx} {a : Act} {w : World} {o1 o2 : Oper} {rest : List Oper}
theorem tlNewRes {p q : Nat} {P M : List Sm} {seed : Nat} {L : List Cl} (hF : Fr N Γ a w) (h1 : o1.op = .alloc ResT) (hg1 : o1.guard = none) (hd1 : o1.dst = some p) (hp : p < N) (hpq : Nat.beq p q = false)
    (h2 : o2.op = .store ResT (.tmp p) (.tmp q)) (hg2 : o2.guard = none) (hd2 : o2.dst = none) (hq : look Γ q = some (Ty.res P M seed L))
    (hk : ∀ a' w', Fr N ((p, Ty.resA P M seed L) :: Γ) a' w' → Below w.heap.size w w' → wpList Tryz.prog ops Q rest a' w') : wpList Tryz.prog ops Q (o1 :: o2 :: rest) a w := by
  obtain ⟨v, ⟨x, y, s, rfl, k1, k2, k3⟩, hFo⟩ := hF.open hq
  refine wpList_plain hg1 fun K hK => ?_
  unfold Oper.wp execOp
  simp only [h1, Sem.run_bind, run_alloc_i infoRes, Result.andThen_ok, Sem.run_pure]
  refine hK _ _ ?_
  rw [hd1]
  have hb1 : Below w.heap.size w (w.alloc (.cells #[nilS, nilS, .int .u64 0, nilS] ResT)) := ((Keeps.refl [] w).alloc _).below
  have hF1 : Fr N ((p, Ty.ex (.pointer (some ⟨w.heap.size, 0, none⟩))) :: (q, Ty.ex (.agg #[x, y, .int .u64 (seed : Int), s])) :: Γ) (a.put (some p) (.pointer (some ⟨w.heap.size, 0, none⟩))) (w.alloc (.cells #[nilS, nilS, .int .u64 0, nilS] ResT)) := hFo.put hp hb1 rfl
  have hv3 := hF1.getEx (s := q) (v := .agg #[x, y, .int .u64 (seed : Int), s]) (by rw [look]; simp only [hpq, cond_false]; exact look_same _ _ _)
  refine tlStoreV (Δ := []) hF1 hg2 hd2 h2 (look_same _ _ _) hv3 (Blk.new w _ _) rfl (by rw [sizeRes]; rfl) (res_one (sl_isA k1) (sl_isA k2) (sl_isA k3)) (hF1.keep []) rfl ?_
  intro w' _ hb' hkx
  have hB := below_own hb1 hkx (by intro y hy; simp only [List.mem_singleton] at hy; omega)
  refine hk _ _ (hF.put hp hB ⟨x, y, s, ⟨w.heap.size, 0, _, (0, 0), rfl, hb', fun j u h => by simpa [Value.cells] using h⟩, (Ty.sums 36 P).below k1 hB, (Ty.sums 36 M).below k2 hB, (Ty.cls 41 L).below k3 hB⟩) hB
end
section
variable {w0 : World} {Γ : Ctx} {o : Oper} {x : Operand} {e : TypeId} {xs : List Value}
theorem sizeSL1 : (Tryz.prog.info? 32).map (·.size) = some 1 := by kernel_rfl
theorem cResP (ho : o.op = .fieldAddr ResT x 0) (hx : Has w0 Γ x (Ty.at_ e xs)) : OpOk Tryz.prog w0 Γ o (Ty.at_ e xs) :=
  (cFieldE (P := Tryz.prog) ho hx Tryz.underlying47 rfl sizeSL1).conv fun _ _ h => h
theorem cResM (ho : o.op = .fieldAddr ResT x 1) (hx : Has w0 Γ x (Ty.at_ e xs)) : OpOk Tryz.prog w0 Γ o (Ty.at_ e (xs.drop 1)) :=
  cFieldE (P := Tryz.prog) ho hx Tryz.underlying47 rfl sizeSL1
end
theorem sums_nil (w : World) : (Ty.sums 36 []).p w nilS := sl_nil w 36
theorem own_min {seed : Nat} {L : List Cl} {M : List Sm} (hg : goodN (L.length : Int) = true) : minOk seed seed L (ofL seed (L.length : Int) M) = true := minOk_good hg (ofL_len' hg).symm
set_option maxRecDepth 100000 in
set_option maxHeartbeats 4000000 in
theorem own_ty (seed : Nat) (L : List Cl) (M : List Sm) (hM : M.length ≤ 1000000) (hsd : seed < 18446744073709551616) : Fn2 Tryz.prog 12 (Ty.tab 41 seed L) (Ty.sums 36 M) (Ty.tup [Ty.sums 36 (ownP seed L M), Ty.sums 36 (ownQ seed L M), Ty.ex (.int .i64 (ownN seed L M))]) := by
  refine ⟨fun args w => by kernel_rfl, fun w v u ⟨s, hv, hs⟩ hu => ?_⟩
  subst hv
  have hG := tgood_ty seed L
  have hGd := good_ty M hM
  have eN := ownN.eq_1 seed L M
  refine enter_ty 63 [Ty.ex (.agg #[.int .u64 (seed : Int), s]), Ty.ex u] Tryz.func12 rfl (by kernel_rfl) ⟨rfl, rfl, trivial⟩ fun a hF => ?_
  have hB := Below.refl w.heap.size w
  let TL := Ty.cls 41 L
  let TM := Ty.sums 36 M
  repeat with_reducible refine wp_seq ?_
  refine' reg_all hF ?_ mixed (by kernel_rfl) ?_
  rotate_left
  · repeat (first | exact Line.nil | ((refine' Line.cons rfl (.run rfl rfl ?_) ?_); (any_goals (first | exact cAssign rfl rfl | exact cBoxTab rfl rfl)); rotate_left))
  intro a w1 hF hb hN
  have hBs := hB.size
  replace hB := hB.trans (hb.mono hB.size)
  dsimp only [ext, Option.getD] at hF
  repeat with_reducible first | refine wp_seq ?_ | refine nThen ?_
  have hs1 := TL.below hs hB
  have hu1 := TM.below hu hB
  have ht1 : (Ty.tab 41 seed L).p w1 (.agg #[.int .u64 (seed : Int), s]) := ⟨s, rfl, hs1⟩
  refine wp_mono (Q := fun e a w' => e = .normal ∧ Fr 63 [(1, Ty.ex u), (2, Ty.at_ 27 [.int .u64 (seed : Int), s]), (20, Ty.ex (.bool (!(goodN (L.length : Int) && goodL M))))] a w' ∧ Below w.heap.size w w') ?_ ?_
  · cases hg : goodN (L.length : Int) with
    | false =>
      rw [hg] at hG
      rw [Bool.false_and]
      refine' reg_all hF ?_ mixed (by kernel_rfl) ?_
      rotate_left
      · repeat (first | exact Line.nil | (refine' Line.cons rfl (.no rfl rfl rfl rfl rfl rfl) ?_; rotate_left) | ((refine' Line.cons rfl (.run rfl rfl ?_) ?_); (any_goals (first | exact cMove rfl rfl | exact cNot rfl rfl | exact cLoadT46 rfl (.t rfl) | exact cCallH1 rfl (.l rfl ht1) hG | exact cPickT rfl rfl rfl)); rotate_left))
      intro a w2 hF hb hN
      have hBs := hB.size
      replace hB := hB.trans (hb.mono hB.size)
      dsimp only [ext, Option.getD] at hF
      exact ⟨rfl, hF.keep [1, 2, 20], hB⟩
    | true =>
      rw [hg] at hG
      rw [Bool.true_and]
      refine' reg_all hF ?_ mixed (by kernel_rfl) ?_
      rotate_left
      · repeat (first | exact Line.nil | ((first | refine' Line.cons rfl (.run rfl rfl ?_) ?_ | refine' Line.cons rfl (.yes rfl rfl rfl rfl ?_) ?_); (any_goals (first | exact cMove rfl rfl | exact cNot rfl rfl | exact cLoadT46 rfl (.t rfl) | exact cCallH1 rfl (.l rfl ht1) hG | exact cCallH1 rfl (.l rfl hu1) hGd | exact cPickF rfl rfl rfl)); rotate_left))
      intro a w2 hF hb hN
      have hBs := hB.size
      replace hB := hB.trans (hb.mono hB.size)
      dsimp only [ext, Option.getD] at hF
      exact ⟨rfl, hF.keep [1, 2, 20], hB⟩
  clear hF hB hs1 hu1 ht1
  rintro e a w2 ⟨rfl, hF, hB⟩
  repeat with_reducible refine nThen ?_
  cases hok : (goodN (L.length : Int) && goodL M) with
  | false =>
    rw [hok] at hF eN
    rw [if_neg (by decide)] at eN
    rw [show ownP seed L M = [] by unfold ownP; rw [eN]; rfl, show ownQ seed L M = [] by unfold ownQ; rw [eN]; rfl, eN]
    refine cond_t hF rfl ?_
    repeat with_reducible refine wp_seq ?_
    refine' reg_all hF ?_ mixed (by kernel_rfl) ?_
    rotate_left
    · repeat (first | exact Line.nil | ((refine' Line.cons rfl (.run rfl rfl ?_) ?_); (any_goals exact cAssign rfl rfl); rotate_left))
    intro a w3 hF hb hN
    have hBs := hB.size
    replace hB := hB.trans (hb.mono hB.size)
    dsimp only [ext, Option.getD] at hF
    repeat with_reducible first | refine nThen ?_ | refine wp_ret ?_ | refine rThen ?_
    refine ret3 hF rfl rfl rfl rfl fun a b c ha hb hc => ?_
    exact ⟨_, rfl, ⟨[a, b, c], rfl, by rw [show a = nilS from ha]; exact sums_nil _, by rw [show b = nilS from hb]; exact sums_nil _, hc, trivial⟩, hB⟩
  | true =>
  rw [hok] at hF eN
  rw [if_pos rfl] at eN
  simp only [Bool.and_eq_true] at hok
  obtain ⟨hgd, _⟩ := hok
  have o1 := tof_ty seed (L.length : Int) M hM hsd
  rw [newE_good hgd, newS_good hgd] at o1
  have m1 := tminus_ty seed seed L (ofL seed (L.length : Int) M)
  have k1 := own_min (seed := seed) (M := M) hgd
  rw [minL_good k1, minS_good k1, minE_good k1] at m1
  have eD : tminus L (ofL seed (L.length : Int) M) = ownD seed L M := rfl
  rw [eD] at m1
  have hDl := ownD_len (seed := seed) (M := M) hgd
  have hAll := pall_ty seed (ownD seed L M) hsd
  have eB := ownB.eq_1 seed L M
  have eP : ownP seed L M = if ownN seed L M = 0 then resP seed (ownD seed L M) else [] := rfl
  have eQ : ownQ seed L M = if ownN seed L M = 0 then resM seed (ownD seed L M) else [] := rfl
  rw [eP, eQ, eN, eB]
  clear eP eQ eN eB eD k1
  have hPl := resP_len (seed := seed) (L := ownD seed L M)
  have hQl := resM_len (seed := seed) (L := ownD seed L M)
  generalize ownD seed L M = D at *
  generalize ofL seed (L.length : Int) M = O at *
  generalize resN seed D = en at *
  generalize resP seed D = P at *
  generalize resM seed D = K at *
  generalize resS seed D = sd at *
  generalize resL seed D = RL at *
  have hmn := minus_ty K M (by omega) hM
  have hbt := both_ty P M (by omega) hM
  refine cond_f hF rfl ?_
  repeat with_reducible first | refine wp_seq ?_ | refine nThen ?_ | refine wp_skip ?_
  have hs2 := TL.below hs hB
  have hu2 := TM.below hu hB
  have ht2 : (Ty.tab 41 seed L).p w2 (.agg #[.int .u64 (seed : Int), s]) := ⟨s, rfl, hs2⟩
  refine wp_region_lit ?_
  refine' tlOp hF rfl rfl rfl ?_ ?_
  rotate_left
  · exact cFldS46 rfl (.t rfl)
  intro a w5_0 hF hb
  replace hB := hB.trans (hb.mono hB.size)
  refine' tlOp hF rfl rfl rfl ?_ ?_
  rotate_left
  · exact cLoadU64 rfl (.t rfl)
  intro a w5_1 hF hb
  replace hB := hB.trans (hb.mono hB.size)
  refine' tlOp hF rfl rfl rfl ?_ ?_
  rotate_left
  · exact cFldL46 rfl (.t rfl)
  intro a w5_2 hF hb
  replace hB := hB.trans (hb.mono hB.size)
  refine' tlOp hF rfl rfl rfl ?_ ?_
  rotate_left
  · exact cRowOf46 rfl (.t rfl)
  intro a w5_3 hF hb
  replace hB := hB.trans (hb.mono hB.size)
  refine' tlOp hF rfl rfl rfl ?_ ?_
  rotate_left
  · exact cLenH rfl (.l rfl (TL.below hs hB)) (Ty.sl_isSl _ _ _) Tryz.underlying24
  intro a w5_4 hF hb
  replace hB := hB.trans (hb.mono hB.size)
  refine' tlOp hF rfl rfl rfl ?_ ?_
  rotate_left
  · exact cMove rfl rfl
  intro a w5_5 hF hb
  replace hB := hB.trans (hb.mono hB.size)
  refine' tlOp hF rfl rfl rfl ?_ ?_
  rotate_left
  · exact cCallR3 rfl (.t rfl) (.t rfl) (.l rfl (TM.below hu hB)) o1 (tabE_olds _ _ _ _)
  intro a w5_6 hF hb
  replace hB := hB.trans (hb.mono hB.size)
  refine' tlOp hF rfl rfl rfl ?_ ?_
  rotate_left
  · exact cMove rfl rfl
  intro a w5_7 hF hb
  replace hB := hB.trans (hb.mono hB.size)
  refine' tlOp hF rfl rfl rfl ?_ ?_
  rotate_left
  · exact cExtT rfl rfl
  intro a w5_t hF hb
  replace hB := hB.trans (hb.mono hB.size)
  refine' tlOp hF rfl rfl rfl ?_ ?_
  rotate_left
  · exact cExtE rfl rfl
  intro a w5_e hF hb
  replace hB := hB.trans (hb.mono hB.size)
  refine tlNewTab hF rfl rfl rfl (by decide) rfl (run_alloc_i infoT46) rfl rfl rfl rfl tabO_tab sizeT46 fun a w5_n hF hb => ?_
  replace hB := hB.trans (hb.mono hB.size)
  refine' tlOp hF rfl rfl rfl ?_ ?_
  rotate_left
  · exact cAssign rfl rfl
  intro a w5 hF hb
  replace hB := hB.trans (hb.mono hB.size)
  try (refine wpList_nil ?_)
  repeat with_reducible first | refine wp_seq ?_ | refine nThen ?_
  refine wp_region_lit ?_
  refine' tlOp hF rfl rfl rfl ?_ ?_
  rotate_left
  · exact cLoadT46 rfl (.t rfl)
  intro a w6_0 hF hb
  replace hB := hB.trans (hb.mono hB.size)
  refine' tlOp hF rfl rfl rfl ?_ ?_
  rotate_left
  · exact cLoadTab46 rfl (.t rfl)
  intro a w6_1 hF hb
  replace hB := hB.trans (hb.mono hB.size)
  refine' tlOp hF rfl rfl rfl ?_ ?_
  rotate_left
  · exact cCallR2 rfl (Has.l (τ := Ty.tab 41 seed L) rfl ⟨s, rfl, TL.below hs hB⟩) (.t rfl) m1 (tabE_olds _ _ _ _)
  intro a w6_2 hF hb
  replace hB := hB.trans (hb.mono hB.size)
  refine' tlOp hF rfl rfl rfl ?_ ?_
  rotate_left
  · exact cMove rfl rfl
  intro a w6_3 hF hb
  replace hB := hB.trans (hb.mono hB.size)
  refine' tlOp hF rfl rfl rfl ?_ ?_
  rotate_left
  · exact cExtT rfl rfl
  intro a w6_t hF hb
  replace hB := hB.trans (hb.mono hB.size)
  refine' tlOp hF rfl rfl rfl ?_ ?_
  rotate_left
  · exact cExtE rfl rfl
  intro a w6_e hF hb
  replace hB := hB.trans (hb.mono hB.size)
  refine tlNewTab hF rfl rfl rfl (by decide) rfl (run_alloc_i infoT46) rfl rfl rfl rfl tabO_tab sizeT46 fun a w6_n hF hb => ?_
  replace hB := hB.trans (hb.mono hB.size)
  refine' tlOp hF rfl rfl rfl ?_ ?_
  rotate_left
  · exact cAssign rfl rfl
  intro a w6 hF hb
  replace hB := hB.trans (hb.mono hB.size)
  try (refine wpList_nil ?_)
  repeat with_reducible first | refine wp_seq ?_ | refine nThen ?_
  refine wp_region_lit ?_
  refine' tlOp hF rfl rfl rfl ?_ ?_
  rotate_left
  · exact cLoadTab46 rfl (.t rfl)
  intro a w7_0 hF hb
  replace hB := hB.trans (hb.mono hB.size)
  refine' tlOp hF rfl rfl rfl ?_ ?_
  rotate_left
  · exact cCall1 rfl rfl hAll
  intro a w7_1 hF hb
  replace hB := hB.trans (hb.mono hB.size)
  refine' tlOp hF rfl rfl rfl ?_ ?_
  rotate_left
  · exact cMove rfl rfl
  intro a w7_2 hF hb
  replace hB := hB.trans (hb.mono hB.size)
  refine' tlOp hF rfl rfl rfl ?_ ?_
  rotate_left
  · exact cExtract rfl rfl rfl
  intro a w7_t hF hb
  replace hB := hB.trans (hb.mono hB.size)
  refine' tlOp hF rfl rfl rfl ?_ ?_
  rotate_left
  · exact cExtract rfl rfl rfl
  intro a w7_e hF hb
  replace hB := hB.trans (hb.mono hB.size)
  refine tlNewRes hF rfl rfl rfl (by decide) rfl rfl rfl rfl rfl fun a w7_n hF hb => ?_
  replace hB := hB.trans (hb.mono hB.size)
  refine' tlOp hF rfl rfl rfl ?_ ?_
  rotate_left
  · exact cAssign rfl rfl
  intro a w7 hF hb
  replace hB := hB.trans (hb.mono hB.size)
  try (refine wpList_nil ?_)
  repeat with_reducible first | refine wp_seq ?_ | refine nThen ?_ | refine wp_block ?_
  obtain ⟨v11, ⟨p, q, s', hat, r1, r2, r3⟩, hF⟩ := hF.open (s := 11) rfl
  have hu7 := TM.below hu hB
  clear r3 ht2 hs2 hu2
  by_cases h0 : en = 0
  rotate_left
  · rw [if_neg h0]
    rw [if_neg (show ¬ en = 0 from h0), if_neg (show ¬ en = 0 from h0)]
    refine' reg_all hF ?_ mixed (by kernel_rfl) ?_
    rotate_left
    · repeat (first | exact Line.nil | ((refine' Line.cons rfl (.run rfl rfl ?_) ?_); (any_goals (first | exact cMove rfl rfl | exact cAssign rfl rfl | exact OpOk.b (c := true) (cNeq rfl rfl rfl) (by rw [decide_eq_false h0]; rfl))); rotate_left))
    intro a w8 hF hb hN
    have hBs := hB.size
    replace hB := hB.trans (hb.mono hB.size)
    dsimp only [ext, Option.getD] at hF
    repeat with_reducible refine nThen ?_
    refine cond_t hF rfl ?_
    repeat with_reducible refine wp_seq ?_
    refine' reg_all hF ?_ mixed (by kernel_rfl) ?_
    rotate_left
    · repeat (first | exact Line.nil | ((refine' Line.cons rfl (.run rfl rfl ?_) ?_); (any_goals (first | exact cMove rfl rfl | exact cAssign rfl rfl)); rotate_left))
    intro a w9 hF hb hN
    have hBs := hB.size
    replace hB := hB.trans (hb.mono hB.size)
    dsimp only [ext, Option.getD] at hF
    repeat with_reducible first | refine nThen ?_ | refine wp_ret ?_ | refine rThen ?_ | refine rBlk ?_
    refine ret3 hF rfl rfl rfl rfl fun a b c ha hb hc => ?_
    exact ⟨_, rfl, ⟨[a, b, c], rfl, by rw [show a = nilS from ha]; exact sums_nil _, by rw [show b = nilS from hb]; exact sums_nil _, hc, trivial⟩, hB⟩
  rw [if_pos h0]
  refine' reg_all hF ?_ mixed (by kernel_rfl) ?_
  rotate_left
  · repeat (first | exact Line.nil | ((refine' Line.cons rfl (.run rfl rfl ?_) ?_); (any_goals (first | exact cMove rfl rfl | exact cAssign rfl rfl | exact OpOk.b (c := false) (cNeq rfl rfl rfl) (by rw [decide_eq_true h0]; rfl))); rotate_left))
  intro a w8 hF hb hN
  have hBs := hB.size
  replace hB := hB.trans (hb.mono hB.size)
  dsimp only [ext, Option.getD] at hF
  repeat with_reducible refine nThen ?_
  refine cond_f hF rfl ?_
  repeat with_reducible refine wp_seq ?_
  have hat8 := (Ty.at_ ResT [p, q, .int .u64 (sd : Int), s']).below hat hb
  have r18 := (Ty.sums 36 P).below r1 hb
  have r28 := (Ty.sums 36 K).below r2 hb
  have hu8 := TM.below hu7 hb
  have e1 : decide ((0 : Int) < ((minusL K M).length : Int)) = decide (0 < (minusL K M).length) := decide_eq_decide.2 (by omega)
  have e2 : decide ((0 : Int) < ((bothL P M).length : Int)) = decide (0 < (bothL P M).length) := decide_eq_decide.2 (by omega)
  refine' reg_all hF ?_ mixed (by kernel_rfl) ?_
  rotate_left
  · repeat (first | exact Line.nil | ((refine' Line.cons rfl (.run rfl rfl ?_) ?_); (any_goals (first | exact cMove rfl rfl | exact cAssign rfl rfl | exact cResM rfl (.l rfl hat8) | exact cLoad1 (u := q) rfl (.t rfl) (pts_at _ _) Tryz.underlying32 rfl | exact cCallS2 rfl (.l rfl r28) (.l rfl hu8) hmn | exact cLenH rfl (.t rfl) (Ty.seg_isSl _ _ _ _ _) Tryz.underlying32 | exact OpOk.b (cGtr rfl rfl rfl) e1)); rotate_left))
  intro a w9 hF hb hN
  have hBs := hB.size
  replace hB := hB.trans (hb.mono hB.size)
  dsimp only [ext, Option.getD] at hF
  repeat with_reducible refine nThen ?_
  have hat9 := (Ty.at_ ResT [p, q, .int .u64 (sd : Int), s']).below hat8 hb
  have r19 := (Ty.sums 36 P).below r18 hb
  have r29 := (Ty.sums 36 K).below r28 hb
  have hu9 := TM.below hu8 hb
  have hB9 := hB
  replace hB := Below.refl w9.heap.size w9
  refine wp_mono (Q := fun e a w' => e = .normal ∧ Fr 63 [(11, Ty.ex v11), (46, Ty.ex (.bool (decide (0 < (minusL K M).length) || decide (0 < (bothL P M).length))))] a w' ∧ Below w9.heap.size w9 w') ?_ ?_
  · cases hA : decide (0 < (minusL K M).length) with
    | true =>
      rw [hA] at hF
      rw [Bool.true_or]
      refine cond_t hF rfl ?_
      repeat with_reducible refine wp_skip ?_
      exact ⟨rfl, hF.keep [11, 46], hB⟩
    | false =>
      rw [hA] at hF
      rw [Bool.false_or]
      refine cond_f hF rfl ?_
      refine' reg_all hF ?_ mixed (by kernel_rfl) ?_
      rotate_left
      · repeat (first | exact Line.nil | ((refine' Line.cons rfl (.run rfl rfl ?_) ?_); (any_goals (first | exact cMove rfl rfl | exact cAssign rfl rfl | exact cResP rfl (.l rfl hat9) | exact cLoad1 (u := p) rfl (.t rfl) (pts_at _ _) Tryz.underlying32 rfl | exact cCallS2 rfl (.l rfl r19) (.l rfl hu9) hbt | exact cLenH rfl (.t rfl) (Ty.seg_isSl _ _ _ _ _) Tryz.underlying32 | exact OpOk.b (cGtr rfl rfl rfl) e2)); rotate_left))
      intro a w10 hF hb hN
      have hBs := hB.size
      replace hB := hB.trans (hb.mono hB.size)
      dsimp only [ext, Option.getD] at hF
      exact ⟨rfl, hF.keep [11, 46], hB⟩
  clear hF hB
  rintro e a w10 ⟨rfl, hF, hb⟩
  have hB := hB9.trans (hb.mono hB9.size)
  replace hat9 := (Ty.at_ ResT [p, q, .int .u64 (sd : Int), s']).below hat9 hb
  replace r19 := (Ty.sums 36 P).below r19 hb
  replace r29 := (Ty.sums 36 K).below r29 hb
  repeat with_reducible refine nThen ?_
  cases hbad : (decide (0 < (minusL K M).length) || decide (0 < (bothL P M).length)) with
  | true =>
    rw [hbad] at hF
    refine cond_t hF rfl ?_
    repeat with_reducible refine wp_seq ?_
    refine' reg_all hF ?_ mixed (by kernel_rfl) ?_
    rotate_left
    · repeat (first | exact Line.nil | ((refine' Line.cons rfl (.run rfl rfl ?_) ?_); (any_goals exact cAssign rfl rfl); rotate_left))
    intro a w11 hF hb hN
    have hBs := hB.size
    replace hB := hB.trans (hb.mono hB.size)
    dsimp only [ext, Option.getD] at hF
    repeat with_reducible first | refine nThen ?_ | refine wp_ret ?_ | refine rThen ?_ | refine rBlk ?_
    refine ret3 hF rfl rfl rfl rfl fun a b c ha hb hc => ?_
    exact ⟨_, rfl, ⟨[a, b, c], rfl, by rw [show a = nilS from ha]; exact sums_nil _, by rw [show b = nilS from hb]; exact sums_nil _, hc, trivial⟩, hB⟩
  | false =>
    rw [hbad] at hF
    refine cond_f hF rfl ?_
    repeat with_reducible first | refine wp_seq ?_ | refine nThen ?_ | refine nBlk ?_ | refine wp_skip ?_
    refine' reg_all hF ?_ mixed (by kernel_rfl) ?_
    rotate_left
    · repeat (first | exact Line.nil | ((refine' Line.cons rfl (.run rfl rfl ?_) ?_); (any_goals (first | exact cAssign rfl rfl | exact cResP rfl (.l rfl hat9) | exact cResM rfl (.l rfl hat9) | exact cLoad1 (u := p) rfl (.t rfl) (pts_at _ _) Tryz.underlying32 rfl | exact cLoad1 (u := q) rfl (.t rfl) (pts_at _ _) Tryz.underlying32 rfl)); rotate_left))
    intro a w11 hF hb hN
    have hBs := hB.size
    replace hB := hB.trans (hb.mono hB.size)
    dsimp only [ext, Option.getD] at hF
    repeat with_reducible first | refine nThen ?_ | refine wp_ret ?_
    refine ret3 hF rfl rfl rfl rfl fun a b c ha hb' hc => ?_
    exact ⟨_, rfl, ⟨[a, b, c], rfl, by rw [show a = p from ha]; exact (Ty.sums 36 P).below r19 hb, by rw [show b = q from hb']; exact (Ty.sums 36 K).below r29 hb, hc, trivial⟩, hB⟩
end Go.Proofs.YtmlbkcpmgcjblaaGreat

/- Layer 16 by types: awake, PeelSelf, PeelOne, PeelRoom. -/
namespace Go.Proofs.YtmlbkcpmgcjblaaGreat
open Go.RowKit

theorem few12 : ¬ fewS 1 = fewS 2 := fun h => absurd (congrArg Sm.l h) (by decide +kernel)
theorem few13 : ¬ fewS 1 = fewS 3 := fun h => absurd (congrArg Sm.l h) (by decide +kernel)
theorem few23 : ¬ fewS 2 = fewS 3 := fun h => absurd (congrArg Sm.l h) (by decide +kernel)
theorem few_place : (isAt 5 30 6 (fewS 1) != isAt 5 30 6 (fewS 3)) = true := by decide +kernel
/-- Two and two, one of them in both. -/
theorem less_two {a b c : Sm} (hab : ¬ a = b) (hac : ¬ a = c) (hbc : ¬ b = c) : minusL (setL [a, b]) (setL [b, c]) = [a] ∧ minusL (setL [b, c]) (setL [a, b]) = [c] := by
  constructor
  · refine srt_ext (minusL_srt _ _) (s_one _) fun x => ?_
    rw [minusL_mem, setL_mem, setL_mem]
    simp only [List.mem_cons, List.not_mem_nil, or_false, not_or]
    constructor
    · rintro ⟨h1 | h1, h2, h3⟩
      · exact h1
      · exact absurd h1 h2
    · rintro rfl
      exact ⟨.inl rfl, hab, hac⟩
  · refine srt_ext (minusL_srt _ _) (s_one _) fun x => ?_
    rw [minusL_mem, setL_mem, setL_mem]
    simp only [List.mem_cons, List.not_mem_nil, or_false, not_or]
    constructor
    · rintro ⟨h1 | h1, h2, h3⟩
      · exact absurd h1 h3
      · exact h1
    · rintro rfl
      exact ⟨.inr rfl, fun h => hac h.symm, fun h => hbc h.symm⟩
theorem fewL_one (z : Int) : fewL [z] = [fewS z] := setL_self (s_one _)
theorem fewL_srt (l : List Int) : srt (fewL l) := setL_srt _
theorem same_one (x : Sm) : sameL [x] [x] = true := sameL_true (s_one _) (by simp) rfl
theorem g30 : goodN 30 = true := by decide
set_option maxRecDepth 100000 in
set_option maxHeartbeats 2000000 in
theorem awake16_ty : Fn0 Tryz.prog 4 (Ty.ex (.bool true)) := by
  refine ⟨fun args w => by kernel_rfl, fun w => ?_⟩
  have f12 := few16_ty [1, 2] (Ty.sl 3 2 [ivz 1, ivz 2]) (reads_sl _ _ _) (by simp)
  have f23 := few16_ty [2, 3] (Ty.sl 3 2 [ivz 2, ivz 3]) (reads_sl _ _ _) (by simp)
  have f1 := few16_ty [1] (Ty.sl 3 1 [ivz 1]) (reads_sl _ _ _) (by simp)
  have f3 := few16_ty [3] (Ty.sl 3 1 [ivz 3]) (reads_sl _ _ _) (by simp)
  rw [fewL_one] at f1 f3
  obtain ⟨hl1, hl2⟩ := less_two few12 few13 few23
  have l12 := fewL_len [1, 2]
  have l23 := fewL_len [2, 3]
  have s12 := fewL_srt [1, 2]
  have s23 := fewL_srt [2, 3]
  obtain ⟨_, e0, e1, e2⟩ := two16 (seed := 5) (n := 30) (X := fewL [1, 2]) (Y := fewL [2, 3]) g30 s23 (by simp at l23; omega) hl1 hl2 (j := 6) (by decide) few_place
  have o1 := tof_ty 5 30 (fewL [1, 2]) (by simp at l12; omega) (by omega)
  rw [newE_good g30, newS_good g30] at o1
  have hO := own_ty 5 (ofL 5 30 (fewL [1, 2])) (fewL [2, 3]) (by simp at l23; omega) (by omega)
  rw [e0, e1, e2] at hO
  have m1 := same_ty [fewS 1] [fewS 1] (by simp) (by simp)
  have m3 := same_ty [fewS 3] [fewS 3] (by simp) (by simp)
  rw [same_one] at m1 m3
  clear hl1 hl2 l12 l23 s12 s23 e0 e1 e2
  generalize ofL 5 30 (fewL [1, 2]) = A at *
  generalize fewL [1, 2] = X at *
  generalize fewL [2, 3] = Y at *
  generalize fewS 1 = x1 at *
  generalize fewS 3 = x3 at *
  refine enter_ty 38 [] Tryz.func4 rfl (by kernel_rfl) trivial fun a hF => ?_
  have hB := Below.refl w.heap.size w
  repeat with_reducible refine wp_seq ?_
  refine' reg_all hF ?_ mixed (by kernel_rfl) ?_
  rotate_left
  · repeat (first | exact Line.nil | ((refine' Line.cons rfl (.run rfl rfl ?_) ?_); (any_goals exact cAssign rfl rfl); rotate_left))
  intro a w1 hF hb hN
  have hBs := hB.size
  replace hB := hB.trans (hb.mono hB.size)
  dsimp only [ext, Option.getD] at hF
  repeat with_reducible first | refine wp_seq ?_ | refine nThen ?_
  refine' reg_all hF ?_ mixed (by kernel_rfl) ?_
  rotate_left
  · repeat (first | exact Line.nil | ((refine' Line.cons rfl (.run rfl rfl ?_) ?_); (any_goals (first | exact cAssign rfl rfl | exact cBuildV (vs := [ivz 1, ivz 2]) rfl (parts2v rfl rfl rfl) Tryz.underlying23 infoInt rfl (by simp [Value.cells, ivz]) (by decide) (by simp [maxLen]) | exact cBuildV (vs := [ivz 2, ivz 3]) rfl (parts2v rfl rfl rfl) Tryz.underlying23 infoInt rfl (by simp [Value.cells, ivz]) (by decide) (by simp [maxLen]) | exact cCallS1 rfl (.t rfl) f12 | exact cCallS1 rfl (.t rfl) f23)); rotate_left))
  intro a w2 hF hb hN
  have hBs := hB.size
  replace hB := hB.trans (hb.mono hB.size)
  dsimp only [ext, Option.getD] at hF
  repeat with_reducible first | refine wp_seq ?_ | refine nThen ?_
  refine wp_region_lit ?_
  refine' tlOp hF rfl rfl rfl ?_ ?_
  rotate_left
  · exact cMove rfl rfl
  intro a w3_0 hF hb
  replace hB := hB.trans (hb.mono hB.size)
  refine' tlOp hF rfl rfl rfl ?_ ?_
  rotate_left
  · exact cCallR3 rfl (.t rfl) (.t rfl) (Has.c (.t rfl) seg_sl) o1 (tabE_olds _ _ _ _)
  intro a w3_1 hF hb
  replace hB := hB.trans (hb.mono hB.size)
  refine' tlOp hF rfl rfl rfl ?_ ?_
  rotate_left
  · exact cMove rfl rfl
  intro a w3_2 hF hb
  replace hB := hB.trans (hb.mono hB.size)
  refine' tlOp hF rfl rfl rfl ?_ ?_
  rotate_left
  · exact cExtT rfl rfl
  intro a w3_t hF hb
  replace hB := hB.trans (hb.mono hB.size)
  refine' tlOp hF rfl rfl rfl ?_ ?_
  rotate_left
  · exact cExtE rfl rfl
  intro a w3_e hF hb
  replace hB := hB.trans (hb.mono hB.size)
  refine tlNewTab hF rfl rfl rfl (by decide) rfl (run_alloc_i infoT46) rfl rfl rfl rfl tabO_tab sizeT46 fun a w3_n hF hb => ?_
  replace hB := hB.trans (hb.mono hB.size)
  refine' tlOp hF rfl rfl rfl ?_ ?_
  rotate_left
  · exact cAssign rfl rfl
  intro a w3 hF hb
  replace hB := hB.trans (hb.mono hB.size)
  try (refine wpList_nil ?_)
  repeat with_reducible first | refine wp_seq ?_ | refine nThen ?_
  refine' reg_all hF ?_ mixed (by kernel_rfl) ?_
  rotate_left
  · repeat (first | exact Line.nil | ((refine' Line.cons rfl (.run rfl rfl ?_) ?_); (any_goals (first | exact cMove rfl rfl | exact cAssign rfl rfl | exact cLoadTab46 rfl (.t rfl) | exact cCallH2 rfl (.t rfl) (Has.c (.t rfl) seg_sl) hO | exact cExtract rfl rfl rfl)); rotate_left))
  intro a w4 hF hb hN
  have hBs := hB.size
  replace hB := hB.trans (hb.mono hB.size)
  dsimp only [ext, Option.getD] at hF
  repeat with_reducible first | refine wp_seq ?_ | refine nThen ?_
  refine' reg_all hF ?_ mixed (by kernel_rfl) ?_
  rotate_left
  · repeat (first | exact Line.nil | ((first | refine' Line.cons rfl (.run rfl rfl ?_) ?_ | refine' Line.cons rfl (.yes rfl rfl rfl rfl ?_) ?_); (any_goals (first | exact cMove rfl rfl | exact cAssign rfl rfl | exact OpOk.b (c := true) (cEql rfl rfl rfl) rfl | exact cBuildV (vs := [ivz 1]) rfl (parts1v rfl rfl) Tryz.underlying23 infoInt rfl (by simp [Value.cells, ivz]) (by decide) (by simp [maxLen]) | exact cBuildV (vs := [ivz 3]) rfl (parts1v rfl rfl) Tryz.underlying23 infoInt rfl (by simp [Value.cells, ivz]) (by decide) (by simp [maxLen]) | exact cCallS1 rfl (.t rfl) f1 | exact cCallS1 rfl (.t rfl) f3 | exact cCallH2 rfl (.t rfl) (Has.c (.t rfl) seg_sl) m1 | exact cCallH2 rfl (.t rfl) (Has.c (.t rfl) seg_sl) m3 | exact cPickT rfl rfl rfl)); rotate_left))
  intro a w5 hF hb hN
  have hBs := hB.size
  replace hB := hB.trans (hb.mono hB.size)
  dsimp only [ext, Option.getD] at hF
  repeat with_reducible first | refine nThen ?_ | refine wp_ret ?_
  refine ret1 hF rfl rfl fun z hz => ?_
  exact ⟨z, rfl, hz, hB⟩
end Go.Proofs.YtmlbkcpmgcjblaaGreat

/- Layer 16 by types: a result's fields; PeelAll. -/
namespace Go.Proofs.YtmlbkcpmgcjblaaGreat
open Go.RowKit

/-- The address of a slice that is read. -/
def Ty.selS (t e : TypeId) (n : Nat) (xs : List Value) : Ty := ⟨fun w v => ∃ p, (Ty.at_ t [p]).p w v ∧ SlP w e p n xs, fun u => u == t || u == e, fun ⟨p, h1, h2⟩ k hA =>
  ⟨p, (Ty.at_ t _).st h1 k fun b hb hl => let ⟨cs, t', fr, k1, k2⟩ := hA b hb hl; ⟨cs, t', fr, k1, (Bool.or_eq_false_iff.1 k2).1⟩, (Ty.sl e n xs).st h2 k fun b hb hl => let ⟨cs, t', fr, k1, k2⟩ := hA b hb hl; ⟨cs, t', fr, k1, (Bool.or_eq_false_iff.1 k2).2⟩⟩⟩
section
variable {w0 : World} {Γ : Ctx} {o : Oper} {x : Operand} {P M : List Sm} {sd : Nat} {L : List Cl}
theorem cSelP (ho : o.op = .fieldAddr ResT x 0) (hx : Has w0 Γ x (Ty.resA P M sd L)) : OpOk Tryz.prog w0 Γ o (Ty.selS ResT 36 P.length (flat P)) :=
  .val fun a w hb hs => by
    obtain ⟨v, h1, p, q, s, ⟨g, off, cs, fr, rfl, h2, h3⟩, k1, k2, k3⟩ := hx.see hs (by simp [ho, Op.operands]) hb
    have hr := run_fieldAt (P := Tryz.prog) (i := 0) Tryz.underlying47 rfl sizeSL1 g off w
    refine ⟨.pointer (some ⟨g, off + 0, none⟩), ⟨p, ⟨g, off + 0, cs, fr, rfl, h2, fun j u hu => ?_⟩, k1⟩, ?_⟩
    · cases j with
      | zero => exact h3 0 u hu
      | succ j => simp at hu
    · unfold execOp
      simp [ho, h1, hr]
theorem cSelM (ho : o.op = .fieldAddr ResT x 1) (hx : Has w0 Γ x (Ty.resA P M sd L)) : OpOk Tryz.prog w0 Γ o (Ty.selS ResT 36 M.length (flat M)) :=
  .val fun a w hb hs => by
    obtain ⟨v, h1, p, q, s, ⟨g, off, cs, fr, rfl, h2, h3⟩, k1, k2, k3⟩ := hx.see hs (by simp [ho, Op.operands]) hb
    have hr := run_fieldAt (P := Tryz.prog) (i := 1) Tryz.underlying47 rfl sizeSL1 g off w
    refine ⟨.pointer (some ⟨g, off + 1, none⟩), ⟨q, ⟨g, off + 1, cs, fr, rfl, h2, fun j u hu => ?_⟩, k2⟩, ?_⟩
    · cases j with
      | zero => exact h3 1 u hu
      | succ j => simp at hu
    · unfold execOp
      simp [ho, h1, hr]
theorem cSelL (ho : o.op = .fieldAddr ResT x 2) (hx : Has w0 Γ x (Ty.resA P M sd L)) : OpOk Tryz.prog w0 Γ o (Ty.tabP ResT 41 sd L) :=
  .val fun a w hb hs => by
    obtain ⟨v, h1, p, q, s, ⟨g, off, cs, fr, rfl, h2, h3⟩, k1, k2, k3⟩ := hx.see hs (by simp [ho, Op.operands]) hb
    have hr := run_fieldAt (P := Tryz.prog) (i := 2) Tryz.underlying47 rfl sizeT46 g off w
    refine ⟨.pointer (some ⟨g, off + 2, none⟩), ⟨s, ⟨g, off + 2, cs, fr, rfl, h2, fun j u hu => ?_⟩, k3⟩, ?_⟩
    · have h := h3 (2 + j) u
      rw [← Nat.add_assoc] at h
      match j, hu with
      | 0, hu => exact h hu
      | 1, hu => exact h hu
      | j + 2, hu => simp at hu
    · unfold execOp
      simp [ho, h1, hr]
theorem cLoadSel {t e : TypeId} {n : Nat} {xs : List Value} (ho : o.op = .load 32 x) (hx : OpT Γ x (Ty.selS t e n xs)) : OpOk Tryz.prog w0 Γ o (Ty.sl e n xs) :=
  .val fun a w hb hs => by
    obtain ⟨v, h1, p, hat, hsl⟩ := hs x _ (by simp [ho, Op.operands]) hx
    obtain ⟨ad, rfl, h3⟩ := pts_at _ _ w v hat
    refine ⟨p, hsl, ?_⟩
    have h4 := run_loadVar_one (P := Tryz.prog) h3 Tryz.underlying32 rfl
    unfold execOp
    simp [ho, h1, Instr.loadAt, Instr.sureAddr, h4]
theorem cLoadTabR (ho : o.op = .load 27 x) (hx : OpT Γ x (Ty.tabP ResT 41 sd L)) : OpOk Tryz.prog w0 Γ o (Ty.tab 41 sd L) :=
  .val fun a w hb hs => by
    obtain ⟨v, h1, s, h2, h5⟩ := hs x _ (by simp [ho, Op.operands]) hx
    obtain ⟨ad, rfl, h3⟩ := pts_at _ _ w v h2
    refine ⟨.agg #[.int .u64 (sd : Int), s], ⟨s, rfl, h5⟩, ?_⟩
    have h4 := run_loadVar_rd (P := Tryz.prog) h3 Tryz.underlying27 rfl (by rw [sizeT46]; rfl)
    unfold execOp
    simp [ho, h1, Instr.loadAt, Instr.sureAddr, h4]
end
end Go.Proofs.YtmlbkcpmgcjblaaGreat

/- The document's next, by types. -/
namespace Go.Proofs.YtmlbkcpmgcjblaaGreat
open Go.RowKit

theorem next_is {seed : Nat} {L : List Cl} {i : Nat} (hi : i < L.length) (hno : ∀ j, j < i → pureAt seed L j = false) (hp : pureAt seed L i = true) : nextI seed L = i := by
  obtain ⟨h1, h2⟩ := next_at hi hp
  rcases Nat.lt_trichotomy (nextI seed L) i with h | h | h
  · rw [hno _ h] at h2; cases h2
  · exact h
  · have h3 := firstP_no (pureAt seed L) L.length 0 i h
    rw [Nat.zero_add, hp] at h3
    cases h3
def nextN (seed : Nat) (L : List Cl) : Int := if nextI seed L < L.length then (nextI seed L : Int) else -1
set_option maxRecDepth 100000 in
set_option maxHeartbeats 2000000 in
theorem rnext_ty (seed : Nat) (L : List Cl) (hL : L.length ≤ 1000000) (hsd : seed < 18446744073709551616) : Fn1 Tryz.prog 35 (Ty.tab 79 seed L) (Ty.ex (.int .i64 (nextN seed L))) := by
  refine ⟨fun args w => by kernel_rfl, fun w v ⟨s, hv, hs⟩ => ?_⟩
  subst hv
  refine enter_ty 45 [Ty.ex (.agg #[.int .u64 (seed : Int), s])] Tryz.func35 rfl (by kernel_rfl) ⟨rfl, trivial⟩ fun a hF => ?_
  have hB := Below.refl w.heap.size w
  let TL := Ty.cls 79 L
  repeat with_reducible refine wp_seq ?_
  refine' reg_all hF ?_ mixed (by kernel_rfl) ?_
  rotate_left
  · repeat (first | exact Line.nil | ((refine' Line.cons rfl (.run rfl rfl ?_) ?_); (any_goals (first | exact cAssign rfl rfl | exact cBoxTab rfl rfl)); rotate_left))
  intro a w1 hF hb hN
  have hBs := hB.size
  replace hB := hB.trans (hb.mono hB.size)
  dsimp only [ext, Option.getD] at hF
  repeat with_reducible first | refine wp_seq ?_ | refine nThen ?_
  obtain ⟨p1, hp1, hF⟩ := hF.open (s := 1) rfl
  let TP := Ty.at_ 44 [.int .u64 (seed : Int), s]
  have hs1 := TL.below hs hB
  have hB0 := hB
  have hw1 := hB.size
  replace hB := Below.refl w1.heap.size w1
  refine' reg_all hF ?_ mixed (by kernel_rfl) ?_
  rotate_left
  · repeat (first | exact Line.nil | ((refine' Line.cons rfl (.run rfl rfl ?_) ?_); (any_goals exact cAssign rfl rfl); rotate_left))
  intro a w2 hF hb hN
  have hBs := hB.size
  replace hB := hB.trans (hb.mono hB.size)
  dsimp only [ext, Option.getD] at hF
  repeat with_reducible first | refine nThen ?_ | refine wp_block ?_
  refine loop_ty (fun m a wr => ∃ i : Nat, i + m = L.length ∧ Fr 45 [(1, Ty.ex p1), (3, Ty.ex (.int .i64 (i : Int)))] a wr ∧ Below w1.heap.size w1 wr ∧ ∀ j, j < i → pureAt seed L j = false) L.length ?_ ?_
  · exact ⟨0, by omega, hF.keep [1, 3], hB, fun j hj => by omega⟩
  clear hF hB hb hBs
  rintro m a wr ⟨i, hi, hF, hB, hno⟩
  have kp := TP.below hp1 hB
  have ks := TL.below hs1 hB
  repeat with_reducible refine wp_seq ?_
  refine' reg_all hF ?_ mixed (by kernel_rfl) ?_
  rotate_left
  · repeat (first | exact Line.nil | ((refine' Line.cons rfl (.run rfl rfl ?_) ?_); (any_goals (first | exact cMove rfl rfl | exact cFldL83 rfl (.l rfl kp) | exact cRowOf83 rfl (.t rfl) | exact cLenH rfl (.l rfl ks) (Ty.sl_isSl _ _ _) Tryz.underlying42 | exact cLss rfl rfl rfl)); rotate_left))
  intro a w3 hF hb hN
  have hBs := hB.size
  replace hB := hB.trans (hb.mono hB.size)
  dsimp only [ext, Option.getD] at hF
  repeat with_reducible refine nThen ?_
  refine cond_ty hF rfl (fun hlt => ?_) (fun hge => ?_)
  · have hlt : i < L.length := by have := of_decide_eq_true hlt; omega
    replace kp := TP.below kp hb
    replace ks := TL.below ks hb
    have hPu := rpure_ty (L.getD i default)
    have ePA : pureAt seed L i = ((L.getD i default).ok && isAt seed L.length i (L.getD i default).key) := rfl
    obtain ⟨c, hc⟩ : ∃ c, c = L.getD i default := ⟨_, rfl⟩
    repeat with_reducible first | refine wp_seq ?_ | refine nThen ?_ | refine wp_skip ?_ | refine wp_block ?_
    cases hk : (L.getD i default).ok with
    | false =>
      rw [hk] at hPu
      rw [hk, Bool.false_and] at ePA
      refine' reg_all hF ?_ mixed (by kernel_rfl) ?_
      rotate_left
      · repeat (first | exact Line.nil | ((refine' Line.cons rfl (.run rfl rfl ?_) ?_); (any_goals (first | exact cMove rfl rfl | exact cNot rfl rfl | exact cFldL83 rfl (.l rfl kp) | exact cRowOf83 rfl (.t rfl) | exact cIndexCl (k := i) rfl (.l rfl ks) rfl Tryz.underlying42 info49 hlt | exact cLoadCl49 rfl (.t rfl) | exact cCall1 rfl rfl hPu)); rotate_left))
      intro a w4 hF hb hN
      have hBs := hB.size
      replace hB := hB.trans (hb.mono hB.size)
      dsimp only [ext, Option.getD] at hF
      repeat with_reducible refine nThen ?_
      refine cond_t hF rfl ?_
      repeat with_reducible first | refine nThen ?_ | refine wp_exit ?_ | refine xThen ?_ | refine xHere ?_
      refine' reg_all hF ?_ mixed (by kernel_rfl) ?_
      rotate_left
      · repeat (first | exact Line.nil | ((refine' Line.cons rfl (.run rfl rfl ?_) ?_); (any_goals (first | exact cMove rfl rfl | exact cAssign rfl rfl | exact cAdd (r := ((i + 1 : Nat) : Int)) rfl rfl rfl (by omega))); rotate_left))
      intro a w5 hF hb hN
      have hBs := hB.size
      replace hB := hB.trans (hb.mono hB.size)
      dsimp only [ext, Option.getD] at hF
      repeat with_reducible refine nThen ?_
      refine ⟨m - 1, by omega, i + 1, by omega, hF.keep [1, 3], hB, fun j hj => ?_⟩
      by_cases hji : j = i
      · rw [hji]; exact ePA
      · exact hno j (by omega)
    | true =>
      rw [hk] at hPu
      rw [hk, Bool.true_and] at ePA
      refine' reg_all hF ?_ mixed (by kernel_rfl) ?_
      rotate_left
      · repeat (first | exact Line.nil | ((refine' Line.cons rfl (.run rfl rfl ?_) ?_); (any_goals (first | exact cMove rfl rfl | exact cNot rfl rfl | exact cFldL83 rfl (.l rfl kp) | exact cRowOf83 rfl (.t rfl) | exact cIndexCl (k := i) rfl (.l rfl ks) rfl Tryz.underlying42 info49 hlt | exact cLoadCl49 rfl (.t rfl) | exact cCall1 rfl rfl hPu)); rotate_left))
      intro a w4 hF hb hN
      have hBs := hB.size
      replace hB := hB.trans (hb.mono hB.size)
      dsimp only [ext, Option.getD] at hF
      repeat with_reducible refine nThen ?_
      replace kp := TP.below kp hb
      replace ks := TL.below ks hb
      refine cond_f hF rfl ?_
      have hPp := rplaces_ty seed (L.length : Int) (L.getD i default).key hsd
      have hPl3 := placesN_len3 seed (L.length : Int) (L.getD i default).key
      have hIs : isAt seed L.length i (L.getD i default).key = decide (i ∈ placesN seed (L.length : Int) (L.getD i default).key) := rfl
      rw [hIs] at ePA
      generalize placesN seed (L.length : Int) (L.getD i default).key = PL at *
      clear hIs
      repeat with_reducible first | refine wp_seq ?_ | refine nThen ?_ | refine wp_skip ?_
      refine' reg_all hF ?_ mixed (by kernel_rfl) ?_
      rotate_left
      · repeat (first | exact Line.nil | ((refine' Line.cons rfl (.run rfl rfl ?_) ?_); (any_goals (first | exact cMove rfl rfl | exact cAssign rfl rfl | exact cFldS83 rfl (.l rfl kp) | exact cLoadU64 rfl (.t rfl) | exact cFldL83 rfl (.l rfl kp) | exact cRowOf83 rfl (.t rfl) | exact cLenH rfl (.l rfl ks) (Ty.sl_isSl _ _ _) Tryz.underlying42 | exact cIndexCl (k := i) rfl (.l rfl ks) rfl Tryz.underlying42 info49 hlt | exact cFldK49 rfl (.t rfl) | exact cLoadSum rfl (.t rfl) Tryz.underlying77 sizeR | exact cCall3 rfl rfl rfl rfl hPp)); rotate_left))
      intro a w5 hF hb hN
      have hBs := hB.size
      replace hB := hB.trans (hb.mono hB.size)
      dsimp only [ext, Option.getD] at hF
      repeat with_reducible first | refine wp_seq ?_ | refine nThen ?_
      obtain ⟨v4, hv4, hF⟩ := hF.open (s := 4) rfl
      let TV := Ty.sl 3 PL.length (PL.map ivn)
      refine' reg_all hF ?_ mixed (by kernel_rfl) ?_
      rotate_left
      · repeat (first | exact Line.nil | ((refine' Line.cons rfl (.run rfl rfl ?_) ?_); (any_goals exact cAssign rfl rfl); rotate_left))
      intro a w6 hF hb hN
      have hBs := hB.size
      replace hB := hB.trans (hb.mono hB.size)
      dsimp only [ext, Option.getD] at hF
      repeat with_reducible first | refine nThen ?_ | refine wp_block ?_
      have hv4 := TV.below hv4 hb
      have hB6 := hB
      refine loop_ty (fun m a wr => ∃ k : Nat, k + m = PL.length ∧ Fr 45 [(1, Ty.ex p1), (3, Ty.ex (.int .i64 (i : Int))), (4, Ty.ex v4), (5, Ty.ex (.int .i64 (k : Int)))] a wr ∧ Below w1.heap.size w1 wr ∧ TV.p wr v4 ∧ ∀ j, j < k → ¬ PL.getD j 0 = i) PL.length ?_ ?_
      · exact ⟨0, by omega, hF.keep [1, 3, 4, 5], hB, hv4, fun j hj => by omega⟩
      clear hF hB hb hBs hv4 hB6 kp ks
      rintro m2 a wr2 ⟨k, hk2, hF, hB, hv4, hnk⟩
      repeat with_reducible refine wp_seq ?_
      refine' reg_all hF ?_ mixed (by kernel_rfl) ?_
      rotate_left
      · repeat (first | exact Line.nil | ((refine' Line.cons rfl (.run rfl rfl ?_) ?_); (any_goals (first | exact cMove rfl rfl | exact cLenH rfl (.l rfl hv4) (Ty.sl_isSl _ _ _) Tryz.underlying23 | exact cLss rfl rfl rfl)); rotate_left))
      intro a w7 hF hb hN
      have hBs := hB.size
      replace hB := hB.trans (hb.mono hB.size)
      dsimp only [ext, Option.getD] at hF
      repeat with_reducible refine nThen ?_
      replace hv4 := TV.below hv4 hb
      refine cond_ty hF rfl (fun hlt2 => ?_) (fun hge2 => ?_)
      · have hlt2 : k < PL.length := by have := of_decide_eq_true hlt2; omega
        have hd1 := ivn_drop hlt2
        have hmem := getD_mem hlt2
        obtain ⟨q, hq⟩ : ∃ q, q = PL.getD k 0 := ⟨_, rfl⟩
        rw [← hq] at hd1 hmem
        repeat with_reducible first | refine wp_seq ?_ | refine nThen ?_ | refine wp_skip ?_ | refine wp_block ?_
        by_cases hqi : q = i
        · refine' reg_all hF ?_ mixed (by kernel_rfl) ?_
          rotate_left
          · repeat (first | exact Line.nil | ((refine' Line.cons rfl (.run rfl rfl ?_) ?_); (any_goals (first | exact cMove rfl rfl | exact cIndexS (k := k) (sz := 1) rfl (.l rfl hv4) rfl Tryz.underlying23 sizeI hlt2 (by rw [List.length_map]; omega) | exact cLoad1 (u := ivn q) rfl (Has.c (.t rfl) (fun W v h => by rw [Nat.mul_one, hd1] at h; exact h)) (pts_at _ _) Tryz.underlying3 rfl | exact OpOk.b (c := true) (cEql rfl rfl rfl) (decide_eq_true (by rw [hqi])))); rotate_left))
          intro a w8 hF hb hN
          have hBs := hB.size
          replace hB := hB.trans (hb.mono hB.size)
          dsimp only [ext, Option.getD] at hF
          repeat with_reducible refine nThen ?_
          refine cond_t hF rfl ?_
          repeat with_reducible refine wp_seq ?_
          refine' reg_all hF ?_ mixed (by kernel_rfl) ?_
          rotate_left
          · repeat (first | exact Line.nil | ((refine' Line.cons rfl (.run rfl rfl ?_) ?_); (any_goals (first | exact cMove rfl rfl | exact cAssign rfl rfl)); rotate_left))
          intro a w9 hF hb hN
          have hBs := hB.size
          replace hB := hB.trans (hb.mono hB.size)
          dsimp only [ext, Option.getD] at hF
          repeat with_reducible first | refine nThen ?_ | refine wp_ret ?_ | refine rThen ?_ | refine rBlk ?_
          refine ret1 hF rfl rfl fun z hz => ?_
          have hn : nextI seed L = i := next_is hlt hno (by rw [ePA]; exact decide_eq_true (hqi ▸ hmem))
          refine ⟨z, rfl, ?_, hB0.trans (hB.mono hw1)⟩
          rw [show z = .int .i64 (i : Int) from hz]
          unfold nextN
          rw [hn, if_pos hlt]
          rfl
        · refine' reg_all hF ?_ mixed (by kernel_rfl) ?_
          rotate_left
          · repeat (first | exact Line.nil | ((refine' Line.cons rfl (.run rfl rfl ?_) ?_); (any_goals (first | exact cMove rfl rfl | exact cIndexS (k := k) (sz := 1) rfl (.l rfl hv4) rfl Tryz.underlying23 sizeI hlt2 (by rw [List.length_map]; omega) | exact cLoad1 (u := ivn q) rfl (Has.c (.t rfl) (fun W v h => by rw [Nat.mul_one, hd1] at h; exact h)) (pts_at _ _) Tryz.underlying3 rfl | exact OpOk.b (c := false) (cEql rfl rfl rfl) (decide_eq_false (fun e => hqi (Int.ofNat.inj e))))); rotate_left))
          intro a w8 hF hb hN
          have hBs := hB.size
          replace hB := hB.trans (hb.mono hB.size)
          dsimp only [ext, Option.getD] at hF
          repeat with_reducible refine nThen ?_
          refine cond_f hF rfl ?_
          repeat with_reducible first | refine nThen ?_ | refine nBlk ?_ | refine wp_skip ?_
          replace hv4 := TV.below hv4 hb
          refine' reg_all hF ?_ mixed (by kernel_rfl) ?_
          rotate_left
          · repeat (first | exact Line.nil | ((refine' Line.cons rfl (.run rfl rfl ?_) ?_); (any_goals (first | exact cMove rfl rfl | exact cAssign rfl rfl | exact cAdd (r := ((k + 1 : Nat) : Int)) rfl rfl rfl (by omega))); rotate_left))
          intro a w9 hF hb hN
          have hBs := hB.size
          replace hB := hB.trans (hb.mono hB.size)
          dsimp only [ext, Option.getD] at hF
          repeat with_reducible refine nThen ?_
          refine ⟨m2 - 1, by omega, k + 1, by omega, hF.keep [1, 3, 4, 5], hB, TV.below hv4 hb, fun j hj => ?_⟩
          by_cases hjk : j = k
          · rw [hjk, ← hq]; exact hqi
          · exact hnk j (by omega)
      · have hge2 : ¬ k < PL.length := by have := of_decide_eq_false hge2; omega
        repeat with_reducible first | refine nThen ?_ | refine nBlk ?_ | refine wp_exit ?_ | refine xThen ?_ | refine xHere ?_
        refine' reg_all hF ?_ mixed (by kernel_rfl) ?_
        rotate_left
        · repeat (first | exact Line.nil | ((refine' Line.cons rfl (.run rfl rfl ?_) ?_); (any_goals (first | exact cMove rfl rfl | exact cAssign rfl rfl | exact cAdd (r := ((i + 1 : Nat) : Int)) rfl rfl rfl (by omega))); rotate_left))
        intro a w8 hF hb hN
        have hBs := hB.size
        replace hB := hB.trans (hb.mono hB.size)
        dsimp only [ext, Option.getD] at hF
        repeat with_reducible refine nThen ?_
        refine ⟨m - 1, by omega, i + 1, by omega, hF.keep [1, 3], hB, fun j hj => ?_⟩
        by_cases hji : j = i
        · rw [hji, ePA]
          refine decide_eq_false fun hm => ?_
          obtain ⟨j2, hj2, he⟩ := List.getElem_of_mem hm
          exact hnk j2 (by omega) (by simp [List.getD, List.getElem?_eq_getElem hj2, he])
        · exact hno j (by omega)
  have hge : ¬ i < L.length := by have := of_decide_eq_false hge; omega
  repeat with_reducible first | refine wp_seq ?_ | refine nThen ?_ | refine wp_exit ?_ | refine xThen ?_ | refine xHere ?_
  refine' reg_all hF ?_ mixed (by kernel_rfl) ?_
  rotate_left
  · repeat (first | exact Line.nil | ((refine' Line.cons rfl (.run rfl rfl ?_) ?_); (any_goals exact cAssign rfl rfl); rotate_left))
  intro a w4 hF hb hN
  have hBs := hB.size
  replace hB := hB.trans (hb.mono hB.size)
  dsimp only [ext, Option.getD] at hF
  repeat with_reducible first | refine nThen ?_ | refine wp_ret ?_
  refine ret1 hF rfl rfl fun z hz => ?_
  have hn : nextI seed L = L.length := nextI_none fun j hj => hno j (by omega)
  refine ⟨z, rfl, ?_, hB0.trans (hB.mono hw1)⟩
  rw [show z = .int .i64 (-1) from hz]
  unfold nextN
  rw [hn, if_neg (Nat.lt_irrefl _)]
  rfl
end Go.Proofs.YtmlbkcpmgcjblaaGreat

/- The document's result, by types. -/
namespace Go.Proofs.YtmlbkcpmgcjblaaGreat
open Go.RowKit

abbrev ResTR : TypeId := 53
theorem infoResR : (Tryz.prog.info? ResTR).map (fun i => (i.zero, i.size, i.bytes)) = some (some (.agg #[nilS, nilS, .int .u64 0, nilS]), 4, 80) := by kernel_rfl
theorem sizeResR : (Tryz.prog.info? ResTR).map (·.size) = some 4 := by kernel_rfl
theorem buildR0R (w : World) : (Instr.build ResTR #[]).run Tryz.prog w = .ok (.agg #[nilS, nilS, .int .u64 0, nilS]) w := by kernel_rfl

theorem buildRLR (n : Int) {s : Value} (hs : ∃ A l c, s = .slice A l c) (w : World) : (Instr.build ResTR #[(2, .agg #[.int .u64 n, s])]).run Tryz.prog w = .ok (.agg #[nilS, nilS, .int .u64 n, s]) w := by
  obtain ⟨A, l, c, rfl⟩ := hs
  have hz : (zeroValue ResTR).run Tryz.prog w = .ok (.agg #[nilS, nilS, .int .u64 0, nilS]) w := by kernel_rfl
  have hu := run_underlying Tryz.underlying53 w
  simp only [Instr.build, Sem.run_bind, hz, Result.andThen_ok, hu]
  simp [Instr.fill, Value.cells]
theorem buildRR (n : Int) {p q s : Value} (hp : ∃ A l c, p = .slice A l c) (hq : ∃ A l c, q = .slice A l c) (hs : ∃ A l c, s = .slice A l c) (w : World) : (Instr.build ResTR #[(0, p), (1, q), (2, .agg #[.int .u64 n, s])]).run Tryz.prog w = .ok (.agg #[p, q, .int .u64 n, s]) w := by
  obtain ⟨A, l, c, rfl⟩ := hs
  obtain ⟨A1, l1, c1, rfl⟩ := hp
  obtain ⟨A2, l2, c2, rfl⟩ := hq
  have hz : (zeroValue ResTR).run Tryz.prog w = .ok (.agg #[nilS, nilS, .int .u64 0, nilS]) w := by kernel_rfl
  have hu := run_underlying Tryz.underlying53 w
  have h2 := Tryz.sizeOf51 w
  simp only [Instr.build, Sem.run_bind, hz, Result.andThen_ok, hu]
  simp [h2, Instr.fill, Value.cells]

/-- A result, as it reads. -/
def Ty.resR (P M : List Sm) (sd : Nat) (L : List Cl) : Ty := ⟨fun w v => ∃ p q s, v = .agg #[p, q, .int .u64 (sd : Int), s] ∧ SlP w 77 p P.length (flat P) ∧ SlP w 77 q M.length (flat M) ∧ SlP w 79 s L.length (flatC L), fun t => t == 77 || t == 79, fun {w w' v G} ⟨p, q, s, h1, h2, h3, h4⟩ k hA => by
  have a1 : Apart w G (fun t => t == 77) := fun b hb hl => let ⟨cs, t, fr, k1, k2⟩ := hA b hb hl; ⟨cs, t, fr, k1, by simp only [Bool.or_eq_false_iff] at k2; exact k2.1⟩
  have a2 : Apart w G (fun t => t == 79) := fun b hb hl => let ⟨cs, t, fr, k1, k2⟩ := hA b hb hl; ⟨cs, t, fr, k1, by simp only [Bool.or_eq_false_iff] at k2; exact k2.2⟩
  exact ⟨p, q, s, h1, (Ty.sums 77 P).st h2 k a1, (Ty.sums 77 M).st h3 k a1, (Ty.cls 79 L).st h4 k a2⟩⟩

section
variable {w0 : World} {Γ : Ctx} {o : Oper}
theorem cBuildResR {x y z : Operand} {P M : List Sm} {seed : Nat} {s : Value} {L : List Cl} {n1 n2 : Nat} (ho : o.op = .build ResTR #[(0, x), (1, y), (2, z)]) (hx : OpT Γ x (Ty.seg w0 77 32 n1 (flat P))) (hy : OpT Γ y (Ty.seg w0 77 32 n2 (flat M))) (hz : OpT Γ z (Ty.ex (.agg #[.int .u64 (seed : Int), s]))) (hs : SlP w0 79 s L.length (flatC L)) (h1 : n1 = P.length) (h2 : n2 = M.length) : OpOk Tryz.prog w0 Γ o (Ty.resR P M seed L) :=
  .val fun a w hb hs' => by
    subst h1 h2
    obtain ⟨p, k1, S1, k2, _⟩ := hs' x _ (by simp [ho, Op.operands]) hx
    obtain ⟨q, k3, S2, k4, _⟩ := hs' y _ (by simp [ho, Op.operands]) hy
    obtain ⟨e, k5, k6⟩ := hs' z _ (by simp [ho, Op.operands]) hz
    have k6 : e = .agg #[.int .u64 (seed : Int), s] := k6
    subst k6
    refine ⟨_, ⟨p, q, s, rfl, k2.sl, k4.sl, (Ty.cls 79 L).below hs hb⟩, ?_⟩
    unfold execOp
    simp only [ho]
    have e1 : ((#[(0, x), (1, y), (2, z)] : Array (Nat × Operand)).map fun (i, x) => (i, a.eval x)) = #[(0, p), (1, q), (2, .agg #[.int .u64 (seed : Int), s])] := by simp [k1, k3, k5]
    rw [e1, Sem.run_bind, buildRR (seed : Int) (seg_isA k2) (seg_isA k4) (sl_isA hs) w]
    rfl

end
/-- The address of a result that is read. -/
def Ty.resAR (P M : List Sm) (sd : Nat) (L : List Cl) : Ty := ⟨fun w v => ∃ p q s, (Ty.at_ ResTR [p, q, .int .u64 (sd : Int), s]).p w v ∧ SlP w 77 p P.length (flat P) ∧ SlP w 77 q M.length (flat M) ∧ SlP w 79 s L.length (flatC L), fun t => t == ResTR || (t == 77 || t == 79), fun {w w' v G} ⟨p, q, s, h1, h2, h3, h4⟩ k hA => by
  have a0 : Apart w G (fun t => t == ResTR) := fun b hb hl => let ⟨cs, t, fr, k1, k2⟩ := hA b hb hl; ⟨cs, t, fr, k1, by simp only [Bool.or_eq_false_iff] at k2; exact k2.1⟩
  have a1 : Apart w G (fun t => t == 77) := fun b hb hl => let ⟨cs, t, fr, k1, k2⟩ := hA b hb hl; ⟨cs, t, fr, k1, by simp only [Bool.or_eq_false_iff] at k2; exact k2.2.1⟩
  have a2 : Apart w G (fun t => t == 79) := fun b hb hl => let ⟨cs, t, fr, k1, k2⟩ := hA b hb hl; ⟨cs, t, fr, k1, by simp only [Bool.or_eq_false_iff] at k2; exact k2.2.2⟩
  exact ⟨p, q, s, (Ty.at_ ResTR _).st h1 k a0, (Ty.sums 77 P).st h2 k a1, (Ty.sums 77 M).st h3 k a1, (Ty.cls 79 L).st h4 k a2⟩⟩
section
variable {ops : Array Oper} {Q : Exit → Act → World → Prop} {N : Nat} {Γ : Ctx} {a : Act} {w : World} {o1 o2 : Oper} {rest : List Oper}
theorem tlNewResR {p q : Nat} {P M : List Sm} {seed : Nat} {L : List Cl} (hF : Fr N Γ a w) (h1 : o1.op = .alloc ResTR) (hg1 : o1.guard = none) (hd1 : o1.dst = some p) (hp : p < N) (hpq : Nat.beq p q = false)
    (h2 : o2.op = .store ResTR (.tmp p) (.tmp q)) (hg2 : o2.guard = none) (hd2 : o2.dst = none) (hq : look Γ q = some (Ty.resR P M seed L))
    (hk : ∀ a' w', Fr N ((p, Ty.resAR P M seed L) :: Γ) a' w' → Below w.heap.size w w' → wpList Tryz.prog ops Q rest a' w') : wpList Tryz.prog ops Q (o1 :: o2 :: rest) a w := by
  obtain ⟨v, ⟨x, y, s, rfl, k1, k2, k3⟩, hFo⟩ := hF.open hq
  refine wpList_plain hg1 fun K hK => ?_
  unfold Oper.wp execOp
  simp only [h1, Sem.run_bind, run_alloc_i infoResR, Result.andThen_ok, Sem.run_pure]
  refine hK _ _ ?_
  rw [hd1]
  have hb1 : Below w.heap.size w (w.alloc (.cells #[nilS, nilS, .int .u64 0, nilS] ResTR)) := ((Keeps.refl [] w).alloc _).below
  have hF1 : Fr N ((p, Ty.ex (.pointer (some ⟨w.heap.size, 0, none⟩))) :: (q, Ty.ex (.agg #[x, y, .int .u64 (seed : Int), s])) :: Γ) (a.put (some p) (.pointer (some ⟨w.heap.size, 0, none⟩))) (w.alloc (.cells #[nilS, nilS, .int .u64 0, nilS] ResTR)) := hFo.put hp hb1 rfl
  have hv3 := hF1.getEx (s := q) (v := .agg #[x, y, .int .u64 (seed : Int), s]) (by rw [look]; simp only [hpq, cond_false]; exact look_same _ _ _)
  refine tlStoreV (Δ := []) hF1 hg2 hd2 h2 (look_same _ _ _) hv3 (Blk.new w _ _) rfl (by rw [sizeResR]; rfl) (res_one (sl_isA k1) (sl_isA k2) (sl_isA k3)) (hF1.keep []) rfl ?_
  intro w' _ hb' hkx
  have hB := below_own hb1 hkx (by intro y hy; simp only [List.mem_singleton] at hy; omega)
  refine hk _ _ (hF.put hp hB ⟨x, y, s, ⟨w.heap.size, 0, _, (0, 0), rfl, hb', fun j u h => by simpa [Value.cells] using h⟩, (Ty.sums 77 P).below k1 hB, (Ty.sums 77 M).below k2 hB, (Ty.cls 79 L).below k3 hB⟩) hB
end
section
variable {w0 : World} {Γ : Ctx} {o : Oper} {x : Operand} {e : TypeId} {xs : List Value}
theorem sizeSL1R : (Tryz.prog.info? 51).map (·.size) = some 1 := by kernel_rfl
theorem cResPR (ho : o.op = .fieldAddr ResTR x 0) (hx : Has w0 Γ x (Ty.at_ e xs)) : OpOk Tryz.prog w0 Γ o (Ty.at_ e xs) :=
  (cFieldE (P := Tryz.prog) ho hx Tryz.underlying53 rfl sizeSL1R).conv fun _ _ h => h
theorem cResMR (ho : o.op = .fieldAddr ResTR x 1) (hx : Has w0 Γ x (Ty.at_ e xs)) : OpOk Tryz.prog w0 Γ o (Ty.at_ e (xs.drop 1)) :=
  cFieldE (P := Tryz.prog) ho hx Tryz.underlying53 rfl sizeSL1R
end

section
variable {w0 : World} {Γ : Ctx} {o : Oper} {x : Operand} {P M : List Sm} {sd : Nat} {L : List Cl}
theorem cSelPR (ho : o.op = .fieldAddr ResTR x 0) (hx : Has w0 Γ x (Ty.resAR P M sd L)) : OpOk Tryz.prog w0 Γ o (Ty.selS ResTR 77 P.length (flat P)) :=
  .val fun a w hb hs => by
    obtain ⟨v, h1, p, q, s, ⟨g, off, cs, fr, rfl, h2, h3⟩, k1, k2, k3⟩ := hx.see hs (by simp [ho, Op.operands]) hb
    have hr := run_fieldAt (P := Tryz.prog) (i := 0) Tryz.underlying53 rfl sizeSL1R g off w
    refine ⟨.pointer (some ⟨g, off + 0, none⟩), ⟨p, ⟨g, off + 0, cs, fr, rfl, h2, fun j u hu => ?_⟩, k1⟩, ?_⟩
    · cases j with
      | zero => exact h3 0 u hu
      | succ j => simp at hu
    · unfold execOp
      simp [ho, h1, hr]
theorem cSelMR (ho : o.op = .fieldAddr ResTR x 1) (hx : Has w0 Γ x (Ty.resAR P M sd L)) : OpOk Tryz.prog w0 Γ o (Ty.selS ResTR 77 M.length (flat M)) :=
  .val fun a w hb hs => by
    obtain ⟨v, h1, p, q, s, ⟨g, off, cs, fr, rfl, h2, h3⟩, k1, k2, k3⟩ := hx.see hs (by simp [ho, Op.operands]) hb
    have hr := run_fieldAt (P := Tryz.prog) (i := 1) Tryz.underlying53 rfl sizeSL1R g off w
    refine ⟨.pointer (some ⟨g, off + 1, none⟩), ⟨q, ⟨g, off + 1, cs, fr, rfl, h2, fun j u hu => ?_⟩, k2⟩, ?_⟩
    · cases j with
      | zero => exact h3 1 u hu
      | succ j => simp at hu
    · unfold execOp
      simp [ho, h1, hr]
theorem cSelLR (ho : o.op = .fieldAddr ResTR x 2) (hx : Has w0 Γ x (Ty.resAR P M sd L)) : OpOk Tryz.prog w0 Γ o (Ty.tabP ResTR 79 sd L) :=
  .val fun a w hb hs => by
    obtain ⟨v, h1, p, q, s, ⟨g, off, cs, fr, rfl, h2, h3⟩, k1, k2, k3⟩ := hx.see hs (by simp [ho, Op.operands]) hb
    have hr := run_fieldAt (P := Tryz.prog) (i := 2) Tryz.underlying53 rfl sizeT83 g off w
    refine ⟨.pointer (some ⟨g, off + 2, none⟩), ⟨s, ⟨g, off + 2, cs, fr, rfl, h2, fun j u hu => ?_⟩, k3⟩, ?_⟩
    · have h := h3 (2 + j) u
      rw [← Nat.add_assoc] at h
      match j, hu with
      | 0, hu => exact h hu
      | 1, hu => exact h hu
      | j + 2, hu => simp at hu
    · unfold execOp
      simp [ho, h1, hr]
theorem cLoadSelR {t e : TypeId} {n : Nat} {xs : List Value} (ho : o.op = .load 51 x) (hx : OpT Γ x (Ty.selS t e n xs)) : OpOk Tryz.prog w0 Γ o (Ty.sl e n xs) :=
  .val fun a w hb hs => by
    obtain ⟨v, h1, p, hat, hsl⟩ := hs x _ (by simp [ho, Op.operands]) hx
    obtain ⟨ad, rfl, h3⟩ := pts_at _ _ w v hat
    refine ⟨p, hsl, ?_⟩
    have h4 := run_loadVar_one (P := Tryz.prog) h3 Tryz.underlying51 rfl
    unfold execOp
    simp [ho, h1, Instr.loadAt, Instr.sureAddr, h4]
theorem cLoadTabRR (ho : o.op = .load 44 x) (hx : OpT Γ x (Ty.tabP ResTR 79 sd L)) : OpOk Tryz.prog w0 Γ o (Ty.tab 79 sd L) :=
  .val fun a w hb hs => by
    obtain ⟨v, h1, s, h2, h5⟩ := hs x _ (by simp [ho, Op.operands]) hx
    obtain ⟨ad, rfl, h3⟩ := pts_at _ _ w v h2
    refine ⟨.agg #[.int .u64 (sd : Int), s], ⟨s, rfl, h5⟩, ?_⟩
    have h4 := run_loadVar_rd (P := Tryz.prog) h3 Tryz.underlying44 rfl (by rw [sizeT83]; rfl)
    unfold execOp
    simp [ho, h1, Instr.loadAt, Instr.sureAddr, h4]
end
end Go.Proofs.YtmlbkcpmgcjblaaGreat

/- Layer 10 by types: the document's Of. -/
namespace Go.Proofs.YtmlbkcpmgcjblaaGreat
open Go.RowKit

/-- One more, laid where it belongs. -/
theorem ins_same {s : List Sm} {x : Sm} {k : Nat} (hk : k ≤ s.length) (h1 : 0 < k) (h2 : s.getD (k - 1) default = x) (D : List Sm) (hs : s = setL D) : s = setL (D ++ [x]) := by
  subst hs
  refine srt_ext (setL_srt _) (setL_srt _) fun z => ?_
  rw [setL_mem, setL_mem, List.mem_append, List.mem_singleton]
  constructor
  · exact .inl
  · rintro (h | h)
    · exact h
    · rw [h, ← h2, ← setL_mem D]
      exact mem_get.2 ⟨k - 1, by omega, rfl⟩
theorem ins_new {s : List Sm} {x : Sm} {k : Nat} (hk : k ≤ s.length) (hhi : ∀ j, k ≤ j → j < s.length → 0 < cmpL (s.getD j default).l x.l) (hlo : k = 0 ∨ ¬ 0 < cmpL (s.getD (k - 1) default).l x.l) (hne : k = 0 ∨ ¬ s.getD (k - 1) default = x) (D : List Sm) (hs : s = setL D) : s.take k ++ [x] ++ s.drop k = setL (D ++ [x]) := by
  subst hs
  have hsr := setL_srt D
  have hlt : ∀ y ∈ (setL D).take k, cmpL y.l x.l < 0 := by
    intro y hy
    obtain ⟨j, hj, rfl⟩ := mem_get.1 hy
    rw [List.length_take] at hj
    have e : ((setL D).take k).getD j default = (setL D).getD j default := by
      simp only [List.getD, List.getElem?_take]
      rw [if_pos (by omega)]
    rw [e]
    have hk0 : ¬ k = 0 := by omega
    have a1 := hlo.resolve_left hk0
    have a2 := hne.resolve_left hk0
    have a3 : ¬ cmpL ((setL D).getD (k - 1) default).l x.l = 0 := fun h => a2 (cmp_zero.1 h)
    by_cases hjk : j = k - 1
    · subst hjk; omega
    · have a4 := lt_get hsr (i := j) (j := k - 1) (by omega) (by omega)
      exact cmp_lt_trans (Int.le_of_lt a4) (by omega) (.inl a4)
  have hgt : ∀ y ∈ (setL D).drop k, cmpL x.l y.l < 0 := by
    intro y hy
    obtain ⟨j, hj, rfl⟩ := mem_get.1 hy
    rw [List.length_drop] at hj
    rw [getD_drop]
    have a1 := hhi (k + j) (by omega) (by omega)
    have := cmpL_swap ((setL D).getD (k + j) default).l x.l
    omega
  refine srt_ext ?_ (setL_srt _) fun z => ?_
  · rw [List.append_assoc]
    refine List.pairwise_append.2 ⟨List.Pairwise.sublist (List.take_sublist _ _) hsr, List.pairwise_cons.2 ⟨hgt, List.Pairwise.sublist (List.drop_sublist _ _) hsr⟩, fun a ha b hb => ?_⟩
    rcases List.mem_cons.1 hb with rfl | hb
    · exact hlt a ha
    · have h1 := hlt a ha
      have h2 := hgt b hb
      exact cmp_lt_trans (by omega) (by omega) (.inl h1)
  · rw [setL_mem, List.mem_append, List.mem_append, List.mem_append, List.mem_singleton, ← setL_mem D z]
    constructor
    · rintro ((h | h) | h)
      · exact .inl (List.mem_of_mem_take h)
      · exact .inr h
      · exact .inl (List.mem_of_mem_drop h)
    · rintro (h | h)
      · rw [← List.take_append_drop k (setL D), List.mem_append] at h
        rcases h with h | h
        · exact .inl (.inl h)
        · exact .inr h
      · exact .inl (.inr h)
theorem infoR1 : (Tryz.prog.info? 77).map (fun i => (i.zero, i.size, i.bytes)) = some (some (.agg (u8s (List.replicate 32 0))), 32, 32) := by kernel_rfl
theorem flat_l1 (x : Sm) : (([.agg (u8s x.l)] : List Value).map fun v => v.cells.toList).flatten = flat [x] := flat_cells [x]
theorem oBuildSum1 {P : Program} {w0 : World} {Γ : Ctx} {o : Oper} {t e : TypeId} {z : Value} {bytes : Nat} {x : Sm} {y : Operand} (ho : o.op = .buildSlice t 1 #[(0, y)]) (hy : OpT Γ y (Ty.ex (.agg (u8s x.l)))) (hu : P.underlying t = some (.slice e)) (hi : (P.info? e).map (fun i => (i.zero, i.size, i.bytes)) = some (some z, 32, bytes)) : OpO P w0 Γ o (OTy.seg w0 e 32 1 (flat [x])) := by
  have h := oBuild (P := P) (w0 := w0) (Γ := Γ) (vs := [.agg (u8s x.l)]) ho (parts1v ho hy) hu hi rfl (cells_sums [x]) (by decide) (by simp [maxLen])
  rwa [flat_l1] at h
theorem seg_news {w0 w : World} {e : TypeId} {sz m : Nat} {news : List Value} : ∀ u, (Ty.seg w0 e sz m news).p w u → ∃ A c, u = .slice A m c ∧ (A = none → m = 0) ∧ Rd w A news := fun u h => sl_news u (seg_sl _ _ h)
set_option maxRecDepth 100000 in
set_option maxHeartbeats 4000000 in
theorem r10of_ty (D : List Sm) (hD : D.length ≤ 1000000) : FnSeg1 Tryz.prog 39 (Ty.sums 77 D) 77 32 (setL D).length (flat (setL D)) := by
  refine ⟨fun args w => by kernel_rfl, fun w v hv => ?_⟩
  refine enter_ty 61 [Ty.ex v] Tryz.func39 rfl (by kernel_rfl) ⟨rfl, trivial⟩ fun a hF => ?_
  have hB := Below.refl w.heap.size w
  let TD := Ty.sums 77 D
  repeat with_reducible refine wp_seq ?_
  refine' reg_all hF ?_ mixed (by kernel_rfl) ?_
  rotate_left
  · repeat (first | exact Line.nil | ((refine' Line.cons rfl (.run rfl rfl ?_) ?_); (any_goals exact cAssign rfl rfl); rotate_left))
  intro a w1 hF hb hN
  have hBs := hB.size
  replace hB := hB.trans (hb.mono hB.size)
  dsimp only [ext, Option.getD] at hF
  repeat with_reducible first | refine wp_seq ?_ | refine nThen ?_
  refine' reg_all hF ?_ mixed (by kernel_rfl) ?_
  rotate_left
  · repeat (first | exact Line.nil | ((refine' Line.cons rfl (.run rfl rfl ?_) ?_); (any_goals exact cAssign rfl rfl); rotate_left))
  intro a w2 hF hb hN
  have hBs := hB.size
  replace hB := hB.trans (hb.mono hB.size)
  dsimp only [ext, Option.getD] at hF
  repeat with_reducible first | refine wp_seq ?_ | refine nThen ?_
  refine' reg_all hF ?_ mixed (by kernel_rfl) ?_
  rotate_left
  · repeat (first | exact Line.nil | ((refine' Line.cons rfl (.run rfl rfl ?_) ?_); (any_goals exact cAssign rfl rfl); rotate_left))
  intro a w3 hF hb hN
  have hBs := hB.size
  replace hB := hB.trans (hb.mono hB.size)
  dsimp only [ext, Option.getD] at hF
  repeat with_reducible first | refine nThen ?_ | refine wp_block ?_
  refine loop_ty (fun m a wr => ∃ (i : Nat) (u : Value) (S : List Nat), i + m = D.length ∧ Fr 61 [(0, Ty.ex v), (3, Ty.ex u), (4, Ty.ex (.int .i64 (i : Int)))] a wr ∧ Below w.heap.size w wr ∧ Seg wr 77 32 u (setL (D.take i)).length (flat (setL (D.take i))) S ∧ ∀ y ∈ S, w.heap.size ≤ y) D.length ?_ ?_
  · exact ⟨0, _, [], by omega, hF.keep [0, 3, 4], hB, Seg.nil _ _ _, by simp⟩
  clear hF hB
  rintro m a wr ⟨i, u, S, hi, hF, hB, hseg, hS⟩
  have hvr := TD.below hv hB
  repeat with_reducible refine wp_seq ?_
  refine' reg_all hF ?_ mixed (by kernel_rfl) ?_
  rotate_left
  · repeat (first | exact Line.nil | ((refine' Line.cons rfl (.run rfl rfl ?_) ?_); (any_goals (first | exact cMove rfl rfl | exact cLenH rfl (.l rfl hvr) (Ty.sl_isSl _ _ _) Tryz.underlying50 | exact cLss rfl rfl rfl)); rotate_left))
  intro a w4 hF hb hN
  have hBs := hB.size
  replace hB := hB.trans (hb.mono hB.size)
  dsimp only [ext, Option.getD] at hF
  repeat with_reducible refine nThen ?_
  replace hseg := hseg.below hb
  replace hvr := TD.below hvr hb
  refine cond_ty hF rfl (fun hlt => ?_) (fun hge => ?_)
  rotate_left
  · have hge : ¬ i < D.length := by have := of_decide_eq_false hge; omega
    obtain rfl : i = D.length := by omega
    rw [List.take_length] at hseg
    repeat with_reducible first | refine wp_seq ?_ | refine nThen ?_ | refine wp_exit ?_ | refine xThen ?_ | refine xHere ?_
    refine' reg_all hF ?_ mixed (by kernel_rfl) ?_
    rotate_left
    · repeat (first | exact Line.nil | ((refine' Line.cons rfl (.run rfl rfl ?_) ?_); (any_goals (first | exact cMove rfl rfl | exact cAssign rfl rfl)); rotate_left))
    intro a w5 hF hb hN
    have hBs := hB.size
    replace hB := hB.trans (hb.mono hB.size)
    dsimp only [ext, Option.getD] at hF
    repeat with_reducible first | refine nThen ?_ | refine wp_ret ?_
    refine ret1 hF rfl rfl fun z hz => ?_
    have hz : z = u := hz
    subst hz
    exact ⟨z, rfl, ⟨S, hseg.below hb, hS⟩, hB⟩
  have hlt : i < D.length := by have := of_decide_eq_true hlt; omega
  have htk : D.take (i + 1) = D.take i ++ [D.getD i default] := take_snoc' D hlt
  obtain ⟨s, hs⟩ : ∃ s, s = setL (D.take i) := ⟨_, rfl⟩
  obtain ⟨x, hx⟩ : ∃ x, x = D.getD i default := ⟨_, rfl⟩
  have hsl : s.length ≤ 1000000 := by rw [hs]; exact Nat.le_trans (setL_len _) (by rw [List.length_take]; omega)
  rw [← hs] at hseg
  rw [← hx] at htk
  obtain ⟨A, c, rfl, hnc, hcm, hrd, _, hAn⟩ := hseg.form
  obtain ⟨Av, cv, rfl, hvn, hvc, hvA⟩ := hvr.form
  obtain ⟨gv, ov, rfl, hel⟩ := SlP.elem hvr (k := i * 32) (by rw [flat_len]; omega)
  have hxe : (Ty.at_ 77 x.enc).p w4 (.pointer (some ⟨gv, ov + i * 32, none⟩)) := by
    have h := hel (i * 32)
    rw [flat_at D hlt, ← hx] at h
    obtain ⟨g, off, cs, fr, h1, h2, h3⟩ := h
    exact ⟨g, off, cs, fr, h1, h2, fun j u hu => h3 j u (by rw [List.getElem?_append_left (List.getElem?_eq_some_iff.1 hu).1]; exact hu)⟩
  have hss : (Ty.sums 77 s).p w4 (.slice A s.length c) := hseg.sl
  repeat with_reducible first | refine wp_seq ?_ | refine nThen ?_ | refine wp_skip ?_ | refine wp_block ?_
  refine' reg_all hF ?_ mixed (by kernel_rfl) ?_
  rotate_left
  · repeat (first | exact Line.nil | ((refine' Line.cons rfl (.run rfl rfl ?_) ?_); (any_goals (first | exact cMove rfl rfl | exact cAssign rfl rfl | exact cLenEx rfl rfl Tryz.underlying51)); rotate_left))
  intro a w5 hF hb hN
  have hBs := hB.size
  replace hB := hB.trans (hb.mono hB.size)
  dsimp only [ext, Option.getD] at hF
  repeat with_reducible first | refine wp_seq ?_ | refine nThen ?_ | refine wp_block ?_
  replace hseg := hseg.below hb
  replace hvr := TD.below hvr hb
  replace hxe := (Ty.at_ 77 x.enc).below hxe hb
  refine wp_mono (Q := fun e a wr => e = .exit 2 ∧ ∃ k : Nat, k ≤ s.length ∧ Fr 61 [(0, Ty.ex (.slice (some ⟨gv, ov, none⟩) D.length cv)), (3, Ty.ex (.slice A s.length c)), (4, Ty.ex (.int .i64 (i : Int))), (5, Ty.ex (.int .i64 (k : Int)))] a wr ∧ Below w.heap.size w wr ∧ Seg wr 77 32 (.slice A s.length c) s.length (flat s) S ∧ TD.p wr (.slice (some ⟨gv, ov, none⟩) D.length cv) ∧ (Ty.at_ 77 x.enc).p wr (.pointer (some ⟨gv, ov + i * 32, none⟩)) ∧ (∀ j, k ≤ j → j < s.length → 0 < cmpL (s.getD j default).l x.l) ∧ (k = 0 ∨ ¬ 0 < cmpL (s.getD (k - 1) default).l x.l)) ?_ ?_
  · refine loop_ty (fun m a wr => ∃ k : Nat, k = m ∧ k ≤ s.length ∧ Fr 61 [(0, Ty.ex (.slice (some ⟨gv, ov, none⟩) D.length cv)), (3, Ty.ex (.slice A s.length c)), (4, Ty.ex (.int .i64 (i : Int))), (5, Ty.ex (.int .i64 (k : Int)))] a wr ∧ Below w.heap.size w wr ∧ Seg wr 77 32 (.slice A s.length c) s.length (flat s) S ∧ TD.p wr (.slice (some ⟨gv, ov, none⟩) D.length cv) ∧ (Ty.at_ 77 x.enc).p wr (.pointer (some ⟨gv, ov + i * 32, none⟩)) ∧ ∀ j, k ≤ j → j < s.length → 0 < cmpL (s.getD j default).l x.l) s.length ?_ ?_
    · exact ⟨s.length, rfl, Nat.le_refl _, hF.keep [0, 3, 4, 5], hB, hseg, hvr, hxe, fun j hj hj2 => by omega⟩
    clear hF hB hb hBs hseg hvr hxe hss hel hrd hv
    rintro m a wr ⟨k, rfl, hk, hF, hB, hseg, hvr, hxr, hhi⟩
    have hsr : (Ty.sums 77 s).p wr (.slice A s.length c) := hseg.sl
    repeat with_reducible refine wp_seq ?_
    by_cases hk0 : k = 0
    · subst hk0
      refine' reg_all hF ?_ mixed (by kernel_rfl) ?_
      rotate_left
      · repeat (first | exact Line.nil | (refine' Line.cons rfl (.no rfl rfl rfl rfl rfl rfl) ?_; rotate_left) | ((refine' Line.cons rfl (.run rfl rfl ?_) ?_); (any_goals (first | exact cMove rfl rfl | exact OpOk.b (c := false) (cGtr rfl rfl rfl) rfl | exact cPickF rfl rfl rfl)); rotate_left))
      intro a w5 hF hb hN
      have hBs := hB.size
      replace hB := hB.trans (hb.mono hB.size)
      dsimp only [ext, Option.getD] at hF
      repeat with_reducible refine nThen ?_
      refine cond_f hF rfl ?_
      repeat with_reducible first | refine wp_exit ?_ | refine xThen ?_
      exact ⟨rfl, 0, hk, hF.keep [0, 3, 4, 5], hB, hseg.below hb, TD.below hvr hb, (Ty.at_ 77 x.enc).below hxr hb, hhi, .inl rfl⟩
    · refine' reg_all hF ?_ mixed (by kernel_rfl) ?_
      rotate_left
      · repeat (first | exact Line.nil | ((first | refine' Line.cons rfl (.run rfl rfl ?_) ?_ | refine' Line.cons rfl (.yes rfl rfl rfl rfl ?_) ?_); (any_goals (first | exact cMove rfl rfl | exact OpOk.b (c := true) (cGtr rfl rfl rfl) (decide_eq_true (by omega)) | exact cSub (r := ((k - 1 : Nat) : Int)) rfl rfl rfl (by omega) | exact cIndexEx (k := i) (sz := 32) rfl rfl rfl Tryz.underlying50 sizeR hlt | exact cIndexSum (k := k - 1) rfl (.l rfl hsr) rfl Tryz.underlying51 sizeR (by omega) | exact cLoadSum rfl (.l rfl hxr) Tryz.underlying77 sizeR | exact cLoadSum rfl (.t rfl) Tryz.underlying77 sizeR | exact cCall2 rfl rfl rfl (r1cmp_ty _ _) | exact cPickT rfl rfl rfl | exact cGtr rfl rfl rfl)); rotate_left))
      intro a w5 hF hb hN
      have hBs := hB.size
      replace hB := hB.trans (hb.mono hB.size)
      dsimp only [ext, Option.getD] at hF
      repeat with_reducible refine nThen ?_
      replace hseg := hseg.below hb
      replace hvr := TD.below hvr hb
      replace hxr := (Ty.at_ 77 x.enc).below hxr hb
      refine cond_ty hF rfl (fun hgt => ?_) (fun hle => ?_)
      · have hgt : 0 < cmpL (s.getD (k - 1) default).l x.l := of_decide_eq_true hgt
        repeat with_reducible first | refine nThen ?_ | refine wp_skip ?_ | refine wp_block ?_
        replace hseg := hseg.below (Below.refl _ _)
        refine' reg_all hF ?_ mixed (by kernel_rfl) ?_
        rotate_left
        · repeat (first | exact Line.nil | ((refine' Line.cons rfl (.run rfl rfl ?_) ?_); (any_goals (first | exact cMove rfl rfl | exact cAssign rfl rfl | exact cSub (r := ((k - 1 : Nat) : Int)) rfl rfl rfl (by omega))); rotate_left))
        intro a w6 hF hb hN
        have hBs := hB.size
        replace hB := hB.trans (hb.mono hB.size)
        dsimp only [ext, Option.getD] at hF
        repeat with_reducible first | refine nThen ?_ | refine nBlk ?_
        refine ⟨k - 1, by omega, k - 1, rfl, by omega, hF.keep [0, 3, 4, 5], hB, hseg.below hb, TD.below hvr hb, (Ty.at_ 77 x.enc).below hxr hb, fun j hj hj2 => ?_⟩
        by_cases hjk : k ≤ j
        · exact hhi j hjk hj2
        · obtain rfl : j = k - 1 := by omega
          exact hgt
      · have hle : ¬ 0 < cmpL (s.getD (k - 1) default).l x.l := of_decide_eq_false hle
        repeat with_reducible first | refine wp_exit ?_ | refine xThen ?_
        exact ⟨rfl, k, hk, hF.keep [0, 3, 4, 5], hB, hseg, hvr, hxr, hhi, .inr hle⟩
  clear hF hB hb hBs hseg hvr hxe hss hel hrd hv
  rintro e a wr ⟨rfl, k, hk, hF, hB, hseg, hvr, hxr, hhi, hlo⟩
  have hsr : (Ty.sums 77 s).p wr (.slice A s.length c) := hseg.sl
  repeat with_reducible first | refine wp_seq ?_ | refine nThen ?_ | refine xHere ?_
  -- is it there?
  refine wp_mono (Q := fun e a wr => e = .normal ∧ Fr 61 [(0, Ty.ex (.slice (some ⟨gv, ov, none⟩) D.length cv)), (3, Ty.ex (.slice A s.length c)), (4, Ty.ex (.int .i64 (i : Int))), (5, Ty.ex (.int .i64 (k : Int))), (44, Ty.ex (.bool (decide (0 < k ∧ s.getD (k - 1) default = x))))] a wr ∧ Below w.heap.size w wr ∧ Seg wr 77 32 (.slice A s.length c) s.length (flat s) S ∧ TD.p wr (.slice (some ⟨gv, ov, none⟩) D.length cv) ∧ (Ty.at_ 77 x.enc).p wr (.pointer (some ⟨gv, ov + i * 32, none⟩))) ?_ ?_
  · by_cases hk0 : k = 0
    · subst hk0
      refine' reg_all hF ?_ mixed (by kernel_rfl) ?_
      rotate_left
      · repeat (first | exact Line.nil | (refine' Line.cons rfl (.no rfl rfl rfl rfl rfl rfl) ?_; rotate_left) | ((refine' Line.cons rfl (.run rfl rfl ?_) ?_); (any_goals (first | exact cMove rfl rfl | exact OpOk.b (c := false) (cGtr rfl rfl rfl) rfl | exact cPickF rfl rfl rfl)); rotate_left))
      intro a w5 hF hb hN
      have hBs := hB.size
      replace hB := hB.trans (hb.mono hB.size)
      dsimp only [ext, Option.getD] at hF
      exact ⟨rfl, hF.keep [0, 3, 4, 5, 44], hB, hseg.below hb, TD.below hvr hb, (Ty.at_ 77 x.enc).below hxr hb⟩
    · have e : decide (0 < k ∧ s.getD (k - 1) default = x) = decide (s.getD (k - 1) default = x) := by
        rw [decide_eq_decide]
        exact ⟨fun h => h.2, fun h => ⟨by omega, h⟩⟩
      rw [e]
      refine' reg_all hF ?_ mixed (by kernel_rfl) ?_
      rotate_left
      · repeat (first | exact Line.nil | ((first | refine' Line.cons rfl (.run rfl rfl ?_) ?_ | refine' Line.cons rfl (.yes rfl rfl rfl rfl ?_) ?_); (any_goals (first | exact cMove rfl rfl | exact OpOk.b (c := true) (cGtr rfl rfl rfl) (decide_eq_true (by omega)) | exact cSub (r := ((k - 1 : Nat) : Int)) rfl rfl rfl (by omega) | exact cIndexEx (k := i) (sz := 32) rfl rfl rfl Tryz.underlying50 sizeR hlt | exact cIndexSum (k := k - 1) rfl (.l rfl hsr) rfl Tryz.underlying51 sizeR (by omega) | exact cLoadSum rfl (.l rfl hxr) Tryz.underlying77 sizeR | exact cLoadSum rfl (.t rfl) Tryz.underlying77 sizeR | exact cEqlAgg rfl rfl rfl guardR (fun w => eqlR _ _ w) | exact cPickT rfl rfl rfl)); rotate_left))
      intro a w5 hF hb hN
      have hBs := hB.size
      replace hB := hB.trans (hb.mono hB.size)
      dsimp only [ext, Option.getD] at hF
      exact ⟨rfl, hF.keep [0, 3, 4, 5, 44], hB, hseg.below hb, TD.below hvr hb, (Ty.at_ 77 x.enc).below hxr hb⟩
  clear hF hB hseg hvr hxr hsr
  rintro e a wr ⟨rfl, hF, hB, hseg, hvr, hxr⟩
  repeat with_reducible refine nThen ?_
  refine cond_ty hF rfl (fun hth => ?_) (fun hno => ?_)
  · have hth := of_decide_eq_true hth
    have e : s = setL (D.take (i + 1)) := by rw [htk]; exact ins_same hk hth.1 hth.2 _ hs
    rw [e] at hseg
    repeat with_reducible first | refine nThen ?_ | refine wp_exit ?_ | refine xThen ?_ | refine xHere ?_
    rw [e] at hF
    refine' reg_all hF ?_ mixed (by kernel_rfl) ?_
    rotate_left
    · repeat (first | exact Line.nil | ((refine' Line.cons rfl (.run rfl rfl ?_) ?_); (any_goals (first | exact cMove rfl rfl | exact cAssign rfl rfl | exact cAdd (r := ((i + 1 : Nat) : Int)) rfl rfl rfl (by omega))); rotate_left))
    intro a w6 hF hb hN
    have hBs := hB.size
    replace hB := hB.trans (hb.mono hB.size)
    dsimp only [ext, Option.getD] at hF
    repeat with_reducible refine nThen ?_
    refine ⟨m - 1, by omega, i + 1, .slice A (setL (D.take (i + 1))).length c, S, by omega, hF.keep [0, 3, 4], hB, hseg.below hb, hS⟩
  have hno := of_decide_eq_false hno
  have e : s.take k ++ [x] ++ s.drop k = setL (D.take (i + 1)) := by
    rw [htk]
    refine ins_new hk hhi hlo ?_ _ hs
    by_cases hk0 : k = 0
    · exact .inl hk0
    · exact .inr fun h => hno ⟨by omega, h⟩
  have hwr : w.heap.size ≤ wr.heap.size := hB.size
  have hsr : (Ty.sums 77 s).p wr (.slice A s.length c) := hseg.sl
  have h48 : (Ty.sl 77 k (flat (s.take k))).p wr (.slice A k c) := by rw [← flat_take]; exact SlP.takeA hsr hk _
  have h58 : (Ty.sl 77 (s.length - k) (flat (s.drop k))).p wr (.slice (if c = k then A else A.map (·.add (k * 32))) (s.length - k) (c - k)) := by rw [← flat_drop]; exact SlP.dropA hsr hk (flat_len s)
  have l1 : (flat (s.take k)).length = k * 32 := by rw [flat_len, List.length_take, Nat.min_eq_left hk]
  have l2 : (flat [x]).length = 1 * 32 := by rw [flat_len]; rfl
  have l3 : (flat (s.drop k)).length = (s.length - k) * 32 := by rw [flat_len, List.length_drop]
  repeat with_reducible first | refine nThen ?_ | refine wp_skip ?_
  refine' region_own 15 [(4, 45), (10, 49), (14, 55)] mixed (by kernel_rfl) hF ?_ ?_
  rotate_left
  · simp only [List.take_succ_cons, List.take_zero]
    repeat (first
        | exact LineO.nil
        | (refine' LineO.cons rfl rfl (.no rfl rfl rfl rfl rfl) ?_; rotate_left)
        | ((first | refine' LineO.cons rfl rfl (.run rfl ?_) ?_ | refine' LineO.cons rfl rfl (.yes rfl rfl rfl ?_) ?_)
           any_goals (first | exact .ex (cMove rfl rfl) | exact oBuild0 rfl Tryz.underlying51 infoR1 | exact .ex (cSliceHiA rfl rfl rfl Tryz.underlying51 sizeR hk hnc (fun h => (hAn h).2)) | exact .ex (cIndexEx (k := i) (sz := 32) rfl rfl rfl Tryz.underlying50 sizeR hlt) | exact .ex (cLoadSum rfl (.l rfl hxr) Tryz.underlying77 sizeR) | exact oBuildSum1 (x := x) rfl rfl Tryz.underlying51 infoR1 | exact .ex (cSliceLoA (k := k) rfl rfl rfl Tryz.underlying51 sizeR hk))
           rotate_left)
        | ((first | refine' LineO.take rfl rfl rfl (.run rfl ?_) ?_ | refine' LineO.take rfl rfl rfl (.yes rfl rfl rfl ?_) ?_)
           any_goals (first | exact tkAppend (m := k) (news := flat (s.take k)) rfl Tryz.underlying51 infoR1 zero32_size (.l rfl h48) sl_news l1 flat_one' (by simp [maxLen]; omega) (by omega) | exact tkAppend (m := 1) (news := flat [x]) rfl Tryz.underlying51 infoR1 zero32_size (.t rfl) seg_news l2 flat_one' (by simp [maxLen]; omega) (by omega) | exact tkAppend (m := s.length - k) (news := flat (s.drop k)) rfl Tryz.underlying51 infoR1 zero32_size (.l rfl h58) sl_news l3 flat_one' (by simp [maxLen]; omega) (by omega))
           rotate_left))
  intro a w6 hF hb hN
  have hBs := hb.size
  replace hB := hB.trans (hb.mono hB.size)
  simp only [List.take_succ_cons, List.take_zero, List.drop_succ_cons, List.drop_zero] at hF hN ⊢
  dsimp only [hideT, List.foldr, extO, Option.getD, OTy.ex, OTy.seg, OTy.slo, OTy.var] at hF
  replace hvr := TD.below hvr hb
  obtain ⟨u, ⟨S', hsg, hS'⟩, hF⟩ := hF.open (s := 59) rfl
  have en : 0 + k + 1 + (s.length - k) = (setL (D.take (i + 1))).length := by rw [← e]; simp; omega
  have ex : [] ++ flat (s.take k) ++ flat [x] ++ flat (s.drop k) = flat (setL (D.take (i + 1))) := by rw [← e, flat_append, flat_append, List.nil_append]
  rw [en, ex] at hsg
  refine' tlOp hF rfl rfl rfl ?_ ?_
  rotate_left
  · exact cAssign rfl rfl
  intro a w7 hF hb
  have hBs := hB.size
  replace hB := hB.trans (hb.mono hB.size)
  try (refine wpList_nil ?_)
  repeat with_reducible first | refine nThen ?_ | refine nBlk ?_
  replace hsg := hsg.below hb
  refine' reg_all hF ?_ mixed (by kernel_rfl) ?_
  rotate_left
  · repeat (first | exact Line.nil | ((refine' Line.cons rfl (.run rfl rfl ?_) ?_); (any_goals (first | exact cMove rfl rfl | exact cAssign rfl rfl | exact cAdd (r := ((i + 1 : Nat) : Int)) rfl rfl rfl (by omega))); rotate_left))
  intro a w8 hF hb hN
  have hBs := hB.size
  replace hB := hB.trans (hb.mono hB.size)
  dsimp only [ext, Option.getD] at hF
  repeat with_reducible refine nThen ?_
  exact ⟨m - 1, by omega, i + 1, u, S', by omega, hF.keep [0, 3, 4], hB, hsg.below hb, fun y hy => Nat.le_trans hwr (hS' y hy)⟩
end Go.Proofs.YtmlbkcpmgcjblaaGreat

/- Layer 15 by types: TableOrder. -/
namespace Go.Proofs.YtmlbkcpmgcjblaaGreat
open Go.RowKit

theorem tblk_at {w : World} {g : Nat} {T : TypeId} {u s : Value} (h : Blk w g T #[u, s]) : (Ty.at_ T [u, s]).p w (.pointer (some ⟨g, 0, none⟩)) := ⟨g, 0, _, (0, 0), rfl, h, fun j u h => by simpa using h⟩
/-- The row begun elsewhere. -/
def turned (X : List Sm) (r : Nat) : List Sm := X.drop r ++ X.take r
theorem take_snocM (X : List Sm) {k : Nat} (h : k < X.length) : X.take (k + 1) = X.take k ++ [X.getD k default] := by
  rw [List.take_succ_eq_append_getElem h]
  simp [List.getD, List.getElem?_eq_getElem h]
theorem tall_next (seed : Nat) (L : List Cl) (X : List Sm) {k : Nat} (h : k < X.length) (n : Int) : tall seed L (X.take (k + 1)) n = tput seed (tall seed L (X.take k) n) (X.getD k default) n := by
  rw [take_snocM X h, tall_snoc]
section
variable {P : Program} {ops : Array Oper} {Q : Exit → Act → World → Prop} {N : Nat} {Γ : Ctx} {a : Act} {w : World} {o1 o2 : Oper} {rest : List Oper}
end
end Go.Proofs.YtmlbkcpmgcjblaaGreat
