/- A statement that declares several variables at once ('x, y := f(), g()'), its order open: values, then new variables, then stores. -/
import Derived.Test.YtkdkmnemmenikaaReg
namespace Go.Proofs.Ytkdkmnemmenikaa
open Go.RowKit

/-- How such a statement is laid out: m values, k variables. -/
structure DeclOf (m k : Nat) where
  dv : Nat → Nat
  val : Nat → Value
  al : Nat → Nat
  sv : Nat → Nat
  X : Nat → Array Value
  ta : Nat → TypeId
  Z : Nat → Array Value

section
variable {m k : Nat} (D : DeclOf m k)
def DeclOf.out (s : Nat) : Prop := (∀ i, i < m → s ≠ D.dv i) ∧ ∀ j, j < k → s ≠ D.al j

structure DeclOf.Inv (w0 : World) (a0 : Act) (listed : Array Bool) (a : Act) (w : World) (g : Nat → Nat) : Prop where
  keeps : Keeps [] w0 w
  defers : a.defers = a0.defers
  size : a.tmps.size = a0.tmps.size
  out : ∀ s, D.out s → a.tmps[s]? = a0.tmps[s]?
  vals : ∀ i, i < m → listed.getD i false = true → a.tmps[D.dv i]? = some (D.val i)
  ptr : ∀ j, j < k → listed.getD (m + j) false = true → a.tmps[D.al j]? = some (.pointer (some ⟨g j, 0, none⟩)) ∧ w0.heap.size ≤ g j ∧ Blk w (g j) (D.ta j) (if listed.getD (m + k + j) false = true then D.X j else D.Z j)
  ne : ∀ i j, i < k → j < k → i ≠ j → listed.getD (m + i) false = true → listed.getD (m + j) false = true → g i ≠ g j
  late : ∀ j, j < k → listed.getD (m + k + j) false = true → listed.getD (m + j) false = true

theorem put_get {a : Act} {d s : Nat} {v : Value} (h : s ≠ d) : (a.put (some d) v).tmps[s]? = a.tmps[s]? := by
  simp only [Act.put]
  rw [Array.getElem?_setIfInBounds_ne (by omega)]
theorem put_same {a : Act} {d : Nat} {v : Value} (h : d < a.tmps.size) : (a.put (some d) v).tmps[d]? = some v := by
  simp only [Act.put]
  rw [Array.getElem?_setIfInBounds_self, if_pos h]
theorem eval_tmp {a : Act} {s : Nat} {v : Value} (h : a.tmps[s]? = some v) : a.eval (.tmp s) = v := by
  simp [Act.eval, Array.getD_eq_getD_getElem?, h]

theorem getD_set_iff {listed : Array Bool} {i j : Nat} (h : (listed.setIfInBounds i true).getD j false = true) (hn : i ≠ j) : listed.getD j false = true := by
  rwa [getD_set_ne false hn] at h

theorem region_decl {P : Program} {id : Nat} {ops : Array Oper} {Q : Exit → Act → World → Prop} {a0 : Act} {w0 : World} (hm : P.follows .mixedOrders = true)
    (hback : ∀ i o, ops[i]? = some o → ∀ e ∈ o.after, Region.binds .any e = true → e.on < i) (hsz : ops.size = m + k + k)
    (hval : ∀ i o, i < m → ops[i]? = some o → o.dst = some (D.dv i) ∧ o.guard = none ∧ ∀ (a : Act) (w : World) (K : Act → World → Prop), (∀ s, D.out s → a.tmps[s]? = a0.tmps[s]?) → Keeps [] w0 w →
      (∀ j, j < m → (∃ e ∈ o.after, e.on = j ∧ Region.binds .any e = true) → a.tmps[D.dv j]? = some (D.val j)) → (∀ w', Keeps [] w w' → K (a.put o.dst (D.val i)) w') → o.wp P a w K Q)
    (hall : ∀ j o, j < k → ops[m + j]? = some o → o.dst = some (D.al j) ∧ o.guard = none ∧ ∀ (a : Act) (w : World) (K : Act → World → Prop), K (a.put o.dst (.pointer (some ⟨w.heap.size, 0, none⟩))) (w.alloc (.cells (D.Z j) (D.ta j))) → o.wp P a w K Q)
    (hsto : ∀ j o, j < k → ops[m + k + j]? = some o → o.dst = none ∧ o.guard = none ∧ o.op = .store (D.ta j) (.tmp (D.al j)) (.tmp (D.dv (D.sv j))) ∧ D.sv j < m ∧ D.val (D.sv j) = .agg (D.X j) ∧ (∃ e ∈ o.after, e.on = m + j ∧ Region.binds .any e = true) ∧ (∃ e ∈ o.after, e.on = D.sv j ∧ Region.binds .any e = true) ∧
      (D.X j).size = (D.Z j).size ∧ (P.info? (D.ta j)).map (·.size) = some (D.X j).size ∧ (D.X j).all (·.oneCell') = true)
    (hd1 : ∀ i j, i < m → j < m → i ≠ j → D.dv i ≠ D.dv j) (hd2 : ∀ i j, i < k → j < k → i ≠ j → D.al i ≠ D.al j) (hd3 : ∀ i j, i < m → j < k → D.dv i ≠ D.al j)
    (hb1 : ∀ i, i < m → D.dv i < a0.tmps.size) (hb2 : ∀ j, j < k → D.al j < a0.tmps.size)
    (hQ : ∀ (g : Nat → Nat) (a : Act) (w : World), Keeps [] w0 w → (∀ j, j < k → w0.heap.size ≤ g j ∧ Blk w (g j) (D.ta j) (D.X j)) → (∀ i j, i < k → j < k → i ≠ j → g i ≠ g j) → a.defers = a0.defers → a.tmps.size = a0.tmps.size →
      (∀ s, D.out s → a.tmps[s]? = a0.tmps[s]?) → (∀ i, i < m → a.tmps[D.dv i]? = some (D.val i)) → (∀ j, j < k → a.tmps[D.al j]? = some (.pointer (some ⟨g j, 0, none⟩))) → Q .normal a w) :
    (Code.region id ops true).wp P Q a0 w0 := by
  refine region_inv hm hback (fun listed a w => ∃ g, D.Inv w0 a0 listed a w g) ⟨fun _ => 0, ⟨(Keeps.refl [] w0).drew, rfl, rfl, fun _ _ => rfl, ?_, ?_, ?_, ?_⟩⟩ ?_ ?_
  · intro i _ h; simp [Array.getD] at h
  · intro j _ h; simp [Array.getD] at h
  · intro i j _ _ _ h; simp [Array.getD] at h
  · intro j _ h; simp [Array.getD] at h
  · rintro listed a w i o hs ⟨g, hI⟩ ho hun hdep
    have hio : i < ops.size := (Array.getElem?_eq_some_iff.1 ho).1
    rcases Nat.lt_or_ge i m with him | him
    · -- a value
      obtain ⟨h1, h2, h3⟩ := hval i o him ho
      rw [if_pos (by simp [Region.wanted, h2])]
      refine h3 a w _ hI.out hI.keeps (fun j hj ⟨e, he, hej, hbd⟩ => hI.vals j hj (by have := hdep e he hbd; rwa [hej] at this)) (fun w' hk => ⟨g, ?_⟩)
      rw [h1]
      refine ⟨hI.keeps.trans hk, hI.defers, by simp only [Act.put]; simpa using hI.size, fun s hs' => ?_, fun j hj hl => ?_, fun j hj hl => ?_, fun p q hp hq hne h4 h5 => ?_, fun j hj hl => ?_⟩
      · rw [put_get (hs'.1 i him)]; exact hI.out s hs'
      · by_cases hij : i = j
        · subst hij; exact put_same (by rw [hI.size]; exact hb1 i him)
        · rw [put_get (hd1 j i hj him (Ne.symm hij))]; exact hI.vals j hj (getD_set_iff hl hij)
      · have hl' := getD_set_iff hl (by omega)
        obtain ⟨e1, e2, e3⟩ := hI.ptr j hj hl'
        refine ⟨by rw [put_get (Ne.symm (hd3 i j him hj))]; exact e1, e2, ?_⟩
        rw [getD_set_ne false (by omega)]
        exact e3.keeps hk (by simp)
      · exact hI.ne p q hp hq hne (getD_set_iff h4 (by omega)) (getD_set_iff h5 (by omega))
      · rw [getD_set_ne false (by omega)]; exact hI.late j hj (getD_set_iff hl (by omega))
    · rcases Nat.lt_or_ge i (m + k) with hik | hik
      · -- a new variable
        obtain ⟨j0, rfl⟩ : ∃ j0, i = m + j0 := ⟨i - m, by omega⟩
        have hj0 : j0 < k := by omega
        obtain ⟨h1, h2, h3⟩ := hall j0 o hj0 ho
        have hnl : listed.getD (m + k + j0) false ≠ true := fun h => by
          have := hI.late j0 hj0 h
          have hl : m + j0 < listed.size := by omega
          simp [Array.getD, hl] at hun this
          rw [hun] at this; cases this
        rw [if_pos (by simp [Region.wanted, h2])]
        refine h3 a w _ ⟨fun j => if j = j0 then w.heap.size else g j, ?_⟩
        rw [h1]
        have hgl : ∀ j, j < k → listed.getD (m + j) false = true → g j < w.heap.size := fun j hj hl => (hI.ptr j hj hl).2.2.lt
        refine ⟨hI.keeps.alloc _, hI.defers, by simp only [Act.put]; simpa using hI.size, fun s hs' => ?_, fun j hj hl => ?_, fun j hj hl => ?_, fun p q hp hq hne h4 h5 => ?_, fun j hj hl => ?_⟩
        · rw [put_get (hs'.2 j0 hj0)]; exact hI.out s hs'
        · rw [put_get (hd3 j j0 hj hj0)]; exact hI.vals j hj (getD_set_iff hl (by omega))
        · by_cases hjj : j = j0
          · subst hjj
            rw [if_pos rfl]
            refine ⟨put_same (by rw [hI.size]; exact hb2 j hj), hI.keeps.size, ?_⟩
            rw [getD_set_ne false (by omega), if_neg hnl]
            exact Blk.new w _ _
          · rw [if_neg hjj]
            obtain ⟨e1, e2, e3⟩ := hI.ptr j hj (getD_set_iff hl (by omega))
            refine ⟨by rw [put_get (hd2 j j0 hj hj0 hjj)]; exact e1, e2, ?_⟩
            rw [getD_set_ne false (by omega)]
            exact e3.alloc _
        · by_cases hp0 : p = j0
          · have hq0 : q ≠ j0 := fun h => hne (by rw [hp0, h])
            rw [if_pos hp0, if_neg hq0]
            have := hgl q hq (getD_set_iff h5 (by omega))
            omega
          · rw [if_neg hp0]
            have hp' := getD_set_iff h4 (by omega)
            by_cases hq0 : q = j0
            · rw [if_pos hq0]
              have := hgl p hp hp'
              omega
            · rw [if_neg hq0]
              exact hI.ne p q hp hq hne hp' (getD_set_iff h5 (by omega))
        · exact getD_set_true (hI.late j hj (getD_set_iff hl (by omega)))
      · -- a store
        obtain ⟨j0, rfl⟩ : ∃ j0, i = m + k + j0 := ⟨i - (m + k), by omega⟩
        have hj0 : j0 < k := by omega
        obtain ⟨h1, h2, h3, h4, h5, ⟨e1, he1, hon1, hbd1⟩, ⟨e2, he2, hon2, hbd2⟩, h8, h9, h10⟩ := hsto j0 o hj0 ho
        have hla := hdep e1 he1 hbd1
        rw [hon1] at hla
        have hlv := hdep e2 he2 hbd2
        rw [hon2] at hlv
        obtain ⟨p1, p2, p3⟩ := hI.ptr j0 hj0 hla
        have hnl : listed.getD (m + k + j0) false ≠ true := fun h => by
          have hl : m + k + j0 < listed.size := by omega
          simp [Array.getD, hl] at hun h
          rw [hun] at h; cases h
        rw [if_neg hnl] at p3
        rw [if_pos (by simp [Region.wanted, h2])]
        refine wp_store_blk (D.ta j0) _ _ h3 (g j0) (D.ta j0) (D.Z j0) (D.X j0) (eval_tmp p1) (by rw [eval_tmp (hI.vals _ h4 hlv), h5]) p3 h8 h9 h10 (fun w' hB hk => ⟨g, ?_⟩)
        rw [h1]
        refine ⟨hI.keeps.trans' hk (by simpa using p2), hI.defers, hI.size, hI.out, fun j hj hl => hI.vals j hj (getD_set_iff hl (by omega)), fun j hj hl => ?_, fun p q hp hq hne h6 h7 => hI.ne p q hp hq hne (getD_set_iff h6 (by omega)) (getD_set_iff h7 (by omega)), fun j hj hl => ?_⟩
        · have hl' := getD_set_iff hl (by omega)
          obtain ⟨q1, q2, q3⟩ := hI.ptr j hj hl'
          refine ⟨q1, q2, ?_⟩
          by_cases hjj : j0 = j
          · subst hjj
            have hset : (listed.setIfInBounds (m + k + j0) true).getD (m + k + j0) false = true := by
              have hl : m + k + j0 < listed.size := by omega
              simp [Array.getD, hl]
            rw [if_pos hset]
            exact hB
          · rw [getD_set_ne false (by omega)]
            exact q3.keeps hk (by simpa using hI.ne j j0 hj hj0 (Ne.symm hjj) hl' hla)
        · by_cases hjj : j0 = j
          · subst hjj; exact getD_set_true hla
          · exact getD_set_true (hI.late j hj (getD_set_iff hl (by omega)))
  · rintro listed a w hall' ⟨g, hI⟩
    refine hQ g a w hI.keeps (fun j hj => ?_) (fun i j hi hj hne => hI.ne i j hi hj hne (hall' _ (by omega)) (hall' _ (by omega))) hI.defers hI.size hI.out (fun i hi => hI.vals i hi (hall' _ (by omega))) (fun j hj => (hI.ptr j hj (hall' _ (by omega))).1)
    obtain ⟨_, q2, q3⟩ := hI.ptr j hj (hall' _ (by omega))
    rw [if_pos (hall' _ (by omega))] at q3
    exact ⟨q2, q3⟩
end
end Go.Proofs.Ytkdkmnemmenikaa
