/- Regions by types where constants are frozen: a step may change what is frozen of a block that the region made; all that the region's slots hold hangs on no frozenness. -/
import Derived.Test.YtkdkmnemmenikaaTyFz
import Derived.Test.YtkdkmnemmenikaaTyM
namespace Go.Proofs.Ytkdkmnemmenikaa
open Go.RowKit

/-- Old blocks hold what they held, frozen or not. -/
def Soft (w w' : World) : Prop := w.heap.size ≤ w'.heap.size ∧ ∀ (g : Nat) (cs : Array Value) (e : TypeId) (fr : Nat × Nat), w.heap[g]? = some (.cells cs e fr) → ∃ fr', w'.heap[g]? = some (.cells cs e fr')
theorem Soft.of_below {w w' : World} (h : Below w.heap.size w w') : Soft w w' := ⟨h.size, fun g _ _ fr hg => ⟨fr, (h.block g (Array.getElem?_eq_some_iff.1 hg).1).trans hg⟩⟩
theorem Soft.freeze {w : World} {g k : Nat} {cs : Array Value} {e : TypeId} {fr : Nat × Nat} (h : w.heap[g]? = some (.cells cs e fr)) : Soft w (w.freeze ⟨g, k, none⟩ 1) := by
  obtain ⟨h1, fr', h2⟩ := freeze_block (k := k) h
  refine ⟨h1.size, fun j cs' e' f' hj => ?_⟩
  by_cases hjg : j = g
  · subst hjg
    rw [h] at hj
    injection hj with hj
    injection hj with e1 e2 e3
    subst e1 e2
    exact ⟨fr', h2⟩
  · exact ⟨f', (h1.block j (Array.getElem?_eq_some_iff.1 hj).1 (by simpa using hjg)).trans hj⟩
/-- A type that hangs on no frozenness. -/
def Fst (τ : Ty) : Prop := ∀ {w w' : World} {v : Value}, Soft w w' → τ.p w v → τ.p w' v
theorem Fst.ex (v : Value) : Fst (Ty.ex v) := fun _ h => h
theorem Fst.sl (e : TypeId) (n : Nat) (xs : List Value) : Fst (Ty.sl e n xs) := fun hs ⟨A, c, h1, h2, h3, h4, h5⟩ => ⟨A, c, h1, h2, h3, h4, fun j u hu => by
  obtain ⟨g, off, cs, fr, k1, k2, k3⟩ := h5 j u hu
  obtain ⟨fr', k4⟩ := hs.2 g cs e fr k2
  exact ⟨g, off, cs, fr', k1, k4, k3⟩⟩
theorem Fst.slT (e : TypeId) (n : Nat) (τs : List Ty) (h : ∀ τ ∈ τs, Fst τ) : Fst (Ty.slT e n τs) := fun hs ⟨A, c, h1, h2, h3, h4, h5⟩ => ⟨A, c, h1, h2, h3, h4, fun j τ hj => by
  obtain ⟨g, off, cs, fr, u, k1, k2, k3, k4⟩ := h5 j τ hj
  obtain ⟨fr', k5⟩ := hs.2 g cs e fr k2
  exact ⟨g, off, cs, fr', u, k1, k5, k3, h τ (List.mem_of_getElem? hj) hs k4⟩⟩
theorem Fst.at_ (e : TypeId) (xs : List Value) : Fst (Ty.at_ e xs) := fun hs ⟨g, off, cs, fr, h1, h2, h3⟩ => by
  obtain ⟨fr', k5⟩ := hs.2 g cs e fr h2
  exact ⟨g, off, cs, fr', h1, k5, h3⟩
/-- A slice in new memory of the region, frozen or not. -/
def Ty.nsl (w0 : World) (e : TypeId) (n : Nat) (xs : List Value) : Ty := ⟨fun w v => ∃ g off c cs fr, v = .slice (some ⟨g, off, none⟩) n c ∧ w0.heap.size ≤ g ∧ n ≤ c ∧ c ≤ maxLen ∧ w.heap[g]? = some (.cells cs e fr) ∧ ∀ (j : Nat) (u : Value), xs[j]? = some u → cs[off + j]? = some u, fun t => t == e, fun ⟨g, off, c, cs, fr, h1, h2, h3, h4, h5, h6⟩ k hA => ⟨g, off, c, cs, fr, h1, h2, h3, h4, keeps_block k hA h5 (by simp), h6⟩⟩
theorem Fst.nsl (w0 : World) (e : TypeId) (n : Nat) (xs : List Value) : Fst (Ty.nsl w0 e n xs) := fun hs ⟨g, off, c, cs, fr, h1, h2, h3, h4, h5, h6⟩ => by
  obtain ⟨fr', k⟩ := hs.2 g cs e fr h5
  exact ⟨g, off, c, cs, fr', h1, h2, h3, h4, k, h6⟩
theorem nsl_sl {w0 : World} {e : TypeId} {n : Nat} {xs : List Value} : ∀ w v, (Ty.nsl w0 e n xs).p w v → (Ty.sl e n xs).p w v := fun _ _ ⟨g, off, c, cs, fr, h1, _, h3, h4, h5, h6⟩ => ⟨_, c, h1, h3, h4, fun h => (by cases h), fun j u hu => ⟨g, off, cs, fr, rfl, h5, h6 j u hu⟩⟩
def OpF (P : Program) (w0 : World) (Γ : Ctx) (o : Oper) (V : Ty) : Prop :=
  ∀ (a : Act) (w : World) (K : Act → World → Prop) (Q : Exit → Act → World → Prop), Below w0.heap.size w0 w →
    (∀ (s : Nat) (τ : Ty), s ∈ Oper.reads o → look Γ s = some τ → ∃ v, a.tmps[s]? = some v ∧ τ.p w v) →
    (∀ v w', V.p w' v → Soft w w' → Below w0.heap.size w0 w' → K (a.put o.dst v) w') → o.wp P a w K Q
theorem OpF.of {P : Program} {w0 : World} {Γ : Ctx} {o : Oper} {V : Ty} (h : OpOk P w0 Γ o V) : OpF P w0 Γ o V := fun a w K Q hb hs hK => h a w K Q hb hs fun v w' h1 h2 => hK v w' h1 (Soft.of_below h2) (hb.trans (h2.mono hb.size))
inductive FactF (P : Program) (ops : Array Oper) (w0 : World) (Γ : Ctx) (o : Oper) (V : Ty) : Prop
  | run (hg : o.guard = none) (h : OpF P w0 Γ o V)
  | yes {j s : Nat} {b : Bool} (hg : o.guard = some (j, b)) (hj : slotOf ops j = some s) (hs : look Γ s = some (Ty.ex (.bool b))) (h : OpF P w0 Γ o V)
inductive LineF (P : Program) (ops : Array Oper) (w0 : World) : Ctx → List Oper → List Ty → Prop
  | nil {Γ : Ctx} : LineF P ops w0 Γ [] []
  | cons {Γ : Ctx} {d : Nat} {o : Oper} {V : Ty} {os : List Oper} {Vs : List Ty} (hd : o.dst = some d) (h : FactF P ops w0 Γ o V) (hf : Fst V) (t : LineF P ops w0 ((d, V) :: Γ) os Vs) : LineF P ops w0 Γ (o :: os) (V :: Vs)
section
variable {P : Program} {ops : Array Oper} {w0 : World} {Γ : Ctx} {o : Oper} {V : Ty}
theorem FactF.at_work (h : FactF P ops w0 Γ o V) {a : Act} {w : World} (hb : Below w0.heap.size w0 w) (hs : Sees ops Γ o a w) (K : Act → World → Prop) (Q : Exit → Act → World → Prop)
    (hK : ∀ v w', V.p w' v → Soft w w' → Below w0.heap.size w0 w' → K (a.put o.dst v) w') :
    if Region.wanted o (yielded ops a.tmps) then o.wp P a w K Q else K (a.put o.dst undef) w := by
  cases h with
  | run hg h =>
    rw [if_pos (by simp [Region.wanted, hg])]
    exact h a w K Q hb (fun s τ hr hl => hs s τ (reads_looksAt hr) hl) hK
  | @yes j s b hg hj hl h =>
    obtain ⟨v, hv, he⟩ := hs s _ (guard_looksAt hg hj) hl
    have he : v = .bool b := he
    subst he
    rw [if_pos (by simp [Region.wanted, hg, yielded_of hj hv])]
    exact h a w K Q hb (fun s τ hr hl => hs s τ (reads_looksAt hr) hl) hK
theorem LineF.fst {l : List Oper} {Vs : List Ty} (h : LineF P ops w0 Γ l Vs) : ∀ (i : Nat) (V : Ty), Vs[i]? = some V → Fst V := by
  induction h with
  | nil => intro i V h; simp at h
  | cons hd h hf t ih =>
    intro i V hi
    cases i with
    | zero => simp only [List.getElem?_cons_zero, Option.some.injEq] at hi; subst hi; exact hf
    | succ i => exact ih i V (by simpa using hi)
theorem LineF.at_ {l : List Oper} {Vs : List Ty} (h : LineF P ops w0 Γ l Vs) : ∀ (i : Nat) (o : Oper), l[i]? = some o → ∃ V Γi, Vs[i]? = some V ∧ FactF P ops w0 Γi o V ∧
    ∀ (s : Nat) (τ : Ty), look Γi s = some τ → (∃ (j : Nat) (oj : Oper), j < i ∧ l[j]? = some oj ∧ oj.dst = some s ∧ Vs[j]? = some τ) ∨ ((∀ (j : Nat) (oj : Oper), j < i → l[j]? = some oj → oj.dst ≠ some s) ∧ look Γ s = some τ) := by
  induction h with
  | nil => intro i o h; simp at h
  | @cons Γ d o V os Vs hd hF hfs t ih =>
    intro i o' ho'
    cases i with
    | zero =>
      simp only [List.getElem?_cons_zero, Option.some.injEq] at ho'
      subst ho'
      exact ⟨V, Γ, rfl, hF, fun s τ hl => .inr ⟨fun j oj hj => absurd hj (Nat.not_lt_zero _), hl⟩⟩
    | succ i =>
      simp only [List.getElem?_cons_succ] at ho'
      obtain ⟨V', Γi, h1, h2, h3⟩ := ih i o' ho'
      refine ⟨V', Γi, by simpa using h1, h2, fun s τ hl => ?_⟩
      rcases h3 s τ hl with ⟨j, oj, hj, hoj, hds, hVj⟩ | ⟨hno, hlk⟩
      · exact .inl ⟨j + 1, oj, by omega, by simpa using hoj, hds, by simpa using hVj⟩
      · by_cases hds : d = s
        · subst hds
          rw [look_same] at hlk
          injection hlk with hlk
          subst hlk
          exact .inl ⟨0, o, by omega, rfl, hd, rfl⟩
        · rw [look_ne _ _ hds] at hlk
          refine .inr ⟨fun j oj hj hoj => ?_, hlk⟩
          cases j with
          | zero =>
            simp only [List.getElem?_cons_zero, Option.some.injEq] at hoj
            subst hoj
            rw [hd]
            simpa using hds
          | succ j => exact hno j oj (by omega) (by simpa using hoj)
theorem LineF.ext_look {l : List Oper} {Vs : List Ty} (h : LineF P ops w0 Γ l Vs) : ∀ (s : Nat) (τ : Ty), look (ext Γ l Vs) s = some τ →
    (∃ (j : Nat) (oj : Oper), l[j]? = some oj ∧ oj.dst = some s ∧ Vs[j]? = some τ) ∨ ((∀ (j : Nat) (oj : Oper), l[j]? = some oj → oj.dst ≠ some s) ∧ look Γ s = some τ) := by
  induction h with
  | nil => intro s τ hl; exact .inr ⟨fun j oj h => by simp at h, hl⟩
  | @cons Γ d o V os Vs hd hF hfs t ih =>
    intro s τ hl
    have e : ext Γ (o :: os) (V :: Vs) = ext ((d, V) :: Γ) os Vs := by simp [ext, hd]
    rw [e] at hl
    rcases ih s τ hl with ⟨j, oj, hoj, hds, hVj⟩ | ⟨hno, hlk⟩
    · exact .inl ⟨j + 1, oj, by simpa using hoj, hds, by simpa using hVj⟩
    · by_cases hds : d = s
      · subst hds
        rw [look_same] at hlk
        injection hlk with hlk
        subst hlk
        exact .inl ⟨0, o, rfl, hd, rfl⟩
      · rw [look_ne _ _ hds] at hlk
        refine .inr ⟨fun j oj hoj => ?_, hlk⟩
        cases j with
        | zero =>
          simp only [List.getElem?_cons_zero, Option.some.injEq] at hoj
          subst hoj
          rw [hd]
          simpa using hds
        | succ j => exact hno j oj (by simpa using hoj)
end

structure TInvF (N n : Nat) (l : List Oper) (Vs : List Ty) (a0 : Act) (w0 : World) (listed : Array Bool) (a : Act) (w : World) : Prop where
  below : Below w0.heap.size w0 w
  defers : a.defers = []
  size : a.tmps.size = N
  out : ∀ s, (∀ (j : Nat) (oj : Oper), j < n → listed.getD j false = true → l[j]? = some oj → oj.dst ≠ some s) → a.tmps[s]? = a0.tmps[s]?
  vals : ∀ (j : Nat) (oj : Oper) (d : Nat) (V : Ty), j < n → listed.getD j false = true → l[j]? = some oj → oj.dst = some d → Vs[j]? = some V → ∃ v, a.tmps[d]? = some v ∧ V.p w v
section
variable {P : Program} {w0 : World} {Γ : Ctx} {N n : Nat} {l : List Oper} {Vs : List Ty} {a0 : Act} {ops : Array Oper}
theorem TInvF.start (hF : Fr N Γ a0 w0) {w : World} (hb : Below w0.heap.size w0 w) (m : Nat) : TInvF N n l Vs a0 w0 (Array.replicate m false) a0 w :=
  ⟨hb, hF.defers, hF.size, fun _ _ => rfl, fun j _ _ _ _ h => (by rw [getD_replicate_false] at h; cases h)⟩
theorem TInvF.step (hB : regB ops N n = true) (hl : ∀ i, i < n → l[i]? = ops[i]?) (hL : LineF P ops w0 Γ l Vs) (hF : Fr N Γ a0 w0) {listed : Array Bool} {a : Act} {w : World} (hI : TInvF N n l Vs a0 w0 listed a w)
    (hsz : listed.size = ops.size) (hcl : ∀ (j : Nat) (oj : Oper), ops[j]? = some oj → listed.getD j false = true → ∀ e ∈ oj.after, Region.binds .any e = true → listed.getD e.on false = true)
    {i : Nat} {o : Oper} (hi : i < n) (ho : ops[i]? = some o) (hun : listed.getD i false = false) (hdep : ∀ e ∈ o.after, Region.binds .any e = true → listed.getD e.on false = true) (K : Act → World → Prop) (Q : Exit → Act → World → Prop)
    (hK : ∀ a' w', TInvF N n l Vs a0 w0 (listed.setIfInBounds i true) a' w' → K a' w') :
    if Region.wanted o (yielded ops a.tmps) then o.wp P a w K Q else K (a.put o.dst undef) w := by
  have hli : l[i]? = some o := (hl i hi).trans ho
  obtain ⟨V, Γi, hV, hFa, hlk⟩ := hL.at_ i o hli
  obtain ⟨o', d, ho', hd, hdN, _, hoth⟩ := regB_at hB hi
  obtain rfl : o = o' := Option.some.inj (ho.symm.trans ho')
  have wf : ∀ {p q : Nat} {op : Oper}, ops[p]? = some op → Region.waitsFor .any ops p q = true → ∃ e ∈ op.after, Region.binds .any e = true ∧ e.on = q := fun {p q op} hp hw => by
    obtain ⟨oj, hoj, e, he, hb, hon⟩ := Region.waitsFor_spec hw
    obtain rfl : op = oj := Option.some.inj (hp.symm.trans hoj)
    exact ⟨e, he, hb, hon⟩
  have hsees : Sees ops Γi o a w := by
    intro s τ hs hls
    rcases hlk s τ hls with ⟨j, oj, hj, hoj, hds, hVj⟩ | ⟨hno, hl0⟩
    · have hjn : j < n := by omega
      have hoj' : ops[j]? = some oj := (hl j hjn).symm.trans hoj
      obtain ⟨oj2, dj, hoj2, hdj, _, _, hothj⟩ := regB_at hB hjn
      obtain rfl : oj = oj2 := Option.some.inj (hoj'.symm.trans hoj2)
      obtain rfl : dj = s := Option.some.inj (hdj.symm.trans hds)
      have h1 := ((hothj i o hi ho (by omega)).2 hs).1 hj
      obtain ⟨e, he, hb, hon⟩ := wf ho h1
      have h2 := hdep e he hb
      rw [hon] at h2
      obtain ⟨v, hv1, hv2⟩ := hI.vals j oj dj τ hjn h2 hoj hdj hVj
      exact ⟨v, hv1, hv2⟩
    · obtain ⟨v, hv1, hv2⟩ := hF.val s τ hl0
      refine ⟨v, ?_, τ.below hv2 hI.below⟩
      rw [hI.out s (fun k ok hk hlk' hok hdk => ?_)]
      · exact hv1
      · have hok' : ops[k]? = some ok := (hl k hk).symm.trans hok
        have hki : k ≠ i := fun h => by subst h; rw [hun] at hlk'; cases hlk'
        by_cases hlt : k < i
        · exact hno k ok hlt hok hdk
        · obtain ⟨ok2, dk, hok2, hdk2, _, _, hothk⟩ := regB_at hB hk
          obtain rfl : ok = ok2 := Option.some.inj (hok'.symm.trans hok2)
          obtain rfl : dk = s := Option.some.inj (hdk2.symm.trans hdk)
          have h1 := ((hothk i o hi ho (Ne.symm hki)).2 hs).2 (by omega)
          obtain ⟨e, he, hb, hon⟩ := wf hok' h1
          have h2 := hcl k ok hok' hlk' e he hb
          rw [hon, hun] at h2
          cases h2
  refine hFa.at_work hI.below hsees K Q (fun v w' hv hb hb0 => hK _ _ ?_)
  rw [hd]
  have hilt : i < listed.size := by rw [hsz]; exact (Array.getElem?_eq_some_iff.1 ho).1
  have hdne : ∀ (j : Nat) (oj : Oper) (dj : Nat), j < n → j ≠ i → l[j]? = some oj → oj.dst = some dj → d ≠ dj := fun j oj dj hj hne hoj hdj h => by
    subst h
    exact (hoth j oj hj ((hl j hj).symm.trans hoj) hne).1 hdj
  refine ⟨hb0, hI.defers, by simp only [Act.put]; simpa using hI.size, fun s hs => ?_, fun j oj dj Vj hj hlj hoj hdj hVj => ?_⟩
  · have hds : d ≠ s := fun h => hs i o hi (by simp [Array.getD, hilt]) hli (by rw [hd, h])
    simp only [Act.put]
    rw [Array.getElem?_setIfInBounds_ne hds]
    refine hI.out s (fun j oj hj hlj hoj => ?_)
    refine hs j oj hj ?_ hoj
    by_cases hij : i = j
    · subst hij; rw [hun] at hlj; cases hlj
    · rw [getD_set_ne false hij]; exact hlj
  · by_cases hij : i = j
    · subst hij
      obtain rfl : o = oj := Option.some.inj (hli.symm.trans hoj)
      obtain rfl : d = dj := Option.some.inj (hd.symm.trans hdj)
      obtain rfl : V = Vj := Option.some.inj (hV.symm.trans hVj)
      refine ⟨v, ?_, hv⟩
      simp only [Act.put]
      rw [Array.getElem?_setIfInBounds_self, if_pos (by rw [hI.size]; exact hdN)]
    · rw [getD_set_ne false hij] at hlj
      obtain ⟨u, h1, h2⟩ := hI.vals j oj dj Vj hj hlj hoj hdj hVj
      refine ⟨u, ?_, hL.fst j Vj hVj hb h2⟩
      simp only [Act.put]
      rw [Array.getElem?_setIfInBounds_ne (hdne j oj dj hj (Ne.symm hij) hoj hdj)]
      exact h1
theorem TInvF.all (hL : LineF P ops w0 Γ l Vs) (hn : n = l.length) (hF : Fr N Γ a0 w0) {listed : Array Bool} {a : Act} {w : World} (hI : TInvF N n l Vs a0 w0 listed a w) (hall : ∀ i, i < n → listed.getD i false = true) : Fr N (ext Γ l Vs) a w := by
  have lt : ∀ (j : Nat) (oj : Oper), l[j]? = some oj → j < n := fun j oj h => by rw [hn]; exact (List.getElem?_eq_some_iff.1 h).1
  refine ⟨hI.size, hI.defers, fun s τ hs => ?_⟩
  rcases hL.ext_look s τ hs with ⟨j, oj, hoj, hds, hVj⟩ | ⟨hno, hl0⟩
  · exact hI.vals j oj s τ (lt j oj hoj) (hall j (lt j oj hoj)) hoj hds hVj
  · obtain ⟨v, hv1, hv2⟩ := hF.val s τ hl0
    exact ⟨v, by rw [hI.out s (fun j oj _ _ hoj => hno j oj hoj)]; exact hv1, τ.below hv2 hI.below⟩
end
section
variable {P : Program} {w0 : World} {Γ : Ctx} {N : Nat} {Vs : List Ty} {a0 : Act}
/-- **A region by types.** Its first n operations are told by a derivation in the order of the text; the rest goes in the order of the text. -/
theorem region_fz {id : Nat} {Q : Exit → Act → World → Prop} {l : List Oper} {draw : Bool} (n : Nat) (hm : P.follows .mixedOrders = true) (hB : (regB l.toArray N n && tailB l.toArray n) = true) (hF : Fr N Γ a0 w0)
    (hL : LineF P l.toArray w0 Γ (l.take n) Vs)
    (hQ : ∀ a w, Fr N (ext Γ (l.take n) Vs) a w → Below w0.heap.size w0 w → wpList P l.toArray Q (l.drop n) a w) : (Code.region id l.toArray draw).wp P Q a0 w0 := by
  rw [Bool.and_eq_true] at hB
  obtain ⟨hB, hT⟩ := hB
  have hsize : l.toArray.size = l.length := by simp
  have hnl : n ≤ l.toArray.size := by
    unfold tailB at hT
    split at hT
    · rename_i h; simp at h; simp [h]
    · simp only [Bool.and_eq_true, decide_eq_true_eq] at hT; omega
  have hlen : n = (l.take n).length := by simp at hnl ⊢; omega
  have hli : ∀ i, i < n → (l.take n)[i]? = l.toArray[i]? := fun i hi => by simp [hi]
  have hback : ∀ i o, i < n → l.toArray[i]? = some o → ∀ e ∈ o.after, Region.binds .any e = true → e.on < i := fun i o hi ho e he hb => by
    obtain ⟨o', d, ho', _, _, h, _⟩ := regB_at hB hi
    obtain rfl : o = o' := Option.some.inj (ho.symm.trans ho')
    exact h e he hb
  have fin : ∀ (listed : Array Bool) a w, TInvF N n (l.take n) Vs a0 w0 listed a w → (∀ i, i < n → listed.getD i false = true) → wpList P l.toArray Q (l.drop n) a w := fun listed a w hI hall => by
    exact hQ a w (hI.all hL hlen hF hall) hI.below
  cases draw with
  | true =>
    have key : ∀ (f : Nat) (listed : Array Bool) (a : Act) (w : World), HeadInv .any l.toArray n listed → wanting n listed = f → TInvF N n (l.take n) Vs a0 w0 listed a w → wpAny P .any l.toArray Q (f + (l.toArray.size - n)) listed a w := by
      intro f
      induction f with
      | zero =>
        intro listed a w hH h0 hI
        have hall := wanting_zero h0
        have hdl : (l.drop n).length = l.toArray.size - n := by simp
        have e := all_listed hH hall hnl
        have hseq : Region.seqB .any l.toArray (l.toArray.size - n) n listed = true := by
          unfold tailB at hT
          split at hT
          · rename_i h
            have hz : n = l.toArray.size := by simpa using h
            have h2 : l.toArray.size - n = 0 := by omega
            rw [h2]
            simp only [Region.seqB, List.isEmpty_iff]
            unfold Region.ready
            rw [List.filter_eq_nil_iff]
            intro i hi
            have hi' := List.mem_range.1 hi
            have h3 := hall i (by omega)
            have hil : i < listed.size := by rw [hH.size]; exact hi'
            simp [Array.getD, hil] at h3 ⊢
            simp [h3]
          · simp only [Bool.and_eq_true] at hT
            rw [e]; exact hT.2
        have := wpAny_of_seq (md := .any) (Q' := Q) (l.drop n) n listed a w (fun j => by simp [List.getElem?_drop]) (by rw [hdl]; exact hseq) (fin listed a w hI hall)
        rw [Nat.zero_add]
        rwa [hdl] at this
      | succ f ih =>
        intro listed a w hH h0 hI
        rw [show f + 1 + (l.toArray.size - n) = (f + (l.toArray.size - n)) + 1 by omega]
        have hex : ∃ i, i < n ∧ listed.getD i true = false := by
          refine Classical.byContradiction fun hno => ?_
          have hz : wanting n listed = 0 := by
            unfold wanting
            rw [List.length_eq_zero_iff, List.filter_eq_nil_iff]
            intro i hi
            have hi' := List.mem_range.1 hi
            have hl : i < listed.size := by rw [hH.size]; omega
            have h1 : ¬ listed.getD i true = false := fun h => hno ⟨i, hi', h⟩
            simp [Array.getD, hl] at h1 ⊢
            exact h1
          omega
        obtain ⟨i0, hi0, hun0⟩ := hex
        refine ⟨fun hr => ?_, fun i hi => ?_⟩
        · exfalso
          have := ready_head hback hnl hH.size hr i0 hi0
          rw [getD_both hun0] at this
          cases this
        · obtain ⟨h1, o, ho, h2⟩ := mem_ready.1 hi
          have hin : i < n := Nat.lt_of_not_le fun h => by
            have hio := (Array.getElem?_eq_some_iff.1 ho).1
            unfold tailB at hT
            split at hT
            · rename_i h'; simp at h'; omega
            · simp only [Bool.and_eq_true, decide_eq_true_eq] at hT
              exact tail_waits hT.1.1.2 hT.1.2 hT.1.1.1 hH _ i0 rfl hi0 hun0 i h hi
          have hil : i < listed.size := by rw [hH.size]; omega
          have h3 := TInvF.step hB hli hL hF hI hH.size hH.closed hin ho (getD_both h1) h2 (wpAny P .any l.toArray Q (f + (l.toArray.size - n)) (listed.setIfInBounds i true)) Q (fun a' w' hI' => by
            refine ih _ a' w' (hH.set hi hin) ?_ hI'
            have := wanting_set hin hil (getD_both h1)
            omega)
          unfold wpOp
          simp only [ho]
          split
          · rename_i hw
            rw [if_pos hw] at h3
            exact .inl h3
          · rename_i hw
            rw [if_neg hw] at h3
            exact h3
    have inv0 : HeadInv .any l.toArray n (Array.replicate l.toArray.size false) :=
      ⟨by simp, fun j oj _ hl => (by rw [getD_replicate_false] at hl; cases hl), fun t _ ht => getD_in (by simpa using ht) (getD_replicate_false _ _)⟩
    have h0 : wanting n (Array.replicate l.toArray.size false) = n := by
      unfold wanting
      rw [List.filter_eq_self.2 (fun i _ => by rw [getD_replicate_false]; rfl), List.length_range]
    refine wp_region_any hm ?_
    have := key n _ a0 w0.drew inv0 h0 (TInvF.start hF (Below.refl _ _).drew _)
    rw [show n + (l.toArray.size - n) = l.toArray.size by omega] at this
    exact this
  | false =>
    have key : ∀ (f k : Nat) (a : Act) (w : World), k + f = n → TInvF N n (l.take n) Vs a0 w0 ((List.replicate k true ++ List.replicate (l.toArray.size - k) false).toArray) a w → wpList P l.toArray Q (l.drop k) a w := by
      intro f
      induction f with
      | zero =>
        intro k a w hk hI
        obtain rfl : k = n := by omega
        refine fin _ a w hI (fun i hi => ?_)
        simp [Array.getD, hi]
        omega
      | succ f ih =>
        intro k a w hk hI
        have hkn : k < n := by omega
        have hkl : k < l.length := by omega
        have hdrop : l.drop k = l[k] :: l.drop (k + 1) := by rw [List.drop_eq_getElem_cons hkl]
        have getD_k : ∀ m j, m ≤ l.toArray.size → (List.replicate m true ++ List.replicate (l.toArray.size - m) false).toArray.getD j false = decide (j < m) := fun m j hm => by
          by_cases hj : j < m
          · simp [Array.getD, hj]; omega
          · simp [Array.getD, List.getElem_append, hj]
        have ho : l.toArray[k]? = some l[k] := by simp [hkl]
        have hset : (List.replicate k true ++ List.replicate (l.toArray.size - k) false).toArray.setIfInBounds k true = (List.replicate (k + 1) true ++ List.replicate (l.toArray.size - (k + 1)) false).toArray := by
          apply Array.ext_getElem?
          intro j
          rw [show l.toArray.size - k = (l.toArray.size - (k + 1)) + 1 by omega, List.replicate_succ, List.replicate_succ']
          simp only [List.setIfInBounds_toArray, List.getElem?_toArray, List.append_assoc, List.singleton_append]
          rw [List.set_append_right _ _ (by simp)]
          simp
        rw [hdrop]
        refine wpList_step fun K hK => ?_
        refine TInvF.step hB hli hL hF hI (by simp; omega) (fun j oj hj hl e he hb => ?_) hkn ho (by rw [getD_k k k (by omega)]; simp) (fun e he hb => ?_) K Q (fun a' w' hI' => hK a' w' (ih (k + 1) a' w' (by omega) (by rw [← hset]; exact hI')))
        · rw [getD_k k _ (by omega)] at hl ⊢
          simp only [decide_eq_true_eq] at hl ⊢
          have := hback j oj (by omega) hj e he hb
          omega
        · rw [getD_k k _ (by omega)]
          simp only [decide_eq_true_eq]
          exact hback k _ hkn ho e he hb
    refine wp_region_lit ?_
    have := key n 0 a0 w0 (by omega) (by
      have e : (List.replicate 0 true ++ List.replicate (l.toArray.size - 0) false).toArray = Array.replicate l.toArray.size false := by simp
      rw [e]
      exact TInvF.start hF (Below.refl _ _) _)
    simpa using this
end
section
variable {P : Program} {w0 : World} {Γ : Ctx} {o : Oper}
/-- A slice laid in new memory; its freezing. -/
theorem cBuildN {t e : TypeId} {z : Value} {sz bytes n : Nat} {parts : Array (Nat × Operand)} {vs : List Value} (ho : o.op = .buildSlice t n parts) (hp : ∀ (a : Act) (w : World), SeesO Γ o a w → (parts.map fun (i, x) => (i, a.eval x)) = (vs.zipIdx.map fun p => (p.2, p.1)).toArray)
    (hu : P.underlying t = some (.slice e)) (hi : (P.info? e).map (fun i => (i.zero, i.size, i.bytes)) = some (some z, sz, bytes)) (hn : vs.length = n) (hv : ∀ v ∈ vs, v.cells.size = sz) (hbig : n * sz ≤ 16777216) (hm : n ≤ maxLen) : OpF P w0 Γ o (Ty.nsl w0 e n (vs.map fun v => v.cells.toList).flatten) :=
  fun a w K Q hb hs hK => by
    have hr := run_buildSlice (P := P) (t := t) n vs hu hi hn hv hbig w
    have h0 := hp a w (sees_of hs)
    unfold Oper.wp execOp
    simp only [ho]
    rw [h0, Sem.run_bind, hr]
    have hk : Below w.heap.size w (w.alloc (.cells (vs.map fun v => v.cells.toList).flatten.toArray e)) := ((Keeps.refl [] w).alloc _).below
    refine hK _ _ ⟨w.heap.size, 0, n, _, (0, 0), rfl, hb.size, Nat.le_refl _, hm, heap_alloc_new w _, fun j u hu => ?_⟩ (Soft.of_below hk) (hb.trans (hk.mono hb.size))
    rw [Nat.zero_add]
    simpa using hu
theorem cFreezeN {t e : TypeId} {s n : Nat} {xs : List Value} (ho : o.op = .convert t t (.tmp s)) (hs : look Γ s = some (Ty.nsl w0 e n xs)) (ht : P.underlying t = some (.slice e)) (he : P.underlying e = some (.int .u8)) : OpF P w0 Γ o (Ty.nsl w0 e n xs) :=
  fun a w K Q hb hsee hK => by
    obtain ⟨v, hv, g, off, c, cs, fr, rfl, h2, h3, h4, h5, h6⟩ := hsee s _ (by simp [Oper.reads, ho, Op.operands]) hs
    have h1 := run_freeze (P := P) (t := t) (off := off) (n := n) (c := c) ht he h5
    obtain ⟨k1, fr', k2⟩ := freeze_block (k := cs.size) h5
    have ea : a.eval (.tmp s) = .slice (some ⟨g, off, none⟩) n c := by simp [Act.eval, Array.getD_eq_getD_getElem?, hv]
    unfold Oper.wp execOp
    simp only [ho, ea, Sem.run_bind, h1, Result.andThen_ok, Sem.run_pure]
    refine hK _ _ ⟨g, off, c, cs, fr', rfl, h2, h3, h4, k2, h6⟩ (Soft.freeze h5) (below_own hb k1 (by intro y hy; simp only [List.mem_singleton] at hy; omega))
end
end Go.Proofs.Ytkdkmnemmenikaa
