/- Joined: TyW, TabB, SetA, CmpP, Cmp, R1Cmp, SetC, SetD, SetE, TabC, TabD, TabE, TabF, LaysS, SetF. -/
import Derived.Lib.Bytealg
import Derived.Lib.BytesEntry
import Derived.Lib.Hide
import Derived.Deep.QuietTactic
import Derived.BigQuiet
import Derived.Laws.MakeOwn
import Derived.Test.YtmlbkcpmgcjblaaProg
import Derived.Shelf.SlGeneric
import Derived.Shelf.SlSortCmp.NoneTotal
import Derived.Ground.SlsfProg
import Derived.KernelRfl
import Derived.Test.YtmlbkcpmgcjblaaZTableSays2
/- Regions by types: one store over a variable of the call's own that may come at whatever place of the order. -/
namespace Go.Proofs.Ytmlbkcpmgcjblaa
open Go.RowKit

theorem size_setC (b : Nat) : ∀ (vs : List Value) (o : Nat) (w : World), (w.setCells b o vs).heap.size = w.heap.size
  | [], _, _ => rfl
  | v :: vs, o, w => by
    rw [World.setCells, size_setC b vs]
    simp
/-- Lines that hold whether the store has been or not; the store itself, the p-th. -/
inductive LineW (P : Program) (ops : Array Oper) (w0 w1 : World) (t : TypeId) (g : Nat) (v : Value) (p : Nat) : Nat → Ctx → List Oper → List Ty → Prop
  | nil {i : Nat} {Γ : Ctx} : LineW P ops w0 w1 t g v p i Γ [] []
  | cons {i : Nat} {Γ : Ctx} {d : Nat} {o : Oper} {V : Ty} {os : List Oper} {Vs : List Ty} (hi : Nat.beq i p = false) (hd : o.dst = some d) (h0 : Fact P ops w0 Γ o V) (h1 : Fact P ops w1 Γ o V) (he : V.el t = false) (tl : LineW P ops w0 w1 t g v p (i + 1) ((d, V) :: Γ) os Vs) : LineW P ops w0 w1 t g v p i Γ (o :: os) (V :: Vs)
  | store {i : Nat} {Γ : Ctx} {o : Oper} {os : List Oper} {Vs : List Ty} {ty : TypeId} {x s : Nat} (hi : Nat.beq i p = true) (hd : o.dst = none) (hg : o.guard = none) (ho : o.op = .store ty (.tmp x) (.tmp s)) (hx : look Γ x = some (Ty.ex (.pointer (some ⟨g, 0, none⟩)))) (hs : look Γ s = some (Ty.ex v)) (hz : (P.info? ty).map (·.size) = some v.cells.size) (tl : LineW P ops w0 w1 t g v p (i + 1) Γ os Vs) : LineW P ops w0 w1 t g v p i Γ (o :: os) (Ty.any :: Vs)
def extW : Ctx → List Oper → List Ty → Ctx
  | Γ, o :: os, V :: Vs => match o.dst with | some d => extW ((d, V) :: Γ) os Vs | none => extW Γ os Vs
  | Γ, _, _ => Γ
def regW (ops : Array Oper) (N n p : Nat) : Bool := decide (p < n) && (List.range n).all fun i => match ops[i]? with
  | none => false
  | some o => if i == p then (o.after.all fun e => !Region.binds .any e || decide (e.on < i)) && o.dst.isNone &&
      (List.range n).all fun j => match ops[j]? with
        | none => false
        | some oj => (match oj.dst with | none => true | some d => !(o.looksAt ops).contains d || (if decide (j < i) then Region.waitsFor .any ops i j else Region.waitsFor .any ops j i))
    else okAt ops N n i o
section
variable {ops : Array Oper} {N n p : Nat}
theorem regW_at {i : Nat} (h : regW ops N n p = true) (hi : i < n) (hp : i ≠ p) : ∃ o d, ops[i]? = some o ∧ o.dst = some d ∧ d < N ∧ (∀ e ∈ o.after, Region.binds .any e = true → e.on < i) ∧
    ∀ (j : Nat) (oj : Oper), j < n → ops[j]? = some oj → j ≠ i → oj.dst ≠ some d ∧ (d ∈ oj.looksAt ops → (i < j → Region.waitsFor .any ops j i = true) ∧ (j < i → Region.waitsFor .any ops i j = true)) := by
  unfold regW at h
  rw [Bool.and_eq_true] at h
  have h1 := List.all_eq_true.1 h.2 i (List.mem_range.2 hi)
  cases ho : ops[i]? with
  | none => rw [ho] at h1; cases h1
  | some o =>
    rw [ho] at h1
    have hip : (i == p) = false := by simpa using hp
    simp only [hip, Bool.false_eq_true, if_false] at h1
    simp only [okAt, Bool.and_eq_true] at h1
    obtain ⟨h2, h3⟩ := h1
    cases hd : o.dst with
    | none => rw [hd] at h3; cases h3
    | some d =>
      rw [hd] at h3
      simp only [Bool.and_eq_true, decide_eq_true_eq] at h3
      refine ⟨o, d, rfl, hd, h3.1, fun e he hb => ?_, fun j oj hj hoj hne => ?_⟩
      · simp only [Array.all_eq_true_iff_forall_mem] at h2
        have := h2 e he
        simp [hb] at this
        exact this
      · have h4 := List.all_eq_true.1 h3.2 j (List.mem_range.2 hj)
        rw [hoj] at h4
        simp only [Bool.or_eq_true, Bool.and_eq_true, beq_iff_eq, bne_iff_ne, ne_eq, Bool.not_eq_true', hne, false_or] at h4
        refine ⟨h4.1, fun hm => ?_⟩
        have h5 := h4.2
        have h6 : ((oj.looksAt ops).contains d) = true := by simpa using hm
        rw [h6] at h5
        simp only [Bool.true_eq_false, false_or] at h5
        refine ⟨fun hlt => ?_, fun hlt => ?_⟩
        · rwa [if_pos (by simpa using hlt)] at h5
        · rwa [if_neg (by simp; omega)] at h5
theorem regW_p (h : regW ops N n p = true) : p < n ∧ ∃ o, ops[p]? = some o ∧ o.dst = none ∧ (∀ e ∈ o.after, Region.binds .any e = true → e.on < p) := by
  unfold regW at h
  rw [Bool.and_eq_true, decide_eq_true_eq] at h
  refine ⟨h.1, ?_⟩
  have h1 := List.all_eq_true.1 h.2 p (List.mem_range.2 h.1)
  cases ho : ops[p]? with
  | none => rw [ho] at h1; cases h1
  | some o =>
    rw [ho] at h1
    simp only [beq_self_eq_true, if_true, Bool.and_eq_true, Option.isNone_iff_eq_none] at h1
    refine ⟨o, rfl, h1.1.2, fun e he hb => ?_⟩
    have h2 := h1.1.1
    simp only [Array.all_eq_true_iff_forall_mem] at h2
    have := h2 e he
    simp [hb] at this
    exact this
end
section
variable {P : Program} {ops : Array Oper} {w0 w1 : World} {t : TypeId} {g : Nat} {v : Value} {p : Nat} {Γ : Ctx}
/-- What the lines say of the i-th. -/
theorem LineW.at_ {m : Nat} {l : List Oper} {Vs : List Ty} (h : LineW P ops w0 w1 t g v p m Γ l Vs) : ∀ (i : Nat) (o : Oper), l[i]? = some o → ∃ V Γi, Vs[i]? = some V ∧
    (m + i ≠ p ∧ o.dst ≠ none ∧ V.el t = false ∧ Fact P ops w0 Γi o V ∧ Fact P ops w1 Γi o V ∨ m + i = p ∧ o.dst = none ∧ o.guard = none ∧ ∃ ty x s, o.op = .store ty (.tmp x) (.tmp s) ∧ look Γi x = some (Ty.ex (.pointer (some ⟨g, 0, none⟩))) ∧ look Γi s = some (Ty.ex v) ∧ (P.info? ty).map (·.size) = some v.cells.size) ∧
    ∀ (s : Nat) (τ : Ty), look Γi s = some τ → (∃ (j : Nat) (oj : Oper), j < i ∧ l[j]? = some oj ∧ oj.dst = some s ∧ Vs[j]? = some τ) ∨ ((∀ (j : Nat) (oj : Oper), j < i → l[j]? = some oj → oj.dst ≠ some s) ∧ look Γ s = some τ) := by
  induction h with
  | nil => intro i o h; simp at h
  | @cons m Γ d o V os Vs hi hd h0 h1 he tl ih =>
    intro i o' ho'
    cases i with
    | zero =>
      simp only [List.getElem?_cons_zero, Option.some.injEq] at ho'
      subst ho'
      exact ⟨V, Γ, rfl, .inl ⟨by simpa using fun e => by rw [e] at hi; simp at hi, by rw [hd]; simp, he, h0, h1⟩, fun s τ hl => .inr ⟨fun j oj hj => absurd hj (Nat.not_lt_zero _), hl⟩⟩
    | succ i =>
      simp only [List.getElem?_cons_succ] at ho'
      obtain ⟨V', Γi, k1, k2, k3⟩ := ih i o' ho'
      refine ⟨V', Γi, by simpa using k1, by rw [show m + (i + 1) = m + 1 + i by omega]; exact k2, fun s τ hl => ?_⟩
      rcases k3 s τ hl with ⟨j, oj, hj, hoj, hds, hVj⟩ | ⟨hno, hlk⟩
      · exact .inl ⟨j + 1, oj, by omega, by simpa using hoj, hds, by simpa using hVj⟩
      · by_cases hds : d = s
        · subst hds
          rw [look_same] at hlk
          injection hlk with hlk
          subst hlk
          exact .inl ⟨0, o, by omega, rfl, hd, rfl⟩
        · rw [look_ne _ _ hds] at hlk
          refine .inr ⟨fun j oj hj hoj => ?_, hlk⟩
          cases j with
          | zero =>
            simp only [List.getElem?_cons_zero, Option.some.injEq] at hoj
            subst hoj
            rw [hd]
            simpa using hds
          | succ j => exact hno j oj (by omega) (by simpa using hoj)
  | @store m Γ o os Vs ty x s hi hd hg ho hx hs hz tl ih =>
    intro i o' ho'
    cases i with
    | zero =>
      simp only [List.getElem?_cons_zero, Option.some.injEq] at ho'
      subst ho'
      exact ⟨Ty.any, Γ, rfl, .inr ⟨Nat.eq_of_beq_eq_true hi, hd, hg, ty, x, s, ho, hx, hs, hz⟩, fun s τ hl => .inr ⟨fun j oj hj => absurd hj (Nat.not_lt_zero _), hl⟩⟩
    | succ i =>
      simp only [List.getElem?_cons_succ] at ho'
      obtain ⟨V', Γi, k1, k2, k3⟩ := ih i o' ho'
      refine ⟨V', Γi, by simpa using k1, by rw [show m + (i + 1) = m + 1 + i by omega]; exact k2, fun s τ hl => ?_⟩
      rcases k3 s τ hl with ⟨j, oj, hj, hoj, hds, hVj⟩ | ⟨hno, hlk⟩
      · exact .inl ⟨j + 1, oj, by omega, by simpa using hoj, hds, by simpa using hVj⟩
      · refine .inr ⟨fun j oj hj hoj => ?_, hlk⟩
        cases j with
        | zero =>
          simp only [List.getElem?_cons_zero, Option.some.injEq] at hoj
          subst hoj
          rw [hd]
          simp
        | succ j => exact hno j oj (by omega) (by simpa using hoj)
theorem LineW.ext_look {m : Nat} {l : List Oper} {Vs : List Ty} (h : LineW P ops w0 w1 t g v p m Γ l Vs) : ∀ (s : Nat) (τ : Ty), look (extW Γ l Vs) s = some τ →
    (∃ (j : Nat) (oj : Oper), l[j]? = some oj ∧ oj.dst = some s ∧ Vs[j]? = some τ) ∨ ((∀ (j : Nat) (oj : Oper), l[j]? = some oj → oj.dst ≠ some s) ∧ look Γ s = some τ) := by
  induction h with
  | nil => intro s τ hl; exact .inr ⟨fun j oj h => by simp at h, hl⟩
  | @cons m Γ d o V os Vs hi hd h0 h1 he tl ih =>
    intro s τ hl
    have e : extW Γ (o :: os) (V :: Vs) = extW ((d, V) :: Γ) os Vs := by simp [extW, hd]
    rw [e] at hl
    rcases ih s τ hl with ⟨j, oj, hoj, hds, hVj⟩ | ⟨hno, hlk⟩
    · exact .inl ⟨j + 1, oj, by simpa using hoj, hds, by simpa using hVj⟩
    · by_cases hds : d = s
      · subst hds
        rw [look_same] at hlk
        injection hlk with hlk
        subst hlk
        exact .inl ⟨0, o, rfl, hd, rfl⟩
      · rw [look_ne _ _ hds] at hlk
        refine .inr ⟨fun j oj hoj => ?_, hlk⟩
        cases j with
        | zero =>
          simp only [List.getElem?_cons_zero, Option.some.injEq] at hoj
          subst hoj
          rw [hd]
          simpa using hds
        | succ j => exact hno j oj (by simpa using hoj)
  | @store m Γ o os Vs ty x s hi hd hg ho hx hs hz tl ih =>
    intro s' τ hl
    have e : extW Γ (o :: os) (Ty.any :: Vs) = extW Γ os Vs := by simp [extW, hd]
    rw [e] at hl
    rcases ih s' τ hl with ⟨j, oj, hoj, hds, hVj⟩ | ⟨hno, hlk⟩
    · exact .inl ⟨j + 1, oj, by simpa using hoj, hds, by simpa using hVj⟩
    · refine .inr ⟨fun j oj hoj => ?_, hlk⟩
      cases j with
      | zero =>
        simp only [List.getElem?_cons_zero, Option.some.injEq] at hoj
        subst hoj
        rw [hd]
        simp
      | succ j => exact hno j oj (by simpa using hoj)
end
/-- Of the operations that are listed. -/
structure TInvW (N n p : Nat) (l : List Oper) (Vs : List Ty) (a0 : Act) (w0 w1 : World) (listed : Array Bool) (a : Act) (w : World) : Prop where
  below : Below w0.heap.size (if listed.getD p false then w1 else w0) w
  defers : a.defers = []
  size : a.tmps.size = N
  out : ∀ s, (∀ (j : Nat) (oj : Oper), j < n → listed.getD j false = true → l[j]? = some oj → oj.dst ≠ some s) → a.tmps[s]? = a0.tmps[s]?
  vals : ∀ (j : Nat) (oj : Oper) (d : Nat) (V : Ty), j < n → listed.getD j false = true → l[j]? = some oj → oj.dst = some d → Vs[j]? = some V → ∃ v, a.tmps[d]? = some v ∧ V.p w v

section
variable {P : Program} {w0 w1 : World} {t : TypeId} {g : Nat} {v : Value} {Γ : Ctx} {N n p : Nat} {l : List Oper} {Vs : List Ty} {a0 : Act} {ops : Array Oper} {cs : Array Value}
theorem TInvW.start (hF : Fr N Γ a0 w0) {w : World} (hb : Below w0.heap.size w0 w) (m : Nat) : TInvW N n p l Vs a0 w0 w1 (Array.replicate m false) a0 w :=
  ⟨by rw [getD_replicate_false, if_neg (by simp)]; exact hb, hF.defers, hF.size, fun _ _ => rfl, fun j _ _ _ _ h => (by rw [getD_replicate_false] at h; cases h)⟩
/-- What holds of Γ's slots while the region is under way. -/
theorem TInvW.old (hF : Fr N Γ a0 w0) (hΓ : Γ.free t = true) (hblk : Blk w0 g t cs) (hw1 : w1 = w0.setCells g 0 v.cells.toList) {listed : Array Bool} {a : Act} {w : World} (hI : TInvW N n p l Vs a0 w0 w1 listed a w) {s : Nat} {τ : Ty} (hs : look Γ s = some τ) : ∃ u, a0.tmps[s]? = some u ∧ τ.p w u := by
  obtain ⟨u, h1, h2⟩ := hF.val s τ hs
  refine ⟨u, h1, ?_⟩
  have hk : Keeps [g] w0 w1 := by rw [hw1]; exact Keeps.setCells (.inl (by simp)) _ _ (Keeps.refl _ _)
  have hsz : w1.heap.size = w0.heap.size := by rw [hw1]; exact size_setC _ _ _ _
  have hbl := hI.below
  by_cases hd : listed.getD p false = true
  · rw [if_pos hd] at hbl
    exact τ.below (τ.far h2 hk hblk (Ctx.free_look hΓ hs)) (by rw [hsz]; exact hbl)
  · rw [if_neg hd] at hbl
    exact τ.below h2 hbl
theorem TInvW.step (hB : regW ops N n p = true) (hl : ∀ i, i < n → l[i]? = ops[i]?) (hL : LineW P ops w0 w1 t g v p 0 Γ l Vs) (hF : Fr N Γ a0 w0) (hΓ : Γ.free t = true) (hblk : Blk w0 g t cs) (hcs : v.cells.size = cs.size) (hone : v.cells.all (·.oneCell') = true) (hw1 : w1 = w0.setCells g 0 v.cells.toList) {listed : Array Bool} {a : Act} {w : World} (hI : TInvW N n p l Vs a0 w0 w1 listed a w)
    (hsz : listed.size = ops.size) (hcl : ∀ (j : Nat) (oj : Oper), ops[j]? = some oj → listed.getD j false = true → ∀ e ∈ oj.after, Region.binds .any e = true → listed.getD e.on false = true)
    {i : Nat} {o : Oper} (hi : i < n) (ho : ops[i]? = some o) (hun : listed.getD i false = false) (hdep : ∀ e ∈ o.after, Region.binds .any e = true → listed.getD e.on false = true) (K : Act → World → Prop) (Q : Exit → Act → World → Prop)
    (hK : ∀ a' w', TInvW N n p l Vs a0 w0 w1 (listed.setIfInBounds i true) a' w' → K a' w') :
    if Region.wanted o (yielded ops a.tmps) then o.wp P a w K Q else K (a.put o.dst undef) w := by
  have hli : l[i]? = some o := (hl i hi).trans ho
  obtain ⟨V, Γi, hV, hFa, hlk⟩ := hL.at_ i o hli
  rw [Nat.zero_add] at hFa
  have hk01 : Keeps [g] w0 w1 := by rw [hw1]; exact Keeps.setCells (.inl (by simp)) _ _ (Keeps.refl _ _)
  have hsz1 : w1.heap.size = w0.heap.size := by rw [hw1]; exact size_setC _ _ _ _
  have hblk1 : Blk w1 g t v.cells := by
    have h := hblk.setCells v.cells.toList 0
    rw [splice_all _ _ (by simpa using hcs)] at h
    rw [hw1]
    simpa using h
  have hilt : i < listed.size := by rw [hsz]; exact (Array.getElem?_eq_some_iff.1 ho).1
  have wf : ∀ {p q : Nat} {op : Oper}, ops[p]? = some op → Region.waitsFor .any ops p q = true → ∃ e ∈ op.after, Region.binds .any e = true ∧ e.on = q := fun {p q op} hp hw => by
    obtain ⟨oj, hoj, e, he, hb, hon⟩ := Region.waitsFor_spec hw
    obtain rfl : op = oj := Option.some.inj (hp.symm.trans hoj)
    exact ⟨e, he, hb, hon⟩
  have hsees : Sees ops Γi o a w := by
    intro s τ hs hls
    rcases hlk s τ hls with ⟨j, oj, hj, hoj, hds, hVj⟩ | ⟨hno, hl0⟩
    · have hjn : j < n := by omega
      have hoj' : ops[j]? = some oj := (hl j hjn).symm.trans hoj
      have hjp : j ≠ p := fun h => by
        subst h
        obtain ⟨_, o', ho', hn', _⟩ := regW_p hB
        obtain rfl : oj = o' := Option.some.inj (hoj'.symm.trans ho')
        rw [hn'] at hds; cases hds
      obtain ⟨oj2, dj, hoj2, hdj, _, _, hothj⟩ := regW_at hB hjn hjp
      obtain rfl : oj = oj2 := Option.some.inj (hoj'.symm.trans hoj2)
      obtain rfl : dj = s := Option.some.inj (hdj.symm.trans hds)
      have h1 := ((hothj i o hi ho (by omega)).2 hs).1 hj
      obtain ⟨e, he, hb, hon⟩ := wf ho h1
      have h2 := hdep e he hb
      rw [hon] at h2
      exact hI.vals j oj dj τ hjn h2 hoj hdj hVj
    · obtain ⟨u, hu1, hu2⟩ := hI.old hF hΓ hblk hw1 hl0
      refine ⟨u, ?_, hu2⟩
      rw [hI.out s (fun k ok hk hlk' hok hdk => ?_)]
      · exact hu1
      · have hok' : ops[k]? = some ok := (hl k hk).symm.trans hok
        have hki : k ≠ i := fun h => by subst h; rw [hun] at hlk'; cases hlk'
        have hkp : k ≠ p := fun h => by
          subst h
          obtain ⟨_, o', ho', hn', _⟩ := regW_p hB
          obtain rfl : ok = o' := Option.some.inj (hok'.symm.trans ho')
          rw [hn'] at hdk; cases hdk
        by_cases hlt : k < i
        · exact hno k ok hlt hok hdk
        · obtain ⟨ok2, dk, hok2, hdk2, _, _, hothk⟩ := regW_at hB hk hkp
          obtain rfl : ok = ok2 := Option.some.inj (hok'.symm.trans hok2)
          obtain rfl : dk = s := Option.some.inj (hdk2.symm.trans hdk)
          have h1 := ((hothk i o hi ho (Ne.symm hki)).2 hs).2 (by omega)
          obtain ⟨e, he, hb, hon⟩ := wf hok' h1
          have h2 := hcl k ok hok' hlk' e he hb
          rw [hon, hun] at h2
          cases h2
  rcases hFa with ⟨hip, hdn, hel, hF0, hF1⟩ | ⟨hip, hdn, hg, ty, x, s, hop, hx, hs, hz⟩
  · obtain ⟨o', d, ho', hd, hdN, _, hoth⟩ := regW_at hB hi hip
    obtain rfl : o = o' := Option.some.inj (ho.symm.trans ho')
    have hdne : ∀ (j : Nat) (oj : Oper) (dj : Nat), j < n → j ≠ i → l[j]? = some oj → oj.dst = some dj → d ≠ dj := fun j oj dj hj hne hoj hdj h => by
      subst h
      exact (hoth j oj hj ((hl j hj).symm.trans hoj) hne).1 hdj
    have hgp : (listed.setIfInBounds i true).getD p false = listed.getD p false := getD_set_ne false hip
    have fin : ∀ u w', V.p w' u → Below w.heap.size w w' → K (a.put o.dst u) w' := fun u w' hv hb => by
      refine hK _ _ ?_
      rw [hd]
      have hws : w0.heap.size ≤ w.heap.size := by
        have := hI.below.size
        split at this
        · omega
        · exact this
      refine ⟨by rw [hgp]; exact hI.below.trans (hb.mono hws), hI.defers, by simp only [Act.put]; simpa using hI.size, fun s hs => ?_, fun j oj dj Vj hj hlj hoj hdj hVj => ?_⟩
      · have hds : d ≠ s := fun h => hs i o hi (by simp [Array.getD, hilt]) hli (by rw [hd, h])
        simp only [Act.put]
        rw [Array.getElem?_setIfInBounds_ne hds]
        refine hI.out s (fun j oj hj hlj hoj => ?_)
        refine hs j oj hj ?_ hoj
        by_cases hij : i = j
        · subst hij; rw [hun] at hlj; cases hlj
        · rw [getD_set_ne false hij]; exact hlj
      · by_cases hij : i = j
        · subst hij
          obtain rfl : o = oj := Option.some.inj (hli.symm.trans hoj)
          obtain rfl : d = dj := Option.some.inj (hd.symm.trans hdj)
          obtain rfl : V = Vj := Option.some.inj (hV.symm.trans hVj)
          refine ⟨u, ?_, hv⟩
          simp only [Act.put]
          rw [Array.getElem?_setIfInBounds_self, if_pos (by rw [hI.size]; exact hdN)]
        · rw [getD_set_ne false hij] at hlj
          obtain ⟨u', h1, h2⟩ := hI.vals j oj dj Vj hj hlj hoj hdj hVj
          refine ⟨u', ?_, Vj.below h2 hb⟩
          simp only [Act.put]
          rw [Array.getElem?_setIfInBounds_ne (hdne j oj dj hj (Ne.symm hij) hoj hdj)]
          exact h1
    have hbl := hI.below
    by_cases hdone : listed.getD p false = true
    · rw [if_pos hdone, ← hsz1] at hbl
      exact hF1.at_work hbl hsees K Q (fun u w' h1 h2 _ => fin u w' h1 h2)
    · rw [if_neg hdone] at hbl
      exact hF0.at_work hbl hsees K Q (fun u w' h1 h2 _ => fin u w' h1 h2)
  · subst hip
    have hbl := hI.below
    rw [if_neg (by rw [hun]; simp)] at hbl
    have hgw : Blk w g t cs := hblk.below hbl
    obtain ⟨ux, hux, ex⟩ := hsees x _ (by unfold Oper.looksAt; exact List.mem_append_left _ (by rw [hop]; simp [Op.operands])) hx
    obtain ⟨us, hus, es⟩ := hsees s _ (by unfold Oper.looksAt; exact List.mem_append_left _ (by rw [hop]; simp [Op.operands])) hs
    have ex : ux = .pointer (some ⟨g, 0, none⟩) := ex
    have es : us = v := es
    subst ex es
    have h3 : Keeps [g] w (w.setCells g 0 us.cells.toList) := Keeps.setCells (.inl (by simp)) _ _ (Keeps.refl _ _)
    have hgw' : Blk (w.setCells g 0 us.cells.toList) g t us.cells := by
      have h := hgw.setCells us.cells.toList 0
      rw [splice_all _ _ (by simpa using hcs)] at h
      simpa using h
    rw [if_pos (by simp [Region.wanted, hg])]
    have ea : a.eval (.tmp x) = .pointer (some ⟨g, 0, none⟩) := by simp [Act.eval, Array.getD_eq_getD_getElem?, hux]
    have eb : a.eval (.tmp s) = us := by simp [Act.eval, Array.getD_eq_getD_getElem?, hus]
    unfold Oper.wp execOp
    simp only [hop, ea, eb, Instr.storeAt, Instr.sureAddr, Sem.run_bind, Sem.run_pure, Result.andThen_ok, storeVar_cells ty _ us, run_storeVar_mid w g 0 ty us.cells (hgw.there (by omega)) hz hone]
    show K (a.put o.dst undef) _
    rw [hdn]
    refine hK _ _ ⟨?_, hI.defers, hI.size, fun s' hs' => ?_, fun j oj dj Vj hj hlj hoj hdj hVj => ?_⟩
    · rw [if_pos (by simp [Array.getD, hilt])]
      refine ⟨h3.os.trans (hbl.os.trans hk01.os.symm), h3.tape.trans (hbl.tape.trans hk01.tape.symm), h3.output.trans (hbl.output.trans hk01.output.symm), by rw [hsz1]; exact Nat.le_trans hbl.size h3.size, fun k hk => ?_⟩
      by_cases hkg : k = g
      · subst hkg
        exact hgw'.trans hblk1.symm
      · rw [h3.block k (Nat.lt_of_lt_of_le hk hbl.size) (by simpa using hkg), hbl.block k hk, hk01.block k hk (by simpa using hkg)]
    · refine hI.out s' (fun j oj hj hlj hoj => hs' j oj hj ?_ hoj)
      by_cases hij : i = j
      · subst hij; rw [hun] at hlj; cases hlj
      · rw [getD_set_ne false hij]; exact hlj
    · have hij : i ≠ j := fun h => by
        subst h
        obtain rfl : o = oj := Option.some.inj (hli.symm.trans hoj)
        rw [hdn] at hdj; cases hdj
      rw [getD_set_ne false hij] at hlj
      obtain ⟨u', k1, k2⟩ := hI.vals j oj dj Vj hj hlj hoj hdj hVj
      refine ⟨u', k1, Vj.far k2 h3 hgw ?_⟩
      obtain ⟨Vj', _, hVj', hFj, _⟩ := hL.at_ j oj hoj
      obtain rfl : Vj = Vj' := Option.some.inj (hVj.symm.trans hVj')
      rcases hFj with ⟨_, _, h, _⟩ | ⟨_, h, _⟩
      · exact h
      · rw [h] at hdj; cases hdj
theorem TInvW.all (hB : regW ops N n p = true) (hL : LineW P ops w0 w1 t g v p 0 Γ l Vs) (hn : n = l.length) (hF : Fr N Γ a0 w0) (hΓ : Γ.free t = true) (hblk : Blk w0 g t cs) (hw1 : w1 = w0.setCells g 0 v.cells.toList) {listed : Array Bool} {a : Act} {w : World} (hI : TInvW N n p l Vs a0 w0 w1 listed a w) (hall : ∀ i, i < n → listed.getD i false = true) :
    Fr N (extW Γ l Vs) a w ∧ Below w0.heap.size w1 w := by
  have lt : ∀ (j : Nat) (oj : Oper), l[j]? = some oj → j < n := fun j oj h => by rw [hn]; exact (List.getElem?_eq_some_iff.1 h).1
  have hp := hall p (regW_p hB).1
  have hbl := hI.below
  rw [if_pos hp] at hbl
  refine ⟨⟨hI.size, hI.defers, fun s τ hs => ?_⟩, hbl⟩
  rcases hL.ext_look s τ hs with ⟨j, oj, hoj, hds, hVj⟩ | ⟨hno, hl0⟩
  · exact hI.vals j oj s τ (lt j oj hoj) (hall j (lt j oj hoj)) hoj hds hVj
  · obtain ⟨u, h1, h2⟩ := hI.old hF hΓ hblk hw1 hl0
    exact ⟨u, by rw [hI.out s (fun j oj _ _ hoj => hno j oj hoj)]; exact h1, h2⟩
end

section
variable {P : Program} {w0 w1 : World} {t : TypeId} {g : Nat} {v : Value} {cs : Array Value} {Γ : Ctx} {N : Nat} {Vs : List Ty} {a0 : Act}
end
end Go.Proofs.Ytmlbkcpmgcjblaa

/- The functions of layer 13 by types, the program's and the document's. -/
namespace Go.Proofs.Ytmlbkcpmgcjblaa
open Go.RowKit

/-- Results of which the first lies in a variable. -/
theorem retCell2 {P : Program} {Γ : Ctx} {N : Nat} {a : Act} {w : World} {fn : Func} {R : Ending → World → Prop} {s s2 : Nat} {ty t : TypeId} {cs : Array Value} {g : Nat} {d : TypeDesc} {v2 : Value} (hF : Fr N Γ a w) (hr : fn.results = #[.cell s ty, .tmp s2]) (hs : look Γ s = some (Ty.ex (.pointer (some ⟨g, 0, none⟩)))) (hs2 : look Γ s2 = some (Ty.ex v2)) (hB : Blk w g t cs)
    (hu : P.underlying ty = some d) (hd : (match d with | .struct _ | .array _ _ => true | _ => false) = true) (hi : (P.info? ty).map (·.size) = some cs.size) (h : R (.returned (.tuple #[.agg cs, v2])) w) : bodyPost P fn R .ret a w := by
  have h1 : a.tmps[s]?.getD undef = .pointer (some ⟨g, 0, none⟩) := by have := hF.getEx hs; simpa [Act.eval, Array.getD_eq_getD_getElem?] using this
  have h2 : a.tmps[s2]?.getD undef = v2 := by have := hF.getEx hs2; simpa [Act.eval, Array.getD_eq_getD_getElem?] using this
  refine bodyPost_ret ?_ hF.defers h
  simp [results, hr, h1, h2, asAddr, run_loadVar_row w g t ty cs (0, 0) d hB hu hd hi]
theorem sumSz (s : Sm) : (Value.agg (u8s s.l)).cells.size = (Value.agg (u8s (List.replicate 32 0))).cells.size := by rw [zero32_size]; exact s.size
theorem clSz (c d : Cl) : (Value.agg c.a).cells.size = d.a.size := by rw [d.size]; exact c.size
set_option maxRecDepth 100000 in
theorem cellOf_ty (x : Sm) : Fn1 Try.prog 133 (Ty.ex (.agg (u8s x.l))) (Ty.ex (.agg (u8s (chk x).l))) := by
  refine ⟨fun args w => by kernel_rfl, fun w v hv => ?_⟩
  have hO := sumOf2_ty (e := 70) (τ := Ty.sl 5 1 ([67].map bv)) (σ := Ty.sl 34 32 x.enc) [67] x.l (reads_sl _ _ _) (by rw [x.len]; exact reads_sl _ _ _) (by simp) x.lt (by rw [x.len]; decide)
  have hY : shaL ([67] ++ x.l) = (chk x).l := rfl
  rw [hY] at hO
  generalize chk x = Y at *
  clear hY
  refine enter_ty 7 [Ty.ex (.agg (u8s x.l))] Try.func133 rfl (by kernel_rfl) ⟨hv, trivial⟩ fun a hF => ?_
  have hB := Below.refl w.heap.size w
  repeat (first | with_reducible refine wp_seq ?_ | with_reducible refine nThen ?_ | with_reducible refine nBlk ?_ | with_reducible refine wp_skip ?_ | with_reducible refine wp_block ?_ | with_reducible refine wp_exit ?_ | with_reducible refine xThen ?_ | with_reducible refine xHere ?_ | with_reducible refine xFar (by decide) ?_ | with_reducible refine wp_ret ?_ | with_reducible refine rThen ?_ | with_reducible refine rBlk ?_)
  refine' reg_all hF ?_ mixed (by kernel_rfl) ?_
  rotate_left
  · repeat (first
        | exact Line.nil
        | (refine' Line.cons rfl (.no rfl rfl rfl rfl rfl rfl) ?_; rotate_left)
        | (refine' Line.cons rfl (.new rfl rfl (run_alloc_i infoS) rfl) ?_; rotate_left)
        | ((first | refine' Line.cons rfl (.run rfl rfl ?_) ?_ | refine' Line.cons rfl (.yes rfl rfl rfl rfl ?_) ?_)
           any_goals (first | exact cMove rfl rfl | exact cAssign rfl rfl | exact cNot rfl rfl | exact cBoxSum rfl rfl | exact cPickT rfl rfl rfl | exact cPickF rfl rfl rfl | exact cLss rfl rfl rfl | exact cLeq rfl rfl rfl | exact cGtr rfl rfl rfl | exact cGeq rfl rfl rfl | exact cEql rfl rfl rfl | exact cNeq rfl rfl rfl | exact cExtract rfl rfl rfl)
           rotate_left))
  intro a w1 hF hb hN
  have hBs := hB.size
  replace hB := hB.trans (hb.mono hB.size)
  dsimp only [ext, Option.getD] at hF
  repeat (first | with_reducible refine wp_seq ?_ | with_reducible refine nThen ?_ | with_reducible refine nBlk ?_ | with_reducible refine wp_skip ?_ | with_reducible refine wp_block ?_ | with_reducible refine wp_exit ?_ | with_reducible refine xThen ?_ | with_reducible refine xHere ?_ | with_reducible refine xFar (by decide) ?_ | with_reducible refine wp_ret ?_ | with_reducible refine rThen ?_ | with_reducible refine rBlk ?_)
  obtain ⟨z, ⟨gx, rfl, hgx, hbx⟩, hF⟩ := hF.open (s := 2) rfl
  repeat (first | with_reducible refine wp_seq ?_ | with_reducible refine nThen ?_ | with_reducible refine nBlk ?_ | with_reducible refine wp_skip ?_ | with_reducible refine wp_block ?_ | with_reducible refine wp_exit ?_ | with_reducible refine xThen ?_ | with_reducible refine xHere ?_ | with_reducible refine xFar (by decide) ?_ | with_reducible refine wp_ret ?_ | with_reducible refine rThen ?_ | with_reducible refine rBlk ?_)
  refine' region_ty 4 mixed (by kernel_rfl) hF ?_ ?_
  rotate_left
  · simp only [List.take_succ_cons, List.take_zero]
    repeat (first
        | exact Line.nil
        | (refine' Line.cons rfl (.no rfl rfl rfl rfl rfl rfl) ?_; rotate_left)
        | ((first | refine' Line.cons rfl (.run rfl rfl ?_) ?_ | refine' Line.cons rfl (.yes rfl rfl rfl rfl ?_) ?_)
           any_goals (first | exact cMove rfl rfl | exact cAssign rfl rfl | exact cNot rfl rfl | exact cBuildV (vs := [.int .u8 67]) rfl (parts1v rfl rfl) Try.underlying70 infoU8 rfl (by simp [Value.cells]) (by decide) (by simp [maxLen]) | exact cSliceArr rfl (.t rfl) Try.underlying34 sizeU (by simp [maxLen]) | exact cBuildT (τs := [Ty.sl 5 1 ([67].map bv), Ty.sl 34 32 x.enc]) rfl (partsT2 rfl (.t rfl) (.t rfl) (Ty.sl_isSl _ _ _) (Ty.sl_isSl _ _ _)) Try.underlying113 infoB rfl | exact cCall1 rfl rfl hO | exact cPickT rfl rfl rfl | exact cPickF rfl rfl rfl | exact cLss rfl rfl rfl | exact cLeq rfl rfl rfl | exact cGtr rfl rfl rfl | exact cGeq rfl rfl rfl | exact cEql rfl rfl rfl | exact cNeq rfl rfl rfl | exact cExtract rfl rfl rfl)
           rotate_left))
  intro a w2 hF hb hN
  have hBs := hB.size
  replace hB := hB.trans (hb.mono hB.size)
  simp only [List.take_succ_cons, List.take_zero, List.drop_succ_cons, List.drop_zero] at hF hN ⊢
  dsimp only [ext, Option.getD] at hF
  replace hbx := hbx.below hb
  refine tlStoreV (Δ := [(2, Ty.ex (.pointer (some ⟨_, 0, none⟩)))]) hF rfl rfl rfl rfl (hF.getEx (s := 6) rfl) hbx (sumSz Y) ((by show _ = some (u8s _).size; rw [Sm.size]; exact sizeS)) (u8s_one _) (hF.keep [2]) rfl ?_
  intro w3 hF hbx hkx
  refine wpList_nil ?_
  replace hB := below_own hB hkx (by intro y hy; simp only [List.mem_singleton] at hy; omega)
  repeat (first | with_reducible refine wp_seq ?_ | with_reducible refine nThen ?_ | with_reducible refine nBlk ?_ | with_reducible refine wp_skip ?_ | with_reducible refine wp_block ?_ | with_reducible refine wp_exit ?_ | with_reducible refine xThen ?_ | with_reducible refine xHere ?_ | with_reducible refine xFar (by decide) ?_ | with_reducible refine wp_ret ?_ | with_reducible refine rThen ?_ | with_reducible refine rBlk ?_)
  refine retCell hF rfl rfl hbx (Try.underlying34) rfl ((by rw [show (Value.agg (u8s Y.l)).cells.size = 32 from Y.size]; exact sizeS)) ?_
  exact ⟨_, rfl, rfl, hB⟩
set_option maxRecDepth 100000 in
theorem check13_ty (x : Sm) : Fn1 Try.prog 114 (Ty.ex (.agg (u8s x.l))) (Ty.ex (.agg (u8s (chk x).l))) := by
  refine ⟨fun args w => by kernel_rfl, fun w v hv => ?_⟩
  have hO := r1of_ty (67 :: x.l) (Ty.sl 5 33 (bv 67 :: x.enc)) (by
    have h : (67 :: x.l).length = 33 := by rw [List.length_cons, x.len]
    rw [h]
    exact reads_sl _ _ _) (by
    intro y hy
    rcases List.mem_cons.1 hy with rfl | hy
    · decide
    · exact x.lt y hy) (by rw [List.length_cons, x.len]; decide)
  have hY : shaS (67 :: x.l) = chk x := rfl
  rw [hY] at hO
  generalize chk x = Y at *
  clear hY
  have heP : Enters Try.prog 112 := fun args w => by kernel_rfl
  refine enter_ty 7 [Ty.ex (.agg (u8s x.l))] Try.func114 rfl (by kernel_rfl) ⟨hv, trivial⟩ fun a hF => ?_
  have hB := Below.refl w.heap.size w
  repeat (first | with_reducible refine wp_seq ?_ | with_reducible refine nThen ?_ | with_reducible refine nBlk ?_ | with_reducible refine wp_skip ?_ | with_reducible refine wp_block ?_ | with_reducible refine wp_exit ?_ | with_reducible refine xThen ?_ | with_reducible refine xHere ?_ | with_reducible refine xFar (by decide) ?_ | with_reducible refine wp_ret ?_ | with_reducible refine rThen ?_ | with_reducible refine rBlk ?_)
  refine' reg_all hF ?_ mixed (by kernel_rfl) ?_
  rotate_left
  · repeat (first
        | exact Line.nil
        | (refine' Line.cons rfl (.no rfl rfl rfl rfl rfl rfl) ?_; rotate_left)
        | (refine' Line.cons rfl (.new rfl rfl (run_alloc_i infoR) rfl) ?_; rotate_left)
        | ((first | refine' Line.cons rfl (.run rfl rfl ?_) ?_ | refine' Line.cons rfl (.yes rfl rfl rfl rfl ?_) ?_)
           any_goals (first | exact cMove rfl rfl | exact cAssign rfl rfl | exact cNot rfl rfl | exact cBoxSum rfl rfl | exact cPickT rfl rfl rfl | exact cPickF rfl rfl rfl | exact cLss rfl rfl rfl | exact cLeq rfl rfl rfl | exact cGtr rfl rfl rfl | exact cGeq rfl rfl rfl | exact cEql rfl rfl rfl | exact cNeq rfl rfl rfl | exact cExtract rfl rfl rfl)
           rotate_left))
  intro a w1 hF hb hN
  have hBs := hB.size
  replace hB := hB.trans (hb.mono hB.size)
  dsimp only [ext, Option.getD] at hF
  repeat (first | with_reducible refine wp_seq ?_ | with_reducible refine nThen ?_ | with_reducible refine nBlk ?_ | with_reducible refine wp_skip ?_ | with_reducible refine wp_block ?_ | with_reducible refine wp_exit ?_ | with_reducible refine xThen ?_ | with_reducible refine xHere ?_ | with_reducible refine xFar (by decide) ?_ | with_reducible refine wp_ret ?_ | with_reducible refine rThen ?_ | with_reducible refine rBlk ?_)
  obtain ⟨z, ⟨gx, rfl, hgx, hbx⟩, hF⟩ := hF.open (s := 2) rfl
  have hw1 : w.heap.size ≤ w1.heap.size := hB.size
  have hlt := hbx.lt
  repeat (first | with_reducible refine wp_seq ?_ | with_reducible refine nThen ?_ | with_reducible refine nBlk ?_ | with_reducible refine wp_skip ?_ | with_reducible refine wp_block ?_ | with_reducible refine wp_exit ?_ | with_reducible refine xThen ?_ | with_reducible refine xHere ?_ | with_reducible refine xFar (by decide) ?_ | with_reducible refine wp_ret ?_ | with_reducible refine rThen ?_ | with_reducible refine rBlk ?_)
  refine' region_ty 2 mixed (by kernel_rfl) hF ?_ ?_
  rotate_left
  · simp only [List.take_succ_cons, List.take_zero]
    repeat (first
        | exact Line.nil
        | (refine' Line.cons rfl (.no rfl rfl rfl rfl rfl rfl) ?_; rotate_left)
        | ((first | refine' Line.cons rfl (.run rfl rfl ?_) ?_ | refine' Line.cons rfl (.yes rfl rfl rfl rfl ?_) ?_)
           any_goals (first | exact cMove rfl rfl | exact cAssign rfl rfl | exact cNot rfl rfl | exact cBuildB1 rfl rfl | exact cLoadSum rfl (.t rfl) Try.underlying61 sizeR | exact cPickT rfl rfl rfl | exact cPickF rfl rfl rfl | exact cLss rfl rfl rfl | exact cLeq rfl rfl rfl | exact cGtr rfl rfl rfl | exact cGeq rfl rfl rfl | exact cEql rfl rfl rfl | exact cNeq rfl rfl rfl | exact cExtract rfl rfl rfl)
           rotate_left))
  intro a w2 hF hb hN
  have hBs := hB.size
  replace hB := hB.trans (hb.mono hB.size)
  simp only [List.take_succ_cons, List.take_zero, List.drop_succ_cons, List.drop_zero] at hF hN ⊢
  dsimp only [ext, Option.getD] at hF
  replace hbx := hbx.below hb
  obtain ⟨v5, ⟨S5, hs5, hS5⟩, hF⟩ := hF.open (s := 3) rfl
  refine tlCall rfl rfl rfl (args := #[v5, .agg (u8s x.l)]) ?_ heP (R := fun u w' => (∃ S', Seg w' 5 1 u 33 (bv 67 :: x.enc) S') ∧ Keeps S5 w2 w') ?_ ?_
  · simp only [List.map_toArray, List.map_cons, List.map_nil, hF.getEx (s := 3) rfl, hF.getEx (s := 4) rfl]
  · refine (putsum_any x v5 1 [.int .u8 67] S5 w2 hs5 (by decide)).mono fun e w' ⟨u, h1, ⟨S', h2, _⟩, h3⟩ => ⟨u, h1, ⟨S', h2⟩, h3⟩
  rintro u w3 ⟨⟨S', hs3⟩, hk3⟩
  have hF := ((hF.keep [2]).free hk3 hs5.blocks rfl).put (d := 5) (by decide) (Below.refl _ _) (V := Ty.ex u) rfl
  replace hbx := hbx.keeps hk3 (fun hm => by have := hS5 _ hm; omega)
  replace hB := below_own hB hk3 (fun y hy => Nat.le_trans hw1 (hS5 y hy))
  have hu3 : (Ty.sl 5 33 (bv 67 :: x.enc)).p w3 u := hs3.sl
  refine' tlOp hF rfl rfl rfl ?_ ?_
  rotate_left
  · first | exact cCallH1 rfl (.l rfl hu3) hO | exact cMove rfl rfl | exact cAssign rfl rfl | exact cPickT rfl rfl rfl | exact cPickF rfl rfl rfl | exact cNot rfl rfl | exact cLss rfl rfl rfl | exact cLeq rfl rfl rfl | exact cGtr rfl rfl rfl | exact cGeq rfl rfl rfl | exact cEql rfl rfl rfl | exact cNeq rfl rfl rfl | exact cExtract rfl rfl rfl
  intro a w4 hF hb
  have hBs := hB.size
  replace hB := hB.trans (hb.mono hB.size)
  try (refine wpList_nil ?_)
  repeat (first | with_reducible refine wp_seq ?_ | with_reducible refine nThen ?_ | with_reducible refine nBlk ?_ | with_reducible refine wp_skip ?_ | with_reducible refine wp_block ?_ | with_reducible refine wp_exit ?_ | with_reducible refine xThen ?_ | with_reducible refine xHere ?_ | with_reducible refine xFar (by decide) ?_ | with_reducible refine wp_ret ?_ | with_reducible refine rThen ?_ | with_reducible refine rBlk ?_)
  replace hbx := hbx.below hb
  refine tlStoreV (Δ := [(2, Ty.ex (.pointer (some ⟨_, 0, none⟩)))]) hF rfl rfl rfl rfl (hF.getEx (s := 6) rfl) hbx (sumSz Y) ((by show _ = some (u8s _).size; rw [Sm.size]; exact sizeR)) (u8s_one _) (hF.keep [2]) rfl ?_
  intro w5 hF hbx hkx
  refine wpList_nil ?_
  replace hB := below_own hB hkx (by intro y hy; simp only [List.mem_singleton] at hy; omega)
  repeat (first | with_reducible refine wp_seq ?_ | with_reducible refine nThen ?_ | with_reducible refine nBlk ?_ | with_reducible refine wp_skip ?_ | with_reducible refine wp_block ?_ | with_reducible refine wp_exit ?_ | with_reducible refine xThen ?_ | with_reducible refine xHere ?_ | with_reducible refine xFar (by decide) ?_ | with_reducible refine wp_ret ?_ | with_reducible refine rThen ?_ | with_reducible refine rBlk ?_)
  refine retCell hF rfl rfl hbx (Try.underlying61) rfl ((by rw [show (Value.agg (u8s Y.l)).cells.size = 32 from Y.size]; exact sizeR)) ?_
  exact ⟨_, rfl, rfl, hB⟩
set_option maxRecDepth 100000 in
theorem change_ty (c : Cl) (x : Sm) (n : Int) : Fn3 Try.prog 108 (Ty.ex (.agg c.a)) (Ty.ex (.agg (u8s x.l))) (Ty.ex (.int .i64 n)) (Ty.ex (.agg (c.put x n).a)) := by
  refine ⟨fun args w => by kernel_rfl, fun w v u q hv hu hq => ?_⟩
  have hC := cellOf_ty x
  have hX1 := xor_ty c.key x
  have hX2 := xor_ty c.check (chk x)
  have hP : c.put x n = ⟨wrap64 (c.n + n), c.key.xor x, c.check.xor (chk x)⟩ := rfl
  rw [hP]
  clear hP
  generalize c.check.xor (chk x) = X2 at *
  generalize c.key.xor x = X1 at *
  generalize chk x = Y at *
  refine enter_ty 21 [Ty.ex (.agg c.a), Ty.ex (.agg (u8s x.l)), Ty.ex (.int .i64 n)] Try.func108 rfl (by kernel_rfl) ⟨hv, hu, hq, trivial⟩ fun a hF => ?_
  have hB := Below.refl w.heap.size w
  repeat (first | with_reducible refine wp_seq ?_ | with_reducible refine nThen ?_ | with_reducible refine nBlk ?_ | with_reducible refine wp_skip ?_ | with_reducible refine wp_block ?_ | with_reducible refine wp_exit ?_ | with_reducible refine xThen ?_ | with_reducible refine xHere ?_ | with_reducible refine xFar (by decide) ?_ | with_reducible refine wp_ret ?_ | with_reducible refine rThen ?_ | with_reducible refine rBlk ?_)
  refine' reg_all hF ?_ mixed (by kernel_rfl) ?_
  rotate_left
  · repeat (first
        | exact Line.nil
        | (refine' Line.cons rfl (.no rfl rfl rfl rfl rfl rfl) ?_; rotate_left)
        | (refine' Line.cons rfl (.new rfl rfl (run_alloc_i infoC34) rfl) ?_; rotate_left)
        | ((first | refine' Line.cons rfl (.run rfl rfl ?_) ?_ | refine' Line.cons rfl (.yes rfl rfl rfl rfl ?_) ?_)
           any_goals (first | exact cMove rfl rfl | exact cAssign rfl rfl | exact cNot rfl rfl | exact cBoxCl rfl rfl | exact cBoxSum rfl rfl | exact cPickT rfl rfl rfl | exact cPickF rfl rfl rfl | exact cLss rfl rfl rfl | exact cLeq rfl rfl rfl | exact cGtr rfl rfl rfl | exact cGeq rfl rfl rfl | exact cEql rfl rfl rfl | exact cNeq rfl rfl rfl | exact cExtract rfl rfl rfl)
           rotate_left))
  intro a w1 hF hb hN
  have hBs := hB.size
  replace hB := hB.trans (hb.mono hB.size)
  dsimp only [ext, Option.getD] at hF
  repeat (first | with_reducible refine wp_seq ?_ | with_reducible refine nThen ?_ | with_reducible refine nBlk ?_ | with_reducible refine wp_skip ?_ | with_reducible refine wp_block ?_ | with_reducible refine wp_exit ?_ | with_reducible refine xThen ?_ | with_reducible refine xHere ?_ | with_reducible refine xFar (by decide) ?_ | with_reducible refine wp_ret ?_ | with_reducible refine rThen ?_ | with_reducible refine rBlk ?_)
  obtain ⟨z, ⟨gx, rfl, hgx, hbx⟩, hF⟩ := hF.open (s := 6) rfl
  repeat (first | with_reducible refine wp_seq ?_ | with_reducible refine nThen ?_ | with_reducible refine nBlk ?_ | with_reducible refine wp_skip ?_ | with_reducible refine wp_block ?_ | with_reducible refine wp_exit ?_ | with_reducible refine xThen ?_ | with_reducible refine xHere ?_ | with_reducible refine xFar (by decide) ?_ | with_reducible refine wp_ret ?_ | with_reducible refine rThen ?_ | with_reducible refine rBlk ?_)
  refine' region_ty 14 mixed (by kernel_rfl) hF ?_ ?_
  rotate_left
  · simp only [List.take_succ_cons, List.take_zero]
    repeat (first
        | exact Line.nil
        | (refine' Line.cons rfl (.no rfl rfl rfl rfl rfl rfl) ?_; rotate_left)
        | ((first | refine' Line.cons rfl (.run rfl rfl ?_) ?_ | refine' Line.cons rfl (.yes rfl rfl rfl rfl ?_) ?_)
           any_goals (first | exact cMove rfl rfl | exact cAssign rfl rfl | exact cNot rfl rfl | exact cFldN34 rfl (.t rfl) | exact cFldK34 rfl (.t rfl) | exact cFldC34 rfl (.t rfl) | exact cLoadN rfl (.t rfl) | exact cLoadSum rfl (.t rfl) Try.underlying34 sizeS | exact OpOk.v (cAddW rfl rfl rfl) (congrArg (Value.int .i64) (wrap_is _)) | exact cCall2 rfl rfl rfl hX1 | exact cCall2 rfl rfl rfl hX2 | exact cCall1 rfl rfl hC | exact cBuild3 rfl rfl rfl rfl (fun w => buildC34 _ _ _ w) | exact cPickT rfl rfl rfl | exact cPickF rfl rfl rfl | exact cLss rfl rfl rfl | exact cLeq rfl rfl rfl | exact cGtr rfl rfl rfl | exact cGeq rfl rfl rfl | exact cEql rfl rfl rfl | exact cNeq rfl rfl rfl | exact cExtract rfl rfl rfl)
           rotate_left))
  intro a w2 hF hb hN
  have hBs := hB.size
  replace hB := hB.trans (hb.mono hB.size)
  simp only [List.take_succ_cons, List.take_zero, List.drop_succ_cons, List.drop_zero] at hF hN ⊢
  dsimp only [ext, Option.getD] at hF
  replace hbx := hbx.below hb
  refine tlStoreV (Δ := [(6, Ty.ex (.pointer (some ⟨_, 0, none⟩)))]) hF rfl rfl rfl rfl (hF.getEx (s := 20) rfl) hbx (clSz _ _) ((by show _ = some (Cl.a _).size; rw [Cl.size]; exact info34)) (Cl.one _) (hF.keep [6]) rfl ?_
  intro w3 hF hbx hkx
  refine wpList_nil ?_
  replace hB := below_own hB hkx (by intro y hy; simp only [List.mem_singleton] at hy; omega)
  repeat (first | with_reducible refine wp_seq ?_ | with_reducible refine nThen ?_ | with_reducible refine nBlk ?_ | with_reducible refine wp_skip ?_ | with_reducible refine wp_block ?_ | with_reducible refine wp_exit ?_ | with_reducible refine xThen ?_ | with_reducible refine xHere ?_ | with_reducible refine xFar (by decide) ?_ | with_reducible refine wp_ret ?_ | with_reducible refine rThen ?_ | with_reducible refine rBlk ?_)
  refine retCell hF rfl rfl hbx (Try.underlying87) rfl ((by show _ = some (Cl.a _).size; rw [Cl.size]; exact info34)) ?_
  exact ⟨_, rfl, rfl, hB⟩
set_option maxRecDepth 100000 in
theorem putcell_ty (c : Cl) (x : Sm) (n : Int) : Fn3 Try.prog 90 (Ty.ex (.agg c.a)) (Ty.ex (.agg (u8s x.l))) (Ty.ex (.int .i64 n)) (Ty.ex (.agg (c.put x n).a)) := by
  refine ⟨fun args w => by kernel_rfl, fun w v u q hv hu hq => ?_⟩
  have hC := check13_ty x
  have hX1 := r1xor_ty c.key x
  have hX2 := r1xor_ty c.check (chk x)
  have hP : c.put x n = ⟨wrap64 (c.n + n), c.key.xor x, c.check.xor (chk x)⟩ := rfl
  rw [hP]
  clear hP
  generalize c.check.xor (chk x) = X2 at *
  generalize c.key.xor x = X1 at *
  generalize chk x = Y at *
  refine enter_ty 21 [Ty.ex (.agg c.a), Ty.ex (.agg (u8s x.l)), Ty.ex (.int .i64 n)] Try.func90 rfl (by kernel_rfl) ⟨hv, hu, hq, trivial⟩ fun a hF => ?_
  have hB := Below.refl w.heap.size w
  repeat (first | with_reducible refine wp_seq ?_ | with_reducible refine nThen ?_ | with_reducible refine nBlk ?_ | with_reducible refine wp_skip ?_ | with_reducible refine wp_block ?_ | with_reducible refine wp_exit ?_ | with_reducible refine xThen ?_ | with_reducible refine xHere ?_ | with_reducible refine xFar (by decide) ?_ | with_reducible refine wp_ret ?_ | with_reducible refine rThen ?_ | with_reducible refine rBlk ?_)
  refine' reg_all hF ?_ mixed (by kernel_rfl) ?_
  rotate_left
  · repeat (first
        | exact Line.nil
        | (refine' Line.cons rfl (.no rfl rfl rfl rfl rfl rfl) ?_; rotate_left)
        | (refine' Line.cons rfl (.new rfl rfl (run_alloc_i infoC49) rfl) ?_; rotate_left)
        | ((first | refine' Line.cons rfl (.run rfl rfl ?_) ?_ | refine' Line.cons rfl (.yes rfl rfl rfl rfl ?_) ?_)
           any_goals (first | exact cMove rfl rfl | exact cAssign rfl rfl | exact cNot rfl rfl | exact cBoxCl rfl rfl | exact cBoxSum rfl rfl | exact cPickT rfl rfl rfl | exact cPickF rfl rfl rfl | exact cLss rfl rfl rfl | exact cLeq rfl rfl rfl | exact cGtr rfl rfl rfl | exact cGeq rfl rfl rfl | exact cEql rfl rfl rfl | exact cNeq rfl rfl rfl | exact cExtract rfl rfl rfl)
           rotate_left))
  intro a w1 hF hb hN
  have hBs := hB.size
  replace hB := hB.trans (hb.mono hB.size)
  dsimp only [ext, Option.getD] at hF
  repeat (first | with_reducible refine wp_seq ?_ | with_reducible refine nThen ?_ | with_reducible refine nBlk ?_ | with_reducible refine wp_skip ?_ | with_reducible refine wp_block ?_ | with_reducible refine wp_exit ?_ | with_reducible refine xThen ?_ | with_reducible refine xHere ?_ | with_reducible refine xFar (by decide) ?_ | with_reducible refine wp_ret ?_ | with_reducible refine rThen ?_ | with_reducible refine rBlk ?_)
  obtain ⟨z, ⟨gx, rfl, hgx, hbx⟩, hF⟩ := hF.open (s := 6) rfl
  repeat (first | with_reducible refine wp_seq ?_ | with_reducible refine nThen ?_ | with_reducible refine nBlk ?_ | with_reducible refine wp_skip ?_ | with_reducible refine wp_block ?_ | with_reducible refine wp_exit ?_ | with_reducible refine xThen ?_ | with_reducible refine xHere ?_ | with_reducible refine xFar (by decide) ?_ | with_reducible refine wp_ret ?_ | with_reducible refine rThen ?_ | with_reducible refine rBlk ?_)
  refine' region_ty 14 mixed (by kernel_rfl) hF ?_ ?_
  rotate_left
  · simp only [List.take_succ_cons, List.take_zero]
    repeat (first
        | exact Line.nil
        | (refine' Line.cons rfl (.no rfl rfl rfl rfl rfl rfl) ?_; rotate_left)
        | ((first | refine' Line.cons rfl (.run rfl rfl ?_) ?_ | refine' Line.cons rfl (.yes rfl rfl rfl rfl ?_) ?_)
           any_goals (first | exact cMove rfl rfl | exact cAssign rfl rfl | exact cNot rfl rfl | exact cFldN49 rfl (.t rfl) | exact cFldK49 rfl (.t rfl) | exact cFldC49 rfl (.t rfl) | exact cLoadN rfl (.t rfl) | exact cLoadSum rfl (.t rfl) Try.underlying61 sizeR | exact OpOk.v (cAddW rfl rfl rfl) (congrArg (Value.int .i64) (wrap_is _)) | exact cCall2 rfl rfl rfl hX1 | exact cCall2 rfl rfl rfl hX2 | exact cCall1 rfl rfl hC | exact cBuild3 rfl rfl rfl rfl (fun w => buildC49 _ _ _ w) | exact cPickT rfl rfl rfl | exact cPickF rfl rfl rfl | exact cLss rfl rfl rfl | exact cLeq rfl rfl rfl | exact cGtr rfl rfl rfl | exact cGeq rfl rfl rfl | exact cEql rfl rfl rfl | exact cNeq rfl rfl rfl | exact cExtract rfl rfl rfl)
           rotate_left))
  intro a w2 hF hb hN
  have hBs := hB.size
  replace hB := hB.trans (hb.mono hB.size)
  simp only [List.take_succ_cons, List.take_zero, List.drop_succ_cons, List.drop_zero] at hF hN ⊢
  dsimp only [ext, Option.getD] at hF
  replace hbx := hbx.below hb
  refine tlStoreV (Δ := [(6, Ty.ex (.pointer (some ⟨_, 0, none⟩)))]) hF rfl rfl rfl rfl (hF.getEx (s := 20) rfl) hbx (clSz _ _) ((by show _ = some (Cl.a _).size; rw [Cl.size]; exact info49)) (Cl.one _) (hF.keep [6]) rfl ?_
  intro w3 hF hbx hkx
  refine wpList_nil ?_
  replace hB := below_own hB hkx (by intro y hy; simp only [List.mem_singleton] at hy; omega)
  repeat (first | with_reducible refine wp_seq ?_ | with_reducible refine nThen ?_ | with_reducible refine nBlk ?_ | with_reducible refine wp_skip ?_ | with_reducible refine wp_block ?_ | with_reducible refine wp_exit ?_ | with_reducible refine xThen ?_ | with_reducible refine xHere ?_ | with_reducible refine xFar (by decide) ?_ | with_reducible refine wp_ret ?_ | with_reducible refine rThen ?_ | with_reducible refine rBlk ?_)
  refine retCell hF rfl rfl hbx (Try.underlying105) rfl ((by show _ = some (Cl.a _).size; rw [Cl.size]; exact info49)) ?_
  exact ⟨_, rfl, rfl, hB⟩
set_option maxRecDepth 100000 in
theorem put_ty (c : Cl) (x : Sm) : Fn2 Try.prog 77 (Ty.ex (.agg c.a)) (Ty.ex (.agg (u8s x.l))) (Ty.ex (.agg (c.put x 1).a)) := by
  refine ⟨fun args w => by kernel_rfl, fun w v u hv hu => ?_⟩
  have hC := change_ty c x 1
  generalize c.put x 1 = d at *
  refine enter_ty 8 [Ty.ex (.agg c.a), Ty.ex (.agg (u8s x.l))] Try.func77 rfl (by kernel_rfl) ⟨hv, hu, trivial⟩ fun a hF => ?_
  have hB := Below.refl w.heap.size w
  repeat (first | with_reducible refine wp_seq ?_ | with_reducible refine nThen ?_ | with_reducible refine nBlk ?_ | with_reducible refine wp_skip ?_ | with_reducible refine wp_block ?_ | with_reducible refine wp_exit ?_ | with_reducible refine xThen ?_ | with_reducible refine xHere ?_ | with_reducible refine xFar (by decide) ?_ | with_reducible refine wp_ret ?_ | with_reducible refine rThen ?_ | with_reducible refine rBlk ?_)
  refine' reg_all hF ?_ mixed (by kernel_rfl) ?_
  rotate_left
  · repeat (first
        | exact Line.nil
        | (refine' Line.cons rfl (.no rfl rfl rfl rfl rfl rfl) ?_; rotate_left)
        | (refine' Line.cons rfl (.new rfl rfl (run_alloc_i infoC34) rfl) ?_; rotate_left)
        | ((first | refine' Line.cons rfl (.run rfl rfl ?_) ?_ | refine' Line.cons rfl (.yes rfl rfl rfl rfl ?_) ?_)
           any_goals (first | exact cMove rfl rfl | exact cAssign rfl rfl | exact cNot rfl rfl | exact cBoxCl rfl rfl | exact cBoxSum rfl rfl | exact cPickT rfl rfl rfl | exact cPickF rfl rfl rfl | exact cLss rfl rfl rfl | exact cLeq rfl rfl rfl | exact cGtr rfl rfl rfl | exact cGeq rfl rfl rfl | exact cEql rfl rfl rfl | exact cNeq rfl rfl rfl | exact cExtract rfl rfl rfl)
           rotate_left))
  intro a w1 hF hb hN
  have hBs := hB.size
  replace hB := hB.trans (hb.mono hB.size)
  dsimp only [ext, Option.getD] at hF
  repeat (first | with_reducible refine wp_seq ?_ | with_reducible refine nThen ?_ | with_reducible refine nBlk ?_ | with_reducible refine wp_skip ?_ | with_reducible refine wp_block ?_ | with_reducible refine wp_exit ?_ | with_reducible refine xThen ?_ | with_reducible refine xHere ?_ | with_reducible refine xFar (by decide) ?_ | with_reducible refine wp_ret ?_ | with_reducible refine rThen ?_ | with_reducible refine rBlk ?_)
  obtain ⟨z, ⟨gx, rfl, hgx, hbx⟩, hF⟩ := hF.open (s := 4) rfl
  repeat (first | with_reducible refine wp_seq ?_ | with_reducible refine nThen ?_ | with_reducible refine nBlk ?_ | with_reducible refine wp_skip ?_ | with_reducible refine wp_block ?_ | with_reducible refine wp_exit ?_ | with_reducible refine xThen ?_ | with_reducible refine xHere ?_ | with_reducible refine xFar (by decide) ?_ | with_reducible refine wp_ret ?_ | with_reducible refine rThen ?_ | with_reducible refine rBlk ?_)
  refine' region_ty 3 mixed (by kernel_rfl) hF ?_ ?_
  rotate_left
  · simp only [List.take_succ_cons, List.take_zero]
    repeat (first
        | exact Line.nil
        | (refine' Line.cons rfl (.no rfl rfl rfl rfl rfl rfl) ?_; rotate_left)
        | ((first | refine' Line.cons rfl (.run rfl rfl ?_) ?_ | refine' Line.cons rfl (.yes rfl rfl rfl rfl ?_) ?_)
           any_goals (first | exact cMove rfl rfl | exact cAssign rfl rfl | exact cNot rfl rfl | exact cLoadCl34 rfl (.t rfl) | exact cLoadSum rfl (.t rfl) Try.underlying34 sizeS | exact cCall3 rfl rfl rfl rfl hC | exact cPickT rfl rfl rfl | exact cPickF rfl rfl rfl | exact cLss rfl rfl rfl | exact cLeq rfl rfl rfl | exact cGtr rfl rfl rfl | exact cGeq rfl rfl rfl | exact cEql rfl rfl rfl | exact cNeq rfl rfl rfl | exact cExtract rfl rfl rfl)
           rotate_left))
  intro a w2 hF hb hN
  have hBs := hB.size
  replace hB := hB.trans (hb.mono hB.size)
  simp only [List.take_succ_cons, List.take_zero, List.drop_succ_cons, List.drop_zero] at hF hN ⊢
  dsimp only [ext, Option.getD] at hF
  replace hbx := hbx.below hb
  refine tlStoreV (Δ := [(4, Ty.ex (.pointer (some ⟨_, 0, none⟩)))]) hF rfl rfl rfl rfl (hF.getEx (s := 7) rfl) hbx (clSz _ _) ((by show _ = some (Cl.a _).size; rw [Cl.size]; exact info34)) (Cl.one _) (hF.keep [4]) rfl ?_
  intro w3 hF hbx hkx
  refine wpList_nil ?_
  replace hB := below_own hB hkx (by intro y hy; simp only [List.mem_singleton] at hy; omega)
  repeat (first | with_reducible refine wp_seq ?_ | with_reducible refine nThen ?_ | with_reducible refine nBlk ?_ | with_reducible refine wp_skip ?_ | with_reducible refine wp_block ?_ | with_reducible refine wp_exit ?_ | with_reducible refine xThen ?_ | with_reducible refine xHere ?_ | with_reducible refine xFar (by decide) ?_ | with_reducible refine wp_ret ?_ | with_reducible refine rThen ?_ | with_reducible refine rBlk ?_)
  refine retCell hF rfl rfl hbx (Try.underlying87) rfl ((by show _ = some (Cl.a _).size; rw [Cl.size]; exact info34)) ?_
  exact ⟨_, rfl, rfl, hB⟩
set_option maxRecDepth 100000 in
theorem take_ty (c : Cl) (x : Sm) : Fn2 Try.prog 85 (Ty.ex (.agg c.a)) (Ty.ex (.agg (u8s x.l))) (Ty.ex (.agg (c.put x (-1)).a)) := by
  refine ⟨fun args w => by kernel_rfl, fun w v u hv hu => ?_⟩
  have hC := change_ty c x (-1)
  generalize c.put x (-1) = d at *
  refine enter_ty 8 [Ty.ex (.agg c.a), Ty.ex (.agg (u8s x.l))] Try.func85 rfl (by kernel_rfl) ⟨hv, hu, trivial⟩ fun a hF => ?_
  have hB := Below.refl w.heap.size w
  repeat (first | with_reducible refine wp_seq ?_ | with_reducible refine nThen ?_ | with_reducible refine nBlk ?_ | with_reducible refine wp_skip ?_ | with_reducible refine wp_block ?_ | with_reducible refine wp_exit ?_ | with_reducible refine xThen ?_ | with_reducible refine xHere ?_ | with_reducible refine xFar (by decide) ?_ | with_reducible refine wp_ret ?_ | with_reducible refine rThen ?_ | with_reducible refine rBlk ?_)
  refine' reg_all hF ?_ mixed (by kernel_rfl) ?_
  rotate_left
  · repeat (first
        | exact Line.nil
        | (refine' Line.cons rfl (.no rfl rfl rfl rfl rfl rfl) ?_; rotate_left)
        | (refine' Line.cons rfl (.new rfl rfl (run_alloc_i infoC34) rfl) ?_; rotate_left)
        | ((first | refine' Line.cons rfl (.run rfl rfl ?_) ?_ | refine' Line.cons rfl (.yes rfl rfl rfl rfl ?_) ?_)
           any_goals (first | exact cMove rfl rfl | exact cAssign rfl rfl | exact cNot rfl rfl | exact cBoxCl rfl rfl | exact cBoxSum rfl rfl | exact cPickT rfl rfl rfl | exact cPickF rfl rfl rfl | exact cLss rfl rfl rfl | exact cLeq rfl rfl rfl | exact cGtr rfl rfl rfl | exact cGeq rfl rfl rfl | exact cEql rfl rfl rfl | exact cNeq rfl rfl rfl | exact cExtract rfl rfl rfl)
           rotate_left))
  intro a w1 hF hb hN
  have hBs := hB.size
  replace hB := hB.trans (hb.mono hB.size)
  dsimp only [ext, Option.getD] at hF
  repeat (first | with_reducible refine wp_seq ?_ | with_reducible refine nThen ?_ | with_reducible refine nBlk ?_ | with_reducible refine wp_skip ?_ | with_reducible refine wp_block ?_ | with_reducible refine wp_exit ?_ | with_reducible refine xThen ?_ | with_reducible refine xHere ?_ | with_reducible refine xFar (by decide) ?_ | with_reducible refine wp_ret ?_ | with_reducible refine rThen ?_ | with_reducible refine rBlk ?_)
  obtain ⟨z, ⟨gx, rfl, hgx, hbx⟩, hF⟩ := hF.open (s := 4) rfl
  repeat (first | with_reducible refine wp_seq ?_ | with_reducible refine nThen ?_ | with_reducible refine nBlk ?_ | with_reducible refine wp_skip ?_ | with_reducible refine wp_block ?_ | with_reducible refine wp_exit ?_ | with_reducible refine xThen ?_ | with_reducible refine xHere ?_ | with_reducible refine xFar (by decide) ?_ | with_reducible refine wp_ret ?_ | with_reducible refine rThen ?_ | with_reducible refine rBlk ?_)
  refine' region_ty 3 mixed (by kernel_rfl) hF ?_ ?_
  rotate_left
  · simp only [List.take_succ_cons, List.take_zero]
    repeat (first
        | exact Line.nil
        | (refine' Line.cons rfl (.no rfl rfl rfl rfl rfl rfl) ?_; rotate_left)
        | ((first | refine' Line.cons rfl (.run rfl rfl ?_) ?_ | refine' Line.cons rfl (.yes rfl rfl rfl rfl ?_) ?_)
           any_goals (first | exact cMove rfl rfl | exact cAssign rfl rfl | exact cNot rfl rfl | exact cLoadCl34 rfl (.t rfl) | exact cLoadSum rfl (.t rfl) Try.underlying34 sizeS | exact cCall3 rfl rfl rfl rfl hC | exact cPickT rfl rfl rfl | exact cPickF rfl rfl rfl | exact cLss rfl rfl rfl | exact cLeq rfl rfl rfl | exact cGtr rfl rfl rfl | exact cGeq rfl rfl rfl | exact cEql rfl rfl rfl | exact cNeq rfl rfl rfl | exact cExtract rfl rfl rfl)
           rotate_left))
  intro a w2 hF hb hN
  have hBs := hB.size
  replace hB := hB.trans (hb.mono hB.size)
  simp only [List.take_succ_cons, List.take_zero, List.drop_succ_cons, List.drop_zero] at hF hN ⊢
  dsimp only [ext, Option.getD] at hF
  replace hbx := hbx.below hb
  refine tlStoreV (Δ := [(4, Ty.ex (.pointer (some ⟨_, 0, none⟩)))]) hF rfl rfl rfl rfl (hF.getEx (s := 7) rfl) hbx (clSz _ _) ((by show _ = some (Cl.a _).size; rw [Cl.size]; exact info34)) (Cl.one _) (hF.keep [4]) rfl ?_
  intro w3 hF hbx hkx
  refine wpList_nil ?_
  replace hB := below_own hB hkx (by intro y hy; simp only [List.mem_singleton] at hy; omega)
  repeat (first | with_reducible refine wp_seq ?_ | with_reducible refine nThen ?_ | with_reducible refine nBlk ?_ | with_reducible refine wp_skip ?_ | with_reducible refine wp_block ?_ | with_reducible refine wp_exit ?_ | with_reducible refine xThen ?_ | with_reducible refine xHere ?_ | with_reducible refine xFar (by decide) ?_ | with_reducible refine wp_ret ?_ | with_reducible refine rThen ?_ | with_reducible refine rBlk ?_)
  refine retCell hF rfl rfl hbx (Try.underlying87) rfl ((by show _ = some (Cl.a _).size; rw [Cl.size]; exact info34)) ?_
  exact ⟨_, rfl, rfl, hB⟩
set_option maxRecDepth 100000 in
theorem cminus_ty (c d : Cl) : Fn2 Try.prog 79 (Ty.ex (.agg c.a)) (Ty.ex (.agg d.a)) (Ty.ex (.agg (c.minus d).a)) := by
  refine ⟨fun args w => by kernel_rfl, fun w v u hv hu => ?_⟩
  have hX1 := xor_ty c.key d.key
  have hX2 := xor_ty c.check d.check
  have hP : c.minus d = ⟨wrap64 (c.n - d.n), c.key.xor d.key, c.check.xor d.check⟩ := rfl
  rw [hP]
  clear hP
  generalize c.check.xor d.check = X2 at *
  generalize c.key.xor d.key = X1 at *
  refine enter_ty 21 [Ty.ex (.agg c.a), Ty.ex (.agg d.a)] Try.func79 rfl (by kernel_rfl) ⟨hv, hu, trivial⟩ fun a hF => ?_
  have hB := Below.refl w.heap.size w
  repeat (first | with_reducible refine wp_seq ?_ | with_reducible refine nThen ?_ | with_reducible refine nBlk ?_ | with_reducible refine wp_skip ?_ | with_reducible refine wp_block ?_ | with_reducible refine wp_exit ?_ | with_reducible refine xThen ?_ | with_reducible refine xHere ?_ | with_reducible refine xFar (by decide) ?_ | with_reducible refine wp_ret ?_ | with_reducible refine rThen ?_ | with_reducible refine rBlk ?_)
  refine' reg_all hF ?_ mixed (by kernel_rfl) ?_
  rotate_left
  · repeat (first
        | exact Line.nil
        | (refine' Line.cons rfl (.no rfl rfl rfl rfl rfl rfl) ?_; rotate_left)
        | (refine' Line.cons rfl (.new rfl rfl (run_alloc_i infoC34) rfl) ?_; rotate_left)
        | ((first | refine' Line.cons rfl (.run rfl rfl ?_) ?_ | refine' Line.cons rfl (.yes rfl rfl rfl rfl ?_) ?_)
           any_goals (first | exact cMove rfl rfl | exact cAssign rfl rfl | exact cNot rfl rfl | exact cBoxCl rfl rfl | exact cPickT rfl rfl rfl | exact cPickF rfl rfl rfl | exact cLss rfl rfl rfl | exact cLeq rfl rfl rfl | exact cGtr rfl rfl rfl | exact cGeq rfl rfl rfl | exact cEql rfl rfl rfl | exact cNeq rfl rfl rfl | exact cExtract rfl rfl rfl)
           rotate_left))
  intro a w1 hF hb hN
  have hBs := hB.size
  replace hB := hB.trans (hb.mono hB.size)
  dsimp only [ext, Option.getD] at hF
  repeat (first | with_reducible refine wp_seq ?_ | with_reducible refine nThen ?_ | with_reducible refine nBlk ?_ | with_reducible refine wp_skip ?_ | with_reducible refine wp_block ?_ | with_reducible refine wp_exit ?_ | with_reducible refine xThen ?_ | with_reducible refine xHere ?_ | with_reducible refine xFar (by decide) ?_ | with_reducible refine wp_ret ?_ | with_reducible refine rThen ?_ | with_reducible refine rBlk ?_)
  obtain ⟨z, ⟨gx, rfl, hgx, hbx⟩, hF⟩ := hF.open (s := 4) rfl
  repeat (first | with_reducible refine wp_seq ?_ | with_reducible refine nThen ?_ | with_reducible refine nBlk ?_ | with_reducible refine wp_skip ?_ | with_reducible refine wp_block ?_ | with_reducible refine wp_exit ?_ | with_reducible refine xThen ?_ | with_reducible refine xHere ?_ | with_reducible refine xFar (by decide) ?_ | with_reducible refine wp_ret ?_ | with_reducible refine rThen ?_ | with_reducible refine rBlk ?_)
  refine' region_ty 16 mixed (by kernel_rfl) hF ?_ ?_
  rotate_left
  · simp only [List.take_succ_cons, List.take_zero]
    repeat (first
        | exact Line.nil
        | (refine' Line.cons rfl (.no rfl rfl rfl rfl rfl rfl) ?_; rotate_left)
        | ((first | refine' Line.cons rfl (.run rfl rfl ?_) ?_ | refine' Line.cons rfl (.yes rfl rfl rfl rfl ?_) ?_)
           any_goals (first | exact cMove rfl rfl | exact cAssign rfl rfl | exact cNot rfl rfl | exact cFldN34 rfl (.t rfl) | exact cFldK34 rfl (.t rfl) | exact cFldC34 rfl (.t rfl) | exact cLoadN rfl (.t rfl) | exact cLoadSum rfl (.t rfl) Try.underlying34 sizeS | exact OpOk.v (cSubW rfl rfl rfl) (congrArg (Value.int .i64) (wrap_is _)) | exact cCall2 rfl rfl rfl hX1 | exact cCall2 rfl rfl rfl hX2 | exact cBuild3 rfl rfl rfl rfl (fun w => buildC34 _ _ _ w) | exact cPickT rfl rfl rfl | exact cPickF rfl rfl rfl | exact cLss rfl rfl rfl | exact cLeq rfl rfl rfl | exact cGtr rfl rfl rfl | exact cGeq rfl rfl rfl | exact cEql rfl rfl rfl | exact cNeq rfl rfl rfl | exact cExtract rfl rfl rfl)
           rotate_left))
  intro a w2 hF hb hN
  have hBs := hB.size
  replace hB := hB.trans (hb.mono hB.size)
  simp only [List.take_succ_cons, List.take_zero, List.drop_succ_cons, List.drop_zero] at hF hN ⊢
  dsimp only [ext, Option.getD] at hF
  replace hbx := hbx.below hb
  refine tlStoreV (Δ := [(4, Ty.ex (.pointer (some ⟨_, 0, none⟩)))]) hF rfl rfl rfl rfl (hF.getEx (s := 20) rfl) hbx (clSz _ _) ((by show _ = some (Cl.a _).size; rw [Cl.size]; exact info34)) (Cl.one _) (hF.keep [4]) rfl ?_
  intro w3 hF hbx hkx
  refine wpList_nil ?_
  replace hB := below_own hB hkx (by intro y hy; simp only [List.mem_singleton] at hy; omega)
  repeat (first | with_reducible refine wp_seq ?_ | with_reducible refine nThen ?_ | with_reducible refine nBlk ?_ | with_reducible refine wp_skip ?_ | with_reducible refine wp_block ?_ | with_reducible refine wp_exit ?_ | with_reducible refine xThen ?_ | with_reducible refine xHere ?_ | with_reducible refine xFar (by decide) ?_ | with_reducible refine wp_ret ?_ | with_reducible refine rThen ?_ | with_reducible refine rBlk ?_)
  refine retCell hF rfl rfl hbx (Try.underlying87) rfl ((by show _ = some (Cl.a _).size; rw [Cl.size]; exact info34)) ?_
  exact ⟨_, rfl, rfl, hB⟩
set_option maxRecDepth 100000 in
theorem rminus_ty (c d : Cl) : Fn2 Try.prog 88 (Ty.ex (.agg c.a)) (Ty.ex (.agg d.a)) (Ty.ex (.agg (c.minus d).a)) := by
  refine ⟨fun args w => by kernel_rfl, fun w v u hv hu => ?_⟩
  have hX1 := r1xor_ty c.key d.key
  have hX2 := r1xor_ty c.check d.check
  have hP : c.minus d = ⟨wrap64 (c.n - d.n), c.key.xor d.key, c.check.xor d.check⟩ := rfl
  rw [hP]
  clear hP
  generalize c.check.xor d.check = X2 at *
  generalize c.key.xor d.key = X1 at *
  refine enter_ty 21 [Ty.ex (.agg c.a), Ty.ex (.agg d.a)] Try.func88 rfl (by kernel_rfl) ⟨hv, hu, trivial⟩ fun a hF => ?_
  have hB := Below.refl w.heap.size w
  repeat (first | with_reducible refine wp_seq ?_ | with_reducible refine nThen ?_ | with_reducible refine nBlk ?_ | with_reducible refine wp_skip ?_ | with_reducible refine wp_block ?_ | with_reducible refine wp_exit ?_ | with_reducible refine xThen ?_ | with_reducible refine xHere ?_ | with_reducible refine xFar (by decide) ?_ | with_reducible refine wp_ret ?_ | with_reducible refine rThen ?_ | with_reducible refine rBlk ?_)
  refine' reg_all hF ?_ mixed (by kernel_rfl) ?_
  rotate_left
  · repeat (first
        | exact Line.nil
        | (refine' Line.cons rfl (.no rfl rfl rfl rfl rfl rfl) ?_; rotate_left)
        | (refine' Line.cons rfl (.new rfl rfl (run_alloc_i infoC49) rfl) ?_; rotate_left)
        | ((first | refine' Line.cons rfl (.run rfl rfl ?_) ?_ | refine' Line.cons rfl (.yes rfl rfl rfl rfl ?_) ?_)
           any_goals (first | exact cMove rfl rfl | exact cAssign rfl rfl | exact cNot rfl rfl | exact cBoxCl rfl rfl | exact cPickT rfl rfl rfl | exact cPickF rfl rfl rfl | exact cLss rfl rfl rfl | exact cLeq rfl rfl rfl | exact cGtr rfl rfl rfl | exact cGeq rfl rfl rfl | exact cEql rfl rfl rfl | exact cNeq rfl rfl rfl | exact cExtract rfl rfl rfl)
           rotate_left))
  intro a w1 hF hb hN
  have hBs := hB.size
  replace hB := hB.trans (hb.mono hB.size)
  dsimp only [ext, Option.getD] at hF
  repeat (first | with_reducible refine wp_seq ?_ | with_reducible refine nThen ?_ | with_reducible refine nBlk ?_ | with_reducible refine wp_skip ?_ | with_reducible refine wp_block ?_ | with_reducible refine wp_exit ?_ | with_reducible refine xThen ?_ | with_reducible refine xHere ?_ | with_reducible refine xFar (by decide) ?_ | with_reducible refine wp_ret ?_ | with_reducible refine rThen ?_ | with_reducible refine rBlk ?_)
  obtain ⟨z, ⟨gx, rfl, hgx, hbx⟩, hF⟩ := hF.open (s := 4) rfl
  repeat (first | with_reducible refine wp_seq ?_ | with_reducible refine nThen ?_ | with_reducible refine nBlk ?_ | with_reducible refine wp_skip ?_ | with_reducible refine wp_block ?_ | with_reducible refine wp_exit ?_ | with_reducible refine xThen ?_ | with_reducible refine xHere ?_ | with_reducible refine xFar (by decide) ?_ | with_reducible refine wp_ret ?_ | with_reducible refine rThen ?_ | with_reducible refine rBlk ?_)
  refine' region_ty 16 mixed (by kernel_rfl) hF ?_ ?_
  rotate_left
  · simp only [List.take_succ_cons, List.take_zero]
    repeat (first
        | exact Line.nil
        | (refine' Line.cons rfl (.no rfl rfl rfl rfl rfl rfl) ?_; rotate_left)
        | ((first | refine' Line.cons rfl (.run rfl rfl ?_) ?_ | refine' Line.cons rfl (.yes rfl rfl rfl rfl ?_) ?_)
           any_goals (first | exact cMove rfl rfl | exact cAssign rfl rfl | exact cNot rfl rfl | exact cFldN49 rfl (.t rfl) | exact cFldK49 rfl (.t rfl) | exact cFldC49 rfl (.t rfl) | exact cLoadN rfl (.t rfl) | exact cLoadSum rfl (.t rfl) Try.underlying61 sizeR | exact OpOk.v (cSubW rfl rfl rfl) (congrArg (Value.int .i64) (wrap_is _)) | exact cCall2 rfl rfl rfl hX1 | exact cCall2 rfl rfl rfl hX2 | exact cBuild3 rfl rfl rfl rfl (fun w => buildC49 _ _ _ w) | exact cPickT rfl rfl rfl | exact cPickF rfl rfl rfl | exact cLss rfl rfl rfl | exact cLeq rfl rfl rfl | exact cGtr rfl rfl rfl | exact cGeq rfl rfl rfl | exact cEql rfl rfl rfl | exact cNeq rfl rfl rfl | exact cExtract rfl rfl rfl)
           rotate_left))
  intro a w2 hF hb hN
  have hBs := hB.size
  replace hB := hB.trans (hb.mono hB.size)
  simp only [List.take_succ_cons, List.take_zero, List.drop_succ_cons, List.drop_zero] at hF hN ⊢
  dsimp only [ext, Option.getD] at hF
  replace hbx := hbx.below hb
  refine tlStoreV (Δ := [(4, Ty.ex (.pointer (some ⟨_, 0, none⟩)))]) hF rfl rfl rfl rfl (hF.getEx (s := 20) rfl) hbx (clSz _ _) ((by show _ = some (Cl.a _).size; rw [Cl.size]; exact info49)) (Cl.one _) (hF.keep [4]) rfl ?_
  intro w3 hF hbx hkx
  refine wpList_nil ?_
  replace hB := below_own hB hkx (by intro y hy; simp only [List.mem_singleton] at hy; omega)
  repeat (first | with_reducible refine wp_seq ?_ | with_reducible refine nThen ?_ | with_reducible refine nBlk ?_ | with_reducible refine wp_skip ?_ | with_reducible refine wp_block ?_ | with_reducible refine wp_exit ?_ | with_reducible refine xThen ?_ | with_reducible refine xHere ?_ | with_reducible refine xFar (by decide) ?_ | with_reducible refine wp_ret ?_ | with_reducible refine rThen ?_ | with_reducible refine rBlk ?_)
  refine retCell hF rfl rfl hbx (Try.underlying105) rfl ((by show _ = some (Cl.a _).size; rw [Cl.size]; exact info49)) ?_
  exact ⟨_, rfl, rfl, hB⟩
set_option maxRecDepth 100000 in
theorem czero_ty (c : Cl) : Fn1 Try.prog 82 (Ty.ex (.agg c.a)) (Ty.ex (.bool (decide (c = Cl.zero)))) := by
  refine ⟨fun args w => by kernel_rfl, fun w v hv => ?_⟩
  refine enter_ty 6 [Ty.ex (.agg c.a)] Try.func82 rfl (by kernel_rfl) ⟨hv, trivial⟩ fun a hF => ?_
  have hB := Below.refl w.heap.size w
  repeat (first | with_reducible refine wp_seq ?_ | with_reducible refine nThen ?_ | with_reducible refine nBlk ?_ | with_reducible refine wp_skip ?_ | with_reducible refine wp_block ?_ | with_reducible refine wp_exit ?_ | with_reducible refine xThen ?_ | with_reducible refine xHere ?_ | with_reducible refine xFar (by decide) ?_ | with_reducible refine wp_ret ?_ | with_reducible refine rThen ?_ | with_reducible refine rBlk ?_)
  refine' reg_all hF ?_ mixed (by kernel_rfl) ?_
  rotate_left
  · repeat (first
        | exact Line.nil
        | (refine' Line.cons rfl (.no rfl rfl rfl rfl rfl rfl) ?_; rotate_left)
        | ((first | refine' Line.cons rfl (.run rfl rfl ?_) ?_ | refine' Line.cons rfl (.yes rfl rfl rfl rfl ?_) ?_)
           any_goals (first | exact cMove rfl rfl | exact cAssign rfl rfl | exact cNot rfl rfl | exact cBoxCl rfl rfl | exact cPickT rfl rfl rfl | exact cPickF rfl rfl rfl | exact cLss rfl rfl rfl | exact cLeq rfl rfl rfl | exact cGtr rfl rfl rfl | exact cGeq rfl rfl rfl | exact cEql rfl rfl rfl | exact cNeq rfl rfl rfl | exact cExtract rfl rfl rfl)
           rotate_left))
  intro a w1 hF hb hN
  have hBs := hB.size
  replace hB := hB.trans (hb.mono hB.size)
  dsimp only [ext, Option.getD] at hF
  repeat (first | with_reducible refine wp_seq ?_ | with_reducible refine nThen ?_ | with_reducible refine nBlk ?_ | with_reducible refine wp_skip ?_ | with_reducible refine wp_block ?_ | with_reducible refine wp_exit ?_ | with_reducible refine xThen ?_ | with_reducible refine xHere ?_ | with_reducible refine xFar (by decide) ?_ | with_reducible refine wp_ret ?_ | with_reducible refine rThen ?_ | with_reducible refine rBlk ?_)
  refine' reg_all hF ?_ mixed (by kernel_rfl) ?_
  rotate_left
  · repeat (first
        | exact Line.nil
        | (refine' Line.cons rfl (.no rfl rfl rfl rfl rfl rfl) ?_; rotate_left)
        | ((first | refine' Line.cons rfl (.run rfl rfl ?_) ?_ | refine' Line.cons rfl (.yes rfl rfl rfl rfl ?_) ?_)
           any_goals (first | exact cMove rfl rfl | exact cAssign rfl rfl | exact cNot rfl rfl | exact cLoadCl34 rfl (.t rfl) | exact cBuildE rfl (fun w => buildZ34 w) | exact cEqlAgg rfl rfl rfl guard34 (fun w => eql_cl34 _ _ w) | exact cPickT rfl rfl rfl | exact cPickF rfl rfl rfl | exact cLss rfl rfl rfl | exact cLeq rfl rfl rfl | exact cGtr rfl rfl rfl | exact cGeq rfl rfl rfl | exact cEql rfl rfl rfl | exact cNeq rfl rfl rfl | exact cExtract rfl rfl rfl)
           rotate_left))
  intro a w2 hF hb hN
  have hBs := hB.size
  replace hB := hB.trans (hb.mono hB.size)
  dsimp only [ext, Option.getD] at hF
  repeat (first | with_reducible refine wp_seq ?_ | with_reducible refine nThen ?_ | with_reducible refine nBlk ?_ | with_reducible refine wp_skip ?_ | with_reducible refine wp_block ?_ | with_reducible refine wp_exit ?_ | with_reducible refine xThen ?_ | with_reducible refine xHere ?_ | with_reducible refine xFar (by decide) ?_ | with_reducible refine wp_ret ?_ | with_reducible refine rThen ?_ | with_reducible refine rBlk ?_)
  refine ret1 hF rfl rfl fun z hz => ?_
  exact ⟨z, rfl, hz, hB⟩
/-- What Pure tells of a cell. -/
def Cl.sum (c : Cl) : Sm := if c.ok then c.key else Sm.zero
end Go.Proofs.Ytmlbkcpmgcjblaa

/- Layer 10: the walks of small helpers: rows copied, rows compared. -/
namespace Go.Proofs.Ytmlbkcpmgcjblaa
open Go.RowKit

end Go.Proofs.Ytmlbkcpmgcjblaa

/- Rows of bytes compared: plainly. -/
namespace Go.Proofs.Ytmlbkcpmgcjblaa

def cmpL : List Nat → List Nat → Int
  | [], [] => 0
  | [], _ :: _ => -1
  | _ :: _, [] => 1
  | a :: x, b :: y => if a < b then -1 else if b < a then 1 else cmpL x y
theorem cmpL_swap : ∀ x y : List Nat, cmpL y x = - cmpL x y
  | [], [] => rfl
  | [], _ :: _ => rfl
  | _ :: _, [] => rfl
  | a :: x, b :: y => by
    have ih := cmpL_swap x y
    unfold cmpL
    by_cases h1 : a < b
    · rw [if_neg (by omega), if_pos h1, if_pos h1]; rfl
    · by_cases h2 : b < a
      · rw [if_pos h2, if_neg h1, if_pos h2]
      · rw [if_neg h2, if_neg h1, if_neg h1, if_neg h2]; exact ih
theorem cmpL_eq : ∀ x y : List Nat, cmpL x y = 0 ↔ x = y
  | [], [] => by simp [cmpL]
  | [], _ :: _ => by simp [cmpL]
  | _ :: _, [] => by simp [cmpL]
  | a :: x, b :: y => by
    have ih := cmpL_eq x y
    unfold cmpL
    by_cases h1 : a < b
    · rw [if_pos h1]; simp; omega
    · by_cases h2 : b < a
      · rw [if_neg h1, if_pos h2]; simp; omega
      · rw [if_neg h1, if_neg h2, ih]
        have : a = b := by omega
        simp [this]
theorem cmpL_trans : ∀ x y z : List Nat, cmpL x y ≤ 0 → cmpL y z ≤ 0 → cmpL x z ≤ 0 ∧ (cmpL x y < 0 ∨ cmpL y z < 0 → cmpL x z < 0)
  | [], [], [] => by simp [cmpL]
  | [], [], _ :: _ => by simp [cmpL]
  | [], _ :: _, [] => by simp [cmpL]
  | [], _ :: _, _ :: _ => by simp [cmpL]
  | _ :: _, [], _ => by simp [cmpL]
  | _ :: _, _ :: _, [] => by intro _ h; simp [cmpL] at h
  | a :: x, b :: y, c :: z => by
    have ih := cmpL_trans x y z
    intro h1 h2
    unfold cmpL at h1 h2 ⊢
    by_cases ab : a < b
    · by_cases bc : c < b
      · rw [if_neg (by omega), if_pos bc] at h2; omega
      · rw [if_pos (show a < c by omega)]; exact ⟨by omega, fun _ => by omega⟩
    · by_cases ba : b < a
      · rw [if_neg ab, if_pos ba] at h1; omega
      · rw [if_neg ab, if_neg ba] at h1 ⊢
        have e : a = b := by omega
        subst e
        by_cases ac : a < c
        · rw [if_pos ac]; exact ⟨by omega, fun _ => by omega⟩
        · by_cases ca : c < a
          · rw [if_neg ac, if_pos ca] at h2; omega
          · rw [if_neg ac, if_neg ca] at h2
            rw [if_neg ac, if_neg ca]
            rw [if_neg ac, if_neg ca]
            exact ih h1 h2

end Go.Proofs.Ytmlbkcpmgcjblaa

/- Sums compared by their bytes: plainly; the walks of bytes.Compare and Sum.Cmp. -/
namespace Go.Proofs.Ytmlbkcpmgcjblaa
open Go.RowKit

theorem cmpL_bytes : ∀ (x y : List Nat), (∀ a ∈ x, a < 256) → (∀ a ∈ y, a < 256) → Lib.compareBytes (bytesU x) (bytesU y) = cmpL x y
  | [], [], _, _ => rfl
  | [], _ :: _, _, _ => rfl
  | _ :: _, [], _, _ => rfl
  | a :: x, b :: y, hx, hy => by
    have ih := cmpL_bytes x y (fun z hz => hx z (by simp [hz])) (fun z hz => hy z (by simp [hz]))
    have ha := u8_toNat (hx a (by simp))
    have hb := u8_toNat (hy b (by simp))
    have h1 : (UInt8.ofNat a < UInt8.ofNat b) ↔ a < b := by rw [UInt8.lt_iff_toNat_lt, ha, hb]
    have h2 : (UInt8.ofNat b < UInt8.ofNat a) ↔ b < a := by rw [UInt8.lt_iff_toNat_lt, ha, hb]
    show (if UInt8.ofNat a < UInt8.ofNat b then (-1 : Int) else if UInt8.ofNat b < UInt8.ofNat a then 1 else Lib.compareBytes (bytesU x) (bytesU y)) = _
    rw [ih]
    simp only [h1, h2, cmpL]

theorem run_bytesOf_rd {P : Program} (w : World) (A : Option Addr) (n cap : Nat) (l : List Nat) (hl : l.length = n) (hr : Rd w A (l.map bv)) (hA : A = none → n = 0) (hx : ∀ x ∈ l, x < 256) :
    (Extern.Bytes.bytesOf (.slice A n cap)).run P w = .ok ⟨(bytesU l).toArray⟩ w := by
  cases A with
  | none =>
    have : l = [] := List.eq_nil_of_length_eq_zero (by rw [hl]; exact hA rfl)
    subst this
    rfl
  | some a =>
    subst hl
    have h := Lib.run_loadBytesX (P := P) w (l.map Int.ofNat) a .empty (fun j x hj => by
      rw [List.getElem?_map] at hj
      obtain ⟨y, hy, rfl⟩ := Option.map_eq_some_iff.1 hj
      obtain ⟨ad, e, hc⟩ := hr j (bv y) (by rw [List.getElem?_map, hy]; rfl)
      injection e with e
      subst e
      exact hc)
    rw [List.length_map] at h
    have e : Lib.bytesOf (l.map Int.ofNat) = bytesU l := by
      unfold Lib.bytesOf bytesU
      rw [List.map_map]
      apply List.map_congr_left
      intro x _
      rfl
    rw [e] at h
    simp only [Extern.Bytes.bytesOf]
    rw [h]
    congr 1
    apply ByteArray.ext
    simp
set_option maxRecDepth 100000 in
theorem Compare_any (A B : Option Addr) (n m c d : Nat) (x y : List Nat) (w : World) (hx : x.length = n) (hy : y.length = m) (hr1 : Rd w A (x.map bv)) (hr2 : Rd w B (y.map bv)) (hA : A = none → n = 0) (hB : B = none → m = 0) (h1 : ∀ a ∈ x, a < 256) (h2 : ∀ a ∈ y, a < 256) :
    Calls Try.prog 103 #[.slice A n c, .slice B m d] w fun e w' => e = .returned (.int .i64 (cmpL x y)) ∧ w' = w := by
  have hrun : (Extern.BytealgCompare.compare #[.slice A n c, .slice B m d]).run Try.prog w = .ok (.int .i64 (cmpL x y)) w := by
    change Sem.run Try.prog (do pure (goInt (Extern.BytealgCompare.cmp (← Extern.Bytes.bytesOf (.slice A n c)) (← Extern.Bytes.bytesOf (.slice B m d))))) w = _
    rw [Sem.run_bind, run_bytesOf_rd w A n c x hx hr1 hA h1]
    simp only [Result.andThen_ok]
    rw [Sem.run_bind, run_bytesOf_rd w B m d y hy hr2 hB h2]
    simp only [Result.andThen_ok, Sem.run_pure]
    rw [Lib.cmp_eq, ← cmpL_bytes x y h1 h2]
    rfl
  have HR := Lib.hid hrun
  clear hrun
  go_enter Try.func103, Try.ntmps103
  go_wp2
  rw [run_callFunc_extern Try.func132 (by kernel_rfl) (by kernel_rfl) (by kernel_rfl) (e := Extern.BytealgCompare.compare) (by kernel_rfl), HR.out]
  simp only [Result.andThen]
  rw [Oper.upon_value]
  go_wp2
  go_ret
  exact ⟨rfl, rfl⟩
end Go.Proofs.Ytmlbkcpmgcjblaa

/- The walk of tallymanref1.Cmp. -/
namespace Go.Proofs.Ytmlbkcpmgcjblaa
open Go.RowKit

theorem cmpL_drop (x y : List Nat) (k : Nat) (hx : k < x.length) (hy : k < y.length) :
    cmpL (x.drop k) (y.drop k) = if x.getD k 0 < y.getD k 0 then -1 else if y.getD k 0 < x.getD k 0 then 1 else cmpL (x.drop (k + 1)) (y.drop (k + 1)) := by
  rw [List.drop_eq_getElem_cons hx, List.drop_eq_getElem_cons hy]
  simp [cmpL, List.getD, List.getElem?_eq_getElem hx, List.getElem?_eq_getElem hy]

set_option maxRecDepth 100000 in
set_option maxHeartbeats 1000000 in
theorem R1Cmp_l (x y : List Nat) (hx : x.length = 32) (hy : y.length = 32) (w : World) :
    Calls Try.prog 94 #[.agg (u8s x), .agg (u8s y)] w fun e w' => e = .returned (.int .i64 (cmpL x y)) ∧ Below w.heap.size w w' := by
  have h0 : Blk ((w.alloc (.cells (u8s x) 61)).alloc (.cells (u8s y) 61)) w.heap.size 61 (u8s x) := (Blk.new w _ _).alloc _
  have h1 : Blk ((w.alloc (.cells (u8s x) 61)).alloc (.cells (u8s y) 61)) (w.heap.size + 1) 61 (u8s y) := Blk.newAt (w.alloc _) _ _ _ (by simp)
  have hc0 : ∀ k, k < 32 → ((w.alloc (.cells (u8s x) 61)).alloc (.cells (u8s y) 61)).cell? ⟨w.heap.size, k, none⟩ = some (.int .u8 ((x.getD k 0 : Nat) : Int)) := fun k hk => by
    rw [h0.cell, u8s_get (by rw [hx]; exact hk)]
  have hc1 : ∀ k, k < 32 → ((w.alloc (.cells (u8s x) 61)).alloc (.cells (u8s y) 61)).cell? ⟨w.heap.size + 1, k, none⟩ = some (.int .u8 ((y.getD k 0 : Nat) : Int)) := fun k hk => by
    rw [h1.cell, u8s_get (by rw [hy]; exact hk)]
  have hb : Below w.heap.size w ((w.alloc (.cells (u8s x) 61)).alloc (.cells (u8s y) 61)) := (((Keeps.refl [] w).alloc _).alloc _).below
  have HX := Lib.hid hx
  have HY := Lib.hid hy
  clear h0 h1 hx hy
  generalize hX : u8s x = X at *
  generalize hY : u8s y = Y at *
  clear hX hY
  go_enter Try.func94, Try.ntmps94
  go_wp2
  go_loopw [5] (fun i wr => ∃ k : Nat, k ≤ 32 ∧ i = .int .i64 k ∧ cmpL x y = cmpL (x.drop k) (y.drop k) ∧ (∀ j, j < 32 → wr.cell? ⟨w.heap.size, j, none⟩ = some (.int .u8 ((x.getD j 0 : Nat) : Int))) ∧ (∀ j, j < 32 → wr.cell? ⟨w.heap.size + 1, j, none⟩ = some (.int .u8 ((y.getD j 0 : Nat) : Int))) ∧ Below w.heap.size w wr) (fun i _ => 32 - (intOf i).toNat)
  case atStart => exact ⟨0, by omega, rfl, rfl, hc0, hc1, hb⟩
  case round =>
    clear hc0 hc1 hb
    obtain ⟨k, hk, rfl, he, hc0, hc1, hb⟩ := hrel
    have H0 := Lib.hid hc0
    have H1 := Lib.hid hc1
    have HB := Lib.hid hb
    clear hc0 hc1 hb
    by_cases hk32 : k < 32
    · have c0 := H0.out k hk32
      have c1 := H1.out k hk32
      rw [cmpL_drop x y k (by rw [HX.out]; exact hk32) (by rw [HY.out]; exact hk32)] at he
      have HE := Lib.hid he
      clear he
      generalize x.getD k 0 = a at *
      generalize y.getD k 0 = b at *
      have r0 : (k : Int) < 32 := by omega
      have r1 : (0 : Int) ≤ (k : Int) := by omega
      by_cases hab : a < b
      · have e := HE.out
        rw [if_pos hab] at e
        clear HE
        have hi : (a : Int) < (b : Int) := by omega
        go_wp2
        go_quiet (fail)
        go_wp2
        go_ret
        exact ⟨by rw [e]; rfl, ((Keeps.of_below (S := []) HB.out).drewN _).below⟩
      · by_cases hba : b < a
        · have e := HE.out
          rw [if_neg hab, if_pos hba] at e
          clear HE
          have hi : ¬ (a : Int) < (b : Int) := by omega
          have hj : (b : Int) < (a : Int) := by omega
          go_wp2
          go_quiet (fail)
          go_wp2
          go_quiet (fail)
          go_wp2
          go_ret
          exact ⟨by rw [e]; rfl, (((Keeps.of_below (S := []) HB.out).drewN _).drewN _).below⟩
        · have e := HE.out
          rw [if_neg hab, if_neg hba] at e
          have HE2 := Lib.hid e
          clear HE e
          have hi : ¬ (a : Int) < (b : Int) := by omega
          have hj : ¬ (b : Int) < (a : Int) := by omega
          go_wp2
          go_quiet (fail)
          go_wp2
          go_quiet (fail)
          go_wp2
          go_roundw
          case rel => exact ⟨k + 1, by omega, by go_num, HE2.out, H0.out, H1.out, ((Keeps.of_below (S := []) HB.out).drewN _).below⟩
          case measure => simp [intOf]; omega
    · obtain rfl : k = 32 := by omega
      have e : cmpL x y = 0 := by rw [he, List.drop_eq_nil_of_le (by rw [HX.out]; omega), List.drop_eq_nil_of_le (by rw [HY.out]; omega)]; rfl
      clear he
      go_wp2
      go_ret
      exact ⟨by rw [e]; rfl, HB.out⟩
theorem R1Cmp_any (x y : Sm) (w : World) :
    Calls Try.prog 94 #[.agg (u8s x.l), .agg (u8s y.l)] w fun e w' => e = .returned (.int .i64 (cmpL x.l y.l)) ∧ Below w.heap.size w w' := R1Cmp_l x.l y.l x.len y.len w
end Go.Proofs.Ytmlbkcpmgcjblaa

/- Layer 10: the walks of Sum.Cmp, Equal, Good; of the document's own Same, Has, Good. -/
namespace Go.Proofs.Ytmlbkcpmgcjblaa
open Go.RowKit

theorem r1cmp_ty (x y : Sm) : Fn2 Try.prog 94 (Ty.ex (.agg (u8s x.l))) (Ty.ex (.agg (u8s y.l))) (Ty.ex (.int .i64 (cmpL x.l y.l))) :=
  ⟨fun args w => by kernel_rfl, fun w v u hv hu => by
    have hv : v = .agg (u8s x.l) := hv
    have hu : u = .agg (u8s y.l) := hu
    subst hv hu
    exact Ret.of (R1Cmp_any x y w)⟩

end Go.Proofs.Ytmlbkcpmgcjblaa

/- Layer 10: the walks of Equal, Same; of the document's own Same, Has. -/
namespace Go.Proofs.Ytmlbkcpmgcjblaa
open Go.RowKit

theorem mem_get {L : List Sm} {x : Sm} : x ∈ L ↔ ∃ j, j < L.length ∧ L.getD j default = x := by
  constructor
  · intro h
    obtain ⟨j, hj, rfl⟩ := List.getElem_of_mem h
    exact ⟨j, hj, by simp [List.getD, List.getElem?_eq_getElem hj]⟩
  · rintro ⟨j, hj, rfl⟩
    simp only [List.getD, List.getElem?_eq_getElem hj, Option.getD_some]
    exact List.getElem_mem hj
end Go.Proofs.Ytmlbkcpmgcjblaa

/- Layer 10: the walks of Clone, Grow, Concat. -/
namespace Go.Proofs.Ytmlbkcpmgcjblaa
open Go.RowKit

set_option maxRecDepth 100000 in
theorem cloneS_ty (L : List Sm) (hL : L.length ≤ 1000000) : FnSeg1 Try.prog 64 (Ty.sums 34 L) 34 32 L.length (flat L) := by
  refine ⟨fun args w => by kernel_rfl, fun w v hv => ?_⟩
  have hv' := hv
  obtain ⟨A, c, rfl, hnc, hcm, hA, hr⟩ := hv'
  refine enter_ty 8 [Ty.ex (.slice A L.length c)] Try.func64 rfl (by kernel_rfl) ⟨rfl, trivial⟩ fun a hF => ?_
  have hB := Below.refl w.heap.size w
  repeat (first | with_reducible refine wp_seq ?_ | with_reducible refine nThen ?_ | with_reducible refine nBlk ?_ | with_reducible refine wp_skip ?_ | with_reducible refine wp_block ?_ | with_reducible refine wp_exit ?_ | with_reducible refine xThen ?_ | with_reducible refine xHere ?_ | with_reducible refine xFar (by decide) ?_ | with_reducible refine wp_ret ?_ | with_reducible refine rThen ?_ | with_reducible refine rBlk ?_)
  refine' reg_all hF ?_ mixed (by kernel_rfl) ?_
  rotate_left
  · repeat (first
        | exact Line.nil
        | (refine' Line.cons rfl (.no rfl rfl rfl rfl rfl rfl) ?_; rotate_left)
        | ((first | refine' Line.cons rfl (.run rfl rfl ?_) ?_ | refine' Line.cons rfl (.yes rfl rfl rfl rfl ?_) ?_)
           any_goals (first | exact cMove rfl rfl | exact cAssign rfl rfl | exact cPickT rfl rfl rfl | exact cPickF rfl rfl rfl | exact cNot rfl rfl | exact cLss rfl rfl rfl | exact cLeq rfl rfl rfl | exact cGtr rfl rfl rfl | exact cGeq rfl rfl rfl | exact cEql rfl rfl rfl | exact cNeq rfl rfl rfl | exact cExtract rfl rfl rfl)
           rotate_left))
  intro a w1 hF hb hN
  have hBs := hB.size
  replace hB := hB.trans (hb.mono hB.size)
  dsimp only [ext, Option.getD] at hF
  repeat (first | with_reducible refine wp_seq ?_ | with_reducible refine nThen ?_ | with_reducible refine nBlk ?_ | with_reducible refine wp_skip ?_ | with_reducible refine wp_block ?_ | with_reducible refine wp_exit ?_ | with_reducible refine xThen ?_ | with_reducible refine xHere ?_ | with_reducible refine xFar (by decide) ?_ | with_reducible refine wp_ret ?_ | with_reducible refine rThen ?_ | with_reducible refine rBlk ?_)
  refine' reg_all hF ?_ mixed (by kernel_rfl) ?_
  rotate_left
  · repeat (first
        | exact Line.nil
        | (refine' Line.cons rfl (.no rfl rfl rfl rfl rfl rfl) ?_; rotate_left)
        | ((first | refine' Line.cons rfl (.run rfl rfl ?_) ?_ | refine' Line.cons rfl (.yes rfl rfl rfl rfl ?_) ?_)
           any_goals (first | exact cEqlNil rfl rfl Try.underlying24 | exact cMove rfl rfl | exact cAssign rfl rfl | exact cPickT rfl rfl rfl | exact cPickF rfl rfl rfl | exact cNot rfl rfl | exact cLss rfl rfl rfl | exact cLeq rfl rfl rfl | exact cGtr rfl rfl rfl | exact cGeq rfl rfl rfl | exact cEql rfl rfl rfl | exact cNeq rfl rfl rfl | exact cExtract rfl rfl rfl)
           rotate_left))
  intro a w2 hF hb hN
  have hBs := hB.size
  replace hB := hB.trans (hb.mono hB.size)
  dsimp only [ext, Option.getD] at hF
  repeat (first | with_reducible refine wp_seq ?_ | with_reducible refine nThen ?_ | with_reducible refine nBlk ?_ | with_reducible refine wp_skip ?_ | with_reducible refine wp_block ?_ | with_reducible refine wp_exit ?_ | with_reducible refine xThen ?_ | with_reducible refine xHere ?_ | with_reducible refine xFar (by decide) ?_ | with_reducible refine wp_ret ?_ | with_reducible refine rThen ?_ | with_reducible refine rBlk ?_)
  refine cond_ty hF rfl (fun h0 => ?_) (fun h1 => ?_)
  · have h0 : A = none := by cases A <;> simp at h0 ⊢
    have hl : L = [] := List.eq_nil_of_length_eq_zero (hA h0).1
    subst hl
    repeat (first | with_reducible refine wp_seq ?_ | with_reducible refine nThen ?_ | with_reducible refine nBlk ?_ | with_reducible refine wp_skip ?_ | with_reducible refine wp_block ?_ | with_reducible refine wp_exit ?_ | with_reducible refine xThen ?_ | with_reducible refine xHere ?_ | with_reducible refine xFar (by decide) ?_ | with_reducible refine wp_ret ?_ | with_reducible refine rThen ?_ | with_reducible refine rBlk ?_)
    refine' reg_all hF ?_ mixed (by kernel_rfl) ?_
    rotate_left
    · repeat (first
          | exact Line.nil
          | (refine' Line.cons rfl (.no rfl rfl rfl rfl rfl rfl) ?_; rotate_left)
          | ((first | refine' Line.cons rfl (.run rfl rfl ?_) ?_ | refine' Line.cons rfl (.yes rfl rfl rfl rfl ?_) ?_)
             any_goals (first | exact cMove rfl rfl | exact cAssign rfl rfl | exact cPickT rfl rfl rfl | exact cPickF rfl rfl rfl | exact cNot rfl rfl | exact cLss rfl rfl rfl | exact cLeq rfl rfl rfl | exact cGtr rfl rfl rfl | exact cGeq rfl rfl rfl | exact cEql rfl rfl rfl | exact cNeq rfl rfl rfl | exact cExtract rfl rfl rfl)
             rotate_left))
    intro a w3 hF hb hN
    have hBs := hB.size
    replace hB := hB.trans (hb.mono hB.size)
    dsimp only [ext, Option.getD] at hF
    repeat (first | with_reducible refine wp_seq ?_ | with_reducible refine nThen ?_ | with_reducible refine nBlk ?_ | with_reducible refine wp_skip ?_ | with_reducible refine wp_block ?_ | with_reducible refine wp_exit ?_ | with_reducible refine xThen ?_ | with_reducible refine xHere ?_ | with_reducible refine xFar (by decide) ?_ | with_reducible refine wp_ret ?_ | with_reducible refine rThen ?_ | with_reducible refine rBlk ?_)
    refine ret1 hF rfl rfl fun z hz => ?_
    have hz : z = .slice none 0 0 := hz
    subst hz
    exact ⟨_, rfl, ⟨[], Seg.nil _ _ _, by simp⟩, hB⟩
  · repeat (first | with_reducible refine wp_seq ?_ | with_reducible refine nThen ?_ | with_reducible refine nBlk ?_ | with_reducible refine wp_skip ?_ | with_reducible refine wp_block ?_ | with_reducible refine wp_exit ?_ | with_reducible refine xThen ?_ | with_reducible refine xHere ?_ | with_reducible refine xFar (by decide) ?_ | with_reducible refine wp_ret ?_ | with_reducible refine rThen ?_ | with_reducible refine rBlk ?_)
    refine' region_ty 2 mixed (by kernel_rfl) hF ?_ ?_
    rotate_left
    · simp only [List.take_succ_cons, List.take_zero]
      repeat (first
          | exact Line.nil
          | (refine' Line.cons rfl (.no rfl rfl rfl rfl rfl rfl) ?_; rotate_left)
          | ((first | refine' Line.cons rfl (.run rfl rfl ?_) ?_ | refine' Line.cons rfl (.yes rfl rfl rfl rfl ?_) ?_)
             any_goals (first | exact cBuild0 rfl Try.underlying24 infoS | exact cMove rfl rfl | exact cAssign rfl rfl | exact cPickT rfl rfl rfl | exact cPickF rfl rfl rfl | exact cNot rfl rfl | exact cLss rfl rfl rfl | exact cLeq rfl rfl rfl | exact cGtr rfl rfl rfl | exact cGeq rfl rfl rfl | exact cEql rfl rfl rfl | exact cNeq rfl rfl rfl | exact cExtract rfl rfl rfl)
             rotate_left))
    intro a w3 hF hb hN
    have hBs := hB.size
    replace hB := hB.trans (hb.mono hB.size)
    simp only [List.take_succ_cons, List.take_zero, List.drop_succ_cons, List.drop_zero] at hF hN ⊢
    dsimp only [ext, Option.getD] at hF
    obtain ⟨u, ⟨S, hseg, hS⟩, hF⟩ := hF.open (s := 5) rfl
    refine tlAppend (Δ := []) hF rfl rfl rfl rfl Try.underlying24 infoS zero32_size rfl hseg (.l (v := .slice A L.length c) rfl ((Ty.sums 34 L).below hv hB)) sl_news (flat_len _) flat_one' (by simp [maxLen]; omega) (by simp; omega) hF.nil rfl ?_
    intro a w4 u' S' hF hseg' hk2 hS'
    have hbS : ∀ y ∈ S', w.heap.size ≤ y := own_next hB (fun y hy => Nat.le_trans hBs (hS y hy)) hS'
    replace hB := below_own hB hk2 (fun y hy => Nat.le_trans hBs (hS y hy))
    refine' tlOp hF rfl rfl rfl ?_ ?_
    rotate_left
    · first | exact cMove rfl rfl | exact cAssign rfl rfl | exact cPickT rfl rfl rfl | exact cPickF rfl rfl rfl | exact cNot rfl rfl | exact cLss rfl rfl rfl | exact cLeq rfl rfl rfl | exact cGtr rfl rfl rfl | exact cGeq rfl rfl rfl | exact cEql rfl rfl rfl | exact cNeq rfl rfl rfl | exact cExtract rfl rfl rfl
    intro a w5 hF hb
    have hBs := hB.size
    replace hB := hB.trans (hb.mono hB.size)
    try (refine wpList_nil ?_)
    repeat (first | with_reducible refine wp_seq ?_ | with_reducible refine nThen ?_ | with_reducible refine nBlk ?_ | with_reducible refine wp_skip ?_ | with_reducible refine wp_block ?_ | with_reducible refine wp_exit ?_ | with_reducible refine xThen ?_ | with_reducible refine xHere ?_ | with_reducible refine xFar (by decide) ?_ | with_reducible refine wp_ret ?_ | with_reducible refine rThen ?_ | with_reducible refine rBlk ?_)
    refine ret1 hF rfl rfl fun z hz => ?_
    have hz : z = u' := hz
    subst hz
    rw [Nat.zero_add, List.nil_append] at hseg'
    exact ⟨_, rfl, ⟨S', hseg'.below hb, hbS⟩, hB⟩
theorem zeroS_one : ∀ u ∈ (Value.agg (u8s (List.replicate 32 0))).cells.toList, u.oneCell' = true := by
  intro u hu
  have h : u ∈ (u8s (List.replicate 32 0)).toList := hu
  rw [u8s_list] at h
  obtain ⟨b, _, rfl⟩ := List.mem_map.1 h
  rfl
end Go.Proofs.Ytmlbkcpmgcjblaa

/- Layer 15 by types: rows of cells, tables; Clone; Good, New. -/
namespace Go.Proofs.Ytmlbkcpmgcjblaa
open Go.RowKit

/-! ### Rows of cells -/
abbrev Ty.cls (e : TypeId) (L : List Cl) : Ty := Ty.sl e L.length (flatC L)
theorem cIndexCl {P : Program} {w0 : World} {Γ : Ctx} {o : Oper} {t e : TypeId} {x ix : Operand} {k : Nat} {kd : IntKind} {L : List Cl} (ho : o.op = .indexAddr t x ix) (hx : Has w0 Γ x (Ty.cls e L)) (hi : OpT Γ ix (Ty.ex (.int kd (k : Int)))) (hu : P.underlying t = some (.slice e)) (hz : (P.info? e).map (·.size) = some 65) (hk : k < L.length) : OpOk P w0 Γ o (Ty.at_ e (L.getD k default).enc) := by
  have h := cIndexS (P := P) ho hx hi hu hz hk (by rw [flatC_len]; omega)
  rw [flatC_at L hk] at h
  exact h.conv at_pre
theorem cBuildCl1 {P : Program} {w0 : World} {Γ : Ctx} {o : Oper} {t e : TypeId} {z : Value} {bytes : Nat} {y : Operand} {c : Cl} (ho : o.op = .buildSlice t 1 #[(0, y)]) (hy : OpT Γ y (Ty.ex (.agg c.a))) (hu : P.underlying t = some (.slice e)) (hi : (P.info? e).map (fun i => (i.zero, i.size, i.bytes)) = some (some z, 65, bytes)) : OpOk P w0 Γ o (Ty.sl e 1 (flatC [c])) := by
  have h := cBuildV (P := P) (w0 := w0) (vs := [.agg c.a]) ho (parts1v ho hy) hu hi rfl (by
    intro v hv
    simp only [List.mem_singleton] at hv
    subst hv
    exact c.size) (by decide) (by simp [maxLen])
  rwa [show (([.agg c.a] : List Value).map fun v => v.cells.toList).flatten = flatC [c] by simp [flatC, Value.cells, Cl.a]] at h
theorem zero65_cells : (Value.agg Cl.zero.a).cells.size = 65 := Cl.zero.size
/-- make([]Cell, n) -/
theorem made_cells (n : Nat) : (madeCells (Value.agg Cl.zero.a).cells (n * 65)).toList = flatC (tzero n) := by
  apply List.ext_getElem?
  intro j
  have hz : (Value.agg Cl.zero.a).cells = Cl.zero.enc.toArray := rfl
  rw [hz]
  unfold madeCells
  by_cases hj : j < n * 65
  · have h1 : (flatC (tzero n))[j]? = (flatC ((tzero n).drop (j / 65)))[j % 65]? := by
      rw [← flatC_drop, List.getElem?_drop]
      congr 1
      omega
    have h2 : j / 65 < n := by omega
    have h3 : (tzero n).drop (j / 65) = Cl.zero :: tzero (n - j / 65 - 1) := by
      unfold tzero
      rw [List.drop_replicate, show n - j / 65 = (n - j / 65 - 1) + 1 by omega, List.replicate_succ]
      rfl
    have h4 : flatC (Cl.zero :: tzero (n - j / 65 - 1)) = Cl.zero.enc ++ flatC (tzero (n - j / 65 - 1)) := rfl
    have hl : Cl.zero.enc.length = 65 := Cl.enc_len _
    have hm : j % 65 < 65 := Nat.mod_lt _ (by omega)
    rw [h1, h3, h4, List.getElem?_append_left (by omega)]
    simp [hj, hl, hm]
  · rw [List.getElem?_eq_none (by simp; omega), List.getElem?_eq_none (by rw [flatC_len, tzero_len]; omega)]
theorem run_makeCells {P : Program} {t e : TypeId} (n : Nat) (hn : n ≤ 1000000) (ht : P.underlying t = some (.slice e)) (hi : (P.info? e).map (fun i => (i.zero, i.size, i.bytes)) = some (some (.agg Cl.zero.a), 65, 72)) (w : World) :
    (Instr.makeSlice t (.int .i64 (n : Int)) (.int .i64 (n : Int))).run P w = .ok (.slice (some ⟨w.heap.size, 0, none⟩) n n) (w.alloc (.cells (flatC (tzero n)).toArray e)) := by
  obtain ⟨i, h1, h2, h3, h4⟩ := info_parts hi
  have h := run_make (P := P) w t e i _ ht h1 h2 .i64 .i64 (n : Int) (n : Int) (by omega) (Int.le_refl _) (by rw [h4]; omega) (by omega)
  rw [Int.toNat_natCast, h3] at h
  rw [h]
  congr 3
  exact Array.toList_inj.1 (by rw [made_cells])
theorem cMakeCells {P : Program} {w0 : World} {Γ : Ctx} {o : Oper} {t e : TypeId} {x y : Operand} {n : Nat} (ho : o.op = .makeSlice t x y) (hx : OpT Γ x (Ty.ex (.int .i64 (n : Int)))) (hy : OpT Γ y (Ty.ex (.int .i64 (n : Int)))) (ht : P.underlying t = some (.slice e)) (hi : (P.info? e).map (fun i => (i.zero, i.size, i.bytes)) = some (some (.agg Cl.zero.a), 65, 72)) (hn : n ≤ 1000000) : OpOk P w0 Γ o (Ty.seg w0 e 65 (tzero n).length (flatC (tzero n))) :=
  .new fun a w hb hs => by
    rw [tzero_len]
    obtain ⟨u, h1, h2⟩ := hs x _ (by simp [ho, Op.operands]) hx
    obtain ⟨u', h3, h4⟩ := hs y _ (by simp [ho, Op.operands]) hy
    have h2 : u = .int .i64 (n : Int) := h2
    have h4 : u' = .int .i64 (n : Int) := h4
    have hl : (flatC (tzero n)).length = n * 65 := by rw [flatC_len, tzero_len]
    refine ⟨.slice (some ⟨w.heap.size, 0, none⟩) n n, w.alloc (.cells (flatC (tzero n)).toArray e), ⟨[w.heap.size], ?_, fun y hy => ?_⟩, ((Keeps.refl [] w).alloc _).below, ?_⟩
    · have h := Seg.ofBlk (w := w.alloc (.cells (flatC (tzero n)).toArray e)) (sz := 65) (cap := n) (Blk.new w e (flatC (tzero n)).toArray) (by simpa using hl) (by simp [maxLen]; omega)
      simpa using h
    · simp only [List.mem_singleton] at hy
      subst hy
      exact hb.size
    · unfold execOp
      simp only [ho, h1, h2, h3, h4]
      rw [Sem.run_bind, run_makeCells n hn ht hi]
      rfl

/-! ### Tables -/
/-- A table that is read. -/
def Ty.tab (e : TypeId) (seed : Nat) (L : List Cl) : Ty := ⟨fun w v => ∃ s, v = .agg #[.int .u64 (seed : Int), s] ∧ SlP w e s L.length (flatC L), fun t => t == e, fun ⟨s, h1, h2⟩ k hA => ⟨s, h1, (Ty.cls e L).st h2 k hA⟩⟩
/-- A table whose cells are the call's own. -/
def Ty.tabO (w0 : World) (e : TypeId) (seed : Nat) (L : List Cl) : Ty := ⟨fun w v => ∃ s, v = .agg #[.int .u64 (seed : Int), s] ∧ (Ty.seg w0 e 65 L.length (flatC L)).p w s, fun t => t == e, fun ⟨s, h1, h2⟩ k hA => ⟨s, h1, (Ty.seg _ e 65 L.length (flatC L)).st h2 k hA⟩⟩
theorem tabO_tab {w0 : World} {e : TypeId} {seed : Nat} {L : List Cl} : ∀ w v, (Ty.tabO w0 e seed L).p w v → (Ty.tab e seed L).p w v := fun _ _ ⟨s, h1, h2⟩ => ⟨s, h1, seg_sl _ _ h2⟩
theorem tabO_old {w1 w2 : World} (hs : w1.heap.size ≤ w2.heap.size) {e : TypeId} {seed : Nat} {L : List Cl} : ∀ w v, (Ty.tabO w2 e seed L).p w v → (Ty.tabO w1 e seed L).p w v := fun _ _ ⟨s, h1, h2⟩ => ⟨s, h1, seg_old hs _ _ h2⟩
theorem cBoxTab {P : Program} {w0 : World} {Γ : Ctx} {o : Oper} {t : TypeId} {x : Operand} {u s : Value} (ho : o.op = .box t x) (hx : OpT Γ x (Ty.ex (.agg #[u, s]))) : OpOk P w0 Γ o (Ty.at_ t [u, s]) := cBox ho hx
theorem size_u64 : (Try.prog.info? 38).map (·.size) = some 1 := by kernel_rfl
section
variable {w0 : World} {Γ : Ctx} {o : Oper} {x : Operand} {e : TypeId} {u s : Value}
theorem size_row46 : (Try.prog.info? 39).map (·.size) = some 1 := by kernel_rfl
theorem sizeT46 : (Try.prog.info? 41).map (·.size) = some 2 := by kernel_rfl
theorem infoT46 : (Try.prog.info? 41).map (fun i => (i.zero, i.size, i.bytes)) = some (some (.agg #[.int .u64 0, .slice none 0 0]), 2, 32) := by kernel_rfl
theorem cFldS46 (ho : o.op = .fieldAddr 41 x 0) (hx : Has w0 Γ x (Ty.at_ e [u, s])) : OpOk Try.prog w0 Γ o (Ty.at_ e [u, s]) :=
  (cFieldE (P := Try.prog) ho hx Try.underlying41 rfl size_u64).conv fun _ _ h => h
theorem cFldL46 (ho : o.op = .fieldAddr 41 x 1) (hx : Has w0 Γ x (Ty.at_ e [u, s])) : OpOk Try.prog w0 Γ o (Ty.at_ e [s]) :=
  (cFieldE (P := Try.prog) ho hx Try.underlying41 rfl size_row46).conv fun _ _ h => h
theorem cRowOf46 (ho : o.op = .load 39 x) (hx : Has w0 Γ x (Ty.at_ e [s])) : OpOk Try.prog w0 Γ o (Ty.ex s) := cLoad1 ho hx (pts_at _ _) Try.underlying39 rfl
theorem cLoadT46 (ho : o.op = .load 41 x) (hx : Has w0 Γ x (Ty.at_ e [u, s])) : OpOk Try.prog w0 Γ o (Ty.ex (.agg #[u, s])) := cLoadAll (cs := #[u, s]) ho hx Try.underlying41 rfl sizeT46
theorem buildTA46 (n : Int) (A : Option Addr) (l c : Nat) (w : World) : (Instr.build 41 #[(0, .int .u64 n), (1, .slice A l c)]).run Try.prog w = .ok (.agg #[.int .u64 n, .slice A l c]) w := by
  have hz : (zeroValue 41).run Try.prog w = .ok (.agg #[.int .u64 0, .slice none 0 0]) w := by kernel_rfl
  have hu := run_underlying Try.underlying41 w
  have h1 := Try.sizeOf38 w
  simp only [Instr.build, Sem.run_bind, hz, Result.andThen_ok, hu]
  simp [h1, Instr.fill, Value.cells]
theorem buildT46 (n : Int) {s : Value} (hs : ∃ A l c, s = .slice A l c) (w : World) : (Instr.build 41 #[(0, .int .u64 n), (1, s)]).run Try.prog w = .ok (.agg #[.int .u64 n, s]) w := by
  obtain ⟨A, l, c, rfl⟩ := hs
  exact buildTA46 n A l c w
theorem buildT046 (w : World) : (Instr.build 41 #[]).run Try.prog w = .ok (.agg #[.int .u64 0, .slice none 0 0]) w := by kernel_rfl
theorem size_row83 : (Try.prog.info? 50).map (·.size) = some 1 := by kernel_rfl
theorem sizeT83 : (Try.prog.info? 52).map (·.size) = some 2 := by kernel_rfl
theorem infoT83 : (Try.prog.info? 52).map (fun i => (i.zero, i.size, i.bytes)) = some (some (.agg #[.int .u64 0, .slice none 0 0]), 2, 32) := by kernel_rfl
theorem cFldS83 (ho : o.op = .fieldAddr 52 x 0) (hx : Has w0 Γ x (Ty.at_ e [u, s])) : OpOk Try.prog w0 Γ o (Ty.at_ e [u, s]) :=
  (cFieldE (P := Try.prog) ho hx Try.underlying52 rfl size_u64).conv fun _ _ h => h
theorem cFldL83 (ho : o.op = .fieldAddr 52 x 1) (hx : Has w0 Γ x (Ty.at_ e [u, s])) : OpOk Try.prog w0 Γ o (Ty.at_ e [s]) :=
  (cFieldE (P := Try.prog) ho hx Try.underlying52 rfl size_row83).conv fun _ _ h => h
theorem cRowOf83 (ho : o.op = .load 50 x) (hx : Has w0 Γ x (Ty.at_ e [s])) : OpOk Try.prog w0 Γ o (Ty.ex s) := cLoad1 ho hx (pts_at _ _) Try.underlying50 rfl
theorem cLoadT83 (ho : o.op = .load 52 x) (hx : Has w0 Γ x (Ty.at_ e [u, s])) : OpOk Try.prog w0 Γ o (Ty.ex (.agg #[u, s])) := cLoadAll (cs := #[u, s]) ho hx Try.underlying52 rfl sizeT83
theorem buildTA83 (n : Int) (A : Option Addr) (l c : Nat) (w : World) : (Instr.build 52 #[(0, .int .u64 n), (1, .slice A l c)]).run Try.prog w = .ok (.agg #[.int .u64 n, .slice A l c]) w := by
  have hz : (zeroValue 52).run Try.prog w = .ok (.agg #[.int .u64 0, .slice none 0 0]) w := by kernel_rfl
  have hu := run_underlying Try.underlying52 w
  have h1 := Try.sizeOf38 w
  simp only [Instr.build, Sem.run_bind, hz, Result.andThen_ok, hu]
  simp [h1, Instr.fill, Value.cells]
theorem buildT83 (n : Int) {s : Value} (hs : ∃ A l c, s = .slice A l c) (w : World) : (Instr.build 52 #[(0, .int .u64 n), (1, s)]).run Try.prog w = .ok (.agg #[.int .u64 n, s]) w := by
  obtain ⟨A, l, c, rfl⟩ := hs
  exact buildTA83 n A l c w
theorem buildTs83 (n : Int) (w : World) : (Instr.build 52 #[(0, .int .u64 n)]).run Try.prog w = .ok (.agg #[.int .u64 n, .slice none 0 0]) w := by
  have hz : (zeroValue 52).run Try.prog w = .ok (.agg #[.int .u64 0, .slice none 0 0]) w := by kernel_rfl
  have hu := run_underlying Try.underlying52 w
  have h1 := Try.sizeOf38 w
  simp only [Instr.build, Sem.run_bind, hz, Result.andThen_ok, hu]
  simp [h1, Instr.fill, Value.cells]
theorem buildT083 (w : World) : (Instr.build 52 #[]).run Try.prog w = .ok (.agg #[.int .u64 0, .slice none 0 0]) w := by kernel_rfl
theorem cLoadU64 (ho : o.op = .load 38 x) {xs : List Value} (hx : Has w0 Γ x (Ty.at_ e (u :: xs))) : OpOk Try.prog w0 Γ o (Ty.ex u) := cLoad1 ho hx (pts_at _ _) Try.underlying38 rfl
end
section
variable {P : Program} {w0 : World} {Γ : Ctx} {o : Oper}
theorem cBuild2w {t : TypeId} {x y : Operand} {v u z : Value} (ho : o.op = .build t #[(0, x), (1, y)]) (hx : OpT Γ x (Ty.ex v)) (hy : OpT Γ y (Ty.ex u)) (hr : ∀ w : World, (Instr.build t #[(0, v), (1, u)]).run P w = .ok z w) : OpOk P w0 Γ o (Ty.ex z) :=
  cBuildP (vs := #[(0, v), (1, u)]) ho (fun a w hs => by
    obtain ⟨v', h1, h2⟩ := hs x _ (by simp [ho, Op.operands]) hx
    obtain ⟨u', h3, h4⟩ := hs y _ (by simp [ho, Op.operands]) hy
    have h2 : v' = v := h2
    have h4 : u' = u := h4
    simp [h1, h2, h3, h4]) hr
/-- A call through a function value, of one argument. -/
theorem cCallV1 {f : FuncId} {ats : Array TypeId} {x0 x : Operand} {τ ρ : Ty} (ho : o.op = .call { callee := .value x0, args := #[x], argTypes := ats }) (h0 : OpT Γ x0 (Ty.ex (.func (.func f) #[] #[]))) (hx : Has w0 Γ x τ) (hc : Fn1 P f τ ρ) : OpOk P w0 Γ o ρ :=
  .call fun a w hb hs => by
    obtain ⟨v0, k1, k2⟩ := hs x0 _ (by simp [ho, Op.operands, Call.operands]) h0
    have k2 : v0 = .func (.func f) #[] #[] := k2
    obtain ⟨v, h1, h2⟩ := hx.see hs (by simp [ho, Op.operands, Call.operands]) hb
    refine ⟨f, #[v], ?_, hc.ret w v h2⟩
    rw [exec_goV a.eval ho (k1.trans k2)]
    simp only [List.map_toArray, List.map_cons, List.map_nil, h1, Array.append_empty]
    exact hc.en _ w
/-- Calls whose result hangs on the world in which they began. -/
structure FnR1 (P : Program) (f : FuncId) (τ : Ty) (ρ : World → Ty) : Prop where
  en : Enters P f
  ret : ∀ w v, τ.p w v → Ret P f #[v] w (ρ w)
structure FnR2 (P : Program) (f : FuncId) (τ σ : Ty) (ρ : World → Ty) : Prop where
  en : Enters P f
  ret : ∀ w v u, τ.p w v → σ.p w u → Ret P f #[v, u] w (ρ w)
structure FnR3 (P : Program) (f : FuncId) (τ σ υ : Ty) (ρ : World → Ty) : Prop where
  en : Enters P f
  ret : ∀ w v u z, τ.p w v → σ.p w u → υ.p w z → Ret P f #[v, u, z] w (ρ w)
def Olds (ρ : World → Ty) : Prop := ∀ {w1 w2 : World}, w1.heap.size ≤ w2.heap.size → ∀ w v, (ρ w2).p w v → (ρ w1).p w v
theorem goodN_rng {n : Int} (h : goodN n = true) : ∃ N : Nat, n = (N : Int) ∧ 3 ≤ N ∧ N ≤ 1024 := by
  have := of_decide_eq_true h
  exact ⟨n.toNat, by omega, by omega, by omega⟩
theorem cCallR1 {f : FuncId} {ats : Array TypeId} {x : Operand} {τ : Ty} {ρ : World → Ty} (ho : o.op = .call { callee := .value (.func f), args := #[x], argTypes := ats }) (hx : Has w0 Γ x τ) (hc : FnR1 P f τ ρ) (hρ : Olds ρ) : OpOk P w0 Γ o (ρ w0) :=
  .call fun a w hb hs => by
    obtain ⟨v, h1, h2⟩ := hx.see hs (by simp [ho, Op.operands, Call.operands]) hb
    refine ⟨f, #[v], ?_, (hc.ret w v h2).mono (hρ hb.size)⟩
    rw [exec_go a.eval ho rfl]
    simp only [List.map_toArray, List.map_cons, List.map_nil, h1]
    exact hc.en _ w
theorem cCallR2 {f : FuncId} {ats : Array TypeId} {x y : Operand} {τ σ : Ty} {ρ : World → Ty} (ho : o.op = .call { callee := .value (.func f), args := #[x, y], argTypes := ats }) (hx : Has w0 Γ x τ) (hy : Has w0 Γ y σ) (hc : FnR2 P f τ σ ρ) (hρ : Olds ρ) : OpOk P w0 Γ o (ρ w0) :=
  .call fun a w hb hs => by
    obtain ⟨v, h1, h2⟩ := hx.see hs (by simp [ho, Op.operands, Call.operands]) hb
    obtain ⟨u, h3, h4⟩ := hy.see hs (by simp [ho, Op.operands, Call.operands]) hb
    refine ⟨f, #[v, u], ?_, (hc.ret w v u h2 h4).mono (hρ hb.size)⟩
    rw [exec_go a.eval ho rfl]
    simp only [List.map_toArray, List.map_cons, List.map_nil, h1, h3]
    exact hc.en _ w
theorem cCallR3 {f : FuncId} {ats : Array TypeId} {x y z : Operand} {τ σ υ : Ty} {ρ : World → Ty} (ho : o.op = .call { callee := .value (.func f), args := #[x, y, z], argTypes := ats }) (hx : Has w0 Γ x τ) (hy : Has w0 Γ y σ) (hz : Has w0 Γ z υ) (hc : FnR3 P f τ σ υ ρ) (hρ : Olds ρ) : OpOk P w0 Γ o (ρ w0) :=
  .call fun a w hb hs => by
    obtain ⟨v, h1, h2⟩ := hx.see hs (by simp [ho, Op.operands, Call.operands]) hb
    obtain ⟨u, h3, h4⟩ := hy.see hs (by simp [ho, Op.operands, Call.operands]) hb
    obtain ⟨q, h5, h6⟩ := hz.see hs (by simp [ho, Op.operands, Call.operands]) hb
    refine ⟨f, #[v, u, q], ?_, (hc.ret w v u q h2 h4 h6).mono (hρ hb.size)⟩
    rw [exec_go a.eval ho rfl]
    simp only [List.map_toArray, List.map_cons, List.map_nil, h1, h3, h5]
    exact hc.en _ w
/-- A table built out of a row of one's own. -/
theorem cBuildTabO {t e : TypeId} {x y : Operand} {seed : Nat} {L : List Cl} (ho : o.op = .build t #[(0, x), (1, y)]) (hx : OpT Γ x (Ty.ex (.int .u64 (seed : Int)))) (hy : OpT Γ y (Ty.seg w0 e 65 L.length (flatC L))) (hr : ∀ (s : Value), (∃ A l c, s = .slice A l c) → ∀ w : World, (Instr.build t #[(0, .int .u64 (seed : Int)), (1, s)]).run P w = .ok (.agg #[.int .u64 (seed : Int), s]) w) : OpOk P w0 Γ o (Ty.tabO w0 e seed L) :=
  .val fun a w _ hs => by
    obtain ⟨v, h1, h2⟩ := hs x _ (by simp [ho, Op.operands]) hx
    obtain ⟨s, h3, h4⟩ := hs y _ (by simp [ho, Op.operands]) hy
    have h2 : v = .int .u64 (seed : Int) := h2
    subst h2
    have hf : ∃ A l c, s = .slice A l c := by
      obtain ⟨A, c, h, _⟩ := (seg_sl _ _ h4).form
      exact ⟨A, _, c, h⟩
    refine ⟨_, ⟨s, rfl, h4⟩, ?_⟩
    unfold execOp
    simp only [ho]
    have e1 : ((#[(0, x), (1, y)] : Array (Nat × Operand)).map fun (i, x) => (i, a.eval x)) = #[(0, .int .u64 (seed : Int)), (1, s)] := by simp [h1, h3]
    rw [e1, Sem.run_bind, hr s hf w]
    rfl
end
theorem tabO_olds (e : TypeId) (seed : Nat) (L : List Cl) : Olds fun w => Ty.tabO w e seed L := fun hs _ _ h => tabO_old hs _ _ h
set_option maxRecDepth 100000 in
theorem cloneC_ty (L : List Cl) (hL : L.length ≤ 1000000) : FnSeg1 Try.prog 78 (Ty.cls 87 L) 87 65 L.length (flatC L) := by
  refine ⟨fun args w => by kernel_rfl, fun w v hv => ?_⟩
  have hv' := hv
  obtain ⟨A, c, rfl, hnc, hcm, hA, hr⟩ := hv'
  refine enter_ty 8 [Ty.ex (.slice A L.length c)] Try.func78 rfl (by kernel_rfl) ⟨rfl, trivial⟩ fun a hF => ?_
  have hB := Below.refl w.heap.size w
  repeat (first | with_reducible refine wp_seq ?_ | with_reducible refine nThen ?_ | with_reducible refine nBlk ?_ | with_reducible refine wp_skip ?_ | with_reducible refine wp_block ?_ | with_reducible refine wp_exit ?_ | with_reducible refine xThen ?_ | with_reducible refine xHere ?_ | with_reducible refine xFar (by decide) ?_ | with_reducible refine wp_ret ?_ | with_reducible refine rThen ?_ | with_reducible refine rBlk ?_)
  refine' reg_all hF ?_ mixed (by kernel_rfl) ?_
  rotate_left
  · repeat (first
        | exact Line.nil
        | (refine' Line.cons rfl (.no rfl rfl rfl rfl rfl rfl) ?_; rotate_left)
        | ((first | refine' Line.cons rfl (.run rfl rfl ?_) ?_ | refine' Line.cons rfl (.yes rfl rfl rfl rfl ?_) ?_)
           any_goals (first | exact cMove rfl rfl | exact cAssign rfl rfl | exact cNot rfl rfl | exact cPickT rfl rfl rfl | exact cPickF rfl rfl rfl | exact cLss rfl rfl rfl | exact cLeq rfl rfl rfl | exact cGtr rfl rfl rfl | exact cGeq rfl rfl rfl | exact cEql rfl rfl rfl | exact cNeq rfl rfl rfl | exact cExtract rfl rfl rfl)
           rotate_left))
  intro a w1 hF hb hN
  have hBs := hB.size
  replace hB := hB.trans (hb.mono hB.size)
  dsimp only [ext, Option.getD] at hF
  repeat (first | with_reducible refine wp_seq ?_ | with_reducible refine nThen ?_ | with_reducible refine nBlk ?_ | with_reducible refine wp_skip ?_ | with_reducible refine wp_block ?_ | with_reducible refine wp_exit ?_ | with_reducible refine xThen ?_ | with_reducible refine xHere ?_ | with_reducible refine xFar (by decide) ?_ | with_reducible refine wp_ret ?_ | with_reducible refine rThen ?_ | with_reducible refine rBlk ?_)
  refine' reg_all hF ?_ mixed (by kernel_rfl) ?_
  rotate_left
  · repeat (first
        | exact Line.nil
        | (refine' Line.cons rfl (.no rfl rfl rfl rfl rfl rfl) ?_; rotate_left)
        | ((first | refine' Line.cons rfl (.run rfl rfl ?_) ?_ | refine' Line.cons rfl (.yes rfl rfl rfl rfl ?_) ?_)
           any_goals (first | exact cMove rfl rfl | exact cAssign rfl rfl | exact cNot rfl rfl | exact cEqlNil rfl rfl Try.underlying39 | exact cPickT rfl rfl rfl | exact cPickF rfl rfl rfl | exact cLss rfl rfl rfl | exact cLeq rfl rfl rfl | exact cGtr rfl rfl rfl | exact cGeq rfl rfl rfl | exact cEql rfl rfl rfl | exact cNeq rfl rfl rfl | exact cExtract rfl rfl rfl)
           rotate_left))
  intro a w2 hF hb hN
  have hBs := hB.size
  replace hB := hB.trans (hb.mono hB.size)
  dsimp only [ext, Option.getD] at hF
  repeat (first | with_reducible refine wp_seq ?_ | with_reducible refine nThen ?_ | with_reducible refine nBlk ?_ | with_reducible refine wp_skip ?_ | with_reducible refine wp_block ?_ | with_reducible refine wp_exit ?_ | with_reducible refine xThen ?_ | with_reducible refine xHere ?_ | with_reducible refine xFar (by decide) ?_ | with_reducible refine wp_ret ?_ | with_reducible refine rThen ?_ | with_reducible refine rBlk ?_)
  refine cond_ty hF rfl (fun h0 => ?_) (fun h1 => ?_)
  · have h0 : A = none := by cases A <;> simp at h0 ⊢
    have hl : L = [] := List.eq_nil_of_length_eq_zero (hA h0).1
    subst hl
    repeat (first | with_reducible refine wp_seq ?_ | with_reducible refine nThen ?_ | with_reducible refine nBlk ?_ | with_reducible refine wp_skip ?_ | with_reducible refine wp_block ?_ | with_reducible refine wp_exit ?_ | with_reducible refine xThen ?_ | with_reducible refine xHere ?_ | with_reducible refine xFar (by decide) ?_ | with_reducible refine wp_ret ?_ | with_reducible refine rThen ?_ | with_reducible refine rBlk ?_)
    refine' reg_all hF ?_ mixed (by kernel_rfl) ?_
    rotate_left
    · repeat (first
          | exact Line.nil
          | (refine' Line.cons rfl (.no rfl rfl rfl rfl rfl rfl) ?_; rotate_left)
          | ((first | refine' Line.cons rfl (.run rfl rfl ?_) ?_ | refine' Line.cons rfl (.yes rfl rfl rfl rfl ?_) ?_)
             any_goals (first | exact cMove rfl rfl | exact cAssign rfl rfl | exact cNot rfl rfl | exact cPickT rfl rfl rfl | exact cPickF rfl rfl rfl | exact cLss rfl rfl rfl | exact cLeq rfl rfl rfl | exact cGtr rfl rfl rfl | exact cGeq rfl rfl rfl | exact cEql rfl rfl rfl | exact cNeq rfl rfl rfl | exact cExtract rfl rfl rfl)
             rotate_left))
    intro a w3 hF hb hN
    have hBs := hB.size
    replace hB := hB.trans (hb.mono hB.size)
    dsimp only [ext, Option.getD] at hF
    repeat (first | with_reducible refine wp_seq ?_ | with_reducible refine nThen ?_ | with_reducible refine nBlk ?_ | with_reducible refine wp_skip ?_ | with_reducible refine wp_block ?_ | with_reducible refine wp_exit ?_ | with_reducible refine xThen ?_ | with_reducible refine xHere ?_ | with_reducible refine xFar (by decide) ?_ | with_reducible refine wp_ret ?_ | with_reducible refine rThen ?_ | with_reducible refine rBlk ?_)
    refine ret1 hF rfl rfl fun z hz => ?_
    have hz : z = .slice none 0 0 := hz
    subst hz
    exact ⟨_, rfl, ⟨[], Seg.nil _ _ _, by simp⟩, hB⟩
  · repeat (first | with_reducible refine wp_seq ?_ | with_reducible refine nThen ?_ | with_reducible refine nBlk ?_ | with_reducible refine wp_skip ?_ | with_reducible refine wp_block ?_ | with_reducible refine wp_exit ?_ | with_reducible refine xThen ?_ | with_reducible refine xHere ?_ | with_reducible refine xFar (by decide) ?_ | with_reducible refine wp_ret ?_ | with_reducible refine rThen ?_ | with_reducible refine rBlk ?_)
    refine' region_ty 2 mixed (by kernel_rfl) hF ?_ ?_
    rotate_left
    · simp only [List.take_succ_cons, List.take_zero]
      repeat (first
          | exact Line.nil
          | (refine' Line.cons rfl (.no rfl rfl rfl rfl rfl rfl) ?_; rotate_left)
          | ((first | refine' Line.cons rfl (.run rfl rfl ?_) ?_ | refine' Line.cons rfl (.yes rfl rfl rfl rfl ?_) ?_)
             any_goals (first | exact cMove rfl rfl | exact cAssign rfl rfl | exact cNot rfl rfl | exact cBuild0 rfl Try.underlying39 infoC34 | exact cPickT rfl rfl rfl | exact cPickF rfl rfl rfl | exact cLss rfl rfl rfl | exact cLeq rfl rfl rfl | exact cGtr rfl rfl rfl | exact cGeq rfl rfl rfl | exact cEql rfl rfl rfl | exact cNeq rfl rfl rfl | exact cExtract rfl rfl rfl)
             rotate_left))
    intro a w3 hF hb hN
    have hBs := hB.size
    replace hB := hB.trans (hb.mono hB.size)
    simp only [List.take_succ_cons, List.take_zero, List.drop_succ_cons, List.drop_zero] at hF hN ⊢
    dsimp only [ext, Option.getD] at hF
    obtain ⟨u, ⟨S, hseg, hS⟩, hF⟩ := hF.open (s := 5) rfl
    refine tlAppend (Δ := []) hF rfl rfl rfl rfl Try.underlying39 infoC34 zero65_cells rfl hseg (.l (v := .slice A L.length c) rfl ((Ty.cls 87 L).below hv hB)) sl_news (flatC_len _) flatC_one' (by simp [maxLen]; omega) (by omega) hF.nil rfl ?_
    intro a w4 u' S' hF hseg' hk2 hS'
    have hbS : ∀ y ∈ S', w.heap.size ≤ y := own_next hB (fun y hy => Nat.le_trans hBs (hS y hy)) hS'
    replace hB := below_own hB hk2 (fun y hy => Nat.le_trans hBs (hS y hy))
    refine' tlOp hF rfl rfl rfl ?_ ?_
    rotate_left
    · first | exact cMove rfl rfl | exact cAssign rfl rfl | exact cPickT rfl rfl rfl | exact cPickF rfl rfl rfl | exact cNot rfl rfl | exact cLss rfl rfl rfl | exact cLeq rfl rfl rfl | exact cGtr rfl rfl rfl | exact cGeq rfl rfl rfl | exact cEql rfl rfl rfl | exact cNeq rfl rfl rfl | exact cExtract rfl rfl rfl
    intro a w5 hF hb
    have hBs := hB.size
    replace hB := hB.trans (hb.mono hB.size)
    try (refine wpList_nil ?_)
    repeat (first | with_reducible refine wp_seq ?_ | with_reducible refine nThen ?_ | with_reducible refine nBlk ?_ | with_reducible refine wp_skip ?_ | with_reducible refine wp_block ?_ | with_reducible refine wp_exit ?_ | with_reducible refine xThen ?_ | with_reducible refine xHere ?_ | with_reducible refine xFar (by decide) ?_ | with_reducible refine wp_ret ?_ | with_reducible refine rThen ?_ | with_reducible refine rBlk ?_)
    refine ret1 hF rfl rfl fun z hz => ?_
    have hz : z = u' := hz
    subst hz
    rw [Nat.zero_add, List.nil_append] at hseg'
    exact ⟨_, rfl, ⟨S', hseg'.below hb, hbS⟩, hB⟩
set_option maxRecDepth 100000 in
theorem tgood_ty (seed : Nat) (L : List Cl) : Fn1 Try.prog 33 (Ty.tab 87 seed L) (Ty.ex (.bool (goodN (L.length : Int)))) := by
  refine ⟨fun args w => by kernel_rfl, fun w v ⟨s, hv, hs⟩ => ?_⟩
  subst hv
  have hG := good14_ty (L.length : Int)
  refine enter_ty 7 [Ty.ex (.agg #[.int .u64 (seed : Int), s])] Try.func33 rfl (by kernel_rfl) ⟨rfl, trivial⟩ fun a hF => ?_
  have hB := Below.refl w.heap.size w
  repeat (first | with_reducible refine wp_seq ?_ | with_reducible refine nThen ?_ | with_reducible refine nBlk ?_ | with_reducible refine wp_skip ?_ | with_reducible refine wp_block ?_ | with_reducible refine wp_exit ?_ | with_reducible refine xThen ?_ | with_reducible refine xHere ?_ | with_reducible refine xFar (by decide) ?_ | with_reducible refine wp_ret ?_ | with_reducible refine rThen ?_ | with_reducible refine rBlk ?_)
  refine' reg_all hF ?_ mixed (by kernel_rfl) ?_
  rotate_left
  · repeat (first
        | exact Line.nil
        | (refine' Line.cons rfl (.no rfl rfl rfl rfl rfl rfl) ?_; rotate_left)
        | ((first | refine' Line.cons rfl (.run rfl rfl ?_) ?_ | refine' Line.cons rfl (.yes rfl rfl rfl rfl ?_) ?_)
           any_goals (first | exact cMove rfl rfl | exact cAssign rfl rfl | exact cNot rfl rfl | exact cBoxTab rfl rfl | exact cPickT rfl rfl rfl | exact cPickF rfl rfl rfl | exact cLss rfl rfl rfl | exact cLeq rfl rfl rfl | exact cGtr rfl rfl rfl | exact cGeq rfl rfl rfl | exact cEql rfl rfl rfl | exact cNeq rfl rfl rfl | exact cExtract rfl rfl rfl)
           rotate_left))
  intro a w1 hF hb hN
  have hBs := hB.size
  replace hB := hB.trans (hb.mono hB.size)
  dsimp only [ext, Option.getD] at hF
  repeat (first | with_reducible refine wp_seq ?_ | with_reducible refine nThen ?_ | with_reducible refine nBlk ?_ | with_reducible refine wp_skip ?_ | with_reducible refine wp_block ?_ | with_reducible refine wp_exit ?_ | with_reducible refine xThen ?_ | with_reducible refine xHere ?_ | with_reducible refine xFar (by decide) ?_ | with_reducible refine wp_ret ?_ | with_reducible refine rThen ?_ | with_reducible refine rBlk ?_)
  have hs1 := (Ty.cls 87 L).below hs hB
  refine' reg_all hF ?_ mixed (by kernel_rfl) ?_
  rotate_left
  · repeat (first
        | exact Line.nil
        | (refine' Line.cons rfl (.no rfl rfl rfl rfl rfl rfl) ?_; rotate_left)
        | ((first | refine' Line.cons rfl (.run rfl rfl ?_) ?_ | refine' Line.cons rfl (.yes rfl rfl rfl rfl ?_) ?_)
           any_goals (first | exact cMove rfl rfl | exact cAssign rfl rfl | exact cNot rfl rfl | exact cFldL46 rfl (.t rfl) | exact cRowOf46 rfl (.t rfl) | exact cLenH rfl (.l rfl hs1) (Ty.sl_isSl _ _ _) Try.underlying39 | exact cCall1 rfl rfl hG | exact cPickT rfl rfl rfl | exact cPickF rfl rfl rfl | exact cLss rfl rfl rfl | exact cLeq rfl rfl rfl | exact cGtr rfl rfl rfl | exact cGeq rfl rfl rfl | exact cEql rfl rfl rfl | exact cNeq rfl rfl rfl | exact cExtract rfl rfl rfl)
           rotate_left))
  intro a w2 hF hb hN
  have hBs := hB.size
  replace hB := hB.trans (hb.mono hB.size)
  dsimp only [ext, Option.getD] at hF
  repeat (first | with_reducible refine wp_seq ?_ | with_reducible refine nThen ?_ | with_reducible refine nBlk ?_ | with_reducible refine wp_skip ?_ | with_reducible refine wp_block ?_ | with_reducible refine wp_exit ?_ | with_reducible refine xThen ?_ | with_reducible refine xHere ?_ | with_reducible refine xFar (by decide) ?_ | with_reducible refine wp_ret ?_ | with_reducible refine rThen ?_ | with_reducible refine rBlk ?_)
  refine ret1 hF rfl rfl fun z hz => ?_
  exact ⟨z, rfl, hz, hB⟩
/-- New cells, or none. -/
def newL (n : Int) : List Cl := if goodN n then tzero n.toNat else []
def newS (seed : Nat) (n : Int) : Nat := if goodN n then seed else 0
def newE (n : Int) : Value := .int .i64 (if goodN n then 0 else 1)
/-- A table with an error's number. -/
def Ty.tabE (w0 : World) (e : TypeId) (seed : Nat) (L : List Cl) (err : Value) : Ty := ⟨fun w v => ∃ u, v = .tuple #[u, err] ∧ (Ty.tabO w0 e seed L).p w u, fun t => t == e, fun ⟨u, h1, h2⟩ k hA => ⟨u, h1, (Ty.tabO _ e seed L).st h2 k hA⟩⟩
theorem tabE_old {w1 w2 : World} (hs : w1.heap.size ≤ w2.heap.size) {e : TypeId} {seed : Nat} {L : List Cl} {err : Value} : ∀ w v, (Ty.tabE w2 e seed L err).p w v → (Ty.tabE w1 e seed L err).p w v := fun _ _ ⟨u, h1, h2⟩ => ⟨u, h1, tabO_old hs _ _ h2⟩
theorem tabE_olds (e : TypeId) (seed : Nat) (L : List Cl) (err : Value) : Olds fun w => Ty.tabE w e seed L err := fun hs _ _ h => tabE_old hs _ _ h
end Go.Proofs.Ytmlbkcpmgcjblaa

/- Layer 15 by types: New, Zero. -/
namespace Go.Proofs.Ytmlbkcpmgcjblaa
open Go.RowKit

theorem tabCells (seed : Nat) (A : Option Addr) (l c : Nat) : (Value.agg #[.int .u64 (seed : Int), .slice A l c]).cells.all (·.oneCell') = true := by simp [Value.cells, Value.oneCell']
theorem sl_one {w : World} {e : TypeId} {v : Value} {n : Nat} {xs : List Value} (h : SlP w e v n xs) (seed : Nat) : (Value.agg #[.int .u64 (seed : Int), v]).cells.all (·.oneCell') = true := by
  obtain ⟨A, c, rfl, _⟩ := h
  exact tabCells seed A n c
/-- A row's blocks are other ones than a variable of another type. -/
theorem seg_far {w : World} {e t : TypeId} {sz n g : Nat} {v : Value} {xs : List Value} {S : List Nat} {cs : Array Value} (h : Seg w e sz v n xs S) (hb : Blk w g t cs) (hne : (t == e) = false) : ∀ y ∈ S, y ∉ [g] := fun y hy hm => by
  simp only [List.mem_singleton] at hm
  subst hm
  obtain ⟨cs', fr, h1⟩ := h.blocks y hy hb.lt
  unfold Blk at hb
  rw [hb] at h1
  simp only [Option.some.injEq, Obj.cells.injEq] at h1
  rw [h1.2.1] at hne
  simp at hne
abbrev zeroT : Array Value := #[.int .u64 0, .slice none 0 0]
set_option maxRecDepth 100000 in
theorem tnew_ty (seed : Nat) (n : Int) : FnR2 Try.prog 30 (Ty.ex (.int .u64 (seed : Int))) (Ty.ex (.int .i64 n)) (fun w => Ty.tabE w 87 (newS seed n) (newL n) (newE n)) := by
  refine ⟨fun args w => by kernel_rfl, fun w v u hv hu => ?_⟩
  have hg := good14_ty n
  by_cases hgn : goodN n = true
  rotate_left
  · have hgn : goodN n = false := by simpa using hgn
    rw [hgn] at hg
    have e1 : newS seed n = 0 := by unfold newS; rw [hgn]; rfl
    have e2 : newL n = [] := by unfold newL; rw [hgn]; rfl
    have e3 : newE n = .int .i64 1 := by unfold newE; rw [hgn]; rfl
    rw [e1, e2, e3]
    refine enter_ty 14 [Ty.ex (.int .u64 (seed : Int)), Ty.ex (.int .i64 n)] Try.func30 rfl (by kernel_rfl) ⟨hv, hu, trivial⟩ fun a hF => ?_
    have hB := Below.refl w.heap.size w
    repeat (first | with_reducible refine wp_seq ?_ | with_reducible refine nThen ?_ | with_reducible refine nBlk ?_ | with_reducible refine wp_skip ?_ | with_reducible refine wp_block ?_ | with_reducible refine wp_exit ?_ | with_reducible refine xThen ?_ | with_reducible refine xHere ?_ | with_reducible refine xFar (by decide) ?_ | with_reducible refine wp_ret ?_ | with_reducible refine rThen ?_ | with_reducible refine rBlk ?_)
    refine' reg_all hF ?_ mixed (by kernel_rfl) ?_
    rotate_left
    · repeat (first
          | exact Line.nil
          | (refine' Line.cons rfl (.no rfl rfl rfl rfl rfl rfl) ?_; rotate_left)
          | (refine' Line.cons rfl (.new rfl rfl (run_alloc_i infoT46) rfl) ?_; rotate_left)
          | ((first | refine' Line.cons rfl (.run rfl rfl ?_) ?_ | refine' Line.cons rfl (.yes rfl rfl rfl rfl ?_) ?_)
             any_goals (first | exact cMove rfl rfl | exact cAssign rfl rfl | exact cNot rfl rfl | exact cPickT rfl rfl rfl | exact cPickF rfl rfl rfl | exact cLss rfl rfl rfl | exact cLeq rfl rfl rfl | exact cGtr rfl rfl rfl | exact cGeq rfl rfl rfl | exact cEql rfl rfl rfl | exact cNeq rfl rfl rfl | exact cExtract rfl rfl rfl)
             rotate_left))
    intro a w1 hF hb hN
    have hBs := hB.size
    replace hB := hB.trans (hb.mono hB.size)
    dsimp only [ext, Option.getD] at hF
    repeat (first | with_reducible refine wp_seq ?_ | with_reducible refine nThen ?_ | with_reducible refine nBlk ?_ | with_reducible refine wp_skip ?_ | with_reducible refine wp_block ?_ | with_reducible refine wp_exit ?_ | with_reducible refine xThen ?_ | with_reducible refine xHere ?_ | with_reducible refine xFar (by decide) ?_ | with_reducible refine wp_ret ?_ | with_reducible refine rThen ?_ | with_reducible refine rBlk ?_)
    obtain ⟨z, ⟨gx, rfl, hgx, hbx⟩, hF⟩ := hF.open (s := 4) rfl
    repeat (first | with_reducible refine wp_seq ?_ | with_reducible refine nThen ?_ | with_reducible refine nBlk ?_ | with_reducible refine wp_skip ?_ | with_reducible refine wp_block ?_ | with_reducible refine wp_exit ?_ | with_reducible refine xThen ?_ | with_reducible refine xHere ?_ | with_reducible refine xFar (by decide) ?_ | with_reducible refine wp_ret ?_ | with_reducible refine rThen ?_ | with_reducible refine rBlk ?_)
    refine' reg_all hF ?_ mixed (by kernel_rfl) ?_
    rotate_left
    · repeat (first
          | exact Line.nil
          | (refine' Line.cons rfl (.no rfl rfl rfl rfl rfl rfl) ?_; rotate_left)
          | ((first | refine' Line.cons rfl (.run rfl rfl ?_) ?_ | refine' Line.cons rfl (.yes rfl rfl rfl rfl ?_) ?_)
             any_goals (first | exact cMove rfl rfl | exact cAssign rfl rfl | exact cNot rfl rfl | exact cCall1 rfl rfl hg | exact cPickT rfl rfl rfl | exact cPickF rfl rfl rfl | exact cLss rfl rfl rfl | exact cLeq rfl rfl rfl | exact cGtr rfl rfl rfl | exact cGeq rfl rfl rfl | exact cEql rfl rfl rfl | exact cNeq rfl rfl rfl | exact cExtract rfl rfl rfl)
             rotate_left))
    intro a w2 hF hb hN
    have hBs := hB.size
    replace hB := hB.trans (hb.mono hB.size)
    dsimp only [ext, Option.getD] at hF
    repeat (first | with_reducible refine wp_seq ?_ | with_reducible refine nThen ?_ | with_reducible refine nBlk ?_ | with_reducible refine wp_skip ?_ | with_reducible refine wp_block ?_ | with_reducible refine wp_exit ?_ | with_reducible refine xThen ?_ | with_reducible refine xHere ?_ | with_reducible refine xFar (by decide) ?_ | with_reducible refine wp_ret ?_ | with_reducible refine rThen ?_ | with_reducible refine rBlk ?_)
    replace hbx := hbx.below hb
    refine cond_t hF rfl ?_
    repeat (first | with_reducible refine wp_seq ?_ | with_reducible refine nThen ?_ | with_reducible refine nBlk ?_ | with_reducible refine wp_skip ?_ | with_reducible refine wp_block ?_ | with_reducible refine wp_exit ?_ | with_reducible refine xThen ?_ | with_reducible refine xHere ?_ | with_reducible refine xFar (by decide) ?_ | with_reducible refine wp_ret ?_ | with_reducible refine rThen ?_ | with_reducible refine rBlk ?_)
    refine' region_ty 1 mixed (by kernel_rfl) hF ?_ ?_
    rotate_left
    · simp only [List.take_succ_cons, List.take_zero]
      repeat (first
          | exact Line.nil
          | (refine' Line.cons rfl (.no rfl rfl rfl rfl rfl rfl) ?_; rotate_left)
          | ((first | refine' Line.cons rfl (.run rfl rfl ?_) ?_ | refine' Line.cons rfl (.yes rfl rfl rfl rfl ?_) ?_)
             any_goals (first | exact cMove rfl rfl | exact cAssign rfl rfl | exact cNot rfl rfl | exact cBuildE rfl (fun w => buildT046 w) | exact cPickT rfl rfl rfl | exact cPickF rfl rfl rfl | exact cLss rfl rfl rfl | exact cLeq rfl rfl rfl | exact cGtr rfl rfl rfl | exact cGeq rfl rfl rfl | exact cEql rfl rfl rfl | exact cNeq rfl rfl rfl | exact cExtract rfl rfl rfl)
             rotate_left))
    intro a w3 hF hb hN
    have hBs := hB.size
    replace hB := hB.trans (hb.mono hB.size)
    simp only [List.take_succ_cons, List.take_zero, List.drop_succ_cons, List.drop_zero] at hF hN ⊢
    dsimp only [ext, Option.getD] at hF
    replace hbx := hbx.below hb
    refine tlStoreV (Δ := [(4, Ty.ex (.pointer (some ⟨gx, 0, none⟩)))]) hF rfl rfl rfl rfl (hF.getEx (s := 9) rfl) hbx rfl sizeT46 (tabCells 0 _ _ _) (hF.keep [4]) rfl ?_
    intro w4 hF hbx hkx
    replace hB := below_own hB hkx (by intro y hy; simp only [List.mem_singleton] at hy; omega)
    refine' tlOp hF rfl rfl rfl ?_ ?_
    rotate_left
    · first | exact cMove rfl rfl | exact cAssign rfl rfl | exact cPickT rfl rfl rfl | exact cPickF rfl rfl rfl | exact cNot rfl rfl | exact cLss rfl rfl rfl | exact cLeq rfl rfl rfl | exact cGtr rfl rfl rfl | exact cGeq rfl rfl rfl | exact cEql rfl rfl rfl | exact cNeq rfl rfl rfl | exact cExtract rfl rfl rfl
    intro a w5 hF hb
    have hBs := hB.size
    replace hB := hB.trans (hb.mono hB.size)
    try (refine wpList_nil ?_)
    repeat (first | with_reducible refine wp_seq ?_ | with_reducible refine nThen ?_ | with_reducible refine nBlk ?_ | with_reducible refine wp_skip ?_ | with_reducible refine wp_block ?_ | with_reducible refine wp_exit ?_ | with_reducible refine xThen ?_ | with_reducible refine xHere ?_ | with_reducible refine xFar (by decide) ?_ | with_reducible refine wp_ret ?_ | with_reducible refine rThen ?_ | with_reducible refine rBlk ?_)
    replace hbx := hbx.below hb
    refine retCell2 hF rfl rfl rfl hbx Try.underlying41 rfl sizeT46 ?_
    exact ⟨_, rfl, ⟨_, rfl, _, rfl, [], Seg.nil _ _ _, by simp⟩, hB⟩
  obtain ⟨N, rfl, hN1, hN2⟩ := goodN_rng hgn
  rw [hgn] at hg
  have e1 : newS seed (N : Int) = seed := by unfold newS; rw [hgn]; rfl
  have e2 : newL (N : Int) = tzero N := by unfold newL; rw [hgn, Int.toNat_natCast]; rfl
  have e3 : newE (N : Int) = .int .i64 0 := by unfold newE; rw [hgn]; rfl
  rw [e1, e2, e3]
  refine enter_ty 14 [Ty.ex (.int .u64 (seed : Int)), Ty.ex (.int .i64 (N : Int))] Try.func30 rfl (by kernel_rfl) ⟨hv, hu, trivial⟩ fun a hF => ?_
  have hB := Below.refl w.heap.size w
  repeat (first | with_reducible refine wp_seq ?_ | with_reducible refine nThen ?_ | with_reducible refine nBlk ?_ | with_reducible refine wp_skip ?_ | with_reducible refine wp_block ?_ | with_reducible refine wp_exit ?_ | with_reducible refine xThen ?_ | with_reducible refine xHere ?_ | with_reducible refine xFar (by decide) ?_ | with_reducible refine wp_ret ?_ | with_reducible refine rThen ?_ | with_reducible refine rBlk ?_)
  refine' reg_all hF ?_ mixed (by kernel_rfl) ?_
  rotate_left
  · repeat (first
        | exact Line.nil
        | (refine' Line.cons rfl (.no rfl rfl rfl rfl rfl rfl) ?_; rotate_left)
        | (refine' Line.cons rfl (.new rfl rfl (run_alloc_i infoT46) rfl) ?_; rotate_left)
        | ((first | refine' Line.cons rfl (.run rfl rfl ?_) ?_ | refine' Line.cons rfl (.yes rfl rfl rfl rfl ?_) ?_)
           any_goals (first | exact cMove rfl rfl | exact cAssign rfl rfl | exact cNot rfl rfl | exact cPickT rfl rfl rfl | exact cPickF rfl rfl rfl | exact cLss rfl rfl rfl | exact cLeq rfl rfl rfl | exact cGtr rfl rfl rfl | exact cGeq rfl rfl rfl | exact cEql rfl rfl rfl | exact cNeq rfl rfl rfl | exact cExtract rfl rfl rfl)
           rotate_left))
  intro a w1 hF hb hN
  have hBs := hB.size
  replace hB := hB.trans (hb.mono hB.size)
  dsimp only [ext, Option.getD] at hF
  repeat (first | with_reducible refine wp_seq ?_ | with_reducible refine nThen ?_ | with_reducible refine nBlk ?_ | with_reducible refine wp_skip ?_ | with_reducible refine wp_block ?_ | with_reducible refine wp_exit ?_ | with_reducible refine xThen ?_ | with_reducible refine xHere ?_ | with_reducible refine xFar (by decide) ?_ | with_reducible refine wp_ret ?_ | with_reducible refine rThen ?_ | with_reducible refine rBlk ?_)
  obtain ⟨z, ⟨gx, rfl, hgx, hbx⟩, hF⟩ := hF.open (s := 4) rfl
  repeat (first | with_reducible refine wp_seq ?_ | with_reducible refine nThen ?_ | with_reducible refine nBlk ?_ | with_reducible refine wp_skip ?_ | with_reducible refine wp_block ?_ | with_reducible refine wp_exit ?_ | with_reducible refine xThen ?_ | with_reducible refine xHere ?_ | with_reducible refine xFar (by decide) ?_ | with_reducible refine wp_ret ?_ | with_reducible refine rThen ?_ | with_reducible refine rBlk ?_)
  refine' reg_all hF ?_ mixed (by kernel_rfl) ?_
  rotate_left
  · repeat (first
        | exact Line.nil
        | (refine' Line.cons rfl (.no rfl rfl rfl rfl rfl rfl) ?_; rotate_left)
        | ((first | refine' Line.cons rfl (.run rfl rfl ?_) ?_ | refine' Line.cons rfl (.yes rfl rfl rfl rfl ?_) ?_)
           any_goals (first | exact cMove rfl rfl | exact cAssign rfl rfl | exact cNot rfl rfl | exact cCall1 rfl rfl hg | exact cPickT rfl rfl rfl | exact cPickF rfl rfl rfl | exact cLss rfl rfl rfl | exact cLeq rfl rfl rfl | exact cGtr rfl rfl rfl | exact cGeq rfl rfl rfl | exact cEql rfl rfl rfl | exact cNeq rfl rfl rfl | exact cExtract rfl rfl rfl)
           rotate_left))
  intro a w2 hF hb hN
  have hBs := hB.size
  replace hB := hB.trans (hb.mono hB.size)
  dsimp only [ext, Option.getD] at hF
  repeat (first | with_reducible refine wp_seq ?_ | with_reducible refine nThen ?_ | with_reducible refine nBlk ?_ | with_reducible refine wp_skip ?_ | with_reducible refine wp_block ?_ | with_reducible refine wp_exit ?_ | with_reducible refine xThen ?_ | with_reducible refine xHere ?_ | with_reducible refine xFar (by decide) ?_ | with_reducible refine wp_ret ?_ | with_reducible refine rThen ?_ | with_reducible refine rBlk ?_)
  replace hbx := hbx.below hb
  refine cond_f hF rfl ?_
  repeat (first | with_reducible refine wp_seq ?_ | with_reducible refine nThen ?_ | with_reducible refine nBlk ?_ | with_reducible refine wp_skip ?_ | with_reducible refine wp_block ?_ | with_reducible refine wp_exit ?_ | with_reducible refine xThen ?_ | with_reducible refine xHere ?_ | with_reducible refine xFar (by decide) ?_ | with_reducible refine wp_ret ?_ | with_reducible refine rThen ?_ | with_reducible refine rBlk ?_)
  have hw2 := hB.size
  refine' region_ty 4 mixed (by kernel_rfl) hF ?_ ?_
  rotate_left
  · simp only [List.take_succ_cons, List.take_zero]
    repeat (first
        | exact Line.nil
        | (refine' Line.cons rfl (.no rfl rfl rfl rfl rfl rfl) ?_; rotate_left)
        | ((first | refine' Line.cons rfl (.run rfl rfl ?_) ?_ | refine' Line.cons rfl (.yes rfl rfl rfl rfl ?_) ?_)
           any_goals (first | exact cMove rfl rfl | exact cAssign rfl rfl | exact cNot rfl rfl | exact cMakeCells (n := N) rfl rfl rfl Try.underlying39 infoC34 (by omega) | exact cBuildTabO (L := tzero N) rfl rfl rfl (fun s hs w => buildT46 _ hs w) | exact cPickT rfl rfl rfl | exact cPickF rfl rfl rfl | exact cLss rfl rfl rfl | exact cLeq rfl rfl rfl | exact cGtr rfl rfl rfl | exact cGeq rfl rfl rfl | exact cEql rfl rfl rfl | exact cNeq rfl rfl rfl | exact cExtract rfl rfl rfl)
           rotate_left))
  intro a w3 hF hb hN
  have hBs := hB.size
  replace hB := hB.trans (hb.mono hB.size)
  simp only [List.take_succ_cons, List.take_zero, List.drop_succ_cons, List.drop_zero] at hF hN ⊢
  dsimp only [ext, Option.getD] at hF
  replace hbx := hbx.below hb
  have hgx2 := hbx.lt
  obtain ⟨z, ⟨s, rfl, S, hs, hS⟩, hF⟩ := hF.open (s := 13) rfl
  refine tlStoreV (Δ := [(4, Ty.ex (.pointer (some ⟨gx, 0, none⟩)))]) hF rfl rfl rfl rfl (hF.getEx (s := 13) rfl) hbx rfl sizeT46 (sl_one hs.sl _) (hF.keep [4]) rfl ?_
  intro w4 hF hbx' hkx
  replace hB := below_own hB hkx (by intro y hy; simp only [List.mem_singleton] at hy; omega)
  replace hs := hs.keeps hkx (seg_far hs hbx (by decide))
  refine' tlOp hF rfl rfl rfl ?_ ?_
  rotate_left
  · first | exact cMove rfl rfl | exact cAssign rfl rfl | exact cPickT rfl rfl rfl | exact cPickF rfl rfl rfl | exact cNot rfl rfl | exact cLss rfl rfl rfl | exact cLeq rfl rfl rfl | exact cGtr rfl rfl rfl | exact cGeq rfl rfl rfl | exact cEql rfl rfl rfl | exact cNeq rfl rfl rfl | exact cExtract rfl rfl rfl
  intro a w5 hF hb
  have hBs := hB.size
  replace hB := hB.trans (hb.mono hB.size)
  try (refine wpList_nil ?_)
  repeat (first | with_reducible refine wp_seq ?_ | with_reducible refine nThen ?_ | with_reducible refine nBlk ?_ | with_reducible refine wp_skip ?_ | with_reducible refine wp_block ?_ | with_reducible refine wp_exit ?_ | with_reducible refine xThen ?_ | with_reducible refine xHere ?_ | with_reducible refine xFar (by decide) ?_ | with_reducible refine wp_ret ?_ | with_reducible refine rThen ?_ | with_reducible refine rBlk ?_)
  refine retCell2 hF rfl rfl rfl (hbx'.below hb) Try.underlying41 rfl sizeT46 ?_
  exact ⟨_, rfl, ⟨_, rfl, s, rfl, S, hs.below hb, fun y hy => Nat.le_trans hw2 (hS y hy)⟩, hB⟩
set_option maxRecDepth 100000 in
theorem rnew_ty (seed : Nat) (n : Int) : FnR2 Try.prog 86 (Ty.ex (.int .u64 (seed : Int))) (Ty.ex (.int .i64 n)) (fun w => Ty.tabE w 105 (newS seed n) (newL n) (newE n)) := by
  refine ⟨fun args w => by kernel_rfl, fun w v u hv hu => ?_⟩
  have hg := goodCells_ty n
  by_cases hgn : goodN n = true
  rotate_left
  · have hgn : goodN n = false := by simpa using hgn
    rw [hgn] at hg
    have e1 : newS seed n = 0 := by unfold newS; rw [hgn]; rfl
    have e2 : newL n = [] := by unfold newL; rw [hgn]; rfl
    have e3 : newE n = .int .i64 1 := by unfold newE; rw [hgn]; rfl
    rw [e1, e2, e3]
    refine enter_ty 14 [Ty.ex (.int .u64 (seed : Int)), Ty.ex (.int .i64 n)] Try.func86 rfl (by kernel_rfl) ⟨hv, hu, trivial⟩ fun a hF => ?_
    have hB := Below.refl w.heap.size w
    repeat (first | with_reducible refine wp_seq ?_ | with_reducible refine nThen ?_ | with_reducible refine nBlk ?_ | with_reducible refine wp_skip ?_ | with_reducible refine wp_block ?_ | with_reducible refine wp_exit ?_ | with_reducible refine xThen ?_ | with_reducible refine xHere ?_ | with_reducible refine xFar (by decide) ?_ | with_reducible refine wp_ret ?_ | with_reducible refine rThen ?_ | with_reducible refine rBlk ?_)
    refine' reg_all hF ?_ mixed (by kernel_rfl) ?_
    rotate_left
    · repeat (first
          | exact Line.nil
          | (refine' Line.cons rfl (.no rfl rfl rfl rfl rfl rfl) ?_; rotate_left)
          | (refine' Line.cons rfl (.new rfl rfl (run_alloc_i infoT83) rfl) ?_; rotate_left)
          | ((first | refine' Line.cons rfl (.run rfl rfl ?_) ?_ | refine' Line.cons rfl (.yes rfl rfl rfl rfl ?_) ?_)
             any_goals (first | exact cMove rfl rfl | exact cAssign rfl rfl | exact cNot rfl rfl | exact cPickT rfl rfl rfl | exact cPickF rfl rfl rfl | exact cLss rfl rfl rfl | exact cLeq rfl rfl rfl | exact cGtr rfl rfl rfl | exact cGeq rfl rfl rfl | exact cEql rfl rfl rfl | exact cNeq rfl rfl rfl | exact cExtract rfl rfl rfl)
             rotate_left))
    intro a w1 hF hb hN
    have hBs := hB.size
    replace hB := hB.trans (hb.mono hB.size)
    dsimp only [ext, Option.getD] at hF
    repeat (first | with_reducible refine wp_seq ?_ | with_reducible refine nThen ?_ | with_reducible refine nBlk ?_ | with_reducible refine wp_skip ?_ | with_reducible refine wp_block ?_ | with_reducible refine wp_exit ?_ | with_reducible refine xThen ?_ | with_reducible refine xHere ?_ | with_reducible refine xFar (by decide) ?_ | with_reducible refine wp_ret ?_ | with_reducible refine rThen ?_ | with_reducible refine rBlk ?_)
    obtain ⟨z, ⟨gx, rfl, hgx, hbx⟩, hF⟩ := hF.open (s := 4) rfl
    repeat (first | with_reducible refine wp_seq ?_ | with_reducible refine nThen ?_ | with_reducible refine nBlk ?_ | with_reducible refine wp_skip ?_ | with_reducible refine wp_block ?_ | with_reducible refine wp_exit ?_ | with_reducible refine xThen ?_ | with_reducible refine xHere ?_ | with_reducible refine xFar (by decide) ?_ | with_reducible refine wp_ret ?_ | with_reducible refine rThen ?_ | with_reducible refine rBlk ?_)
    refine' reg_all hF ?_ mixed (by kernel_rfl) ?_
    rotate_left
    · repeat (first
          | exact Line.nil
          | (refine' Line.cons rfl (.no rfl rfl rfl rfl rfl rfl) ?_; rotate_left)
          | ((first | refine' Line.cons rfl (.run rfl rfl ?_) ?_ | refine' Line.cons rfl (.yes rfl rfl rfl rfl ?_) ?_)
             any_goals (first | exact cMove rfl rfl | exact cAssign rfl rfl | exact cNot rfl rfl | exact cCall1 rfl rfl hg | exact cPickT rfl rfl rfl | exact cPickF rfl rfl rfl | exact cLss rfl rfl rfl | exact cLeq rfl rfl rfl | exact cGtr rfl rfl rfl | exact cGeq rfl rfl rfl | exact cEql rfl rfl rfl | exact cNeq rfl rfl rfl | exact cExtract rfl rfl rfl)
             rotate_left))
    intro a w2 hF hb hN
    have hBs := hB.size
    replace hB := hB.trans (hb.mono hB.size)
    dsimp only [ext, Option.getD] at hF
    repeat (first | with_reducible refine wp_seq ?_ | with_reducible refine nThen ?_ | with_reducible refine nBlk ?_ | with_reducible refine wp_skip ?_ | with_reducible refine wp_block ?_ | with_reducible refine wp_exit ?_ | with_reducible refine xThen ?_ | with_reducible refine xHere ?_ | with_reducible refine xFar (by decide) ?_ | with_reducible refine wp_ret ?_ | with_reducible refine rThen ?_ | with_reducible refine rBlk ?_)
    replace hbx := hbx.below hb
    refine cond_t hF rfl ?_
    repeat (first | with_reducible refine wp_seq ?_ | with_reducible refine nThen ?_ | with_reducible refine nBlk ?_ | with_reducible refine wp_skip ?_ | with_reducible refine wp_block ?_ | with_reducible refine wp_exit ?_ | with_reducible refine xThen ?_ | with_reducible refine xHere ?_ | with_reducible refine xFar (by decide) ?_ | with_reducible refine wp_ret ?_ | with_reducible refine rThen ?_ | with_reducible refine rBlk ?_)
    refine' region_ty 1 mixed (by kernel_rfl) hF ?_ ?_
    rotate_left
    · simp only [List.take_succ_cons, List.take_zero]
      repeat (first
          | exact Line.nil
          | (refine' Line.cons rfl (.no rfl rfl rfl rfl rfl rfl) ?_; rotate_left)
          | ((first | refine' Line.cons rfl (.run rfl rfl ?_) ?_ | refine' Line.cons rfl (.yes rfl rfl rfl rfl ?_) ?_)
             any_goals (first | exact cMove rfl rfl | exact cAssign rfl rfl | exact cNot rfl rfl | exact cBuildE rfl (fun w => buildT083 w) | exact cPickT rfl rfl rfl | exact cPickF rfl rfl rfl | exact cLss rfl rfl rfl | exact cLeq rfl rfl rfl | exact cGtr rfl rfl rfl | exact cGeq rfl rfl rfl | exact cEql rfl rfl rfl | exact cNeq rfl rfl rfl | exact cExtract rfl rfl rfl)
             rotate_left))
    intro a w3 hF hb hN
    have hBs := hB.size
    replace hB := hB.trans (hb.mono hB.size)
    simp only [List.take_succ_cons, List.take_zero, List.drop_succ_cons, List.drop_zero] at hF hN ⊢
    dsimp only [ext, Option.getD] at hF
    replace hbx := hbx.below hb
    refine tlStoreV (Δ := [(4, Ty.ex (.pointer (some ⟨gx, 0, none⟩)))]) hF rfl rfl rfl rfl (hF.getEx (s := 9) rfl) hbx rfl sizeT83 (tabCells 0 _ _ _) (hF.keep [4]) rfl ?_
    intro w4 hF hbx hkx
    replace hB := below_own hB hkx (by intro y hy; simp only [List.mem_singleton] at hy; omega)
    refine' tlOp hF rfl rfl rfl ?_ ?_
    rotate_left
    · first | exact cMove rfl rfl | exact cAssign rfl rfl | exact cPickT rfl rfl rfl | exact cPickF rfl rfl rfl | exact cNot rfl rfl | exact cLss rfl rfl rfl | exact cLeq rfl rfl rfl | exact cGtr rfl rfl rfl | exact cGeq rfl rfl rfl | exact cEql rfl rfl rfl | exact cNeq rfl rfl rfl | exact cExtract rfl rfl rfl
    intro a w5 hF hb
    have hBs := hB.size
    replace hB := hB.trans (hb.mono hB.size)
    try (refine wpList_nil ?_)
    repeat (first | with_reducible refine wp_seq ?_ | with_reducible refine nThen ?_ | with_reducible refine nBlk ?_ | with_reducible refine wp_skip ?_ | with_reducible refine wp_block ?_ | with_reducible refine wp_exit ?_ | with_reducible refine xThen ?_ | with_reducible refine xHere ?_ | with_reducible refine xFar (by decide) ?_ | with_reducible refine wp_ret ?_ | with_reducible refine rThen ?_ | with_reducible refine rBlk ?_)
    replace hbx := hbx.below hb
    refine retCell2 hF rfl rfl rfl hbx Try.underlying52 rfl sizeT83 ?_
    exact ⟨_, rfl, ⟨_, rfl, _, rfl, [], Seg.nil _ _ _, by simp⟩, hB⟩
  obtain ⟨N, rfl, hN1, hN2⟩ := goodN_rng hgn
  rw [hgn] at hg
  have e1 : newS seed (N : Int) = seed := by unfold newS; rw [hgn]; rfl
  have e2 : newL (N : Int) = tzero N := by unfold newL; rw [hgn, Int.toNat_natCast]; rfl
  have e3 : newE (N : Int) = .int .i64 0 := by unfold newE; rw [hgn]; rfl
  rw [e1, e2, e3]
  refine enter_ty 14 [Ty.ex (.int .u64 (seed : Int)), Ty.ex (.int .i64 (N : Int))] Try.func86 rfl (by kernel_rfl) ⟨hv, hu, trivial⟩ fun a hF => ?_
  have hB := Below.refl w.heap.size w
  repeat (first | with_reducible refine wp_seq ?_ | with_reducible refine nThen ?_ | with_reducible refine nBlk ?_ | with_reducible refine wp_skip ?_ | with_reducible refine wp_block ?_ | with_reducible refine wp_exit ?_ | with_reducible refine xThen ?_ | with_reducible refine xHere ?_ | with_reducible refine xFar (by decide) ?_ | with_reducible refine wp_ret ?_ | with_reducible refine rThen ?_ | with_reducible refine rBlk ?_)
  refine' reg_all hF ?_ mixed (by kernel_rfl) ?_
  rotate_left
  · repeat (first
        | exact Line.nil
        | (refine' Line.cons rfl (.no rfl rfl rfl rfl rfl rfl) ?_; rotate_left)
        | (refine' Line.cons rfl (.new rfl rfl (run_alloc_i infoT83) rfl) ?_; rotate_left)
        | ((first | refine' Line.cons rfl (.run rfl rfl ?_) ?_ | refine' Line.cons rfl (.yes rfl rfl rfl rfl ?_) ?_)
           any_goals (first | exact cMove rfl rfl | exact cAssign rfl rfl | exact cNot rfl rfl | exact cPickT rfl rfl rfl | exact cPickF rfl rfl rfl | exact cLss rfl rfl rfl | exact cLeq rfl rfl rfl | exact cGtr rfl rfl rfl | exact cGeq rfl rfl rfl | exact cEql rfl rfl rfl | exact cNeq rfl rfl rfl | exact cExtract rfl rfl rfl)
           rotate_left))
  intro a w1 hF hb hN
  have hBs := hB.size
  replace hB := hB.trans (hb.mono hB.size)
  dsimp only [ext, Option.getD] at hF
  repeat (first | with_reducible refine wp_seq ?_ | with_reducible refine nThen ?_ | with_reducible refine nBlk ?_ | with_reducible refine wp_skip ?_ | with_reducible refine wp_block ?_ | with_reducible refine wp_exit ?_ | with_reducible refine xThen ?_ | with_reducible refine xHere ?_ | with_reducible refine xFar (by decide) ?_ | with_reducible refine wp_ret ?_ | with_reducible refine rThen ?_ | with_reducible refine rBlk ?_)
  obtain ⟨z, ⟨gx, rfl, hgx, hbx⟩, hF⟩ := hF.open (s := 4) rfl
  repeat (first | with_reducible refine wp_seq ?_ | with_reducible refine nThen ?_ | with_reducible refine nBlk ?_ | with_reducible refine wp_skip ?_ | with_reducible refine wp_block ?_ | with_reducible refine wp_exit ?_ | with_reducible refine xThen ?_ | with_reducible refine xHere ?_ | with_reducible refine xFar (by decide) ?_ | with_reducible refine wp_ret ?_ | with_reducible refine rThen ?_ | with_reducible refine rBlk ?_)
  refine' reg_all hF ?_ mixed (by kernel_rfl) ?_
  rotate_left
  · repeat (first
        | exact Line.nil
        | (refine' Line.cons rfl (.no rfl rfl rfl rfl rfl rfl) ?_; rotate_left)
        | ((first | refine' Line.cons rfl (.run rfl rfl ?_) ?_ | refine' Line.cons rfl (.yes rfl rfl rfl rfl ?_) ?_)
           any_goals (first | exact cMove rfl rfl | exact cAssign rfl rfl | exact cNot rfl rfl | exact cCall1 rfl rfl hg | exact cPickT rfl rfl rfl | exact cPickF rfl rfl rfl | exact cLss rfl rfl rfl | exact cLeq rfl rfl rfl | exact cGtr rfl rfl rfl | exact cGeq rfl rfl rfl | exact cEql rfl rfl rfl | exact cNeq rfl rfl rfl | exact cExtract rfl rfl rfl)
           rotate_left))
  intro a w2 hF hb hN
  have hBs := hB.size
  replace hB := hB.trans (hb.mono hB.size)
  dsimp only [ext, Option.getD] at hF
  repeat (first | with_reducible refine wp_seq ?_ | with_reducible refine nThen ?_ | with_reducible refine nBlk ?_ | with_reducible refine wp_skip ?_ | with_reducible refine wp_block ?_ | with_reducible refine wp_exit ?_ | with_reducible refine xThen ?_ | with_reducible refine xHere ?_ | with_reducible refine xFar (by decide) ?_ | with_reducible refine wp_ret ?_ | with_reducible refine rThen ?_ | with_reducible refine rBlk ?_)
  replace hbx := hbx.below hb
  refine cond_f hF rfl ?_
  repeat (first | with_reducible refine wp_seq ?_ | with_reducible refine nThen ?_ | with_reducible refine nBlk ?_ | with_reducible refine wp_skip ?_ | with_reducible refine wp_block ?_ | with_reducible refine wp_exit ?_ | with_reducible refine xThen ?_ | with_reducible refine xHere ?_ | with_reducible refine xFar (by decide) ?_ | with_reducible refine wp_ret ?_ | with_reducible refine rThen ?_ | with_reducible refine rBlk ?_)
  have hw2 := hB.size
  refine' region_ty 4 mixed (by kernel_rfl) hF ?_ ?_
  rotate_left
  · simp only [List.take_succ_cons, List.take_zero]
    repeat (first
        | exact Line.nil
        | (refine' Line.cons rfl (.no rfl rfl rfl rfl rfl rfl) ?_; rotate_left)
        | ((first | refine' Line.cons rfl (.run rfl rfl ?_) ?_ | refine' Line.cons rfl (.yes rfl rfl rfl rfl ?_) ?_)
           any_goals (first | exact cMove rfl rfl | exact cAssign rfl rfl | exact cNot rfl rfl | exact cMakeCells (n := N) rfl rfl rfl Try.underlying50 infoC49 (by omega) | exact cBuildTabO (L := tzero N) rfl rfl rfl (fun s hs w => buildT83 _ hs w) | exact cPickT rfl rfl rfl | exact cPickF rfl rfl rfl | exact cLss rfl rfl rfl | exact cLeq rfl rfl rfl | exact cGtr rfl rfl rfl | exact cGeq rfl rfl rfl | exact cEql rfl rfl rfl | exact cNeq rfl rfl rfl | exact cExtract rfl rfl rfl)
           rotate_left))
  intro a w3 hF hb hN
  have hBs := hB.size
  replace hB := hB.trans (hb.mono hB.size)
  simp only [List.take_succ_cons, List.take_zero, List.drop_succ_cons, List.drop_zero] at hF hN ⊢
  dsimp only [ext, Option.getD] at hF
  replace hbx := hbx.below hb
  have hgx2 := hbx.lt
  obtain ⟨z, ⟨s, rfl, S, hs, hS⟩, hF⟩ := hF.open (s := 13) rfl
  refine tlStoreV (Δ := [(4, Ty.ex (.pointer (some ⟨gx, 0, none⟩)))]) hF rfl rfl rfl rfl (hF.getEx (s := 13) rfl) hbx rfl sizeT83 (sl_one hs.sl _) (hF.keep [4]) rfl ?_
  intro w4 hF hbx' hkx
  replace hB := below_own hB hkx (by intro y hy; simp only [List.mem_singleton] at hy; omega)
  replace hs := hs.keeps hkx (seg_far hs hbx (by decide))
  refine' tlOp hF rfl rfl rfl ?_ ?_
  rotate_left
  · first | exact cMove rfl rfl | exact cAssign rfl rfl | exact cPickT rfl rfl rfl | exact cPickF rfl rfl rfl | exact cNot rfl rfl | exact cLss rfl rfl rfl | exact cLeq rfl rfl rfl | exact cGtr rfl rfl rfl | exact cGeq rfl rfl rfl | exact cEql rfl rfl rfl | exact cNeq rfl rfl rfl | exact cExtract rfl rfl rfl
  intro a w5 hF hb
  have hBs := hB.size
  replace hB := hB.trans (hb.mono hB.size)
  try (refine wpList_nil ?_)
  repeat (first | with_reducible refine wp_seq ?_ | with_reducible refine nThen ?_ | with_reducible refine nBlk ?_ | with_reducible refine wp_skip ?_ | with_reducible refine wp_block ?_ | with_reducible refine wp_exit ?_ | with_reducible refine xThen ?_ | with_reducible refine xHere ?_ | with_reducible refine xFar (by decide) ?_ | with_reducible refine wp_ret ?_ | with_reducible refine rThen ?_ | with_reducible refine rBlk ?_)
  refine retCell2 hF rfl rfl rfl (hbx'.below hb) Try.underlying52 rfl sizeT83 ?_
  exact ⟨_, rfl, ⟨_, rfl, s, rfl, S, hs.below hb, fun y hy => Nat.le_trans hw2 (hS y hy)⟩, hB⟩
end Go.Proofs.Ytmlbkcpmgcjblaa

/- Layer 15 by types: Minus. -/
namespace Go.Proofs.Ytmlbkcpmgcjblaa
open Go.RowKit

/-- May one be taken from the other? -/
def minOk (sa sb : Nat) (A B : List Cl) : Bool := goodN (A.length : Int) && (decide (A.length = B.length) && decide (sa = sb))
def minL (sa sb : Nat) (A B : List Cl) : List Cl := if minOk sa sb A B then tminus A B else []
def minS (sa sb : Nat) (A B : List Cl) : Nat := if minOk sa sb A B then sa else 0
def minE (sa sb : Nat) (A B : List Cl) : Value := .int .i64 (if minOk sa sb A B then 0 else 1)
/-- A less B in the first i cells. -/
def mixM (A B : List Cl) (i : Nat) : List Cl := (tminus A B).take i ++ A.drop i
theorem mixM_len {A B : List Cl} (h : A.length = B.length) (i : Nat) : (mixM A B i).length = A.length := by
  unfold mixM
  rw [List.length_append, List.length_take, List.length_drop, tminus_len h]
  omega
theorem mixM_get {A B : List Cl} (h : A.length = B.length) {i : Nat} (hi : i < A.length) : (mixM A B i).getD i default = A.getD i default := by
  unfold mixM
  have hl : ((tminus A B).take i).length = i := by rw [List.length_take, tminus_len h]; omega
  simp only [List.getD]
  rw [List.getElem?_append_right (by omega), hl, Nat.sub_self, List.getElem?_drop]
  rfl
theorem mixM_set {A B : List Cl} (h : A.length = B.length) {i : Nat} (hi : i < A.length) : (mixM A B i).set i ((A.getD i default).minus (B.getD i default)) = mixM A B (i + 1) := by
  apply list_extD
  · rw [List.length_set, mixM_len h, mixM_len h]
  · intro j hj
    rw [List.length_set, mixM_len h] at hj
    have hm : ∀ k, j < k → k ≤ A.length → (mixM A B k).getD j default = (tminus A B).getD j default := fun k hk hkl => by
      unfold mixM
      simp only [List.getD]
      rw [List.getElem?_append_left (by rw [List.length_take, tminus_len h]; omega), List.getElem?_take, if_pos hk]
    have ha : ∀ k, k ≤ j → (mixM A B k).getD j default = A.getD j default := fun k hk => by
      unfold mixM
      have hl : ((tminus A B).take k).length = k := by rw [List.length_take, tminus_len h]; omega
      simp only [List.getD]
      rw [List.getElem?_append_right (by omega), hl, List.getElem?_drop]
      congr 2
      omega
    rw [getD_set_eq _ _ (by rw [mixM_len h]; exact hj)]
    by_cases hij : i = j
    · subst hij
      rw [if_pos rfl, hm (i + 1) (by omega) (by omega), tminus_get h hj]
    · rw [if_neg hij]
      by_cases hji : j < i
      · rw [hm i hji (by omega), hm (i + 1) (by omega) (by omega)]
      · rw [ha i (by omega), ha (i + 1) (by omega)]
theorem mixM_zero (A B : List Cl) : mixM A B 0 = A := by simp [mixM]
theorem mixM_all {A B : List Cl} (h : A.length = B.length) : mixM A B A.length = tminus A B := by
  unfold mixM
  rw [List.take_of_length_le (by rw [tminus_len h]; exact Nat.le_refl _), List.drop_of_length_le (Nat.le_refl _), List.append_nil]
set_option maxRecDepth 100000 in
set_option maxHeartbeats 2000000 in
theorem tminus_ty (sa sb : Nat) (A B : List Cl) : FnR2 Try.prog 32 (Ty.tab 87 sa A) (Ty.tab 87 sb B) (fun w => Ty.tabE w 87 (minS sa sb A B) (minL sa sb A B) (minE sa sb A B)) := by
  refine ⟨fun args w => by kernel_rfl, fun w v u ⟨s, hv, hs⟩ ⟨s2, hu, hs2⟩ => ?_⟩
  subst hv hu
  have hG := tgood_ty sa A
  refine enter_ty 56 [Ty.ex (.agg #[.int .u64 (sa : Int), s]), Ty.ex (.agg #[.int .u64 (sb : Int), s2])] Try.func32 rfl (by kernel_rfl) ⟨rfl, rfl, trivial⟩ fun a hF => ?_
  have hB := Below.refl w.heap.size w
  let TA := Ty.cls 87 A
  let TB := Ty.cls 87 B
  repeat (first | with_reducible refine wp_seq ?_ | with_reducible refine nThen ?_ | with_reducible refine nBlk ?_ | with_reducible refine wp_skip ?_ | with_reducible refine wp_block ?_ | with_reducible refine wp_exit ?_ | with_reducible refine xThen ?_ | with_reducible refine xHere ?_ | with_reducible refine xFar (by decide) ?_ | with_reducible refine wp_ret ?_ | with_reducible refine rThen ?_ | with_reducible refine rBlk ?_)
  refine' reg_all hF ?_ mixed (by kernel_rfl) ?_
  rotate_left
  · repeat (first
        | exact Line.nil
        | (refine' Line.cons rfl (.no rfl rfl rfl rfl rfl rfl) ?_; rotate_left)
        | (refine' Line.cons rfl (.new rfl rfl (run_alloc_i infoT46) rfl) ?_; rotate_left)
        | ((first | refine' Line.cons rfl (.run rfl rfl ?_) ?_ | refine' Line.cons rfl (.yes rfl rfl rfl rfl ?_) ?_)
           any_goals (first | exact cMove rfl rfl | exact cAssign rfl rfl | exact cNot rfl rfl | exact cBoxTab rfl rfl | exact cPickT rfl rfl rfl | exact cPickF rfl rfl rfl | exact cLss rfl rfl rfl | exact cLeq rfl rfl rfl | exact cGtr rfl rfl rfl | exact cGeq rfl rfl rfl | exact cEql rfl rfl rfl | exact cNeq rfl rfl rfl | exact cExtract rfl rfl rfl)
           rotate_left))
  intro a w1 hF hb hN
  have hBs := hB.size
  replace hB := hB.trans (hb.mono hB.size)
  dsimp only [ext, Option.getD] at hF
  repeat (first | with_reducible refine wp_seq ?_ | with_reducible refine nThen ?_ | with_reducible refine nBlk ?_ | with_reducible refine wp_skip ?_ | with_reducible refine wp_block ?_ | with_reducible refine wp_exit ?_ | with_reducible refine xThen ?_ | with_reducible refine xHere ?_ | with_reducible refine xFar (by decide) ?_ | with_reducible refine wp_ret ?_ | with_reducible refine rThen ?_ | with_reducible refine rBlk ?_)
  obtain ⟨z, ⟨g4, rfl, hg4, hb4⟩, hF⟩ := hF.open (s := 4) rfl
  have hs1 := TA.below hs hB
  have hs21 := TB.below hs2 hB
  have ht1 : (Ty.tab 87 sa A).p w1 (.agg #[.int .u64 (sa : Int), s]) := ⟨s, rfl, hs1⟩
  repeat (first | with_reducible refine wp_seq ?_ | with_reducible refine nThen ?_ | with_reducible refine nBlk ?_ | with_reducible refine wp_skip ?_ | with_reducible refine wp_block ?_ | with_reducible refine wp_exit ?_ | with_reducible refine xThen ?_ | with_reducible refine xHere ?_ | with_reducible refine xFar (by decide) ?_ | with_reducible refine wp_ret ?_ | with_reducible refine rThen ?_ | with_reducible refine rBlk ?_)
  refine wp_mono (Q := fun e a w' => e = .normal ∧ Fr 56 [(2, Ty.at_ 41 [.int .u64 (sa : Int), s]), (3, Ty.at_ 41 [.int .u64 (sb : Int), s2]), (4, Ty.ex (.pointer (some ⟨g4, 0, none⟩))), (27, Ty.ex (.bool (!minOk sa sb A B)))] a w' ∧ Below w.heap.size w w' ∧ Blk w' g4 41 zeroT) ?_ ?_
  · unfold minOk
    by_cases h1 : goodN (A.length : Int) = true
    · rw [h1] at hG
      by_cases h2 : A.length = B.length
      · have e2 : (!decide ((A.length : Int) = (B.length : Int))) = false := by rw [decide_eq_true (by omega)]; rfl
        have e3 : (!decide ((sa : Int) = (sb : Int))) = !(goodN (A.length : Int) && (decide (A.length = B.length) && decide (sa = sb))) := by
          rw [h1, decide_eq_true h2, Bool.true_and, Bool.true_and, show decide ((sa : Int) = (sb : Int)) = decide (sa = sb) from decide_eq_decide.2 (by omega)]
        refine' reg_all hF ?_ mixed (by kernel_rfl) ?_
        rotate_left
        · repeat (first
              | exact Line.nil
              | (refine' Line.cons rfl (.no rfl rfl rfl rfl rfl rfl) ?_; rotate_left)
              | ((first | refine' Line.cons rfl (.run rfl rfl ?_) ?_ | refine' Line.cons rfl (.yes rfl rfl rfl rfl ?_) ?_)
                 any_goals (first | exact cMove rfl rfl | exact cAssign rfl rfl | exact cNot rfl rfl | exact cLoadT46 rfl (.t rfl) | exact cCallH1 rfl (.l rfl ht1) hG | exact cFldL46 rfl (.t rfl) | exact cRowOf46 rfl (.t rfl) | exact cLenH rfl (.l rfl hs1) (Ty.sl_isSl _ _ _) Try.underlying39 | exact cLenH rfl (.l rfl hs21) (Ty.sl_isSl _ _ _) Try.underlying39 | exact cFldS46 rfl (.t rfl) | exact cLoadU64 rfl (.t rfl) | exact OpOk.b (cNeq rfl rfl rfl) e2 | exact OpOk.b (cNeq rfl rfl rfl) e3 | exact cPickT rfl rfl rfl | exact cPickF rfl rfl rfl | exact cLss rfl rfl rfl | exact cLeq rfl rfl rfl | exact cGtr rfl rfl rfl | exact cGeq rfl rfl rfl | exact cEql rfl rfl rfl | exact cNeq rfl rfl rfl | exact cExtract rfl rfl rfl)
                 rotate_left))
        intro a w2 hF hb hN
        have hBs := hB.size
        replace hB := hB.trans (hb.mono hB.size)
        dsimp only [ext, Option.getD] at hF
        repeat (first | with_reducible refine wp_seq ?_ | with_reducible refine nThen ?_ | with_reducible refine nBlk ?_ | with_reducible refine wp_skip ?_ | with_reducible refine wp_block ?_ | with_reducible refine wp_exit ?_ | with_reducible refine xThen ?_ | with_reducible refine xHere ?_ | with_reducible refine xFar (by decide) ?_ | with_reducible refine wp_ret ?_ | with_reducible refine rThen ?_ | with_reducible refine rBlk ?_)
        exact ⟨rfl, hF.keep [2, 3, 4, 27], hB, hb4.below hb⟩
      · have e2 : (!decide ((A.length : Int) = (B.length : Int))) = true := by rw [decide_eq_false (by omega)]; rfl
        have e3 : (!(goodN (A.length : Int) && (decide (A.length = B.length) && decide (sa = sb)))) = true := by rw [decide_eq_false h2, Bool.false_and, Bool.and_false]; rfl
        rw [e3]
        refine' reg_all hF ?_ mixed (by kernel_rfl) ?_
        rotate_left
        · repeat (first
              | exact Line.nil
              | (refine' Line.cons rfl (.no rfl rfl rfl rfl rfl rfl) ?_; rotate_left)
              | ((first | refine' Line.cons rfl (.run rfl rfl ?_) ?_ | refine' Line.cons rfl (.yes rfl rfl rfl rfl ?_) ?_)
                 any_goals (first | exact cMove rfl rfl | exact cAssign rfl rfl | exact cNot rfl rfl | exact cLoadT46 rfl (.t rfl) | exact cCallH1 rfl (.l rfl ht1) hG | exact cFldL46 rfl (.t rfl) | exact cRowOf46 rfl (.t rfl) | exact cLenH rfl (.l rfl hs1) (Ty.sl_isSl _ _ _) Try.underlying39 | exact cLenH rfl (.l rfl hs21) (Ty.sl_isSl _ _ _) Try.underlying39 | exact cFldS46 rfl (.t rfl) | exact cLoadU64 rfl (.t rfl) | exact OpOk.b (cNeq rfl rfl rfl) e2 | exact cPickT rfl rfl rfl | exact cPickF rfl rfl rfl | exact cLss rfl rfl rfl | exact cLeq rfl rfl rfl | exact cGtr rfl rfl rfl | exact cGeq rfl rfl rfl | exact cEql rfl rfl rfl | exact cNeq rfl rfl rfl | exact cExtract rfl rfl rfl)
                 rotate_left))
        intro a w2 hF hb hN
        have hBs := hB.size
        replace hB := hB.trans (hb.mono hB.size)
        dsimp only [ext, Option.getD] at hF
        repeat (first | with_reducible refine wp_seq ?_ | with_reducible refine nThen ?_ | with_reducible refine nBlk ?_ | with_reducible refine wp_skip ?_ | with_reducible refine wp_block ?_ | with_reducible refine wp_exit ?_ | with_reducible refine xThen ?_ | with_reducible refine xHere ?_ | with_reducible refine xFar (by decide) ?_ | with_reducible refine wp_ret ?_ | with_reducible refine rThen ?_ | with_reducible refine rBlk ?_)
        exact ⟨rfl, hF.keep [2, 3, 4, 27], hB, hb4.below hb⟩
    · have h1 : goodN (A.length : Int) = false := by simpa using h1
      rw [h1] at hG ⊢
      refine' reg_all hF ?_ mixed (by kernel_rfl) ?_
      rotate_left
      · repeat (first
            | exact Line.nil
            | (refine' Line.cons rfl (.no rfl rfl rfl rfl rfl rfl) ?_; rotate_left)
            | ((first | refine' Line.cons rfl (.run rfl rfl ?_) ?_ | refine' Line.cons rfl (.yes rfl rfl rfl rfl ?_) ?_)
               any_goals (first | exact cMove rfl rfl | exact cAssign rfl rfl | exact cNot rfl rfl | exact cLoadT46 rfl (.t rfl) | exact cCallH1 rfl (.l rfl ht1) hG | exact cFldL46 rfl (.t rfl) | exact cRowOf46 rfl (.t rfl) | exact cLenH rfl (.l rfl hs1) (Ty.sl_isSl _ _ _) Try.underlying39 | exact cLenH rfl (.l rfl hs21) (Ty.sl_isSl _ _ _) Try.underlying39 | exact cFldS46 rfl (.t rfl) | exact cLoadU64 rfl (.t rfl) | exact cPickT rfl rfl rfl | exact cPickF rfl rfl rfl | exact cLss rfl rfl rfl | exact cLeq rfl rfl rfl | exact cGtr rfl rfl rfl | exact cGeq rfl rfl rfl | exact cEql rfl rfl rfl | exact cNeq rfl rfl rfl | exact cExtract rfl rfl rfl)
               rotate_left))
      intro a w2 hF hb hN
      have hBs := hB.size
      replace hB := hB.trans (hb.mono hB.size)
      dsimp only [ext, Option.getD] at hF
      repeat (first | with_reducible refine wp_seq ?_ | with_reducible refine nThen ?_ | with_reducible refine nBlk ?_ | with_reducible refine wp_skip ?_ | with_reducible refine wp_block ?_ | with_reducible refine wp_exit ?_ | with_reducible refine xThen ?_ | with_reducible refine xHere ?_ | with_reducible refine xFar (by decide) ?_ | with_reducible refine wp_ret ?_ | with_reducible refine rThen ?_ | with_reducible refine rBlk ?_)
      exact ⟨rfl, hF.keep [2, 3, 4, 27], hB, hb4.below hb⟩
  clear hF hB hb4 hs1 hs21 ht1
  rintro e a w2 ⟨rfl, hF, hB, hb4⟩
  repeat (first | with_reducible refine wp_seq ?_ | with_reducible refine nThen ?_ | with_reducible refine nBlk ?_ | with_reducible refine wp_skip ?_ | with_reducible refine wp_block ?_ | with_reducible refine wp_exit ?_ | with_reducible refine xThen ?_ | with_reducible refine xHere ?_ | with_reducible refine xFar (by decide) ?_ | with_reducible refine wp_ret ?_ | with_reducible refine rThen ?_ | with_reducible refine rBlk ?_)
  by_cases hok : minOk sa sb A B = true
  rotate_left
  · have hok : minOk sa sb A B = false := by simpa using hok
    have e1 : minS sa sb A B = 0 := by unfold minS; rw [hok]; rfl
    have e2 : minL sa sb A B = [] := by unfold minL; rw [hok]; rfl
    have e3 : minE sa sb A B = .int .i64 1 := by unfold minE; rw [hok]; rfl
    rw [hok] at hF
    rw [e1, e2, e3]
    refine cond_t hF rfl ?_
    repeat (first | with_reducible refine wp_seq ?_ | with_reducible refine nThen ?_ | with_reducible refine nBlk ?_ | with_reducible refine wp_skip ?_ | with_reducible refine wp_block ?_ | with_reducible refine wp_exit ?_ | with_reducible refine xThen ?_ | with_reducible refine xHere ?_ | with_reducible refine xFar (by decide) ?_ | with_reducible refine wp_ret ?_ | with_reducible refine rThen ?_ | with_reducible refine rBlk ?_)
    refine' region_ty 1 mixed (by kernel_rfl) hF ?_ ?_
    rotate_left
    · simp only [List.take_succ_cons, List.take_zero]
      repeat (first
          | exact Line.nil
          | (refine' Line.cons rfl (.no rfl rfl rfl rfl rfl rfl) ?_; rotate_left)
          | ((first | refine' Line.cons rfl (.run rfl rfl ?_) ?_ | refine' Line.cons rfl (.yes rfl rfl rfl rfl ?_) ?_)
             any_goals (first | exact cMove rfl rfl | exact cAssign rfl rfl | exact cNot rfl rfl | exact cBuildE rfl (fun w => buildT046 w) | exact cPickT rfl rfl rfl | exact cPickF rfl rfl rfl | exact cLss rfl rfl rfl | exact cLeq rfl rfl rfl | exact cGtr rfl rfl rfl | exact cGeq rfl rfl rfl | exact cEql rfl rfl rfl | exact cNeq rfl rfl rfl | exact cExtract rfl rfl rfl)
             rotate_left))
    intro a w3 hF hb hN
    have hBs := hB.size
    replace hB := hB.trans (hb.mono hB.size)
    simp only [List.take_succ_cons, List.take_zero, List.drop_succ_cons, List.drop_zero] at hF hN ⊢
    dsimp only [ext, Option.getD] at hF
    replace hb4 := hb4.below hb
    refine tlStoreV (Δ := [(4, Ty.ex (.pointer (some ⟨g4, 0, none⟩)))]) hF rfl rfl rfl rfl (hF.getEx (s := 28) rfl) hb4 rfl sizeT46 (tabCells 0 _ _ _) (hF.keep [4]) rfl ?_
    intro w4 hF hb4 hkx
    replace hB := below_own hB hkx (by intro y hy; simp only [List.mem_singleton] at hy; omega)
    refine' tlOp hF rfl rfl rfl ?_ ?_
    rotate_left
    · first | exact cMove rfl rfl | exact cAssign rfl rfl | exact cPickT rfl rfl rfl | exact cPickF rfl rfl rfl | exact cNot rfl rfl | exact cLss rfl rfl rfl | exact cLeq rfl rfl rfl | exact cGtr rfl rfl rfl | exact cGeq rfl rfl rfl | exact cEql rfl rfl rfl | exact cNeq rfl rfl rfl | exact cExtract rfl rfl rfl
    intro a w5 hF hb
    have hBs := hB.size
    replace hB := hB.trans (hb.mono hB.size)
    try (refine wpList_nil ?_)
    repeat (first | with_reducible refine wp_seq ?_ | with_reducible refine nThen ?_ | with_reducible refine nBlk ?_ | with_reducible refine wp_skip ?_ | with_reducible refine wp_block ?_ | with_reducible refine wp_exit ?_ | with_reducible refine xThen ?_ | with_reducible refine xHere ?_ | with_reducible refine xFar (by decide) ?_ | with_reducible refine wp_ret ?_ | with_reducible refine rThen ?_ | with_reducible refine rBlk ?_)
    replace hb4 := hb4.below hb
    refine retCell2 hF rfl rfl rfl hb4 Try.underlying41 rfl sizeT46 ?_
    exact ⟨_, rfl, ⟨_, rfl, _, rfl, [], Seg.nil _ _ _, by simp⟩, hB⟩
  have e1 : minS sa sb A B = sa := by unfold minS; rw [hok]; rfl
  have e2 : minL sa sb A B = tminus A B := by unfold minL; rw [hok]; rfl
  have e3 : minE sa sb A B = .int .i64 0 := by unfold minE; rw [hok]; rfl
  rw [hok] at hF
  rw [e1, e2, e3]
  clear e1 e2 e3
  unfold minOk at hok
  simp only [Bool.and_eq_true, decide_eq_true_eq] at hok
  obtain ⟨hgd, hlen, hse⟩ := hok
  subst hse
  obtain ⟨N, hN, hN1, hN2⟩ := goodN_rng hgd
  have hN : A.length = N := by omega
  refine cond_f hF rfl ?_
  repeat (first | with_reducible refine wp_seq ?_ | with_reducible refine nThen ?_ | with_reducible refine nBlk ?_ | with_reducible refine wp_skip ?_ | with_reducible refine wp_block ?_ | with_reducible refine wp_exit ?_ | with_reducible refine xThen ?_ | with_reducible refine xHere ?_ | with_reducible refine xFar (by decide) ?_ | with_reducible refine wp_ret ?_ | with_reducible refine rThen ?_ | with_reducible refine rBlk ?_)
  obtain ⟨p2, hp2, hF⟩ := hF.open (s := 2) rfl
  obtain ⟨p3, hp3, hF⟩ := hF.open (s := 3) rfl
  have hsa := TA.below hs hB
  have hsb := TB.below hs2 hB
  have hw2 := hB.size
  have hlt4 := hb4.lt
  have hB0 := hB
  replace hB := Below.refl w2.heap.size w2
  clear hs hs2 hG
  refine' region_ty 7 mixed (by kernel_rfl) hF ?_ ?_
  rotate_left
  · simp only [List.take_succ_cons, List.take_zero]
    repeat (first
        | exact Line.nil
        | (refine' Line.cons rfl (.no rfl rfl rfl rfl rfl rfl) ?_; rotate_left)
        | (refine' Line.cons rfl (.new rfl rfl (run_alloc_i infoT46) rfl) ?_; rotate_left)
        | ((first | refine' Line.cons rfl (.run rfl rfl ?_) ?_ | refine' Line.cons rfl (.yes rfl rfl rfl rfl ?_) ?_)
           any_goals (first | exact cMove rfl rfl | exact cAssign rfl rfl | exact cNot rfl rfl | exact cFldS46 rfl (.l rfl hp2) | exact cLoadU64 rfl (.t rfl) | exact cFldL46 rfl (.l rfl hp2) | exact cRowOf46 rfl (.t rfl) | exact cCallS1 rfl (.l rfl hsa) (cloneC_ty A (by omega)) | exact cBuildTabO (L := A) rfl rfl rfl (fun s hs w => buildT46 _ hs w) | exact cPickT rfl rfl rfl | exact cPickF rfl rfl rfl | exact cLss rfl rfl rfl | exact cLeq rfl rfl rfl | exact cGtr rfl rfl rfl | exact cGeq rfl rfl rfl | exact cEql rfl rfl rfl | exact cNeq rfl rfl rfl | exact cExtract rfl rfl rfl)
           rotate_left))
  intro a w3 hF hb hN
  have hBs := hB.size
  replace hB := hB.trans (hb.mono hB.size)
  simp only [List.take_succ_cons, List.take_zero, List.drop_succ_cons, List.drop_zero] at hF hN ⊢
  dsimp only [ext, Option.getD] at hF
  obtain ⟨z, ⟨s6, rfl, S, hsg, hS⟩, hF⟩ := hF.open (s := 34) rfl
  obtain ⟨g, off, cap, rfl, rfl, hsl⟩ : ∃ g off cap, s6 = .slice (some ⟨g, off, none⟩) A.length cap ∧ S = [g] ∧ SegL w3 87 65 g off A.length cap (flatC A) := by
    rcases hsg.cases with ⟨_, h0, _⟩ | h
    · omega
    · exact h
  have hg : w2.heap.size ≤ g := hS g (by simp)
  obtain ⟨z, ⟨g6, rfl, hg6, hb6⟩, hF⟩ := hF.open (s := 6) rfl
  have hg6 : w2.heap.size ≤ g6 := hg6
  refine tlStoreV (Δ := [(2, Ty.ex p2), (3, Ty.ex p3), (4, Ty.ex (.pointer (some ⟨g4, 0, none⟩))), (6, Ty.ex (.pointer (some ⟨g6, 0, none⟩)))]) hF rfl rfl rfl rfl (hF.getEx (s := 34) rfl) hb6 rfl sizeT46 (sl_one hsg.sl _) (hF.keep [2, 3, 4, 6]) rfl ?_
  intro w4 hF hb6' hkx
  refine wpList_nil ?_
  replace hB := below_own hB hkx (by intro y hy; simp only [List.mem_singleton] at hy; omega)
  have hne : g ≠ g6 := fun h => by
    subst h
    obtain ⟨cs, fr, h1⟩ := hsl.block
    unfold Blk at hb6
    rw [hb6] at h1
    simp only [Option.some.injEq, Obj.cells.injEq] at h1
    exact absurd h1.2.1 (by decide)
  replace hsl := hsl.keeps hkx (by simpa using hne)
  replace hb6 : Blk w4 g6 41 #[.int .u64 (sa : Int), .slice (some ⟨g, off, none⟩) A.length cap] := hb6'
  clear hb6'
  clear hS hsg hkx
  have hpb := (Ty.at_ 41 [.int .u64 (sa : Int), s2]).below hp3 hB
  have hsb4 := TB.below hsb hB
  repeat (first | with_reducible refine wp_seq ?_ | with_reducible refine nThen ?_ | with_reducible refine nBlk ?_ | with_reducible refine wp_skip ?_ | with_reducible refine wp_block ?_ | with_reducible refine wp_exit ?_ | with_reducible refine xThen ?_ | with_reducible refine xHere ?_ | with_reducible refine xFar (by decide) ?_ | with_reducible refine wp_ret ?_ | with_reducible refine rThen ?_ | with_reducible refine rBlk ?_)
  refine' reg_all hF ?_ mixed (by kernel_rfl) ?_
  rotate_left
  · repeat (first
        | exact Line.nil
        | (refine' Line.cons rfl (.no rfl rfl rfl rfl rfl rfl) ?_; rotate_left)
        | ((first | refine' Line.cons rfl (.run rfl rfl ?_) ?_ | refine' Line.cons rfl (.yes rfl rfl rfl rfl ?_) ?_)
           any_goals (first | exact cMove rfl rfl | exact cAssign rfl rfl | exact cNot rfl rfl | exact cFldL46 rfl (.l rfl hpb) | exact cRowOf46 rfl (.t rfl) | exact cLenH rfl (.l rfl hsb4) (Ty.sl_isSl _ _ _) Try.underlying39 | exact cPickT rfl rfl rfl | exact cPickF rfl rfl rfl | exact cLss rfl rfl rfl | exact cLeq rfl rfl rfl | exact cGtr rfl rfl rfl | exact cGeq rfl rfl rfl | exact cEql rfl rfl rfl | exact cNeq rfl rfl rfl | exact cExtract rfl rfl rfl)
           rotate_left))
  intro a w5 hF hb hN
  have hBs := hB.size
  replace hB := hB.trans (hb.mono hB.size)
  dsimp only [ext, Option.getD] at hF
  repeat (first | with_reducible refine wp_seq ?_ | with_reducible refine nThen ?_ | with_reducible refine nBlk ?_ | with_reducible refine wp_skip ?_ | with_reducible refine wp_block ?_ | with_reducible refine wp_exit ?_ | with_reducible refine xThen ?_ | with_reducible refine xHere ?_ | with_reducible refine xFar (by decide) ?_ | with_reducible refine wp_ret ?_ | with_reducible refine rThen ?_ | with_reducible refine rBlk ?_)
  replace hsl := hsl.below hb
  replace hb6 := hb6.below hb
  refine loop_ty (fun m a wr => ∃ i : Nat, i + m = B.length ∧ Fr 56 [(4, Ty.ex (.pointer (some ⟨g4, 0, none⟩))), (6, Ty.ex (.pointer (some ⟨g6, 0, none⟩))), (36, Ty.ex s2), (37, Ty.ex (.int .i64 (B.length : Int))), (38, Ty.ex (.int .i64 (i : Int)))] a wr ∧ Below w2.heap.size w2 wr ∧ Blk wr g6 41 #[.int .u64 (sa : Int), .slice (some ⟨g, off, none⟩) A.length cap] ∧ SegL wr 87 65 g off A.length cap (flatC (mixM A B i))) B.length ?_ ?_
  · exact ⟨0, by omega, hF.keep [4, 6, 36, 37, 38], hB, hb6, by rw [mixM_zero]; exact hsl⟩
  clear hF hB hsl hb6
  rintro m a wr ⟨i, hi, hF, hB, hb6, hsl⟩
  repeat (first | with_reducible refine wp_seq ?_ | with_reducible refine nThen ?_ | with_reducible refine nBlk ?_ | with_reducible refine wp_skip ?_ | with_reducible refine wp_block ?_ | with_reducible refine wp_exit ?_ | with_reducible refine xThen ?_ | with_reducible refine xHere ?_ | with_reducible refine xFar (by decide) ?_ | with_reducible refine wp_ret ?_ | with_reducible refine rThen ?_ | with_reducible refine rBlk ?_)
  refine' reg_all hF ?_ mixed (by kernel_rfl) ?_
  rotate_left
  · repeat (first
        | exact Line.nil
        | (refine' Line.cons rfl (.no rfl rfl rfl rfl rfl rfl) ?_; rotate_left)
        | ((first | refine' Line.cons rfl (.run rfl rfl ?_) ?_ | refine' Line.cons rfl (.yes rfl rfl rfl rfl ?_) ?_)
           any_goals (first | exact cMove rfl rfl | exact cAssign rfl rfl | exact cNot rfl rfl | exact cPickT rfl rfl rfl | exact cPickF rfl rfl rfl | exact cLss rfl rfl rfl | exact cLeq rfl rfl rfl | exact cGtr rfl rfl rfl | exact cGeq rfl rfl rfl | exact cEql rfl rfl rfl | exact cNeq rfl rfl rfl | exact cExtract rfl rfl rfl)
           rotate_left))
  intro a w6 hF hb hN
  have hBs := hB.size
  replace hB := hB.trans (hb.mono hB.size)
  dsimp only [ext, Option.getD] at hF
  repeat (first | with_reducible refine wp_seq ?_ | with_reducible refine nThen ?_ | with_reducible refine nBlk ?_ | with_reducible refine wp_skip ?_ | with_reducible refine wp_block ?_ | with_reducible refine wp_exit ?_ | with_reducible refine xThen ?_ | with_reducible refine xHere ?_ | with_reducible refine xFar (by decide) ?_ | with_reducible refine wp_ret ?_ | with_reducible refine rThen ?_ | with_reducible refine rBlk ?_)
  replace hsl := hsl.below hb
  replace hb6 := hb6.below hb
  refine cond_ty hF rfl (fun hlt => ?_) (fun hge => ?_)
  · have hlt : i < B.length := by have := of_decide_eq_true hlt; omega
    have hsb6 := TB.below hsb hB
    have hw6 := hB.size
    have hsl0 := hsl
    repeat (first | with_reducible refine wp_seq ?_ | with_reducible refine nThen ?_ | with_reducible refine nBlk ?_ | with_reducible refine wp_skip ?_ | with_reducible refine wp_block ?_ | with_reducible refine wp_exit ?_ | with_reducible refine xThen ?_ | with_reducible refine xHere ?_ | with_reducible refine xFar (by decide) ?_ | with_reducible refine wp_ret ?_ | with_reducible refine rThen ?_ | with_reducible refine rBlk ?_)
    refine' region_ty 5 mixed (by kernel_rfl) hF ?_ ?_
    rotate_left
    · simp only [List.take_succ_cons, List.take_zero]
      repeat (first
          | exact Line.nil
          | (refine' Line.cons rfl (.no rfl rfl rfl rfl rfl rfl) ?_; rotate_left)
          | (refine' Line.cons rfl (.new rfl rfl (run_alloc_i infoC34) rfl) ?_; rotate_left)
          | ((first | refine' Line.cons rfl (.run rfl rfl ?_) ?_ | refine' Line.cons rfl (.yes rfl rfl rfl rfl ?_) ?_)
             any_goals (first | exact cMove rfl rfl | exact cAssign rfl rfl | exact cNot rfl rfl | exact cIndexCl (k := i) rfl (.l rfl hsb6) rfl Try.underlying39 info34 hlt | exact cLoadCl34 rfl (.t rfl) | exact cPickT rfl rfl rfl | exact cPickF rfl rfl rfl | exact cLss rfl rfl rfl | exact cLeq rfl rfl rfl | exact cGtr rfl rfl rfl | exact cGeq rfl rfl rfl | exact cEql rfl rfl rfl | exact cNeq rfl rfl rfl | exact cExtract rfl rfl rfl)
             rotate_left))
    intro a w7 hF hb hN
    have hBs := hB.size
    replace hB := hB.trans (hb.mono hB.size)
    simp only [List.take_succ_cons, List.take_zero, List.drop_succ_cons, List.drop_zero] at hF hN ⊢
    dsimp only [ext, Option.getD] at hF
    replace hsl := hsl.below hb
    replace hb6 := hb6.below hb
    have hlg := hsl.lt
    obtain ⟨z, ⟨g8, rfl, hg8, hb8⟩, hF⟩ := hF.open (s := 8) rfl
    have hg8 : w6.heap.size ≤ g8 := hg8
    have hlt6 := hb6.lt
    have hg86 : g8 ≠ g6 := fun h => by subst h; exact absurd (hb8.ne hb6 (by decide)) (by simp)
    have hg8g : g ≠ g8 := by have := hsl0.lt; omega
    refine tlStoreV (Δ := [(4, Ty.ex (.pointer (some ⟨g4, 0, none⟩))), (6, Ty.ex (.pointer (some ⟨g6, 0, none⟩))), (7, Ty.ex (.int .i64 (i : Int))), (8, Ty.ex (.pointer (some ⟨g8, 0, none⟩))), (36, Ty.ex s2), (37, Ty.ex (.int .i64 (B.length : Int))), (38, Ty.ex (.int .i64 (i : Int)))]) hF rfl rfl rfl rfl (hF.getEx (s := 42) rfl) hb8 (clSz _ _) (by show _ = some (Cl.a _).size; rw [Cl.size]; exact info34) (Cl.one _) (hF.keep [4, 6, 7, 8, 36, 37, 38]) rfl ?_
    intro w8 hF hb8 hkx
    refine wpList_nil ?_
    replace hB := below_own hB hkx (by intro y hy; simp only [List.mem_singleton] at hy; omega)
    replace hsl := hsl.keeps hkx (by simpa using hg8g)
    replace hb6 := hb6.keeps hkx (by simpa using Ne.symm hg86)
    have h8 : (Ty.at_ 87 (B.getD i default).enc).p w8 (.pointer (some ⟨g8, 0, none⟩)) := blk_at hb8
    have h6 : (Ty.at_ 41 [.int .u64 (sa : Int), .slice (some ⟨g, off, none⟩) A.length cap]).p w8 (.pointer (some ⟨g6, 0, none⟩)) := blk_at hb6
    have hcell : (Ty.at_ 87 (A.getD i default).enc).p w8 (.pointer (some ⟨g, off + i * 65, none⟩)) := by
      obtain ⟨g', off', he, h⟩ := SlP.elem (k := i * 65) hsl.sl (by rw [flatC_len, mixM_len hlen]; omega)
      simp only [Option.some.injEq, Addr.mk.injEq] at he
      obtain ⟨rfl, rfl, _⟩ := he
      have h := h (i * 65)
      rw [flatC_at _ (by rw [mixM_len hlen]; omega), mixM_get hlen (by omega)] at h
      exact at_pre _ _ h
    clear hb8 hkx
    repeat (first | with_reducible refine wp_seq ?_ | with_reducible refine nThen ?_ | with_reducible refine nBlk ?_ | with_reducible refine wp_skip ?_ | with_reducible refine wp_block ?_ | with_reducible refine wp_exit ?_ | with_reducible refine xThen ?_ | with_reducible refine xHere ?_ | with_reducible refine xFar (by decide) ?_ | with_reducible refine wp_ret ?_ | with_reducible refine rThen ?_ | with_reducible refine rBlk ?_)
    refine' region_ty 11 mixed (by kernel_rfl) hF ?_ ?_
    rotate_left
    · simp only [List.take_succ_cons, List.take_zero]
      repeat (first
          | exact Line.nil
          | (refine' Line.cons rfl (.no rfl rfl rfl rfl rfl rfl) ?_; rotate_left)
          | ((first | refine' Line.cons rfl (.run rfl rfl ?_) ?_ | refine' Line.cons rfl (.yes rfl rfl rfl rfl ?_) ?_)
             any_goals (first | exact cMove rfl rfl | exact cAssign rfl rfl | exact cNot rfl rfl | exact cFldL46 rfl (.l rfl h6) | exact cRowOf46 rfl (.t rfl) | exact cIndexEx (k := i) (sz := 65) rfl rfl rfl Try.underlying39 info34 (by omega) | exact cLoadCl34 rfl (.l rfl hcell) | exact cLoadCl34 rfl (.l rfl h8) | exact cCall2 rfl rfl rfl (cminus_ty _ _) | exact cPickT rfl rfl rfl | exact cPickF rfl rfl rfl | exact cLss rfl rfl rfl | exact cLeq rfl rfl rfl | exact cGtr rfl rfl rfl | exact cGeq rfl rfl rfl | exact cEql rfl rfl rfl | exact cNeq rfl rfl rfl | exact cExtract rfl rfl rfl)
             rotate_left))
    intro a w9 hF hb hN
    have hBs := hB.size
    replace hB := hB.trans (hb.mono hB.size)
    simp only [List.take_succ_cons, List.take_zero, List.drop_succ_cons, List.drop_zero] at hF hN ⊢
    dsimp only [ext, Option.getD] at hF
    replace hsl := hsl.below hb
    replace hb6 := hb6.below hb
    refine tlStoreAt (Δ := [(4, Ty.ex (.pointer (some ⟨g4, 0, none⟩))), (6, Ty.ex (.pointer (some ⟨g6, 0, none⟩))), (36, Ty.ex s2), (37, Ty.ex (.int .i64 (B.length : Int))), (38, Ty.ex (.int .i64 (i : Int)))]) (k := i * 65) hF rfl rfl rfl rfl rfl hsl (by rw [Cl.size]; omega) (by rw [Cl.size]; exact info34) (Cl.one _) (hF.keep [4, 6, 36, 37, 38]) rfl ?_
    intro w10 hF hsl hk10
    refine wpList_nil ?_
    replace hB := below_own hB hk10 (by intro y hy; simp only [List.mem_singleton] at hy; omega)
    replace hb6 := hb6.keeps hk10 (by simpa using Ne.symm hne)
    rw [show (((A.getD i default).minus (B.getD i default)).a).toList = ((A.getD i default).minus (B.getD i default)).enc from rfl, over_flatC _ _ (by rw [mixM_len hlen]; omega), mixM_set hlen (by omega)] at hsl
    repeat (first | with_reducible refine wp_seq ?_ | with_reducible refine nThen ?_ | with_reducible refine nBlk ?_ | with_reducible refine wp_skip ?_ | with_reducible refine wp_block ?_ | with_reducible refine wp_exit ?_ | with_reducible refine xThen ?_ | with_reducible refine xHere ?_ | with_reducible refine xFar (by decide) ?_ | with_reducible refine wp_ret ?_ | with_reducible refine rThen ?_ | with_reducible refine rBlk ?_)
    refine' reg_all hF ?_ mixed (by kernel_rfl) ?_
    rotate_left
    · repeat (first
          | exact Line.nil
          | (refine' Line.cons rfl (.no rfl rfl rfl rfl rfl rfl) ?_; rotate_left)
          | ((first | refine' Line.cons rfl (.run rfl rfl ?_) ?_ | refine' Line.cons rfl (.yes rfl rfl rfl rfl ?_) ?_)
             any_goals (first | exact cMove rfl rfl | exact cAssign rfl rfl | exact cNot rfl rfl | exact cAdd (r := ((i + 1 : Nat) : Int)) rfl rfl rfl (by omega) | exact cPickT rfl rfl rfl | exact cPickF rfl rfl rfl | exact cLss rfl rfl rfl | exact cLeq rfl rfl rfl | exact cGtr rfl rfl rfl | exact cGeq rfl rfl rfl | exact cEql rfl rfl rfl | exact cNeq rfl rfl rfl | exact cExtract rfl rfl rfl)
             rotate_left))
    intro a w11 hF hb hN
    have hBs := hB.size
    replace hB := hB.trans (hb.mono hB.size)
    dsimp only [ext, Option.getD] at hF
    repeat (first | with_reducible refine wp_seq ?_ | with_reducible refine nThen ?_ | with_reducible refine nBlk ?_ | with_reducible refine wp_skip ?_ | with_reducible refine wp_block ?_ | with_reducible refine wp_exit ?_ | with_reducible refine xThen ?_ | with_reducible refine xHere ?_ | with_reducible refine xFar (by decide) ?_ | with_reducible refine wp_ret ?_ | with_reducible refine rThen ?_ | with_reducible refine rBlk ?_)
    exact ⟨m - 1, by omega, i + 1, by omega, hF.keep [4, 6, 36, 37, 38], hB, hb6.below hb, hsl.below hb⟩
  have hge : ¬ i < B.length := by have := of_decide_eq_false hge; omega
  obtain rfl : i = A.length := by omega
  rw [mixM_all hlen] at hsl
  have h6 : (Ty.at_ 41 [.int .u64 (sa : Int), .slice (some ⟨g, off, none⟩) A.length cap]).p w6 (.pointer (some ⟨g6, 0, none⟩)) := blk_at hb6
  replace hb4 : Blk w6 g4 41 zeroT := hb4.below hB
  replace hB := hB0.trans (hB.mono hw2)
  have hg4 : w.heap.size ≤ g4 := hg4
  have hg46 : g4 ≠ g := by omega
  clear hb6
  repeat (first | with_reducible refine wp_seq ?_ | with_reducible refine nThen ?_ | with_reducible refine nBlk ?_ | with_reducible refine wp_skip ?_ | with_reducible refine wp_block ?_ | with_reducible refine wp_exit ?_ | with_reducible refine xThen ?_ | with_reducible refine xHere ?_ | with_reducible refine xFar (by decide) ?_ | with_reducible refine wp_ret ?_ | with_reducible refine rThen ?_ | with_reducible refine rBlk ?_)
  refine wp_region_lit ?_
  refine' tlOp hF rfl rfl rfl ?_ ?_
  rotate_left
  · first | exact cLoadT46 rfl (.l rfl h6) | exact cMove rfl rfl | exact cAssign rfl rfl | exact cPickT rfl rfl rfl | exact cPickF rfl rfl rfl | exact cNot rfl rfl | exact cLss rfl rfl rfl | exact cLeq rfl rfl rfl | exact cGtr rfl rfl rfl | exact cGeq rfl rfl rfl | exact cEql rfl rfl rfl | exact cNeq rfl rfl rfl | exact cExtract rfl rfl rfl
  intro a w7 hF hb
  have hBs := hB.size
  replace hB := hB.trans (hb.mono hB.size)
  try (refine wpList_nil ?_)
  repeat (first | with_reducible refine wp_seq ?_ | with_reducible refine nThen ?_ | with_reducible refine nBlk ?_ | with_reducible refine wp_skip ?_ | with_reducible refine wp_block ?_ | with_reducible refine wp_exit ?_ | with_reducible refine xThen ?_ | with_reducible refine xHere ?_ | with_reducible refine xFar (by decide) ?_ | with_reducible refine wp_ret ?_ | with_reducible refine rThen ?_ | with_reducible refine rBlk ?_)
  replace hb4 := hb4.below hb
  replace hsl := hsl.below hb
  refine tlStoreV (Δ := [(4, Ty.ex (.pointer (some ⟨g4, 0, none⟩)))]) hF rfl rfl rfl rfl (hF.getEx (s := 55) rfl) hb4 rfl sizeT46 (tabCells sa _ _ _) (hF.keep [4]) rfl ?_
  intro w8 hF hb4 hkx
  replace hB := below_own hB hkx (by intro y hy; simp only [List.mem_singleton] at hy; omega)
  replace hsl := hsl.keeps hkx (by simpa using Ne.symm hg46)
  refine' tlOp hF rfl rfl rfl ?_ ?_
  rotate_left
  · first | exact cMove rfl rfl | exact cAssign rfl rfl | exact cPickT rfl rfl rfl | exact cPickF rfl rfl rfl | exact cNot rfl rfl | exact cLss rfl rfl rfl | exact cLeq rfl rfl rfl | exact cGtr rfl rfl rfl | exact cGeq rfl rfl rfl | exact cEql rfl rfl rfl | exact cNeq rfl rfl rfl | exact cExtract rfl rfl rfl
  intro a w9 hF hb
  have hBs := hB.size
  replace hB := hB.trans (hb.mono hB.size)
  try (refine wpList_nil ?_)
  repeat (first | with_reducible refine wp_seq ?_ | with_reducible refine nThen ?_ | with_reducible refine nBlk ?_ | with_reducible refine wp_skip ?_ | with_reducible refine wp_block ?_ | with_reducible refine wp_exit ?_ | with_reducible refine xThen ?_ | with_reducible refine xHere ?_ | with_reducible refine xFar (by decide) ?_ | with_reducible refine wp_ret ?_ | with_reducible refine rThen ?_ | with_reducible refine rBlk ?_)
  refine retCell2 hF rfl rfl rfl (hb4.below hb) Try.underlying41 rfl sizeT46 ?_
  refine ⟨_, rfl, ⟨_, rfl, _, rfl, [g], ?_, fun y hy => ?_⟩, hB⟩
  · rw [tminus_len hlen]
    exact (hsl.below hb).seg
  · simp only [List.mem_singleton] at hy
    omega
end Go.Proofs.Ytmlbkcpmgcjblaa

/- Layer 15 by types: Zero, the program's and the document's. -/
namespace Go.Proofs.Ytmlbkcpmgcjblaa
open Go.RowKit

/-- All cells are nought. -/
def allZ (L : List Cl) : Bool := L.all fun c => decide (c = Cl.zero)
theorem allZ_bad {L : List Cl} {k : Nat} (hk : k < L.length) (h : ¬ L.getD k default = Cl.zero) : allZ L = false := by
  unfold allZ
  rw [List.all_eq_false]
  exact ⟨L[k], List.getElem_mem hk, by simpa [List.getD, List.getElem?_eq_getElem hk] using h⟩
theorem allZ_all {L : List Cl} (h : ∀ k, k < L.length → L.getD k default = Cl.zero) : allZ L = true := by
  unfold allZ
  rw [List.all_eq_true]
  intro c hc
  obtain ⟨k, hk, rfl⟩ := List.getElem_of_mem hc
  simpa [List.getD, List.getElem?_eq_getElem hk] using h k hk
theorem allZ_iff {L : List Cl} : allZ L = true ↔ ∀ k, k < L.length → L.getD k default = Cl.zero := by
  refine ⟨fun h k hk => ?_, allZ_all⟩
  exact Classical.byContradiction fun hb => by rw [allZ_bad hk hb] at h; cases h
set_option maxRecDepth 100000 in
theorem zero1_ty (c : Cl) : Fn1 Try.prog 81 (Ty.ex (.agg c.a)) (Ty.ex (.bool (!decide (c = Cl.zero)))) := by
  refine ⟨fun args w => by kernel_rfl, fun w v hv => ?_⟩
  have hC := czero_ty c
  refine enter_ty 6 [Ty.ex (.agg c.a)] Try.func81 rfl (by kernel_rfl) ⟨hv, trivial⟩ fun a hF => ?_
  have hB := Below.refl w.heap.size w
  repeat (first | with_reducible refine wp_seq ?_ | with_reducible refine nThen ?_ | with_reducible refine nBlk ?_ | with_reducible refine wp_skip ?_ | with_reducible refine wp_block ?_ | with_reducible refine wp_exit ?_ | with_reducible refine xThen ?_ | with_reducible refine xHere ?_ | with_reducible refine xFar (by decide) ?_ | with_reducible refine wp_ret ?_ | with_reducible refine rThen ?_ | with_reducible refine rBlk ?_)
  refine' reg_all hF ?_ mixed (by kernel_rfl) ?_
  rotate_left
  · repeat (first
        | exact Line.nil
        | (refine' Line.cons rfl (.no rfl rfl rfl rfl rfl rfl) ?_; rotate_left)
        | ((first | refine' Line.cons rfl (.run rfl rfl ?_) ?_ | refine' Line.cons rfl (.yes rfl rfl rfl rfl ?_) ?_)
           any_goals (first | exact cMove rfl rfl | exact cAssign rfl rfl | exact cNot rfl rfl | exact cBoxCl rfl rfl | exact cPickT rfl rfl rfl | exact cPickF rfl rfl rfl | exact cLss rfl rfl rfl | exact cLeq rfl rfl rfl | exact cGtr rfl rfl rfl | exact cGeq rfl rfl rfl | exact cEql rfl rfl rfl | exact cNeq rfl rfl rfl | exact cExtract rfl rfl rfl)
           rotate_left))
  intro a w1 hF hb hN
  have hBs := hB.size
  replace hB := hB.trans (hb.mono hB.size)
  dsimp only [ext, Option.getD] at hF
  repeat (first | with_reducible refine wp_seq ?_ | with_reducible refine nThen ?_ | with_reducible refine nBlk ?_ | with_reducible refine wp_skip ?_ | with_reducible refine wp_block ?_ | with_reducible refine wp_exit ?_ | with_reducible refine xThen ?_ | with_reducible refine xHere ?_ | with_reducible refine xFar (by decide) ?_ | with_reducible refine wp_ret ?_ | with_reducible refine rThen ?_ | with_reducible refine rBlk ?_)
  refine' reg_all hF ?_ mixed (by kernel_rfl) ?_
  rotate_left
  · repeat (first
        | exact Line.nil
        | (refine' Line.cons rfl (.no rfl rfl rfl rfl rfl rfl) ?_; rotate_left)
        | ((first | refine' Line.cons rfl (.run rfl rfl ?_) ?_ | refine' Line.cons rfl (.yes rfl rfl rfl rfl ?_) ?_)
           any_goals (first | exact cMove rfl rfl | exact cAssign rfl rfl | exact cNot rfl rfl | exact cLoadCl34 rfl (.t rfl) | exact cCall1 rfl rfl hC | exact cPickT rfl rfl rfl | exact cPickF rfl rfl rfl | exact cLss rfl rfl rfl | exact cLeq rfl rfl rfl | exact cGtr rfl rfl rfl | exact cGeq rfl rfl rfl | exact cEql rfl rfl rfl | exact cNeq rfl rfl rfl | exact cExtract rfl rfl rfl)
           rotate_left))
  intro a w2 hF hb hN
  have hBs := hB.size
  replace hB := hB.trans (hb.mono hB.size)
  dsimp only [ext, Option.getD] at hF
  repeat (first | with_reducible refine wp_seq ?_ | with_reducible refine nThen ?_ | with_reducible refine nBlk ?_ | with_reducible refine wp_skip ?_ | with_reducible refine wp_block ?_ | with_reducible refine wp_exit ?_ | with_reducible refine xThen ?_ | with_reducible refine xHere ?_ | with_reducible refine xFar (by decide) ?_ | with_reducible refine wp_ret ?_ | with_reducible refine rThen ?_ | with_reducible refine rBlk ?_)
  refine ret1 hF rfl rfl fun z hz => ?_
  exact ⟨z, rfl, hz, hB⟩
abbrev zeroFn : Value := .func (.func 81) #[] #[]
set_option maxRecDepth 100000 in
/-- The first that is not nought; -1. -/
theorem idxCl_ty (L : List Cl) (hL : L.length ≤ 1000000) : ∃ r : Int, (decide (0 ≤ r) = !allZ L) ∧ Fn2 Try.prog 110 (Ty.cls 87 L) (Ty.ex zeroFn) (Ty.ex (.int .i64 r)) := by
  by_cases hz : allZ L = true
  · refine ⟨-1, by rw [hz]; rfl, fun args w => by kernel_rfl, fun w v u hv hu => ?_⟩
    have hall := allZ_iff.1 hz
    let TL := Ty.cls 87 L
    refine enter_ty 19 [Ty.ex v, Ty.ex zeroFn] Try.func110 rfl (by kernel_rfl) ⟨rfl, hu, trivial⟩ fun a hF => ?_
    have hB := Below.refl w.heap.size w
    repeat (first | with_reducible refine wp_seq ?_ | with_reducible refine nThen ?_ | with_reducible refine nBlk ?_ | with_reducible refine wp_skip ?_ | with_reducible refine wp_block ?_ | with_reducible refine wp_exit ?_ | with_reducible refine xThen ?_ | with_reducible refine xHere ?_ | with_reducible refine xFar (by decide) ?_ | with_reducible refine wp_ret ?_ | with_reducible refine rThen ?_ | with_reducible refine rBlk ?_)
    refine' reg_all hF ?_ mixed (by kernel_rfl) ?_
    rotate_left
    · repeat (first
          | exact Line.nil
          | (refine' Line.cons rfl (.no rfl rfl rfl rfl rfl rfl) ?_; rotate_left)
          | ((first | refine' Line.cons rfl (.run rfl rfl ?_) ?_ | refine' Line.cons rfl (.yes rfl rfl rfl rfl ?_) ?_)
             any_goals (first | exact cMove rfl rfl | exact cAssign rfl rfl | exact cNot rfl rfl | exact cPickT rfl rfl rfl | exact cPickF rfl rfl rfl | exact cLss rfl rfl rfl | exact cLeq rfl rfl rfl | exact cGtr rfl rfl rfl | exact cGeq rfl rfl rfl | exact cEql rfl rfl rfl | exact cNeq rfl rfl rfl | exact cExtract rfl rfl rfl)
             rotate_left))
    intro a w1 hF hb hN
    have hBs := hB.size
    replace hB := hB.trans (hb.mono hB.size)
    dsimp only [ext, Option.getD] at hF
    repeat (first | with_reducible refine wp_seq ?_ | with_reducible refine nThen ?_ | with_reducible refine nBlk ?_ | with_reducible refine wp_skip ?_ | with_reducible refine wp_block ?_ | with_reducible refine wp_exit ?_ | with_reducible refine xThen ?_ | with_reducible refine xHere ?_ | with_reducible refine xFar (by decide) ?_ | with_reducible refine wp_ret ?_ | with_reducible refine rThen ?_ | with_reducible refine rBlk ?_)
    have hv1 := TL.below hv hB
    refine' reg_all hF ?_ mixed (by kernel_rfl) ?_
    rotate_left
    · repeat (first
          | exact Line.nil
          | (refine' Line.cons rfl (.no rfl rfl rfl rfl rfl rfl) ?_; rotate_left)
          | ((first | refine' Line.cons rfl (.run rfl rfl ?_) ?_ | refine' Line.cons rfl (.yes rfl rfl rfl rfl ?_) ?_)
             any_goals (first | exact cMove rfl rfl | exact cAssign rfl rfl | exact cNot rfl rfl | exact cLenH rfl (.l rfl hv1) (Ty.sl_isSl _ _ _) Try.underlying39 | exact cPickT rfl rfl rfl | exact cPickF rfl rfl rfl | exact cLss rfl rfl rfl | exact cLeq rfl rfl rfl | exact cGtr rfl rfl rfl | exact cGeq rfl rfl rfl | exact cEql rfl rfl rfl | exact cNeq rfl rfl rfl | exact cExtract rfl rfl rfl)
             rotate_left))
    intro a w2 hF hb hN
    have hBs := hB.size
    replace hB := hB.trans (hb.mono hB.size)
    dsimp only [ext, Option.getD] at hF
    repeat (first | with_reducible refine wp_seq ?_ | with_reducible refine nThen ?_ | with_reducible refine nBlk ?_ | with_reducible refine wp_skip ?_ | with_reducible refine wp_block ?_ | with_reducible refine wp_exit ?_ | with_reducible refine xThen ?_ | with_reducible refine xHere ?_ | with_reducible refine xFar (by decide) ?_ | with_reducible refine wp_ret ?_ | with_reducible refine rThen ?_ | with_reducible refine rBlk ?_)
    refine loop_ty (fun m a wr => ∃ k : Nat, k + m = L.length ∧ Fr 19 [(0, Ty.ex v), (1, Ty.ex zeroFn), (7, Ty.ex (.int .i64 (L.length : Int))), (8, Ty.ex (.int .i64 (k : Int)))] a wr ∧ Below w.heap.size w wr) L.length ?_ ?_
    · exact ⟨0, by omega, hF.keep [0, 1, 7, 8], hB⟩
    clear hF hB hv1
    rintro m a wr ⟨k, hk, hF, hB⟩
    repeat (first | with_reducible refine wp_seq ?_ | with_reducible refine nThen ?_ | with_reducible refine nBlk ?_ | with_reducible refine wp_skip ?_ | with_reducible refine wp_block ?_ | with_reducible refine wp_exit ?_ | with_reducible refine xThen ?_ | with_reducible refine xHere ?_ | with_reducible refine xFar (by decide) ?_ | with_reducible refine wp_ret ?_ | with_reducible refine rThen ?_ | with_reducible refine rBlk ?_)
    refine' reg_all hF ?_ mixed (by kernel_rfl) ?_
    rotate_left
    · repeat (first
          | exact Line.nil
          | (refine' Line.cons rfl (.no rfl rfl rfl rfl rfl rfl) ?_; rotate_left)
          | ((first | refine' Line.cons rfl (.run rfl rfl ?_) ?_ | refine' Line.cons rfl (.yes rfl rfl rfl rfl ?_) ?_)
             any_goals (first | exact cMove rfl rfl | exact cAssign rfl rfl | exact cNot rfl rfl | exact cPickT rfl rfl rfl | exact cPickF rfl rfl rfl | exact cLss rfl rfl rfl | exact cLeq rfl rfl rfl | exact cGtr rfl rfl rfl | exact cGeq rfl rfl rfl | exact cEql rfl rfl rfl | exact cNeq rfl rfl rfl | exact cExtract rfl rfl rfl)
             rotate_left))
    intro a w3 hF hb hN
    have hBs := hB.size
    replace hB := hB.trans (hb.mono hB.size)
    dsimp only [ext, Option.getD] at hF
    repeat (first | with_reducible refine wp_seq ?_ | with_reducible refine nThen ?_ | with_reducible refine nBlk ?_ | with_reducible refine wp_skip ?_ | with_reducible refine wp_block ?_ | with_reducible refine wp_exit ?_ | with_reducible refine xThen ?_ | with_reducible refine xHere ?_ | with_reducible refine xFar (by decide) ?_ | with_reducible refine wp_ret ?_ | with_reducible refine rThen ?_ | with_reducible refine rBlk ?_)
    refine cond_ty hF rfl (fun hlt => ?_) (fun hge => ?_)
    · have hlt : k < L.length := by have := of_decide_eq_true hlt; omega
      have hC := zero1_ty (L.getD k default)
      rw [hall k hlt] at hC
      repeat (first | with_reducible refine wp_seq ?_ | with_reducible refine nThen ?_ | with_reducible refine nBlk ?_ | with_reducible refine wp_skip ?_ | with_reducible refine wp_block ?_ | with_reducible refine wp_exit ?_ | with_reducible refine xThen ?_ | with_reducible refine xHere ?_ | with_reducible refine xFar (by decide) ?_ | with_reducible refine wp_ret ?_ | with_reducible refine rThen ?_ | with_reducible refine rBlk ?_)
      refine' reg_all hF ?_ mixed (by kernel_rfl) ?_
      rotate_left
      · repeat (first
            | exact Line.nil
            | (refine' Line.cons rfl (.no rfl rfl rfl rfl rfl rfl) ?_; rotate_left)
            | ((first | refine' Line.cons rfl (.run rfl rfl ?_) ?_ | refine' Line.cons rfl (.yes rfl rfl rfl rfl ?_) ?_)
               any_goals (first | exact cMove rfl rfl | exact cAssign rfl rfl | exact cNot rfl rfl | exact cPickT rfl rfl rfl | exact cPickF rfl rfl rfl | exact cLss rfl rfl rfl | exact cLeq rfl rfl rfl | exact cGtr rfl rfl rfl | exact cGeq rfl rfl rfl | exact cEql rfl rfl rfl | exact cNeq rfl rfl rfl | exact cExtract rfl rfl rfl)
               rotate_left))
      intro a w4 hF hb hN
      have hBs := hB.size
      replace hB := hB.trans (hb.mono hB.size)
      dsimp only [ext, Option.getD] at hF
      repeat (first | with_reducible refine wp_seq ?_ | with_reducible refine nThen ?_ | with_reducible refine nBlk ?_ | with_reducible refine wp_skip ?_ | with_reducible refine wp_block ?_ | with_reducible refine wp_exit ?_ | with_reducible refine xThen ?_ | with_reducible refine xHere ?_ | with_reducible refine xFar (by decide) ?_ | with_reducible refine wp_ret ?_ | with_reducible refine rThen ?_ | with_reducible refine rBlk ?_)
      have hv4 := TL.below hv hB
      have hix : ∀ {Γ : Ctx} {o : Oper} {x ix : Operand} {kd : IntKind} (ho : o.op = .indexAddr 39 x ix) (hx : Has w4 Γ x (Ty.cls 87 L)) (hi : OpT Γ ix (Ty.ex (.int kd (k : Int)))), OpOk Try.prog w4 Γ o (Ty.at_ 87 Cl.zero.enc) := fun ho hx hi => by
        have h := cIndexCl (P := Try.prog) (k := k) ho hx hi Try.underlying39 info34 hlt
        rwa [hall k hlt] at h
      refine' reg_all hF ?_ mixed (by kernel_rfl) ?_
      rotate_left
      · repeat (first
            | exact Line.nil
            | (refine' Line.cons rfl (.no rfl rfl rfl rfl rfl rfl) ?_; rotate_left)
            | ((first | refine' Line.cons rfl (.run rfl rfl ?_) ?_ | refine' Line.cons rfl (.yes rfl rfl rfl rfl ?_) ?_)
               any_goals (first | exact cMove rfl rfl | exact cAssign rfl rfl | exact cNot rfl rfl | exact hix rfl (.l rfl hv4) rfl | exact cLoadCl34 rfl (.t rfl) | exact OpOk.b (c := false) (cCallV1 rfl rfl (.t rfl) hC) (by decide) | exact cPickT rfl rfl rfl | exact cPickF rfl rfl rfl | exact cLss rfl rfl rfl | exact cLeq rfl rfl rfl | exact cGtr rfl rfl rfl | exact cGeq rfl rfl rfl | exact cEql rfl rfl rfl | exact cNeq rfl rfl rfl | exact cExtract rfl rfl rfl)
               rotate_left))
      intro a w5 hF hb hN
      have hBs := hB.size
      replace hB := hB.trans (hb.mono hB.size)
      dsimp only [ext, Option.getD] at hF
      repeat (first | with_reducible refine wp_seq ?_ | with_reducible refine nThen ?_ | with_reducible refine nBlk ?_ | with_reducible refine wp_skip ?_ | with_reducible refine wp_block ?_ | with_reducible refine wp_exit ?_ | with_reducible refine xThen ?_ | with_reducible refine xHere ?_ | with_reducible refine xFar (by decide) ?_ | with_reducible refine wp_ret ?_ | with_reducible refine rThen ?_ | with_reducible refine rBlk ?_)
      refine cond_f hF rfl ?_
      repeat (first | with_reducible refine wp_seq ?_ | with_reducible refine nThen ?_ | with_reducible refine nBlk ?_ | with_reducible refine wp_skip ?_ | with_reducible refine wp_block ?_ | with_reducible refine wp_exit ?_ | with_reducible refine xThen ?_ | with_reducible refine xHere ?_ | with_reducible refine xFar (by decide) ?_ | with_reducible refine wp_ret ?_ | with_reducible refine rThen ?_ | with_reducible refine rBlk ?_)
      refine' reg_all hF ?_ mixed (by kernel_rfl) ?_
      rotate_left
      · repeat (first
            | exact Line.nil
            | (refine' Line.cons rfl (.no rfl rfl rfl rfl rfl rfl) ?_; rotate_left)
            | ((first | refine' Line.cons rfl (.run rfl rfl ?_) ?_ | refine' Line.cons rfl (.yes rfl rfl rfl rfl ?_) ?_)
               any_goals (first | exact cMove rfl rfl | exact cAssign rfl rfl | exact cNot rfl rfl | exact cAdd (r := ((k + 1 : Nat) : Int)) rfl rfl rfl (by omega) | exact cPickT rfl rfl rfl | exact cPickF rfl rfl rfl | exact cLss rfl rfl rfl | exact cLeq rfl rfl rfl | exact cGtr rfl rfl rfl | exact cGeq rfl rfl rfl | exact cEql rfl rfl rfl | exact cNeq rfl rfl rfl | exact cExtract rfl rfl rfl)
               rotate_left))
      intro a w6 hF hb hN
      have hBs := hB.size
      replace hB := hB.trans (hb.mono hB.size)
      dsimp only [ext, Option.getD] at hF
      repeat (first | with_reducible refine wp_seq ?_ | with_reducible refine nThen ?_ | with_reducible refine nBlk ?_ | with_reducible refine wp_skip ?_ | with_reducible refine wp_block ?_ | with_reducible refine wp_exit ?_ | with_reducible refine xThen ?_ | with_reducible refine xHere ?_ | with_reducible refine xFar (by decide) ?_ | with_reducible refine wp_ret ?_ | with_reducible refine rThen ?_ | with_reducible refine rBlk ?_)
      exact ⟨m - 1, by omega, k + 1, by omega, hF.keep [0, 1, 7, 8], hB⟩
    · have hge : ¬ k < L.length := by have := of_decide_eq_false hge; omega
      repeat (first | with_reducible refine wp_seq ?_ | with_reducible refine nThen ?_ | with_reducible refine nBlk ?_ | with_reducible refine wp_skip ?_ | with_reducible refine wp_block ?_ | with_reducible refine wp_exit ?_ | with_reducible refine xThen ?_ | with_reducible refine xHere ?_ | with_reducible refine xFar (by decide) ?_ | with_reducible refine wp_ret ?_ | with_reducible refine rThen ?_ | with_reducible refine rBlk ?_)
      refine' reg_all hF ?_ mixed (by kernel_rfl) ?_
      rotate_left
      · repeat (first
            | exact Line.nil
            | (refine' Line.cons rfl (.no rfl rfl rfl rfl rfl rfl) ?_; rotate_left)
            | ((first | refine' Line.cons rfl (.run rfl rfl ?_) ?_ | refine' Line.cons rfl (.yes rfl rfl rfl rfl ?_) ?_)
               any_goals (first | exact cMove rfl rfl | exact cAssign rfl rfl | exact cNot rfl rfl | exact cPickT rfl rfl rfl | exact cPickF rfl rfl rfl | exact cLss rfl rfl rfl | exact cLeq rfl rfl rfl | exact cGtr rfl rfl rfl | exact cGeq rfl rfl rfl | exact cEql rfl rfl rfl | exact cNeq rfl rfl rfl | exact cExtract rfl rfl rfl)
               rotate_left))
      intro a w4 hF hb hN
      have hBs := hB.size
      replace hB := hB.trans (hb.mono hB.size)
      dsimp only [ext, Option.getD] at hF
      repeat (first | with_reducible refine wp_seq ?_ | with_reducible refine nThen ?_ | with_reducible refine nBlk ?_ | with_reducible refine wp_skip ?_ | with_reducible refine wp_block ?_ | with_reducible refine wp_exit ?_ | with_reducible refine xThen ?_ | with_reducible refine xHere ?_ | with_reducible refine xFar (by decide) ?_ | with_reducible refine wp_ret ?_ | with_reducible refine rThen ?_ | with_reducible refine rBlk ?_)
      refine ret1 hF rfl rfl fun z hz => ?_
      exact ⟨z, rfl, hz, hB⟩
  · have hz : allZ L = false := by simpa using hz
    obtain ⟨k0, hk0, hne0, hlo⟩ : ∃ k, k < L.length ∧ ¬ L.getD k default = Cl.zero ∧ ∀ j, j < k → L.getD j default = Cl.zero := by
      have hex : ∃ k, k < L.length ∧ ¬ L.getD k default = Cl.zero := Classical.byContradiction fun h => by
        have : allZ L = true := allZ_all fun k hk => Classical.byContradiction fun hb => h ⟨k, hk, hb⟩
        rw [this] at hz; cases hz
      have key : ∀ n, (∃ k, k < n ∧ k < L.length ∧ ¬ L.getD k default = Cl.zero) → ∃ k, k < L.length ∧ ¬ L.getD k default = Cl.zero ∧ ∀ j, j < k → L.getD j default = Cl.zero := by
        intro n
        induction n with
        | zero => rintro ⟨k, h, _⟩; omega
        | succ n ih =>
          rintro ⟨k, h1, h2, h3⟩
          by_cases hn : ∃ k, k < n ∧ k < L.length ∧ ¬ L.getD k default = Cl.zero
          · exact ih hn
          · refine ⟨k, h2, h3, fun j hj => Classical.byContradiction fun hb => hn ⟨j, by omega, by omega, hb⟩⟩
      obtain ⟨k, h1, h2⟩ := hex
      exact key (k + 1) ⟨k, by omega, h1, h2⟩
    refine ⟨(k0 : Int), by rw [hz]; exact decide_eq_true (by omega), fun args w => by kernel_rfl, fun w v u hv hu => ?_⟩
    let TL := Ty.cls 87 L
    refine enter_ty 19 [Ty.ex v, Ty.ex zeroFn] Try.func110 rfl (by kernel_rfl) ⟨rfl, hu, trivial⟩ fun a hF => ?_
    have hB := Below.refl w.heap.size w
    repeat (first | with_reducible refine wp_seq ?_ | with_reducible refine nThen ?_ | with_reducible refine nBlk ?_ | with_reducible refine wp_skip ?_ | with_reducible refine wp_block ?_ | with_reducible refine wp_exit ?_ | with_reducible refine xThen ?_ | with_reducible refine xHere ?_ | with_reducible refine xFar (by decide) ?_ | with_reducible refine wp_ret ?_ | with_reducible refine rThen ?_ | with_reducible refine rBlk ?_)
    refine' reg_all hF ?_ mixed (by kernel_rfl) ?_
    rotate_left
    · repeat (first
          | exact Line.nil
          | (refine' Line.cons rfl (.no rfl rfl rfl rfl rfl rfl) ?_; rotate_left)
          | ((first | refine' Line.cons rfl (.run rfl rfl ?_) ?_ | refine' Line.cons rfl (.yes rfl rfl rfl rfl ?_) ?_)
             any_goals (first | exact cMove rfl rfl | exact cAssign rfl rfl | exact cNot rfl rfl | exact cPickT rfl rfl rfl | exact cPickF rfl rfl rfl | exact cLss rfl rfl rfl | exact cLeq rfl rfl rfl | exact cGtr rfl rfl rfl | exact cGeq rfl rfl rfl | exact cEql rfl rfl rfl | exact cNeq rfl rfl rfl | exact cExtract rfl rfl rfl)
             rotate_left))
    intro a w1 hF hb hN
    have hBs := hB.size
    replace hB := hB.trans (hb.mono hB.size)
    dsimp only [ext, Option.getD] at hF
    repeat (first | with_reducible refine wp_seq ?_ | with_reducible refine nThen ?_ | with_reducible refine nBlk ?_ | with_reducible refine wp_skip ?_ | with_reducible refine wp_block ?_ | with_reducible refine wp_exit ?_ | with_reducible refine xThen ?_ | with_reducible refine xHere ?_ | with_reducible refine xFar (by decide) ?_ | with_reducible refine wp_ret ?_ | with_reducible refine rThen ?_ | with_reducible refine rBlk ?_)
    have hv1 := TL.below hv hB
    refine' reg_all hF ?_ mixed (by kernel_rfl) ?_
    rotate_left
    · repeat (first
          | exact Line.nil
          | (refine' Line.cons rfl (.no rfl rfl rfl rfl rfl rfl) ?_; rotate_left)
          | ((first | refine' Line.cons rfl (.run rfl rfl ?_) ?_ | refine' Line.cons rfl (.yes rfl rfl rfl rfl ?_) ?_)
             any_goals (first | exact cMove rfl rfl | exact cAssign rfl rfl | exact cNot rfl rfl | exact cLenH rfl (.l rfl hv1) (Ty.sl_isSl _ _ _) Try.underlying39 | exact cPickT rfl rfl rfl | exact cPickF rfl rfl rfl | exact cLss rfl rfl rfl | exact cLeq rfl rfl rfl | exact cGtr rfl rfl rfl | exact cGeq rfl rfl rfl | exact cEql rfl rfl rfl | exact cNeq rfl rfl rfl | exact cExtract rfl rfl rfl)
             rotate_left))
    intro a w2 hF hb hN
    have hBs := hB.size
    replace hB := hB.trans (hb.mono hB.size)
    dsimp only [ext, Option.getD] at hF
    repeat (first | with_reducible refine wp_seq ?_ | with_reducible refine nThen ?_ | with_reducible refine nBlk ?_ | with_reducible refine wp_skip ?_ | with_reducible refine wp_block ?_ | with_reducible refine wp_exit ?_ | with_reducible refine xThen ?_ | with_reducible refine xHere ?_ | with_reducible refine xFar (by decide) ?_ | with_reducible refine wp_ret ?_ | with_reducible refine rThen ?_ | with_reducible refine rBlk ?_)
    refine loop_ty (fun m a wr => ∃ k : Nat, k + m = L.length ∧ k ≤ k0 ∧ Fr 19 [(0, Ty.ex v), (1, Ty.ex zeroFn), (7, Ty.ex (.int .i64 (L.length : Int))), (8, Ty.ex (.int .i64 (k : Int)))] a wr ∧ Below w.heap.size w wr) L.length ?_ ?_
    · exact ⟨0, by omega, by omega, hF.keep [0, 1, 7, 8], hB⟩
    clear hF hB hv1
    rintro m a wr ⟨k, hk, hk2, hF, hB⟩
    repeat (first | with_reducible refine wp_seq ?_ | with_reducible refine nThen ?_ | with_reducible refine nBlk ?_ | with_reducible refine wp_skip ?_ | with_reducible refine wp_block ?_ | with_reducible refine wp_exit ?_ | with_reducible refine xThen ?_ | with_reducible refine xHere ?_ | with_reducible refine xFar (by decide) ?_ | with_reducible refine wp_ret ?_ | with_reducible refine rThen ?_ | with_reducible refine rBlk ?_)
    refine' reg_all hF ?_ mixed (by kernel_rfl) ?_
    rotate_left
    · repeat (first
          | exact Line.nil
          | (refine' Line.cons rfl (.no rfl rfl rfl rfl rfl rfl) ?_; rotate_left)
          | ((first | refine' Line.cons rfl (.run rfl rfl ?_) ?_ | refine' Line.cons rfl (.yes rfl rfl rfl rfl ?_) ?_)
             any_goals (first | exact cMove rfl rfl | exact cAssign rfl rfl | exact cNot rfl rfl | exact OpOk.b (c := true) (cLss rfl rfl rfl) (decide_eq_true (by omega)) | exact cPickT rfl rfl rfl | exact cPickF rfl rfl rfl | exact cLss rfl rfl rfl | exact cLeq rfl rfl rfl | exact cGtr rfl rfl rfl | exact cGeq rfl rfl rfl | exact cEql rfl rfl rfl | exact cNeq rfl rfl rfl | exact cExtract rfl rfl rfl)
             rotate_left))
    intro a w3 hF hb hN
    have hBs := hB.size
    replace hB := hB.trans (hb.mono hB.size)
    dsimp only [ext, Option.getD] at hF
    repeat (first | with_reducible refine wp_seq ?_ | with_reducible refine nThen ?_ | with_reducible refine nBlk ?_ | with_reducible refine wp_skip ?_ | with_reducible refine wp_block ?_ | with_reducible refine wp_exit ?_ | with_reducible refine xThen ?_ | with_reducible refine xHere ?_ | with_reducible refine xFar (by decide) ?_ | with_reducible refine wp_ret ?_ | with_reducible refine rThen ?_ | with_reducible refine rBlk ?_)
    refine cond_t hF rfl ?_
    have hC := zero1_ty (L.getD k default)
    repeat (first | with_reducible refine wp_seq ?_ | with_reducible refine nThen ?_ | with_reducible refine nBlk ?_ | with_reducible refine wp_skip ?_ | with_reducible refine wp_block ?_ | with_reducible refine wp_exit ?_ | with_reducible refine xThen ?_ | with_reducible refine xHere ?_ | with_reducible refine xFar (by decide) ?_ | with_reducible refine wp_ret ?_ | with_reducible refine rThen ?_ | with_reducible refine rBlk ?_)
    refine' reg_all hF ?_ mixed (by kernel_rfl) ?_
    rotate_left
    · repeat (first
          | exact Line.nil
          | (refine' Line.cons rfl (.no rfl rfl rfl rfl rfl rfl) ?_; rotate_left)
          | ((first | refine' Line.cons rfl (.run rfl rfl ?_) ?_ | refine' Line.cons rfl (.yes rfl rfl rfl rfl ?_) ?_)
             any_goals (first | exact cMove rfl rfl | exact cAssign rfl rfl | exact cNot rfl rfl | exact cPickT rfl rfl rfl | exact cPickF rfl rfl rfl | exact cLss rfl rfl rfl | exact cLeq rfl rfl rfl | exact cGtr rfl rfl rfl | exact cGeq rfl rfl rfl | exact cEql rfl rfl rfl | exact cNeq rfl rfl rfl | exact cExtract rfl rfl rfl)
             rotate_left))
    intro a w4 hF hb hN
    have hBs := hB.size
    replace hB := hB.trans (hb.mono hB.size)
    dsimp only [ext, Option.getD] at hF
    repeat (first | with_reducible refine wp_seq ?_ | with_reducible refine nThen ?_ | with_reducible refine nBlk ?_ | with_reducible refine wp_skip ?_ | with_reducible refine wp_block ?_ | with_reducible refine wp_exit ?_ | with_reducible refine xThen ?_ | with_reducible refine xHere ?_ | with_reducible refine xFar (by decide) ?_ | with_reducible refine wp_ret ?_ | with_reducible refine rThen ?_ | with_reducible refine rBlk ?_)
    have hv4 := TL.below hv hB
    refine' reg_all hF ?_ mixed (by kernel_rfl) ?_
    rotate_left
    · repeat (first
          | exact Line.nil
          | (refine' Line.cons rfl (.no rfl rfl rfl rfl rfl rfl) ?_; rotate_left)
          | ((first | refine' Line.cons rfl (.run rfl rfl ?_) ?_ | refine' Line.cons rfl (.yes rfl rfl rfl rfl ?_) ?_)
             any_goals (first | exact cMove rfl rfl | exact cAssign rfl rfl | exact cNot rfl rfl | exact cIndexCl (k := k) rfl (.l rfl hv4) rfl Try.underlying39 info34 (by omega) | exact cLoadCl34 rfl (.t rfl) | exact cCallV1 rfl rfl (.t rfl) hC | exact cPickT rfl rfl rfl | exact cPickF rfl rfl rfl | exact cLss rfl rfl rfl | exact cLeq rfl rfl rfl | exact cGtr rfl rfl rfl | exact cGeq rfl rfl rfl | exact cEql rfl rfl rfl | exact cNeq rfl rfl rfl | exact cExtract rfl rfl rfl)
             rotate_left))
    intro a w5 hF hb hN
    have hBs := hB.size
    replace hB := hB.trans (hb.mono hB.size)
    dsimp only [ext, Option.getD] at hF
    repeat (first | with_reducible refine wp_seq ?_ | with_reducible refine nThen ?_ | with_reducible refine nBlk ?_ | with_reducible refine wp_skip ?_ | with_reducible refine wp_block ?_ | with_reducible refine wp_exit ?_ | with_reducible refine xThen ?_ | with_reducible refine xHere ?_ | with_reducible refine xFar (by decide) ?_ | with_reducible refine wp_ret ?_ | with_reducible refine rThen ?_ | with_reducible refine rBlk ?_)
    refine cond_ty hF rfl (fun hin => ?_) (fun hout => ?_)
    · have hkk : k = k0 := Classical.byContradiction fun h => by
        rw [hlo k (by omega)] at hin
        simp at hin
      subst hkk
      repeat (first | with_reducible refine wp_seq ?_ | with_reducible refine nThen ?_ | with_reducible refine nBlk ?_ | with_reducible refine wp_skip ?_ | with_reducible refine wp_block ?_ | with_reducible refine wp_exit ?_ | with_reducible refine xThen ?_ | with_reducible refine xHere ?_ | with_reducible refine xFar (by decide) ?_ | with_reducible refine wp_ret ?_ | with_reducible refine rThen ?_ | with_reducible refine rBlk ?_)
      refine' reg_all hF ?_ mixed (by kernel_rfl) ?_
      rotate_left
      · repeat (first
            | exact Line.nil
            | (refine' Line.cons rfl (.no rfl rfl rfl rfl rfl rfl) ?_; rotate_left)
            | ((first | refine' Line.cons rfl (.run rfl rfl ?_) ?_ | refine' Line.cons rfl (.yes rfl rfl rfl rfl ?_) ?_)
               any_goals (first | exact cMove rfl rfl | exact cAssign rfl rfl | exact cNot rfl rfl | exact cPickT rfl rfl rfl | exact cPickF rfl rfl rfl | exact cLss rfl rfl rfl | exact cLeq rfl rfl rfl | exact cGtr rfl rfl rfl | exact cGeq rfl rfl rfl | exact cEql rfl rfl rfl | exact cNeq rfl rfl rfl | exact cExtract rfl rfl rfl)
               rotate_left))
      intro a w6 hF hb hN
      have hBs := hB.size
      replace hB := hB.trans (hb.mono hB.size)
      dsimp only [ext, Option.getD] at hF
      repeat (first | with_reducible refine wp_seq ?_ | with_reducible refine nThen ?_ | with_reducible refine nBlk ?_ | with_reducible refine wp_skip ?_ | with_reducible refine wp_block ?_ | with_reducible refine wp_exit ?_ | with_reducible refine xThen ?_ | with_reducible refine xHere ?_ | with_reducible refine xFar (by decide) ?_ | with_reducible refine wp_ret ?_ | with_reducible refine rThen ?_ | with_reducible refine rBlk ?_)
      refine ret1 hF rfl rfl fun z hz => ?_
      exact ⟨z, rfl, hz, hB⟩
    · have hkk : k < k0 := Classical.byContradiction fun h => by
        obtain rfl : k = k0 := by omega
        simp at hout
        exact hne0 (by simpa [List.getD] using hout)
      repeat (first | with_reducible refine wp_seq ?_ | with_reducible refine nThen ?_ | with_reducible refine nBlk ?_ | with_reducible refine wp_skip ?_ | with_reducible refine wp_block ?_ | with_reducible refine wp_exit ?_ | with_reducible refine xThen ?_ | with_reducible refine xHere ?_ | with_reducible refine xFar (by decide) ?_ | with_reducible refine wp_ret ?_ | with_reducible refine rThen ?_ | with_reducible refine rBlk ?_)
      refine' reg_all hF ?_ mixed (by kernel_rfl) ?_
      rotate_left
      · repeat (first
            | exact Line.nil
            | (refine' Line.cons rfl (.no rfl rfl rfl rfl rfl rfl) ?_; rotate_left)
            | ((first | refine' Line.cons rfl (.run rfl rfl ?_) ?_ | refine' Line.cons rfl (.yes rfl rfl rfl rfl ?_) ?_)
               any_goals (first | exact cMove rfl rfl | exact cAssign rfl rfl | exact cNot rfl rfl | exact cAdd (r := ((k + 1 : Nat) : Int)) rfl rfl rfl (by omega) | exact cPickT rfl rfl rfl | exact cPickF rfl rfl rfl | exact cLss rfl rfl rfl | exact cLeq rfl rfl rfl | exact cGtr rfl rfl rfl | exact cGeq rfl rfl rfl | exact cEql rfl rfl rfl | exact cNeq rfl rfl rfl | exact cExtract rfl rfl rfl)
               rotate_left))
      intro a w6 hF hb hN
      have hBs := hB.size
      replace hB := hB.trans (hb.mono hB.size)
      dsimp only [ext, Option.getD] at hF
      repeat (first | with_reducible refine wp_seq ?_ | with_reducible refine nThen ?_ | with_reducible refine nBlk ?_ | with_reducible refine wp_skip ?_ | with_reducible refine wp_block ?_ | with_reducible refine wp_exit ?_ | with_reducible refine xThen ?_ | with_reducible refine xHere ?_ | with_reducible refine xFar (by decide) ?_ | with_reducible refine wp_ret ?_ | with_reducible refine rThen ?_ | with_reducible refine rBlk ?_)
      exact ⟨m - 1, by omega, k + 1, by omega, by omega, hF.keep [0, 1, 7, 8], hB⟩
set_option maxRecDepth 100000 in
theorem contCl_ty (L : List Cl) (hL : L.length ≤ 1000000) : Fn2 Try.prog 80 (Ty.cls 87 L) (Ty.ex zeroFn) (Ty.ex (.bool (!allZ L))) := by
  obtain ⟨r, hr, hI⟩ := idxCl_ty L hL
  refine ⟨fun args w => by kernel_rfl, fun w v u hv hu => ?_⟩
  refine enter_ty 9 [Ty.ex v, Ty.ex zeroFn] Try.func80 rfl (by kernel_rfl) ⟨rfl, hu, trivial⟩ fun a hF => ?_
  have hB := Below.refl w.heap.size w
  repeat (first | with_reducible refine wp_seq ?_ | with_reducible refine nThen ?_ | with_reducible refine nBlk ?_ | with_reducible refine wp_skip ?_ | with_reducible refine wp_block ?_ | with_reducible refine wp_exit ?_ | with_reducible refine xThen ?_ | with_reducible refine xHere ?_ | with_reducible refine xFar (by decide) ?_ | with_reducible refine wp_ret ?_ | with_reducible refine rThen ?_ | with_reducible refine rBlk ?_)
  refine' reg_all hF ?_ mixed (by kernel_rfl) ?_
  rotate_left
  · repeat (first
        | exact Line.nil
        | (refine' Line.cons rfl (.no rfl rfl rfl rfl rfl rfl) ?_; rotate_left)
        | ((first | refine' Line.cons rfl (.run rfl rfl ?_) ?_ | refine' Line.cons rfl (.yes rfl rfl rfl rfl ?_) ?_)
           any_goals (first | exact cMove rfl rfl | exact cAssign rfl rfl | exact cNot rfl rfl | exact cPickT rfl rfl rfl | exact cPickF rfl rfl rfl | exact cLss rfl rfl rfl | exact cLeq rfl rfl rfl | exact cGtr rfl rfl rfl | exact cGeq rfl rfl rfl | exact cEql rfl rfl rfl | exact cNeq rfl rfl rfl | exact cExtract rfl rfl rfl)
           rotate_left))
  intro a w1 hF hb hN
  have hBs := hB.size
  replace hB := hB.trans (hb.mono hB.size)
  dsimp only [ext, Option.getD] at hF
  repeat (first | with_reducible refine wp_seq ?_ | with_reducible refine nThen ?_ | with_reducible refine nBlk ?_ | with_reducible refine wp_skip ?_ | with_reducible refine wp_block ?_ | with_reducible refine wp_exit ?_ | with_reducible refine xThen ?_ | with_reducible refine xHere ?_ | with_reducible refine xFar (by decide) ?_ | with_reducible refine wp_ret ?_ | with_reducible refine rThen ?_ | with_reducible refine rBlk ?_)
  have hv1 := (Ty.cls 87 L).below hv hB
  refine' reg_all hF ?_ mixed (by kernel_rfl) ?_
  rotate_left
  · repeat (first
        | exact Line.nil
        | (refine' Line.cons rfl (.no rfl rfl rfl rfl rfl rfl) ?_; rotate_left)
        | ((first | refine' Line.cons rfl (.run rfl rfl ?_) ?_ | refine' Line.cons rfl (.yes rfl rfl rfl rfl ?_) ?_)
           any_goals (first | exact cMove rfl rfl | exact cAssign rfl rfl | exact cNot rfl rfl | exact cCallH2 rfl (.l rfl hv1) (.t rfl) hI | exact OpOk.b (cGeq rfl rfl rfl) hr | exact cPickT rfl rfl rfl | exact cPickF rfl rfl rfl | exact cLss rfl rfl rfl | exact cLeq rfl rfl rfl | exact cGtr rfl rfl rfl | exact cGeq rfl rfl rfl | exact cEql rfl rfl rfl | exact cNeq rfl rfl rfl | exact cExtract rfl rfl rfl)
           rotate_left))
  intro a w2 hF hb hN
  have hBs := hB.size
  replace hB := hB.trans (hb.mono hB.size)
  dsimp only [ext, Option.getD] at hF
  repeat (first | with_reducible refine wp_seq ?_ | with_reducible refine nThen ?_ | with_reducible refine nBlk ?_ | with_reducible refine wp_skip ?_ | with_reducible refine wp_block ?_ | with_reducible refine wp_exit ?_ | with_reducible refine xThen ?_ | with_reducible refine xHere ?_ | with_reducible refine xFar (by decide) ?_ | with_reducible refine wp_ret ?_ | with_reducible refine rThen ?_ | with_reducible refine rBlk ?_)
  refine ret1 hF rfl rfl fun z hz => ?_
  exact ⟨z, rfl, hz, hB⟩
set_option maxRecDepth 100000 in
theorem tzero_ty (seed : Nat) (L : List Cl) : Fn1 Try.prog 34 (Ty.tab 87 seed L) (Ty.ex (.bool (goodN (L.length : Int) && allZ L))) := by
  refine ⟨fun args w => by kernel_rfl, fun w v ⟨s, hv, hs⟩ => ?_⟩
  subst hv
  have hG := tgood_ty seed L
  by_cases hg : goodN (L.length : Int) = true
  · obtain ⟨N, hN, _, hN2⟩ := goodN_rng hg
    have hC := contCl_ty L (by omega)
    rw [hg] at hG ⊢
    refine enter_ty 11 [Ty.ex (.agg #[.int .u64 (seed : Int), s])] Try.func34 rfl (by kernel_rfl) ⟨rfl, trivial⟩ fun a hF => ?_
    have hB := Below.refl w.heap.size w
    repeat (first | with_reducible refine wp_seq ?_ | with_reducible refine nThen ?_ | with_reducible refine nBlk ?_ | with_reducible refine wp_skip ?_ | with_reducible refine wp_block ?_ | with_reducible refine wp_exit ?_ | with_reducible refine xThen ?_ | with_reducible refine xHere ?_ | with_reducible refine xFar (by decide) ?_ | with_reducible refine wp_ret ?_ | with_reducible refine rThen ?_ | with_reducible refine rBlk ?_)
    refine' reg_all hF ?_ mixed (by kernel_rfl) ?_
    rotate_left
    · repeat (first
          | exact Line.nil
          | (refine' Line.cons rfl (.no rfl rfl rfl rfl rfl rfl) ?_; rotate_left)
          | ((first | refine' Line.cons rfl (.run rfl rfl ?_) ?_ | refine' Line.cons rfl (.yes rfl rfl rfl rfl ?_) ?_)
             any_goals (first | exact cMove rfl rfl | exact cAssign rfl rfl | exact cNot rfl rfl | exact cBoxTab rfl rfl | exact cPickT rfl rfl rfl | exact cPickF rfl rfl rfl | exact cLss rfl rfl rfl | exact cLeq rfl rfl rfl | exact cGtr rfl rfl rfl | exact cGeq rfl rfl rfl | exact cEql rfl rfl rfl | exact cNeq rfl rfl rfl | exact cExtract rfl rfl rfl)
             rotate_left))
    intro a w1 hF hb hN
    have hBs := hB.size
    replace hB := hB.trans (hb.mono hB.size)
    dsimp only [ext, Option.getD] at hF
    repeat (first | with_reducible refine wp_seq ?_ | with_reducible refine nThen ?_ | with_reducible refine nBlk ?_ | with_reducible refine wp_skip ?_ | with_reducible refine wp_block ?_ | with_reducible refine wp_exit ?_ | with_reducible refine xThen ?_ | with_reducible refine xHere ?_ | with_reducible refine xFar (by decide) ?_ | with_reducible refine wp_ret ?_ | with_reducible refine rThen ?_ | with_reducible refine rBlk ?_)
    have hs1 := (Ty.cls 87 L).below hs hB
    have ht1 : (Ty.tab 87 seed L).p w1 (.agg #[.int .u64 (seed : Int), s]) := ⟨s, rfl, hs1⟩
    refine' reg_all hF ?_ mixed (by kernel_rfl) ?_
    rotate_left
    · repeat (first
          | exact Line.nil
          | (refine' Line.cons rfl (.no rfl rfl rfl rfl rfl rfl) ?_; rotate_left)
          | ((first | refine' Line.cons rfl (.run rfl rfl ?_) ?_ | refine' Line.cons rfl (.yes rfl rfl rfl rfl ?_) ?_)
             any_goals (first | exact cMove rfl rfl | exact cAssign rfl rfl | exact cNot rfl rfl | exact cLoadT46 rfl (.t rfl) | exact cCallH1 rfl (.l rfl ht1) hG | exact cFldL46 rfl (.t rfl) | exact cRowOf46 rfl (.t rfl) | exact cCallH2 rfl (.l rfl hs1) (.t rfl) hC | exact cPickT rfl rfl rfl | exact cPickF rfl rfl rfl | exact cLss rfl rfl rfl | exact cLeq rfl rfl rfl | exact cGtr rfl rfl rfl | exact cGeq rfl rfl rfl | exact cEql rfl rfl rfl | exact cNeq rfl rfl rfl | exact cExtract rfl rfl rfl)
             rotate_left))
    intro a w2 hF hb hN
    have hBs := hB.size
    replace hB := hB.trans (hb.mono hB.size)
    dsimp only [ext, Option.getD] at hF
    repeat (first | with_reducible refine wp_seq ?_ | with_reducible refine nThen ?_ | with_reducible refine nBlk ?_ | with_reducible refine wp_skip ?_ | with_reducible refine wp_block ?_ | with_reducible refine wp_exit ?_ | with_reducible refine xThen ?_ | with_reducible refine xHere ?_ | with_reducible refine xFar (by decide) ?_ | with_reducible refine wp_ret ?_ | with_reducible refine rThen ?_ | with_reducible refine rBlk ?_)
    refine ret1 hF rfl rfl fun z hz => ?_
    refine ⟨z, rfl, ?_, hB⟩
    rw [Bool.true_and, show allZ L = !!allZ L by simp]
    exact hz
  · have hg : goodN (L.length : Int) = false := by simpa using hg
    rw [hg] at hG ⊢
    refine enter_ty 11 [Ty.ex (.agg #[.int .u64 (seed : Int), s])] Try.func34 rfl (by kernel_rfl) ⟨rfl, trivial⟩ fun a hF => ?_
    have hB := Below.refl w.heap.size w
    repeat (first | with_reducible refine wp_seq ?_ | with_reducible refine nThen ?_ | with_reducible refine nBlk ?_ | with_reducible refine wp_skip ?_ | with_reducible refine wp_block ?_ | with_reducible refine wp_exit ?_ | with_reducible refine xThen ?_ | with_reducible refine xHere ?_ | with_reducible refine xFar (by decide) ?_ | with_reducible refine wp_ret ?_ | with_reducible refine rThen ?_ | with_reducible refine rBlk ?_)
    refine' reg_all hF ?_ mixed (by kernel_rfl) ?_
    rotate_left
    · repeat (first
          | exact Line.nil
          | (refine' Line.cons rfl (.no rfl rfl rfl rfl rfl rfl) ?_; rotate_left)
          | ((first | refine' Line.cons rfl (.run rfl rfl ?_) ?_ | refine' Line.cons rfl (.yes rfl rfl rfl rfl ?_) ?_)
             any_goals (first | exact cMove rfl rfl | exact cAssign rfl rfl | exact cNot rfl rfl | exact cBoxTab rfl rfl | exact cPickT rfl rfl rfl | exact cPickF rfl rfl rfl | exact cLss rfl rfl rfl | exact cLeq rfl rfl rfl | exact cGtr rfl rfl rfl | exact cGeq rfl rfl rfl | exact cEql rfl rfl rfl | exact cNeq rfl rfl rfl | exact cExtract rfl rfl rfl)
             rotate_left))
    intro a w1 hF hb hN
    have hBs := hB.size
    replace hB := hB.trans (hb.mono hB.size)
    dsimp only [ext, Option.getD] at hF
    repeat (first | with_reducible refine wp_seq ?_ | with_reducible refine nThen ?_ | with_reducible refine nBlk ?_ | with_reducible refine wp_skip ?_ | with_reducible refine wp_block ?_ | with_reducible refine wp_exit ?_ | with_reducible refine xThen ?_ | with_reducible refine xHere ?_ | with_reducible refine xFar (by decide) ?_ | with_reducible refine wp_ret ?_ | with_reducible refine rThen ?_ | with_reducible refine rBlk ?_)
    have hs1 := (Ty.cls 87 L).below hs hB
    have ht1 : (Ty.tab 87 seed L).p w1 (.agg #[.int .u64 (seed : Int), s]) := ⟨s, rfl, hs1⟩
    refine' reg_all hF ?_ mixed (by kernel_rfl) ?_
    rotate_left
    · repeat (first
          | exact Line.nil
          | (refine' Line.cons rfl (.no rfl rfl rfl rfl rfl rfl) ?_; rotate_left)
          | ((first | refine' Line.cons rfl (.run rfl rfl ?_) ?_ | refine' Line.cons rfl (.yes rfl rfl rfl rfl ?_) ?_)
             any_goals (first | exact cMove rfl rfl | exact cAssign rfl rfl | exact cNot rfl rfl | exact cLoadT46 rfl (.t rfl) | exact cCallH1 rfl (.l rfl ht1) hG | exact cPickT rfl rfl rfl | exact cPickF rfl rfl rfl | exact cLss rfl rfl rfl | exact cLeq rfl rfl rfl | exact cGtr rfl rfl rfl | exact cGeq rfl rfl rfl | exact cEql rfl rfl rfl | exact cNeq rfl rfl rfl | exact cExtract rfl rfl rfl)
             rotate_left))
    intro a w2 hF hb hN
    have hBs := hB.size
    replace hB := hB.trans (hb.mono hB.size)
    dsimp only [ext, Option.getD] at hF
    repeat (first | with_reducible refine wp_seq ?_ | with_reducible refine nThen ?_ | with_reducible refine nBlk ?_ | with_reducible refine wp_skip ?_ | with_reducible refine wp_block ?_ | with_reducible refine wp_exit ?_ | with_reducible refine xThen ?_ | with_reducible refine xHere ?_ | with_reducible refine xFar (by decide) ?_ | with_reducible refine wp_ret ?_ | with_reducible refine rThen ?_ | with_reducible refine rBlk ?_)
    refine ret1 hF rfl rfl fun z hz => ?_
    exact ⟨z, rfl, hz, hB⟩
set_option maxRecDepth 100000 in
theorem rzero_ty (seed : Nat) (L : List Cl) (hL : L.length ≤ 1000000) : Fn1 Try.prog 45 (Ty.tab 105 seed L) (Ty.ex (.bool (goodN (L.length : Int) && allZ L))) := by
  refine ⟨fun args w => by kernel_rfl, fun w v ⟨s, hv, hs⟩ => ?_⟩
  subst hv
  have hG := goodCells_ty (L.length : Int)
  let TL := Ty.cls 105 L
  refine enter_ty 22 [Ty.ex (.agg #[.int .u64 (seed : Int), s])] Try.func45 rfl (by kernel_rfl) ⟨rfl, trivial⟩ fun a hF => ?_
  have hB := Below.refl w.heap.size w
  repeat (first | with_reducible refine wp_seq ?_ | with_reducible refine nThen ?_ | with_reducible refine nBlk ?_ | with_reducible refine wp_skip ?_ | with_reducible refine wp_block ?_ | with_reducible refine wp_exit ?_ | with_reducible refine xThen ?_ | with_reducible refine xHere ?_ | with_reducible refine xFar (by decide) ?_ | with_reducible refine wp_ret ?_ | with_reducible refine rThen ?_ | with_reducible refine rBlk ?_)
  refine' reg_all hF ?_ mixed (by kernel_rfl) ?_
  rotate_left
  · repeat (first
        | exact Line.nil
        | (refine' Line.cons rfl (.no rfl rfl rfl rfl rfl rfl) ?_; rotate_left)
        | ((first | refine' Line.cons rfl (.run rfl rfl ?_) ?_ | refine' Line.cons rfl (.yes rfl rfl rfl rfl ?_) ?_)
           any_goals (first | exact cMove rfl rfl | exact cAssign rfl rfl | exact cNot rfl rfl | exact cBoxTab rfl rfl | exact cPickT rfl rfl rfl | exact cPickF rfl rfl rfl | exact cLss rfl rfl rfl | exact cLeq rfl rfl rfl | exact cGtr rfl rfl rfl | exact cGeq rfl rfl rfl | exact cEql rfl rfl rfl | exact cNeq rfl rfl rfl | exact cExtract rfl rfl rfl)
           rotate_left))
  intro a w1 hF hb hN
  have hBs := hB.size
  replace hB := hB.trans (hb.mono hB.size)
  dsimp only [ext, Option.getD] at hF
  repeat (first | with_reducible refine wp_seq ?_ | with_reducible refine nThen ?_ | with_reducible refine nBlk ?_ | with_reducible refine wp_skip ?_ | with_reducible refine wp_block ?_ | with_reducible refine wp_exit ?_ | with_reducible refine xThen ?_ | with_reducible refine xHere ?_ | with_reducible refine xFar (by decide) ?_ | with_reducible refine wp_ret ?_ | with_reducible refine rThen ?_ | with_reducible refine rBlk ?_)
  refine' reg_all hF ?_ mixed (by kernel_rfl) ?_
  rotate_left
  · repeat (first
        | exact Line.nil
        | (refine' Line.cons rfl (.no rfl rfl rfl rfl rfl rfl) ?_; rotate_left)
        | ((first | refine' Line.cons rfl (.run rfl rfl ?_) ?_ | refine' Line.cons rfl (.yes rfl rfl rfl rfl ?_) ?_)
           any_goals (first | exact cMove rfl rfl | exact cAssign rfl rfl | exact cNot rfl rfl | exact cPickT rfl rfl rfl | exact cPickF rfl rfl rfl | exact cLss rfl rfl rfl | exact cLeq rfl rfl rfl | exact cGtr rfl rfl rfl | exact cGeq rfl rfl rfl | exact cEql rfl rfl rfl | exact cNeq rfl rfl rfl | exact cExtract rfl rfl rfl)
           rotate_left))
  intro a w2 hF hb hN
  have hBs := hB.size
  replace hB := hB.trans (hb.mono hB.size)
  dsimp only [ext, Option.getD] at hF
  repeat (first | with_reducible refine wp_seq ?_ | with_reducible refine nThen ?_ | with_reducible refine nBlk ?_ | with_reducible refine wp_skip ?_ | with_reducible refine wp_block ?_ | with_reducible refine wp_exit ?_ | with_reducible refine xThen ?_ | with_reducible refine xHere ?_ | with_reducible refine xFar (by decide) ?_ | with_reducible refine wp_ret ?_ | with_reducible refine rThen ?_ | with_reducible refine rBlk ?_)
  refine loop_ty (fun m a wr => ∃ k : Nat, k + m = L.length ∧ Fr 22 [(1, Ty.at_ 52 [.int .u64 (seed : Int), s]), (3, Ty.ex (.int .i64 (k : Int)))] a wr ∧ Below w.heap.size w wr ∧ ∀ j, j < k → L.getD j default = Cl.zero) L.length ?_ ?_
  · exact ⟨0, by omega, hF.keep [1, 3], hB, fun j hj => by omega⟩
  clear hF hB
  rintro m a wr ⟨k, hk, hF, hB, hlo⟩
  have hsr := TL.below hs hB
  repeat (first | with_reducible refine wp_seq ?_ | with_reducible refine nThen ?_ | with_reducible refine nBlk ?_ | with_reducible refine wp_skip ?_ | with_reducible refine wp_block ?_ | with_reducible refine wp_exit ?_ | with_reducible refine xThen ?_ | with_reducible refine xHere ?_ | with_reducible refine xFar (by decide) ?_ | with_reducible refine wp_ret ?_ | with_reducible refine rThen ?_ | with_reducible refine rBlk ?_)
  refine' reg_all hF ?_ mixed (by kernel_rfl) ?_
  rotate_left
  · repeat (first
        | exact Line.nil
        | (refine' Line.cons rfl (.no rfl rfl rfl rfl rfl rfl) ?_; rotate_left)
        | ((first | refine' Line.cons rfl (.run rfl rfl ?_) ?_ | refine' Line.cons rfl (.yes rfl rfl rfl rfl ?_) ?_)
           any_goals (first | exact cMove rfl rfl | exact cAssign rfl rfl | exact cNot rfl rfl | exact cFldL83 rfl (.t rfl) | exact cRowOf83 rfl (.t rfl) | exact cLenH rfl (.l rfl hsr) (Ty.sl_isSl _ _ _) Try.underlying50 | exact cPickT rfl rfl rfl | exact cPickF rfl rfl rfl | exact cLss rfl rfl rfl | exact cLeq rfl rfl rfl | exact cGtr rfl rfl rfl | exact cGeq rfl rfl rfl | exact cEql rfl rfl rfl | exact cNeq rfl rfl rfl | exact cExtract rfl rfl rfl)
           rotate_left))
  intro a w3 hF hb hN
  have hBs := hB.size
  replace hB := hB.trans (hb.mono hB.size)
  dsimp only [ext, Option.getD] at hF
  repeat (first | with_reducible refine wp_seq ?_ | with_reducible refine nThen ?_ | with_reducible refine nBlk ?_ | with_reducible refine wp_skip ?_ | with_reducible refine wp_block ?_ | with_reducible refine wp_exit ?_ | with_reducible refine xThen ?_ | with_reducible refine xHere ?_ | with_reducible refine xFar (by decide) ?_ | with_reducible refine wp_ret ?_ | with_reducible refine rThen ?_ | with_reducible refine rBlk ?_)
  replace hsr := TL.below hs hB
  refine cond_ty hF rfl (fun hlt => ?_) (fun hge => ?_)
  · have hlt : k < L.length := by have := of_decide_eq_true hlt; omega
    repeat (first | with_reducible refine wp_seq ?_ | with_reducible refine nThen ?_ | with_reducible refine nBlk ?_ | with_reducible refine wp_skip ?_ | with_reducible refine wp_block ?_ | with_reducible refine wp_exit ?_ | with_reducible refine xThen ?_ | with_reducible refine xHere ?_ | with_reducible refine xFar (by decide) ?_ | with_reducible refine wp_ret ?_ | with_reducible refine rThen ?_ | with_reducible refine rBlk ?_)
    refine' reg_all hF ?_ mixed (by kernel_rfl) ?_
    rotate_left
    · repeat (first
          | exact Line.nil
          | (refine' Line.cons rfl (.no rfl rfl rfl rfl rfl rfl) ?_; rotate_left)
          | ((first | refine' Line.cons rfl (.run rfl rfl ?_) ?_ | refine' Line.cons rfl (.yes rfl rfl rfl rfl ?_) ?_)
             any_goals (first | exact cMove rfl rfl | exact cAssign rfl rfl | exact cNot rfl rfl | exact cFldL83 rfl (.t rfl) | exact cRowOf83 rfl (.t rfl) | exact cIndexCl (k := k) rfl (.l rfl hsr) rfl Try.underlying50 info49 hlt | exact cLoadCl49 rfl (.t rfl) | exact cBuildE rfl (fun w => buildZ49 w) | exact cNeqAgg rfl rfl rfl guard49 (fun w => neq_cl49 _ _ w) | exact cPickT rfl rfl rfl | exact cPickF rfl rfl rfl | exact cLss rfl rfl rfl | exact cLeq rfl rfl rfl | exact cGtr rfl rfl rfl | exact cGeq rfl rfl rfl | exact cEql rfl rfl rfl | exact cNeq rfl rfl rfl | exact cExtract rfl rfl rfl)
             rotate_left))
    intro a w4 hF hb hN
    have hBs := hB.size
    replace hB := hB.trans (hb.mono hB.size)
    dsimp only [ext, Option.getD] at hF
    repeat (first | with_reducible refine wp_seq ?_ | with_reducible refine nThen ?_ | with_reducible refine nBlk ?_ | with_reducible refine wp_skip ?_ | with_reducible refine wp_block ?_ | with_reducible refine wp_exit ?_ | with_reducible refine xThen ?_ | with_reducible refine xHere ?_ | with_reducible refine xFar (by decide) ?_ | with_reducible refine wp_ret ?_ | with_reducible refine rThen ?_ | with_reducible refine rBlk ?_)
    refine cond_ty hF rfl (fun hbad => ?_) (fun hok => ?_)
    · have hbad : ¬ L.getD k default = Cl.zero := by simpa using hbad
      repeat (first | with_reducible refine wp_seq ?_ | with_reducible refine nThen ?_ | with_reducible refine nBlk ?_ | with_reducible refine wp_skip ?_ | with_reducible refine wp_block ?_ | with_reducible refine wp_exit ?_ | with_reducible refine xThen ?_ | with_reducible refine xHere ?_ | with_reducible refine xFar (by decide) ?_ | with_reducible refine wp_ret ?_ | with_reducible refine rThen ?_ | with_reducible refine rBlk ?_)
      refine' reg_all hF ?_ mixed (by kernel_rfl) ?_
      rotate_left
      · repeat (first
            | exact Line.nil
            | (refine' Line.cons rfl (.no rfl rfl rfl rfl rfl rfl) ?_; rotate_left)
            | ((first | refine' Line.cons rfl (.run rfl rfl ?_) ?_ | refine' Line.cons rfl (.yes rfl rfl rfl rfl ?_) ?_)
               any_goals (first | exact cMove rfl rfl | exact cAssign rfl rfl | exact cNot rfl rfl | exact cPickT rfl rfl rfl | exact cPickF rfl rfl rfl | exact cLss rfl rfl rfl | exact cLeq rfl rfl rfl | exact cGtr rfl rfl rfl | exact cGeq rfl rfl rfl | exact cEql rfl rfl rfl | exact cNeq rfl rfl rfl | exact cExtract rfl rfl rfl)
               rotate_left))
      intro a w5 hF hb hN
      have hBs := hB.size
      replace hB := hB.trans (hb.mono hB.size)
      dsimp only [ext, Option.getD] at hF
      repeat (first | with_reducible refine wp_seq ?_ | with_reducible refine nThen ?_ | with_reducible refine nBlk ?_ | with_reducible refine wp_skip ?_ | with_reducible refine wp_block ?_ | with_reducible refine wp_exit ?_ | with_reducible refine xThen ?_ | with_reducible refine xHere ?_ | with_reducible refine xFar (by decide) ?_ | with_reducible refine wp_ret ?_ | with_reducible refine rThen ?_ | with_reducible refine rBlk ?_)
      refine ret1 hF rfl rfl fun z hz => ?_
      exact ⟨z, rfl, by rw [allZ_bad hlt hbad, Bool.and_false]; exact hz, hB⟩
    · have hok : L.getD k default = Cl.zero := by simpa using hok
      repeat (first | with_reducible refine wp_seq ?_ | with_reducible refine nThen ?_ | with_reducible refine nBlk ?_ | with_reducible refine wp_skip ?_ | with_reducible refine wp_block ?_ | with_reducible refine wp_exit ?_ | with_reducible refine xThen ?_ | with_reducible refine xHere ?_ | with_reducible refine xFar (by decide) ?_ | with_reducible refine wp_ret ?_ | with_reducible refine rThen ?_ | with_reducible refine rBlk ?_)
      refine' reg_all hF ?_ mixed (by kernel_rfl) ?_
      rotate_left
      · repeat (first
            | exact Line.nil
            | (refine' Line.cons rfl (.no rfl rfl rfl rfl rfl rfl) ?_; rotate_left)
            | ((first | refine' Line.cons rfl (.run rfl rfl ?_) ?_ | refine' Line.cons rfl (.yes rfl rfl rfl rfl ?_) ?_)
               any_goals (first | exact cMove rfl rfl | exact cAssign rfl rfl | exact cNot rfl rfl | exact cAdd (r := ((k + 1 : Nat) : Int)) rfl rfl rfl (by omega) | exact cPickT rfl rfl rfl | exact cPickF rfl rfl rfl | exact cLss rfl rfl rfl | exact cLeq rfl rfl rfl | exact cGtr rfl rfl rfl | exact cGeq rfl rfl rfl | exact cEql rfl rfl rfl | exact cNeq rfl rfl rfl | exact cExtract rfl rfl rfl)
               rotate_left))
      intro a w5 hF hb hN
      have hBs := hB.size
      replace hB := hB.trans (hb.mono hB.size)
      dsimp only [ext, Option.getD] at hF
      repeat (first | with_reducible refine wp_seq ?_ | with_reducible refine nThen ?_ | with_reducible refine nBlk ?_ | with_reducible refine wp_skip ?_ | with_reducible refine wp_block ?_ | with_reducible refine wp_exit ?_ | with_reducible refine xThen ?_ | with_reducible refine xHere ?_ | with_reducible refine xFar (by decide) ?_ | with_reducible refine wp_ret ?_ | with_reducible refine rThen ?_ | with_reducible refine rBlk ?_)
      refine ⟨m - 1, by omega, k + 1, by omega, hF.keep [1, 3], hB, fun j hj => ?_⟩
      by_cases hjk : j < k
      · exact hlo j hjk
      · obtain rfl : j = k := by omega
        exact hok
  · have hge : ¬ k < L.length := by have := of_decide_eq_false hge; omega
    repeat (first | with_reducible refine wp_seq ?_ | with_reducible refine nThen ?_ | with_reducible refine nBlk ?_ | with_reducible refine wp_skip ?_ | with_reducible refine wp_block ?_ | with_reducible refine wp_exit ?_ | with_reducible refine xThen ?_ | with_reducible refine xHere ?_ | with_reducible refine xFar (by decide) ?_ | with_reducible refine wp_ret ?_ | with_reducible refine rThen ?_ | with_reducible refine rBlk ?_)
    refine' reg_all hF ?_ mixed (by kernel_rfl) ?_
    rotate_left
    · repeat (first
          | exact Line.nil
          | (refine' Line.cons rfl (.no rfl rfl rfl rfl rfl rfl) ?_; rotate_left)
          | ((first | refine' Line.cons rfl (.run rfl rfl ?_) ?_ | refine' Line.cons rfl (.yes rfl rfl rfl rfl ?_) ?_)
             any_goals (first | exact cMove rfl rfl | exact cAssign rfl rfl | exact cNot rfl rfl | exact cFldL83 rfl (.t rfl) | exact cRowOf83 rfl (.t rfl) | exact cLenH rfl (.l rfl hsr) (Ty.sl_isSl _ _ _) Try.underlying50 | exact cCall1 rfl rfl hG | exact cPickT rfl rfl rfl | exact cPickF rfl rfl rfl | exact cLss rfl rfl rfl | exact cLeq rfl rfl rfl | exact cGtr rfl rfl rfl | exact cGeq rfl rfl rfl | exact cEql rfl rfl rfl | exact cNeq rfl rfl rfl | exact cExtract rfl rfl rfl)
             rotate_left))
    intro a w4 hF hb hN
    have hBs := hB.size
    replace hB := hB.trans (hb.mono hB.size)
    dsimp only [ext, Option.getD] at hF
    repeat (first | with_reducible refine wp_seq ?_ | with_reducible refine nThen ?_ | with_reducible refine nBlk ?_ | with_reducible refine wp_skip ?_ | with_reducible refine wp_block ?_ | with_reducible refine wp_exit ?_ | with_reducible refine xThen ?_ | with_reducible refine xHere ?_ | with_reducible refine xFar (by decide) ?_ | with_reducible refine wp_ret ?_ | with_reducible refine rThen ?_ | with_reducible refine rBlk ?_)
    refine ret1 hF rfl rfl fun z hz => ?_
    refine ⟨z, rfl, ?_, hB⟩
    rw [allZ_all fun j hj => hlo j (by omega), Bool.and_true]
    exact hz
end Go.Proofs.Ytmlbkcpmgcjblaa

/- The library's contracts, laid at this translation. -/
namespace Go.Proofs.Ytmlbkcpmgcjblaa
open Go.RowKit Go.Shelf

def laysSortS_ren : Go.Shelf.Ren := ⟨fun | 6 => 65 | 15 => 102 | 14 => 101 | 28 => 130 | 29 => 131 | 20 => 122 | 21 => 123 | 22 => 124 | 23 => 125 | 24 => 126 | 25 => 127 | 26 => 128 | 27 => 129 | 46 => 137 | 47 => 138 | 48 => 139 | 49 => 140 | 50 => 141 | 57 => 142 | n => n, fun | 22 => 24 | 24 => 34 | 25 => 91 | 3 => 3 | 39 => 112 | 0 => 0 | 53 => 115 | 55 => 38 | 4 => 4 | 46 => 159 | 45 => 158 | 50 => 135 | 5 => 5 | 9 => 9 | 66 => 168 | 70 => 172 | 76 => 174 | 77 => 175 | n => n, fun | n => n⟩
theorem laysSortS : Go.Proofs.SlLaysF0.n6 Try.prog laysSortS_ren := {
  mixed := by kernel_rfl
  f6 := ⟨Try.f65.name, by decide, Try.func65.trans (congrArg some (by kernel_rfl))⟩
  f14 := ⟨Try.f101.name, by decide, Try.func101.trans (congrArg some (by kernel_rfl))⟩
  f15 := Try.func102.trans (congrArg some (by kernel_rfl))
  f20 := ⟨Try.f122.name, by decide, Try.func122.trans (congrArg some (by kernel_rfl))⟩
  f21 := ⟨Try.f123.name, by decide, Try.func123.trans (congrArg some (by kernel_rfl))⟩
  f22 := ⟨Try.f124.name, by decide, Try.func124.trans (congrArg some (by kernel_rfl))⟩
  f23 := ⟨Try.f125.name, by decide, Try.func125.trans (congrArg some (by kernel_rfl))⟩
  f24 := ⟨Try.f126.name, by decide, Try.func126.trans (congrArg some (by kernel_rfl))⟩
  f25 := ⟨Try.f127.name, by decide, Try.func127.trans (congrArg some (by kernel_rfl))⟩
  f26 := ⟨Try.f128.name, by decide, Try.func128.trans (congrArg some (by kernel_rfl))⟩
  f27 := ⟨Try.f129.name, by decide, Try.func129.trans (congrArg some (by kernel_rfl))⟩
  f28 := Try.func130.trans (congrArg some (by kernel_rfl))
  f29 := Try.func131.trans (congrArg some (by kernel_rfl))
  f46 := ⟨Try.f137.name, by decide, Try.func137.trans (congrArg some (by kernel_rfl))⟩
  f47 := Try.func138.trans (congrArg some (by kernel_rfl))
  f48 := Try.func139.trans (congrArg some (by kernel_rfl))
  f49 := ⟨Try.f140.name, by decide, Try.func140.trans (congrArg some (by kernel_rfl))⟩
  f50 := ⟨Try.f141.name, by decide, Try.func141.trans (congrArg some (by kernel_rfl))⟩
  f57 := ⟨Try.f142.name, by decide, Try.func142.trans (congrArg some (by kernel_rfl))⟩
  t0 := Try.underlying0
  a0 := Try.isAgg0
  z0 := Try.sizeOf0
  v0 := Try.zeroValue0
  t3 := Try.underlying3
  a3 := Try.isAgg3
  z3 := Try.sizeOf3
  v3 := Try.zeroValue3
  t4 := Try.underlying4
  a4 := Try.isAgg4
  z4 := Try.sizeOf4
  v4 := Try.zeroValue4
  t5 := Try.underlying5
  a5 := Try.isAgg5
  z5 := Try.sizeOf5
  v5 := Try.zeroValue5
  t9 := Try.underlying9
  a9 := Try.isAgg9
  z9 := Try.sizeOf9
  v9 := Try.zeroValue9
  t22 := Try.underlying24
  a22 := Try.isAgg24
  z22 := Try.sizeOf24
  v22 := Try.zeroValue24
  t25 := Try.underlying91
  a25 := Try.isAgg91
  z25 := Try.sizeOf91
  v25 := Try.zeroValue91
  t39 := Try.underlying112
  a39 := Try.isAgg112
  z39 := Try.sizeOf112
  v39 := Try.zeroValue112
  t45 := Try.underlying158
  a45 := Try.isAgg158
  z45 := Try.sizeOf158
  v45 := Try.zeroValue158
  t46 := Try.underlying159
  a46 := Try.isAgg159
  z46 := Try.sizeOf159
  v46 := Try.zeroValue159
  t50 := Try.underlying135
  a50 := Try.isAgg135
  z50 := Try.sizeOf135
  v50 := Try.zeroValue135
  t53 := Try.underlying115
  a53 := Try.isAgg115
  z53 := Try.sizeOf115
  v53 := Try.zeroValue115
  t55 := Try.underlying38
  a55 := Try.isAgg38
  z55 := Try.sizeOf38
  v55 := Try.zeroValue38
  t66 := Try.underlying168
  a66 := Try.isAgg168
  z66 := Try.sizeOf168
  v66 := Try.zeroValue168
  t70 := Try.underlying172
  a70 := Try.isAgg172
  z70 := Try.sizeOf172
  v70 := Try.zeroValue172
  t76 := Try.underlying174
  a76 := Try.isAgg174
  z76 := Try.sizeOf174
  v76 := Try.zeroValue174
  t77 := Try.underlying175
  a77 := Try.isAgg175
  z77 := Try.sizeOf175
  v77 := Try.zeroValue175 }
end Go.Proofs.Ytmlbkcpmgcjblaa

/- Layer 10: SortFunc by the library's contract; Compact; Of. -/
namespace Go.Proofs.Ytmlbkcpmgcjblaa
open Go.RowKit

theorem rd_box {w : World} {g : Nat} {t : TypeId} {l : List Nat} (h : Blk w g t (u8s l)) : Rd w (some ⟨g, 0, none⟩) (l.map bv) := by
  have := Rd.of_blk0 h
  simpa [u8s] using this
set_option maxRecDepth 100000 in
/-- Sum.Cmp, its world to the letter. -/
theorem cmpW (x y : Sm) (w : World) : Calls Try.prog 66 #[.agg (u8s x.l), .agg (u8s y.l)] w fun e w' => e = .returned (.int .i64 (cmpL x.l y.l)) ∧ ∃ q os, w' = Sort.grow (w.drewN q) os := by
  have h0 : Blk ((w.alloc (.cells (u8s x.l) 34)).alloc (.cells (u8s y.l) 34)) w.heap.size 34 (u8s x.l) := (Blk.new w _ _).alloc _
  have h1 : Blk ((w.alloc (.cells (u8s x.l) 34)).alloc (.cells (u8s y.l) 34)) (w.heap.size + 1) 34 (u8s y.l) := Blk.newAt (w.alloc _) _ _ _ (by simp)
  have hc : ∀ n, Calls Try.prog 103 #[.slice (some ⟨w.heap.size, 0, none⟩) 32 32, .slice (some ⟨w.heap.size + 1, 0, none⟩) 32 32] (((w.alloc (.cells (u8s x.l) 34)).alloc (.cells (u8s y.l) 34)).drewN n)
      fun e w' => e = .returned (.int .i64 (cmpL x.l y.l)) ∧ w' = (((w.alloc (.cells (u8s x.l) 34)).alloc (.cells (u8s y.l) 34)).drewN n) := fun n =>
    Compare_any _ _ 32 32 32 32 x.l y.l _ x.len y.len (rd_box (h0.drewN n)) (rd_box (h1.drewN n)) (by simp) (by simp) x.lt y.lt
  have HC := Lib.hid hc
  clear hc h0 h1
  generalize cmpL x.l y.l = r at *
  go_enter Try.func66, Try.ntmps66
  go_wp2_with fail
  go_quiet ((go_at_call 103; exact Calls.quiet_of_same (HC.out _)))
  go_wp2_with fail
  go_ret
  exact ⟨rfl, _, _, by rw [Sort.alloc_eq_grow, Sort.alloc_eq_grow, Sort.grow_grow]; rfl⟩

/-! ### Sorted -/
def ltS (x y : Sm) : Bool := decide (cmpL x.l y.l < 0)
def sortL (D : List Sm) : List Sm := D.mergeSort fun x y => !ltS y x
theorem sortL_len (D : List Sm) : (sortL D).length = D.length := by simp [sortL]
theorem ltS_swo : Sort.SWO (ltOf fun x y : Sm => cmpL x.l y.l) where
  irrefl x := by
    show decide (cmpL x.l x.l < 0) = false
    rw [(cmpL_eq x.l x.l).2 rfl]
    rfl
  trans x y z h1 h2 := by
    unfold ltOf at *
    simp only [decide_eq_true_eq] at *
    exact (cmpL_trans x.l y.l z.l (by omega) (by omega)).2 (.inl h1)
  ntrans x y z h1 h2 := by
    unfold ltOf at *
    simp only [decide_eq_false_iff_not] at *
    have s1 := cmpL_swap x.l y.l
    have s2 := cmpL_swap y.l z.l
    have s3 := cmpL_swap x.l z.l
    have := (cmpL_trans z.l y.l x.l (by omega) (by omega)).1
    omega
theorem flatK_flat (D : List Sm) : Sort.flatK Sm.enc 32 D.toArray = (flat D).toArray := by
  refine Sort.ext_get! (by simp [flat_len]) fun t ht => ?_
  have ht' : t < D.length * 32 := by simpa using ht
  have hq : t / 32 < D.length := by omega
  rw [Sort.get_flatK _ _ _ _ (by simpa using ht')]
  have e1 : D.toArray[t / 32]! = D.getD (t / 32) default := by simp [List.getD, hq]
  have hfl := flat_at D hq
  have hg : (flat D)[t]? = (D.getD (t / 32) default).enc[t % 32]? := by
    have h1 : ((flat D).drop (t / 32 * 32))[t % 32]? = (flat D)[t]? := by rw [List.getElem?_drop]; congr 1; omega
    rw [← h1, hfl, List.getElem?_append_left (by rw [enc_len]; omega)]
  rw [e1]
  have h2 : t % 32 < (D.getD (t / 32) default).enc.length := by rw [enc_len]; omega
  have h3 : t < (flat D).length := by rw [flat_len]; exact ht'
  rw [getElem!_pos (D.getD (t / 32) default).enc (t % 32) h2]
  rw [getElem!_pos (flat D).toArray t (by simpa using h3)]
  rw [List.getElem?_eq_getElem h3, List.getElem?_eq_getElem h2] at hg
  injection hg with hg
  simpa using hg.symm
theorem holds_seg {w : World} {e : TypeId} {g off cap : Nat} {D : List Sm} (h : SegL w e 32 g off D.length cap (flat D)) : Sort.HoldsK Sm.enc 32 w g off D.toArray := by
  obtain ⟨hl, hn, hm, cs, hb, hs, hx⟩ := h
  unfold Sort.HoldsK
  rw [flatK_flat]
  intro j hj
  have hj' : j < (flat D).length := by simpa using hj
  have hj2 : j < D.length * 32 := by rw [← flat_len]; exact hj'
  refine ⟨?_, hb.frozen _⟩
  rw [hb.cell, hx j hj2, List.getElem?_eq_getElem hj', getElem!_pos (flat D).toArray j hj]
  simp
theorem seg_sorted {w : World} {e : TypeId} {g off cap n : Nat} {D : List Sm} (D' : List Sm) (os : Array Obj) (h : SegL w e 32 g off D.length cap (flat D)) (hl' : D'.length = D.length) :
    SegL (sortWorldK Sm.enc 32 w g off n D'.toArray os) e 32 g off D.length cap (flat D') ∧ Keeps [g] w (sortWorldK Sm.enc 32 w g off n D'.toArray os) := by
  obtain ⟨hl, hn, hm, cs, hb, hs, hx⟩ := h
  have hle : D.length * 32 ≤ cap * 32 := Nat.mul_le_mul_right _ hn
  unfold sortWorldK Sort.putRowK
  rw [flatK_flat]
  have hfl : (flat D').length = D.length * 32 := by rw [flat_len, hl']
  have hsz : ∀ W : World, (Sort.putRow id W g off (flat D').toArray).heap.size = W.heap.size := fun W => Sort.size_putRow id W g off _
  have hblk : (Sort.grow (Sort.putRow id (Sort.ahead w n) g off (flat D').toArray) os).heap[g]? = some (.cells (Sort.putCells id off (flat D').toArray cs) e (0, 0)) := by
    have hgl : g < (Sort.putRow id (Sort.ahead w n) g off (flat D').toArray).heap.size := by rw [hsz]; exact hb.lt
    unfold Sort.grow
    simp only []
    rw [Array.getElem?_append_left hgl]
    unfold Sort.putRow Sort.mapBlock
    simp only [Array.getElem?_modify, if_true]
    have : (Sort.ahead w n).heap[g]? = w.heap[g]? := rfl
    rw [this]
    unfold Blk at hb
    rw [hb]
    rfl
  refine ⟨⟨hfl, hn, hm, _, hblk, by simpa [Sort.putCells] using hs, fun j hj => ?_⟩, ⟨rfl, rfl, rfl, ?_, fun k hk hne => ?_⟩⟩
  · unfold Sort.putCells
    have hoj : off + j < cs.size := by omega
    rw [Array.getElem?_mapIdx, Array.getElem?_eq_getElem hoj]
    simp only [Option.map_some]
    have hjf : j < (flat D').length := by omega
    rw [if_pos (by simp; omega), show off + j - off = j by omega, getElem!_pos (flat D').toArray j (by simpa using hjf), List.getElem?_eq_getElem hjf]
    simp
  · show w.heap.size ≤ ((Sort.putRow id (Sort.ahead w n) g off (flat D').toArray).heap ++ os).size
    rw [Array.size_append, hsz]
    exact Nat.le_add_right _ _
  · show ((Sort.putRow id (Sort.ahead w n) g off (flat D').toArray).heap ++ os)[k]? = w.heap[k]?
    rw [Array.getElem?_append_left (by rw [hsz]; exact hk)]
    unfold Sort.putRow Sort.mapBlock
    simp only [Array.getElem?_modify]
    rw [if_neg (fun h => hne (by simp [h]))]
    rfl
theorem sort_any (D : List Sm) (w : World) (g off cap : Nat) (hs : SegL w 34 32 g off D.length cap (flat D)) (hD : D.length ≤ 1000000) :
    Calls Try.prog 65 #[.slice (some ⟨g, off, none⟩) D.length cap, .func (.func 66) #[] #[]] w fun e w' => ∃ u, e = .returned u ∧ SegL w' 34 32 g off D.length cap (flat (sortL D)) ∧ Keeps [g] w w' := by
  have h := AnyQ.slices_SortFunc_total laysSortS 32 Try.isAgg34 Try.sizeOf34 Sm.enc enc_len (fun x v hv => enc_one x v hv) (fun x y : Sm => cmpL x.l y.l) ltS_swo 66 #[] g off cap D.toArray w (fun args w => by kernel_rfl)
    (fun _ _ _ _ x y => cmpW x y _) (holds_seg hs) hs.lt (by simp; omega) (fun x y h1 h2 => by
      unfold ltOf at h1 h2
      simp only [decide_eq_false_iff_not] at h1 h2
      have h3 := cmpL_swap x.l y.l
      exact Sm.ext_l ((cmpL_eq x.l y.l).1 (by omega)))
  refine Calls.mono h fun e w' ⟨he, n, os, hw⟩ => ⟨_, he, ?_⟩
  subst hw
  exact seg_sorted (sortL D) os hs (sortL_len D)
theorem sort_none (w : World) : Calls Try.prog 65 #[.slice none 0 0, .func (.func 66) #[] #[]] w fun e w' => ∃ u, e = .returned u ∧ w' = w :=
  Calls.mono (AnyF.slices_SortFunc_none laysSortS none 0 (.func (.func 66) #[] #[]) w) fun _ _ ⟨h1, h2⟩ => ⟨_, h1, h2⟩
end Go.Proofs.Ytmlbkcpmgcjblaa
