/- Joined: Ty, TyC, TyS, TyB, TyD, TyM, TyF, TyG, TyQ. -/
import Derived.Test.YtibckdnfgopghaaMemO
import Derived.Orders
import Derived.StillTail
import Derived.Test.YtibckdnfgopghaaSm
import Derived.Lib.SliceRun
import Derived.KernelRfl
/- Regions by types: what each operation puts into its slot is told by a type (a property of world and value that stays true while the blocks on which it hangs stand); one derivation, in the order of the text, serves whatever order is drawn. -/
namespace Go.Proofs.Ytibckdnfgopghaa
open Go.RowKit

/-- The blocks of S are of no type that stands in el. -/
def Apart (w : World) (S : List Nat) (el : TypeId → Bool) : Prop := ∀ b ∈ S, b < w.heap.size → ∃ cs t fr, w.heap[b]? = some (.cells cs t fr) ∧ el t = false

/-- A type: a property of world and value; el: the types of the blocks on which it hangs. -/
structure Ty where
  p : World → Value → Prop
  el : TypeId → Bool
  st : ∀ {w w' v S}, p w v → Keeps S w w' → Apart w S el → p w' v
theorem Ty.below (τ : Ty) {w w' : World} {v : Value} (h : τ.p w v) (hb : Below w.heap.size w w') : τ.p w' v :=
  τ.st h (Keeps.of_below (S := []) hb) (fun _ hb => by cases hb)

/-- Just this value. -/
def Ty.ex (v : Value) : Ty := ⟨fun _ u => u = v, fun _ => false, fun h _ _ => h⟩
/-- A new variable of w0: a block of its own. -/
def Ty.var (w0 : World) (t : TypeId) (z : Array Value) : Ty := ⟨fun w u => ∃ g, u = .pointer (some ⟨g, 0, none⟩) ∧ w0.heap.size ≤ g ∧ Blk w g t z, fun u => u == t, fun {w w' v S} h k hA => by
  obtain ⟨g, h1, h2, h3⟩ := h
  refine ⟨g, h1, h2, h3.keeps k (fun hg => ?_)⟩
  obtain ⟨cs, t', fr, h4, h5⟩ := hA g hg h3.lt
  unfold Blk at h3
  rw [h3] at h4
  simp only [Option.some.injEq, Obj.cells.injEq] at h4
  rw [← h4.2.1] at h5
  simp at h5⟩

abbrev Ctx := List (Nat × Ty)
def look : Ctx → Nat → Option Ty
  | [], _ => none
  | p :: Γ, s => bif Nat.beq p.1 s then some p.2 else look Γ s
theorem look_same (d : Nat) (V : Ty) (Γ : Ctx) : look ((d, V) :: Γ) d = some V := by simp [look]
theorem look_ne {d s : Nat} (V : Ty) (Γ : Ctx) (h : d ≠ s) : look ((d, V) :: Γ) s = look Γ s := by
  have : Nat.beq d s = false := by
    cases hb : Nat.beq d s with
    | false => rfl
    | true => exact absurd (Nat.eq_of_beq_eq_true hb) h
  simp [look, this]

/-- A frame of N slots: what the slots hold. -/
structure Fr (N : Nat) (Γ : Ctx) (a : Act) (w : World) : Prop where
  size : a.tmps.size = N
  defers : a.defers = []
  val : ∀ (s : Nat) (τ : Ty), look Γ s = some τ → ∃ v, a.tmps[s]? = some v ∧ τ.p w v
section
variable {N : Nat} {Γ : Ctx} {a : Act} {w w' : World}
theorem Fr.get (h : Fr N Γ a w) {s : Nat} {τ : Ty} (hs : look Γ s = some τ) : ∃ v, a.eval (.tmp s) = v ∧ τ.p w v := by
  obtain ⟨v, h1, h2⟩ := h.val s τ hs
  exact ⟨v, by simp [Act.eval, Array.getD_eq_getD_getElem?, h1], h2⟩
theorem Fr.getEx (h : Fr N Γ a w) {s : Nat} {v : Value} (hs : look Γ s = some (Ty.ex v)) : a.eval (.tmp s) = v := by
  obtain ⟨u, h1, h2⟩ := h.get hs
  exact h1.trans h2
theorem Fr.below (h : Fr N Γ a w) (hb : Below w.heap.size w w') : Fr N Γ a w' :=
  ⟨h.size, h.defers, fun s τ hs => let ⟨v, h1, h2⟩ := h.val s τ hs; ⟨v, h1, τ.below h2 hb⟩⟩
theorem Fr.put (h : Fr N Γ a w) {d : Nat} (hd : d < N) {V : Ty} {v : Value} (hb : Below w.heap.size w w') (hv : V.p w' v) : Fr N ((d, V) :: Γ) (a.put (some d) v) w' := by
  refine ⟨by simp only [Act.put]; simpa using h.size, h.defers, fun s τ hs => ?_⟩
  by_cases hds : d = s
  · subst hds
    rw [look_same] at hs
    injection hs with hs
    subst hs
    refine ⟨v, ?_, hv⟩
    simp only [Act.put]
    rw [Array.getElem?_setIfInBounds_self, if_pos (by rw [h.size]; exact hd)]
  · rw [look_ne _ _ hds] at hs
    obtain ⟨u, h1, h2⟩ := h.val s τ hs
    refine ⟨u, ?_, τ.below h2 hb⟩
    simp only [Act.put]
    rw [Array.getElem?_setIfInBounds_ne hds]
    exact h1
/-- Fewer slots, or other words for them. -/
theorem Fr.nil (h : Fr N Γ a w) : Fr N [] a w := ⟨h.size, h.defers, fun s τ hs => by cases hs⟩
theorem Fr.as {Δ : Ctx} (h : Fr N Γ a w) (hr : Fr N Δ a w) {s : Nat} {τ σ : Ty} (hs : look Γ s = some τ) (hc : ∀ v, τ.p w v → σ.p w v) : Fr N ((s, σ) :: Δ) a w := by
  refine ⟨h.size, h.defers, fun s' τ' hs' => ?_⟩
  by_cases hss : s = s'
  · subst hss
    rw [look_same] at hs'
    injection hs' with hs'
    subst hs'
    obtain ⟨v, h1, h2⟩ := h.val s τ hs
    exact ⟨v, h1, hc v h2⟩
  · rw [look_ne _ _ hss] at hs'
    exact hr.val s' τ' hs'
theorem Fr.too {Δ : Ctx} (h : Fr N Γ a w) (hr : Fr N Δ a w) {s : Nat} {τ : Ty} (hs : look Γ s = some τ) : Fr N ((s, τ) :: Δ) a w := h.as hr hs (fun _ h => h)
/-- A slot's value under a letter. -/
theorem Fr.open (h : Fr N Γ a w) {s : Nat} {τ : Ty} (hs : look Γ s = some τ) : ∃ v, τ.p w v ∧ Fr N ((s, Ty.ex v) :: Γ) a w := by
  obtain ⟨v, h1, h2⟩ := h.val s τ hs
  refine ⟨v, h2, h.size, h.defers, fun s' τ' hs' => ?_⟩
  by_cases hss : s = s'
  · subst hss
    rw [look_same] at hs'
    injection hs' with hs'
    subst hs'
    exact ⟨v, h1, rfl⟩
  · rw [look_ne _ _ hss] at hs'
    exact h.val s' τ' hs'
/-- The world goes on, but for the blocks of S. -/
theorem Fr.keeps (h : Fr N Γ a w) {S : List Nat} (k : Keeps S w w') (hA : ∀ (s : Nat) (τ : Ty), look Γ s = some τ → Apart w S τ.el) : Fr N Γ a w' :=
  ⟨h.size, h.defers, fun s τ hs => let ⟨v, h1, h2⟩ := h.val s τ hs; ⟨v, h1, τ.st h2 k (hA s τ hs)⟩⟩
end

def Oper.reads (o : Oper) : List Nat := o.op.operands.toList.filterMap fun | .tmp t => some t | _ => none

/-- Operation o yields a value of type V, in whatever later world, if the slots that it reads are as Γ says. -/
def OpOk (P : Program) (w0 : World) (Γ : Ctx) (o : Oper) (V : Ty) : Prop :=
  ∀ (a : Act) (w : World) (K : Act → World → Prop) (Q : Exit → Act → World → Prop), Below w0.heap.size w0 w →
    (∀ (s : Nat) (τ : Ty), s ∈ Oper.reads o → look Γ s = some τ → ∃ v, a.tmps[s]? = some v ∧ τ.p w v) →
    (∀ v w', V.p w' v → Below w.heap.size w w' → K (a.put o.dst v) w') → o.wp P a w K Q

def slotOf (ops : Array Oper) (j : Nat) : Option Nat := (ops[j]?).bind (·.dst)

def isNew (o : Oper) : Bool := match o.op with | .alloc _ => true | _ => false

/-- A line: what an operation does to Γ. -/
inductive Fact (P : Program) (ops : Array Oper) (w0 : World) (Γ : Ctx) (o : Oper) (V : Ty) : Prop
  | run (hg : o.guard = none) (hn : isNew o = false) (h : OpOk P w0 Γ o V)
  | yes {j s : Nat} {b : Bool} (hg : o.guard = some (j, b)) (hj : slotOf ops j = some s) (hs : look Γ s = some (Ty.ex (.bool b))) (hn : isNew o = false) (h : OpOk P w0 Γ o V)
  | no {j s : Nat} {b c : Bool} (hg : o.guard = some (j, c)) (hj : slotOf ops j = some s) (hs : look Γ s = some (Ty.ex (.bool b))) (hbc : (b == c) = false) (hn : isNew o = false) (hV : V = Ty.ex undef)
  | new {t : TypeId} {z : Array Value} (hg : o.guard = none) (ho : o.op = .alloc t) (hz : ∀ w : World, (Instr.alloc t true (.tuple #[])).run P w = .ok (.pointer (some ⟨w.heap.size, 0, none⟩)) (w.alloc (.cells z t))) (hV : V = Ty.var w0 t z)

/-- The lines of a region, or of its head. -/
inductive Line (P : Program) (ops : Array Oper) (w0 : World) : Ctx → List Oper → List Ty → Prop
  | nil {Γ : Ctx} : Line P ops w0 Γ [] []
  | cons {Γ : Ctx} {d : Nat} {o : Oper} {V : Ty} {os : List Oper} {Vs : List Ty} (hd : o.dst = some d) (h : Fact P ops w0 Γ o V) (t : Line P ops w0 ((d, V) :: Γ) os Vs) : Line P ops w0 Γ (o :: os) (V :: Vs)
def ext : Ctx → List Oper → List Ty → Ctx
  | Γ, o :: os, V :: Vs => ext ((o.dst.getD 0, V) :: Γ) os Vs
  | Γ, _, _ => Γ

/-- What is asked of a region's order: edges go back; slots are written once; what is read is waited for. -/
def okAt (ops : Array Oper) (N n i : Nat) (o : Oper) : Bool :=
  (o.after.all fun e => !Region.binds .any e || decide (e.on < i)) &&
  (match o.dst with
   | none => false
   | some d => decide (d < N) && (List.range n).all fun j => match ops[j]? with
     | none => false
     | some oj => (j == i) || (oj.dst != some d &&
        (!(oj.looksAt ops).contains d || (if decide (i < j) then Region.waitsFor .any ops j i else Region.waitsFor .any ops i j))))
def regB (ops : Array Oper) (N n : Nat) : Bool := (List.range n).all fun i => match ops[i]? with | none => false | some o => okAt ops N n i o
theorem regB_at {ops : Array Oper} {N n i : Nat} (h : regB ops N n = true) (hi : i < n) : ∃ o d, ops[i]? = some o ∧ o.dst = some d ∧ d < N ∧ (∀ e ∈ o.after, Region.binds .any e = true → e.on < i) ∧
    ∀ (j : Nat) (oj : Oper), j < n → ops[j]? = some oj → j ≠ i → oj.dst ≠ some d ∧ (d ∈ oj.looksAt ops → (i < j → Region.waitsFor .any ops j i = true) ∧ (j < i → Region.waitsFor .any ops i j = true)) := by
  have h1 := List.all_eq_true.1 h i (List.mem_range.2 hi)
  cases ho : ops[i]? with
  | none => rw [ho] at h1; cases h1
  | some o =>
    rw [ho] at h1
    simp only [okAt, Bool.and_eq_true] at h1
    obtain ⟨h2, h3⟩ := h1
    cases hd : o.dst with
    | none => rw [hd] at h3; cases h3
    | some d =>
      rw [hd] at h3
      simp only [Bool.and_eq_true, decide_eq_true_eq] at h3
      refine ⟨o, d, rfl, hd, h3.1, fun e he hb => ?_, fun j oj hj hoj hne => ?_⟩
      · simp only [Array.all_eq_true_iff_forall_mem] at h2
        have := h2 e he
        simp [hb] at this
        exact this
      · have h4 := List.all_eq_true.1 h3.2 j (List.mem_range.2 hj)
        rw [hoj] at h4
        simp only [Bool.or_eq_true, Bool.and_eq_true, beq_iff_eq, bne_iff_ne, ne_eq, Bool.not_eq_true', hne, false_or] at h4
        refine ⟨h4.1, fun hm => ?_⟩
        have h5 := h4.2
        have h6 : ((oj.looksAt ops).contains d) = true := by simpa using hm
        rw [h6] at h5
        simp only [Bool.true_eq_false, false_or] at h5
        refine ⟨fun hlt => ?_, fun hlt => ?_⟩
        · rwa [if_pos (by simpa using hlt)] at h5
        · rwa [if_neg (by simp; omega)] at h5

theorem reads_looksAt {ops : Array Oper} {o : Oper} {s : Nat} (h : s ∈ Oper.reads o) : s ∈ o.looksAt ops := by
  unfold Oper.looksAt
  exact List.mem_append_left _ h
theorem guard_looksAt {ops : Array Oper} {o : Oper} {j s : Nat} {b : Bool} (hg : o.guard = some (j, b)) (hj : slotOf ops j = some s) : s ∈ o.looksAt ops := by
  unfold Oper.looksAt
  refine List.mem_append_right _ ?_
  rw [hg]
  simp only [slotOf] at hj
  simp [hj]

/-- What Γ says of the slots that an operation looks at. -/
def Sees (ops : Array Oper) (Γ : Ctx) (o : Oper) (a : Act) (w : World) : Prop := ∀ (s : Nat) (τ : Ty), s ∈ o.looksAt ops → look Γ s = some τ → ∃ v, a.tmps[s]? = some v ∧ τ.p w v

theorem yielded_of {ops : Array Oper} {a : Act} {j s : Nat} {b : Bool} (hj : slotOf ops j = some s) (hv : a.tmps[s]? = some (.bool b)) : yielded ops a.tmps j = some b := by
  unfold slotOf at hj
  simp [yielded, hj, hv]

section
variable {P : Program} {ops : Array Oper} {w0 : World} {Γ : Ctx} {o : Oper} {V : Ty}
theorem wp_new {K : Act → World → Prop} {Q : Exit → Act → World → Prop} {t : TypeId} {z : Array Value} {a : Act} {w : World} (ho : o.op = .alloc t)
    (hz : (Instr.alloc t true (.tuple #[])).run P w = .ok (.pointer (some ⟨w.heap.size, 0, none⟩)) (w.alloc (.cells z t))) (hK : K (a.put o.dst (.pointer (some ⟨w.heap.size, 0, none⟩))) (w.alloc (.cells z t))) : o.wp P a w K Q := by
  unfold Oper.wp execOp
  simp only [ho, Sem.run_bind, hz, Result.andThen_ok, Sem.run_pure]
  exact hK
/-- A line's operation at work. -/
theorem Fact.at_work (h : Fact P ops w0 Γ o V) {a : Act} {w : World} (hb : Below w0.heap.size w0 w) (hs : Sees ops Γ o a w) (K : Act → World → Prop) (Q : Exit → Act → World → Prop)
    (hK : ∀ v w', V.p w' v → Below w.heap.size w w' → (isNew o = true → v = .pointer (some ⟨w.heap.size, 0, none⟩) ∧ w.heap.size < w'.heap.size) → K (a.put o.dst v) w') :
    if Region.wanted o (yielded ops a.tmps) then o.wp P a w K Q else K (a.put o.dst undef) w := by
  cases h with
  | run hg hn h =>
    rw [if_pos (by simp [Region.wanted, hg])]
    exact h a w K Q hb (fun s τ hr hl => hs s τ (reads_looksAt hr) hl) (fun v w' h1 h2 => hK v w' h1 h2 (fun hn' => by rw [hn] at hn'; cases hn'))
  | @yes j s b hg hj hl hn h =>
    obtain ⟨v, hv, he⟩ := hs s _ (guard_looksAt hg hj) hl
    have he : v = .bool b := he
    subst he
    rw [if_pos (by simp [Region.wanted, hg, yielded_of hj hv])]
    exact h a w K Q hb (fun s τ hr hl => hs s τ (reads_looksAt hr) hl) (fun v w' h1 h2 => hK v w' h1 h2 (fun hn' => by rw [hn] at hn'; cases hn'))
  | @no j s b c hg hj hl hbc hn hV =>
    obtain ⟨v, hv, he⟩ := hs s _ (guard_looksAt hg hj) hl
    have he : v = .bool b := he
    subst he
    rw [if_neg (by cases b <;> cases c <;> simp at hbc <;> simp [Region.wanted, hg, yielded_of hj hv])]
    exact hK undef w (by rw [hV]; rfl) (Below.refl _ _) (fun hn' => by rw [hn] at hn'; cases hn')
  | @new t z hg ho hz hV =>
    rw [if_pos (by simp [Region.wanted, hg])]
    refine wp_new ho (hz w) (hK _ _ ?_ ((Keeps.refl [] w).alloc _).below (fun _ => ⟨rfl, by simp⟩))
    rw [hV]
    exact ⟨_, rfl, hb.size, Blk.new w _ _⟩

theorem Line.at_ {l : List Oper} {Vs : List Ty} (h : Line P ops w0 Γ l Vs) : ∀ (i : Nat) (o : Oper), l[i]? = some o → ∃ V Γi, Vs[i]? = some V ∧ Fact P ops w0 Γi o V ∧
    ∀ (s : Nat) (τ : Ty), look Γi s = some τ → (∃ (j : Nat) (oj : Oper), j < i ∧ l[j]? = some oj ∧ oj.dst = some s ∧ Vs[j]? = some τ) ∨ ((∀ (j : Nat) (oj : Oper), j < i → l[j]? = some oj → oj.dst ≠ some s) ∧ look Γ s = some τ) := by
  induction h with
  | nil => intro i o h; simp at h
  | @cons Γ d o V os Vs hd hF t ih =>
    intro i o' ho'
    cases i with
    | zero =>
      simp only [List.getElem?_cons_zero, Option.some.injEq] at ho'
      subst ho'
      exact ⟨V, Γ, rfl, hF, fun s τ hl => .inr ⟨fun j oj hj => absurd hj (Nat.not_lt_zero _), hl⟩⟩
    | succ i =>
      simp only [List.getElem?_cons_succ] at ho'
      obtain ⟨V', Γi, h1, h2, h3⟩ := ih i o' ho'
      refine ⟨V', Γi, by simpa using h1, h2, fun s τ hl => ?_⟩
      rcases h3 s τ hl with ⟨j, oj, hj, hoj, hds, hVj⟩ | ⟨hno, hlk⟩
      · exact .inl ⟨j + 1, oj, by omega, by simpa using hoj, hds, by simpa using hVj⟩
      · by_cases hds : d = s
        · subst hds
          rw [look_same] at hlk
          injection hlk with hlk
          subst hlk
          exact .inl ⟨0, o, by omega, rfl, hd, rfl⟩
        · rw [look_ne _ _ hds] at hlk
          refine .inr ⟨fun j oj hj hoj => ?_, hlk⟩
          cases j with
          | zero =>
            simp only [List.getElem?_cons_zero, Option.some.injEq] at hoj
            subst hoj
            rw [hd]
            simpa using hds
          | succ j => exact hno j oj (by omega) (by simpa using hoj)
theorem Line.ext_look {l : List Oper} {Vs : List Ty} (h : Line P ops w0 Γ l Vs) : ∀ (s : Nat) (τ : Ty), look (ext Γ l Vs) s = some τ →
    (∃ (j : Nat) (oj : Oper), l[j]? = some oj ∧ oj.dst = some s ∧ Vs[j]? = some τ) ∨ ((∀ (j : Nat) (oj : Oper), l[j]? = some oj → oj.dst ≠ some s) ∧ look Γ s = some τ) := by
  induction h with
  | nil => intro s τ hl; exact .inr ⟨fun j oj h => by simp at h, hl⟩
  | @cons Γ d o V os Vs hd hF t ih =>
    intro s τ hl
    have e : ext Γ (o :: os) (V :: Vs) = ext ((d, V) :: Γ) os Vs := by simp [ext, hd]
    rw [e] at hl
    rcases ih s τ hl with ⟨j, oj, hoj, hds, hVj⟩ | ⟨hno, hlk⟩
    · exact .inl ⟨j + 1, oj, by simpa using hoj, hds, by simpa using hVj⟩
    · by_cases hds : d = s
      · subst hds
        rw [look_same] at hlk
        injection hlk with hlk
        subst hlk
        exact .inl ⟨0, o, rfl, hd, rfl⟩
      · rw [look_ne _ _ hds] at hlk
        refine .inr ⟨fun j oj hoj => ?_, hlk⟩
        cases j with
        | zero =>
          simp only [List.getElem?_cons_zero, Option.some.injEq] at hoj
          subst hoj
          rw [hd]
          simpa using hds
        | succ j => exact hno j oj (by simpa using hoj)
end

/-- Of the operations that are listed. -/
structure TInv (N n : Nat) (l : List Oper) (Vs : List Ty) (a0 : Act) (w0 : World) (listed : Array Bool) (a : Act) (w : World) : Prop where
  below : Below w0.heap.size w0 w
  defers : a.defers = []
  size : a.tmps.size = N
  out : ∀ s, (∀ (j : Nat) (oj : Oper), j < n → listed.getD j false = true → l[j]? = some oj → oj.dst ≠ some s) → a.tmps[s]? = a0.tmps[s]?
  vals : ∀ (j : Nat) (oj : Oper) (d : Nat) (V : Ty), j < n → listed.getD j false = true → l[j]? = some oj → oj.dst = some d → Vs[j]? = some V → ∃ v, a.tmps[d]? = some v ∧ V.p w v ∧ (isNew oj = true → ∃ g, v = .pointer (some ⟨g, 0, none⟩) ∧ g < w.heap.size)
  news : ∀ (i j : Nat) (oi oj : Oper) (di dj : Nat), i < n → j < n → i ≠ j → listed.getD i false = true → listed.getD j false = true → l[i]? = some oi → l[j]? = some oj → isNew oi = true → isNew oj = true → oi.dst = some di → oj.dst = some dj → a.tmps[di]? ≠ a.tmps[dj]?

/-- New variables are unlike. -/
def News (l : List Oper) (a : Act) : Prop := ∀ (i j : Nat) (oi oj : Oper) (di dj : Nat), i ≠ j → l[i]? = some oi → l[j]? = some oj → isNew oi = true → isNew oj = true → oi.dst = some di → oj.dst = some dj → a.tmps[di]? ≠ a.tmps[dj]?

section
variable {P : Program} {w0 : World} {Γ : Ctx} {N n : Nat} {l : List Oper} {Vs : List Ty} {a0 : Act} {ops : Array Oper}
theorem TInv.start (hF : Fr N Γ a0 w0) {w : World} (hb : Below w0.heap.size w0 w) (m : Nat) : TInv N n l Vs a0 w0 (Array.replicate m false) a0 w :=
  ⟨hb, hF.defers, hF.size, fun _ _ => rfl, fun j _ _ _ _ h => (by rw [getD_replicate_false] at h; cases h), fun i _ _ _ _ _ _ _ _ h => (by rw [getD_replicate_false] at h; cases h)⟩
theorem TInv.step (hB : regB ops N n = true) (hl : ∀ i, i < n → l[i]? = ops[i]?) (hL : Line P ops w0 Γ l Vs) (hF : Fr N Γ a0 w0) {listed : Array Bool} {a : Act} {w : World} (hI : TInv N n l Vs a0 w0 listed a w)
    (hsz : listed.size = ops.size) (hcl : ∀ (j : Nat) (oj : Oper), ops[j]? = some oj → listed.getD j false = true → ∀ e ∈ oj.after, Region.binds .any e = true → listed.getD e.on false = true)
    {i : Nat} {o : Oper} (hi : i < n) (ho : ops[i]? = some o) (hun : listed.getD i false = false) (hdep : ∀ e ∈ o.after, Region.binds .any e = true → listed.getD e.on false = true) (K : Act → World → Prop) (Q : Exit → Act → World → Prop)
    (hK : ∀ a' w', TInv N n l Vs a0 w0 (listed.setIfInBounds i true) a' w' → K a' w') :
    if Region.wanted o (yielded ops a.tmps) then o.wp P a w K Q else K (a.put o.dst undef) w := by
  have hli : l[i]? = some o := (hl i hi).trans ho
  obtain ⟨V, Γi, hV, hFa, hlk⟩ := hL.at_ i o hli
  obtain ⟨o', d, ho', hd, hdN, _, hoth⟩ := regB_at hB hi
  obtain rfl : o = o' := Option.some.inj (ho.symm.trans ho')
  have wf : ∀ {p q : Nat} {op : Oper}, ops[p]? = some op → Region.waitsFor .any ops p q = true → ∃ e ∈ op.after, Region.binds .any e = true ∧ e.on = q := fun {p q op} hp hw => by
    obtain ⟨oj, hoj, e, he, hb, hon⟩ := Region.waitsFor_spec hw
    obtain rfl : op = oj := Option.some.inj (hp.symm.trans hoj)
    exact ⟨e, he, hb, hon⟩
  have hsees : Sees ops Γi o a w := by
    intro s τ hs hls
    rcases hlk s τ hls with ⟨j, oj, hj, hoj, hds, hVj⟩ | ⟨hno, hl0⟩
    · have hjn : j < n := by omega
      have hoj' : ops[j]? = some oj := (hl j hjn).symm.trans hoj
      obtain ⟨oj2, dj, hoj2, hdj, _, _, hothj⟩ := regB_at hB hjn
      obtain rfl : oj = oj2 := Option.some.inj (hoj'.symm.trans hoj2)
      obtain rfl : dj = s := Option.some.inj (hdj.symm.trans hds)
      have h1 := ((hothj i o hi ho (by omega)).2 hs).1 hj
      obtain ⟨e, he, hb, hon⟩ := wf ho h1
      have h2 := hdep e he hb
      rw [hon] at h2
      obtain ⟨v, hv1, hv2, _⟩ := hI.vals j oj dj τ hjn h2 hoj hdj hVj
      exact ⟨v, hv1, hv2⟩
    · obtain ⟨v, hv1, hv2⟩ := hF.val s τ hl0
      refine ⟨v, ?_, τ.below hv2 hI.below⟩
      rw [hI.out s (fun k ok hk hlk' hok hdk => ?_)]
      · exact hv1
      · have hok' : ops[k]? = some ok := (hl k hk).symm.trans hok
        have hki : k ≠ i := fun h => by subst h; rw [hun] at hlk'; cases hlk'
        by_cases hlt : k < i
        · exact hno k ok hlt hok hdk
        · obtain ⟨ok2, dk, hok2, hdk2, _, _, hothk⟩ := regB_at hB hk
          obtain rfl : ok = ok2 := Option.some.inj (hok'.symm.trans hok2)
          obtain rfl : dk = s := Option.some.inj (hdk2.symm.trans hdk)
          have h1 := ((hothk i o hi ho (Ne.symm hki)).2 hs).2 (by omega)
          obtain ⟨e, he, hb, hon⟩ := wf hok' h1
          have h2 := hcl k ok hok' hlk' e he hb
          rw [hon, hun] at h2
          cases h2
  refine hFa.at_work hI.below hsees K Q (fun v w' hv hb hnew => hK _ _ ?_)
  rw [hd]
  have hilt : i < listed.size := by rw [hsz]; exact (Array.getElem?_eq_some_iff.1 ho).1
  have hdne : ∀ (j : Nat) (oj : Oper) (dj : Nat), j < n → j ≠ i → l[j]? = some oj → oj.dst = some dj → d ≠ dj := fun j oj dj hj hne hoj hdj h => by
    subst h
    exact (hoth j oj hj ((hl j hj).symm.trans hoj) hne).1 hdj
  refine ⟨hI.below.trans (hb.mono hI.below.size), hI.defers, by simp only [Act.put]; simpa using hI.size, fun s hs => ?_, fun j oj dj Vj hj hlj hoj hdj hVj => ?_, fun p q op oq dp dq hp hq hne hlp hlq hop hoq hnp hnq hdp hdq => ?_⟩
  · have hds : d ≠ s := fun h => hs i o hi (by simp [Array.getD, hilt]) hli (by rw [hd, h])
    simp only [Act.put]
    rw [Array.getElem?_setIfInBounds_ne hds]
    refine hI.out s (fun j oj hj hlj hoj => ?_)
    refine hs j oj hj ?_ hoj
    by_cases hij : i = j
    · subst hij; rw [hun] at hlj; cases hlj
    · rw [getD_set_ne false hij]; exact hlj
  · by_cases hij : i = j
    · subst hij
      obtain rfl : o = oj := Option.some.inj (hli.symm.trans hoj)
      obtain rfl : d = dj := Option.some.inj (hd.symm.trans hdj)
      obtain rfl : V = Vj := Option.some.inj (hV.symm.trans hVj)
      refine ⟨v, ?_, hv, fun hn => ?_⟩
      · simp only [Act.put]
        rw [Array.getElem?_setIfInBounds_self, if_pos (by rw [hI.size]; exact hdN)]
      · obtain ⟨h1, h2⟩ := hnew hn
        exact ⟨_, h1, h2⟩
    · rw [getD_set_ne false hij] at hlj
      obtain ⟨u, h1, h2, h3⟩ := hI.vals j oj dj Vj hj hlj hoj hdj hVj
      refine ⟨u, ?_, Vj.below h2 hb, fun hn => ?_⟩
      · simp only [Act.put]
        rw [Array.getElem?_setIfInBounds_ne (hdne j oj dj hj (Ne.symm hij) hoj hdj)]
        exact h1
      · obtain ⟨g, h4, h5⟩ := h3 hn
        exact ⟨g, h4, Nat.lt_of_lt_of_le h5 hb.size⟩
  · have far : ∀ (j : Nat) (oj : Oper) (dj : Nat), j < n → j ≠ i → l[j]? = some oj → oj.dst = some dj → (a.put (some d) v).tmps[dj]? = a.tmps[dj]? := fun j oj dj hj hji hoj hdj => by
      simp only [Act.put]
      rw [Array.getElem?_setIfInBounds_ne (hdne j oj dj hj hji hoj hdj)]
    have near : (a.put (some d) v).tmps[d]? = some v := by
      simp only [Act.put]
      rw [Array.getElem?_setIfInBounds_self, if_pos (by rw [hI.size]; exact hdN)]
    have lineV : ∀ (j : Nat) (oj : Oper), l[j]? = some oj → ∃ Vj, Vs[j]? = some Vj := fun j oj hoj => let ⟨Vj, _, h, _⟩ := hL.at_ j oj hoj; ⟨Vj, h⟩
    have other : ∀ (j : Nat) (oj : Oper) (dj : Nat), j < n → j ≠ i → listed.getD j false = true → l[j]? = some oj → isNew oj = true → oj.dst = some dj → isNew o = true → a.tmps[dj]? ≠ some v := fun j oj dj hj hji hlj hoj hnj hdj hno h => by
      obtain ⟨Vj, hVj⟩ := lineV j oj hoj
      obtain ⟨u, h1, _, h3⟩ := hI.vals j oj dj Vj hj hlj hoj hdj hVj
      obtain ⟨g, h4, h5⟩ := h3 hnj
      have h6 := (hnew hno).1
      rw [h1] at h
      injection h with h
      rw [h4, h6] at h
      injection h with h
      injection h with h
      injection h with h
      omega
    by_cases hpi : p = i
    · subst hpi
      obtain rfl : o = op := Option.some.inj (hli.symm.trans hop)
      obtain rfl : d = dp := Option.some.inj (hd.symm.trans hdp)
      rw [near, far q oq dq hq (Ne.symm hne) hoq hdq]
      rw [getD_set_ne false hne] at hlq
      exact fun h => other q oq dq hq (Ne.symm hne) hlq hoq hnq hdq hnp h.symm
    · rw [getD_set_ne false (Ne.symm hpi)] at hlp
      by_cases hqi : q = i
      · subst hqi
        obtain rfl : o = oq := Option.some.inj (hli.symm.trans hoq)
        obtain rfl : d = dq := Option.some.inj (hd.symm.trans hdq)
        rw [near, far p op dp hp hpi hop hdp]
        exact other p op dp hp hpi hlp hop hnp hdp hnq
      · rw [getD_set_ne false (Ne.symm hqi)] at hlq
        rw [far p op dp hp hpi hop hdp, far q oq dq hq hqi hoq hdq]
        exact hI.news p q op oq dp dq hp hq hne hlp hlq hop hoq hnp hnq hdp hdq
theorem TInv.all (hL : Line P ops w0 Γ l Vs) (hn : n = l.length) (hF : Fr N Γ a0 w0) {listed : Array Bool} {a : Act} {w : World} (hI : TInv N n l Vs a0 w0 listed a w) (hall : ∀ i, i < n → listed.getD i false = true) :
    Fr N (ext Γ l Vs) a w ∧ News l a := by
  have lt : ∀ (j : Nat) (oj : Oper), l[j]? = some oj → j < n := fun j oj h => by rw [hn]; exact (List.getElem?_eq_some_iff.1 h).1
  refine ⟨⟨hI.size, hI.defers, fun s τ hs => ?_⟩, fun i j oi oj di dj hne hi hj h1 h2 h3 h4 => hI.news i j oi oj di dj (lt i oi hi) (lt j oj hj) hne (hall i (lt i oi hi)) (hall j (lt j oj hj)) hi hj h1 h2 h3 h4⟩
  rcases hL.ext_look s τ hs with ⟨j, oj, hoj, hds, hVj⟩ | ⟨hno, hl0⟩
  · obtain ⟨v, h1, h2, _⟩ := hI.vals j oj s τ (lt j oj hoj) (hall j (lt j oj hoj)) hoj hds hVj
    exact ⟨v, h1, h2⟩
  · obtain ⟨v, hv1, hv2⟩ := hF.val s τ hl0
    exact ⟨v, by rw [hI.out s (fun j oj _ _ hoj => hno j oj hoj)]; exact hv1, τ.below hv2 hI.below⟩
end

/-- How many of the first n are still to come. -/
def wanting (n : Nat) (listed : Array Bool) : Nat := ((List.range n).filter fun i => !listed.getD i false).length
theorem wanting_zero {n : Nat} {listed : Array Bool} (h : wanting n listed = 0) : ∀ i, i < n → listed.getD i false = true := by
  intro i hi
  unfold wanting at h
  have h1 := List.eq_nil_of_length_eq_zero h
  rw [List.filter_eq_nil_iff] at h1
  have := h1 i (List.mem_range.2 hi)
  simpa using this
theorem filter_less_one {l : List Nat} (hd : l.Nodup) {p q : Nat → Bool} {i : Nat} (hi : i ∈ l) (hp : p i = true) (hq : q i = false) (hpq : ∀ j ∈ l, j ≠ i → q j = p j) : (l.filter q).length + 1 = (l.filter p).length := by
  induction l with
  | nil => cases hi
  | cons x l ih =>
    rw [List.nodup_cons] at hd
    by_cases hx : x = i
    · subst hx
      have e : l.filter q = l.filter p := List.filter_congr fun j hj => hpq j (by simp [hj]) (fun h => hd.1 (h ▸ hj))
      rw [List.filter_cons_of_neg (by simp [hq]), List.filter_cons_of_pos hp, e]
      rfl
    · have hi' : i ∈ l := by
        rcases List.mem_cons.1 hi with h | h
        · exact absurd h.symm hx
        · exact h
      have h := ih hd.2 hi' (fun j hj hne => hpq j (by simp [hj]) hne)
      have hqx := hpq x (by simp) hx
      by_cases hpx : p x = true
      · rw [List.filter_cons_of_pos (by rw [hqx]; exact hpx), List.filter_cons_of_pos hpx]
        simp only [List.length_cons]; omega
      · rw [List.filter_cons_of_neg (by rw [hqx]; exact hpx), List.filter_cons_of_neg hpx]
        exact h
theorem wanting_set {n i : Nat} {listed : Array Bool} (hi : i < n) (hl : i < listed.size) (h : listed.getD i false = false) : wanting n (listed.setIfInBounds i true) + 1 = wanting n listed := by
  unfold wanting
  refine filter_less_one List.nodup_range (List.mem_range.2 hi) (by simp [h]) ?_ (fun j _ hne => ?_)
  · simp [Array.getD, hl]
  · rw [getD_set_ne false (Ne.symm hne)]
theorem ready_head {ops : Array Oper} {listed : Array Bool} {n : Nat} (hback : ∀ i o, i < n → ops[i]? = some o → ∀ e ∈ o.after, Region.binds .any e = true → e.on < i) (hn : n ≤ ops.size) (hs : listed.size = ops.size)
    (h : Region.ready .any ops listed = []) : ∀ i, i < n → listed.getD i false = true := by
  intro i
  induction i using Nat.strongRecOn with
  | ind i ih =>
    intro hi
    cases hv : listed.getD i false with
    | true => rfl
    | false =>
      exfalso
      have hio : i < ops.size := by omega
      have hmem : i ∈ Region.ready .any ops listed := mem_ready.2 ⟨by
          have hl : i < listed.size := by omega
          simpa [Array.getD, hl] using hv, ops[i], Array.getElem?_eq_getElem hio, fun e he hb => by
          have h1 := hback i ops[i] hi (Array.getElem?_eq_getElem hio) e he hb
          exact ih e.on h1 (by omega)⟩
      rw [h] at hmem
      cases hmem
theorem all_listed {ops : Array Oper} {n : Nat} {listed : Array Bool} (inv : HeadInv .any ops n listed) (h : ∀ i, i < n → listed.getD i false = true) (hn : n ≤ ops.size) : listed = (List.replicate n true ++ List.replicate (ops.size - n) false).toArray := by
  apply Array.ext_getElem?
  intro i
  have e : (List.replicate n true ++ List.replicate (ops.size - n) false).toArray[i]? = (List.replicate n true ++ List.replicate (ops.size - n) false)[i]? := List.getElem?_toArray ..
  rw [e]
  clear e
  by_cases hi : i < n
  · have h1 := h i hi
    have hl : i < listed.size := by rw [inv.size]; omega
    rw [List.getElem?_append_left (by simpa using hi), List.getElem?_replicate, if_pos hi, Array.getElem?_eq_getElem hl]
    simp [Array.getD, hl] at h1
    rw [h1]
  · by_cases hi2 : i < ops.size
    · have h1 := inv.tail i (by omega) hi2
      have hl : i < listed.size := by rw [inv.size]; omega
      rw [List.getElem?_append_right (by simp; omega), List.getElem?_replicate, if_pos (by simp; omega), Array.getElem?_eq_getElem hl]
      simp [Array.getD, hl] at h1
      rw [h1]
    · rw [Array.getElem?_eq_none (by rw [inv.size]; omega), List.getElem?_eq_none (by simp; omega)]

/-- The order of what stands behind the head. -/
def tailB (ops : Array Oper) (n : Nat) : Bool :=
  if n == ops.size then true else
  decide (n < ops.size) && Region.sinkB .any ops n && Region.chainB .any ops n && Region.seqB .any ops (ops.size - n) n (List.replicate n true ++ List.replicate (ops.size - n) false).toArray

section
variable {P : Program} {w0 : World} {Γ : Ctx} {N : Nat} {Vs : List Ty} {a0 : Act}
/-- **A region by types.** Its first n operations are told by a derivation in the order of the text; the rest goes in the order of the text. -/
theorem region_ty {id : Nat} {Q : Exit → Act → World → Prop} {l : List Oper} {draw : Bool} (n : Nat) (hm : P.follows .mixedOrders = true) (hB : (regB l.toArray N n && tailB l.toArray n) = true) (hF : Fr N Γ a0 w0)
    (hL : Line P l.toArray w0 Γ (l.take n) Vs)
    (hQ : ∀ a w, Fr N (ext Γ (l.take n) Vs) a w → Below w0.heap.size w0 w → News (l.take n) a → wpList P l.toArray Q (l.drop n) a w) : (Code.region id l.toArray draw).wp P Q a0 w0 := by
  rw [Bool.and_eq_true] at hB
  obtain ⟨hB, hT⟩ := hB
  have hsize : l.toArray.size = l.length := by simp
  have hnl : n ≤ l.toArray.size := by
    unfold tailB at hT
    split at hT
    · rename_i h; simp at h; simp [h]
    · simp only [Bool.and_eq_true, decide_eq_true_eq] at hT; omega
  have hlen : n = (l.take n).length := by simp at hnl ⊢; omega
  have hli : ∀ i, i < n → (l.take n)[i]? = l.toArray[i]? := fun i hi => by simp [hi]
  have hback : ∀ i o, i < n → l.toArray[i]? = some o → ∀ e ∈ o.after, Region.binds .any e = true → e.on < i := fun i o hi ho e he hb => by
    obtain ⟨o', d, ho', _, _, h, _⟩ := regB_at hB hi
    obtain rfl : o = o' := Option.some.inj (ho.symm.trans ho')
    exact h e he hb
  have fin : ∀ (listed : Array Bool) a w, TInv N n (l.take n) Vs a0 w0 listed a w → (∀ i, i < n → listed.getD i false = true) → wpList P l.toArray Q (l.drop n) a w := fun listed a w hI hall => by
    obtain ⟨h1, h2⟩ := hI.all hL hlen hF hall
    exact hQ a w h1 hI.below h2
  cases draw with
  | true =>
    have key : ∀ (f : Nat) (listed : Array Bool) (a : Act) (w : World), HeadInv .any l.toArray n listed → wanting n listed = f → TInv N n (l.take n) Vs a0 w0 listed a w → wpAny P .any l.toArray Q (f + (l.toArray.size - n)) listed a w := by
      intro f
      induction f with
      | zero =>
        intro listed a w hH h0 hI
        have hall := wanting_zero h0
        have hdl : (l.drop n).length = l.toArray.size - n := by simp
        have e := all_listed hH hall hnl
        have hseq : Region.seqB .any l.toArray (l.toArray.size - n) n listed = true := by
          unfold tailB at hT
          split at hT
          · rename_i h
            have hz : n = l.toArray.size := by simpa using h
            have h2 : l.toArray.size - n = 0 := by omega
            rw [h2]
            simp only [Region.seqB, List.isEmpty_iff]
            unfold Region.ready
            rw [List.filter_eq_nil_iff]
            intro i hi
            have hi' := List.mem_range.1 hi
            have h3 := hall i (by omega)
            have hil : i < listed.size := by rw [hH.size]; exact hi'
            simp [Array.getD, hil] at h3 ⊢
            simp [h3]
          · simp only [Bool.and_eq_true] at hT
            rw [e]; exact hT.2
        have := wpAny_of_seq (md := .any) (Q' := Q) (l.drop n) n listed a w (fun j => by simp [List.getElem?_drop]) (by rw [hdl]; exact hseq) (fin listed a w hI hall)
        rw [Nat.zero_add]
        rwa [hdl] at this
      | succ f ih =>
        intro listed a w hH h0 hI
        rw [show f + 1 + (l.toArray.size - n) = (f + (l.toArray.size - n)) + 1 by omega]
        have hex : ∃ i, i < n ∧ listed.getD i true = false := by
          refine Classical.byContradiction fun hno => ?_
          have hz : wanting n listed = 0 := by
            unfold wanting
            rw [List.length_eq_zero_iff, List.filter_eq_nil_iff]
            intro i hi
            have hi' := List.mem_range.1 hi
            have hl : i < listed.size := by rw [hH.size]; omega
            have h1 : ¬ listed.getD i true = false := fun h => hno ⟨i, hi', h⟩
            simp [Array.getD, hl] at h1 ⊢
            exact h1
          omega
        obtain ⟨i0, hi0, hun0⟩ := hex
        refine ⟨fun hr => ?_, fun i hi => ?_⟩
        · exfalso
          have := ready_head hback hnl hH.size hr i0 hi0
          rw [getD_both hun0] at this
          cases this
        · obtain ⟨h1, o, ho, h2⟩ := mem_ready.1 hi
          have hin : i < n := Nat.lt_of_not_le fun h => by
            have hio := (Array.getElem?_eq_some_iff.1 ho).1
            unfold tailB at hT
            split at hT
            · rename_i h'; simp at h'; omega
            · simp only [Bool.and_eq_true, decide_eq_true_eq] at hT
              exact tail_waits hT.1.1.2 hT.1.2 hT.1.1.1 hH _ i0 rfl hi0 hun0 i h hi
          have hil : i < listed.size := by rw [hH.size]; omega
          have h3 := TInv.step hB hli hL hF hI hH.size hH.closed hin ho (getD_both h1) h2 (wpAny P .any l.toArray Q (f + (l.toArray.size - n)) (listed.setIfInBounds i true)) Q (fun a' w' hI' => by
            refine ih _ a' w' (hH.set hi hin) ?_ hI'
            have := wanting_set hin hil (getD_both h1)
            omega)
          unfold wpOp
          simp only [ho]
          split
          · rename_i hw
            rw [if_pos hw] at h3
            exact .inl h3
          · rename_i hw
            rw [if_neg hw] at h3
            exact h3
    have inv0 : HeadInv .any l.toArray n (Array.replicate l.toArray.size false) :=
      ⟨by simp, fun j oj _ hl => (by rw [getD_replicate_false] at hl; cases hl), fun t _ ht => getD_in (by simpa using ht) (getD_replicate_false _ _)⟩
    have h0 : wanting n (Array.replicate l.toArray.size false) = n := by
      unfold wanting
      rw [List.filter_eq_self.2 (fun i _ => by rw [getD_replicate_false]; rfl), List.length_range]
    refine wp_region_any hm ?_
    have := key n _ a0 w0.drew inv0 h0 (TInv.start hF (Below.refl _ _).drew _)
    rw [show n + (l.toArray.size - n) = l.toArray.size by omega] at this
    exact this
  | false =>
    have key : ∀ (f k : Nat) (a : Act) (w : World), k + f = n → TInv N n (l.take n) Vs a0 w0 ((List.replicate k true ++ List.replicate (l.toArray.size - k) false).toArray) a w → wpList P l.toArray Q (l.drop k) a w := by
      intro f
      induction f with
      | zero =>
        intro k a w hk hI
        obtain rfl : k = n := by omega
        refine fin _ a w hI (fun i hi => ?_)
        simp [Array.getD, hi]
        omega
      | succ f ih =>
        intro k a w hk hI
        have hkn : k < n := by omega
        have hkl : k < l.length := by omega
        have hdrop : l.drop k = l[k] :: l.drop (k + 1) := by rw [List.drop_eq_getElem_cons hkl]
        have getD_k : ∀ m j, m ≤ l.toArray.size → (List.replicate m true ++ List.replicate (l.toArray.size - m) false).toArray.getD j false = decide (j < m) := fun m j hm => by
          by_cases hj : j < m
          · simp [Array.getD, hj]; omega
          · simp [Array.getD, List.getElem_append, hj]
        have ho : l.toArray[k]? = some l[k] := by simp [hkl]
        have hset : (List.replicate k true ++ List.replicate (l.toArray.size - k) false).toArray.setIfInBounds k true = (List.replicate (k + 1) true ++ List.replicate (l.toArray.size - (k + 1)) false).toArray := by
          apply Array.ext_getElem?
          intro j
          rw [show l.toArray.size - k = (l.toArray.size - (k + 1)) + 1 by omega, List.replicate_succ, List.replicate_succ']
          simp only [List.setIfInBounds_toArray, List.getElem?_toArray, List.append_assoc, List.singleton_append]
          rw [List.set_append_right _ _ (by simp)]
          simp
        rw [hdrop]
        refine wpList_step fun K hK => ?_
        refine TInv.step hB hli hL hF hI (by simp; omega) (fun j oj hj hl e he hb => ?_) hkn ho (by rw [getD_k k k (by omega)]; simp) (fun e he hb => ?_) K Q (fun a' w' hI' => hK a' w' (ih (k + 1) a' w' (by omega) (by rw [← hset]; exact hI')))
        · rw [getD_k k _ (by omega)] at hl ⊢
          simp only [decide_eq_true_eq] at hl ⊢
          have := hback j oj (by omega) hj e he hb
          omega
        · rw [getD_k k _ (by omega)]
          simp only [decide_eq_true_eq]
          exact hback k _ hkn ho e he hb
    refine wp_region_lit ?_
    have := key n 0 a0 w0 (by omega) (by
      have e : (List.replicate 0 true ++ List.replicate (l.toArray.size - 0) false).toArray = Array.replicate l.toArray.size false := by simp
      rw [e]
      exact TInv.start hF (Below.refl _ _) _)
    simpa using this
end
end Go.Proofs.Ytibckdnfgopghaa

/- Regions by types: the lines of single operations; the walk of a function by types: entering, branches, loops, returning. -/
namespace Go.Proofs.Ytibckdnfgopghaa
open Go.RowKit

/-- What Γ says of an operand. -/
def OpT (Γ : Ctx) : Operand → Ty → Prop
  | .tmp s, τ => look Γ s = some τ
  | .const v, τ => Ty.ex v = τ
  | .func f, τ => Ty.ex (.func (.func f) #[] #[]) = τ
  | .global g, τ => Ty.ex (.pointer (some ⟨g, 0, none⟩)) = τ

/-- A call: it returns a value of type V; what lay there lies there. -/
def Ret (P : Program) (f : FuncId) (args : Array Value) (w : World) (V : Ty) : Prop := Calls P f args w fun e w' => ∃ u, e = .returned u ∧ V.p w' u ∧ Below w.heap.size w w'

section
variable {P : Program} {w0 : World} {Γ : Ctx} {o : Oper} {V : Ty}
theorem Ret.mono {f : FuncId} {args : Array Value} {w : World} {τ σ : Ty} (h : Ret P f args w τ) (hc : ∀ w' v, τ.p w' v → σ.p w' v) : Ret P f args w σ :=
  Calls.mono h fun _ _ ⟨u, h1, h2, h3⟩ => ⟨u, h1, hc _ _ h2, h3⟩
theorem Ret.of {f : FuncId} {args : Array Value} {w : World} {v : Value} (h : Calls P f args w fun e w' => e = .returned v ∧ Below w.heap.size w w') : Ret P f args w (Ty.ex v) :=
  Calls.mono h fun _ _ ⟨h1, h2⟩ => ⟨v, h1, rfl, h2⟩
theorem Ret.of_eq {f : FuncId} {args : Array Value} {w : World} {v : Value} (h : Calls P f args w fun e w' => e = .returned v ∧ w = w') : Ret P f args w (Ty.ex v) :=
  Calls.mono h fun _ _ ⟨h1, h2⟩ => ⟨v, h1, rfl, h2 ▸ Below.refl _ _⟩
theorem Ret.of_drew {f : FuncId} {args : Array Value} {w : World} {v : Value} (h : Calls P f args w fun e w' => e = .returned v ∧ ∃ q, w' = w.drewN q) : Ret P f args w (Ty.ex v) :=
  Calls.mono h fun _ _ ⟨h1, q, h2⟩ => ⟨v, h1, rfl, by rw [h2]; exact ((Keeps.refl [] w).drewN q).below⟩

/-- What an operation may know: what Γ says of its operands. -/
def SeesO (Γ : Ctx) (o : Oper) (a : Act) (w : World) : Prop := ∀ x τ, x ∈ o.op.operands.toList → OpT Γ x τ → ∃ v, a.eval x = v ∧ τ.p w v
theorem sees_of {a : Act} {w : World} (h : ∀ (s : Nat) (τ : Ty), s ∈ Oper.reads o → look Γ s = some τ → ∃ v, a.tmps[s]? = some v ∧ τ.p w v) : SeesO Γ o a w := by
  intro x τ hx hT
  cases x with
  | tmp s =>
    obtain ⟨v, h1, h2⟩ := h s τ (by unfold Oper.reads; exact List.mem_filterMap.2 ⟨.tmp s, hx, rfl⟩) hT
    exact ⟨v, by simp [Act.eval, Array.getD_eq_getD_getElem?, h1], h2⟩
  | const v => exact ⟨v, rfl, by rw [← show Ty.ex v = τ from hT]; rfl⟩
  | func f => exact ⟨_, rfl, by rw [← show Ty.ex _ = τ from hT]; rfl⟩
  | «global» g => exact ⟨_, rfl, by rw [← show Ty.ex _ = τ from hT]; rfl⟩
theorem OpOk.val (h : ∀ (a : Act) (w : World), Below w0.heap.size w0 w → SeesO Γ o a w → ∃ v, V.p w v ∧ (execOp a.eval o).run P w = .ok (.value v) w) : OpOk P w0 Γ o V := by
  intro a w K Q hb hs hK
  obtain ⟨v, h1, h2⟩ := h a w hb (sees_of hs)
  unfold Oper.wp
  rw [h2]
  exact hK v w h1 (Below.refl _ _)
theorem OpOk.new (h : ∀ (a : Act) (w : World), Below w0.heap.size w0 w → SeesO Γ o a w → ∃ v w', V.p w' v ∧ Below w.heap.size w w' ∧ (execOp a.eval o).run P w = .ok (.value v) w') : OpOk P w0 Γ o V := by
  intro a w K Q hb hs hK
  obtain ⟨v, w', h1, h2, h3⟩ := h a w hb (sees_of hs)
  unfold Oper.wp
  rw [h3]
  exact hK v w' h1 h2
theorem OpOk.call (h : ∀ (a : Act) (w : World), Below w0.heap.size w0 w → SeesO Γ o a w → ∃ f args, (execOp a.eval o).run P w = .ok (.enter f args) w ∧ Ret P f args w V) : OpOk P w0 Γ o V := by
  intro a w K Q hb hs hK
  obtain ⟨f, args, h1, h2⟩ := h a w hb (sees_of hs)
  unfold Oper.wp
  rw [h1]
  refine Calls.mono h2 fun e w' ⟨u, h3, h4, h5⟩ => ?_
  subst h3
  exact hK u w' h4 h5
theorem OpOk.conv {τ σ : Ty} (h : OpOk P w0 Γ o τ) (hc : ∀ w v, τ.p w v → σ.p w v) : OpOk P w0 Γ o σ :=
  fun a w K Q hb hs hK => h a w K Q hb hs fun v w' h1 h2 => hK v w' (hc _ _ h1) h2

/-! ### Lines -/
theorem cMove {x : Operand} {τ : Ty} (ho : o.op = .move x) (hx : OpT Γ x τ) : OpOk P w0 Γ o τ :=
  .val fun a w _ hs => by
    obtain ⟨v, h1, h2⟩ := hs x τ (by simp [ho, Op.operands]) hx
    exact ⟨v, h2, by unfold execOp; simp [ho, h1]⟩
theorem cAssign {x : Operand} {τ : Ty} (ho : o.op = .assign x) (hx : OpT Γ x τ) : OpOk P w0 Γ o τ :=
  .val fun a w _ hs => by
    obtain ⟨v, h1, h2⟩ := hs x τ (by simp [ho, Op.operands]) hx
    exact ⟨v, h2, by unfold execOp; simp [ho, h1]⟩
theorem cPickT {c x y : Operand} {τ : Ty} (ho : o.op = .pick c x y) (hc : OpT Γ c (Ty.ex (.bool true))) (hx : OpT Γ x τ) : OpOk P w0 Γ o τ :=
  .val fun a w _ hs => by
    obtain ⟨v, h1, h2⟩ := hs x τ (by simp [ho, Op.operands]) hx
    obtain ⟨b, h3, h4⟩ := hs c _ (by simp [ho, Op.operands]) hc
    have h4 : b = .bool true := h4
    exact ⟨v, h2, by unfold execOp; simp [ho, h1, h3, h4, asBool]⟩
theorem cPickF {c x y : Operand} {τ : Ty} (ho : o.op = .pick c x y) (hc : OpT Γ c (Ty.ex (.bool false))) (hy : OpT Γ y τ) : OpOk P w0 Γ o τ :=
  .val fun a w _ hs => by
    obtain ⟨v, h1, h2⟩ := hs y τ (by simp [ho, Op.operands]) hy
    obtain ⟨b, h3, h4⟩ := hs c _ (by simp [ho, Op.operands]) hc
    have h4 : b = .bool false := h4
    exact ⟨v, h2, by unfold execOp; simp [ho, h1, h3, h4, asBool]⟩
theorem cNot {t : TypeId} {x : Operand} {b : Bool} (ho : o.op = .unOp .not t x) (hx : OpT Γ x (Ty.ex (.bool b))) : OpOk P w0 Γ o (Ty.ex (.bool (!b))) :=
  .val fun a w _ hs => by
    obtain ⟨v, h1, h2⟩ := hs x _ (by simp [ho, Op.operands]) hx
    have h2 : v = .bool b := h2
    exact ⟨_, rfl, by unfold execOp; simp [ho, h1, h2, Op.unary]⟩
/-- An operator on two values that are known. -/
theorem cBin {op : BinOp} {t t2 : TypeId} {x y : Operand} {vx vy v : Value} (ho : o.op = .binOp op t x y t2) (hx : OpT Γ x (Ty.ex vx)) (hy : OpT Γ y (Ty.ex vy))
    (hr : ∀ w : World, (do eqGuard op t x y vx vy; binOp op t vx vy : Sem Value).run P w = .ok v w) : OpOk P w0 Γ o (Ty.ex v) :=
  .val fun a w _ hs => by
    obtain ⟨u, h1, h2⟩ := hs x _ (by simp [ho, Op.operands]) hx
    obtain ⟨u', h3, h4⟩ := hs y _ (by simp [ho, Op.operands]) hy
    have h2 : u = vx := h2
    have h4 : u' = vy := h4
    subst h2 h4
    refine ⟨_, rfl, ?_⟩
    have := hr w
    unfold execOp
    simp only [ho, h1, h3]
    rw [Sem.run_bind, this]
    rfl
section
variable {t t2 : TypeId} {x y : Operand} {k : IntKind} {m n : Int}
theorem cLss (ho : o.op = .binOp .lss t x y t2) (hx : OpT Γ x (Ty.ex (.int k m))) (hy : OpT Γ y (Ty.ex (.int k n))) : OpOk P w0 Γ o (Ty.ex (.bool (decide (m < n)))) :=
  cBin ho hx hy fun w => by simp [eqGuard, binOp, Op.intCmp]
theorem cLeq (ho : o.op = .binOp .leq t x y t2) (hx : OpT Γ x (Ty.ex (.int k m))) (hy : OpT Γ y (Ty.ex (.int k n))) : OpOk P w0 Γ o (Ty.ex (.bool (decide (m ≤ n)))) :=
  cBin ho hx hy fun w => by simp [eqGuard, binOp, Op.intCmp]
theorem cGtr (ho : o.op = .binOp .gtr t x y t2) (hx : OpT Γ x (Ty.ex (.int k m))) (hy : OpT Γ y (Ty.ex (.int k n))) : OpOk P w0 Γ o (Ty.ex (.bool (decide (n < m)))) :=
  cBin ho hx hy fun w => by simp [eqGuard, binOp, Op.intCmp]
theorem cGeq (ho : o.op = .binOp .geq t x y t2) (hx : OpT Γ x (Ty.ex (.int k m))) (hy : OpT Γ y (Ty.ex (.int k n))) : OpOk P w0 Γ o (Ty.ex (.bool (decide (n ≤ m)))) :=
  cBin ho hx hy fun w => by simp [eqGuard, binOp, Op.intCmp]
theorem cEql (ho : o.op = .binOp .eql t x y t2) (hx : OpT Γ x (Ty.ex (.int k m))) (hy : OpT Γ y (Ty.ex (.int k n))) : OpOk P w0 Γ o (Ty.ex (.bool (decide (m = n)))) :=
  cBin ho hx hy fun w => by simp [eqGuard, binOp, Op.intCmp]; rfl
theorem cNeq (ho : o.op = .binOp .neq t x y t2) (hx : OpT Γ x (Ty.ex (.int k m))) (hy : OpT Γ y (Ty.ex (.int k n))) : OpOk P w0 Γ o (Ty.ex (.bool (!decide (m = n)))) :=
  cBin ho hx hy fun w => by simp [eqGuard, binOp, Op.intCmp, bne]; rfl
theorem cAddW (ho : o.op = .binOp .add t x y t2) (hx : OpT Γ x (Ty.ex (.int k m))) (hy : OpT Γ y (Ty.ex (.int k n))) : OpOk P w0 Γ o (Ty.ex (.int k (k.wrap (m + n)))) :=
  cBin ho hx hy fun w => by simp [eqGuard, binOp, Op.intArith]
theorem cSubW (ho : o.op = .binOp .sub t x y t2) (hx : OpT Γ x (Ty.ex (.int k m))) (hy : OpT Γ y (Ty.ex (.int k n))) : OpOk P w0 Γ o (Ty.ex (.int k (k.wrap (m - n)))) :=
  cBin ho hx hy fun w => by simp [eqGuard, binOp, Op.intArith]
theorem cMulW (ho : o.op = .binOp .mul t x y t2) (hx : OpT Γ x (Ty.ex (.int k m))) (hy : OpT Γ y (Ty.ex (.int k n))) : OpOk P w0 Γ o (Ty.ex (.int k (k.wrap (m * n)))) :=
  cBin ho hx hy fun w => by simp [eqGuard, binOp, Op.intArith]
theorem cQuoW (ho : o.op = .binOp .quo t x y t2) (hx : OpT Γ x (Ty.ex (.int k m))) (hy : OpT Γ y (Ty.ex (.int k n))) (hn : n ≠ 0) : OpOk P w0 Γ o (Ty.ex (.int k (k.wrap (m.tdiv n)))) :=
  cBin ho hx hy fun w => by simp [eqGuard, binOp, Op.intDiv, hn]
theorem cRem (ho : o.op = .binOp .rem t x y t2) (hx : OpT Γ x (Ty.ex (.int k m))) (hy : OpT Γ y (Ty.ex (.int k n))) (hn : n ≠ 0) : OpOk P w0 Γ o (Ty.ex (.int k (m.tmod n))) :=
  cBin ho hx hy fun w => by simp [eqGuard, binOp, Op.intDiv, hn]
/-- The sum, where it is known to be r. -/
theorem cAdd {r : Int} (ho : o.op = .binOp .add t x y t2) (hx : OpT Γ x (Ty.ex (.int .i64 m))) (hy : OpT Γ y (Ty.ex (.int .i64 n))) (hr : m + n = r ∧ -9223372036854775808 ≤ r ∧ r ≤ 9223372036854775807) : OpOk P w0 Γ o (Ty.ex (.int .i64 r)) := by
  have h := cAddW (P := P) (w0 := w0) ho hx hy
  rwa [IntWalk.i64_in _ (by omega), hr.1] at h
theorem cSub {r : Int} (ho : o.op = .binOp .sub t x y t2) (hx : OpT Γ x (Ty.ex (.int .i64 m))) (hy : OpT Γ y (Ty.ex (.int .i64 n))) (hr : m - n = r ∧ -9223372036854775808 ≤ r ∧ r ≤ 9223372036854775807) : OpOk P w0 Γ o (Ty.ex (.int .i64 r)) := by
  have h := cSubW (P := P) (w0 := w0) ho hx hy
  rwa [IntWalk.i64_in _ (by omega), hr.1] at h
theorem cMul {r : Int} (ho : o.op = .binOp .mul t x y t2) (hx : OpT Γ x (Ty.ex (.int .i64 m))) (hy : OpT Γ y (Ty.ex (.int .i64 n))) (hr : m * n = r ∧ -9223372036854775808 ≤ r ∧ r ≤ 9223372036854775807) : OpOk P w0 Γ o (Ty.ex (.int .i64 r)) := by
  have h := cMulW (P := P) (w0 := w0) ho hx hy
  rwa [hr.1, IntWalk.i64_in _ hr.2] at h
end
theorem cConvInt {src dst : TypeId} {x : Operand} {k j : IntKind} {n : Int} {d : TypeDesc} (ho : o.op = .convert src dst x) (hx : OpT Γ x (Ty.ex (.int j n))) (hs : P.underlying src = some d) (hd : P.underlying dst = some (.int k)) : OpOk P w0 Γ o (Ty.ex (.int k (k.wrap n))) :=
  .val fun a w _ hs' => by
    obtain ⟨v, h1, h2⟩ := hs' x _ (by simp [ho, Op.operands]) hx
    have h2 : v = .int j n := h2
    refine ⟨_, rfl, ?_⟩
    unfold execOp
    simp [ho, h1, h2, convert, run_underlying hs, run_underlying hd, Conv.intToInt]

/-- Slices. -/
def IsSl (τ : Ty) (n : Nat) : Prop := ∀ w v, τ.p w v → ∃ A c, v = .slice A n c
theorem cLen {x : Operand} {τ : Ty} {n : Nat} {t : TypeId} {d : TypeId} (ho : o.op = .call { callee := .builtin .len, args := #[x], argTypes := #[t] }) (hx : OpT Γ x τ) (hl : IsSl τ n) (hu : P.underlying t = some (.slice d)) : OpOk P w0 Γ o (Ty.ex (.int .i64 (n : Int))) :=
  .val fun a w _ hs => by
    obtain ⟨v, h1, h2⟩ := hs x _ (by simp [ho, Op.operands, Call.operands]) hx
    obtain ⟨A, c, rfl⟩ := hl w v h2
    refine ⟨_, rfl, ?_⟩
    unfold execOp
    simp [ho, h1, resolve, invoke, builtin, Builtin.len_, run_underlying hu, goInt]

/-- A tuple's types. -/
def All2 (w : World) : List Value → List Ty → Prop
  | [], [] => True
  | v :: vs, τ :: τs => τ.p w v ∧ All2 w vs τs
  | _, _ => False
theorem All2.st {w w' : World} {S : List Nat} (k : Keeps S w w') : ∀ {vs : List Value} {τs : List Ty}, All2 w vs τs → (∀ τ ∈ τs, Apart w S τ.el) → All2 w' vs τs
  | [], [], _, _ => trivial
  | v :: vs, τ :: τs, h, hA => ⟨τ.st h.1 k (hA τ (by simp)), All2.st k h.2 fun σ hσ => hA σ (by simp [hσ])⟩
  | [], _ :: _, h, _ => h.elim
  | _ :: _, [], h, _ => h.elim
theorem All2.at_ {w : World} : ∀ {vs : List Value} {τs : List Ty} {i : Nat} {τ : Ty}, All2 w vs τs → τs[i]? = some τ → ∃ v, vs[i]? = some v ∧ τ.p w v
  | v :: vs, σ :: τs, 0, τ, h, hi => by
    simp only [List.getElem?_cons_zero, Option.some.injEq] at hi
    subst hi
    exact ⟨v, rfl, h.1⟩
  | v :: vs, σ :: τs, i + 1, τ, h, hi => by
    obtain ⟨u, h1, h2⟩ := All2.at_ (i := i) h.2 (by simpa using hi)
    exact ⟨u, by simpa using h1, h2⟩
  | [], [], i, τ, _, hi => by simp at hi
  | [], _ :: _, _, _, h, _ => h.elim
  | _ :: _, [], _, _, h, _ => h.elim
theorem apart_any {w : World} {S : List Nat} {τs : List Ty} (hA : Apart w S fun t => τs.any fun τ => τ.el t) : ∀ τ ∈ τs, Apart w S τ.el := fun τ hτ b hb hl => by
  obtain ⟨cs, t, fr, h1, h2⟩ := hA b hb hl
  refine ⟨cs, t, fr, h1, ?_⟩
  simp only [List.any_eq_false] at h2
  simpa using h2 τ hτ
def Ty.tup (τs : List Ty) : Ty := ⟨fun w v => ∃ vs : List Value, v = .tuple vs.toArray ∧ All2 w vs τs, fun t => τs.any fun τ => τ.el t, fun ⟨vs, h1, h2⟩ k hA => ⟨vs, h1, h2.st k (apart_any hA)⟩⟩
def Ty.agg (τs : List Ty) : Ty := ⟨fun w v => ∃ vs : List Value, v = .agg vs.toArray ∧ All2 w vs τs, fun t => τs.any fun τ => τ.el t, fun ⟨vs, h1, h2⟩ k hA => ⟨vs, h1, h2.st k (apart_any hA)⟩⟩
theorem cExtract {x : Operand} {τs : List Ty} {i : Nat} {τ : Ty} (ho : o.op = .extract x i) (hx : OpT Γ x (Ty.tup τs)) (hi : τs[i]? = some τ) : OpOk P w0 Γ o τ :=
  .val fun a w _ hs => by
    obtain ⟨v, h1, vs, h2, h3⟩ := hs x _ (by simp [ho, Op.operands]) hx
    obtain ⟨u, h4, h5⟩ := h3.at_ hi
    refine ⟨u, h5, ?_⟩
    unfold execOp
    simp [ho, h1, h2, Instr.extract, h4]

/-! ### Calls -/
def Enters (P : Program) (f : FuncId) : Prop := ∀ (args : Array Value) (w : World), (callFunc f args).run P w = .ok (.enter f args) w
structure Fn0 (P : Program) (f : FuncId) (ρ : Ty) : Prop where
  en : Enters P f
  ret : ∀ w, Ret P f #[] w ρ
structure Fn1 (P : Program) (f : FuncId) (τ ρ : Ty) : Prop where
  en : Enters P f
  ret : ∀ w v, τ.p w v → Ret P f #[v] w ρ
structure Fn2 (P : Program) (f : FuncId) (τ σ ρ : Ty) : Prop where
  en : Enters P f
  ret : ∀ w v u, τ.p w v → σ.p w u → Ret P f #[v, u] w ρ
structure Fn3 (P : Program) (f : FuncId) (τ σ υ ρ : Ty) : Prop where
  en : Enters P f
  ret : ∀ w v u z, τ.p w v → σ.p w u → υ.p w z → Ret P f #[v, u, z] w ρ
theorem exec_go {f : FuncId} {ats : Array TypeId} {xs : Array Operand} (ρ : Operand → Value) (ho : o.op = .call { callee := .value (.func f), args := xs, argTypes := ats }) (hf : ρ (.func f) = .func (.func f) #[] #[]) : execOp ρ o = callFunc f (xs.map ρ) := by
  unfold execOp
  simp only [ho, resolve, hf]
  simp [Deferred.ofValue, invoke]
theorem cCall0 {f : FuncId} {ats : Array TypeId} {ρ : Ty} (ho : o.op = .call { callee := .value (.func f), args := #[], argTypes := ats }) (hc : Fn0 P f ρ) : OpOk P w0 Γ o ρ :=
  .call fun a w _ _ => ⟨f, #[], by rw [exec_go a.eval ho rfl]; simpa using hc.en #[] w, hc.ret w⟩
theorem cCall1 {f : FuncId} {ats : Array TypeId} {x : Operand} {τ ρ : Ty} (ho : o.op = .call { callee := .value (.func f), args := #[x], argTypes := ats }) (hx : OpT Γ x τ) (hc : Fn1 P f τ ρ) : OpOk P w0 Γ o ρ :=
  .call fun a w _ hs => by
    obtain ⟨v, h1, h2⟩ := hs x _ (by simp [ho, Op.operands, Call.operands]) hx
    refine ⟨f, #[v], ?_, hc.ret w v h2⟩
    rw [exec_go a.eval ho rfl]
    simp only [List.map_toArray, List.map_cons, List.map_nil, h1]
    exact hc.en _ w
theorem cCall2 {f : FuncId} {ats : Array TypeId} {x y : Operand} {τ σ ρ : Ty} (ho : o.op = .call { callee := .value (.func f), args := #[x, y], argTypes := ats }) (hx : OpT Γ x τ) (hy : OpT Γ y σ) (hc : Fn2 P f τ σ ρ) : OpOk P w0 Γ o ρ :=
  .call fun a w _ hs => by
    obtain ⟨v, h1, h2⟩ := hs x _ (by simp [ho, Op.operands, Call.operands]) hx
    obtain ⟨u, h3, h4⟩ := hs y _ (by simp [ho, Op.operands, Call.operands]) hy
    refine ⟨f, #[v, u], ?_, hc.ret w v u h2 h4⟩
    rw [exec_go a.eval ho rfl]
    simp only [List.map_toArray, List.map_cons, List.map_nil, h1, h3]
    exact hc.en _ w
theorem cCall3 {f : FuncId} {ats : Array TypeId} {x y z : Operand} {τ σ υ ρ : Ty} (ho : o.op = .call { callee := .value (.func f), args := #[x, y, z], argTypes := ats }) (hx : OpT Γ x τ) (hy : OpT Γ y σ) (hz : OpT Γ z υ) (hc : Fn3 P f τ σ υ ρ) : OpOk P w0 Γ o ρ :=
  .call fun a w _ hs => by
    obtain ⟨v, h1, h2⟩ := hs x _ (by simp [ho, Op.operands, Call.operands]) hx
    obtain ⟨u, h3, h4⟩ := hs y _ (by simp [ho, Op.operands, Call.operands]) hy
    obtain ⟨q, h5, h6⟩ := hs z _ (by simp [ho, Op.operands, Call.operands]) hz
    refine ⟨f, #[v, u, q], ?_, hc.ret w v u q h2 h4 h6⟩
    rw [exec_go a.eval ho rfl]
    simp only [List.map_toArray, List.map_cons, List.map_nil, h1, h3, h5]
    exact hc.en _ w
/-- A call whose contract leans on what lay in w0. -/
theorem cCallW1 {f : FuncId} {ats : Array TypeId} {x : Operand} {τ ρ : Ty} (ho : o.op = .call { callee := .value (.func f), args := #[x], argTypes := ats }) (hx : OpT Γ x τ) (he : Enters P f) (hc : ∀ w v, Below w0.heap.size w0 w → τ.p w v → Ret P f #[v] w ρ) : OpOk P w0 Γ o ρ :=
  .call fun a w hb hs => by
    obtain ⟨v, h1, h2⟩ := hs x _ (by simp [ho, Op.operands, Call.operands]) hx
    refine ⟨f, #[v], ?_, hc w v hb h2⟩
    rw [exec_go a.eval ho rfl]
    simp only [List.map_toArray, List.map_cons, List.map_nil, h1]
    exact he _ w
theorem cCallW2 {f : FuncId} {ats : Array TypeId} {x y : Operand} {τ σ ρ : Ty} (ho : o.op = .call { callee := .value (.func f), args := #[x, y], argTypes := ats }) (hx : OpT Γ x τ) (hy : OpT Γ y σ) (he : Enters P f) (hc : ∀ w v u, Below w0.heap.size w0 w → τ.p w v → σ.p w u → Ret P f #[v, u] w ρ) : OpOk P w0 Γ o ρ :=
  .call fun a w hb hs => by
    obtain ⟨v, h1, h2⟩ := hs x _ (by simp [ho, Op.operands, Call.operands]) hx
    obtain ⟨u, h3, h4⟩ := hs y _ (by simp [ho, Op.operands, Call.operands]) hy
    refine ⟨f, #[v, u], ?_, hc w v u hb h2 h4⟩
    rw [exec_go a.eval ho rfl]
    simp only [List.map_toArray, List.map_cons, List.map_nil, h1, h3]
    exact he _ w
end

/-! ### The walk of a function -/
def ctx0 : Nat → List Ty → Ctx
  | _, [] => []
  | k, τ :: τs => (k, τ) :: ctx0 (k + 1) τs
theorem ctx0_look : ∀ (τs : List Ty) (k s : Nat) (τ : Ty), look (ctx0 k τs) s = some τ → k ≤ s ∧ τs[s - k]? = some τ
  | [], k, s, τ, h => by cases h
  | σ :: τs, k, s, τ, h => by
    by_cases hks : k = s
    · subst hks
      have h' : look ((k, σ) :: ctx0 (k + 1) τs) k = some τ := h
      rw [look_same] at h'
      exact ⟨Nat.le_refl _, by simpa using h'⟩
    · have h' : look ((k, σ) :: ctx0 (k + 1) τs) s = some τ := h
      rw [look_ne _ _ hks] at h'
      obtain ⟨h1, h2⟩ := ctx0_look τs (k + 1) s τ h'
      refine ⟨by omega, ?_⟩
      rw [show s - k = (s - (k + 1)) + 1 by omega, List.getElem?_cons_succ]
      exact h2
section
variable {P : Program} {Γ : Ctx} {N : Nat} {a : Act} {w : World} {Q : Exit → Act → World → Prop}
/-- A function is entered. -/
theorem enter_ty {f : FuncId} {fn : Func} {c : Code} {args : List Value} {R : Ending → World → Prop} (N : Nat) (τs : List Ty) (hf : P.funcs[f]? = some fn) (hb : fn.body = some c) (hN : (fn.ntmps == N && decide (args.length ≤ N)) = true) (hA : All2 w args τs)
    (h : ∀ a, Fr N (ctx0 0 τs) a w → c.wp P (bodyPost P fn R) a w) : Calls P f args.toArray w R := by
  simp only [Bool.and_eq_true, beq_iff_eq, decide_eq_true_eq] at hN
  refine calls_of_wp hf hb (h _ ⟨?_, rfl, fun s τ hs => ?_⟩)
  · simp; omega
  · obtain ⟨_, h1⟩ := ctx0_look τs 0 s τ hs
    obtain ⟨v, h2, h3⟩ := hA.at_ h1
    simp only [Nat.sub_zero] at h2
    refine ⟨v, ?_, h3⟩
    have hl : s < args.length := (List.getElem?_eq_some_iff.1 h2).1
    rw [Array.getElem?_append_left (by simpa using hl)]
    simpa using h2
/-- A branch. -/
theorem cond_ty {s : Nat} {b : Bool} {x y : Code} (hF : Fr N Γ a w) (hs : look Γ s = some (Ty.ex (.bool b))) (ht : b = true → x.wp P Q a w) (hf : b = false → y.wp P Q a w) : (Code.cond (.tmp s) x y).wp P Q a w :=
  wp_cond_split (hF.getEx hs) ht hf
theorem cond_t {s : Nat} {x y : Code} (hF : Fr N Γ a w) (hs : look Γ s = some (Ty.ex (.bool true))) (h : x.wp P Q a w) : (Code.cond (.tmp s) x y).wp P Q a w := wp_cond_true (hF.getEx hs) h
theorem cond_f {s : Nat} {x y : Code} (hF : Fr N Γ a w) (hs : look Γ s = some (Ty.ex (.bool false))) (h : y.wp P Q a w) : (Code.cond (.tmp s) x y).wp P Q a w := wp_cond_false (hF.getEx hs) h
theorem exit_here {id : Nat} (h : Q .normal a w) : (Code.exit id).wp P (Exit.inBlock id Q) a w := wp_exit (by simp only [Exit.inBlock, if_true]; exact h)
theorem exit_far {id j : Nat} (hne : id ≠ j) (h : Q (.exit id) a w) : Exit.inBlock j Q (.exit id) a w := by
  simp only [Exit.inBlock, if_neg hne]
  exact h
/-- A loop: I m holds at the head; m goes down. -/
theorem loop_ty {c : Code} (I : Nat → Act → World → Prop) (m0 : Nat) (h0 : I m0 a w) (round : ∀ m a w, I m a w → c.wp P (Exit.then (fun a' w' => ∃ m', m' < m ∧ I m' a' w') Q) a w) : (Code.loop c).wp P Q a w := by
  intro b k cs
  have key : ∀ (m : Nat) (a : Act) (w : World), I m a w → ∃ e a' w', Q e a' w' ∧ Arrives P (lone (b.at a (.code c :: .inLoop c :: k)) cs w) b k cs e a' w' := by
    intro m
    induction m using Nat.strongRecOn with
    | _ m ih =>
      intro a w hI
      obtain ⟨e, a₁, w₁, hq, harr⟩ := round m a w hI b (.inLoop c :: k) cs
      cases e with
      | normal =>
        obtain ⟨m', hlt, hI₁⟩ := hq
        obtain ⟨e₂, a₂, w₂, hq₂, harr₂⟩ := ih m' hlt a₁ w₁ hI₁
        exact ⟨e₂, a₂, w₂, hq₂, .of_steps (Steps.trans harr (.one step_inLoop)) harr₂⟩
      | exit id => exact ⟨_, a₁, w₁, hq, .pass (x := .inLoop c) rfl (fun _ _ => .inl (by simp)) harr⟩
      | goto l => exact ⟨_, a₁, w₁, hq, .pass (x := .inLoop c) rfl (fun _ _ => .inl (by simp)) harr⟩
      | ret => exact ⟨_, a₁, w₁, hq, .pass (x := .inLoop c) rfl (fun _ _ => .inl (by simp)) harr⟩
      | panic ch => exact ⟨_, a₁, w₁, hq, .pass (x := .inLoop c) rfl (fun _ _ => .inl (by simp)) harr⟩
      | outgrown => exact ⟨_, a₁, w₁, hq, .pass (x := .inLoop c) rfl (fun _ _ => .inl (by simp)) harr⟩
  obtain ⟨e, a', w', hq, harr⟩ := key m0 a w h0
  exact ⟨e, a', w', hq, .of_steps (.one step_loop) harr⟩
/-- A result in a slot. -/
theorem ret1 {fn : Func} {R : Ending → World → Prop} {s : Nat} {τ : Ty} (hF : Fr N Γ a w) (hr : fn.results = #[.tmp s]) (hs : look Γ s = some τ) (h : ∀ v, τ.p w v → R (.returned v) w) : bodyPost P fn R .ret a w := by
  obtain ⟨v, h1, h2⟩ := hF.val s τ hs
  refine bodyPost_ret (v := v) ?_ hF.defers (h v h2)
  simp [results, hr, h1]
theorem ret2 {fn : Func} {R : Ending → World → Prop} {s s2 : Nat} {τ τ2 : Ty} (hF : Fr N Γ a w) (hr : fn.results = #[.tmp s, .tmp s2]) (hs : look Γ s = some τ) (hs2 : look Γ s2 = some τ2) (h : ∀ v u, τ.p w v → τ2.p w u → R (.returned (.tuple #[v, u])) w) : bodyPost P fn R .ret a w := by
  obtain ⟨v, h1, h2⟩ := hF.val s τ hs
  obtain ⟨u, h3, h4⟩ := hF.val s2 τ2 hs2
  refine bodyPost_ret (v := .tuple #[v, u]) ?_ hF.defers (h v u h2 h4)
  simp [results, hr, h1, h3]
/-- A region all of whose operations are lines. -/
theorem reg_all {id : Nat} {l : List Oper} {draw : Bool} {Vs : List Ty} (hF : Fr N Γ a w) (hL : Line P l.toArray w Γ l Vs) (hm : P.follows .mixedOrders = true) (hB : (regB l.toArray N l.length && tailB l.toArray l.length) = true)
    (hQ : ∀ a' w', Fr N (ext Γ l Vs) a' w' → Below w.heap.size w w' → News l a' → Q .normal a' w') : (Code.region id l.toArray draw).wp P Q a w :=
  region_ty l.length hm hB hF (by rw [List.take_length]; exact hL) (fun a' w' h1 h2 h3 => by
    rw [List.take_length] at h1 h3
    rw [List.drop_length]
    exact hQ a' w' h1 h2 h3)
end
end Go.Proofs.Ytibckdnfgopghaa

/- Regions by types: slices, sums: what is read out of them; what is appended; steps behind a region's head. -/
namespace Go.Proofs.Ytibckdnfgopghaa
open Go.RowKit

/-- An operand is of type τ: Γ says so, or it is a letter of which that was known in w0. -/
def Has (w0 : World) (Γ : Ctx) (x : Operand) (τ : Ty) : Prop := ∃ σ, OpT Γ x σ ∧ ∀ w v, Below w0.heap.size w0 w → σ.p w v → τ.p w v
theorem Has.t {w0 : World} {Γ : Ctx} {x : Operand} {τ : Ty} (h : OpT Γ x τ) : Has w0 Γ x τ := ⟨τ, h, fun _ _ _ h => h⟩
theorem Has.l {w0 : World} {Γ : Ctx} {x : Operand} {τ : Ty} {v : Value} (h : OpT Γ x (Ty.ex v)) (hv : τ.p w0 v) : Has w0 Γ x τ := ⟨_, h, fun w u hb e => by have e : u = v := e; subst e; exact τ.below hv hb⟩
theorem Has.see {w0 w : World} {Γ : Ctx} {x : Operand} {τ : Ty} {o : Oper} {a : Act} (h : Has w0 Γ x τ) (hs : SeesO Γ o a w) (hx : x ∈ o.op.operands.toList) (hb : Below w0.heap.size w0 w) : ∃ v, a.eval x = v ∧ τ.p w v := by
  obtain ⟨σ, h1, h2⟩ := h
  obtain ⟨v, h3, h4⟩ := hs x σ hx h1
  exact ⟨v, h3, h2 w v hb h4⟩

/-- A slice of n elements, its memory of type e, that reads xs. -/
def SlP (w : World) (e : TypeId) (v : Value) (n : Nat) (xs : List Value) : Prop :=
  ∃ A c, v = .slice A n c ∧ n ≤ c ∧ c ≤ maxLen ∧ (A = none → n = 0 ∧ c = 0) ∧ ∀ (j : Nat) (u : Value), xs[j]? = some u → ∃ g off cs fr, A = some ⟨g, off, none⟩ ∧ w.heap[g]? = some (.cells cs e fr) ∧ cs[off + j]? = some u
theorem keeps_block {w w' : World} {S : List Nat} (k : Keeps S w w') {el : TypeId → Bool} (hA : Apart w S el) {g : Nat} {cs : Array Value} {e : TypeId} {fr : Nat × Nat} (hg : w.heap[g]? = some (.cells cs e fr)) (he : el e = true) : w'.heap[g]? = some (.cells cs e fr) := by
  have hl : g < w.heap.size := (Array.getElem?_eq_some_iff.1 hg).1
  rw [k.block g hl (fun hm => ?_)]
  · exact hg
  · obtain ⟨cs', t, fr', h1, h2⟩ := hA g hm hl
    rw [hg] at h1
    simp only [Option.some.injEq, Obj.cells.injEq] at h1
    rw [← h1.2.1, he] at h2
    cases h2
def Ty.sl (e : TypeId) (n : Nat) (xs : List Value) : Ty := ⟨fun w v => SlP w e v n xs, fun t => t == e, fun ⟨A, c, h1, h2, h3, h4, h5⟩ k hA => ⟨A, c, h1, h2, h3, h4, fun j u hu =>
  let ⟨g, off, cs, fr, h6, h7, h8⟩ := h5 j u hu; ⟨g, off, cs, fr, h6, keeps_block k hA h7 (by simp), h8⟩⟩⟩
theorem Ty.sl_isSl (e : TypeId) (n : Nat) (xs : List Value) : IsSl (Ty.sl e n xs) n := fun _ _ ⟨A, c, h, _⟩ => ⟨A, c, h⟩
theorem SlP.rd {w : World} {e : TypeId} {A : Option Addr} {n c : Nat} {xs : List Value} (h : SlP w e (.slice A n c) n xs) : Rd w A xs := fun j u hu => by
  obtain ⟨A', c', h1, _, _, _, h5⟩ := h
  injection h1 with h1 _ h2
  subst h1
  obtain ⟨g, off, cs, fr, rfl, h6, h7⟩ := h5 j u hu
  exact ⟨_, rfl, by rw [Addr.add_lit, cell_of_row w g (off + j) cs e fr h6]; exact h7⟩
/-- A slice whose memory is of a type unknown. -/
def Ty.rd (n : Nat) (xs : List Value) : Ty := ⟨fun w v => ∃ A c, v = .slice A n c ∧ n ≤ maxLen ∧ (A = none → n = 0) ∧ Rd w A xs, fun _ => true, fun {w w' v S} h k hA => by
  obtain ⟨A, c, h1, h2, h3, h4⟩ := h
  refine ⟨A, c, h1, h2, h3, fun j u hu => ?_⟩
  obtain ⟨ad, rfl, hc⟩ := h4 j u hu
  have hl := World.block_lt_of_cell? w _ hc
  refine ⟨ad, rfl, (World.cell?_of_block (w := w) (k.block _ hl (fun hm => ?_))).trans hc⟩
  obtain ⟨_, _, _, _, h⟩ := hA _ hm hl
  cases h⟩
theorem Ty.rd_isSl (n : Nat) (xs : List Value) : IsSl (Ty.rd n xs) n := fun _ _ ⟨A, c, h, _⟩ => ⟨A, c, h⟩
/-- A segment, by its blocks' age. -/
theorem Seg.sl {w : World} {e : TypeId} {sz n : Nat} {v : Value} {xs : List Value} {S : List Nat} (h : Seg w e sz v n xs S) : SlP w e v n xs := by
  rcases h with ⟨hl, ⟨rfl, rfl, rfl⟩ | ⟨g, off, cap, cs, rfl, rfl, hb, hs, hn, hm, hx⟩⟩
  · have : xs = [] := List.eq_nil_of_length_eq_zero (by simpa using hl)
    subst this
    refine ⟨none, 0, rfl, Nat.le_refl _, by simp [maxLen], fun _ => ⟨rfl, rfl⟩, fun j u hu => ?_⟩
    simp at hu
  · refine ⟨_, cap, rfl, hn, hm, fun h => (by cases h), fun j u hu => ⟨g, off, cs, (0, 0), rfl, hb, ?_⟩⟩
    have hj : j < n * sz := by rw [← hl]; exact (List.getElem?_eq_some_iff.1 hu).1
    rw [hx j hj, hu]
/-- A slice of the call's own, that may be written and appended to. -/
def Ty.seg (w0 : World) (e : TypeId) (sz n : Nat) (xs : List Value) : Ty := ⟨fun w v => ∃ S, Seg w e sz v n xs S ∧ ∀ y ∈ S, w0.heap.size ≤ y, fun t => t == e, fun {w w' v S'} ⟨S, h1, h2⟩ k hA => by
  refine ⟨S, h1.keeps k (fun x hx hx' => ?_), h2⟩
  rcases h1.2 with ⟨_, _, rfl⟩ | ⟨g, off, cap, cs, _, rfl, hb, _⟩
  · cases hx
  · simp only [List.mem_singleton] at hx
    subst hx
    obtain ⟨cs', t, fr, h3, h4⟩ := hA x hx' hb.lt
    unfold Blk at hb
    rw [hb] at h3
    simp only [Option.some.injEq, Obj.cells.injEq] at h3
    rw [← h3.2.1] at h4
    simp at h4⟩
theorem Ty.seg_isSl (w0 : World) (e : TypeId) (sz n : Nat) (xs : List Value) : IsSl (Ty.seg w0 e sz n xs) n := fun _ _ ⟨_, h, _⟩ => by
  obtain ⟨A, c, h1, _⟩ := h.form
  exact ⟨A, c, h1⟩
theorem seg_sl {w0 : World} {e : TypeId} {sz n : Nat} {xs : List Value} : ∀ w v, (Ty.seg w0 e sz n xs).p w v → (Ty.sl e n xs).p w v := fun _ _ ⟨_, h, _⟩ => h.sl

/-- Cells that are read from an address on. -/
def Ty.at_ (e : TypeId) (xs : List Value) : Ty := ⟨fun w v => ∃ g off cs fr, v = .pointer (some ⟨g, off, none⟩) ∧ w.heap[g]? = some (.cells cs e fr) ∧ ∀ (j : Nat) (u : Value), xs[j]? = some u → cs[off + j]? = some u, fun t => t == e,
  fun ⟨g, off, cs, fr, h1, h2, h3⟩ k hA => ⟨g, off, cs, fr, h1, keeps_block k hA h2 (by simp), h3⟩⟩
/-- Cells of a type unknown. -/
def Ty.atR (xs : List Value) : Ty := ⟨fun w v => ∃ ad, v = .pointer (some ad) ∧ Rd w (some ad) xs ∧ xs ≠ [], fun _ => true, fun {w w' v S} h k hA => by
  obtain ⟨ad, h1, h4, h5⟩ := h
  refine ⟨ad, h1, fun j u hu => ?_, h5⟩
  obtain ⟨ad', e, hc⟩ := h4 j u hu
  injection e with e
  subst e
  have hl := World.block_lt_of_cell? w _ hc
  refine ⟨_, rfl, (World.cell?_of_block (w := w) (k.block _ hl (fun hm => ?_))).trans hc⟩
  obtain ⟨_, _, _, _, h⟩ := hA _ hm hl
  cases h⟩

section
variable {P : Program} {w0 : World} {Γ : Ctx} {o : Oper} {V : Ty}
theorem cLenH {x : Operand} {τ : Ty} {n : Nat} {t : TypeId} {d : TypeId} (ho : o.op = .call { callee := .builtin .len, args := #[x], argTypes := #[t] }) (hx : Has w0 Γ x τ) (hl : IsSl τ n) (hu : P.underlying t = some (.slice d)) : OpOk P w0 Γ o (Ty.ex (.int .i64 (n : Int))) :=
  .val fun a w hb hs => by
    obtain ⟨v, h1, h2⟩ := hx.see hs (by simp [ho, Op.operands, Call.operands]) hb
    obtain ⟨A, c, rfl⟩ := hl w v h2
    refine ⟨_, rfl, ?_⟩
    unfold execOp
    simp [ho, h1, resolve, invoke, builtin, Builtin.len_, run_underlying hu, goInt]
theorem rd_add {w : World} {ad : Addr} {xs : List Value} (h : Rd w (some ad) xs) (k : Nat) : Rd w (some (ad.add k)) (xs.drop k) := by
  have := Rd.dropAt h k
  simpa using this
/-- The address of an element. -/
theorem cIndexR {t e : TypeId} {x ix : Operand} {n k sz : Nat} {kd : IntKind} {xs : List Value} (ho : o.op = .indexAddr t x ix) (hx : Has w0 Γ x (Ty.rd n xs)) (hi : OpT Γ ix (Ty.ex (.int kd (k : Int)))) (hu : P.underlying t = some (.slice e)) (hz : (P.info? e).map (·.size) = some sz) (hk : k < n) (hne : k * sz < xs.length) : OpOk P w0 Γ o (Ty.atR (xs.drop (k * sz))) :=
  .val fun a w hb hs => by
    obtain ⟨v, h1, A, c, rfl, h2, h3, h4⟩ := hx.see hs (by simp [ho, Op.operands]) hb
    obtain ⟨i, h5, h6⟩ := hs ix _ (by simp [ho, Op.operands]) hi
    have h6 : i = .int kd (k : Int) := h6
    obtain ⟨ad, rfl, hc⟩ := h4.at_ hne
    obtain ⟨inf, hinf, hsz⟩ := Option.map_eq_some_iff.1 hz
    refine ⟨_, ⟨ad.add (k * sz), rfl, rd_add h4 _, fun h => ?_⟩, ?_⟩
    · have := congrArg List.length h; simp at this; omega
    · unfold execOp
      simp [ho, h1, h5, h6, Instr.indexAt, asIntOf, run_underlying hu, hk, sizeOf, typeInfo, hinf, hsz]
theorem cIndexS {t e : TypeId} {x ix : Operand} {n k sz : Nat} {kd : IntKind} {xs : List Value} (ho : o.op = .indexAddr t x ix) (hx : Has w0 Γ x (Ty.sl e n xs)) (hi : OpT Γ ix (Ty.ex (.int kd (k : Int)))) (hu : P.underlying t = some (.slice e)) (hz : (P.info? e).map (·.size) = some sz) (hk : k < n) (hne : k * sz < xs.length) : OpOk P w0 Γ o (Ty.at_ e (xs.drop (k * sz))) :=
  .val fun a w hb hs => by
    obtain ⟨v, h1, A, c, rfl, h2, h3, h4, h4'⟩ := hx.see hs (by simp [ho, Op.operands]) hb
    obtain ⟨i, h5, h6⟩ := hs ix _ (by simp [ho, Op.operands]) hi
    have h6 : i = .int kd (k : Int) := h6
    obtain ⟨g, off, cs, fr, rfl, h7, h8⟩ := h4' (k * sz) _ (List.getElem?_eq_getElem hne)
    obtain ⟨inf, hinf, hsz⟩ := Option.map_eq_some_iff.1 hz
    refine ⟨_, ⟨g, off + k * sz, cs, fr, rfl, h7, fun j u hu => ?_⟩, ?_⟩
    · rw [List.getElem?_drop] at hu
      obtain ⟨g', off', cs', fr', e1, h9, h10⟩ := h4' _ u hu
      injection e1 with e1
      injection e1 with e1 e2
      subst e1 e2
      rw [h7] at h9
      injection h9 with h9
      injection h9 with h9
      subst h9
      rw [Nat.add_assoc]
      exact h10
    · unfold execOp
      simp [ho, h1, h5, h6, Instr.indexAt, asIntOf, run_underlying hu, hk, sizeOf, typeInfo, hinf, hsz, Addr.add_lit]
/-- Loads. -/
theorem run_loadVar_rd {w : World} {ty : TypeId} {ad : Addr} {xs : List Value} {d : TypeDesc} (h : Rd w (some ad) xs)
    (hu : P.underlying ty = some d) (hd : (match d with | .struct _ | .array _ _ => true | _ => false) = true) (hi : (P.info? ty).map (·.size) = some xs.length) : (loadVar ty ad).run P w = .ok (.agg xs.toArray) w := by
  have hl := run_loadCells_list (P := P) w ad xs (fun j v hv => by
    obtain ⟨ad', e, hc⟩ := h j v hv
    injection e with e
    subst e
    exact hc)
  obtain ⟨inf, hinf, hsz⟩ := Option.map_eq_some_iff.1 hi
  have hagg : (isAgg ty).run P w = .ok true w := by
    unfold isAgg
    rw [Sem.run_bind, run_underlying hu]
    cases d <;> simp at hd <;> rfl
  unfold loadVar
  rw [Sem.run_bind, hagg]
  simp [sizeOf, typeInfo, hinf, hsz, hl]
theorem run_loadVar_one {w : World} {ty : TypeId} {ad : Addr} {u : Value} {xs : List Value} {d : TypeDesc} (h : Rd w (some ad) (u :: xs))
    (hu : P.underlying ty = some d) (hd : (match d with | .struct _ | .array _ _ => true | _ => false) = false) : (loadVar ty ad).run P w = .ok u w := by
  obtain ⟨ad', e, hc⟩ := h 0 u rfl
  injection e with e
  subst e
  have hagg : (isAgg ty).run P w = .ok false w := by
    unfold isAgg
    rw [Sem.run_bind, run_underlying hu]
    cases d <;> simp at hd <;> rfl
  have hc' : w.cell? ad = some u := by simpa [Addr.add] using hc
  unfold loadVar
  rw [Sem.run_bind, hagg]
  simp [load, Sem.run, hc']
theorem at_rd {w : World} {e : TypeId} {v : Value} {xs : List Value} (h : (Ty.at_ e xs).p w v) : ∃ ad, v = .pointer (some ad) ∧ Rd w (some ad) xs := by
  obtain ⟨g, off, cs, fr, rfl, h1, h2⟩ := h
  exact ⟨_, rfl, fun j u hu => ⟨_, rfl, by rw [Addr.add_lit, cell_of_row w g (off + j) cs e fr h1]; exact h2 j u hu⟩⟩
/-- A type whose values point to cells that read xs. -/
def Pts (τ : Ty) (xs : List Value) : Prop := ∀ w v, τ.p w v → ∃ ad, v = .pointer (some ad) ∧ Rd w (some ad) xs
theorem pts_at (e : TypeId) (xs : List Value) : Pts (Ty.at_ e xs) xs := fun _ _ h => at_rd h
theorem pts_atR (xs : List Value) : Pts (Ty.atR xs) xs := fun _ _ ⟨ad, h1, h2, _⟩ => ⟨ad, h1, h2⟩
theorem cLoadK {ty : TypeId} {x : Operand} {τ : Ty} {k : Nat} {xs : List Value} {d : TypeDesc} (ho : o.op = .load ty x) (hx : Has w0 Γ x τ) (hp : Pts τ xs) (hu : P.underlying ty = some d) (hd : (match d with | .struct _ | .array _ _ => true | _ => false) = true) (hi : (P.info? ty).map (·.size) = some k) (hk : k ≤ xs.length) : OpOk P w0 Γ o (Ty.ex (.agg (xs.take k).toArray)) :=
  .val fun a w hb hs => by
    obtain ⟨v, h1, h2⟩ := hx.see hs (by simp [ho, Op.operands]) hb
    obtain ⟨ad, rfl, h3⟩ := hp w v h2
    refine ⟨_, rfl, ?_⟩
    have h4 := run_loadVar_rd (P := P) (h3.take k) hu hd (by rw [hi]; simp; omega)
    unfold execOp
    simp [ho, h1, Instr.loadAt, Instr.sureAddr, h4]
theorem cLoad1 {ty : TypeId} {x : Operand} {τ : Ty} {u : Value} {xs : List Value} {d : TypeDesc} (ho : o.op = .load ty x) (hx : Has w0 Γ x τ) (hp : Pts τ (u :: xs)) (hu : P.underlying ty = some d) (hd : (match d with | .struct _ | .array _ _ => true | _ => false) = false) : OpOk P w0 Γ o (Ty.ex u) :=
  .val fun a w hb hs => by
    obtain ⟨v, h1, h2⟩ := hx.see hs (by simp [ho, Op.operands]) hb
    obtain ⟨ad, rfl, h3⟩ := hp w v h2
    refine ⟨_, rfl, ?_⟩
    have h4 := run_loadVar_one (P := P) h3 hu hd
    unfold execOp
    simp [ho, h1, Instr.loadAt, Instr.sureAddr, h4]
end

/-! ### Rows of sums -/
def flat (L : List Sm) : List Value := L.flatMap Sm.enc
theorem enc_len (x : Sm) : x.enc.length = 32 := by simp [Sm.enc, x.len]
theorem flat_len (L : List Sm) : (flat L).length = L.length * 32 := by
  unfold flat
  induction L with
  | nil => rfl
  | cons x L ih => rw [List.flatMap_cons, List.length_append, ih, enc_len, List.length_cons, Nat.add_mul]; omega
theorem flat_append (L M : List Sm) : flat (L ++ M) = flat L ++ flat M := List.flatMap_append ..
theorem flat_one (x : Sm) : flat [x] = x.enc := by simp [flat]
theorem flat_drop (L : List Sm) (k : Nat) : (flat L).drop (k * 32) = flat (L.drop k) := by
  induction k generalizing L with
  | zero => simp
  | succ k ih =>
    cases L with
    | nil => simp [flat]
    | cons x L =>
      rw [List.drop_succ_cons, ← ih]
      unfold flat
      rw [List.flatMap_cons, show (k + 1) * 32 = x.enc.length + k * 32 by rw [enc_len]; omega, ← List.drop_drop, List.drop_left]
theorem flat_take (L : List Sm) (k : Nat) : (flat L).take (k * 32) = flat (L.take k) := by
  induction k generalizing L with
  | zero => simp [flat]
  | succ k ih =>
    cases L with
    | nil => simp [flat]
    | cons x L =>
      rw [List.take_succ_cons]
      unfold flat
      rw [List.flatMap_cons, List.flatMap_cons, show (k + 1) * 32 = x.enc.length + k * 32 by rw [enc_len]; omega, List.take_length_add_append]
      congr 1
      exact ih L
theorem drop_get (L : List Sm) {k : Nat} (h : k < L.length) : L.drop k = L.getD k default :: L.drop (k + 1) := by
  rw [List.drop_eq_getElem_cons h]
  simp [List.getD, List.getElem?_eq_getElem h]
theorem flat_at (L : List Sm) {k : Nat} (h : k < L.length) : (flat L).drop (k * 32) = (L.getD k default).enc ++ flat (L.drop (k + 1)) := by
  rw [flat_drop, drop_get L h]
  rfl
theorem enc_u8s (x : Sm) : x.enc.toArray = u8s x.l := rfl
theorem flat_one' {L : List Sm} : ∀ u ∈ flat L, u.oneCell' = true := by
  intro u hu
  obtain ⟨x, _, h⟩ := List.mem_flatMap.1 hu
  obtain ⟨b, _, rfl⟩ := List.mem_map.1 h
  rfl
/-- A row of sums. -/
abbrev Ty.sums (e : TypeId) (L : List Sm) : Ty := Ty.sl e L.length (flat L)
abbrev Ty.sumsR (L : List Sm) : Ty := Ty.rd L.length (flat L)
section
variable {P : Program} {w0 : World} {Γ : Ctx} {o : Oper}
theorem cIndexSum {t e : TypeId} {x ix : Operand} {k : Nat} {kd : IntKind} {L : List Sm} (ho : o.op = .indexAddr t x ix) (hx : Has w0 Γ x (Ty.sums e L)) (hi : OpT Γ ix (Ty.ex (.int kd (k : Int)))) (hu : P.underlying t = some (.slice e)) (hz : (P.info? e).map (·.size) = some 32) (hk : k < L.length) : OpOk P w0 Γ o (Ty.at_ e (L.getD k default).enc) := by
  have h := cIndexS (P := P) ho hx hi hu hz hk (by rw [flat_len]; omega)
  rw [flat_at L hk] at h
  exact h.conv fun w v ⟨g, off, cs, fr, h1, h2, h3⟩ => ⟨g, off, cs, fr, h1, h2, fun j u hu => h3 j u (by rw [List.getElem?_append_left (List.getElem?_eq_some_iff.1 hu).1]; exact hu)⟩
theorem cIndexSumR {t e : TypeId} {x ix : Operand} {k : Nat} {kd : IntKind} {L : List Sm} (ho : o.op = .indexAddr t x ix) (hx : Has w0 Γ x (Ty.sumsR L)) (hi : OpT Γ ix (Ty.ex (.int kd (k : Int)))) (hu : P.underlying t = some (.slice e)) (hz : (P.info? e).map (·.size) = some 32) (hk : k < L.length) : OpOk P w0 Γ o (Ty.atR (L.getD k default).enc) := by
  have h := cIndexR (P := P) ho hx hi hu hz hk (by rw [flat_len]; omega)
  rw [flat_at L hk] at h
  refine h.conv fun w v ⟨ad, h1, h2, h3⟩ => ⟨ad, h1, fun j u hu => h2 j u (by rw [List.getElem?_append_left (List.getElem?_eq_some_iff.1 hu).1]; exact hu), fun h => ?_⟩
  have := congrArg List.length h
  rw [enc_len] at this
  simp at this
theorem cLoadSum {ty e d : TypeId} {x : Operand} {y : Sm} (ho : o.op = .load ty x) (hx : Has w0 Γ x (Ty.at_ e y.enc)) (hu : P.underlying ty = some (.array 32 d)) (hi : (P.info? ty).map (·.size) = some 32) : OpOk P w0 Γ o (Ty.ex (.agg (u8s y.l))) := by
  have h := cLoadK (P := P) ho hx (pts_at e y.enc) hu rfl hi (by rw [enc_len]; omega)
  rwa [List.take_of_length_le (by rw [enc_len]; omega)] at h
theorem cLoadSumR {ty d : TypeId} {x : Operand} {y : Sm} (ho : o.op = .load ty x) (hx : Has w0 Γ x (Ty.atR y.enc)) (hu : P.underlying ty = some (.array 32 d)) (hi : (P.info? ty).map (·.size) = some 32) : OpOk P w0 Γ o (Ty.ex (.agg (u8s y.l))) := by
  have h := cLoadK (P := P) ho hx (pts_atR y.enc) hu rfl hi (by rw [enc_len]; omega)
  rwa [List.take_of_length_le (by rw [enc_len]; omega)] at h
end

/-! ### Steps behind a region's head -/
/-- A frame with fewer slots. -/
def Ctx.sub (Δ Γ : Ctx) : Prop := ∀ s τ, look Δ s = some τ → look Γ s = some τ
theorem Fr.sub {N : Nat} {Γ Δ : Ctx} {a : Act} {w : World} (h : Fr N Γ a w) (hs : Ctx.sub Δ Γ) : Fr N Δ a w := ⟨h.size, h.defers, fun s τ hl => h.val s τ (hs s τ hl)⟩
/-- No word of Γ hangs on memory of type e. -/
def Ctx.free (Γ : Ctx) (e : TypeId) : Bool := Γ.all fun p => !p.2.el e
theorem Ctx.free_look {Γ : Ctx} {e : TypeId} (h : Γ.free e = true) {s : Nat} {τ : Ty} (hs : look Γ s = some τ) : τ.el e = false := by
  induction Γ with
  | nil => cases hs
  | cons p Γ ih =>
    unfold Ctx.free at h
    simp only [List.all_cons, Bool.and_eq_true, Bool.not_eq_true'] at h
    unfold look at hs
    cases hb : Nat.beq p.1 s with
    | true => rw [hb] at hs; simp only [cond_true] at hs; injection hs with hs; rw [← hs]; exact h.1
    | false => rw [hb] at hs; simp only [cond_false] at hs; exact ih h.2 hs
theorem Fr.free {N : Nat} {Γ : Ctx} {a : Act} {w w' : World} (h : Fr N Γ a w) {S : List Nat} (k : Keeps S w w') {e : TypeId} (hS : ∀ b ∈ S, b < w.heap.size → ∃ cs fr, w.heap[b]? = some (.cells cs e fr)) (hf : Γ.free e = true) : Fr N Γ a w' :=
  h.keeps k fun _ _ hs b hb hl => let ⟨cs, fr, h1⟩ := hS b hb hl; ⟨cs, e, fr, h1, Ctx.free_look hf hs⟩
theorem Seg.blocks {w : World} {e : TypeId} {sz n : Nat} {v : Value} {xs : List Value} {S : List Nat} (h : Seg w e sz v n xs S) : ∀ b ∈ S, b < w.heap.size → ∃ cs fr, w.heap[b]? = some (.cells cs e fr) := by
  intro b hb _
  rcases h.2 with ⟨_, _, rfl⟩ | ⟨g, off, cap, cs, _, rfl, hB, _⟩
  · cases hb
  · simp only [List.mem_singleton] at hb
    subst hb
    exact ⟨cs, (0, 0), hB⟩
theorem below_own {w wr w' : World} {S : List Nat} (hB : Below w.heap.size w wr) (hk : Keeps S wr w') (hS : ∀ y ∈ S, w.heap.size ≤ y) : Below w.heap.size w w' := ((Keeps.of_below (S := []) hB).trans' hk fun x hx => .inr (hS x hx)).below
theorem own_next {w wr : World} {S S' : List Nat} (hB : Below w.heap.size w wr) (hS : ∀ y ∈ S, w.heap.size ≤ y) (h : S' = S ∨ S' = [wr.heap.size]) : ∀ y ∈ S', w.heap.size ≤ y := by
  rcases h with rfl | rfl
  · exact hS
  · intro y hy
    simp only [List.mem_singleton] at hy
    subst hy
    exact hB.size
theorem flat_snoc (L : List Sm) {k : Nat} (h : k < L.length) : flat (L.take k) ++ (L.getD k default).enc = flat (L.take (k + 1)) := by
  rw [List.take_succ_eq_append_getElem h, flat_append, flat_one]
  simp [List.getD, List.getElem?_eq_getElem h]
theorem u8s_list (l : List Nat) : (u8s l).toList = l.map bv := by simp [u8s]
section
variable {K : Act → World → Prop} {Q : Exit → Act → World → Prop} {a : Act} {w : World} {id j : Nat}
theorem nThen (h : K a w) : Exit.then K Q .normal a w := h
theorem nBlk (h : Q .normal a w) : Exit.inBlock id Q .normal a w := h
theorem xThen (h : Q (.exit id) a w) : Exit.then K Q (.exit id) a w := h
theorem xHere (h : Q .normal a w) : Exit.inBlock id Q (.exit id) a w := by simp only [Exit.inBlock, if_true]; exact h
theorem xFar (hne : ¬ id = j) (h : Q (.exit id) a w) : Exit.inBlock j Q (.exit id) a w := by simp only [Exit.inBlock, if_neg hne]; exact h
theorem rThen (h : Q .ret a w) : Exit.then K Q .ret a w := h
theorem rBlk (h : Q .ret a w) : Exit.inBlock id Q .ret a w := h
end
/-- Some slots alone. -/
def pick (Γ : Ctx) : List Nat → Ctx
  | [] => []
  | s :: ss => match look Γ s with | some τ => (s, τ) :: pick Γ ss | none => pick Γ ss
theorem Fr.keep {N : Nat} {Γ : Ctx} {a : Act} {w : World} (h : Fr N Γ a w) : ∀ ss : List Nat, Fr N (pick Γ ss) a w
  | [] => h.nil
  | s :: ss => by
    unfold pick
    cases hs : look Γ s with
    | none => exact h.keep ss
    | some τ => exact h.too (h.keep ss) hs
section
variable {P : Program} {ops : Array Oper} {Q : Exit → Act → World → Prop} {rest : List Oper} {o : Oper} {a : Act} {w : World} {N : Nat} {Γ : Ctx}
/-- A line. -/
theorem tlOp {d : Nat} {V : Ty} (hF : Fr N Γ a w) (hg : o.guard = none) (hd : o.dst = some d) (hN : decide (d < N) = true) (h : OpOk P w Γ o V) (hk : ∀ a' w', Fr N ((d, V) :: Γ) a' w' → Below w.heap.size w w' → wpList P ops Q rest a' w') : wpList P ops Q (o :: rest) a w :=
  wpList_plain hg fun K hK => h a w K Q (Below.refl _ _) (fun s τ _ hs => hF.val s τ hs) fun v w' hv hb => by
    rw [hd]
    exact hK _ _ (hk _ _ (hF.put (of_decide_eq_true hN) hb hv) hb)
/-- append to a slice of the call's own: Δ is what is still wanted of the frame. -/
theorem tlAppend {d : Nat} {s : Nat} {x : Operand} {t e : TypeId} {z : Value} {sz bytes n m : Nat} {v : Value} {xs news : List Value} {S : List Nat} {Δ : Ctx} {τ : Ty} (hF : Fr N Γ a w) (hg : o.guard = none) (hd : o.dst = some d) (hN : decide (d < N) = true)
    (ho : o.op = .call { callee := .builtin .append, args := #[.tmp s, x], argTypes := #[t, t] }) (ht : P.underlying t = some (.slice e)) (hi : (P.info? e).map (fun i => (i.zero, i.size, i.bytes)) = some (some z, sz, bytes)) (hzs : z.cells.size = sz)
    (hs : look Γ s = some (Ty.ex v)) (hseg : Seg w e sz v n xs S) (hx : Has w Γ x τ) (hτ : ∀ u, τ.p w u → ∃ A c, u = .slice A m c ∧ (A = none → m = 0) ∧ Rd w A news) (hl : news.length = m * sz) (h1 : ∀ u ∈ news, u.oneCell' = true) (h63 : n + m ≤ maxLen) (hbytes : (n + m) * bytes ≤ 140737488355328)
    (hΔ : Fr N Δ a w) (hfree : Δ.free e = true)
    (hk : ∀ a' w' v' S', Fr N ((d, Ty.ex v') :: Δ) a' w' → Seg w' e sz v' (n + m) (xs ++ news) S' → Keeps S w w' → (S' = S ∨ S' = [w.heap.size]) → wpList P ops Q rest a' w') : wpList P ops Q (o :: rest) a w := by
  have hxv : ∃ u, a.eval x = u ∧ τ.p w u := by
    obtain ⟨σ, hx1, hx2⟩ := hx
    have : ∃ u, a.eval x = u ∧ σ.p w u := by
      cases x with
      | tmp s' => exact hF.get hx1
      | const c => exact ⟨c, rfl, by rw [← show Ty.ex c = σ from hx1]; rfl⟩
      | func f => exact ⟨_, rfl, by rw [← show Ty.ex _ = σ from hx1]; rfl⟩
      | «global» g => exact ⟨_, rfl, by rw [← show Ty.ex _ = σ from hx1]; rfl⟩
    obtain ⟨u, h2, h3⟩ := this
    exact ⟨u, h2, hx2 w u (Below.refl _ _) h3⟩
  obtain ⟨u, hu, hp⟩ := hxv
  obtain ⟨A, c, rfl, hA, hr⟩ := hτ u hp
  refine wpList_append_seg w hg (.tmp s) x t ho e z sz bytes ht hi hzs v n xs S (hF.getEx hs) hseg A m c news hu hl hr hA h1 h63 hbytes fun v' w' S' h2 h3 h4 => ?_
  rw [hd]
  refine hk _ w' v' S' ?_ h2 h3 h4
  exact (hΔ.free h3 hseg.blocks hfree).put (of_decide_eq_true hN) (Below.refl _ _) rfl
end
theorem sl_news {w : World} {e : TypeId} {m : Nat} {news : List Value} : ∀ u, (Ty.sl e m news).p w u → ∃ A c, u = .slice A m c ∧ (A = none → m = 0) ∧ Rd w A news := fun u h => by
  have h' := h
  obtain ⟨A, c, rfl, _, _, h4, _⟩ := h'
  exact ⟨A, c, rfl, fun e => (h4 e).1, SlP.rd h⟩
/-- A slice written out: its memory is new. -/
theorem cBuildSl {P : Program} {w0 : World} {Γ : Ctx} {o : Oper} {t e : TypeId} {n : Nat} {parts : Array (Nat × Operand)} {vals : Array (Nat × Value)} {cs : Array Value} (ho : o.op = .buildSlice t n parts) (hp : ∀ (a : Act) (w : World), SeesO Γ o a w → (parts.map fun (i, x) => (i, a.eval x)) = vals)
    (hn : n ≤ maxLen) (hr : ∀ w : World, (Instr.buildSlice t n vals).run P w = .ok (.slice (some ⟨w.heap.size, 0, none⟩) n n) (w.alloc (.cells cs e))) : OpOk P w0 Γ o (Ty.sl e n cs.toList) :=
  .new fun a w _ hs => by
    refine ⟨.slice (some ⟨w.heap.size, 0, none⟩) n n, _, ?_, ((Keeps.refl [] w).alloc (.cells cs e)).below, ?_⟩
    · exact ⟨_, n, rfl, Nat.le_refl _, hn, fun h => (by cases h), fun j u hu => ⟨w.heap.size, 0, cs, (0, 0), rfl, heap_alloc_new w _, by rw [Nat.zero_add]; simpa using hu⟩⟩
    · have h1 := hp a w hs
      have h2 := hr w
      unfold execOp
      simp only [ho]
      rw [h1, Sem.run_bind, h2]
      rfl
theorem parts1 {Γ : Ctx} {o : Oper} {t : TypeId} {n : Nat} {x : Operand} {v : Value} (ho : o.op = .buildSlice t n #[(0, x)]) (hx : OpT Γ x (Ty.ex v)) : ∀ (a : Act) (w : World), SeesO Γ o a w → ((#[(0, x)] : Array (Nat × Operand)).map fun (i, x) => (i, a.eval x)) = #[(0, v)] := fun a w hs => by
  obtain ⟨u, h1, h2⟩ := hs x _ (by simp [ho, Op.operands]) hx
  have h2 : u = v := h2
  simp [h1, h2]
end Go.Proofs.Ytibckdnfgopghaa

/- Regions by types: slices written out; slices whose cells are told by types. -/
namespace Go.Proofs.Ytibckdnfgopghaa
open Go.RowKit

theorem foldl_splice (l : List Value) : ∀ (k off : Nat) (cs : Array Value), (l.zipIdx k).foldl (fun cs (p : Value × Nat) => cs.setIfInBounds (off + p.2) p.1) cs = splice cs (off + k) l := by
  induction l with
  | nil => intro k off cs; rfl
  | cons v l ih =>
    intro k off cs
    rw [List.zipIdx_cons, List.foldl_cons, ih (k + 1) off, splice, Nat.add_assoc]
theorem fill_all (sz : Nat) : ∀ (vs : List Value) (k : Nat) (cells : Array Value), (∀ v ∈ vs, v.cells.size = sz) → cells.size = (k + vs.length) * sz →
    ∃ R : Array Value, Instr.fill (fun i => some (i * sz, sz)) cells ((vs.zipIdx k).map fun p => (p.2, p.1)) = some R ∧ R.toList = cells.toList.take (k * sz) ++ (vs.map fun v => v.cells.toList).flatten
  | [], k, cells, _, hs => ⟨cells, rfl, by simp at hs ⊢; rw [List.take_of_length_le (by simp [hs])]⟩
  | v :: vs, k, cells, hv, hs => by
    have hvs := hv v (by simp)
    have hle : k * sz + sz ≤ cells.size := by
      rw [hs, ← Nat.succ_mul]
      exact Nat.mul_le_mul_right _ (by simp)
    have hfold : v.cells.zipIdx.foldl (fun cs (p : Value × Nat) => cs.setIfInBounds (k * sz + p.2) p.1) cells = splice cells (k * sz) v.cells.toList := by
      rw [← Array.foldl_toList, Array.toList_zipIdx, foldl_splice, Nat.add_zero]
    obtain ⟨R, h1, h2⟩ := fill_all sz vs (k + 1) (splice cells (k * sz) v.cells.toList) (fun u hu => hv u (by simp [hu])) (by rw [splice_size, hs, List.length_cons]; congr 1; omega)
    refine ⟨R, ?_, ?_⟩
    · rw [List.zipIdx_cons, List.map_cons]
      unfold Instr.fill
      simp only []
      rw [if_neg (by simp [hvs]; omega)]
      rw [← hfold] at h1
      exact h1
    · rw [h2, List.map_cons, List.flatten_cons, ← List.append_assoc]
      congr 1
      have hvl : v.cells.toList.length = sz := by simpa using hvs
      apply List.ext_getElem?
      intro j
      rw [List.getElem?_take, Array.getElem?_toList, splice_get _ _ _ _ (by rw [hvl]; exact hle), Nat.succ_mul]
      by_cases h3 : j < k * sz
      · rw [if_pos (by omega), if_neg (by omega), List.getElem?_append_left (by simp; omega), List.getElem?_take, if_pos h3]
        simp
      · rw [List.getElem?_append_right (by simp; omega)]
        have e : (List.take (k * sz) cells.toList).length = k * sz := by simp; omega
        rw [e]
        by_cases h4 : j < k * sz + sz
        · rw [if_pos h4, if_pos (by rw [hvl]; omega)]
        · rw [if_neg h4, List.getElem?_eq_none (by rw [hvl]; omega)]
/-- A slice written out. -/
theorem run_buildSlice {P : Program} {t e : TypeId} {z : Value} {sz bytes : Nat} (n : Nat) (vs : List Value) (hu : P.underlying t = some (.slice e)) (hi : (P.info? e).map (fun i => (i.zero, i.size, i.bytes)) = some (some z, sz, bytes))
    (hn : vs.length = n) (hv : ∀ v ∈ vs, v.cells.size = sz) (hbig : n * sz ≤ 16777216) (w : World) :
    (Instr.buildSlice t n ((vs.zipIdx).map fun p => (p.2, p.1)).toArray).run P w = .ok (.slice (some ⟨w.heap.size, 0, none⟩) n n) (w.alloc (.cells (vs.map fun v => v.cells.toList).flatten.toArray e)) := by
  obtain ⟨inf, hinf, hz, hsz, hby⟩ := info_parts hi
  have hsz2 : (Go.sizeOf e).run P w = .ok sz w := by simp [sizeOf, typeInfo, hinf, hsz]
  have hzero : (zeroValue e).run P w = .ok z w := by simp [zeroValue, typeInfo, hinf, hz]
  have key : ∀ zs : Array Value, ∃ R : Array Value, Instr.fill (fun i => some (i * sz, sz)) ((Array.range (n * sz)).map (zs[· % zs.size]!)) (((vs.zipIdx).map fun p => (p.2, p.1)).toArray).toList = some R ∧ R = (vs.map fun v => v.cells.toList).flatten.toArray := fun zs => by
    obtain ⟨R, h1, h2⟩ := fill_all sz vs 0 ((Array.range (n * sz)).map (zs[· % zs.size]!)) hv (by simp [hn])
    exact ⟨R, h1, Array.toList_inj.1 (by rw [h2]; simp)⟩
  unfold Instr.buildSlice
  rw [Sem.run_bind, run_underlying hu]
  simp only [Result.andThen_ok]
  rw [Sem.run_bind, hsz2]
  simp only [Result.andThen_ok]
  rw [if_neg (by omega)]
  by_cases h0 : n * sz = 0
  · obtain ⟨R, h1, rfl⟩ := key #[]
    rw [if_pos h0]
    simp only [pure_bind]
    rw [h1]
    rfl
  · obtain ⟨R, h1, rfl⟩ := key z.cells
    rw [if_neg h0, Sem.run_bind, hzero]
    simp only [Result.andThen_ok, pure_bind]
    rw [h1]
    rfl
theorem parts0 {Γ : Ctx} {o : Oper} : ∀ (a : Act) (w : World), SeesO Γ o a w → ((#[] : Array (Nat × Operand)).map fun (i, x) => (i, a.eval x)) = (([] : List Value).zipIdx.map fun p => (p.2, p.1)).toArray := fun a w _ => by simp
theorem parts1v {Γ : Ctx} {o : Oper} {t : TypeId} {n : Nat} {x : Operand} {v : Value} (ho : o.op = .buildSlice t n #[(0, x)]) (hx : OpT Γ x (Ty.ex v)) : ∀ (a : Act) (w : World), SeesO Γ o a w → ((#[(0, x)] : Array (Nat × Operand)).map fun (i, x) => (i, a.eval x)) = (([v] : List Value).zipIdx.map fun p => (p.2, p.1)).toArray := fun a w hs => by
  obtain ⟨u, h1, h2⟩ := hs x _ (by simp [ho, Op.operands]) hx
  have h2 : u = v := h2
  simp [h1, h2]
theorem parts2v {Γ : Ctx} {o : Oper} {t : TypeId} {n : Nat} {x y : Operand} {v u : Value} (ho : o.op = .buildSlice t n #[(0, x), (1, y)]) (hx : OpT Γ x (Ty.ex v)) (hy : OpT Γ y (Ty.ex u)) : ∀ (a : Act) (w : World), SeesO Γ o a w → ((#[(0, x), (1, y)] : Array (Nat × Operand)).map fun (i, x) => (i, a.eval x)) = (([v, u] : List Value).zipIdx.map fun p => (p.2, p.1)).toArray := fun a w hs => by
  obtain ⟨v', h1, h2⟩ := hs x _ (by simp [ho, Op.operands]) hx
  obtain ⟨u', h3, h4⟩ := hs y _ (by simp [ho, Op.operands]) hy
  have h2 : v' = v := h2
  have h4 : u' = u := h4
  simp [h1, h2, h3, h4]
theorem parts3v {Γ : Ctx} {o : Oper} {t : TypeId} {n : Nat} {x y z : Operand} {v u q : Value} (ho : o.op = .buildSlice t n #[(0, x), (1, y), (2, z)]) (hx : OpT Γ x (Ty.ex v)) (hy : OpT Γ y (Ty.ex u)) (hz : OpT Γ z (Ty.ex q)) : ∀ (a : Act) (w : World), SeesO Γ o a w → ((#[(0, x), (1, y), (2, z)] : Array (Nat × Operand)).map fun (i, x) => (i, a.eval x)) = (([v, u, q] : List Value).zipIdx.map fun p => (p.2, p.1)).toArray := fun a w hs => by
  obtain ⟨v', h1, h2⟩ := hs x _ (by simp [ho, Op.operands]) hx
  obtain ⟨u', h3, h4⟩ := hs y _ (by simp [ho, Op.operands]) hy
  obtain ⟨q', h5, h6⟩ := hs z _ (by simp [ho, Op.operands]) hz
  have h2 : v' = v := h2
  have h4 : u' = u := h4
  have h6 : q' = q := h6
  simp [h1, h2, h3, h4, h5, h6]
/-- A slice of known values. -/
theorem cBuildV {P : Program} {w0 : World} {Γ : Ctx} {o : Oper} {t e : TypeId} {z : Value} {sz bytes : Nat} {n : Nat} {parts : Array (Nat × Operand)} {vs : List Value} (ho : o.op = .buildSlice t n parts) (hp : ∀ (a : Act) (w : World), SeesO Γ o a w → (parts.map fun (i, x) => (i, a.eval x)) = (vs.zipIdx.map fun p => (p.2, p.1)).toArray)
    (hu : P.underlying t = some (.slice e)) (hi : (P.info? e).map (fun i => (i.zero, i.size, i.bytes)) = some (some z, sz, bytes)) (hn : vs.length = n) (hv : ∀ v ∈ vs, v.cells.size = sz) (hbig : n * sz ≤ 16777216) (hm : n ≤ maxLen) :
    OpOk P w0 Γ o (Ty.sl e n (vs.map fun v => v.cells.toList).flatten) := by
  have h := cBuildSl (P := P) (w0 := w0) ho hp hm (fun w => run_buildSlice n vs hu hi hn hv hbig w)
  rwa [List.toList_toArray] at h
/-- Rows of sums, written out. -/
theorem flat_cells (L : List Sm) : ((L.map fun x => (.agg (u8s x.l) : Value)).map fun v => v.cells.toList).flatten = flat L := by
  unfold flat
  rw [List.flatMap_def, List.map_map]
  congr 1
theorem cells_sums (L : List Sm) : ∀ v ∈ (L.map fun x => (.agg (u8s x.l) : Value)), v.cells.size = 32 := by
  intro v hv
  obtain ⟨x, _, rfl⟩ := List.mem_map.1 hv
  show (u8s x.l).size = 32
  rw [u8s_size, x.len]
theorem cBuildSums {P : Program} {w0 : World} {Γ : Ctx} {o : Oper} {t e : TypeId} {z : Value} {bytes n : Nat} {parts : Array (Nat × Operand)} (L : List Sm) (ho : o.op = .buildSlice t n parts) (hp : ∀ (a : Act) (w : World), SeesO Γ o a w → (parts.map fun (i, x) => (i, a.eval x)) = ((L.map fun x => (.agg (u8s x.l) : Value)).zipIdx.map fun p => (p.2, p.1)).toArray)
    (hu : P.underlying t = some (.slice e)) (hi : (P.info? e).map (fun i => (i.zero, i.size, i.bytes)) = some (some z, 32, bytes)) (hn : (decide (L.length = n) && decide (n ≤ 1000)) = true) : OpOk P w0 Γ o (Ty.sums e L) := by
  simp only [Bool.and_eq_true, decide_eq_true_eq] at hn
  have h := cBuildV (P := P) (w0 := w0) ho hp hu hi (by simpa using hn.1) (cells_sums L) (by omega) (by simp [maxLen]; omega)
  rw [flat_cells] at h
  unfold Ty.sums
  rw [hn.1]
  exact h

/-! ### Slices whose cells are told by types -/
def SlT (w : World) (e : TypeId) (v : Value) (n : Nat) (τs : List Ty) : Prop :=
  ∃ A c, v = .slice A n c ∧ n ≤ c ∧ c ≤ maxLen ∧ (A = none → n = 0 ∧ c = 0) ∧ ∀ (j : Nat) (τ : Ty), τs[j]? = some τ → ∃ g off cs fr u, A = some ⟨g, off, none⟩ ∧ w.heap[g]? = some (.cells cs e fr) ∧ cs[off + j]? = some u ∧ τ.p w u
def Ty.slT (e : TypeId) (n : Nat) (τs : List Ty) : Ty := ⟨fun w v => SlT w e v n τs, fun t => t == e || τs.any fun τ => τ.el t, fun {w w' v S} h k hA => by
  obtain ⟨A, c, h1, h2, h3, h4, h5⟩ := h
  refine ⟨A, c, h1, h2, h3, h4, fun j τ hj => ?_⟩
  obtain ⟨g, off, cs, fr, u, h6, h7, h8, h9⟩ := h5 j τ hj
  refine ⟨g, off, cs, fr, u, h6, keeps_block k hA h7 (by simp), h8, τ.st h9 k fun b hb hl => ?_⟩
  obtain ⟨cs', t, fr', h10, h11⟩ := hA b hb hl
  refine ⟨cs', t, fr', h10, ?_⟩
  simp only [Bool.or_eq_false_iff, List.any_eq_false] at h11
  simpa using h11.2 τ (List.mem_of_getElem? hj)⟩
theorem Ty.slT_isSl (e : TypeId) (n : Nat) (τs : List Ty) : IsSl (Ty.slT e n τs) n := fun _ _ ⟨A, c, h, _⟩ => ⟨A, c, h⟩
theorem All2.length {w : World} : ∀ {vs : List Value} {τs : List Ty}, All2 w vs τs → vs.length = τs.length
  | [], [], _ => rfl
  | v :: vs, τ :: τs, h => by simp [All2.length h.2]
  | [], _ :: _, h => h.elim
  | _ :: _, [], h => h.elim
theorem cBuildT {P : Program} {w0 : World} {Γ : Ctx} {o : Oper} {t e : TypeId} {z : Value} {bytes n : Nat} {parts : Array (Nat × Operand)} {τs : List Ty} (ho : o.op = .buildSlice t n parts) (hp : ∀ (a : Act) (w : World), Below w0.heap.size w0 w → SeesO Γ o a w → ∃ vs : List Value, (parts.map fun (i, x) => (i, a.eval x)) = (vs.zipIdx.map fun p => (p.2, p.1)).toArray ∧ All2 w vs τs ∧ ∀ v ∈ vs, v.cells = #[v])
    (hu : P.underlying t = some (.slice e)) (hi : (P.info? e).map (fun i => (i.zero, i.size, i.bytes)) = some (some z, 1, bytes)) (hn : (decide (τs.length = n) && decide (n ≤ 1000)) = true) : OpOk P w0 Γ o (Ty.slT e n τs) :=
  .new fun a w hb hs => by
    simp only [Bool.and_eq_true, decide_eq_true_eq] at hn
    obtain ⟨vs, h1, h2, h3⟩ := hp a w hb hs
    have hl : vs.length = n := h2.length.trans hn.1
    have hr := run_buildSlice (P := P) n vs hu hi hl (fun v hv => by rw [h3 v hv]; rfl) (by omega) w
    have hf : (vs.map fun v => v.cells.toList).flatten = vs := by
      have : (vs.map fun v => v.cells.toList) = vs.map fun v => [v] := List.map_congr_left fun v hv => by rw [h3 v hv]
      rw [this, ← List.flatMap_def]
      simp
    rw [hf] at hr
    have hbl : Below w.heap.size w (w.alloc (.cells vs.toArray e)) := ((Keeps.refl [] w).alloc _).below
    refine ⟨.slice (some ⟨w.heap.size, 0, none⟩) n n, _, ?_, hbl, ?_⟩
    · refine ⟨_, n, rfl, Nat.le_refl _, by simp [maxLen]; omega, fun h => (by cases h), fun j τ hj => ?_⟩
      obtain ⟨u, h4, h5⟩ := h2.at_ hj
      exact ⟨w.heap.size, 0, vs.toArray, (0, 0), u, rfl, heap_alloc_new w _, by rw [Nat.zero_add]; simpa using h4, τ.below h5 hbl⟩
    · unfold execOp
      simp only [ho]
      rw [h1, Sem.run_bind, hr]
      rfl
theorem partsT1 {w0 : World} {Γ : Ctx} {o : Oper} {t : TypeId} {n m : Nat} {x : Operand} {τ : Ty} (ho : o.op = .buildSlice t n #[(0, x)]) (hx : Has w0 Γ x τ) (h1 : IsSl τ m) : ∀ (a : Act) (w : World), Below w0.heap.size w0 w → SeesO Γ o a w → ∃ vs : List Value, ((#[(0, x)] : Array (Nat × Operand)).map fun (i, x) => (i, a.eval x)) = (vs.zipIdx.map fun p => (p.2, p.1)).toArray ∧ All2 w vs [τ] ∧ ∀ v ∈ vs, v.cells = #[v] := fun a w hb hs => by
  obtain ⟨u, h2, h3⟩ := hx.see hs (by simp [ho, Op.operands]) hb
  obtain ⟨A, c, rfl⟩ := h1 w u h3
  exact ⟨[.slice A m c], by simp [h2], ⟨h3, trivial⟩, by simp [Value.cells]⟩
theorem partsT2 {w0 : World} {Γ : Ctx} {o : Oper} {t : TypeId} {n m m' : Nat} {x y : Operand} {τ σ : Ty} (ho : o.op = .buildSlice t n #[(0, x), (1, y)]) (hx : Has w0 Γ x τ) (hy : Has w0 Γ y σ) (h1 : IsSl τ m) (h1' : IsSl σ m') : ∀ (a : Act) (w : World), Below w0.heap.size w0 w → SeesO Γ o a w → ∃ vs : List Value, ((#[(0, x), (1, y)] : Array (Nat × Operand)).map fun (i, x) => (i, a.eval x)) = (vs.zipIdx.map fun p => (p.2, p.1)).toArray ∧ All2 w vs [τ, σ] ∧ ∀ v ∈ vs, v.cells = #[v] := fun a w hb hs => by
  obtain ⟨u, h2, h3⟩ := hx.see hs (by simp [ho, Op.operands]) hb
  obtain ⟨A, c, rfl⟩ := h1 w u h3
  obtain ⟨u', h4, h5⟩ := hy.see hs (by simp [ho, Op.operands]) hb
  obtain ⟨A', c', rfl⟩ := h1' w u' h5
  exact ⟨[.slice A m c, .slice A' m' c'], by simp [h2, h4], ⟨h3, h5, trivial⟩, by simp [Value.cells]⟩
end Go.Proofs.Ytibckdnfgopghaa

/- Regions by types: boxes, arrays, slices of slices; calls by any readable slice; more ways of a walk. -/
namespace Go.Proofs.Ytibckdnfgopghaa
open Go.RowKit

theorem Has.c {w0 : World} {Γ : Ctx} {x : Operand} {τ σ : Ty} (h : Has w0 Γ x τ) (hc : ∀ w v, τ.p w v → σ.p w v) : Has w0 Γ x σ :=
  let ⟨υ, h1, h2⟩ := h; ⟨υ, h1, fun w v hb hp => hc w v (h2 w v hb hp)⟩
/-- Values that are slices of n elements that read xs. -/
def Reads (τ : Ty) (n : Nat) (xs : List Value) : Prop := ∀ w v, τ.p w v → ∃ A c, v = .slice A n c ∧ n ≤ maxLen ∧ (A = none → n = 0) ∧ Rd w A xs
theorem reads_sl (e : TypeId) (n : Nat) (xs : List Value) : Reads (Ty.sl e n xs) n xs := fun w v h => by
  have h' := h
  obtain ⟨A, c, rfl, h2, h3, h4, _⟩ := h'
  exact ⟨A, c, rfl, Nat.le_trans h2 h3, fun e => (h4 e).1, SlP.rd h⟩
theorem reads_rd (n : Nat) (xs : List Value) : Reads (Ty.rd n xs) n xs := fun _ _ h => h
theorem reads_seg (w0 : World) (e : TypeId) (sz n : Nat) (xs : List Value) : Reads (Ty.seg w0 e sz n xs) n xs := fun w v h => reads_sl e n xs w v (seg_sl w v h)
theorem Reads.isSl {τ : Ty} {n : Nat} {xs : List Value} (h : Reads τ n xs) : IsSl τ n := fun w v hv => let ⟨A, c, h1, _⟩ := h w v hv; ⟨A, c, h1⟩
theorem Reads.to_rd {τ : Ty} {n : Nat} {xs : List Value} (h : Reads τ n xs) : ∀ w v, τ.p w v → (Ty.rd n xs).p w v := h

theorem Has.r {w0 : World} {Γ : Ctx} {x : Operand} {τ : Ty} {n : Nat} {xs : List Value} (h : OpT Γ x τ) (hr : Reads τ n xs) : Has w0 Γ x (Ty.rd n xs) := Has.c (.t h) hr

section
variable {P : Program} {w0 : World} {Γ : Ctx} {o : Oper}
/-- A value is laid into a new block. -/
theorem cBox {t : TypeId} {x : Operand} {v : Value} (ho : o.op = .box t x) (hx : OpT Γ x (Ty.ex v)) : OpOk P w0 Γ o (Ty.at_ t v.cells.toList) :=
  .new fun a w _ hs => by
    obtain ⟨u, h1, h2⟩ := hs x _ (by simp [ho, Op.operands]) hx
    have h2 : u = v := h2
    subst h2
    refine ⟨.pointer (some ⟨w.heap.size, 0, none⟩), _, ⟨w.heap.size, 0, u.cells, (0, 0), rfl, heap_alloc_new w _, fun j z hz => by rw [Nat.zero_add]; simpa using hz⟩, ((Keeps.refl [] w).alloc (.cells u.cells t)).below, ?_⟩
    unfold execOp
    simp only [ho, h1]
    simp [Instr.box, newVar, newRow, go_sem]
theorem cBoxSum {t : TypeId} {x : Operand} {y : Sm} (ho : o.op = .box t x) (hx : OpT Γ x (Ty.ex (.agg (u8s y.l)))) : OpOk P w0 Γ o (Ty.at_ t y.enc) := by
  have h := cBox (P := P) (w0 := w0) ho hx
  rwa [show (Value.agg (u8s y.l)).cells.toList = y.enc from u8s_list y.l] at h
/-- The address of an array's element. -/
theorem cIndexArr {t e ea : TypeId} {x ix : Operand} {n k : Nat} {kd : IntKind} {xs : List Value} (ho : o.op = .indexAddr t x ix) (hx : Has w0 Γ x (Ty.at_ e xs)) (hi : OpT Γ ix (Ty.ex (.int kd (k : Int)))) (hu : P.underlying t = some (.array n ea)) (hz : (P.info? ea).map (·.size) = some 1) (hk : k < n) : OpOk P w0 Γ o (Ty.at_ e (xs.drop k)) :=
  .val fun a w hb hs => by
    obtain ⟨v, h1, g, off, cs, fr, rfl, h2, h3⟩ := hx.see hs (by simp [ho, Op.operands]) hb
    obtain ⟨i, h5, h6⟩ := hs ix _ (by simp [ho, Op.operands]) hi
    have h6 : i = .int kd (k : Int) := h6
    obtain ⟨inf, hinf, hsz⟩ := Option.map_eq_some_iff.1 hz
    refine ⟨_, ⟨g, off + k, cs, fr, rfl, h2, fun j u hu => ?_⟩, ?_⟩
    · rw [List.getElem?_drop] at hu
      rw [Nat.add_assoc]
      exact h3 _ u hu
    · unfold execOp
      simp [ho, h1, h5, h6, Instr.indexAt, Instr.sureAddr, asIntOf, run_underlying hu, hk, sizeOf, typeInfo, hinf, hsz, Addr.add_lit]
/-- An array, as a slice. -/
theorem cSliceArr {t e ea : TypeId} {x : Operand} {n : Nat} {xs : List Value} (ho : o.op = .slice t x none none none) (hx : Has w0 Γ x (Ty.at_ e xs)) (hu : P.underlying t = some (.array n ea)) (hz : (P.info? ea).map (·.size) = some 1) (hn : n ≤ maxLen) : OpOk P w0 Γ o (Ty.sl e n xs) :=
  .val fun a w hb hs => by
    obtain ⟨v, h1, g, off, cs, fr, rfl, h2, h3⟩ := hx.see hs (by simp [ho, Op.operands]) hb
    obtain ⟨inf, hinf, hsz⟩ := Option.map_eq_some_iff.1 hz
    refine ⟨.slice (some ⟨g, off, none⟩) n n, ⟨_, n, rfl, Nat.le_refl _, hn, fun h => (by cases h), fun j u hu => ⟨g, off, cs, fr, rfl, h2, h3 j u hu⟩⟩, ?_⟩
    unfold execOp
    simp [ho, h1, Instr.sliceAt, Instr.sureAddr, Instr.sliceBounds, run_underlying hu, sizeOf, typeInfo, hinf, Addr.add_lit]
/-- xs[k:] -/
theorem cSliceLo {t e : TypeId} {x lo : Operand} {n k sz : Nat} {kd : IntKind} {xs : List Value} (ho : o.op = .slice t x (some lo) none none) (hx : Has w0 Γ x (Ty.sl e n xs)) (hl : OpT Γ lo (Ty.ex (.int kd (k : Int)))) (hu : P.underlying t = some (.slice e)) (hz : (P.info? e).map (·.size) = some sz) (hk : k ≤ n) (hxl : xs.length = n * sz) : OpOk P w0 Γ o (Ty.sl e (n - k) (xs.drop (k * sz))) :=
  .val fun a w hb hs => by
    obtain ⟨v, h1, A, c, rfl, h2, h3, h4, h5⟩ := hx.see hs (by simp [ho, Op.operands]) hb
    obtain ⟨i, h6, h7⟩ := hs lo _ (by simp [ho, Op.operands]) hl
    have h7 : i = .int kd (k : Int) := h7
    obtain ⟨inf, hinf, hsz⟩ := Option.map_eq_some_iff.1 hz
    refine ⟨.slice (if c = k then A else A.map (·.add (k * sz))) (n - k) (c - k), ⟨_, c - k, rfl, by omega, by omega, fun h => ?_, fun j u hu => ?_⟩, ?_⟩
    · split at h
      · have := h4 h; omega
      · have := h4 (by simpa using h); omega
    · rw [List.getElem?_drop] at hu
      obtain ⟨g, off, cs, fr, rfl, h8, h9⟩ := h5 _ u hu
      have hj : k * sz + j < n * sz := by rw [← hxl]; exact (List.getElem?_eq_some_iff.1 hu).1
      have hne : c ≠ k := fun h => by
        subst h
        have : n = c := by omega
        subst this
        omega
      rw [if_neg hne]
      exact ⟨g, off + k * sz, cs, fr, by simp [Addr.add_lit], h8, by rw [Nat.add_assoc]; exact h9⟩
    · unfold execOp
      simp [ho, h1, h6, h7, Instr.sliceAt, Instr.slice, Instr.sliceBounds, Instr.sliceBound, asIntOf, run_underlying hu, sizeOf, typeInfo, hinf, hsz, hk]
/-- xs[:k] -/
theorem cSliceHi {t e : TypeId} {x hi : Operand} {n k sz : Nat} {kd : IntKind} {xs : List Value} (ho : o.op = .slice t x none (some hi) none) (hx : Has w0 Γ x (Ty.sl e n xs)) (hl : OpT Γ hi (Ty.ex (.int kd (k : Int)))) (hu : P.underlying t = some (.slice e)) (hz : (P.info? e).map (·.size) = some sz) (hk : k ≤ n) : OpOk P w0 Γ o (Ty.sl e k (xs.take (k * sz))) :=
  .val fun a w hb hs => by
    obtain ⟨v, h1, A, c, rfl, h2, h3, h4, h5⟩ := hx.see hs (by simp [ho, Op.operands]) hb
    obtain ⟨i, h6, h7⟩ := hs hi _ (by simp [ho, Op.operands]) hl
    have h7 : i = .int kd (k : Int) := h7
    obtain ⟨inf, hinf, hsz⟩ := Option.map_eq_some_iff.1 hz
    refine ⟨.slice A k c, ⟨A, c, rfl, by omega, h3, fun h => ⟨by have := h4 h; omega, (h4 h).2⟩, fun j u hu => ?_⟩, ?_⟩
    · rw [List.getElem?_take] at hu
      split at hu
      · exact h5 j u hu
      · cases hu
    · unfold execOp
      have hkc : k ≤ c := by omega
      by_cases hc0 : c = 0
      · subst hc0
        obtain rfl : k = 0 := by omega
        simp [ho, h1, h6, h7, Instr.sliceAt, Instr.slice, Instr.sliceBounds, Instr.sliceBound, asIntOf, run_underlying hu, sizeOf, typeInfo, hinf]
      · cases A with
        | none => exact absurd (h4 rfl).2 hc0
        | some ad => simp [ho, h1, h6, h7, Instr.sliceAt, Instr.slice, Instr.sliceBounds, Instr.sliceBound, asIntOf, run_underlying hu, sizeOf, typeInfo, hinf, hkc, Addr.add]
/-- Calls by what the arguments are in whatever later world. -/
theorem cCallH1 {f : FuncId} {ats : Array TypeId} {x : Operand} {τ ρ : Ty} (ho : o.op = .call { callee := .value (.func f), args := #[x], argTypes := ats }) (hx : Has w0 Γ x τ) (hc : Fn1 P f τ ρ) : OpOk P w0 Γ o ρ :=
  .call fun a w hb hs => by
    obtain ⟨v, h1, h2⟩ := hx.see hs (by simp [ho, Op.operands, Call.operands]) hb
    refine ⟨f, #[v], ?_, hc.ret w v h2⟩
    rw [exec_go a.eval ho rfl]
    simp only [List.map_toArray, List.map_cons, List.map_nil, h1]
    exact hc.en _ w
theorem cCallH2 {f : FuncId} {ats : Array TypeId} {x y : Operand} {τ σ ρ : Ty} (ho : o.op = .call { callee := .value (.func f), args := #[x, y], argTypes := ats }) (hx : Has w0 Γ x τ) (hy : Has w0 Γ y σ) (hc : Fn2 P f τ σ ρ) : OpOk P w0 Γ o ρ :=
  .call fun a w hb hs => by
    obtain ⟨v, h1, h2⟩ := hx.see hs (by simp [ho, Op.operands, Call.operands]) hb
    obtain ⟨u, h3, h4⟩ := hy.see hs (by simp [ho, Op.operands, Call.operands]) hb
    refine ⟨f, #[v, u], ?_, hc.ret w v u h2 h4⟩
    rw [exec_go a.eval ho rfl]
    simp only [List.map_toArray, List.map_cons, List.map_nil, h1, h3]
    exact hc.en _ w
theorem cCallH3 {f : FuncId} {ats : Array TypeId} {x y z : Operand} {τ σ υ ρ : Ty} (ho : o.op = .call { callee := .value (.func f), args := #[x, y, z], argTypes := ats }) (hx : Has w0 Γ x τ) (hy : Has w0 Γ y σ) (hz : Has w0 Γ z υ) (hc : Fn3 P f τ σ υ ρ) : OpOk P w0 Γ o ρ :=
  .call fun a w hb hs => by
    obtain ⟨v, h1, h2⟩ := hx.see hs (by simp [ho, Op.operands, Call.operands]) hb
    obtain ⟨u, h3, h4⟩ := hy.see hs (by simp [ho, Op.operands, Call.operands]) hb
    obtain ⟨q, h5, h6⟩ := hz.see hs (by simp [ho, Op.operands, Call.operands]) hb
    refine ⟨f, #[v, u, q], ?_, hc.ret w v u q h2 h4 h6⟩
    rw [exec_go a.eval ho rfl]
    simp only [List.map_toArray, List.map_cons, List.map_nil, h1, h3, h5]
    exact hc.en _ w
theorem Fn1.pre {f : FuncId} {τ σ ρ : Ty} (h : Fn1 P f τ ρ) (hc : ∀ w v, σ.p w v → τ.p w v) : Fn1 P f σ ρ := ⟨h.en, fun w v hv => h.ret w v (hc w v hv)⟩
theorem Fn1.post {f : FuncId} {τ ρ υ : Ty} (h : Fn1 P f τ ρ) (hc : ∀ w v, ρ.p w v → υ.p w v) : Fn1 P f τ υ := ⟨h.en, fun w v hv => (h.ret w v hv).mono hc⟩
end

section
variable {P : Program} {Γ : Ctx} {N : Nat} {a : Act} {w : World} {Q : Exit → Act → World → Prop}
theorem ret3 {fn : Func} {R : Ending → World → Prop} {s s2 s3 : Nat} {τ τ2 τ3 : Ty} (hF : Fr N Γ a w) (hr : fn.results = #[.tmp s, .tmp s2, .tmp s3]) (hs : look Γ s = some τ) (hs2 : look Γ s2 = some τ2) (hs3 : look Γ s3 = some τ3) (h : ∀ v u q, τ.p w v → τ2.p w u → τ3.p w q → R (.returned (.tuple #[v, u, q])) w) : bodyPost P fn R .ret a w := by
  obtain ⟨v, h1, h2⟩ := hF.val s τ hs
  obtain ⟨u, h3, h4⟩ := hF.val s2 τ2 hs2
  obtain ⟨q, h5, h6⟩ := hF.val s3 τ3 hs3
  refine bodyPost_ret (v := .tuple #[v, u, q]) ?_ hF.defers (h v u q h2 h4 h6)
  simp [results, hr, h1, h3, h5]
/-- The body's end without a return. -/
theorem end0 {fn : Func} {R : Ending → World → Prop} (hF : Fr N Γ a w) (hr : fn.results = #[]) (h : R (.returned (.tuple #[])) w) : bodyPost P fn R .normal a w :=
  ⟨hF.defers, .tuple #[], by simp [results, hr], h⟩
/-- The result lies in a variable. -/
theorem retCell {fn : Func} {R : Ending → World → Prop} {s : Nat} {ty t : TypeId} {cs : Array Value} {g : Nat} {d : TypeDesc} (hF : Fr N Γ a w) (hr : fn.results = #[.cell s ty]) (hs : look Γ s = some (Ty.ex (.pointer (some ⟨g, 0, none⟩)))) (hB : Blk w g t cs)
    (hu : P.underlying ty = some d) (hd : (match d with | .struct _ | .array _ _ => true | _ => false) = true) (hi : (P.info? ty).map (·.size) = some cs.size) (h : R (.returned (.agg cs)) w) : bodyPost P fn R .ret a w :=
  post_blk hr hF.defers g t cs d (hF.getEx hs) hB hu hd hi h
/-- A whole value is stored over a variable of the call's own. -/
theorem tlStore {ops : Array Oper} {rest : List Oper} {o : Oper} {ty t : TypeId} {p s : Nat} {g : Nat} {cs cells : Array Value} {Δ : Ctx} (hF : Fr N Γ a w) (hg : o.guard = none) (hd : o.dst = none) (ho : o.op = .store ty (.tmp p) (.tmp s)) (hp : look Γ p = some (Ty.ex (.pointer (some ⟨g, 0, none⟩)))) (hs : look Γ s = some (Ty.ex (.agg cells)))
    (hB : Blk w g t cs) (hcs : cells.size = cs.size) (hi : (P.info? ty).map (·.size) = some cells.size) (h1 : cells.all (·.oneCell') = true) (hΔ : Fr N Δ a w) (hfree : Δ.free t = true)
    (hk : ∀ w', Fr N Δ a w' → Blk w' g t cells → Keeps [g] w w' → wpList P ops Q rest a w') : wpList P ops Q (o :: rest) a w :=
  wpList_store_blk hg ty (.tmp p) (.tmp s) ho g t cs cells (hF.getEx hp) (hF.getEx hs) hB hcs hi h1 fun w' h2 h3 => by
    rw [hd]
    refine hk w' (hΔ.free h3 (fun b hb _ => ?_) hfree) h2 h3
    simp only [List.mem_singleton] at hb
    subst hb
    exact ⟨cs, (0, 0), hB⟩
end
end Go.Proofs.Ytibckdnfgopghaa

/- Regions by types: rows of the call's own that are written: elements stored, rows cleared; calls that act. -/
namespace Go.Proofs.Ytibckdnfgopghaa
open Go.RowKit

/-- A segment by its letters: n elements of sz cells in block g from off on, with room for cap. -/
def SegL (w : World) (e : TypeId) (sz g off n cap : Nat) (xs : List Value) : Prop :=
  xs.length = n * sz ∧ n ≤ cap ∧ cap ≤ maxLen ∧ ∃ cs, Blk w g e cs ∧ off + cap * sz ≤ cs.size ∧ ∀ j, j < n * sz → cs[off + j]? = xs[j]?
theorem Seg.cases {w : World} {e : TypeId} {sz n : Nat} {v : Value} {xs : List Value} {S : List Nat} (h : Seg w e sz v n xs S) :
    (v = .slice none 0 0 ∧ n = 0 ∧ xs = [] ∧ S = []) ∨ ∃ g off cap, v = .slice (some ⟨g, off, none⟩) n cap ∧ S = [g] ∧ SegL w e sz g off n cap xs := by
  rcases h with ⟨hl, ⟨rfl, rfl, rfl⟩ | ⟨g, off, cap, cs, rfl, rfl, hb, hs, hn, hm, hx⟩⟩
  · exact .inl ⟨rfl, rfl, List.eq_nil_of_length_eq_zero (by simpa using hl), rfl⟩
  · exact .inr ⟨g, off, cap, rfl, rfl, hl, hn, hm, cs, hb, hs, hx⟩
section
variable {w w' : World} {e : TypeId} {sz g off n cap : Nat} {xs : List Value}
theorem SegL.seg (h : SegL w e sz g off n cap xs) : Seg w e sz (.slice (some ⟨g, off, none⟩) n cap) n xs [g] :=
  let ⟨hl, hn, hm, cs, hb, hs, hx⟩ := h; ⟨hl, .inr ⟨g, off, cap, cs, rfl, rfl, hb, hs, hn, hm, hx⟩⟩
theorem SegL.lt (h : SegL w e sz g off n cap xs) : g < w.heap.size := let ⟨_, _, _, _, hb, _⟩ := h; hb.lt
theorem SegL.keeps (h : SegL w e sz g off n cap xs) {S : List Nat} (k : Keeps S w w') (hg : g ∉ S) : SegL w' e sz g off n cap xs :=
  let ⟨hl, hn, hm, cs, hb, hs, hx⟩ := h; ⟨hl, hn, hm, cs, hb.keeps k hg, hs, hx⟩
theorem SegL.below (h : SegL w e sz g off n cap xs) (hb : Below w.heap.size w w') : SegL w' e sz g off n cap xs := h.keeps (Keeps.of_below (S := []) hb) (by simp)
theorem SegL.block (h : SegL w e sz g off n cap xs) : ∃ cs fr, w.heap[g]? = some (.cells cs e fr) := let ⟨_, _, _, cs, hb, _⟩ := h; ⟨cs, (0, 0), hb⟩
theorem SegL.sl (h : SegL w e sz g off n cap xs) : SlP w e (.slice (some ⟨g, off, none⟩) n cap) n xs := h.seg.sl
/-- Cells written over the cells from k on. -/
def over (xs : List Value) (k : Nat) (vs : List Value) : List Value := xs.take k ++ vs ++ xs.drop (k + vs.length)
theorem over_len {xs vs : List Value} {k : Nat} (h : k + vs.length ≤ xs.length) : (over xs k vs).length = xs.length := by
  unfold over
  simp
  omega
theorem over_get {xs vs : List Value} {k j : Nat} (h : k + vs.length ≤ xs.length) : (over xs k vs)[j]? = if k ≤ j ∧ j < k + vs.length then vs[j - k]? else xs[j]? := by
  unfold over
  by_cases h1 : j < k
  · rw [List.append_assoc, List.getElem?_append_left (by simp; omega), List.getElem?_take, if_pos h1, if_neg (by omega)]
  · by_cases h2 : j < k + vs.length
    · rw [List.getElem?_append_left (by simp; omega), List.getElem?_append_right (by simp; omega), if_pos (by omega)]
      congr 1
      simp
      omega
    · rw [List.getElem?_append_right (by simp; omega), if_neg (by omega), List.getElem?_drop]
      congr 1
      simp
      omega
theorem SegL.write (h : SegL w e sz g off n cap xs) {k : Nat} {vs : List Value} (hk : k + vs.length ≤ n * sz) : SegL (w.setCells g (off + k) vs) e sz g off n cap (over xs k vs) ∧ Keeps [g] w (w.setCells g (off + k) vs) := by
  obtain ⟨hl, hn, hm, cs, hb, hs, hx⟩ := h
  have hle : n * sz ≤ cap * sz := Nat.mul_le_mul_right _ hn
  refine ⟨⟨by rw [over_len (by omega)]; exact hl, hn, hm, _, hb.setCells vs (off + k), by rw [splice_size]; exact hs, fun j hj => ?_⟩, Keeps.setCells (.inl (by simp)) vs (off + k) (Keeps.refl _ _)⟩
  rw [splice_get _ _ _ _ (by omega), over_get (by omega)]
  by_cases hc : k ≤ j ∧ j < k + vs.length
  · rw [if_pos (by omega), if_pos hc]
    congr 1
    omega
  · rw [if_neg (by omega), if_neg hc]
    exact hx j hj
theorem SegL.there (h : SegL w e sz g off n cap xs) {k m : Nat} (hk : k + m ≤ n * sz) : w.there g (off + k) m := by
  obtain ⟨hl, hn, hm, cs, hb, hs, hx⟩ := h
  have hle : n * sz ≤ cap * sz := Nat.mul_le_mul_right _ hn
  exact hb.there (by omega)
end
theorem over_flat (D : List Sm) {k : Nat} (x : Sm) (hk : k < D.length) : over (flat D) (k * 32) x.enc = flat (D.set k x) := by
  unfold over
  rw [enc_len, show k * 32 + 32 = (k + 1) * 32 by omega, flat_take, flat_drop, List.set_eq_take_append_cons_drop, if_pos hk]
  simp [flat]

section
variable {P : Program} {w0 : World} {Γ : Ctx} {o : Oper}
/-- The address of an element of a row of the call's own. -/
theorem cIndexEx {t e : TypeId} {x ix : Operand} {g off n c k sz : Nat} {kd : IntKind} (ho : o.op = .indexAddr t x ix) (hx : OpT Γ x (Ty.ex (.slice (some ⟨g, off, none⟩) n c))) (hi : OpT Γ ix (Ty.ex (.int kd (k : Int)))) (hu : P.underlying t = some (.slice e)) (hz : (P.info? e).map (·.size) = some sz) (hk : k < n) : OpOk P w0 Γ o (Ty.ex (.pointer (some ⟨g, off + k * sz, none⟩))) :=
  .val fun a w _ hs => by
    obtain ⟨v, h1, h2⟩ := hs x _ (by simp [ho, Op.operands]) hx
    obtain ⟨i, h5, h6⟩ := hs ix _ (by simp [ho, Op.operands]) hi
    have h2 : v = .slice (some ⟨g, off, none⟩) n c := h2
    have h6 : i = .int kd (k : Int) := h6
    obtain ⟨inf, hinf, hsz⟩ := Option.map_eq_some_iff.1 hz
    refine ⟨_, rfl, ?_⟩
    unfold execOp
    simp [ho, h1, h2, h5, h6, Instr.indexAt, asIntOf, run_underlying hu, hk, sizeOf, typeInfo, hinf, hsz, Addr.add_lit]
theorem cLenEx {x : Operand} {A : Option Addr} {n c : Nat} {t d : TypeId} (ho : o.op = .call { callee := .builtin .len, args := #[x], argTypes := #[t] }) (hx : OpT Γ x (Ty.ex (.slice A n c))) (hu : P.underlying t = some (.slice d)) : OpOk P w0 Γ o (Ty.ex (.int .i64 (n : Int))) :=
  cLenH ho (.t hx) (fun _ _ e => ⟨A, c, e⟩) hu
/-- xs[k:], xs[:k] of a row of the call's own. -/
theorem cSliceLoEx {t e : TypeId} {x lo : Operand} {g off n c k sz : Nat} {kd : IntKind} (ho : o.op = .slice t x (some lo) none none) (hx : OpT Γ x (Ty.ex (.slice (some ⟨g, off, none⟩) n c))) (hl : OpT Γ lo (Ty.ex (.int kd (k : Int)))) (hu : P.underlying t = some (.slice e)) (hz : (P.info? e).map (·.size) = some sz) (hk : k < n) (hn : n ≤ c) : OpOk P w0 Γ o (Ty.ex (.slice (some ⟨g, off + k * sz, none⟩) (n - k) (c - k))) :=
  .val fun a w _ hs => by
    obtain ⟨v, h1, h2⟩ := hs x _ (by simp [ho, Op.operands]) hx
    obtain ⟨i, h5, h6⟩ := hs lo _ (by simp [ho, Op.operands]) hl
    have h2 : v = .slice (some ⟨g, off, none⟩) n c := h2
    have h6 : i = .int kd (k : Int) := h6
    obtain ⟨inf, hinf, hsz⟩ := Option.map_eq_some_iff.1 hz
    refine ⟨_, rfl, ?_⟩
    have hne : ¬ c = k := by omega
    have hkn : k ≤ n := by omega
    unfold execOp
    simp [ho, h1, h2, h5, h6, Instr.sliceAt, Instr.slice, Instr.sliceBounds, Instr.sliceBound, asIntOf, run_underlying hu, sizeOf, typeInfo, hinf, hsz, hkn, hne, Addr.add_lit]
theorem cSliceHiEx {t e : TypeId} {x hi : Operand} {g off n c k sz : Nat} {kd : IntKind} (ho : o.op = .slice t x none (some hi) none) (hx : OpT Γ x (Ty.ex (.slice (some ⟨g, off, none⟩) n c))) (hl : OpT Γ hi (Ty.ex (.int kd (k : Int)))) (hu : P.underlying t = some (.slice e)) (hz : (P.info? e).map (·.size) = some sz) (hk : k ≤ c) : OpOk P w0 Γ o (Ty.ex (.slice (some ⟨g, off, none⟩) k c)) :=
  .val fun a w _ hs => by
    obtain ⟨v, h1, h2⟩ := hs x _ (by simp [ho, Op.operands]) hx
    obtain ⟨i, h5, h6⟩ := hs hi _ (by simp [ho, Op.operands]) hl
    have h2 : v = .slice (some ⟨g, off, none⟩) n c := h2
    have h6 : i = .int kd (k : Int) := h6
    obtain ⟨inf, hinf, hsz⟩ := Option.map_eq_some_iff.1 hz
    refine ⟨_, rfl, ?_⟩
    unfold execOp
    by_cases h0 : c = 0
    · subst h0
      obtain rfl : k = 0 := by omega
      simp [ho, h1, h2, h5, h6, Instr.sliceAt, Instr.slice, Instr.sliceBounds, Instr.sliceBound, asIntOf, run_underlying hu, sizeOf, typeInfo, hinf]
    · simp [ho, h1, h2, h5, h6, Instr.sliceAt, Instr.slice, Instr.sliceBounds, Instr.sliceBound, asIntOf, run_underlying hu, sizeOf, typeInfo, hinf, hk, Addr.add]
/-- '== nil' -/
theorem cEqlNil {t e t2 : TypeId} {x : Operand} {A : Option Addr} {n c : Nat} (ho : o.op = .binOp .eql t x (.const (.slice none 0 0)) t2) (hx : OpT Γ x (Ty.ex (.slice A n c))) (hu : P.underlying t = some (.slice e)) : OpOk P w0 Γ o (Ty.ex (.bool A.isNone)) :=
  cBin ho hx rfl fun w => by
    have hg : (eqGuard .eql t x (.const (.slice none 0 0)) (.slice A n c) (.slice none 0 0)).run P w = .ok () w := by simp [eqGuard]
    rw [Sem.run_bind, hg]
    exact Lib.run_eql_slice_nil w t e A n c 0 0 hu
/-- A slice of no element, with no room: of the call's own. -/
theorem cBuild0 {t e : TypeId} {z : Value} {sz bytes : Nat} (ho : o.op = .buildSlice t 0 #[]) (hu : P.underlying t = some (.slice e)) (hi : (P.info? e).map (fun i => (i.zero, i.size, i.bytes)) = some (some z, sz, bytes)) : OpOk P w0 Γ o (Ty.seg w0 e sz 0 []) :=
  .new fun a w hb _ => by
    have hr := run_buildSlice (P := P) 0 [] hu hi rfl (by simp) (by omega) w
    refine ⟨.slice (some ⟨w.heap.size, 0, none⟩) 0 0, w.alloc (.cells #[] e), ⟨[w.heap.size], ⟨by simp, .inr ⟨w.heap.size, 0, 0, #[], rfl, rfl, Blk.new w _ _, by simp, Nat.le_refl _, by simp [maxLen], fun j hj => by omega⟩⟩, fun y hy => ?_⟩, ((Keeps.refl [] w).alloc _).below, ?_⟩
    · simp only [List.mem_singleton] at hy
      subst hy
      exact hb.size
    · unfold execOp
      simp only [ho]
      rw [Sem.run_bind]
      have e1 : ((#[] : Array (Nat × Operand)).map fun (i, x) => (i, a.eval x)) = (([] : List Value).zipIdx.map fun p => (p.2, p.1)).toArray := by simp
      rw [e1, hr]
      rfl

/-- A new row with room, its first n elements nought. -/
def Ty.room (w0 : World) (e : TypeId) (sz n : Nat) : Ty := ⟨fun w v => ∃ g c cs, v = .slice (some ⟨g, 0, none⟩) n c ∧ w0.heap.size ≤ g ∧ Blk w g e cs ∧ cs.size = c * sz ∧ n ≤ c ∧ c ≤ maxLen, fun t => t == e, fun {w w' v S} h k hA => by
  obtain ⟨g, c, cs, h1, h2, h3, h4⟩ := h
  exact ⟨g, c, cs, h1, h2, keeps_block k hA h3 (by simp), h4⟩⟩
theorem Ty.room_isSl (w0 : World) (e : TypeId) (sz n : Nat) : IsSl (Ty.room w0 e sz n) n := fun _ _ ⟨_, c, _, h, _⟩ => ⟨_, c, h⟩
theorem cAppendMake {t ti e : TypeId} {x y : Operand} {z : Value} {sz bytes n : Nat} (ho : o.op = .call { callee := .builtin .append, args := #[x, y], argTypes := #[t, ti] }) (hx : OpT Γ x (Ty.ex (.slice none 0 0))) (hy : OpT Γ y (Ty.ex (.int .i64 (n : Int)))) (ht : P.underlying t = some (.slice e)) (hti : P.underlying ti = some (.int .i64)) (hi : (P.info? e).map (fun i => (i.zero, i.size, i.bytes)) = some (some z, sz, bytes)) (hzs : z.cells.size = sz)
    (h0 : 0 < n) (hn : n ≤ maxLen) (hb : n * bytes ≤ 281474976710656) : OpOk P w0 Γ o (Ty.room w0 e sz n) :=
  .new fun a w hbl hs => by
    obtain ⟨u, h1, h2⟩ := hs x _ (by simp [ho, Op.operands, Call.operands]) hx
    obtain ⟨i, h3, h4⟩ := hs y _ (by simp [ho, Op.operands, Call.operands]) hy
    have h2 : u = .slice none 0 0 := h2
    have h4 : i = .int .i64 (n : Int) := h4
    obtain ⟨inf, hinf, hz, hsz, hby⟩ := info_parts hi
    have hn0 : n ≠ 0 := by omega
    have hm : (n : Int) ≤ 9223372036854775807 := by simp only [maxLen] at hn; omega
    have h63' : ¬ (9223372036854775807 < (n : Int)) := by omega
    have h48 : ¬ (281474976710656 < Builtin.nextslicecap n 0 * bytes) := by rw [nextslicecap_zero h0]; omega
    have h48' : ¬ (281474976710656 < (n : Int) * (bytes : Int)) := by
      rw [← Int.natCast_mul]; omega
    have hw : IntKind.i64.wrap (n : Int) = n := IntWalk.i64_in _ (by omega)
    have hneg : ¬ ((n : Int) < 0) := by omega
    have hrun : (Builtin.append_ #[t, ti] o.type #[.slice none 0 0, .int .i64 (n : Int)]).run P w = .ok (.slice (some ⟨w.heap.size, 0, none⟩) n (grownCap w n 0 e)) (w.drew.alloc (.cells ((if n * sz = 0 then #[] else Builtin.zeroCells z.cells n) ++ Builtin.zeroCells z.cells (grownCap w n 0 e - n)) e)) := by
      by_cases hns : n * sz = 0
      · simp [Builtin.append_, run_underlying ht, run_underlying hti, sizeOf, typeInfo, zeroValue, hinf, hz, hsz, hby, asInt, asIntOf, hw, hneg, hn0, h63', h48, h48', Question.forced, run_firstCells_none, newRow, grownCap, hns]
      · simp [Builtin.append_, run_underlying ht, run_underlying hti, sizeOf, typeInfo, zeroValue, hinf, hz, hsz, hby, asInt, asIntOf, hw, hneg, hn0, h63', h48, h48', Question.forced, run_firstCells_none, newRow, grownCap, hns]
    have hge := grownCap_ge w n 0 e
    have hsize : ((if n * sz = 0 then (#[] : Array Value) else Builtin.zeroCells z.cells n) ++ Builtin.zeroCells z.cells (grownCap w n 0 e - n)).size = grownCap w n 0 e * sz := by
      have e1 : (if n * sz = 0 then (#[] : Array Value) else Builtin.zeroCells z.cells n).size = n * sz := by
        split
        · simp; omega
        · rw [size_zeroCells, hzs]
      rw [Array.size_append, e1, size_zeroCells, hzs, ← Nat.add_mul]
      congr 1
      omega
    generalize ((if n * sz = 0 then (#[] : Array Value) else Builtin.zeroCells z.cells n) ++ Builtin.zeroCells z.cells (grownCap w n 0 e - n)) = CS at hrun hsize
    refine ⟨_, w.drew.alloc (.cells CS e), ⟨w.heap.size, grownCap w n 0 e, CS, rfl, hbl.size, Blk.new w.drew _ _, hsize, hge, grownCap_le_maxLen w n 0 e hn⟩, ((Keeps.refl [] w).drew.alloc _).below, ?_⟩
    unfold execOp
    simp only [ho, resolve, invoke, builtin, Sem.run_bind, Sem.run_pure, Result.andThen_ok, List.map_toArray, List.map_cons, List.map_nil, h1, h2, h3, h4, hrun]
theorem cCapNil {x : Operand} {t d : TypeId} (ho : o.op = .call { callee := .builtin .cap, args := #[x], argTypes := #[t] }) (hx : OpT Γ x (Ty.ex (.slice none 0 0))) (hu : P.underlying t = some (.slice d)) : OpOk P w0 Γ o (Ty.ex (.int .i64 0)) :=
  .val fun a w _ hs => by
    obtain ⟨v, h1, h2⟩ := hs x _ (by simp [ho, Op.operands, Call.operands]) hx
    have h2 : v = .slice none 0 0 := h2
    refine ⟨_, rfl, ?_⟩
    unfold execOp
    simp [ho, h1, h2, resolve, invoke, builtin, Builtin.cap_, run_underlying hu, goInt]
theorem cSliceNil {t e : TypeId} {x hi : Operand} {sz : Nat} {kd : IntKind} (ho : o.op = .slice t x none (some hi) none) (hx : OpT Γ x (Ty.ex (.slice none 0 0))) (hl : OpT Γ hi (Ty.ex (.int kd 0))) (hu : P.underlying t = some (.slice e)) (hz : (P.info? e).map (·.size) = some sz) : OpOk P w0 Γ o (Ty.ex (.slice none 0 0)) :=
  .val fun a w _ hs => by
    obtain ⟨v, h1, h2⟩ := hs x _ (by simp [ho, Op.operands]) hx
    obtain ⟨i, h8, h9⟩ := hs hi _ (by simp [ho, Op.operands]) hl
    have h2 : v = .slice none 0 0 := h2
    have h9 : i = .int kd 0 := h9
    obtain ⟨inf, hinf, hsz⟩ := Option.map_eq_some_iff.1 hz
    refine ⟨_, rfl, ?_⟩
    unfold execOp
    simp [ho, h1, h2, h8, h9, Instr.sliceAt, Instr.slice, Instr.sliceBounds, Instr.sliceBound, asIntOf, run_underlying hu, sizeOf, typeInfo, hinf]
/-- s[:0] of such a row. -/
theorem cRoomHi {t e : TypeId} {x hi : Operand} {n sz : Nat} {kd : IntKind} (ho : o.op = .slice t x none (some hi) none) (hx : OpT Γ x (Ty.room w0 e sz n)) (hl : OpT Γ hi (Ty.ex (.int kd 0))) (hu : P.underlying t = some (.slice e)) (hz : (P.info? e).map (·.size) = some sz) : OpOk P w0 Γ o (Ty.seg w0 e sz 0 []) :=
  .val fun a w _ hs => by
    obtain ⟨v, h1, g, c, cs, h2, h3, h4, h5, h6, h7⟩ := hs x _ (by simp [ho, Op.operands]) hx
    obtain ⟨i, h8, h9⟩ := hs hi _ (by simp [ho, Op.operands]) hl
    have h9 : i = .int kd 0 := h9
    obtain ⟨inf, hinf, hsz⟩ := Option.map_eq_some_iff.1 hz
    refine ⟨.slice (some ⟨g, 0, none⟩) 0 c, ⟨[g], ⟨by simp, .inr ⟨g, 0, c, cs, rfl, rfl, h4, by omega, Nat.zero_le _, h7, fun j hj => by omega⟩⟩, fun y hy => ?_⟩, ?_⟩
    · simp only [List.mem_singleton] at hy
      subst hy
      exact h3
    · unfold execOp
      by_cases h0 : c = 0
      · subst h0
        simp [ho, h1, h2, h8, h9, Instr.sliceAt, Instr.slice, Instr.sliceBounds, Instr.sliceBound, asIntOf, run_underlying hu, sizeOf, typeInfo, hinf]
      · simp [ho, h1, h2, h8, h9, Instr.sliceAt, Instr.slice, Instr.sliceBounds, Instr.sliceBound, asIntOf, run_underlying hu, sizeOf, typeInfo, hinf, Addr.add]
/-- Cells told by types, from an address on. -/
def Ty.atT (e : TypeId) (τs : List Ty) : Ty := ⟨fun w v => ∃ g off cs fr, v = .pointer (some ⟨g, off, none⟩) ∧ w.heap[g]? = some (.cells cs e fr) ∧ ∀ (j : Nat) (τ : Ty), τs[j]? = some τ → ∃ u, cs[off + j]? = some u ∧ τ.p w u, fun t => t == e || τs.any fun τ => τ.el t, fun {w w' v S} h k hA => by
  obtain ⟨g, off, cs, fr, h1, h2, h3⟩ := h
  refine ⟨g, off, cs, fr, h1, keeps_block k hA h2 (by simp), fun j τ hj => ?_⟩
  obtain ⟨u, h4, h5⟩ := h3 j τ hj
  refine ⟨u, h4, τ.st h5 k fun b hb hl => ?_⟩
  obtain ⟨cs', t, fr', h10, h11⟩ := hA b hb hl
  refine ⟨cs', t, fr', h10, ?_⟩
  simp only [Bool.or_eq_false_iff, List.any_eq_false] at h11
  simpa using h11.2 τ (List.mem_of_getElem? hj)⟩
theorem cIndexT {t e : TypeId} {x ix : Operand} {n k : Nat} {kd : IntKind} {τs : List Ty} (ho : o.op = .indexAddr t x ix) (hx : Has w0 Γ x (Ty.slT e n τs)) (hi : OpT Γ ix (Ty.ex (.int kd (k : Int)))) (hu : P.underlying t = some (.slice e)) (hz : (P.info? e).map (·.size) = some 1) (hk : k < n) (hne : k < τs.length) : OpOk P w0 Γ o (Ty.atT e (τs.drop k)) :=
  .val fun a w hb hs => by
    obtain ⟨v, h1, A, c, rfl, h2, h3, h4, h4'⟩ := hx.see hs (by simp [ho, Op.operands]) hb
    obtain ⟨i, h5, h6⟩ := hs ix _ (by simp [ho, Op.operands]) hi
    have h6 : i = .int kd (k : Int) := h6
    obtain ⟨g, off, cs, fr, u, rfl, h7, h8, _⟩ := h4' k _ (List.getElem?_eq_getElem hne)
    obtain ⟨inf, hinf, hsz⟩ := Option.map_eq_some_iff.1 hz
    refine ⟨_, ⟨g, off + k, cs, fr, rfl, h7, fun j τ hj => ?_⟩, ?_⟩
    · rw [List.getElem?_drop] at hj
      obtain ⟨g', off', cs', fr', u', e1, h9, h10, h11⟩ := h4' _ τ hj
      injection e1 with e1
      injection e1 with e1 e2
      subst e1 e2
      rw [h7] at h9
      injection h9 with h9
      injection h9 with h9
      subst h9
      exact ⟨u', by rw [Nat.add_assoc]; exact h10, h11⟩
    · unfold execOp
      simp [ho, h1, h5, h6, Instr.indexAt, asIntOf, run_underlying hu, hk, sizeOf, typeInfo, hinf, hsz, Addr.add_lit]
theorem cLoadT {ty e : TypeId} {x : Operand} {τ : Ty} {τs : List Ty} {d : TypeDesc} (ho : o.op = .load ty x) (hx : Has w0 Γ x (Ty.atT e (τ :: τs))) (hu : P.underlying ty = some d) (hd : (match d with | .struct _ | .array _ _ => true | _ => false) = false) : OpOk P w0 Γ o τ :=
  .val fun a w hb hs => by
    obtain ⟨v, h1, g, off, cs, fr, rfl, h2, h3⟩ := hx.see hs (by simp [ho, Op.operands]) hb
    obtain ⟨u, h4, h5⟩ := h3 0 τ rfl
    refine ⟨u, h5, ?_⟩
    have hr : Rd w (some ⟨g, off, none⟩) [u] := fun j z hz => by
      match j, hz with
      | 0, hz =>
        simp only [List.getElem?_cons_zero, Option.some.injEq] at hz
        subst hz
        exact ⟨_, rfl, by rw [Addr.add_lit, cell_of_row w g (off + 0) cs e fr h2]; exact h4⟩
    have h6 := run_loadVar_one (P := P) hr hu hd
    unfold execOp
    simp [ho, h1, Instr.loadAt, Instr.sureAddr, h6]
/-- Calls that hand back a row of the call's own. -/
structure FnSeg1 (P : Program) (f : FuncId) (τ : Ty) (e : TypeId) (sz n : Nat) (xs : List Value) : Prop where
  en : Enters P f
  ret : ∀ w v, τ.p w v → Ret P f #[v] w (Ty.seg w e sz n xs)
structure FnSeg2 (P : Program) (f : FuncId) (τ σ : Ty) (e : TypeId) (sz n : Nat) (xs : List Value) : Prop where
  en : Enters P f
  ret : ∀ w v u, τ.p w v → σ.p w u → Ret P f #[v, u] w (Ty.seg w e sz n xs)
theorem seg_old {w1 w2 : World} (hs : w1.heap.size ≤ w2.heap.size) {e : TypeId} {sz n : Nat} {xs : List Value} : ∀ w v, (Ty.seg w2 e sz n xs).p w v → (Ty.seg w1 e sz n xs).p w v := fun _ _ ⟨S, h, hS⟩ => ⟨S, h, fun y hy => Nat.le_trans hs (hS y hy)⟩
theorem FnSeg1.fn {f : FuncId} {τ : Ty} {e : TypeId} {sz n : Nat} {xs : List Value} (h : FnSeg1 P f τ e sz n xs) : Fn1 P f τ (Ty.sl e n xs) := ⟨h.en, fun w v hv => (h.ret w v hv).mono fun _ _ => seg_sl _ _⟩
theorem FnSeg2.fn {f : FuncId} {τ σ : Ty} {e : TypeId} {sz n : Nat} {xs : List Value} (h : FnSeg2 P f τ σ e sz n xs) : Fn2 P f τ σ (Ty.sl e n xs) := ⟨h.en, fun w v u hv hu => (h.ret w v u hv hu).mono fun _ _ => seg_sl _ _⟩
theorem cCallS1 {f : FuncId} {ats : Array TypeId} {x : Operand} {τ : Ty} {e : TypeId} {sz n : Nat} {xs : List Value} (ho : o.op = .call { callee := .value (.func f), args := #[x], argTypes := ats }) (hx : Has w0 Γ x τ) (hc : FnSeg1 P f τ e sz n xs) : OpOk P w0 Γ o (Ty.seg w0 e sz n xs) :=
  .call fun a w hb hs => by
    obtain ⟨v, h1, h2⟩ := hx.see hs (by simp [ho, Op.operands, Call.operands]) hb
    refine ⟨f, #[v], ?_, (hc.ret w v h2).mono (seg_old hb.size)⟩
    rw [exec_go a.eval ho rfl]
    simp only [List.map_toArray, List.map_cons, List.map_nil, h1]
    exact hc.en _ w
theorem cCallS2 {f : FuncId} {ats : Array TypeId} {x y : Operand} {τ σ : Ty} {e : TypeId} {sz n : Nat} {xs : List Value} (ho : o.op = .call { callee := .value (.func f), args := #[x, y], argTypes := ats }) (hx : Has w0 Γ x τ) (hy : Has w0 Γ y σ) (hc : FnSeg2 P f τ σ e sz n xs) : OpOk P w0 Γ o (Ty.seg w0 e sz n xs) :=
  .call fun a w hb hs => by
    obtain ⟨v, h1, h2⟩ := hx.see hs (by simp [ho, Op.operands, Call.operands]) hb
    obtain ⟨u, h3, h4⟩ := hy.see hs (by simp [ho, Op.operands, Call.operands]) hb
    refine ⟨f, #[v, u], ?_, (hc.ret w v u h2 h4).mono (seg_old hb.size)⟩
    rw [exec_go a.eval ho rfl]
    simp only [List.map_toArray, List.map_cons, List.map_nil, h1, h3]
    exact hc.en _ w
end

section
variable {P : Program} {ops : Array Oper} {Q : Exit → Act → World → Prop} {rest : List Oper} {o : Oper} {a : Act} {w : World} {N : Nat} {Γ : Ctx}
/-- A sum is stored into an element of a row of the call's own. -/
theorem tlStoreAt {Δ : Ctx} {ty e : TypeId} {p s : Nat} {sz g off n cap k : Nat} {xs : List Value} {cells : Array Value} (hF : Fr N Γ a w) (hg : o.guard = none) (hd : o.dst = none) (ho : o.op = .store ty (.tmp p) (.tmp s)) (hp : look Γ p = some (Ty.ex (.pointer (some ⟨g, off + k, none⟩)))) (hs : look Γ s = some (Ty.ex (.agg cells)))
    (hseg : SegL w e sz g off n cap xs) (hk : k + cells.size ≤ n * sz) (hi : (P.info? ty).map (·.size) = some cells.size) (h1 : cells.all (·.oneCell') = true) (hΔ : Fr N Δ a w) (hfree : Δ.free e = true)
    (hq : ∀ w', Fr N Δ a w' → SegL w' e sz g off n cap (over xs k cells.toList) → Keeps [g] w w' → wpList P ops Q rest a w') : wpList P ops Q (o :: rest) a w := by
  refine wpList_store_mid hg ty (.tmp p) (.tmp s) ho g (off + k) cells (hF.getEx hp) (hF.getEx hs) (hseg.there hk) hi h1 ?_
  rw [hd]
  obtain ⟨h2, h3⟩ := hseg.write (k := k) (vs := cells.toList) (by simpa using hk)
  refine hq _ (hΔ.free h3 (fun b hb _ => ?_) hfree) h2 h3
  simp only [List.mem_singleton] at hb
  subst hb
  exact hseg.block
theorem run_clear_row {t ty e : TypeId} {z : Value} {sz bytes g off n cap m : Nat} {xs : List Value} (ht : P.underlying t = some (.slice e)) (hi : (P.info? e).map (fun i => (i.zero, i.size, i.bytes)) = some (some z, sz, bytes)) (hzs : z.cells.size = sz) (hz1 : ∀ u ∈ z.cells.toList, u.oneCell' = true)
    (hseg : SegL w e sz g off n cap xs) {k : Nat} (hkm : k + m ≤ n) (c : Nat) : ∃ zs : List Value, zs.length = m * sz ∧ (Builtin.clear_ #[t] ty #[.slice (some ⟨g, off + k * sz, none⟩) m c]).run P w = .ok (.tuple #[]) (w.setCells g (off + k * sz) zs) := by
  obtain ⟨inf, hinf, hz, hsz, hby⟩ := info_parts hi
  have hle : k * sz + m * sz ≤ n * sz := by rw [← Nat.add_mul]; exact Nat.mul_le_mul_right _ hkm
  by_cases hm : m = 0
  · subst hm
    refine ⟨[], by simp, ?_⟩
    unfold Builtin.clear_
    simp [run_underlying ht, World.setCells]
  · refine ⟨(Builtin.zeroCells z.cells m).toList, by simp [size_zeroCells, hzs], ?_⟩
    have hzc : ∀ u ∈ (Builtin.zeroCells z.cells m).toList, u.oneCell' = true := by
      intro u hu
      rw [Array.mem_toList_iff] at hu
      obtain ⟨i, hi1, rfl⟩ := Array.getElem_of_mem hu
      simp only [Builtin.zeroCells, Array.size_map, Array.size_range] at hi1
      have hp : 0 < z.cells.size := by
        rcases Nat.eq_zero_or_pos z.cells.size with h | h
        · rw [h] at hi1; simp at hi1
        · exact h
      have hlt : i % z.cells.size < z.cells.size := Nat.mod_lt _ hp
      refine hz1 _ ?_
      simp only [Builtin.zeroCells, Array.getElem_map, Array.getElem_range]
      rw [getElem!_pos z.cells _ hlt, Array.mem_toList_iff]
      exact Array.getElem_mem hlt
    have hth := hseg.there (k := k * sz) (m := m * sz) hle
    have hst := run_storeCells_cells (P := P) g (off + k * sz) (Builtin.zeroCells z.cells m).toList 0 w (fun j hj => by have := (hth j (by simpa [size_zeroCells, hzs] using hj)).1; simpa using this)
      (fun j hj => by have := (hth j (by simpa [size_zeroCells, hzs] using hj)).2; simpa using this) hzc
    unfold Builtin.clear_
    simp only [Nat.add_zero] at hst
    cases m with
    | zero => omega
    | succ m => simp [run_underlying ht, zeroValue, typeInfo, hinf, hz, hst]
end
theorem SegL.take {w : World} {e : TypeId} {sz g off n cap : Nat} {xs : List Value} (h : SegL w e sz g off n cap xs) {k : Nat} (hk : k ≤ n) : SegL w e sz g off k cap (xs.take (k * sz)) := by
  obtain ⟨hl, hn, hm, cs, hb, hs, hx⟩ := h
  have hle : k * sz ≤ n * sz := Nat.mul_le_mul_right _ hk
  refine ⟨by simp; omega, by omega, hm, cs, hb, hs, fun j hj => ?_⟩
  rw [List.getElem?_take, if_pos hj]
  exact hx j (by omega)
/-- What stands behind, read as a slice of its own. -/
theorem SegL.drop_sl {w : World} {e : TypeId} {sz g off n cap : Nat} {xs : List Value} (h : SegL w e sz g off n cap xs) {k : Nat} (hk : k ≤ n) : SlP w e (.slice (some ⟨g, off + k * sz, none⟩) (n - k) (cap - k)) (n - k) (xs.drop (k * sz)) := by
  obtain ⟨hl, hn, hm, cs, hb, hs, hx⟩ := h
  refine ⟨_, cap - k, rfl, by omega, by omega, fun h => (by cases h), fun j u hu => ⟨g, off + k * sz, cs, (0, 0), rfl, hb, ?_⟩⟩
  rw [List.getElem?_drop] at hu
  have hj : k * sz + j < n * sz := by rw [← hl]; exact (List.getElem?_eq_some_iff.1 hu).1
  rw [Nat.add_assoc, hx _ hj, hu]
section
variable {P : Program} {ops : Array Oper} {Q : Exit → Act → World → Prop} {rest : List Oper} {o : Oper} {a : Act} {w : World} {N : Nat} {Γ : Ctx}
theorem tlClear {Δ : Ctx} {t e : TypeId} {s : Nat} {z : Value} {sz bytes g off n cap k m c : Nat} {xs : List Value} (hF : Fr N Γ a w) (hg : o.guard = none) (hd : o.dst = none) (ho : o.op = .call { callee := .builtin .clear, args := #[.tmp s], argTypes := #[t] }) (hs : look Γ s = some (Ty.ex (.slice (some ⟨g, off + k * sz, none⟩) m c)))
    (ht : P.underlying t = some (.slice e)) (hi : (P.info? e).map (fun i => (i.zero, i.size, i.bytes)) = some (some z, sz, bytes)) (hzs : z.cells.size = sz) (hz1 : ∀ u ∈ z.cells.toList, u.oneCell' = true) (hseg : SegL w e sz g off n cap xs) (hkm : k + m ≤ n) (hΔ : Fr N Δ a w) (hfree : Δ.free e = true)
    (hq : ∀ w' zs, zs.length = m * sz → Fr N Δ a w' → SegL w' e sz g off n cap (over xs (k * sz) zs) → Keeps [g] w w' → wpList P ops Q rest a w') : wpList P ops Q (o :: rest) a w := by
  obtain ⟨zs, h1, h2⟩ := run_clear_row (P := P) (ty := o.type) ht hi hzs hz1 hseg hkm c
  have hle : k * sz + m * sz ≤ n * sz := by rw [← Nat.add_mul]; exact Nat.mul_le_mul_right _ hkm
  refine wpList_plain hg fun K hK => ?_
  have hev := hF.getEx hs
  unfold Oper.wp execOp
  simp only [ho, resolve, invoke, builtin, Sem.run_bind, Sem.run_pure, Result.andThen_ok, List.map_toArray, List.map_cons, List.map_nil, hev, h2]
  refine hK _ _ ?_
  rw [hd]
  obtain ⟨h3, h4⟩ := hseg.write (k := k * sz) (vs := zs) (by omega)
  refine hq _ zs h1 (hΔ.free h4 (fun b hb _ => ?_) hfree) h3 h4
  simp only [List.mem_singleton] at hb
  subst hb
  exact hseg.block
/-- A call that acts: what comes of it is told by R. -/
theorem tlCall {d : Nat} {f : FuncId} {xs : Array Operand} {ats : Array TypeId} {args : Array Value} {R : Value → World → Prop} (hg : o.guard = none) (hd : o.dst = some d) (ho : o.op = .call { callee := .value (.func f), args := xs, argTypes := ats }) (hx : xs.map a.eval = args) (he : Enters P f)
    (hc : Calls P f args w fun e w' => ∃ u, e = .returned u ∧ R u w') (hk : ∀ u w', R u w' → wpList P ops Q rest (a.put (some d) u) w') : wpList P ops Q (o :: rest) a w :=
  wpList_plain hg fun K hK => by
    unfold Oper.wp
    rw [exec_go a.eval ho rfl, hx, he args w]
    refine Calls.mono hc fun e w' ⟨u, h1, h2⟩ => ?_
    subst h1
    rw [hd]
    exact hK _ _ (hk u w' h2)
end
theorem Fr.free1 {N : Nat} {Γ : Ctx} {a : Act} {w w' : World} {e : TypeId} {sz g off n cap : Nat} {xs : List Value} (h : Fr N Γ a w) (k : Keeps [g] w w') (hseg : SegL w e sz g off n cap xs) (hf : Γ.free e = true) : Fr N Γ a w' :=
  h.free k (fun b hb _ => by
    simp only [List.mem_singleton] at hb
    subst hb
    exact hseg.block) hf
end Go.Proofs.Ytibckdnfgopghaa

/- Regions by types: calls through function values; shifts, conversions; closures. -/
namespace Go.Proofs.Ytibckdnfgopghaa
open Go.RowKit

section
variable {P : Program} {w0 : World} {Γ : Ctx} {o : Oper}
theorem exec_goV {f : FuncId} {ats : Array TypeId} {x0 : Operand} {xs : Array Operand} {cb : Array Value} (ρ : Operand → Value) (ho : o.op = .call { callee := .value x0, args := xs, argTypes := ats }) (hf : ρ x0 = .func (.func f) #[] cb) : execOp ρ o = callFunc f (xs.map ρ ++ cb) := by
  unfold execOp
  simp only [ho, resolve, hf]
  simp [Deferred.ofValue, invoke]
/-- A call through a function value, of two arguments. -/
theorem cCallV2 {f : FuncId} {ats : Array TypeId} {x0 x y : Operand} {τ σ ρ : Ty} (ho : o.op = .call { callee := .value x0, args := #[x, y], argTypes := ats }) (h0 : OpT Γ x0 (Ty.ex (.func (.func f) #[] #[]))) (hx : Has w0 Γ x τ) (hy : Has w0 Γ y σ) (hc : Fn2 P f τ σ ρ) : OpOk P w0 Γ o ρ :=
  .call fun a w hb hs => by
    obtain ⟨v0, k1, k2⟩ := hs x0 _ (by simp [ho, Op.operands, Call.operands]) h0
    have k2 : v0 = .func (.func f) #[] #[] := k2
    obtain ⟨v, h1, h2⟩ := hx.see hs (by simp [ho, Op.operands, Call.operands]) hb
    obtain ⟨u, h3, h4⟩ := hy.see hs (by simp [ho, Op.operands, Call.operands]) hb
    refine ⟨f, #[v, u], ?_, hc.ret w v u h2 h4⟩
    rw [exec_goV a.eval ho (k1.trans k2)]
    simp only [List.map_toArray, List.map_cons, List.map_nil, h1, h3, Array.append_empty]
    exact hc.en _ w
/-- A call of one argument through a closure, by what it does in whatever later world. -/
theorem cCallC1 {f : FuncId} {ats : Array TypeId} {x0 x : Operand} {cb : Array Value} {v : Value} {ρ : Ty} (ho : o.op = .call { callee := .value x0, args := #[x], argTypes := ats }) (h0 : OpT Γ x0 (Ty.ex (.func (.func f) #[] cb))) (hx : OpT Γ x (Ty.ex v)) (he : Enters P f) (hc : ∀ w, Below w0.heap.size w0 w → Ret P f (#[v] ++ cb) w ρ) : OpOk P w0 Γ o ρ :=
  .call fun a w hb hs => by
    obtain ⟨v0, k1, k2⟩ := hs x0 _ (by simp [ho, Op.operands, Call.operands]) h0
    have k2 : v0 = .func (.func f) #[] cb := k2
    obtain ⟨u, h1, h2⟩ := hs x _ (by simp [ho, Op.operands, Call.operands]) hx
    have h2 : u = v := h2
    subst h2
    refine ⟨f, #[u] ++ cb, ?_, hc w hb⟩
    rw [exec_goV a.eval ho (k1.trans k2)]
    simp only [List.map_toArray, List.map_cons, List.map_nil, h1]
    exact he _ w
section
variable {t t2 : TypeId} {x y : Operand} {k : IntKind} {m n : Int}
theorem cShr {j : IntKind} {r : Int} (ho : o.op = .binOp .shr t x y t2) (hx : OpT Γ x (Ty.ex (.int k m))) (hy : OpT Γ y (Ty.ex (.int j n))) (hn : 0 ≤ n ∧ n.toNat ≤ k.bits) (hr : m.fdiv (2 ^ n.toNat) = r) : OpOk P w0 Γ o (Ty.ex (.int k r)) :=
  cBin ho hx hy fun w => by
    have h1 : ¬ n < 0 := by omega
    have h2 : min n.toNat k.bits = n.toNat := Nat.min_eq_left hn.2
    simp [eqGuard, binOp, Op.shift, h1, h2, hr]
end
theorem cConvR {src dst : TypeId} {x : Operand} {k j : IntKind} {n r : Int} {d : TypeDesc} (ho : o.op = .convert src dst x) (hx : OpT Γ x (Ty.ex (.int j n))) (hs : P.underlying src = some d) (hd : P.underlying dst = some (.int k)) (hr : k.wrap n = r) : OpOk P w0 Γ o (Ty.ex (.int k r)) := by
  have h := cConvInt (P := P) (w0 := w0) ho hx hs hd
  rwa [hr] at h
/-- A closure. -/
theorem cMakeFunc {f : FuncId} {x : Operand} {v : Value} (ho : o.op = .makeFunc (.func f) #[] #[x]) (hx : OpT Γ x (Ty.ex v)) : OpOk P w0 Γ o (Ty.ex (.func (.func f) #[] #[v])) :=
  .val fun a w _ hs => by
    obtain ⟨u, h1, h2⟩ := hs x _ (by simp [ho, Op.operands]) hx
    have h2 : u = v := h2
    refine ⟨_, rfl, ?_⟩
    unfold execOp
    simp [ho, h1, h2, Instr.makeFunc]
end
/-- What a test does in whatever world that keeps all but S: it answers p. -/
def PredK (P : Program) (f : FuncId) (cb : Array Value) (S : List Nat) (w : World) (p : Sm → Bool) : Prop := ∀ (W : World) (x : Sm), Keeps S w W → Ret P f (#[.agg (u8s x.l)] ++ cb) W (Ty.ex (.bool (p x)))
theorem PredK.later {P : Program} {f : FuncId} {cb : Array Value} {S : List Nat} {w w' : World} {p : Sm → Bool} (h : PredK P f cb S w p) (k : Keeps S w w') : PredK P f cb S w' p := fun W x k' => h W x (k.trans k')
end Go.Proofs.Ytibckdnfgopghaa

/- Regions by types: boxes, stores of whatever values. -/
namespace Go.Proofs.Ytibckdnfgopghaa
open Go.RowKit

def Ty.any : Ty := ⟨fun _ _ => True, fun _ => false, fun _ _ _ => True.intro⟩
theorem var_at {w0 : World} {t : TypeId} {cs : Array Value} : ∀ w v, (Ty.var w0 t cs).p w v → (Ty.at_ t cs.toList).p w v := fun w v ⟨g, h1, h2, h3⟩ =>
  ⟨g, 0, cs, (0, 0), h1, h3, fun j u hu => by rw [Nat.zero_add]; simpa using hu⟩
theorem blk_at {w : World} {g : Nat} {t : TypeId} {cs : Array Value} (h : Blk w g t cs) : (Ty.at_ t cs.toList).p w (.pointer (some ⟨g, 0, none⟩)) := ⟨g, 0, cs, (0, 0), rfl, h, fun j u hu => by rw [Nat.zero_add]; simpa using hu⟩
theorem run_alloc_i {P : Program} {t : TypeId} {z : Value} {sz b : Nat} (hi : (P.info? t).map (fun i => (i.zero, i.size, i.bytes)) = some (some z, sz, b)) (w : World) : (Instr.alloc t true (.tuple #[])).run P w = .ok (.pointer (some ⟨w.heap.size, 0, none⟩)) (w.alloc (.cells z.cells t)) := by
  obtain ⟨i, h1, h2⟩ := Option.map_eq_some_iff.1 hi
  simp only [Prod.mk.injEq] at h2
  simp [go_sem, zeroValue, typeInfo, h1, h2.1, newVar, newRow, Instr.alloc]
section
variable {P : Program} {w0 : World} {Γ : Ctx} {o : Oper}
theorem OpOk.v {v u : Value} (h : OpOk P w0 Γ o (Ty.ex v)) (e : v = u) : OpOk P w0 Γ o (Ty.ex u) := e ▸ h
theorem OpOk.b {b c : Bool} (h : OpOk P w0 Γ o (Ty.ex (.bool b))) (e : b = c) : OpOk P w0 Γ o (Ty.ex (.bool c)) := e ▸ h
/-- A new variable of the call's own that holds v. -/
theorem cBoxN {t : TypeId} {x : Operand} {v : Value} (ho : o.op = .box t x) (hx : OpT Γ x (Ty.ex v)) : OpOk P w0 Γ o (Ty.var w0 t v.cells) :=
  .new fun a w hb hs => by
    obtain ⟨u, h1, h2⟩ := hs x _ (by simp [ho, Op.operands]) hx
    have h2 : u = v := h2
    subst h2
    refine ⟨.pointer (some ⟨w.heap.size, 0, none⟩), _, ⟨w.heap.size, rfl, hb.size, Blk.new w _ _⟩, ((Keeps.refl [] w).alloc (.cells u.cells t)).below, ?_⟩
    unfold execOp
    simp only [ho, h1]
    simp [Instr.box, newVar, newRow, go_sem]
end
section
variable {P : Program} {ops : Array Oper} {Q : Exit → Act → World → Prop} {rest : List Oper} {o : Oper} {a : Act} {w : World} {N : Nat} {Γ : Ctx}
theorem storeVar_cells (ty : TypeId) (ad : Addr) (v : Value) : storeVar ty ad v = storeVar ty ad (.agg v.cells) := rfl
/-- Whatever value is stored over a variable of the call's own. -/
theorem tlStoreV {ty t : TypeId} {p : Nat} {y : Operand} {g : Nat} {cs : Array Value} {v : Value} {Δ : Ctx} (hF : Fr N Γ a w) (hg : o.guard = none) (hd : o.dst = none) (ho : o.op = .store ty (.tmp p) y) (hp : look Γ p = some (Ty.ex (.pointer (some ⟨g, 0, none⟩)))) (hy : a.eval y = v)
    (hB : Blk w g t cs) (hcs : v.cells.size = cs.size) (hi : (P.info? ty).map (·.size) = some v.cells.size) (h1 : v.cells.all (·.oneCell') = true) (hΔ : Fr N Δ a w) (hfree : Δ.free t = true)
    (hk : ∀ w', Fr N Δ a w' → Blk w' g t v.cells → Keeps [g] w w' → wpList P ops Q rest a w') : wpList P ops Q (o :: rest) a w := by
  refine wpList_plain hg fun K hK => ?_
  unfold Oper.wp execOp
  simp only [ho, hF.getEx hp, hy, Instr.storeAt, Instr.sureAddr, Sem.run_bind, Sem.run_pure, Result.andThen_ok, storeVar_cells ty _ v, run_storeVar_mid w g 0 ty v.cells (hB.there (by omega)) hi h1]
  have h2 := hB.setCells v.cells.toList 0
  rw [splice_all _ _ (by simpa using hcs)] at h2
  have h3 : Keeps [g] w (w.setCells g 0 v.cells.toList) := Keeps.setCells (.inl (by simp)) _ _ (Keeps.refl _ _)
  refine hK _ _ ?_
  rw [hd]
  refine hk _ (hΔ.free h3 (fun b hb _ => ?_) hfree) (by simpa using h2) h3
  simp only [List.mem_singleton] at hb
  subst hb
  exact ⟨cs, (0, 0), hB⟩
end
end Go.Proofs.Ytibckdnfgopghaa

/- Regions by types: known slots; small lines. -/
namespace Go.Proofs.Ytibckdnfgopghaa
open Go.RowKit

/-- A slot whose value is known, and what is known of it. -/
def Slots (a : Act) : List (Nat × Value) → Prop
  | [] => True
  | p :: r => a.tmps[p.1]? = some p.2 ∧ Slots a r
def ctxOf : List (Nat × Value) → Ctx
  | [] => []
  | p :: r => (p.1, Ty.ex p.2) :: ctxOf r
theorem Fr.slots {N : Nat} {a : Act} {w : World} (hs : a.tmps.size = N) (hd : a.defers = []) : ∀ L : List (Nat × Value), Slots a L → Fr N (ctxOf L) a w
  | [], _ => ⟨hs, hd, fun s τ h => by cases h⟩
  | p :: r, h => by
    have ih := Fr.slots (N := N) (w := w) hs hd r h.2
    refine ⟨hs, hd, fun s τ h2 => ?_⟩
    by_cases e : p.1 = s
    · subst e
      rw [show look (ctxOf (p :: r)) p.1 = some (Ty.ex p.2) from look_same _ _ _] at h2
      injection h2 with h2
      subst h2
      exact ⟨_, h.1, rfl⟩
    · rw [show look (ctxOf (p :: r)) s = look (ctxOf r) s from look_ne _ _ e] at h2
      exact ih.val s τ h2
section
variable {P : Program} {w0 : World} {Γ : Ctx} {o : Oper}
/-- A load, by what it yields in whatever later world. -/
theorem cLoadX {ty : TypeId} {x : Operand} {v u : Value} (ho : o.op = .load ty x) (hx : OpT Γ x (Ty.ex v)) (hl : ∀ w : World, Below w0.heap.size w0 w → (Instr.loadAt ty v).run P w = .ok u w) : OpOk P w0 Γ o (Ty.ex u) :=
  .val fun a w hb hs => by
    obtain ⟨v', h1, h2⟩ := hs x _ (by simp [ho, Op.operands]) hx
    have h2 : v' = v := h2
    subst h2
    refine ⟨_, rfl, ?_⟩
    unfold execOp
    simp [ho, h1, hl w hb]
theorem cFieldX {t : TypeId} {i : Nat} {x : Operand} {v u : Value} (ho : o.op = .fieldAddr t x i) (hx : OpT Γ x (Ty.ex v)) (hr : ∀ w : World, (Instr.fieldAt t v i).run P w = .ok u w) : OpOk P w0 Γ o (Ty.ex u) :=
  .val fun a w hb hs => by
    obtain ⟨v', h1, h2⟩ := hs x _ (by simp [ho, Op.operands]) hx
    have h2 : v' = v := h2
    subst h2
    refine ⟨_, rfl, ?_⟩
    unfold execOp
    simp [ho, h1, hr w]
theorem cBuildP {t : TypeId} {parts : Array (Nat × Operand)} {vs : Array (Nat × Value)} {v : Value} (ho : o.op = .build t parts) (hp : ∀ (a : Act) (w : World), SeesO Γ o a w → (parts.map fun (i, x) => (i, a.eval x)) = vs) (hr : ∀ w : World, (Instr.build t vs).run P w = .ok v w) : OpOk P w0 Γ o (Ty.ex v) :=
  .val fun a w _ hs => ⟨v, rfl, by unfold execOp; simp only [ho, hp a w hs]; simp [hr w]⟩
theorem cBuildC {t : TypeId} {c v : Value} (ho : o.op = .build t #[(0, .const c)]) (hr : ∀ w : World, (Instr.build t #[(0, c)]).run P w = .ok v w) : OpOk P w0 Γ o (Ty.ex v) :=
  cBuildP (vs := #[(0, c)]) ho (fun a w _ => by simp [Act.eval]) hr
/-- Calls by what they do with just these values in whatever later world. -/
theorem cCallX1 {f : FuncId} {ats : Array TypeId} {x : Operand} {v : Value} {ρ : Ty} (ho : o.op = .call { callee := .value (.func f), args := #[x], argTypes := ats }) (hx : OpT Γ x (Ty.ex v)) (he : Enters P f) (hc : ∀ w, Below w0.heap.size w0 w → Ret P f #[v] w ρ) : OpOk P w0 Γ o ρ :=
  cCallW1 ho hx he fun w v' hb hv => by have hv : v' = v := hv; subst hv; exact hc w hb
theorem cCallX2 {f : FuncId} {ats : Array TypeId} {x y : Operand} {v u : Value} {ρ : Ty} (ho : o.op = .call { callee := .value (.func f), args := #[x, y], argTypes := ats }) (hx : OpT Γ x (Ty.ex v)) (hy : OpT Γ y (Ty.ex u)) (he : Enters P f) (hc : ∀ w, Below w0.heap.size w0 w → Ret P f #[v, u] w ρ) : OpOk P w0 Γ o ρ :=
  cCallW2 ho hx hy he fun w v' u' hb hv hu => by have hv : v' = v := hv; have hu : u' = u := hu; subst hv hu; exact hc w hb
/-- A whole block is loaded. -/
theorem cLoadAll {ty e : TypeId} {x : Operand} {cs : Array Value} {d : TypeDesc} (ho : o.op = .load ty x) (hx : Has w0 Γ x (Ty.at_ e cs.toList)) (hu : P.underlying ty = some d) (hd : (match d with | .struct _ | .array _ _ => true | _ => false) = true) (hi : (P.info? ty).map (·.size) = some cs.size) : OpOk P w0 Γ o (Ty.ex (.agg cs)) := by
  have h := cLoadK (P := P) ho hx (pts_at _ _) hu hd hi (by simp)
  rwa [show (cs.toList.take cs.size).toArray = cs by rw [← Array.length_toList, List.take_length]] at h
end
end Go.Proofs.Ytibckdnfgopghaa
