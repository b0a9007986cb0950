/- Regions by types: what each operation puts into its slot is told by a type (a property of world and value that stays true while the blocks on which it hangs stand); one derivation, in the order of the text, serves whatever order is drawn. -/
import Derived.Test.YtkdkmnemmenikaaMemO
import Derived.Orders
import Derived.StillTail
namespace Go.Proofs.Ytkdkmnemmenikaa
open Go.RowKit

/-- The blocks of S are of no type that stands in el. -/
def Apart (w : World) (S : List Nat) (el : TypeId → Bool) : Prop := ∀ b ∈ S, b < w.heap.size → ∃ cs t fr, w.heap[b]? = some (.cells cs t fr) ∧ el t = false

/-- A type: a property of world and value; el: the types of the blocks on which it hangs. -/
structure Ty where
  p : World → Value → Prop
  el : TypeId → Bool
  st : ∀ {w w' v S}, p w v → Keeps S w w' → Apart w S el → p w' v
theorem Ty.below (τ : Ty) {w w' : World} {v : Value} (h : τ.p w v) (hb : Below w.heap.size w w') : τ.p w' v :=
  τ.st h (Keeps.of_below (S := []) hb) (fun _ hb => by cases hb)

/-- Just this value. -/
def Ty.ex (v : Value) : Ty := ⟨fun _ u => u = v, fun _ => false, fun h _ _ => h⟩
/-- A new variable of w0: a block of its own. -/
def Ty.var (w0 : World) (t : TypeId) (z : Array Value) : Ty := ⟨fun w u => ∃ g, u = .pointer (some ⟨g, 0, none⟩) ∧ w0.heap.size ≤ g ∧ Blk w g t z, fun u => u == t, fun {w w' v S} h k hA => by
  obtain ⟨g, h1, h2, h3⟩ := h
  refine ⟨g, h1, h2, h3.keeps k (fun hg => ?_)⟩
  obtain ⟨cs, t', fr, h4, h5⟩ := hA g hg h3.lt
  unfold Blk at h3
  rw [h3] at h4
  simp only [Option.some.injEq, Obj.cells.injEq] at h4
  rw [← h4.2.1] at h5
  simp at h5⟩

abbrev Ctx := List (Nat × Ty)
def look : Ctx → Nat → Option Ty
  | [], _ => none
  | p :: Γ, s => bif Nat.beq p.1 s then some p.2 else look Γ s
theorem look_same (d : Nat) (V : Ty) (Γ : Ctx) : look ((d, V) :: Γ) d = some V := by simp [look]
theorem look_ne {d s : Nat} (V : Ty) (Γ : Ctx) (h : d ≠ s) : look ((d, V) :: Γ) s = look Γ s := by
  have : Nat.beq d s = false := by
    cases hb : Nat.beq d s with
    | false => rfl
    | true => exact absurd (Nat.eq_of_beq_eq_true hb) h
  simp [look, this]

/-- A frame of N slots: what the slots hold. -/
structure Fr (N : Nat) (Γ : Ctx) (a : Act) (w : World) : Prop where
  size : a.tmps.size = N
  defers : a.defers = []
  val : ∀ (s : Nat) (τ : Ty), look Γ s = some τ → ∃ v, a.tmps[s]? = some v ∧ τ.p w v
section
variable {N : Nat} {Γ : Ctx} {a : Act} {w w' : World}
theorem Fr.get (h : Fr N Γ a w) {s : Nat} {τ : Ty} (hs : look Γ s = some τ) : ∃ v, a.eval (.tmp s) = v ∧ τ.p w v := by
  obtain ⟨v, h1, h2⟩ := h.val s τ hs
  exact ⟨v, by simp [Act.eval, Array.getD_eq_getD_getElem?, h1], h2⟩
theorem Fr.getEx (h : Fr N Γ a w) {s : Nat} {v : Value} (hs : look Γ s = some (Ty.ex v)) : a.eval (.tmp s) = v := by
  obtain ⟨u, h1, h2⟩ := h.get hs
  exact h1.trans h2
theorem Fr.below (h : Fr N Γ a w) (hb : Below w.heap.size w w') : Fr N Γ a w' :=
  ⟨h.size, h.defers, fun s τ hs => let ⟨v, h1, h2⟩ := h.val s τ hs; ⟨v, h1, τ.below h2 hb⟩⟩
theorem Fr.put (h : Fr N Γ a w) {d : Nat} (hd : d < N) {V : Ty} {v : Value} (hb : Below w.heap.size w w') (hv : V.p w' v) : Fr N ((d, V) :: Γ) (a.put (some d) v) w' := by
  refine ⟨by simp only [Act.put]; simpa using h.size, h.defers, fun s τ hs => ?_⟩
  by_cases hds : d = s
  · subst hds
    rw [look_same] at hs
    injection hs with hs
    subst hs
    refine ⟨v, ?_, hv⟩
    simp only [Act.put]
    rw [Array.getElem?_setIfInBounds_self, if_pos (by rw [h.size]; exact hd)]
  · rw [look_ne _ _ hds] at hs
    obtain ⟨u, h1, h2⟩ := h.val s τ hs
    refine ⟨u, ?_, τ.below h2 hb⟩
    simp only [Act.put]
    rw [Array.getElem?_setIfInBounds_ne hds]
    exact h1
/-- Fewer slots, or other words for them. -/
theorem Fr.nil (h : Fr N Γ a w) : Fr N [] a w := ⟨h.size, h.defers, fun s τ hs => by cases hs⟩
theorem Fr.as {Δ : Ctx} (h : Fr N Γ a w) (hr : Fr N Δ a w) {s : Nat} {τ σ : Ty} (hs : look Γ s = some τ) (hc : ∀ v, τ.p w v → σ.p w v) : Fr N ((s, σ) :: Δ) a w := by
  refine ⟨h.size, h.defers, fun s' τ' hs' => ?_⟩
  by_cases hss : s = s'
  · subst hss
    rw [look_same] at hs'
    injection hs' with hs'
    subst hs'
    obtain ⟨v, h1, h2⟩ := h.val s τ hs
    exact ⟨v, h1, hc v h2⟩
  · rw [look_ne _ _ hss] at hs'
    exact hr.val s' τ' hs'
theorem Fr.too {Δ : Ctx} (h : Fr N Γ a w) (hr : Fr N Δ a w) {s : Nat} {τ : Ty} (hs : look Γ s = some τ) : Fr N ((s, τ) :: Δ) a w := h.as hr hs (fun _ h => h)
/-- A slot's value under a letter. -/
theorem Fr.open (h : Fr N Γ a w) {s : Nat} {τ : Ty} (hs : look Γ s = some τ) : ∃ v, τ.p w v ∧ Fr N ((s, Ty.ex v) :: Γ) a w := by
  obtain ⟨v, h1, h2⟩ := h.val s τ hs
  refine ⟨v, h2, h.size, h.defers, fun s' τ' hs' => ?_⟩
  by_cases hss : s = s'
  · subst hss
    rw [look_same] at hs'
    injection hs' with hs'
    subst hs'
    exact ⟨v, h1, rfl⟩
  · rw [look_ne _ _ hss] at hs'
    exact h.val s' τ' hs'
/-- The world goes on, but for the blocks of S. -/
theorem Fr.keeps (h : Fr N Γ a w) {S : List Nat} (k : Keeps S w w') (hA : ∀ (s : Nat) (τ : Ty), look Γ s = some τ → Apart w S τ.el) : Fr N Γ a w' :=
  ⟨h.size, h.defers, fun s τ hs => let ⟨v, h1, h2⟩ := h.val s τ hs; ⟨v, h1, τ.st h2 k (hA s τ hs)⟩⟩
end

def Oper.reads (o : Oper) : List Nat := o.op.operands.toList.filterMap fun | .tmp t => some t | _ => none

/-- Operation o yields a value of type V, in whatever later world, if the slots that it reads are as Γ says. -/
def OpOk (P : Program) (w0 : World) (Γ : Ctx) (o : Oper) (V : Ty) : Prop :=
  ∀ (a : Act) (w : World) (K : Act → World → Prop) (Q : Exit → Act → World → Prop), Below w0.heap.size w0 w →
    (∀ (s : Nat) (τ : Ty), s ∈ Oper.reads o → look Γ s = some τ → ∃ v, a.tmps[s]? = some v ∧ τ.p w v) →
    (∀ v w', V.p w' v → Below w.heap.size w w' → K (a.put o.dst v) w') → o.wp P a w K Q

def slotOf (ops : Array Oper) (j : Nat) : Option Nat := (ops[j]?).bind (·.dst)

def isNew (o : Oper) : Bool := match o.op with | .alloc _ => true | _ => false

/-- A line: what an operation does to Γ. -/
inductive Fact (P : Program) (ops : Array Oper) (w0 : World) (Γ : Ctx) (o : Oper) (V : Ty) : Prop
  | run (hg : o.guard = none) (hn : isNew o = false) (h : OpOk P w0 Γ o V)
  | yes {j s : Nat} {b : Bool} (hg : o.guard = some (j, b)) (hj : slotOf ops j = some s) (hs : look Γ s = some (Ty.ex (.bool b))) (hn : isNew o = false) (h : OpOk P w0 Γ o V)
  | no {j s : Nat} {b c : Bool} (hg : o.guard = some (j, c)) (hj : slotOf ops j = some s) (hs : look Γ s = some (Ty.ex (.bool b))) (hbc : (b == c) = false) (hn : isNew o = false) (hV : V = Ty.ex undef)
  | new {t : TypeId} {z : Array Value} (hg : o.guard = none) (ho : o.op = .alloc t) (hz : ∀ w : World, (Instr.alloc t true (.tuple #[])).run P w = .ok (.pointer (some ⟨w.heap.size, 0, none⟩)) (w.alloc (.cells z t))) (hV : V = Ty.var w0 t z)

/-- The lines of a region, or of its head. -/
inductive Line (P : Program) (ops : Array Oper) (w0 : World) : Ctx → List Oper → List Ty → Prop
  | nil {Γ : Ctx} : Line P ops w0 Γ [] []
  | cons {Γ : Ctx} {d : Nat} {o : Oper} {V : Ty} {os : List Oper} {Vs : List Ty} (hd : o.dst = some d) (h : Fact P ops w0 Γ o V) (t : Line P ops w0 ((d, V) :: Γ) os Vs) : Line P ops w0 Γ (o :: os) (V :: Vs)
def ext : Ctx → List Oper → List Ty → Ctx
  | Γ, o :: os, V :: Vs => ext ((o.dst.getD 0, V) :: Γ) os Vs
  | Γ, _, _ => Γ

/-- What is asked of a region's order: edges go back; slots are written once; what is read is waited for. -/
def okAt (ops : Array Oper) (N n i : Nat) (o : Oper) : Bool :=
  (o.after.all fun e => !Region.binds .any e || decide (e.on < i)) &&
  (match o.dst with
   | none => false
   | some d => decide (d < N) && (List.range n).all fun j => match ops[j]? with
     | none => false
     | some oj => (j == i) || (oj.dst != some d &&
        (!(oj.looksAt ops).contains d || (if decide (i < j) then Region.waitsFor .any ops j i else Region.waitsFor .any ops i j))))
def regB (ops : Array Oper) (N n : Nat) : Bool := (List.range n).all fun i => match ops[i]? with | none => false | some o => okAt ops N n i o
theorem regB_at {ops : Array Oper} {N n i : Nat} (h : regB ops N n = true) (hi : i < n) : ∃ o d, ops[i]? = some o ∧ o.dst = some d ∧ d < N ∧ (∀ e ∈ o.after, Region.binds .any e = true → e.on < i) ∧
    ∀ (j : Nat) (oj : Oper), j < n → ops[j]? = some oj → j ≠ i → oj.dst ≠ some d ∧ (d ∈ oj.looksAt ops → (i < j → Region.waitsFor .any ops j i = true) ∧ (j < i → Region.waitsFor .any ops i j = true)) := by
  have h1 := List.all_eq_true.1 h i (List.mem_range.2 hi)
  cases ho : ops[i]? with
  | none => rw [ho] at h1; cases h1
  | some o =>
    rw [ho] at h1
    simp only [okAt, Bool.and_eq_true] at h1
    obtain ⟨h2, h3⟩ := h1
    cases hd : o.dst with
    | none => rw [hd] at h3; cases h3
    | some d =>
      rw [hd] at h3
      simp only [Bool.and_eq_true, decide_eq_true_eq] at h3
      refine ⟨o, d, rfl, hd, h3.1, fun e he hb => ?_, fun j oj hj hoj hne => ?_⟩
      · simp only [Array.all_eq_true_iff_forall_mem] at h2
        have := h2 e he
        simp [hb] at this
        exact this
      · have h4 := List.all_eq_true.1 h3.2 j (List.mem_range.2 hj)
        rw [hoj] at h4
        simp only [Bool.or_eq_true, Bool.and_eq_true, beq_iff_eq, bne_iff_ne, ne_eq, Bool.not_eq_true', hne, false_or] at h4
        refine ⟨h4.1, fun hm => ?_⟩
        have h5 := h4.2
        have h6 : ((oj.looksAt ops).contains d) = true := by simpa using hm
        rw [h6] at h5
        simp only [Bool.true_eq_false, false_or] at h5
        refine ⟨fun hlt => ?_, fun hlt => ?_⟩
        · rwa [if_pos (by simpa using hlt)] at h5
        · rwa [if_neg (by simp; omega)] at h5

theorem reads_looksAt {ops : Array Oper} {o : Oper} {s : Nat} (h : s ∈ Oper.reads o) : s ∈ o.looksAt ops := by
  unfold Oper.looksAt
  exact List.mem_append_left _ h
theorem guard_looksAt {ops : Array Oper} {o : Oper} {j s : Nat} {b : Bool} (hg : o.guard = some (j, b)) (hj : slotOf ops j = some s) : s ∈ o.looksAt ops := by
  unfold Oper.looksAt
  refine List.mem_append_right _ ?_
  rw [hg]
  simp only [slotOf] at hj
  simp [hj]

/-- What Γ says of the slots that an operation looks at. -/
def Sees (ops : Array Oper) (Γ : Ctx) (o : Oper) (a : Act) (w : World) : Prop := ∀ (s : Nat) (τ : Ty), s ∈ o.looksAt ops → look Γ s = some τ → ∃ v, a.tmps[s]? = some v ∧ τ.p w v

theorem yielded_of {ops : Array Oper} {a : Act} {j s : Nat} {b : Bool} (hj : slotOf ops j = some s) (hv : a.tmps[s]? = some (.bool b)) : yielded ops a.tmps j = some b := by
  unfold slotOf at hj
  simp [yielded, hj, hv]

section
variable {P : Program} {ops : Array Oper} {w0 : World} {Γ : Ctx} {o : Oper} {V : Ty}
theorem wp_new {K : Act → World → Prop} {Q : Exit → Act → World → Prop} {t : TypeId} {z : Array Value} {a : Act} {w : World} (ho : o.op = .alloc t)
    (hz : (Instr.alloc t true (.tuple #[])).run P w = .ok (.pointer (some ⟨w.heap.size, 0, none⟩)) (w.alloc (.cells z t))) (hK : K (a.put o.dst (.pointer (some ⟨w.heap.size, 0, none⟩))) (w.alloc (.cells z t))) : o.wp P a w K Q := by
  unfold Oper.wp execOp
  simp only [ho, Sem.run_bind, hz, Result.andThen_ok, Sem.run_pure]
  exact hK
/-- A line's operation at work. -/
theorem Fact.at_work (h : Fact P ops w0 Γ o V) {a : Act} {w : World} (hb : Below w0.heap.size w0 w) (hs : Sees ops Γ o a w) (K : Act → World → Prop) (Q : Exit → Act → World → Prop)
    (hK : ∀ v w', V.p w' v → Below w.heap.size w w' → (isNew o = true → v = .pointer (some ⟨w.heap.size, 0, none⟩) ∧ w.heap.size < w'.heap.size) → K (a.put o.dst v) w') :
    if Region.wanted o (yielded ops a.tmps) then o.wp P a w K Q else K (a.put o.dst undef) w := by
  cases h with
  | run hg hn h =>
    rw [if_pos (by simp [Region.wanted, hg])]
    exact h a w K Q hb (fun s τ hr hl => hs s τ (reads_looksAt hr) hl) (fun v w' h1 h2 => hK v w' h1 h2 (fun hn' => by rw [hn] at hn'; cases hn'))
  | @yes j s b hg hj hl hn h =>
    obtain ⟨v, hv, he⟩ := hs s _ (guard_looksAt hg hj) hl
    have he : v = .bool b := he
    subst he
    rw [if_pos (by simp [Region.wanted, hg, yielded_of hj hv])]
    exact h a w K Q hb (fun s τ hr hl => hs s τ (reads_looksAt hr) hl) (fun v w' h1 h2 => hK v w' h1 h2 (fun hn' => by rw [hn] at hn'; cases hn'))
  | @no j s b c hg hj hl hbc hn hV =>
    obtain ⟨v, hv, he⟩ := hs s _ (guard_looksAt hg hj) hl
    have he : v = .bool b := he
    subst he
    rw [if_neg (by cases b <;> cases c <;> simp at hbc <;> simp [Region.wanted, hg, yielded_of hj hv])]
    exact hK undef w (by rw [hV]; rfl) (Below.refl _ _) (fun hn' => by rw [hn] at hn'; cases hn')
  | @new t z hg ho hz hV =>
    rw [if_pos (by simp [Region.wanted, hg])]
    refine wp_new ho (hz w) (hK _ _ ?_ ((Keeps.refl [] w).alloc _).below (fun _ => ⟨rfl, by simp⟩))
    rw [hV]
    exact ⟨_, rfl, hb.size, Blk.new w _ _⟩

theorem Line.at_ {l : List Oper} {Vs : List Ty} (h : Line P ops w0 Γ l Vs) : ∀ (i : Nat) (o : Oper), l[i]? = some o → ∃ V Γi, Vs[i]? = some V ∧ Fact P ops w0 Γi o V ∧
    ∀ (s : Nat) (τ : Ty), look Γi s = some τ → (∃ (j : Nat) (oj : Oper), j < i ∧ l[j]? = some oj ∧ oj.dst = some s ∧ Vs[j]? = some τ) ∨ ((∀ (j : Nat) (oj : Oper), j < i → l[j]? = some oj → oj.dst ≠ some s) ∧ look Γ s = some τ) := by
  induction h with
  | nil => intro i o h; simp at h
  | @cons Γ d o V os Vs hd hF t ih =>
    intro i o' ho'
    cases i with
    | zero =>
      simp only [List.getElem?_cons_zero, Option.some.injEq] at ho'
      subst ho'
      exact ⟨V, Γ, rfl, hF, fun s τ hl => .inr ⟨fun j oj hj => absurd hj (Nat.not_lt_zero _), hl⟩⟩
    | succ i =>
      simp only [List.getElem?_cons_succ] at ho'
      obtain ⟨V', Γi, h1, h2, h3⟩ := ih i o' ho'
      refine ⟨V', Γi, by simpa using h1, h2, fun s τ hl => ?_⟩
      rcases h3 s τ hl with ⟨j, oj, hj, hoj, hds, hVj⟩ | ⟨hno, hlk⟩
      · exact .inl ⟨j + 1, oj, by omega, by simpa using hoj, hds, by simpa using hVj⟩
      · by_cases hds : d = s
        · subst hds
          rw [look_same] at hlk
          injection hlk with hlk
          subst hlk
          exact .inl ⟨0, o, by omega, rfl, hd, rfl⟩
        · rw [look_ne _ _ hds] at hlk
          refine .inr ⟨fun j oj hj hoj => ?_, hlk⟩
          cases j with
          | zero =>
            simp only [List.getElem?_cons_zero, Option.some.injEq] at hoj
            subst hoj
            rw [hd]
            simpa using hds
          | succ j => exact hno j oj (by omega) (by simpa using hoj)
theorem Line.ext_look {l : List Oper} {Vs : List Ty} (h : Line P ops w0 Γ l Vs) : ∀ (s : Nat) (τ : Ty), look (ext Γ l Vs) s = some τ →
    (∃ (j : Nat) (oj : Oper), l[j]? = some oj ∧ oj.dst = some s ∧ Vs[j]? = some τ) ∨ ((∀ (j : Nat) (oj : Oper), l[j]? = some oj → oj.dst ≠ some s) ∧ look Γ s = some τ) := by
  induction h with
  | nil => intro s τ hl; exact .inr ⟨fun j oj h => by simp at h, hl⟩
  | @cons Γ d o V os Vs hd hF t ih =>
    intro s τ hl
    have e : ext Γ (o :: os) (V :: Vs) = ext ((d, V) :: Γ) os Vs := by simp [ext, hd]
    rw [e] at hl
    rcases ih s τ hl with ⟨j, oj, hoj, hds, hVj⟩ | ⟨hno, hlk⟩
    · exact .inl ⟨j + 1, oj, by simpa using hoj, hds, by simpa using hVj⟩
    · by_cases hds : d = s
      · subst hds
        rw [look_same] at hlk
        injection hlk with hlk
        subst hlk
        exact .inl ⟨0, o, rfl, hd, rfl⟩
      · rw [look_ne _ _ hds] at hlk
        refine .inr ⟨fun j oj hoj => ?_, hlk⟩
        cases j with
        | zero =>
          simp only [List.getElem?_cons_zero, Option.some.injEq] at hoj
          subst hoj
          rw [hd]
          simpa using hds
        | succ j => exact hno j oj (by simpa using hoj)
end

/-- Of the operations that are listed. -/
structure TInv (N n : Nat) (l : List Oper) (Vs : List Ty) (a0 : Act) (w0 : World) (listed : Array Bool) (a : Act) (w : World) : Prop where
  below : Below w0.heap.size w0 w
  defers : a.defers = []
  size : a.tmps.size = N
  out : ∀ s, (∀ (j : Nat) (oj : Oper), j < n → listed.getD j false = true → l[j]? = some oj → oj.dst ≠ some s) → a.tmps[s]? = a0.tmps[s]?
  vals : ∀ (j : Nat) (oj : Oper) (d : Nat) (V : Ty), j < n → listed.getD j false = true → l[j]? = some oj → oj.dst = some d → Vs[j]? = some V → ∃ v, a.tmps[d]? = some v ∧ V.p w v ∧ (isNew oj = true → ∃ g, v = .pointer (some ⟨g, 0, none⟩) ∧ g < w.heap.size)
  news : ∀ (i j : Nat) (oi oj : Oper) (di dj : Nat), i < n → j < n → i ≠ j → listed.getD i false = true → listed.getD j false = true → l[i]? = some oi → l[j]? = some oj → isNew oi = true → isNew oj = true → oi.dst = some di → oj.dst = some dj → a.tmps[di]? ≠ a.tmps[dj]?

/-- New variables are unlike. -/
def News (l : List Oper) (a : Act) : Prop := ∀ (i j : Nat) (oi oj : Oper) (di dj : Nat), i ≠ j → l[i]? = some oi → l[j]? = some oj → isNew oi = true → isNew oj = true → oi.dst = some di → oj.dst = some dj → a.tmps[di]? ≠ a.tmps[dj]?

section
variable {P : Program} {w0 : World} {Γ : Ctx} {N n : Nat} {l : List Oper} {Vs : List Ty} {a0 : Act} {ops : Array Oper}
theorem TInv.start (hF : Fr N Γ a0 w0) {w : World} (hb : Below w0.heap.size w0 w) (m : Nat) : TInv N n l Vs a0 w0 (Array.replicate m false) a0 w :=
  ⟨hb, hF.defers, hF.size, fun _ _ => rfl, fun j _ _ _ _ h => (by rw [getD_replicate_false] at h; cases h), fun i _ _ _ _ _ _ _ _ h => (by rw [getD_replicate_false] at h; cases h)⟩
theorem TInv.step (hB : regB ops N n = true) (hl : ∀ i, i < n → l[i]? = ops[i]?) (hL : Line P ops w0 Γ l Vs) (hF : Fr N Γ a0 w0) {listed : Array Bool} {a : Act} {w : World} (hI : TInv N n l Vs a0 w0 listed a w)
    (hsz : listed.size = ops.size) (hcl : ∀ (j : Nat) (oj : Oper), ops[j]? = some oj → listed.getD j false = true → ∀ e ∈ oj.after, Region.binds .any e = true → listed.getD e.on false = true)
    {i : Nat} {o : Oper} (hi : i < n) (ho : ops[i]? = some o) (hun : listed.getD i false = false) (hdep : ∀ e ∈ o.after, Region.binds .any e = true → listed.getD e.on false = true) (K : Act → World → Prop) (Q : Exit → Act → World → Prop)
    (hK : ∀ a' w', TInv N n l Vs a0 w0 (listed.setIfInBounds i true) a' w' → K a' w') :
    if Region.wanted o (yielded ops a.tmps) then o.wp P a w K Q else K (a.put o.dst undef) w := by
  have hli : l[i]? = some o := (hl i hi).trans ho
  obtain ⟨V, Γi, hV, hFa, hlk⟩ := hL.at_ i o hli
  obtain ⟨o', d, ho', hd, hdN, _, hoth⟩ := regB_at hB hi
  obtain rfl : o = o' := Option.some.inj (ho.symm.trans ho')
  have wf : ∀ {p q : Nat} {op : Oper}, ops[p]? = some op → Region.waitsFor .any ops p q = true → ∃ e ∈ op.after, Region.binds .any e = true ∧ e.on = q := fun {p q op} hp hw => by
    obtain ⟨oj, hoj, e, he, hb, hon⟩ := Region.waitsFor_spec hw
    obtain rfl : op = oj := Option.some.inj (hp.symm.trans hoj)
    exact ⟨e, he, hb, hon⟩
  have hsees : Sees ops Γi o a w := by
    intro s τ hs hls
    rcases hlk s τ hls with ⟨j, oj, hj, hoj, hds, hVj⟩ | ⟨hno, hl0⟩
    · have hjn : j < n := by omega
      have hoj' : ops[j]? = some oj := (hl j hjn).symm.trans hoj
      obtain ⟨oj2, dj, hoj2, hdj, _, _, hothj⟩ := regB_at hB hjn
      obtain rfl : oj = oj2 := Option.some.inj (hoj'.symm.trans hoj2)
      obtain rfl : dj = s := Option.some.inj (hdj.symm.trans hds)
      have h1 := ((hothj i o hi ho (by omega)).2 hs).1 hj
      obtain ⟨e, he, hb, hon⟩ := wf ho h1
      have h2 := hdep e he hb
      rw [hon] at h2
      obtain ⟨v, hv1, hv2, _⟩ := hI.vals j oj dj τ hjn h2 hoj hdj hVj
      exact ⟨v, hv1, hv2⟩
    · obtain ⟨v, hv1, hv2⟩ := hF.val s τ hl0
      refine ⟨v, ?_, τ.below hv2 hI.below⟩
      rw [hI.out s (fun k ok hk hlk' hok hdk => ?_)]
      · exact hv1
      · have hok' : ops[k]? = some ok := (hl k hk).symm.trans hok
        have hki : k ≠ i := fun h => by subst h; rw [hun] at hlk'; cases hlk'
        by_cases hlt : k < i
        · exact hno k ok hlt hok hdk
        · obtain ⟨ok2, dk, hok2, hdk2, _, _, hothk⟩ := regB_at hB hk
          obtain rfl : ok = ok2 := Option.some.inj (hok'.symm.trans hok2)
          obtain rfl : dk = s := Option.some.inj (hdk2.symm.trans hdk)
          have h1 := ((hothk i o hi ho (Ne.symm hki)).2 hs).2 (by omega)
          obtain ⟨e, he, hb, hon⟩ := wf hok' h1
          have h2 := hcl k ok hok' hlk' e he hb
          rw [hon, hun] at h2
          cases h2
  refine hFa.at_work hI.below hsees K Q (fun v w' hv hb hnew => hK _ _ ?_)
  rw [hd]
  have hilt : i < listed.size := by rw [hsz]; exact (Array.getElem?_eq_some_iff.1 ho).1
  have hdne : ∀ (j : Nat) (oj : Oper) (dj : Nat), j < n → j ≠ i → l[j]? = some oj → oj.dst = some dj → d ≠ dj := fun j oj dj hj hne hoj hdj h => by
    subst h
    exact (hoth j oj hj ((hl j hj).symm.trans hoj) hne).1 hdj
  refine ⟨hI.below.trans (hb.mono hI.below.size), hI.defers, by simp only [Act.put]; simpa using hI.size, fun s hs => ?_, fun j oj dj Vj hj hlj hoj hdj hVj => ?_, fun p q op oq dp dq hp hq hne hlp hlq hop hoq hnp hnq hdp hdq => ?_⟩
  · have hds : d ≠ s := fun h => hs i o hi (by simp [Array.getD, hilt]) hli (by rw [hd, h])
    simp only [Act.put]
    rw [Array.getElem?_setIfInBounds_ne hds]
    refine hI.out s (fun j oj hj hlj hoj => ?_)
    refine hs j oj hj ?_ hoj
    by_cases hij : i = j
    · subst hij; rw [hun] at hlj; cases hlj
    · rw [getD_set_ne false hij]; exact hlj
  · by_cases hij : i = j
    · subst hij
      obtain rfl : o = oj := Option.some.inj (hli.symm.trans hoj)
      obtain rfl : d = dj := Option.some.inj (hd.symm.trans hdj)
      obtain rfl : V = Vj := Option.some.inj (hV.symm.trans hVj)
      refine ⟨v, ?_, hv, fun hn => ?_⟩
      · simp only [Act.put]
        rw [Array.getElem?_setIfInBounds_self, if_pos (by rw [hI.size]; exact hdN)]
      · obtain ⟨h1, h2⟩ := hnew hn
        exact ⟨_, h1, h2⟩
    · rw [getD_set_ne false hij] at hlj
      obtain ⟨u, h1, h2, h3⟩ := hI.vals j oj dj Vj hj hlj hoj hdj hVj
      refine ⟨u, ?_, Vj.below h2 hb, fun hn => ?_⟩
      · simp only [Act.put]
        rw [Array.getElem?_setIfInBounds_ne (hdne j oj dj hj (Ne.symm hij) hoj hdj)]
        exact h1
      · obtain ⟨g, h4, h5⟩ := h3 hn
        exact ⟨g, h4, Nat.lt_of_lt_of_le h5 hb.size⟩
  · have far : ∀ (j : Nat) (oj : Oper) (dj : Nat), j < n → j ≠ i → l[j]? = some oj → oj.dst = some dj → (a.put (some d) v).tmps[dj]? = a.tmps[dj]? := fun j oj dj hj hji hoj hdj => by
      simp only [Act.put]
      rw [Array.getElem?_setIfInBounds_ne (hdne j oj dj hj hji hoj hdj)]
    have near : (a.put (some d) v).tmps[d]? = some v := by
      simp only [Act.put]
      rw [Array.getElem?_setIfInBounds_self, if_pos (by rw [hI.size]; exact hdN)]
    have lineV : ∀ (j : Nat) (oj : Oper), l[j]? = some oj → ∃ Vj, Vs[j]? = some Vj := fun j oj hoj => let ⟨Vj, _, h, _⟩ := hL.at_ j oj hoj; ⟨Vj, h⟩
    have other : ∀ (j : Nat) (oj : Oper) (dj : Nat), j < n → j ≠ i → listed.getD j false = true → l[j]? = some oj → isNew oj = true → oj.dst = some dj → isNew o = true → a.tmps[dj]? ≠ some v := fun j oj dj hj hji hlj hoj hnj hdj hno h => by
      obtain ⟨Vj, hVj⟩ := lineV j oj hoj
      obtain ⟨u, h1, _, h3⟩ := hI.vals j oj dj Vj hj hlj hoj hdj hVj
      obtain ⟨g, h4, h5⟩ := h3 hnj
      have h6 := (hnew hno).1
      rw [h1] at h
      injection h with h
      rw [h4, h6] at h
      injection h with h
      injection h with h
      injection h with h
      omega
    by_cases hpi : p = i
    · subst hpi
      obtain rfl : o = op := Option.some.inj (hli.symm.trans hop)
      obtain rfl : d = dp := Option.some.inj (hd.symm.trans hdp)
      rw [near, far q oq dq hq (Ne.symm hne) hoq hdq]
      rw [getD_set_ne false hne] at hlq
      exact fun h => other q oq dq hq (Ne.symm hne) hlq hoq hnq hdq hnp h.symm
    · rw [getD_set_ne false (Ne.symm hpi)] at hlp
      by_cases hqi : q = i
      · subst hqi
        obtain rfl : o = oq := Option.some.inj (hli.symm.trans hoq)
        obtain rfl : d = dq := Option.some.inj (hd.symm.trans hdq)
        rw [near, far p op dp hp hpi hop hdp]
        exact other p op dp hp hpi hlp hop hnp hdp hnq
      · rw [getD_set_ne false (Ne.symm hqi)] at hlq
        rw [far p op dp hp hpi hop hdp, far q oq dq hq hqi hoq hdq]
        exact hI.news p q op oq dp dq hp hq hne hlp hlq hop hoq hnp hnq hdp hdq
theorem TInv.all (hL : Line P ops w0 Γ l Vs) (hn : n = l.length) (hF : Fr N Γ a0 w0) {listed : Array Bool} {a : Act} {w : World} (hI : TInv N n l Vs a0 w0 listed a w) (hall : ∀ i, i < n → listed.getD i false = true) :
    Fr N (ext Γ l Vs) a w ∧ News l a := by
  have lt : ∀ (j : Nat) (oj : Oper), l[j]? = some oj → j < n := fun j oj h => by rw [hn]; exact (List.getElem?_eq_some_iff.1 h).1
  refine ⟨⟨hI.size, hI.defers, fun s τ hs => ?_⟩, fun i j oi oj di dj hne hi hj h1 h2 h3 h4 => hI.news i j oi oj di dj (lt i oi hi) (lt j oj hj) hne (hall i (lt i oi hi)) (hall j (lt j oj hj)) hi hj h1 h2 h3 h4⟩
  rcases hL.ext_look s τ hs with ⟨j, oj, hoj, hds, hVj⟩ | ⟨hno, hl0⟩
  · obtain ⟨v, h1, h2, _⟩ := hI.vals j oj s τ (lt j oj hoj) (hall j (lt j oj hoj)) hoj hds hVj
    exact ⟨v, h1, h2⟩
  · obtain ⟨v, hv1, hv2⟩ := hF.val s τ hl0
    exact ⟨v, by rw [hI.out s (fun j oj _ _ hoj => hno j oj hoj)]; exact hv1, τ.below hv2 hI.below⟩
end

/-- How many of the first n are still to come. -/
def wanting (n : Nat) (listed : Array Bool) : Nat := ((List.range n).filter fun i => !listed.getD i false).length
theorem wanting_zero {n : Nat} {listed : Array Bool} (h : wanting n listed = 0) : ∀ i, i < n → listed.getD i false = true := by
  intro i hi
  unfold wanting at h
  have h1 := List.eq_nil_of_length_eq_zero h
  rw [List.filter_eq_nil_iff] at h1
  have := h1 i (List.mem_range.2 hi)
  simpa using this
theorem filter_less_one {l : List Nat} (hd : l.Nodup) {p q : Nat → Bool} {i : Nat} (hi : i ∈ l) (hp : p i = true) (hq : q i = false) (hpq : ∀ j ∈ l, j ≠ i → q j = p j) : (l.filter q).length + 1 = (l.filter p).length := by
  induction l with
  | nil => cases hi
  | cons x l ih =>
    rw [List.nodup_cons] at hd
    by_cases hx : x = i
    · subst hx
      have e : l.filter q = l.filter p := List.filter_congr fun j hj => hpq j (by simp [hj]) (fun h => hd.1 (h ▸ hj))
      rw [List.filter_cons_of_neg (by simp [hq]), List.filter_cons_of_pos hp, e]
      rfl
    · have hi' : i ∈ l := by
        rcases List.mem_cons.1 hi with h | h
        · exact absurd h.symm hx
        · exact h
      have h := ih hd.2 hi' (fun j hj hne => hpq j (by simp [hj]) hne)
      have hqx := hpq x (by simp) hx
      by_cases hpx : p x = true
      · rw [List.filter_cons_of_pos (by rw [hqx]; exact hpx), List.filter_cons_of_pos hpx]
        simp only [List.length_cons]; omega
      · rw [List.filter_cons_of_neg (by rw [hqx]; exact hpx), List.filter_cons_of_neg hpx]
        exact h
theorem wanting_set {n i : Nat} {listed : Array Bool} (hi : i < n) (hl : i < listed.size) (h : listed.getD i false = false) : wanting n (listed.setIfInBounds i true) + 1 = wanting n listed := by
  unfold wanting
  refine filter_less_one List.nodup_range (List.mem_range.2 hi) (by simp [h]) ?_ (fun j _ hne => ?_)
  · simp [Array.getD, hl]
  · rw [getD_set_ne false (Ne.symm hne)]
theorem ready_head {ops : Array Oper} {listed : Array Bool} {n : Nat} (hback : ∀ i o, i < n → ops[i]? = some o → ∀ e ∈ o.after, Region.binds .any e = true → e.on < i) (hn : n ≤ ops.size) (hs : listed.size = ops.size)
    (h : Region.ready .any ops listed = []) : ∀ i, i < n → listed.getD i false = true := by
  intro i
  induction i using Nat.strongRecOn with
  | ind i ih =>
    intro hi
    cases hv : listed.getD i false with
    | true => rfl
    | false =>
      exfalso
      have hio : i < ops.size := by omega
      have hmem : i ∈ Region.ready .any ops listed := mem_ready.2 ⟨by
          have hl : i < listed.size := by omega
          simpa [Array.getD, hl] using hv, ops[i], Array.getElem?_eq_getElem hio, fun e he hb => by
          have h1 := hback i ops[i] hi (Array.getElem?_eq_getElem hio) e he hb
          exact ih e.on h1 (by omega)⟩
      rw [h] at hmem
      cases hmem
theorem all_listed {ops : Array Oper} {n : Nat} {listed : Array Bool} (inv : HeadInv .any ops n listed) (h : ∀ i, i < n → listed.getD i false = true) (hn : n ≤ ops.size) : listed = (List.replicate n true ++ List.replicate (ops.size - n) false).toArray := by
  apply Array.ext_getElem?
  intro i
  have e : (List.replicate n true ++ List.replicate (ops.size - n) false).toArray[i]? = (List.replicate n true ++ List.replicate (ops.size - n) false)[i]? := List.getElem?_toArray ..
  rw [e]
  clear e
  by_cases hi : i < n
  · have h1 := h i hi
    have hl : i < listed.size := by rw [inv.size]; omega
    rw [List.getElem?_append_left (by simpa using hi), List.getElem?_replicate, if_pos hi, Array.getElem?_eq_getElem hl]
    simp [Array.getD, hl] at h1
    rw [h1]
  · by_cases hi2 : i < ops.size
    · have h1 := inv.tail i (by omega) hi2
      have hl : i < listed.size := by rw [inv.size]; omega
      rw [List.getElem?_append_right (by simp; omega), List.getElem?_replicate, if_pos (by simp; omega), Array.getElem?_eq_getElem hl]
      simp [Array.getD, hl] at h1
      rw [h1]
    · rw [Array.getElem?_eq_none (by rw [inv.size]; omega), List.getElem?_eq_none (by simp; omega)]

/-- The order of what stands behind the head. -/
def tailB (ops : Array Oper) (n : Nat) : Bool :=
  if n == ops.size then true else
  decide (n < ops.size) && Region.sinkB .any ops n && Region.chainB .any ops n && Region.seqB .any ops (ops.size - n) n (List.replicate n true ++ List.replicate (ops.size - n) false).toArray

section
variable {P : Program} {w0 : World} {Γ : Ctx} {N : Nat} {Vs : List Ty} {a0 : Act}
/-- **A region by types.** Its first n operations are told by a derivation in the order of the text; the rest goes in the order of the text. -/
theorem region_ty {id : Nat} {Q : Exit → Act → World → Prop} {l : List Oper} {draw : Bool} (n : Nat) (hm : P.follows .mixedOrders = true) (hB : (regB l.toArray N n && tailB l.toArray n) = true) (hF : Fr N Γ a0 w0)
    (hL : Line P l.toArray w0 Γ (l.take n) Vs)
    (hQ : ∀ a w, Fr N (ext Γ (l.take n) Vs) a w → Below w0.heap.size w0 w → News (l.take n) a → wpList P l.toArray Q (l.drop n) a w) : (Code.region id l.toArray draw).wp P Q a0 w0 := by
  rw [Bool.and_eq_true] at hB
  obtain ⟨hB, hT⟩ := hB
  have hsize : l.toArray.size = l.length := by simp
  have hnl : n ≤ l.toArray.size := by
    unfold tailB at hT
    split at hT
    · rename_i h; simp at h; simp [h]
    · simp only [Bool.and_eq_true, decide_eq_true_eq] at hT; omega
  have hlen : n = (l.take n).length := by simp at hnl ⊢; omega
  have hli : ∀ i, i < n → (l.take n)[i]? = l.toArray[i]? := fun i hi => by simp [hi]
  have hback : ∀ i o, i < n → l.toArray[i]? = some o → ∀ e ∈ o.after, Region.binds .any e = true → e.on < i := fun i o hi ho e he hb => by
    obtain ⟨o', d, ho', _, _, h, _⟩ := regB_at hB hi
    obtain rfl : o = o' := Option.some.inj (ho.symm.trans ho')
    exact h e he hb
  have fin : ∀ (listed : Array Bool) a w, TInv N n (l.take n) Vs a0 w0 listed a w → (∀ i, i < n → listed.getD i false = true) → wpList P l.toArray Q (l.drop n) a w := fun listed a w hI hall => by
    obtain ⟨h1, h2⟩ := hI.all hL hlen hF hall
    exact hQ a w h1 hI.below h2
  cases draw with
  | true =>
    have key : ∀ (f : Nat) (listed : Array Bool) (a : Act) (w : World), HeadInv .any l.toArray n listed → wanting n listed = f → TInv N n (l.take n) Vs a0 w0 listed a w → wpAny P .any l.toArray Q (f + (l.toArray.size - n)) listed a w := by
      intro f
      induction f with
      | zero =>
        intro listed a w hH h0 hI
        have hall := wanting_zero h0
        have hdl : (l.drop n).length = l.toArray.size - n := by simp
        have e := all_listed hH hall hnl
        have hseq : Region.seqB .any l.toArray (l.toArray.size - n) n listed = true := by
          unfold tailB at hT
          split at hT
          · rename_i h
            have hz : n = l.toArray.size := by simpa using h
            have h2 : l.toArray.size - n = 0 := by omega
            rw [h2]
            simp only [Region.seqB, List.isEmpty_iff]
            unfold Region.ready
            rw [List.filter_eq_nil_iff]
            intro i hi
            have hi' := List.mem_range.1 hi
            have h3 := hall i (by omega)
            have hil : i < listed.size := by rw [hH.size]; exact hi'
            simp [Array.getD, hil] at h3 ⊢
            simp [h3]
          · simp only [Bool.and_eq_true] at hT
            rw [e]; exact hT.2
        have := wpAny_of_seq (md := .any) (Q' := Q) (l.drop n) n listed a w (fun j => by simp [List.getElem?_drop]) (by rw [hdl]; exact hseq) (fin listed a w hI hall)
        rw [Nat.zero_add]
        rwa [hdl] at this
      | succ f ih =>
        intro listed a w hH h0 hI
        rw [show f + 1 + (l.toArray.size - n) = (f + (l.toArray.size - n)) + 1 by omega]
        have hex : ∃ i, i < n ∧ listed.getD i true = false := by
          refine Classical.byContradiction fun hno => ?_
          have hz : wanting n listed = 0 := by
            unfold wanting
            rw [List.length_eq_zero_iff, List.filter_eq_nil_iff]
            intro i hi
            have hi' := List.mem_range.1 hi
            have hl : i < listed.size := by rw [hH.size]; omega
            have h1 : ¬ listed.getD i true = false := fun h => hno ⟨i, hi', h⟩
            simp [Array.getD, hl] at h1 ⊢
            exact h1
          omega
        obtain ⟨i0, hi0, hun0⟩ := hex
        refine ⟨fun hr => ?_, fun i hi => ?_⟩
        · exfalso
          have := ready_head hback hnl hH.size hr i0 hi0
          rw [getD_both hun0] at this
          cases this
        · obtain ⟨h1, o, ho, h2⟩ := mem_ready.1 hi
          have hin : i < n := Nat.lt_of_not_le fun h => by
            have hio := (Array.getElem?_eq_some_iff.1 ho).1
            unfold tailB at hT
            split at hT
            · rename_i h'; simp at h'; omega
            · simp only [Bool.and_eq_true, decide_eq_true_eq] at hT
              exact tail_waits hT.1.1.2 hT.1.2 hT.1.1.1 hH _ i0 rfl hi0 hun0 i h hi
          have hil : i < listed.size := by rw [hH.size]; omega
          have h3 := TInv.step hB hli hL hF hI hH.size hH.closed hin ho (getD_both h1) h2 (wpAny P .any l.toArray Q (f + (l.toArray.size - n)) (listed.setIfInBounds i true)) Q (fun a' w' hI' => by
            refine ih _ a' w' (hH.set hi hin) ?_ hI'
            have := wanting_set hin hil (getD_both h1)
            omega)
          unfold wpOp
          simp only [ho]
          split
          · rename_i hw
            rw [if_pos hw] at h3
            exact .inl h3
          · rename_i hw
            rw [if_neg hw] at h3
            exact h3
    have inv0 : HeadInv .any l.toArray n (Array.replicate l.toArray.size false) :=
      ⟨by simp, fun j oj _ hl => (by rw [getD_replicate_false] at hl; cases hl), fun t _ ht => getD_in (by simpa using ht) (getD_replicate_false _ _)⟩
    have h0 : wanting n (Array.replicate l.toArray.size false) = n := by
      unfold wanting
      rw [List.filter_eq_self.2 (fun i _ => by rw [getD_replicate_false]; rfl), List.length_range]
    refine wp_region_any hm ?_
    have := key n _ a0 w0.drew inv0 h0 (TInv.start hF (Below.refl _ _).drew _)
    rw [show n + (l.toArray.size - n) = l.toArray.size by omega] at this
    exact this
  | false =>
    have key : ∀ (f k : Nat) (a : Act) (w : World), k + f = n → TInv N n (l.take n) Vs a0 w0 ((List.replicate k true ++ List.replicate (l.toArray.size - k) false).toArray) a w → wpList P l.toArray Q (l.drop k) a w := by
      intro f
      induction f with
      | zero =>
        intro k a w hk hI
        obtain rfl : k = n := by omega
        refine fin _ a w hI (fun i hi => ?_)
        simp [Array.getD, hi]
        omega
      | succ f ih =>
        intro k a w hk hI
        have hkn : k < n := by omega
        have hkl : k < l.length := by omega
        have hdrop : l.drop k = l[k] :: l.drop (k + 1) := by rw [List.drop_eq_getElem_cons hkl]
        have getD_k : ∀ m j, m ≤ l.toArray.size → (List.replicate m true ++ List.replicate (l.toArray.size - m) false).toArray.getD j false = decide (j < m) := fun m j hm => by
          by_cases hj : j < m
          · simp [Array.getD, hj]; omega
          · simp [Array.getD, List.getElem_append, hj]
        have ho : l.toArray[k]? = some l[k] := by simp [hkl]
        have hset : (List.replicate k true ++ List.replicate (l.toArray.size - k) false).toArray.setIfInBounds k true = (List.replicate (k + 1) true ++ List.replicate (l.toArray.size - (k + 1)) false).toArray := by
          apply Array.ext_getElem?
          intro j
          rw [show l.toArray.size - k = (l.toArray.size - (k + 1)) + 1 by omega, List.replicate_succ, List.replicate_succ']
          simp only [List.setIfInBounds_toArray, List.getElem?_toArray, List.append_assoc, List.singleton_append]
          rw [List.set_append_right _ _ (by simp)]
          simp
        rw [hdrop]
        refine wpList_step fun K hK => ?_
        refine TInv.step hB hli hL hF hI (by simp; omega) (fun j oj hj hl e he hb => ?_) hkn ho (by rw [getD_k k k (by omega)]; simp) (fun e he hb => ?_) K Q (fun a' w' hI' => hK a' w' (ih (k + 1) a' w' (by omega) (by rw [← hset]; exact hI')))
        · rw [getD_k k _ (by omega)] at hl ⊢
          simp only [decide_eq_true_eq] at hl ⊢
          have := hback j oj (by omega) hj e he hb
          omega
        · rw [getD_k k _ (by omega)]
          simp only [decide_eq_true_eq]
          exact hback k _ hkn ho e he hb
    refine wp_region_lit ?_
    have := key n 0 a0 w0 (by omega) (by
      have e : (List.replicate 0 true ++ List.replicate (l.toArray.size - 0) false).toArray = Array.replicate l.toArray.size false := by simp
      rw [e]
      exact TInv.start hF (Below.refl _ _) _)
    simpa using this
end
end Go.Proofs.Ytkdkmnemmenikaa
