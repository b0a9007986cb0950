/- Regions by types: memory of the call's own that an operation takes over (append in place; constants that are frozen): each such slot has blocks of its own, told apart from all others. -/
import Derived.Test.YtkdkmnemmenikaaTyQ
namespace Go.Proofs.Ytkdkmnemmenikaa
open Go.RowKit

/-- A type with the blocks that are its own. -/
structure OTy where
  τ : Ty
  q : World → Value → List Nat → Prop
  tyq : ∀ {w : World} {v : Value} {S : List Nat}, q w v S → τ.p w v
  st : ∀ {w w' : World} {v : Value} {S T : List Nat}, q w v S → Keeps T w w' → (∀ b ∈ S, b ∉ T) → q w' v S
  lt : ∀ {w : World} {v : Value} {S : List Nat}, q w v S → ∀ b ∈ S, b < w.heap.size
def OTy.ex (v : Value) : OTy := ⟨Ty.ex v, fun _ u S => u = v ∧ S = [], fun h => h.1, fun h _ _ => h, fun h b hb => by rw [h.2] at hb; cases hb⟩
def OTy.seg (w0 : World) (e : TypeId) (sz n : Nat) (xs : List Value) : OTy := ⟨Ty.seg w0 e sz n xs, fun w v S => Seg w e sz v n xs S ∧ ∀ y ∈ S, w0.heap.size ≤ y, fun h => ⟨_, h.1, h.2⟩, fun h k hd => ⟨h.1.keeps k hd, h.2⟩, fun h b hb => h.1.lt b hb⟩
/-- A slice in a block of its own, read alone. -/
def OTy.slo (e : TypeId) (n : Nat) (xs : List Value) : OTy := ⟨Ty.sl e n xs, fun w v S => ∃ g off c cs fr, v = .slice (some ⟨g, off, none⟩) n c ∧ S = [g] ∧ n ≤ c ∧ c ≤ maxLen ∧ w.heap[g]? = some (.cells cs e fr) ∧ ∀ (j : Nat) (u : Value), xs[j]? = some u → cs[off + j]? = some u,
  fun ⟨g, off, c, cs, fr, h1, _, h3, h4, h5, h6⟩ => ⟨_, c, h1, h3, h4, fun h => (by cases h), fun j u hu => ⟨g, off, cs, fr, rfl, h5, h6 j u hu⟩⟩,
  fun ⟨g, off, c, cs, fr, h1, h2, h3, h4, h5, h6⟩ k hd => ⟨g, off, c, cs, fr, h1, h2, h3, h4, (k.block g (Array.getElem?_eq_some_iff.1 h5).1 (hd g (by simp [h2]))).trans h5, h6⟩,
  fun ⟨g, off, c, cs, fr, h1, h2, h3, h4, h5, h6⟩ b hb => by
    rw [h2] at hb
    simp only [List.mem_singleton] at hb
    subst hb
    exact (Array.getElem?_eq_some_iff.1 h5).1⟩

/-- A new variable of the region's own. -/
def OTy.var (w0 : World) (t : TypeId) (z : Array Value) : OTy := ⟨Ty.var w0 t z, fun w v S => ∃ g, v = .pointer (some ⟨g, 0, none⟩) ∧ S = [g] ∧ w0.heap.size ≤ g ∧ Blk w g t z, fun ⟨g, h1, _, h3, h4⟩ => ⟨g, h1, h3, h4⟩,
  fun ⟨g, h1, h2, h3, h4⟩ k hd => ⟨g, h1, h2, h3, h4.keeps k (hd g (by simp [h2]))⟩, fun ⟨g, _, h2, _, h4⟩ b hb => by
    rw [h2] at hb
    simp only [List.mem_singleton] at hb
    subst hb
    exact h4.lt⟩
abbrev OCtx := List (Nat × OTy)
def olook : OCtx → Nat → Option OTy
  | [], _ => none
  | p :: Γ, s => bif Nat.beq p.1 s then some p.2 else olook Γ s
theorem olook_same (d : Nat) (V : OTy) (Γ : OCtx) : olook ((d, V) :: Γ) d = some V := by simp [olook]
theorem olook_ne {d s : Nat} (V : OTy) (Γ : OCtx) (h : d ≠ s) : olook ((d, V) :: Γ) s = olook Γ s := by
  have : Nat.beq d s = false := by
    cases hb : Nat.beq d s with
    | false => rfl
    | true => exact absurd (Nat.eq_of_beq_eq_true hb) h
  simp [olook, this]

/-- An operation that takes over nothing: what it yields is new, or a plain value. -/
def OpO (P : Program) (w0 : World) (Γ : Ctx) (o : Oper) (V : OTy) : Prop :=
  ∀ (a : Act) (w : World) (K : Act → World → Prop) (Q : Exit → Act → World → Prop), Below w0.heap.size w0 w →
    (∀ (s : Nat) (τ : Ty), s ∈ Oper.reads o → look Γ s = some τ → ∃ v, a.tmps[s]? = some v ∧ τ.p w v) →
    (∀ v w' S, V.q w' v S → (∀ b ∈ S, w.heap.size ≤ b) → Below w.heap.size w w' → K (a.put o.dst v) w') → o.wp P a w K Q
/-- An operation that takes over slot s. -/
def OpTk (P : Program) (w0 : World) (Γ : Ctx) (o : Oper) (U V : OTy) (s : Nat) : Prop :=
  ∀ (a : Act) (w : World) (S0 : List Nat) (K : Act → World → Prop) (Q : Exit → Act → World → Prop), Below w0.heap.size w0 w →
    (∀ (s : Nat) (τ : Ty), s ∈ Oper.reads o → look Γ s = some τ → ∃ v, a.tmps[s]? = some v ∧ τ.p w v) →
    (∃ v, a.tmps[s]? = some v ∧ U.q w v S0) →
    (∀ v w' S, V.q w' v S → (∀ b ∈ S, b ∈ S0 ∨ w.heap.size ≤ b) → Keeps S0 w w' → K (a.put o.dst v) w') → o.wp P a w K Q
inductive FactO (P : Program) (ops : Array Oper) (w0 : World) (Γ : Ctx) (o : Oper) (V : OTy) : Prop
  | run (hg : o.guard = none) (h : OpO P w0 Γ o V)
  | yes {j s : Nat} {b : Bool} (hg : o.guard = some (j, b)) (hj : slotOf ops j = some s) (hs : look Γ s = some (Ty.ex (.bool b))) (h : OpO P w0 Γ o V)
  | no {j s : Nat} {b c : Bool} (hg : o.guard = some (j, c)) (hj : slotOf ops j = some s) (hs : look Γ s = some (Ty.ex (.bool b))) (hbc : (b == c) = false) (hV : V = OTy.ex undef)
inductive FactT (P : Program) (ops : Array Oper) (w0 : World) (Γ : Ctx) (o : Oper) (U V : OTy) (s0 : Nat) : Prop
  | run (hg : o.guard = none) (h : OpTk P w0 Γ o U V s0)
  | yes {j s : Nat} {b : Bool} (hg : o.guard = some (j, b)) (hj : slotOf ops j = some s) (hs : look Γ s = some (Ty.ex (.bool b))) (h : OpTk P w0 Γ o U V s0)
/-- Which slot an operation takes over. -/
def takes : List (Nat × Nat) → Nat → Option Nat
  | [], _ => none
  | p :: T, i => bif Nat.beq p.1 i then some p.2 else takes T i
theorem takes_mem : ∀ {T : List (Nat × Nat)} {i s : Nat}, takes T i = some s → (i, s) ∈ T
  | p :: T, i, s, h => by
    unfold takes at h
    cases hb : Nat.beq p.1 i with
    | true =>
      rw [hb] at h
      simp only [cond_true, Option.some.injEq] at h
      have := Nat.eq_of_beq_eq_true hb
      subst this h
      simp
    | false => rw [hb] at h; exact List.mem_cons_of_mem _ (takes_mem h)
inductive LineO (P : Program) (ops : Array Oper) (w0 : World) (T : List (Nat × Nat)) : Nat → Ctx → OCtx → List Oper → List OTy → Prop
  | nil {i : Nat} {Γ : Ctx} {Ω : OCtx} : LineO P ops w0 T i Γ Ω [] []
  | cons {i : Nat} {Γ : Ctx} {Ω : OCtx} {d : Nat} {o : Oper} {V : OTy} {os : List Oper} {Vs : List OTy} (hd : o.dst = some d) (hT : takes T i = none) (h : FactO P ops w0 Γ o V) (t : LineO P ops w0 T (i + 1) ((d, V.τ) :: Γ) ((d, V) :: Ω) os Vs) : LineO P ops w0 T i Γ Ω (o :: os) (V :: Vs)
  | take {i : Nat} {Γ : Ctx} {Ω : OCtx} {d s : Nat} {o : Oper} {U V : OTy} {os : List Oper} {Vs : List OTy} (hd : o.dst = some d) (hT : takes T i = some s) (hU : olook Ω s = some U) (h : FactT P ops w0 Γ o U V s) (t : LineO P ops w0 T (i + 1) ((d, V.τ) :: Γ) ((d, V) :: Ω) os Vs) : LineO P ops w0 T i Γ Ω (o :: os) (V :: Vs)
def extO : Ctx → List Oper → List OTy → Ctx
  | Γ, o :: os, V :: Vs => extO ((o.dst.getD 0, V.τ) :: Γ) os Vs
  | Γ, _, _ => Γ
/-- Slots that were taken over are told no more. -/
def hideT (T : List (Nat × Nat)) (Γ : Ctx) : Ctx := T.foldr (fun p Γ => (p.2, Ty.any) :: Γ) Γ
theorem hideT_look {T : List (Nat × Nat)} {Γ : Ctx} {s : Nat} {τ : Ty} (h : look (hideT T Γ) s = some τ) : τ = Ty.any ∧ (∃ i, (i, s) ∈ T) ∨ look Γ s = some τ ∧ ∀ i, (i, s) ∉ T := by
  induction T with
  | nil => exact .inr ⟨h, fun i hi => by cases hi⟩
  | cons p T ih =>
    have h' : look ((p.2, Ty.any) :: hideT T Γ) s = some τ := h
    by_cases hp : p.2 = s
    · subst hp
      rw [look_same] at h'
      injection h' with h'
      exact .inl ⟨h'.symm, p.1, by simp⟩
    · rw [look_ne _ _ hp] at h'
      rcases ih h' with ⟨h1, i, h2⟩ | ⟨h1, h2⟩
      · exact .inl ⟨h1, i, by simp [h2]⟩
      · refine .inr ⟨h1, fun i hi => ?_⟩
        rcases List.mem_cons.1 hi with h3 | h3
        · subst h3; exact hp rfl
        · exact h2 i h3
/-- What is asked of taking over: it reads that slot; no other reads it. -/
def takeB (N : Nat) (ops : Array Oper) (n : Nat) (T : List (Nat × Nat)) : Bool := T.all fun p => decide (p.1 < n) && decide (p.2 < N) &&
  (match ops[p.1]? with | some o => (o.looksAt ops).contains p.2 | none => false) &&
  (List.range n).all fun k => (k == p.1) || (match ops[k]? with | some o => !(o.looksAt ops).contains p.2 | none => true)
theorem takeB_at {N : Nat} {ops : Array Oper} {n : Nat} {T : List (Nat × Nat)} (h : takeB N ops n T = true) {i s : Nat} (hm : (i, s) ∈ T) : (i < n ∧ s < N) ∧ (∀ o, ops[i]? = some o → s ∈ o.looksAt ops) ∧ ∀ k o, k < n → ops[k]? = some o → s ∈ o.looksAt ops → k = i := by
  have h1 := List.all_eq_true.1 h _ hm
  simp only [Bool.and_eq_true, decide_eq_true_eq] at h1
  obtain ⟨⟨⟨h2, h2'⟩, h3⟩, h4⟩ := h1
  refine ⟨⟨h2, h2'⟩, fun o ho => ?_, fun k o hk ho hs => ?_⟩
  · rw [ho] at h3
    simpa using h3
  · have h5 := List.all_eq_true.1 h4 k (List.mem_range.2 hk)
    rw [ho] at h5
    replace h5 : ((k == i) || !(o.looksAt ops).contains s) = true := h5
    have h6 : ((o.looksAt ops).contains s) = true := by simpa using hs
    rw [h6] at h5
    simpa using h5

section
variable {P : Program} {ops : Array Oper} {w0 : World} {Γ : Ctx} {o : Oper} {V U : OTy}
theorem FactO.at_work (h : FactO P ops w0 Γ o V) {a : Act} {w : World} (hb : Below w0.heap.size w0 w) (hs : Sees ops Γ o a w) (K : Act → World → Prop) (Q : Exit → Act → World → Prop)
    (hK : ∀ v w' S, V.q w' v S → (∀ b ∈ S, w.heap.size ≤ b) → Below w.heap.size w w' → K (a.put o.dst v) w') :
    if Region.wanted o (yielded ops a.tmps) then o.wp P a w K Q else K (a.put o.dst undef) w := by
  cases h with
  | run hg h =>
    rw [if_pos (by simp [Region.wanted, hg])]
    exact h a w K Q hb (fun s τ hr hl => hs s τ (reads_looksAt hr) hl) hK
  | @yes j s b hg hj hl h =>
    obtain ⟨v, hv, he⟩ := hs s _ (guard_looksAt hg hj) hl
    have he : v = .bool b := he
    subst he
    rw [if_pos (by simp [Region.wanted, hg, yielded_of hj hv])]
    exact h a w K Q hb (fun s τ hr hl => hs s τ (reads_looksAt hr) hl) hK
  | @no j s b c hg hj hl hbc hV =>
    obtain ⟨v, hv, he⟩ := hs s _ (guard_looksAt hg hj) hl
    have he : v = .bool b := he
    subst he
    rw [if_neg (by cases b <;> cases c <;> simp at hbc <;> simp [Region.wanted, hg, yielded_of hj hv])]
    exact hK undef w [] (by rw [hV]; exact ⟨rfl, rfl⟩) (by simp) (Below.refl _ _)
theorem FactT.at_work {s0 : Nat} (h : FactT P ops w0 Γ o U V s0) {a : Act} {w : World} {S0 : List Nat} (hb : Below w0.heap.size w0 w) (hs : Sees ops Γ o a w) (hU : ∃ v, a.tmps[s0]? = some v ∧ U.q w v S0) (K : Act → World → Prop) (Q : Exit → Act → World → Prop)
    (hK : ∀ v w' S, V.q w' v S → (∀ b ∈ S, b ∈ S0 ∨ w.heap.size ≤ b) → Keeps S0 w w' → K (a.put o.dst v) w') :
    if Region.wanted o (yielded ops a.tmps) then o.wp P a w K Q else K (a.put o.dst undef) w := by
  cases h with
  | run hg h =>
    rw [if_pos (by simp [Region.wanted, hg])]
    exact h a w S0 K Q hb (fun s τ hr hl => hs s τ (reads_looksAt hr) hl) hU hK
  | @yes j s b hg hj hl h =>
    obtain ⟨v, hv, he⟩ := hs s _ (guard_looksAt hg hj) hl
    have he : v = .bool b := he
    subst he
    rw [if_pos (by simp [Region.wanted, hg, yielded_of hj hv])]
    exact h a w S0 K Q hb (fun s τ hr hl => hs s τ (reads_looksAt hr) hl) hU hK
theorem LineO.at_ {T : List (Nat × Nat)} {l : List Oper} {Vs : List OTy} {m : Nat} {Ω : OCtx} (h : LineO P ops w0 T m Γ Ω l Vs) : ∀ (i : Nat) (o : Oper), l[i]? = some o → ∃ V Γi, Vs[i]? = some V ∧
    (takes T (m + i) = none ∧ FactO P ops w0 Γi o V ∨ ∃ s U, takes T (m + i) = some s ∧ FactT P ops w0 Γi o U V s ∧ ((∃ (j : Nat) (oj : Oper), j < i ∧ l[j]? = some oj ∧ oj.dst = some s ∧ Vs[j]? = some U) ∨ olook Ω s = some U)) ∧
    ∀ (s : Nat) (τ : Ty), look Γi s = some τ → (∃ (j : Nat) (oj : Oper) (Vj : OTy), j < i ∧ l[j]? = some oj ∧ oj.dst = some s ∧ Vs[j]? = some Vj ∧ Vj.τ = τ) ∨ ((∀ (j : Nat) (oj : Oper), j < i → l[j]? = some oj → oj.dst ≠ some s) ∧ look Γ s = some τ) := by
  have key : ∀ {m : Nat} {Γ : Ctx} {Ω : OCtx} {d : Nat} {o : Oper} {V : OTy} {os : List Oper} {Vs : List OTy} (hd : o.dst = some d)
      (ih : ∀ (i : Nat) (o : Oper), os[i]? = some o → ∃ V' Γi, Vs[i]? = some V' ∧
        (takes T (m + 1 + i) = none ∧ FactO P ops w0 Γi o V' ∨ ∃ s U, takes T (m + 1 + i) = some s ∧ FactT P ops w0 Γi o U V' s ∧ ((∃ (j : Nat) (oj : Oper), j < i ∧ os[j]? = some oj ∧ oj.dst = some s ∧ Vs[j]? = some U) ∨ olook ((d, V) :: Ω) s = some U)) ∧
        ∀ (s : Nat) (τ : Ty), look Γi s = some τ → (∃ (j : Nat) (oj : Oper) (Vj : OTy), j < i ∧ os[j]? = some oj ∧ oj.dst = some s ∧ Vs[j]? = some Vj ∧ Vj.τ = τ) ∨ ((∀ (j : Nat) (oj : Oper), j < i → os[j]? = some oj → oj.dst ≠ some s) ∧ look ((d, V.τ) :: Γ) s = some τ))
      (i : Nat) (o' : Oper), os[i]? = some o' → ∃ V' Γi, (V :: Vs)[i + 1]? = some V' ∧
        (takes T (m + (i + 1)) = none ∧ FactO P ops w0 Γi o' V' ∨ ∃ s U, takes T (m + (i + 1)) = some s ∧ FactT P ops w0 Γi o' U V' s ∧ ((∃ (j : Nat) (oj : Oper), j < i + 1 ∧ (o :: os)[j]? = some oj ∧ oj.dst = some s ∧ (V :: Vs)[j]? = some U) ∨ olook Ω s = some U)) ∧
        ∀ (s : Nat) (τ : Ty), look Γi s = some τ → (∃ (j : Nat) (oj : Oper) (Vj : OTy), j < i + 1 ∧ (o :: os)[j]? = some oj ∧ oj.dst = some s ∧ (V :: Vs)[j]? = some Vj ∧ Vj.τ = τ) ∨ ((∀ (j : Nat) (oj : Oper), j < i + 1 → (o :: os)[j]? = some oj → oj.dst ≠ some s) ∧ look Γ s = some τ) := by
    intro m Γ Ω d o V os Vs hd ih i o' ho'
    obtain ⟨V', Γi, h1, h2, h3⟩ := ih i o' ho'
    refine ⟨V', Γi, by simpa using h1, ?_, fun s τ hl => ?_⟩
    · rw [show m + (i + 1) = m + 1 + i by omega]
      rcases h2 with h2 | ⟨s, U, h4, h5, h6⟩
      · exact .inl h2
      · refine .inr ⟨s, U, h4, h5, ?_⟩
        rcases h6 with ⟨j, oj, hj, hoj, hds, hVj⟩ | h6
        · exact .inl ⟨j + 1, oj, by omega, by simpa using hoj, hds, by simpa using hVj⟩
        · by_cases hds : d = s
          · subst hds
            rw [olook_same] at h6
            injection h6 with h6
            subst h6
            exact .inl ⟨0, o, by omega, rfl, hd, rfl⟩
          · rw [olook_ne _ _ hds] at h6
            exact .inr h6
    · rcases h3 s τ hl with ⟨j, oj, Vj, hj, hoj, hds, hVj, hτ⟩ | ⟨hno, hlk⟩
      · exact .inl ⟨j + 1, oj, Vj, by omega, by simpa using hoj, hds, by simpa using hVj, hτ⟩
      · by_cases hds : d = s
        · subst hds
          rw [look_same] at hlk
          injection hlk with hlk
          exact .inl ⟨0, o, V, by omega, rfl, hd, rfl, hlk⟩
        · rw [look_ne _ _ hds] at hlk
          refine .inr ⟨fun j oj hj hoj => ?_, hlk⟩
          cases j with
          | zero =>
            simp only [List.getElem?_cons_zero, Option.some.injEq] at hoj
            subst hoj
            rw [hd]
            simpa using hds
          | succ j => exact hno j oj (by omega) (by simpa using hoj)
  induction h with
  | nil => intro i o h; simp at h
  | @cons m Γ Ω d o V os Vs hd hT hF t ih =>
    intro i o' ho'
    cases i with
    | zero =>
      simp only [List.getElem?_cons_zero, Option.some.injEq] at ho'
      subst ho'
      exact ⟨V, Γ, rfl, .inl ⟨hT, hF⟩, fun s τ hl => .inr ⟨fun j oj hj => absurd hj (Nat.not_lt_zero _), hl⟩⟩
    | succ i => exact key hd ih i o' (by simpa using ho')
  | @take m Γ Ω d s o U V os Vs hd hT hU hF t ih =>
    intro i o' ho'
    cases i with
    | zero =>
      simp only [List.getElem?_cons_zero, Option.some.injEq] at ho'
      subst ho'
      exact ⟨V, Γ, rfl, .inr ⟨s, U, hT, hF, .inr hU⟩, fun s τ hl => .inr ⟨fun j oj hj => absurd hj (Nat.not_lt_zero _), hl⟩⟩
    | succ i => exact key hd ih i o' (by simpa using ho')
theorem LineO.ext_look {T : List (Nat × Nat)} {l : List Oper} {Vs : List OTy} {m : Nat} {Ω : OCtx} (h : LineO P ops w0 T m Γ Ω l Vs) : ∀ (s : Nat) (τ : Ty), look (extO Γ l Vs) s = some τ →
    (∃ (j : Nat) (oj : Oper) (Vj : OTy), l[j]? = some oj ∧ oj.dst = some s ∧ Vs[j]? = some Vj ∧ Vj.τ = τ) ∨ ((∀ (j : Nat) (oj : Oper), l[j]? = some oj → oj.dst ≠ some s) ∧ look Γ s = some τ) := by
  have key : ∀ {Γ : Ctx} {d : Nat} {o : Oper} {V : OTy} {os : List Oper} {Vs : List OTy} (hd : o.dst = some d)
      (ih : ∀ (s : Nat) (τ : Ty), look (extO ((d, V.τ) :: Γ) os Vs) s = some τ → (∃ (j : Nat) (oj : Oper) (Vj : OTy), os[j]? = some oj ∧ oj.dst = some s ∧ Vs[j]? = some Vj ∧ Vj.τ = τ) ∨ ((∀ (j : Nat) (oj : Oper), os[j]? = some oj → oj.dst ≠ some s) ∧ look ((d, V.τ) :: Γ) s = some τ))
      (s : Nat) (τ : Ty), look (extO Γ (o :: os) (V :: Vs)) s = some τ → (∃ (j : Nat) (oj : Oper) (Vj : OTy), (o :: os)[j]? = some oj ∧ oj.dst = some s ∧ (V :: Vs)[j]? = some Vj ∧ Vj.τ = τ) ∨ ((∀ (j : Nat) (oj : Oper), (o :: os)[j]? = some oj → oj.dst ≠ some s) ∧ look Γ s = some τ) := by
    intro Γ d o V os Vs hd ih s τ hl
    have e : extO Γ (o :: os) (V :: Vs) = extO ((d, V.τ) :: Γ) os Vs := by simp [extO, hd]
    rw [e] at hl
    rcases ih s τ hl with ⟨j, oj, Vj, hoj, hds, hVj, hτ⟩ | ⟨hno, hlk⟩
    · exact .inl ⟨j + 1, oj, Vj, by simpa using hoj, hds, by simpa using hVj, hτ⟩
    · by_cases hds : d = s
      · subst hds
        rw [look_same] at hlk
        injection hlk with hlk
        exact .inl ⟨0, o, V, rfl, hd, rfl, hlk⟩
      · rw [look_ne _ _ hds] at hlk
        refine .inr ⟨fun j oj hoj => ?_, hlk⟩
        cases j with
        | zero =>
          simp only [List.getElem?_cons_zero, Option.some.injEq] at hoj
          subst hoj
          rw [hd]
          simpa using hds
        | succ j => exact hno j oj (by simpa using hoj)
  induction h with
  | nil => intro s τ hl; exact .inr ⟨fun j oj h => by simp at h, hl⟩
  | @cons m Γ Ω d o V os Vs hd hT hF t ih => exact key hd ih
  | @take m Γ Ω d s o U V os Vs hd hT hU hF t ih => exact key hd ih
end

/-- Listed, and not taken over. -/
def Live (T : List (Nat × Nat)) (listed : Array Bool) (s : Nat) : Prop := ∀ i, takes T i = some s → listed.getD i false = false
/-- Of the operations that are listed; F: the blocks that are each one's own. -/
structure TInvO (N n : Nat) (l : List Oper) (Vs : List OTy) (T : List (Nat × Nat)) (a0 : Act) (w0 : World) (listed : Array Bool) (a : Act) (w : World) : Prop where
  below : Below w0.heap.size w0 w
  defers : a.defers = []
  size : a.tmps.size = N
  out : ∀ s, (∀ (j : Nat) (oj : Oper), j < n → listed.getD j false = true → l[j]? = some oj → oj.dst ≠ some s) → a.tmps[s]? = a0.tmps[s]?
  own : ∃ F : Nat → List Nat, (∀ (j : Nat) (oj : Oper) (d : Nat) (V : OTy), j < n → listed.getD j false = true → l[j]? = some oj → oj.dst = some d → Vs[j]? = some V → Live T listed d → ∃ v, a.tmps[d]? = some v ∧ V.q w v (F j) ∧ ∀ b ∈ F j, w0.heap.size ≤ b) ∧
    ∀ (j k : Nat) (oj ok : Oper) (dj dk : Nat), j < n → k < n → j ≠ k → listed.getD j false = true → listed.getD k false = true → l[j]? = some oj → l[k]? = some ok → oj.dst = some dj → ok.dst = some dk → Live T listed dj → Live T listed dk → ∀ b ∈ F j, b ∉ F k

section
variable {P : Program} {w0 : World} {Γ : Ctx} {N n : Nat} {l : List Oper} {Vs : List OTy} {T : List (Nat × Nat)} {a0 : Act} {ops : Array Oper}
theorem TInvO.start (hF : Fr N Γ a0 w0) {w : World} (hb : Below w0.heap.size w0 w) (m : Nat) : TInvO N n l Vs T a0 w0 (Array.replicate m false) a0 w :=
  ⟨hb, hF.defers, hF.size, fun _ _ => rfl, fun _ => [], fun j _ _ _ _ h => (by rw [getD_replicate_false] at h; cases h), fun j _ _ _ _ _ _ _ _ h => (by rw [getD_replicate_false] at h; cases h)⟩
theorem TInvO.step (hB : regB ops N n = true) (hTB : takeB N ops n T = true) (hl : ∀ i, i < n → l[i]? = ops[i]?) (hL : LineO P ops w0 T 0 Γ [] l Vs) (hF : Fr N Γ a0 w0) {listed : Array Bool} {a : Act} {w : World} (hI : TInvO N n l Vs T a0 w0 listed a w)
    (hsz : listed.size = ops.size) (hcl : ∀ (j : Nat) (oj : Oper), ops[j]? = some oj → listed.getD j false = true → ∀ e ∈ oj.after, Region.binds .any e = true → listed.getD e.on false = true)
    {i : Nat} {o : Oper} (hi : i < n) (ho : ops[i]? = some o) (hun : listed.getD i false = false) (hdep : ∀ e ∈ o.after, Region.binds .any e = true → listed.getD e.on false = true) (K : Act → World → Prop) (Q : Exit → Act → World → Prop)
    (hK : ∀ a' w', TInvO N n l Vs T a0 w0 (listed.setIfInBounds i true) a' w' → K a' w') :
    if Region.wanted o (yielded ops a.tmps) then o.wp P a w K Q else K (a.put o.dst undef) w := by
  have hli : l[i]? = some o := (hl i hi).trans ho
  obtain ⟨V, Γi, hV, hFa, hlk⟩ := hL.at_ i o hli
  rw [Nat.zero_add] at hFa
  obtain ⟨o', d, ho', hd, hdN, _, hoth⟩ := regB_at hB hi
  obtain rfl : o = o' := Option.some.inj (ho.symm.trans ho')
  obtain ⟨F, hown, hdis⟩ := hI.own
  have wf : ∀ {p q : Nat} {op : Oper}, ops[p]? = some op → Region.waitsFor .any ops p q = true → ∃ e ∈ op.after, Region.binds .any e = true ∧ e.on = q := fun {p q op} hp hw => by
    obtain ⟨oj, hoj, e, he, hb, hon⟩ := Region.waitsFor_spec hw
    obtain rfl : op = oj := Option.some.inj (hp.symm.trans hoj)
    exact ⟨e, he, hb, hon⟩
  -- what is looked at by o alone is live
  have alive : ∀ s, s ∈ o.looksAt ops → Live T listed s := fun s hs i' hi' => by
    obtain ⟨h1, _, h3⟩ := takeB_at hTB (takes_mem hi')
    have := h3 i o hi ho hs
    subst this
    exact hun
  -- the writer of a slot that o looks at is listed
  have writer : ∀ (s j : Nat) (oj : Oper), s ∈ o.looksAt ops → j < i → l[j]? = some oj → oj.dst = some s → listed.getD j false = true := fun s j oj hs hj hoj hds => by
    have hjn : j < n := by omega
    have hoj' : ops[j]? = some oj := (hl j hjn).symm.trans hoj
    obtain ⟨oj2, dj, hoj2, hdj, _, _, hothj⟩ := regB_at hB hjn
    obtain rfl : oj = oj2 := Option.some.inj (hoj'.symm.trans hoj2)
    obtain rfl : dj = s := Option.some.inj (hdj.symm.trans hds)
    have h1 := ((hothj i o hi ho (by omega)).2 hs).1 hj
    obtain ⟨e, he, hb, hon⟩ := wf ho h1
    have h2 := hdep e he hb
    rwa [hon] at h2
  have hsees : Sees ops Γi o a w := by
    intro s τ hs hls
    rcases hlk s τ hls with ⟨j, oj, Vj, hj, hoj, hds, hVj, rfl⟩ | ⟨hno, hl0⟩
    · have hjn : j < n := by omega
      obtain ⟨v, hv1, hv2, _⟩ := hown j oj s Vj hjn (writer s j oj hs hj hoj hds) hoj hds hVj (alive s hs)
      exact ⟨v, hv1, Vj.tyq hv2⟩
    · obtain ⟨v, hv1, hv2⟩ := hF.val s τ hl0
      refine ⟨v, ?_, τ.below hv2 hI.below⟩
      rw [hI.out s (fun k ok hk hlk' hok hdk => ?_)]
      · exact hv1
      · have hok' : ops[k]? = some ok := (hl k hk).symm.trans hok
        have hki : k ≠ i := fun h => by subst h; rw [hun] at hlk'; cases hlk'
        by_cases hlt : k < i
        · exact hno k ok hlt hok hdk
        · obtain ⟨ok2, dk, hok2, hdk2, _, _, hothk⟩ := regB_at hB hk
          obtain rfl : ok = ok2 := Option.some.inj (hok'.symm.trans hok2)
          obtain rfl : dk = s := Option.some.inj (hdk2.symm.trans hdk)
          have h1 := ((hothk i o hi ho (Ne.symm hki)).2 hs).2 (by omega)
          obtain ⟨e, he, hb, hon⟩ := wf hok' h1
          have h2 := hcl k ok hok' hlk' e he hb
          rw [hon, hun] at h2
          cases h2
  have hilt : i < listed.size := by rw [hsz]; exact (Array.getElem?_eq_some_iff.1 ho).1
  have hdne : ∀ (j : Nat) (oj : Oper) (dj : Nat), j < n → j ≠ i → l[j]? = some oj → oj.dst = some dj → d ≠ dj := fun j oj dj hj hne hoj hdj h => by
    subst h
    exact (hoth j oj hj ((hl j hj).symm.trans hoj) hne).1 hdj
  -- the step, for whatever blocks S0 were taken over
  have fin : ∀ (S0 : List Nat) (v : Value) (w' : World) (S : List Nat), V.q w' v S → (∀ b ∈ S, b ∈ S0 ∨ w.heap.size ≤ b) → Keeps S0 w w' → (∀ b ∈ S0, w0.heap.size ≤ b) →
      (∀ (j : Nat) (oj : Oper) (dj : Nat), j < n → j ≠ i → listed.getD j false = true → l[j]? = some oj → oj.dst = some dj → Live T (listed.setIfInBounds i true) dj → ∀ b ∈ F j, b ∉ S0) → K (a.put o.dst v) w' := fun S0 v w' S hv hS hk hS0 hj0 => by
    refine hK _ _ ?_
    rw [hd]
    have hbel : Below w0.heap.size w0 w' := ((Keeps.of_below (S := []) hI.below).trans' hk fun x hx => .inr (hS0 x hx)).below
    have back : ∀ s, Live T (listed.setIfInBounds i true) s → Live T listed s := fun s h i' hi' => by
      have := h i' hi'
      by_cases hii : i = i'
      · subst hii; exact hun
      · rwa [getD_set_ne false hii] at this
    have was : ∀ j, i ≠ j → (listed.setIfInBounds i true).getD j false = true → listed.getD j false = true := fun j hij h => by rwa [getD_set_ne false hij] at h
    refine ⟨hbel, hI.defers, by simp only [Act.put]; simpa using hI.size, fun s hs => ?_, fun j => if j = i then S else F j, fun j oj dj Vj hj hlj hoj hdj hVj hlive => ?_, fun j k oj ok dj dk hj hk' hne hlj hlk2 hoj hok hdj hdk hv1 hv2 => ?_⟩
    · have hds : d ≠ s := fun h => hs i o hi (by simp [Array.getD, hilt]) hli (by rw [hd, h])
      simp only [Act.put]
      rw [Array.getElem?_setIfInBounds_ne hds]
      refine hI.out s (fun j oj hj hlj hoj => ?_)
      refine hs j oj hj ?_ hoj
      by_cases hij : i = j
      · subst hij; rw [hun] at hlj; cases hlj
      · rw [getD_set_ne false hij]; exact hlj
    · by_cases hij : i = j
      · subst hij
        obtain rfl : o = oj := Option.some.inj (hli.symm.trans hoj)
        obtain rfl : d = dj := Option.some.inj (hd.symm.trans hdj)
        obtain rfl : V = Vj := Option.some.inj (hV.symm.trans hVj)
        dsimp only
        rw [if_pos rfl]
        refine ⟨v, ?_, hv, fun b hb => ?_⟩
        · simp only [Act.put]
          rw [Array.getElem?_setIfInBounds_self, if_pos (by rw [hI.size]; exact hdN)]
        · rcases hS b hb with h | h
          · exact hS0 b h
          · exact Nat.le_trans hI.below.size h
      · dsimp only
        rw [if_neg (Ne.symm hij)]
        have hlj' := was j hij hlj
        obtain ⟨u, h1, h2, h3⟩ := hown j oj dj Vj hj hlj' hoj hdj hVj (back dj hlive)
        refine ⟨u, ?_, Vj.st h2 hk (hj0 j oj dj hj (Ne.symm hij) hlj' hoj hdj hlive), h3⟩
        simp only [Act.put]
        rw [Array.getElem?_setIfInBounds_ne (hdne j oj dj hj (Ne.symm hij) hoj hdj)]
        exact h1
    · have ltF : ∀ (j : Nat) (oj : Oper) (dj : Nat), j < n → i ≠ j → (listed.setIfInBounds i true).getD j false = true → l[j]? = some oj → oj.dst = some dj → Live T (listed.setIfInBounds i true) dj → ∀ b ∈ F j, b < w.heap.size := fun j oj dj hj hij hlj hoj hdj hv => by
        obtain ⟨Vj, _, hVj, _⟩ := hL.at_ j oj hoj
        obtain ⟨u, _, h2, _⟩ := hown j oj dj Vj hj (was j hij hlj) hoj hdj hVj (back dj hv)
        exact Vj.lt h2
      by_cases hij : i = j
      · subst hij
        dsimp only
        rw [if_pos rfl, if_neg (Ne.symm hne)]
        intro b hb hbk
        rcases hS b hb with h | h
        · exact hj0 k ok dk hk' (Ne.symm hne) (was k hne hlk2) hok hdk hv2 b hbk h
        · have := ltF k ok dk hk' hne hlk2 hok hdk hv2 b hbk
          omega
      · dsimp only
        rw [if_neg (Ne.symm hij)]
        by_cases hik : i = k
        · subst hik
          rw [if_pos rfl]
          intro b hb hbk
          rcases hS b hbk with h | h
          · exact hj0 j oj dj hj (Ne.symm hij) (was j hij hlj) hoj hdj hv1 b hb h
          · have := ltF j oj dj hj hij hlj hoj hdj hv1 b hb
            omega
        · rw [if_neg (Ne.symm hik)]
          exact hdis j k oj ok dj dk hj hk' hne (was j hij hlj) (was k hik hlk2) hoj hok hdj hdk (back dj hv1) (back dk hv2)
  rcases hFa with ⟨hT, hFa⟩ | ⟨s, U, hT, hFa, hU⟩
  · refine hFa.at_work hI.below hsees K Q (fun v w' S hv hS hb => fin [] v w' S hv (fun b hb' => .inr (hS b hb')) (Keeps.of_below hb) (by simp) (fun _ _ _ _ _ _ _ _ _ _ _ => by simp))
  · rcases hU with ⟨j, oj, hj, hoj, hds, hUj⟩ | hU
    · have hjn : j < n := by omega
      have hsl := (takeB_at hTB (takes_mem hT)).2.1 o ho
      have hlj := writer s j oj hsl hj hoj hds
      obtain ⟨v, hv1, hv2, hv3⟩ := hown j oj s U hjn hlj hoj hds hUj (alive s hsl)
      refine hFa.at_work hI.below hsees ⟨v, hv1, hv2⟩ K Q (fun u w' S hu hS hk => fin (F j) u w' S hu hS hk hv3 (fun k ok dk hk' hne hlk2 hok hdk hlive b hb hbj => ?_))
      by_cases hkj : k = j
      · subst hkj
        obtain rfl : oj = ok := Option.some.inj (hoj.symm.trans hok)
        obtain rfl : s = dk := Option.some.inj (hds.symm.trans hdk)
        have := hlive i hT
        simp [Array.getD, hilt] at this
      · refine hdis k j ok oj dk s hk' hjn hkj hlk2 hlj hok hoj hdk hds (fun i' hi' => ?_) (alive s hsl) b hb hbj
        have := hlive i' hi'
        by_cases hii : i = i'
        · subst hii; exact hun
        · rwa [getD_set_ne false hii] at this
    · cases hU
/-- What is each slot's own, at the end. -/
def OwnsAll (l : List Oper) (Vs : List OTy) (T : List (Nat × Nat)) (w0 : World) (a : Act) (w : World) : Prop := ∃ F : Nat → List Nat, (∀ (j : Nat) (oj : Oper) (d : Nat) (V : OTy), l[j]? = some oj → oj.dst = some d → Vs[j]? = some V → (∀ i, (i, d) ∉ T) → ∃ v, a.tmps[d]? = some v ∧ V.q w v (F j) ∧ ∀ b ∈ F j, w0.heap.size ≤ b) ∧
    ∀ (j k : Nat) (oj ok : Oper) (dj dk : Nat), j ≠ k → l[j]? = some oj → l[k]? = some ok → oj.dst = some dj → ok.dst = some dk → (∀ i, (i, dj) ∉ T) → (∀ i, (i, dk) ∉ T) → ∀ b ∈ F j, b ∉ F k
theorem TInvO.all (hTB : takeB N ops n T = true) (hL : LineO P ops w0 T 0 Γ [] l Vs) (hn : n = l.length) (hF : Fr N Γ a0 w0) {listed : Array Bool} {a : Act} {w : World} (hI : TInvO N n l Vs T a0 w0 listed a w) (hall : ∀ i, i < n → listed.getD i false = true) :
    Fr N (hideT T (extO Γ l Vs)) a w ∧ OwnsAll l Vs T w0 a w := by
  have lt : ∀ (j : Nat) (oj : Oper), l[j]? = some oj → j < n := fun j oj h => by rw [hn]; exact (List.getElem?_eq_some_iff.1 h).1
  obtain ⟨F, hown, hdis⟩ := hI.own
  have lv : ∀ s, (∀ i, (i, s) ∉ T) → Live T listed s := fun s hs i hi => absurd (takes_mem hi) (hs i)
  refine ⟨⟨hI.size, hI.defers, fun s τ hs => ?_⟩, F, fun j oj d V hoj hdj hVj hno => hown j oj d V (lt j oj hoj) (hall j (lt j oj hoj)) hoj hdj hVj (lv d hno), fun j k oj ok dj dk hne hoj hok hdj hdk h1 h2 => hdis j k oj ok dj dk (lt j oj hoj) (lt k ok hok) hne (hall j (lt j oj hoj)) (hall k (lt k ok hok)) hoj hok hdj hdk (lv dj h1) (lv dk h2)⟩
  rcases hideT_look hs with ⟨rfl, i, hi⟩ | ⟨hs, hno⟩
  · have hlt : s < a.tmps.size := by
      rw [hI.size]
      exact (takeB_at hTB hi).1.2
    exact ⟨_, Array.getElem?_eq_getElem hlt, trivial⟩
  · rcases hL.ext_look s τ hs with ⟨j, oj, Vj, hoj, hds, hVj, rfl⟩ | ⟨hno', hl0⟩
    · obtain ⟨v, h1, h2, _⟩ := hown j oj s Vj (lt j oj hoj) (hall j (lt j oj hoj)) hoj hds hVj (lv s hno)
      exact ⟨v, h1, Vj.tyq h2⟩
    · obtain ⟨v, hv1, hv2⟩ := hF.val s τ hl0
      exact ⟨v, by rw [hI.out s (fun j oj _ _ hoj => hno' j oj hoj)]; exact hv1, τ.below hv2 hI.below⟩
end

section
variable {P : Program} {w0 : World} {Γ : Ctx} {N : Nat} {Vs : List OTy} {a0 : Act}
theorem region_own {id : Nat} {Q : Exit → Act → World → Prop} {l : List Oper} {draw : Bool} (n : Nat) (T : List (Nat × Nat)) (hm : P.follows .mixedOrders = true) (hB : (regB l.toArray N n && tailB l.toArray n && takeB N l.toArray n T) = true) (hF : Fr N Γ a0 w0)
    (hL : LineO P l.toArray w0 T 0 Γ [] (l.take n) Vs)
    (hQ : ∀ a w, Fr N (hideT T (extO Γ (l.take n) Vs)) a w → Below w0.heap.size w0 w → OwnsAll (l.take n) Vs T w0 a w → wpList P l.toArray Q (l.drop n) a w) : (Code.region id l.toArray draw).wp P Q a0 w0 := by
  rw [Bool.and_eq_true, Bool.and_eq_true] at hB
  obtain ⟨⟨hB, hT⟩, hTB⟩ := hB
  have hsize : l.toArray.size = l.length := by simp
  have hnl : n ≤ l.toArray.size := by
    unfold tailB at hT
    split at hT
    · rename_i h; simp at h; simp [h]
    · simp only [Bool.and_eq_true, decide_eq_true_eq] at hT; omega
  have hlen : n = (l.take n).length := by simp at hnl ⊢; omega
  have hli : ∀ i, i < n → (l.take n)[i]? = l.toArray[i]? := fun i hi => by simp [hi]
  have hback : ∀ i o, i < n → l.toArray[i]? = some o → ∀ e ∈ o.after, Region.binds .any e = true → e.on < i := fun i o hi ho e he hb => by
    obtain ⟨o', d, ho', _, _, h, _⟩ := regB_at hB hi
    obtain rfl : o = o' := Option.some.inj (ho.symm.trans ho')
    exact h e he hb
  have fin : ∀ (listed : Array Bool) a w, TInvO N n (l.take n) Vs T a0 w0 listed a w → (∀ i, i < n → listed.getD i false = true) → wpList P l.toArray Q (l.drop n) a w := fun listed a w hI hall => by
    obtain ⟨h1, h2⟩ := hI.all hTB hL hlen hF hall
    exact hQ a w h1 hI.below h2
  cases draw with
  | true =>
    have key : ∀ (f : Nat) (listed : Array Bool) (a : Act) (w : World), HeadInv .any l.toArray n listed → wanting n listed = f → TInvO N n (l.take n) Vs T a0 w0 listed a w → wpAny P .any l.toArray Q (f + (l.toArray.size - n)) listed a w := by
      intro f
      induction f with
      | zero =>
        intro listed a w hH h0 hI
        have hall := wanting_zero h0
        have hdl : (l.drop n).length = l.toArray.size - n := by simp
        have e := all_listed hH hall hnl
        have hseq : Region.seqB .any l.toArray (l.toArray.size - n) n listed = true := by
          unfold tailB at hT
          split at hT
          · rename_i h
            have hz : n = l.toArray.size := by simpa using h
            have h2 : l.toArray.size - n = 0 := by omega
            rw [h2]
            simp only [Region.seqB, List.isEmpty_iff]
            unfold Region.ready
            rw [List.filter_eq_nil_iff]
            intro i hi
            have hi' := List.mem_range.1 hi
            have h3 := hall i (by omega)
            have hil : i < listed.size := by rw [hH.size]; exact hi'
            simp [Array.getD, hil] at h3 ⊢
            simp [h3]
          · simp only [Bool.and_eq_true] at hT
            rw [e]; exact hT.2
        have := wpAny_of_seq (md := .any) (Q' := Q) (l.drop n) n listed a w (fun j => by simp [List.getElem?_drop]) (by rw [hdl]; exact hseq) (fin listed a w hI hall)
        rw [Nat.zero_add]
        rwa [hdl] at this
      | succ f ih =>
        intro listed a w hH h0 hI
        rw [show f + 1 + (l.toArray.size - n) = (f + (l.toArray.size - n)) + 1 by omega]
        have hex : ∃ i, i < n ∧ listed.getD i true = false := by
          refine Classical.byContradiction fun hno => ?_
          have hz : wanting n listed = 0 := by
            unfold wanting
            rw [List.length_eq_zero_iff, List.filter_eq_nil_iff]
            intro i hi
            have hi' := List.mem_range.1 hi
            have hl : i < listed.size := by rw [hH.size]; omega
            have h1 : ¬ listed.getD i true = false := fun h => hno ⟨i, hi', h⟩
            simp [Array.getD, hl] at h1 ⊢
            exact h1
          omega
        obtain ⟨i0, hi0, hun0⟩ := hex
        refine ⟨fun hr => ?_, fun i hi => ?_⟩
        · exfalso
          have := ready_head hback hnl hH.size hr i0 hi0
          rw [getD_both hun0] at this
          cases this
        · obtain ⟨h1, o, ho, h2⟩ := mem_ready.1 hi
          have hin : i < n := Nat.lt_of_not_le fun h => by
            have hio := (Array.getElem?_eq_some_iff.1 ho).1
            unfold tailB at hT
            split at hT
            · rename_i h'; simp at h'; omega
            · simp only [Bool.and_eq_true, decide_eq_true_eq] at hT
              exact tail_waits hT.1.1.2 hT.1.2 hT.1.1.1 hH _ i0 rfl hi0 hun0 i h hi
          have hil : i < listed.size := by rw [hH.size]; omega
          have h3 := TInvO.step hB hTB hli hL hF hI hH.size hH.closed hin ho (getD_both h1) h2 (wpAny P .any l.toArray Q (f + (l.toArray.size - n)) (listed.setIfInBounds i true)) Q (fun a' w' hI' => by
            refine ih _ a' w' (hH.set hi hin) ?_ hI'
            have := wanting_set hin hil (getD_both h1)
            omega)
          unfold wpOp
          simp only [ho]
          split
          · rename_i hw
            rw [if_pos hw] at h3
            exact .inl h3
          · rename_i hw
            rw [if_neg hw] at h3
            exact h3
    have inv0 : HeadInv .any l.toArray n (Array.replicate l.toArray.size false) :=
      ⟨by simp, fun j oj _ hl => (by rw [getD_replicate_false] at hl; cases hl), fun t _ ht => getD_in (by simpa using ht) (getD_replicate_false _ _)⟩
    have h0 : wanting n (Array.replicate l.toArray.size false) = n := by
      unfold wanting
      rw [List.filter_eq_self.2 (fun i _ => by rw [getD_replicate_false]; rfl), List.length_range]
    refine wp_region_any hm ?_
    have := key n _ a0 w0.drew inv0 h0 (TInvO.start hF (Below.refl _ _).drew _)
    rw [show n + (l.toArray.size - n) = l.toArray.size by omega] at this
    exact this
  | false =>
    have key : ∀ (f k : Nat) (a : Act) (w : World), k + f = n → TInvO N n (l.take n) Vs T a0 w0 ((List.replicate k true ++ List.replicate (l.toArray.size - k) false).toArray) a w → wpList P l.toArray Q (l.drop k) a w := by
      intro f
      induction f with
      | zero =>
        intro k a w hk hI
        obtain rfl : k = n := by omega
        refine fin _ a w hI (fun i hi => ?_)
        simp [Array.getD, hi]
        omega
      | succ f ih =>
        intro k a w hk hI
        have hkn : k < n := by omega
        have hkl : k < l.length := by omega
        have hdrop : l.drop k = l[k] :: l.drop (k + 1) := by rw [List.drop_eq_getElem_cons hkl]
        have getD_k : ∀ m j, m ≤ l.toArray.size → (List.replicate m true ++ List.replicate (l.toArray.size - m) false).toArray.getD j false = decide (j < m) := fun m j hm => by
          by_cases hj : j < m
          · simp [Array.getD, hj]; omega
          · simp [Array.getD, List.getElem_append, hj]
        have ho : l.toArray[k]? = some l[k] := by simp [hkl]
        have hset : (List.replicate k true ++ List.replicate (l.toArray.size - k) false).toArray.setIfInBounds k true = (List.replicate (k + 1) true ++ List.replicate (l.toArray.size - (k + 1)) false).toArray := by
          apply Array.ext_getElem?
          intro j
          rw [show l.toArray.size - k = (l.toArray.size - (k + 1)) + 1 by omega, List.replicate_succ, List.replicate_succ']
          simp only [List.setIfInBounds_toArray, List.getElem?_toArray, List.append_assoc, List.singleton_append]
          rw [List.set_append_right _ _ (by simp)]
          simp
        rw [hdrop]
        refine wpList_step fun K hK => ?_
        refine TInvO.step hB hTB hli hL hF hI (by simp; omega) (fun j oj hj hl e he hb => ?_) hkn ho (by rw [getD_k k k (by omega)]; simp) (fun e he hb => ?_) K Q (fun a' w' hI' => hK a' w' (ih (k + 1) a' w' (by omega) (by rw [← hset]; exact hI')))
        · rw [getD_k k _ (by omega)] at hl ⊢
          simp only [decide_eq_true_eq] at hl ⊢
          have := hback j oj (by omega) hj e he hb
          omega
        · rw [getD_k k _ (by omega)]
          simp only [decide_eq_true_eq]
          exact hback k _ hkn ho e he hb
    refine wp_region_lit ?_
    have := key n 0 a0 w0 (by omega) (by
      have e : (List.replicate 0 true ++ List.replicate (l.toArray.size - 0) false).toArray = Array.replicate l.toArray.size false := by simp
      rw [e]
      exact TInvO.start hF (Below.refl _ _) _)
    simpa using this
end
/-! ### Lines -/
section
variable {P : Program} {w0 : World} {Γ : Ctx} {o : Oper}
theorem OpO.ex {v : Value} (h : OpOk P w0 Γ o (Ty.ex v)) : OpO P w0 Γ o (OTy.ex v) := fun a w K Q hb hs hK => h a w K Q hb hs fun u w' h1 h2 => hK u w' [] ⟨h1, rfl⟩ (by simp) h2
/-- An operation that lays a row of its own. -/
theorem OpO.new {V : OTy} (h : ∀ (a : Act) (w : World), Below w0.heap.size w0 w → SeesO Γ o a w → ∃ v w' S, V.q w' v S ∧ (∀ b ∈ S, w.heap.size ≤ b) ∧ Below w.heap.size w w' ∧ (execOp a.eval o).run P w = .ok (.value v) w') : OpO P w0 Γ o V := by
  intro a w K Q hb hs hK
  obtain ⟨v, w', S, h1, h2, h3, h4⟩ := h a w hb (sees_of hs)
  unfold Oper.wp
  rw [h4]
  exact hK v w' S h1 h2 h3
theorem OpO.call {V : OTy} (h : ∀ (a : Act) (w : World), Below w0.heap.size w0 w → SeesO Γ o a w → ∃ f args, (execOp a.eval o).run P w = .ok (.enter f args) w ∧ Calls P f args w fun e w' => ∃ u S, e = .returned u ∧ V.q w' u S ∧ (∀ b ∈ S, w.heap.size ≤ b) ∧ Below w.heap.size w w') : OpO P w0 Γ o V := by
  intro a w K Q hb hs hK
  obtain ⟨f, args, h1, h2⟩ := h a w hb (sees_of hs)
  unfold Oper.wp
  rw [h1]
  refine Calls.mono h2 fun e w' ⟨u, S, h3, h4, h5, h6⟩ => ?_
  subst h3
  exact hK u w' S h4 h5 h6
theorem oCallS1 {f : FuncId} {ats : Array TypeId} {x : Operand} {τ : Ty} {e : TypeId} {sz n : Nat} {xs : List Value} (ho : o.op = .call { callee := .value (.func f), args := #[x], argTypes := ats }) (hx : Has w0 Γ x τ) (hc : FnSeg1 P f τ e sz n xs) : OpO P w0 Γ o (OTy.seg w0 e sz n xs) :=
  .call fun a w hb hs => by
    obtain ⟨v, h1, h2⟩ := hx.see hs (by simp [ho, Op.operands, Call.operands]) hb
    refine ⟨f, #[v], ?_, Calls.mono (hc.ret w v h2) fun e w' ⟨u, h3, ⟨S, h4, h5⟩, h6⟩ => ⟨u, S, h3, ⟨h4, fun y hy => Nat.le_trans hb.size (h5 y hy)⟩, h5, h6⟩⟩
    rw [exec_go a.eval ho rfl]
    simp only [List.map_toArray, List.map_cons, List.map_nil, h1]
    exact hc.en _ w
theorem oCallS2 {f : FuncId} {ats : Array TypeId} {x y : Operand} {τ σ : Ty} {e : TypeId} {sz n : Nat} {xs : List Value} (ho : o.op = .call { callee := .value (.func f), args := #[x, y], argTypes := ats }) (hx : Has w0 Γ x τ) (hy : Has w0 Γ y σ) (hc : FnSeg2 P f τ σ e sz n xs) : OpO P w0 Γ o (OTy.seg w0 e sz n xs) :=
  .call fun a w hb hs => by
    obtain ⟨v, h1, h2⟩ := hx.see hs (by simp [ho, Op.operands, Call.operands]) hb
    obtain ⟨u, h3, h4⟩ := hy.see hs (by simp [ho, Op.operands, Call.operands]) hb
    refine ⟨f, #[v, u], ?_, Calls.mono (hc.ret w v u h2 h4) fun e w' ⟨u, h3, ⟨S, h4, h5⟩, h6⟩ => ⟨u, S, h3, ⟨h4, fun y hy => Nat.le_trans hb.size (h5 y hy)⟩, h5, h6⟩⟩
    rw [exec_go a.eval ho rfl]
    simp only [List.map_toArray, List.map_cons, List.map_nil, h1, h3]
    exact hc.en _ w
theorem cells_len {sz : Nat} : ∀ (vs : List Value), (∀ v ∈ vs, v.cells.size = sz) → ((vs.map fun v => v.cells.toList).flatten).length = vs.length * sz
  | [], _ => by simp
  | v :: vs, hv => by
    have h1 := hv v (by simp)
    rw [List.map_cons, List.flatten_cons, List.length_append, cells_len vs (fun u hu => hv u (by simp [hu])), List.length_cons, Nat.add_mul]
    simp [h1]
    omega
/-- A slice written out, of the call's own. -/
theorem oBuild {t e : TypeId} {z : Value} {sz bytes : Nat} {n : Nat} {parts : Array (Nat × Operand)} {vs : List Value} (ho : o.op = .buildSlice t n parts) (hp : ∀ (a : Act) (w : World), SeesO Γ o a w → (parts.map fun (i, x) => (i, a.eval x)) = (vs.zipIdx.map fun p => (p.2, p.1)).toArray)
    (hu : P.underlying t = some (.slice e)) (hi : (P.info? e).map (fun i => (i.zero, i.size, i.bytes)) = some (some z, sz, bytes)) (hn : vs.length = n) (hv : ∀ v ∈ vs, v.cells.size = sz) (hbig : n * sz ≤ 16777216) (hm : n ≤ maxLen) :
    OpO P w0 Γ o (OTy.seg w0 e sz n (vs.map fun v => v.cells.toList).flatten) :=
  .new fun a w hb hs => by
    have hr := run_buildSlice (P := P) n vs hu hi hn hv hbig w
    have hl : ((vs.map fun v => v.cells.toList).flatten).length = n * sz := by
      rw [cells_len vs hv, hn]
    refine ⟨.slice (some ⟨w.heap.size, 0, none⟩) n n, w.alloc (.cells (vs.map fun v => v.cells.toList).flatten.toArray e), [w.heap.size], ⟨?_, fun y hy => ?_⟩, fun y hy => ?_, ((Keeps.refl [] w).alloc _).below, ?_⟩
    · have h := Seg.ofBlk (w := w.alloc (.cells (vs.map fun v => v.cells.toList).flatten.toArray e)) (sz := sz) (cap := n) (Blk.new w e (vs.map fun v => v.cells.toList).flatten.toArray) (by simpa using hl) hm
      simpa using h
    · simp only [List.mem_singleton] at hy
      subst hy
      exact hb.size
    · simp only [List.mem_singleton] at hy
      omega
    · unfold execOp
      simp only [ho]
      rw [hp a w hs, Sem.run_bind, hr]
      rfl
theorem oBuild0 {t e : TypeId} {z : Value} {sz bytes : Nat} (ho : o.op = .buildSlice t 0 #[]) (hu : P.underlying t = some (.slice e)) (hi : (P.info? e).map (fun i => (i.zero, i.size, i.bytes)) = some (some z, sz, bytes)) : OpO P w0 Γ o (OTy.seg w0 e sz 0 []) := by
  have h := oBuild (P := P) (w0 := w0) (Γ := Γ) (vs := []) ho parts0 hu hi rfl (by simp) (by omega) (by simp [maxLen])
  simpa using h
theorem oAlloc {t : TypeId} {z : Array Value} (ho : o.op = .alloc t) (hz : ∀ w : World, (Instr.alloc t true (.tuple #[])).run P w = .ok (.pointer (some ⟨w.heap.size, 0, none⟩)) (w.alloc (.cells z t))) : OpO P w0 Γ o (OTy.var w0 t z) :=
  .new fun a w hb _ => ⟨_, _, [w.heap.size], ⟨w.heap.size, rfl, rfl, hb.size, Blk.new w _ _⟩, fun b hb' => by simp only [List.mem_singleton] at hb'; omega, ((Keeps.refl [] w).alloc _).below, by unfold execOp; simp [ho, hz]⟩
theorem tkMove {s : Nat} {U : OTy} (ho : o.op = .move (.tmp s)) : OpTk P w0 Γ o U U s := fun a w S0 K Q hb hs ⟨v, hv1, hv2⟩ hK => by
  have h : (execOp a.eval o).run P w = .ok (.value v) w := by unfold execOp; simp [ho, Act.eval, Array.getD_eq_getD_getElem?, hv1]
  unfold Oper.wp
  rw [h]
  exact hK v w S0 hv2 (fun b hb => .inl hb) (Keeps.refl _ _)
theorem tkAssign {s : Nat} {U : OTy} (ho : o.op = .assign (.tmp s)) : OpTk P w0 Γ o U U s := fun a w S0 K Q hb hs ⟨v, hv1, hv2⟩ hK => by
  have h : (execOp a.eval o).run P w = .ok (.value v) w := by unfold execOp; simp [ho, Act.eval, Array.getD_eq_getD_getElem?, hv1]
  unfold Oper.wp
  rw [h]
  exact hK v w S0 hv2 (fun b hb => .inl hb) (Keeps.refl _ _)
/-- append to a row of the call's own, which is taken over. -/
theorem tkAppend {s : Nat} {x : Operand} {t e : TypeId} {z : Value} {sz bytes n m : Nat} {xs news : List Value} {τ : Ty} (ho : o.op = .call { callee := .builtin .append, args := #[.tmp s, x], argTypes := #[t, t] }) (ht : P.underlying t = some (.slice e)) (hi : (P.info? e).map (fun i => (i.zero, i.size, i.bytes)) = some (some z, sz, bytes)) (hzs : z.cells.size = sz)
    (hx : Has w0 Γ x τ) (hτ : ∀ {w : World} u, τ.p w u → ∃ A c, u = .slice A m c ∧ (A = none → m = 0) ∧ Rd w A news) (hl : news.length = m * sz) (h1 : ∀ u ∈ news, u.oneCell' = true) (h63 : n + m ≤ maxLen) (hbytes : (n + m) * bytes ≤ 140737488355328) :
    OpTk P w0 Γ o (OTy.seg w0 e sz n xs) (OTy.seg w0 e sz (n + m) (xs ++ news)) s := fun a w S0 K Q hb hs ⟨v, hv1, hv2, hv3⟩ hK => by
  obtain ⟨u, hu1, hu2⟩ := hx.see (sees_of hs) (by simp [ho, Op.operands, Call.operands]) hb
  obtain ⟨A, c, rfl, hA, hr⟩ := hτ u hu2
  refine wp_append_seg w (.tmp s) x t ho e z sz bytes ht hi hzs v n xs S0 (by simp [Act.eval, Array.getD_eq_getD_getElem?, hv1]) hv2 A m c news hu1 hl hr hA h1 h63 hbytes fun v' w' S' h2 h3 h4 => ?_
  refine hK v' w' S' ⟨h2, fun y hy => ?_⟩ (fun y hy => ?_) h3
  · rcases h4 with rfl | rfl
    · exact hv3 y hy
    · simp only [List.mem_singleton] at hy
      subst hy
      exact hb.size
  · rcases h4 with rfl | rfl
    · exact .inl hy
    · simp only [List.mem_singleton] at hy
      subst hy
      exact .inr (Nat.le_refl _)
/-- s[:k], s[k:] of a slice that is a letter. -/
theorem cSliceHiA {t e : TypeId} {x hi : Operand} {A : Option Addr} {n c k sz : Nat} {kd : IntKind} (ho : o.op = .slice t x none (some hi) none) (hx : OpT Γ x (Ty.ex (.slice A n c))) (hl : OpT Γ hi (Ty.ex (.int kd (k : Int)))) (hu : P.underlying t = some (.slice e)) (hz : (P.info? e).map (·.size) = some sz) (hk : k ≤ n) (hn : n ≤ c) (hA : A = none → c = 0) : OpOk P w0 Γ o (Ty.ex (.slice A k c)) :=
  .val fun a w _ hs => by
    obtain ⟨v, h1, h2⟩ := hs x _ (by simp [ho, Op.operands]) hx
    obtain ⟨i, h6, h7⟩ := hs hi _ (by simp [ho, Op.operands]) hl
    have h2 : v = .slice A n c := h2
    have h7 : i = .int kd (k : Int) := h7
    obtain ⟨inf, hinf, hsz⟩ := Option.map_eq_some_iff.1 hz
    refine ⟨_, rfl, ?_⟩
    unfold execOp
    have hkc : k ≤ c := by omega
    by_cases hc0 : c = 0
    · subst hc0
      obtain rfl : k = 0 := by omega
      simp [ho, h1, h2, h6, h7, Instr.sliceAt, Instr.slice, Instr.sliceBounds, Instr.sliceBound, asIntOf, run_underlying hu, sizeOf, typeInfo, hinf]
    · cases A with
      | none => exact absurd (hA rfl) hc0
      | some ad => simp [ho, h1, h2, h6, h7, Instr.sliceAt, Instr.slice, Instr.sliceBounds, Instr.sliceBound, asIntOf, run_underlying hu, sizeOf, typeInfo, hinf, hkc, Addr.add]
theorem cSliceLoA {t e : TypeId} {x lo : Operand} {A : Option Addr} {n c k sz : Nat} {kd : IntKind} (ho : o.op = .slice t x (some lo) none none) (hx : OpT Γ x (Ty.ex (.slice A n c))) (hl : OpT Γ lo (Ty.ex (.int kd (k : Int)))) (hu : P.underlying t = some (.slice e)) (hz : (P.info? e).map (·.size) = some sz) (hk : k ≤ n) : OpOk P w0 Γ o (Ty.ex (.slice (if c = k then A else A.map (·.add (k * sz))) (n - k) (c - k))) :=
  .val fun a w _ hs => by
    obtain ⟨v, h1, h2⟩ := hs x _ (by simp [ho, Op.operands]) hx
    obtain ⟨i, h6, h7⟩ := hs lo _ (by simp [ho, Op.operands]) hl
    have h2 : v = .slice A n c := h2
    have h7 : i = .int kd (k : Int) := h7
    obtain ⟨inf, hinf, hsz⟩ := Option.map_eq_some_iff.1 hz
    refine ⟨_, rfl, ?_⟩
    unfold execOp
    simp [ho, h1, h2, h6, h7, Instr.sliceAt, Instr.slice, Instr.sliceBounds, Instr.sliceBound, asIntOf, run_underlying hu, sizeOf, typeInfo, hinf, hsz, hk]
end
/-- What hangs on blocks of another type. -/
theorem Ty.far (τ : Ty) {w w' : World} {v : Value} {g : Nat} {t : TypeId} {cs : Array Value} (h : τ.p w v) (k : Keeps [g] w w') (hb : Blk w g t cs) (he : τ.el t = false) : τ.p w' v := τ.st h k fun b hb' _ => by
  simp only [List.mem_singleton] at hb'
  subst hb'
  exact ⟨cs, t, (0, 0), hb, he⟩
/-- A slot's value under the letter that it is known by. -/
theorem Fr.letter {N : Nat} {Γ : Ctx} {a : Act} {w : World} (h : Fr N Γ a w) {s : Nat} {v : Value} (hs : a.tmps[s]? = some v) : Fr N ((s, Ty.ex v) :: Γ) a w := by
  refine ⟨h.size, h.defers, fun s' τ' hs' => ?_⟩
  by_cases hss : s = s'
  · subst hss
    rw [look_same] at hs'
    injection hs' with hs'
    subst hs'
    exact ⟨v, hs, rfl⟩
  · rw [look_ne _ _ hss] at hs'
    exact h.val s' τ' hs'
theorem SlP.form {w : World} {e : TypeId} {v : Value} {n : Nat} {xs : List Value} (h : SlP w e v n xs) : ∃ A c, v = .slice A n c ∧ n ≤ c ∧ c ≤ maxLen ∧ (A = none → c = 0) := by
  obtain ⟨A, c, h1, h2, h3, h4, _⟩ := h
  exact ⟨A, c, h1, h2, h3, fun e => (h4 e).2⟩
theorem SlP.takeA {w : World} {e : TypeId} {A : Option Addr} {n c : Nat} {xs : List Value} (h : SlP w e (.slice A n c) n xs) {k : Nat} (hk : k ≤ n) (m : Nat) : SlP w e (.slice A k c) k (xs.take m) := by
  obtain ⟨A', c', h1, h2, h3, h4, h5⟩ := h
  injection h1 with h1 _ h6
  subst h1 h6
  refine ⟨A, c, rfl, by omega, h3, fun h => ⟨by have := (h4 h).2; omega, (h4 h).2⟩, fun j u hu => ?_⟩
  rw [List.getElem?_take] at hu
  split at hu
  · exact h5 j u hu
  · cases hu
theorem SlP.dropA {w : World} {e : TypeId} {A : Option Addr} {n c sz : Nat} {xs : List Value} (h : SlP w e (.slice A n c) n xs) {k : Nat} (hk : k ≤ n) (hxl : xs.length = n * sz) : SlP w e (.slice (if c = k then A else A.map (·.add (k * sz))) (n - k) (c - k)) (n - k) (xs.drop (k * sz)) := by
  obtain ⟨A', c', h1, h2, h3, h4, h5⟩ := h
  injection h1 with h1 _ h6
  subst h1 h6
  refine ⟨_, c - k, rfl, by omega, by omega, fun h => ?_, fun j u hu => ?_⟩
  · split at h
    · have := h4 h; omega
    · have := h4 (by simpa using h); omega
  · rw [List.getElem?_drop] at hu
    obtain ⟨g, off, cs, fr, rfl, h8, h9⟩ := h5 _ u hu
    have hj : k * sz + j < n * sz := by rw [← hxl]; exact (List.getElem?_eq_some_iff.1 hu).1
    have hne : c ≠ k := fun h => by
      subst h
      have : n = c := by omega
      subst this
      omega
    rw [if_neg hne]
    exact ⟨g, off + k * sz, cs, fr, by simp [Addr.add_lit], h8, by rw [Nat.add_assoc]; exact h9⟩
/-- The address of an element of a slice that is a letter. -/
theorem SlP.elem {w : World} {e : TypeId} {A : Option Addr} {n c : Nat} {xs : List Value} (h : SlP w e (.slice A n c) n xs) {k : Nat} (hk : k < xs.length) : ∃ g off, A = some ⟨g, off, none⟩ ∧ ∀ m, (Ty.at_ e (xs.drop m)).p w (.pointer (some ⟨g, off + m, none⟩)) := by
  obtain ⟨A', c', h1, h2, h3, h4, h5⟩ := h
  injection h1 with h1 _ h6
  subst h1 h6
  obtain ⟨g, off, cs, fr, rfl, h7, h8⟩ := h5 k _ (List.getElem?_eq_getElem hk)
  refine ⟨g, off, rfl, fun m => ⟨g, off + m, cs, fr, rfl, h7, fun j u hu => ?_⟩⟩
  rw [List.getElem?_drop] at hu
  obtain ⟨g', off', cs', fr', e1, h9, h10⟩ := h5 _ u hu
  injection e1 with e1
  injection e1 with e1 e2
  subst e1 e2
  rw [h7] at h9
  injection h9 with h9
  injection h9 with h9
  subst h9
  rw [Nat.add_assoc]
  exact h10
end Go.Proofs.Ytkdkmnemmenikaa
