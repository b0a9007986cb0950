/- Joined: TyO, TyFz, Str, ChunkD, CutE, CutF, CutG, CutH, CutI, CutJ, CutK, ChunkP, ChunkE, ChunkH, SetR, SetL, SetM, SetS, ChunkI, ChunkG, ChunkJ, Row, Row2, RowS, RowB, ChunkF, TyW, TabB, TabC, TabD, TabE, TabF, PlaceH, TabG, TabH, PlaceI, PlaceJ, PlaceK, TabI, TabJ, TabK. -/
import Derived.Laws.IdiomStrings
import Derived.Laws.BytesArg
import Derived.Deep.OwnRows
import Derived.ProofKit
import Derived.OpenShut
import Derived.ShutString
import Derived.ChangeOld
import Derived.SizedLaws
import Derived.ChangeSlices
import Derived.Carry
import Derived.Deep.Slices
import Derived.ChangeSame
import Derived.Laws.MakeOwn
import Derived.Lib.SlBytesConst
import Derived.Test.YtbjlmhbpcopfbaaZChunkSays2
/- Regions by types: memory of the call's own that an operation takes over (append in place; constants that are frozen): each such slot has blocks of its own, told apart from all others. -/
namespace Go.Proofs.Ytbjlmhbpcopfbaa
open Go.RowKit

/-- A type with the blocks that are its own. -/
structure OTy where
  τ : Ty
  q : World → Value → List Nat → Prop
  tyq : ∀ {w : World} {v : Value} {S : List Nat}, q w v S → τ.p w v
  st : ∀ {w w' : World} {v : Value} {S T : List Nat}, q w v S → Keeps T w w' → (∀ b ∈ S, b ∉ T) → q w' v S
  lt : ∀ {w : World} {v : Value} {S : List Nat}, q w v S → ∀ b ∈ S, b < w.heap.size
def OTy.ex (v : Value) : OTy := ⟨Ty.ex v, fun _ u S => u = v ∧ S = [], fun h => h.1, fun h _ _ => h, fun h b hb => by rw [h.2] at hb; cases hb⟩
def OTy.seg (w0 : World) (e : TypeId) (sz n : Nat) (xs : List Value) : OTy := ⟨Ty.seg w0 e sz n xs, fun w v S => Seg w e sz v n xs S ∧ ∀ y ∈ S, w0.heap.size ≤ y, fun h => ⟨_, h.1, h.2⟩, fun h k hd => ⟨h.1.keeps k hd, h.2⟩, fun h b hb => h.1.lt b hb⟩
/-- A slice in a block of its own, read alone. -/
def OTy.slo (e : TypeId) (n : Nat) (xs : List Value) : OTy := ⟨Ty.sl e n xs, fun w v S => ∃ g off c cs fr, v = .slice (some ⟨g, off, none⟩) n c ∧ S = [g] ∧ n ≤ c ∧ c ≤ maxLen ∧ w.heap[g]? = some (.cells cs e fr) ∧ ∀ (j : Nat) (u : Value), xs[j]? = some u → cs[off + j]? = some u,
  fun ⟨g, off, c, cs, fr, h1, _, h3, h4, h5, h6⟩ => ⟨_, c, h1, h3, h4, fun h => (by cases h), fun j u hu => ⟨g, off, cs, fr, rfl, h5, h6 j u hu⟩⟩,
  fun ⟨g, off, c, cs, fr, h1, h2, h3, h4, h5, h6⟩ k hd => ⟨g, off, c, cs, fr, h1, h2, h3, h4, (k.block g (Array.getElem?_eq_some_iff.1 h5).1 (hd g (by simp [h2]))).trans h5, h6⟩,
  fun ⟨g, off, c, cs, fr, h1, h2, h3, h4, h5, h6⟩ b hb => by
    rw [h2] at hb
    simp only [List.mem_singleton] at hb
    subst hb
    exact (Array.getElem?_eq_some_iff.1 h5).1⟩

/-- A new variable of the region's own. -/
def OTy.var (w0 : World) (t : TypeId) (z : Array Value) : OTy := ⟨Ty.var w0 t z, fun w v S => ∃ g, v = .pointer (some ⟨g, 0, none⟩) ∧ S = [g] ∧ w0.heap.size ≤ g ∧ Blk w g t z, fun ⟨g, h1, _, h3, h4⟩ => ⟨g, h1, h3, h4⟩,
  fun ⟨g, h1, h2, h3, h4⟩ k hd => ⟨g, h1, h2, h3, h4.keeps k (hd g (by simp [h2]))⟩, fun ⟨g, _, h2, _, h4⟩ b hb => by
    rw [h2] at hb
    simp only [List.mem_singleton] at hb
    subst hb
    exact h4.lt⟩
abbrev OCtx := List (Nat × OTy)
def olook : OCtx → Nat → Option OTy
  | [], _ => none
  | p :: Γ, s => bif Nat.beq p.1 s then some p.2 else olook Γ s
theorem olook_same (d : Nat) (V : OTy) (Γ : OCtx) : olook ((d, V) :: Γ) d = some V := by simp [olook]
theorem olook_ne {d s : Nat} (V : OTy) (Γ : OCtx) (h : d ≠ s) : olook ((d, V) :: Γ) s = olook Γ s := by
  have : Nat.beq d s = false := by
    cases hb : Nat.beq d s with
    | false => rfl
    | true => exact absurd (Nat.eq_of_beq_eq_true hb) h
  simp [olook, this]

/-- An operation that takes over nothing: what it yields is new, or a plain value. -/
def OpO (P : Program) (w0 : World) (Γ : Ctx) (o : Oper) (V : OTy) : Prop :=
  ∀ (a : Act) (w : World) (K : Act → World → Prop) (Q : Exit → Act → World → Prop), Below w0.heap.size w0 w →
    (∀ (s : Nat) (τ : Ty), s ∈ Oper.reads o → look Γ s = some τ → ∃ v, a.tmps[s]? = some v ∧ τ.p w v) →
    (∀ v w' S, V.q w' v S → (∀ b ∈ S, w.heap.size ≤ b) → Below w.heap.size w w' → K (a.put o.dst v) w') → o.wp P a w K Q
/-- An operation that takes over slot s. -/
def OpTk (P : Program) (w0 : World) (Γ : Ctx) (o : Oper) (U V : OTy) (s : Nat) : Prop :=
  ∀ (a : Act) (w : World) (S0 : List Nat) (K : Act → World → Prop) (Q : Exit → Act → World → Prop), Below w0.heap.size w0 w →
    (∀ (s : Nat) (τ : Ty), s ∈ Oper.reads o → look Γ s = some τ → ∃ v, a.tmps[s]? = some v ∧ τ.p w v) →
    (∃ v, a.tmps[s]? = some v ∧ U.q w v S0) →
    (∀ v w' S, V.q w' v S → (∀ b ∈ S, b ∈ S0 ∨ w.heap.size ≤ b) → Keeps S0 w w' → K (a.put o.dst v) w') → o.wp P a w K Q
inductive FactO (P : Program) (ops : Array Oper) (w0 : World) (Γ : Ctx) (o : Oper) (V : OTy) : Prop
  | run (hg : o.guard = none) (h : OpO P w0 Γ o V)
  | yes {j s : Nat} {b : Bool} (hg : o.guard = some (j, b)) (hj : slotOf ops j = some s) (hs : look Γ s = some (Ty.ex (.bool b))) (h : OpO P w0 Γ o V)
  | no {j s : Nat} {b c : Bool} (hg : o.guard = some (j, c)) (hj : slotOf ops j = some s) (hs : look Γ s = some (Ty.ex (.bool b))) (hbc : (b == c) = false) (hV : V = OTy.ex undef)
inductive FactT (P : Program) (ops : Array Oper) (w0 : World) (Γ : Ctx) (o : Oper) (U V : OTy) (s0 : Nat) : Prop
  | run (hg : o.guard = none) (h : OpTk P w0 Γ o U V s0)
  | yes {j s : Nat} {b : Bool} (hg : o.guard = some (j, b)) (hj : slotOf ops j = some s) (hs : look Γ s = some (Ty.ex (.bool b))) (h : OpTk P w0 Γ o U V s0)
/-- Which slot an operation takes over. -/
def takes : List (Nat × Nat) → Nat → Option Nat
  | [], _ => none
  | p :: T, i => bif Nat.beq p.1 i then some p.2 else takes T i
theorem takes_mem : ∀ {T : List (Nat × Nat)} {i s : Nat}, takes T i = some s → (i, s) ∈ T
  | p :: T, i, s, h => by
    unfold takes at h
    cases hb : Nat.beq p.1 i with
    | true =>
      rw [hb] at h
      simp only [cond_true, Option.some.injEq] at h
      have := Nat.eq_of_beq_eq_true hb
      subst this h
      simp
    | false => rw [hb] at h; exact List.mem_cons_of_mem _ (takes_mem h)
inductive LineO (P : Program) (ops : Array Oper) (w0 : World) (T : List (Nat × Nat)) : Nat → Ctx → OCtx → List Oper → List OTy → Prop
  | nil {i : Nat} {Γ : Ctx} {Ω : OCtx} : LineO P ops w0 T i Γ Ω [] []
  | cons {i : Nat} {Γ : Ctx} {Ω : OCtx} {d : Nat} {o : Oper} {V : OTy} {os : List Oper} {Vs : List OTy} (hd : o.dst = some d) (hT : takes T i = none) (h : FactO P ops w0 Γ o V) (t : LineO P ops w0 T (i + 1) ((d, V.τ) :: Γ) ((d, V) :: Ω) os Vs) : LineO P ops w0 T i Γ Ω (o :: os) (V :: Vs)
  | take {i : Nat} {Γ : Ctx} {Ω : OCtx} {d s : Nat} {o : Oper} {U V : OTy} {os : List Oper} {Vs : List OTy} (hd : o.dst = some d) (hT : takes T i = some s) (hU : olook Ω s = some U) (h : FactT P ops w0 Γ o U V s) (t : LineO P ops w0 T (i + 1) ((d, V.τ) :: Γ) ((d, V) :: Ω) os Vs) : LineO P ops w0 T i Γ Ω (o :: os) (V :: Vs)
def extO : Ctx → List Oper → List OTy → Ctx
  | Γ, o :: os, V :: Vs => extO ((o.dst.getD 0, V.τ) :: Γ) os Vs
  | Γ, _, _ => Γ
/-- Slots that were taken over are told no more. -/
def hideT (T : List (Nat × Nat)) (Γ : Ctx) : Ctx := T.foldr (fun p Γ => (p.2, Ty.any) :: Γ) Γ
theorem hideT_look {T : List (Nat × Nat)} {Γ : Ctx} {s : Nat} {τ : Ty} (h : look (hideT T Γ) s = some τ) : τ = Ty.any ∧ (∃ i, (i, s) ∈ T) ∨ look Γ s = some τ ∧ ∀ i, (i, s) ∉ T := by
  induction T with
  | nil => exact .inr ⟨h, fun i hi => by cases hi⟩
  | cons p T ih =>
    have h' : look ((p.2, Ty.any) :: hideT T Γ) s = some τ := h
    by_cases hp : p.2 = s
    · subst hp
      rw [look_same] at h'
      injection h' with h'
      exact .inl ⟨h'.symm, p.1, by simp⟩
    · rw [look_ne _ _ hp] at h'
      rcases ih h' with ⟨h1, i, h2⟩ | ⟨h1, h2⟩
      · exact .inl ⟨h1, i, by simp [h2]⟩
      · refine .inr ⟨h1, fun i hi => ?_⟩
        rcases List.mem_cons.1 hi with h3 | h3
        · subst h3; exact hp rfl
        · exact h2 i h3
/-- What is asked of taking over: it reads that slot; no other reads it. -/
def takeB (N : Nat) (ops : Array Oper) (n : Nat) (T : List (Nat × Nat)) : Bool := T.all fun p => decide (p.1 < n) && decide (p.2 < N) &&
  (match ops[p.1]? with | some o => (o.looksAt ops).contains p.2 | none => false) &&
  (List.range n).all fun k => (k == p.1) || (match ops[k]? with | some o => !(o.looksAt ops).contains p.2 | none => true)
theorem takeB_at {N : Nat} {ops : Array Oper} {n : Nat} {T : List (Nat × Nat)} (h : takeB N ops n T = true) {i s : Nat} (hm : (i, s) ∈ T) : (i < n ∧ s < N) ∧ (∀ o, ops[i]? = some o → s ∈ o.looksAt ops) ∧ ∀ k o, k < n → ops[k]? = some o → s ∈ o.looksAt ops → k = i := by
  have h1 := List.all_eq_true.1 h _ hm
  simp only [Bool.and_eq_true, decide_eq_true_eq] at h1
  obtain ⟨⟨⟨h2, h2'⟩, h3⟩, h4⟩ := h1
  refine ⟨⟨h2, h2'⟩, fun o ho => ?_, fun k o hk ho hs => ?_⟩
  · rw [ho] at h3
    simpa using h3
  · have h5 := List.all_eq_true.1 h4 k (List.mem_range.2 hk)
    rw [ho] at h5
    replace h5 : ((k == i) || !(o.looksAt ops).contains s) = true := h5
    have h6 : ((o.looksAt ops).contains s) = true := by simpa using hs
    rw [h6] at h5
    simpa using h5

section
variable {P : Program} {ops : Array Oper} {w0 : World} {Γ : Ctx} {o : Oper} {V U : OTy}
theorem FactO.at_work (h : FactO P ops w0 Γ o V) {a : Act} {w : World} (hb : Below w0.heap.size w0 w) (hs : Sees ops Γ o a w) (K : Act → World → Prop) (Q : Exit → Act → World → Prop)
    (hK : ∀ v w' S, V.q w' v S → (∀ b ∈ S, w.heap.size ≤ b) → Below w.heap.size w w' → K (a.put o.dst v) w') :
    if Region.wanted o (yielded ops a.tmps) then o.wp P a w K Q else K (a.put o.dst undef) w := by
  cases h with
  | run hg h =>
    rw [if_pos (by simp [Region.wanted, hg])]
    exact h a w K Q hb (fun s τ hr hl => hs s τ (reads_looksAt hr) hl) hK
  | @yes j s b hg hj hl h =>
    obtain ⟨v, hv, he⟩ := hs s _ (guard_looksAt hg hj) hl
    have he : v = .bool b := he
    subst he
    rw [if_pos (by simp [Region.wanted, hg, yielded_of hj hv])]
    exact h a w K Q hb (fun s τ hr hl => hs s τ (reads_looksAt hr) hl) hK
  | @no j s b c hg hj hl hbc hV =>
    obtain ⟨v, hv, he⟩ := hs s _ (guard_looksAt hg hj) hl
    have he : v = .bool b := he
    subst he
    rw [if_neg (by cases b <;> cases c <;> simp at hbc <;> simp [Region.wanted, hg, yielded_of hj hv])]
    exact hK undef w [] (by rw [hV]; exact ⟨rfl, rfl⟩) (by simp) (Below.refl _ _)
theorem FactT.at_work {s0 : Nat} (h : FactT P ops w0 Γ o U V s0) {a : Act} {w : World} {S0 : List Nat} (hb : Below w0.heap.size w0 w) (hs : Sees ops Γ o a w) (hU : ∃ v, a.tmps[s0]? = some v ∧ U.q w v S0) (K : Act → World → Prop) (Q : Exit → Act → World → Prop)
    (hK : ∀ v w' S, V.q w' v S → (∀ b ∈ S, b ∈ S0 ∨ w.heap.size ≤ b) → Keeps S0 w w' → K (a.put o.dst v) w') :
    if Region.wanted o (yielded ops a.tmps) then o.wp P a w K Q else K (a.put o.dst undef) w := by
  cases h with
  | run hg h =>
    rw [if_pos (by simp [Region.wanted, hg])]
    exact h a w S0 K Q hb (fun s τ hr hl => hs s τ (reads_looksAt hr) hl) hU hK
  | @yes j s b hg hj hl h =>
    obtain ⟨v, hv, he⟩ := hs s _ (guard_looksAt hg hj) hl
    have he : v = .bool b := he
    subst he
    rw [if_pos (by simp [Region.wanted, hg, yielded_of hj hv])]
    exact h a w S0 K Q hb (fun s τ hr hl => hs s τ (reads_looksAt hr) hl) hU hK
theorem LineO.at_ {T : List (Nat × Nat)} {l : List Oper} {Vs : List OTy} {m : Nat} {Ω : OCtx} (h : LineO P ops w0 T m Γ Ω l Vs) : ∀ (i : Nat) (o : Oper), l[i]? = some o → ∃ V Γi, Vs[i]? = some V ∧
    (takes T (m + i) = none ∧ FactO P ops w0 Γi o V ∨ ∃ s U, takes T (m + i) = some s ∧ FactT P ops w0 Γi o U V s ∧ ((∃ (j : Nat) (oj : Oper), j < i ∧ l[j]? = some oj ∧ oj.dst = some s ∧ Vs[j]? = some U) ∨ olook Ω s = some U)) ∧
    ∀ (s : Nat) (τ : Ty), look Γi s = some τ → (∃ (j : Nat) (oj : Oper) (Vj : OTy), j < i ∧ l[j]? = some oj ∧ oj.dst = some s ∧ Vs[j]? = some Vj ∧ Vj.τ = τ) ∨ ((∀ (j : Nat) (oj : Oper), j < i → l[j]? = some oj → oj.dst ≠ some s) ∧ look Γ s = some τ) := by
  have key : ∀ {m : Nat} {Γ : Ctx} {Ω : OCtx} {d : Nat} {o : Oper} {V : OTy} {os : List Oper} {Vs : List OTy} (hd : o.dst = some d)
      (ih : ∀ (i : Nat) (o : Oper), os[i]? = some o → ∃ V' Γi, Vs[i]? = some V' ∧
        (takes T (m + 1 + i) = none ∧ FactO P ops w0 Γi o V' ∨ ∃ s U, takes T (m + 1 + i) = some s ∧ FactT P ops w0 Γi o U V' s ∧ ((∃ (j : Nat) (oj : Oper), j < i ∧ os[j]? = some oj ∧ oj.dst = some s ∧ Vs[j]? = some U) ∨ olook ((d, V) :: Ω) s = some U)) ∧
        ∀ (s : Nat) (τ : Ty), look Γi s = some τ → (∃ (j : Nat) (oj : Oper) (Vj : OTy), j < i ∧ os[j]? = some oj ∧ oj.dst = some s ∧ Vs[j]? = some Vj ∧ Vj.τ = τ) ∨ ((∀ (j : Nat) (oj : Oper), j < i → os[j]? = some oj → oj.dst ≠ some s) ∧ look ((d, V.τ) :: Γ) s = some τ))
      (i : Nat) (o' : Oper), os[i]? = some o' → ∃ V' Γi, (V :: Vs)[i + 1]? = some V' ∧
        (takes T (m + (i + 1)) = none ∧ FactO P ops w0 Γi o' V' ∨ ∃ s U, takes T (m + (i + 1)) = some s ∧ FactT P ops w0 Γi o' U V' s ∧ ((∃ (j : Nat) (oj : Oper), j < i + 1 ∧ (o :: os)[j]? = some oj ∧ oj.dst = some s ∧ (V :: Vs)[j]? = some U) ∨ olook Ω s = some U)) ∧
        ∀ (s : Nat) (τ : Ty), look Γi s = some τ → (∃ (j : Nat) (oj : Oper) (Vj : OTy), j < i + 1 ∧ (o :: os)[j]? = some oj ∧ oj.dst = some s ∧ (V :: Vs)[j]? = some Vj ∧ Vj.τ = τ) ∨ ((∀ (j : Nat) (oj : Oper), j < i + 1 → (o :: os)[j]? = some oj → oj.dst ≠ some s) ∧ look Γ s = some τ) := by
    intro m Γ Ω d o V os Vs hd ih i o' ho'
    obtain ⟨V', Γi, h1, h2, h3⟩ := ih i o' ho'
    refine ⟨V', Γi, by simpa using h1, ?_, fun s τ hl => ?_⟩
    · rw [show m + (i + 1) = m + 1 + i by omega]
      rcases h2 with h2 | ⟨s, U, h4, h5, h6⟩
      · exact .inl h2
      · refine .inr ⟨s, U, h4, h5, ?_⟩
        rcases h6 with ⟨j, oj, hj, hoj, hds, hVj⟩ | h6
        · exact .inl ⟨j + 1, oj, by omega, by simpa using hoj, hds, by simpa using hVj⟩
        · by_cases hds : d = s
          · subst hds
            rw [olook_same] at h6
            injection h6 with h6
            subst h6
            exact .inl ⟨0, o, by omega, rfl, hd, rfl⟩
          · rw [olook_ne _ _ hds] at h6
            exact .inr h6
    · rcases h3 s τ hl with ⟨j, oj, Vj, hj, hoj, hds, hVj, hτ⟩ | ⟨hno, hlk⟩
      · exact .inl ⟨j + 1, oj, Vj, by omega, by simpa using hoj, hds, by simpa using hVj, hτ⟩
      · by_cases hds : d = s
        · subst hds
          rw [look_same] at hlk
          injection hlk with hlk
          exact .inl ⟨0, o, V, by omega, rfl, hd, rfl, hlk⟩
        · rw [look_ne _ _ hds] at hlk
          refine .inr ⟨fun j oj hj hoj => ?_, hlk⟩
          cases j with
          | zero =>
            simp only [List.getElem?_cons_zero, Option.some.injEq] at hoj
            subst hoj
            rw [hd]
            simpa using hds
          | succ j => exact hno j oj (by omega) (by simpa using hoj)
  induction h with
  | nil => intro i o h; simp at h
  | @cons m Γ Ω d o V os Vs hd hT hF t ih =>
    intro i o' ho'
    cases i with
    | zero =>
      simp only [List.getElem?_cons_zero, Option.some.injEq] at ho'
      subst ho'
      exact ⟨V, Γ, rfl, .inl ⟨hT, hF⟩, fun s τ hl => .inr ⟨fun j oj hj => absurd hj (Nat.not_lt_zero _), hl⟩⟩
    | succ i => exact key hd ih i o' (by simpa using ho')
  | @take m Γ Ω d s o U V os Vs hd hT hU hF t ih =>
    intro i o' ho'
    cases i with
    | zero =>
      simp only [List.getElem?_cons_zero, Option.some.injEq] at ho'
      subst ho'
      exact ⟨V, Γ, rfl, .inr ⟨s, U, hT, hF, .inr hU⟩, fun s τ hl => .inr ⟨fun j oj hj => absurd hj (Nat.not_lt_zero _), hl⟩⟩
    | succ i => exact key hd ih i o' (by simpa using ho')
theorem LineO.ext_look {T : List (Nat × Nat)} {l : List Oper} {Vs : List OTy} {m : Nat} {Ω : OCtx} (h : LineO P ops w0 T m Γ Ω l Vs) : ∀ (s : Nat) (τ : Ty), look (extO Γ l Vs) s = some τ →
    (∃ (j : Nat) (oj : Oper) (Vj : OTy), l[j]? = some oj ∧ oj.dst = some s ∧ Vs[j]? = some Vj ∧ Vj.τ = τ) ∨ ((∀ (j : Nat) (oj : Oper), l[j]? = some oj → oj.dst ≠ some s) ∧ look Γ s = some τ) := by
  have key : ∀ {Γ : Ctx} {d : Nat} {o : Oper} {V : OTy} {os : List Oper} {Vs : List OTy} (hd : o.dst = some d)
      (ih : ∀ (s : Nat) (τ : Ty), look (extO ((d, V.τ) :: Γ) os Vs) s = some τ → (∃ (j : Nat) (oj : Oper) (Vj : OTy), os[j]? = some oj ∧ oj.dst = some s ∧ Vs[j]? = some Vj ∧ Vj.τ = τ) ∨ ((∀ (j : Nat) (oj : Oper), os[j]? = some oj → oj.dst ≠ some s) ∧ look ((d, V.τ) :: Γ) s = some τ))
      (s : Nat) (τ : Ty), look (extO Γ (o :: os) (V :: Vs)) s = some τ → (∃ (j : Nat) (oj : Oper) (Vj : OTy), (o :: os)[j]? = some oj ∧ oj.dst = some s ∧ (V :: Vs)[j]? = some Vj ∧ Vj.τ = τ) ∨ ((∀ (j : Nat) (oj : Oper), (o :: os)[j]? = some oj → oj.dst ≠ some s) ∧ look Γ s = some τ) := by
    intro Γ d o V os Vs hd ih s τ hl
    have e : extO Γ (o :: os) (V :: Vs) = extO ((d, V.τ) :: Γ) os Vs := by simp [extO, hd]
    rw [e] at hl
    rcases ih s τ hl with ⟨j, oj, Vj, hoj, hds, hVj, hτ⟩ | ⟨hno, hlk⟩
    · exact .inl ⟨j + 1, oj, Vj, by simpa using hoj, hds, by simpa using hVj, hτ⟩
    · by_cases hds : d = s
      · subst hds
        rw [look_same] at hlk
        injection hlk with hlk
        exact .inl ⟨0, o, V, rfl, hd, rfl, hlk⟩
      · rw [look_ne _ _ hds] at hlk
        refine .inr ⟨fun j oj hoj => ?_, hlk⟩
        cases j with
        | zero =>
          simp only [List.getElem?_cons_zero, Option.some.injEq] at hoj
          subst hoj
          rw [hd]
          simpa using hds
        | succ j => exact hno j oj (by simpa using hoj)
  induction h with
  | nil => intro s τ hl; exact .inr ⟨fun j oj h => by simp at h, hl⟩
  | @cons m Γ Ω d o V os Vs hd hT hF t ih => exact key hd ih
  | @take m Γ Ω d s o U V os Vs hd hT hU hF t ih => exact key hd ih
end

/-- Listed, and not taken over. -/
def Live (T : List (Nat × Nat)) (listed : Array Bool) (s : Nat) : Prop := ∀ i, takes T i = some s → listed.getD i false = false
/-- Of the operations that are listed; F: the blocks that are each one's own. -/
structure TInvO (N n : Nat) (l : List Oper) (Vs : List OTy) (T : List (Nat × Nat)) (a0 : Act) (w0 : World) (listed : Array Bool) (a : Act) (w : World) : Prop where
  below : Below w0.heap.size w0 w
  defers : a.defers = []
  size : a.tmps.size = N
  out : ∀ s, (∀ (j : Nat) (oj : Oper), j < n → listed.getD j false = true → l[j]? = some oj → oj.dst ≠ some s) → a.tmps[s]? = a0.tmps[s]?
  own : ∃ F : Nat → List Nat, (∀ (j : Nat) (oj : Oper) (d : Nat) (V : OTy), j < n → listed.getD j false = true → l[j]? = some oj → oj.dst = some d → Vs[j]? = some V → Live T listed d → ∃ v, a.tmps[d]? = some v ∧ V.q w v (F j) ∧ ∀ b ∈ F j, w0.heap.size ≤ b) ∧
    ∀ (j k : Nat) (oj ok : Oper) (dj dk : Nat), j < n → k < n → j ≠ k → listed.getD j false = true → listed.getD k false = true → l[j]? = some oj → l[k]? = some ok → oj.dst = some dj → ok.dst = some dk → Live T listed dj → Live T listed dk → ∀ b ∈ F j, b ∉ F k

section
variable {P : Program} {w0 : World} {Γ : Ctx} {N n : Nat} {l : List Oper} {Vs : List OTy} {T : List (Nat × Nat)} {a0 : Act} {ops : Array Oper}
theorem TInvO.start (hF : Fr N Γ a0 w0) {w : World} (hb : Below w0.heap.size w0 w) (m : Nat) : TInvO N n l Vs T a0 w0 (Array.replicate m false) a0 w :=
  ⟨hb, hF.defers, hF.size, fun _ _ => rfl, fun _ => [], fun j _ _ _ _ h => (by rw [getD_replicate_false] at h; cases h), fun j _ _ _ _ _ _ _ _ h => (by rw [getD_replicate_false] at h; cases h)⟩
theorem TInvO.step (hB : regB ops N n = true) (hTB : takeB N ops n T = true) (hl : ∀ i, i < n → l[i]? = ops[i]?) (hL : LineO P ops w0 T 0 Γ [] l Vs) (hF : Fr N Γ a0 w0) {listed : Array Bool} {a : Act} {w : World} (hI : TInvO N n l Vs T a0 w0 listed a w)
    (hsz : listed.size = ops.size) (hcl : ∀ (j : Nat) (oj : Oper), ops[j]? = some oj → listed.getD j false = true → ∀ e ∈ oj.after, Region.binds .any e = true → listed.getD e.on false = true)
    {i : Nat} {o : Oper} (hi : i < n) (ho : ops[i]? = some o) (hun : listed.getD i false = false) (hdep : ∀ e ∈ o.after, Region.binds .any e = true → listed.getD e.on false = true) (K : Act → World → Prop) (Q : Exit → Act → World → Prop)
    (hK : ∀ a' w', TInvO N n l Vs T a0 w0 (listed.setIfInBounds i true) a' w' → K a' w') :
    if Region.wanted o (yielded ops a.tmps) then o.wp P a w K Q else K (a.put o.dst undef) w := by
  have hli : l[i]? = some o := (hl i hi).trans ho
  obtain ⟨V, Γi, hV, hFa, hlk⟩ := hL.at_ i o hli
  rw [Nat.zero_add] at hFa
  obtain ⟨o', d, ho', hd, hdN, _, hoth⟩ := regB_at hB hi
  obtain rfl : o = o' := Option.some.inj (ho.symm.trans ho')
  obtain ⟨F, hown, hdis⟩ := hI.own
  have wf : ∀ {p q : Nat} {op : Oper}, ops[p]? = some op → Region.waitsFor .any ops p q = true → ∃ e ∈ op.after, Region.binds .any e = true ∧ e.on = q := fun {p q op} hp hw => by
    obtain ⟨oj, hoj, e, he, hb, hon⟩ := Region.waitsFor_spec hw
    obtain rfl : op = oj := Option.some.inj (hp.symm.trans hoj)
    exact ⟨e, he, hb, hon⟩
  -- what is looked at by o alone is live
  have alive : ∀ s, s ∈ o.looksAt ops → Live T listed s := fun s hs i' hi' => by
    obtain ⟨h1, _, h3⟩ := takeB_at hTB (takes_mem hi')
    have := h3 i o hi ho hs
    subst this
    exact hun
  -- the writer of a slot that o looks at is listed
  have writer : ∀ (s j : Nat) (oj : Oper), s ∈ o.looksAt ops → j < i → l[j]? = some oj → oj.dst = some s → listed.getD j false = true := fun s j oj hs hj hoj hds => by
    have hjn : j < n := by omega
    have hoj' : ops[j]? = some oj := (hl j hjn).symm.trans hoj
    obtain ⟨oj2, dj, hoj2, hdj, _, _, hothj⟩ := regB_at hB hjn
    obtain rfl : oj = oj2 := Option.some.inj (hoj'.symm.trans hoj2)
    obtain rfl : dj = s := Option.some.inj (hdj.symm.trans hds)
    have h1 := ((hothj i o hi ho (by omega)).2 hs).1 hj
    obtain ⟨e, he, hb, hon⟩ := wf ho h1
    have h2 := hdep e he hb
    rwa [hon] at h2
  have hsees : Sees ops Γi o a w := by
    intro s τ hs hls
    rcases hlk s τ hls with ⟨j, oj, Vj, hj, hoj, hds, hVj, rfl⟩ | ⟨hno, hl0⟩
    · have hjn : j < n := by omega
      obtain ⟨v, hv1, hv2, _⟩ := hown j oj s Vj hjn (writer s j oj hs hj hoj hds) hoj hds hVj (alive s hs)
      exact ⟨v, hv1, Vj.tyq hv2⟩
    · obtain ⟨v, hv1, hv2⟩ := hF.val s τ hl0
      refine ⟨v, ?_, τ.below hv2 hI.below⟩
      rw [hI.out s (fun k ok hk hlk' hok hdk => ?_)]
      · exact hv1
      · have hok' : ops[k]? = some ok := (hl k hk).symm.trans hok
        have hki : k ≠ i := fun h => by subst h; rw [hun] at hlk'; cases hlk'
        by_cases hlt : k < i
        · exact hno k ok hlt hok hdk
        · obtain ⟨ok2, dk, hok2, hdk2, _, _, hothk⟩ := regB_at hB hk
          obtain rfl : ok = ok2 := Option.some.inj (hok'.symm.trans hok2)
          obtain rfl : dk = s := Option.some.inj (hdk2.symm.trans hdk)
          have h1 := ((hothk i o hi ho (Ne.symm hki)).2 hs).2 (by omega)
          obtain ⟨e, he, hb, hon⟩ := wf hok' h1
          have h2 := hcl k ok hok' hlk' e he hb
          rw [hon, hun] at h2
          cases h2
  have hilt : i < listed.size := by rw [hsz]; exact (Array.getElem?_eq_some_iff.1 ho).1
  have hdne : ∀ (j : Nat) (oj : Oper) (dj : Nat), j < n → j ≠ i → l[j]? = some oj → oj.dst = some dj → d ≠ dj := fun j oj dj hj hne hoj hdj h => by
    subst h
    exact (hoth j oj hj ((hl j hj).symm.trans hoj) hne).1 hdj
  -- the step, for whatever blocks S0 were taken over
  have fin : ∀ (S0 : List Nat) (v : Value) (w' : World) (S : List Nat), V.q w' v S → (∀ b ∈ S, b ∈ S0 ∨ w.heap.size ≤ b) → Keeps S0 w w' → (∀ b ∈ S0, w0.heap.size ≤ b) →
      (∀ (j : Nat) (oj : Oper) (dj : Nat), j < n → j ≠ i → listed.getD j false = true → l[j]? = some oj → oj.dst = some dj → Live T (listed.setIfInBounds i true) dj → ∀ b ∈ F j, b ∉ S0) → K (a.put o.dst v) w' := fun S0 v w' S hv hS hk hS0 hj0 => by
    refine hK _ _ ?_
    rw [hd]
    have hbel : Below w0.heap.size w0 w' := ((Keeps.of_below (S := []) hI.below).trans' hk fun x hx => .inr (hS0 x hx)).below
    have back : ∀ s, Live T (listed.setIfInBounds i true) s → Live T listed s := fun s h i' hi' => by
      have := h i' hi'
      by_cases hii : i = i'
      · subst hii; exact hun
      · rwa [getD_set_ne false hii] at this
    have was : ∀ j, i ≠ j → (listed.setIfInBounds i true).getD j false = true → listed.getD j false = true := fun j hij h => by rwa [getD_set_ne false hij] at h
    refine ⟨hbel, hI.defers, by simp only [Act.put]; simpa using hI.size, fun s hs => ?_, fun j => if j = i then S else F j, fun j oj dj Vj hj hlj hoj hdj hVj hlive => ?_, fun j k oj ok dj dk hj hk' hne hlj hlk2 hoj hok hdj hdk hv1 hv2 => ?_⟩
    · have hds : d ≠ s := fun h => hs i o hi (by simp [Array.getD, hilt]) hli (by rw [hd, h])
      simp only [Act.put]
      rw [Array.getElem?_setIfInBounds_ne hds]
      refine hI.out s (fun j oj hj hlj hoj => ?_)
      refine hs j oj hj ?_ hoj
      by_cases hij : i = j
      · subst hij; rw [hun] at hlj; cases hlj
      · rw [getD_set_ne false hij]; exact hlj
    · by_cases hij : i = j
      · subst hij
        obtain rfl : o = oj := Option.some.inj (hli.symm.trans hoj)
        obtain rfl : d = dj := Option.some.inj (hd.symm.trans hdj)
        obtain rfl : V = Vj := Option.some.inj (hV.symm.trans hVj)
        dsimp only
        rw [if_pos rfl]
        refine ⟨v, ?_, hv, fun b hb => ?_⟩
        · simp only [Act.put]
          rw [Array.getElem?_setIfInBounds_self, if_pos (by rw [hI.size]; exact hdN)]
        · rcases hS b hb with h | h
          · exact hS0 b h
          · exact Nat.le_trans hI.below.size h
      · dsimp only
        rw [if_neg (Ne.symm hij)]
        have hlj' := was j hij hlj
        obtain ⟨u, h1, h2, h3⟩ := hown j oj dj Vj hj hlj' hoj hdj hVj (back dj hlive)
        refine ⟨u, ?_, Vj.st h2 hk (hj0 j oj dj hj (Ne.symm hij) hlj' hoj hdj hlive), h3⟩
        simp only [Act.put]
        rw [Array.getElem?_setIfInBounds_ne (hdne j oj dj hj (Ne.symm hij) hoj hdj)]
        exact h1
    · have ltF : ∀ (j : Nat) (oj : Oper) (dj : Nat), j < n → i ≠ j → (listed.setIfInBounds i true).getD j false = true → l[j]? = some oj → oj.dst = some dj → Live T (listed.setIfInBounds i true) dj → ∀ b ∈ F j, b < w.heap.size := fun j oj dj hj hij hlj hoj hdj hv => by
        obtain ⟨Vj, _, hVj, _⟩ := hL.at_ j oj hoj
        obtain ⟨u, _, h2, _⟩ := hown j oj dj Vj hj (was j hij hlj) hoj hdj hVj (back dj hv)
        exact Vj.lt h2
      by_cases hij : i = j
      · subst hij
        dsimp only
        rw [if_pos rfl, if_neg (Ne.symm hne)]
        intro b hb hbk
        rcases hS b hb with h | h
        · exact hj0 k ok dk hk' (Ne.symm hne) (was k hne hlk2) hok hdk hv2 b hbk h
        · have := ltF k ok dk hk' hne hlk2 hok hdk hv2 b hbk
          omega
      · dsimp only
        rw [if_neg (Ne.symm hij)]
        by_cases hik : i = k
        · subst hik
          rw [if_pos rfl]
          intro b hb hbk
          rcases hS b hbk with h | h
          · exact hj0 j oj dj hj (Ne.symm hij) (was j hij hlj) hoj hdj hv1 b hb h
          · have := ltF j oj dj hj hij hlj hoj hdj hv1 b hb
            omega
        · rw [if_neg (Ne.symm hik)]
          exact hdis j k oj ok dj dk hj hk' hne (was j hij hlj) (was k hik hlk2) hoj hok hdj hdk (back dj hv1) (back dk hv2)
  rcases hFa with ⟨hT, hFa⟩ | ⟨s, U, hT, hFa, hU⟩
  · refine hFa.at_work hI.below hsees K Q (fun v w' S hv hS hb => fin [] v w' S hv (fun b hb' => .inr (hS b hb')) (Keeps.of_below hb) (by simp) (fun _ _ _ _ _ _ _ _ _ _ _ => by simp))
  · rcases hU with ⟨j, oj, hj, hoj, hds, hUj⟩ | hU
    · have hjn : j < n := by omega
      have hsl := (takeB_at hTB (takes_mem hT)).2.1 o ho
      have hlj := writer s j oj hsl hj hoj hds
      obtain ⟨v, hv1, hv2, hv3⟩ := hown j oj s U hjn hlj hoj hds hUj (alive s hsl)
      refine hFa.at_work hI.below hsees ⟨v, hv1, hv2⟩ K Q (fun u w' S hu hS hk => fin (F j) u w' S hu hS hk hv3 (fun k ok dk hk' hne hlk2 hok hdk hlive b hb hbj => ?_))
      by_cases hkj : k = j
      · subst hkj
        obtain rfl : oj = ok := Option.some.inj (hoj.symm.trans hok)
        obtain rfl : s = dk := Option.some.inj (hds.symm.trans hdk)
        have := hlive i hT
        simp [Array.getD, hilt] at this
      · refine hdis k j ok oj dk s hk' hjn hkj hlk2 hlj hok hoj hdk hds (fun i' hi' => ?_) (alive s hsl) b hb hbj
        have := hlive i' hi'
        by_cases hii : i = i'
        · subst hii; exact hun
        · rwa [getD_set_ne false hii] at this
    · cases hU
/-- What is each slot's own, at the end. -/
def OwnsAll (l : List Oper) (Vs : List OTy) (T : List (Nat × Nat)) (w0 : World) (a : Act) (w : World) : Prop := ∃ F : Nat → List Nat, (∀ (j : Nat) (oj : Oper) (d : Nat) (V : OTy), l[j]? = some oj → oj.dst = some d → Vs[j]? = some V → (∀ i, (i, d) ∉ T) → ∃ v, a.tmps[d]? = some v ∧ V.q w v (F j) ∧ ∀ b ∈ F j, w0.heap.size ≤ b) ∧
    ∀ (j k : Nat) (oj ok : Oper) (dj dk : Nat), j ≠ k → l[j]? = some oj → l[k]? = some ok → oj.dst = some dj → ok.dst = some dk → (∀ i, (i, dj) ∉ T) → (∀ i, (i, dk) ∉ T) → ∀ b ∈ F j, b ∉ F k
theorem TInvO.all (hTB : takeB N ops n T = true) (hL : LineO P ops w0 T 0 Γ [] l Vs) (hn : n = l.length) (hF : Fr N Γ a0 w0) {listed : Array Bool} {a : Act} {w : World} (hI : TInvO N n l Vs T a0 w0 listed a w) (hall : ∀ i, i < n → listed.getD i false = true) :
    Fr N (hideT T (extO Γ l Vs)) a w ∧ OwnsAll l Vs T w0 a w := by
  have lt : ∀ (j : Nat) (oj : Oper), l[j]? = some oj → j < n := fun j oj h => by rw [hn]; exact (List.getElem?_eq_some_iff.1 h).1
  obtain ⟨F, hown, hdis⟩ := hI.own
  have lv : ∀ s, (∀ i, (i, s) ∉ T) → Live T listed s := fun s hs i hi => absurd (takes_mem hi) (hs i)
  refine ⟨⟨hI.size, hI.defers, fun s τ hs => ?_⟩, F, fun j oj d V hoj hdj hVj hno => hown j oj d V (lt j oj hoj) (hall j (lt j oj hoj)) hoj hdj hVj (lv d hno), fun j k oj ok dj dk hne hoj hok hdj hdk h1 h2 => hdis j k oj ok dj dk (lt j oj hoj) (lt k ok hok) hne (hall j (lt j oj hoj)) (hall k (lt k ok hok)) hoj hok hdj hdk (lv dj h1) (lv dk h2)⟩
  rcases hideT_look hs with ⟨rfl, i, hi⟩ | ⟨hs, hno⟩
  · have hlt : s < a.tmps.size := by
      rw [hI.size]
      exact (takeB_at hTB hi).1.2
    exact ⟨_, Array.getElem?_eq_getElem hlt, trivial⟩
  · rcases hL.ext_look s τ hs with ⟨j, oj, Vj, hoj, hds, hVj, rfl⟩ | ⟨hno', hl0⟩
    · obtain ⟨v, h1, h2, _⟩ := hown j oj s Vj (lt j oj hoj) (hall j (lt j oj hoj)) hoj hds hVj (lv s hno)
      exact ⟨v, h1, Vj.tyq h2⟩
    · obtain ⟨v, hv1, hv2⟩ := hF.val s τ hl0
      exact ⟨v, by rw [hI.out s (fun j oj _ _ hoj => hno' j oj hoj)]; exact hv1, τ.below hv2 hI.below⟩
end

section
variable {P : Program} {w0 : World} {Γ : Ctx} {N : Nat} {Vs : List OTy} {a0 : Act}
theorem region_own {id : Nat} {Q : Exit → Act → World → Prop} {l : List Oper} {draw : Bool} (n : Nat) (T : List (Nat × Nat)) (hm : P.follows .mixedOrders = true) (hB : (regB l.toArray N n && tailB l.toArray n && takeB N l.toArray n T) = true) (hF : Fr N Γ a0 w0)
    (hL : LineO P l.toArray w0 T 0 Γ [] (l.take n) Vs)
    (hQ : ∀ a w, Fr N (hideT T (extO Γ (l.take n) Vs)) a w → Below w0.heap.size w0 w → OwnsAll (l.take n) Vs T w0 a w → wpList P l.toArray Q (l.drop n) a w) : (Code.region id l.toArray draw).wp P Q a0 w0 := by
  rw [Bool.and_eq_true, Bool.and_eq_true] at hB
  obtain ⟨⟨hB, hT⟩, hTB⟩ := hB
  have hsize : l.toArray.size = l.length := by simp
  have hnl : n ≤ l.toArray.size := by
    unfold tailB at hT
    split at hT
    · rename_i h; simp at h; simp [h]
    · simp only [Bool.and_eq_true, decide_eq_true_eq] at hT; omega
  have hlen : n = (l.take n).length := by simp at hnl ⊢; omega
  have hli : ∀ i, i < n → (l.take n)[i]? = l.toArray[i]? := fun i hi => by simp [hi]
  have hback : ∀ i o, i < n → l.toArray[i]? = some o → ∀ e ∈ o.after, Region.binds .any e = true → e.on < i := fun i o hi ho e he hb => by
    obtain ⟨o', d, ho', _, _, h, _⟩ := regB_at hB hi
    obtain rfl : o = o' := Option.some.inj (ho.symm.trans ho')
    exact h e he hb
  have fin : ∀ (listed : Array Bool) a w, TInvO N n (l.take n) Vs T a0 w0 listed a w → (∀ i, i < n → listed.getD i false = true) → wpList P l.toArray Q (l.drop n) a w := fun listed a w hI hall => by
    obtain ⟨h1, h2⟩ := hI.all hTB hL hlen hF hall
    exact hQ a w h1 hI.below h2
  cases draw with
  | true =>
    have key : ∀ (f : Nat) (listed : Array Bool) (a : Act) (w : World), HeadInv .any l.toArray n listed → wanting n listed = f → TInvO N n (l.take n) Vs T a0 w0 listed a w → wpAny P .any l.toArray Q (f + (l.toArray.size - n)) listed a w := by
      intro f
      induction f with
      | zero =>
        intro listed a w hH h0 hI
        have hall := wanting_zero h0
        have hdl : (l.drop n).length = l.toArray.size - n := by simp
        have e := all_listed hH hall hnl
        have hseq : Region.seqB .any l.toArray (l.toArray.size - n) n listed = true := by
          unfold tailB at hT
          split at hT
          · rename_i h
            have hz : n = l.toArray.size := by simpa using h
            have h2 : l.toArray.size - n = 0 := by omega
            rw [h2]
            simp only [Region.seqB, List.isEmpty_iff]
            unfold Region.ready
            rw [List.filter_eq_nil_iff]
            intro i hi
            have hi' := List.mem_range.1 hi
            have h3 := hall i (by omega)
            have hil : i < listed.size := by rw [hH.size]; exact hi'
            simp [Array.getD, hil] at h3 ⊢
            simp [h3]
          · simp only [Bool.and_eq_true] at hT
            rw [e]; exact hT.2
        have := wpAny_of_seq (md := .any) (Q' := Q) (l.drop n) n listed a w (fun j => by simp [List.getElem?_drop]) (by rw [hdl]; exact hseq) (fin listed a w hI hall)
        rw [Nat.zero_add]
        rwa [hdl] at this
      | succ f ih =>
        intro listed a w hH h0 hI
        rw [show f + 1 + (l.toArray.size - n) = (f + (l.toArray.size - n)) + 1 by omega]
        have hex : ∃ i, i < n ∧ listed.getD i true = false := by
          refine Classical.byContradiction fun hno => ?_
          have hz : wanting n listed = 0 := by
            unfold wanting
            rw [List.length_eq_zero_iff, List.filter_eq_nil_iff]
            intro i hi
            have hi' := List.mem_range.1 hi
            have hl : i < listed.size := by rw [hH.size]; omega
            have h1 : ¬ listed.getD i true = false := fun h => hno ⟨i, hi', h⟩
            simp [Array.getD, hl] at h1 ⊢
            exact h1
          omega
        obtain ⟨i0, hi0, hun0⟩ := hex
        refine ⟨fun hr => ?_, fun i hi => ?_⟩
        · exfalso
          have := ready_head hback hnl hH.size hr i0 hi0
          rw [getD_both hun0] at this
          cases this
        · obtain ⟨h1, o, ho, h2⟩ := mem_ready.1 hi
          have hin : i < n := Nat.lt_of_not_le fun h => by
            have hio := (Array.getElem?_eq_some_iff.1 ho).1
            unfold tailB at hT
            split at hT
            · rename_i h'; simp at h'; omega
            · simp only [Bool.and_eq_true, decide_eq_true_eq] at hT
              exact tail_waits hT.1.1.2 hT.1.2 hT.1.1.1 hH _ i0 rfl hi0 hun0 i h hi
          have hil : i < listed.size := by rw [hH.size]; omega
          have h3 := TInvO.step hB hTB hli hL hF hI hH.size hH.closed hin ho (getD_both h1) h2 (wpAny P .any l.toArray Q (f + (l.toArray.size - n)) (listed.setIfInBounds i true)) Q (fun a' w' hI' => by
            refine ih _ a' w' (hH.set hi hin) ?_ hI'
            have := wanting_set hin hil (getD_both h1)
            omega)
          unfold wpOp
          simp only [ho]
          split
          · rename_i hw
            rw [if_pos hw] at h3
            exact .inl h3
          · rename_i hw
            rw [if_neg hw] at h3
            exact h3
    have inv0 : HeadInv .any l.toArray n (Array.replicate l.toArray.size false) :=
      ⟨by simp, fun j oj _ hl => (by rw [getD_replicate_false] at hl; cases hl), fun t _ ht => getD_in (by simpa using ht) (getD_replicate_false _ _)⟩
    have h0 : wanting n (Array.replicate l.toArray.size false) = n := by
      unfold wanting
      rw [List.filter_eq_self.2 (fun i _ => by rw [getD_replicate_false]; rfl), List.length_range]
    refine wp_region_any hm ?_
    have := key n _ a0 w0.drew inv0 h0 (TInvO.start hF (Below.refl _ _).drew _)
    rw [show n + (l.toArray.size - n) = l.toArray.size by omega] at this
    exact this
  | false =>
    have key : ∀ (f k : Nat) (a : Act) (w : World), k + f = n → TInvO N n (l.take n) Vs T a0 w0 ((List.replicate k true ++ List.replicate (l.toArray.size - k) false).toArray) a w → wpList P l.toArray Q (l.drop k) a w := by
      intro f
      induction f with
      | zero =>
        intro k a w hk hI
        obtain rfl : k = n := by omega
        refine fin _ a w hI (fun i hi => ?_)
        simp [Array.getD, hi]
        omega
      | succ f ih =>
        intro k a w hk hI
        have hkn : k < n := by omega
        have hkl : k < l.length := by omega
        have hdrop : l.drop k = l[k] :: l.drop (k + 1) := by rw [List.drop_eq_getElem_cons hkl]
        have getD_k : ∀ m j, m ≤ l.toArray.size → (List.replicate m true ++ List.replicate (l.toArray.size - m) false).toArray.getD j false = decide (j < m) := fun m j hm => by
          by_cases hj : j < m
          · simp [Array.getD, hj]; omega
          · simp [Array.getD, List.getElem_append, hj]
        have ho : l.toArray[k]? = some l[k] := by simp [hkl]
        have hset : (List.replicate k true ++ List.replicate (l.toArray.size - k) false).toArray.setIfInBounds k true = (List.replicate (k + 1) true ++ List.replicate (l.toArray.size - (k + 1)) false).toArray := by
          apply Array.ext_getElem?
          intro j
          rw [show l.toArray.size - k = (l.toArray.size - (k + 1)) + 1 by omega, List.replicate_succ, List.replicate_succ']
          simp only [List.setIfInBounds_toArray, List.getElem?_toArray, List.append_assoc, List.singleton_append]
          rw [List.set_append_right _ _ (by simp)]
          simp
        rw [hdrop]
        refine wpList_step fun K hK => ?_
        refine TInvO.step hB hTB hli hL hF hI (by simp; omega) (fun j oj hj hl e he hb => ?_) hkn ho (by rw [getD_k k k (by omega)]; simp) (fun e he hb => ?_) K Q (fun a' w' hI' => hK a' w' (ih (k + 1) a' w' (by omega) (by rw [← hset]; exact hI')))
        · rw [getD_k k _ (by omega)] at hl ⊢
          simp only [decide_eq_true_eq] at hl ⊢
          have := hback j oj (by omega) hj e he hb
          omega
        · rw [getD_k k _ (by omega)]
          simp only [decide_eq_true_eq]
          exact hback k _ hkn ho e he hb
    refine wp_region_lit ?_
    have := key n 0 a0 w0 (by omega) (by
      have e : (List.replicate 0 true ++ List.replicate (l.toArray.size - 0) false).toArray = Array.replicate l.toArray.size false := by simp
      rw [e]
      exact TInvO.start hF (Below.refl _ _) _)
    simpa using this
end
/-! ### Lines -/
section
variable {P : Program} {w0 : World} {Γ : Ctx} {o : Oper}
theorem OpO.ex {v : Value} (h : OpOk P w0 Γ o (Ty.ex v)) : OpO P w0 Γ o (OTy.ex v) := fun a w K Q hb hs hK => h a w K Q hb hs fun u w' h1 h2 => hK u w' [] ⟨h1, rfl⟩ (by simp) h2
/-- An operation that lays a row of its own. -/
theorem OpO.new {V : OTy} (h : ∀ (a : Act) (w : World), Below w0.heap.size w0 w → SeesO Γ o a w → ∃ v w' S, V.q w' v S ∧ (∀ b ∈ S, w.heap.size ≤ b) ∧ Below w.heap.size w w' ∧ (execOp a.eval o).run P w = .ok (.value v) w') : OpO P w0 Γ o V := by
  intro a w K Q hb hs hK
  obtain ⟨v, w', S, h1, h2, h3, h4⟩ := h a w hb (sees_of hs)
  unfold Oper.wp
  rw [h4]
  exact hK v w' S h1 h2 h3
theorem cells_len {sz : Nat} : ∀ (vs : List Value), (∀ v ∈ vs, v.cells.size = sz) → ((vs.map fun v => v.cells.toList).flatten).length = vs.length * sz
  | [], _ => by simp
  | v :: vs, hv => by
    have h1 := hv v (by simp)
    rw [List.map_cons, List.flatten_cons, List.length_append, cells_len vs (fun u hu => hv u (by simp [hu])), List.length_cons, Nat.add_mul]
    simp [h1]
    omega
/-- A slice written out, of the call's own. -/
theorem oBuild {t e : TypeId} {z : Value} {sz bytes : Nat} {n : Nat} {parts : Array (Nat × Operand)} {vs : List Value} (ho : o.op = .buildSlice t n parts) (hp : ∀ (a : Act) (w : World), SeesO Γ o a w → (parts.map fun (i, x) => (i, a.eval x)) = (vs.zipIdx.map fun p => (p.2, p.1)).toArray)
    (hu : P.underlying t = some (.slice e)) (hi : (P.info? e).map (fun i => (i.zero, i.size, i.bytes)) = some (some z, sz, bytes)) (hn : vs.length = n) (hv : ∀ v ∈ vs, v.cells.size = sz) (hbig : n * sz ≤ 16777216) (hm : n ≤ maxLen) :
    OpO P w0 Γ o (OTy.seg w0 e sz n (vs.map fun v => v.cells.toList).flatten) :=
  .new fun a w hb hs => by
    have hr := run_buildSlice (P := P) n vs hu hi hn hv hbig w
    have hl : ((vs.map fun v => v.cells.toList).flatten).length = n * sz := by
      rw [cells_len vs hv, hn]
    refine ⟨.slice (some ⟨w.heap.size, 0, none⟩) n n, w.alloc (.cells (vs.map fun v => v.cells.toList).flatten.toArray e), [w.heap.size], ⟨?_, fun y hy => ?_⟩, fun y hy => ?_, ((Keeps.refl [] w).alloc _).below, ?_⟩
    · have h := Seg.ofBlk (w := w.alloc (.cells (vs.map fun v => v.cells.toList).flatten.toArray e)) (sz := sz) (cap := n) (Blk.new w e (vs.map fun v => v.cells.toList).flatten.toArray) (by simpa using hl) hm
      simpa using h
    · simp only [List.mem_singleton] at hy
      subst hy
      exact hb.size
    · simp only [List.mem_singleton] at hy
      omega
    · unfold execOp
      simp only [ho]
      rw [hp a w hs, Sem.run_bind, hr]
      rfl
theorem oBuild0 {t e : TypeId} {z : Value} {sz bytes : Nat} (ho : o.op = .buildSlice t 0 #[]) (hu : P.underlying t = some (.slice e)) (hi : (P.info? e).map (fun i => (i.zero, i.size, i.bytes)) = some (some z, sz, bytes)) : OpO P w0 Γ o (OTy.seg w0 e sz 0 []) := by
  have h := oBuild (P := P) (w0 := w0) (Γ := Γ) (vs := []) ho parts0 hu hi rfl (by simp) (by omega) (by simp [maxLen])
  simpa using h
/-- append to a row of the call's own, which is taken over. -/
theorem tkAppend {s : Nat} {x : Operand} {t e : TypeId} {z : Value} {sz bytes n m : Nat} {xs news : List Value} {τ : Ty} (ho : o.op = .call { callee := .builtin .append, args := #[.tmp s, x], argTypes := #[t, t] }) (ht : P.underlying t = some (.slice e)) (hi : (P.info? e).map (fun i => (i.zero, i.size, i.bytes)) = some (some z, sz, bytes)) (hzs : z.cells.size = sz)
    (hx : Has w0 Γ x τ) (hτ : ∀ {w : World} u, τ.p w u → ∃ A c, u = .slice A m c ∧ (A = none → m = 0) ∧ Rd w A news) (hl : news.length = m * sz) (h1 : ∀ u ∈ news, u.oneCell' = true) (h63 : n + m ≤ maxLen) (hbytes : (n + m) * bytes ≤ 140737488355328) :
    OpTk P w0 Γ o (OTy.seg w0 e sz n xs) (OTy.seg w0 e sz (n + m) (xs ++ news)) s := fun a w S0 K Q hb hs ⟨v, hv1, hv2, hv3⟩ hK => by
  obtain ⟨u, hu1, hu2⟩ := hx.see (sees_of hs) (by simp [ho, Op.operands, Call.operands]) hb
  obtain ⟨A, c, rfl, hA, hr⟩ := hτ u hu2
  refine wp_append_seg w (.tmp s) x t ho e z sz bytes ht hi hzs v n xs S0 (by simp [Act.eval, Array.getD_eq_getD_getElem?, hv1]) hv2 A m c news hu1 hl hr hA h1 h63 hbytes fun v' w' S' h2 h3 h4 => ?_
  refine hK v' w' S' ⟨h2, fun y hy => ?_⟩ (fun y hy => ?_) h3
  · rcases h4 with rfl | rfl
    · exact hv3 y hy
    · simp only [List.mem_singleton] at hy
      subst hy
      exact hb.size
  · rcases h4 with rfl | rfl
    · exact .inl hy
    · simp only [List.mem_singleton] at hy
      subst hy
      exact .inr (Nat.le_refl _)
/-- s[:k], s[k:] of a slice that is a letter. -/
theorem cSliceHiA {t e : TypeId} {x hi : Operand} {A : Option Addr} {n c k sz : Nat} {kd : IntKind} (ho : o.op = .slice t x none (some hi) none) (hx : OpT Γ x (Ty.ex (.slice A n c))) (hl : OpT Γ hi (Ty.ex (.int kd (k : Int)))) (hu : P.underlying t = some (.slice e)) (hz : (P.info? e).map (·.size) = some sz) (hk : k ≤ n) (hn : n ≤ c) (hA : A = none → c = 0) : OpOk P w0 Γ o (Ty.ex (.slice A k c)) :=
  .val fun a w _ hs => by
    obtain ⟨v, h1, h2⟩ := hs x _ (by simp [ho, Op.operands]) hx
    obtain ⟨i, h6, h7⟩ := hs hi _ (by simp [ho, Op.operands]) hl
    have h2 : v = .slice A n c := h2
    have h7 : i = .int kd (k : Int) := h7
    obtain ⟨inf, hinf, hsz⟩ := Option.map_eq_some_iff.1 hz
    refine ⟨_, rfl, ?_⟩
    unfold execOp
    have hkc : k ≤ c := by omega
    by_cases hc0 : c = 0
    · subst hc0
      obtain rfl : k = 0 := by omega
      simp [ho, h1, h2, h6, h7, Instr.sliceAt, Instr.slice, Instr.sliceBounds, Instr.sliceBound, asIntOf, run_underlying hu, sizeOf, typeInfo, hinf]
    · cases A with
      | none => exact absurd (hA rfl) hc0
      | some ad => simp [ho, h1, h2, h6, h7, Instr.sliceAt, Instr.slice, Instr.sliceBounds, Instr.sliceBound, asIntOf, run_underlying hu, sizeOf, typeInfo, hinf, hkc, Addr.add]
theorem cSliceLoA {t e : TypeId} {x lo : Operand} {A : Option Addr} {n c k sz : Nat} {kd : IntKind} (ho : o.op = .slice t x (some lo) none none) (hx : OpT Γ x (Ty.ex (.slice A n c))) (hl : OpT Γ lo (Ty.ex (.int kd (k : Int)))) (hu : P.underlying t = some (.slice e)) (hz : (P.info? e).map (·.size) = some sz) (hk : k ≤ n) : OpOk P w0 Γ o (Ty.ex (.slice (if c = k then A else A.map (·.add (k * sz))) (n - k) (c - k))) :=
  .val fun a w _ hs => by
    obtain ⟨v, h1, h2⟩ := hs x _ (by simp [ho, Op.operands]) hx
    obtain ⟨i, h6, h7⟩ := hs lo _ (by simp [ho, Op.operands]) hl
    have h2 : v = .slice A n c := h2
    have h7 : i = .int kd (k : Int) := h7
    obtain ⟨inf, hinf, hsz⟩ := Option.map_eq_some_iff.1 hz
    refine ⟨_, rfl, ?_⟩
    unfold execOp
    simp [ho, h1, h2, h6, h7, Instr.sliceAt, Instr.slice, Instr.sliceBounds, Instr.sliceBound, asIntOf, run_underlying hu, sizeOf, typeInfo, hinf, hsz, hk]
end
theorem SlP.form {w : World} {e : TypeId} {v : Value} {n : Nat} {xs : List Value} (h : SlP w e v n xs) : ∃ A c, v = .slice A n c ∧ n ≤ c ∧ c ≤ maxLen ∧ (A = none → c = 0) := by
  obtain ⟨A, c, h1, h2, h3, h4, _⟩ := h
  exact ⟨A, c, h1, h2, h3, fun e => (h4 e).2⟩
theorem SlP.takeA {w : World} {e : TypeId} {A : Option Addr} {n c : Nat} {xs : List Value} (h : SlP w e (.slice A n c) n xs) {k : Nat} (hk : k ≤ n) (m : Nat) : SlP w e (.slice A k c) k (xs.take m) := by
  obtain ⟨A', c', h1, h2, h3, h4, h5⟩ := h
  injection h1 with h1 _ h6
  subst h1 h6
  refine ⟨A, c, rfl, by omega, h3, fun h => ⟨by have := (h4 h).2; omega, (h4 h).2⟩, fun j u hu => ?_⟩
  rw [List.getElem?_take] at hu
  split at hu
  · exact h5 j u hu
  · cases hu
theorem SlP.dropA {w : World} {e : TypeId} {A : Option Addr} {n c sz : Nat} {xs : List Value} (h : SlP w e (.slice A n c) n xs) {k : Nat} (hk : k ≤ n) (hxl : xs.length = n * sz) : SlP w e (.slice (if c = k then A else A.map (·.add (k * sz))) (n - k) (c - k)) (n - k) (xs.drop (k * sz)) := by
  obtain ⟨A', c', h1, h2, h3, h4, h5⟩ := h
  injection h1 with h1 _ h6
  subst h1 h6
  refine ⟨_, c - k, rfl, by omega, by omega, fun h => ?_, fun j u hu => ?_⟩
  · split at h
    · have := h4 h; omega
    · have := h4 (by simpa using h); omega
  · rw [List.getElem?_drop] at hu
    obtain ⟨g, off, cs, fr, rfl, h8, h9⟩ := h5 _ u hu
    have hj : k * sz + j < n * sz := by rw [← hxl]; exact (List.getElem?_eq_some_iff.1 hu).1
    have hne : c ≠ k := fun h => by
      subst h
      have : n = c := by omega
      subst this
      omega
    rw [if_neg hne]
    exact ⟨g, off + k * sz, cs, fr, by simp [Addr.add_lit], h8, by rw [Nat.add_assoc]; exact h9⟩
/-- The address of an element of a slice that is a letter. -/
theorem SlP.elem {w : World} {e : TypeId} {A : Option Addr} {n c : Nat} {xs : List Value} (h : SlP w e (.slice A n c) n xs) {k : Nat} (hk : k < xs.length) : ∃ g off, A = some ⟨g, off, none⟩ ∧ ∀ m, (Ty.at_ e (xs.drop m)).p w (.pointer (some ⟨g, off + m, none⟩)) := by
  obtain ⟨A', c', h1, h2, h3, h4, h5⟩ := h
  injection h1 with h1 _ h6
  subst h1 h6
  obtain ⟨g, off, cs, fr, rfl, h7, h8⟩ := h5 k _ (List.getElem?_eq_getElem hk)
  refine ⟨g, off, rfl, fun m => ⟨g, off + m, cs, fr, rfl, h7, fun j u hu => ?_⟩⟩
  rw [List.getElem?_drop] at hu
  obtain ⟨g', off', cs', fr', e1, h9, h10⟩ := h5 _ u hu
  injection e1 with e1
  injection e1 with e1 e2
  subst e1 e2
  rw [h7] at h9
  injection h9 with h9
  injection h9 with h9
  subst h9
  rw [Nat.add_assoc]
  exact h10
end Go.Proofs.Ytbjlmhbpcopfbaa

/- Regions by types: []byte of a constant string: the row laid is then frozen. -/
namespace Go.Proofs.Ytbjlmhbpcopfbaa
open Go.RowKit

theorem freeze_block {w : World} {g k : Nat} {cs : Array Value} {e : TypeId} {fr : Nat × Nat} (h : w.heap[g]? = some (.cells cs e fr)) : Keeps [g] w (w.freeze ⟨g, k, none⟩ 1) ∧ ∃ fr', (w.freeze ⟨g, k, none⟩ 1).heap[g]? = some (.cells cs e fr') := by
  obtain ⟨lo, hi⟩ := fr
  unfold World.freeze
  rw [if_neg (by decide)]
  refine ⟨⟨rfl, rfl, rfl, by simp, fun j hj hjg => ?_⟩, if lo == hi then (k, k + 1) else (min lo k, max hi (k + 1)), ?_⟩
  · simp only [List.mem_singleton] at hjg
    simp only [Array.getElem?_modify]
    rw [if_neg (fun e => hjg e.symm)]
  · simp only [Array.getElem?_modify, if_true, h, Option.map_some]
section
variable {P : Program} {w0 : World} {Γ : Ctx} {o : Oper}
theorem run_freeze {w : World} {t e : TypeId} {g off n c : Nat} {cs : Array Value} {fr : Nat × Nat} (ht : P.underlying t = some (.slice e)) (he : P.underlying e = some (.int .u8)) (h : w.heap[g]? = some (.cells cs e fr)) : (convert t t (.slice (some ⟨g, off, none⟩) n c)).run P w = .ok (.slice (some ⟨g, off, none⟩) n c) (w.freeze ⟨g, cs.size, none⟩ 1) := by
  have hsh : w.shape? g = some (e, cs.size) := by
    unfold World.shape?
    rw [h]
  simp [convert, run_underlying ht, run_underlying he, markStringish, hsh]
/-- A row of bytes of the region's own is frozen: it reads as it did. -/
theorem tkFreeze {s : Nat} {t e : TypeId} {n : Nat} {xs : List Value} (ho : o.op = .convert t t (.tmp s)) (ht : P.underlying t = some (.slice e)) (he : P.underlying e = some (.int .u8)) (hn : 0 < n) : OpTk P w0 Γ o (OTy.seg w0 e 1 n xs) (OTy.slo e n xs) s := fun a w S0 K Q hb hs ⟨v, hv1, hv2, hv3⟩ hK => by
  rcases hv2.cases with ⟨_, h0, _⟩ | ⟨g, off, cap, rfl, rfl, hl, hnc, hcm, cs, hbl, hsz, hx⟩
  · omega
  · have h1 := run_freeze (P := P) (t := t) (off := off) (n := n) (c := cap) ht he hbl
    obtain ⟨k1, fr', k2⟩ := freeze_block (k := cs.size) hbl
    unfold Oper.wp execOp
    have ea : a.eval (.tmp s) = .slice (some ⟨g, off, none⟩) n cap := by simp [Act.eval, Array.getD_eq_getD_getElem?, hv1]
    simp only [ho, ea, Sem.run_bind, h1, Result.andThen_ok, Sem.run_pure]
    refine hK _ _ [g] ⟨g, off, cap, cs, fr', rfl, rfl, hnc, hcm, k2, fun j u hu => ?_⟩ (fun b hb => .inl hb) k1
    have hj : j < n * 1 := by rw [← hl]; exact (List.getElem?_eq_some_iff.1 hu).1
    rw [hx j hj]
    exact hu
end
end Go.Proofs.Ytbjlmhbpcopfbaa

/- A slice of bytes turned to a string; the strings of bytes. -/
namespace Go.Proofs.Ytbjlmhbpcopfbaa
open Go.RowKit

def strB (l : List Nat) : ByteArray := strOfNums (l.map Int.ofNat)
theorem run_string_rd {P : Program} (w : World) (src dst e : TypeId) (hs : P.underlying src = some (.slice e)) (he : P.underlying e = some (.int .u8)) (hd : P.underlying dst = some .string)
    (A : Option Addr) (n cap : Nat) (l : List Nat) (hl : l.length = n) (hr : Rd w A (l.map bv)) (hA : A = none → n = 0) :
    (convert src dst (.slice A n cap)).run P w = .ok (.string (strB l)) w := by
  cases A with
  | none =>
    have : l = [] := List.eq_nil_of_length_eq_zero (hl.trans (hA rfl))
    subst this
    exact run_convert_bytes_nil w src e hs he n cap dst hd
  | some a =>
    rw [run_convert_bytes_string w src dst e _ n cap hs he hd]
    have hb : l.map bv = (l.map Int.ofNat).map (Value.int .u8) := by rw [List.map_map]; rfl
    have hc := run_loadCells_list (P := P) w a (l.map bv) (fun j v hj => by
      obtain ⟨ad, e, h⟩ := hr j v hj
      injection e with e
      subst e
      exact h)
    rw [List.length_map, hl, hb] at hc
    rw [run_bytesToString w a n cap _ hc, foldl_push_bytes]
    simp [strB, strOfNums, ByteArray.empty, ByteArray.emptyWithCapacity]
    rfl
end Go.Proofs.Ytbjlmhbpcopfbaa

/- Chunks by types: constants that are laid and frozen; strings; what all statements of layer 11 tell. -/
namespace Go.Proofs.Ytbjlmhbpcopfbaa
open Go.RowKit

section
variable {P : Program} {ops : Array Oper} {Q : Exit → Act → World → Prop} {rest : List Oper} {o o2 : Oper} {a : Act} {w w0 : World} {N : Nat} {Γ : Ctx}
theorem tlGd {j s d : Nat} {V : Ty} (hF : Fr N Γ a w) (hg : o.guard = some (j, true)) (hj : slotOf ops j = some s) (hs : look Γ s = some (Ty.ex (.bool true))) (hd : o.dst = some d) (hN : decide (d < N) = true) (h : OpOk P w Γ o V) (hk : ∀ a' w', Fr N ((d, V) :: Γ) a' w' → Below w.heap.size w w' → wpList P ops Q rest a' w') : wpList P ops Q (o :: rest) a w := by
  obtain ⟨v, h1, h2⟩ := hF.val s _ hs
  have h2 : v = .bool true := h2
  subst h2
  have hw : Region.wanted o (yielded ops a.tmps) = true := by simp [Region.wanted, hg, yielded_of hj h1]
  refine wpList_step fun K hK => ?_
  rw [if_pos hw]
  exact h a w K Q (Below.refl _ _) (fun s τ _ hs => hF.val s τ hs) fun v w' hv hb => by
    rw [hd]
    exact hK _ _ (hk _ _ (hF.put (of_decide_eq_true hN) hb hv) hb)
/-- An operation whose guard, if there is one, is met. -/
def Met (ops : Array Oper) (Γ : Ctx) (o : Oper) : Prop := o.guard = none ∨ ∃ j s, o.guard = some (j, true) ∧ slotOf ops j = some s ∧ look Γ s = some (Ty.ex (.bool true))
theorem Met.step (h : Met ops Γ o) (hF : Fr N Γ a w) (hk : ∀ K : Act → World → Prop, (∀ a' w', wpList P ops Q rest a' w' → K a' w') → Oper.wp P o a w K Q) : wpList P ops Q (o :: rest) a w := by
  rcases h with h | ⟨j, s, hg, hj, hs⟩
  · exact wpList_plain h fun K hK => hk K hK
  · obtain ⟨v, h1, h2⟩ := hF.val s _ hs
    have h2 : v = .bool true := h2
    subst h2
    have hw : Region.wanted o (yielded ops a.tmps) = true := by simp [Region.wanted, hg, yielded_of hj h1]
    refine wpList_step fun K hK => ?_
    rw [if_pos hw]
    exact hk K hK
/-- []byte of a constant: laid, then frozen. -/
theorem tlConstB {d1 d2 n : Nat} {t e : TypeId} {vs : List Value} {parts : Array (Nat × Operand)} (hF : Fr N Γ a w) (hd1 : o.dst = some d1) (hN1 : decide (d1 < N) = true) (ho : o.op = .buildSlice t n parts) (hp : ∀ a : Act, (parts.map fun (i, x) => (i, a.eval x)) = (vs.zipIdx.map fun p => (p.2, p.1)).toArray) (hn : vs.length = n) (hc : ∀ v ∈ vs, v.cells = #[v]) (ht : P.underlying t = some (.slice e)) (he : P.underlying e = some (.int .u8)) (hi : (P.info? e).map (fun i => (i.zero, i.size, i.bytes)) = some (some (.int .u8 0), 1, 1))
    (hd2 : o2.dst = some d2) (hN2 : decide (d2 < N) = true) (ho2 : o2.op = .convert t t (.tmp d1)) (hm : n ≤ 1000)
    (hk : ∀ a' w', Fr N ((d2, Ty.sl e n vs) :: Γ) a' w' → Below w.heap.size w w' → wpList P ops Q rest a' w') (hΓ : look Γ d1 = none := by rfl) (g1 : Met ops Γ o := by exact .inl rfl) (g2 : Met ops Γ o2 := by exact .inl rfl) : wpList P ops Q (o :: o2 :: rest) a w := by
  have hr := run_buildSlice (P := P) (t := t) n vs ht hi hn (fun v hv => by rw [hc v hv]; rfl) (by omega) w
  have h1 : (vs.map fun v => v.cells.toList).flatten.toArray = vs.toArray := by
    have : (vs.map fun v => v.cells.toList) = vs.map fun v => [v] := List.map_congr_left fun v hv => by rw [hc v hv]
    rw [this, ← List.flatMap_def]
    simp
  rw [h1] at hr
  refine g1.step hF fun K hK => ?_
  unfold Oper.wp execOp
  simp only [ho]
  rw [hp a, Sem.run_bind, hr]
  refine hK _ _ ?_
  rw [hd1]
  have hF1 : Fr N ((d1, Ty.ex (.slice (some ⟨w.heap.size, 0, none⟩) n n)) :: Γ) (a.put (some d1) (.slice (some ⟨w.heap.size, 0, none⟩) n n)) (w.alloc (.cells vs.toArray e)) := hF.put (of_decide_eq_true hN1) ((Keeps.refl [] w).alloc _).below rfl
  have kc := Lib.run_convert_bytes_const (P := P) w t e vs.toArray n n ht he
  have g2' : Met ops ((d1, Ty.ex (.slice (some ⟨w.heap.size, 0, none⟩) n n)) :: Γ) o2 := by
    rcases g2 with h | ⟨j, s, hg, hj, hs⟩
    · exact .inl h
    · refine .inr ⟨j, s, hg, hj, ?_⟩
      rw [look_ne _ _ (fun e => by subst e; rw [hΓ] at hs; cases hs)]
      exact hs
  refine g2'.step hF1 fun K2 hK2 => ?_
  unfold Oper.wp execOp
  simp only [ho2, hF1.getEx (s := d1) (look_same _ _ _)]
  rw [Sem.run_bind, kc]
  refine hK2 _ _ ?_
  rw [hd2]
  have hb : Below w.heap.size w (w.alloc (.cells vs.toArray e (vs.toArray.size, vs.toArray.size + 1))) := ((Keeps.refl [] w).alloc _).below
  refine hk _ _ ?_ hb
  have hF0 : Fr N Γ (a.put (some d1) (.slice (some ⟨w.heap.size, 0, none⟩) n n)) (w.alloc (.cells vs.toArray e (vs.toArray.size, vs.toArray.size + 1))) := by
    refine ⟨by simp only [Act.put]; simpa using hF.size, hF.defers, fun s τ hs => ?_⟩
    have hne : d1 ≠ s := fun e => by subst e; rw [hΓ] at hs; cases hs
    obtain ⟨v, k1, k2⟩ := hF.val s τ hs
    refine ⟨v, ?_, τ.below k2 hb⟩
    simp only [Act.put]
    rw [Array.getElem?_setIfInBounds_ne hne]
    exact k1
  refine hF0.put (of_decide_eq_true hN2) (Below.refl _ _) ?_
  exact ⟨_, n, rfl, Nat.le_refl _, by simp [maxLen]; omega, fun h => (by cases h), fun j u hu => ⟨w.heap.size, 0, vs.toArray, _, rfl, heap_alloc_new w _, by rw [Nat.zero_add]; simpa using hu⟩⟩
/-- A slice of one slice, both in blocks of the region's own. -/
def OTy.slT1 (e u : TypeId) (n : Nat) (xs : List Value) : OTy := ⟨Ty.slT e 1 [Ty.sl u n xs], fun w v S => ∃ g g2 off c cs fr cs2 fr2, v = .slice (some ⟨g, 0, none⟩) 1 1 ∧ S = [g, g2] ∧ w.heap[g]? = some (.cells cs e fr) ∧ cs[0]? = some (.slice (some ⟨g2, off, none⟩) n c) ∧ n ≤ c ∧ c ≤ maxLen ∧ w.heap[g2]? = some (.cells cs2 u fr2) ∧ ∀ (j : Nat) (x : Value), xs[j]? = some x → cs2[off + j]? = some x,
  fun ⟨g, g2, off, c, cs, fr, cs2, fr2, h1, _, h3, h4, h5, h6, h7, h8⟩ => ⟨_, 1, h1, Nat.le_refl _, by simp [maxLen], fun h => (by cases h), fun j τ hj => by
    cases j with
    | zero =>
      simp only [List.getElem?_cons_zero, Option.some.injEq] at hj
      subst hj
      exact ⟨g, 0, cs, fr, _, rfl, h3, h4, ⟨_, c, rfl, h5, h6, fun h => (by cases h), fun j u hu => ⟨g2, off, cs2, fr2, rfl, h7, h8 j u hu⟩⟩⟩
    | succ j => simp at hj⟩,
  fun ⟨g, g2, off, c, cs, fr, cs2, fr2, h1, h2, h3, h4, h5, h6, h7, h8⟩ k hd => ⟨g, g2, off, c, cs, fr, cs2, fr2, h1, h2, (k.block g (Array.getElem?_eq_some_iff.1 h3).1 (hd g (by simp [h2]))).trans h3, h4, h5, h6, (k.block g2 (Array.getElem?_eq_some_iff.1 h7).1 (hd g2 (by simp [h2]))).trans h7, h8⟩,
  fun ⟨g, g2, off, c, cs, fr, cs2, fr2, h1, h2, h3, h4, h5, h6, h7, h8⟩ b hb => by
    rw [h2] at hb
    simp only [List.mem_cons, List.not_mem_nil, or_false] at hb
    rcases hb with rfl | rfl
    · exact (Array.getElem?_eq_some_iff.1 h3).1
    · exact (Array.getElem?_eq_some_iff.1 h7).1⟩
theorem tkBuildT1 {s n bytes : Nat} {t e u : TypeId} {z : Value} {xs : List Value} (ho : o.op = .buildSlice t 1 #[(0, .tmp s)]) (hu : P.underlying t = some (.slice e)) (hi : (P.info? e).map (fun i => (i.zero, i.size, i.bytes)) = some (some z, 1, bytes)) : OpTk P w0 Γ o (OTy.slo u n xs) (OTy.slT1 e u n xs) s := fun a w S0 K Q hb hs ⟨v, hv1, g2, off, c, cs2, fr2, h1, h2, h3, h4, h5, h6⟩ hK => by
  subst h1
  have hr := run_buildSlice (P := P) (t := t) 1 [.slice (some ⟨g2, off, none⟩) n c] hu hi rfl (by simp [Value.cells]) (by decide) w
  have ea : a.eval (.tmp s) = .slice (some ⟨g2, off, none⟩) n c := by simp [Act.eval, Array.getD_eq_getD_getElem?, hv1]
  unfold Oper.wp execOp
  simp only [ho]
  rw [show ((#[(0, (.tmp s : Operand))] : Array (Nat × Operand)).map fun (i, x) => (i, a.eval x)) = (([.slice (some ⟨g2, off, none⟩) n c] : List Value).zipIdx.map fun p => (p.2, p.1)).toArray by simp [ea], Sem.run_bind, hr]
  have hk : Keeps S0 w (w.alloc (.cells (([.slice (some ⟨g2, off, none⟩) n c] : List Value).map fun v => v.cells.toList).flatten.toArray e)) := (Keeps.refl S0 w).alloc _
  have hl2 := (Array.getElem?_eq_some_iff.1 h5).1
  simp only [Result.andThen_ok, Sem.run_pure]
  refine hK _ _ [w.heap.size, g2] ⟨w.heap.size, g2, off, c, _, (0, 0), cs2, fr2, rfl, rfl, heap_alloc_new w _, by simp [Value.cells], h3, h4, ?_, h6⟩ (fun b hb => ?_) hk
  · rw [((Keeps.refl [] w).alloc _).block g2 hl2 (by simp)]
    exact h5
  · simp only [List.mem_cons, List.not_mem_nil, or_false] at hb
    rcases hb with rfl | rfl
    · exact .inr (Nat.le_refl _)
    · exact .inl (by simp [h2])
/-- Bytes as a string; strings alike. -/
theorem cStrOf {src dst e : TypeId} {x : Operand} {b : List Nat} (ho : o.op = .convert src dst x) (hx : Has w0 Γ x (Ty.rdB b)) (hs : P.underlying src = some (.slice e)) (he : P.underlying e = some (.int .u8)) (hd : P.underlying dst = some .string) : OpOk P w0 Γ o (Ty.ex (.string (strB b))) :=
  .val fun a w hb hs' => by
    obtain ⟨v, h1, A, c, rfl, h2, h3, h4, h5⟩ := hx.see hs' (by simp [ho, Op.operands]) hb
    have hr := run_string_rd (P := P) w src dst e hs he hd A b.length c b rfl h5 h4
    refine ⟨_, rfl, ?_⟩
    unfold execOp
    simp only [ho, h1]
    rw [Sem.run_bind, hr]
    rfl
theorem cEqlStr {t t2 : TypeId} {x y : Operand} {s r : ByteArray} (ho : o.op = .binOp .eql t x y t2) (hx : OpT Γ x (Ty.ex (.string s))) (hy : OpT Γ y (Ty.ex (.string r))) : OpOk P w0 Γ o (Ty.ex (.bool (s.toList == r.toList))) :=
  cBin ho hx hy fun w => by simp [eqGuard, binOp, Op.stringOp]
end
theorem sl_rdB {e : TypeId} (b : List Nat) : ∀ w v, (Ty.sl e b.length (b.map bv)).p w v → (Ty.rdB b).p w v := fun w v h => by
  obtain ⟨A, c, h1, h2, h3, h4, h5⟩ := id h
  subst h1
  exact ⟨A, c, rfl, h2, h3, fun hA => (h4 hA).1, SlP.rd h⟩
theorem bv_cells (l : List Nat) : ∀ v ∈ l.map bv, v.cells = #[v] := fun v hv => by
  obtain ⟨x, _, rfl⟩ := List.mem_map.1 hv
  rfl
theorem infoU8c : (Try.prog.info? 5).map (fun i => (i.zero, i.size, i.bytes)) = some (some (.int .u8 0), 1, 1) := by kernel_rfl
abbrev tenB : List Nat := [48, 49, 50, 51, 52, 53, 54, 55, 56, 57]
theorem ten_str : ((strB tenB).toList == ({ data := #[48, 49, 50, 51, 52, 53, 54, 55, 56, 57] } : ByteArray).toList) = true := by
  have e : strB tenB = ({ data := #[48, 49, 50, 51, 52, 53, 54, 55, 56, 57] } : ByteArray) := rfl
  rw [e]
  exact beq_self_eq_true _
theorem ten_cut : pcsB tenB = [tenB] := by decide +kernel
set_option maxRecDepth 100000 in
set_option maxHeartbeats 1000000 in
theorem awake11_ty : Fn0 Try.prog 7 (Ty.ex (.bool true)) := by
  refine ⟨fun args w => by kernel_rfl, fun w => ?_⟩
  have hO := sumOf1_ty (e := 22) (τ := Ty.sl 5 10 (tenB.map bv)) tenB (reads_sl _ _ _) (by simp) (by simp)
  have hC := ccut_ty tenB (by decide) (by simp)
  have hG := goodq_ty (shaS tenB, tenB) (by simp) (by decide)
  have e1 : cutQ tenB = [(shaS tenB, tenB)] := by unfold cutQ; rw [ten_cut]; rfl
  have e2 : goodQ (shaS tenB, tenB) = true := by simp [goodQ]
  rw [e1] at hC
  rw [e2] at hG
  have e3 : shaL tenB = (shaS tenB).l := rfl
  rw [e3] at hO
  generalize shaS tenB = X at *
  clear e1 e2 e3
  refine enter_ty 33 [] Try.func7 rfl (by kernel_rfl) trivial fun a hF => ?_
  have hB := Below.refl w.heap.size w
  repeat with_reducible refine wp_seq ?_
  refine' reg_all hF ?_ mixed (by kernel_rfl) ?_
  rotate_left
  · repeat (first | exact Line.nil | ((refine' Line.cons rfl (.run rfl rfl ?_) ?_); (any_goals exact cAssign rfl rfl); rotate_left))
  intro a w1 hF hb hN
  have hBs := hB.size
  replace hB := hB.trans (hb.mono hB.size)
  dsimp only [ext, Option.getD] at hF
  repeat with_reducible first | refine wp_seq ?_ | refine nThen ?_
  refine wp_region_lit ?_
  refine tlConstB (n := 10) (vs := tenB.map bv) (hF.keep [0]) rfl rfl rfl (fun a => by simp [Act.eval, bv]) rfl (bv_cells _) Try.underlying22 Try.underlying5 infoU8c rfl rfl rfl (by decide) ?_
  intro a w3 hF hb
  replace hB := hB.trans (hb.mono hB.size)
  refine' tlOp hF rfl rfl rfl ?_ ?_
  rotate_left
  · exact cCallH1 rfl (Has.c (.t rfl) (sl_rdB tenB)) hC
  intro a w4 hF hb
  have hBs := hB.size
  replace hB := hB.trans (hb.mono hB.size)
  try (refine wpList_nil ?_)
  refine' tlOp hF rfl rfl rfl ?_ ?_
  rotate_left
  · exact cAssign rfl rfl
  intro a w5 hF hb
  have hBs := hB.size
  replace hB := hB.trans (hb.mono hB.size)
  try (refine wpList_nil ?_)
  repeat with_reducible first | refine wp_seq ?_ | refine nThen ?_
  obtain ⟨v1, ⟨L, ⟨hLl, hLQ⟩, hsl⟩, hF⟩ := hF.open (s := 1) rfl
  have hL0 := hLQ 0 (by simp)
  have hlen : L.length = 1 := hLl
  obtain ⟨l0, rfl⟩ : ∃ l0, L = [l0] := List.length_eq_one_iff.1 hlen
  obtain ⟨x0, u⟩ := l0
  obtain ⟨hx0, hu0⟩ := hL0
  have hx0 : x0 = X := hx0
  have hu0 : (Ty.rdB tenB).p w5 u := hu0
  subst hx0
  have hat := hsl
  obtain ⟨A, c, rfl, hc1, hc2, hcA, hcell⟩ := hsl
  obtain ⟨g, off, cs, fr, rfl, -, -⟩ := hcell 0 _ (List.getElem?_eq_getElem (by rw [flatQ_len]; simp))
  have hrd := SlP.rd hat
  have e0 : flatQ [(x0, u)] = x0.enc ++ [u] := by rw [flatQ_cons]; simp [flatQ]
  rw [e0] at hrd
  have hsA := rdB_slice hu0
  have hpP : (Ty.atR (x0.enc ++ [u])).p w5 (.pointer (some ⟨g, off + 0 * 33, none⟩)) := ⟨_, rfl, by rw [Nat.zero_mul, Nat.add_zero]; exact hrd, by simp⟩
  have hpB : (Ty.atR [u]).p w5 (.pointer (some ⟨g, off + 0 * 33 + 32, none⟩)) := by
    have h := rd_add hrd 32
    rw [List.drop_append, encL, List.drop_of_length_le (Nat.le_of_eq (encL _)), List.nil_append, Nat.sub_self, List.drop_zero] at h
    exact ⟨_, rfl, by rw [Nat.zero_mul, Nat.add_zero]; exact h, by simp⟩
  have hpS : (Ty.atR x0.enc).p w5 (.pointer (some ⟨g, off + 0 * 33 + 0, none⟩)) := ⟨_, rfl, by rw [Nat.zero_mul, Nat.add_zero]; exact rd_pre hrd, fun h => by have := congrArg List.length h; rw [encL] at this; cases this⟩
  have hpC : (Ty.pc (x0, tenB)).p w5 (.agg (pcA x0 u)) := ⟨u, rfl, hu0⟩
  clear hcell
  refine' region_own 29 [(23, 27), (24, 28)] mixed (by kernel_rfl) hF ?_ ?_
  rotate_left
  · simp only [List.take_succ_cons, List.take_zero]
    repeat (first
        | exact LineO.nil
        | (refine' LineO.cons rfl rfl (.no rfl rfl rfl rfl rfl) ?_; rotate_left)
        | ((first | refine' LineO.cons rfl rfl (.run rfl ?_) ?_ | refine' LineO.cons rfl rfl (.yes rfl rfl rfl ?_) ?_)
           any_goals (first | exact .ex (cMove rfl rfl) | exact .ex (cAssign rfl rfl) | exact .ex (cLenEx rfl rfl Try.underlying24) | exact .ex (cIndexEx (k := 0) (sz := 33) rfl rfl rfl Try.underlying24 sizePc (by simp)) | exact .ex (cLoadQX rfl (.l rfl hpP) Try.underlying29 rfl sizePc) | exact .ex (cCallH1 rfl (.l rfl hpC) hG) | exact .ex (cFieldExE rfl rfl Try.underlying29 rfl sizeB1) | exact .ex (cFieldExE rfl rfl Try.underlying29 rfl sizeS) | exact .ex (cLoad1 rfl (.l rfl hpB) (pts_atR _) Try.underlying22 rfl) | exact .ex (cLoadSumR rfl (.l rfl hpS) Try.underlying27 sizeS) | exact .ex (cStrOf rfl (.l rfl hu0) Try.underlying22 Try.underlying5 Try.underlying9) | exact .ex (OpOk.b (c := true) (cEqlStr rfl rfl rfl) ten_str) | exact oBuild (vs := tenB.map bv) rfl (fun a w _ => by simp [Act.eval, bv]) Try.underlying22 infoU8c rfl (fun v hv => by rw [bv_cells _ v hv]; rfl) (by decide) (by simp [maxLen]) | exact .ex (cCall1 rfl rfl hO) | exact .ex (OpOk.b (c := true) (cEqlAgg rfl rfl rfl guardS (eqlS _ _)) (decide_eq_true rfl)) | exact .ex (cPickT rfl rfl rfl) | exact .ex (cEql rfl rfl rfl))
           rotate_left)
        | ((first | refine' LineO.take rfl rfl rfl (.run rfl ?_) ?_ | refine' LineO.take rfl rfl rfl (.yes rfl rfl rfl ?_) ?_)
           any_goals (first | exact tkFreeze rfl Try.underlying22 Try.underlying5 (by decide) | exact tkBuildT1 rfl Try.underlying57 infoB)
           rotate_left))
  intro a w6 hF hb hN
  have hBs := hb.size
  replace hB := hB.trans (hb.mono hB.size)
  simp only [List.take_succ_cons, List.take_zero, List.drop_succ_cons, List.drop_zero] at hF hN ⊢
  dsimp only [hideT, List.foldr, extO, Option.getD, OTy.ex, OTy.seg, OTy.slo, OTy.var] at hF
  refine wpList_nil ?_
  repeat with_reducible first | refine nThen ?_ | refine wp_ret ?_
  refine ret1 hF rfl rfl fun z hz => ?_
  exact ⟨z, rfl, hz, hB⟩
end Go.Proofs.Ytbjlmhbpcopfbaa

/- Walks of the reference's Next and Ends, of any rule. -/
namespace Go.Proofs.Ytbjlmhbpcopfbaa
open Go.RowKit

theorem refNext_any (mn mx wd : Int) (mask want : Nat) (A : Option Addr) (n cap : Nat) (b : List Nat) (w : World) (hl : b.length = n) (hmc : n ≤ cap) (hr : Rd w A (b.map bv)) (hA : A = none → n = 0) (hx : ∀ x ∈ b, x < 256) (hn : n ≤ maxLen)
    (hm : mask < 18446744073709551616) :
    Calls Try.prog 46 #[.agg #[.int .i64 mn, .int .i64 mx, .int .i64 wd, .int .u64 mask, .int .u64 want], .slice A n cap] w fun e w' => e = .returned (.int .i64 (nextR mn mx wd mask want b : Nat)) ∧ Below w.heap.size w w' := by
  by_cases hg : goodS mn mx wd = true
  · obtain ⟨mn, mx, wd, rfl, rfl, rfl⟩ := good_cast hg
    unfold nextR
    rw [if_pos hg]
    exact refNext_go mn mx wd mask want A n cap b w hg hl hmc hr hA hx hn hm
  · unfold nextR
    rw [if_neg hg]
    have hg' : goodS mn mx wd = false := by simpa using hg
    unfold maxLen at hn
    go_enter Try.func46, Try.ntmps46
    go_wp2_with (go_at_call 45; refine (refGood_any _ _ _ _ _ _).mono ?_; rintro e w1 ⟨rfl, hb⟩; rw [hg'])
    go_ret
    exact ⟨rfl, ((Below.refl _ _).alloc (Nat.le_refl _) (.cells #[.int .i64 mn, .int .i64 mx, .int .i64 wd, .int .u64 mask, .int .u64 want] 68)).trans (hb.mono (by simp))⟩

theorem refEnds_go (mn mx wd : Int) (mask want : Nat) (A : Option Addr) (n cap : Nat) (b : List Nat) (w : World) (hg : goodS mn mx wd = true) (hl : b.length = n) (hmc : n ≤ cap) (hr : Rd w A (b.map bv)) (hA : A = none → n = 0) (hx : ∀ x ∈ b, x < 256) (hn : n ≤ 4000)
    (hm : mask < 18446744073709551616) :
    Calls Try.prog 28 #[.agg #[.int .i64 mn, .int .i64 mx, .int .i64 wd, .int .u64 mask, .int .u64 want], .slice A n cap] w fun e w' => ∃ v S, e = .returned v ∧ Seg w' 3 1 v (endsR mn mx wd mask want b).length ((endsR mn mx wd mask want b).map iv) S ∧ (∀ x ∈ S, w.heap.size ≤ x) ∧ Below w.heap.size w w' := by
  have hE : endsR mn mx wd mask want b = ends (nextR mn mx wd mask want) 0 b := by unfold endsR; rw [if_pos hg]
  rw [hE]
  have hnx := nextR_f mask want hg
  have hR0 : Blk (w.alloc (.cells #[.int .i64 mn, .int .i64 mx, .int .i64 wd, .int .u64 mask, .int .u64 want] 68)) w.heap.size 68 #[.int .i64 mn, .int .i64 mx, .int .i64 wd, .int .u64 mask, .int .u64 want] := Blk.new w _ _
  have hB0 : Below w.heap.size w (w.alloc (.cells #[.int .i64 mn, .int .i64 mx, .int .i64 wd, .int .u64 mask, .int .u64 want] 68)) := (Below.refl _ _).alloc (Nat.le_refl _) _
  go_enter Try.func28, Try.ntmps28
  go_wp2_with fail
  generalize w.alloc (.cells #[.int .i64 mn, .int .i64 mx, .int .i64 wd, .int .u64 mask, .int .u64 want] 68) = w1 at *
  have hRlt := hR0.lt
  go_loopw [5, 6] (fun o i wr => ∃ (k : Nat) (l : List Nat) (S : List Nat), k ≤ n ∧ l.length ≤ k ∧ i = .int .i64 k ∧ Seg wr 3 1 o l.length (l.map iv) S ∧ (∀ x ∈ S, w1.heap.size ≤ x) ∧ Below w1.heap.size w1 wr ∧ ends (nextR mn mx wd mask want) 0 b = l ++ ends (nextR mn mx wd mask want) k (b.drop k)) (fun _ i _ => n - (intOf i).toNat)
  case atStart => exact ⟨0, [], [], Nat.zero_le _, Nat.le_refl _, rfl, Seg.nil _ _ _, by simp, Below.refl _ _, rfl⟩
  case round =>
    obtain ⟨k, l, S, hk, hlk, rfl, hO, hS, hB2, hEk⟩ := hrel
    obtain ⟨oA, oC, rfl, hOf⟩ := hO.form
    have HE := Lib.hid hEk
    clear hEk
    by_cases hlt : k < n
    · have hR2 := hR0.keeps (Keeps.of_below (S := []) hB2) (by simp)
      have q0 : wr.cell? ⟨w.heap.size, 0, none⟩ = some (.int .i64 mn) := hR2.cell 0
      have q1 : wr.cell? ⟨w.heap.size, 1, none⟩ = some (.int .i64 mx) := hR2.cell 1
      have q2 : wr.cell? ⟨w.heap.size, 2, none⟩ = some (.int .i64 wd) := hR2.cell 2
      have q3 : wr.cell? ⟨w.heap.size, 3, none⟩ = some (.int .u64 mask) := hR2.cell 3
      have q4 : wr.cell? ⟨w.heap.size, 4, none⟩ = some (.int .u64 want) := hR2.cell 4
      have hdl : (b.drop k).length = n - k := by rw [List.length_drop]; omega
      have hf := hnx (b.drop k) (by omega)
      have hB3 := hB0.trans (hB2.mono hB0.size)
      have hr2 := (hr.below hB3).dropAt k
      rw [← List.map_drop] at hr2
      have hx2 : ∀ x ∈ b.drop k, x < 256 := fun x h => hx x (List.mem_of_mem_drop h)
      obtain ⟨ad, rfl⟩ : ∃ ad, A = some ad := by
        cases A with
        | none => exact absurd (hA rfl) (by omega)
        | some ad => exact ⟨ad, rfl⟩
      have hcl : cap ≠ k := by omega
      have hst := Lib.hid (ends_step (nextR mn mx wd mask want) hnx k (b.drop k) (by omega))
      have hdd : (b.drop k).drop (nextR mn mx wd mask want (b.drop k)) = b.drop (k + nextR mn mx wd mask want (b.drop k)) := by rw [List.drop_drop]
      have hNx := fun (w0 : World) (h0 : Rd w0 (some (ad.add k)) ((b.drop k).map bv)) => refNext_any mn mx wd mask want (some (ad.add k)) (n - k) (cap - k) (b.drop k) w0 hdl (by omega) h0 (by simp) hx2 (by simp only [maxLen]; omega) hm
      rw [hdd] at hst
      clear hdd
      generalize hfx : nextR mn mx wd mask want (b.drop k) = f at *
      have hwp : IntKind.i64.wrap ((k : Int) + (f : Int)) = ((k + f : Nat) : Int) := by simp [IntKind.wrap, IntKind.bits, IntKind.signed]; omega
      go_wp2_with fail
      refine (refGood_any mn mx wd mask want _).mono ?_
      rintro e w5 ⟨rfl, hBg⟩
      rw [hg]
      replace hr2 := hr2.below hBg
      replace hO := hO.below hBg
      replace hB2 := hB2.trans (hBg.mono hB2.size)
      replace hR2 := hR2.below hBg
      clear q0 q1 q2 q3 q4 hB3 hOf
      have q0 : w5.cell? ⟨w.heap.size, 0, none⟩ = some (.int .i64 mn) := hR2.cell 0
      have q1 : w5.cell? ⟨w.heap.size, 1, none⟩ = some (.int .i64 mx) := hR2.cell 1
      have q2 : w5.cell? ⟨w.heap.size, 2, none⟩ = some (.int .i64 wd) := hR2.cell 2
      have q3 : w5.cell? ⟨w.heap.size, 3, none⟩ = some (.int .u64 mask) := hR2.cell 3
      have q4 : w5.cell? ⟨w.heap.size, 4, none⟩ = some (.int .u64 want) := hR2.cell 4
      go_wp2_with fail
      go_region_held3 (fun w' => w'.cell? ⟨w.heap.size, 0, none⟩ = some (.int .i64 mn) ∧ w'.cell? ⟨w.heap.size, 1, none⟩ = some (.int .i64 mx) ∧ w'.cell? ⟨w.heap.size, 2, none⟩ = some (.int .i64 wd) ∧ w'.cell? ⟨w.heap.size, 3, none⟩ = some (.int .u64 mask) ∧ w'.cell? ⟨w.heap.size, 4, none⟩ = some (.int .u64 want)) (first | assumption | go_keep)
        (first
          | (go_at_call 46
             refine (hNx _ hr2.drew).mono ?_
             rintro e w2 ⟨rfl, hB4⟩
             have hB5 : Below w1.heap.size w1 w2 := hB2.drew.trans (hB4.mono hB2.size)
             have hR3 := hR0.keeps (Keeps.of_below (S := []) hB5) (by simp)
             have p0 : w2.cell? ⟨w.heap.size, 0, none⟩ = some (.int .i64 mn) := hR3.cell 0
             have p1 : w2.cell? ⟨w.heap.size, 1, none⟩ = some (.int .i64 mx) := hR3.cell 1
             have p2 : w2.cell? ⟨w.heap.size, 2, none⟩ = some (.int .i64 wd) := hR3.cell 2
             have p3 : w2.cell? ⟨w.heap.size, 3, none⟩ = some (.int .u64 mask) := hR3.cell 3
             have p4 : w2.cell? ⟨w.heap.size, 4, none⟩ = some (.int .u64 want) := hR3.cell 4))
      have hO2 := (hO.drew).below hB4
      clear p0 p1 p2 p3 p4 q0 q1 q2 q3 q4
      go_wp2_with (at_builtin; refine wpList_append_seg _ rfl (.tmp 22) (.tmp 24) 31 rfl 3 (.int .i64 0) 1 8 Try.underlying31 info_int rfl (.slice oA l.length oC) l.length (l.map iv) S rfl (hO2.alloc _) (some ⟨w2.heap.size, 0, none⟩) 1 1 [iv (k + f)] rfl rfl (Rd.of_blk0 (Blk.new _ _ #[iv (k + f)])) (by simp) (by simp [iv, Value.oneCell']) (by simp only [maxLen]; omega) (by omega) ?_)
      intro v' w3 S' hseg hK hSS
      have hB6 : Below w1.heap.size w1 w3 := by
        have h1 : Keeps [] w1 w2 := Keeps.of_below hB5
        exact ((h1.alloc (.cells #[iv (k + f)] 3)).trans' hK (fun x hx => .inr (hS x hx))).below
      have hS' : ∀ x ∈ S', w1.heap.size ≤ x := by
        rcases hSS with rfl | rfl
        · exact hS
        · have := hB5.size; intro x hx; simp at hx; omega
      obtain ⟨A', C', rfl, _⟩ := hseg.form
      go_wp2_with fail
      go_roundw
      case rel =>
        refine ⟨k + f, l ++ [k + f], S', by omega, by simp; omega, by go_num, ?_, hS', hB6, ?_⟩
        · rw [List.length_append, List.map_append]; exact hseg
        · rw [HE.out, hst.out]; simp
      case measure => simp [intOf]; omega
    · obtain rfl : k = n := by omega
      rw [List.drop_of_length_le (by omega), ends_nil, List.append_nil] at HE
      go_wp2_with fail
      go_ret
      refine ⟨_, S, rfl, ?_, ?_, hB0.trans (hB2.mono hB0.size)⟩
      · rw [HE.out]; exact hO
      · intro x hx; have := hS x hx; omega

theorem refEnds_any (mn mx wd : Int) (mask want : Nat) (A : Option Addr) (n cap : Nat) (b : List Nat) (w : World) (hl : b.length = n) (hmc : n ≤ cap) (hr : Rd w A (b.map bv)) (hA : A = none → n = 0) (hx : ∀ x ∈ b, x < 256) (hn : n ≤ 4000)
    (hm : mask < 18446744073709551616) :
    Calls Try.prog 28 #[.agg #[.int .i64 mn, .int .i64 mx, .int .i64 wd, .int .u64 mask, .int .u64 want], .slice A n cap] w fun e w' => ∃ v S, e = .returned v ∧ Seg w' 3 1 v (endsR mn mx wd mask want b).length ((endsR mn mx wd mask want b).map iv) S ∧ (∀ x ∈ S, w.heap.size ≤ x) ∧ Below w.heap.size w w' := by
  by_cases hg : goodS mn mx wd = true
  · exact refEnds_go mn mx wd mask want A n cap b w hg hl hmc hr hA hx hn hm
  · have hE : endsR mn mx wd mask want b = [] := by unfold endsR; rw [if_neg hg]
    have hg' : goodS mn mx wd = false := by simpa using hg
    rw [hE]
    have hR0 : Blk (w.alloc (.cells #[.int .i64 mn, .int .i64 mx, .int .i64 wd, .int .u64 mask, .int .u64 want] 68)) w.heap.size 68 #[.int .i64 mn, .int .i64 mx, .int .i64 wd, .int .u64 mask, .int .u64 want] := Blk.new w _ _
    have hB0 : Below w.heap.size w (w.alloc (.cells #[.int .i64 mn, .int .i64 mx, .int .i64 wd, .int .u64 mask, .int .u64 want] 68)) := (Below.refl _ _).alloc (Nat.le_refl _) _
    go_enter Try.func28, Try.ntmps28
    go_wp2_with fail
    generalize w.alloc (.cells #[.int .i64 mn, .int .i64 mx, .int .i64 wd, .int .u64 mask, .int .u64 want] 68) = w1 at *
    have hRlt := hR0.lt
    by_cases hn0 : 0 < n
    · have q0 : w1.cell? ⟨w.heap.size, 0, none⟩ = some (.int .i64 mn) := hR0.cell 0
      have q1 : w1.cell? ⟨w.heap.size, 1, none⟩ = some (.int .i64 mx) := hR0.cell 1
      have q2 : w1.cell? ⟨w.heap.size, 2, none⟩ = some (.int .i64 wd) := hR0.cell 2
      have q3 : w1.cell? ⟨w.heap.size, 3, none⟩ = some (.int .u64 mask) := hR0.cell 3
      have q4 : w1.cell? ⟨w.heap.size, 4, none⟩ = some (.int .u64 want) := hR0.cell 4
      go_loopw [5, 6] (fun o i wr => o = .slice none 0 0 ∧ i = .int .i64 0 ∧ wr = w1) (fun _ _ _ => 0)
      case atStart => exact ⟨rfl, rfl, rfl⟩
      case round =>
        obtain ⟨rfl, rfl, rfl⟩ := hrel
        go_wp2_with fail
        refine (refGood_any mn mx wd mask want _).mono ?_
        rintro e w5 ⟨rfl, hBg⟩
        rw [hg']
        go_wp2_with fail
        go_ret
        exact ⟨_, [], rfl, Seg.nil _ _ _, by simp, hB0.trans (hBg.mono hB0.size)⟩
    · go_loopw [5, 6] (fun o i wr => o = .slice none 0 0 ∧ i = .int .i64 0 ∧ wr = w1) (fun _ _ _ => 0)
      case atStart => exact ⟨rfl, rfl, rfl⟩
      case round =>
        obtain ⟨rfl, rfl, rfl⟩ := hrel
        go_wp2_with fail
        go_ret
        exact ⟨_, [], rfl, Seg.nil _ _ _, by simp, hB0⟩
end Go.Proofs.Ytbjlmhbpcopfbaa

/- Walks of layer 6: awake; the laws. -/
namespace Go.Proofs.Ytbjlmhbpcopfbaa
open Go.RowKit

end Go.Proofs.Ytbjlmhbpcopfbaa

/- Layer 6: the walk of CutLocal; its plain law. -/
namespace Go.Proofs.Ytbjlmhbpcopfbaa
open Go.RowKit

end Go.Proofs.Ytbjlmhbpcopfbaa

/- Layer 6: the walk of CutFew; its plain law. -/
namespace Go.Proofs.Ytbjlmhbpcopfbaa
open Go.RowKit

end Go.Proofs.Ytbjlmhbpcopfbaa

/- Layer 6: the walk of CutPlain; its plain law. -/
namespace Go.Proofs.Ytbjlmhbpcopfbaa
open Go.RowKit

end Go.Proofs.Ytbjlmhbpcopfbaa

/- Layer 6: the walk of CutSays. -/
namespace Go.Proofs.Ytbjlmhbpcopfbaa
open Go.RowKit

end Go.Proofs.Ytbjlmhbpcopfbaa

/- Layer 6: the walk of CutAgain; its plain law. -/
namespace Go.Proofs.Ytbjlmhbpcopfbaa
open Go.RowKit

theorem ends_shift (f : List Nat → Nat) (hf : ∀ b : List Nat, b.length ≠ 0 → 1 ≤ f b ∧ f b ≤ b.length) : ∀ (n s d : Nat) (b : List Nat), b.length ≤ n → ends f (d + s) b = (ends f s b).map (d + ·) := by
  intro n
  induction n with
  | zero =>
    intro s d b h
    obtain rfl : b = [] := List.eq_nil_of_length_eq_zero (by omega)
    rfl
  | succ n ih =>
    intro s d b h
    by_cases hb : b.length = 0
    · obtain rfl : b = [] := List.eq_nil_of_length_eq_zero hb
      rfl
    · have := hf b hb
      rw [ends_step f hf _ b hb, ends_step f hf s b hb, List.map_cons, Nat.add_assoc, ih (s + f b) d _ (by rw [List.length_drop]; omega)]
end Go.Proofs.Ytbjlmhbpcopfbaa

/- Chunks plainly: the pieces one behind the other; cutting on behind a whole piece. -/
namespace Go.Proofs.Ytbjlmhbpcopfbaa

def fP (b : List Nat) : Nat := nextR 16 128 8 31 7 b
theorem fP_f : ∀ b : List Nat, b.length ≠ 0 → 1 ≤ fP b ∧ fP b ≤ b.length := nextR_f 31 7 (by decide)
theorem fP_S (b : List Nat) : fP b = nextS 16 128 8 31 7 b := by
  unfold fP nextR
  rw [if_pos (by decide)]
  rfl
theorem pcsB_nil : pcsB [] = [] := by decide +kernel
theorem pcsB_step (b : List Nat) (hb : b.length ≠ 0) : pcsB b = b.take (fP b) :: pcsB (b.drop (fP b)) := by
  have hg : goodS 16 128 8 = true := by decide
  have e1 : ∀ c : List Nat, endsR 16 128 8 31 7 c = ends fP 0 c := fun c => by unfold endsR; rw [if_pos hg]; rfl
  unfold pcsB
  rw [e1, e1, ends_step fP fP_f 0 b hb, Nat.zero_add]
  have h2 := ends_shift fP fP_f _ 0 (fP b) (b.drop (fP b)) (Nat.le_refl _)
  rw [Nat.add_zero] at h2
  rw [h2]
  generalize ends fP 0 (b.drop (fP b)) = E
  unfold partsS
  rw [List.length_cons, List.length_map, List.range_succ_eq_map, List.map_cons, List.map_map]
  congr 1
  refine List.map_congr_left fun i hi => ?_
  have hi := List.mem_range.1 hi
  have g1 : ((E.map (fP b + ·))).getD i 0 = fP b + E.getD i 0 := by simp [List.getD, List.getElem?_map, List.getElem?_eq_getElem hi]
  have g2 : (fP b :: (E.map (fP b + ·))).getD i 0 = fP b + (0 :: E).getD i 0 := by
    cases i with
    | zero => rfl
    | succ i => simp [List.getD, List.getElem?_eq_getElem (show i < E.length by omega)]
  show ((b.take ((E.map (fP b + ·)).getD i 0)).drop ((fP b :: (E.map (fP b + ·))).getD i 0)) = (((b.drop (fP b)).take (E.getD i 0)).drop ((0 :: E).getD i 0))
  rw [g1, g2, ← List.drop_drop, List.drop_take, Nat.add_sub_cancel_left]
theorem pcsB_ind (M : List Nat → Prop) (h0 : M []) (h1 : ∀ b, b.length ≠ 0 → M (b.drop (fP b)) → M b) : ∀ b, M b := by
  have key : ∀ n b, b.length ≤ n → M b := by
    intro n
    induction n with
    | zero =>
      intro b h
      obtain rfl : b = [] := List.eq_nil_of_length_eq_zero (by omega)
      exact h0
    | succ n ih =>
      intro b h
      by_cases hb : b.length = 0
      · obtain rfl : b = [] := List.eq_nil_of_length_eq_zero hb
        exact h0
      · have := fP_f b hb
        exact h1 b hb (ih _ (by rw [List.length_drop]; omega))
  exact fun b => key b.length b (Nat.le_refl _)
theorem fP_most (b : List Nat) : fP b ≤ 128 := by
  have h := nextS_bounds 16 128 8 31 7 b (by omega) (by omega)
  rw [← fP_S] at h
  omega
theorem pcsB_size (b : List Nat) : ∀ p ∈ pcsB b, 1 ≤ p.length ∧ p.length ≤ 128 := by
  refine pcsB_ind (fun b => ∀ p ∈ pcsB b, 1 ≤ p.length ∧ p.length ≤ 128) (by rw [pcsB_nil]; simp) (fun b hb ih p hp => ?_) b
  rw [pcsB_step b hb, List.mem_cons] at hp
  rcases hp with rfl | hp
  · have h1 := fP_f b hb
    have h2 := fP_most b
    rw [List.length_take]
    omega
  · exact ih p hp
end Go.Proofs.Ytbjlmhbpcopfbaa

/- Chunks: the walk of ChunkShares. -/
namespace Go.Proofs.Ytbjlmhbpcopfbaa
open Go.RowKit

theorem wp_cut {P : Program} {c : Code} {R S : Act → World → Prop} {Q : Exit → Act → World → Prop} {a : Act} {w : World} (h : c.wp P (Exit.then R Q) a w) (hm : ∀ a w, R a w → S a w) : c.wp P (Exit.then S Q) a w :=
  wp_mono h fun e a w hh => by cases e <;> first | exact hm _ _ hh | exact hh
theorem getD_app {α : Type} {A B : List α} {k : Nat} (d : α) (h : k < A.length) : (A ++ B).getD k d = A.getD k d := by
  simp [List.getD, List.getElem?_append_left h]
theorem rdB_news {w : World} {b : List Nat} : ∀ u, (Ty.rdB b).p w u → ∃ A c, u = .slice A b.length c ∧ (A = none → b.length = 0) ∧ Rd w A (b.map bv) := fun _ ⟨A, c, h1, _, _, h4, h5⟩ => ⟨A, c, h1, h4, h5⟩
theorem bv_oneC (b : List Nat) : ∀ u ∈ b.map bv, u.oneCell' = true := fun u hu => by
  obtain ⟨x, _, rfl⟩ := List.mem_map.1 hu
  rfl
theorem seg_rdB {w : World} {v : Value} {b : List Nat} {S : List Nat} (h : Seg w 5 1 v b.length (b.map bv) S) : (Ty.rdB b).p w v := sl_rdB b w v h.sl
end Go.Proofs.Ytbjlmhbpcopfbaa

/- Chunks: lines for the document's own: a slice of a slice that is read, bytes laid behind nothing, pieces with their bytes in memory of bytes. -/
namespace Go.Proofs.Ytbjlmhbpcopfbaa
open Go.RowKit

section
variable {P : Program} {w0 : World} {Γ : Ctx} {o : Oper}
/-- xs[lo:hi] of bytes that are read. -/
theorem cSliceRd {t e : TypeId} {x lo hi : Operand} {b : List Nat} {k j : Nat} {kd kd2 : IntKind} (ho : o.op = .slice t x (some lo) (some hi) none) (hx : Has w0 Γ x (Ty.rdB b)) (hl : OpT Γ lo (Ty.ex (.int kd (k : Int)))) (hh : OpT Γ hi (Ty.ex (.int kd2 (j : Int)))) (hu : P.underlying t = some (.slice e)) (hz : (P.info? e).map (·.size) = some 1) (hk : k ≤ j) (hj : j ≤ b.length) : OpOk P w0 Γ o (Ty.rdB ((b.take j).drop k)) :=
  .val fun a w hb hs => by
    obtain ⟨v, h1, A, c, rfl, h2, h3, h4, h5⟩ := hx.see hs (by simp [ho, Op.operands]) hb
    obtain ⟨i, h6, h7⟩ := hs lo _ (by simp [ho, Op.operands]) hl
    obtain ⟨i2, h8, h9⟩ := hs hi _ (by simp [ho, Op.operands]) hh
    have h7 : i = .int kd (k : Int) := h7
    have h9 : i2 = .int kd2 (j : Int) := h9
    obtain ⟨inf, hinf, hsz⟩ := Option.map_eq_some_iff.1 hz
    have hlen : ((b.take j).drop k).length = j - k := by rw [List.length_drop, List.length_take]; omega
    have hjc : j ≤ c := by omega
    have hr : ∃ A', (Instr.sliceAt t (.slice A b.length c) (some (.int kd (k : Int))) (some (.int kd2 (j : Int))) none).run P w = .ok (.slice A' (j - k) (c - k)) w ∧ (A' = none → j - k = 0) ∧ Rd w A' (((b.take j).drop k).map bv) := by
      cases A with
      | none =>
        have h0 := h4 rfl
        have hj0 : j = 0 := by omega
        have hk0 : k = 0 := by omega
        subst hj0 hk0
        refine ⟨none, ?_, fun _ => rfl, Rd.nil _ _⟩
        simp [Instr.sliceAt, Instr.slice, Instr.sliceBounds, Instr.sliceBound, asIntOf, run_underlying hu, sizeOf, typeInfo, hinf]
      | some ad =>
        by_cases hkc : c = k
        · have hjk : j = k := by omega
          subst hjk
          subst hkc
          refine ⟨some ad, ?_, fun _ => by omega, ?_⟩
          · simp [Instr.sliceAt, Instr.slice, Instr.sliceBounds, Instr.sliceBound, asIntOf, run_underlying hu, sizeOf, typeInfo, hinf]
          · have e0 : (b.take c).drop c = [] := List.drop_of_length_le (by rw [List.length_take]; omega)
            rw [e0]
            exact Rd.nil _ _
        · refine ⟨some (ad.add (k * 1)), ?_, fun h => (by cases h), ?_⟩
          · simp [Instr.sliceAt, Instr.slice, Instr.sliceBounds, Instr.sliceBound, asIntOf, run_underlying hu, sizeOf, typeInfo, hinf, hsz, hk, hjc, hkc]
          · rw [Nat.mul_one, List.map_drop, List.map_take]
            exact rd_add (rd_pre (ys := (b.map bv).drop j) (by rw [List.take_append_drop]; exact h5)) k
    obtain ⟨A', hr, hA', hR⟩ := hr
    refine ⟨.slice A' (j - k) (c - k), ⟨A', c - k, by rw [hlen], by rw [hlen]; omega, by omega, fun h => by rw [hlen]; exact hA' h, hR⟩, ?_⟩
    unfold execOp
    simp only [ho, h1, h6, h7, h8, h9, Option.map_some, Option.map_none]
    rw [Sem.run_bind, hr]
    rfl
/-- Nothing, with no room. -/
def Ty.emp : Ty := ⟨fun _ v => ∃ A, v = .slice A 0 0, fun _ => false, fun h _ _ => h⟩
theorem cBuild0e {t e : TypeId} {z : Value} {sz bytes : Nat} (ho : o.op = .buildSlice t 0 #[]) (hu : P.underlying t = some (.slice e)) (hi : (P.info? e).map (fun i => (i.zero, i.size, i.bytes)) = some (some z, sz, bytes)) : OpOk P w0 Γ o Ty.emp :=
  .new fun a w _ _ => by
    have hr := run_buildSlice (P := P) 0 [] hu hi rfl (by simp) (by omega) w
    refine ⟨.slice (some ⟨w.heap.size, 0, none⟩) 0 0, w.alloc (.cells #[] e), ⟨_, rfl⟩, ((Keeps.refl [] w).alloc _).below, ?_⟩
    unfold execOp
    simp only [ho]
    rw [Sem.run_bind]
    have e1 : ((#[] : Array (Nat × Operand)).map fun (i, x) => (i, a.eval x)) = (([] : List Value).zipIdx.map fun p => (p.2, p.1)).toArray := by simp
    rw [e1, hr]
    rfl
theorem wp_append0 {a : Act} {w : World} {K : Act → World → Prop} {Q : Exit → Act → World → Prop} (s x : Operand) (t : TypeId) (ho : o.op = .call { callee := .builtin .append, args := #[s, x], argTypes := #[t, t] })
    (e : TypeId) (z : Value) (size bytes : Nat) (ht : P.underlying t = some (.slice e)) (hi : (P.info? e).map (fun i => (i.zero, i.size, i.bytes)) = some (some z, size, bytes)) (hzs : z.cells.size = size)
    (B : Option Addr) (hs : a.eval s = .slice B 0 0) (A : Option Addr) (m c : Nat) (news : List Value) (hx : a.eval x = .slice A m c) (hl : news.length = m * size) (hnews : Rd w A news) (hA : A = none → m = 0) (h63 : m ≤ maxLen) (hbytes : m * bytes ≤ 140737488355328)
    (h : ∀ v' w', SlP w' e v' m news → Below w.heap.size w w' → K (a.put o.dst v') w') : o.wp P a w K Q := by
  obtain ⟨i, hi2, hz, rfl, rfl⟩ := info_parts hi
  have hrun : ∃ v' w', (Builtin.append_ #[t, t] o.type #[.slice B 0 0, .slice A m c]).run P w = .ok v' w' ∧ SlP w' e v' m news ∧ Below w.heap.size w w' := by
    by_cases hm : m = 0
    · subst hm
      have hn : news = [] := List.eq_nil_of_length_eq_zero (by simpa using hl)
      subst hn
      refine ⟨.slice B 0 0, w, ?_, ⟨B, 0, rfl, Nat.le_refl _, Nat.zero_le _, fun _ => ⟨rfl, rfl⟩, fun j u hu => by simp at hu⟩, Below.refl _ _⟩
      cases B <;> cases A <;> simp [Builtin.append_, run_underlying ht, sizeOf, typeInfo, hi2, Builtin.lenOf, Builtin.firstCells, loadCells, loadCellsFrom, storeCells]
    · obtain ⟨ad, rfl⟩ : ∃ ad, A = some ad := by
        cases A with
        | none => exact absurd (hA rfl) hm
        | some a => exact ⟨a, rfl⟩
      have hnews' : ∀ j u, news[j]? = some u → w.cell? (ad.add j) = some u := fun j u hu => by
        obtain ⟨ad', e, h⟩ := hnews j u hu
        injection e with e; subst e; exact h
      have grown : SlP (w.drew.alloc (.cells (news.toArray ++ Builtin.zeroCells z.cells (grownCap w (0 + m) 0 e - (0 + m))) e)) e (.slice (some ⟨w.heap.size, 0, none⟩) (0 + m) (grownCap w (0 + m) 0 e)) m news := by
        rw [Nat.zero_add]
        have hge := grownCap_ge w m 0 e
        have hcm : grownCap w m 0 e ≤ maxLen := grownCap_le_maxLen w m 0 e h63
        refine ⟨_, _, rfl, hge, hcm, fun h => (by cases h), fun j u hu => ⟨w.heap.size, 0, _, (0, 0), rfl, Blk.new w.drew e _, ?_⟩⟩
        have hj : j < news.length := (List.getElem?_eq_some_iff.1 hu).1
        rw [Nat.zero_add, Array.getElem?_append_left (by simpa using hj)]
        simpa using hu
      have hb : Below w.heap.size w (w.drew.alloc (.cells (news.toArray ++ Builtin.zeroCells z.cells (grownCap w (0 + m) 0 e - (0 + m))) e)) := (((Keeps.refl [] w).drew).alloc _).below
      rcases B with _ | b
      · have hr := run_append_nil (P := P) w t o.type e i z ht hi2 hz ad m c news hl hnews' (by omega) (by simp only [maxLen] at h63; omega) (by omega)
        simp only [Nat.zero_add] at grown hb
        exact ⟨_, _, hr, grown, hb⟩
      · have hr := run_append_grow (P := P) w t o.type e i z ht hi2 hz b 0 0 [] (by simp) (by simp) ad m c news hl hnews' (by omega) (by simp only [maxLen] at h63; omega) (growslice_fits (by omega) (by simpa using hbytes))
        have e0 : (([] : List Value).toArray ++ news.toArray ++ Builtin.zeroCells z.cells (grownCap w (0 + m) 0 e - (0 + m))) = news.toArray ++ Builtin.zeroCells z.cells (grownCap w (0 + m) 0 e - (0 + m)) := by simp
        rw [e0] at hr
        exact ⟨_, _, hr, grown, hb⟩
  obtain ⟨v', w', hr, h2, h3⟩ := hrun
  unfold Oper.wp execOp
  simp only [ho, resolve, invoke, builtin, Sem.run_bind, Sem.run_pure, Result.andThen_ok, List.map_toArray, List.map_cons, List.map_nil, hs, hx, hr]
  exact h v' w' h2 h3
/-- append([]T{}, x...): a slice of its own, in new memory. -/
theorem cAppend0 {t e : TypeId} {z : Value} {sz bytes m : Nat} {y x : Operand} {news : List Value} {τ : Ty} (ho : o.op = .call { callee := .builtin .append, args := #[y, x], argTypes := #[t, t] }) (hy : OpT Γ y Ty.emp) (hx : Has w0 Γ x τ) (hτ : ∀ {w : World} u, τ.p w u → ∃ A c, u = .slice A m c ∧ (A = none → m = 0) ∧ Rd w A news) (ht : P.underlying t = some (.slice e)) (hi : (P.info? e).map (fun i => (i.zero, i.size, i.bytes)) = some (some z, sz, bytes)) (hzs : z.cells.size = sz) (hl : news.length = m * sz) (h63 : m ≤ maxLen) (hbytes : m * bytes ≤ 140737488355328) : OpOk P w0 Γ o (Ty.sl e m news) := fun a w K Q hb hs hK => by
  obtain ⟨v, h1, B, rfl⟩ := sees_of hs y _ (by simp [ho, Op.operands, Call.operands]) hy
  obtain ⟨u, h2, h3⟩ := hx.see (sees_of hs) (by simp [ho, Op.operands, Call.operands]) hb
  obtain ⟨A, c, rfl, hA, hr⟩ := hτ u h3
  exact wp_append0 y x t ho e z sz bytes ht hi hzs B h1 A m c news h2 hl hr hA h63 hbytes fun v' w' k1 k2 => hK v' w' k1 k2
end
/-- Bytes in memory of bytes. -/
abbrev slB (b : List Nat) : Ty := Ty.sl 5 b.length (b.map bv)
/-- A piece as a value, its bytes in memory of bytes; a slice of one such piece. -/
def Ty.pcT (q : Sm × List Nat) : Ty := ⟨fun w v => ∃ u, v = .agg (pcA q.1 u) ∧ (slB q.2).p w u, fun t => t == 5, fun ⟨u, h1, h2⟩ k hA => ⟨u, h1, (slB q.2).st h2 k hA⟩⟩
def Ty.pc1 (e : TypeId) (q : Sm × List Nat) : Ty := ⟨fun w v => ∃ u, (Ty.sl e 1 (flatQ [(q.1, u)])).p w v ∧ (slB q.2).p w u, fun t => t == e || t == 5, fun {w w' v S} ⟨u, h1, h2⟩ k hA => ⟨u, (Ty.sl e 1 _).st h1 k (fun b hb hl => let ⟨cs, t, fr, h3, h4⟩ := hA b hb hl; ⟨cs, t, fr, h3, (by rw [Bool.or_eq_false_iff] at h4; exact h4.1)⟩), (slB q.2).st h2 k (fun b hb hl => let ⟨cs, t, fr, h3, h4⟩ := hA b hb hl; ⟨cs, t, fr, h3, (by rw [Bool.or_eq_false_iff] at h4; exact h4.2)⟩)⟩⟩
abbrev RiT : TypeId := 41
abbrev RiL : TypeId := 32
theorem infoRi : (Try.prog.info? RiT).map (fun i => (i.zero, i.size, i.bytes)) = some (some (.agg (pcA Sm.zero nilB)), 33, 56) := by kernel_rfl
theorem sizeRi : (Try.prog.info? RiT).map (·.size) = some 33 := by kernel_rfl
theorem zeroRi (w : World) : (zeroValue RiT).run Try.prog w = .ok (.agg (pcA Sm.zero nilB)) w := by kernel_rfl
theorem buildRi (x : Sm) {v : Value} (hv : ∃ A l c, v = .slice A l c) (w : World) : (Instr.build RiT #[(0, .agg (u8s x.l)), (1, v)]).run Try.prog w = .ok (.agg (pcA x v)) w := by
  obtain ⟨A, l, c, rfl⟩ := hv
  have hx : (u8s x.l).size = 32 := by rw [u8s_size, x.len]
  have hz : (pcA Sm.zero nilB).size = 33 := pcA_size _ _
  have hu := run_underlying Try.underlying41 w
  have h1 := Try.sizeOf39 w
  have hf : Instr.fill (fun x => ([(0, 32), (32, 1)] : List (Nat × Nat))[x]?) (Value.agg (pcA Sm.zero nilB)).cells [(0, .agg (u8s x.l)), (1, .slice A l c)] = some (pcA x (.slice A l c)) := by
    rw [show (Value.agg (pcA Sm.zero nilB)).cells = pcA Sm.zero nilB from rfl, fill_step (v := .agg (u8s x.l)) (off := 0) (size := 32) rfl hx (by rw [hz]; omega), fill_step (v := .slice A l c) (off := 32) (size := 1) rfl rfl (by rw [splice_size, hz]; exact Nat.le_refl _)]
    rw [show (Value.agg (u8s x.l)).cells = u8s x.l from rfl, show (Value.slice A l c).cells.toList = [.slice A l c] from rfl, splicePc]
    rfl
  simp only [Instr.build, Sem.run_bind, zeroRi w, Result.andThen_ok, hu]
  simp [h1, hf]
section
variable {w0 : World} {Γ : Ctx} {o : Oper}
theorem cBuildRi {x y : Operand} {s : Sm} {b : List Nat} (ho : o.op = .build RiT #[(0, x), (1, y)]) (hx : OpT Γ x (Ty.ex (.agg (u8s s.l)))) (hy : Has w0 Γ y (slB b)) : OpOk Try.prog w0 Γ o (Ty.pcT (s, b)) :=
  .val fun a w hb hs => by
    obtain ⟨v, h1, h2⟩ := hs x _ (by simp [ho, Op.operands]) hx
    have h2 : v = .agg (u8s s.l) := h2
    obtain ⟨u, h3, h4⟩ := hy.see hs (by simp [ho, Op.operands]) hb
    have hu : ∃ A l c, u = .slice A l c := by obtain ⟨A, c, e, _⟩ := h4; exact ⟨A, _, c, e⟩
    refine ⟨.agg (pcA s u), ⟨u, rfl, h4⟩, ?_⟩
    unfold execOp
    simp only [ho]
    rw [show ((#[(0, x), (1, y)] : Array (Nat × Operand)).map fun (i, x) => (i, a.eval x)) = #[(0, .agg (u8s s.l)), (1, u)] by simp [h1, h2, h3], Sem.run_bind, buildRi s hu w]
    rfl
theorem cBuildRi1 {x : Operand} {q : Sm × List Nat} (ho : o.op = .buildSlice RiL 1 #[(0, x)]) (hx : OpT Γ x (Ty.pcT q)) : OpOk Try.prog w0 Γ o (Ty.pc1 RiT q) := fun a w K Q hb hs hK => by
  obtain ⟨v, h1, u, rfl, hu⟩ := sees_of hs x _ (by simp [ho, Op.operands]) hx
  have hr := run_buildSlice (P := Try.prog) (t := RiL) 1 [.agg (pcA q.1 u)] Try.underlying32 infoRi rfl (by intro z hz; simp only [List.mem_singleton] at hz; subst hz; exact pcA_size _ _) (by simp) w
  unfold Oper.wp execOp
  simp only [ho]
  rw [show ((#[(0, x)] : Array (Nat × Operand)).map fun (i, x) => (i, a.eval x)) = (([.agg (pcA q.1 u)] : List Value).zipIdx.map fun p => (p.2, p.1)).toArray by simp [h1], Sem.run_bind, hr]
  have hb2 : Below w.heap.size w (w.alloc (.cells (([Value.agg (pcA q.1 u)] : List Value).map fun v => v.cells.toList).flatten.toArray RiT)) := ((Keeps.refl [] w).alloc _).below
  refine hK _ _ ⟨u, ⟨_, 1, rfl, Nat.le_refl _, by simp [maxLen], fun h => (by cases h), fun j z hz => ⟨w.heap.size, 0, _, (0, 0), rfl, heap_alloc_new w _, ?_⟩⟩, (slB q.2).below hu hb2⟩ hb2
  rw [newsPc, Nat.zero_add]
  simpa using hz
end
end Go.Proofs.Ytbjlmhbpcopfbaa

/- Layer 10 by types: the document's Of. -/
namespace Go.Proofs.Ytbjlmhbpcopfbaa
open Go.RowKit

/-- One more, laid where it belongs. -/
theorem ins_same {s : List Sm} {x : Sm} {k : Nat} (hk : k ≤ s.length) (h1 : 0 < k) (h2 : s.getD (k - 1) default = x) (D : List Sm) (hs : s = setL D) : s = setL (D ++ [x]) := by
  subst hs
  refine srt_ext (setL_srt _) (setL_srt _) fun z => ?_
  rw [setL_mem, setL_mem, List.mem_append, List.mem_singleton]
  constructor
  · exact .inl
  · rintro (h | h)
    · exact h
    · rw [h, ← h2, ← setL_mem D]
      exact mem_get.2 ⟨k - 1, by omega, rfl⟩
theorem ins_new {s : List Sm} {x : Sm} {k : Nat} (hk : k ≤ s.length) (hhi : ∀ j, k ≤ j → j < s.length → 0 < cmpL (s.getD j default).l x.l) (hlo : k = 0 ∨ ¬ 0 < cmpL (s.getD (k - 1) default).l x.l) (hne : k = 0 ∨ ¬ s.getD (k - 1) default = x) (D : List Sm) (hs : s = setL D) : s.take k ++ [x] ++ s.drop k = setL (D ++ [x]) := by
  subst hs
  have hsr := setL_srt D
  have hlt : ∀ y ∈ (setL D).take k, cmpL y.l x.l < 0 := by
    intro y hy
    obtain ⟨j, hj, rfl⟩ := mem_get.1 hy
    rw [List.length_take] at hj
    have e : ((setL D).take k).getD j default = (setL D).getD j default := by
      simp only [List.getD, List.getElem?_take]
      rw [if_pos (by omega)]
    rw [e]
    have hk0 : ¬ k = 0 := by omega
    have a1 := hlo.resolve_left hk0
    have a2 := hne.resolve_left hk0
    have a3 : ¬ cmpL ((setL D).getD (k - 1) default).l x.l = 0 := fun h => a2 (cmp_zero.1 h)
    by_cases hjk : j = k - 1
    · subst hjk; omega
    · have a4 := lt_get hsr (i := j) (j := k - 1) (by omega) (by omega)
      exact cmp_lt_trans (Int.le_of_lt a4) (by omega) (.inl a4)
  have hgt : ∀ y ∈ (setL D).drop k, cmpL x.l y.l < 0 := by
    intro y hy
    obtain ⟨j, hj, rfl⟩ := mem_get.1 hy
    rw [List.length_drop] at hj
    rw [getD_drop]
    have a1 := hhi (k + j) (by omega) (by omega)
    have := cmpL_swap ((setL D).getD (k + j) default).l x.l
    omega
  refine srt_ext ?_ (setL_srt _) fun z => ?_
  · rw [List.append_assoc]
    refine List.pairwise_append.2 ⟨List.Pairwise.sublist (List.take_sublist _ _) hsr, List.pairwise_cons.2 ⟨hgt, List.Pairwise.sublist (List.drop_sublist _ _) hsr⟩, fun a ha b hb => ?_⟩
    rcases List.mem_cons.1 hb with rfl | hb
    · exact hlt a ha
    · have h1 := hlt a ha
      have h2 := hgt b hb
      exact cmp_lt_trans (by omega) (by omega) (.inl h1)
  · rw [setL_mem, List.mem_append, List.mem_append, List.mem_append, List.mem_singleton, ← setL_mem D z]
    constructor
    · rintro ((h | h) | h)
      · exact .inl (List.mem_of_mem_take h)
      · exact .inr h
      · exact .inl (List.mem_of_mem_drop h)
    · rintro (h | h)
      · rw [← List.take_append_drop k (setL D), List.mem_append] at h
        rcases h with h | h
        · exact .inl (.inl h)
        · exact .inr h
      · exact .inl (.inr h)
theorem infoR1 : (Try.prog.info? 39).map (fun i => (i.zero, i.size, i.bytes)) = some (some (.agg (u8s (List.replicate 32 0))), 32, 32) := by kernel_rfl
theorem flat_l1 (x : Sm) : (([.agg (u8s x.l)] : List Value).map fun v => v.cells.toList).flatten = flat [x] := flat_cells [x]
theorem oBuildSum1 {P : Program} {w0 : World} {Γ : Ctx} {o : Oper} {t e : TypeId} {z : Value} {bytes : Nat} {x : Sm} {y : Operand} (ho : o.op = .buildSlice t 1 #[(0, y)]) (hy : OpT Γ y (Ty.ex (.agg (u8s x.l)))) (hu : P.underlying t = some (.slice e)) (hi : (P.info? e).map (fun i => (i.zero, i.size, i.bytes)) = some (some z, 32, bytes)) : OpO P w0 Γ o (OTy.seg w0 e 32 1 (flat [x])) := by
  have h := oBuild (P := P) (w0 := w0) (Γ := Γ) (vs := [.agg (u8s x.l)]) ho (parts1v ho hy) hu hi rfl (cells_sums [x]) (by decide) (by simp [maxLen])
  rwa [flat_l1] at h
theorem seg_news {w0 w : World} {e : TypeId} {sz m : Nat} {news : List Value} : ∀ u, (Ty.seg w0 e sz m news).p w u → ∃ A c, u = .slice A m c ∧ (A = none → m = 0) ∧ Rd w A news := fun u h => sl_news u (seg_sl _ _ h)
set_option maxRecDepth 100000 in
set_option maxHeartbeats 4000000 in
theorem r10of_ty (D : List Sm) (hD : D.length ≤ 1000000) : FnSeg1 Try.prog 21 (Ty.sums 39 D) 39 32 (setL D).length (flat (setL D)) := by
  refine ⟨fun args w => by kernel_rfl, fun w v hv => ?_⟩
  refine enter_ty 61 [Ty.ex v] Try.func21 rfl (by kernel_rfl) ⟨rfl, trivial⟩ fun a hF => ?_
  have hB := Below.refl w.heap.size w
  let TD := Ty.sums 39 D
  repeat with_reducible refine wp_seq ?_
  refine' reg_all hF ?_ mixed (by kernel_rfl) ?_
  rotate_left
  · repeat (first | exact Line.nil | ((refine' Line.cons rfl (.run rfl rfl ?_) ?_); (any_goals exact cAssign rfl rfl); rotate_left))
  intro a w1 hF hb hN
  have hBs := hB.size
  replace hB := hB.trans (hb.mono hB.size)
  dsimp only [ext, Option.getD] at hF
  repeat with_reducible first | refine wp_seq ?_ | refine nThen ?_
  refine' reg_all hF ?_ mixed (by kernel_rfl) ?_
  rotate_left
  · repeat (first | exact Line.nil | ((refine' Line.cons rfl (.run rfl rfl ?_) ?_); (any_goals exact cAssign rfl rfl); rotate_left))
  intro a w2 hF hb hN
  have hBs := hB.size
  replace hB := hB.trans (hb.mono hB.size)
  dsimp only [ext, Option.getD] at hF
  repeat with_reducible first | refine wp_seq ?_ | refine nThen ?_
  refine' reg_all hF ?_ mixed (by kernel_rfl) ?_
  rotate_left
  · repeat (first | exact Line.nil | ((refine' Line.cons rfl (.run rfl rfl ?_) ?_); (any_goals exact cAssign rfl rfl); rotate_left))
  intro a w3 hF hb hN
  have hBs := hB.size
  replace hB := hB.trans (hb.mono hB.size)
  dsimp only [ext, Option.getD] at hF
  repeat with_reducible first | refine nThen ?_ | refine wp_block ?_
  refine loop_ty (fun m a wr => ∃ (i : Nat) (u : Value) (S : List Nat), i + m = D.length ∧ Fr 61 [(0, Ty.ex v), (3, Ty.ex u), (4, Ty.ex (.int .i64 (i : Int)))] a wr ∧ Below w.heap.size w wr ∧ Seg wr 39 32 u (setL (D.take i)).length (flat (setL (D.take i))) S ∧ ∀ y ∈ S, w.heap.size ≤ y) D.length ?_ ?_
  · exact ⟨0, _, [], by omega, hF.keep [0, 3, 4], hB, Seg.nil _ _ _, by simp⟩
  clear hF hB
  rintro m a wr ⟨i, u, S, hi, hF, hB, hseg, hS⟩
  have hvr := TD.below hv hB
  repeat with_reducible refine wp_seq ?_
  refine' reg_all hF ?_ mixed (by kernel_rfl) ?_
  rotate_left
  · repeat (first | exact Line.nil | ((refine' Line.cons rfl (.run rfl rfl ?_) ?_); (any_goals (first | exact cMove rfl rfl | exact cLenH rfl (.l rfl hvr) (Ty.sl_isSl _ _ _) Try.underlying37 | exact cLss rfl rfl rfl)); rotate_left))
  intro a w4 hF hb hN
  have hBs := hB.size
  replace hB := hB.trans (hb.mono hB.size)
  dsimp only [ext, Option.getD] at hF
  repeat with_reducible refine nThen ?_
  replace hseg := hseg.below hb
  replace hvr := TD.below hvr hb
  refine cond_ty hF rfl (fun hlt => ?_) (fun hge => ?_)
  rotate_left
  · have hge : ¬ i < D.length := by have := of_decide_eq_false hge; omega
    obtain rfl : i = D.length := by omega
    rw [List.take_length] at hseg
    repeat with_reducible first | refine wp_seq ?_ | refine nThen ?_ | refine wp_exit ?_ | refine xThen ?_ | refine xHere ?_
    refine' reg_all hF ?_ mixed (by kernel_rfl) ?_
    rotate_left
    · repeat (first | exact Line.nil | ((refine' Line.cons rfl (.run rfl rfl ?_) ?_); (any_goals (first | exact cMove rfl rfl | exact cAssign rfl rfl)); rotate_left))
    intro a w5 hF hb hN
    have hBs := hB.size
    replace hB := hB.trans (hb.mono hB.size)
    dsimp only [ext, Option.getD] at hF
    repeat with_reducible first | refine nThen ?_ | refine wp_ret ?_
    refine ret1 hF rfl rfl fun z hz => ?_
    have hz : z = u := hz
    subst hz
    exact ⟨z, rfl, ⟨S, hseg.below hb, hS⟩, hB⟩
  have hlt : i < D.length := by have := of_decide_eq_true hlt; omega
  have htk : D.take (i + 1) = D.take i ++ [D.getD i default] := take_snoc' D hlt
  obtain ⟨s, hs⟩ : ∃ s, s = setL (D.take i) := ⟨_, rfl⟩
  obtain ⟨x, hx⟩ : ∃ x, x = D.getD i default := ⟨_, rfl⟩
  have hsl : s.length ≤ 1000000 := by rw [hs]; exact Nat.le_trans (setL_len _) (by rw [List.length_take]; omega)
  rw [← hs] at hseg
  rw [← hx] at htk
  obtain ⟨A, c, rfl, hnc, hcm, hrd, _, hAn⟩ := hseg.form
  obtain ⟨Av, cv, rfl, hvn, hvc, hvA⟩ := hvr.form
  obtain ⟨gv, ov, rfl, hel⟩ := SlP.elem hvr (k := i * 32) (by rw [flat_len]; omega)
  have hxe : (Ty.at_ 39 x.enc).p w4 (.pointer (some ⟨gv, ov + i * 32, none⟩)) := by
    have h := hel (i * 32)
    rw [flat_at D hlt, ← hx] at h
    obtain ⟨g, off, cs, fr, h1, h2, h3⟩ := h
    exact ⟨g, off, cs, fr, h1, h2, fun j u hu => h3 j u (by rw [List.getElem?_append_left (List.getElem?_eq_some_iff.1 hu).1]; exact hu)⟩
  have hss : (Ty.sums 39 s).p w4 (.slice A s.length c) := hseg.sl
  repeat with_reducible first | refine wp_seq ?_ | refine nThen ?_ | refine wp_skip ?_ | refine wp_block ?_
  refine' reg_all hF ?_ mixed (by kernel_rfl) ?_
  rotate_left
  · repeat (first | exact Line.nil | ((refine' Line.cons rfl (.run rfl rfl ?_) ?_); (any_goals (first | exact cMove rfl rfl | exact cAssign rfl rfl | exact cLenEx rfl rfl Try.underlying53)); rotate_left))
  intro a w5 hF hb hN
  have hBs := hB.size
  replace hB := hB.trans (hb.mono hB.size)
  dsimp only [ext, Option.getD] at hF
  repeat with_reducible first | refine wp_seq ?_ | refine nThen ?_ | refine wp_block ?_
  replace hseg := hseg.below hb
  replace hvr := TD.below hvr hb
  replace hxe := (Ty.at_ 39 x.enc).below hxe hb
  refine wp_mono (Q := fun e a wr => e = .exit 2 ∧ ∃ k : Nat, k ≤ s.length ∧ Fr 61 [(0, Ty.ex (.slice (some ⟨gv, ov, none⟩) D.length cv)), (3, Ty.ex (.slice A s.length c)), (4, Ty.ex (.int .i64 (i : Int))), (5, Ty.ex (.int .i64 (k : Int)))] a wr ∧ Below w.heap.size w wr ∧ Seg wr 39 32 (.slice A s.length c) s.length (flat s) S ∧ TD.p wr (.slice (some ⟨gv, ov, none⟩) D.length cv) ∧ (Ty.at_ 39 x.enc).p wr (.pointer (some ⟨gv, ov + i * 32, none⟩)) ∧ (∀ j, k ≤ j → j < s.length → 0 < cmpL (s.getD j default).l x.l) ∧ (k = 0 ∨ ¬ 0 < cmpL (s.getD (k - 1) default).l x.l)) ?_ ?_
  · refine loop_ty (fun m a wr => ∃ k : Nat, k = m ∧ k ≤ s.length ∧ Fr 61 [(0, Ty.ex (.slice (some ⟨gv, ov, none⟩) D.length cv)), (3, Ty.ex (.slice A s.length c)), (4, Ty.ex (.int .i64 (i : Int))), (5, Ty.ex (.int .i64 (k : Int)))] a wr ∧ Below w.heap.size w wr ∧ Seg wr 39 32 (.slice A s.length c) s.length (flat s) S ∧ TD.p wr (.slice (some ⟨gv, ov, none⟩) D.length cv) ∧ (Ty.at_ 39 x.enc).p wr (.pointer (some ⟨gv, ov + i * 32, none⟩)) ∧ ∀ j, k ≤ j → j < s.length → 0 < cmpL (s.getD j default).l x.l) s.length ?_ ?_
    · exact ⟨s.length, rfl, Nat.le_refl _, hF.keep [0, 3, 4, 5], hB, hseg, hvr, hxe, fun j hj hj2 => by omega⟩
    clear hF hB hb hBs hseg hvr hxe hss hel hrd hv
    rintro m a wr ⟨k, rfl, hk, hF, hB, hseg, hvr, hxr, hhi⟩
    have hsr : (Ty.sums 39 s).p wr (.slice A s.length c) := hseg.sl
    repeat with_reducible refine wp_seq ?_
    by_cases hk0 : k = 0
    · subst hk0
      refine' reg_all hF ?_ mixed (by kernel_rfl) ?_
      rotate_left
      · repeat (first | exact Line.nil | (refine' Line.cons rfl (.no rfl rfl rfl rfl rfl rfl) ?_; rotate_left) | ((refine' Line.cons rfl (.run rfl rfl ?_) ?_); (any_goals (first | exact cMove rfl rfl | exact OpOk.b (c := false) (cGtr rfl rfl rfl) rfl | exact cPickF rfl rfl rfl)); rotate_left))
      intro a w5 hF hb hN
      have hBs := hB.size
      replace hB := hB.trans (hb.mono hB.size)
      dsimp only [ext, Option.getD] at hF
      repeat with_reducible refine nThen ?_
      refine cond_f hF rfl ?_
      repeat with_reducible first | refine wp_exit ?_ | refine xThen ?_
      exact ⟨rfl, 0, hk, hF.keep [0, 3, 4, 5], hB, hseg.below hb, TD.below hvr hb, (Ty.at_ 39 x.enc).below hxr hb, hhi, .inl rfl⟩
    · refine' reg_all hF ?_ mixed (by kernel_rfl) ?_
      rotate_left
      · repeat (first | exact Line.nil | ((first | refine' Line.cons rfl (.run rfl rfl ?_) ?_ | refine' Line.cons rfl (.yes rfl rfl rfl rfl ?_) ?_); (any_goals (first | exact cMove rfl rfl | exact OpOk.b (c := true) (cGtr rfl rfl rfl) (decide_eq_true (by omega)) | exact cSub (r := ((k - 1 : Nat) : Int)) rfl rfl rfl (by omega) | exact cIndexEx (k := i) (sz := 32) rfl rfl rfl Try.underlying37 sizeR hlt | exact cIndexSum (k := k - 1) rfl (.l rfl hsr) rfl Try.underlying53 sizeR (by omega) | exact cLoadSum rfl (.l rfl hxr) Try.underlying39 sizeR | exact cLoadSum rfl (.t rfl) Try.underlying39 sizeR | exact cCall2 rfl rfl rfl (r1cmp_ty _ _) | exact cPickT rfl rfl rfl | exact cGtr rfl rfl rfl)); rotate_left))
      intro a w5 hF hb hN
      have hBs := hB.size
      replace hB := hB.trans (hb.mono hB.size)
      dsimp only [ext, Option.getD] at hF
      repeat with_reducible refine nThen ?_
      replace hseg := hseg.below hb
      replace hvr := TD.below hvr hb
      replace hxr := (Ty.at_ 39 x.enc).below hxr hb
      refine cond_ty hF rfl (fun hgt => ?_) (fun hle => ?_)
      · have hgt : 0 < cmpL (s.getD (k - 1) default).l x.l := of_decide_eq_true hgt
        repeat with_reducible first | refine nThen ?_ | refine wp_skip ?_ | refine wp_block ?_
        replace hseg := hseg.below (Below.refl _ _)
        refine' reg_all hF ?_ mixed (by kernel_rfl) ?_
        rotate_left
        · repeat (first | exact Line.nil | ((refine' Line.cons rfl (.run rfl rfl ?_) ?_); (any_goals (first | exact cMove rfl rfl | exact cAssign rfl rfl | exact cSub (r := ((k - 1 : Nat) : Int)) rfl rfl rfl (by omega))); rotate_left))
        intro a w6 hF hb hN
        have hBs := hB.size
        replace hB := hB.trans (hb.mono hB.size)
        dsimp only [ext, Option.getD] at hF
        repeat with_reducible first | refine nThen ?_ | refine nBlk ?_
        refine ⟨k - 1, by omega, k - 1, rfl, by omega, hF.keep [0, 3, 4, 5], hB, hseg.below hb, TD.below hvr hb, (Ty.at_ 39 x.enc).below hxr hb, fun j hj hj2 => ?_⟩
        by_cases hjk : k ≤ j
        · exact hhi j hjk hj2
        · obtain rfl : j = k - 1 := by omega
          exact hgt
      · have hle : ¬ 0 < cmpL (s.getD (k - 1) default).l x.l := of_decide_eq_false hle
        repeat with_reducible first | refine wp_exit ?_ | refine xThen ?_
        exact ⟨rfl, k, hk, hF.keep [0, 3, 4, 5], hB, hseg, hvr, hxr, hhi, .inr hle⟩
  clear hF hB hb hBs hseg hvr hxe hss hel hrd hv
  rintro e a wr ⟨rfl, k, hk, hF, hB, hseg, hvr, hxr, hhi, hlo⟩
  have hsr : (Ty.sums 39 s).p wr (.slice A s.length c) := hseg.sl
  repeat with_reducible first | refine wp_seq ?_ | refine nThen ?_ | refine xHere ?_
  -- is it there?
  refine wp_mono (Q := fun e a wr => e = .normal ∧ Fr 61 [(0, Ty.ex (.slice (some ⟨gv, ov, none⟩) D.length cv)), (3, Ty.ex (.slice A s.length c)), (4, Ty.ex (.int .i64 (i : Int))), (5, Ty.ex (.int .i64 (k : Int))), (44, Ty.ex (.bool (decide (0 < k ∧ s.getD (k - 1) default = x))))] a wr ∧ Below w.heap.size w wr ∧ Seg wr 39 32 (.slice A s.length c) s.length (flat s) S ∧ TD.p wr (.slice (some ⟨gv, ov, none⟩) D.length cv) ∧ (Ty.at_ 39 x.enc).p wr (.pointer (some ⟨gv, ov + i * 32, none⟩))) ?_ ?_
  · by_cases hk0 : k = 0
    · subst hk0
      refine' reg_all hF ?_ mixed (by kernel_rfl) ?_
      rotate_left
      · repeat (first | exact Line.nil | (refine' Line.cons rfl (.no rfl rfl rfl rfl rfl rfl) ?_; rotate_left) | ((refine' Line.cons rfl (.run rfl rfl ?_) ?_); (any_goals (first | exact cMove rfl rfl | exact OpOk.b (c := false) (cGtr rfl rfl rfl) rfl | exact cPickF rfl rfl rfl)); rotate_left))
      intro a w5 hF hb hN
      have hBs := hB.size
      replace hB := hB.trans (hb.mono hB.size)
      dsimp only [ext, Option.getD] at hF
      exact ⟨rfl, hF.keep [0, 3, 4, 5, 44], hB, hseg.below hb, TD.below hvr hb, (Ty.at_ 39 x.enc).below hxr hb⟩
    · have e : decide (0 < k ∧ s.getD (k - 1) default = x) = decide (s.getD (k - 1) default = x) := by
        rw [decide_eq_decide]
        exact ⟨fun h => h.2, fun h => ⟨by omega, h⟩⟩
      rw [e]
      refine' reg_all hF ?_ mixed (by kernel_rfl) ?_
      rotate_left
      · repeat (first | exact Line.nil | ((first | refine' Line.cons rfl (.run rfl rfl ?_) ?_ | refine' Line.cons rfl (.yes rfl rfl rfl rfl ?_) ?_); (any_goals (first | exact cMove rfl rfl | exact OpOk.b (c := true) (cGtr rfl rfl rfl) (decide_eq_true (by omega)) | exact cSub (r := ((k - 1 : Nat) : Int)) rfl rfl rfl (by omega) | exact cIndexEx (k := i) (sz := 32) rfl rfl rfl Try.underlying37 sizeR hlt | exact cIndexSum (k := k - 1) rfl (.l rfl hsr) rfl Try.underlying53 sizeR (by omega) | exact cLoadSum rfl (.l rfl hxr) Try.underlying39 sizeR | exact cLoadSum rfl (.t rfl) Try.underlying39 sizeR | exact cEqlAgg rfl rfl rfl guardR (fun w => eqlR _ _ w) | exact cPickT rfl rfl rfl)); rotate_left))
      intro a w5 hF hb hN
      have hBs := hB.size
      replace hB := hB.trans (hb.mono hB.size)
      dsimp only [ext, Option.getD] at hF
      exact ⟨rfl, hF.keep [0, 3, 4, 5, 44], hB, hseg.below hb, TD.below hvr hb, (Ty.at_ 39 x.enc).below hxr hb⟩
  clear hF hB hseg hvr hxr hsr
  rintro e a wr ⟨rfl, hF, hB, hseg, hvr, hxr⟩
  repeat with_reducible refine nThen ?_
  refine cond_ty hF rfl (fun hth => ?_) (fun hno => ?_)
  · have hth := of_decide_eq_true hth
    have e : s = setL (D.take (i + 1)) := by rw [htk]; exact ins_same hk hth.1 hth.2 _ hs
    rw [e] at hseg
    repeat with_reducible first | refine nThen ?_ | refine wp_exit ?_ | refine xThen ?_ | refine xHere ?_
    rw [e] at hF
    refine' reg_all hF ?_ mixed (by kernel_rfl) ?_
    rotate_left
    · repeat (first | exact Line.nil | ((refine' Line.cons rfl (.run rfl rfl ?_) ?_); (any_goals (first | exact cMove rfl rfl | exact cAssign rfl rfl | exact cAdd (r := ((i + 1 : Nat) : Int)) rfl rfl rfl (by omega))); rotate_left))
    intro a w6 hF hb hN
    have hBs := hB.size
    replace hB := hB.trans (hb.mono hB.size)
    dsimp only [ext, Option.getD] at hF
    repeat with_reducible refine nThen ?_
    refine ⟨m - 1, by omega, i + 1, .slice A (setL (D.take (i + 1))).length c, S, by omega, hF.keep [0, 3, 4], hB, hseg.below hb, hS⟩
  have hno := of_decide_eq_false hno
  have e : s.take k ++ [x] ++ s.drop k = setL (D.take (i + 1)) := by
    rw [htk]
    refine ins_new hk hhi hlo ?_ _ hs
    by_cases hk0 : k = 0
    · exact .inl hk0
    · exact .inr fun h => hno ⟨by omega, h⟩
  have hwr : w.heap.size ≤ wr.heap.size := hB.size
  have hsr : (Ty.sums 39 s).p wr (.slice A s.length c) := hseg.sl
  have h48 : (Ty.sl 39 k (flat (s.take k))).p wr (.slice A k c) := by rw [← flat_take]; exact SlP.takeA hsr hk _
  have h58 : (Ty.sl 39 (s.length - k) (flat (s.drop k))).p wr (.slice (if c = k then A else A.map (·.add (k * 32))) (s.length - k) (c - k)) := by rw [← flat_drop]; exact SlP.dropA hsr hk (flat_len s)
  have l1 : (flat (s.take k)).length = k * 32 := by rw [flat_len, List.length_take, Nat.min_eq_left hk]
  have l2 : (flat [x]).length = 1 * 32 := by rw [flat_len]; rfl
  have l3 : (flat (s.drop k)).length = (s.length - k) * 32 := by rw [flat_len, List.length_drop]
  repeat with_reducible first | refine nThen ?_ | refine wp_skip ?_
  refine' region_own 15 [(4, 45), (10, 49), (14, 55)] mixed (by kernel_rfl) hF ?_ ?_
  rotate_left
  · simp only [List.take_succ_cons, List.take_zero]
    repeat (first
        | exact LineO.nil
        | (refine' LineO.cons rfl rfl (.no rfl rfl rfl rfl rfl) ?_; rotate_left)
        | ((first | refine' LineO.cons rfl rfl (.run rfl ?_) ?_ | refine' LineO.cons rfl rfl (.yes rfl rfl rfl ?_) ?_)
           any_goals (first | exact .ex (cMove rfl rfl) | exact oBuild0 rfl Try.underlying53 infoR1 | exact .ex (cSliceHiA rfl rfl rfl Try.underlying53 sizeR hk hnc (fun h => (hAn h).2)) | exact .ex (cIndexEx (k := i) (sz := 32) rfl rfl rfl Try.underlying37 sizeR hlt) | exact .ex (cLoadSum rfl (.l rfl hxr) Try.underlying39 sizeR) | exact oBuildSum1 (x := x) rfl rfl Try.underlying53 infoR1 | exact .ex (cSliceLoA (k := k) rfl rfl rfl Try.underlying53 sizeR hk))
           rotate_left)
        | ((first | refine' LineO.take rfl rfl rfl (.run rfl ?_) ?_ | refine' LineO.take rfl rfl rfl (.yes rfl rfl rfl ?_) ?_)
           any_goals (first | exact tkAppend (m := k) (news := flat (s.take k)) rfl Try.underlying53 infoR1 zero32_size (.l rfl h48) sl_news l1 flat_one' (by simp [maxLen]; omega) (by omega) | exact tkAppend (m := 1) (news := flat [x]) rfl Try.underlying53 infoR1 zero32_size (.t rfl) seg_news l2 flat_one' (by simp [maxLen]; omega) (by omega) | exact tkAppend (m := s.length - k) (news := flat (s.drop k)) rfl Try.underlying53 infoR1 zero32_size (.l rfl h58) sl_news l3 flat_one' (by simp [maxLen]; omega) (by omega))
           rotate_left))
  intro a w6 hF hb hN
  have hBs := hb.size
  replace hB := hB.trans (hb.mono hB.size)
  simp only [List.take_succ_cons, List.take_zero, List.drop_succ_cons, List.drop_zero] at hF hN ⊢
  dsimp only [hideT, List.foldr, extO, Option.getD, OTy.ex, OTy.seg, OTy.slo, OTy.var] at hF
  replace hvr := TD.below hvr hb
  obtain ⟨u, ⟨S', hsg, hS'⟩, hF⟩ := hF.open (s := 59) rfl
  have en : 0 + k + 1 + (s.length - k) = (setL (D.take (i + 1))).length := by rw [← e]; simp; omega
  have ex : [] ++ flat (s.take k) ++ flat [x] ++ flat (s.drop k) = flat (setL (D.take (i + 1))) := by rw [← e, flat_append, flat_append, List.nil_append]
  rw [en, ex] at hsg
  refine' tlOp hF rfl rfl rfl ?_ ?_
  rotate_left
  · exact cAssign rfl rfl
  intro a w7 hF hb
  have hBs := hB.size
  replace hB := hB.trans (hb.mono hB.size)
  try (refine wpList_nil ?_)
  repeat with_reducible first | refine nThen ?_ | refine nBlk ?_
  replace hsg := hsg.below hb
  refine' reg_all hF ?_ mixed (by kernel_rfl) ?_
  rotate_left
  · repeat (first | exact Line.nil | ((refine' Line.cons rfl (.run rfl rfl ?_) ?_); (any_goals (first | exact cMove rfl rfl | exact cAssign rfl rfl | exact cAdd (r := ((i + 1 : Nat) : Int)) rfl rfl rfl (by omega))); rotate_left))
  intro a w8 hF hb hN
  have hBs := hB.size
  replace hB := hB.trans (hb.mono hB.size)
  dsimp only [ext, Option.getD] at hF
  repeat with_reducible refine nThen ?_
  exact ⟨m - 1, by omega, i + 1, u, S', by omega, hF.keep [0, 3, 4], hB, hsg.below hb, fun y hy => Nat.le_trans hwr (hS' y hy)⟩
end Go.Proofs.Ytbjlmhbpcopfbaa

/- Layer 10: the walks of SetParts, SetLaws. -/
namespace Go.Proofs.Ytbjlmhbpcopfbaa
open Go.RowKit

end Go.Proofs.Ytbjlmhbpcopfbaa

/- Layer 10: the walks of Add, Tell. -/
namespace Go.Proofs.Ytbjlmhbpcopfbaa
open Go.RowKit

end Go.Proofs.Ytbjlmhbpcopfbaa

/- Layer 10 by types: the document's Minus, Both, Either, Bytes, Tell. -/
namespace Go.Proofs.Ytbjlmhbpcopfbaa
open Go.RowKit

theorem r1OfB_ty (l : List Nat) (τ : Ty) (hτ : Reads τ l.length (l.map bv)) (hx : ∀ x ∈ l, x < 256) (hn : l.length ≤ 1099511627776) : Fn1 Try.prog 30 τ (Ty.ex (.agg (u8s (shaS l).l))) :=
  ⟨fun args w => by kernel_rfl, fun w v hv => by
    obtain ⟨A, c, rfl, hm, hA, hr⟩ := hτ w v hv
    exact Ret.of (R1Of_any A l.length c l w rfl hr hA hx hn)⟩
end Go.Proofs.Ytbjlmhbpcopfbaa

/- Chunks: the document's Cut, Names, GoodPiece. -/
namespace Go.Proofs.Ytbjlmhbpcopfbaa
open Go.RowKit

abbrev plainV : Value := .agg #[.int .i64 16, .int .i64 128, .int .i64 8, .int .u64 31, .int .u64 7]
theorem refPlain_fn : Fn0 Try.prog 29 (Ty.ex plainV) := ⟨fun args w => by kernel_rfl, fun w => Calls.mono (refPlain_any w) fun e w' ⟨h1, h2⟩ => ⟨_, h1, rfl, h2⟩⟩
theorem enREnds : Enters Try.prog 28 := fun args w => by kernel_rfl
theorem rends_ret (b : List Nat) (hn : b.length ≤ 4000) (hx : ∀ x ∈ b, x < 256) (w : World) (v : Value) (hv : (Ty.rdB b).p w v) : Ret Try.prog 28 #[plainV, v] w (Ty.sl 3 (endsR 16 128 8 31 7 b).length ((endsR 16 128 8 31 7 b).map iv)) := by
  obtain ⟨A, c, rfl, h2, h3, h5, h4⟩ := hv
  exact Calls.mono (refEnds_any 16 128 8 31 7 A b.length c b w rfl h2 h4 h5 hx hn (by decide)) fun e w' ⟨v, S, he, hs, _, hb⟩ => ⟨v, he, hs.sl, hb⟩
/-- Pieces whose bytes lie in memory of bytes. -/
def PcrT (w : World) (L : List (Sm × Value)) (Q : List (Sm × List Nat)) : Prop := L.length = Q.length ∧ ∀ k, k < Q.length → (L.getD k (Sm.zero, nilB)).1 = (Q.getD k (Sm.zero, [])).1 ∧ (slB (Q.getD k (Sm.zero, [])).2).p w (L.getD k (Sm.zero, nilB)).2
theorem PcrT.nil (w : World) : PcrT w [] [] := ⟨rfl, fun k h => by simp at h⟩
theorem PcrT.below {w w' : World} {L : List (Sm × Value)} {Q : List (Sm × List Nat)} (h : PcrT w L Q) (hb : Below w.heap.size w w') : PcrT w' L Q := ⟨h.1, fun k hk => ⟨(h.2 k hk).1, (slB _).below (h.2 k hk).2 hb⟩⟩
theorem apart_u8 {w : World} {S : List Nat} {e : TypeId} (hS : ∀ b ∈ S, b < w.heap.size → ∃ cs fr, w.heap[b]? = some (.cells cs e fr)) (he : (e == 5) = false) : Apart w S (fun t => t == 5) := fun b hb hl => let ⟨cs, fr, h⟩ := hS b hb hl; ⟨cs, e, fr, h, he⟩
theorem PcrT.keeps {w w' : World} {L : List (Sm × Value)} {Q : List (Sm × List Nat)} {S : List Nat} (h : PcrT w L Q) (k : Keeps S w w') (hA : Apart w S (fun t => t == 5)) : PcrT w' L Q := ⟨h.1, fun j hj => ⟨(h.2 j hj).1, (slB _).st (h.2 j hj).2 k hA⟩⟩
theorem PcrT.pcr {w : World} {L : List (Sm × Value)} {Q : List (Sm × List Nat)} (h : PcrT w L Q) : Pcr w L Q := ⟨h.1, fun k hk => ⟨(h.2 k hk).1, sl_rdB _ _ _ (h.2 k hk).2⟩⟩
theorem PcrT.snoc {w : World} {L : List (Sm × Value)} {Q : List (Sm × List Nat)} (h : PcrT w L Q) {x : Sm} {b : List Nat} {v : Value} (hv : (slB b).p w v) : PcrT w (L ++ [(x, v)]) (Q ++ [(x, b)]) := by
  refine ⟨by rw [List.length_append, List.length_append, h.1]; rfl, fun k hk => ?_⟩
  rw [List.length_append, List.length_singleton] at hk
  by_cases hl : k < Q.length
  · rw [getD_app _ (h.1 ▸ hl), getD_app _ hl]
    exact h.2 k hl
  · have hk : k = Q.length := by omega
    have e1 : (L ++ [(x, v)]).getD k (Sm.zero, nilB) = (x, v) := by rw [hk, ← h.1]; simp [List.getD]
    have e2 : (Q ++ [(x, b)]).getD k (Sm.zero, []) = (x, b) := by rw [hk]; simp [List.getD]
    rw [e1, e2]
    exact ⟨rfl, hv⟩
theorem cutQ_ends (b : List Nat) : cutQ b = (List.range (endsR 16 128 8 31 7 b).length).map fun i => (shaS (pieceS b (endsR 16 128 8 31 7 b) i), pieceS b (endsR 16 128 8 31 7 b) i) := by
  unfold cutQ pcsB partsS
  rw [List.map_map]
  rfl
theorem sizeI1 : (Try.prog.info? 3).map (·.size) = some 1 := by kernel_rfl
theorem sizeU1 : (Try.prog.info? 5).map (·.size) = some 1 := by kernel_rfl
theorem iv_drop {E : List Nat} {k : Nat} (h : k < E.length) : (E.map iv).drop (k * 1) = .int .i64 ((E.getD k 0 : Nat) : Int) :: (E.map iv).drop (k + 1) := by
  have hl : k < (E.map iv).length := by rw [List.length_map]; exact h
  rw [Nat.mul_one, List.drop_eq_getElem_cons hl]
  simp [List.getD, List.getElem?_eq_getElem h, iv]
set_option maxRecDepth 100000 in
set_option maxHeartbeats 2000000 in
theorem rcut_ty (b : List Nat) (hn : b.length ≤ 4000) (hx : ∀ x ∈ b, x < 256) : Fn1 Try.prog 9 (Ty.rdB b) (Ty.pcsR (cutQ b)) := by
  refine ⟨fun args w => by kernel_rfl, fun w v hv => ?_⟩
  have hEnds := rends_ret b hn hx
  have hBd := endsR_bounds 16 128 8 31 7 b
  have hq := cutQ_ends b
  have hEl : (endsR 16 128 8 31 7 b).length ≤ 4000 := by
    have h1 := pcsB_len b
    have h2 : (pcsB b).length = (endsR 16 128 8 31 7 b).length := by unfold pcsB partsS; simp
    omega
  generalize cutQ b = Q at *
  generalize endsR 16 128 8 31 7 b = E at *
  have hts : ∀ k, k < E.length → Q.take (k + 1) = Q.take k ++ [(shaS ((b.take (E.getD k 0)).drop ((0 :: E).getD k 0)), (b.take (E.getD k 0)).drop ((0 :: E).getD k 0))] := fun k hk => by
    rw [hq, List.take_succ_eq_append_getElem (by simpa using hk)]
    simp [pieceS]
  have hQl : Q.length = E.length := by rw [hq]; simp
  clear hq
  refine enter_ty 42 [Ty.ex v] Try.func9 rfl (by kernel_rfl) ⟨rfl, trivial⟩ fun a hF => ?_
  have hB := Below.refl w.heap.size w
  repeat with_reducible refine wp_seq ?_
  refine' reg_all hF ?_ mixed (by kernel_rfl) ?_
  rotate_left
  · repeat (first | exact Line.nil | ((refine' Line.cons rfl (.run rfl rfl ?_) ?_); (any_goals exact cAssign rfl rfl); rotate_left))
  intro a w1 hF hb hN
  have hBs := hB.size
  replace hB := hB.trans (hb.mono hB.size)
  dsimp only [ext, Option.getD] at hF
  repeat with_reducible first | refine wp_seq ?_ | refine nThen ?_
  refine' reg_all hF ?_ mixed (by kernel_rfl) ?_
  rotate_left
  · repeat (first | exact Line.nil | ((refine' Line.cons rfl (.run rfl rfl ?_) ?_); (any_goals exact cAssign rfl rfl); rotate_left))
  intro a w2 hF hb hN
  have hBs := hB.size
  replace hB := hB.trans (hb.mono hB.size)
  dsimp only [ext, Option.getD] at hF
  repeat with_reducible first | refine wp_seq ?_ | refine nThen ?_
  have hv2 := (Ty.rdB b).below hv hB
  refine' reg_all hF ?_ mixed (by kernel_rfl) ?_
  rotate_left
  · repeat (first | exact Line.nil | ((refine' Line.cons rfl (.run rfl rfl ?_) ?_); (any_goals (first | exact cMove rfl rfl | exact cAssign rfl rfl | exact cCall0 rfl refPlain_fn | exact cCallX2 rfl rfl rfl enREnds (fun W hb => hEnds W v ((Ty.rdB b).below hv2 hb)))); rotate_left))
  intro a w3 hF hb hN
  have hBs := hB.size
  replace hB := hB.trans (hb.mono hB.size)
  dsimp only [ext, Option.getD] at hF
  repeat with_reducible first | refine wp_seq ?_ | refine nThen ?_
  refine' reg_all hF ?_ mixed (by kernel_rfl) ?_
  rotate_left
  · repeat (first | exact Line.nil | ((refine' Line.cons rfl (.run rfl rfl ?_) ?_); (any_goals exact cAssign rfl rfl); rotate_left))
  intro a w4 hF hb hN
  have hBs := hB.size
  replace hB := hB.trans (hb.mono hB.size)
  dsimp only [ext, Option.getD] at hF
  repeat with_reducible first | refine wp_seq ?_ | refine nThen ?_
  refine' reg_all hF ?_ mixed (by kernel_rfl) ?_
  rotate_left
  · repeat (first | exact Line.nil | ((refine' Line.cons rfl (.run rfl rfl ?_) ?_); (any_goals exact cAssign rfl rfl); rotate_left))
  intro a w5 hF hb hN
  have hBs := hB.size
  replace hB := hB.trans (hb.mono hB.size)
  dsimp only [ext, Option.getD] at hF
  repeat with_reducible first | refine nThen ?_ | refine wp_block ?_
  obtain ⟨v4, h4, hF⟩ := hF.open (s := 4) rfl
  have hv5 := (Ty.rdB b).below hv hB
  have hw5 := hB.size
  have hB0 := hB
  replace hB := Below.refl w5.heap.size w5
  let TE := Ty.sl 3 E.length (E.map iv)
  have h4 : TE.p w5 v4 := h4
  refine loop_ty (fun m a wr => ∃ (k f : Nat) (u : Value) (S : List Nat) (L : List (Sm × Value)), k + m = E.length ∧ f = (0 :: E).getD k 0 ∧ Fr 42 [(0, Ty.ex v), (3, Ty.ex u), (4, Ty.ex v4), (5, Ty.ex (.int .i64 (f : Int))), (6, Ty.ex (.int .i64 (k : Int)))] a wr ∧ Below w5.heap.size w5 wr ∧ PcrT wr L (Q.take k) ∧ Seg wr RiT 33 u k (flatQ L) S ∧ ∀ y ∈ S, w5.heap.size ≤ y) E.length ?_ ?_
  · exact ⟨0, 0, _, [], [], by omega, rfl, hF.keep [0, 3, 4, 5, 6], hB, PcrT.nil _, Seg.nil _ _ _, by simp⟩
  clear hF hB
  rintro m a wr ⟨k, f, u, S, L, hk, hf, hF, hB, hL, hseg, hS⟩
  have h4r := TE.below h4 hB
  repeat with_reducible refine wp_seq ?_
  refine' reg_all hF ?_ mixed (by kernel_rfl) ?_
  rotate_left
  · repeat (first | exact Line.nil | ((refine' Line.cons rfl (.run rfl rfl ?_) ?_); (any_goals (first | exact cMove rfl rfl | exact cLenH rfl (.l rfl h4r) (Ty.sl_isSl _ _ _) Try.underlying31 | exact cLss rfl rfl rfl)); rotate_left))
  intro a w6 hF hb hN
  have hBs := hB.size
  replace hB := hB.trans (hb.mono hB.size)
  dsimp only [ext, Option.getD] at hF
  repeat with_reducible refine nThen ?_
  replace hseg := hseg.below hb
  replace hL := hL.below hb
  refine cond_ty hF rfl (fun hlt => ?_) (fun hge => ?_)
  rotate_left
  · have hge : ¬ k < E.length := by have := of_decide_eq_false hge; omega
    have hkE : k = Q.length := by omega
    repeat with_reducible first | refine wp_seq ?_ | refine nThen ?_ | refine wp_exit ?_ | refine xThen ?_ | refine xHere ?_
    refine' reg_all hF ?_ mixed (by kernel_rfl) ?_
    rotate_left
    · repeat (first | exact Line.nil | ((refine' Line.cons rfl (.run rfl rfl ?_) ?_); (any_goals (first | exact cMove rfl rfl | exact cAssign rfl rfl)); rotate_left))
    intro a w7 hF hb hN
    have hBs := hB.size
    replace hB := hB.trans (hb.mono hB.size)
    dsimp only [ext, Option.getD] at hF
    repeat with_reducible first | refine nThen ?_ | refine wp_ret ?_
    replace hseg := hseg.below hb
    replace hL := hL.below hb
    refine ret1 hF rfl rfl fun z hz => ?_
    have hz : z = u := hz
    subst hz
    rw [hkE] at hseg hL
    rw [List.take_length] at hL
    exact ⟨_, rfl, ⟨L, hL.pcr, reads_sl _ _ _ _ _ hseg.sl⟩, hB0.trans (hB.mono hw5)⟩
  have hlt : k < E.length := by have := of_decide_eq_true hlt; omega
  have hts := hts k hlt
  obtain ⟨hfe, heb⟩ := hBd k hlt
  rw [← hf] at hfe hts
  have hf' : (0 :: E).getD (k + 1) 0 = E.getD k 0 := by rw [List.getD_cons_succ]
  have hvd := iv_drop hlt
  generalize E.getD k 0 = e at *
  have hpx : ∀ x ∈ (b.take e).drop f, x < 256 := fun x h => hx x (List.mem_of_mem_take (List.mem_of_mem_drop h))
  have hpl : ((b.take e).drop f).length ≤ 4000 := by rw [List.length_drop, List.length_take]; omega
  have hO := r1OfB_ty ((b.take e).drop f) (Ty.rdB ((b.take e).drop f)) (reads_rdB _) hpx (by omega)
  have h4r := TE.below h4 hB
  have hvr := (Ty.rdB b).below hv5 hB
  repeat with_reducible first | refine wp_seq ?_ | refine nThen ?_ | refine wp_skip ?_ | refine wp_block ?_
  refine' region_ty 20 mixed (by kernel_rfl) hF ?_ ?_
  rotate_left
  · simp only [List.take_succ_cons, List.take_zero]
    repeat (first | exact Line.nil | ((refine' Line.cons rfl (.run rfl rfl ?_) ?_); (any_goals (first | exact cMove rfl rfl | exact cIndexS (k := k) (sz := 1) rfl (.l rfl h4r) rfl Try.underlying31 sizeI1 hlt (by rw [Nat.mul_one, List.length_map]; exact hlt) | exact cLoad1 rfl (Has.c (.t rfl) (fun W v h => by rw [hvd] at h; exact h)) (pts_at _ _) Try.underlying3 rfl | exact cSliceRd rfl (.l rfl hvr) rfl rfl Try.underlying22 sizeU1 (by omega) heb | exact cCallH1 rfl (.t rfl) hO | exact cBuild0e rfl Try.underlying22 infoU8 | exact cAppend0 rfl rfl (.t rfl) rdB_news Try.underlying22 infoU8 rfl (by simp) (by simp [maxLen]; omega) (by omega) | exact cBuildRi rfl rfl (.t rfl) | exact cBuildRi1 rfl rfl)); rotate_left))
  intro a w7 hF hb hN
  have hBs := hB.size
  replace hB := hB.trans (hb.mono hB.size)
  simp only [List.take_succ_cons, List.take_zero, List.drop_succ_cons, List.drop_zero] at hF hN ⊢
  dsimp only [ext, Option.getD] at hF
  replace hseg := hseg.below hb
  replace hL := hL.below hb
  obtain ⟨v35, ⟨u35, hsl, hu35⟩, hF⟩ := hF.open (s := 35) rfl
  generalize (b.take e).drop f = p at *
  have hsA : ∃ A l c, u35 = .slice A l c := by obtain ⟨A, c, h, _⟩ := hu35; exact ⟨A, _, c, h⟩
  refine tlAppend (Δ := [(0, Ty.ex v), (4, Ty.ex v4), (5, Ty.ex (.int .i64 (f : Int))), (6, Ty.ex (.int .i64 (k : Int)))]) (n := k) (m := 1) (news := flatQ [(shaS p, u35)]) hF rfl rfl rfl rfl Try.underlying32 infoRi (pcA_size _ _) rfl hseg (.l (τ := Ty.sl RiT 1 (flatQ [(shaS p, u35)])) rfl hsl) sl_news (by rw [flatQ_len]; rfl) (one_pc (shaS p) hsA) (by simp [maxLen]; omega) (by omega) (hF.keep [0, 4, 5, 6]) rfl ?_
  intro a w8 u' S' hF hseg' hk8 hS'
  have hAp := apart_u8 hseg.blocks (by decide)
  replace hL := (hL.keeps hk8 hAp).snoc (x := shaS p) ((slB p).st hu35 hk8 hAp)
  have hbS : ∀ y ∈ S', w5.heap.size ≤ y := own_next hB hS hS'
  replace hB := below_own hB hk8 hS
  rw [← flatQ_snoc] at hseg'
  rw [← hts] at hL
  refine' tlOp hF rfl rfl rfl ?_ ?_
  rotate_left
  · exact cAssign rfl rfl
  intro a w9 hF hb
  have hBs := hB.size
  replace hB := hB.trans (hb.mono hB.size)
  try (refine wpList_nil ?_)
  repeat with_reducible refine nThen ?_
  replace hseg' := hseg'.below hb
  replace hL := hL.below hb
  have h4r := TE.below h4 hB
  refine' reg_all hF ?_ mixed (by kernel_rfl) ?_
  rotate_left
  · repeat (first | exact Line.nil | ((refine' Line.cons rfl (.run rfl rfl ?_) ?_); (any_goals (first | exact cMove rfl rfl | exact cAssign rfl rfl | exact cIndexS (k := k) (sz := 1) rfl (.l rfl h4r) rfl Try.underlying31 sizeI1 hlt (by rw [Nat.mul_one, List.length_map]; exact hlt) | exact cLoad1 rfl (Has.c (.t rfl) (fun W v h => by rw [hvd] at h; exact h)) (pts_at _ _) Try.underlying3 rfl)); rotate_left))
  intro a w10 hF hb hN
  have hBs := hB.size
  replace hB := hB.trans (hb.mono hB.size)
  dsimp only [ext, Option.getD] at hF
  repeat with_reducible first | refine nThen ?_ | refine nBlk ?_
  replace hseg' := hseg'.below hb
  replace hL := hL.below hb
  refine' reg_all hF ?_ mixed (by kernel_rfl) ?_
  rotate_left
  · repeat (first | exact Line.nil | ((refine' Line.cons rfl (.run rfl rfl ?_) ?_); (any_goals (first | exact cMove rfl rfl | exact cAssign rfl rfl | exact cAdd (r := ((k + 1 : Nat) : Int)) rfl rfl rfl (by omega))); rotate_left))
  intro a w11 hF hb hN
  have hBs := hB.size
  replace hB := hB.trans (hb.mono hB.size)
  dsimp only [ext, Option.getD] at hF
  repeat with_reducible refine nThen ?_
  exact ⟨m - 1, by omega, k + 1, e, u', S', _, by omega, hf'.symm, hF.keep [0, 3, 4, 5, 6], hB, hL.below hb, hseg'.below hb, hbS⟩
set_option maxRecDepth 100000 in
set_option maxHeartbeats 2000000 in
theorem rnames_seg (b : List Nat) (hn : b.length ≤ 4000) (hx : ∀ x ∈ b, x < 256) : FnSeg1 Try.prog 12 (Ty.rdB b) 39 32 (nmsQ (cutQ b)).length (flat (nmsQ (cutQ b))) := by
  refine ⟨fun args w => by kernel_rfl, fun w v hv => ?_⟩
  have hC := rcut_ty b hn hx
  have hcl : (cutQ b).length ≤ 4000 := by unfold cutQ; rw [List.length_map]; exact Nat.le_trans (pcsB_len b) hn
  generalize cutQ b = Q at *
  refine enter_ty 23 [Ty.ex v] Try.func12 rfl (by kernel_rfl) ⟨rfl, trivial⟩ fun a hF => ?_
  have hB := Below.refl w.heap.size w
  repeat with_reducible refine wp_seq ?_
  refine' reg_all hF ?_ mixed (by kernel_rfl) ?_
  rotate_left
  · repeat (first | exact Line.nil | ((refine' Line.cons rfl (.run rfl rfl ?_) ?_); (any_goals exact cAssign rfl rfl); rotate_left))
  intro a w1 hF hb hN
  have hBs := hB.size
  replace hB := hB.trans (hb.mono hB.size)
  dsimp only [ext, Option.getD] at hF
  repeat with_reducible first | refine wp_seq ?_ | refine nThen ?_
  refine' reg_all hF ?_ mixed (by kernel_rfl) ?_
  rotate_left
  · repeat (first | exact Line.nil | ((refine' Line.cons rfl (.run rfl rfl ?_) ?_); (any_goals exact cAssign rfl rfl); rotate_left))
  intro a w2 hF hb hN
  have hBs := hB.size
  replace hB := hB.trans (hb.mono hB.size)
  dsimp only [ext, Option.getD] at hF
  repeat with_reducible first | refine wp_seq ?_ | refine nThen ?_
  have hv2 := (Ty.rdB b).below hv hB
  refine' reg_all hF ?_ mixed (by kernel_rfl) ?_
  rotate_left
  · repeat (first | exact Line.nil | ((refine' Line.cons rfl (.run rfl rfl ?_) ?_); (any_goals (first | exact cMove rfl rfl | exact cAssign rfl rfl | exact cCallH1 rfl (.l rfl hv2) hC)); rotate_left))
  intro a w3 hF hb hN
  have hBs := hB.size
  replace hB := hB.trans (hb.mono hB.size)
  dsimp only [ext, Option.getD] at hF
  repeat with_reducible first | refine wp_seq ?_ | refine nThen ?_
  refine' reg_all hF ?_ mixed (by kernel_rfl) ?_
  rotate_left
  · repeat (first | exact Line.nil | ((refine' Line.cons rfl (.run rfl rfl ?_) ?_); (any_goals exact cAssign rfl rfl); rotate_left))
  intro a w4 hF hb hN
  have hBs := hB.size
  replace hB := hB.trans (hb.mono hB.size)
  dsimp only [ext, Option.getD] at hF
  repeat with_reducible first | refine nThen ?_ | refine wp_block ?_
  obtain ⟨v4, h4, hF⟩ := hF.open (s := 4) rfl
  have hw4 := hB.size
  have hB0 := hB
  replace hB := Below.refl w4.heap.size w4
  refine loop_ty (fun m a wr => ∃ (k : Nat) (u : Value) (S : List Nat), k + m = Q.length ∧ Fr 23 [(3, Ty.ex u), (4, Ty.ex v4), (5, Ty.ex (.int .i64 (k : Int)))] a wr ∧ Below w4.heap.size w4 wr ∧ Seg wr 39 32 u k (flat ((nmsQ Q).take k)) S ∧ ∀ y ∈ S, w4.heap.size ≤ y) Q.length ?_ ?_
  · exact ⟨0, _, [], by omega, hF.keep [3, 4, 5], hB, Seg.nil _ _ _, by simp⟩
  clear hF hB
  rintro m a wr ⟨k, u, S, hk, hF, hB, hseg, hS⟩
  have h4r := (Ty.pcsR Q).below h4 hB
  repeat with_reducible refine wp_seq ?_
  refine' reg_all hF ?_ mixed (by kernel_rfl) ?_
  rotate_left
  · repeat (first | exact Line.nil | ((refine' Line.cons rfl (.run rfl rfl ?_) ?_); (any_goals (first | exact cMove rfl rfl | exact cLenH rfl (.l rfl h4r) (pcsR_isSl Q) Try.underlying32 | exact cLss rfl rfl rfl)); rotate_left))
  intro a w5 hF hb hN
  have hBs := hB.size
  replace hB := hB.trans (hb.mono hB.size)
  dsimp only [ext, Option.getD] at hF
  repeat with_reducible refine nThen ?_
  replace hseg := hseg.below hb
  refine cond_ty hF rfl (fun hlt => ?_) (fun hge => ?_)
  rotate_left
  · have hge : ¬ k < Q.length := by have := of_decide_eq_false hge; omega
    have hkP : k = Q.length := by omega
    repeat with_reducible first | refine wp_seq ?_ | refine nThen ?_ | refine wp_exit ?_ | refine xThen ?_ | refine xHere ?_
    refine' reg_all hF ?_ mixed (by kernel_rfl) ?_
    rotate_left
    · repeat (first | exact Line.nil | ((refine' Line.cons rfl (.run rfl rfl ?_) ?_); (any_goals (first | exact cMove rfl rfl | exact cAssign rfl rfl)); rotate_left))
    intro a w6 hF hb hN
    have hBs := hB.size
    replace hB := hB.trans (hb.mono hB.size)
    dsimp only [ext, Option.getD] at hF
    repeat with_reducible first | refine nThen ?_ | refine wp_ret ?_
    refine ret1 hF rfl rfl fun z hz => ?_
    have hz : z = u := hz
    have hl : (nmsQ Q).length = Q.length := by unfold nmsQ; rw [List.length_map]
    rw [hkP, ← hl, List.take_length] at hseg
    refine ⟨z, rfl, ⟨S, ?_, fun y hy => Nat.le_trans hw4 (hS y hy)⟩, hB0.trans (hB.mono hw4)⟩
    rw [hz]
    exact hseg.below hb
  have hlt : k < Q.length := by have := of_decide_eq_true hlt; omega
  have hts : (nmsQ Q).take (k + 1) = (nmsQ Q).take k ++ [(Q.getD k (Sm.zero, [])).1] := by
    unfold nmsQ
    rw [List.take_succ_eq_append_getElem (by rw [List.length_map]; exact hlt)]
    simp [List.getD, List.getElem?_eq_getElem hlt]
  have h4r := (Ty.pcsR Q).below h4 hB
  repeat with_reducible first | refine wp_seq ?_ | refine nThen ?_ | refine wp_skip ?_ | refine wp_block ?_
  refine' region_ty 7 mixed (by kernel_rfl) hF ?_ ?_
  rotate_left
  · simp only [List.take_succ_cons, List.take_zero]
    repeat (first | exact Line.nil | ((refine' Line.cons rfl (.run rfl rfl ?_) ?_); (any_goals (first | exact cMove rfl rfl | exact cIdxQ rfl (.l rfl h4r) rfl Try.underlying32 sizeRi hlt | exact cFldQ0 rfl (.t rfl) Try.underlying41 rfl sizeR | exact cLoadSumR rfl (.t rfl) Try.underlying39 sizeR | exact cBuildSums [(Q.getD k (Sm.zero, [])).1] rfl (parts1v rfl rfl) Try.underlying37 infoR rfl)); rotate_left))
  intro a w6 hF hb hN
  have hBs := hB.size
  replace hB := hB.trans (hb.mono hB.size)
  simp only [List.take_succ_cons, List.take_zero, List.drop_succ_cons, List.drop_zero] at hF hN ⊢
  dsimp only [ext, Option.getD] at hF
  replace hseg := hseg.below hb
  generalize (Q.getD k (Sm.zero, [])).1 = x at *
  refine tlAppend (Δ := [(4, Ty.ex v4), (5, Ty.ex (.int .i64 (k : Int)))]) (n := k) (m := 1) (news := flat [x]) hF rfl rfl rfl rfl Try.underlying37 infoR zero32_size rfl hseg (.t rfl) sl_news (by rw [flat_len]; rfl) flat_one' (by simp [maxLen]; omega) (by omega) (hF.keep [4, 5]) rfl ?_
  intro a w8 u' S' hF hseg' hk8 hS'
  have hbS : ∀ y ∈ S', w4.heap.size ≤ y := own_next hB hS hS'
  replace hB := below_own hB hk8 hS
  rw [← flat_append, ← hts] at hseg'
  refine' tlOp hF rfl rfl rfl ?_ ?_
  rotate_left
  · exact cAssign rfl rfl
  intro a w9 hF hb
  have hBs := hB.size
  replace hB := hB.trans (hb.mono hB.size)
  try (refine wpList_nil ?_)
  repeat with_reducible first | refine nThen ?_ | refine nBlk ?_
  replace hseg' := hseg'.below hb
  refine' reg_all hF ?_ mixed (by kernel_rfl) ?_
  rotate_left
  · repeat (first | exact Line.nil | ((refine' Line.cons rfl (.run rfl rfl ?_) ?_); (any_goals (first | exact cMove rfl rfl | exact cAssign rfl rfl | exact cAdd (r := ((k + 1 : Nat) : Int)) rfl rfl rfl (by omega))); rotate_left))
  intro a w10 hF hb hN
  have hBs := hB.size
  replace hB := hB.trans (hb.mono hB.size)
  dsimp only [ext, Option.getD] at hF
  repeat with_reducible refine nThen ?_
  exact ⟨m - 1, by omega, k + 1, u', S', by omega, hF.keep [3, 4, 5], hB, hseg'.below hb, hbS⟩
theorem rnames_ty (b : List Nat) (hn : b.length ≤ 4000) (hx : ∀ x ∈ b, x < 256) : Fn1 Try.prog 12 (Ty.rdB b) (Ty.sums 39 (nmsQ (cutQ b))) := (rnames_seg b hn hx).fn
set_option maxRecDepth 100000 in
set_option maxHeartbeats 2000000 in
theorem rgoodq_ty (q : Sm × List Nat) (hx : ∀ x ∈ q.2, x < 256) (hn : q.2.length ≤ 1000000) : Fn1 Try.prog 15 (Ty.pc q) (Ty.ex (.bool (goodQ q))) := by
  refine ⟨fun args w => by kernel_rfl, fun w v hv => ?_⟩
  obtain ⟨u, rfl, hu⟩ := hv
  have hO := r1OfB_ty q.2 (Ty.rdB q.2) (reads_rdB q.2) hx (by omega)
  obtain ⟨x, b⟩ := q
  simp only [goodQ] at *
  generalize hl : b.length = n at *
  refine enter_ty 21 [Ty.ex (.agg (pcA x u))] Try.func15 rfl (by kernel_rfl) ⟨rfl, trivial⟩ fun a hF => ?_
  have hB := Below.refl w.heap.size w
  repeat with_reducible refine wp_seq ?_
  refine' reg_all hF ?_ mixed (by kernel_rfl) ?_
  rotate_left
  · repeat (first | exact Line.nil | ((refine' Line.cons rfl (.run rfl rfl ?_) ?_); (any_goals (first | exact cAssign rfl rfl | exact cBox rfl rfl)); rotate_left))
  intro a w1 hF hb hN
  have hBs := hB.size
  replace hB := hB.trans (hb.mono hB.size)
  dsimp only [ext, Option.getD] at hF
  repeat with_reducible first | refine wp_seq ?_ | refine nThen ?_
  obtain ⟨p, hp, hF⟩ := hF.open (s := 1) rfl
  have hp := at_pcP hp ((Ty.rdB b).below hu hB)
  have hB0 := hB
  by_cases h1 : 1 ≤ n
  · by_cases h2 : n ≤ 128
    · refine' reg_all hF ?_ mixed (by kernel_rfl) ?_
      rotate_left
      · repeat (first | exact Line.nil | ((first | refine' Line.cons rfl (.run rfl rfl ?_) ?_ | refine' Line.cons rfl (.yes rfl rfl rfl rfl ?_) ?_); (any_goals (first | exact cMove rfl rfl | exact cAssign rfl rfl | exact OpOk.b (c := true) (cGeq rfl rfl rfl) (decide_eq_true (by omega)) | exact OpOk.b (c := true) (cLeq rfl rfl rfl) (decide_eq_true (by omega)) | exact cFldQ0 rfl (.l rfl hp) Try.underlying41 rfl sizeR | exact cFldQ1 rfl (.l rfl hp) Try.underlying41 rfl sizeB1 | exact cLoadQB rfl (.t rfl) Try.underlying22 rfl | exact cLenH rfl (.t rfl) (hl ▸ rdB_isSl b) Try.underlying22 | exact cLoadSumR rfl (.t rfl) Try.underlying39 sizeR | exact cCallH1 rfl (.t rfl) hO | exact cEqlAgg rfl rfl rfl guardR (eqlR (shaS b) x) | exact cPickT rfl rfl rfl)); rotate_left))
      intro a w2 hF hb hN
      have hBs := hB.size
      replace hB := hB.trans (hb.mono hB.size)
      dsimp only [ext, Option.getD] at hF
      repeat with_reducible first | refine nThen ?_ | refine wp_ret ?_
      refine ret1 hF rfl rfl fun z hz => ?_
      rw [decide_eq_true h1, decide_eq_true h2]
      exact ⟨z, rfl, hz, hB⟩
    · refine' reg_all hF ?_ mixed (by kernel_rfl) ?_
      rotate_left
      · repeat (first | exact Line.nil | (refine' Line.cons rfl (.no rfl rfl rfl rfl rfl rfl) ?_; rotate_left) | ((first | refine' Line.cons rfl (.run rfl rfl ?_) ?_ | refine' Line.cons rfl (.yes rfl rfl rfl rfl ?_) ?_); (any_goals (first | exact cMove rfl rfl | exact cAssign rfl rfl | exact OpOk.b (c := true) (cGeq rfl rfl rfl) (decide_eq_true (by omega)) | exact OpOk.b (c := false) (cLeq rfl rfl rfl) (decide_eq_false (by omega)) | exact cFldQ1 rfl (.l rfl hp) Try.underlying41 rfl sizeB1 | exact cLoadQB rfl (.t rfl) Try.underlying22 rfl | exact cLenH rfl (.t rfl) (hl ▸ rdB_isSl b) Try.underlying22 | exact cPickT rfl rfl rfl | exact cPickF rfl rfl rfl)); rotate_left))
      intro a w2 hF hb hN
      have hBs := hB.size
      replace hB := hB.trans (hb.mono hB.size)
      dsimp only [ext, Option.getD] at hF
      repeat with_reducible first | refine nThen ?_ | refine wp_ret ?_
      refine ret1 hF rfl rfl fun z hz => ?_
      rw [decide_eq_true h1, decide_eq_false h2]
      exact ⟨z, rfl, hz, hB⟩
  · refine' reg_all hF ?_ mixed (by kernel_rfl) ?_
    rotate_left
    · repeat (first | exact Line.nil | (refine' Line.cons rfl (.no rfl rfl rfl rfl rfl rfl) ?_; rotate_left) | ((refine' Line.cons rfl (.run rfl rfl ?_) ?_); (any_goals (first | exact cMove rfl rfl | exact cAssign rfl rfl | exact OpOk.b (c := false) (cGeq rfl rfl rfl) (decide_eq_false (by omega)) | exact cFldQ1 rfl (.l rfl hp) Try.underlying41 rfl sizeB1 | exact cLoadQB rfl (.t rfl) Try.underlying22 rfl | exact cLenH rfl (.t rfl) (hl ▸ rdB_isSl b) Try.underlying22 | exact cPickF rfl rfl rfl)); rotate_left))
    intro a w2 hF hb hN
    have hBs := hB.size
    replace hB := hB.trans (hb.mono hB.size)
    dsimp only [ext, Option.getD] at hF
    repeat with_reducible first | refine nThen ?_ | refine wp_ret ?_
    refine ret1 hF rfl rfl fun z hz => ?_
    rw [decide_eq_false h1]
    exact ⟨z, rfl, hz, hB⟩
end Go.Proofs.Ytbjlmhbpcopfbaa

/- Chunks: where a sum is first had; chunk.Join. -/
namespace Go.Proofs.Ytbjlmhbpcopfbaa
open Go.RowKit

/-- A call through a closure. -/
theorem cCallCQ {P : Program} {w0 : World} {Γ : Ctx} {o : Oper} {f : FuncId} {ats : Array TypeId} {x0 x : Operand} {cb : Array Value} {τ ρ : Ty} (ho : o.op = .call { callee := .value x0, args := #[x], argTypes := ats }) (h0 : OpT Γ x0 (Ty.ex (.func (.func f) #[] cb))) (hx : Has w0 Γ x τ) (he : Enters P f) (hc : ∀ w v, Below w0.heap.size w0 w → τ.p w v → Ret P f (#[v] ++ cb) w ρ) : OpOk P w0 Γ o ρ :=
  .call fun a w hb hs => by
    obtain ⟨v0, k1, k2⟩ := hs x0 _ (by simp [ho, Op.operands, Call.operands]) h0
    have k2 : v0 = .func (.func f) #[] cb := k2
    obtain ⟨u, h1, h2⟩ := hx.see hs (by simp [ho, Op.operands, Call.operands]) hb
    refine ⟨f, #[u] ++ cb, ?_, hc w u hb h2⟩
    rw [exec_goV a.eval ho (k1.trans k2)]
    simp only [List.map_toArray, List.map_cons, List.map_nil, h1]
    exact he _ w
abbrev joinFn (p : Value) : Value := .func (.func 35) #[] #[p]
set_option maxRecDepth 100000 in
theorem joinF_ret (q : Sm × List Nat) (x : Sm) (p : Value) (w : World) (v : Value) (hv : (Ty.pc q).p w v) (hp : (Ty.at_ 27 x.enc).p w p) : Ret Try.prog 35 #[v, p] w (Ty.ex (.bool (decide (q.1 = x)))) := by
  obtain ⟨u, rfl, hu⟩ := hv
  obtain ⟨y, b⟩ := q
  refine enter_ty 8 [Ty.ex (.agg (pcA y u)), Ty.ex p] Try.func35 rfl (by kernel_rfl) ⟨rfl, rfl, trivial⟩ fun a hF => ?_
  have hB := Below.refl w.heap.size w
  repeat with_reducible refine wp_seq ?_
  refine' reg_all hF ?_ mixed (by kernel_rfl) ?_
  rotate_left
  · repeat (first | exact Line.nil | ((refine' Line.cons rfl (.run rfl rfl ?_) ?_); (any_goals (first | exact cAssign rfl rfl | exact cBox rfl rfl)); rotate_left))
  intro a w1 hF hb hN
  have hBs := hB.size
  replace hB := hB.trans (hb.mono hB.size)
  dsimp only [ext, Option.getD] at hF
  repeat with_reducible first | refine wp_seq ?_ | refine nThen ?_
  obtain ⟨p2, hp2, hF⟩ := hF.open (s := 2) rfl
  have hp2 := at_pcP hp2 ((Ty.rdB b).below hu hB)
  have hp1 := (Ty.at_ 27 x.enc).below hp hB
  refine' reg_all hF ?_ mixed (by kernel_rfl) ?_
  rotate_left
  · repeat (first | exact Line.nil | ((refine' Line.cons rfl (.run rfl rfl ?_) ?_); (any_goals (first | exact cAssign rfl rfl | exact cFldQ0 rfl (.l rfl hp2) Try.underlying29 rfl sizeS | exact cLoadSumR rfl (.t rfl) Try.underlying27 sizeS | exact cLoadSum rfl (.l rfl hp1) Try.underlying27 sizeS | exact cEqlAgg rfl rfl rfl guardS (eqlS y x))); rotate_left))
  intro a w2 hF hb hN
  have hBs := hB.size
  replace hB := hB.trans (hb.mono hB.size)
  dsimp only [ext, Option.getD] at hF
  repeat with_reducible first | refine nThen ?_ | refine wp_ret ?_
  refine ret1 hF rfl rfl fun z hz => ?_
  exact ⟨z, rfl, hz, hB⟩
/-- Where a sum is first had. -/
def posQ (Q : List (Sm × List Nat)) (x : Sm) : Nat := Q.findIdx fun q => decide (q.1 = x)
theorem posQ_at {Q : List (Sm × List Nat)} {x : Sm} {k : Nat} (hk : k < Q.length) (h : (Q.getD k (Sm.zero, [])).1 = x) (hlo : ∀ j, j < k → ¬ (Q.getD j (Sm.zero, [])).1 = x) : posQ Q x = k := by
  have e : ∀ j, (hj : j < Q.length) → Q.getD j (Sm.zero, []) = Q[j] := fun j hj => by simp [List.getD, List.getElem?_eq_getElem hj]
  unfold posQ
  rw [List.findIdx_eq hk]
  refine ⟨by rw [← e k hk]; exact decide_eq_true h, fun j hj => ?_⟩
  rw [← e j (by omega)]
  exact decide_eq_false (hlo j hj)
theorem posQ_none {Q : List (Sm × List Nat)} {x : Sm} (hlo : ∀ j, j < Q.length → ¬ (Q.getD j (Sm.zero, [])).1 = x) : posQ Q x = Q.length := by
  unfold posQ
  rw [List.findIdx_eq_length]
  intro q hq
  obtain ⟨j, hj, rfl⟩ := List.getElem_of_mem hq
  have := hlo j hj
  rw [show Q.getD j (Sm.zero, []) = Q[j] by simp [List.getD, List.getElem?_eq_getElem hj]] at this
  exact decide_eq_false this
def posI (Q : List (Sm × List Nat)) (x : Sm) : Int := if posQ Q x < Q.length then (posQ Q x : Int) else -1
set_option maxRecDepth 100000 in
set_option maxHeartbeats 1000000 in
theorem idxQ_ret (Q : List (Sm × List Nat)) (x : Sm) (p : Value) (w : World) (v : Value) (hv : (Ty.pcsR Q).p w v) (hp : (Ty.at_ 27 x.enc).p w p) (hL : Q.length ≤ 1000000) : Ret Try.prog 34 #[v, joinFn p] w (Ty.ex (.int .i64 (posI Q x))) := by
  have he : Enters Try.prog 35 := fun args w => by kernel_rfl
  refine enter_ty 19 [Ty.ex v, Ty.ex (joinFn p)] Try.func34 rfl (by kernel_rfl) ⟨rfl, rfl, trivial⟩ fun a hF => ?_
  have hB := Below.refl w.heap.size w
  repeat with_reducible refine wp_seq ?_
  refine' reg_all hF ?_ mixed (by kernel_rfl) ?_
  rotate_left
  · repeat (first | exact Line.nil | ((refine' Line.cons rfl (.run rfl rfl ?_) ?_); (any_goals exact cAssign rfl rfl); rotate_left))
  intro a w1 hF hb hN
  have hBs := hB.size
  replace hB := hB.trans (hb.mono hB.size)
  dsimp only [ext, Option.getD] at hF
  repeat with_reducible first | refine wp_seq ?_ | refine nThen ?_
  have hv1 := (Ty.pcsR Q).below hv hB
  refine' reg_all hF ?_ mixed (by kernel_rfl) ?_
  rotate_left
  · repeat (first | exact Line.nil | ((refine' Line.cons rfl (.run rfl rfl ?_) ?_); (any_goals (first | exact cMove rfl rfl | exact cLenH rfl (.l rfl hv1) (pcsR_isSl Q) Try.underlying24)); rotate_left))
  intro a w2 hF hb hN
  have hBs := hB.size
  replace hB := hB.trans (hb.mono hB.size)
  dsimp only [ext, Option.getD] at hF
  repeat with_reducible first | refine nThen ?_ | refine wp_block ?_
  refine loop_ty (fun m a wr => ∃ k : Nat, k + m = Q.length ∧ (∀ j, j < k → ¬ (Q.getD j (Sm.zero, [])).1 = x) ∧ Fr 19 [(0, Ty.ex v), (1, Ty.ex (joinFn p)), (7, Ty.ex (.int .i64 (Q.length : Int))), (8, Ty.ex (.int .i64 (k : Int)))] a wr ∧ Below w.heap.size w wr) Q.length ?_ ?_
  · exact ⟨0, by omega, fun j hj => by omega, hF.keep [0, 1, 7, 8], hB⟩
  clear hF hB hv1
  rintro m a wr ⟨k, hk, hlo, hF, hB⟩
  repeat with_reducible refine wp_seq ?_
  refine' reg_all hF ?_ mixed (by kernel_rfl) ?_
  rotate_left
  · repeat (first | exact Line.nil | ((refine' Line.cons rfl (.run rfl rfl ?_) ?_); (any_goals exact cLss rfl rfl rfl); rotate_left))
  intro a w3 hF hb hN
  have hBs := hB.size
  replace hB := hB.trans (hb.mono hB.size)
  dsimp only [ext, Option.getD] at hF
  repeat with_reducible first | refine wp_seq ?_ | refine nThen ?_
  refine cond_ty hF rfl (fun hlt => ?_) (fun hge => ?_)
  · have hlt : k < Q.length := by have := of_decide_eq_true hlt; omega
    have hC := fun w v (hv : (Ty.pc (Q.getD k (Sm.zero, []))).p w v) (hp : (Ty.at_ 27 x.enc).p w p) => joinF_ret (Q.getD k (Sm.zero, [])) x p w v hv hp
    have hat := @posQ_at Q x k hlt
    have hlo' : ¬ (Q.getD k (Sm.zero, [])).1 = x → ∀ j, j < k + 1 → ¬ (Q.getD j (Sm.zero, [])).1 = x := fun h j hj => by
      by_cases e : j = k
      · rw [e]; exact h
      · exact hlo j (by omega)
    repeat with_reducible first | refine wp_seq ?_ | refine nThen ?_ | refine wp_skip ?_ | refine wp_block ?_
    refine' reg_all hF ?_ mixed (by kernel_rfl) ?_
    rotate_left
    · repeat (first | exact Line.nil | ((refine' Line.cons rfl (.run rfl rfl ?_) ?_); (any_goals (first | exact cMove rfl rfl | exact cAssign rfl rfl)); rotate_left))
    intro a w4 hF hb hN
    have hBs := hB.size
    replace hB := hB.trans (hb.mono hB.size)
    dsimp only [ext, Option.getD] at hF
    repeat with_reducible first | refine wp_seq ?_ | refine nThen ?_
    have hv4 := (Ty.pcsR Q).below hv hB
    have hp4 := (Ty.at_ 27 x.enc).below hp hB
    refine' reg_all hF ?_ mixed (by kernel_rfl) ?_
    rotate_left
    · repeat (first | exact Line.nil | ((refine' Line.cons rfl (.run rfl rfl ?_) ?_); (any_goals (first | exact cMove rfl rfl | exact cIdxQ rfl (.l rfl hv4) rfl Try.underlying24 sizePc hlt | exact cLoadQ rfl (.t rfl) Try.underlying29 rfl sizePc | exact cCallCQ rfl rfl (.t rfl) he (fun W v hb hv => hC W v hv ((Ty.at_ 27 x.enc).below hp4 hb)))); rotate_left))
    intro a w5 hF hb hN
    have hBs := hB.size
    replace hB := hB.trans (hb.mono hB.size)
    dsimp only [ext, Option.getD] at hF
    repeat with_reducible refine nThen ?_
    refine cond_ty hF rfl (fun hin => ?_) (fun hout => ?_)
    · have hpos := hat (of_decide_eq_true hin) hlo
      repeat with_reducible refine wp_seq ?_
      refine' reg_all hF ?_ mixed (by kernel_rfl) ?_
      rotate_left
      · repeat (first | exact Line.nil | ((refine' Line.cons rfl (.run rfl rfl ?_) ?_); (any_goals (first | exact cMove rfl rfl | exact cAssign rfl rfl)); rotate_left))
      intro a w6 hF hb hN
      have hBs := hB.size
      replace hB := hB.trans (hb.mono hB.size)
      dsimp only [ext, Option.getD] at hF
      repeat with_reducible first | refine nThen ?_ | refine wp_ret ?_ | refine rThen ?_ | refine rBlk ?_
      refine ret1 hF rfl rfl fun z hz => ?_
      refine ⟨z, rfl, ?_, hB⟩
      unfold posI
      rw [hpos, if_pos hlt]
      exact hz
    · have hlo2 := hlo' (of_decide_eq_false hout)
      repeat with_reducible first | refine nThen ?_ | refine nBlk ?_ | refine wp_skip ?_
      refine' reg_all hF ?_ mixed (by kernel_rfl) ?_
      rotate_left
      · repeat (first | exact Line.nil | ((refine' Line.cons rfl (.run rfl rfl ?_) ?_); (any_goals (first | exact cMove rfl rfl | exact cAdd (r := ((k + 1 : Nat) : Int)) rfl rfl rfl (by omega))); rotate_left))
      intro a w6 hF hb hN
      have hBs := hB.size
      replace hB := hB.trans (hb.mono hB.size)
      dsimp only [ext, Option.getD] at hF
      repeat with_reducible refine nThen ?_
      exact ⟨m - 1, by omega, k + 1, by omega, hlo2, hF.keep [0, 1, 7, 8], hB⟩
  · have hge : ¬ k < Q.length := by have := of_decide_eq_false hge; omega
    have hpos : posQ Q x = Q.length := posQ_none fun j hj => hlo j (by omega)
    repeat with_reducible first | refine wp_seq ?_ | refine nThen ?_ | refine wp_exit ?_ | refine xThen ?_ | refine xHere ?_
    refine' reg_all hF ?_ mixed (by kernel_rfl) ?_
    rotate_left
    · repeat (first | exact Line.nil | ((refine' Line.cons rfl (.run rfl rfl ?_) ?_); (any_goals exact cAssign rfl rfl); rotate_left))
    intro a w4 hF hb hN
    have hBs := hB.size
    replace hB := hB.trans (hb.mono hB.size)
    dsimp only [ext, Option.getD] at hF
    repeat with_reducible first | refine nThen ?_ | refine wp_ret ?_
    refine ret1 hF rfl rfl fun z hz => ?_
    refine ⟨z, rfl, ?_, hB⟩
    unfold posI
    rw [hpos, if_neg (by omega)]
    exact hz
/-- What is put together. -/
def joinGo (Q : List (Sm × List Nat)) : List Sm → List Nat → List Nat × Nat
  | [], acc => (acc, 0)
  | x :: N, acc => if posQ Q x < Q.length then (if goodQ (Q.getD (posQ Q x) (Sm.zero, [])) = true then joinGo Q N (acc ++ (Q.getD (posQ Q x) (Sm.zero, [])).2) else ([], 11)) else ([], 5)
def joinQ (N : List Sm) (Q : List (Sm × List Nat)) : List Nat × Nat := joinGo Q N []
theorem drop_getD {N : List Sm} {k : Nat} (h : k < N.length) : N.drop k = N.getD k default :: N.drop (k + 1) := by
  rw [List.drop_eq_getElem_cons h]
  simp [List.getD, List.getElem?_eq_getElem h]
theorem getD_memQ {Q : List (Sm × List Nat)} {k : Nat} (h : k < Q.length) : Q.getD k (Sm.zero, []) ∈ Q := by
  rw [List.getD_eq_getElem?_getD, List.getElem?_eq_getElem h]
  exact List.getElem_mem h
theorem goodQ_len {q : Sm × List Nat} (h : goodQ q = true) : q.2.length ≤ 128 := by
  unfold goodQ at h
  simp only [Bool.and_eq_true, decide_eq_true_eq] at h
  exact h.2.1
theorem nil_rdB (w : World) : (Ty.rdB []).p w nilB := ⟨none, 0, rfl, Nat.le_refl _, Nat.zero_le _, fun _ => rfl, Rd.nil _ _⟩
set_option maxRecDepth 100000 in
set_option maxHeartbeats 2000000 in
theorem join_ty (N : List Sm) (Q : List (Sm × List Nat)) (hN : N.length ≤ 10000) (hL : Q.length ≤ 1000000) (hQ : ∀ q ∈ Q, (∀ x ∈ q.2, x < 256) ∧ q.2.length ≤ 1000000) : Fn2 Try.prog 17 (Ty.sums 27 N) (Ty.pcsR Q) (Ty.tup [Ty.rdB (joinQ N Q).1, Ty.ex (.int .i64 ((joinQ N Q).2 : Int))]) := by
  refine ⟨fun args w => by kernel_rfl, fun w v0 v1 h0 h1 => ?_⟩
  have enIdx : Enters Try.prog 34 := fun args w => by kernel_rfl
  refine enter_ty 38 [Ty.ex v0, Ty.ex v1] Try.func17 rfl (by kernel_rfl) ⟨rfl, rfl, trivial⟩ fun a hF => ?_
  have hB := Below.refl w.heap.size w
  repeat with_reducible refine wp_seq ?_
  refine' reg_all hF ?_ mixed (by kernel_rfl) ?_
  rotate_left
  · repeat (first | exact Line.nil | ((refine' Line.cons rfl (.run rfl rfl ?_) ?_); (any_goals exact cAssign rfl rfl); rotate_left))
  intro a w1 hF hb hN
  have hBs := hB.size
  replace hB := hB.trans (hb.mono hB.size)
  dsimp only [ext, Option.getD] at hF
  repeat with_reducible first | refine wp_seq ?_ | refine nThen ?_
  refine' reg_all hF ?_ mixed (by kernel_rfl) ?_
  rotate_left
  · repeat (first | exact Line.nil | ((refine' Line.cons rfl (.run rfl rfl ?_) ?_); (any_goals exact cAssign rfl rfl); rotate_left))
  intro a w2 hF hb hN
  have hBs := hB.size
  replace hB := hB.trans (hb.mono hB.size)
  dsimp only [ext, Option.getD] at hF
  repeat with_reducible first | refine wp_seq ?_ | refine nThen ?_
  have k0 := (Ty.sums 27 N).below h0 hB
  refine' reg_all hF ?_ mixed (by kernel_rfl) ?_
  rotate_left
  · repeat (first | exact Line.nil | ((refine' Line.cons rfl (.run rfl rfl ?_) ?_); (any_goals (first | exact cMove rfl rfl | exact cLenH rfl (.l rfl k0) (Ty.sl_isSl _ _ _) Try.underlying35)); rotate_left))
  intro a w3 hF hb hN
  have hBs := hB.size
  replace hB := hB.trans (hb.mono hB.size)
  dsimp only [ext, Option.getD] at hF
  repeat with_reducible first | refine nThen ?_ | refine wp_block ?_
  have k0 := (Ty.sums 27 N).below h0 hB
  have k1 := (Ty.pcsR Q).below h1 hB
  have hw3 := hB.size
  have hB0 := hB
  replace hB := Below.refl w3.heap.size w3
  refine loop_ty (fun m a wr => ∃ (k : Nat) (u : Value) (S : List Nat) (A : List Nat), k + m = N.length ∧ joinQ N Q = joinGo Q (N.drop k) A ∧ A.length ≤ 128 * k ∧ Fr 38 [(1, Ty.ex v1), (6, Ty.ex u), (10, Ty.ex v0), (11, Ty.ex (.int .i64 (N.length : Int))), (12, Ty.ex (.int .i64 (k : Int)))] a wr ∧ Below w3.heap.size w3 wr ∧ Seg wr 5 1 u A.length (A.map bv) S ∧ ∀ y ∈ S, w3.heap.size ≤ y) N.length ?_ ?_
  · exact ⟨0, _, [], [], by omega, rfl, by simp, hF.keep [1, 6, 10, 11, 12], hB, Seg.nil _ _ _, by simp⟩
  clear hF hB
  rintro m a wr ⟨k, u, S, A, hk, hJ, hAl, hF, hB, hseg, hS⟩
  repeat with_reducible refine wp_seq ?_
  refine' reg_all hF ?_ mixed (by kernel_rfl) ?_
  rotate_left
  · repeat (first | exact Line.nil | ((refine' Line.cons rfl (.run rfl rfl ?_) ?_); (any_goals exact cLss rfl rfl rfl); rotate_left))
  intro a w4 hF hb hN
  have hBs := hB.size
  replace hB := hB.trans (hb.mono hB.size)
  dsimp only [ext, Option.getD] at hF
  repeat with_reducible first | refine wp_seq ?_ | refine nThen ?_
  replace hseg := hseg.below hb
  refine cond_ty hF rfl (fun hlt => ?_) (fun hge => ?_)
  rotate_left
  · have hge : ¬ k < N.length := by have := of_decide_eq_false hge; omega
    have hkN : k = N.length := by omega
    rw [hkN, List.drop_length] at hJ
    repeat with_reducible first | refine wp_seq ?_ | refine nThen ?_ | refine wp_exit ?_ | refine xThen ?_ | refine xHere ?_
    refine' reg_all hF ?_ mixed (by kernel_rfl) ?_
    rotate_left
    · repeat (first | exact Line.nil | ((refine' Line.cons rfl (.run rfl rfl ?_) ?_); (any_goals (first | exact cMove rfl rfl | exact cAssign rfl rfl)); rotate_left))
    intro a w5 hF hb hN
    have hBs := hB.size
    replace hB := hB.trans (hb.mono hB.size)
    dsimp only [ext, Option.getD] at hF
    repeat with_reducible first | refine nThen ?_ | refine wp_ret ?_
    replace hseg := hseg.below hb
    refine ret2 hF rfl rfl rfl fun y z hy hz => ?_
    refine ⟨_, rfl, ⟨[y, z], rfl, ?_, ?_, trivial⟩, hB0.trans (hB.mono hw3)⟩
    · rw [hJ]
      have hy : y = u := hy
      rw [hy]
      exact seg_rdB hseg
    · rw [hJ]; exact hz
  have hlt : k < N.length := by have := of_decide_eq_true hlt; omega
  rw [drop_getD hlt] at hJ
  have k0r := (Ty.sums 27 N).below k0 hB
  have hw4 := hB.size
  have hSlt : ∀ y ∈ S, y < w4.heap.size := fun y hy => hseg.lt y hy
  have hseg4 := hseg
  repeat with_reducible first | refine wp_seq ?_ | refine nThen ?_ | refine wp_skip ?_ | refine wp_block ?_
  refine' region_ty 3 mixed (by kernel_rfl) hF ?_ ?_
  rotate_left
  · simp only [List.take_succ_cons, List.take_zero]
    repeat (first
        | exact Line.nil
        | (refine' Line.cons rfl (.new rfl rfl (run_alloc_i infoS) rfl) ?_; rotate_left)
        | ((refine' Line.cons rfl (.run rfl rfl ?_) ?_)
           any_goals (first | exact cIndexSum (L := N) (k := k) rfl (.l rfl k0r) rfl Try.underlying35 sizeS hlt | exact cLoadSum rfl (.t rfl) Try.underlying27 sizeS)
           rotate_left))
  intro a w5 hF hb hN
  have hBs := hB.size
  replace hB := hB.trans (hb.mono hB.size)
  simp only [List.take_succ_cons, List.take_zero, List.drop_succ_cons, List.drop_zero] at hF hN ⊢
  dsimp only [ext, Option.getD] at hF
  generalize N.getD k default = x at *
  replace hseg := hseg.below hb
  obtain ⟨z, ⟨gx, rfl, hgx, hbx⟩, hF⟩ := hF.open (s := 8) rfl
  have hgx : w4.heap.size ≤ gx := hgx
  refine tlStoreV (Δ := [(1, Ty.ex v1), (6, Ty.ex u), (8, Ty.ex (.pointer (some ⟨gx, 0, none⟩))), (10, Ty.ex v0), (11, Ty.ex (.int .i64 (N.length : Int))), (12, Ty.ex (.int .i64 (k : Int)))]) hF rfl rfl rfl rfl (hF.getEx (s := 15) rfl) hbx (by show (u8s _).size = (u8s _).size; rw [u8s_size, u8s_size, Sm.len]; rfl) (by show _ = some (u8s _).size; rw [u8s_size, Sm.len]; exact sizeS) (u8s_one _) (hF.keep [1, 6, 8, 10, 11, 12]) rfl ?_
  intro w6 hF hbx hkx
  refine wpList_nil ?_
  replace hseg := hseg.keeps hkx (by intro y hy hm; simp only [List.mem_singleton] at hm; have := hSlt y hy; omega)
  replace hB := below_own hB hkx (by intro y hy; simp only [List.mem_singleton] at hy; omega)
  have hax : (Ty.at_ 27 x.enc).p w6 (.pointer (some ⟨gx, 0, none⟩)) := by
    have h := blk_at hbx
    rwa [show (Value.agg (u8s x.l)).cells.toList = x.enc from u8s_list _] at h
  have k1r := (Ty.pcsR Q).below k1 hB
  have hpI : posI Q x = if posQ Q x < Q.length then (posQ Q x : Int) else -1 := rfl
  have hgd : posQ Q x < Q.length → (∀ y ∈ (Q.getD (posQ Q x) (Sm.zero, [])).2, y < 256) ∧ (Q.getD (posQ Q x) (Sm.zero, [])).2.length ≤ 1000000 := fun h => hQ _ (getD_memQ h)
  have hI := fun (W : World) (hb : Below w6.heap.size w6 W) => idxQ_ret Q x _ W v1 ((Ty.pcsR Q).below k1r hb) ((Ty.at_ 27 x.enc).below hax hb) hL
  have hgo : joinGo Q (x :: N.drop (k + 1)) A = if posQ Q x < Q.length then (if goodQ (Q.getD (posQ Q x) (Sm.zero, [])) = true then joinGo Q (N.drop (k + 1)) (A ++ (Q.getD (posQ Q x) (Sm.zero, [])).2) else ([], 11)) else ([], 5) := rfl
  rw [hgo] at hJ
  clear hgo
  generalize posI Q x = j at *
  generalize posQ Q x = i at *
  repeat with_reducible first | refine wp_seq ?_ | refine nThen ?_
  refine' reg_all hF ?_ mixed (by kernel_rfl) ?_
  rotate_left
  · repeat (first | exact Line.nil | ((refine' Line.cons rfl (.run rfl rfl ?_) ?_); (any_goals (first | exact cMove rfl rfl | exact cAssign rfl rfl | exact cMakeFunc rfl rfl | exact cCallX2 rfl rfl rfl enIdx hI)); rotate_left))
  intro a w7 hF hb hN
  have hBs := hB.size
  replace hB := hB.trans (hb.mono hB.size)
  dsimp only [ext, Option.getD] at hF
  repeat with_reducible first | refine wp_seq ?_ | refine nThen ?_ | refine wp_block ?_
  replace hseg := hseg.below hb
  by_cases hi : i < Q.length
  rotate_left
  · rw [if_neg hi] at hJ hpI
    subst hpI
    refine' reg_all hF ?_ mixed (by kernel_rfl) ?_
    rotate_left
    · repeat (first | exact Line.nil | ((refine' Line.cons rfl (.run rfl rfl ?_) ?_); (any_goals (first | exact cMove rfl rfl | exact cAssign rfl rfl | exact OpOk.b (c := true) (cLss rfl rfl rfl) (by decide))); rotate_left))
    intro a w8 hF hb hN
    have hBs := hB.size
    replace hB := hB.trans (hb.mono hB.size)
    dsimp only [ext, Option.getD] at hF
    repeat with_reducible refine nThen ?_
    refine cond_t hF rfl ?_
    repeat with_reducible refine wp_seq ?_
    refine' reg_all hF ?_ mixed (by kernel_rfl) ?_
    rotate_left
    · repeat (first | exact Line.nil | ((refine' Line.cons rfl (.run rfl rfl ?_) ?_); (any_goals exact cAssign rfl rfl); rotate_left))
    intro a w9 hF hb hN
    have hBs := hB.size
    replace hB := hB.trans (hb.mono hB.size)
    dsimp only [ext, Option.getD] at hF
    repeat with_reducible first | refine nThen ?_ | refine wp_ret ?_ | refine rThen ?_ | refine rBlk ?_
    refine ret2 hF rfl rfl rfl fun y z hy hz => ?_
    refine ⟨_, rfl, ⟨[y, z], rfl, ?_, ?_, trivial⟩, hB0.trans (hB.mono hw3)⟩
    · rw [hJ]
      have hy : y = nilB := hy
      rw [hy]
      exact nil_rdB _
    · rw [hJ]; exact hz
  rw [if_pos hi] at hJ hpI
  subst hpI
  obtain ⟨hg1, hg2⟩ := hgd hi
  have hG := goodq_ty (Q.getD i (Sm.zero, [])) hg1 hg2
  have hGl := @goodQ_len (Q.getD i (Sm.zero, []))
  have k1r := (Ty.pcsR Q).below k1 hB
  refine' reg_all hF ?_ mixed (by kernel_rfl) ?_
  rotate_left
  · repeat (first | exact Line.nil | ((refine' Line.cons rfl (.run rfl rfl ?_) ?_); (any_goals (first | exact cMove rfl rfl | exact cAssign rfl rfl | exact OpOk.b (c := false) (cLss rfl rfl rfl) (decide_eq_false (by omega)))); rotate_left))
  intro a w8 hF hb hN
  have hBs := hB.size
  replace hB := hB.trans (hb.mono hB.size)
  dsimp only [ext, Option.getD] at hF
  repeat with_reducible refine nThen ?_
  refine cond_f hF rfl ?_
  replace hseg := hseg.below hb
  have k1r := (Ty.pcsR Q).below k1 hB
  repeat with_reducible refine wp_seq ?_
  refine' reg_all hF ?_ mixed (by kernel_rfl) ?_
  rotate_left
  · repeat (first | exact Line.nil | ((refine' Line.cons rfl (.run rfl rfl ?_) ?_); (any_goals (first | exact cMove rfl rfl | exact cAssign rfl rfl | exact cNot rfl rfl | exact cIdxQ rfl (.l rfl k1r) rfl Try.underlying24 sizePc hi | exact cLoadQ rfl (.t rfl) Try.underlying29 rfl sizePc | exact cCallH1 rfl (.t rfl) hG)); rotate_left))
  intro a w9 hF hb hN
  have hBs := hB.size
  replace hB := hB.trans (hb.mono hB.size)
  dsimp only [ext, Option.getD] at hF
  repeat with_reducible refine nThen ?_
  replace hseg := hseg.below hb
  refine cond_ty hF rfl (fun hbad => ?_) (fun hok => ?_)
  · have hbad : ¬ goodQ (Q.getD i (Sm.zero, [])) = true := by simpa using hbad
    rw [if_neg hbad] at hJ
    repeat with_reducible refine wp_seq ?_
    refine' reg_all hF ?_ mixed (by kernel_rfl) ?_
    rotate_left
    · repeat (first | exact Line.nil | ((refine' Line.cons rfl (.run rfl rfl ?_) ?_); (any_goals exact cAssign rfl rfl); rotate_left))
    intro a w10 hF hb hN
    have hBs := hB.size
    replace hB := hB.trans (hb.mono hB.size)
    dsimp only [ext, Option.getD] at hF
    repeat with_reducible first | refine nThen ?_ | refine wp_ret ?_ | refine rThen ?_ | refine rBlk ?_
    refine ret2 hF rfl rfl rfl fun y z hy hz => ?_
    refine ⟨_, rfl, ⟨[y, z], rfl, ?_, ?_, trivial⟩, hB0.trans (hB.mono hw3)⟩
    · rw [hJ]
      have hy : y = nilB := hy
      rw [hy]
      exact nil_rdB _
    · rw [hJ]; exact hz
  have hok : goodQ (Q.getD i (Sm.zero, [])) = true := by simpa using hok
  rw [if_pos hok] at hJ
  have hbl := hGl hok
  have k1r := (Ty.pcsR Q).below k1 hB
  repeat with_reducible first | refine nThen ?_ | refine nBlk ?_ | refine wp_skip ?_
  refine' region_ty 6 mixed (by kernel_rfl) hF ?_ ?_
  rotate_left
  · simp only [List.take_succ_cons, List.take_zero]
    repeat (first | exact Line.nil | ((refine' Line.cons rfl (.run rfl rfl ?_) ?_); (any_goals (first | exact cMove rfl rfl | exact cIdxQ rfl (.l rfl k1r) rfl Try.underlying24 sizePc hi | exact cFldQ1 rfl (.t rfl) Try.underlying29 rfl sizeB1 | exact cLoadQB rfl (.t rfl) Try.underlying22 rfl)); rotate_left))
  intro a w10 hF hb hN
  have hBs := hB.size
  replace hB := hB.trans (hb.mono hB.size)
  simp only [List.take_succ_cons, List.take_zero, List.drop_succ_cons, List.drop_zero] at hF hN ⊢
  dsimp only [ext, Option.getD] at hF
  replace hseg := hseg.below hb
  generalize Q.getD i (Sm.zero, []) = q at *
  refine tlAppend (Δ := [(1, Ty.ex v1), (10, Ty.ex v0), (11, Ty.ex (.int .i64 (N.length : Int))), (12, Ty.ex (.int .i64 (k : Int)))]) (n := A.length) (m := q.2.length) (news := q.2.map bv) hF rfl rfl rfl rfl Try.underlying22 infoU8 rfl rfl hseg (.t rfl) rdB_news (by simp) (bv_oneC _) (by simp [maxLen]; omega) (by omega) (hF.keep [1, 10, 11, 12]) rfl ?_
  intro a w11 u' S' hF hseg' hk11 hS'
  have hbS : ∀ y ∈ S', w3.heap.size ≤ y := own_next hB hS hS'
  replace hB := below_own hB hk11 hS
  rw [← List.map_append, ← List.length_append] at hseg'
  refine' tlOp hF rfl rfl rfl ?_ ?_
  rotate_left
  · exact cAssign rfl rfl
  intro a w12 hF hb
  have hBs := hB.size
  replace hB := hB.trans (hb.mono hB.size)
  try (refine wpList_nil ?_)
  repeat with_reducible first | refine nThen ?_ | refine nBlk ?_
  replace hseg' := hseg'.below hb
  refine' reg_all hF ?_ mixed (by kernel_rfl) ?_
  rotate_left
  · repeat (first | exact Line.nil | ((refine' Line.cons rfl (.run rfl rfl ?_) ?_); (any_goals (first | exact cMove rfl rfl | exact cAdd (r := ((k + 1 : Nat) : Int)) rfl rfl rfl (by omega))); rotate_left))
  intro a w13 hF hb hN
  have hBs := hB.size
  replace hB := hB.trans (hb.mono hB.size)
  dsimp only [ext, Option.getD] at hF
  repeat with_reducible refine nThen ?_
  exact ⟨m - 1, by omega, k + 1, u', S', A ++ q.2, by omega, hJ, by rw [List.length_append]; omega, hF.keep [1, 6, 10, 11, 12], hB, hseg'.below hb, hbS⟩
end Go.Proofs.Ytbjlmhbpcopfbaa

/- Chunks: the document's Join; the law's pieces, names, sums. -/
namespace Go.Proofs.Ytbjlmhbpcopfbaa
open Go.RowKit

section
variable {P : Program} {w0 : World} {Γ : Ctx} {o : Oper} {x : Operand} {t ft : TypeId} {fs : Array Field} {sz : Nat} {s : Sm} {u : Value}
theorem cFldX0 (ho : o.op = .fieldAddr t x 0) (hx : Has w0 Γ x (Ty.atR (s.enc ++ [u]))) (hu : P.underlying t = some (.struct fs)) (hf : (fs[0]?).map (fun f => (f.type, f.offset)) = some (ft, 0)) (hz : (P.info? ft).map (·.size) = some (sz + 1)) : OpOk P w0 Γ o (Ty.atR s.enc) :=
  .val fun a w hb hs => by
    obtain ⟨v, h1, ad, rfl, h2, h3⟩ := hx.see hs (by simp [ho, Op.operands]) hb
    refine ⟨.pointer (some (ad.add 0)), ⟨ad.add 0, rfl, rd_add (rd_pre h2) 0, fun h => ?_⟩, ?_⟩
    · have := congrArg List.length h; rw [encL] at this; cases this
    · unfold execOp
      simp [ho, h1, run_fieldR hu hf hz]
theorem cFldX1 (ho : o.op = .fieldAddr t x 1) (hx : Has w0 Γ x (Ty.atR (s.enc ++ [u]))) (hu : P.underlying t = some (.struct fs)) (hf : (fs[1]?).map (fun f => (f.type, f.offset)) = some (ft, 32)) (hz : (P.info? ft).map (·.size) = some (sz + 1)) : OpOk P w0 Γ o (Ty.atR [u]) :=
  .val fun a w hb hs => by
    obtain ⟨v, h1, ad, rfl, h2, h3⟩ := hx.see hs (by simp [ho, Op.operands]) hb
    have h5 := rd_add h2 32
    rw [List.drop_append, encL, List.drop_of_length_le (Nat.le_of_eq (encL _)), List.nil_append, Nat.sub_self, List.drop_zero] at h5
    refine ⟨.pointer (some (ad.add 32)), ⟨ad.add 32, rfl, h5, by simp⟩, ?_⟩
    unfold execOp
    simp [ho, h1, run_fieldR hu hf hz]
end
theorem cBuildRiX {w0 : World} {Γ : Ctx} {o : Oper} {x y : Operand} {s : Sm} {v : Value} (ho : o.op = .build RiT #[(0, x), (1, y)]) (hx : OpT Γ x (Ty.ex (.agg (u8s s.l)))) (hy : OpT Γ y (Ty.ex v)) (hv : ∃ A l c, v = .slice A l c) : OpOk Try.prog w0 Γ o (Ty.ex (.agg (pcA s v))) :=
  cBuildP (vs := #[(0, .agg (u8s s.l)), (1, v)]) ho (fun a w hs => by
    obtain ⟨v', h1, h2⟩ := hs x _ (by simp [ho, Op.operands]) hx
    obtain ⟨u', h3, h4⟩ := hs y _ (by simp [ho, Op.operands]) hy
    have h2 : v' = .agg (u8s s.l) := h2
    have h4 : u' = v := h4
    simp [h1, h2, h3, h4]) (buildRi s hv)
theorem takeQ_snoc (L : List (Sm × Value)) {k : Nat} (h : k < L.length) : L.take (k + 1) = L.take k ++ [L.getD k (Sm.zero, nilB)] := by
  rw [List.take_succ_eq_append_getElem h]
  simp [List.getD, List.getElem?_eq_getElem h]
theorem wp_cut2 {P : Program} {c : Code} {id : Nat} {R : Act → World → Prop} {S : Exit → Act → World → Prop} {a : Act} {w : World} (h : c.wp P (fun e a w => e = .exit id ∧ R a w) a w) (hm : ∀ a w, R a w → S (.exit id) a w) : c.wp P S a w :=
  wp_mono h fun e a w ⟨he, hr⟩ => by subst he; exact hm a w hr
set_option maxRecDepth 100000 in
set_option maxHeartbeats 2000000 in
theorem pieces_ty (Q : List (Sm × List Nat)) (hn : Q.length ≤ 4000) : Fn1 Try.prog 16 (Ty.pcsR Q) (Ty.pcsR Q) := by
  refine ⟨fun args w => by kernel_rfl, fun w v hv => ?_⟩
  refine enter_ty 26 [Ty.ex v] Try.func16 rfl (by kernel_rfl) ⟨rfl, trivial⟩ fun a hF => ?_
  have hB := Below.refl w.heap.size w
  repeat with_reducible refine wp_seq ?_
  refine' reg_all hF ?_ mixed (by kernel_rfl) ?_
  rotate_left
  · repeat (first | exact Line.nil | ((refine' Line.cons rfl (.run rfl rfl ?_) ?_); (any_goals exact cAssign rfl rfl); rotate_left))
  intro a w1 hF hb hN
  have hBs := hB.size
  replace hB := hB.trans (hb.mono hB.size)
  dsimp only [ext, Option.getD] at hF
  repeat with_reducible first | refine wp_seq ?_ | refine nThen ?_
  refine' reg_all hF ?_ mixed (by kernel_rfl) ?_
  rotate_left
  · repeat (first | exact Line.nil | ((refine' Line.cons rfl (.run rfl rfl ?_) ?_); (any_goals exact cAssign rfl rfl); rotate_left))
  intro a w2 hF hb hN
  have hBs := hB.size
  replace hB := hB.trans (hb.mono hB.size)
  dsimp only [ext, Option.getD] at hF
  repeat with_reducible first | refine wp_seq ?_ | refine nThen ?_
  refine' reg_all hF ?_ mixed (by kernel_rfl) ?_
  rotate_left
  · repeat (first | exact Line.nil | ((refine' Line.cons rfl (.run rfl rfl ?_) ?_); (any_goals exact cAssign rfl rfl); rotate_left))
  intro a w3 hF hb hN
  have hBs := hB.size
  replace hB := hB.trans (hb.mono hB.size)
  dsimp only [ext, Option.getD] at hF
  repeat with_reducible first | refine nThen ?_ | refine wp_block ?_
  obtain ⟨L, hL, hrd⟩ := id hv
  have hLl : L.length = Q.length := hL.1
  refine loop_ty (fun m a wr => ∃ (k : Nat) (u : Value) (S : List Nat), k + m = Q.length ∧ Fr 26 [(0, Ty.ex v), (3, Ty.ex u), (4, Ty.ex (.int .i64 (k : Int)))] a wr ∧ Below w.heap.size w wr ∧ Seg wr RiT 33 u k (flatQ (L.take k)) S ∧ ∀ y ∈ S, w.heap.size ≤ y) Q.length ?_ ?_
  · exact ⟨0, _, [], by omega, hF.keep [0, 3, 4], hB, Seg.nil _ _ _, by simp⟩
  clear hF hB
  rintro m a wr ⟨k, u, S, hk, hF, hB, hseg, hS⟩
  have hvr := (Ty.pcsR Q).below hv hB
  repeat with_reducible refine wp_seq ?_
  refine' reg_all hF ?_ mixed (by kernel_rfl) ?_
  rotate_left
  · repeat (first | exact Line.nil | ((refine' Line.cons rfl (.run rfl rfl ?_) ?_); (any_goals (first | exact cMove rfl rfl | exact cLenH rfl (.l rfl hvr) (pcsR_isSl Q) Try.underlying24 | exact cLss rfl rfl rfl)); rotate_left))
  intro a w4 hF hb hN
  have hBs := hB.size
  replace hB := hB.trans (hb.mono hB.size)
  dsimp only [ext, Option.getD] at hF
  repeat with_reducible refine nThen ?_
  replace hseg := hseg.below hb
  refine cond_ty hF rfl (fun hlt => ?_) (fun hge => ?_)
  rotate_left
  · have hge : ¬ k < Q.length := by have := of_decide_eq_false hge; omega
    have hkP : k = Q.length := by omega
    rw [hkP, ← hLl, List.take_length] at hseg
    repeat with_reducible first | refine wp_seq ?_ | refine nThen ?_ | refine wp_exit ?_ | refine xThen ?_ | refine xHere ?_
    refine' reg_all hF ?_ mixed (by kernel_rfl) ?_
    rotate_left
    · repeat (first | exact Line.nil | ((refine' Line.cons rfl (.run rfl rfl ?_) ?_); (any_goals (first | exact cMove rfl rfl | exact cAssign rfl rfl)); rotate_left))
    intro a w5 hF hb hN
    have hBs := hB.size
    replace hB := hB.trans (hb.mono hB.size)
    dsimp only [ext, Option.getD] at hF
    repeat with_reducible first | refine nThen ?_ | refine wp_ret ?_
    replace hseg := hseg.below hb
    refine ret1 hF rfl rfl fun z hz => ?_
    have hz : z = u := hz
    subst hz
    exact ⟨_, rfl, ⟨L, hL.below hB, reads_sl _ _ _ _ _ (by rw [← hLl]; exact hseg.sl)⟩, hB⟩
  have hlt : k < Q.length := by have := of_decide_eq_true hlt; omega
  have hkl : k < L.length := by omega
  have hts := takeQ_snoc L hkl
  have hrr := (Ty.rd _ _).below hrd hB
  have hsA := rdB_slice (hL.2 k hlt).2
  have ix : ∀ {Γ : Ctx} {o : Oper} {x ix : Operand} {kd : IntKind} (ho : o.op = .indexAddr PiL x ix) (hx : Has w4 Γ x (Ty.rd Q.length (flatQ L))) (hi : OpT Γ ix (Ty.ex (.int kd (k : Int)))), OpOk Try.prog w4 Γ o (Ty.atR ((L.getD k (Sm.zero, nilB)).1.enc ++ [(L.getD k (Sm.zero, nilB)).2])) := fun ho hx hi => cIdxQX ho hx hi Try.underlying24 sizePc hlt hkl
  generalize L.getD k (Sm.zero, nilB) = l at *
  obtain ⟨x, ux⟩ := l
  dsimp only at *
  repeat with_reducible first | refine wp_seq ?_ | refine nThen ?_ | refine wp_skip ?_ | refine wp_block ?_
  refine' region_ty 13 mixed (by kernel_rfl) hF ?_ ?_
  rotate_left
  · simp only [List.take_succ_cons, List.take_zero]
    repeat (first | exact Line.nil | ((refine' Line.cons rfl (.run rfl rfl ?_) ?_); (any_goals (first | exact cMove rfl rfl | exact ix rfl (.l rfl hrr) rfl | exact cFldX0 rfl (.t rfl) Try.underlying29 rfl sizeS | exact cFldX1 rfl (.t rfl) Try.underlying29 rfl sizeB1 | exact cLoadSumR rfl (.t rfl) Try.underlying27 sizeS | exact cLoad1 rfl (.t rfl) (pts_atR _) Try.underlying22 rfl | exact cBuildRiX (s := x) rfl rfl rfl hsA | exact cBuildV (vs := [.agg (pcA x ux)]) rfl (parts1v rfl rfl) Try.underlying32 infoRi rfl (by intro z hz; simp only [List.mem_singleton] at hz; subst hz; exact pcA_size _ _) (by decide) (by simp [maxLen]))); rotate_left))
  intro a w5 hF hb hN
  have hBs := hB.size
  replace hB := hB.trans (hb.mono hB.size)
  simp only [List.take_succ_cons, List.take_zero, List.drop_succ_cons, List.drop_zero] at hF hN ⊢
  dsimp only [ext, Option.getD] at hF
  replace hseg := hseg.below hb
  rw [newsPc] at hF
  refine tlAppend (Δ := [(0, Ty.ex v), (4, Ty.ex (.int .i64 (k : Int)))]) (n := k) (m := 1) (news := flatQ [(x, ux)]) hF rfl rfl rfl rfl Try.underlying32 infoRi (pcA_size _ _) rfl hseg (.t rfl) sl_news (by rw [flatQ_len]; rfl) (one_pc x hsA) (by simp [maxLen]; omega) (by omega) (hF.keep [0, 4]) rfl ?_
  intro a w7 u' S' hF hseg' hk7 hS'
  have hbS : ∀ y ∈ S', w.heap.size ≤ y := own_next hB hS hS'
  replace hB := below_own hB hk7 hS
  rw [← flatQ_snoc, ← hts] at hseg'
  refine' tlOp hF rfl rfl rfl ?_ ?_
  rotate_left
  · exact cAssign rfl rfl
  intro a w8 hF hb
  have hBs := hB.size
  replace hB := hB.trans (hb.mono hB.size)
  try (refine wpList_nil ?_)
  repeat with_reducible first | refine nThen ?_ | refine nBlk ?_
  replace hseg' := hseg'.below hb
  refine' reg_all hF ?_ mixed (by kernel_rfl) ?_
  rotate_left
  · repeat (first | exact Line.nil | ((refine' Line.cons rfl (.run rfl rfl ?_) ?_); (any_goals (first | exact cMove rfl rfl | exact cAssign rfl rfl | exact cAdd (r := ((k + 1 : Nat) : Int)) rfl rfl rfl (by omega))); rotate_left))
  intro a w9 hF hb hN
  have hBs := hB.size
  replace hB := hB.trans (hb.mono hB.size)
  dsimp only [ext, Option.getD] at hF
  repeat with_reducible refine nThen ?_
  exact ⟨m - 1, by omega, k + 1, u', S', by omega, hF.keep [0, 3, 4], hB, hseg'.below hb, hbS⟩
set_option maxRecDepth 100000 in
set_option maxHeartbeats 2000000 in
theorem names11_ty (M : List Sm) (hn : M.length ≤ 10000) : Fn1 Try.prog 19 (Ty.sums 27 M) (Ty.sums 39 M) := by
  refine ⟨fun args w => by kernel_rfl, fun w v hv => ?_⟩
  let TM := Ty.sums 27 M
  have hv : TM.p w v := hv
  refine enter_ty 19 [Ty.ex v] Try.func19 rfl (by kernel_rfl) ⟨rfl, trivial⟩ fun a hF => ?_
  have hB := Below.refl w.heap.size w
  repeat with_reducible refine wp_seq ?_
  refine' reg_all hF ?_ mixed (by kernel_rfl) ?_
  rotate_left
  · repeat (first | exact Line.nil | ((refine' Line.cons rfl (.run rfl rfl ?_) ?_); (any_goals exact cAssign rfl rfl); rotate_left))
  intro a w1 hF hb hN
  have hBs := hB.size
  replace hB := hB.trans (hb.mono hB.size)
  dsimp only [ext, Option.getD] at hF
  repeat with_reducible first | refine wp_seq ?_ | refine nThen ?_
  refine' reg_all hF ?_ mixed (by kernel_rfl) ?_
  rotate_left
  · repeat (first | exact Line.nil | ((refine' Line.cons rfl (.run rfl rfl ?_) ?_); (any_goals exact cAssign rfl rfl); rotate_left))
  intro a w2 hF hb hN
  have hBs := hB.size
  replace hB := hB.trans (hb.mono hB.size)
  dsimp only [ext, Option.getD] at hF
  repeat with_reducible first | refine wp_seq ?_ | refine nThen ?_
  refine' reg_all hF ?_ mixed (by kernel_rfl) ?_
  rotate_left
  · repeat (first | exact Line.nil | ((refine' Line.cons rfl (.run rfl rfl ?_) ?_); (any_goals exact cAssign rfl rfl); rotate_left))
  intro a w3 hF hb hN
  have hBs := hB.size
  replace hB := hB.trans (hb.mono hB.size)
  dsimp only [ext, Option.getD] at hF
  repeat with_reducible first | refine nThen ?_ | refine wp_block ?_
  refine loop_ty (fun m a wr => ∃ (k : Nat) (u : Value) (S : List Nat), k + m = M.length ∧ Fr 19 [(0, Ty.ex v), (3, Ty.ex u), (4, Ty.ex (.int .i64 (k : Int)))] a wr ∧ Below w.heap.size w wr ∧ Seg wr 39 32 u k (flat (M.take k)) S ∧ ∀ y ∈ S, w.heap.size ≤ y) M.length ?_ ?_
  · exact ⟨0, _, [], by omega, hF.keep [0, 3, 4], hB, Seg.nil _ _ _, by simp⟩
  clear hF hB
  rintro m a wr ⟨k, u, S, hk, hF, hB, hseg, hS⟩
  have hvr := TM.below hv hB
  repeat with_reducible refine wp_seq ?_
  refine' reg_all hF ?_ mixed (by kernel_rfl) ?_
  rotate_left
  · repeat (first | exact Line.nil | ((refine' Line.cons rfl (.run rfl rfl ?_) ?_); (any_goals (first | exact cMove rfl rfl | exact cLenH rfl (.l rfl hvr) (Ty.sl_isSl _ _ _) Try.underlying35 | exact cLss rfl rfl rfl)); rotate_left))
  intro a w4 hF hb hN
  have hBs := hB.size
  replace hB := hB.trans (hb.mono hB.size)
  dsimp only [ext, Option.getD] at hF
  repeat with_reducible refine nThen ?_
  replace hseg := hseg.below hb
  refine cond_ty hF rfl (fun hlt => ?_) (fun hge => ?_)
  rotate_left
  · have hge : ¬ k < M.length := by have := of_decide_eq_false hge; omega
    have hkP : k = M.length := by omega
    rw [hkP, List.take_length] at hseg
    repeat with_reducible first | refine wp_seq ?_ | refine nThen ?_ | refine wp_exit ?_ | refine xThen ?_ | refine xHere ?_
    refine' reg_all hF ?_ mixed (by kernel_rfl) ?_
    rotate_left
    · repeat (first | exact Line.nil | ((refine' Line.cons rfl (.run rfl rfl ?_) ?_); (any_goals (first | exact cMove rfl rfl | exact cAssign rfl rfl)); rotate_left))
    intro a w5 hF hb hN
    have hBs := hB.size
    replace hB := hB.trans (hb.mono hB.size)
    dsimp only [ext, Option.getD] at hF
    repeat with_reducible first | refine nThen ?_ | refine wp_ret ?_
    replace hseg := hseg.below hb
    refine ret1 hF rfl rfl fun z hz => ?_
    have hz : z = u := hz
    subst hz
    exact ⟨_, rfl, hseg.sl, hB⟩
  have hlt : k < M.length := by have := of_decide_eq_true hlt; omega
  have hts : M.take (k + 1) = M.take k ++ [M.getD k default] := by
    rw [List.take_succ_eq_append_getElem hlt]
    simp [List.getD, List.getElem?_eq_getElem hlt]
  have hvr := TM.below hv hB
  repeat with_reducible first | refine wp_seq ?_ | refine nThen ?_ | refine wp_skip ?_ | refine wp_block ?_
  refine' region_ty 6 mixed (by kernel_rfl) hF ?_ ?_
  rotate_left
  · simp only [List.take_succ_cons, List.take_zero]
    repeat (first | exact Line.nil | ((refine' Line.cons rfl (.run rfl rfl ?_) ?_); (any_goals (first | exact cMove rfl rfl | exact cIndexSum (L := M) (k := k) rfl (.l rfl hvr) rfl Try.underlying35 sizeS hlt | exact cLoadSum rfl (.t rfl) Try.underlying27 sizeS | exact cBuildSums [M.getD k default] rfl (parts1v rfl rfl) Try.underlying37 infoR rfl)); rotate_left))
  intro a w5 hF hb hN
  have hBs := hB.size
  replace hB := hB.trans (hb.mono hB.size)
  simp only [List.take_succ_cons, List.take_zero, List.drop_succ_cons, List.drop_zero] at hF hN ⊢
  dsimp only [ext, Option.getD] at hF
  replace hseg := hseg.below hb
  generalize M.getD k default = x at *
  refine tlAppend (Δ := [(0, Ty.ex v), (4, Ty.ex (.int .i64 (k : Int)))]) (n := k) (m := 1) (news := flat [x]) hF rfl rfl rfl rfl Try.underlying37 infoR zero32_size rfl hseg (.t rfl) sl_news (by rw [flat_len]; rfl) flat_one' (by simp [maxLen]; omega) (by omega) (hF.keep [0, 4]) rfl ?_
  intro a w7 u' S' hF hseg' hk7 hS'
  have hbS : ∀ y ∈ S', w.heap.size ≤ y := own_next hB hS hS'
  replace hB := below_own hB hk7 hS
  rw [← flat_append, ← hts] at hseg'
  refine' tlOp hF rfl rfl rfl ?_ ?_
  rotate_left
  · exact cAssign rfl rfl
  intro a w8 hF hb
  have hBs := hB.size
  replace hB := hB.trans (hb.mono hB.size)
  try (refine wpList_nil ?_)
  repeat with_reducible first | refine nThen ?_ | refine nBlk ?_
  replace hseg' := hseg'.below hb
  refine' reg_all hF ?_ mixed (by kernel_rfl) ?_
  rotate_left
  · repeat (first | exact Line.nil | ((refine' Line.cons rfl (.run rfl rfl ?_) ?_); (any_goals (first | exact cMove rfl rfl | exact cAssign rfl rfl | exact cAdd (r := ((k + 1 : Nat) : Int)) rfl rfl rfl (by omega))); rotate_left))
  intro a w9 hF hb hN
  have hBs := hB.size
  replace hB := hB.trans (hb.mono hB.size)
  dsimp only [ext, Option.getD] at hF
  repeat with_reducible refine nThen ?_
  exact ⟨m - 1, by omega, k + 1, u', S', by omega, hF.keep [0, 3, 4], hB, hseg'.below hb, hbS⟩
set_option maxRecDepth 100000 in
set_option maxHeartbeats 2000000 in
/-- Where the two are alike. -/
theorem sums11_same (M : List Sm) (hn : M.length ≤ 1000000) : Fn2 Try.prog 10 (Ty.sums 27 M) (Ty.sums 39 M) (Ty.ex (.bool true)) := by
  refine ⟨fun args w => by kernel_rfl, fun w v0 v1 h0 h1 => ?_⟩
  let TM := Ty.sums 27 M
  let TR := Ty.sums 39 M
  have h0 : TM.p w v0 := h0
  have h1 : TR.p w v1 := h1
  refine enter_ty 26 [Ty.ex v0, Ty.ex v1] Try.func10 rfl (by kernel_rfl) ⟨rfl, rfl, trivial⟩ fun a hF => ?_
  have hB := Below.refl w.heap.size w
  repeat with_reducible refine wp_seq ?_
  refine' reg_all hF ?_ mixed (by kernel_rfl) ?_
  rotate_left
  · repeat (first | exact Line.nil | ((refine' Line.cons rfl (.run rfl rfl ?_) ?_); (any_goals exact cAssign rfl rfl); rotate_left))
  intro a w1 hF hb hN
  have hBs := hB.size
  replace hB := hB.trans (hb.mono hB.size)
  dsimp only [ext, Option.getD] at hF
  repeat with_reducible first | refine wp_seq ?_ | refine nThen ?_
  have k0 := TM.below h0 hB
  have k1 := TR.below h1 hB
  refine' reg_all hF ?_ mixed (by kernel_rfl) ?_
  rotate_left
  · repeat (first | exact Line.nil | ((refine' Line.cons rfl (.run rfl rfl ?_) ?_); (any_goals (first | exact cMove rfl rfl | exact cLenH rfl (.l rfl k0) (Ty.sl_isSl _ _ _) Try.underlying35 | exact cLenH rfl (.l rfl k1) (Ty.sl_isSl _ _ _) Try.underlying37 | exact OpOk.b (c := false) (cNeq rfl rfl rfl) (by simp))); rotate_left))
  intro a w2 hF hb hN
  have hBs := hB.size
  replace hB := hB.trans (hb.mono hB.size)
  dsimp only [ext, Option.getD] at hF
  repeat with_reducible refine nThen ?_
  refine cond_f hF rfl ?_
  repeat with_reducible first | refine wp_seq ?_ | refine nThen ?_ | refine wp_skip ?_
  refine' reg_all hF ?_ mixed (by kernel_rfl) ?_
  rotate_left
  · repeat (first | exact Line.nil | ((refine' Line.cons rfl (.run rfl rfl ?_) ?_); (any_goals exact cAssign rfl rfl); rotate_left))
  intro a w3 hF hb hN
  have hBs := hB.size
  replace hB := hB.trans (hb.mono hB.size)
  dsimp only [ext, Option.getD] at hF
  repeat with_reducible first | refine nThen ?_ | refine wp_block ?_
  refine loop_ty (fun m a wr => ∃ (k : Nat), k + m = M.length ∧ Fr 26 [(0, Ty.ex v0), (1, Ty.ex v1), (5, Ty.ex (.int .i64 (k : Int)))] a wr ∧ Below w.heap.size w wr) M.length ?_ ?_
  · exact ⟨0, by omega, hF.keep [0, 1, 5], hB⟩
  clear hF hB
  rintro m a wr ⟨k, hk, hF, hB⟩
  have k0 := TM.below h0 hB
  repeat with_reducible refine wp_seq ?_
  refine' reg_all hF ?_ mixed (by kernel_rfl) ?_
  rotate_left
  · repeat (first | exact Line.nil | ((refine' Line.cons rfl (.run rfl rfl ?_) ?_); (any_goals (first | exact cMove rfl rfl | exact cLenH rfl (.l rfl k0) (Ty.sl_isSl _ _ _) Try.underlying35 | exact cLss rfl rfl rfl)); rotate_left))
  intro a w4 hF hb hN
  have hBs := hB.size
  replace hB := hB.trans (hb.mono hB.size)
  dsimp only [ext, Option.getD] at hF
  repeat with_reducible refine nThen ?_
  refine cond_ty hF rfl (fun hlt => ?_) (fun hge => ?_)
  · have hlt : k < M.length := by have := of_decide_eq_true hlt; omega
    have k0 := TM.below h0 hB
    have k1 := TR.below h1 hB
    repeat with_reducible first | refine wp_seq ?_ | refine nThen ?_ | refine wp_skip ?_ | refine wp_block ?_
    refine' reg_all hF ?_ mixed (by kernel_rfl) ?_
    rotate_left
    · repeat (first | exact Line.nil | ((refine' Line.cons rfl (.run rfl rfl ?_) ?_); (any_goals (first | exact cMove rfl rfl | exact cIndexSum (L := M) (k := k) rfl (.l rfl k0) rfl Try.underlying35 sizeS hlt | exact cIndexSum (L := M) (k := k) rfl (.l rfl k1) rfl Try.underlying37 sizeR hlt | exact cLoadSum rfl (.t rfl) Try.underlying27 sizeS | exact OpOk.b (c := false) (cNeqAgg rfl rfl rfl guardR (neqR _ _)) (by rw [decide_eq_true rfl]; rfl))); rotate_left))
    intro a w5 hF hb hN
    have hBs := hB.size
    replace hB := hB.trans (hb.mono hB.size)
    dsimp only [ext, Option.getD] at hF
    repeat with_reducible refine nThen ?_
    refine cond_f hF rfl ?_
    repeat with_reducible first | refine nThen ?_ | refine nBlk ?_ | refine wp_skip ?_
    refine' reg_all hF ?_ mixed (by kernel_rfl) ?_
    rotate_left
    · repeat (first | exact Line.nil | ((refine' Line.cons rfl (.run rfl rfl ?_) ?_); (any_goals (first | exact cMove rfl rfl | exact cAssign rfl rfl | exact cAdd (r := ((k + 1 : Nat) : Int)) rfl rfl rfl (by omega))); rotate_left))
    intro a w6 hF hb hN
    have hBs := hB.size
    replace hB := hB.trans (hb.mono hB.size)
    dsimp only [ext, Option.getD] at hF
    repeat with_reducible refine nThen ?_
    exact ⟨m - 1, by omega, k + 1, by omega, hF.keep [0, 1, 5], hB⟩
  repeat with_reducible first | refine wp_seq ?_ | refine nThen ?_ | refine wp_exit ?_ | refine xThen ?_ | refine xHere ?_
  refine' reg_all hF ?_ mixed (by kernel_rfl) ?_
  rotate_left
  · repeat (first | exact Line.nil | ((refine' Line.cons rfl (.run rfl rfl ?_) ?_); (any_goals exact cAssign rfl rfl); rotate_left))
  intro a w5 hF hb hN
  have hBs := hB.size
  replace hB := hB.trans (hb.mono hB.size)
  dsimp only [ext, Option.getD] at hF
  repeat with_reducible first | refine nThen ?_ | refine wp_ret ?_
  refine ret1 hF rfl rfl fun z hz => ?_
  exact ⟨_, rfl, hz, hB⟩
set_option maxRecDepth 100000 in
set_option maxHeartbeats 2000000 in
theorem rjoin_ty (N : List Sm) (Q : List (Sm × List Nat)) (hN : N.length ≤ 10000) (hL : Q.length ≤ 1000000) (hQ : ∀ q ∈ Q, (∀ x ∈ q.2, x < 256) ∧ q.2.length ≤ 1000000) : Fn2 Try.prog 18 (Ty.sums 39 N) (Ty.pcsR Q) (Ty.tup [Ty.rdB (joinQ N Q).1, Ty.ex (.int .i64 ((joinQ N Q).2 : Int))]) := by
  refine ⟨fun args w => by kernel_rfl, fun w v0 v1 h0 h1 => ?_⟩
  let TM := Ty.sums 39 N
  have h0 : TM.p w v0 := h0
  refine enter_ty 51 [Ty.ex v0, Ty.ex v1] Try.func18 rfl (by kernel_rfl) ⟨rfl, rfl, trivial⟩ fun a hF => ?_
  have hB := Below.refl w.heap.size w
  repeat with_reducible refine wp_seq ?_
  refine' reg_all hF ?_ mixed (by kernel_rfl) ?_
  rotate_left
  · repeat (first | exact Line.nil | ((refine' Line.cons rfl (.run rfl rfl ?_) ?_); (any_goals exact cAssign rfl rfl); rotate_left))
  intro a w1 hF hb hN
  have hBs := hB.size
  replace hB := hB.trans (hb.mono hB.size)
  dsimp only [ext, Option.getD] at hF
  repeat with_reducible first | refine wp_seq ?_ | refine nThen ?_
  refine' reg_all hF ?_ mixed (by kernel_rfl) ?_
  rotate_left
  · repeat (first | exact Line.nil | ((refine' Line.cons rfl (.run rfl rfl ?_) ?_); (any_goals exact cAssign rfl rfl); rotate_left))
  intro a w2 hF hb hN
  have hBs := hB.size
  replace hB := hB.trans (hb.mono hB.size)
  dsimp only [ext, Option.getD] at hF
  repeat with_reducible first | refine wp_seq ?_ | refine nThen ?_
  refine' reg_all hF ?_ mixed (by kernel_rfl) ?_
  rotate_left
  · repeat (first | exact Line.nil | ((refine' Line.cons rfl (.run rfl rfl ?_) ?_); (any_goals exact cAssign rfl rfl); rotate_left))
  intro a w3 hF hb hN
  have hBs := hB.size
  replace hB := hB.trans (hb.mono hB.size)
  dsimp only [ext, Option.getD] at hF
  repeat with_reducible first | refine nThen ?_ | refine wp_block ?_
  refine loop_ty (fun m a wr => ∃ (k : Nat) (u : Value) (S : List Nat) (A : List Nat), k + m = N.length ∧ joinQ N Q = joinGo Q (N.drop k) A ∧ A.length ≤ 128 * k ∧ Fr 51 [(0, Ty.ex v0), (1, Ty.ex v1), (6, Ty.ex u), (7, Ty.ex (.int .i64 (k : Int)))] a wr ∧ Below w.heap.size w wr ∧ Seg wr 5 1 u A.length (A.map bv) S ∧ ∀ y ∈ S, w.heap.size ≤ y) N.length ?_ ?_
  · exact ⟨0, _, [], [], by omega, rfl, by simp, hF.keep [0, 1, 6, 7], hB, Seg.nil _ _ _, by simp⟩
  clear hF hB
  rintro m a wr ⟨k, u, S, A, hk, hJ, hAl, hF, hB, hseg, hS⟩
  have k0 := TM.below h0 hB
  repeat with_reducible refine wp_seq ?_
  refine' reg_all hF ?_ mixed (by kernel_rfl) ?_
  rotate_left
  · repeat (first | exact Line.nil | ((refine' Line.cons rfl (.run rfl rfl ?_) ?_); (any_goals (first | exact cMove rfl rfl | exact cLenH rfl (.l rfl k0) (Ty.sl_isSl _ _ _) Try.underlying37 | exact cLss rfl rfl rfl)); rotate_left))
  intro a w4 hF hb hN
  have hBs := hB.size
  replace hB := hB.trans (hb.mono hB.size)
  dsimp only [ext, Option.getD] at hF
  repeat with_reducible refine nThen ?_
  replace hseg := hseg.below hb
  refine cond_ty hF rfl (fun hlt => ?_) (fun hge => ?_)
  rotate_left
  · have hge : ¬ k < N.length := by have := of_decide_eq_false hge; omega
    have hkN : k = N.length := by omega
    rw [hkN, List.drop_length] at hJ
    repeat with_reducible first | refine wp_seq ?_ | refine nThen ?_ | refine wp_exit ?_ | refine xThen ?_ | refine xHere ?_
    refine' reg_all hF ?_ mixed (by kernel_rfl) ?_
    rotate_left
    · repeat (first | exact Line.nil | ((refine' Line.cons rfl (.run rfl rfl ?_) ?_); (any_goals (first | exact cMove rfl rfl | exact cAssign rfl rfl)); rotate_left))
    intro a w5 hF hb hN
    have hBs := hB.size
    replace hB := hB.trans (hb.mono hB.size)
    dsimp only [ext, Option.getD] at hF
    repeat with_reducible first | refine nThen ?_ | refine wp_ret ?_
    replace hseg := hseg.below hb
    refine ret2 hF rfl rfl rfl fun y z hy hz => ?_
    refine ⟨_, rfl, ⟨[y, z], rfl, ?_, ?_, trivial⟩, hB⟩
    · rw [hJ]
      have hy : y = u := hy
      rw [hy]
      exact seg_rdB hseg
    · rw [hJ]; exact hz
  have hlt : k < N.length := by have := of_decide_eq_true hlt; omega
  rw [drop_getD hlt] at hJ
  have hgo : ∀ x, joinGo Q (x :: N.drop (k + 1)) A = if posQ Q x < Q.length then (if goodQ (Q.getD (posQ Q x) (Sm.zero, [])) = true then joinGo Q (N.drop (k + 1)) (A ++ (Q.getD (posQ Q x) (Sm.zero, [])).2) else ([], 11)) else ([], 5) := fun x => rfl
  rw [hgo] at hJ
  clear hgo
  repeat with_reducible first | refine wp_seq ?_ | refine nThen ?_ | refine wp_skip ?_ | refine wp_block ?_
  refine' reg_all hF ?_ mixed (by kernel_rfl) ?_
  rotate_left
  · repeat (first | exact Line.nil | ((refine' Line.cons rfl (.run rfl rfl ?_) ?_); (any_goals exact cAssign rfl rfl); rotate_left))
  intro a w5 hF hb hN
  have hBs := hB.size
  replace hB := hB.trans (hb.mono hB.size)
  dsimp only [ext, Option.getD] at hF
  repeat with_reducible first | refine wp_seq ?_ | refine nThen ?_ | refine wp_block ?_
  replace hseg := hseg.below hb
  refine wp_cut2 (id := 2) (R := fun a w' => Fr 51 [(0, Ty.ex v0), (1, Ty.ex v1), (6, Ty.ex u), (7, Ty.ex (.int .i64 (k : Int))), (8, Ty.ex (.int .i64 (posQ Q (N.getD k default) : Int)))] a w' ∧ Below w.heap.size w w' ∧ Seg w' 5 1 u A.length (A.map bv) S) ?_ ?_
  · refine loop_ty (fun n a wr => ∃ (j : Nat), j + n = Q.length ∧ (∀ i, i < j → ¬ (Q.getD i (Sm.zero, [])).1 = N.getD k default) ∧ Fr 51 [(0, Ty.ex v0), (1, Ty.ex v1), (6, Ty.ex u), (7, Ty.ex (.int .i64 (k : Int))), (8, Ty.ex (.int .i64 (j : Int)))] a wr ∧ Below w.heap.size w wr ∧ Seg wr 5 1 u A.length (A.map bv) S) Q.length ?_ ?_
    · exact ⟨0, by omega, fun i hi => by omega, hF.keep [0, 1, 6, 7, 8], hB, hseg⟩
    clear hF hB hseg
    rintro n a wr ⟨j, hj, hlo, hF, hB, hseg⟩
    have k0 := TM.below h0 hB
    have k1 := (Ty.pcsR Q).below h1 hB
    repeat with_reducible refine wp_seq ?_
    by_cases hjQ : j < Q.length
    rotate_left
    · have hpos : posQ Q (N.getD k default) = Q.length := posQ_none fun i hi => hlo i (by omega)
      rw [hpos]
      refine' reg_all hF ?_ mixed (by kernel_rfl) ?_
      rotate_left
      · repeat (first | exact Line.nil | (refine' Line.cons rfl (.no rfl rfl rfl rfl rfl rfl) ?_; rotate_left) | ((refine' Line.cons rfl (.run rfl rfl ?_) ?_); (any_goals (first | exact cMove rfl rfl | exact cLenH rfl (.l rfl k1) (pcsR_isSl Q) Try.underlying32 | exact OpOk.b (c := false) (cLss rfl rfl rfl) (decide_eq_false (by omega)) | exact cPickF rfl rfl rfl)); rotate_left))
      intro a w6 hF hb hN
      have hBs := hB.size
      replace hB := hB.trans (hb.mono hB.size)
      dsimp only [ext, Option.getD] at hF
      repeat with_reducible refine nThen ?_
      refine cond_f hF rfl ?_
      repeat with_reducible first | refine wp_exit ?_ | refine xThen ?_
      refine ⟨rfl, ?_, hB, hseg.below hb⟩
      rw [show Q.length = j by omega]
      exact hF.keep [0, 1, 6, 7, 8]
    have hat := @posQ_at Q (N.getD k default) j hjQ
    have hlo' : ¬ (Q.getD j (Sm.zero, [])).1 = N.getD k default → ∀ i, i < j + 1 → ¬ (Q.getD i (Sm.zero, [])).1 = N.getD k default := fun h i hi => by
      by_cases e : i = j
      · rw [e]; exact h
      · exact hlo i (by omega)
    refine' reg_all hF ?_ mixed (by kernel_rfl) ?_
    rotate_left
    · repeat (first | exact Line.nil | ((first | refine' Line.cons rfl (.run rfl rfl ?_) ?_ | refine' Line.cons rfl (.yes rfl rfl rfl rfl ?_) ?_); (any_goals (first | exact cMove rfl rfl | exact cLenH rfl (.l rfl k1) (pcsR_isSl Q) Try.underlying32 | exact OpOk.b (c := true) (cLss rfl rfl rfl) (decide_eq_true (by omega)) | exact cIdxQ rfl (.l rfl k1) rfl Try.underlying32 sizeRi hjQ | exact cFldQ0 rfl (.t rfl) Try.underlying41 rfl sizeR | exact cLoadSumR rfl (.t rfl) Try.underlying39 sizeR | exact cIndexSum (L := N) (k := k) rfl (.l rfl k0) rfl Try.underlying37 sizeR hlt | exact cLoadSum rfl (.t rfl) Try.underlying39 sizeR | exact cNeqAgg rfl rfl rfl guardR (neqR _ _) | exact cPickT rfl rfl rfl)); rotate_left))
    intro a w6 hF hb hN
    have hBs := hB.size
    replace hB := hB.trans (hb.mono hB.size)
    dsimp only [ext, Option.getD] at hF
    repeat with_reducible refine nThen ?_
    refine cond_ty hF rfl (fun hne => ?_) (fun heq => ?_)
    · have hne : ¬ (Q.getD j (Sm.zero, [])).1 = N.getD k default := by simpa using hne
      replace hseg := hseg.below hb
      repeat with_reducible first | refine nThen ?_ | refine wp_skip ?_ | refine wp_block ?_
      refine' reg_all hF ?_ mixed (by kernel_rfl) ?_
      rotate_left
      · repeat (first | exact Line.nil | ((refine' Line.cons rfl (.run rfl rfl ?_) ?_); (any_goals (first | exact cMove rfl rfl | exact cAssign rfl rfl | exact cAdd (r := ((j + 1 : Nat) : Int)) rfl rfl rfl (by omega))); rotate_left))
      intro a w7 hF hb hN
      have hBs := hB.size
      replace hB := hB.trans (hb.mono hB.size)
      dsimp only [ext, Option.getD] at hF
      repeat with_reducible first | refine nThen ?_ | refine nBlk ?_
      exact ⟨n - 1, by omega, j + 1, by omega, hlo' hne, hF.keep [0, 1, 6, 7, 8], hB, hseg.below hb⟩
    · have heq : (Q.getD j (Sm.zero, [])).1 = N.getD k default := by simpa using heq
      have hpos := hat heq hlo
      rw [hpos]
      repeat with_reducible first | refine wp_exit ?_ | refine xThen ?_
      exact ⟨rfl, hF.keep [0, 1, 6, 7, 8], hB, hseg.below hb⟩
  clear hF hB hseg
  rintro a w6 ⟨hF, hB, hseg⟩
  have hgd : posQ Q (N.getD k default) < Q.length → (∀ y ∈ (Q.getD (posQ Q (N.getD k default)) (Sm.zero, [])).2, y < 256) ∧ (Q.getD (posQ Q (N.getD k default)) (Sm.zero, [])).2.length ≤ 1000000 := fun h => hQ _ (getD_memQ h)
  have hle : posQ Q (N.getD k default) ≤ Q.length := List.findIdx_le_length
  generalize posQ Q (N.getD k default) = i at *
  have k1 := (Ty.pcsR Q).below h1 hB
  repeat with_reducible first | refine wp_seq ?_ | refine nThen ?_ | refine xHere ?_
  by_cases hi : i < Q.length
  rotate_left
  · rw [if_neg hi] at hJ
    refine' reg_all hF ?_ mixed (by kernel_rfl) ?_
    rotate_left
    · repeat (first | exact Line.nil | ((refine' Line.cons rfl (.run rfl rfl ?_) ?_); (any_goals (first | exact cMove rfl rfl | exact cLenH rfl (.l rfl k1) (pcsR_isSl Q) Try.underlying32 | exact OpOk.b (c := true) (cEql rfl rfl rfl) (decide_eq_true (by omega)))); rotate_left))
    intro a w8 hF hb hN
    have hBs := hB.size
    replace hB := hB.trans (hb.mono hB.size)
    dsimp only [ext, Option.getD] at hF
    repeat with_reducible refine nThen ?_
    refine cond_t hF rfl ?_
    repeat with_reducible refine wp_seq ?_
    refine' reg_all hF ?_ mixed (by kernel_rfl) ?_
    rotate_left
    · repeat (first | exact Line.nil | ((refine' Line.cons rfl (.run rfl rfl ?_) ?_); (any_goals exact cAssign rfl rfl); rotate_left))
    intro a w9 hF hb hN
    have hBs := hB.size
    replace hB := hB.trans (hb.mono hB.size)
    dsimp only [ext, Option.getD] at hF
    repeat with_reducible first | refine nThen ?_ | refine wp_ret ?_ | refine rThen ?_ | refine rBlk ?_
    refine ret2 hF rfl rfl rfl fun y z hy hz => ?_
    refine ⟨_, rfl, ⟨[y, z], rfl, ?_, ?_, trivial⟩, hB⟩
    · rw [hJ]
      have hy : y = nilB := hy
      rw [hy]
      exact nil_rdB _
    · rw [hJ]; exact hz
  rw [if_pos hi] at hJ
  obtain ⟨hg1, hg2⟩ := hgd hi
  have hG := rgoodq_ty (Q.getD i (Sm.zero, [])) hg1 hg2
  have hGl := @goodQ_len (Q.getD i (Sm.zero, []))
  refine' reg_all hF ?_ mixed (by kernel_rfl) ?_
  rotate_left
  · repeat (first | exact Line.nil | ((refine' Line.cons rfl (.run rfl rfl ?_) ?_); (any_goals (first | exact cMove rfl rfl | exact cLenH rfl (.l rfl k1) (pcsR_isSl Q) Try.underlying32 | exact OpOk.b (c := false) (cEql rfl rfl rfl) (decide_eq_false (by omega)))); rotate_left))
  intro a w8 hF hb hN
  have hBs := hB.size
  replace hB := hB.trans (hb.mono hB.size)
  dsimp only [ext, Option.getD] at hF
  repeat with_reducible refine nThen ?_
  refine cond_f hF rfl ?_
  replace hseg := hseg.below hb
  have k1r := (Ty.pcsR Q).below h1 hB
  repeat with_reducible first | refine wp_seq ?_ | refine nThen ?_ | refine wp_skip ?_
  refine' reg_all hF ?_ mixed (by kernel_rfl) ?_
  rotate_left
  · repeat (first | exact Line.nil | ((refine' Line.cons rfl (.run rfl rfl ?_) ?_); (any_goals (first | exact cMove rfl rfl | exact cNot rfl rfl | exact cIdxQ rfl (.l rfl k1r) rfl Try.underlying32 sizeRi hi | exact cLoadQ rfl (.t rfl) Try.underlying41 rfl sizeRi | exact cCallH1 rfl (.t rfl) hG)); rotate_left))
  intro a w9 hF hb hN
  have hBs := hB.size
  replace hB := hB.trans (hb.mono hB.size)
  dsimp only [ext, Option.getD] at hF
  repeat with_reducible refine nThen ?_
  replace hseg := hseg.below hb
  refine cond_ty hF rfl (fun hbad => ?_) (fun hok => ?_)
  · have hbad : ¬ goodQ (Q.getD i (Sm.zero, [])) = true := by simpa using hbad
    rw [if_neg hbad] at hJ
    repeat with_reducible refine wp_seq ?_
    refine' reg_all hF ?_ mixed (by kernel_rfl) ?_
    rotate_left
    · repeat (first | exact Line.nil | ((refine' Line.cons rfl (.run rfl rfl ?_) ?_); (any_goals exact cAssign rfl rfl); rotate_left))
    intro a w10 hF hb hN
    have hBs := hB.size
    replace hB := hB.trans (hb.mono hB.size)
    dsimp only [ext, Option.getD] at hF
    repeat with_reducible first | refine nThen ?_ | refine wp_ret ?_ | refine rThen ?_ | refine rBlk ?_
    refine ret2 hF rfl rfl rfl fun y z hy hz => ?_
    refine ⟨_, rfl, ⟨[y, z], rfl, ?_, ?_, trivial⟩, hB⟩
    · rw [hJ]
      have hy : y = nilB := hy
      rw [hy]
      exact nil_rdB _
    · rw [hJ]; exact hz
  have hok : goodQ (Q.getD i (Sm.zero, [])) = true := by simpa using hok
  rw [if_pos hok] at hJ
  have hbl := hGl hok
  have k1r := (Ty.pcsR Q).below h1 hB
  repeat with_reducible first | refine nThen ?_ | refine wp_skip ?_
  refine' region_ty 6 mixed (by kernel_rfl) hF ?_ ?_
  rotate_left
  · simp only [List.take_succ_cons, List.take_zero]
    repeat (first | exact Line.nil | ((refine' Line.cons rfl (.run rfl rfl ?_) ?_); (any_goals (first | exact cMove rfl rfl | exact cIdxQ rfl (.l rfl k1r) rfl Try.underlying32 sizeRi hi | exact cFldQ1 rfl (.t rfl) Try.underlying41 rfl sizeB1 | exact cLoadQB rfl (.t rfl) Try.underlying22 rfl)); rotate_left))
  intro a w10 hF hb hN
  have hBs := hB.size
  replace hB := hB.trans (hb.mono hB.size)
  simp only [List.take_succ_cons, List.take_zero, List.drop_succ_cons, List.drop_zero] at hF hN ⊢
  dsimp only [ext, Option.getD] at hF
  replace hseg := hseg.below hb
  generalize Q.getD i (Sm.zero, []) = q at *
  refine tlAppend (Δ := [(0, Ty.ex v0), (1, Ty.ex v1), (7, Ty.ex (.int .i64 (k : Int)))]) (n := A.length) (m := q.2.length) (news := q.2.map bv) hF rfl rfl rfl rfl Try.underlying22 infoU8 rfl rfl hseg (.t rfl) rdB_news (by simp) (bv_oneC _) (by simp [maxLen]; omega) (by omega) (hF.keep [0, 1, 7]) rfl ?_
  intro a w11 u' S' hF hseg' hk11 hS'
  have hbS : ∀ y ∈ S', w.heap.size ≤ y := own_next hB hS hS'
  replace hB := below_own hB hk11 hS
  rw [← List.map_append, ← List.length_append] at hseg'
  refine' tlOp hF rfl rfl rfl ?_ ?_
  rotate_left
  · exact cAssign rfl rfl
  intro a w12 hF hb
  have hBs := hB.size
  replace hB := hB.trans (hb.mono hB.size)
  try (refine wpList_nil ?_)
  repeat with_reducible first | refine nThen ?_ | refine nBlk ?_
  replace hseg' := hseg'.below hb
  refine' reg_all hF ?_ mixed (by kernel_rfl) ?_
  rotate_left
  · repeat (first | exact Line.nil | ((refine' Line.cons rfl (.run rfl rfl ?_) ?_); (any_goals (first | exact cMove rfl rfl | exact cAssign rfl rfl | exact cAdd (r := ((k + 1 : Nat) : Int)) rfl rfl rfl (by omega))); rotate_left))
  intro a w13 hF hb hN
  have hBs := hB.size
  replace hB := hB.trans (hb.mono hB.size)
  dsimp only [ext, Option.getD] at hF
  repeat with_reducible refine nThen ?_
  exact ⟨m - 1, by omega, k + 1, u', S', A ++ q.2, by omega, hJ, by rw [List.length_append]; omega, hF.keep [0, 1, 6, 7], hB, hseg'.below hb, hbS⟩
end Go.Proofs.Ytbjlmhbpcopfbaa

/- From a row's reading of an argument to what a walk takes: slices of bytes; whole numbers. -/
namespace Go.Proofs.Ytbjlmhbpcopfbaa
open Go.RowKit Go.ChangeShapes Go.WideShapes

theorem nat_of_wf {k : IntKind} {n : Int} (h : (Lit.int k n).wf = true) : k.min ≤ n ∧ n ≤ k.max := by
  simpa [Lit.wf] using h

end Go.Proofs.Ytbjlmhbpcopfbaa

/- From a row's reading of an argument to what a walk takes: whole numbers in a slice; sums of thirty-two bytes. -/
namespace Go.Proofs.Ytbjlmhbpcopfbaa
open Go.RowKit Go.ChangeShapes Go.WideShapes

theorem row_ints {H : Type} {enc : TypeId × Value → H} {P : Program} {W : World} {sp : Nat → Bool} {t e : TypeId} {a : Option Addr} {len cap : Nat} {d : DataW H} {ps : List MemPlace}
    (ht : P.underlying t = some (.slice e)) (he : P.underlying e = some (.int .i64)) (hc : P.cellsOf e = 1) (h : DataW.Trod enc P W 0 sp true t (.slice a len cap) d ps) :
    ∃ l : List Int, l.length = len ∧ len ≤ cap ∧ len ≤ maxLen ∧ Rd W a (l.map (Value.int .i64)) ∧ (a = none → len = 0) ∧ ∀ x ∈ l, -9223372036854775808 ≤ x ∧ x ≤ 9223372036854775807 := by
  obtain ⟨fuel, hf⟩ := h
  rcases open_ints ht he hc hf with ⟨hcs, _⟩ | ⟨x, l, c, zs, hcs, _, hl, hm, hz, _, hcell, hwz⟩
  · simp [Value.cells] at hcs
    obtain ⟨rfl, rfl, rfl⟩ := hcs
    exact ⟨[], rfl, Nat.le_refl _, Nat.zero_le _, Rd.nil _ _, fun _ => rfl, by simp⟩
  · simp [Value.cells] at hcs
    obtain ⟨rfl, rfl, rfl⟩ := hcs
    have hlz : len ≤ zs.length := by rw [hz]; split <;> omega
    refine ⟨zs.take len, by simp; omega, hl, by omega, ?_, by simp, ?_⟩
    · intro j v hv
      refine ⟨x, rfl, ?_⟩
      rw [List.getElem?_map, List.getElem?_take] at hv
      split at hv
      · rename_i hj
        have hjz : j < zs.length := by omega
        rw [List.getElem?_eq_getElem hjz] at hv
        simp only [Option.map_some, Option.some.injEq] at hv
        rw [hcell j hjz, ← hv]
        simp [List.getD, List.getElem?_eq_getElem hjz]
      · simp at hv
    · intro y hy
      have := nat_of_wf (hwz y (List.mem_of_mem_take hy))
      simpa [IntKind.min, IntKind.max, IntKind.signed, IntKind.bits] using this

theorem take1_drop {α : Type} {l : List α} {i : Nat} {v : α} (h : (l.drop i).take 1 = [v]) : l[i]? = some v := by
  have h1 : ((l.drop i).take 1)[0]? = some v := by rw [h]; rfl
  rw [List.getElem?_take, if_pos (by omega), List.getElem?_drop] at h1
  simpa using h1

/-- Thirty-two cells that read as an array of bytes are a sum. -/
theorem sm_of_cells {H : Type} {enc : TypeId × Value → H} {P : Program} {W : World} {base : Nat} {sp : Nat → Bool} {held : Bool} {t e : TypeId} {fuel : Nat} {cs : List Value} {x : DataW H × List MemPlace}
    (ht : P.underlying t = some (.array 32 e)) (he : P.underlying e = some (.int .u8)) (hC : P.cellsOf t = 32) (hc : P.cellsOf e = 1) (h : DataW.trod enc P W base sp held fuel t cs = some x) :
    ∃ s : Sm, cs = s.enc := by
  obtain ⟨xs, m, _, _, hlen, hxl, hi⟩ := DataW.trod_array ht h
  rw [hC] at hlen
  have hcell : ∀ i, i < 32 → ∃ n : Nat, cs[i]? = some (bv n) ∧ n < 256 := fun i hlt => by
    have h1 := hi i hlt
    rw [hc, Nat.mul_one, List.getElem?_eq_getElem (by omega)] at h1
    obtain ⟨n, h2, _, hw⟩ := DataW.trod_int he h1
    have hb := nat_of_wf hw
    simp only [IntKind.min, IntKind.max, IntKind.signed, IntKind.bits] at hb
    obtain ⟨k, rfl⟩ := Int.eq_ofNat_of_zero_le (show 0 ≤ n by simpa using hb.1)
    exact ⟨k, take1_drop h2, by have := hb.2; simp at this; omega⟩
  let f : Value → Nat := fun v => match v with | .int _ n => n.toNat | _ => 0
  have hfb : ∀ n : Nat, f (bv n) = n := fun n => by show (n : Int).toNat = n; omega
  refine ⟨⟨cs.map f, by simpa using hlen, ?_⟩, ?_⟩
  · intro b hb
    obtain ⟨v, hv, rfl⟩ := List.mem_map.1 hb
    obtain ⟨i, hiv⟩ := List.getElem?_of_mem hv
    obtain ⟨n, h1, h2⟩ := hcell i (by have := (List.getElem?_eq_some_iff.1 hiv).1; omega)
    rw [hiv] at h1
    injection h1 with h1
    rw [h1, hfb]; exact h2
  · unfold Sm.enc
    apply List.ext_getElem?
    intro i
    rw [List.getElem?_map, List.getElem?_map]
    by_cases hlt : i < 32
    · obtain ⟨n, h1, _⟩ := hcell i hlt
      rw [h1]
      simp only [Option.map_some, hfb]
    · rw [List.getElem?_eq_none (by omega)]; rfl
end Go.Proofs.Ytbjlmhbpcopfbaa

/- An argument that is a row of thirty-two bytes each, as a row of sums. -/
namespace Go.Proofs.Ytbjlmhbpcopfbaa
open Go.RowKit

end Go.Proofs.Ytbjlmhbpcopfbaa

/- An argument that is a row of bytes, of rows of bytes, of pieces. -/
namespace Go.Proofs.Ytbjlmhbpcopfbaa
open Go.RowKit

section
variable {H : Type} {enc : TypeId × Value → H} {P : Program} {W : World} {base : Nat} {sp : Nat → Bool} {held : Bool}
open Go.ChangeShapes Go.WideShapes in
theorem trod_rdB {t e : TypeId} {fuel : Nat} {v : Value} {x : DataW H × List MemPlace} (ht : P.underlying t = some (.slice e)) (he : P.underlying e = some (.int .u8)) (hc : P.cellsOf e = 1) (h : DataW.trod enc P W base sp held fuel t [v] = some x) : ∃ l : List Nat, (Ty.rdB l).p W v ∧ ∀ y ∈ l, y < 256 := by
  rcases open_ints ht he hc h with ⟨hcs, _⟩ | ⟨x, l, c, zs, hcs, _, hl, hm, hz, _, hcell, hwz⟩
  · injection hcs with hcs
    subst hcs
    exact ⟨[], ⟨none, 0, rfl, Nat.le_refl _, Nat.zero_le _, fun _ => rfl, Rd.nil _ _⟩, by simp⟩
  · injection hcs with hcs
    subst hcs
    have hlz : l ≤ zs.length := by rw [hz]; split <;> omega
    have hb : ∀ n ∈ zs, 0 ≤ n ∧ n ≤ 255 := fun n hn => by
      have := nat_of_wf (hwz n hn)
      simpa [IntKind.min, IntKind.max, IntKind.signed, IntKind.bits] using this
    have hlen : ((zs.take l).map Int.toNat).length = l := by simp; omega
    refine ⟨(zs.take l).map Int.toNat, ⟨some x, c, by rw [hlen], by rw [hlen]; exact hl, hm, fun h => (by cases h), fun j v hv => ⟨x, rfl, ?_⟩⟩, fun y hy => ?_⟩
    · rw [List.map_map, List.getElem?_map, List.getElem?_take] at hv
      split at hv
      · rename_i hj
        have hjz : j < zs.length := by omega
        rw [List.getElem?_eq_getElem hjz] at hv
        simp only [Option.map_some, Function.comp, Option.some.injEq, bv] at hv
        rw [hcell j hjz, ← hv]
        have := hb _ (List.getElem_mem hjz)
        simp [List.getD, List.getElem?_eq_getElem hjz]
        omega
      · simp at hv
    · obtain ⟨z, hz, rfl⟩ := List.mem_map.1 hy
      have := hb z (List.mem_of_mem_take hz)
      omega
end
section
variable {H : Type} {enc : TypeId × Value → H} {P : Program} {W : World} {sp : Nat → Bool}
open Go.ChangeShapes Go.WideShapes in
theorem row_rdB {t e : TypeId} {a : Option Addr} {len cap : Nat} {d : DataW H} {ps : List MemPlace} (ht : P.underlying t = some (.slice e)) (he : P.underlying e = some (.int .u8)) (hc : P.cellsOf e = 1) (h : DataW.Trod enc P W 0 sp true t (.slice a len cap) d ps) : ∃ l : List Nat, (Ty.rdB l).p W (.slice a len cap) ∧ ∀ y ∈ l, y < 256 := by
  obtain ⟨fuel, hf⟩ := h
  exact trod_rdB ht he hc (v := .slice a len cap) (by simpa [Value.cells] using hf)
/-- A row of byte slices that is read. -/
def Ty.blsR (Ps : List (List Nat)) : Ty := ⟨fun w v => ∃ vs, Bls w vs Ps ∧ (Ty.rd Ps.length vs).p w v, fun _ => true, fun ⟨vs, h1, h2⟩ k hA => ⟨vs, ⟨h1.1, fun j hj => (Ty.rdB _).st (h1.2 j hj) k hA⟩, (Ty.rd _ _).st h2 k hA⟩⟩
theorem blsR_isSl (Ps : List (List Nat)) : IsSl (Ty.blsR Ps) Ps.length := fun _ _ ⟨_, _, A, c, h, _⟩ => ⟨A, c, h⟩
theorem take1_eq {α : Type} {l : List α} {i : Nat} (h : l.length = i + 1) : ∃ v, (l.drop i).take 1 = [v] ∧ l = l.take i ++ [v] := by
  have h1 : (l.drop i).length = 1 := by rw [List.length_drop]; omega
  obtain ⟨v, hv⟩ := List.length_eq_one_iff.1 h1
  refine ⟨v, by rw [hv]; rfl, ?_⟩
  rw [← hv, List.take_append_drop]
open Go.ChangeShapes Go.WideShapes in
/-- Thirty-three cells that read as a piece. -/
theorem pc_of_cells {base : Nat} {held : Bool} {q s b e u : TypeId} {f0 f1 : Field} {fuel : Nat} {cs : List Value} {x : DataW H × List MemPlace} (hq : P.underlying q = some (.struct #[f0, f1])) (hC : P.cellsOf q = 33) (o0 : f0.offset = 0) (o1 : f1.offset = 32) (t0 : f0.type = s) (t1 : f1.type = b)
    (hs : P.underlying s = some (.array 32 e)) (he : P.underlying e = some (.int .u8)) (hcs : P.cellsOf s = 32) (hce : P.cellsOf e = 1) (hb : P.underlying b = some (.slice u)) (hu : P.underlying u = some (.int .u8)) (hcu : P.cellsOf u = 1) (hcb : P.cellsOf b = 1)
    (h : DataW.trod enc P W base sp held fuel q cs = some x) : ∃ (s : Sm) (v : Value) (l : List Nat), cs = s.enc ++ [v] ∧ (Ty.rdB l).p W v ∧ ∀ y ∈ l, y < 256 := by
  obtain ⟨y0, y1, n, _, hl, g0, g1⟩ := trod_struct2 hq h
  subst t0 t1
  rw [o0, hcs, List.drop_zero] at g0
  rw [o1, hcb] at g1
  obtain ⟨S, hS⟩ := sm_of_cells hs he hcs hce g0
  obtain ⟨v, hv, hv2⟩ := take1_eq (l := cs) (i := 32) (by rw [hl, hC])
  rw [hv] at g1
  obtain ⟨l, h1, h2⟩ := trod_rdB hb hu hcu g1
  exact ⟨S, v, l, by rw [hv2, hS], h1, h2⟩
open Go.ChangeShapes Go.WideShapes Go.Deep in
theorem row_pcs {t q s b e u : TypeId} {f0 f1 : Field} {a : Option Addr} {len cap : Nat} {d : DataW H} {ps : List MemPlace} (ht : P.underlying t = some (.slice q)) (hq : P.underlying q = some (.struct #[f0, f1])) (hC : P.cellsOf q = 33) (o0 : f0.offset = 0) (o1 : f1.offset = 32) (t0 : f0.type = s) (t1 : f1.type = b)
    (hs : P.underlying s = some (.array 32 e)) (he : P.underlying e = some (.int .u8)) (hcs : P.cellsOf s = 32) (hce : P.cellsOf e = 1) (hb : P.underlying b = some (.slice u)) (hu : P.underlying u = some (.int .u8)) (hcu : P.cellsOf u = 1) (hcb : P.cellsOf b = 1)
    (h : DataW.Trod enc P W 0 sp true t (.slice a len cap) d ps) : ∃ Q : List (Sm × List Nat), (Ty.pcsR Q).p W (.slice a len cap) ∧ ∀ p ∈ Q, ∀ y ∈ p.2, y < 256 := by
  obtain ⟨fuel, hf⟩ := h
  rcases open_slice ht hf with ⟨hcs, _⟩ | ⟨x, l, c, m, n, D, Pl, hcs2, _, hl, hm, hmm, _, hi⟩
  · simp [Value.cells] at hcs
    obtain ⟨rfl, rfl, rfl⟩ := hcs
    exact ⟨[], ⟨[], ⟨rfl, fun k h => by simp at h⟩, ⟨none, 0, rfl, Nat.zero_le _, fun _ => rfl, Rd.nil _ _⟩⟩, by simp⟩
  · simp [Value.cells] at hcs2
    obtain ⟨rfl, rfl, rfl⟩ := hcs2
    have hlm : len ≤ m := by rw [hmm]; split <;> omega
    have hex : ∀ i, i < len → ∃ z : (Sm × Value) × List Nat, Rd W (some (x.add (i * 33))) (z.1.1.enc ++ [z.1.2]) ∧ (Ty.rdB z.2).p W z.1.2 ∧ ∀ y ∈ z.2, y < 256 := fun i hil => by
      obtain ⟨cs', h1, h2⟩ := hi i (by omega)
      rw [hC] at h1
      obtain ⟨S, v, l, rfl, k1, k2⟩ := pc_of_cells hq hC o0 o1 t0 t1 hs he hcs hce hb hu hcu hcb h2
      obtain ⟨_, hcl, hat⟩ := World.cells?_some h1
      refine ⟨((S, v), l), fun j u hu => ⟨_, rfl, ?_⟩, k1, k2⟩
      have hj : j < 33 := by have := (List.getElem?_eq_some_iff.1 hu).1; simpa [encL] using this
      rw [hat j hj]
      exact hu
    haveI : Inhabited ((Sm × Value) × List Nat) := ⟨((Sm.zero, nilB), [])⟩
    obtain ⟨f, hf2⟩ := choose_lt (n := len) hex
    have hlen : ((List.range len).map fun i => ((f i).1.1, (f i).2)).length = len := by simp
    refine ⟨(List.range len).map fun i => ((f i).1.1, (f i).2), ⟨(List.range len).map fun i => (f i).1, ⟨by simp, fun k hk => ?_⟩, some x, cap, by rw [hlen], by rw [hlen]; omega, fun h => (by cases h), fun j v hv => ?_⟩, fun p hp => ?_⟩
    · rw [hlen] at hk
      have e1 : ((List.range len).map fun i => ((f i).1.1, (f i).2)).getD k (Sm.zero, []) = ((f k).1.1, (f k).2) := by simp [List.getD, hk]
      have e2 : ((List.range len).map fun i => (f i).1).getD k (Sm.zero, nilB) = (f k).1 := by simp [List.getD, hk]
      rw [e1, e2]
      exact ⟨rfl, (hf2 k hk).2.1⟩
    · have hj : j < len * 33 := by have := (List.getElem?_eq_some_iff.1 hv).1; rw [flatQ_len] at this; simpa using this
      have hq' : j / 33 < len := by omega
      have h1 : ((flatQ ((List.range len).map fun i => (f i).1)).drop (j / 33 * 33))[j % 33]? = some v := by
        rw [List.getElem?_drop, show j / 33 * 33 + j % 33 = j by omega]; exact hv
      have e2 : ((List.range len).map fun i => (f i).1).getD (j / 33) (Sm.zero, nilB) = (f (j / 33)).1 := by simp [List.getD, hq']
      rw [flatQ_at _ (by simpa using hq'), e2, List.getElem?_append_left (by simp [encL]; omega)] at h1
      obtain ⟨ad2, e3, h2⟩ := (hf2 (j / 33) hq').1 (j % 33) v h1
      injection e3 with e3
      subst e3
      refine ⟨x, rfl, ?_⟩
      rw [add_add, show j / 33 * 33 + j % 33 = j by omega] at h2
      exact h2
    · obtain ⟨i, hi', rfl⟩ := List.mem_map.1 hp
      exact (hf2 i (List.mem_range.1 hi')).2.2
end
end Go.Proofs.Ytbjlmhbpcopfbaa

/- Chunks: chunk.All; the walk of ChunkAll. -/
namespace Go.Proofs.Ytbjlmhbpcopfbaa
open Go.RowKit

def nmsB (b : List Nat) : List Sm := nmsQ (cutQ b)
/-- All names of all. -/
def allN (Ps : List (List Nat)) : List Sm := (Ps.map nmsB).flatten
theorem nmsB_len (b : List Nat) : (nmsB b).length = (pcsB b).length := by unfold nmsB nmsQ cutQ; rw [List.length_map, List.length_map]
theorem allN_succ (Ps : List (List Nat)) {k : Nat} (h : k < Ps.length) : allN (Ps.take (k + 1)) = allN (Ps.take k) ++ nmsB (Ps.getD k []) := by
  unfold allN
  rw [takeB_snoc Ps h, List.map_append, List.flatten_append]
  simp
theorem vs_drop {vs : List Value} {k : Nat} (h : k < vs.length) : vs.drop (k * 1) = vs.getD k nilB :: vs.drop (k + 1) := by
  rw [Nat.mul_one, List.drop_eq_getElem_cons h]
  simp [List.getD, List.getElem?_eq_getElem h]
theorem sizeBs : (Try.prog.info? 22).map (·.size) = some 1 := by kernel_rfl
set_option maxRecDepth 100000 in
set_option maxHeartbeats 2000000 in
theorem call_ty (Ps : List (List Nat)) (h4 : ∀ p ∈ Ps, p.length ≤ 4000) (hl : Ps.length ≤ 100) (hx : ∀ p ∈ Ps, ∀ x ∈ p, x < 256) : Fn1 Try.prog 20 (Ty.blsR Ps) (Ty.sums 27 (setL (allN Ps))) := by
  refine ⟨fun args w => by kernel_rfl, fun w v hv => ?_⟩
  refine enter_ty 19 [Ty.ex v] Try.func20 rfl (by kernel_rfl) ⟨rfl, trivial⟩ fun a hF => ?_
  have hB := Below.refl w.heap.size w
  repeat with_reducible refine wp_seq ?_
  refine' reg_all hF ?_ mixed (by kernel_rfl) ?_
  rotate_left
  · repeat (first | exact Line.nil | ((refine' Line.cons rfl (.run rfl rfl ?_) ?_); (any_goals exact cAssign rfl rfl); rotate_left))
  intro a w1 hF hb hN
  have hBs := hB.size
  replace hB := hB.trans (hb.mono hB.size)
  dsimp only [ext, Option.getD] at hF
  repeat with_reducible first | refine wp_seq ?_ | refine nThen ?_
  refine' reg_all hF ?_ mixed (by kernel_rfl) ?_
  rotate_left
  · repeat (first | exact Line.nil | ((refine' Line.cons rfl (.run rfl rfl ?_) ?_); (any_goals exact cAssign rfl rfl); rotate_left))
  intro a w2 hF hb hN
  have hBs := hB.size
  replace hB := hB.trans (hb.mono hB.size)
  dsimp only [ext, Option.getD] at hF
  repeat with_reducible first | refine wp_seq ?_ | refine nThen ?_
  have hv2 := (Ty.blsR Ps).below hv hB
  refine' reg_all hF ?_ mixed (by kernel_rfl) ?_
  rotate_left
  · repeat (first | exact Line.nil | ((refine' Line.cons rfl (.run rfl rfl ?_) ?_); (any_goals (first | exact cMove rfl rfl | exact cLenH rfl (.l rfl hv2) (blsR_isSl Ps) Try.underlying57)); rotate_left))
  intro a w3 hF hb hN
  have hBs := hB.size
  replace hB := hB.trans (hb.mono hB.size)
  dsimp only [ext, Option.getD] at hF
  repeat with_reducible first | refine nThen ?_ | refine wp_block ?_
  have hv3 := (Ty.blsR Ps).below hv hB
  obtain ⟨vs, hbl, hrd⟩ := hv3
  have hw3 := hB.size
  have hB0 := hB
  replace hB := Below.refl w3.heap.size w3
  refine loop_ty (fun m a wr => ∃ (k : Nat) (u : Value) (S : List Nat) (A : List Sm), k + m = Ps.length ∧ A = allN (Ps.take k) ∧ A.length ≤ 4000 * k ∧ Fr 19 [(3, Ty.ex u), (6, Ty.ex v), (7, Ty.ex (.int .i64 (Ps.length : Int))), (8, Ty.ex (.int .i64 (k : Int)))] a wr ∧ Below w3.heap.size w3 wr ∧ Seg wr 27 32 u A.length (flat A) S ∧ ∀ y ∈ S, w3.heap.size ≤ y) Ps.length ?_ ?_
  · exact ⟨0, _, [], [], by omega, rfl, by simp, hF.keep [3, 6, 7, 8], hB, Seg.nil _ _ _, by simp⟩
  clear hF hB
  rintro m a wr ⟨k, u, S, A, hk, hA, hAl, hF, hB, hseg, hS⟩
  repeat with_reducible refine wp_seq ?_
  refine' reg_all hF ?_ mixed (by kernel_rfl) ?_
  rotate_left
  · repeat (first | exact Line.nil | ((refine' Line.cons rfl (.run rfl rfl ?_) ?_); (any_goals exact cLss rfl rfl rfl); rotate_left))
  intro a w4 hF hb hN
  have hBs := hB.size
  replace hB := hB.trans (hb.mono hB.size)
  dsimp only [ext, Option.getD] at hF
  repeat with_reducible first | refine wp_seq ?_ | refine nThen ?_
  replace hseg := hseg.below hb
  refine cond_ty hF rfl (fun hlt => ?_) (fun hge => ?_)
  rotate_left
  · have hge : ¬ k < Ps.length := by have := of_decide_eq_false hge; omega
    have hkP : k = Ps.length := by omega
    rw [hkP, List.take_length] at hA
    have hO := of_ty A (by omega)
    rw [hA] at hO
    have hs : (Ty.sums 27 (allN Ps)).p w4 u := by rw [← hA]; exact hseg.sl
    repeat with_reducible first | refine wp_seq ?_ | refine nThen ?_ | refine wp_exit ?_ | refine xThen ?_ | refine xHere ?_
    refine' reg_all hF ?_ mixed (by kernel_rfl) ?_
    rotate_left
    · repeat (first | exact Line.nil | ((refine' Line.cons rfl (.run rfl rfl ?_) ?_); (any_goals (first | exact cMove rfl rfl | exact cAssign rfl rfl | exact cCallS1 rfl (.l rfl hs) hO)); rotate_left))
    intro a w5 hF hb hN
    have hBs := hB.size
    replace hB := hB.trans (hb.mono hB.size)
    dsimp only [ext, Option.getD] at hF
    repeat with_reducible first | refine nThen ?_ | refine wp_ret ?_
    refine ret1 hF rfl rfl fun z hz => ?_
    exact ⟨z, rfl, seg_sl _ _ hz, hB0.trans (hB.mono hw3)⟩
  have hlt : k < Ps.length := by have := of_decide_eq_true hlt; omega
  have hts := allN_succ Ps hlt
  have hpk := hbl.2 k hlt
  have hmem : Ps.getD k [] ∈ Ps := by rw [List.getD_eq_getElem?_getD, List.getElem?_eq_getElem hlt]; exact List.getElem_mem hlt
  have hp4 := h4 _ hmem
  have hp256 := hx _ hmem
  have hvk : k < vs.length := by rw [hbl.1]; exact hlt
  have hvd := vs_drop hvk
  generalize Ps.getD k [] = p at *
  generalize vs.getD k nilB = vk at *
  have hNm := names_ty p hp4 hp256
  have hnl : (nmsB p).length ≤ 4000 := by rw [nmsB_len]; exact Nat.le_trans (pcsB_len p) hp4
  have eN : nmsQ (cutQ p) = nmsB p := rfl
  rw [eN] at hNm
  generalize nmsB p = X at *
  have hrd4 := (Ty.rd _ _).below hrd hB
  repeat with_reducible first | refine wp_seq ?_ | refine nThen ?_ | refine wp_skip ?_ | refine wp_block ?_
  refine' reg_all hF ?_ mixed (by kernel_rfl) ?_
  rotate_left
  · repeat (first | exact Line.nil | ((refine' Line.cons rfl (.run rfl rfl ?_) ?_); (any_goals (first | exact cAssign rfl rfl | exact cIndexR (k := k) (sz := 1) rfl (.l rfl hrd4) rfl Try.underlying57 sizeBs hlt (by rw [Nat.mul_one]; exact hvk) | exact cLoad1 (u := vk) rfl (Has.c (.t rfl) (fun W v h => by rw [hvd] at h; exact h)) (pts_atR _) Try.underlying22 rfl)); rotate_left))
  intro a w5 hF hb hN
  have hBs := hB.size
  replace hB := hB.trans (hb.mono hB.size)
  dsimp only [ext, Option.getD] at hF
  repeat with_reducible refine nThen ?_
  replace hseg := hseg.below hb
  have hpv := (Ty.rdB p).below hpk hB
  refine' region_ty 3 mixed (by kernel_rfl) hF ?_ ?_
  rotate_left
  · simp only [List.take_succ_cons, List.take_zero]
    repeat (first | exact Line.nil | ((refine' Line.cons rfl (.run rfl rfl ?_) ?_); (any_goals (first | exact cMove rfl rfl | exact cCallH1 rfl (.l rfl hpv) hNm)); rotate_left))
  intro a w6 hF hb hN
  have hBs := hB.size
  replace hB := hB.trans (hb.mono hB.size)
  simp only [List.take_succ_cons, List.take_zero, List.drop_succ_cons, List.drop_zero] at hF hN ⊢
  dsimp only [ext, Option.getD] at hF
  replace hseg := hseg.below hb
  refine tlAppend (Δ := [(6, Ty.ex v), (7, Ty.ex (.int .i64 (Ps.length : Int))), (8, Ty.ex (.int .i64 (k : Int)))]) (n := A.length) (m := X.length) (news := flat X) hF rfl rfl rfl rfl Try.underlying35 infoS zero32_size rfl hseg (.t rfl) sl_news (flat_len _) flat_one' (by simp [maxLen]; omega) (by omega) (hF.keep [6, 7, 8]) rfl ?_
  intro a w7 u' S' hF hseg' hk7 hS'
  have hbS : ∀ y ∈ S', w3.heap.size ≤ y := own_next hB hS hS'
  replace hB := below_own hB hk7 hS
  rw [← flat_append, ← List.length_append] at hseg'
  refine' tlOp hF rfl rfl rfl ?_ ?_
  rotate_left
  · exact cAssign rfl rfl
  intro a w8 hF hb
  have hBs := hB.size
  replace hB := hB.trans (hb.mono hB.size)
  try (refine wpList_nil ?_)
  repeat with_reducible first | refine nThen ?_ | refine nBlk ?_
  replace hseg' := hseg'.below hb
  refine' reg_all hF ?_ mixed (by kernel_rfl) ?_
  rotate_left
  · repeat (first | exact Line.nil | ((refine' Line.cons rfl (.run rfl rfl ?_) ?_); (any_goals (first | exact cMove rfl rfl | exact cAdd (r := ((k + 1 : Nat) : Int)) rfl rfl rfl (by omega))); rotate_left))
  intro a w9 hF hb hN
  have hBs := hB.size
  replace hB := hB.trans (hb.mono hB.size)
  dsimp only [ext, Option.getD] at hF
  repeat with_reducible refine nThen ?_
  exact ⟨m - 1, by omega, k + 1, u', S', A ++ X, by omega, by rw [hts, hA], by rw [List.length_append]; omega, hF.keep [3, 6, 7, 8], hB, hseg'.below hb, hbS⟩
end Go.Proofs.Ytbjlmhbpcopfbaa

/- Regions by types: one store over a variable of the call's own that may come at whatever place of the order. -/
namespace Go.Proofs.Ytbjlmhbpcopfbaa
open Go.RowKit

section
variable {ops : Array Oper} {N n p : Nat}
end
section
variable {P : Program} {ops : Array Oper} {w0 w1 : World} {t : TypeId} {g : Nat} {v : Value} {p : Nat} {Γ : Ctx}
end
section
variable {P : Program} {w0 w1 : World} {t : TypeId} {g : Nat} {v : Value} {Γ : Ctx} {N n p : Nat} {l : List Oper} {Vs : List Ty} {a0 : Act} {ops : Array Oper} {cs : Array Value}
end

section
variable {P : Program} {w0 w1 : World} {t : TypeId} {g : Nat} {v : Value} {cs : Array Value} {Γ : Ctx} {N : Nat} {Vs : List Ty} {a0 : Act}
end
end Go.Proofs.Ytbjlmhbpcopfbaa

/- The functions of layer 13 by types, the program's and the document's. -/
namespace Go.Proofs.Ytbjlmhbpcopfbaa
open Go.RowKit

end Go.Proofs.Ytbjlmhbpcopfbaa

/- Layer 15 by types: rows of cells, tables; Clone; Good, New. -/
namespace Go.Proofs.Ytbjlmhbpcopfbaa
open Go.RowKit

/-! ### Rows of cells -/
/-! ### Tables -/
section
variable {w0 : World} {Γ : Ctx} {o : Oper} {x : Operand} {e : TypeId} {u s : Value}
end
section
variable {P : Program} {w0 : World} {Γ : Ctx} {o : Oper}
end
end Go.Proofs.Ytbjlmhbpcopfbaa

/- Layer 15 by types: New, Zero. -/
namespace Go.Proofs.Ytbjlmhbpcopfbaa
open Go.RowKit

end Go.Proofs.Ytbjlmhbpcopfbaa

/- Layer 15 by types: Minus. -/
namespace Go.Proofs.Ytbjlmhbpcopfbaa
open Go.RowKit

end Go.Proofs.Ytbjlmhbpcopfbaa

/- Layer 15 by types: Zero, the program's and the document's. -/
namespace Go.Proofs.Ytbjlmhbpcopfbaa
open Go.RowKit

end Go.Proofs.Ytbjlmhbpcopfbaa

/- Layer 14 by types: ints, awake. -/
namespace Go.Proofs.Ytbjlmhbpcopfbaa
open Go.RowKit

end Go.Proofs.Ytbjlmhbpcopfbaa

/- Layer 15 by types: table.Of. -/
namespace Go.Proofs.Ytbjlmhbpcopfbaa
open Go.RowKit

section
variable {P : Program} {w0 : World} {Γ : Ctx} {o : Oper} {x : Operand} {e : TypeId} {seed : Nat} {L : List Cl} {err : Value} {w1 : World}
end
end Go.Proofs.Ytbjlmhbpcopfbaa

/- The laws' helpers of layers 15 to 18 by types: cellOf, tableOf, sameT, few. -/
namespace Go.Proofs.Ytbjlmhbpcopfbaa
open Go.RowKit

end Go.Proofs.Ytbjlmhbpcopfbaa

/- Layer 14 by types: awake. -/
namespace Go.Proofs.Ytbjlmhbpcopfbaa
open Go.RowKit

section
variable {P : Program} {ops : Array Oper} {Q : Exit → Act → World → Prop} {rest : List Oper} {o o2 : Oper} {a : Act} {w : World} {N : Nat} {Γ : Ctx}
end
end Go.Proofs.Ytbjlmhbpcopfbaa

/- Layer 14 by types: the walk of PlaceParts. -/
namespace Go.Proofs.Ytbjlmhbpcopfbaa
open Go.RowKit

end Go.Proofs.Ytbjlmhbpcopfbaa

/- Layer 14 by types: the document's Places. -/
namespace Go.Proofs.Ytbjlmhbpcopfbaa
open Go.RowKit

theorem cNeqBool {P : Program} {w0 : World} {Γ : Ctx} {o : Oper} {t t2 : TypeId} {x y : Operand} {b c : Bool} (ho : o.op = .binOp .neq t x y t2) (hx : OpT Γ x (Ty.ex (.bool b))) (hy : OpT Γ y (Ty.ex (.bool c))) (h : P.underlying t = some .bool) : OpOk P w0 Γ o (Ty.ex (.bool (b != c))) :=
  cBin ho hx hy fun w => by simp [eqGuard, binOp, run_equal_bool w t b c h, bne]
end Go.Proofs.Ytbjlmhbpcopfbaa

/- Layer 15 by types: the document's Minus, Put. -/
namespace Go.Proofs.Ytbjlmhbpcopfbaa
open Go.RowKit

end Go.Proofs.Ytbjlmhbpcopfbaa

/- Layer 15 by types: the document's Minus. -/
namespace Go.Proofs.Ytbjlmhbpcopfbaa
open Go.RowKit

end Go.Proofs.Ytbjlmhbpcopfbaa

/- Layer 15 by types: change, Put, Take, Count; the laws' few. -/
namespace Go.Proofs.Ytbjlmhbpcopfbaa
open Go.RowKit

/-! ### few -/
def ivz (z : Int) : Value := .int .i64 z
end Go.Proofs.Ytbjlmhbpcopfbaa
