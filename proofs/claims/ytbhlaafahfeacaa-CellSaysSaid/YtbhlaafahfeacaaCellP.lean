/- Cells, plainly: sums put in and taken out in whatever order; rows of sums in memory. -/
import Derived.Test.YtbhlaafahfeacaaCellF
import Derived.Test.YtbhlaafahfeacaaRow2
import Derived.Deep.Slices
namespace Go.Proofs.Ytbhlaafahfeacaa
open Go.RowKit

theorem Cl.ext {c d : Cl} (h1 : c.n = d.n) (h2 : c.key = d.key) (h3 : c.check = d.check) : c = d := (Cl.eq_iff c d).1 ⟨h1, h2, h3⟩
theorem wrap64_cong {a b : Int} (h : a = b) : wrap64 a = wrap64 b := by rw [h]
theorem wrap64_addr (a b : Int) : wrap64 (a + wrap64 b) = wrap64 (a + b) := by unfold wrap64; omega
theorem wrap64_idem (a : Int) : wrap64 (wrap64 a) = wrap64 a := by unfold wrap64; omega
theorem wrap64_sub (a b : Int) : wrap64 (a - wrap64 b) = wrap64 (a - b) := by unfold wrap64; omega
theorem wrap64_subl (a b : Int) : wrap64 (wrap64 a - b) = wrap64 (a - b) := by unfold wrap64; omega
theorem Sm.xor_swap (a b c : Sm) : (a.xor b).xor c = (a.xor c).xor b := by rw [Sm.xor_assoc, Sm.xor_comm b c, ← Sm.xor_assoc]
def Norm (c : Cl) : Prop := wrap64 c.n = c.n
theorem put_norm (c : Cl) (x : Sm) (n : Int) : Norm (c.put x n) := wrap64_idem _
theorem zero_norm : Norm Cl.zero := by unfold Norm Cl.zero; exact wrap64_of (by simp) (by simp)
theorem put_comm (c : Cl) (x y : Sm) (n m : Int) : (c.put x n).put y m = (c.put y m).put x n := by
  apply Cl.ext
  · show wrap64 (wrap64 (c.n + n) + m) = wrap64 (wrap64 (c.n + m) + n)
    rw [wrap64_add, wrap64_add]; exact wrap64_cong (by omega)
  · exact Sm.xor_swap _ _ _
  · exact Sm.xor_swap _ _ _
theorem put_back (c : Cl) (x : Sm) (h : Norm c) : (c.put x 1).put x (-1) = c := by
  apply Cl.ext
  · show wrap64 (wrap64 (c.n + 1) + -1) = c.n
    rw [wrap64_add, show c.n + 1 + -1 = c.n by omega]; exact h
  · show (c.key.xor x).xor x = c.key
    rw [Sm.xor_assoc, Sm.xor_self, Sm.xor_zero]
  · show (c.check.xor (chk x)).xor (chk x) = c.check
    rw [Sm.xor_assoc, Sm.xor_self, Sm.xor_zero]
/-- All put in, n times each. -/
def putAll (n : Int) (c : Cl) (l : List Sm) : Cl := l.foldl (fun c x => c.put x n) c
theorem putAll_snoc (n : Int) (c : Cl) (l : List Sm) (x : Sm) : putAll n c (l ++ [x]) = (putAll n c l).put x n := by unfold putAll; rw [List.foldl_append]; rfl
theorem putAll_norm (n : Int) (l : List Sm) : ∀ c, Norm c → Norm (putAll n c l) := by
  induction l with
  | nil => intro c h; exact h
  | cons x l ih => intro c _; exact ih _ (put_norm _ _ _)
theorem putAll_put (n m : Int) (x : Sm) : ∀ (l : List Sm) (c : Cl), (putAll n c l).put x m = putAll n (c.put x m) l
  | [], _ => rfl
  | y :: l, c => by
    show (putAll n (c.put y n) l).put x m = putAll n ((c.put x m).put y n) l
    rw [putAll_put n m x l, put_comm]
theorem putAll_back : ∀ (l : List Sm) (c : Cl), Norm c → putAll (-1) (putAll 1 c l) l = c
  | [], _, _ => rfl
  | x :: l, c, h => by
    show putAll (-1) ((putAll 1 (c.put x 1) l).put x (-1)) l = c
    rw [putAll_put, put_back c x h]
    exact putAll_back l c h
theorem putAll_perm {n : Int} {l k : List Sm} (h : l.Perm k) (c : Cl) : putAll n c l = putAll n c k := by
  unfold putAll
  exact h.foldl_eq' (fun x _ y _ z => put_comm z x y n n) c
theorem putAll_n : ∀ (l : List Sm) (c : Cl), Norm c → (putAll 1 c l).n = wrap64 (c.n + l.length)
  | [], c, h => by show c.n = wrap64 (c.n + ((0 : Nat) : Int)); rw [show c.n + ((0 : Nat) : Int) = c.n by omega]; exact h.symm
  | x :: l, c, _ => by
    show (putAll 1 (c.put x 1) l).n = _
    rw [putAll_n l _ (put_norm _ _ _)]
    show wrap64 (wrap64 (c.n + 1) + l.length) = _
    rw [wrap64_add, List.length_cons]
    exact wrap64_cong (by omega)
theorem minus_self (c : Cl) : c.minus c = Cl.zero := by
  apply Cl.ext
  · show wrap64 (c.n - c.n) = 0
    rw [show c.n - c.n = 0 by omega]; exact wrap64_of (by omega) (by omega)
  · exact Sm.xor_self _
  · exact Sm.xor_self _
theorem minus_zero (c : Cl) (h : Norm c) : c.minus Cl.zero = c := by
  apply Cl.ext
  · show wrap64 (c.n - 0) = c.n
    rw [show c.n - 0 = c.n by omega]; exact h
  · exact Sm.xor_zero _
  · exact Sm.xor_zero _
theorem minus_put (c d : Cl) (x : Sm) : c.minus (d.put x 1) = (c.minus d).put x (-1) := by
  apply Cl.ext
  · show wrap64 (c.n - wrap64 (d.n + 1)) = wrap64 (wrap64 (c.n - d.n) + -1)
    rw [wrap64_sub, wrap64_add]; exact wrap64_cong (by omega)
  · exact (Sm.xor_assoc _ _ _).symm
  · exact (Sm.xor_assoc _ _ _).symm
theorem minus_putAll (c : Cl) : ∀ (l : List Sm) (d : Cl), c.minus (putAll 1 d l) = putAll (-1) (c.minus d) l
  | [], _ => rfl
  | x :: l, d => by
    show c.minus (putAll 1 (d.put x 1) l) = putAll (-1) ((c.minus d).put x (-1)) l
    rw [minus_putAll c l, minus_put]

/-! Rows of sums in memory. -/
/-- The sums ls lie at a, one behind the other. -/
def Rds (w : World) (a : Option Addr) (ls : List Sm) : Prop := ∀ i (x : Sm), ls[i]? = some x → ∃ ad, a = some ad ∧ Rd w (some (ad.add (i * 32))) (x.l.map bv)
theorem Rds.below {w w' : World} {a : Option Addr} {ls : List Sm} (h : Rds w a ls) (k : Below w.heap.size w w') : Rds w' a ls := fun i x hi => by
  obtain ⟨ad, e, hr⟩ := h i x hi
  exact ⟨ad, e, hr.below k⟩
theorem load_rd {P : Program} {w : World} {a : Addr} {xs : List Value} {ty : TypeId} {d : TypeDesc} (hr : Rd w (some a) xs) (hu : P.underlying ty = some d) (hd : (match d with | .struct _ | .array _ _ => true | _ => false) = true) (hi : (P.info? ty).map (·.size) = some xs.length) :
    (Instr.loadAt ty (.pointer (some a))).run P w = .ok (.agg xs.toArray) w := by
  have hl : (loadCells a xs.length).run P w = .ok xs.toArray w := run_loadCells_list (P := P) w a xs (fun j v hv => by
    obtain ⟨ad, e, h⟩ := hr j v hv
    injection e with e; subst e; exact h)
  cases hq : P.info? ty with
  | none => simp [hq] at hi
  | some i =>
    have hs : i.size = xs.length := by simpa [hq] using hi
    have hagg : (isAgg ty).run P w = .ok true w := by
      unfold isAgg
      rw [Sem.run_bind, run_underlying hu w]
      cases d <;> simp_all
    simp [Instr.loadAt, Instr.sureAddr, loadVar, Sem.run_bind, hagg, sizeOf, typeInfo, hq, hs, hl]
theorem load_elem {w : World} {ad : Addr} {ls : List Sm} {i : Nat} {x : Sm} (h : Rds w (some ad) ls) (hi : ls[i]? = some x) :
    ∀ w' : World, (∃ p : Later w, w' = p.wd) → (Instr.loadAt 26 (.pointer (some (ad.add (i * 32))))).run Try.prog w' = .ok (.agg (u8s x.l)) w' := by
  rintro w' ⟨p, rfl⟩
  obtain ⟨ad', e, hr⟩ := h i x hi
  injection e with e; subst e
  exact load_rd (hr.below p.below) Try.underlying26 rfl (info32a.trans (by rw [List.length_map, x.len]))
open Go.ChangeShapes Go.WideShapes Go.Deep in
theorem row_sms {H : Type} {enc : TypeId × Value → H} {P : Program} {W : World} {sp : Nat → Bool} {t e b : TypeId} {a : Option Addr} {len cap : Nat} {d : DataW H} {ps : List MemPlace}
    (ht : P.underlying t = some (.slice e)) (he : P.underlying e = some (.array 32 b)) (hb : P.underlying b = some (.int .u8)) (hC : P.cellsOf e = 32) (hc : P.cellsOf b = 1) (h : DataW.Trod enc P W 0 sp true t (.slice a len cap) d ps) :
    ∃ ls : List Sm, ls.length = len ∧ len ≤ cap ∧ len ≤ maxLen ∧ Rds W a ls ∧ (a = none → len = 0) := by
  obtain ⟨fuel, hf⟩ := h
  rcases open_slice ht hf with ⟨hcs, _⟩ | ⟨x, l, c, m, n, D, Pl, hcs, _, hl, hm, hmm, _, hi⟩
  · simp [Value.cells] at hcs
    obtain ⟨rfl, rfl, rfl⟩ := hcs
    exact ⟨[], rfl, Nat.le_refl _, Nat.zero_le _, fun i x hi => by simp at hi, fun _ => rfl⟩
  · simp [Value.cells] at hcs
    obtain ⟨rfl, rfl, rfl⟩ := hcs
    have hlm : len ≤ m := by rw [hmm]; split <;> omega
    have hex : ∀ i, i < len → ∃ s : Sm, Rd W (some (x.add (i * 32))) (s.l.map bv) := fun i hil => by
      obtain ⟨cs', h1, h2⟩ := hi i (by omega)
      rw [hC] at h1
      obtain ⟨s, rfl⟩ := sm_of_cells he hb hC hc h2
      obtain ⟨_, hcl, hat⟩ := World.cells?_some h1
      refine ⟨s, fun j v hv => ⟨_, rfl, ?_⟩⟩
      have hj : j < 32 := by have := (List.getElem?_eq_some_iff.1 hv).1; rw [List.length_map, s.len] at this; exact this
      have h3 := hat j hj
      rw [h3]
      exact hv
    have hfun : ∀ i : Fin len, ∃ s : Sm, Rd W (some (x.add (i.val * 32))) (s.l.map bv) := fun i => hex i.val i.isLt
    have hch := Classical.axiomOfChoice hfun
    obtain ⟨f, hf2⟩ := hch
    refine ⟨List.ofFn f, List.length_ofFn, hl, by omega, fun i y hy => ⟨x, rfl, ?_⟩, by simp⟩
    have hil : i < len := by have := (List.getElem?_eq_some_iff.1 hy).1; rwa [List.length_ofFn] at this
    rw [List.getElem?_eq_getElem (by rw [List.length_ofFn]; exact hil), List.getElem_ofFn] at hy
    injection hy with hy
    rw [← hy]
    exact hf2 ⟨i, hil⟩
end Go.Proofs.Ytbhlaafahfeacaa
