/- Joined: Reg, Decl, DeclA, Later, CmpA, WordP, Word, TextA, SumA, SetB, SetA, R1Cmp, SetC, SumG, Row. -/
import Derived.Orders
import Derived.Deep.QuietTactic
import Derived.BigQuiet
import Derived.IntWalk
import Derived.WalkLawsBesides
import Derived.Lib.Hide
import Derived.Deep.RegionHeld3
import Derived.Lib.SlBytesConst
import Derived.KernelRfl
import Derived.ProofKit
import Derived.OpenShut
import Derived.ShutString
import Derived.ChangeOld
import Derived.SizedLaws
import Derived.ChangeSlices
import Derived.Carry
import Derived.Test.YtkdkmnemmenikaaZSumKnown1
/- A region that draws its order, by an invariant over what has come up. -/
namespace Go.Proofs.Ytkdkmnemmenikaa
open Go.RowKit

def left (l : List Bool) : Nat := (l.filter (!·)).length
theorem left_set : ∀ (l : List Bool) (i : Nat), l[i]? = some false → left (l.set i true) + 1 = left l
  | b :: l, 0, h => by
    simp at h
    subst h
    simp [left]
  | b :: l, i + 1, h => by
    have ih := left_set l i (by simpa using h)
    unfold left at ih ⊢
    cases b <;> simp at ih ⊢ <;> omega
theorem left_zero {l : List Bool} (h : left l = 0) : ∀ b ∈ l, b = true := by
  intro b hb
  unfold left at h
  have := List.eq_nil_of_length_eq_zero h
  cases b with
  | true => rfl
  | false =>
    have : false ∈ l.filter (!·) := List.mem_filter.2 ⟨hb, rfl⟩
    simp_all
theorem left_replicate (n : Nat) : left (List.replicate n false) = n := by simp [left]

theorem ready_all {ops : Array Oper} {listed : Array Bool} (hback : ∀ i o, ops[i]? = some o → ∀ e ∈ o.after, Region.binds .any e = true → e.on < i) (hs : listed.size = ops.size)
    (h : Region.ready .any ops listed = []) : ∀ i, i < ops.size → listed.getD i false = true := by
  intro i
  induction i using Nat.strongRecOn with
  | ind i ih =>
    intro hi
    cases hv : listed.getD i false with
    | true => rfl
    | false =>
      exfalso
      have hmem : i ∈ Region.ready .any ops listed := mem_ready.2 ⟨by
          have hl : i < listed.size := by omega
          simpa [Array.getD, hl] using hv, ops[i], Array.getElem?_eq_getElem hi, fun e he hb => by
          have h1 := hback i ops[i] (Array.getElem?_eq_getElem hi) e he hb
          exact ih e.on h1 (by omega)⟩
      rw [h] at hmem
      cases hmem

/-- **A region by an invariant**: whatever order is picked. -/
theorem region_inv {P : Program} {id : Nat} {ops : Array Oper} {Q : Exit → Act → World → Prop} {a : Act} {w : World} (hm : P.follows .mixedOrders = true)
    (hback : ∀ i o, ops[i]? = some o → ∀ e ∈ o.after, Region.binds .any e = true → e.on < i)
    (Inv : Array Bool → Act → World → Prop) (h0 : Inv (Array.replicate ops.size false) a w.drew)
    (hstep : ∀ (listed : Array Bool) a w i o, listed.size = ops.size → Inv listed a w → ops[i]? = some o → listed.getD i true = false → (∀ e ∈ o.after, Region.binds .any e = true → listed.getD e.on false = true) →
      if Region.wanted o (yielded ops a.tmps) then o.wp P a w (fun a' w' => Inv (listed.setIfInBounds i true) a' w') Q else Inv (listed.setIfInBounds i true) (a.put o.dst undef) w)
    (hend : ∀ (listed : Array Bool) a w, (∀ i, i < ops.size → listed.getD i false = true) → Inv listed a w → Q .normal a w) : (Code.region id ops true).wp P Q a w := by
  have key : ∀ (fuel : Nat) (listed : Array Bool) (a : Act) (w : World), listed.size = ops.size → left listed.toList = fuel → Inv listed a w → wpAny P .any ops Q fuel listed a w := by
    intro fuel
    induction fuel with
    | zero =>
      intro listed a w hs hl hI
      have hall : ∀ i, i < ops.size → listed.getD i false = true := fun i hi => by
        have hi' : i < listed.size := by omega
        have := left_zero hl listed[i] (by simp)
        simpa [Array.getD, hi'] using this
      refine ⟨?_, hend listed a w hall hI⟩
      cases hr : Region.ready .any ops listed with
      | nil => rfl
      | cons i r =>
        have hmem : i ∈ Region.ready .any ops listed := by rw [hr]; simp
        obtain ⟨h1, o, ho, _⟩ := mem_ready.1 hmem
        have hi : i < ops.size := (Array.getElem?_eq_some_iff.1 ho).1
        have h2 := hall i hi
        have hi' : i < listed.size := by omega
        simp [Array.getD, hi'] at h1 h2
        rw [h1] at h2; cases h2
    | succ fuel ih =>
      intro listed a w hs hl hI
      refine ⟨fun hr => hend listed a w (ready_all hback hs hr) hI, fun i hi => ?_⟩
      obtain ⟨h1, o, ho, h2⟩ := mem_ready.1 hi
      have hio : i < ops.size := (Array.getElem?_eq_some_iff.1 ho).1
      have hi' : i < listed.size := by omega
      have hnext : ∀ a' w', Inv (listed.setIfInBounds i true) a' w' → wpAny P .any ops Q fuel (listed.setIfInBounds i true) a' w' := fun a' w' h => by
        refine ih _ a' w' (by simpa using hs) ?_ h
        have hfalse : listed.toList[i]? = some false := by
          simp [Array.getD, hi'] at h1
          simp [hi', h1]
        have := left_set listed.toList i hfalse
        rw [hl] at this
        simpa using this
      have h3 := hstep listed a w i o hs hI ho h1 h2
      unfold wpOp
      simp only [ho]
      split
      · rename_i hw
        rw [if_pos hw] at h3
        exact .inl (Oper.wp_mono hnext h3)
      · rename_i hw
        rw [if_neg hw] at h3
        exact hnext _ _ h3
  refine wp_region_any hm (key _ _ a _ (by simp) ?_ h0)
  simpa using left_replicate ops.size
end Go.Proofs.Ytkdkmnemmenikaa

/- A statement that declares several variables at once ('x, y := f(), g()'), its order open: values, then new variables, then stores. -/
namespace Go.Proofs.Ytkdkmnemmenikaa
open Go.RowKit

/-- How such a statement is laid out: m values, k variables. -/
structure DeclOf (m k : Nat) where
  dv : Nat → Nat
  val : Nat → Value
  al : Nat → Nat
  sv : Nat → Nat
  X : Nat → Array Value
  ta : Nat → TypeId
  Z : Nat → Array Value

section
variable {m k : Nat} (D : DeclOf m k)
theorem put_get {a : Act} {d s : Nat} {v : Value} (h : s ≠ d) : (a.put (some d) v).tmps[s]? = a.tmps[s]? := by
  simp only [Act.put]
  rw [Array.getElem?_setIfInBounds_ne (by omega)]
theorem put_same {a : Act} {d : Nat} {v : Value} (h : d < a.tmps.size) : (a.put (some d) v).tmps[d]? = some v := by
  simp only [Act.put]
  rw [Array.getElem?_setIfInBounds_self, if_pos h]
theorem eval_tmp {a : Act} {s : Nat} {v : Value} (h : a.tmps[s]? = some v) : a.eval (.tmp s) = v := by
  simp [Act.eval, Array.getD_eq_getD_getElem?, h]

theorem getD_set_iff {listed : Array Bool} {i j : Nat} (h : (listed.setIfInBounds i true).getD j false = true) (hn : i ≠ j) : listed.getD j false = true := by
  rwa [getD_set_ne false hn] at h

theorem region_decl {P : Program} {id : Nat} {ops : Array Oper} {Q : Exit → Act → World → Prop} {a0 : Act} {w0 : World} (hm : P.follows .mixedOrders = true)
    (hback : ∀ i o, ops[i]? = some o → ∀ e ∈ o.after, Region.binds .any e = true → e.on < i) (hsz : ops.size = m + k + k)
    (hval : ∀ i o, i < m → ops[i]? = some o → o.dst = some (D.dv i) ∧ o.guard = none ∧ ∀ (a : Act) (w : World) (K : Act → World → Prop), (∀ s, D.out s → a.tmps[s]? = a0.tmps[s]?) → Keeps [] w0 w →
      (∀ j, j < m → (∃ e ∈ o.after, e.on = j ∧ Region.binds .any e = true) → a.tmps[D.dv j]? = some (D.val j)) → (∀ w', Keeps [] w w' → K (a.put o.dst (D.val i)) w') → o.wp P a w K Q)
    (hall : ∀ j o, j < k → ops[m + j]? = some o → o.dst = some (D.al j) ∧ o.guard = none ∧ ∀ (a : Act) (w : World) (K : Act → World → Prop), K (a.put o.dst (.pointer (some ⟨w.heap.size, 0, none⟩))) (w.alloc (.cells (D.Z j) (D.ta j))) → o.wp P a w K Q)
    (hsto : ∀ j o, j < k → ops[m + k + j]? = some o → o.dst = none ∧ o.guard = none ∧ o.op = .store (D.ta j) (.tmp (D.al j)) (.tmp (D.dv (D.sv j))) ∧ D.sv j < m ∧ D.val (D.sv j) = .agg (D.X j) ∧ (∃ e ∈ o.after, e.on = m + j ∧ Region.binds .any e = true) ∧ (∃ e ∈ o.after, e.on = D.sv j ∧ Region.binds .any e = true) ∧
      (D.X j).size = (D.Z j).size ∧ (P.info? (D.ta j)).map (·.size) = some (D.X j).size ∧ (D.X j).all (·.oneCell') = true)
    (hd1 : ∀ i j, i < m → j < m → i ≠ j → D.dv i ≠ D.dv j) (hd2 : ∀ i j, i < k → j < k → i ≠ j → D.al i ≠ D.al j) (hd3 : ∀ i j, i < m → j < k → D.dv i ≠ D.al j)
    (hb1 : ∀ i, i < m → D.dv i < a0.tmps.size) (hb2 : ∀ j, j < k → D.al j < a0.tmps.size)
    (hQ : ∀ (g : Nat → Nat) (a : Act) (w : World), Keeps [] w0 w → (∀ j, j < k → w0.heap.size ≤ g j ∧ Blk w (g j) (D.ta j) (D.X j)) → (∀ i j, i < k → j < k → i ≠ j → g i ≠ g j) → a.defers = a0.defers → a.tmps.size = a0.tmps.size →
      (∀ s, D.out s → a.tmps[s]? = a0.tmps[s]?) → (∀ i, i < m → a.tmps[D.dv i]? = some (D.val i)) → (∀ j, j < k → a.tmps[D.al j]? = some (.pointer (some ⟨g j, 0, none⟩))) → Q .normal a w) :
    (Code.region id ops true).wp P Q a0 w0 := by
  refine region_inv hm hback (fun listed a w => ∃ g, D.Inv w0 a0 listed a w g) ⟨fun _ => 0, ⟨(Keeps.refl [] w0).drew, rfl, rfl, fun _ _ => rfl, ?_, ?_, ?_, ?_⟩⟩ ?_ ?_
  · intro i _ h; simp [Array.getD] at h
  · intro j _ h; simp [Array.getD] at h
  · intro i j _ _ _ h; simp [Array.getD] at h
  · intro j _ h; simp [Array.getD] at h
  · rintro listed a w i o hs ⟨g, hI⟩ ho hun hdep
    have hio : i < ops.size := (Array.getElem?_eq_some_iff.1 ho).1
    rcases Nat.lt_or_ge i m with him | him
    · -- a value
      obtain ⟨h1, h2, h3⟩ := hval i o him ho
      rw [if_pos (by simp [Region.wanted, h2])]
      refine h3 a w _ hI.out hI.keeps (fun j hj ⟨e, he, hej, hbd⟩ => hI.vals j hj (by have := hdep e he hbd; rwa [hej] at this)) (fun w' hk => ⟨g, ?_⟩)
      rw [h1]
      refine ⟨hI.keeps.trans hk, hI.defers, by simp only [Act.put]; simpa using hI.size, fun s hs' => ?_, fun j hj hl => ?_, fun j hj hl => ?_, fun p q hp hq hne h4 h5 => ?_, fun j hj hl => ?_⟩
      · rw [put_get (hs'.1 i him)]; exact hI.out s hs'
      · by_cases hij : i = j
        · subst hij; exact put_same (by rw [hI.size]; exact hb1 i him)
        · rw [put_get (hd1 j i hj him (Ne.symm hij))]; exact hI.vals j hj (getD_set_iff hl hij)
      · have hl' := getD_set_iff hl (by omega)
        obtain ⟨e1, e2, e3⟩ := hI.ptr j hj hl'
        refine ⟨by rw [put_get (Ne.symm (hd3 i j him hj))]; exact e1, e2, ?_⟩
        rw [getD_set_ne false (by omega)]
        exact e3.keeps hk (by simp)
      · exact hI.ne p q hp hq hne (getD_set_iff h4 (by omega)) (getD_set_iff h5 (by omega))
      · rw [getD_set_ne false (by omega)]; exact hI.late j hj (getD_set_iff hl (by omega))
    · rcases Nat.lt_or_ge i (m + k) with hik | hik
      · -- a new variable
        obtain ⟨j0, rfl⟩ : ∃ j0, i = m + j0 := ⟨i - m, by omega⟩
        have hj0 : j0 < k := by omega
        obtain ⟨h1, h2, h3⟩ := hall j0 o hj0 ho
        have hnl : listed.getD (m + k + j0) false ≠ true := fun h => by
          have := hI.late j0 hj0 h
          have hl : m + j0 < listed.size := by omega
          simp [Array.getD, hl] at hun this
          rw [hun] at this; cases this
        rw [if_pos (by simp [Region.wanted, h2])]
        refine h3 a w _ ⟨fun j => if j = j0 then w.heap.size else g j, ?_⟩
        rw [h1]
        have hgl : ∀ j, j < k → listed.getD (m + j) false = true → g j < w.heap.size := fun j hj hl => (hI.ptr j hj hl).2.2.lt
        refine ⟨hI.keeps.alloc _, hI.defers, by simp only [Act.put]; simpa using hI.size, fun s hs' => ?_, fun j hj hl => ?_, fun j hj hl => ?_, fun p q hp hq hne h4 h5 => ?_, fun j hj hl => ?_⟩
        · rw [put_get (hs'.2 j0 hj0)]; exact hI.out s hs'
        · rw [put_get (hd3 j j0 hj hj0)]; exact hI.vals j hj (getD_set_iff hl (by omega))
        · by_cases hjj : j = j0
          · subst hjj
            rw [if_pos rfl]
            refine ⟨put_same (by rw [hI.size]; exact hb2 j hj), hI.keeps.size, ?_⟩
            rw [getD_set_ne false (by omega), if_neg hnl]
            exact Blk.new w _ _
          · rw [if_neg hjj]
            obtain ⟨e1, e2, e3⟩ := hI.ptr j hj (getD_set_iff hl (by omega))
            refine ⟨by rw [put_get (hd2 j j0 hj hj0 hjj)]; exact e1, e2, ?_⟩
            rw [getD_set_ne false (by omega)]
            exact e3.alloc _
        · by_cases hp0 : p = j0
          · have hq0 : q ≠ j0 := fun h => hne (by rw [hp0, h])
            rw [if_pos hp0, if_neg hq0]
            have := hgl q hq (getD_set_iff h5 (by omega))
            omega
          · rw [if_neg hp0]
            have hp' := getD_set_iff h4 (by omega)
            by_cases hq0 : q = j0
            · rw [if_pos hq0]
              have := hgl p hp hp'
              omega
            · rw [if_neg hq0]
              exact hI.ne p q hp hq hne hp' (getD_set_iff h5 (by omega))
        · exact getD_set_true (hI.late j hj (getD_set_iff hl (by omega)))
      · -- a store
        obtain ⟨j0, rfl⟩ : ∃ j0, i = m + k + j0 := ⟨i - (m + k), by omega⟩
        have hj0 : j0 < k := by omega
        obtain ⟨h1, h2, h3, h4, h5, ⟨e1, he1, hon1, hbd1⟩, ⟨e2, he2, hon2, hbd2⟩, h8, h9, h10⟩ := hsto j0 o hj0 ho
        have hla := hdep e1 he1 hbd1
        rw [hon1] at hla
        have hlv := hdep e2 he2 hbd2
        rw [hon2] at hlv
        obtain ⟨p1, p2, p3⟩ := hI.ptr j0 hj0 hla
        have hnl : listed.getD (m + k + j0) false ≠ true := fun h => by
          have hl : m + k + j0 < listed.size := by omega
          simp [Array.getD, hl] at hun h
          rw [hun] at h; cases h
        rw [if_neg hnl] at p3
        rw [if_pos (by simp [Region.wanted, h2])]
        refine wp_store_blk (D.ta j0) _ _ h3 (g j0) (D.ta j0) (D.Z j0) (D.X j0) (eval_tmp p1) (by rw [eval_tmp (hI.vals _ h4 hlv), h5]) p3 h8 h9 h10 (fun w' hB hk => ⟨g, ?_⟩)
        rw [h1]
        refine ⟨hI.keeps.trans' hk (by simpa using p2), hI.defers, hI.size, hI.out, fun j hj hl => hI.vals j hj (getD_set_iff hl (by omega)), fun j hj hl => ?_, fun p q hp hq hne h6 h7 => hI.ne p q hp hq hne (getD_set_iff h6 (by omega)) (getD_set_iff h7 (by omega)), fun j hj hl => ?_⟩
        · have hl' := getD_set_iff hl (by omega)
          obtain ⟨q1, q2, q3⟩ := hI.ptr j hj hl'
          refine ⟨q1, q2, ?_⟩
          by_cases hjj : j0 = j
          · subst hjj
            have hset : (listed.setIfInBounds (m + k + j0) true).getD (m + k + j0) false = true := by
              have hl : m + k + j0 < listed.size := by omega
              simp [Array.getD, hl]
            rw [if_pos hset]
            exact hB
          · rw [getD_set_ne false (by omega)]
            exact q3.keeps hk (by simpa using hI.ne j j0 hj hj0 (Ne.symm hjj) hl' hla)
        · by_cases hjj : j0 = j
          · subst hjj; exact getD_set_true hla
          · exact getD_set_true (hI.late j hj (getD_set_iff hl (by omega)))
  · rintro listed a w hall' ⟨g, hI⟩
    refine hQ g a w hI.keeps (fun j hj => ?_) (fun i j hi hj hne => hI.ne i j hi hj hne (hall' _ (by omega)) (hall' _ (by omega))) hI.defers hI.size hI.out (fun i hi => hI.vals i hi (hall' _ (by omega))) (fun j hj => (hI.ptr j hj (hall' _ (by omega))).1)
    obtain ⟨_, q2, q3⟩ := hI.ptr j hj (hall' _ (by omega))
    rw [if_pos (hall' _ (by omega))] at q3
    exact ⟨q2, q3⟩
end
end Go.Proofs.Ytkdkmnemmenikaa

/- Small words for the use of region_decl. -/
namespace Go.Proofs.Ytkdkmnemmenikaa
open Go.RowKit

end Go.Proofs.Ytkdkmnemmenikaa

/- A region that draws its order, whose operations only read and whose callees may lay blocks: one walk, in the order of the text, over the class of all later worlds. -/
namespace Go.Proofs.Ytkdkmnemmenikaa
open Go.RowKit

/-- A later world: all that lay in w stands. -/
structure Later (w : World) where
  wd : World
  below : Below w.heap.size w wd

instance laterInhabited (w : World) : Inhabited (Later w) := ⟨⟨w, Below.refl _ _⟩⟩

end Go.Proofs.Ytkdkmnemmenikaa

/- The walk of Sum.Cmp. -/
namespace Go.Proofs.Ytkdkmnemmenikaa
open Go.RowKit

end Go.Proofs.Ytkdkmnemmenikaa

/- Eight bytes of a sum as a number: plainly. -/
namespace Go.Proofs.Ytkdkmnemmenikaa
open Go.RowKit

/-- The number that the last t of the eight bytes from 8 i on make. -/
def wordF (l : List Nat) (i : Nat) : Nat → Nat
  | 0 => 0
  | t + 1 => wordF l i t * 256 + l.getD (8 * i + (7 - t)) 0
theorem wordF_lt (l : List Nat) (i : Nat) (hl : ∀ j, l.getD j 0 < 256) : ∀ t, wordF l i t < 256 ^ t
  | 0 => by simp [wordF]
  | t + 1 => by
    have h1 := wordF_lt l i hl t
    have h2 := hl (8 * i + (7 - t))
    rw [wordF, Nat.pow_succ]
    omega
def wordL (l : List Nat) (i : Int) : Nat := if 0 ≤ i ∧ i < 4 then wordF l i.toNat 8 else 0

theorem wrap64u (n : Int) (h0 : 0 ≤ n) (h1 : n < 2 ^ 64) : IntKind.u64.wrap n = n := by
  have : IntKind.u64.wrap n = n % 18446744073709551616 := by simp [IntKind.wrap, IntKind.bits, IntKind.signed]
  rw [this]; omega
theorem or_byte (n b : Nat) (hn : n < 72057594037927936) (hb : b < 256) : bits .or .u64 ((n : Int) * 256) (b : Int) = ((n * 256 + b : Nat) : Int) := by
  have h := bits_join .u64 64 (by decide) wrap64u 8 ((n : Int) * 256) (b : Int) (by omega) (by omega) (by omega) (by omega) (by omega) (by omega)
  rw [h]
  omega

end Go.Proofs.Ytkdkmnemmenikaa

/- Eight bytes of a sum as a number: plainly; the walk of Sum.Word. -/
namespace Go.Proofs.Ytkdkmnemmenikaa
open Go.RowKit

set_option maxRecDepth 100000 in
set_option maxHeartbeats 1000000 in
theorem Word_any (x : Sm) (i : Int) (w : World) :
    Calls Try.prog 9 #[.agg (u8s x.l), .int .i64 i] w fun e w' => e = .returned (.int .u64 (wordL x.l i)) ∧ Below w.heap.size w w' := by
  by_cases h0 : i < 0
  · have e : wordL x.l i = 0 := by unfold wordL; rw [if_neg (by omega)]
    rw [e]
    go_enter Try.func9, Try.ntmps9
    go_wp2
    go_ret
    exact ⟨rfl, ((Keeps.refl [] w).alloc _).below⟩
  · by_cases h4 : 4 ≤ i
    · have e : wordL x.l i = 0 := by unfold wordL; rw [if_neg (by omega)]
      rw [e]
      go_enter Try.func9, Try.ntmps9
      go_wp2
      go_ret
      exact ⟨rfl, ((Keeps.refl [] w).alloc _).below⟩
    · obtain ⟨k, rfl⟩ := Int.eq_ofNat_of_zero_le (show 0 ≤ i by omega)
      have hk : k < 4 := by omega
      have e : wordL x.l (k : Int) = wordF x.l k 8 := by unfold wordL; rw [if_pos (by omega)]; rfl
      rw [e]
      have hB := Blk.new w 24 (u8s x.l)
      have hlt := wordF_lt x.l k x.get_lt
      have HLT := Lib.hid hlt
      have hby := x.get_lt
      have HBY := Lib.hid hby
      have hcell : ∀ j, j < 32 → (w.alloc (.cells (u8s x.l) 24)).cell? ⟨w.heap.size, j, none⟩ = some (.int .u8 ((x.l.getD j 0 : Nat) : Int)) := fun j hj => by
        rw [hB.cell, u8s_get (by rw [x.len]; exact hj)]
      have HC := Lib.hid hcell
      have hb : Below w.heap.size w (w.alloc (.cells (u8s x.l) 24)) := ((Keeps.refl [] w).alloc _).below
      have HB := Lib.hid hb
      clear hlt hby hcell hB e h0 h4 hb
      generalize hx : u8s x.l = X at *
      clear hx
      generalize x.l = l at *
      go_enter Try.func9, Try.ntmps9
      go_wp2
      go_loop [5, 6] (fun v j => ∃ t : Nat, t ≤ 8 ∧ v = .int .u64 (wordF l k t) ∧ j = .int .i64 (7 - (t : Int))) (fun _ j => (intOf j + 1).toNat)
      case atStart => exact ⟨0, by omega, rfl, rfl⟩
      case round =>
        obtain ⟨t, ht, rfl, rfl⟩ := hrel
        by_cases h8 : t < 8
        · have hc := HC.out (8 * k + (7 - t)) (by omega)
          have hn : wordF l k t < 72057594037927936 := by
            have h1 := HLT.out t
            have h2 : 256 ^ t ≤ 256 ^ 7 := Nat.pow_le_pow_right (by omega) (by omega)
            omega
          have hb := HBY.out (8 * k + (7 - t))
          have hs : wordF l k (t + 1) = wordF l k t * 256 + l.getD (8 * k + (7 - t)) 0 := rfl
          have HS := Lib.hid hs
          clear hs
          generalize l.getD (8 * k + (7 - t)) 0 = b at *
          generalize wordF l k t = n at *
          have ho := or_byte n b hn hb
          have i0 : (0 : Int) ≤ 7 - (t : Int) := by omega
          have i1 : (t : Int) ≤ 7 := by omega
          have i2 : 8 * (k : Int) + (7 - (t : Int)) < 32 := by omega
          have i3 : (0 : Int) ≤ 8 * (k : Int) + (7 - (t : Int)) := by omega
          have i4 : (8 * (k : Int) + (7 - (t : Int))).toNat = 8 * k + (7 - t) := by omega
          go_wp2
          exact ⟨⟨t + 1, by omega, by rw [HS.out]; go_num, by go_num⟩, by simp [intOf]; omega⟩
        · obtain rfl : t = 8 := by omega
          go_wp2
          go_ret
          exact ⟨rfl, HB.out⟩
end Go.Proofs.Ytkdkmnemmenikaa

/- The walk of Sum.Text. -/
namespace Go.Proofs.Ytkdkmnemmenikaa
open Go.RowKit

theorem digit_at (n : Nat) (hn : n < 16) (W : World) : (Instr.index 9 (.string { data := #[48, 49, 50, 51, 52, 53, 54, 55, 56, 57, 97, 98, 99, 100, 101, 102] }) (.int .u8 (n : Int))).run Try.prog W = .ok (.int .u8 ((hexd n : Nat) : Int)) W := by
  have h : n = 0 ∨ n = 1 ∨ n = 2 ∨ n = 3 ∨ n = 4 ∨ n = 5 ∨ n = 6 ∨ n = 7 ∨ n = 8 ∨ n = 9 ∨ n = 10 ∨ n = 11 ∨ n = 12 ∨ n = 13 ∨ n = 14 ∨ n = 15 := by omega
  rcases h with rfl | rfl | rfl | rfl | rfl | rfl | rfl | rfl | rfl | rfl | rfl | rfl | rfl | rfl | rfl | rfl <;> (show _ = _; kernel_rfl)

set_option maxRecDepth 100000 in
set_option maxHeartbeats 1000000 in
theorem Text_l (l : List Nat) (hlen : l.length = 32) (hlt : ∀ x ∈ l, x < 256) (w : World) :
    Calls Try.prog 7 #[.agg (u8s l)] w fun e w' => e = .returned (.string (strB (hexS l))) ∧ Below w.heap.size w w' := by
  have hmk : ∀ W, (Instr.makeSlice 30 (.int .i64 0) (.int .i64 64)).run Try.prog W = .ok (.slice (some ⟨W.heap.size, 0, none⟩) 0 64) (W.alloc (.cells (u8s (List.replicate 64 0)) 5)) := fun W => by kernel_rfl
  have hsz := u8s_size l
  rw [hlen] at hsz
  have HL := Lib.hid hlen
  have hix : ∀ (k : Nat) (W : World), k < 32 → (Instr.index 24 (.agg (u8s l)) (.int .i64 (k : Int))).run Try.prog W = .ok (.int .u8 ((l.getD k 0 : Nat) : Int)) W := fun k W hk =>
    run_index_arr W _ _ 32 _ _ k _ Try.underlying24 Try.isAgg5 Try.sizeOf5 hk (u8s_get (by rw [hlen]; exact hk))
  have HI := Lib.hid hix
  have HX := Lib.hid hlt
  have hi32 : (Try.prog.info? 24).map (·.size) = some (u8s l).size := by rw [u8s_size, hlen]; kernel_rfl
  have HI2 := Lib.hid hi32
  have hz64 : (u8s (List.replicate 64 0)).size = 64 := by rw [u8s_size]; rfl
  have HZ := Lib.hid hz64
  clear hsz hix hlen hlt hi32 hz64
  generalize u8s (List.replicate 64 0) = Z at *
  go_enter Try.func7, Try.ntmps7
  go_wp2_with (refine wpList_load_blk rfl 24 (.tmp 1) rfl w.heap.size rfl 24 (u8s l) _ ((Blk.new w _ _).alloc _) Try.underlying24 rfl HI2.out ?_)
  have hO : Own ((w.alloc (.cells (u8s l) 24)).alloc (.cells Z 5)) 1 (.slice (some ⟨w.heap.size + 1, 0, none⟩) 0 64) 0 ((hexS (l.take 0)).map bv) [w.heap.size + 1] :=
    Own.ofRoom (Blk.newAt (w.alloc (.cells (u8s l) 24)) _ Z _ (by simp)) HZ.out (by simp [maxLen])
  have hb : Below w.heap.size w ((w.alloc (.cells (u8s l) 24)).alloc (.cells Z 5)) := (((Keeps.refl [] w).alloc _).alloc _).below
  go_loopw [3, 8] (fun v i wr => ∃ (k : Nat) (A : Option Addr) (c : Nat) (S : List Nat), k ≤ 32 ∧ i = .int .i64 k ∧ v = .slice A (2 * k) c ∧ Own wr 1 (.slice A (2 * k) c) (2 * k) ((hexS (l.take k)).map bv) S ∧ (∀ x ∈ S, w.heap.size ≤ x) ∧ (A = none → 2 * k = 0) ∧ 2 * k ≤ c ∧ Below w.heap.size w wr) (fun _ i _ => 32 - (intOf i).toNat)
  case atStart => exact ⟨0, some ⟨w.heap.size + 1, 0, none⟩, 64, [w.heap.size + 1], by omega, rfl, rfl, hO, by simp, by simp, by omega, hb⟩
  case round =>
    clear hO hb
    obtain ⟨k, A, c, S, hk, rfl, rfl, hO, hS, hA, hc, hb⟩ := hrel
    by_cases hk32 : k < 32
    · have hix := fun W => HI.out k W hk32
      have hd : hexS (l.take (k + 1)) = hexS (l.take k) ++ [hexd (l.getD k 0 / 16), hexd (l.getD k 0 % 16)] := by
        have hl : k < l.length := by rw [HL.out]; exact hk32
        rw [List.take_succ_eq_append_getElem hl, hexS_append]
        simp [hexS, List.getD, List.getElem?_eq_getElem hl]
      have HD := Lib.hid hd
      have hy : l.getD k 0 < 256 := by
        have hl : k < l.length := by rw [HL.out]; exact hk32
        simp only [List.getD, List.getElem?_eq_getElem hl, Option.getD_some]; exact HX.out _ (List.getElem_mem _)
      clear hd
      generalize l.getD k 0 = y at *
      have hp : (y : Int) / 16 = ((y / 16 : Nat) : Int) := by omega
      have hq : bits .and .u8 (y : Int) 15 = ((y % 16 : Nat) : Int) := by
        have h := u8_and_nat y 15 hy (by omega)
        rw [nat_mask4] at h
        exact h
      have h1 := digit_at (y / 16) (by omega)
      have h2 := digit_at (y % 16) (by omega)
      have hd1 : hexd (y / 16) < 256 := hexd_lt (by omega)
      have hd2 : hexd (y % 16) < 256 := hexd_lt (by omega)
      generalize y / 16 = p at *
      generalize y % 16 = q at *
      generalize hexd p = u at *
      generalize hexd q = v at *
      go_wp2_with fail
      go_region_held3 (fun _ => True) (trivial)
        ((rw [if_pos (by rfl)]
          refine wp_app (.tmp 11) (.tmp 18) rfl (.slice A (2 * k) c) (2 * k) _ S (by rfl) (hO.drew.alloc _) (some ⟨wr.heap.size, 0, none⟩) 2 2 [u, v] (by rfl) rfl (Rd.of_blk0 (Blk.newAt _ _ #[.int .u8 (u : Int), .int .u8 (v : Int)] _ (by rfl))) (by simp) (by omega) ?_
          intro A2 c2 w2 S2 hO2 hk2 hS2 hc2 hm2 hA2))
      all_goals
        have hS2' : ∀ x ∈ S2, w.heap.size ≤ x := by
          rcases hS2 with rfl | rfl
          · exact hS
          · intro x hx; simp at hx; have := hb.size; omega
        have hb2 : Below w.heap.size w w2 := ((((Keeps.of_below (S := []) hb).drew).alloc _).trans' hk2 (fun x hx => .inr (hS x hx))).below
        have hcat : (hexS (l.take k)).map bv ++ [u, v].map bv = (hexS (l.take (k + 1))).map bv := by rw [HD.out, List.map_append]
        rw [hcat] at hO2
        go_wp2_with fail
        exact ⟨⟨k + 1, A2, c2, S2, by omega, by go_num, rfl, hO2, hS2', fun e => by have := hA2 e; omega, hc2, hb2⟩, by simp [intOf]; omega⟩
    · obtain rfl : k = 32 := by omega
      rw [List.take_of_length_le (by rw [HL.out]; omega)] at hO
      rw [show 2 * 32 = 64 from rfl] at hO hA ⊢
      rw [show ((32 : Nat) : Int) = 32 from rfl]
      have hrs := run_string_rd (P := Try.prog) wr 30 9 5 Try.underlying30 Try.underlying5 Try.underlying9 A 64 c (hexS l) (by rw [hexS_len, HL.out]) hO.rd hA
      clear hO HX HI
      go_wp2_with fail
      go_ret
      exact ⟨rfl, hb⟩
theorem Text_any (x : Sm) (w : World) :
    Calls Try.prog 7 #[.agg (u8s x.l)] w fun e w' => e = .returned (.string (strB (hexS x.l))) ∧ Below w.heap.size w w' := Text_l x.l x.len x.lt w
end Go.Proofs.Ytkdkmnemmenikaa

/- Layer 1: what the document tells of abc. -/
namespace Go.Proofs.Ytkdkmnemmenikaa
open Go.RowKit

set_option maxRecDepth 100000 in
theorem abc_hex : hexS (shaL [97, 98, 99]) = [98, 97, 55, 56, 49, 54, 98, 102, 56, 102, 48, 49, 99, 102, 101, 97, 52, 49, 52, 49, 52, 48, 100, 101, 53, 100, 97, 101, 50, 50, 50, 51, 98, 48, 48, 51, 54, 49, 97, 51, 57, 54, 49, 55, 55, 97, 57, 99, 98, 52, 49, 48, 102, 102, 54, 49, 102, 50, 48, 48, 49, 53, 97, 100] := by decide +kernel
theorem abc_text : strB [98, 97, 55, 56, 49, 54, 98, 102, 56, 102, 48, 49, 99, 102, 101, 97, 52, 49, 52, 49, 52, 48, 100, 101, 53, 100, 97, 101, 50, 50, 50, 51, 98, 48, 48, 51, 54, 49, 97, 51, 57, 54, 49, 55, 55, 97, 57, 99, 98, 52, 49, 48, 102, 102, 54, 49, 102, 50, 48, 48, 49, 53, 97, 100] = { data := #[98, 97, 55, 56, 49, 54, 98, 102, 56, 102, 48, 49, 99, 102, 101, 97, 52, 49, 52, 49, 52, 48, 100, 101, 53, 100, 97, 101, 50, 50, 50, 51, 98, 48, 48, 51, 54, 49, 97, 51, 57, 54, 49, 55, 55, 97, 57, 99, 98, 52, 49, 48, 102, 102, 54, 49, 102, 50, 48, 48, 49, 53, 97, 100] } := by kernel_rfl

set_option maxRecDepth 100000 in
theorem awake1_any (w : World) : Calls Try.prog 4 #[] w fun e w' => e = .returned (.bool true) ∧ Below w.heap.size w w' := by
  have kc := fun (w : World) (C : Array Value) (n c : Nat) => Lib.run_convert_bytes_const (P := Try.prog) w 30 5 C n c Try.underlying30 Try.underlying5
  go_enter Try.func4, Try.ntmps4
  go_wp2_with fail
  refine (Of_any (some ⟨w.heap.size + 1, 0, none⟩) (w.heap.size + 1) 0 1 1 [[97, 98, 99]] _ rfl (by omega) (fun _ => rfl) ?_ (by simp) (by omega)).mono ?_
  · intro i l hi
    match i, hi with
    | 0, hi =>
      simp only [List.getElem?_cons_zero, Option.some.injEq] at hi
      subst hi
      exact ⟨_, _, (Blk.newAt (w.alloc _) _ #[.slice (some ⟨w.heap.size, 0, none⟩) 3 3] _ (by simp)).cell 0, (Rd.newF w _ #[.int .u8 97, .int .u8 98, .int .u8 99] _ _ rfl).alloc _, by simp, by decide⟩
  rintro e w1 ⟨rfl, hb1⟩
  have hb : Below w.heap.size w w1 := (((Keeps.refl [] w).alloc _).alloc _).below.trans (hb1.mono (by simp; omega))
  clear hb1
  simp only [List.flatten_cons, List.flatten_nil, List.append_nil]
  go_wp2_with fail
  refine (Text_l (shaL [97, 98, 99]) (shaL_len _) (shaL_lt _) _).mono ?_
  rintro e w2 ⟨rfl, hb2⟩
  rw [abc_hex, abc_text]
  have hb3 := hb.trans (hb2.mono hb.size)
  clear hb hb2
  go_wp2_with fail
  go_ret
  exact ⟨rfl, hb3⟩
end Go.Proofs.Ytkdkmnemmenikaa

/- Layer 10: words of this translation: rows of sums. -/
namespace Go.Proofs.Ytkdkmnemmenikaa
open Go.RowKit

theorem mixed : Try.prog.follows .mixedOrders = true := by kernel_rfl
theorem infoS : (Try.prog.info? 24).map (fun i => (i.zero, i.size, i.bytes)) = some (some (.agg (u8s (List.replicate 32 0))), 32, 32) := by kernel_rfl
theorem sizeS : (Try.prog.info? 24).map (·.size) = some 32 := by kernel_rfl
theorem sizeU : (Try.prog.info? 5).map (·.size) = some 1 := by kernel_rfl
section
variable {w0 : World} {Γ : Ctx} {o : Oper}
theorem cEqlAgg {P : Program} {t t2 : TypeId} {x y : Operand} {xs ys : Array Value} {b : Bool} (ho : o.op = .binOp .eql t x y t2) (hx : OpT Γ x (Ty.ex (.agg xs))) (hy : OpT Γ y (Ty.ex (.agg ys))) (hg : P.eqGuardType P.depth t = false)
    (hr : ∀ w : World, (binOp .eql t (.agg xs) (.agg ys)).run P w = .ok (.bool b) w) : OpOk P w0 Γ o (Ty.ex (.bool b)) :=
  cBin ho hx hy fun w => by rw [Sem.run_bind, run_eqGuard_agg (P := P) w .eql t x y xs ys hg]; exact hr w
theorem dec_l (x y : Sm) : decide (x.l = y.l) = decide (x = y) := by
  rw [Bool.eq_iff_iff, decide_eq_true_eq, decide_eq_true_eq]
  exact ⟨Sm.ext_l, fun h => by rw [h]⟩
theorem guardS : Try.prog.eqGuardType Try.prog.depth 24 = false := by kernel_rfl
theorem cells_byte : Try.prog.cellsOf 5 = 1 := by kernel_rfl
theorem info_u8 : ∃ i, Try.prog.info? 5 = some i := by
  have h : (Try.prog.info? 5).isSome = true := by kernel_rfl
  exact Option.isSome_iff_exists.1 h
theorem eqlS (x y : Sm) (w : World) : (binOp .eql 24 (.agg (u8s x.l)) (.agg (u8s y.l))).run Try.prog w = .ok (.bool (decide (x = y))) w := by
  obtain ⟨i, hi⟩ := info_u8
  rw [run_eql_bytes 24 5 32 i Try.underlying24 hi cells_byte Try.underlying5 Try.isAgg5 x.l y.l x.len y.len w, dec_l]
end

end Go.Proofs.Ytkdkmnemmenikaa

/- Layer 10: the walks of small helpers: rows copied, rows compared. -/
namespace Go.Proofs.Ytkdkmnemmenikaa
open Go.RowKit

end Go.Proofs.Ytkdkmnemmenikaa

/- The walk of tallymanref1.Cmp. -/
namespace Go.Proofs.Ytkdkmnemmenikaa
open Go.RowKit

end Go.Proofs.Ytkdkmnemmenikaa

/- Layer 10: the walks of Sum.Cmp, Equal, Good; of the document's own Same, Has, Good. -/
namespace Go.Proofs.Ytkdkmnemmenikaa
open Go.RowKit

theorem compare_ty (x y : Sm) : Fn2 Try.prog 16 (Ty.rd 32 x.enc) (Ty.rd 32 y.enc) (Ty.ex (.int .i64 (cmpL x.l y.l))) :=
  ⟨fun args w => by kernel_rfl, fun w v u ⟨A, c, h1, h2, h3, h4⟩ ⟨B, d, k1, k2, k3, k4⟩ => by
    subst h1 k1
    exact Ret.of_eq ((Compare_any A B 32 32 c d x.l y.l w x.len y.len h4 k4 h3 k3 x.lt y.lt).mono fun _ _ ⟨a, b⟩ => ⟨a, b.symm⟩)⟩
set_option maxRecDepth 100000 in
theorem cmp_ty (x y : Sm) : Fn2 Try.prog 10 (Ty.ex (.agg (u8s x.l))) (Ty.ex (.agg (u8s y.l))) (Ty.ex (.int .i64 (cmpL x.l y.l))) := by
  refine ⟨fun args w => by kernel_rfl, fun w v u hv hu => ?_⟩
  refine enter_ty 8 [Ty.ex (.agg (u8s x.l)), Ty.ex (.agg (u8s y.l))] Try.func10 rfl (by kernel_rfl) ⟨hv, hu, trivial⟩ fun a hF => ?_
  have hB := Below.refl w.heap.size w
  repeat with_reducible refine wp_seq ?_
  refine' reg_all hF ?_ mixed (by kernel_rfl) ?_
  rotate_left
  · repeat (first | exact Line.nil | ((refine' Line.cons rfl (.run rfl rfl ?_) ?_); (any_goals (first | exact cBoxSum rfl rfl | exact cAssign rfl rfl)); rotate_left))
  intro a w1 hF hb hN
  replace hB := hB.trans (hb.mono hB.size)
  dsimp only [ext, Option.getD] at hF
  repeat with_reducible first | refine wp_seq ?_ | refine nThen ?_
  refine' reg_all hF ?_ mixed (by kernel_rfl) ?_
  rotate_left
  · repeat (first | exact Line.nil | ((refine' Line.cons rfl (.run rfl rfl ?_) ?_); (any_goals (first | exact cSliceArr rfl (.t rfl) Try.underlying24 sizeU (by simp [maxLen]) | exact cCallH2 rfl (.r rfl (reads_sl _ _ _)) (.r rfl (reads_sl _ _ _)) (compare_ty x y) | exact cAssign rfl rfl)); rotate_left))
  intro a w2 hF hb hN
  replace hB := hB.trans (hb.mono hB.size)
  dsimp only [ext, Option.getD] at hF
  repeat with_reducible first | refine nThen ?_ | refine wp_ret ?_
  refine ret1 hF rfl rfl fun z hz => ?_
  exact ⟨z, rfl, hz, hB⟩
end Go.Proofs.Ytkdkmnemmenikaa

/- Layer 1: the walk of SumKnown. -/
namespace Go.Proofs.Ytkdkmnemmenikaa
open Go.RowKit

theorem Fn1.exact {P : Program} {f : FuncId} {v u : Value} (en : Enters P f) (h : ∀ w, Calls P f #[v] w fun e w' => e = .returned u ∧ Below w.heap.size w w') : Fn1 P f (Ty.ex v) (Ty.ex u) := ⟨en, fun w v' hv => by
  have hv : v' = v := hv
  subst hv
  exact Ret.of (h w)⟩
theorem Fn2.exact {P : Program} {f : FuncId} {v v2 u : Value} (en : Enters P f) (h : ∀ w, Calls P f #[v, v2] w fun e w' => e = .returned u ∧ Below w.heap.size w w') : Fn2 P f (Ty.ex v) (Ty.ex v2) (Ty.ex u) := ⟨en, fun w v' v2' hv hv2 => by
  have hv : v' = v := hv
  have hv2 : v2' = v2 := hv2
  subst hv hv2
  exact Ret.of (h w)⟩
theorem awake1_ty : Fn0 Try.prog 4 (Ty.ex (.bool true)) := ⟨fun args w => by kernel_rfl, fun w => Ret.of (awake1_any w)⟩
theorem text_ty (x : Sm) : Fn1 Try.prog 7 (Ty.ex (.agg (u8s x.l))) (Ty.ex (.string (strB (hexS x.l)))) := .exact (fun args w => by kernel_rfl) (Text_any x)
theorem parse_ty (s : ByteArray) (x : Sm) (b : Bool) (h1 : parseL (sB s) = x.l) (h2 : parseOk (sB s) = b) : Fn1 Try.prog 6 (Ty.ex (.string s)) (Ty.tup [Ty.ex (.agg (u8s x.l)), Ty.ex (.bool b)]) := ⟨fun args w => by kernel_rfl, fun w v hv => by
  have hv : v = .string s := hv
  subst hv
  have h := Parse_any s w
  rw [h1, h2] at h
  exact h.mono fun e w' ⟨k1, k2⟩ => ⟨_, k1, ⟨_, rfl, rfl, rfl, trivial⟩, k2⟩⟩
theorem zeroS_ty (x : Sm) (b : Bool) (h : decide (x = Sm.zero) = b) : Fn1 Try.prog 8 (Ty.ex (.agg (u8s x.l))) (Ty.ex (.bool b)) := .exact (fun args w => by kernel_rfl) (by subst h; exact Zero_any x)
theorem word1_ty (x : Sm) (i : Int) (n : Nat) (h : wordL x.l i = n) : Fn2 Try.prog 9 (Ty.ex (.agg (u8s x.l))) (Ty.ex (.int .i64 i)) (Ty.ex (.int .u64 (n : Int))) := .exact (fun args w => by kernel_rfl) (by subst h; exact Word_any x i)
theorem xorS_ty (x y : Sm) : Fn2 Try.prog 11 (Ty.ex (.agg (u8s x.l))) (Ty.ex (.agg (u8s y.l))) (Ty.ex (.agg (u8s (x.xor y).l))) := .exact (fun args w => by kernel_rfl) (Xor_any x y)
theorem cmpS_ty (x y : Sm) (n : Int) (h : cmpL x.l y.l = n) : Fn2 Try.prog 10 (Ty.ex (.agg (u8s x.l))) (Ty.ex (.agg (u8s y.l))) (Ty.ex (.int .i64 n)) := by subst h; exact cmp_ty x y
theorem sumOf0_ty : Fn1 Try.prog 5 (Ty.ex (.slice none 0 0)) (Ty.ex (.agg (u8s (shaS []).l))) := ⟨fun args w => by kernel_rfl, fun w v hv => by
  have hv : v = .slice none 0 0 := hv
  subst hv
  have h := Of_any none 0 0 0 0 [] w rfl (Nat.le_refl _) (fun h => absurd rfl h) (fun i l h => by simp at h) (by simp) (by simp)
  rw [List.flatten_nil] at h
  have e : shaL [] = (shaS []).l := rfl
  rw [e] at h
  generalize shaS [] = E at *
  exact Ret.of h⟩
section
variable {P : Program} {w0 : World} {Γ : Ctx} {o : Oper} {x y : Operand} {t t2 e : TypeId} {s r : ByteArray}
theorem cAllocS {z : Array Value} (ho : o.op = .alloc t) (hz : ∀ w : World, (Instr.alloc t true (.tuple #[])).run P w = .ok (.pointer (some ⟨w.heap.size, 0, none⟩)) (w.alloc (.cells z t))) : OpOk P w0 Γ o (Ty.var w0 t z) := fun _ w _ _ hb _ hK =>
  wp_new ho (hz w) (hK _ _ ⟨_, rfl, hb.size, Blk.new w _ _⟩ ((Keeps.refl [] w).alloc _).below)
theorem cAddStr (ho : o.op = .binOp .add t x y t2) (hx : OpT Γ x (Ty.ex (.string s))) (hy : OpT Γ y (Ty.ex (.string r))) (hs : s.size ≤ 1000000) (hr : r.size ≤ 1000000) : OpOk P w0 Γ o (Ty.ex (.string (s ++ r))) :=
  cBin ho hx hy fun w => by
    have h : (s.size : Int) + (r.size : Int) ≤ 9223372036854775807 := by omega
    simp [eqGuard, binOp, Op.stringOp, h]
theorem cEqlStr1 (ho : o.op = .binOp .eql t x y t2) (hx : OpT Γ x (Ty.ex (.string s))) (hy : OpT Γ y (Ty.ex (.string r))) : OpOk P w0 Γ o (Ty.ex (.bool (s.toList == r.toList))) :=
  cBin ho hx hy fun w => by simp [eqGuard, binOp, Op.stringOp]
theorem cStrLo {k : Nat} {kd : IntKind} (ho : o.op = .slice t x (some y) none none) (hx : OpT Γ x (Ty.ex (.string s))) (hy : OpT Γ y (Ty.ex (.int kd (k : Int)))) (hu : P.underlying t = some .string) (hk : k ≤ s.size) : OpOk P w0 Γ o (Ty.ex (.string (s.extract k s.size))) :=
  .val fun a w _ hs => by
    obtain ⟨v, h1, h2⟩ := hs x _ (by simp [ho, Op.operands]) hx
    obtain ⟨i, h3, h4⟩ := hs y _ (by simp [ho, Op.operands]) hy
    have h2 : v = .string s := h2
    have h4 : i = .int kd (k : Int) := h4
    refine ⟨_, rfl, ?_⟩
    unfold execOp
    have hr : (Instr.sliceAt t (.string s) (some (.int kd (k : Int))) none none).run P w = .ok (.string (s.extract k s.size)) w := by
      rw [run_sliceAt_string _ _ _ _ _ _ hu]
      have h := run_slice_string_l (P := P) w t s hu kd (k : Int) (by omega) (by omega)
      rw [Int.toNat_natCast] at h
      exact h
    simp only [ho, h1, h2, h3, h4, Option.map_some, Option.map_none]
    rw [Sem.run_bind, hr]
    rfl
theorem cStrHi {k : Nat} {kd : IntKind} (ho : o.op = .slice t x none (some y) none) (hx : OpT Γ x (Ty.ex (.string s))) (hy : OpT Γ y (Ty.ex (.int kd (k : Int)))) (hu : P.underlying t = some .string) (hk : k ≤ s.size) : OpOk P w0 Γ o (Ty.ex (.string (s.extract 0 k))) :=
  .val fun a w _ hs => by
    obtain ⟨v, h1, h2⟩ := hs x _ (by simp [ho, Op.operands]) hx
    obtain ⟨i, h3, h4⟩ := hs y _ (by simp [ho, Op.operands]) hy
    have h2 : v = .string s := h2
    have h4 : i = .int kd (k : Int) := h4
    refine ⟨_, rfl, ?_⟩
    unfold execOp
    have hr : (Instr.sliceAt t (.string s) none (some (.int kd (k : Int))) none).run P w = .ok (.string (s.extract 0 k)) w := by
      rw [run_sliceAt_string _ _ _ _ _ _ hu]
      have h := run_slice_string_h (P := P) w t s hu kd (k : Int) (by omega) (by omega)
      rw [Int.toNat_natCast] at h
      exact h
    simp only [ho, h1, h2, h3, h4, Option.map_some, Option.map_none]
    rw [Sem.run_bind, hr]
    rfl
end
abbrev StT : TypeId := 9
theorem infoStr : (Try.prog.info? StT).map (fun i => (i.zero, i.size, i.bytes)) = some (some (.string ⟨#[]⟩), 1, 16) := by kernel_rfl
theorem sizeStr : (Try.prog.info? StT).map (·.size) = some 1 := by kernel_rfl
theorem parts6s {Γ : Ctx} {o : Oper} {t : TypeId} {n : Nat} {c0 c1 : Value} {x y z u : Operand} {v2 v3 v4 v5 : Value} (ho : o.op = .buildSlice t n #[(0, .const c0), (1, .const c1), (2, x), (3, y), (4, z), (5, u)]) (hx : OpT Γ x (Ty.ex v2)) (hy : OpT Γ y (Ty.ex v3)) (hz : OpT Γ z (Ty.ex v4)) (hu : OpT Γ u (Ty.ex v5)) : ∀ (a : Act) (w : World), SeesO Γ o a w → ((#[(0, .const c0), (1, .const c1), (2, x), (3, y), (4, z), (5, u)] : Array (Nat × Operand)).map fun (i, x) => (i, a.eval x)) = (([c0, c1, v2, v3, v4, v5] : List Value).zipIdx.map fun p => (p.2, p.1)).toArray := fun a w hs => by
  obtain ⟨b2, h1, h2⟩ := hs x _ (by simp [ho, Op.operands]) hx
  obtain ⟨b3, h3, h4⟩ := hs y _ (by simp [ho, Op.operands]) hy
  obtain ⟨b4, h5, h6⟩ := hs z _ (by simp [ho, Op.operands]) hz
  obtain ⟨b5, h7, h8⟩ := hs u _ (by simp [ho, Op.operands]) hu
  have h2 : b2 = v2 := h2
  have h4 : b3 = v3 := h4
  have h6 : b4 = v4 := h6
  have h8 : b5 = v5 := h8
  subst h2 h4 h6 h8
  simp [h1, h3, h5, h7, show a.eval (.const c0) = c0 from rfl, show a.eval (.const c1) = c1 from rfl]
def wS : Sm := ⟨[1, 2, 0, 0, 0, 0, 0, 128, 3] ++ List.replicate 23 0, by decide, by decide⟩
def xS : Sm := ⟨[1, 3] ++ List.replicate 30 0, by decide, by decide⟩
def yS : Sm := ⟨[2] ++ List.replicate 31 0, by decide, by decide⟩
theorem buildW (w : World) : (Instr.build 24 #[(0, .int .u8 1), (1, .int .u8 2), (2, .int .u8 0), (3, .int .u8 0), (4, .int .u8 0), (5, .int .u8 0), (6, .int .u8 0), (7, .int .u8 128), (8, .int .u8 3)]).run Try.prog w = .ok (.agg (u8s wS.l)) w := by kernel_rfl
theorem buildX (w : World) : (Instr.build 24 #[(0, .int .u8 1), (1, .int .u8 3)]).run Try.prog w = .ok (.agg (u8s xS.l)) w := by kernel_rfl
theorem buildY (w : World) : (Instr.build 24 #[(0, .int .u8 2)]).run Try.prog w = .ok (.agg (u8s yS.l)) w := by kernel_rfl
def tE : ByteArray := strB (hexS (shaS []).l)
theorem tE_size : tE.size = 64 := by decide +kernel
theorem tE_str : (tE.toList == ({ data := #[101, 51, 98, 48, 99, 52, 52, 50, 57, 56, 102, 99, 49, 99, 49, 52, 57, 97, 102, 98, 102, 52, 99, 56, 57, 57, 54, 102, 98, 57, 50, 52, 50, 55, 97, 101, 52, 49, 101, 52, 54, 52, 57, 98, 57, 51, 52, 99, 97, 52, 57, 53, 57, 57, 49, 98, 55, 56, 53, 50, 98, 56, 53, 53] } : ByteArray).toList) = true := by decide +kernel
theorem tE_l : parseL (sB tE) = (shaS []).l := by decide +kernel
theorem tE_ok : parseOk (sB tE) = true := by decide +kernel
def badS (T : ByteArray) : List ByteArray := [{ data := #[] }, { data := #[101, 51] }, T ++ { data := #[48] }, ({ data := #[69, 51] } : ByteArray) ++ T.extract 2 T.size, ({ data := #[103, 51] } : ByteArray) ++ T.extract 2 T.size, T.extract 0 63 ++ { data := #[32] }]
theorem bad_all : (badS tE).all (fun s => !parseOk (sB s)) = true := by decide +kernel
theorem bad_zero {s : ByteArray} (h : parseOk (sB s) = false) : parseL (sB s) = Sm.zero.l := (parse_bad (of_decide_eq_false h)).1
theorem wrd0 : wordL wS.l 0 = 9223372036854776321 := by decide +kernel
theorem wrd1 : wordL wS.l 1 = 3 := by decide +kernel
theorem wrd4 : wordL wS.l 4 = 0 := by decide +kernel
theorem wrdm : wordL wS.l (-1) = 0 := by decide +kernel
theorem cmpWX : cmpL wS.l xS.l = -1 := by decide +kernel
theorem cmpYW : cmpL yS.l wS.l = 1 := by decide +kernel
theorem cmpWW : cmpL wS.l wS.l = 0 := by decide +kernel
theorem xorWW : decide (wS.xor wS = Sm.zero) = true := by decide +kernel
theorem notW : decide (wS = Sm.zero) = false := by decide +kernel
theorem cBuildS1 {w0 : World} {Γ : Ctx} {o : Oper} {a0 : Value} {x : Sm} (ho : o.op = .build 24 #[(0, .const a0)]) (hr : ∀ w, (Instr.build 24 #[(0, a0)]).run Try.prog w = .ok (.agg (u8s x.l)) w) : OpOk Try.prog w0 Γ o (Ty.ex (.agg (u8s x.l))) := cBuildP (vs := #[(0, a0)]) ho (fun a w _ => by simp [Act.eval]) hr
theorem cBuildS2 {w0 : World} {Γ : Ctx} {o : Oper} {a0 a1 : Value} {x : Sm} (ho : o.op = .build 24 #[(0, .const a0), (1, .const a1)]) (hr : ∀ w, (Instr.build 24 #[(0, a0), (1, a1)]).run Try.prog w = .ok (.agg (u8s x.l)) w) : OpOk Try.prog w0 Γ o (Ty.ex (.agg (u8s x.l))) := cBuildP (vs := #[(0, a0), (1, a1)]) ho (fun a w _ => by simp [Act.eval]) hr
theorem made_zeros1 (n : Nat) : (madeCells (Value.int .u8 0).cells (n * 1)).toList = (List.replicate n 0).map bv := by
  rw [Nat.mul_one]
  simp only [madeCells, Value.cells, bv, List.map_replicate]
  refine List.eq_replicate_iff.2 ⟨by simp, fun b hb => ?_⟩
  simp only [Array.toList_map, Array.toList_range, List.mem_map] at hb
  obtain ⟨x, _, rfl⟩ := hb
  show #[Value.int .u8 0][x % 1]! = Value.int .u8 ((0 : Nat) : Int)
  rw [Nat.mod_one]; rfl
theorem infoU8s : (Try.prog.info? 5).map (fun i => (i.zero, i.size, i.bytes)) = some (some (.int .u8 0), 1, 1) := by kernel_rfl
theorem infoBs : (Try.prog.info? 30).map (fun i => (i.zero, i.size, i.bytes)) = some (some (.slice none 0 0), 1, 24) := by kernel_rfl
theorem run_makeZ {P : Program} {t e : TypeId} (n : Nat) (hn : n ≤ 1000000) (ht : P.underlying t = some (.slice e)) (hi : (P.info? e).map (fun i => (i.zero, i.size, i.bytes)) = some (some (.int .u8 0), 1, 1)) (w : World) :
    (Instr.makeSlice t (.int .i64 (n : Int)) (.int .i64 (n : Int))).run P w = .ok (.slice (some ⟨w.heap.size, 0, none⟩) n n) (w.alloc (.cells ((List.replicate n 0).map bv).toArray e)) := by
  obtain ⟨i, h1, h2, h3, h4⟩ := info_parts hi
  have h := run_make (P := P) w t e i _ ht h1 h2 .i64 .i64 (n : Int) (n : Int) (by omega) (Int.le_refl _) (by rw [h4]; omega) (by omega)
  rw [Int.toNat_natCast, h3] at h
  rw [h]
  congr 3
  exact Array.toList_inj.1 (by rw [made_zeros1])
theorem cMakeZ {w0 : World} {Γ : Ctx} {o : Oper} {n : Nat} (ho : o.op = .makeSlice 30 (.const (.int .i64 (n : Int))) (.const (.int .i64 (n : Int)))) (hn : n ≤ 1000000) : OpOk Try.prog w0 Γ o (Ty.sl 5 n ((List.replicate n 0).map bv)) :=
  .new fun a w hb hs => by
    refine ⟨.slice (some ⟨w.heap.size, 0, none⟩) n n, w.alloc (.cells ((List.replicate n 0).map bv).toArray 5), ?_, ((Keeps.refl [] w).alloc _).below, ?_⟩
    · have h := Seg.ofBlk (w := w.alloc (.cells ((List.replicate n 0).map bv).toArray 5)) (sz := 1) (cap := n) (Blk.new w 5 ((List.replicate n 0).map bv).toArray) (by simp) (by simp [maxLen]; omega)
      have h := h.sl
      rw [List.toList_toArray] at h
      exact h
    · unfold execOp
      simp [ho, Act.eval, run_makeZ n hn Try.underlying30 infoU8s]
theorem sum_at {w : World} {g : Nat} {x : Sm} (h : Blk w g 24 (Value.agg (u8s x.l)).cells) : (Ty.at_ 24 x.enc).p w (.pointer (some ⟨g, 0, none⟩)) := by
  have h := blk_at h
  rwa [show (Value.agg (u8s x.l)).cells.toList = x.enc from u8s_list _] at h
set_option maxRecDepth 100000 in
set_option maxHeartbeats 4000000 in
theorem lawSumKnown_any (W : World) : Calls Try.prog 3 #[] W fun e w' => e = .returned (.bool true) ∧ Below W.heap.size W w' := by
  have hO0 := sumOf0_ty
  have hT := text_ty (shaS [])
  have hPa := parse_ty tE (shaS []) true tE_l tE_ok
  have hT64 := tE_size
  have hTs := tE_str
  have hbad := bad_all
  rw [show strB (hexS (shaS []).l) = tE from rfl] at hT
  generalize tE = T at *
  generalize shaS [] = E at *
  have hbad : ∀ k, k < 6 → parseOk (sB ((badS T).getD k { data := #[] })) = false := fun k hk => by
    have h := List.all_eq_true.1 hbad ((badS T)[k]'hk) (List.getElem_mem _)
    rw [show (badS T).getD k { data := #[] } = (badS T)[k]'hk by rw [List.getD_eq_getElem?_getD, List.getElem?_eq_getElem (show k < (badS T).length from hk)]; rfl]
    simpa using h
  have hO56 := sumOf1_ty (e := 30) (τ := Ty.sl 5 56 ((List.replicate 56 0).map bv)) (List.replicate 56 0) (reads_sl _ _ _) (by simp) (by simp)
  have hO551 := sumOf2_ty (e := 30) (τ := Ty.sl 5 55 ((List.replicate 55 0).map bv)) (σ := Ty.sl 5 1 ((List.replicate 1 0).map bv)) (List.replicate 55 0) (List.replicate 1 0) (reads_sl _ _ _) (reads_sl _ _ _) (by simp) (by simp) (by simp)
  rw [List.replicate_append_replicate] at hO551
  have e56 : shaL (List.replicate 56 0) = (shaS (List.replicate 56 0)).l := rfl
  rw [e56] at hO56
  rw [show 55 + 1 = 56 from rfl, e56] at hO551
  generalize shaS (List.replicate 56 0) = L6 at *
  clear e56
  have hO2 := sumOf2_ty (e := 30) (τ := Ty.sl 5 1 [bv 97]) (σ := Ty.sl 5 2 [bv 98, bv 99]) [97] [98, 99] (reads_sl _ _ _) (reads_sl _ _ _) (by simp) (by simp) (by simp)
  have hO3 := sumOf1_ty (e := 30) (τ := Ty.sl 5 3 [bv 97, bv 98, bv 99]) [97, 98, 99] (reads_sl _ _ _) (by simp) (by simp)
  have e3 : shaL [97, 98, 99] = (shaS [97, 98, 99]).l := rfl
  rw [e3] at hO3
  rw [show [97] ++ [98, 99] = [97, 98, 99] from rfl, e3] at hO2
  generalize shaS [97, 98, 99] = C3 at *
  clear e3
  have hZ := zeroS_ty Sm.zero true (decide_eq_true rfl)
  have hZx := zeroS_ty (wS.xor wS) true xorWW
  have hZw := zeroS_ty wS false notW
  have hW0 := word1_ty wS 0 _ wrd0
  have hW1 := word1_ty wS 1 _ wrd1
  have hW4 := word1_ty wS 4 _ wrd4
  have hWm := word1_ty wS (-1) _ wrdm
  have hXX := xorS_ty wS wS
  have hC1 := cmpS_ty wS xS _ cmpWX
  have hC2 := cmpS_ty yS wS _ cmpYW
  have hC0 := cmpS_ty wS wS _ cmpWW
  have bW := buildW
  have bX := buildX
  have bY := buildY
  generalize wS.xor wS = V at *
  generalize wS = V9 at *
  generalize xS = VX at *
  generalize yS = VY at *
  refine enter_ty 140 [] Try.func3 rfl (by kernel_rfl) trivial fun a hF => ?_
  have hB := Below.refl W.heap.size W
  repeat with_reducible first | refine wp_seq ?_ | refine nThen ?_ | refine nBlk ?_ | refine wp_skip ?_ | refine wp_block ?_ | refine wp_exit ?_ | refine xThen ?_ | refine xHere ?_ | refine wp_ret ?_
  refine' reg_all hF ?_ mixed (by kernel_rfl) ?_
  rotate_left
  · repeat (first
        | exact Line.nil
        | ((first | refine' Line.cons rfl (.run rfl rfl ?_) ?_ | refine' Line.cons rfl (.yes rfl rfl rfl rfl ?_) ?_)
           any_goals (first | exact cMove rfl rfl | exact cAssign rfl rfl | exact cNot rfl rfl | exact cPickT rfl rfl rfl | exact cPickF rfl rfl rfl | exact cLss rfl rfl rfl | exact cEql rfl rfl rfl | exact cExtract rfl rfl rfl)
           rotate_left))
  intro a w1 hF hb hN
  have hBs := hB.size
  replace hB := hB.trans (hb.mono hB.size)
  dsimp only [ext, Option.getD] at hF
  repeat with_reducible first | refine wp_seq ?_ | refine nThen ?_ | refine nBlk ?_ | refine wp_skip ?_ | refine wp_block ?_ | refine wp_exit ?_ | refine xThen ?_ | refine xHere ?_ | refine wp_ret ?_
  refine' reg_all hF ?_ mixed (by kernel_rfl) ?_
  rotate_left
  · repeat (first
        | exact Line.nil
        | ((first | refine' Line.cons rfl (.run rfl rfl ?_) ?_ | refine' Line.cons rfl (.yes rfl rfl rfl rfl ?_) ?_)
           any_goals (first | exact cMove rfl rfl | exact cAssign rfl rfl | exact cNot rfl rfl | exact cCall0 rfl awake1_ty | exact cPickT rfl rfl rfl | exact cPickF rfl rfl rfl | exact cLss rfl rfl rfl | exact cEql rfl rfl rfl | exact cExtract rfl rfl rfl)
           rotate_left))
  intro a w2 hF hb hN
  have hBs := hB.size
  replace hB := hB.trans (hb.mono hB.size)
  dsimp only [ext, Option.getD] at hF
  repeat with_reducible first | refine wp_seq ?_ | refine nThen ?_ | refine nBlk ?_ | refine wp_skip ?_ | refine wp_block ?_ | refine wp_exit ?_ | refine xThen ?_ | refine xHere ?_ | refine wp_ret ?_
  refine cond_f hF rfl ?_
  replace hF := hF.nil
  repeat with_reducible first | refine wp_seq ?_ | refine nThen ?_ | refine nBlk ?_ | refine wp_skip ?_ | refine wp_block ?_ | refine wp_exit ?_ | refine xThen ?_ | refine xHere ?_ | refine wp_ret ?_
  have hw2 := hB.size
  refine' region_ty 2 mixed (by kernel_rfl) hF ?_ ?_
  rotate_left
  · simp only [List.take_succ_cons, List.take_zero]
    repeat (first
        | exact Line.nil
        | (refine' Line.cons rfl (.new rfl rfl (run_alloc_i infoS) rfl) ?_; rotate_left)
        | ((first | refine' Line.cons rfl (.run rfl rfl ?_) ?_ | refine' Line.cons rfl (.yes rfl rfl rfl rfl ?_) ?_)
           any_goals (first | exact cMove rfl rfl | exact cAssign rfl rfl | exact cNot rfl rfl | exact cCallH1 rfl (.t rfl) hO0 | exact cPickT rfl rfl rfl | exact cPickF rfl rfl rfl | exact cLss rfl rfl rfl | exact cEql rfl rfl rfl | exact cExtract rfl rfl rfl)
           rotate_left))
  intro a w3 hF hb hN
  have hBs := hB.size
  replace hB := hB.trans (hb.mono hB.size)
  simp only [List.take_succ_cons, List.take_zero, List.drop_succ_cons, List.drop_zero] at hF hN ⊢
  dsimp only [ext, Option.getD] at hF
  obtain ⟨p1, ⟨g1, rfl, hg1, hb1⟩, hF⟩ := hF.open (s := 1) rfl
  refine tlStoreV (Δ := [(1, Ty.ex (.pointer (some ⟨g1, 0, none⟩)))]) hF rfl rfl rfl rfl (hF.getEx (s := 12) rfl) hb1 (by show (u8s _).size = (u8s _).size; rw [u8s_size, u8s_size, Sm.len]; rfl) (by show _ = some (u8s _).size; rw [u8s_size, Sm.len]; exact sizeS) (u8s_one _) (hF.keep [1]) rfl ?_
  intro w4 hF hb1 hk1
  refine wpList_nil ?_
  replace hB := below_own hB hk1 (by intro y hy; simp only [List.mem_singleton] at hy; omega)
  have k1 := sum_at hb1
  clear hb1
  have hB0 := hB
  have hzw4 := hB0.size
  replace hB := Below.refl w4.heap.size w4
  repeat with_reducible first | refine wp_seq ?_ | refine nThen ?_ | refine nBlk ?_ | refine wp_skip ?_ | refine wp_block ?_ | refine wp_exit ?_ | refine xThen ?_ | refine xHere ?_ | refine wp_ret ?_
  refine wp_region_lit ?_
  refine' tlOp hF rfl rfl rfl ?_ ?_
  rotate_left
  · first | exact cLoadSum rfl (.l rfl k1) Try.underlying24 sizeS | exact cMove rfl rfl | exact cAssign rfl rfl | exact cPickT rfl rfl rfl | exact cPickF rfl rfl rfl | exact cNot rfl rfl | exact cLss rfl rfl rfl | exact cEql rfl rfl rfl | exact cExtract rfl rfl rfl
  intro a w5 hF hb
  have hBs := hB.size
  replace hB := hB.trans (hb.mono hB.size)
  try (refine wpList_nil ?_)
  repeat with_reducible first | refine wp_seq ?_ | refine nThen ?_ | refine nBlk ?_ | refine wp_skip ?_ | refine wp_block ?_ | refine wp_exit ?_ | refine xThen ?_ | refine xHere ?_ | refine wp_ret ?_
  refine' tlOp hF rfl rfl rfl ?_ ?_
  rotate_left
  · first | exact cCall1 rfl rfl hT | exact cMove rfl rfl | exact cAssign rfl rfl | exact cPickT rfl rfl rfl | exact cPickF rfl rfl rfl | exact cNot rfl rfl | exact cLss rfl rfl rfl | exact cEql rfl rfl rfl | exact cExtract rfl rfl rfl
  intro a w6 hF hb
  have hBs := hB.size
  replace hB := hB.trans (hb.mono hB.size)
  try (refine wpList_nil ?_)
  repeat with_reducible first | refine wp_seq ?_ | refine nThen ?_ | refine nBlk ?_ | refine wp_skip ?_ | refine wp_block ?_ | refine wp_exit ?_ | refine xThen ?_ | refine xHere ?_ | refine wp_ret ?_
  refine' tlOp hF rfl rfl rfl ?_ ?_
  rotate_left
  · first | exact cCall1 rfl rfl hPa | exact cMove rfl rfl | exact cAssign rfl rfl | exact cPickT rfl rfl rfl | exact cPickF rfl rfl rfl | exact cNot rfl rfl | exact cLss rfl rfl rfl | exact cEql rfl rfl rfl | exact cExtract rfl rfl rfl
  intro a w7 hF hb
  have hBs := hB.size
  replace hB := hB.trans (hb.mono hB.size)
  try (refine wpList_nil ?_)
  repeat with_reducible first | refine wp_seq ?_ | refine nThen ?_ | refine nBlk ?_ | refine wp_skip ?_ | refine wp_block ?_ | refine wp_exit ?_ | refine xThen ?_ | refine xHere ?_ | refine wp_ret ?_
  refine' tlOp hF rfl rfl rfl ?_ ?_
  rotate_left
  · first | exact cMove rfl rfl | exact cAssign rfl rfl | exact cPickT rfl rfl rfl | exact cPickF rfl rfl rfl | exact cNot rfl rfl | exact cLss rfl rfl rfl | exact cEql rfl rfl rfl | exact cExtract rfl rfl rfl
  intro a w8 hF hb
  have hBs := hB.size
  replace hB := hB.trans (hb.mono hB.size)
  try (refine wpList_nil ?_)
  repeat with_reducible first | refine wp_seq ?_ | refine nThen ?_ | refine nBlk ?_ | refine wp_skip ?_ | refine wp_block ?_ | refine wp_exit ?_ | refine xThen ?_ | refine xHere ?_ | refine wp_ret ?_
  refine' tlOp hF rfl rfl rfl ?_ ?_
  rotate_left
  · first | exact cMove rfl rfl | exact cAssign rfl rfl | exact cPickT rfl rfl rfl | exact cPickF rfl rfl rfl | exact cNot rfl rfl | exact cLss rfl rfl rfl | exact cEql rfl rfl rfl | exact cExtract rfl rfl rfl
  intro a w9 hF hb
  have hBs := hB.size
  replace hB := hB.trans (hb.mono hB.size)
  try (refine wpList_nil ?_)
  repeat with_reducible first | refine wp_seq ?_ | refine nThen ?_ | refine nBlk ?_ | refine wp_skip ?_ | refine wp_block ?_ | refine wp_exit ?_ | refine xThen ?_ | refine xHere ?_ | refine wp_ret ?_
  refine' tlOp hF rfl rfl rfl ?_ ?_
  rotate_left
  · first | exact cMove rfl rfl | exact cAssign rfl rfl | exact cPickT rfl rfl rfl | exact cPickF rfl rfl rfl | exact cNot rfl rfl | exact cLss rfl rfl rfl | exact cEql rfl rfl rfl | exact cExtract rfl rfl rfl
  intro a w10 hF hb
  have hBs := hB.size
  replace hB := hB.trans (hb.mono hB.size)
  try (refine wpList_nil ?_)
  repeat with_reducible first | refine wp_seq ?_ | refine nThen ?_ | refine nBlk ?_ | refine wp_skip ?_ | refine wp_block ?_ | refine wp_exit ?_ | refine xThen ?_ | refine xHere ?_ | refine wp_ret ?_
  have hw10 := hB.size
  refine' tlOp hF rfl rfl rfl ?_ ?_
  rotate_left
  · first | exact cAllocS rfl (run_alloc_i infoS) | exact cMove rfl rfl | exact cAssign rfl rfl | exact cPickT rfl rfl rfl | exact cPickF rfl rfl rfl | exact cNot rfl rfl | exact cLss rfl rfl rfl | exact cEql rfl rfl rfl | exact cExtract rfl rfl rfl
  intro a w11 hF hb
  have hBs := hB.size
  replace hB := hB.trans (hb.mono hB.size)
  try (refine wpList_nil ?_)
  repeat with_reducible first | refine wp_seq ?_ | refine nThen ?_ | refine nBlk ?_ | refine wp_skip ?_ | refine wp_block ?_ | refine wp_exit ?_ | refine xThen ?_ | refine xHere ?_ | refine wp_ret ?_
  obtain ⟨p2, ⟨g2, rfl, hg2, hb2⟩, hF⟩ := hF.open (s := 2) rfl
  refine tlStoreV (Δ := [(1, Ty.ex (.pointer (some ⟨g1, 0, none⟩))), (2, Ty.ex (.pointer (some ⟨g2, 0, none⟩))), (18, Ty.ex (.bool true))]) hF rfl rfl rfl rfl (hF.getEx (s := 17) rfl) hb2 (by show (u8s _).size = (u8s _).size; rw [u8s_size, u8s_size, Sm.len]; rfl) (by show _ = some (u8s _).size; rw [u8s_size, Sm.len]; exact sizeS) (u8s_one _) (hF.keep [1, 2, 18]) rfl ?_
  intro w12 hF hb2 hk2
  replace hB := below_own hB hk2 (by intro y hy; simp only [List.mem_singleton] at hy; omega)
  have k2 := sum_at hb2
  clear hb2
  replace k1 := (Ty.at_ 24 _).below k1 hB
  replace hB0 := hB0.trans (hB.mono hzw4)
  have hzw12 := hB0.size
  replace hB := Below.refl w12.heap.size w12
  refine' tlOp hF rfl rfl rfl ?_ ?_
  rotate_left
  · first | exact cMove rfl rfl | exact cAssign rfl rfl | exact cPickT rfl rfl rfl | exact cPickF rfl rfl rfl | exact cNot rfl rfl | exact cLss rfl rfl rfl | exact cEql rfl rfl rfl | exact cExtract rfl rfl rfl
  intro a w13 hF hb
  have hBs := hB.size
  replace hB := hB.trans (hb.mono hB.size)
  try (refine wpList_nil ?_)
  repeat with_reducible first | refine wp_seq ?_ | refine nThen ?_ | refine nBlk ?_ | refine wp_skip ?_ | refine wp_block ?_ | refine wp_exit ?_ | refine xThen ?_ | refine xHere ?_ | refine wp_ret ?_
  replace hF := hF.keep [1, 2, 3]
  have k1r := (Ty.at_ 24 _).below k1 hB
  refine' reg_all hF ?_ mixed (by kernel_rfl) ?_
  rotate_left
  · repeat (first
        | exact Line.nil
        | ((first | refine' Line.cons rfl (.run rfl rfl ?_) ?_ | refine' Line.cons rfl (.yes rfl rfl rfl rfl ?_) ?_)
           any_goals (first | exact cMove rfl rfl | exact cAssign rfl rfl | exact cNot rfl rfl | exact cLoadSum rfl (.l rfl k1r) Try.underlying24 sizeS | exact cCall1 rfl rfl hT | exact cAddStr rfl rfl rfl (by first | decide | (rw [ByteArray.size_extract]; omega) | omega) (by first | decide | (rw [ByteArray.size_extract]; omega) | omega) | exact cStrLo (k := 2) rfl rfl rfl Try.underlying9 (by omega) | exact cStrHi (k := 63) rfl rfl rfl Try.underlying9 (by omega) | exact cBuildV (vs := (badS T).map .string) rfl (parts6s rfl rfl rfl rfl rfl) Try.underlying29 infoStr rfl (by simp [badS, Value.cells]) (by decide) (by simp [maxLen]) | exact cPickT rfl rfl rfl | exact cPickF rfl rfl rfl | exact cLss rfl rfl rfl | exact cEql rfl rfl rfl | exact cExtract rfl rfl rfl)
           rotate_left))
  intro a w14 hF hb hN
  have hBs := hB.size
  replace hB := hB.trans (hb.mono hB.size)
  dsimp only [ext, Option.getD] at hF
  repeat with_reducible first | refine wp_seq ?_ | refine nThen ?_ | refine nBlk ?_ | refine wp_skip ?_ | refine wp_block ?_ | refine wp_exit ?_ | refine xThen ?_ | refine xHere ?_ | refine wp_ret ?_
  replace hF := hF.keep [1, 2, 3, 4]
  have eflat : (((badS T).map Value.string).map fun v => v.cells.toList).flatten = (badS T).map Value.string := by simp [badS, Value.cells]
  rw [eflat] at hF
  clear eflat
  have hbl : (badS T).length = 6 := rfl
  generalize badS T = Bs at *
  repeat with_reducible first | refine wp_seq ?_ | refine nThen ?_ | refine nBlk ?_ | refine wp_skip ?_ | refine wp_block ?_ | refine wp_exit ?_ | refine xThen ?_ | refine xHere ?_ | refine wp_ret ?_
  refine' reg_all hF ?_ mixed (by kernel_rfl) ?_
  rotate_left
  · repeat (first
        | exact Line.nil
        | ((first | refine' Line.cons rfl (.run rfl rfl ?_) ?_ | refine' Line.cons rfl (.yes rfl rfl rfl rfl ?_) ?_)
           any_goals (first | exact cMove rfl rfl | exact cAssign rfl rfl | exact cNot rfl rfl | exact cPickT rfl rfl rfl | exact cPickF rfl rfl rfl | exact cLss rfl rfl rfl | exact cEql rfl rfl rfl | exact cExtract rfl rfl rfl)
           rotate_left))
  intro a w15 hF hb hN
  have hBs := hB.size
  replace hB := hB.trans (hb.mono hB.size)
  dsimp only [ext, Option.getD] at hF
  repeat with_reducible first | refine wp_seq ?_ | refine nThen ?_ | refine nBlk ?_ | refine wp_skip ?_ | refine wp_block ?_ | refine wp_exit ?_ | refine xThen ?_ | refine xHere ?_ | refine wp_ret ?_
  obtain ⟨v4, k4, hF⟩ := hF.open (s := 4) rfl
  replace k1 := (Ty.at_ 24 _).below k1 hB
  replace k2 := (Ty.at_ 24 _).below k2 hB
  replace hB0 := hB0.trans (hB.mono hzw12)
  have hzw15 := hB0.size
  replace hB := Below.refl w15.heap.size w15
  let TB := Ty.sl StT 6 (Bs.map Value.string)
  have k4 : TB.p w15 v4 := k4
  refine loop_ty (fun m a wr => ∃ (k : Nat), k + m = 6 ∧ Fr 140 [(1, Ty.ex (.pointer (some ⟨g1, 0, none⟩))), (2, Ty.ex (.pointer (some ⟨g2, 0, none⟩))), (3, Ty.ex (.bool true)), (4, Ty.ex v4), (5, Ty.ex (.int .i64 (k : Int)))] a wr ∧ Below w15.heap.size w15 wr) 6 ?_ ?_
  · exact ⟨0, by omega, hF.keep [1, 2, 3, 4, 5], hB⟩
  clear hF hB
  rintro m a wr ⟨k, hk, hF, hB⟩
  have k4r := TB.below k4 hB
  repeat with_reducible first | refine wp_seq ?_ | refine nThen ?_ | refine nBlk ?_ | refine wp_skip ?_ | refine wp_block ?_ | refine wp_exit ?_ | refine xThen ?_ | refine xHere ?_ | refine wp_ret ?_
  refine' reg_all hF ?_ mixed (by kernel_rfl) ?_
  rotate_left
  · repeat (first
        | exact Line.nil
        | ((first | refine' Line.cons rfl (.run rfl rfl ?_) ?_ | refine' Line.cons rfl (.yes rfl rfl rfl rfl ?_) ?_)
           any_goals (first | exact cMove rfl rfl | exact cAssign rfl rfl | exact cNot rfl rfl | exact cLenH rfl (.l rfl k4r) (Ty.sl_isSl _ _ _) Try.underlying29 | exact cPickT rfl rfl rfl | exact cPickF rfl rfl rfl | exact cLss rfl rfl rfl | exact cEql rfl rfl rfl | exact cExtract rfl rfl rfl)
           rotate_left))
  intro a w16 hF hb hN
  have hBs := hB.size
  replace hB := hB.trans (hb.mono hB.size)
  dsimp only [ext, Option.getD] at hF
  repeat with_reducible first | refine wp_seq ?_ | refine nThen ?_ | refine nBlk ?_ | refine wp_skip ?_ | refine wp_block ?_ | refine wp_exit ?_ | refine xThen ?_ | refine xHere ?_ | refine wp_ret ?_
  refine cond_ty hF rfl (fun hlt => ?_) (fun hge => ?_)
  · have hlt : k < 6 := by have := of_decide_eq_true hlt; omega
    have hok := hbad k hlt
    have hvd : (Bs.map Value.string).drop (k * 1) = Value.string (Bs.getD k { data := #[] }) :: (Bs.map Value.string).drop (k + 1) := by
      have hl : k < (Bs.map Value.string).length := by rw [List.length_map, hbl]; exact hlt
      rw [Nat.mul_one, List.drop_eq_getElem_cons hl]
      simp [List.getD, List.getElem?_eq_getElem (show k < Bs.length by omega)]
    have hPb := parse_ty (Bs.getD k { data := #[] }) Sm.zero false (bad_zero hok) hok
    generalize Bs.getD k { data := #[] } = sb at *
    have k4r := TB.below k4 hB
    repeat with_reducible first | refine wp_seq ?_ | refine nThen ?_ | refine nBlk ?_ | refine wp_skip ?_ | refine wp_block ?_ | refine wp_exit ?_ | refine xThen ?_ | refine xHere ?_ | refine wp_ret ?_
    refine wp_region_lit ?_
    refine' tlOp hF rfl rfl rfl ?_ ?_
    rotate_left
    · first | exact cMove rfl rfl | exact cAssign rfl rfl | exact cPickT rfl rfl rfl | exact cPickF rfl rfl rfl | exact cNot rfl rfl | exact cLss rfl rfl rfl | exact cEql rfl rfl rfl | exact cExtract rfl rfl rfl
    intro a x0 hF hb
    have hBs := hB.size
    replace hB := hB.trans (hb.mono hB.size)
    try (refine wpList_nil ?_)
    repeat with_reducible first | refine wp_seq ?_ | refine nThen ?_ | refine nBlk ?_ | refine wp_skip ?_ | refine wp_block ?_ | refine wp_exit ?_ | refine xThen ?_ | refine xHere ?_ | refine wp_ret ?_
    refine' tlOp hF rfl rfl rfl ?_ ?_
    rotate_left
    · first | exact cMove rfl rfl | exact cAssign rfl rfl | exact cPickT rfl rfl rfl | exact cPickF rfl rfl rfl | exact cNot rfl rfl | exact cLss rfl rfl rfl | exact cEql rfl rfl rfl | exact cExtract rfl rfl rfl
    intro a x1 hF hb
    have hBs := hB.size
    replace hB := hB.trans (hb.mono hB.size)
    try (refine wpList_nil ?_)
    repeat with_reducible first | refine wp_seq ?_ | refine nThen ?_ | refine nBlk ?_ | refine wp_skip ?_ | refine wp_block ?_ | refine wp_exit ?_ | refine xThen ?_ | refine xHere ?_ | refine wp_ret ?_
    replace k4r := TB.below k4 hB
    refine' tlOp hF rfl rfl rfl ?_ ?_
    rotate_left
    · first | exact cIndexS (k := k) (sz := 1) rfl (.l rfl k4r) rfl Try.underlying29 sizeStr hlt (by rw [Nat.mul_one, List.length_map, hbl]; exact hlt) | exact cMove rfl rfl | exact cAssign rfl rfl | exact cPickT rfl rfl rfl | exact cPickF rfl rfl rfl | exact cNot rfl rfl | exact cLss rfl rfl rfl | exact cEql rfl rfl rfl | exact cExtract rfl rfl rfl
    intro a x2 hF hb
    have hBs := hB.size
    replace hB := hB.trans (hb.mono hB.size)
    try (refine wpList_nil ?_)
    repeat with_reducible first | refine wp_seq ?_ | refine nThen ?_ | refine nBlk ?_ | refine wp_skip ?_ | refine wp_block ?_ | refine wp_exit ?_ | refine xThen ?_ | refine xHere ?_ | refine wp_ret ?_
    refine' tlOp hF rfl rfl rfl ?_ ?_
    rotate_left
    · first | exact cLoad1 rfl (Has.c (.t rfl) (fun W v h => by rw [hvd] at h; exact h)) (pts_at _ _) Try.underlying9 rfl | exact cMove rfl rfl | exact cAssign rfl rfl | exact cPickT rfl rfl rfl | exact cPickF rfl rfl rfl | exact cNot rfl rfl | exact cLss rfl rfl rfl | exact cEql rfl rfl rfl | exact cExtract rfl rfl rfl
    intro a x3 hF hb
    have hBs := hB.size
    replace hB := hB.trans (hb.mono hB.size)
    try (refine wpList_nil ?_)
    repeat with_reducible first | refine wp_seq ?_ | refine nThen ?_ | refine nBlk ?_ | refine wp_skip ?_ | refine wp_block ?_ | refine wp_exit ?_ | refine xThen ?_ | refine xHere ?_ | refine wp_ret ?_
    refine' tlOp hF rfl rfl rfl ?_ ?_
    rotate_left
    · first | exact cCall1 rfl rfl hPb | exact cMove rfl rfl | exact cAssign rfl rfl | exact cPickT rfl rfl rfl | exact cPickF rfl rfl rfl | exact cNot rfl rfl | exact cLss rfl rfl rfl | exact cEql rfl rfl rfl | exact cExtract rfl rfl rfl
    intro a x4 hF hb
    have hBs := hB.size
    replace hB := hB.trans (hb.mono hB.size)
    try (refine wpList_nil ?_)
    repeat with_reducible first | refine wp_seq ?_ | refine nThen ?_ | refine nBlk ?_ | refine wp_skip ?_ | refine wp_block ?_ | refine wp_exit ?_ | refine xThen ?_ | refine xHere ?_ | refine wp_ret ?_
    refine' tlOp hF rfl rfl rfl ?_ ?_
    rotate_left
    · first | exact cMove rfl rfl | exact cAssign rfl rfl | exact cPickT rfl rfl rfl | exact cPickF rfl rfl rfl | exact cNot rfl rfl | exact cLss rfl rfl rfl | exact cEql rfl rfl rfl | exact cExtract rfl rfl rfl
    intro a x5 hF hb
    have hBs := hB.size
    replace hB := hB.trans (hb.mono hB.size)
    try (refine wpList_nil ?_)
    repeat with_reducible first | refine wp_seq ?_ | refine nThen ?_ | refine nBlk ?_ | refine wp_skip ?_ | refine wp_block ?_ | refine wp_exit ?_ | refine xThen ?_ | refine xHere ?_ | refine wp_ret ?_
    refine' tlOp hF rfl rfl rfl ?_ ?_
    rotate_left
    · first | exact cMove rfl rfl | exact cAssign rfl rfl | exact cPickT rfl rfl rfl | exact cPickF rfl rfl rfl | exact cNot rfl rfl | exact cLss rfl rfl rfl | exact cEql rfl rfl rfl | exact cExtract rfl rfl rfl
    intro a x6 hF hb
    have hBs := hB.size
    replace hB := hB.trans (hb.mono hB.size)
    try (refine wpList_nil ?_)
    repeat with_reducible first | refine wp_seq ?_ | refine nThen ?_ | refine nBlk ?_ | refine wp_skip ?_ | refine wp_block ?_ | refine wp_exit ?_ | refine xThen ?_ | refine xHere ?_ | refine wp_ret ?_
    refine' tlOp hF rfl rfl rfl ?_ ?_
    rotate_left
    · first | exact cMove rfl rfl | exact cAssign rfl rfl | exact cPickT rfl rfl rfl | exact cPickF rfl rfl rfl | exact cNot rfl rfl | exact cLss rfl rfl rfl | exact cEql rfl rfl rfl | exact cExtract rfl rfl rfl
    intro a x7 hF hb
    have hBs := hB.size
    replace hB := hB.trans (hb.mono hB.size)
    try (refine wpList_nil ?_)
    repeat with_reducible first | refine wp_seq ?_ | refine nThen ?_ | refine nBlk ?_ | refine wp_skip ?_ | refine wp_block ?_ | refine wp_exit ?_ | refine xThen ?_ | refine xHere ?_ | refine wp_ret ?_
    have hx7 := hB.size
    refine' tlOp hF rfl rfl rfl ?_ ?_
    rotate_left
    · first | exact cAllocS rfl (run_alloc_i infoS) | exact cMove rfl rfl | exact cAssign rfl rfl | exact cPickT rfl rfl rfl | exact cPickF rfl rfl rfl | exact cNot rfl rfl | exact cLss rfl rfl rfl | exact cEql rfl rfl rfl | exact cExtract rfl rfl rfl
    intro a x8 hF hb
    have hBs := hB.size
    replace hB := hB.trans (hb.mono hB.size)
    try (refine wpList_nil ?_)
    repeat with_reducible first | refine wp_seq ?_ | refine nThen ?_ | refine nBlk ?_ | refine wp_skip ?_ | refine wp_block ?_ | refine wp_exit ?_ | refine xThen ?_ | refine xHere ?_ | refine wp_ret ?_
    obtain ⟨p6, ⟨g6, rfl, hg6, hb6⟩, hF⟩ := hF.open (s := 6) rfl
    refine tlStoreV (Δ := [(1, Ty.ex (.pointer (some ⟨g1, 0, none⟩))), (2, Ty.ex (.pointer (some ⟨g2, 0, none⟩))), (3, Ty.ex (.bool true)), (4, Ty.ex v4), (5, Ty.ex (.int .i64 (k : Int))), (6, Ty.ex (.pointer (some ⟨g6, 0, none⟩))), (48, Ty.ex (.bool false))]) hF rfl rfl rfl rfl (hF.getEx (s := 47) rfl) hb6 (by show (u8s _).size = (u8s _).size; rw [u8s_size, u8s_size, Sm.len]; rfl) (by show _ = some (u8s _).size; rw [u8s_size, Sm.len]; exact sizeS) (u8s_one _) (hF.keep [1, 2, 3, 4, 5, 6, 48]) rfl ?_
    intro x9 hF hb6 hk6
    replace hB := below_own hB hk6 (by intro y hy; simp only [List.mem_singleton] at hy; omega)
    have k6 := sum_at hb6
    clear hb6
    refine' tlOp hF rfl rfl rfl ?_ ?_
    rotate_left
    · first | exact cMove rfl rfl | exact cAssign rfl rfl | exact cPickT rfl rfl rfl | exact cPickF rfl rfl rfl | exact cNot rfl rfl | exact cLss rfl rfl rfl | exact cEql rfl rfl rfl | exact cExtract rfl rfl rfl
    intro a x10 hF hb
    have hBs := hB.size
    replace hB := hB.trans (hb.mono hB.size)
    try (refine wpList_nil ?_)
    repeat with_reducible first | refine wp_seq ?_ | refine nThen ?_ | refine nBlk ?_ | refine wp_skip ?_ | refine wp_block ?_ | refine wp_exit ?_ | refine xThen ?_ | refine xHere ?_ | refine wp_ret ?_
    replace k6 := (Ty.at_ 24 _).below k6 hb
    repeat with_reducible first | refine wp_seq ?_ | refine nThen ?_ | refine nBlk ?_ | refine wp_skip ?_ | refine wp_block ?_ | refine wp_exit ?_ | refine xThen ?_ | refine xHere ?_ | refine wp_ret ?_
    refine' reg_all hF ?_ mixed (by kernel_rfl) ?_
    rotate_left
    · repeat (first
          | exact Line.nil
          | ((first | refine' Line.cons rfl (.run rfl rfl ?_) ?_ | refine' Line.cons rfl (.yes rfl rfl rfl rfl ?_) ?_)
             any_goals (first | exact cMove rfl rfl | exact cAssign rfl rfl | exact cNot rfl rfl | exact cLoadSum rfl (.l rfl k6) Try.underlying24 sizeS | exact cCall1 rfl rfl hZ | exact cPickT rfl rfl rfl | exact cPickF rfl rfl rfl | exact cLss rfl rfl rfl | exact cEql rfl rfl rfl | exact cExtract rfl rfl rfl)
             rotate_left))
    intro a x11 hF hb hN
    have hBs := hB.size
    replace hB := hB.trans (hb.mono hB.size)
    dsimp only [ext, Option.getD] at hF
    repeat with_reducible first | refine wp_seq ?_ | refine nThen ?_ | refine nBlk ?_ | refine wp_skip ?_ | refine wp_block ?_ | refine wp_exit ?_ | refine xThen ?_ | refine xHere ?_ | refine wp_ret ?_
    refine cond_f hF rfl ?_
    repeat with_reducible first | refine wp_seq ?_ | refine nThen ?_ | refine nBlk ?_ | refine wp_skip ?_ | refine wp_block ?_ | refine wp_exit ?_ | refine xThen ?_ | refine xHere ?_ | refine wp_ret ?_
    refine' reg_all hF ?_ mixed (by kernel_rfl) ?_
    rotate_left
    · repeat (first
          | exact Line.nil
          | ((first | refine' Line.cons rfl (.run rfl rfl ?_) ?_ | refine' Line.cons rfl (.yes rfl rfl rfl rfl ?_) ?_)
             any_goals (first | exact cMove rfl rfl | exact cAssign rfl rfl | exact cNot rfl rfl | exact cAdd (r := ((k + 1 : Nat) : Int)) rfl rfl rfl (by omega) | exact cPickT rfl rfl rfl | exact cPickF rfl rfl rfl | exact cLss rfl rfl rfl | exact cEql rfl rfl rfl | exact cExtract rfl rfl rfl)
             rotate_left))
    intro a x12 hF hb hN
    have hBs := hB.size
    replace hB := hB.trans (hb.mono hB.size)
    dsimp only [ext, Option.getD] at hF
    repeat with_reducible first | refine wp_seq ?_ | refine nThen ?_ | refine nBlk ?_ | refine wp_skip ?_ | refine wp_block ?_ | refine wp_exit ?_ | refine xThen ?_ | refine xHere ?_ | refine wp_ret ?_
    exact ⟨m - 1, by omega, k + 1, by omega, hF.keep [1, 2, 3, 4, 5], hB⟩
  replace hF := hF.keep [1, 2, 3]
  have hw16 := hB.size
  repeat with_reducible first | refine wp_seq ?_ | refine nThen ?_ | refine nBlk ?_ | refine wp_skip ?_ | refine wp_block ?_ | refine wp_exit ?_ | refine xThen ?_ | refine xHere ?_ | refine wp_ret ?_
  refine' region_ty 5 mixed (by kernel_rfl) hF ?_ ?_
  rotate_left
  · simp only [List.take_succ_cons, List.take_zero]
    repeat (first
        | exact Line.nil
        | (refine' Line.cons rfl (.new rfl rfl (run_alloc_i infoS) rfl) ?_; rotate_left)
        | ((first | refine' Line.cons rfl (.run rfl rfl ?_) ?_ | refine' Line.cons rfl (.yes rfl rfl rfl rfl ?_) ?_)
           any_goals (first | exact cMove rfl rfl | exact cAssign rfl rfl | exact cNot rfl rfl | exact cMakeZ (n := 55) rfl (by decide) | exact cMakeZ (n := 1) rfl (by decide) | exact cBuildT (τs := [Ty.sl 5 55 ((List.replicate 55 0).map bv), Ty.sl 5 1 ((List.replicate 1 0).map bv)]) rfl (partsT2 rfl (.t rfl) (.t rfl) (Ty.sl_isSl _ _ _) (Ty.sl_isSl _ _ _)) Try.underlying35 infoBs rfl | exact cCall1 rfl rfl hO551 | exact cPickT rfl rfl rfl | exact cPickF rfl rfl rfl | exact cLss rfl rfl rfl | exact cEql rfl rfl rfl | exact cExtract rfl rfl rfl)
           rotate_left))
  intro a w17 hF hb hN
  have hBs := hB.size
  replace hB := hB.trans (hb.mono hB.size)
  simp only [List.take_succ_cons, List.take_zero, List.drop_succ_cons, List.drop_zero] at hF hN ⊢
  dsimp only [ext, Option.getD] at hF
  obtain ⟨p8, ⟨g8, rfl, hg8, hb8⟩, hF⟩ := hF.open (s := 8) rfl
  refine tlStoreV (Δ := [(1, Ty.ex (.pointer (some ⟨g1, 0, none⟩))), (2, Ty.ex (.pointer (some ⟨g2, 0, none⟩))), (3, Ty.ex (.bool true)), (8, Ty.ex (.pointer (some ⟨g8, 0, none⟩)))]) hF rfl rfl rfl rfl (hF.getEx (s := 58) rfl) hb8 (by show (u8s _).size = (u8s _).size; rw [u8s_size, u8s_size, Sm.len]; rfl) (by show _ = some (u8s _).size; rw [u8s_size, Sm.len]; exact sizeS) (u8s_one _) (hF.keep [1, 2, 3, 8]) rfl ?_
  intro w18 hF hb8 hk8
  refine wpList_nil ?_
  replace hB := below_own hB hk8 (by intro y hy; simp only [List.mem_singleton] at hy; omega)
  have k8 := sum_at hb8
  clear hb8
  replace k1 := (Ty.at_ 24 _).below k1 hB
  replace k2 := (Ty.at_ 24 _).below k2 hB
  replace hB0 := hB0.trans (hB.mono hzw15)
  have hzw18 := hB0.size
  replace hB := Below.refl w18.heap.size w18
  repeat with_reducible first | refine wp_seq ?_ | refine nThen ?_ | refine nBlk ?_ | refine wp_skip ?_ | refine wp_block ?_ | refine wp_exit ?_ | refine xThen ?_ | refine xHere ?_ | refine wp_ret ?_
  have hw18 := hB.size
  refine' region_ty 2 mixed (by kernel_rfl) hF ?_ ?_
  rotate_left
  · simp only [List.take_succ_cons, List.take_zero]
    repeat (first
        | exact Line.nil
        | (refine' Line.cons rfl (.new rfl rfl (run_alloc_i infoS) rfl) ?_; rotate_left)
        | ((first | refine' Line.cons rfl (.run rfl rfl ?_) ?_ | refine' Line.cons rfl (.yes rfl rfl rfl rfl ?_) ?_)
           any_goals (first | exact cMove rfl rfl | exact cAssign rfl rfl | exact cNot rfl rfl | exact cBuildP (vs := #[(0, .int .u8 1), (1, .int .u8 2), (2, .int .u8 0), (3, .int .u8 0), (4, .int .u8 0), (5, .int .u8 0), (6, .int .u8 0), (7, .int .u8 128), (8, .int .u8 3)]) rfl (fun a w _ => by simp [Act.eval]) bW | exact cPickT rfl rfl rfl | exact cPickF rfl rfl rfl | exact cLss rfl rfl rfl | exact cEql rfl rfl rfl | exact cExtract rfl rfl rfl)
           rotate_left))
  intro a w19 hF hb hN
  have hBs := hB.size
  replace hB := hB.trans (hb.mono hB.size)
  simp only [List.take_succ_cons, List.take_zero, List.drop_succ_cons, List.drop_zero] at hF hN ⊢
  dsimp only [ext, Option.getD] at hF
  obtain ⟨p9, ⟨g9, rfl, hg9, hb9⟩, hF⟩ := hF.open (s := 9) rfl
  refine tlStoreV (Δ := [(1, Ty.ex (.pointer (some ⟨g1, 0, none⟩))), (2, Ty.ex (.pointer (some ⟨g2, 0, none⟩))), (3, Ty.ex (.bool true)), (8, Ty.ex (.pointer (some ⟨g8, 0, none⟩))), (9, Ty.ex (.pointer (some ⟨g9, 0, none⟩)))]) hF rfl rfl rfl rfl (hF.getEx (s := 59) rfl) hb9 (by show (u8s _).size = (u8s _).size; rw [u8s_size, u8s_size, Sm.len]; rfl) (by show _ = some (u8s _).size; rw [u8s_size, Sm.len]; exact sizeS) (u8s_one _) (hF.keep [1, 2, 3, 8, 9]) rfl ?_
  intro w20 hF hb9 hk9
  refine wpList_nil ?_
  replace hB := below_own hB hk9 (by intro y hy; simp only [List.mem_singleton] at hy; omega)
  have k9 := sum_at hb9
  clear hb9
  replace k1 := (Ty.at_ 24 _).below k1 hB
  replace k2 := (Ty.at_ 24 _).below k2 hB
  replace k8 := (Ty.at_ 24 _).below k8 hB
  replace hB0 := hB0.trans (hB.mono hzw18)
  have hzw20 := hB0.size
  replace hB := Below.refl w20.heap.size w20
  repeat with_reducible first | refine wp_seq ?_ | refine nThen ?_ | refine nBlk ?_ | refine wp_skip ?_ | refine wp_block ?_ | refine wp_exit ?_ | refine xThen ?_ | refine xHere ?_ | refine wp_ret ?_
  refine' region_fz 81 mixed (by kernel_rfl) hF ?_ ?_
  rotate_left
  · simp only [List.append_eq, List.cons_append, List.nil_append, List.take_succ_cons, List.take_zero]
    repeat (first
      | exact LineF.nil
      | ((first | refine' LineF.cons rfl (.run rfl ?_) ?_ ?_ | refine' LineF.cons rfl (.yes rfl rfl rfl ?_) ?_ ?_)
         any_goals (first | exact OpF.of (cMove rfl rfl) | exact OpF.of (cAssign rfl rfl) | exact OpF.of (cNot rfl rfl) | exact OpF.of (cLoadSum rfl (.l rfl k1) Try.underlying24 sizeS) | exact OpF.of (cLoadSum rfl (.l rfl k2) Try.underlying24 sizeS) | exact OpF.of (cLoadSum rfl (.l rfl k8) Try.underlying24 sizeS) | exact OpF.of (cLoadSum rfl (.l rfl k9) Try.underlying24 sizeS) | exact OpF.of (cCall1 rfl rfl hT) | exact OpF.of (OpOk.b (c := true) (cEqlStr1 rfl rfl rfl) hTs) | exact OpF.of (OpOk.b (c := true) (cEqlAgg rfl rfl rfl guardS (eqlS _ _)) (decide_eq_true rfl)) | exact OpF.of (cMakeZ (n := 56) rfl (by decide)) | exact OpF.of (cBuildT (τs := [Ty.sl 5 56 ((List.replicate 56 0).map bv)]) rfl (partsT1 rfl (.t rfl) (Ty.sl_isSl _ _ _)) Try.underlying35 infoBs rfl) | exact OpF.of (cCall1 rfl rfl hO56) | exact cBuildN (vs := [bv 97]) rfl (fun a w _ => by simp [Act.eval, bv]) Try.underlying30 infoU8s rfl (by simp [bv, Value.cells]) (by decide) (by simp [maxLen]) | exact cBuildN (vs := [bv 98, bv 99]) rfl (fun a w _ => by simp [Act.eval, bv]) Try.underlying30 infoU8s rfl (by simp [bv, Value.cells]) (by decide) (by simp [maxLen]) | exact cBuildN (vs := [bv 97, bv 98, bv 99]) rfl (fun a w _ => by simp [Act.eval, bv]) Try.underlying30 infoU8s rfl (by simp [bv, Value.cells]) (by decide) (by simp [maxLen]) | exact cFreezeN rfl rfl Try.underlying30 Try.underlying5 | exact OpF.of (cBuildT (τs := [Ty.sl 5 1 [bv 97], Ty.sl 5 2 [bv 98, bv 99]]) rfl (partsT2 rfl (Has.c (.t rfl) nsl_sl) (Has.c (.t rfl) nsl_sl) (Ty.sl_isSl _ _ _) (Ty.sl_isSl _ _ _)) Try.underlying35 infoBs rfl) | exact OpF.of (cBuildT (τs := [Ty.sl 5 3 [bv 97, bv 98, bv 99]]) rfl (partsT1 rfl (Has.c (.t rfl) nsl_sl) (Ty.sl_isSl _ _ _)) Try.underlying35 infoBs rfl) | exact OpF.of (cCall1 rfl rfl hO2) | exact OpF.of (cCall1 rfl rfl hO3) | exact OpF.of (cCall2 rfl rfl rfl hW0) | exact OpF.of (cCall2 rfl rfl rfl hW1) | exact OpF.of (cCall2 rfl rfl rfl hW4) | exact OpF.of (cCall2 rfl rfl rfl hWm) | exact OpF.of (OpOk.b (c := true) (cEql rfl rfl rfl) (decide_eq_true rfl)) | exact OpF.of (cBuildS2 rfl bX) | exact OpF.of (cBuildS1 rfl bY) | exact OpF.of (cCall2 rfl rfl rfl hC1) | exact OpF.of (cCall2 rfl rfl rfl hC2) | exact OpF.of (cCall2 rfl rfl rfl hC0) | exact OpF.of (cCall2 rfl rfl rfl hXX) | exact OpF.of (cCall1 rfl rfl hZx) | exact OpF.of (cCall1 rfl rfl hZw) | exact OpF.of (cPickT rfl rfl rfl) | exact OpF.of (cPickF rfl rfl rfl) | exact OpF.of (cLss rfl rfl rfl) | exact OpF.of (cEql rfl rfl rfl) | exact OpF.of (cExtract rfl rfl rfl))
         any_goals (first | exact Fst.ex _ | exact Fst.sl _ _ _ | exact Fst.nsl _ _ _ _ | exact Fst.at_ _ _ | exact Fst.slT _ _ _ (by simp [Fst.sl]))
         rotate_left))
  intro a w21 hF hb
  have hBs := hB.size
  replace hB := hB.trans (hb.mono hB.size)
  simp only [List.append_eq, List.cons_append, List.nil_append] at hF ⊢
  simp only [List.take_succ_cons, List.take_zero, List.drop_succ_cons, List.drop_zero] at hF ⊢
  dsimp only [ext, Option.getD] at hF
  refine wpList_nil ?_
  repeat with_reducible first | refine wp_seq ?_ | refine nThen ?_ | refine nBlk ?_ | refine wp_skip ?_ | refine wp_block ?_ | refine wp_exit ?_ | refine xThen ?_ | refine xHere ?_ | refine wp_ret ?_
  refine ret1 hF rfl rfl fun z hz => ?_
  exact ⟨by rw [show z = .bool true from hz], hB0.trans (hB.mono hzw20)⟩
end Go.Proofs.Ytkdkmnemmenikaa

/- From a row's reading of an argument to what a walk takes: slices of bytes; whole numbers. -/
namespace Go.Proofs.Ytkdkmnemmenikaa
open Go.RowKit Go.ChangeShapes Go.WideShapes

end Go.Proofs.Ytkdkmnemmenikaa
