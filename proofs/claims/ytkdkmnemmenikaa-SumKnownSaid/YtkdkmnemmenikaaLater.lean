/- A region that draws its order, whose operations only read and whose callees may lay blocks: one walk, in the order of the text, over the class of all later worlds. -/
import Derived.Test.YtkdkmnemmenikaaDeclA
import Derived.Test.YtkdkmnemmenikaaZero
import Derived.Deep.QuietTactic
import Derived.BigQuiet
namespace Go.Proofs.Ytkdkmnemmenikaa
open Go.RowKit

/-- A later world: all that lay in w stands. -/
structure Later (w : World) where
  wd : World
  below : Below w.heap.size w wd

instance laterInhabited (w : World) : Inhabited (Later w) := ⟨⟨w, Below.refl _ _⟩⟩

theorem wp_region_later {P : Program} {id : Nat} {Q : Exit → Act → World → Prop} {a : Act} {w : World} {l : List Oper} (hm : P.follows .mixedOrders = true) (hB : Region.lexB .any l.toArray = true)
    (h : wpQuiet P l.toArray (fun w' => ∃ p : Later w, w' = p.wd) (fun a' => ∀ w', (∃ p : Later w, w' = p.wd) → Q .normal a' w') l a) : (Code.region id l.toArray true).wp P Q a w :=
  wp_region_quiet (C := fun w' => ∃ p : Later w, w' = p.wd) hm hB ⟨⟨w.drew, (Below.refl _ _).drew⟩, rfl⟩ (by simpa using h)

theorem later_of {P : Program} {f : FuncId} {args : Array Value} {w : World} {p : Later w} {v : Value}
    (h : Calls P f args p.wd fun e w' => e = .returned v ∧ Below p.wd.heap.size p.wd w') : Calls P f args p.wd fun e w'' => e = .returned v ∧ ∃ q : Later w, w'' = q.wd :=
  h.mono fun _ w' ⟨he, hb⟩ => ⟨he, ⟨w', p.below.trans (hb.mono p.below.size)⟩, rfl⟩
theorem later_of_eq {P : Program} {f : FuncId} {args : Array Value} {w : World} {p : Later w} {v u : Value} (hv : u = v)
    (h : Calls P f args p.wd fun e w' => e = .returned u ∧ Below p.wd.heap.size p.wd w') : Calls P f args p.wd fun e w'' => e = .returned v ∧ ∃ q : Later w, w'' = q.wd := by
  subst hv; exact later_of h

/-- A load of a known run, as a quiet step. -/
theorem quiet_load {P : Program} {o : Oper} {a : Act} {C : World → Prop} {K : Act → Prop} (ty : TypeId) (x : Operand) (ho : o.op = .load ty x) (u v : Value) (hx : a.eval x = u)
    (hl : ∀ w, C w → (Instr.loadAt ty u).run P w = .ok v w) (hk : K (a.put o.dst v)) : o.quiet P a C K :=
  ⟨v, fun w hw => by
    have h := hl w hw
    unfold Oper.quietAt execOp
    simp only [ho, hx]
    simp [h, Oper.quietUpon], hk⟩
/-- '==' of two aggregates of a known run, as a quiet step. -/
theorem quiet_eql {P : Program} {o : Oper} {a : Act} {C : World → Prop} {K : Act → Prop} (t t2 : TypeId) (x y : Operand) (ho : o.op = .binOp .eql t x y t2) (xs ys : Array Value) (b : Bool) (hx : a.eval x = .agg xs) (hy : a.eval y = .agg ys)
    (hg : P.eqGuardType P.depth t = false) (hl : ∀ w, (binOp .eql t (.agg xs) (.agg ys)).run P w = .ok (.bool b) w) (hk : K (a.put o.dst (.bool b))) : o.quiet P a C K :=
  ⟨.bool b, fun w _ => by
    have h := hl w
    have h2 := run_eqGuard_agg (P := P) w .eql t x y xs ys hg
    unfold Oper.quietAt execOp
    simp only [ho, hx, hy]
    simp [h, h2, Oper.quietUpon], hk⟩
/-- A whole block that lay there, loaded in any later world. -/
theorem load_later {P : Program} {w : World} {g : Nat} {t ty : TypeId} {cs : Array Value} {d : TypeDesc} (hB : Blk w g t cs)
    (hu : P.underlying ty = some d) (hd : (match d with | .struct _ | .array _ _ => true | _ => false) = true) (hi : (P.info? ty).map (·.size) = some cs.size) :
    ∀ w' : World, (∃ p : Later w, w' = p.wd) → (Instr.loadAt ty (.pointer (some ⟨g, 0, none⟩))).run P w' = .ok (.agg cs) w' := by
  rintro w' ⟨p, rfl⟩
  have h := hB.below p.below
  simp only [Instr.loadAt, Instr.sureAddr, Sem.run_bind, Sem.run_pure, Result.andThen_ok, run_loadVar_row p.wd g t ty cs (0, 0) d h hu hd hi]
theorem load_sum {w : World} {g : Nat} {t : TypeId} (x : Sm) (hB : Blk w g t (u8s x.l)) :
    ∀ w' : World, (∃ p : Later w, w' = p.wd) → (Instr.loadAt 24 (.pointer (some ⟨g, 0, none⟩))).run Try.prog w' = .ok (.agg (u8s x.l)) w' :=
  load_later hB Try.underlying24 rfl (info32.trans (congrArg some ((u8s_size x.l).trans x.len).symm))
/-- The zero sum, written out, as a quiet step. -/
theorem quiet_build0 {o : Oper} {a : Act} {C : World → Prop} {K : Act → Prop} (ho : o.op = .build 24 #[]) (hk : K (a.put o.dst (.agg (u8s Sm.zero.l)))) : o.quiet Try.prog a C K :=
  ⟨_, fun w _ => by
    have hz := Try.zeroValue24
    have e : u8s Sm.zero.l = #[.int .u8 0, .int .u8 0, .int .u8 0, .int .u8 0, .int .u8 0, .int .u8 0, .int .u8 0, .int .u8 0, .int .u8 0, .int .u8 0, .int .u8 0, .int .u8 0, .int .u8 0, .int .u8 0, .int .u8 0, .int .u8 0, .int .u8 0, .int .u8 0, .int .u8 0, .int .u8 0, .int .u8 0, .int .u8 0, .int .u8 0, .int .u8 0, .int .u8 0, .int .u8 0, .int .u8 0, .int .u8 0, .int .u8 0, .int .u8 0, .int .u8 0, .int .u8 0] := zeros_lit
    unfold Oper.quietAt execOp
    rw [ho, e]
    simp [go_sem, hz, Oper.quietUpon], hk⟩
theorem Xor_zlit (x : Sm) (w : World) : Calls Try.prog 11 #[.agg (u8s x.l), .agg #[.int .u8 0, .int .u8 0, .int .u8 0, .int .u8 0, .int .u8 0, .int .u8 0, .int .u8 0, .int .u8 0, .int .u8 0, .int .u8 0, .int .u8 0, .int .u8 0, .int .u8 0, .int .u8 0, .int .u8 0, .int .u8 0, .int .u8 0, .int .u8 0, .int .u8 0, .int .u8 0, .int .u8 0, .int .u8 0, .int .u8 0, .int .u8 0, .int .u8 0, .int .u8 0, .int .u8 0, .int .u8 0, .int .u8 0, .int .u8 0, .int .u8 0, .int .u8 0]] w fun e w' => e = .returned (.agg (u8s x.l)) ∧ Below w.heap.size w w' := by
  have h := Xor_any x Sm.zero w
  rw [Sm.xor_zero] at h
  have e : u8s Sm.zero.l = #[.int .u8 0, .int .u8 0, .int .u8 0, .int .u8 0, .int .u8 0, .int .u8 0, .int .u8 0, .int .u8 0, .int .u8 0, .int .u8 0, .int .u8 0, .int .u8 0, .int .u8 0, .int .u8 0, .int .u8 0, .int .u8 0, .int .u8 0, .int .u8 0, .int .u8 0, .int .u8 0, .int .u8 0, .int .u8 0, .int .u8 0, .int .u8 0, .int .u8 0, .int .u8 0, .int .u8 0, .int .u8 0, .int .u8 0, .int .u8 0, .int .u8 0, .int .u8 0] := zeros_lit
  rw [e] at h
  exact h
theorem Zero_self (x : Sm) (w : World) : Calls Try.prog 8 #[.agg (u8s (x.xor x).l)] w fun e w' => e = .returned (.bool true) ∧ Below w.heap.size w w' := by
  have h := Zero_any (x.xor x) w
  rwa [decide_eq_true (Sm.xor_self x)] at h
end Go.Proofs.Ytkdkmnemmenikaa
