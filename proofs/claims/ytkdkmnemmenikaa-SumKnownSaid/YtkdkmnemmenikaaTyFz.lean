/- Regions by types: []byte of a constant string: the row laid is then frozen. -/
import Derived.Test.YtkdkmnemmenikaaTyO
import Derived.Laws.IdiomStrings
namespace Go.Proofs.Ytkdkmnemmenikaa
open Go.RowKit

theorem freeze_block {w : World} {g k : Nat} {cs : Array Value} {e : TypeId} {fr : Nat × Nat} (h : w.heap[g]? = some (.cells cs e fr)) : Keeps [g] w (w.freeze ⟨g, k, none⟩ 1) ∧ ∃ fr', (w.freeze ⟨g, k, none⟩ 1).heap[g]? = some (.cells cs e fr') := by
  obtain ⟨lo, hi⟩ := fr
  unfold World.freeze
  rw [if_neg (by decide)]
  refine ⟨⟨rfl, rfl, rfl, by simp, fun j hj hjg => ?_⟩, if lo == hi then (k, k + 1) else (min lo k, max hi (k + 1)), ?_⟩
  · simp only [List.mem_singleton] at hjg
    simp only [Array.getElem?_modify]
    rw [if_neg (fun e => hjg e.symm)]
  · simp only [Array.getElem?_modify, if_true, h, Option.map_some]
section
variable {P : Program} {w0 : World} {Γ : Ctx} {o : Oper}
theorem run_freeze {w : World} {t e : TypeId} {g off n c : Nat} {cs : Array Value} {fr : Nat × Nat} (ht : P.underlying t = some (.slice e)) (he : P.underlying e = some (.int .u8)) (h : w.heap[g]? = some (.cells cs e fr)) : (convert t t (.slice (some ⟨g, off, none⟩) n c)).run P w = .ok (.slice (some ⟨g, off, none⟩) n c) (w.freeze ⟨g, cs.size, none⟩ 1) := by
  have hsh : w.shape? g = some (e, cs.size) := by
    unfold World.shape?
    rw [h]
  simp [convert, run_underlying ht, run_underlying he, markStringish, hsh]
/-- A row of bytes of the region's own is frozen: it reads as it did. -/
theorem tkFreeze {s : Nat} {t e : TypeId} {n : Nat} {xs : List Value} (ho : o.op = .convert t t (.tmp s)) (ht : P.underlying t = some (.slice e)) (he : P.underlying e = some (.int .u8)) (hn : 0 < n) : OpTk P w0 Γ o (OTy.seg w0 e 1 n xs) (OTy.slo e n xs) s := fun a w S0 K Q hb hs ⟨v, hv1, hv2, hv3⟩ hK => by
  rcases hv2.cases with ⟨_, h0, _⟩ | ⟨g, off, cap, rfl, rfl, hl, hnc, hcm, cs, hbl, hsz, hx⟩
  · omega
  · have h1 := run_freeze (P := P) (t := t) (off := off) (n := n) (c := cap) ht he hbl
    obtain ⟨k1, fr', k2⟩ := freeze_block (k := cs.size) hbl
    unfold Oper.wp execOp
    have ea : a.eval (.tmp s) = .slice (some ⟨g, off, none⟩) n cap := by simp [Act.eval, Array.getD_eq_getD_getElem?, hv1]
    simp only [ho, ea, Sem.run_bind, h1, Result.andThen_ok, Sem.run_pure]
    refine hK _ _ [g] ⟨g, off, cap, cs, fr', rfl, rfl, hnc, hcm, k2, fun j u hu => ?_⟩ (fun b hb => .inl hb) k1
    have hj : j < n * 1 := by rw [← hl]; exact (List.getElem?_eq_some_iff.1 hu).1
    rw [hx j hj]
    exact hu
end
end Go.Proofs.Ytkdkmnemmenikaa
