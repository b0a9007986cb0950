/- Regions by types: sum.Of of parts. -/
import Derived.Test.YtkdkmnemmenikaaTyQ
import Derived.Test.YtkdkmnemmenikaaShaD
import Derived.KernelRfl
namespace Go.Proofs.Ytkdkmnemmenikaa
open Go.RowKit


/-- A slice of parts, each bytes. -/
theorem parts_slT {w : World} {e : TypeId} {n : Nat} {v : Value} {ls : List (List Nat)} {τs : List Ty} (h : (Ty.slT e n τs).p w v) (hl : τs.length = ls.length) (hr : ∀ (i : Nat) (l : List Nat) (τ : Ty), ls[i]? = some l → τs[i]? = some τ → Reads τ l.length (l.map bv)) (hx : ∀ l ∈ ls, ∀ x ∈ l, x < 256) (hne : 0 < ls.length) :
    ∃ b o c, v = .slice (some ⟨b, o, none⟩) n c ∧ n ≤ c ∧ Parts w b o ls := by
  obtain ⟨A, c, rfl, h2, h3, h4, h5⟩ := h
  have h0 : 0 < τs.length := by omega
  obtain ⟨g, off, cs, fr, u, rfl, h7, h8, h9⟩ := h5 0 _ (List.getElem?_eq_getElem h0)
  refine ⟨g, off, c, rfl, h2, fun i l hi => ?_⟩
  have hil : i < τs.length := by have := (List.getElem?_eq_some_iff.1 hi).1; omega
  obtain ⟨g', off', cs', fr', u', e', k7, k8, k9⟩ := h5 i _ (List.getElem?_eq_getElem hil)
  injection e' with e'
  injection e' with e1 e2
  subst e1 e2
  rw [h7] at k7
  injection k7 with k7
  injection k7 with k7
  subst k7
  obtain ⟨B, d, hu, hm, hB, hrd⟩ := hr i l _ hi (List.getElem?_eq_getElem hil) w u' k9
  subst hu
  exact ⟨B, d, by rw [cell_of_row w g (off + i) cs e fr h7]; exact k8, hrd, fun e => List.eq_nil_of_length_eq_zero (hB e), hx l (List.mem_of_getElem? hi)⟩
theorem sumOf_ty {e : TypeId} (ls : List (List Nat)) (τs : List Ty) (hl : τs.length = ls.length) (hr : ∀ (i : Nat) (l : List Nat) (τ : Ty), ls[i]? = some l → τs[i]? = some τ → Reads τ l.length (l.map bv)) (hx : ∀ l ∈ ls, ∀ x ∈ l, x < 256) (hne : 0 < ls.length) (hlen : ls.flatten.length ≤ 1099511627776) (hn : ls.length ≤ 1099511627776) :
    Fn1 Try.prog 5 (Ty.slT e ls.length τs) (Ty.ex (.agg (u8s (shaL ls.flatten)))) :=
  ⟨fun args w => by kernel_rfl, fun w v hv => by
    obtain ⟨b, o, c, rfl, hc, hp⟩ := parts_slT hv hl hr hx hne
    exact Ret.of (Of_any _ b o ls.length c ls w rfl hc (fun _ => rfl) hp hlen hn)⟩
theorem reads_bytes (e : TypeId) (l : List Nat) : Reads (Ty.sl e l.length (l.map bv)) l.length (l.map bv) := reads_sl _ _ _
theorem sumOf1_ty {e : TypeId} {τ : Ty} (l : List Nat) (hτ : Reads τ l.length (l.map bv)) (hx : ∀ x ∈ l, x < 256) (hlen : l.length ≤ 1099511627776) : Fn1 Try.prog 5 (Ty.slT e 1 [τ]) (Ty.ex (.agg (u8s (shaL l)))) := by
  have h := sumOf_ty (e := e) [l] [τ] rfl (fun i k σ h1 h2 => by
    match i with
    | 0 => simp at h1 h2; subst h1 h2; exact hτ
    | i + 1 => simp at h1) (by simpa using hx) (by simp) (by simpa using hlen) (by simp)
  simpa using h
theorem sumOf2_ty {e : TypeId} {τ σ : Ty} (l k : List Nat) (hτ : Reads τ l.length (l.map bv)) (hσ : Reads σ k.length (k.map bv)) (hx : ∀ x ∈ l, x < 256) (hy : ∀ x ∈ k, x < 256) (hlen : l.length + k.length ≤ 1099511627776) : Fn1 Try.prog 5 (Ty.slT e 2 [τ, σ]) (Ty.ex (.agg (u8s (shaL (l ++ k))))) := by
  have h := sumOf_ty (e := e) [l, k] [τ, σ] rfl (fun i q υ h1 h2 => by
    match i with
    | 0 => simp at h1 h2; subst h1 h2; exact hτ
    | 1 => simp at h1 h2; subst h1 h2; exact hσ
    | i + 2 => simp at h1) (by
      intro q hq
      simp at hq
      rcases hq with rfl | rfl
      · exact hx
      · exact hy) (by simp) (by simpa using hlen) (by simp)
  simpa using h

def shaS (l : List Nat) : Sm := ⟨shaL l, shaL_len l, shaL_lt l⟩
theorem infoU8 : (Try.prog.info? 5).map (fun i => (i.zero, i.size, i.bytes)) = some (some (.int .u8 0), 1, 1) := by kernel_rfl
theorem infoB : (Try.prog.info? 30).map (fun i => (i.zero, i.size, i.bytes)) = some (some (.slice none 0 0), 1, 24) := by kernel_rfl
end Go.Proofs.Ytkdkmnemmenikaa
