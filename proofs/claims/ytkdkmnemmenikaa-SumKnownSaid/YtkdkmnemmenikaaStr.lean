/- A slice of bytes turned to a string; the strings of bytes. -/
import Derived.Test.YtkdkmnemmenikaaMem
import Derived.Laws.BytesArg
namespace Go.Proofs.Ytkdkmnemmenikaa
open Go.RowKit

def strB (l : List Nat) : ByteArray := strOfNums (l.map Int.ofNat)
theorem strB_inj {l k : List Nat} (hl : ∀ x ∈ l, x < 256) (hk : ∀ x ∈ k, x < 256) (h : strB l = strB k) : l = k := by
  have h1 : (strB l).data.toList = (strB k).data.toList := by rw [h]
  unfold strB at h1
  rw [strOfNums_data, strOfNums_data, List.map_map, List.map_map] at h1
  have hlen : l.length = k.length := by simpa using congrArg List.length h1
  apply List.ext_getElem hlen
  intro i hi hi'
  have h2 := congrArg (fun z => z[i]?) h1
  simp only [List.getElem?_map, List.getElem?_eq_getElem hi, List.getElem?_eq_getElem hi', Option.map_some, Option.some.injEq, Function.comp] at h2
  have h3 := congrArg UInt8.toNat h2
  have a := hl _ (List.getElem_mem hi)
  have b := hk _ (List.getElem_mem hi')
  simp [UInt8.toNat_ofNat'] at h3
  omega
theorem run_string_rd {P : Program} (w : World) (src dst e : TypeId) (hs : P.underlying src = some (.slice e)) (he : P.underlying e = some (.int .u8)) (hd : P.underlying dst = some .string)
    (A : Option Addr) (n cap : Nat) (l : List Nat) (hl : l.length = n) (hr : Rd w A (l.map bv)) (hA : A = none → n = 0) :
    (convert src dst (.slice A n cap)).run P w = .ok (.string (strB l)) w := by
  cases A with
  | none =>
    have : l = [] := List.eq_nil_of_length_eq_zero (hl.trans (hA rfl))
    subst this
    exact run_convert_bytes_nil w src e hs he n cap dst hd
  | some a =>
    rw [run_convert_bytes_string w src dst e _ n cap hs he hd]
    have hb : l.map bv = (l.map Int.ofNat).map (Value.int .u8) := by rw [List.map_map]; rfl
    have hc := run_loadCells_list (P := P) w a (l.map bv) (fun j v hj => by
      obtain ⟨ad, e, h⟩ := hr j v hj
      injection e with e
      subst e
      exact h)
    rw [List.length_map, hl, hb] at hc
    rw [run_bytesToString w a n cap _ hc, foldl_push_bytes]
    simp [strB, strOfNums, ByteArray.empty, ByteArray.emptyWithCapacity]
    rfl
end Go.Proofs.Ytkdkmnemmenikaa
