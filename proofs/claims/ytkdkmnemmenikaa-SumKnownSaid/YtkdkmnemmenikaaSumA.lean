/- Layer 1: what the document tells of abc. -/
import Derived.Test.YtkdkmnemmenikaaShaD
import Derived.Test.YtkdkmnemmenikaaTextA
import Derived.Test.YtkdkmnemmenikaaZero
import Derived.Lib.SlBytesConst
namespace Go.Proofs.Ytkdkmnemmenikaa
open Go.RowKit

set_option maxRecDepth 100000 in
theorem abc_hex : hexS (shaL [97, 98, 99]) = [98, 97, 55, 56, 49, 54, 98, 102, 56, 102, 48, 49, 99, 102, 101, 97, 52, 49, 52, 49, 52, 48, 100, 101, 53, 100, 97, 101, 50, 50, 50, 51, 98, 48, 48, 51, 54, 49, 97, 51, 57, 54, 49, 55, 55, 97, 57, 99, 98, 52, 49, 48, 102, 102, 54, 49, 102, 50, 48, 48, 49, 53, 97, 100] := by decide +kernel
theorem abc_text : strB [98, 97, 55, 56, 49, 54, 98, 102, 56, 102, 48, 49, 99, 102, 101, 97, 52, 49, 52, 49, 52, 48, 100, 101, 53, 100, 97, 101, 50, 50, 50, 51, 98, 48, 48, 51, 54, 49, 97, 51, 57, 54, 49, 55, 55, 97, 57, 99, 98, 52, 49, 48, 102, 102, 54, 49, 102, 50, 48, 48, 49, 53, 97, 100] = { data := #[98, 97, 55, 56, 49, 54, 98, 102, 56, 102, 48, 49, 99, 102, 101, 97, 52, 49, 52, 49, 52, 48, 100, 101, 53, 100, 97, 101, 50, 50, 50, 51, 98, 48, 48, 51, 54, 49, 97, 51, 57, 54, 49, 55, 55, 97, 57, 99, 98, 52, 49, 48, 102, 102, 54, 49, 102, 50, 48, 48, 49, 53, 97, 100] } := by kernel_rfl

set_option maxRecDepth 100000 in
theorem awake1_any (w : World) : Calls Try.prog 4 #[] w fun e w' => e = .returned (.bool true) ∧ Below w.heap.size w w' := by
  have kc := fun (w : World) (C : Array Value) (n c : Nat) => Lib.run_convert_bytes_const (P := Try.prog) w 30 5 C n c Try.underlying30 Try.underlying5
  go_enter Try.func4, Try.ntmps4
  go_wp2_with fail
  refine (Of_any (some ⟨w.heap.size + 1, 0, none⟩) (w.heap.size + 1) 0 1 1 [[97, 98, 99]] _ rfl (by omega) (fun _ => rfl) ?_ (by simp) (by omega)).mono ?_
  · intro i l hi
    match i, hi with
    | 0, hi =>
      simp only [List.getElem?_cons_zero, Option.some.injEq] at hi
      subst hi
      exact ⟨_, _, (Blk.newAt (w.alloc _) _ #[.slice (some ⟨w.heap.size, 0, none⟩) 3 3] _ (by simp)).cell 0, (Rd.newF w _ #[.int .u8 97, .int .u8 98, .int .u8 99] _ _ rfl).alloc _, by simp, by decide⟩
  rintro e w1 ⟨rfl, hb1⟩
  have hb : Below w.heap.size w w1 := (((Keeps.refl [] w).alloc _).alloc _).below.trans (hb1.mono (by simp; omega))
  clear hb1
  simp only [List.flatten_cons, List.flatten_nil, List.append_nil]
  go_wp2_with fail
  refine (Text_l (shaL [97, 98, 99]) (shaL_len _) (shaL_lt _) _).mono ?_
  rintro e w2 ⟨rfl, hb2⟩
  rw [abc_hex, abc_text]
  have hb3 := hb.trans (hb2.mono hb.size)
  clear hb hb2
  go_wp2_with fail
  go_ret
  exact ⟨rfl, hb3⟩
end Go.Proofs.Ytkdkmnemmenikaa
