/- The walk of tallymanref1.Cmp. -/
import Derived.Test.YtkdkmnemmenikaaCmpP
import Derived.Test.YtkdkmnemmenikaaSm
import Derived.Deep.QuietTactic
import Derived.BigQuiet
import Derived.Lib.Hide
namespace Go.Proofs.Ytkdkmnemmenikaa
open Go.RowKit

theorem cmpL_drop (x y : List Nat) (k : Nat) (hx : k < x.length) (hy : k < y.length) :
    cmpL (x.drop k) (y.drop k) = if x.getD k 0 < y.getD k 0 then -1 else if y.getD k 0 < x.getD k 0 then 1 else cmpL (x.drop (k + 1)) (y.drop (k + 1)) := by
  rw [List.drop_eq_getElem_cons hx, List.drop_eq_getElem_cons hy]
  simp [cmpL, List.getD, List.getElem?_eq_getElem hx, List.getElem?_eq_getElem hy]

end Go.Proofs.Ytkdkmnemmenikaa
