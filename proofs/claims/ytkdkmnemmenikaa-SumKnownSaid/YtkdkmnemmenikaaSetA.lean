/- Layer 10: the walks of small helpers: rows copied, rows compared. -/
import Derived.Test.YtkdkmnemmenikaaSetB
import Derived.Test.YtkdkmnemmenikaaTyD
namespace Go.Proofs.Ytkdkmnemmenikaa
open Go.RowKit

end Go.Proofs.Ytkdkmnemmenikaa
