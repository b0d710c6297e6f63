/- The reference's state of variables in a world; walk: LookAt. -/
import Derived.Deep.QuietTactic
import Derived.BigQuiet
import Derived.Test.YtikmgiapjigghaaCa04
import Derived.Test.YtikmgiapjigghaaCa07
namespace Go.Proofs.Ytikmgiapjigghaa
open Go.RowKit
theorem below_drewN(w:World):∀ q,Below w.heap.size w (w.drewN q)
 | 0=>Below.refl _ _
 | q+1=>(below_drewN w q).drew
end Go.Proofs.Ytikmgiapjigghaa
