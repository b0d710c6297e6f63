/- The reference's state of variables in a world; walk: LookAt. -/
import Derived.Deep.QuietTactic
import Derived.BigQuiet
import Derived.Test.YtikmgiapjigghabCb04
import Derived.Test.YtikmgiapjigghabCb07
namespace Go.Proofs.Ytikmgiapjigghab
open Go.RowKit
theorem below_drewN(w:World):∀ q,Below w.heap.size w (w.drewN q)
 | 0=>Below.refl _ _
 | q+1=>(below_drewN w q).drew
end Go.Proofs.Ytikmgiapjigghab
