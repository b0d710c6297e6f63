/- The reference's state of variables in a world; walk: LookAt. -/
import Derived.Deep.QuietTactic
import Derived.BigQuiet
import Derived.Test.YtikmgiapjigghabQc04
import Derived.Test.YtikmgiapjigghabQc07
namespace Go.Proofs.Ytikmgiapjigghab
open Go.RowKit
theorem bP(w:World):∀q,Below w.heap.size w (w.drewN q)
 | 0=>Below.refl _ _
 | q+1=>(bP w q).drew
end Go.Proofs.Ytikmgiapjigghab
