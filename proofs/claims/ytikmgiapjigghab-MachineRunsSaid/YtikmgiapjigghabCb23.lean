/- What a statement's heap reads as. -/
import Derived.Test.YtikmgiapjigghabCb10
import Derived.Test.YtikmgiapjigghabCb22
namespace Go.Proofs.Ytikmgiapjigghab
open Go.ChangeShapes Go.WideShapes Go.ChangeAt Go.RowKit Go.Deep
section
variable {H:Type} {enc:TypeId×Value→H} {w:World} {base:Nat} {spare:Nat→Bool} {held:Bool}
end
end Go.Proofs.Ytikmgiapjigghab
