/- What a statement's heap reads as. -/
import Derived.Test.YtikmgiapjigghabQc10
import Derived.Test.YtikmgiapjigghabQc14
set_option maxRecDepth 100000
set_option maxHeartbeats 8000000
namespace Go.Proofs.Ytikmgiapjigghab
open Go.ChangeShapes Go.WideShapes Go.ChangeAt Go.RowKit Go.Deep
section
variable {H:Type} {enc:TypeId×Value→H} {w:World} {base:Nat} {spare:Nat→Bool} {held:Bool}
theorem cHc:Try.prog.cellsOf 69=3:=by kernel_rfl
theorem bE7{n:Nat}{cs:List Value}{x:DataW H×List MemPlace}(h:DataW.trod enc Try.prog w base spare held n 69 cs=some x) :
 ∃c:HC,cs = [.int .i64 c.k,.int .i64 c.n,.string c.name]∧c.fits:=by
 obtain⟨ys,n',hn',hy,hlen',hyl,hf⟩:=DataW.trod_struct Try.underlying69 h;rw[cHc] at hlen'
 match cs,hlen',ys,hyl with
 | [c0,c1,c2],_,[y0,y1,y2],_ =>
  have f0 := hf 0 ⟨ "Kind", 3, 0, false, "", "", 0⟩ rfl
  have f1 := hf 1 ⟨ "N", 3, 1, false, "", "", 8⟩ rfl
  have f2 := hf 2 ⟨ "Name", 9, 2, false, "", "", 16⟩ rfl
  simp only[cI,cS,List.drop_zero,List.drop_succ_cons,List.take_succ_cons,List.take_zero,List.getElem?_cons_zero,List.getElem?_cons_succ] at f0 f1 f2;obtain⟨k,e0,_,hk⟩:=DataW.trod_int Try.underlying3 f0;obtain⟨v,e1,_,hv⟩:=DataW.trod_int Try.underlying3 f1;obtain⟨s,e2,_,hs⟩:=DataW.trod_string Try.underlying9 f2;simp only[List.cons.injEq,and_true] at e0 e1 e2;subst e0;subst e1;subst e2;exact⟨⟨k,v,s⟩,rfl,wf_i64 hk,wf_i64 hv,hs⟩
end
end Go.Proofs.Ytikmgiapjigghab
