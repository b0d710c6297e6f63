/- Maps with int keys that the program makes itself: a map as a Lean function from keys to values. -/
import Derived.Maps.OwnSet
import Derived.Maps.Views
import Derived.Maps.Ext
import Derived.Test.YtikmgiapjigghabQc01
namespace Go.Proofs.Ytikmgiapjigghab
open Go.RowKit
open Go.Maps (Keyed keyOf_int_mk)
def aO3(v:Value):Option (DataW Value×List MemPlace):=some (.held v,[])
theorem aY3{k:Int}(h:I64 k):(Lit.int .i64 k).wf=true:=by
 unfold I64 at h;exact WalkArith.wf_i64 (by omega)
theorem xM(k:Int):WideAt.IsKeyLit (.int .i64 k):=by
 first|trivial|simp[WideAt.IsKeyLit]|exact .intro
def iV(P:Program)(kt:TypeId)(w:World)(b n:Nat)(f:Int→Option Value):Prop :=
 ∃D:DataW Value,w.ownsMap P kt aO3 b n D∧Maps.size D=n∧∀k:Int,I64 k →
  (f k=none→Maps.has D (.int .i64 k)=false)∧(∀v,f k=some v→Maps.has D (.int .i64 k)=true∧∀z,D.atKey (.int .i64 k) z=.held v)
section
variable {P:Program} {kt:TypeId} {w:World} {b n:Nat} {f:Int→Option Value}
theorem iV.made(w:World):iV P kt (w.alloc (.map #[] 0)) w.heap.size 0 fun _=>none :=
 ⟨.map [],World.ownsMap_made w P kt aO3,rfl,fun k _=>⟨fun _=>rfl,fun v h=>by cases h⟩⟩
theorem iV.lt(h:iV P kt w b n f):b<w.heap.size:=by obtain⟨D,h1,_⟩:=h;exact h1.lt
theorem iV.kept{w':World}(h:iV P kt w b n f)(hs:w'.heap[b]? = w.heap[b]?):iV P kt w' b n f:=by
 obtain⟨D,⟨es,clock,hb,r⟩,h2⟩:=h;exact⟨D,⟨es,clock,hs.trans hb,r⟩,h2⟩
theorem iV.look{t e:TypeId}(h:iV P kt w b n f)(K:Keyed P kt)(hkt:P.underlying kt=some (.int .i64))(ht:P.underlying t=some (.map kt e)){z:Value}(hz:(zeroValue e).run P w=.ok z w){k:Int}(hk:I64 k) :
 (Instr.lookup t (.map (some b)) (.int .i64 k) true).run P w=.ok (.tuple #[(f k).getD z,.bool (f k).isSome]) w:=by
 obtain⟨D,h1,_,h2⟩:=h;obtain⟨v,ps,hrun,hv⟩:=h1.look_ok K ht hz (zd:=.held z) (zp:=[]) rfl (keyOf_int_mk hkt (aY3 hk));rw[hrun];obtain⟨h3,h4⟩:=h2 k hk;simp only[aO3,Option.some.injEq,Prod.mk.injEq] at hv;cases hf:f k with
 | none =>
  have:=h3 hf;rw[this];have h5:=Maps.atKey_of_not_has this (.held z);rw[h5] at hv;have h6:v=z:=by have:=hv.1;injection this
  rw[h6];rfl
 | some u =>
  obtain⟨h5,h6⟩:=h4 u hf;rw[h5];rw[h6] at hv;have h7:v=u:=by have:=hv.1;injection this
  rw[h7];rfl
def sO(f:Int→Option Value)(k:Int)(v:Option Value):Int→Option Value:=fun x=>if x=k then v else f x
theorem iV.tidy{D:DataW Value}(h:w.ownsMap P kt aO3 b n D)(K:Keyed P kt):Maps.Tidy D:=by
 obtain⟨es,e,h1,_⟩:=h.canon K;exact⟨es,e,Maps.apart_of_rising h1⟩
theorem iV.store{t e:TypeId}(h:iV P kt w b n f)(K:Keyed P kt)(hkt:P.underlying kt=some (.int .i64))(ht:P.underlying t=some (.map kt e))(hn:n<maxLen){k:Int}(hk:I64 k)(v:Value)(hnew:f k=none) :
 ∃w',(Instr.mapUpdate t (.map (some b)) (.int .i64 k) v).run P w=.ok () w'∧iV P kt w' b (n+1) (sO f k (some v))∧w.grownBy w' (some b):=by
 obtain⟨D,h1,hsz,h2⟩:=h;obtain⟨w',hrun,h3,h4⟩:=h1.update K ht hn (keyOf_int_mk hkt (aY3 hk)) (d:=.held v) (ps:=[]) rfl;have ht:=iV.tidy h1 K;refine⟨w',hrun,⟨_,h3,?_,fun x hx=>?_⟩,h4⟩
 ·rw[Maps.size_put ht,(h2 k hk).1 hnew,hsz];simp
 ·by_cases e:x=k
  ·subst e
   refine⟨fun h=>by simp[sO] at h,fun u hu=>?_⟩;simp only[sO,if_true,Option.some.injEq] at hu;subst hu;exact⟨Maps.has_put_same ht.isMap (xM x) _,fun z=>Maps.atKey_put_same ht.isMap (xM x) _ z⟩
  ·have hne:(Lit.int .i64 x)≠.int .i64 k:=fun h=>e (by injection h)
   simp only[sO,if_neg e];rw[Maps.has_put_other hne];exact⟨(h2 x hx).1,fun u hu=>⟨((h2 x hx).2 u hu).1,fun z=>by rw[Maps.atKey_put_other hne];exact((h2 x hx).2 u hu).2 z⟩⟩
end
end Go.Proofs.Ytikmgiapjigghab
