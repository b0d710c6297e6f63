/- What the statement's arguments read as: terms, lists of terms, programs. -/
import Derived.ProofKit
import Derived.OpenShut
import Derived.ShutString
import Derived.ChangeOld
import Derived.Deep.Fields
import Derived.Test.YtikmgiapjigghabQc03
set_option maxRecDepth 100000
set_option maxHeartbeats 8000000
namespace Go.Proofs.Ytikmgiapjigghab
open Go.ChangeShapes Go.WideShapes Go.ChangeAt Go.RowKit Go.Deep
theorem Try.own:ownKnob Try.prog.godebug=none:=by kernel_rfl
theorem Try.laidOut:laidOutB Try.prog=true:=by kernel_rfl
section
variable {H:Type} {enc:TypeId×Value→H} {w:World} {base:Nat} {spare:Nat→Bool} {held:Bool}
theorem wf_i64{n:Int}(h:(Lit.int .i64 n).wf=true):I64 n:=by
 have:=bounds_i64 h;unfold I64;omega
theorem aA3{w:World}{a:Addr}{v:Value}(h:w.cell? a=some v):a.block<w.heap.size:=World.block_lt_of_cell? w a h
theorem cI:Try.prog.cellsOf 3=1:=by kernel_rfl
theorem cS:Try.prog.cellsOf 9=1:=by kernel_rfl
theorem cT:Try.prog.cellsOf 48=1:=by kernel_rfl
theorem cTm:Try.prog.cellsOf 71=3:=by kernel_rfl
theorem cCl:Try.prog.cellsOf 106=4:=by kernel_rfl
theorem aP4{n:Nat}{cs:List Value}{x:DataW H×List MemPlace}(h:DataW.trod enc Try.prog w base spare held n 71 cs=some x) :
 ∃(v:Int) (s:ByteArray) (c:Value) (y:DataW H×List MemPlace) (m:Nat),n=m+1∧cs = [.int .i64 v,.string s,c]∧I64 v∧s.size≤maxLen∧DataW.trod enc Try.prog w base spare held m 48 [c]=some y:=by
 obtain⟨ys,n',hn',hy,hlen',hyl,hf⟩:=DataW.trod_struct Try.underlying71 h;rw[cTm] at hlen'
 match cs,hlen',ys,hyl with
 | [c0,c1,c2],_,[y0,y1,y2],_ =>
  have f0 := hf 0 ⟨ "Var", 3, 0, false, "", "", 0⟩ rfl
  have f1 := hf 1 ⟨ "Name", 9, 1, false, "", "", 8⟩ rfl
  have f2 := hf 2 ⟨ "Args", 48, 2, false, "", "", 24⟩ rfl
  simp only[cI,cS,cT,List.drop_zero,List.drop_succ_cons,List.take_succ_cons,List.take_zero,List.getElem?_cons_zero,List.getElem?_cons_succ] at f0 f1 f2;obtain⟨v,e0,_,hv⟩:=DataW.trod_int Try.underlying3 f0;obtain⟨s,e1,_,hs⟩:=DataW.trod_string Try.underlying9 f1;simp only[List.cons.injEq,and_true] at e0 e1;subst e0;subst e1;exact⟨v,s,c2,y2,n',hn',rfl,wf_i64 hv,hs,f2⟩
theorem aP5:∀(fuel:Nat) (cs:List Value) (x:DataW H×List MemPlace),DataW.trod enc Try.prog w base spare held fuel 48 cs=some x →
 ∃(l:List Tm) (a:Option Addr) (cap:Nat),cs = [.slice a l.length cap]∧Ts w (fun _=>True) l a cap:=by
 intro fuel
 induction fuel using Nat.strongRecOn with
 | _ fuel ih =>
 intro cs x h;rcases DataW.trod_slice Try.underlying48 h with ⟨rfl,_⟩|⟨a,len,cap,elems,rest,n,rfl,rfl,_,_,hl,hm,hlen,hel,_,_⟩
 ·exact⟨[],none,0,rfl,.mk [] none 0 ⟨nR _,Nat.zero_le _,fun _=>rfl⟩ (fun _=>(none,0)) (fun i hi=>by cases hi) (fun i hi=>by cases hi)⟩
 ·have key:∀i,i<len→∃(r:dS) (b off:Nat),a=⟨b,off,none⟩∧b<w.heap.size∧jR w b (off+i*3) r.1 r.2.1 r.2.2∧Ts w (fun _=>True) r.1.args r.2.1 r.2.2:=by
   intro i hi;have h1:=hel i hi;rw[List.getElem?_eq_getElem (by omega:i<elems.length)] at h1;obtain⟨cs',hcs,htr⟩:=Option.bind_eq_some_iff.1 h1;rw[cTm] at hcs;obtain⟨_,hcl,hat⟩:=World.cells?_some hcs;obtain⟨v,s,c,y,m,hnm,rfl,hv,hs,hc⟩:=aP4 htr;obtain⟨l,a',cap',hcl',hts⟩:=ih m (by omega) _ _ hc;simp only[List.cons.injEq,and_true] at hcl';subst hcl';have a0:=hat 0 (by omega);have a1:=hat 1 (by omega);have a2:=hat 2 (by omega);simp only[List.getElem?_cons_zero,List.getElem?_cons_succ] at a0 a1 a2;obtain⟨b,off,spot⟩:=a;have hsp:spot=none:=by
    by_cases hi0:i=0
    ·subst hi0
     have:=World.cell?_spot a0;simpa[Addr.add] using this
    ·-- a later element: the address is without a spot; the first element tells
     have h1':=hel 0 (by omega);rw[List.getElem?_eq_getElem (by omega:0<elems.length)] at h1';obtain⟨cs0,hcs0,_⟩:=Option.bind_eq_some_iff.1 h1';rw[cTm] at hcs0;obtain⟨_,hcl0,hat0⟩:=World.cells?_some hcs0;have b0:=hat0 0 (by omega);rw[List.getElem?_eq_getElem (by omega:0<cs0.length)] at b0;have:=World.cell?_spot b0;simpa[Addr.add] using this
   subst hsp;simp only[fY] at a0 a1 a2;exact⟨(.mk v s l,a',cap'),b,off,rfl,aA3 a0,⟨a0,a1,a2,⟨hv,hs⟩⟩,hts⟩
  classical
  let f:Nat→dS:=fun i=>if hi:i<len then Classical.choose (key i hi) else (.mk 0 ByteArray.empty [],none,0)
  have hf:∀i,i<len→∃(b off:Nat),a=⟨b,off,none⟩∧b<w.heap.size∧jR w b (off+i*3) (f i).1 (f i).2.1 (f i).2.2∧Ts w (fun _=>True) (f i).1.args (f i).2.1 (f i).2.2:=by
   intro i hi;have:=Classical.choose_spec (key i hi);simp only[f,dif_pos hi];exact this
  refine⟨(List.range len).map fun i=>(f i).1,some a,cap,by simp,.mk _ _ _ ⟨by simpa using hl,hm,fun h=>by cases h⟩ (fun i=>(f i).2) (fun i hi=>?_) (fun i hi=>?_)⟩
  ·have hi':i<len:=by simpa using hi
   obtain⟨b,off,h1,h2,h3,_⟩:=hf i hi';simp only[List.getElem_map,List.getElem_range];exact⟨b,off,by rw[h1],trivial,h2,h3⟩
  ·have hi':i<len:=by simpa using hi
   obtain⟨b,off,h1,h2,_,h4⟩:=hf i hi';simp only[List.getElem_map,List.getElem_range];exact h4
theorem bH2{n:Nat}{cs:List Value}{x:DataW H×List MemPlace}(h:DataW.trod enc Try.prog w base spare held n 106 cs=some x) :
 ∃(t:Tm) (a1 a2:Option Addr) (c1 c2:Nat) (l:List Tm),cs = [.int .i64 t.var,.string t.name,.slice a1 t.args.length c1,.slice a2 l.length c2]∧t.fits∧Ts w (fun _=>True) t.args a1 c1∧Ts w (fun _=>True) l a2 c2:=by
 obtain⟨ys,n',hn',hy,hlen',hyl,hf⟩:=DataW.trod_struct Try.underlying106 h;rw[cCl] at hlen'
 match cs,hlen',ys,hyl with
 | [c0,c1,c2,c3],_,[y0,y1],_ =>
  have f0 := hf 0 ⟨ "Head", 71, 0, false, "", "", 0⟩ rfl
  have f1 := hf 1 ⟨ "Body", 48, 3, false, "", "", 48⟩ rfl
  simp only[cTm,cT,List.drop_zero,List.drop_succ_cons,List.take_succ_cons,List.take_zero,List.getElem?_cons_zero,List.getElem?_cons_succ] at f0 f1;obtain⟨v,s,c,y,m,_,e0,hv,hs,h2⟩:=aP4 f0;simp only[List.cons.injEq,and_true] at e0;obtain⟨rfl,rfl,rfl⟩:=e0;obtain⟨l,a',cap',e1,ht⟩:=aP5 _ _ _ h2;obtain⟨l2,a2,cap2,e2,ht2⟩:=aP5 _ _ _ f1;simp only[List.cons.injEq,and_true] at e1 e2;subst e1;subst e2;exact⟨.mk v s l,a',a2,cap',cap2,l2,rfl,⟨hv,hs⟩,ht,ht2⟩
theorem bH3{n:Nat}{cs:List Value}{x:DataW H×List MemPlace}(h:DataW.trod enc Try.prog w base spare held n 23 cs=some x) :
 ∃(P:List Cl) (a:Option Addr) (cap:Nat),cs = [.slice a P.length cap]∧Pr w (fun _=>True) P a cap:=by
 rcases DataW.trod_slice Try.underlying23 h with ⟨rfl,_⟩|⟨a,len,cap,elems,rest,n,rfl,rfl,_,_,hl,hm,hlen,hel,_,_⟩
 ·exact⟨[],none,0,rfl,⟨nR _,Nat.zero_le _,fun _=>rfl⟩,fun i hi=>by cases hi⟩
 ·have key:∀i,i<len→∃(c:Cl) (a1 a2:Option Addr) (c1 c2 b off:Nat),a=⟨b,off,none⟩∧b<w.heap.size∧jR w b (off+i*4) c.head a1 c1 ∧
   w.cell? ⟨b,off+i*4+3,none⟩=some (.slice a2 c.body.length c2)∧Ts w (fun _=>True) c.head.args a1 c1∧Ts w (fun _=>True) c.body a2 c2:=by
   intro i hi;have h1:=hel i hi;rw[List.getElem?_eq_getElem (by omega:i<elems.length)] at h1;obtain⟨cs',hcs,htr⟩:=Option.bind_eq_some_iff.1 h1;rw[cCl] at hcs;obtain⟨_,hcl,hat⟩:=World.cells?_some hcs;obtain⟨t,a1,a2,c1,c2,l,rfl,hfit,ht1,ht2⟩:=bH2 htr;have q0:=hat 0 (by omega);have q1:=hat 1 (by omega);have q2:=hat 2 (by omega);have q3:=hat 3 (by omega);simp only[List.getElem?_cons_zero,List.getElem?_cons_succ] at q0 q1 q2 q3;obtain⟨b,off,spot⟩:=a;have hsp:spot=none:=by
    have h1':=hel 0 (by omega);rw[List.getElem?_eq_getElem (by omega:0<elems.length)] at h1';obtain⟨cs0,hcs0,_⟩:=Option.bind_eq_some_iff.1 h1';rw[cCl] at hcs0;obtain⟨_,hcl0,hat0⟩:=World.cells?_some hcs0;have b0:=hat0 0 (by omega);rw[List.getElem?_eq_getElem (by omega:0<cs0.length)] at b0;have:=World.cell?_spot b0;simpa[Addr.add] using this
   subst hsp;simp only[fY] at q0 q1 q2 q3;exact⟨⟨t,l⟩,a1,a2,c1,c2,b,off,rfl,aA3 q0,⟨q0,q1,q2,hfit⟩,q3,ht1,ht2⟩
  classical
  let f:Nat→Cl:=fun i=>if hi:i<len then Classical.choose (key i hi) else ⟨.mk 0 ByteArray.empty [],[]⟩
  have hf:∀i,i<len→∃(a1 a2:Option Addr) (c1 c2 b off:Nat),a=⟨b,off,none⟩∧b<w.heap.size∧jR w b (off+i*4) (f i).head a1 c1 ∧
   w.cell? ⟨b,off+i*4+3,none⟩=some (.slice a2 (f i).body.length c2)∧Ts w (fun _=>True) (f i).head.args a1 c1∧Ts w (fun _=>True) (f i).body a2 c2:=by
   intro i hi;have:=Classical.choose_spec (key i hi);simp only[f,dif_pos hi];exact this
  refine⟨(List.range len).map f,some a,cap,by simp,⟨by simpa using hl,hm,fun h=>by cases h⟩,fun i hi=>?_⟩;have hi':i<len:=by simpa using hi
  obtain⟨a1,a2,c1,c2,b,off,h1,h2,h3,h4,h5,h6⟩:=hf i hi';simp only[List.getElem_map,List.getElem_range];exact⟨b,off,a1,a2,c1,c2,by rw[h1],trivial,h2,h3,h4,h5,h6⟩
end
end Go.Proofs.Ytikmgiapjigghab
