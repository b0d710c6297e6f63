/- Plain: what a goal that is taken rests on. -/
import Derived.Test.YtikmgiapjigghabCb25
import Derived.Test.YtikmgiapjigghabCb26
import Derived.Test.YtikmgiapjigghabCb31
namespace Go.Proofs.Ytikmgiapjigghab
open Go.RowKit
structure TkI(p:List Cl)(S:MS)(P:PS):Prop where
 core:Core p S P
 ne:P.now≠[]
 fin:S.fin=0∧P.fin=0
 same:S.steps=P.steps∧S.ans=P.ans
 room:S.H.length+833≤400000∧S.G.length+6≤5000
 tr:S.T.length≤100000000
 chb:S.ch.length≤100000000
structure TkF(p:List Cl)(S:MS)(P:PS)(t:Tm):Prop where
 num:1≤S.first∧S.first≤S.G.length∧(gn S (S.first-1)).at'<S.H.length
 lt:goalEnd S S.first<S.H.length
 heap:HInv S.H
 var:t.var≠0→(hc S.H (goalEnd S S.first)).k=1
 fn:t.var=0→(hc S.H (goalEnd S S.first)).k=2∧(hc S.H (goalEnd S S.first)).name=t.name∧(hc S.H (goalEnd S S.first)).n=(t.args.length:Int)
 args:t.var=0→∀ i,i<t.args.length→goalEnd S S.first+1+i<S.H.length
 call:t.var=0→CallIn p { S with steps:=S.steps+1,f:=4000 } { P with steps:=P.steps+1,f:=4000 } S.first P.now t
 start:BkI p { S with steps:=S.steps+1,f:=4000 } { P with steps:=P.steps+1,f:=4000 }
theorem take_facts{p:List Cl}{S:MS}{P:PS}(h:TkI p S P):∃ t,TkF p S P t:=by
 obtain⟨hc0,hne,hf,hs,hroom,htr,hchb⟩:=h
 obtain⟨D,Sc,hsit⟩:=hc0.sit
 obtain⟨g,r,h1,h2,h3,h4,h5⟩:=hsit.goal hne
 obtain⟨t,ht⟩:∃ t,t=look P.σ (headT P.now):=⟨_,rfl⟩
 have htg:t=look P.σ g.1:=by rw[ht,h1];rfl
 obtain⟨k1,k2,-,-,k5,k6⟩:=hsit.hang.look h5
 rw[← htg] at k1 k5 k6
 have hG:GoalIs S P S.first P.now t D Sc g r:=⟨hsit,h1,h2,h3,h4,h5,k1,k2⟩
 obtain⟨c5,c6⟩:=hG.cell htg
 have hcr:Core p { S with steps:=S.steps+1,f:=4000 } { P with steps:=P.steps+1,f:=4000 }:=⟨⟨D,Sc,hsit.congr rfl rfl rfl rfl⟩,hc0.ch.congr rfl rfl rfl rfl⟩
 refine⟨t,⟨h4.2.1,h4.2.2.1,h4.2.2.2⟩,k2,hsit.hang.heap,c5,fun hv=>⟨(c6 hv).1,(c6 hv).2.1,(c6 hv).2.2.1⟩,fun hv i hi=>((c6 hv).2.2.2 i hi).lt,fun hv=>?_,?_⟩
 ·exact⟨⟨D,Sc,hsit.congr rfl rfl rfl rfl⟩,hc0.ch.congr rfl rfl rfl rfl,rfl,⟨rfl,Nat.le_refl _⟩,hne,⟨ht,hv⟩,hf,⟨by simp only;rw[hs.1],hs.2⟩⟩
 ·exact⟨hcr.ch,hf,⟨by simp only;rw[hs.1],hs.2⟩,⟨_,hcr⟩,hroom,htr,hchb⟩
theorem take_eq{p:List Cl}{S:MS}{P:PS}(h:TkI p S P){a b:Nat}(ha:a<S.H.length)(hb:b<S.H.length){r:MS×Bool}(hr:msame a b { S with steps:=S.steps+1,f:=4000 }=r)(h2:r.2=false)(h0:r.1.fin=0) :
 ∃ P2,BkI p { undoS r.1 (markS S S.first) with first:=(gn S (S.first-1)).next } P2:=by
 obtain⟨hc0,hne,hf,hs,hroom,htr,hchb⟩:=h
 obtain⟨D,Sc,hsit⟩:=hc0.sit
 obtain⟨g,r',h1,-,h3,h4,h5⟩:=hsit.goal hne
 have hbk:=keep_meetH 4000 S.H [] [(a,b)] hsit.hang.heap (fun x hx=>by rw[List.mem_singleton] at hx;subst hx;exact⟨ha,hb⟩)
 have hext:∀ (K:List HC) (B:List Nat),BKeep S.H [] K B→∀ S':MS,S'.H=K→S'.T=S.T++B→S'.G=S.G→Ext S S':=fun K B ⟨b1,b,b2,b3,b4⟩ S' x1 x2 x3=>by
  rw[List.nil_append] at b2
  subst b2
  exact⟨by rw[x1];omega,⟨B,x2,fun i hi _=>(b3 i hi).2,fun i hl hn=>by rw[x1];exact b4 i hl hn⟩,⟨[],by rw[x3,List.append_nil]⟩⟩
 have key:∀ S':MS,Ext S S'→S'.Q=S.Q→S'.ch=S.ch→S'.fin=0→S'.steps=S.steps+1→S'.ans=S.ans→∃ P2,BkI p { undoS S' (markS S S.first) with first:=(gn S (S.first-1)).next } P2:=fun S' hx e4 e5 e6 e7 e8=>by
  obtain⟨u1,u2,u3⟩:=hx.back S.first
  have hcore:Core p { undoS S' (markS S S.first) with first:=(gn S (S.first-1)).next } { P with now:=r',steps:=P.steps+1 }:=by
   refine⟨⟨D,Sc,?_⟩,?_⟩
   ·have h0:Sit S (gn S (S.first-1)).next P.vars P.σ r' D Sc:=⟨hsit.hang,h3,hsit.query,hsit.fresh,hsit.goals,hsit.trail⟩
    exact h0.congr u1 u2 u3 e4
   ·have:=hc0.ch.congr (S':={ undoS S' (markS S S.first) with first:=(gn S (S.first-1)).next }) u1 u2 u3 e4
    rw[show ({ undoS S' (markS S S.first) with first:=(gn S (S.first-1)).next }:MS).ch=S.ch from e5]
    exact this
  exact⟨{ P with now:=r',steps:=P.steps+1 },hcore.ch,⟨e6,hf.2⟩,⟨e7.trans (by rw[hs.1]),e8.trans hs.2⟩,⟨_,hcore⟩,by
   rw[show ({ undoS S' (markS S S.first) with first:=(gn S (S.first-1)).next }:MS).H=S.H from u1,show ({ undoS S' (markS S S.first) with first:=(gn S (S.first-1)).next }:MS).G=S.G from u3];exact hroom,by
   rw[show ({ undoS S' (markS S S.first) with first:=(gn S (S.first-1)).next }:MS).T=S.T from u2];exact htr,by
   rw[show ({ undoS S' (markS S S.first) with first:=(gn S (S.first-1)).next }:MS).ch=S.ch from e5];exact hchb⟩
 cases e1:meetH S.H [] 4000 [(a,b)] with
 | ok K B f =>
  obtain rfl:r=({ S with H:=K,T:=S.T++B,f:=f,steps:=S.steps+1 },true):=by rw[← hr];simp only[msame,e1]
  cases h2
 | no K B f =>
  rw[e1] at hbk
  obtain rfl:r=({ S with H:=K,T:=S.T++B,f:=f,steps:=S.steps+1 },false):=by rw[← hr];simp only[msame,e1]
  exact key _ (hext K B hbk _ rfl rfl rfl) rfl rfl hf.1 rfl rfl
 | many K B =>
  obtain rfl:r=({ S with H:=K,T:=S.T++B,f:=0,fin:=3,steps:=S.steps+1 },false):=by rw[← hr];simp only[msame,e1]
  cases h0
theorem take_within{S:MS}{a b:Nat}(hI:HInv S.H)(h0:S.fin=0)(ha:a<S.H.length)(hb:b<S.H.length):Within (msame a b { S with steps:=S.steps+1,f:=4000 }).1 (markS S S.first):=by
 have hk:=msame_keep (S:={ S with steps:=S.steps+1,f:=4000 }) hI h0 (Nat.le_refl _) ha hb
 refine⟨?_,hk.T.1,?_⟩
 ·have:=hk.len;simp only[markS] at *;omega
 ·have:=hk.G;simp only[markS] at *;rw[this];exact Nat.le_refl _
section
variable {p:List Cl} {S:MS}
theorem mtake_var(h:(hc S.H (goalEnd S S.first)).k=1):mtake p S = { S with steps:=S.steps+1,f:=4000,fin:=4 }:=by simp only[mtake,if_pos h]
variable (h1:(hc S.H (goalEnd S S.first)).k=2) {t:Tm} (hn:(hc S.H (goalEnd S S.first)).name=t.name) (hl:(hc S.H (goalEnd S S.first)).n=(t.args.length:Int))
include h1 hn hl
theorem mtake_call(hm:meansB t.name t.args.length=false){r:MS×Bool}(hr:mcall p S.first 0 { S with steps:=S.steps+1,f:=4000 }=r) :
 mtake p S=if r.2=true∨r.1.fin≠0 then r.1 else mback p r.1.ch.length r.1:=by
 subst hr
 simp only[mtake]
 rw[if_neg (show ¬ (hc S.H (goalEnd S S.first)).k=1 by rw[h1];decide),hn,hl,Int.toNat_natCast,if_pos hm]
theorem mtake_cut(hm:meansB t.name t.args.length=true)(n1:t.name=⟨#[33]⟩):mtake p S = { S with steps:=S.steps+1,f:=4000,ch:=S.ch.take (gn S (S.first-1)).cut,first:=(gn S (S.first-1)).next }:=by
 simp only[mtake]
 rw[if_neg (show ¬ (hc S.H (goalEnd S S.first)).k=1 by rw[h1];decide),hn,hl,Int.toNat_natCast,if_neg (by rw[hm];decide),if_pos n1]
theorem mtake_true(hm:meansB t.name t.args.length=true)(n1:t.name≠⟨#[33]⟩)(n2:t.name=⟨#[116,114,117,101]⟩):mtake p S = { S with steps:=S.steps+1,f:=4000,first:=(gn S (S.first-1)).next }:=by
 simp only[mtake]
 rw[if_neg (show ¬ (hc S.H (goalEnd S S.first)).k=1 by rw[h1];decide),hn,hl,Int.toNat_natCast,if_neg (by rw[hm];decide),if_neg n1,if_pos n2]
theorem mtake_fail(hm:meansB t.name t.args.length=true)(n1:t.name≠⟨#[33]⟩)(n2:t.name≠⟨#[116,114,117,101]⟩)(n3:t.name=⟨#[102,97,105,108]⟩):mtake p S=mback p S.ch.length { S with steps:=S.steps+1,f:=4000 }:=by
 simp only[mtake]
 rw[if_neg (show ¬ (hc S.H (goalEnd S S.first)).k=1 by rw[h1];decide),hn,hl,Int.toNat_natCast,if_neg (by rw[hm];decide),if_neg n1,if_neg n2,if_pos n3]
theorem mtake_same(hm:meansB t.name t.args.length=true)(n1:t.name≠⟨#[33]⟩)(n2:t.name≠⟨#[116,114,117,101]⟩)(n3:t.name≠⟨#[102,97,105,108]⟩){r:MS×Bool}(hr:msame (goalEnd S S.first+1) (goalEnd S S.first+2) { S with steps:=S.steps+1,f:=4000 }=r) :
 mtake p S=if r.2=true then { r.1 with first:=(gn S (S.first-1)).next } else if ({ undoS r.1 (markS S S.first) with first:=(gn S (S.first-1)).next }:MS).fin≠0 then { undoS r.1 (markS S S.first) with first:=(gn S (S.first-1)).next } else mback p ({ undoS r.1 (markS S S.first) with first:=(gn S (S.first-1)).next }:MS).ch.length { undoS r.1 (markS S S.first) with first:=(gn S (S.first-1)).next }:=by
 subst hr
 simp only[mtake]
 rw[if_neg (show ¬ (hc S.H (goalEnd S S.first)).k=1 by rw[h1];decide),hn,hl,Int.toNat_natCast,if_neg (by rw[hm];decide),if_neg n1,if_neg n2,if_neg n3]
end
theorem take_no{p:List Cl}(hp:∀ c,c∈p→ClG c){S:MS}{P:PS}(h:TkI p S P){t:Tm}(hF:TkF p S P t)(hv:t.var=0){r:MS×Bool}(hr:mcall p S.first 0 { S with steps:=S.steps+1,f:=4000 }=r)(h2:r.2=false):∃ P2,BkI p r.1 P2:=by
 have hout:=call_sim hp _ 0 _ _ rfl (hF.call hv) h.room
 rw[hr] at hout
 obtain⟨o1,o2,o3⟩:=hout
 obtain⟨q1,q2,q3,q4,q5,q6,q7,q8⟩:=o3 h2
 exact⟨_,q1.ch,q1.fin,q1.same,q1.weak,by rw[q2,q4];exact h.room,by rw[q3];exact h.tr,by rw[q5];exact h.chb⟩
end Go.Proofs.Ytikmgiapjigghab
