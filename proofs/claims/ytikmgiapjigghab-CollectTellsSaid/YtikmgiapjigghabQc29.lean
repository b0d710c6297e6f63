/- Plain: what a goal that is taken rests on. -/
import Derived.Deep.DeepCutAuto
import Derived.Deep.RegionHeld3
import Derived.Test.YtikmgiapjigghabQc12
import Derived.Test.YtikmgiapjigghabQc16
import Derived.Test.YtikmgiapjigghabQc19
import Derived.Test.YtikmgiapjigghabQc24
import Derived.Test.YtikmgiapjigghabQc26
import Derived.Test.YtikmgiapjigghabQc27
import Derived.Test.YtikmgiapjigghabQc28
set_option maxRecDepth 100000
set_option maxHeartbeats 8000000
namespace Go.Proofs.Ytikmgiapjigghab
open Go.RowKit
structure TkI(p:List Cl)(S:MS)(P:PS):Prop where
 core:gW p S P
 ne:P.now≠[]
 fin:S.fin=0∧P.fin=0
 same:S.steps=P.steps∧S.ans=P.ans
 room:S.H.length+833≤400000∧S.G.length+6≤5000
 tr:S.T.length≤100000000
 chb:S.ch.length≤100000000
structure TkF(p:List Cl)(S:MS)(P:PS)(t:Tm):Prop where
 num:1≤S.first∧S.first≤S.G.length∧(gn S (S.first-1)).at'<S.H.length
 lt:aF S S.first<S.H.length
 heap:dZ S.H
 var:t.var≠0→(hc S.H (aF S S.first)).k=1
 fn:t.var=0→(hc S.H (aF S S.first)).k=2∧(hc S.H (aF S S.first)).name=t.name∧(hc S.H (aF S S.first)).n=(t.args.length:Int)
 args:t.var=0→∀i,i<t.args.length→aF S S.first+1+i<S.H.length
 call:t.var=0→fM p {S with steps:=S.steps+1,f:=4000} {P with steps:=P.steps+1,f:=4000} S.first P.now t
 start:BkI p {S with steps:=S.steps+1,f:=4000} {P with steps:=P.steps+1,f:=4000}
theorem aM1{p:List Cl}{S:MS}{P:PS}(h:TkI p S P):∃t,TkF p S P t:=by
 obtain⟨hc0,hne,hf,hs,hroom,htr,hchb⟩:=h;obtain⟨D,Sc,hsit⟩:=hc0.sit;obtain⟨g,r,h1,h2,h3,h4,h5⟩:=hsit.goal hne;obtain⟨t,ht⟩:∃t,t=look P.σ (iM P.now):=⟨_,rfl⟩
 have htg:t=look P.σ g.1:=by rw[ht,h1];rfl
 obtain⟨k1,k2,-,-,k5,k6⟩:=hsit.hang.look h5;rw[←htg] at k1 k5 k6;have hG:uN S P S.first P.now t D Sc g r:=⟨hsit,h1,h2,h3,h4,h5,k1,k2⟩
 obtain⟨c5,c6⟩:=hG.cell htg;have hcr:gW p {S with steps:=S.steps+1,f:=4000} {P with steps:=P.steps+1,f:=4000}:=⟨⟨D,Sc,hsit.congr rfl rfl rfl rfl⟩,hc0.ch.congr rfl rfl rfl rfl⟩
 refine⟨t,⟨h4.2.1,h4.2.2.1,h4.2.2.2⟩,k2,hsit.hang.heap,c5,fun hv=>⟨(c6 hv).1,(c6 hv).2.1,(c6 hv).2.2.1⟩,fun hv i hi=>((c6 hv).2.2.2 i hi).lt,fun hv=>?_,?_⟩
 ·exact⟨⟨D,Sc,hsit.congr rfl rfl rfl rfl⟩,hc0.ch.congr rfl rfl rfl rfl,rfl,⟨rfl,nR _⟩,hne,⟨ht,hv⟩,hf,⟨by simp only;rw[hs.1],hs.2⟩⟩
 ·exact⟨hcr.ch,hf,⟨by simp only;rw[hs.1],hs.2⟩,⟨_,hcr⟩,hroom,htr,hchb⟩
theorem bH0{p:List Cl}{S:MS}{P:PS}(h:TkI p S P){a b:Nat}(ha:a<S.H.length)(hb:b<S.H.length){r:MS×Bool}(hr:cQ a b {S with steps:=S.steps+1,f:=4000}=r)(h2:r.2=false)(h0:r.1.fin=0) :
 ∃P2,BkI p {aK r.1 (aZ S S.first) with first:=(gn S (S.first-1)).next} P2:=by
 obtain⟨hc0,hne,hf,hs,hroom,htr,hchb⟩:=h;obtain⟨D,Sc,hsit⟩:=hc0.sit;obtain⟨g,r',h1,-,h3,h4,h5⟩:=hsit.goal hne;have hbk:=kQ 4000 S.H [] [(a,b)] hsit.hang.heap (fun x hx=>by rw[List.mem_singleton] at hx;subst hx;exact⟨ha,hb⟩);have hext:∀(K:List HC) (B:List Nat),gH S.H [] K B→∀S':MS,S'.H=K→S'.T=S.T++B→S'.G=S.G→Ext S S':=fun K B ⟨b1,b,b2,b3,b4⟩ S' x1 x2 x3=>by
  rw[List.nil_append] at b2;subst b2;exact⟨by rw[x1];omega,⟨B,x2,fun i hi _=>(b3 i hi).2,fun i hl hn=>by rw[x1];exact b4 i hl hn⟩,⟨[],by rw[x3,List.append_nil]⟩⟩
 have key:∀S':MS,Ext S S'→S'.Q=S.Q→S'.ch=S.ch→S'.fin=0→S'.steps=S.steps+1→S'.ans=S.ans→∃P2,BkI p {aK S' (aZ S S.first) with first:=(gn S (S.first-1)).next} P2:=fun S' hx e4 e5 e6 e7 e8=>by
  obtain⟨u1,u2,u3⟩:=hx.back S.first
  have hcore:gW p {aK S' (aZ S S.first) with first:=(gn S (S.first-1)).next} {P with now:=r',steps:=P.steps+1}:=by
   refine⟨⟨D,Sc,?_⟩,?_⟩
   ·have h0:Sit S (gn S (S.first-1)).next P.vars P.σ r' D Sc:=⟨hsit.hang,h3,hsit.query,hsit.fresh,hsit.goals,hsit.trail⟩
    exact h0.congr u1 u2 u3 e4
   ·have:=hc0.ch.congr (S':={aK S' (aZ S S.first) with first:=(gn S (S.first-1)).next}) u1 u2 u3 e4
    rw[show ({aK S' (aZ S S.first) with first:=(gn S (S.first-1)).next}:MS).ch=S.ch from e5];exact this
  exact⟨{P with now:=r',steps:=P.steps+1},hcore.ch,⟨e6,hf.2⟩,⟨e7.trans (by rw[hs.1]),e8.trans hs.2⟩,⟨_,hcore⟩,by
   rw[show ({aK S' (aZ S S.first) with first:=(gn S (S.first-1)).next}:MS).H=S.H from u1,show ({aK S' (aZ S S.first) with first:=(gn S (S.first-1)).next}:MS).G=S.G from u3];exact hroom,by
   rw[show ({aK S' (aZ S S.first) with first:=(gn S (S.first-1)).next}:MS).T=S.T from u2];exact htr,by
   rw[show ({aK S' (aZ S S.first) with first:=(gn S (S.first-1)).next}:MS).ch=S.ch from e5];exact hchb⟩
 cases e1:dE S.H [] 4000 [(a,b)] with
 | ok K B f =>
  obtain rfl:r=({S with H:=K,T:=S.T++B,f:=f,steps:=S.steps+1},true):=by rw[←hr];simp only[cQ,e1]
  cases h2
 | no K B f =>
  rw[e1] at hbk;obtain rfl:r=({S with H:=K,T:=S.T++B,f:=f,steps:=S.steps+1},false):=by rw[←hr];simp only[cQ,e1]
  exact key _ (hext K B hbk _ rfl rfl rfl) rfl rfl hf.1 rfl rfl
 | many K B =>
  obtain rfl:r=({S with H:=K,T:=S.T++B,f:=0,fin:=3,steps:=S.steps+1},false):=by rw[←hr];simp only[cQ,e1]
  cases h0
theorem aH1{S:MS}{a b:Nat}(hI:dZ S.H)(h0:S.fin=0)(ha:a<S.H.length)(hb:b<S.H.length):jP (cQ a b {S with steps:=S.steps+1,f:=4000}).1 (aZ S S.first):=by
 have hk:=pA (S:={S with steps:=S.steps+1,f:=4000}) hI h0 (nR _) ha hb;refine⟨?_,hk.T.1,?_⟩
 ·have:=hk.len;simp only[aZ] at *;omega
 ·have:=hk.G;simp only[aZ] at *;rw[this];exact nR _
section
variable {p:List Cl} {S:MS}
theorem aT0(h:(hc S.H (aF S S.first)).k=1):eS p S = {S with steps:=S.steps+1,f:=4000,fin:=4}:=by simp only[eS,if_pos h]
variable (h1:(hc S.H (aF S S.first)).k=2) {t:Tm} (hn:(hc S.H (aF S S.first)).name=t.name) (hl:(hc S.H (aF S S.first)).n=(t.args.length:Int))
include h1 hn hl
theorem aM2(hm:cG t.name t.args.length=false){r:MS×Bool}(hr:dG p S.first 0 {S with steps:=S.steps+1,f:=4000}=r) :
 eS p S=if r.2=true∨r.1.fin≠0 then r.1 else eL p r.1.ch.length r.1:=by
 subst hr;simp only[eS];rw[if_neg (show ¬(hc S.H (aF S S.first)).k=1 by rw[h1];decide),hn,hl,Int.toNat_natCast,if_pos hm]
theorem aT1(hm:cG t.name t.args.length=true)(n1:t.name=⟨#[33]⟩):eS p S = {S with steps:=S.steps+1,f:=4000,ch:=S.ch.take (gn S (S.first-1)).cut,first:=(gn S (S.first-1)).next}:=by
 simp only[eS];rw[if_neg (show ¬(hc S.H (aF S S.first)).k=1 by rw[h1];decide),hn,hl,Int.toNat_natCast,if_neg (by rw[hm];decide),if_pos n1]
theorem aM3(hm:cG t.name t.args.length=true)(n1:t.name≠⟨#[33]⟩)(n2:t.name=⟨#[116,114,117,101]⟩):eS p S = {S with steps:=S.steps+1,f:=4000,first:=(gn S (S.first-1)).next}:=by
 simp only[eS];rw[if_neg (show ¬(hc S.H (aF S S.first)).k=1 by rw[h1];decide),hn,hl,Int.toNat_natCast,if_neg (by rw[hm];decide),if_neg n1,if_pos n2]
theorem aM4(hm:cG t.name t.args.length=true)(n1:t.name≠⟨#[33]⟩)(n2:t.name≠⟨#[116,114,117,101]⟩)(n3:t.name=⟨#[102,97,105,108]⟩):eS p S=eL p S.ch.length {S with steps:=S.steps+1,f:=4000}:=by
 simp only[eS];rw[if_neg (show ¬(hc S.H (aF S S.first)).k=1 by rw[h1];decide),hn,hl,Int.toNat_natCast,if_neg (by rw[hm];decide),if_neg n1,if_neg n2,if_pos n3]
theorem aM5(hm:cG t.name t.args.length=true)(n1:t.name≠⟨#[33]⟩)(n2:t.name≠⟨#[116,114,117,101]⟩)(n3:t.name≠⟨#[102,97,105,108]⟩){r:MS×Bool}(hr:cQ (aF S S.first+1) (aF S S.first+2) {S with steps:=S.steps+1,f:=4000}=r) :
 eS p S=if r.2=true then {r.1 with first:=(gn S (S.first-1)).next} else if ({aK r.1 (aZ S S.first) with first:=(gn S (S.first-1)).next}:MS).fin≠0 then {aK r.1 (aZ S S.first) with first:=(gn S (S.first-1)).next} else eL p ({aK r.1 (aZ S S.first) with first:=(gn S (S.first-1)).next}:MS).ch.length {aK r.1 (aZ S S.first) with first:=(gn S (S.first-1)).next}:=by
 subst hr;simp only[eS];rw[if_neg (show ¬(hc S.H (aF S S.first)).k=1 by rw[h1];decide),hn,hl,Int.toNat_natCast,if_neg (by rw[hm];decide),if_neg n1,if_neg n2,if_neg n3]
end
theorem bH1{p:List Cl}(hp:∀c,c∈p→ClG c){S:MS}{P:PS}(h:TkI p S P){t:Tm}(hF:TkF p S P t)(hv:t.var=0){r:MS×Bool}(hr:dG p S.first 0 {S with steps:=S.steps+1,f:=4000}=r)(h2:r.2=false):∃P2,BkI p r.1 P2:=by
 have hout:=qO hp _ 0 _ _ rfl (hF.call hv) h.room;rw[hr] at hout;obtain⟨o1,o2,o3⟩:=hout;obtain⟨q1,q2,q3,q4,q5,q6,q7,q8⟩:=o3 h2;exact⟨_,q1.ch,q1.fin,q1.same,q1.weak,by rw[q2,q4];exact h.room,by rw[q3];exact h.tr,by rw[q5];exact h.chb⟩
structure bD1(V0:World)(B base:Nat)(m:Mac)(d:MAd):Prop where
 lt:B<V0.heap.size∧base≤V0.heap.size
 ne:∀b,bk d.h=some b→b≠B
 fits:∀b,bk d.h=some b→base≤b∧b<V0.heap.size
 g:cZ V0 (fun b=>b<V0.heap.size∧b≠B∧bk d.h≠some b) 3 m.G.length (cE m.G) d.g d.gn
 c:cZ V0 (fun b=>b<V0.heap.size∧b≠B∧bk d.h≠some b) 5 m.ch.length (cW m.ch) d.c d.cn
 t:dC V0 (fun b=>b<V0.heap.size∧b≠B∧bk d.h≠some b) m.T d.t d.tn
 q:dC V0 (fun b=>b<V0.heap.size∧b≠B∧bk d.h≠some b) m.Q d.q d.qn
 a:lF V0 (fun b=>b<V0.heap.size∧b≠B∧bk d.h≠some b) m.ans d.a d.an
theorem OwM.lasC{w1 V0:World}{B base:Nat}{okA:Nat→Prop}{m:Mac}{d:MAd}(h:OwM w1 base okA m d)(hB:w1.heap.size≤B)(hBV:B<V0.heap.size)(hb:base≤w1.heap.size)(ht:Below w1.heap.size w1 V0):bD1 V0 B base m d:=by
 have hs:=ht.size;have hn:=h.ne;unfold Nd at hn;simp only[List.pairwise_cons,List.mem_cons,List.not_mem_nil,or_false,forall_eq_or_imp,forall_eq] at hn;obtain⟨⟨n1,n2,n3,n4,n5⟩,-⟩:=hn;have hk:aD (fun b=>b<w1.heap.size∧b≠B∧bk d.h≠some b) w1 V0:=aD.below ht _;have key:∀{e:TypeId} {k n n' c:Nat} {a:Option Addr} {vs:List Value},w1.ownsRow base e k (.slice a n c) n' vs→(∀b,bk d.h=some b→bk a≠some b)→∀b,(Value.slice a n c).ownBlock=some b→b<w1.heap.size∧b≠B∧bk d.h≠some b:=fun hr hne b hb =>
  ⟨(hr.lt b hb).2,fun e=>by have:=(hr.lt b hb).2;omega,fun e=>hne b e ((aE _ _ _).symm.trans hb)⟩
 refine⟨⟨hBV,by omega⟩,fun b hb=>?_,fun b hb=>?_,?_,?_,?_,?_,?_⟩
 ·have:=h.h.row.lt b ((aE _ _ _).trans hb);omega
 ·have:=h.h.row.lt b ((aE _ _ _).trans hb);omega
 ·obtain⟨a,c,e,hr⟩:=cZ.of_row (ok:=fun b=>b<w1.heap.size∧b≠B∧bk d.h≠some b) h.g (dN _) (key h.g n1)
  injection e with e1 _ e2;subst e1;subst e2;exact(hr.keep hk).mono fun b _ hb=>⟨by omega,hb.2⟩
 ·obtain⟨a,c,e,hr⟩:=cZ.of_row (ok:=fun b=>b<w1.heap.size∧b≠B∧bk d.h≠some b) h.c (eQ _) (key h.c n2)
  injection e with e1 _ e2;subst e1;subst e2;exact(hr.keep hk).mono fun b _ hb=>⟨by omega,hb.2⟩
 ·obtain⟨a,c,e,hr⟩:=dC.of_row (ok:=fun b=>b<w1.heap.size∧b≠B∧bk d.h≠some b) h.t (key h.t n3)
  injection e with e1 _ e2;subst e1;subst e2;exact(hr.keep hk).mono fun b _ hb=>⟨by omega,hb.2⟩
 ·obtain⟨a,c,e,hr⟩:=dC.of_row (ok:=fun b=>b<w1.heap.size∧b≠B∧bk d.h≠some b) h.q (key h.q n4)
  injection e with e1 _ e2;subst e1;subst e2;exact(hr.keep hk).mono fun b _ hb=>⟨by omega,hb.2⟩
 ·obtain⟨A,e1,e2,e3⟩:=h.a
  obtain⟨a,c,e,hr⟩:=lF.of_row (ok:=fun b=>b<w1.heap.size∧b≠B∧bk d.h≠some b) e2 (key e2 n5) fun x hx=>(e3 x hx).mono fun b hb h=>⟨hb,by omega,fun e=>h.2 _ List.mem_cons_self e⟩
  rw[e1] at e hr;injection e with f1 _ f2;subst f1;subst f2;exact(hr.keep hk).mono fun b _ hb=>⟨by omega,hb.2⟩
theorem jZ.touchC{V0 W W':World}{B base:Nat}{m:Mac}{d:MAd}{mi:Mac}(h:jZ V0 B base m d mi W)(hb:bD1 V0 B base m d)(ht:aA (fun b=>V0.heap.size≤b) W W'):jZ V0 B base m d mi W':=by
 have h0:=hb.lt;refine⟨h.box.keep (ht.block B h.box.lt (by omega)),h.own.keep fun g hg=>?_,h.keep.trans (ht.mono fun b _ e=>.inr (.inr e))⟩;have hg':=hb.fits g ((aE _ _ _).symm.trans hg);exact ht.block g (by have:=h.keep.size;omega) (by omega)
theorem jZ.keepsC{V0 W:World}{B base:Nat}{m:Mac}{d:MAd}{mi:Mac}(h:jZ V0 B base m d mi W):aD (fun b=>b<V0.heap.size∧b≠B∧bk d.h≠some b) V0 W:=h.keep.keeps fun b hb e=>by
 rcases e with e|e|e
 ·exact hb.2.1 e
 ·exact hb.2.2 e
 ·omega
theorem jZ.macC{V0 W:World}{B base:Nat}{m:Mac}{d:MAd}{mi:Mac}(h:jZ V0 B base m d mi W)(hb:bD1 V0 B base m d)(hu:iW m mi):bO W (fun _=>True) mi d:=by
 have hk:=h.keepsC;obtain⟨kg,hg1,hg2⟩:=hu.g;obtain⟨kt,ht1,ht2⟩:=hu.t;refine⟨?_,?_,?_,?_,?_,?_⟩
 ·obtain⟨a,c,e,hr⟩:=dV.of_row (ok:=fun _=>True) h.own.row (fun _ _=>trivial) h.own.fits
  injection e with e1 _ e2;subst e1;subst e2;exact hr
 ·rw[hg2];exact((hb.g.keep hk).takeG kg).mono fun _ _ _=>trivial
 ·rw[hu.c];exact(hb.c.keep hk).mono fun _ _ _=>trivial
 ·rw[ht2];exact((hb.t.keep hk).take kt).mono fun _ _ _=>trivial
 ·rw[hu.q];exact(hb.q.keep hk).mono fun _ _ _=>trivial
 ·rw[hu.a];exact(hb.a.keep hk).mono fun _ _ _=>trivial
theorem jZ.uatC{V0 W:World}{B base:Nat}{m:Mac}{d:MAd}{mi:Mac}(h:jZ V0 B base m d mi W)(hb:bD1 V0 B base m d)(hu:iW m mi):UAt W B 0 (mi.vals d).toArray 30 base mi.H mi.T mi.G.length d.h d.t d.g d.hn d.tn d.gn:=by
 have hk:=h.keepsC;obtain⟨kg,hg1,hg2⟩:=hu.g;obtain⟨kt,ht1,ht2⟩:=hu.t;refine⟨h.box.blk,rfl,rfl,rfl,h.own,?_,fun e=>hb.ne B ((aE _ _ _).symm.trans e) rfl,?_⟩
 ·rw[ht2];exact((hb.t.keep hk).take kt).mono fun b _ hb=>⟨hb.2.1,fun e=>hb.2.2 ((aE _ _ _).symm.trans e)⟩
 ·have:=hb.g.cap;rw[hg2,List.length_take];omega
theorem aT8{W wr:World}{B:Nat}{vs:Array Value}{ty:TypeId}{base:Nat}{H:List HC}{T:List Int}{nG:Nat}{ha ta ga:Option Addr}{hn tn gn:Nat}(hU:UAt W B 0 vs ty base H T nG ha ta ga hn tn gn){c:Chi}
 (hH:0≤c.heap∧c.heap≤(H.length:Int)) (HO:eT wr base (.slice ha H.length hn) (dM c.heap (T.drop c.trail.toNat) H)) (HT:aA (fun b=>(Value.slice ha H.length hn).ownBlock=some b) W wr) :
 nN W B 0 vs ty base H T ha ta ga hn tn gn c (.returned (.tuple #[])) (((wr.setCell ⟨B,0,none⟩ (.slice ha c.heap.toNat hn)).setCell ⟨B,4,none⟩ (.slice ta c.trail.toNat tn)).setCell ⟨B,1,none⟩ (.slice ga c.goals.toNat gn)):=by
 have zB:B<W.heap.size:=(gS hU.blk).1;have hkB:wr.heap[B]? = some (.cells vs ty (0,0)):=(HT.block B zB hU.ne).trans hU.blk;have z1:=aB wr B 0 (.slice ha c.heap.toNat hn) hkB;have z2:=aB _ B 4 (.slice ta c.trail.toNat tn) z1;have z3:=aB _ B 1 (.slice ga c.goals.toNat gn) z2;have hcut:=HO.cut (k:=c.heap.toNat) (by rw[dH];omega);have hown:eT (((wr.setCell ⟨B,0,none⟩ (.slice ha c.heap.toNat hn)).setCell ⟨B,4,none⟩ (.slice ta c.trail.toNat tn)).setCell ⟨B,1,none⟩ (.slice ga c.goals.toNat gn)) base (.slice ha c.heap.toNat hn) ((dM c.heap (T.drop c.trail.toNat) H).take c.heap.toNat):=hcut.keep fun g hg=>by
  have hgB:g≠B:=fun e=>hU.ne (by
   cases ha with
   | none=>cases hg
   | some a=>rw[←e];exact hg)
  rw[Below.heap_setCell _ _ _ _ hgB,Below.heap_setCell _ _ _ _ hgB,Below.heap_setCell _ _ _ _ hgB]
 have hto:aA (fun b=>b=B∨(Value.slice ha H.length hn).ownBlock=some b) W (((wr.setCell ⟨B,0,none⟩ (.slice ha c.heap.toNat hn)).setCell ⟨B,4,none⟩ (.slice ta c.trail.toNat tn)).setCell ⟨B,1,none⟩ (.slice ga c.goals.toNat gn)) :=
  (((HT.mono fun b _ e=>.inr e).trans (aA.setCell _ (.inl rfl))).trans (aA.setCell _ (.inl rfl))).trans (aA.setCell _ (.inl rfl))
 exact⟨⟨_,rfl⟩,hto,z3,hown⟩
structure eI(w:World)(bF base:Nat)(vs:List Value)(R:Nat→List Nat):Prop where
 blk:w.heap[bF]? = some (.cells vs.toArray 27 (0,0))
 row:∀j (h:j<vs.length),w.ownsRow base 3 1 vs[j] (R j).length ((R j).map fun v:Nat=>Value.int .i64 (v:Int))
 sep:∀i j (hi:i<vs.length) (hj:j<vs.length) b,vs[i].ownBlock=some b→vs[j].ownBlock=some b→i=j
 lt:bF<base
theorem eI.get{w:World}{bF base:Nat}{vs:List Value}{R:Nat→List Nat}(h:eI w bF base vs R)(i:Nat)(hi:i<vs.length):w.cell? ⟨bF,i,none⟩=some vs[i]:=by simp[World.cell?,h.blk,hi]
theorem eI.fz{w:World}{bF base:Nat}{vs:List Value}{R:Nat→List Nat}(h:eI w bF base vs R)(o:Nat):w.frozen? ⟨bF,o,none⟩=false:=by simp[World.frozen?,h.blk]
theorem eI.bl{w:World}{bF base:Nat}{vs:List Value}{R:Nat→List Nat}(h:eI w bF base vs R):bF<w.heap.size:=(gS h.blk).1
theorem eI.form{w:World}{bF base:Nat}{vs:List Value}{R:Nat→List Nat}(h:eI w bF base vs R)(i:Nat)(hi:i<vs.length):∃a c,vs[i]=.slice a (R i).length c:=by
 rcases (h.row i hi).2 with ⟨h1,h2⟩|⟨g,cap,cur,h1,_⟩
 ·exact⟨none,0,by rw[h1,h2]⟩
 ·exact⟨_,_,h1⟩
theorem eI.keep{w w':World}{bF base:Nat}{vs:List Value}{R:Nat→List Nat}(h:eI w bF base vs R)(h1:w'.heap[bF]? = w.heap[bF]?)(h2:∀j (hj:j<vs.length) b,vs[j].ownBlock=some b→w'.heap[b]? = w.heap[b]?):eI w' bF base vs R :=
 ⟨h1.trans h.blk,fun j hj=>aC (h.row j hj) fun g hg=>h2 j hj g hg,h.sep,h.lt⟩
theorem eI.below{w w':World}{bF base:Nat}{vs:List Value}{R:Nat→List Nat}(h:eI w bF base vs R)(hb:Below w.heap.size w w'):eI w' bF base vs R :=
 h.keep (hb.block _ h.bl) fun j hj b e=>hb.block b ((h.row j hj).lt b e).2
theorem eI.push{w X X2:World}{bF base:Nat}{vs:List Value}{R:Nat→List Nat}(h:eI w bF base vs R)(hX:Below w.heap.size w X){t i:Nat}(ht:t<vs.length){v':Value}
 (ho:X2.ownsRow base 3 1 v' ((R t).length+1) ((R t).map (fun v:Nat=>Value.int .i64 (v:Int))++[.int .i64 (i:Int)])) (hg:X.grownBy X2 vs[t].ownBlock) (hf:cF X vs[t] v') :
 eI (X2.setCell ⟨bF,t,none⟩ v') bF base (vs.set t v') (fun j=>R j++if t=j then [i] else [])∧aA (fun b=>b=bF∨vs[t].ownBlock=some b) w (X2.setCell ⟨bF,t,none⟩ v') ∧
 (∀j (hj:j<(vs.set t v').length) b,(vs.set t v')[j].ownBlock=some b→(∃hj':j<vs.length,vs[j].ownBlock=some b)∨w.heap.size≤b):=by
 have hxt:=fun b e=>(h.row t ht).lt b e
 have hne:vs[t].ownBlock≠some bF:=fun e=>by have:=(hxt _ e).1;have:=h.lt;omega
 have hv:∀b,v'.ownBlock=some b→vs[t].ownBlock=some b∨w.heap.size≤b:=fun b e=>by
  rcases hf with e2|e2
  ·exact .inl (e2 ▸ e)
  ·exact .inr (Nat.le_trans hX.size (e2 b e))
 have hbF:X2.heap[bF]? = w.heap[bF]?:=(hg.block bF (by have:=hX.size;have:=h.bl;omega) (fun e=>hne e.symm)).trans (hX.block _ h.bl);have hT:aA (fun b=>b=bF∨vs[t].ownBlock=some b) w (X2.setCell ⟨bF,t,none⟩ v') :=
  ((aA.below hX).trans (aA.grown hg fun k e=>.inr e)).trans (aA.setCell _ (.inl rfl))
 have hgt:∀j (hj:j<(vs.set t v').length),(vs.set t v')[j]=if t=j then v' else vs[j]'(by simpa using hj):=fun j hj=>List.getElem_set ..
 refine⟨⟨?_,fun j hj=>?_,fun a b ha hb c e1 e2=>?_,h.lt⟩,hT,fun j hj b e=>?_⟩
 ·rw[aB _ _ _ _ (hbF.trans h.blk)];simp
 ·rw[hgt j hj]
  by_cases e:t=j
  ·subst e
   rw[if_pos rfl,if_pos rfl,List.length_append,List.map_append];refine aC ho fun g hg'=>Below.heap_setCell _ _ _ _ (fun e=>?_)
   subst e;rcases hv _ hg' with h1|h1
   ·exact hne h1
   ·have:=h.bl;omega
  ·rw[if_neg e,if_neg e,List.append_nil]
   have hj':j<vs.length:=by simpa using hj
   refine aC (h.row j hj') fun g hg'=>hT.block g ((h.row j hj').lt g hg').2 ?_
   rintro (e2|e2)
   ·subst e2;have:=((h.row j hj').lt _ hg').1;have:=h.lt;omega
   ·exact e (h.sep t j ht hj' g e2 hg')
 ·rw[hgt a ha] at e1
  rw[hgt b hb] at e2;have ha':a<vs.length:=by simpa using ha
  have hb':b<vs.length:=by simpa using hb
  by_cases h1:t=a
  ·by_cases h2:t=b
   ·omega
   ·rw[if_pos h1] at e1;rw[if_neg h2] at e2
    rcases hv _ e1 with h3|h3
    ·exact absurd (h.sep t b ht hb' c h3 e2) h2
    ·have:=((h.row b hb').lt c e2).2;omega
  ·by_cases h2:t=b
   ·rw[if_neg h1] at e1;rw[if_pos h2] at e2
    rcases hv _ e2 with h3|h3
    ·exact absurd (h.sep t a ht ha' c h3 e1) h1
    ·have:=((h.row a ha').lt c e1).2;omega
   ·rw[if_neg h1] at e1;rw[if_neg h2] at e2
    exact h.sep a b ha' hb' c e1 e2
 ·rw[hgt j hj] at e
  have hj':j<vs.length:=by simpa using hj
  by_cases h1:t=j
  ·subst h1;rw[if_pos rfl] at e
   rcases hv _ e with h3|h3
   ·exact .inl ⟨hj',h3⟩
   ·exact .inr h3
  ·rw[if_neg h1] at e;exact .inl ⟨hj',e⟩
theorem Try.infoInts:(Try.prog.info? 27).map (fun i=>(i.zero,i.size,i.bytes))=some (some (.slice none 0 0),1,24):=by kernel_rfl
theorem aQ4(w:World)(n:Nat)(hn:n≤1000000):(Instr.makeSlice 144 (.int .i64 (n:Int)) (.int .i64 (n:Int))).run Try.prog w=.ok (.slice (some ⟨w.heap.size,0,none⟩) n n) (w.alloc (.cells (List.replicate n (Value.slice none 0 0)).toArray 27)):=by
 obtain⟨i0,hi0,hz0,hz1,hz2⟩:=info_parts Try.infoInts;have:=run_make (P:=Try.prog) w 144 27 i0 _ Try.underlying144 hi0 hz0 .i64 .i64 n n (by omega) (Int.le_refl _) (by rw[hz2];omega) (by omega);rw[this,hz1];simp only[Int.toNat_natCast,Nat.mul_one];congr 3;apply Array.ext';show (madeCells #[Value.slice none 0 0] n).toList=_;rw[toList_madeCells_one]
theorem eI.made(w:World)(n:Nat):eI (w.alloc (.cells (List.replicate n (Value.slice none 0 0)).toArray 27)) w.heap.size (w.heap.size+1) (List.replicate n (Value.slice none 0 0)) (bU []):=by
 refine⟨heap_alloc_new w _,fun j hj=>?_,fun i j hi hj b e _=>?_,Nat.lt_succ_self _⟩
 ·rw[List.getElem_replicate];exact World.ownsRow_nil _ _ _ _
 ·rw[List.getElem_replicate] at e;cases e
structure tZ(w:World)(okF:Nat→Prop)(bF n:Nat)(R:Nat→List Nat):Prop where
 at':∀j,j<n→∃a c,w.cell? ⟨bF,j,none⟩=some (.slice a (R j).length c)∧dC w okF ((R j).map fun v:Nat=>(v:Int)) a c
 ok:okF bF∧bF<w.heap.size
theorem tZ.keep{w w':World}{okF:Nat→Prop}{bF n:Nat}{R:Nat→List Nat}(h:tZ w okF bF n R)(hk:aD okF w w'):tZ w' okF bF n R :=
 ⟨fun j hj=>by
  obtain⟨a,c,h1,h2⟩:=h.at' j hj;exact⟨a,c,(hk.cell (p:=⟨bF,j,none⟩) h.ok.1 h.ok.2).trans h1,h2.keep hk⟩,h.ok.1,nT h.ok.2 hk.size⟩
theorem eI.done{w:World}{bF base:Nat}{vs:List Value}{R:Nat→List Nat}(h:eI w bF base vs R){okF:Nat→Prop}(h1:okF bF)(h2:∀j (hj:j<vs.length) b,vs[j].ownBlock=some b→okF b):tZ w okF bF vs.length R :=
 ⟨fun j hj=>by
  have e1:((R j).map fun v:Nat=>(v:Int)).length=(R j).length:=by simp
  have e2:((R j).map fun v:Nat=>(v:Int)).map (fun x=>Value.int .i64 x)=(R j).map fun v:Nat=>Value.int .i64 (v:Int):=by simp
  obtain⟨a,c,he,hi⟩:=dC.of_row (l:=(R j).map fun v:Nat=>(v:Int)) (ok:=okF) (by rw[e1,e2];exact h.row j hj) (fun b e=>h2 j hj b e);rw[List.length_map] at he;exact⟨a,c,he ▸ h.get j hj,hi⟩,h1,h.bl⟩
theorem sK(E:List (Nat×Nat))(j:Nat):(bU E j).length≤E.length:=by
 unfold bU;rw[List.length_map];exact List.length_filter_le _ _
theorem aJ4{K:List HC}(h:dK K){i:Nat}(hi:i<K.length):(leads K i).length≤4:=by
 unfold leads;rcases bV (h i hi) with ⟨h1,_⟩|⟨h1,_,h2,h3,_⟩
 ·rw[if_pos h1];split <;> simp
 ·rw[if_neg (by omega)];simp;omega
theorem aC9{K:List HC}(h:dK K):∀n:Nat,n≤K.length→(jO (leads K) n).length≤4*n:=by
 intro n
 induction n with
 | zero=>intro _;simp[jO]
 | succ n ih =>
  intro hn;have:=ih (by omega);have:=aJ4 h (i:=n) (by omega);rw[rL,List.length_append,List.length_map];omega
theorem aJ5(L:Nat→List Nat)(i k:Nat)(hk:k<(L i).length)(E:List (Nat×Nat)):bU (E++((L i).take (k+1)).map fun t=>(t,i))=fun j=>bU (E++((L i).take k).map fun t=>(t,i)) j++if (L i)[k]=j then [i] else []:=by
 funext j;rw[List.take_succ_eq_append_getElem hk,List.map_append,←List.append_assoc,iJ];show _++bU [((L i)[k],i)] j=_;rw[mQ]
structure nU(w wr:World)(K:List HC)(i:Nat)(l1:List Int)(vs:List Value)(E:List (Nat×Nat)):Prop where
 left:fH wr w.heap.size l1
 len:l1.length=K.length
 lv:∀v (h:v<l1.length),v<i→l1[v]=((leads K v).length:Int)
 rows:eI wr (w.heap.size+1) (w.heap.size+2) vs (bU E)
 vlen:vs.length=K.length
 below:Below w.heap.size w wr
 size:w.heap.size+2≤wr.heap.size
theorem nU.next{w wr w2:World}{K:List HC}{i:Nat}{l1:List Int}{vs:List Value}{E:List (Nat×Nat)}(h:nU w wr K i l1 vs E)(hb:Below wr.heap.size wr w2):nU w w2 K i l1 vs E :=
 ⟨h.left.below hb,h.len,h.lv,h.rows.below hb,h.vlen,h.below.trans (hb.mono h.below.size),Nat.le_trans h.size hb.size⟩
theorem nU.put{w wr:World}{K:List HC}{i:Nat}{l1:List Int}{vs:List Value}{E:List (Nat×Nat)}(h:nU w wr K i l1 vs E):nU w (wr.setCell ⟨w.heap.size,i,none⟩ (.int .i64 ((leads K i).length:Int))) K (i+1) (l1.set i ((leads K i).length:Int)) vs E:=by
 have hs:(wr.setCell ⟨w.heap.size,i,none⟩ (.int .i64 ((leads K i).length:Int))).heap.size=wr.heap.size:=by simp[World.setCell]
 refine⟨h.left.set i _,by rw[List.length_set];exact h.len,fun v hv hvi=>?_,h.rows.keep (Below.heap_setCell _ _ _ _ (by show w.heap.size+1≠w.heap.size;omega)) (fun j hj b e=>Below.heap_setCell _ _ _ _ (by have:=((h.rows.row j hj).lt b e).1;show b≠w.heap.size;omega)),h.vlen,h.below.setCell (nR _) _,by rw[hs];exact h.size⟩;rw[List.getElem_set];by_cases e:i=v
 ·subst e;rw[if_pos rfl]
 ·rw[if_neg e];exact h.lv v (by simpa using hv) (by omega)
theorem nU.tell{w wr X X2:World}{K:List HC}{i j:Nat}{l1:List Int}{vs:List Value}{E:List (Nat×Nat)}(h:nU w wr K i l1 vs E)(hX:Below wr.heap.size wr X){t:Nat}(ht:t<vs.length){v':Value}
 (ho:X2.ownsRow (w.heap.size+2) 3 1 v' ((bU E t).length+1) ((bU E t).map (fun v:Nat=>Value.int .i64 (v:Int))++[.int .i64 (j:Int)])) (hg:X.grownBy X2 vs[t].ownBlock) (hf:cF X vs[t] v') :
 nU w (X2.setCell ⟨w.heap.size+1,t,none⟩ v') K i l1 (vs.set t v') (E++[(t,j)])∧aA (fun b=>b=w.heap.size+1∨vs[t].ownBlock=some b) wr (X2.setCell ⟨w.heap.size+1,t,none⟩ v') ∧
 (∀q (hj:q<(vs.set t v').length) b,(vs.set t v')[q].ownBlock=some b→(∃hj':q<vs.length,vs[q].ownBlock=some b)∨wr.heap.size≤b):=by
 obtain⟨h1,h2,h3⟩:=h.rows.push hX ht ho hg hf;have e:bU (E++[(t,j)])=fun q=>bU E q++if t=q then [j] else []:=by
  funext q;rw[iJ,mQ]
 have hb:Below w.heap.size wr (X2.setCell ⟨w.heap.size+1,t,none⟩ v'):=h2.toBelow h.below.size (fun b e=>e.elim (fun e=>by omega) (fun e=>by have:=((h.rows.row t ht).lt b e).1;omega));refine⟨⟨h.left.keep (h2.block _ h.left.lt (fun e=>e.elim (fun e=>by omega) (fun e=>by have:=((h.rows.row t ht).lt _ e).1;omega))),h.len,h.lv,by rw[e];exact h1,by rw[List.length_set];exact h.vlen,h.below.trans hb,Nat.le_trans h.size h2.size⟩,h2,h3⟩
structure KW(w wz:World)(K:List HC)(base:Nat)(okF:Nat→Prop)(xa:Option Addr)(xc:Nat)(G:List Nat)(left:Nat→Nat):Prop where
 row:wz.ownsRow base 3 1 (.slice xa G.length xc) G.length (G.map fun v:Nat=>Value.int .i64 (v:Int))
 ints:fH wz w.heap.size ((List.range K.length).map fun v:Nat=>((left v:Nat):Int))
 frm:tZ wz okF (w.heap.size+1) K.length (bU (jO (leads K) K.length))
 below:Below w.heap.size w wz
 okl:∀b,okF b→b<base∧b≠w.heap.size
 size:w.heap.size<base∧base≤wz.heap.size
theorem KW.next{w wz w2:World}{K:List HC}{base:Nat}{okF:Nat→Prop}{xa:Option Addr}{xc:Nat}{G:List Nat}{left:Nat→Nat}(h:KW w wz K base okF xa xc G left)(hb:Below wz.heap.size wz w2):KW w w2 K base okF xa xc G left :=
 ⟨aH h.row hb,h.ints.below hb,h.frm.keep (aD.below hb _),h.below.trans (hb.mono h.below.size),h.okl,h.size.1,Nat.le_trans h.size.2 hb.size⟩
theorem KW.left{w wz:World}{K:List HC}{base:Nat}{okF:Nat→Prop}{xa:Option Addr}{xc:Nat}{G:List Nat}{left:Nat→Nat}(h:KW w wz K base okF xa xc G left){v:Nat}(hv:v<K.length):wz.cell? ⟨w.heap.size,v,none⟩=some (.int .i64 (left v:Nat)):=by
 have:=h.ints.get v (by simpa using hv);simpa using this
theorem KW.goes{w wz:World}{K:List HC}{base:Nat}{okF:Nat→Prop}{xa:Option Addr}{xc:Nat}{G:List Nat}{left:Nat→Nat}(h:KW w wz K base okF xa xc G left){k:Nat}(hk:k<G.length):∃g,xa=some ⟨g,0,none⟩∧g<wz.heap.size∧base≤g∧wz.cell? ⟨g,k,none⟩=some (.int .i64 (G[k]:Nat))∧G.length≤xc∧xc≤maxLen:=by
 obtain⟨g,cap,he⟩:=bQ h.row (by omega);cases he;have hl:=h.row.lt g rfl;refine⟨g,rfl,hl.2,hl.1,?_,?_⟩
 ·rw[h.row.cellAt k (by omega)];simp[hk]
 ·rcases h.row.2 with ⟨e,_⟩|⟨g',cap',cur,e,_,_,h1,h2,_⟩
  ·cases e
  ·cases e;exact⟨h1,h2⟩
theorem KW.dec{w wz:World}{K:List HC}{base:Nat}{okF:Nat→Prop}{xa:Option Addr}{xc:Nat}{G:List Nat}{left:Nat→Nat}(h:KW w wz K base okF xa xc G left){v:Nat}(h1:1≤left v) :
 KW w (wz.setCell ⟨w.heap.size,v,none⟩ (.int .i64 ((left v:Int)-1))) K base okF xa xc G (fun u=>if u=v then left v-1 else left u):=by
 have hs:(wz.setCell ⟨w.heap.size,v,none⟩ (.int .i64 ((left v:Int)-1))).heap.size=wz.heap.size:=by simp[World.setCell]
 refine⟨aC h.row fun g hg=>Below.heap_setCell _ _ _ _ (by have:=(h.row.lt g hg).1;have:=h.size.1;show g≠w.heap.size;omega),?_,h.frm.keep ⟨by rw[hs];exact nR _,fun b hb _=>Below.heap_setCell _ _ _ _ (h.okl b hb).2⟩,h.below.setCell (nR _) _,h.okl,h.size.1,by rw[hs];exact h.size.2⟩;have h2:=h.ints.set v ((left v:Int)-1);have e:((List.range K.length).map fun u:Nat=>((left u:Nat):Int)).set v ((left v:Int)-1)=(List.range K.length).map fun u:Nat=>(((if u=v then left v-1 else left u):Nat):Int):=by
  refine List.ext_getElem (by simp) fun i hi hj=>?_
  rw[List.getElem_set];simp only[List.getElem_map,List.getElem_range];by_cases e:v=i
  ·subst e;rw[if_pos rfl,if_pos rfl];omega
  ·rw[if_neg e,if_neg (fun h=>e h.symm)]
 rw[e] at h2;exact h2
theorem KW.push{w wz X X2:World}{K:List HC}{base:Nat}{okF:Nat→Prop}{xa:Option Addr}{xc:Nat}{G:List Nat}{left:Nat→Nat}(h:KW w wz K base okF xa xc G left)(hX:Below wz.heap.size wz X){v:Nat}{a:Option Addr}{c:Nat}
 (ho:X2.ownsRow base 3 1 (.slice a (G.length+1) c) (G.length+1) (G.map (fun v:Nat=>Value.int .i64 (v:Int))++[.int .i64 (v:Int)])) (hg:X.grownBy X2 (Value.slice xa G.length xc).ownBlock):KW w X2 K base okF a c (G++[v]) left:=by
 have hx:=h.next hX;have hT:aA (fun b=>(Value.slice xa G.length xc).ownBlock=some b) X X2:=aA.grown hg fun k e=>e
 refine⟨by rw[List.length_append,List.map_append];exact ho,hx.ints.keep (hT.block _ hx.ints.lt fun e=>by have:=(hx.row.lt _ e).1;have:=h.size.1;omega),hx.frm.keep (hT.keeps fun b hb e=>by have:=(hx.row.lt _ e).1;have:=(h.okl b hb).1;omega),hx.below.trans (hT.toBelow hx.below.size fun b e=>by have:=(hx.row.lt _ e).1;have:=h.size.1;omega),h.okl,h.size.1,Nat.le_trans hx.size.2 hT.size⟩
theorem aX2{L:Nat→List Nat}{n j v:Nat}(h:v∈bU (jO L n) j):v<n:=by
 have h1:0<(bU (jO L n) j).count v:=List.count_pos_iff.2 h;rw[mR] at h1;split at h1
 ·assumption
 ·omega
theorem aQ5(p:Nat→Bool)(i:Nat):(List.range (i+1)).filter p=(List.range i).filter p++if p i=true then [i] else []:=by
 rw[List.range_succ,List.filter_append];congr 1;by_cases h:p i=true <;> simp[h]
theorem nU.ends{w wr:World}{K:List HC}{l1:List Int}{vs:List Value}(h:nU w wr K K.length l1 vs (jO (leads K) K.length)) :
 KW w wr K wr.heap.size (fun b=>w.heap.size+1≤b∧b<wr.heap.size) none 0 [] (fun v=>(leads K v).length):=by
 have e:l1=(List.range K.length).map fun v:Nat=>(((leads K v).length:Nat):Int):=List.ext_getElem (by rw[h.len];simp) fun i hi hj=>by
  rw[h.lv i hi (by rw[←h.len];exact hi)];simp
 have hf:=h.rows.done (okF:=fun b=>w.heap.size+1≤b∧b<wr.heap.size) ⟨nR _,h.rows.bl⟩ (fun j hj b e=>⟨by have:=((h.rows.row j hj).lt b e).1;omega,((h.rows.row j hj).lt b e).2⟩);rw[h.vlen] at hf;exact⟨World.ownsRow_nil _ _ _ _,e ▸ h.left,hf,h.below,fun b hb=>⟨hb.2,by have:=hb.1;omega⟩,by have:=h.size;omega,nR _⟩
theorem zG{w:World}{ok:Nat→Prop}{K:List HC}{a:Option Addr}{cap:Nat}(h:dV w ok K a cap)(hK:dK K)(hlen:K.length≤400000) :
 Calls Try.prog 67 #[.slice a K.length cap] w fun e w'=>e=.returned (.bool (fK K))∧Below w.heap.size w w':=by
 have HP:=lh h;have HK:=lh hK;have HLN:=lh hlen;have hcl:K.length≤9223372036854775807:=by omega
 have hmk:=aR4 w K.length (by omega);have hmk2:=aQ4 (w.alloc (.cells ((List.replicate K.length 0).map fun v:Int=>Value.int .i64 v).toArray 3)) K.length (by omega);have hs1:(w.alloc (.cells ((List.replicate K.length 0).map fun v:Int=>Value.int .i64 v).toArray 3)).heap.size=w.heap.size+1:=by simp only[aSz]
 have HR0:=eI.made (w.alloc (.cells ((List.replicate K.length 0).map fun v:Int=>Value.int .i64 v).toArray 3)) K.length;have HI0:fH ((w.alloc (.cells ((List.replicate K.length 0).map fun v:Int=>Value.int .i64 v).toArray 3)).alloc (.cells (List.replicate K.length (Value.slice none 0 0)).toArray 27)) w.heap.size (List.replicate K.length 0):=(fH.mk (heap_alloc_new w _)).below ((bR _ _).alloc (nR _) _);have HB0:Below w.heap.size w ((w.alloc (.cells ((List.replicate K.length 0).map fun v:Int=>Value.int .i64 v).toArray 3)).alloc (.cells (List.replicate K.length (Value.slice none 0 0)).toArray 27)):=((bR _ _).alloc (nR _) _).alloc (by omega) _;have hs2:((w.alloc (.cells ((List.replicate K.length 0).map fun v:Int=>Value.int .i64 v).toArray 3)).alloc (.cells (List.replicate K.length (Value.slice none 0 0)).toArray 27)).heap.size=w.heap.size+2:=by rw[aSz,hs1]
 rw[hs1] at HR0 hmk2;have HS0:Hid (nU w ((w.alloc (.cells ((List.replicate K.length 0).map fun v:Int=>Value.int .i64 v).toArray 3)).alloc (.cells (List.replicate K.length (Value.slice none 0 0)).toArray 27)) K 0 (List.replicate K.length 0) (List.replicate K.length (Value.slice none 0 0)) (jO (leads K) 0)):=lh ⟨HI0,by simp,fun v _ hv=>absurd hv (Nat.not_lt_zero v),HR0,by simp,HB0,by rw[hs2];exact nR _⟩;obtain⟨j0,hj0,hy0,hy1,hy2⟩:=info_parts Try.infoInt;clear h hK HR0 HI0 HB0 hs1;have e1:((List.replicate K.length 0).map fun v:Int=>Value.int .i64 v).toArray=Array.replicate K.length (.int .i64 0):=by simp
 have e2:(List.replicate K.length (Value.slice none 0 0)).toArray=Array.replicate K.length (Value.slice none 0 0):=by simp
 rw[e1] at hmk hmk2 HS0 hs2;rw[e2] at hmk2 HS0 hs2;clear e1 e2;go_enter Try.func67,Try.ntmps67;go_wp2_with fail;generalize (w.alloc (.cells (Array.replicate K.length (Value.int .i64 0)) 3)).alloc (.cells (Array.replicate K.length (Value.slice none 0 0)) 27)=wa at *;clear hmk hmk2
 go_loopw[5] (fun v5 wr=>∃(i:Nat) (l1:List Int) (vs:List Value),i≤K.length∧v5=.int .i64 i∧Hid (nU w wr K i l1 vs (jO (leads K) i))) (fun v5 _=>K.length-(intOf v5).toNat)
 case atStart=>exact⟨0,_,_,Nat.zero_le _,rfl,HS0⟩
 case round =>
  obtain⟨i,l1,vs,hi,rfl,HSK⟩:=hrel;by_cases hlt:i<K.length
  ·have HLD:=lh (aD0 (HP.out.below HSK.out.below) HK.out HLN.out hlt)
   have HLS:=lh (kE (HK.out i hlt));have HLT:=lh (fun j hj=>iF HK.out i hlt j hj);have HES:=lh (rL (leads K) i);have HEL:=lh (aC9 HK.out i hi);have HSX:=lh (fun k hk E=>aJ5 (leads K) i k hk E);have HPT:=lh (fun wq hq=>(HSK.out.next (w2:=wq) hq).put);go_wp2_with (go_at_call 38;refine HLD.out.mono ?_;rintro e w1 ⟨hb1,al,cl,rfl,hia⟩;have HIA:=lh (hia.mono (ok':=fun b=>wr.heap.size≤b∧b<w1.heap.size) fun b h1 h2=>⟨h2,h1⟩);have HB1:=lh hb1;have g0:=(HSK.out.left.below hb1).get i (by rw[HSK.out.len];exact hlt);have gf:=(HSK.out.left.below hb1).fz;clear hia hb1);have HA:Hid (nU w (w1.setCell ⟨w.heap.size,i,none⟩ (.int .i64 ((leads K i).length:Int))) K (i+1) (l1.set i ((leads K i).length:Int)) vs (jO (leads K) i++((leads K i).take 0).map fun t=>(t,i))):=lh (by rw[List.take_zero];simpa using HPT.out w1 HB1.out);have hsa:(w1.setCell ⟨w.heap.size,i,none⟩ (.int .i64 ((leads K i).length:Int))).heap.size=w1.heap.size:=by simp[World.setCell]
   obtain⟨okL,hokL⟩:∃okL:Nat→Prop,okL=(fun b=>wr.heap.size≤b∧b<w1.heap.size):=⟨_,rfl⟩
   have HIB:Hid (dC (w1.setCell ⟨w.heap.size,i,none⟩ (.int .i64 ((leads K i).length:Int))) okL ((leads K i).map fun v:Nat=>(v:Int)) al cl):=lh (hokL ▸ HIA.out.keep ⟨by rw[hsa];exact nR _,fun b hb _=>Below.heap_setCell _ _ _ _ (by have:=HSK.out.size;show b≠w.heap.size;omega)⟩);have HVB:Hid (∀j (hj:j<vs.length) b,vs[j].ownBlock=some b→¬okL b):=lh (fun j hj b e h=>by rw[hokL] at h;have:=((HSK.out.rows.row j hj).lt b e).2;omega);have HOL:Hid (∀b,okL b→b<(w1.setCell ⟨w.heap.size,i,none⟩ (.int .i64 ((leads K i).length:Int))).heap.size):=lh (fun b h=>by rw[hokL] at h;rw[hsa];exact h.2);have HBFL:Hid (¬okL (w.heap.size+1)):=lh (fun h=>by rw[hokL] at h;have:=HSK.out.size;omega);clear hsa hokL g0 gf HSK HLD HPT HIA HB1;generalize w1.setCell ⟨w.heap.size,i,none⟩ (.int .i64 ((leads K i).length:Int))=wb at *;generalize l1.set i ((leads K i).length:Int)=l2 at *;generalize wr=wq at *;generalize hLL:leads K i=LL at *;clear hLL
   go_loopw[7] (fun v7 wz=>∃(k:Nat) (vs':List Value),k≤LL.length∧v7=.int .i64 k∧Hid (nU w wz K (i+1) l2 vs' (jO (leads K) i++(LL.take k).map fun t=>(t,i)))∧Hid (dC wz okL (LL.map fun v:Nat=>(v:Int)) al cl)∧Hid (∀j (hj:j<vs'.length) b,vs'[j].ownBlock=some b→¬okL b)∧Hid (wb.heap.size≤wz.heap.size)) (fun v7 _=>LL.length-(intOf v7).toNat)
   case atStart=>exact⟨0,vs,Nat.zero_le _,rfl,HA,HIB,HVB,lh (nR _)⟩
   case round =>
    obtain⟨k,vs2,hk,rfl,HSK,HIL,HVN,HWZ⟩:=hrel;by_cases hkl:k<LL.length
    ·have hls4:=HLS.out
     obtain⟨bl,ol,rfl,hokl,hbl,hcl1⟩:=HIL.out.at' k (by simpa using hkl);have htn:LL[k]<K.length:=HLT.out _ (List.getElem_mem hkl);obtain⟨t,ht⟩:∃t,LL[k]=t:=⟨_,rfl⟩
     simp only[List.getElem_map] at hcl1;rw[ht] at hcl1 htn;have htv:t<vs2.length:=by rw[HSK.out.vlen];exact htn
     have HTE:Hid (∀E,E++((LL.take (k+1)).map fun t=>(t,i))=(E++(LL.take k).map fun t=>(t,i))++[(t,i)]):=lh (fun E=>by rw[List.take_succ_eq_append_getElem hkl,ht];simp);have hEL:(bU (jO (leads K) i++(LL.take k).map fun t=>(t,i)) t).length≤2000000:=by
      refine Nat.le_trans (sK _ _) ?_;rw[List.length_append,List.length_map,List.length_take];have:=HEL.out;have:=HLS.out;omega
     obtain⟨E,hE⟩:∃E,(jO (leads K) i++(LL.take k).map fun t=>(t,i))=E:=⟨_,rfl⟩
     have HTE2:Hid ((jO (leads K) i++(LL.take (k+1)).map fun t=>(t,i))=E++[(t,i)]):=lh (by rw[HTE.out,hE]);rw[hE] at HSK hEL;clear hE;obtain⟨xa,xc,hxv⟩:=HSK.out.rows.form t htv;have f0:=HSK.out.rows.get t htv;have ff:=HSK.out.rows.fz;have hrow:=HSK.out.rows.row t htv;obtain⟨ne,hne⟩:∃ne,(bU E t).length=ne:=⟨_,rfl⟩
     have HNE:=lh hne;rw[hne] at hrow hxv hEL;have HXV:=lh hxv;clear hne;have BXX:Below wr.heap.size wr ((wr.alloc (.cells #[.int .i64 (i:Int)] 3)).drew):=((bR _ _).alloc (nR _) _).drew;have HBX:=lh BXX;have HROW:Hid (((wr.alloc (.cells #[.int .i64 (i:Int)] 3)).drew).ownsRow (w.heap.size+2) 3 1 (.slice xa ne xc) ne ((bU E t).map fun v:Nat=>Value.int .i64 (v:Int))):=lh (by rw[←hxv];exact aH hrow BXX);have hbF:w.heap.size+1<wr.heap.size:=HSK.out.rows.bl;have HROB:=lh (fun b e=>(hrow.lt b e));rw[hxv] at f0;have KH:Hid (∀u,Below wr.heap.size wr u→u.cell? ⟨bl,ol+k,none⟩=some (.int .i64 (t:Int))∧u.cell? ⟨w.heap.size+1,t,none⟩=some (.slice xa ne xc)∧(∀o,u.frozen? ⟨w.heap.size+1,o,none⟩=false)):=lh (fun u hu=>⟨(hu.cell (p:=⟨bl,_,none⟩) hbl).trans hcl1,(hu.cell (p:=⟨w.heap.size+1,_,none⟩) hbF).trans f0,fun o=>(hu.frozen (p:=⟨w.heap.size+1,_,none⟩) hbF).trans (ff o)⟩);have HVL:=lh hbl;have HOKL:=lh hokl;have HBF':=lh hbF;clear hrow BXX hxv;go_wp2_with fail
     go_region_law (first
      | (
       refine eB _ (by rfl) _ _ _ (by rfl) (w.heap.size+2) 3 j0 _ 1 8 Try.underlying27 hj0 hy0 hy1 hy2 rfl (by decide) (.slice xa ne xc) ne ((bU E t).map fun v:Nat=>Value.int .i64 (v:Int)) (by rfl) HROW.out (some ⟨wr.heap.size,0,none⟩) 1 1 (by intro h;cases h) [.int .i64 (i:Int)] (by rfl) rfl (by intro ad had;cases had;exact dT wr _ _) (by intro u hu;simp only[List.mem_singleton] at hu;subst hu;rfl) (by unfold maxLen;omega) (by omega) (by have:=HSK.out.size;have:=HBX.out.size;omega) ?_;intro v9 w9 hown9 hg9 hf9;obtain⟨g9,cap9,rfl⟩:=bQ hown9 (by omega);have htell:=HSK.out.tell (j:=i) HBX.out htv (by rw[HNE.out];exact hown9) (by rw[HXV.out];exact hg9) (by rw[HXV.out];exact hf9);have HTL:=lh htell.1;have HTT:=lh htell.2.1;have HTB:=lh htell.2.2;have hb9:w9.heap[w.heap.size+1]? = wr.heap[w.heap.size+1]?:=(hg9.block _ (by have:=HBX.out.size;have:=HBF'.out;omega) (fun e=>by rw[←HXV.out] at e;have:=(HROB.out _ e.symm).1;omega)).trans (HBX.out.block _ HBF'.out);have hl9:w9.heap[bl]? = wr.heap[bl]?:=(hg9.block _ (by have:=HBX.out.size;have:=HVL.out;omega) (fun e=>by rw[←HXV.out] at e;exact HVN.out t htv bl e.symm HOKL.out)).trans (HBX.out.block _ HVL.out);obtain⟨m0,m1,m2⟩:(w9.cell? ⟨bl,ol+k,none⟩=some (.int .i64 (t:Int))∧w9.cell? ⟨w.heap.size+1,t,none⟩=some (.slice xa ne xc)∧(∀o,w9.frozen? ⟨w.heap.size+1,o,none⟩=false)):=⟨(World.cell?_of_block (a:=⟨bl,ol+k,none⟩) hl9).trans (KH.out _ (bR _ _)).1,(World.cell?_of_block (a:=⟨w.heap.size+1,t,none⟩) hb9).trans (KH.out _ (bR _ _)).2.1,fun o=>(World.frozen?_of_block (a:=⟨w.heap.size+1,o,none⟩) hb9).trans ((KH.out _ (bR _ _)).2.2 o)⟩
       clear htell hown9 hg9 hf9 hb9 hl9))
     all_goals
      go_wp2_with fail;go_roundw
      case measure=>simp[intOf];omega
      case rel =>
       have hsz:=HTT.out.size;exact⟨k+1,_,by omega,by go_num,lh (by rw[HTE2.out];exact HTL.out),lh (HIL.out.keep (HTT.out.keeps fun b hb e=>e.elim (fun e=>by subst e;exact HBFL.out hb) (fun e=>HVN.out t htv b e hb))),lh (fun j hj b e=>by
        rcases HTB.out j hj b e with ⟨h1,h2⟩|h1
        ·exact HVN.out j h1 b h2
        ·exact fun h2=>by have h3:=HOL.out b h2;have h4:=HWZ.out;omega),lh (Nat.le_trans HWZ.out hsz)⟩
    ·have HSE:Hid (nU w wr K (i+1) l2 vs2 (jO (leads K) (i+1))):=lh (by
      have:=HSK.out;rw[List.take_of_length_le (by omega)] at this;rw[HES.out];exact this)
     go_wp2_with fail;go_roundw
     case measure=>simp[intOf];omega
     case rel=>exact⟨i+1,l2,vs2,by omega,by go_num,HSE⟩
  ·have hin:i=K.length:=by omega
   subst hin;have HKW:=lh HSK.out.ends;have HLT:=lh (fun i hi j hj=>iF HK.out i hi j hj);have HKS:=lh (Kah.start (L:=leads K) (n:=K.length) (left:=fun v=>(leads K v).length) (fun _ _=>rfl));have hbs:=HSK.out.rows.bl;clear HSK;generalize wr=wo at *;go_wp2_with fail
   go_loopw[8,9] (fun v8 v9 wz=>∃(i:Nat) (xa:Option Addr) (xc:Nat),i≤K.length∧v9=.int .i64 i∧v8=.slice xa ((List.range i).filter fun v=>(leads K v).length == 0).length xc∧Hid (KW w wz K wo.heap.size (fun b=>w.heap.size+1≤b∧b<wo.heap.size) xa xc ((List.range i).filter fun v=>(leads K v).length == 0) (fun v=>(leads K v).length))) (fun _ v9 _=>K.length-(intOf v9).toNat)
   case atStart=>exact⟨0,none,0,Nat.zero_le _,rfl,rfl,HKW⟩
   case round =>
    obtain⟨i,xa,xc,hi,rfl,rfl,HW⟩:=hrel;by_cases hlt3:i<K.length
    ·have d0:=HW.out.left hlt3
     have dsz:=HW.out.size;have hgl:((List.range i).filter fun v=>(leads K v).length == 0).length≤i:=by
      have:=List.length_filter_le (fun v=>(leads K v).length == 0) (List.range i)
      rwa [List.length_range] at this
     have HFS:=lh (aQ5 (fun v=>(leads K v).length == 0) i);generalize hG:(List.range i).filter (fun v=>(leads K v).length == 0)=G at *;by_cases hz:(leads K i).length=0
     ·have hz':(((leads K i).length:Int) == 0)=true:=by rw[hz];rfl
      have HF2:Hid ((List.range (i+1)).filter (fun v=>(leads K v).length == 0)=G++[i]):=lh (by rw[HFS.out,if_pos (by simpa using hz)]);have HOO:=lh (HW.out.row.alloc (.cells #[.int .i64 (i:Int)] 3));have HBX:Hid (Below wr.heap.size wr (wr.alloc (.cells #[.int .i64 (i:Int)] 3))):=lh ((bR _ _).alloc (nR _) _);clear hG HFS;go_wp2_with (at_builtin;have _g:=HOO;refine aJ _ rfl _ _ 27 rfl wo.heap.size 3 j0 _ 1 8 Try.underlying27 hj0 hy0 hy1 hy2 rfl (by decide) _ _ _ rfl HOO.out (some ⟨wr.heap.size,0,none⟩) 1 1 ?p0 [.int .i64 (i:Int)] rfl rfl ?p1 ?p2 ?p3 ?p4 ?p5 ?_)
      case p0=>intro h;cases h
      case p1=>intro ad had;cases had;exact dT wr (.int .i64 (i:Int)) 3
      case p2=>intro u hu;simp only[List.mem_singleton] at hu;subst hu;rfl
      case p3=>unfold maxLen;omega
      case p4=>omega
      case p5=>simp only[aSz];omega
      ·intro v8 w8 hown8 hgrow8 hfr8
       obtain⟨g8,cap8,rfl⟩:=bQ hown8 (by omega);have HP8:=lh (HW.out.push HBX.out hown8 hgrow8);clear hown8 hgrow8 hfr8;go_wp2_with fail;go_roundw
       case measure=>simp[intOf];omega
       case rel=>exact⟨i+1,_,_,by omega,by go_num,by rw[HF2.out,List.length_append];rfl,by rw[HF2.out];exact HP8⟩
     ·have hz':(((leads K i).length:Int) == 0)=false:=by rw[beq_eq_false_iff_ne];omega
      have HF2:Hid ((List.range (i+1)).filter (fun v=>(leads K v).length == 0)=G):=lh (by rw[HFS.out,if_neg (by simpa using hz),List.append_nil]);clear hG HFS;go_wp2_with fail;go_roundw
      case measure=>simp[intOf];omega
      case rel=>exact⟨i+1,_,_,by omega,by go_num,by rw[HF2.out],by rw[HF2.out];exact HW⟩
    ·have hin:i=K.length:=by omega
     subst hin;generalize hG:(List.range K.length).filter (fun v=>(leads K v).length == 0)=G0 at *;generalize hl0:(fun v=>(leads K v).length)=left0 at *;clear hG hl0 HKW;generalize (fun b=>w.heap.size+1≤b∧b<wo.heap.size)=okF at *;generalize wr=wy at *;generalize wo.heap.size=base at *;have HW0:=HW;clear HW;have HAE:=lh (aC9 HK.out K.length (nR _));go_wp2_with fail
     go_loopw[8,10] (fun v8 v10 wz=>∃(k:Nat) (G:List Nat) (left:Nat→Nat) (xa:Option Addr) (xc:Nat),v10=.int .i64 k∧v8=.slice xa G.length xc∧Hid (Kah (leads K) K.length G k [] left)∧Hid (KW w wz K base okF xa xc G left)) (fun _ v10 _=>K.length-(intOf v10).toNat)
     case atStart=>exact⟨0,G0,left0,xa,xc,rfl,rfl,HKS,HW0⟩
     case round =>
      obtain⟨k,G,left,xa,xc,rfl,rfl,HKA,HW⟩:=hrel;have hGn:=(jH K.length G HKA.out.nodup HKA.out.lt).1;have hkl:=HKA.out.kl;by_cases hk:k<G.length
      ·obtain⟨ga,rfl,hga,hgb,d0,hgc,hgm⟩:=HW.out.goes hk
       obtain⟨g,hg⟩:∃g,G[k]=g:=⟨_,rfl⟩
       have hgk:g<K.length:=by rw[←hg];exact HKA.out.lt _ (List.getElem_mem hk)
       rw[hg] at d0;have HG0:Hid (∃h:k<G.length,G[k]=g):=lh ⟨hk,hg⟩;obtain⟨la,lc,f0,hia⟩:=HW.out.frm.at' g hgk;have HIA:=lh hia;have hRl:(bU (jO (leads K) K.length) g).length≤1600000:=by
        have:=sK (jO (leads K) K.length) g;have:=HAE.out;omega
       obtain⟨R,hR⟩:∃R,bU (jO (leads K) K.length) g=R:=⟨_,rfl⟩
       have HRR:=lh hR;rw[hR] at f0 HIA hRl;have HRM:Hid (∀v,v∈R→v<K.length):=lh (fun v hv=>by rw[←hR] at hv;exact aX2 hv);clear hg hia hR;have hgcm:xc≤9223372036854775807:=by unfold maxLen at hgm;omega
       have HT0:Hid (Kah (leads K) K.length G k (R.take 0) left):=HKA;generalize wr=wq at *;go_wp2_with fail
       go_loopw[8,12] (fun v8 v12 wz=>∃(i:Nat) (G':List Nat) (left':Nat→Nat) (xb:Option Addr) (xd:Nat),i≤R.length∧v12=.int .i64 i∧v8=.slice xb G'.length xd∧Hid (Kah (leads K) K.length G' k (R.take i) left')∧Hid (KW w wz K base okF xb xd G' left')∧Hid (∃h:k<G'.length,G'[k]=g)∧Hid (dC wz okF (R.map fun v:Nat=>(v:Int)) la lc)) (fun _ v12 _=>R.length-(intOf v12).toNat)
       case atStart=>exact⟨0,G,left,_,_,Nat.zero_le _,rfl,rfl,HT0,HW,HG0,HIA⟩
       case round =>
        obtain⟨i,G',left',xb,xd,hi,rfl,rfl,HKB,HWB,HGB,HIB⟩:=hrel;by_cases hil:i<R.length
        ·obtain⟨lb,lo,rfl,hokl,hlb,e0⟩:=HIB.out.at' i (by simpa using hil)
         simp only[List.getElem_map] at e0;obtain⟨v,hv⟩:∃v,R[i]=v:=⟨_,rfl⟩
         have hvn:v<K.length:=HRM.out v (by rw[←hv];exact List.getElem_mem hil);rw[hv] at e0;have HD:Hid (bU (jO (leads K) K.length) (G'[k]'HGB.out.1)=R.take i++v::R.drop (i+1)):=lh (by
          rw[HGB.out.2,HRR.out,←hv,List.getElem_cons_drop,List.take_append_drop])
         have HTS:Hid (R.take (i+1)=R.take i++[v]):=lh (by rw[List.take_succ_eq_append_getElem hil,hv]);obtain⟨hl1,htl⟩:=HKB.out.tell HGB.out.1 hvn HD.out;have HTL:=lh (htl (fun u=>if u=v then left' v-1 else left' u) (fun u=>rfl));have e1:=HWB.out.left hvn;have ef:=HWB.out.ints.fz;have hne:=(HWB.out.okl lb hokl).2;have hGn2:=(jH K.length G' HKB.out.nodup HKB.out.lt).1;have hbL:w.heap.size<wr.heap.size:=HWB.out.ints.lt;have HDC:=lh (HWB.out.dec hl1);have HKI:Hid (I64 ((left' v:Nat):Int)):=lh (by
          have h1:=HKB.out.cnt v hvn;have h2:Go.Proofs.Ytikmgiapjigghab.cnt (leads K) (G'.take k) v≤(leads K v).length:=List.countP_le_length;have h3:=kE (HK.out v hvn);unfold I64;omega)
         have hlI:(left' v:Int)≤4:=by
          have h1:=HKB.out.cnt v hvn;have h2:Go.Proofs.Ytikmgiapjigghab.cnt (leads K) (G'.take k) v≤(leads K v).length:=List.countP_le_length;have h3:=kE (HK.out v hvn);omega
         have HIC:Hid (dC (wr.setCell ⟨w.heap.size,v,none⟩ (.int .i64 ((left' v:Int)-1))) okF (R.map fun v:Nat=>(v:Int)) (some ⟨lb,lo,none⟩) lc):=lh (HIB.out.keep ⟨by simp[World.setCell],fun b hb _=>Below.heap_setCell _ _ _ _ (HWB.out.okl b hb).2⟩);have hz2:=HDC.out.size;clear htl hv;by_cases hone:left' v=1
         ·have hz':((left' v:Int)-1 == 0)=true:=by rw[hone];rfl
          have HK2:=lh (HTL.out.1 hone);have HOO:=lh (HDC.out.row.alloc (.cells #[.int .i64 (v:Int)] 3));have HBX:=lh ((Below.refl (wr.setCell ⟨w.heap.size,v,none⟩ (.int .i64 ((left' v:Int)-1))).heap.size _).alloc (nR _) (.cells #[.int .i64 (v:Int)] 3));have HSW:Hid ((wr.setCell ⟨w.heap.size,v,none⟩ (.int .i64 ((left' v:Int)-1))).heap.size=wr.heap.size):=lh (by simp[World.setCell]);have hoc:=lh (dT (wr.setCell ⟨w.heap.size,v,none⟩ (.int .i64 ((left' v:Int)-1))) (.int .i64 (v:Int)) 3);rw[HSW.out] at hoc;clear hone;go_wp2_with (at_builtin;have _g:=HOO;refine aJ _ rfl _ _ 27 rfl base 3 j0 _ 1 8 Try.underlying27 hj0 hy0 hy1 hy2 rfl (by decide) _ _ _ rfl HOO.out (some ⟨wr.heap.size,0,none⟩) 1 1 ?q0 [.int .i64 (v:Int)] rfl rfl ?q1 ?q2 ?q3 ?q4 ?q5 ?_)
          case q0=>intro h;cases h
          case q1=>intro ad had;cases had;exact hoc.out
          case q2=>intro u hu;simp only[List.mem_singleton] at hu;subst hu;rfl
          case q3=>unfold maxLen;omega
          case q4=>omega
          case q5=>have:=HBX.out.size;omega
          ·intro v8 w8 hown8 hgrow8 hfr8
           obtain⟨g8,cap8,rfl⟩:=bQ hown8 (by omega);have HP8:=lh (HDC.out.push HBX.out hown8 hgrow8);have HT8:Hid (aA (fun b=>(Value.slice xb G'.length xd).ownBlock=some b) (wr.setCell ⟨w.heap.size,v,none⟩ (.int .i64 ((left' v:Int)-1))) w8):=lh ((aA.below HBX.out).trans (aA.grown hgrow8 fun k e=>e));have HI8:=lh (HIC.out.keep (HT8.out.keeps fun b hb e=>by have:=(HWB.out.row.lt b e).1;have:=(HWB.out.okl b hb).1;omega));clear hown8 hgrow8 hfr8;go_wp2_with fail;go_roundw
           case measure=>simp[intOf];omega
           case rel=>exact⟨i+1,G'++[v],_,_,_,by omega,by go_num,by rw[List.length_append];rfl,lh (by rw[HTS.out];exact HK2.out),HP8,lh ⟨by rw[List.length_append];have:=HGB.out.1;omega,by rw[List.getElem_append_left HGB.out.1];exact HGB.out.2⟩,HI8⟩
         ·have hz':((left' v:Int)-1 == 0)=false:=by rw[beq_eq_false_iff_ne];omega
          have HK2:=lh (HTL.out.2 hone);go_wp2_with fail;go_roundw
          case measure=>simp[intOf];omega
          case rel=>exact⟨i+1,G',_,_,_,by omega,by go_num,rfl,lh (by rw[HTS.out];exact HK2.out),HDC,HGB,HIC⟩
        ·have HKE:Hid (Kah (leads K) K.length G' (k+1) [] left'):=lh (by
          have:=HKB.out;rw[List.take_of_length_le (by omega)] at this;exact this.gone HGB.out.1 (by rw[HGB.out.2,HRR.out]))
         have hGn2:=(jH K.length G' HKB.out.nodup HKB.out.lt).1;have hkg:=HGB.out.1;go_wp2_with fail;go_roundw
         case measure=>simp[intOf];omega
         case rel=>exact⟨k+1,G',left',xb,xd,by go_num,rfl,HKE,HWB⟩
      ·have HDN:=lh (HKA.out.done (by omega) (fun i hi j hj=>HLT.out i hi j hj))
       have HBW:=lh HW.out.below;by_cases hfin:G.length=K.length
       ·have hfin':((G.length:Int) == (K.length:Int))=true:=by rw[hfin];simp
        have HST:Hid (fK K=true):=lh (iI (HDN.out.1 hfin));go_wp2_with fail;go_ret;exact⟨by rw[HST.out];rfl,HBW.out⟩
       ·have hfin':((G.length:Int) == (K.length:Int))=false:=by rw[beq_eq_false_iff_ne];omega
        have HST:Hid (fK K=false):=lh (gM fun h=>hfin (HDN.out.2 h));go_wp2_with fail;go_ret;exact⟨by rw[HST.out];rfl,HBW.out⟩
theorem aO0{n lo hi:Int}(h:¬(lo≤n∧n≤hi)):bY n lo hi=false:=Bool.eq_false_iff.2 fun e=>h (mK.1 e)
theorem kN{w:World}{ok:Nat→Prop}{K:List HC}{a:Option Addr}{cap:Nat}(h:dV w ok K a cap) :
 Calls Try.prog 26 #[.slice a K.length cap] w fun e w'=>e=.returned (.int .i64 (cH K:Nat))∧Below w.heap.size w w':=by
 have HP:=lh h;have hcl:K.length≤9223372036854775807:=by have:=h.cap;unfold maxLen at this;omega
 clear h;by_cases hl:400000<K.length
 ·have hl':(400000:Int)<(K.length:Int):=by omega
  have HO:=lh (sI hl);go_enter Try.func26,Try.ntmps26;go_wp2_with fail;go_ret;exact⟨cJ HO.out.symm,Below.refl _ _⟩
 ·have hl':(K.length:Int)≤400000:=by omega
  have hln:K.length≤400000:=by omega
  have HL:=lh hl;clear hl;go_enter Try.func26,Try.ntmps26;go_wp2_with fail
  go_loopw[3] (fun y wr=>∃i:Nat,i≤K.length∧y=.int .i64 i∧Hid (∀j,j<i→cD K j=0)∧Hid (Below w.heap.size w wr)) (fun y _=>K.length-(intOf y).toNat)
  case atStart=>exact⟨0,Nat.zero_le _,rfl,lh (fun j hj=>absurd hj (Nat.not_lt_zero j)),lh (bR _ _)⟩
  case round =>
   obtain⟨i,hi,rfl,HZ,HB⟩:=hrel;by_cases hlt:i<K.length
   ·have HX:Hid (∀c,cD K i=c→c≠0→cH K=c):=lh (fun c h1 h2=>by
     have h3:cD K i≠0:=by rw[h1];exact h2
     have:=pU K.length i hlt HZ.out h3;rw[sJ HL.out (by rw[this];exact h3),this,h1])
    have HY:Hid (cD K i=0→∀j,j<i+1→cD K j=0):=lh (fun h j hj=>by
     by_cases e:j=i
     ·subst e;exact h
     ·exact HZ.out j (by omega))
    have HPR:=lh (HP.out.below HB.out);obtain⟨b,off,rfl,hokb,hb,c0,c1,c2,hf⟩:=HPR.out.at' i hlt;have HBX:Hid (Below w.heap.size w (wr.alloc (.cells #[.int .i64 (hc K i).k,.int .i64 (hc K i).n,.string (hc K i).name] 69))):=lh (HB.out.trans (((bR _ _).alloc (nR _) _).mono HB.out.size));have HFN:=lh hf.2.2;have HCE1:=lh (xD (K:=K) (i:=i));have HCE2:=lh (aC5 (K:=K) (i:=i));have HCE3:=lh (aC6 (K:=K) (i:=i));clear hokb hf;by_cases hk:(hc K i).k=1
    ·by_cases hbt:0≤(hc K i).n∧(hc K i).n≤(K.length:Int)-1
     ·have hbt':bY (hc K i).n 0 ((K.length:Int)-1)=true:=mK.2 hbt
      by_cases hz:(hc K i).name.size=0
      ·have HE:Hid (cD K i=0):=lh (by rw[HCE1.out hk,if_neg (by omega),if_neg (fun h=>h hz)])
       have hne:=pI _ hz;rw[hne] at c2 HBX;rw[hk] at c0 HBX;clear hz hne hk hbt;go_wp2_with (first|(go_at_call 28;refine(aP _ _ _ _).mono ?_;rintro e w' ⟨rfl,rfl⟩)|(go_at_call 66;refine(eF _ _ HFN.out).mono ?_;rintro e w' ⟨rfl,rfl⟩))
       all_goals
        go_roundw
        case measure=>simp[intOf];omega
        case rel=>exact⟨i+1,by omega,by go_num,lh (HY.out HE.out),HBX⟩
      ·have HO:Hid (cH K=1):=lh (HX.out 1 (by rw[HCE1.out hk,if_neg (by omega),if_pos hz]) (by omega))
       have hne:(hc K i).name.toList.isEmpty=false:=by rw[List.isEmpty_eq_false_iff];exact nF _ hz
       rw[hk] at c0 HBX;clear hz hk hbt;go_wp2_with (first|(go_at_call 28;refine(aP _ _ _ _).mono ?_;rintro e w' ⟨rfl,rfl⟩)|(go_at_call 66;refine(eF _ _ HFN.out).mono ?_;rintro e w' ⟨rfl,rfl⟩))
       all_goals
        go_ret;exact⟨cJ HO.out.symm,HBX.out⟩
     ·have hbt':bY (hc K i).n 0 ((K.length:Int)-1)=false:=aO0 hbt
      have HO:Hid (cH K=5):=lh (HX.out 5 (by rw[HCE1.out hk,if_pos (by omega)]) (by omega));rw[hk] at c0 HBX;clear hk hbt;go_wp2_with (first|(go_at_call 28;refine(aP _ _ _ _).mono ?_;rintro e w' ⟨rfl,rfl⟩)|(go_at_call 66;refine(eF _ _ HFN.out).mono ?_;rintro e w' ⟨rfl,rfl⟩))
      all_goals
       go_ret;exact⟨cJ HO.out.symm,HBX.out⟩
    ·have hk1:((hc K i).k == 1)=false:=by simpa using hk
     by_cases hk2:(hc K i).k=2
     ·have HCB:Hid (cD K i=gJ K i):=lh (HCE2.out hk hk2)
      by_cases hn:dO (hc K i).name=true
      ·by_cases h4:0≤(hc K i).n∧(hc K i).n≤4
       ·have h4':bY (hc K i).n 0 4=true:=mK.2 h4
        by_cases h33:(hc K i).name.toList = [33]
        ·have h33':=bK9.2 h33
         by_cases h0:0<(hc K i).n
         ·have HO:Hid (cH K=1):=lh (HX.out 1 (by rw[HCB.out,gR (.inr (.inr (.inr ⟨h33,h0⟩)))]) (by omega))
          rw[hk2] at c0 HBX hk1;clear hk hk2;go_wp2_with (first|(go_at_call 28;refine(aP _ _ _ _).mono ?_;rintro e w' ⟨rfl,rfl⟩)|(go_at_call 66;refine(eF _ _ HFN.out).mono ?_;rintro e w' ⟨rfl,rfl⟩))
          all_goals
           go_ret;exact⟨cJ HO.out.symm,HBX.out⟩
         ·have hz:(hc K i).n=0:=by omega
          have HE:Hid (cD K i=0):=lh (by
           rw[HCB.out];exact nJ (by
            rintro (h|h|h|h)
            ·exact h hn
            ·omega
            ·omega
            ·exact h0 h.2) (by omega) (fun q hq=>by rw[hz] at hq;exact absurd hq (Nat.not_lt_zero q)))
          have hi5:(i:Int)≤(K.length:Int)-1:=by omega
          rw[hk2] at c0 HBX hk1;rw[hz] at c1 HBX h4';have HBC:Hid (mH (wr.alloc (.cells #[.int .i64 2,.int .i64 0,.string (hc K i).name] 69)) wr.heap.size ⟨2,0,(hc K i).name⟩):=lh ⟨heap_alloc_new wr _⟩;clear hk hk2 h4 h0 hz;go_wp2_with (first|(go_at_call 28;refine(aP _ _ _ _).mono ?_;rintro e w' ⟨rfl,rfl⟩)|(go_at_call 66;refine(eF _ _ HFN.out).mono ?_;rintro e w' ⟨rfl,rfl⟩))
          all_goals
           generalize wr.alloc (.cells #[.int .i64 2,.int .i64 0,.string (hc K i).name] 69)=wb at *;generalize wr=wq at *
           go_loopw[5] (fun y wr=>y=.int .i64 1∧Hid (Below wb.heap.size wb wr)) (fun y _=>0)
           case atStart=>exact⟨rfl,lh (bR _ _)⟩
           case round =>
            obtain⟨rfl,HBW⟩:=hrel;have HBR:Hid (Below w.heap.size w wr):=lh (HBX.out.trans (HBW.out.mono HBX.out.size));have g1:=(HBC.out.keep (HBW.out.block _ HBC.out.lt)).c1;have hlw:wq.heap.size<wr.heap.size:=nT HBC.out.lt HBW.out.size;simp only at g1;go_wp2_with fail;go_roundw
            case measure=>simp[intOf];omega
            case rel=>exact⟨i+1,by omega,by go_num,lh (HY.out HE.out),HBR⟩
        ·have h33':=bJ2.2 h33
         have HG:Hid (¬(¬(dO (hc K i).name=true)∨(hc K i).n<0∨4<(hc K i).n∨((hc K i).name.toList = [33]∧0<(hc K i).n))):=lh (by
          rintro (h|h|h|h)
          ·exact h hn
          ·omega
          ·omega
          ·exact h33 h.1)
         by_cases h5:(K.length:Int)≤(i:Int)+(hc K i).n
         ·have HO:Hid (cH K=5):=lh (HX.out 5 (by rw[HCB.out,sG HG.out h5]) (by omega))
          have h5':(K.length:Int)-1<(i:Int)+(hc K i).n:=by omega
          have hn4:=h4.2;rw[hk2] at c0 HBX hk1;clear hk hk2 h5;go_wp2_with (first|(go_at_call 28;refine(aP _ _ _ _).mono ?_;rintro e w' ⟨rfl,rfl⟩)|(go_at_call 66;refine(eF _ _ HFN.out).mono ?_;rintro e w' ⟨rfl,rfl⟩))
          all_goals
           go_ret;exact⟨cJ HO.out.symm,HBX.out⟩
         ·obtain⟨m,hm⟩:∃m:Nat,(hc K i).n=(m:Int):=⟨(hc K i).n.toNat,by omega⟩
          have HM:=lh hm;have hm4:m≤4:=by omega
          have him:(i:Int)+(m:Int)≤(K.length:Int)-1:=by omega
          have himn:i+m<K.length:=by omega
          rw[hk2] at c0 HBX hk1;rw[hm] at c1 HBX h4';have HBC:Hid (mH (wr.alloc (.cells #[.int .i64 2,.int .i64 (m:Int),.string (hc K i).name] 69)) wr.heap.size ⟨2,(m:Int),(hc K i).name⟩):=lh ⟨heap_alloc_new wr _⟩;have HWW:Hid (Below wr.heap.size wr (wr.alloc (.cells #[.int .i64 2,.int .i64 (m:Int),.string (hc K i).name] 69))):=lh ((bR _ _).alloc (nR _) _);have HWB:=lh HWW.out.size;clear hk hk2 h5 h4 hm;go_wp2_with (first|(go_at_call 28;refine(aP _ _ _ _).mono ?_;rintro e w' ⟨rfl,rfl⟩)|(go_at_call 66;refine(eF _ _ HFN.out).mono ?_;rintro e w' ⟨rfl,rfl⟩))
          all_goals
           generalize wr.alloc (.cells #[.int .i64 2,.int .i64 (m:Int),.string (hc K i).name] 69)=wb at *;generalize wr=wq at *
           go_loopw[5] (fun y wr=>∃j:Nat,j≤m∧y=.int .i64 ((j:Int)+1)∧Hid (∀q:Nat,q<j→(hc K (i+1+q)).k=1)∧Hid (Below wb.heap.size wb wr)) (fun y _=>m+1-(intOf y).toNat)
           case atStart=>exact⟨0,Nat.zero_le _,rfl,lh (fun q h=>absurd h (Nat.not_lt_zero q)),lh (bR _ _)⟩
           case round =>
            obtain⟨j,hj,rfl,HQ,HBW⟩:=hrel;have HBR:Hid (Below w.heap.size w wr):=lh (HBX.out.trans (HBW.out.mono HBX.out.size));have g1:=(HBC.out.keep (HBW.out.block _ HBC.out.lt)).c1;have hlw:wq.heap.size<wr.heap.size:=nT HBC.out.lt HBW.out.size;simp only at g1;by_cases hjm:j<m
            ·obtain⟨b',off',he,-,hb',d0,d1,d2,-⟩:=HPR.out.at' (i+1+j) (by omega)
             injection he with he;injection he with e1 e2;subst e1;subst e2;rw[show off+(i+1+j)*3=off+(i+(j+1))*3 by omega] at d0;have hbl:=nT hb' HWB.out;have g0:=(HBW.out.cell (p:=⟨b,_,none⟩) hbl).trans ((HWW.out.cell (p:=⟨b,_,none⟩) hb').trans d0);have e9:(i:Int)+((j:Int)+1)=((i+(j+1):Nat):Int):=by omega
             have hij:(i:Int)+((j:Int)+1)<(K.length:Int):=by omega
             clear d0 d1 d2 hb' hbl e9;by_cases hkk:(hc K (i+1+j)).k=1
             ·have hk':((hc K (i+1+j)).k != 1)=false:=by rw[hkk];rfl
              have HQ':Hid (∀q:Nat,q<j+1→(hc K (i+1+q)).k=1):=lh (fun q hq=>by
               by_cases e:q=j
               ·subst e;exact hkk
               ·exact HQ.out q (by omega))
              clear hkk;go_wp2_with fail;go_roundw
              case measure=>simp[intOf];omega
              case rel=>exact⟨j+1,by omega,by go_num,HQ',HBW⟩
             ·have hk':((hc K (i+1+j)).k != 1)=true:=by rw[bne_iff_ne];exact hkk
              have HO:Hid (cH K=1):=lh (HX.out 1 (by rw[HCB.out,sH HG.out (by rw[HM.out];omega) (fun h=>hkk (h j (by rw[HM.out];omega)))]) (by omega));clear hkk;go_wp2_with fail;go_ret;exact⟨cJ HO.out.symm,HBR.out⟩
            ·have HE:Hid (cD K i=0):=lh (by rw[HCB.out];exact nJ HG.out (by rw[HM.out];omega) (fun q hq=>HQ.out q (by rw[HM.out] at hq;omega)))
             go_wp2_with fail;go_roundw
             case measure=>simp[intOf];omega
             case rel=>exact⟨i+1,by omega,by go_num,lh (HY.out HE.out),HBR⟩
       ·have h4':bY (hc K i).n 0 4=false:=aO0 h4
        have HO:Hid (cH K=1):=lh (HX.out 1 (by rw[HCB.out,gR ((Int.lt_or_le (hc K i).n 0).elim (fun h=>.inr (.inl h)) (fun h=>.inr (.inr (.inl (by omega)))))]) (by omega));rw[hk2] at c0 HBX hk1;clear hk hk2;go_wp2_with (first|(go_at_call 28;refine(aP _ _ _ _).mono ?_;rintro e w' ⟨rfl,rfl⟩)|(go_at_call 66;refine(eF _ _ HFN.out).mono ?_;rintro e w' ⟨rfl,rfl⟩))
        all_goals
         go_ret;exact⟨cJ HO.out.symm,HBX.out⟩
      ·have hn':dO (hc K i).name=false:=Bool.eq_false_iff.2 hn
       have HO:Hid (cH K=1):=lh (HX.out 1 (by rw[HCB.out,gR (.inl hn)]) (by omega));rw[hk2] at c0 HBX hk1;clear hk hk2;go_wp2_with (first|(go_at_call 28;refine(aP _ _ _ _).mono ?_;rintro e w' ⟨rfl,rfl⟩)|(go_at_call 66;refine(eF _ _ HFN.out).mono ?_;rintro e w' ⟨rfl,rfl⟩))
       all_goals
        go_ret;exact⟨cJ HO.out.symm,HBX.out⟩
     ·have HO:Hid (cH K=1):=lh (HX.out 1 (HCE3.out hk hk2) (by omega))
      have hk2':((hc K i).k == 2)=false:=by simpa using hk2
      clear hk hk2;go_wp2_with (first|(go_at_call 28;refine(aP _ _ _ _).mono ?_;rintro e w' ⟨rfl,rfl⟩)|(go_at_call 66;refine(eF _ _ HFN.out).mono ?_;rintro e w' ⟨rfl,rfl⟩))
      all_goals
       go_ret;exact⟨cJ HO.out.symm,HBX.out⟩
   ·have HOK:Hid (dK K):=lh (fun j hj=>HZ.out j (by omega))
    have HF:Hid (cX K K.length=0):=lh (iE _ HOK.out);have HST:=lh (zG (HP.out.below HB.out) HOK.out hln);by_cases hs:eW K
    ·have hs':=iI hs
     rw[hs'] at HST;have HO:=lh (xE HL.out HF.out hs);clear hs hs';go_wp2_with (go_at_call 67;refine HST.out.mono ?_;rintro e w1 ⟨rfl,hb1⟩);go_ret;exact⟨cJ HO.out.symm,HB.out.trans (hb1.mono HB.out.size)⟩
    ·have hs':=gM hs
     rw[hs'] at HST;have HO:=lh (oE HL.out HF.out hs);clear hs hs';go_wp2_with (go_at_call 67;refine HST.out.mono ?_;rintro e w1 ⟨rfl,hb1⟩);go_ret;exact⟨cJ HO.out.symm,HB.out.trans (hb1.mono HB.out.size)⟩
end Go.Proofs.Ytikmgiapjigghab
