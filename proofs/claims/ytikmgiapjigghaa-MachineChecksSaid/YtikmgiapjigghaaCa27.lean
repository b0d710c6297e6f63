/- Plain: a machine and a search stand alike behind a clause that is tried. -/
import Derived.SizedLaws
import Derived.Test.YtikmgiapjigghaaCa15
import Derived.Test.YtikmgiapjigghaaCa19
import Derived.Test.YtikmgiapjigghaaCa20
import Derived.Test.YtikmgiapjigghaaCa21
import Derived.Test.YtikmgiapjigghaaCa24
import Derived.Test.YtikmgiapjigghaaCa26
namespace Go.Proofs.Ytikmgiapjigghaa
open Go.RowKit
theorem fit_cell{c:Cl}{x:HC}{t:Tm}(h1:x.name=t.name)(h2:x.n=(t.args.length:Int)):FitC c (cellT x)↔FitC c t:=by
 unfold FitC cellT
 simp only[Tm.name,Tm.args,List.length_replicate,h1,h2,Int.toNat_natCast]
theorem nextF_cell{p:List Cl}{x:HC}{t:Tm}(h1:x.name=t.name)(h2:x.n=(t.args.length:Int))(i:Nat):nextF p (cellT x) i=nextF p t i :=
 nextF_rel (s:=cellT x) (t:=t) h1 (by unfold cellT;simp only[Tm.args,List.length_replicate,h2,Int.toNat_natCast]) _ i rfl
theorem GoR.keep0{H H':List HC}{G:List Gn}{D D':Int→Prop}{Sc Sc':Int→Nat}(hst:∀ c t,St H D Sc c t→St H' D' Sc' c t){now:List Goal}{n:Nat}(h:GoR H G D Sc now n):GoR H' G D' Sc' now n:=by
 have:=h.keep (g:=[]) hst
 rwa [List.append_nil] at this
structure GoalIs(S:MS)(P:PS)(n:Nat)(gs:List Goal)(t:Tm)(D:Int→Prop)(Sc:Int→Nat)(g:Goal)(r:List Goal):Prop where
 sit:Sit S n P.vars P.σ gs D Sc
 gs:gs=g::r
 cut:(gn S (n-1)).cut=g.2
 go:GoR S.H S.G D Sc r (gn S (n-1)).next
 num:(gn S (n-1)).next<n∧1≤n∧n≤S.G.length∧(gn S (n-1)).at'<S.H.length
 at':St S.H D Sc (gn S (n-1)).at' g.1
 st:St S.H D Sc (goalEnd S n) t
 lt:goalEnd S n<S.H.length
theorem Sit.goal{S:MS}{n vars:Nat}{σ:Sub}{gs:List Goal}{D:Int→Prop}{Sc:Int→Nat}(hs:Sit S n vars σ gs D Sc)(hne:gs≠[]) :
 ∃ g r,gs=g::r∧(gn S (n-1)).cut=g.2∧GoR S.H S.G D Sc r (gn S (n-1)).next∧((gn S (n-1)).next<n∧1≤n∧n≤S.G.length∧(gn S (n-1)).at'<S.H.length)∧St S.H D Sc (gn S (n-1)).at' g.1:=by
 cases gs with
 | nil=>exact absurd rfl hne
 | cons g r =>
  obtain⟨x,h1,h2,h3,h4,h5⟩:=hs.go
  have hx:gn S (n-1)=x:=by unfold gn;rw[List.getD_eq_getElem?_getD,h2];rfl
  obtain⟨h6,h7⟩:=List.getElem?_eq_some_iff.1 h2
  have h8:=hs.goals (n-1) h6
  rw[h7] at h8
  rw[hx]
  exact⟨g,r,rfl,h3,h5,⟨by omega,h1,by omega,h8.1⟩,h4⟩
theorem CallIn.goal{p:List Cl}{S:MS}{P:PS}{n:Nat}{gs:List Goal}{t:Tm}(h:CallIn p S P n gs t):∃ D Sc g r,GoalIs S P n gs t D Sc g r:=by
 obtain⟨D,Sc,hs⟩:=h.sit
 obtain⟨g,r,h1,h2,h3,h4,h5⟩:=hs.goal h.ne
 obtain⟨k1,k2,_⟩:=hs.hang.look h5
 have ht:t=look P.σ g.1:=by rw[h.t.1,h1];rfl
 exact⟨D,Sc,g,r,hs,h1,h2,h3,h4,h5,by rw[ht];exact k1,k2⟩
theorem GoalIs.cell{S:MS}{P:PS}{n:Nat}{gs:List Goal}{t:Tm}{D:Int→Prop}{Sc:Int→Nat}{g:Goal}{r:List Goal}(h:GoalIs S P n gs t D Sc g r)(ht:t=look P.σ g.1) :
 (t.var≠0→(hc S.H (goalEnd S n)).k=1)∧(t.var=0→(hc S.H (goalEnd S n)).k=2∧(hc S.H (goalEnd S n)).name=t.name∧(hc S.H (goalEnd S n)).n=(t.args.length:Int)∧∀ i (hi:i<t.args.length),St S.H D Sc (goalEnd S n+1+i) t.args[i]):=by
 subst ht
 obtain⟨k1,k2,k3,k4,k5,k6⟩:=h.sit.hang.look h.at'
 refine⟨fun hv=>(k5 hv).1,fun hv=>?_⟩
 obtain⟨m1,m2,m3,m4⟩:=k6 hv
 have:(hc S.H (goalEnd S n)).k=2:=by
  rcases cell_right (h.sit.hang.heap.cells _ h.lt) with e | e
  ·exact absurd e.1 m1
  ·exact e.1
 exact⟨this,m2,m3,m4⟩
structure Grown(S S':MS):Prop where
 heap:S'.H.length≤S.H.length+833
 goals:S'.G.length≤S.G.length+6
 q:S'.Q=S.Q
 trail:S'.T.length≤S.T.length+4000
def ClOut(p:List Cl)(S:MS)(n:Nat)(gs:List Goal)(t:Tm):MS×Option Bool→PS×Option Bool→Prop
 | (S',some b),(P',some b')=>b=true∧b'=true∧MvS p S' P'∧Grown S S'
 | (S',none),(P',none)=>CallIn p S' P' n gs t∧S'.H=S.H∧S'.T=S.T∧S'.G=S.G∧S'.ch=S.ch∧S'.Q=S.Q∧S'.steps=S.steps∧S'.ans=S.ans
 | _,_=>False
section
variable {p:List Cl} {g:Gn} {at':Nat} {t:Tm} {was:Cn} {c:Cl} {i:Nat} {S:MS} {K1:List HC} {V1:CV} {a:Nat} {K:List HC} {B:List Nat} {f:Nat}
theorem mclause_ok(hz:putT S.H (fun _=>none) c.head=((K1,V1),a))(e:meetH K1 [] S.f [(a,at')]=.ok K B f) :
 mclause p g at' t was c i S=(mpush c.body V1 S.ch.length g.next { S with H:=K,T:=S.T++B,f:=f,ch:=if nextF p t (i+1)<p.length then S.ch++[{ was with clause:=nextF p t (i+1) }] else S.ch },some true):=by
 simp only[mclause,hz,msame,e,if_true]
theorem mclause_no(h0:S.fin=0)(hz:putT S.H (fun _=>none) c.head=((K1,V1),a))(e:meetH K1 [] S.f [(a,at')]=.no K B f) :
 mclause p g at' t was c i S=(undoS { S with H:=K,T:=S.T++B,f:=f } was,none):=by
 simp[mclause,hz,msame,e,h0]
theorem mclause_many(hz:putT S.H (fun _=>none) c.head=((K1,V1),a))(e:meetH K1 [] S.f [(a,at')]=.many K B) :
 mclause p g at' t was c i S=(undoS { S with H:=K,T:=S.T++B,f:=0,fin:=3 } was,some true):=by
 simp[mclause,hz,msame,e]
variable {gs:List Goal} {P:PS} {σ:Sub} {L:List Int} {f':Nat}
theorem pclause_ok(e:meet P.σ P.L P.f [(far P.vars c.head,t)]=.ok σ L f') :
 pclause p gs t c i P=({ P with σ:=σ,L:=L,f:=f',vars:=P.vars+12,ch:=if nextF p t (i+1)<p.length then P.ch++[⟨gs,nextF p t (i+1),P.σ,P.L⟩] else P.ch,now:=bodyG P.vars P.ch.length c.body++gs.tail },some true):=by
 simp only[pclause,e]
theorem pclause_no(e:meet P.σ P.L P.f [(far P.vars c.head,t)]=.no σ L f'):pclause p gs t c i P=({ P with f:=f',vars:=P.vars+12 },none):=by
 simp only[pclause,e]
theorem pclause_many(e:meet P.σ P.L P.f [(far P.vars c.head,t)]=.many σ L):pclause p gs t c i P=({ P with f:=0,vars:=P.vars+12,fin:=3 },some true):=by
 simp only[pclause,e]
end
theorem clause_sim{p:List Cl}{S:MS}{P:PS}{n:Nat}{gs:List Goal}{t:Tm}(h:CallIn p S P n gs t){c:Cl}(hC:ClG c)(i:Nat)(hroom:S.H.length+833≤400000∧S.G.length+6≤5000) :
 ClOut p S n gs t (mclause p (gn S (n-1)) (goalEnd S n) (cellT (hc S.H (goalEnd S n))) (markS S n) c i S) (pclause p gs t c i P):=by
 obtain⟨D,Sc,g,r,hG⟩:=h.goal
 have ht:t=look P.σ g.1:=by rw[h.t.1,hG.gs];rfl
 obtain⟨hk2,hnm,hnn,-⟩:=(hG.cell ht).2 h.t.2
 have hnext:nextF p (cellT (hc S.H (goalEnd S n))) (i+1)=nextF p t (i+1):=nextF_cell hnm hnn _
 obtain⟨hs,hgs,hcut,hgo,hnum,hat,hst,hlt⟩:=hG
 have hV0:VRel P.σ P.vars (fun _=>none) D Sc:=⟨(fun v c e=>nomatch e),fun v h1 _=>hs.fresh _ (by omega)⟩
 have hj0:CInj (fun _=>none):=fun v w c e=>nomatch e
 have hle:=putT_le c.head S.H (fun _=>none)
 have hsz:=hC.head.size
 have hbl:=hC.len
 obtain⟨D1,S1,q⟩:=hang_term hs.hang (Int.natCast_nonneg P.vars) hV0 hj0 hC.head.fit.wf hC.head.names (fun x hx hv=>(hC.head.var hx hv).1) (by omega)
 have hd1:∀ v k,(putT S.H (fun _=>none) c.head).1.2 v=some k→v≤12:=fun v k e=>by
  rcases putT_dom c.head S.H (fun _=>none) v k e with e | ⟨_,_,x,e1,e2,e3⟩
  ·cases e
  ·rw[← e3];exact(hC.head.var e1 e2).2
 obtain⟨⟨⟨K1,V1⟩,a⟩,hz⟩:∃ Z,putT S.H (fun _=>none) c.head=Z:=⟨_,rfl⟩
 rw[hz] at q hd1 hle
 simp only at q hd1 hle
 have hp1:∀ x,x∈[((a,far (P.vars:Int) c.head),(goalEnd S n,t))]→St K1 D1 S1 x.1.1 x.1.2∧St K1 D1 S1 x.2.1 x.2.2:=fun x hx=>by rw[List.mem_singleton] at hx;subst hx;exact⟨q.st,q.keep _ _ hst⟩
 have hm:=meetH_sim S.f K1 P.σ [] P.L _ q.hang hp1
 have hb:=keep_meetH S.f K1 [] [(a,goalEnd S n)] q.hang.heap (fun x hx=>by rw[List.mem_singleton] at hx;subst hx;exact⟨q.st.lt,(q.keep _ _ hst).lt⟩)
 have hrm:=meetH_room S.f K1 [] [(a,goalEnd S n)] q.hang.heap (fun x hx=>by rw[List.mem_singleton] at hx;subst hx;exact⟨q.st.lt,(q.keep _ _ hst).lt⟩) 4000 (by have:=h.work.2;simp;omega)
 have hky:=meet_keyD S.f K1 P.σ P.L _ q.hang hp1
 have hgr:=meet_grow S.f P.σ P.L [(far (P.vars:Int) c.head,t)] q.hang.store (fun x hx=>by rw[List.mem_singleton] at hx;subst hx;exact⟨q.st.wf q.hang.pos,hst.wf hs.hang.pos⟩)
 simp only[List.map_cons,List.map_nil] at hm hky
 have hwk:=h.work.1
 have hext:∀ (K:List HC) (B:List Nat),BKeep K1 [] K B→∀ S':MS,K.length≤S'.H.length→(∀ i,i<K.length→hc S'.H i=hc K i)→S'.T=S.T++B→(∃ g,S'.G=S.G++g)→Ext S S'∧∀ x,x∈S'.T→x<S'.H.length:=fun K B ⟨b1,b,b2,b3,b4⟩ S' x1 x2 x3 x4=>by
  rw[List.nil_append] at b2
  subst b2
  have hl:=q.len
  refine⟨⟨by omega,⟨B,x3,fun i hi hl=>?_,fun i hl hn=>?_⟩,x4⟩,fun x hx=>?_⟩
  ·rw[← q.old i hl];exact(b3 i hi).2
  ·rw[x2 i (by omega),b4 i (by omega) hn];exact q.old i hl
  ·rw[x3] at hx
   rcases List.mem_append.1 hx with hx | hx
   ·have:=hs.trail x hx;omega
   ·have:=(b3 x hx).1;omega
 have hback:∀ (K:List HC) (B:List Nat),BKeep K1 [] K B→∀ S':MS,S'.H=K→S'.T=S.T++B→S'.G=S.G→(undoS S' (markS S n)).H=S.H∧(undoS S' (markS S n)).T=S.T∧(undoS S' (markS S n)).G=S.G:=fun K B hk S' x1 x2 x3 =>
  (hext K B hk S' (by rw[x1];exact Nat.le_refl _) (fun i _=>by rw[x1]) x2 ⟨[],by rw[x3,List.append_nil]⟩).1.back n
 cases e1:meetH K1 [] S.f [(a,goalEnd S n)] with
 | no K B f =>
  cases e2:meet P.σ P.L S.f [(far (P.vars:Int) c.head,t)] with
  | no σ L f' =>
   rw[e1,e2] at hm;rw[e1] at hb;rw[e2] at hgr
   obtain⟨rfl,-,-⟩:=hm
   obtain⟨k1,k2,k3⟩:=hback K B hb { S with H:=K,T:=S.T++B,f:=f } rfl rfl rfl
   obtain⟨⟨N,hN,_⟩,hle2⟩:=hgr
   rw[hN,List.length_append] at hle2
   rw[mclause_no h.fin.1 hz e1,pclause_no (hwk ▸ e2)]
   exact⟨⟨⟨D,Sc,(hs.mono (by simp only;omega)).congr k1 k2 k3 rfl⟩,(h.ch.mono (by simp only;omega)).congr k1 k2 k3 rfl,h.first,⟨rfl,by have:=h.work.2;simp only[undoS];omega⟩,h.ne,h.t,h.fin,h.same⟩,k1,k2,k3,rfl,rfl,rfl,rfl⟩
  | ok σ L f'=>rw[e1,e2] at hm;exact hm.elim
  | many σ L=>rw[e1,e2] at hm;exact hm.elim
 | many K B =>
  cases e2:meet P.σ P.L S.f [(far (P.vars:Int) c.head,t)] with
  | no σ L f'=>rw[e1,e2] at hm;exact hm.elim
  | ok σ L f'=>rw[e1,e2] at hm;exact hm.elim
  | many σ L =>
   rw[e1] at hb
   obtain⟨k1,k2,k3⟩:=hback K B hb { S with H:=K,T:=S.T++B,f:=0,fin:=3 } rfl rfl rfl
   rw[mclause_many hz e1,pclause_many (hwk ▸ e2)]
   exact⟨rfl,rfl,⟨rfl,h.same.1,h.same.2,(fun e=>by simp[undoS] at e),⟨{ P with now:=gs },⟨D,Sc,by
    have:=hs.congr k1 k2 k3 (S':=undoS { S with H:=K,T:=S.T++B,f:=0,fin:=3 } (markS S n)) rfl
    rw[← h.first] at this
    exact this⟩,h.ch.congr k1 k2 k3 rfl⟩⟩,⟨by rw[k1];omega,by rw[k3];omega,rfl,by rw[k2];omega⟩⟩
 | ok K B f =>
  cases e2:meet P.σ P.L S.f [(far (P.vars:Int) c.head,t)] with
  | no σ L f'=>rw[e1,e2] at hm;exact hm.elim
  | many σ L=>rw[e1,e2] at hm;exact hm.elim
  | ok σ L f' =>
   rw[e1,e2] at hm;rw[e1] at hb hrm;rw[e2] at hky
   have hrb:B.length≤4000:=hrm
   obtain⟨rfl,hH,hl,hk⟩:=hm
   have hV2:VRel σ P.vars V1 D1 S1:=⟨q.rel.old,fun v h1 e=>by
    obtain⟨x1,x2⟩:=q.rel.new v h1 e
    refine⟨x1,?_⟩
    by_cases hz:σ (v+P.vars)=none
    ·exact hz
    ·exact absurd (hky _ x2 hz) x1⟩
   have hK:K.length≤S.H.length+119:=by omega
   obtain⟨D2,S2,q2⟩:=putL_sim (Int.natCast_nonneg P.vars) c.body K V1 D1 S1 hH hV2 q.inj.1 hd1 hC.body (by omega)
   have hq2:=q2.len.2
   have hkeep:∀ d u,St S.H D Sc d u→St (putL K V1 c.body).1.1 D2 S2 d u:=fun d u x=>q2.keep d u (hk d u (q.keep d u x))
   have hGo:∀ i (hi:i<S.G.length),S.G[i].at'<(putL K V1 c.body).1.1.length∧S.G[i].next≤i:=fun i hi=>by
    obtain⟨x1,x2⟩:=hs.goals i hi
    have:=q.len;have:=q2.len.1
    exact⟨by omega,x2⟩
   obtain⟨p1,p2,⟨g2,p3,p4⟩,p5⟩:=push_rel (H:=(putL K V1 c.body).1.1) (D:=D2) (Sc:=S2) S.ch.length (hgo.keep0 hkeep) (by omega) hGo _ _ q2.st
   have hat:(putL K V1 c.body).2.length=c.body.length:=by
    have hz:∀ (l:List Tm) (K:List HC) (V:CV),(putL K V l).2.length=l.length:=by
     intro l
     induction l with
     | nil=>intro K V;rfl
     | cons t l ih=>intro K V;simp only[putL,List.length_cons];rw[ih]
    exact hz _ _ _
   have hx:=hext K B hb { S with H:=(putL K V1 c.body).1.1,T:=S.T++B,G:=(pushG S.ch.length (putL K V1 c.body).2.reverse (S.G,(gn S (n-1)).next)).1 } q2.len.1 (fun i hi=>q2.old i hi) rfl ⟨g2,p3⟩
   obtain⟨k1,k2,k3⟩:=hx.1.back n
   have hfresh:∀ v:Int,((P.vars+12:Nat):Int)<v→¬ D2 v∧σ v=none:=fun v hv=>by
    have hn:(putL K V1 c.body).1.2 (v-P.vars)=none:=by
     cases hz:(putL K V1 c.body).1.2 (v-P.vars) with
     | none=>rfl
     | some k=>have:=q2.dom _ _ hz;omega
    have:=q2.rel.new (v-P.vars) (by omega) hn
    rwa [show v-(P.vars:Int)+P.vars=v by omega] at this
   have hGl:(pushG S.ch.length (putL K V1 c.body).2.reverse (S.G,(gn S (n-1)).next)).1.length≤S.G.length+6:=by rw[p3,List.length_append];omega
   have hch:=h.ch.mono (show P.vars≤P.vars+12 by omega)
   rw[mclause_ok hz e1,pclause_ok (hwk ▸ e2),hnext]
   simp only[mpush]
   rw[if_neg (show ¬ (400000<(putL K V1 c.body).1.1.length∨5000<(pushG S.ch.length (putL K V1 c.body).2.reverse (S.G,(gn S (n-1)).next)).1.length) by omega)]
   have hlen:S.ch.length=P.ch.length:=by have:=h.ch.len;simpa using this
   have hbody:bodyG P.vars P.ch.length c.body++gs.tail=((c.body.map (far (P.vars:Int))).map fun t=>(t,S.ch.length))++r:=by
    rw[hgs,hlen];unfold bodyG;rw[List.map_map];rfl
   generalize (putL K V1 c.body).1.1=K2 at *
   generalize pushG S.ch.length (putL K V1 c.body).2.reverse (S.G,(gn S (n-1)).next)=G2 at *
   have hcore:∀ S':MS,S'.H=K2→S'.T=S.T++B→S'.G=G2.1→S'.Q=S.Q→S'.first=G2.2→S'.ch=(if nextF p t (i+1)<p.length then S.ch++[{ markS S n with clause:=nextF p t (i+1) }] else S.ch) →
    Core p S' { P with σ:=σ,L:=L,f:=f,vars:=P.vars+12,ch:=if nextF p t (i+1)<p.length then P.ch++[⟨gs,nextF p t (i+1),P.σ,P.L⟩] else P.ch,now:=bodyG P.vars P.ch.length c.body++gs.tail }:=fun S' s1 s2 s3 s4 s5 s6=>by
    have hx':Ext S S':=⟨by rw[s1];exact hx.1.len,by rw[s1,s2];exact hx.1.trail,by rw[s3];exact hx.1.goals⟩
    refine⟨⟨D2,S2,?_,?_,?_,hfresh,?_,?_⟩,?_⟩
    ·rw[s1];exact q2.hang
    ·rw[s1,s3,s5,hbody];exact p1
    ·intro i hi
     have hi':i<S.Q.length:=by rw[← s4];exact hi
     have e:S'.Q[i]=S.Q[i]:=by simp only[s4]
     rw[s1,e]
     exact hkeep _ _ (hs.query i hi')
    ·intro i hi
     have hi':i<G2.1.length:=by rw[← s3];exact hi
     have e:S'.G[i]=G2.1[i]:=by simp only[s3]
     rw[s1,e]
     exact p5 i hi'
    ·intro x hx2
     rw[s2] at hx2
     rw[s1]
     exact hx.2 x hx2
    ·rw[s6]
     by_cases hnx:nextF p t (i+1)<p.length
     ·rw[if_pos hnx]
      simp only[if_pos hnx,List.reverse_append,List.reverse_cons,List.reverse_nil,List.nil_append,List.singleton_append]
      have hw:Within S' { markS S n with clause:=nextF p t (i+1) }:=hx'.within ⟨Nat.le_refl _,Nat.le_refl _,Nat.le_refl _⟩
      obtain⟨u1,u2,u3⟩:=hx'.back n
      exact⟨⟨hw,⟨rfl,hnx⟩,⟨h.ne,by rw[← h.t.1];exact h.t.2⟩,⟨D,Sc,(hs.mono (Nat.le_add_right _ 12)).congr u1 u2 u3 s4⟩⟩,hch.congr u1 u2 u3 s4⟩
     ·rw[if_neg hnx]
      simp only[if_neg hnx]
      exact hch.ext hx' s4
   have hC2:=hcore { S with H:=K2,G:=G2.1,first:=G2.2,ch:=if nextF p t (i+1)<p.length then S.ch++[{ markS S n with clause:=nextF p t (i+1) }] else S.ch,T:=S.T++B,f:=f } rfl rfl rfl rfl rfl rfl
   exact⟨rfl,rfl,⟨h.fin.1.trans h.fin.2.symm,h.same.1,h.same.2,fun _=>hC2,⟨_,hC2⟩⟩,⟨by simp only;omega,hGl,rfl,by simp only[List.length_append];omega⟩⟩
end Go.Proofs.Ytikmgiapjigghaa

/- Plain: a machine and a search stand alike behind a call, behind a going back. -/
namespace Go.Proofs.Ytikmgiapjigghaa
open Go.RowKit
section
variable {p:List Cl} {n i:Nat} {S S':MS} {b:Bool}
theorem mcall_stop(h:¬ i<p.length):mcall p n i S=(S,false):=by unfold mcall mcallL;rw[dif_neg h]
theorem mcall_skip(h:i<p.length)(hf:¬ FitC p[i] (cellT (hc S.H (goalEnd S n)))):mcall p n i S=mcall p n (i+1) S:=by
 conv=>lhs;unfold mcall mcallL;rw[dif_pos h,if_neg hf]
 rfl
theorem mcall_done(h:i<p.length)(hf:FitC p[i] (cellT (hc S.H (goalEnd S n))))(hc':mclause p (gn S (n-1)) (goalEnd S n) (cellT (hc S.H (goalEnd S n))) (markS S n) p[i] i S=(S',some b)):mcall p n i S=(S',b):=by
 conv=>lhs;unfold mcall mcallL;rw[dif_pos h,if_pos hf,hc']
theorem mcall_go(h:i<p.length)(hf:FitC p[i] (cellT (hc S.H (goalEnd S n))))(hc':mclause p (gn S (n-1)) (goalEnd S n) (cellT (hc S.H (goalEnd S n))) (markS S n) p[i] i S=(S',none))(h1:S'.H=S.H)(h2:S'.T=S.T)(h3:S'.G=S.G):mcall p n i S=mcall p n (i+1) S':=by
 conv=>lhs;unfold mcall mcallL;rw[dif_pos h,if_pos hf,hc']
 unfold mcall
 have e1:gn S' (n-1)=gn S (n-1):=by unfold gn;rw[h3]
 have e2:goalEnd S' n=goalEnd S n:=by unfold goalEnd;rw[e1,h1]
 have e3:markS S' n=markS S n:=by unfold markS;rw[h1,h2,h3]
 rw[e1,e2,e3,h1]
end
structure CallOut(p:List Cl)(S:MS)(n:Nat)(gs:List Goal)(t:Tm)(x:MS×Bool)(y:PS×Bool):Prop where
 eq:x.2=y.2
 yes:x.2=true→MvS p x.1 y.1∧Grown S x.1
 no:x.2=false→CallIn p x.1 y.1 n gs t∧x.1.H=S.H∧x.1.T=S.T∧x.1.G=S.G∧x.1.ch=S.ch∧x.1.Q=S.Q∧x.1.steps=S.steps∧x.1.ans=S.ans
theorem call_sim{p:List Cl}(hp:∀ c,c∈p→ClG c){n:Nat}{gs:List Goal}{t:Tm}:∀ (m i:Nat) (S:MS) (P:PS),p.length-i=m→CallIn p S P n gs t→(S.H.length+833≤400000∧S.G.length+6≤5000) →
 CallOut p S n gs t (mcall p n i S) (pcall p gs t i P):=by
 intro m
 induction m with
 | zero =>
  intro i S P hm h _
  rw[mcall_stop (by omega),pcall_stop (by omega)]
  exact⟨rfl,(fun e=>by cases e),fun _=>⟨h,rfl,rfl,rfl,rfl,rfl,rfl,rfl⟩⟩
 | succ m ih =>
  intro i S P hm h hroom
  have hi:i<p.length:=by omega
  obtain⟨D,Sc,g,r,hG⟩:=h.goal
  have ht:t=look P.σ g.1:=by rw[h.t.1,hG.gs];rfl
  obtain⟨hk2,hnm,hnn,-⟩:=(hG.cell ht).2 h.t.2
  have hfit:FitC p[i] (cellT (hc S.H (goalEnd S n)))↔FitC p[i] t:=fit_cell hnm hnn
  by_cases hf:FitC p[i] t
  ·have hc1:=clause_sim h (hp _ (List.getElem_mem hi)) i hroom
   obtain⟨⟨S',o⟩,e1⟩:∃ x,mclause p (gn S (n-1)) (goalEnd S n) (cellT (hc S.H (goalEnd S n))) (markS S n) p[i] i S=x:=⟨_,rfl⟩
   obtain⟨⟨P',o'⟩,e2⟩:∃ x,pclause p gs t p[i] i P=x:=⟨_,rfl⟩
   rw[e1,e2] at hc1
   cases o with
   | some b =>
    cases o' with
    | some b' =>
     obtain⟨rfl,rfl,h1,h2⟩:=hc1
     rw[mcall_done hi (hfit.2 hf) e1,pcall_done hi hf e2]
     exact⟨rfl,fun _=>⟨h1,h2⟩,(fun e=>by cases e)⟩
    | none=>exact hc1.elim
   | none =>
    cases o' with
    | some b'=>exact hc1.elim
    | none =>
     obtain⟨h1,h2,h3,h4,h5,h6,h7,h8⟩:=hc1
     rw[mcall_go hi (hfit.2 hf) e1 h2 h3 h4,pcall_go hi hf e2]
     obtain⟨k1,k2,k3⟩:=ih (i+1) S' P' (by omega) h1 (by rw[h2,h4];exact hroom)
     refine⟨k1,fun e=>?_,fun e=>?_⟩
     ·obtain⟨q1,q2⟩:=k2 e
      exact⟨q1,⟨by rw[← h2];exact q2.heap,by rw[← h4];exact q2.goals,by rw[← h6];exact q2.q,by rw[← h3];exact q2.trail⟩⟩
     ·obtain⟨q1,q2,q3,q4,q5,q6,q7,q8⟩:=k3 e
      exact⟨q1,q2.trans h2,q3.trans h3,q4.trans h4,q5.trans h5,q6.trans h6,q7.trans h7,q8.trans h8⟩
  ·rw[mcall_skip hi (fun e=>hf (hfit.1 e)),pcall_skip hi hf]
   exact ih (i+1) S P (by omega) h hroom
theorem undo_len(S:MS)(c:Cn):(undoS S c).H.length≤S.H.length∧(undoS S c).G.length≤S.G.length∧(undoS S c).T.length≤S.T.length:=by
 unfold undoS
 simp only[List.length_take,unbindN_length]
 omega
theorem rev_take{α:Type}{l:List α}{k:Nat}{c:α}(h:l[k]? = some c):(l.take (k+1)).reverse=c::(l.take k).reverse:=by
 obtain⟨h1,h2⟩:=List.getElem?_eq_some_iff.1 h
 rw[List.take_succ_eq_append_getElem h1,List.reverse_append,h2]
 rfl
theorem CallIn.weak{p:List Cl}{S:MS}{P:PS}{n:Nat}{gs:List Goal}{t:Tm}(h:CallIn p S P n gs t):∃ P0,Core p S P0:=by
 obtain⟨D,Sc,hs⟩:=h.sit
 exact⟨{ P with now:=gs },⟨D,Sc,by rw[h.first];exact hs⟩,h.ch⟩
theorem Core.stop{p:List Cl}{S:MS}{P:PS}(h:Core p S P){S':MS}(h1:S'.H=S.H)(h2:S'.T=S.T)(h3:S'.G=S.G)(h4:S'.Q=S.Q)(h5:S'.ch=S.ch)(h6:S'.first=0):Core p S' { P with now:=[] }:=by
 obtain⟨⟨D,Sc,hs⟩,hc⟩:=h
 refine⟨⟨D,Sc,?_⟩,?_⟩
 ·have h0:Sit S 0 P.vars P.σ [] D Sc:=⟨hs.hang,rfl,hs.query,hs.fresh,hs.goals,hs.trail⟩
  rw[h6]
  exact h0.congr h1 h2 h3 h4
 ·rw[h5];exact hc.congr h1 h2 h3 h4
theorem mback_some{p:List Cl}{k:Nat}{S S1:MS}{c:Cn}(h:S.ch[k]? = some c)(hS:S1 = { undoS { S with ch:=S.ch.take k } c with first:=c.goal,f:=4000 })(h2:(hc S1.H (goalEnd S1 c.goal)).k=2) :
 mback p (k+1) S=if (mcall p c.goal c.clause S1).2=true then (mcall p c.goal c.clause S1).1 else mback p k (mcall p c.goal c.clause S1).1:=by
 subst hS
 simp only[mback,h]
 exact if_pos h2
theorem back_sim{p:List Cl}(hp:∀ c,c∈p→ClG c):∀ (k:Nat) (S:MS) (P:PS),ChR p P.vars S (S.ch.take k).reverse (P.ch.take k).reverse→k≤S.ch.length→S.ch.length=P.ch.length→(S.fin=0∧P.fin=0)→(S.steps=P.steps∧S.ans=P.ans)→(∃ P0,Core p S P0) →
 (S.H.length+833≤400000∧S.G.length+6≤5000)→MvS p (mback p k S) (pback p k P)∧Grown S (mback p k S):=by
 intro k
 induction k with
 | zero =>
  intro S P _ _ _ hf hs hw hroom
  obtain⟨P0,hw⟩:=hw
  simp only[mback,pback]
  exact⟨⟨rfl,hs.1,hs.2,(fun e=>by cases e),⟨_,hw.stop rfl rfl rfl rfl rfl rfl⟩⟩,⟨by simp only;omega,by simp only;omega,rfl,by simp only;omega⟩⟩
 | succ k ih =>
  intro S P hch hk hlen hf hs hw hroom
  obtain⟨c,hc1⟩:∃ c,S.ch[k]? = some c:=⟨_,List.getElem?_eq_getElem (by omega)⟩
  obtain⟨d,hd1⟩:∃ d,P.ch[k]? = some d:=⟨_,List.getElem?_eq_getElem (by omega)⟩
  rw[rev_take hc1,rev_take hd1] at hch
  obtain⟨⟨w,⟨c1,c2⟩,⟨d1,d2⟩,D,Sc,hsit⟩,hch2⟩:=hch
  simp only[pback,hd1]
  obtain⟨S1,hS1⟩:∃ S1:MS,S1 = { undoS { S with ch:=S.ch.take k } c with first:=c.goal,f:=4000 }:=⟨_,rfl⟩
  obtain⟨P1,hP1⟩:∃ P1:PS,P1 = { P with ch:=P.ch.take k,σ:=d.σ,L:=d.L,f:=4000 }:=⟨_,rfl⟩
  rw[← hP1]
  have e1:S1.H=(undoS S c).H:=by rw[hS1];rfl
  have e2:S1.T=(undoS S c).T:=by rw[hS1];rfl
  have e3:S1.G=(undoS S c).G:=by rw[hS1];rfl
  have e4:S1.Q=S.Q:=by rw[hS1];rfl
  have e5:S1.ch=S.ch.take k:=by rw[hS1];rfl
  have hl:=undo_len S c
  have hcall:CallIn p S1 P1 c.goal d.gs (look d.σ (headT d.gs)):=by
   refine⟨⟨D,Sc,?_⟩,?_,by rw[hS1],⟨by rw[hS1,hP1],by rw[hS1];exact Nat.le_refl _⟩,d1,⟨by rw[hP1],d2⟩,⟨by rw[hS1];exact hf.1,by rw[hP1];exact hf.2⟩,⟨by rw[hS1,hP1];exact hs.1,by rw[hS1,hP1];exact hs.2⟩⟩
   ·rw[hP1];exact hsit.congr e1 e2 e3 e4
   ·rw[e5,hP1];exact hch2.congr e1 e2 e3 e4
  have hroom1:S1.H.length+833≤400000∧S1.G.length+6≤5000:=by rw[e1,e3];omega
  obtain⟨D',Sc',g,r,hG⟩:=hcall.goal
  have ht:look d.σ (headT d.gs)=look P1.σ g.1:=by rw[hP1,hG.gs];rfl
  have hk2:=((hG.cell ht).2 d2).1
  rw[mback_some hc1 hS1 hk2,c1]
  have hout:=call_sim hp _ d.cl S1 P1 rfl hcall hroom1
  obtain⟨x,hx⟩:∃ x,mcall p c.goal d.cl S1=x:=⟨_,rfl⟩
  obtain⟨y,hy⟩:∃ y,pcall p d.gs (look d.σ (headT d.gs)) d.cl P1=y:=⟨_,rfl⟩
  rw[hx,hy] at hout ⊢
  obtain⟨h1,h2,h3⟩:=hout
  by_cases hb:x.2=true
  ·rw[if_pos hb,if_pos (by rw[← h1];exact hb)]
   obtain⟨q1,q2⟩:=h2 hb
   exact⟨q1,⟨by have:=q2.heap;rw[e1] at this;omega,by have:=q2.goals;rw[e3] at this;omega,q2.q.trans e4,by have:=q2.trail;rw[e2] at this;omega⟩⟩
  ·rw[if_neg hb,if_neg (by rw[← h1];exact hb)]
   obtain⟨q1,q2,q3,q4,q5,q6,q7,q8⟩:=h3 (by simpa using hb)
   have hll:x.1.ch.length=k:=by rw[q5,e5,List.length_take];omega
   have hle:=q1.ch.len
   simp only[List.length_reverse] at hle
   obtain⟨r1,r2⟩:=ih x.1 y.1 (q1.ch.take k) (by omega) hle q1.fin q1.same q1.weak (by rw[q2,q4];exact hroom1)
   refine⟨r1,⟨?_,?_,?_,?_⟩⟩
   ·have:=r2.heap;rw[q2,e1] at this;omega
   ·have:=r2.goals;rw[q4,e3] at this;omega
   ·rw[r2.q,q6,e4]
   ·have:=r2.trail;rw[q3,e2] at this;omega
end Go.Proofs.Ytikmgiapjigghaa

/- Plain: a machine and a search stand alike behind a goal that is taken. -/
namespace Go.Proofs.Ytikmgiapjigghaa
open Go.RowKit
theorem Core.len{p:List Cl}{S:MS}{P:PS}(h:Core p S P):S.ch.length=P.ch.length:=by have:=h.ch.len;simpa using this
theorem ChR.whole{p:List Cl}{vars:Nat}{S:MS}{ch:List Cn}{dh:List PCh}(h:ChR p vars S ch.reverse dh.reverse):ChR p vars S (ch.take ch.length).reverse (dh.take ch.length).reverse:=h.take _
theorem take_sim{p:List Cl}(hp:∀ c,c∈p→ClG c){S:MS}{P:PS}(h:Core p S P)(hne:P.now≠[])(hf:S.fin=0∧P.fin=0)(hs:S.steps=P.steps∧S.ans=P.ans)(hroom:S.H.length+833≤400000∧S.G.length+6≤5000) :
 MvS p (mtake p S) (ptake p P)∧Grown S (mtake p S):=by
 obtain⟨D,Sc,hsit⟩:=h.sit
 obtain⟨g,r,h1,h2,h3,h4,h5⟩:=hsit.goal hne
 have hlen:=h.len
 obtain⟨t,ht⟩:∃ t,t=look P.σ (headT P.now):=⟨_,rfl⟩
 have htg:t=look P.σ g.1:=by rw[ht,h1];rfl
 obtain⟨k1,k2,-,-,k5,k6⟩:=hsit.hang.look h5
 rw[← htg] at k1 k5 k6
 have hG:GoalIs S P S.first P.now t D Sc g r:=⟨hsit,h1,h2,h3,h4,h5,k1,k2⟩
 obtain⟨c5,c6⟩:=hG.cell htg
 have hg0:Grown S S:=⟨by omega,by omega,rfl,by omega⟩
 have hnow:P.now.tail=r:=by rw[h1];rfl
 have hcut:(P.now.head?.map (·.2)).getD 0=(gn S (S.first-1)).cut:=by rw[h1,h2];rfl
 have hnext:∀ (S':MS),S'.H=S.H→S'.T=S.T→S'.G=S.G→S'.Q=S.Q→S'.first=(gn S (S.first-1)).next→Sit S' S'.first P.vars P.σ r D Sc:=fun S' e1 e2 e3 e4 e5=>by
  have h0:Sit S (gn S (S.first-1)).next P.vars P.σ r D Sc:=⟨hsit.hang,h3,hsit.query,hsit.fresh,hsit.goals,hsit.trail⟩
  rw[e5]
  exact h0.congr e1 e2 e3 e4
 simp only[mtake,ptake]
 rw[← ht]
 by_cases hv:t.var=0
 ·obtain⟨hk,hnm,hnn,harg⟩:=c6 hv
  rw[if_neg (show ¬ (hc S.H (goalEnd S S.first)).k=1 by rw[hk];decide),if_neg (show ¬ t.var≠0 from fun e=>e hv),hnm,hnn,Int.toNat_natCast]
  by_cases hm:meansB t.name t.args.length=false
  ·rw[if_pos hm,if_pos hm]
   have hcall:CallIn p { S with steps:=S.steps+1,f:=4000 } { P with steps:=P.steps+1,f:=4000 } S.first P.now t :=
    ⟨⟨D,Sc,hsit.congr rfl rfl rfl rfl⟩,h.ch.congr rfl rfl rfl rfl,rfl,⟨rfl,Nat.le_refl _⟩,hne,⟨ht,hv⟩,hf,⟨by simp only;rw[hs.1],hs.2⟩⟩
   have hout:=call_sim hp _ 0 _ _ rfl hcall hroom
   obtain⟨x,hx⟩:∃ x,mcall p S.first 0 { S with steps:=S.steps+1,f:=4000 }=x:=⟨_,rfl⟩
   obtain⟨y,hy⟩:∃ y,pcall p P.now t 0 { P with steps:=P.steps+1,f:=4000 }=y:=⟨_,rfl⟩
   rw[hx,hy] at hout ⊢
   obtain⟨o1,o2,o3⟩:=hout
   by_cases hb:x.2=true
   ·rw[if_pos (.inl hb),if_pos (by rw[← o1];exact hb)]
    obtain⟨q1,q2⟩:=o2 hb
    exact⟨q1,⟨q2.heap,q2.goals,q2.q,q2.trail⟩⟩
   ·obtain⟨q1,q2,q3,q4,q5,q6,q7,q8⟩:=o3 (by simpa using hb)
    rw[if_neg (fun e=>e.elim hb fun e=>e q1.fin.1),if_neg (by rw[← o1];exact hb)]
    have hle:=q1.ch.len
    simp only[List.length_reverse] at hle
    rw[← hle]
    obtain⟨r1,r2⟩:=back_sim hp x.1.ch.length x.1 y.1 q1.ch.whole (Nat.le_refl _) hle q1.fin q1.same q1.weak (by rw[q2,q4];exact hroom)
    exact⟨r1,⟨by have:=r2.heap;rw[q2] at this;exact this,by have:=r2.goals;rw[q4] at this;exact this,by rw[r2.q,q6],by have:=r2.trail;rw[q3] at this;exact this⟩⟩
  ·rw[if_neg hm,if_neg hm]
   by_cases n1:t.name=⟨#[33]⟩
   ·rw[if_pos n1,if_pos n1,hcut,hnow]
    have hc0:Core p { S with steps:=S.steps+1,f:=4000,ch:=S.ch.take (gn S (S.first-1)).cut,first:=(gn S (S.first-1)).next } { P with steps:=P.steps+1,f:=4000,ch:=P.ch.take (gn S (S.first-1)).cut,now:=r } :=
     ⟨⟨D,Sc,hnext _ rfl rfl rfl rfl rfl⟩,(h.ch.take _).congr rfl rfl rfl rfl⟩
    exact⟨⟨hf.1.trans hf.2.symm,by simp only;rw[hs.1],hs.2,fun _=>hc0,⟨_,hc0⟩⟩,⟨by simp only;omega,by simp only;omega,rfl,by simp only;omega⟩⟩
   ·rw[if_neg n1,if_neg n1]
    by_cases n2:t.name=⟨#[116,114,117,101]⟩
    ·rw[if_pos n2,if_pos n2,hnow]
     have hc0:Core p { S with steps:=S.steps+1,f:=4000,first:=(gn S (S.first-1)).next } { P with steps:=P.steps+1,f:=4000,now:=r } :=
      ⟨⟨D,Sc,hnext _ rfl rfl rfl rfl rfl⟩,h.ch.congr rfl rfl rfl rfl⟩
     exact⟨⟨hf.1.trans hf.2.symm,by simp only;rw[hs.1],hs.2,fun _=>hc0,⟨_,hc0⟩⟩,⟨by simp only;omega,by simp only;omega,rfl,by simp only;omega⟩⟩
    ·rw[if_neg n2,if_neg n2]
     by_cases n3:t.name=⟨#[102,97,105,108]⟩
     ·rw[if_pos n3,if_pos n3,← hlen]
      have hc0:Core p { S with steps:=S.steps+1,f:=4000 } { P with steps:=P.steps+1,f:=4000 }:=⟨⟨D,Sc,hsit.congr rfl rfl rfl rfl⟩,h.ch.congr rfl rfl rfl rfl⟩
      obtain⟨r1,r2⟩:=back_sim hp S.ch.length { S with steps:=S.steps+1,f:=4000 } { P with steps:=P.steps+1,f:=4000 } hc0.ch.whole (Nat.le_refl _) hlen hf ⟨by simp only;rw[hs.1],hs.2⟩ ⟨_,hc0⟩ hroom
      exact⟨r1,⟨r2.heap,r2.goals,r2.q,r2.trail⟩⟩
     ·rw[if_neg n3,if_neg n3]
      have h2l:t.args.length=2:=means_two hm n1 n2 n3
      have ha0:t.args.getD 0 default=t.args[0]:=by rw[List.getD_eq_getElem?_getD,List.getElem?_eq_getElem (by omega)];rfl
      have ha1:t.args.getD 1 default=t.args[1]:=by rw[List.getD_eq_getElem?_getD,List.getElem?_eq_getElem (by omega)];rfl
      have hp1:∀ x,x∈[((goalEnd S S.first+1,t.args.getD 0 default),(goalEnd S S.first+2,t.args.getD 1 default))]→St S.H D Sc x.1.1 x.1.2∧St S.H D Sc x.2.1 x.2.2:=fun x hx=>by
       rw[List.mem_singleton] at hx;subst hx
       refine⟨?_,?_⟩
       ·rw[ha0];exact harg 0 (by omega)
       ·rw[ha1];exact harg 1 (by omega)
      have hms:=meetH_sim 4000 S.H P.σ [] P.L _ hsit.hang hp1
      have hbk:=keep_meetH 4000 S.H [] [(goalEnd S S.first+1,goalEnd S S.first+2)] hsit.hang.heap (fun x hx=>by
       rw[List.mem_singleton] at hx;subst hx
       have:=hp1 _ List.mem_cons_self
       exact⟨this.1.lt,this.2.lt⟩)
      have hrm:=meetH_room 4000 S.H [] [(goalEnd S S.first+1,goalEnd S S.first+2)] hsit.hang.heap (fun x hx=>by
       rw[List.mem_singleton] at hx;subst hx
       have:=hp1 _ List.mem_cons_self
       exact⟨this.1.lt,this.2.lt⟩) 4000 (by simp)
      have hky:=meet_keyD 4000 S.H P.σ P.L _ hsit.hang hp1
      simp only[List.map_cons,List.map_nil] at hms hky
      have hext:∀ (K:List HC) (B:List Nat),BKeep S.H [] K B→∀ S':MS,S'.H=K→S'.T=S.T++B→S'.G=S.G→Ext S S'∧∀ x,x∈S'.T→x<S'.H.length:=fun K B ⟨b1,b,b2,b3,b4⟩ S' x1 x2 x3=>by
       rw[List.nil_append] at b2
       subst b2
       refine⟨⟨by rw[x1];omega,⟨B,x2,fun i hi _=>(b3 i hi).2,fun i hl hn=>by rw[x1];exact b4 i hl hn⟩,⟨[],by rw[x3,List.append_nil]⟩⟩,fun x hx=>?_⟩
       rw[x2] at hx
       rw[x1]
       rcases List.mem_append.1 hx with hx | hx
       ·have:=hsit.trail x hx;omega
       ·have:=(b3 x hx).1;omega
      obtain⟨x,hx⟩:∃ x,msame (goalEnd S S.first+1) (goalEnd S S.first+2) { S with steps:=S.steps+1,f:=4000 }=x:=⟨_,rfl⟩
      rw[hx]
      cases e1:meetH S.H [] 4000 [(goalEnd S S.first+1,goalEnd S S.first+2)] with
      | ok K B f =>
       cases e2:meet P.σ P.L 4000 [(t.args.getD 0 default,t.args.getD 1 default)] with
       | ok σ L f' =>
        rw[e1,e2] at hms;rw[e1] at hbk hrm;rw[e2] at hky
        have hrb:B.length≤4000:=hrm
        obtain⟨rfl,m1,m2,m3⟩:=hms
        obtain rfl:x=({ S with H:=K,T:=S.T++B,f:=f,steps:=S.steps+1 },true):=by rw[← hx];simp only[msame,e1]
        simp only[if_true,hnow]
        have hx:=hext K B hbk { S with H:=K,T:=S.T++B,f:=f,steps:=S.steps+1,first:=(gn S (S.first-1)).next } rfl rfl rfl
        have hc0:Core p { S with H:=K,T:=S.T++B,f:=f,steps:=S.steps+1,first:=(gn S (S.first-1)).next } { P with σ:=σ,L:=L,f:=f,now:=r,steps:=P.steps+1 }:=by
         refine⟨⟨D,Sc,m1,h3.keep0 m3,fun i hi=>m3 _ _ (hsit.query i hi),fun v hv'=>?_,fun i hi=>?_,hx.2⟩,h.ch.ext hx.1 rfl⟩
         ·obtain⟨f1,f2⟩:=hsit.fresh v hv'
          refine⟨f1,?_⟩
          by_cases hz:σ v=none
          ·exact hz
          ·exact absurd (hky v f2 hz) f1
         ·have:=hsit.goals i hi
          exact⟨by simp only;rw[m2];exact this.1,this.2⟩
        exact⟨⟨hf.1.trans hf.2.symm,by simp only;rw[hs.1],hs.2,fun _=>hc0,⟨_,hc0⟩⟩,⟨by simp only;omega,by simp only;omega,rfl,by simp only[List.length_append];omega⟩⟩
       | no σ L f'=>rw[e1,e2] at hms;exact hms.elim
       | many σ L=>rw[e1,e2] at hms;exact hms.elim
      | no K B f =>
       cases e2:meet P.σ P.L 4000 [(t.args.getD 0 default,t.args.getD 1 default)] with
       | no σ L f' =>
        rw[e1,e2] at hms;rw[e1] at hbk
        obtain⟨rfl,-,-⟩:=hms
        obtain⟨u1,u2,u3⟩:=(hext K B hbk { S with H:=K,T:=S.T++B,f:=f,steps:=S.steps+1 } rfl rfl rfl).1.back S.first
        obtain rfl:x=({ S with H:=K,T:=S.T++B,f:=f,steps:=S.steps+1 },false):=by rw[← hx];simp only[msame,e1]
        simp only[Bool.false_eq_true,if_false,hnow]
        have hc0:Core p { undoS { S with H:=K,T:=S.T++B,f:=f,steps:=S.steps+1 } (markS S S.first) with first:=(gn S (S.first-1)).next } { P with f:=f,now:=r,steps:=P.steps+1 } :=
         ⟨⟨D,Sc,hnext _ u1 u2 u3 rfl rfl⟩,h.ch.congr u1 u2 u3 rfl⟩
        rw[if_neg (show ¬ (undoS { S with H:=K,T:=S.T++B,f:=f,steps:=S.steps+1 } (markS S S.first)).fin≠0 from fun e=>e hf.1),← hlen]
        obtain⟨r1,r2⟩:=back_sim hp S.ch.length _ _ hc0.ch.whole (Nat.le_refl _) hlen hf ⟨by simp only[undoS];rw[hs.1],hs.2⟩ ⟨_,hc0⟩ (by rw[show ({ undoS { S with H:=K,T:=S.T++B,f:=f,steps:=S.steps+1 } (markS S S.first) with first:=(gn S (S.first-1)).next }:MS).H=S.H from u1,show ({ undoS { S with H:=K,T:=S.T++B,f:=f,steps:=S.steps+1 } (markS S S.first) with first:=(gn S (S.first-1)).next }:MS).G=S.G from u3];exact hroom)
        exact⟨r1,⟨by have:=r2.heap;rwa [show ({ undoS { S with H:=K,T:=S.T++B,f:=f,steps:=S.steps+1 } (markS S S.first) with first:=(gn S (S.first-1)).next }:MS).H=S.H from u1] at this,by have:=r2.goals;rwa [show ({ undoS { S with H:=K,T:=S.T++B,f:=f,steps:=S.steps+1 } (markS S S.first) with first:=(gn S (S.first-1)).next }:MS).G=S.G from u3] at this,r2.q,by have:=r2.trail;rwa [show ({ undoS { S with H:=K,T:=S.T++B,f:=f,steps:=S.steps+1 } (markS S S.first) with first:=(gn S (S.first-1)).next }:MS).T=S.T from u2] at this⟩⟩
       | ok σ L f'=>rw[e1,e2] at hms;exact hms.elim
       | many σ L=>rw[e1,e2] at hms;exact hms.elim
      | many K B =>
       cases e2:meet P.σ P.L 4000 [(t.args.getD 0 default,t.args.getD 1 default)] with
       | many σ L =>
        rw[e1] at hbk
        obtain⟨u1,u2,u3⟩:=(hext K B hbk { S with H:=K,T:=S.T++B,f:=0,fin:=3,steps:=S.steps+1 } rfl rfl rfl).1.back S.first
        obtain rfl:x=({ S with H:=K,T:=S.T++B,f:=0,fin:=3,steps:=S.steps+1 },false):=by rw[← hx];simp only[msame,e1]
        simp only[Bool.false_eq_true,if_false,hnow]
        have hc0:Core p { undoS { S with H:=K,T:=S.T++B,f:=0,fin:=3,steps:=S.steps+1 } (markS S S.first) with first:=(gn S (S.first-1)).next } { P with f:=0,fin:=3,now:=r,steps:=P.steps+1 } :=
         ⟨⟨D,Sc,hnext _ u1 u2 u3 rfl rfl⟩,h.ch.congr u1 u2 u3 rfl⟩
        rw[if_pos (show (undoS { S with H:=K,T:=S.T++B,f:=0,fin:=3,steps:=S.steps+1 } (markS S S.first)).fin≠0 by simp[undoS])]
        exact⟨⟨rfl,by simp only[undoS];rw[hs.1],hs.2,(fun e=>by simp[undoS] at e),⟨_,hc0⟩⟩,⟨by simp only;rw[u1];omega,by simp only;rw[u3];omega,rfl,by simp only;rw[u2];omega⟩⟩
       | no σ L f'=>rw[e1,e2] at hms;exact hms.elim
       | ok σ L f'=>rw[e1,e2] at hms;exact hms.elim
 ·have hk:=c5 hv
  rw[if_pos hk,if_pos hv]
  have hc0:Core p { S with steps:=S.steps+1,f:=4000,fin:=4 } { P with steps:=P.steps+1,f:=4000,fin:=4 }:=⟨⟨D,Sc,hsit.congr rfl rfl rfl rfl⟩,h.ch.congr rfl rfl rfl rfl⟩
  exact⟨⟨rfl,by simp only;rw[hs.1],hs.2,(fun e=>by cases e),⟨_,hc0⟩⟩,⟨by simp only;omega,by simp only;omega,rfl,by simp only;omega⟩⟩
end Go.Proofs.Ytikmgiapjigghaa

/- Plain: a machine and a search stand alike behind an answer, behind a step, behind a run. -/
namespace Go.Proofs.Ytikmgiapjigghaa
open Go.RowKit
theorem hang_says{H:List HC}{σ:Sub}{D:Int→Prop}{Sc:Int→Nat}(h:Hang H σ D Sc)(ps:List (Nat×Tm))(hp:Sts H D Sc ps) :
 (shL H 200 (ps.map (·.1))).map (fun x=>(Tm.rens numV [] x.1).1)=(thrL σ 200 (ps.map (·.2))).map (fun x=>(Tm.rens numV [] x.1).1):=by
 rw[h.show 200 ps hp]
 cases hx:thrL σ 200 (ps.map (·.2)) with
 | none=>rfl
 | some x =>
  simp only[Option.map_some]
  congr 1
  have hb:=h.bare 200 ps x hp hx
  exact rens_inj (P:=fun v=>D v∧look σ (VarT v)=VarT v) (g:=gC H Sc) (fun v w hv hw' e=>by
   have hv0:=h.pos v hv.1;have hw0:=h.pos w hw'.1
   have hvv:(VarT v).var=v:=rfl
   have hww:(VarT w).var=w:=rfl
   have:=(h.cls v w hv.1 hw'.1 (by rw[hv.2,hvv];omega) (by rw[hw'.2,hww];omega)).2 (by unfold gC at e;omega)
   rw[hv.2,hw'.2] at this
   exact this) (fun v _=>by unfold gC;omega) x.1 (fun t ht=>(hb t ht).1) (fun t ht p hp' hv=>(hb t ht).2 p hp' hv)
theorem answ_sim{p:List Cl}(hp:∀ c,c∈p→ClG c){S:MS}{P:PS}(h:Core p S P)(hf:S.fin=0∧P.fin=0)(hs:S.steps=P.steps∧S.ans=P.ans){query:Nat}(hq:S.Q.length=query)(ha:S.ans.length+1≤40)(hroom:S.H.length+833≤400000∧S.G.length+6≤5000) :
 MvS p (mansw p S) (pansw p query P)∧Grown S (mansw p S):=by
 obtain⟨D,Sc,hsit⟩:=h.sit
 have hlen:=h.len
 have hw:∃ P0,Core p S P0:=⟨P,h⟩
 have hsay:=hang_says hsit.hang ((List.range query).map fun i=>(S.Q.getD i 0,VarT ((i:Int)+1))) (fun x hx=>by
  obtain⟨i,hi,rfl⟩:=List.mem_map.1 hx
  rw[List.mem_range,← hq] at hi
  have:=hsit.query i hi
  simp only
  rw[List.getD_eq_getElem?_getD,List.getElem?_eq_getElem hi]
  exact this)
 have e1:((List.range query).map fun i=>(S.Q.getD i 0,VarT ((i:Int)+1))).map (·.1)=S.Q:=by
  rw[List.map_map]
  refine List.ext_getElem (by simp[hq]) fun i h1 h2=>?_
  simp only[List.getElem_map,List.getElem_range,Function.comp]
  rw[List.getD_eq_getElem?_getD,List.getElem?_eq_getElem h2];rfl
 have e2:((List.range query).map fun i=>(S.Q.getD i 0,VarT ((i:Int)+1))).map (·.2)=varsL query:=by rw[List.map_map];rfl
 rw[e1,e2] at hsay
 have stop:∀ (k:Nat) (A:List (List Tm)),k≠0→MvS p { S with ans:=A,fin:=k } { P with ans:=A,fin:=k }∧Grown S { S with ans:=A,fin:=k }:=fun k A hk=>by
  have hc0:Core p { S with ans:=A,fin:=k } { P with ans:=A,fin:=k }:=⟨⟨D,Sc,hsit.congr rfl rfl rfl rfl⟩,h.ch.congr rfl rfl rfl rfl⟩
  exact⟨⟨rfl,hs.1,rfl,fun e=>absurd e hk,⟨_,hc0⟩⟩,⟨by simp only;omega,by simp only;omega,rfl,by simp only;omega⟩⟩
 unfold mansw pansw
 cases hx:shL S.H 200 S.Q with
 | none =>
  rw[hx] at hsay
  cases hy:thrL P.σ 200 (varsL query) with
  | some y=>rw[hy] at hsay;cases hsay
  | none =>
   have:=stop 3 S.ans (by decide)
   rw[hs.2] at this
   simp only
   have e3:({ S with fin:=3 }:MS) = { S with ans:=P.ans,fin:=3 }:=by rw[← hs.2]
   rw[e3]
   exact this
 | some x =>
  rw[hx] at hsay
  cases hy:thrL P.σ 200 (varsL query) with
  | none=>rw[hy] at hsay;cases hsay
  | some y =>
   rw[hy] at hsay
   simp only[Option.map_some,Option.some.injEq] at hsay
   simp only
   rw[hsay,hs.2]
   have hal:P.ans.length+1≤40:=by rw[← hs.2];exact ha
   by_cases h40:P.ans.length+1=40
   ·rw[if_pos (by omega),if_pos h40]
    exact stop 1 _ (by decide)
   ·rw[if_neg (by omega),if_neg h40,← hlen]
    have hc0:Core p { S with ans:=P.ans++[(Tm.rens numV [] y.1).1] } { P with ans:=P.ans++[(Tm.rens numV [] y.1).1] }:=⟨⟨D,Sc,hsit.congr rfl rfl rfl rfl⟩,h.ch.congr rfl rfl rfl rfl⟩
    obtain⟨r1,r2⟩:=back_sim hp S.ch.length { S with ans:=P.ans++[(Tm.rens numV [] y.1).1] } { P with ans:=P.ans++[(Tm.rens numV [] y.1).1] } hc0.ch.whole (Nat.le_refl _) hlen hf ⟨hs.1,rfl⟩ ⟨_,hc0⟩ hroom
    exact⟨r1,⟨r2.heap,r2.goals,r2.q,r2.trail⟩⟩
end Go.Proofs.Ytikmgiapjigghaa

/- Plain: a machine's steps, and a machine and a search that run side by side. -/
namespace Go.Proofs.Ytikmgiapjigghaa
open Go.RowKit
noncomputable def mstep(p:List Cl)(most:Int)(S:MS):MS :=
 if S.first=0 then mansw p S else if most≤(S.steps:Int) then { S with fin:=2 } else mtake p S
noncomputable def mrun(p:List Cl)(most:Int):Nat→MS→MS
 | 0,S=>S
 | n+1,S=>if S.fin=0 then mrun p most n (mstep p most S) else S
theorem Sit.first{S:MS}{n vars:Nat}{σ:Sub}{now:List Goal}{D:Int→Prop}{Sc:Int→Nat}(h:Sit S n vars σ now D Sc):n=0↔now = []:=by
 cases now with
 | nil=>exact⟨fun _=>rfl,fun _=>h.go⟩
 | cons g r =>
  obtain⟨x,h1,-⟩:=h.go
  exact⟨fun e=>by omega,fun e=>by cases e⟩
theorem step_sim{p:List Cl}(hp:∀ c,c∈p→ClG c){S:MS}{P:PS}(h:MvS p S P)(h0:P.fin=0){query:Nat}{most:Nat}(hq:S.Q.length=query)(ha:P.ans.length+1≤40)(hm:P.steps≤most)(hroom:S.H.length+833≤400000∧S.G.length+6≤5000) :
 MvS p (mstep p most S) (pstep p query most P)∧Grown S (mstep p most S):=by
 have hc:=h.core (h.fin.trans h0)
 have hf:S.fin=0∧P.fin=0:=⟨h.fin.trans h0,h0⟩
 obtain⟨D,Sc,hs⟩:=hc.sit
 unfold mstep pstep
 by_cases hn:P.now = []
 ·rw[if_pos (hs.first.2 hn),if_pos hn]
  exact answ_sim hp hc hf ⟨h.steps,h.ans⟩ hq (by rw[h.ans];exact ha) hroom
 ·rw[if_neg (fun e=>hn (hs.first.1 e)),if_neg hn]
  have hst:=h.steps
  by_cases he:(P.steps:Int)=most
  ·rw[if_pos he,if_pos (by rw[hst];omega)]
   have hc0:Core p { S with fin:=2 } { P with fin:=2 }:=⟨⟨D,Sc,hs.congr rfl rfl rfl rfl⟩,hc.ch.congr rfl rfl rfl rfl⟩
   exact⟨⟨rfl,h.steps,h.ans,(fun e=>by cases e),⟨_,hc0⟩⟩,⟨by simp only;omega,by simp only;omega,rfl,by simp only;omega⟩⟩
  ·rw[if_neg he,if_neg (by rw[hst];omega)]
   exact take_sim hp hc hn hf ⟨h.steps,h.ans⟩ hroom
def left(most:Nat)(P:PS):Nat:=(most-P.steps)+(40-P.ans.length)
set_option maxRecDepth 20000 in
theorem runs_sim{p:List Cl}(hp:∀ c,c∈p→ClG c)(hpk:POk p)(h30:p.length≤30){query most:Nat}(hmost:most≤400):∀ (n:Nat) (S:MS) (P:PS),MvS p S P→RInv p P→P.steps≤most→S.Q.length=query→S.H.length≤400000→S.G.length≤5000 →
 (P.fin=0→S.H.length+833*(left most P+1)≤400000∧S.G.length+6*(left most P+1)≤5000) →
 MvS p (mrun p most n S) (prun p query most n P)∧(mrun p most n S).H.length≤400000∧(mrun p most n S).G.length≤5000∧(mrun p most n S).Q=S.Q:=by
 intro n
 induction n with
 | zero=>intro S P h _ _ _ h1 h2 _;exact⟨h,h1,h2,rfl⟩
 | succ n ih =>
  intro S P h hr hs hq h1 h2 hroom
  unfold mrun prun
  by_cases h0:P.fin=0
  ·rw[if_pos h0,if_pos (h.fin.trans h0)]
   obtain⟨r1,r2⟩:=hroom h0
   have ha:=(hr.core h0).2
   obtain⟨q1,q2⟩:=step_sim hp h h0 (most:=most) hq (by omega) hs (by constructor <;> omega)
   obtain⟨i1,i2,i3⟩:=step_inv hpk h30 query hmost hr h0 hs
   have g1:=q2.heap;have g2:=q2.goals;have g3:=q2.q
   obtain⟨k1,k2,k3,k4⟩:=ih (mstep p most S) (pstep p query most P) q1 i1 i2 (by rw[g3];exact hq) (by omega) (by omega) (fun e=>by
    have h3:=i3 e
    unfold left at r1 r2 ⊢
    constructor <;> omega)
   exact⟨k1,k2,k3,k4.trans g3⟩
  ·rw[if_neg h0,if_neg (by rw[h.fin];exact h0)]
   exact⟨h,h1,h2,rfl⟩
end Go.Proofs.Ytikmgiapjigghaa

/- Plain: a machine that starts, and a search that starts. -/
namespace Go.Proofs.Ytikmgiapjigghaa
open Go.RowKit
def mnew(q:List Tm)(g:Nat):MS :=
 mpush q (putL [] (fun _=>none) (varsL g)).1.2 0 0 { H:=(putL [] (fun _=>none) (varsL g)).1.1,G:=[],first:=0,ch:=[],T:=[],Q:=(putL [] (fun _=>none) (varsL g)).2,steps:=0,fin:=0,ans:=[],f:=4000 }
theorem far_zero(t:Tm):WfT t→far 0 t=t:=by
 unfold far
 rw[show (fun v:Int=>v+0)=fun v=>v from funext fun v=>Int.add_zero v]
 induction t using Tm.ind with
 | h v n l ih =>
  intro hw
  by_cases hv:v=0
  ·subst hv
   rw[Tm.mapv_fn (t:=.mk 0 n l) rfl]
   have:l.map (Tm.mapv fun v=>v)=l:=by
    conv=>rhs;rw[← List.map_id l]
    exact List.map_congr_left fun x hx=>ih x hx (hw.arg (t:=.mk 0 n l) hx)
   show Tm.mk 0 n _=_
   simp only[Tm.args,this]
  ·rw[Tm.mapv_var (t:=.mk v n l) hv]
   exact(hw.isVar (t:=.mk v n l) hv).symm
theorem far_zeros{l:List Tm}(h:∀ t,t∈l→WfT t):l.map (far 0)=l:=by
 conv=>rhs;rw[← List.map_id l]
 exact List.map_congr_left fun t ht=>far_zero t (h t ht)
theorem hang_nil:Hang [] (fun _=>none) (fun _=>False) (fun _=>0) :=
 ⟨⟨by simp,fun i hi=>absurd hi (Nat.not_lt_zero _),fun i hi=>absurd hi (Nat.not_lt_zero _)⟩,SInv.none,fun _ h=>h.elim,fun _ h=>h.elim,fun _ h=>h.elim,fun _ _ h=>h.elim⟩
theorem right_names{t:Tm}(h:t.checkE=0):NamesOk t:=by
 intro p hp hv
 have h0:=(check_zero h).2
 rw[Tm.partsE_eq] at h0
 have h1:=firstE_zero _ h0 p hp
 unfold Tm.partE at h1
 obtain⟨v,n,l⟩:=p
 simp only[Tm.var,Tm.name,Tm.args] at hv h1 ⊢
 subst hv
 unfold Go.Proofs.Ytikmgiapjigghaa.partE at h1
 rw[if_pos rfl] at h1
 split at h1
 ·cases h1
 ·split at h1
  ·cases h1
  ·split at h1
   ·cases h1
   ·rename_i a b c
    refine⟨?_,by omega,fun e=>c ⟨beq_iff_eq.2 e.1,e.2⟩⟩
    simpa using a
theorem tmg_of{t:Tm}(h:t.checkE=0):TmG t:=⟨check_fit h,right_names h,(check_zero h).1⟩
theorem clg_of{P:List Cl}(h:programE P=0):∀ c,c∈P→ClG c:=fun c hc=>by
 obtain⟨h1,h2⟩:=(program_zero h).2 c hc
 exact⟨tmg_of h1,fun b hb=>tmg_of (query_mem h2 hb),(query_zero h2).1⟩
theorem tmg_var{i:Nat}(h:i<12):TmG (VarT ((i:Int)+1)):=by
 refine⟨fit_var (by omega) (by omega),fun p hp hv=>?_,?_⟩
 ·have:(VarT ((i:Int)+1)).parts = [VarT ((i:Int)+1)]:=by unfold VarT;rw[Tm.parts];rfl
  rw[this,List.mem_singleton] at hp
  subst hp
  have:((i:Int)+1)=0:=hv
  omega
 ·unfold VarT;simp[Tm.size,Tm.sizes]
theorem stsL_at{H:List HC}{D:Int→Prop}{Sc:Int→Nat}:∀ {cs0:List Nat} {ts:List Tm},StsL H D Sc cs0 ts→cs0.length=ts.length∧∀ i (h1:i<cs0.length) (h2:i<ts.length),St H D Sc cs0[i] ts[i]:=by
 intro cs0
 induction cs0 with
 | nil=>intro ts h;cases ts with
  | nil=>exact⟨rfl,fun i h1=>absurd h1 (Nat.not_lt_zero _)⟩
  | cons t ts=>exact h.elim
 | cons a cs0 ih=>intro ts h;cases ts with
  | nil=>exact h.elim
  | cons t ts =>
   obtain⟨h1,h2⟩:=ih h.2
   refine⟨by simp[h1],fun i q1 q2=>?_⟩
   cases i with
   | zero=>exact h.1
   | succ i=>exact h2 i (by simpa using q1) (by simpa using q2)
theorem start_sim(p:List Cl){q:List Tm}(hq:queryE q=0){g:Nat}(hg:g≤12) :
 MvS p (mnew q g) (startP q)∧(mnew q g).H.length≤2142∧(mnew q g).G.length≤6∧(mnew q g).Q.length=g∧(mnew q g).fin=0:=by
 have hvg:∀ t,t∈varsL g→TmG t:=fun t ht=>by
  unfold varsL at ht
  obtain⟨i,hi,rfl⟩:=List.mem_map.1 ht
  rw[List.mem_range] at hi
  exact tmg_var (by omega)
 have hvl:(varsL g).length=g:=by simp[varsL]
 have hql:=(query_zero hq).1
 obtain⟨D1,S1,q1⟩:=putL_sim (σ:=fun _=>none) (k:=0) (Int.le_refl _) (varsL g) [] (fun _=>none) (fun _=>False) (fun _=>0) hang_nil ⟨(fun v c e=>by cases e),fun v _ _=>⟨fun h=>h,rfl⟩⟩ (fun v w c e=>by cases e) (fun v c e=>by cases e) hvg (by rw[hvl];simp;omega)
 have l1:=q1.len.2
 rw[hvl] at l1
 simp only[List.length_nil] at l1
 obtain⟨D2,S2,q2⟩:=putL_sim (σ:=fun _=>none) (k:=0) (Int.le_refl _) q _ _ D1 S1 q1.hang q1.rel q1.inj q1.dom (fun t ht=>tmg_of (query_mem hq ht)) (by omega)
 have l2:=q2.len.2
 have st1:=q1.st
 rw[far_zeros (fun t ht=>(hvg t ht).fit.wf)] at st1
 have st2:=q2.st
 rw[far_zeros (fun t ht=>(check_fit (query_mem hq ht)).wf)] at st2
 obtain⟨s1,s2⟩:=stsL_at st1
 obtain⟨c1,-⟩:=stsL_at st2
 rw[hvl] at s1
 obtain⟨p1,p2,⟨gg,p3,p4⟩,p5⟩:=push_rel (H:=(putL (putL [] (fun _=>none) (varsL g)).1.1 (putL [] (fun _=>none) (varsL g)).1.2 q).1.1) (D:=D2) (Sc:=S2) 0 (G:=[]) (nx:=0) (rest:=[]) rfl (Nat.le_refl _) (fun i h=>absurd h (Nat.not_lt_zero _)) _ _ st2
 have hGl:(pushG 0 (putL (putL [] (fun _=>none) (varsL g)).1.1 (putL [] (fun _=>none) (varsL g)).1.2 q).2.reverse ([],0)).1.length≤6:=by rw[p3,List.nil_append,p4,c1];exact hql
 have hfin:(mnew q g).fin=0:=by
  simp only[mnew,mpush]
  rw[if_neg (by omega)]
 have hc0:Core p (mnew q g) (startP q):=by
  refine⟨⟨D2,S2,q2.hang,?_,fun i hi=>?_,fun v hv=>?_,p5,fun x hx=>by cases hx⟩,trivial⟩
  ·rw[List.append_nil] at p1;exact p1
  ·have h3:=s2 i hi (by rw[hvl,← s1];exact hi)
   have h4:=q2.keep _ _ h3
   have e:(varsL g)[i]'(by rw[hvl,← s1];exact hi)=VarT ((i:Int)+1):=by simp[varsL]
   rw[e] at h4
   exact h4
  ·have hn:(putL (putL [] (fun _=>none) (varsL g)).1.1 (putL [] (fun _=>none) (varsL g)).1.2 q).1.2 v=none:=by
    cases hz:(putL (putL [] (fun _=>none) (varsL g)).1.1 (putL [] (fun _=>none) (varsL g)).1.2 q).1.2 v with
    | none=>rfl
    | some k =>
     have h5:=q2.dom _ _ hz
     have h6:((12:Nat):Int)<v:=hv
     omega
   have:=q2.rel.new v (by have h6:((12:Nat):Int)<v:=hv;omega) hn
   rwa [Int.add_zero] at this
 exact⟨⟨hfin,rfl,rfl,fun _=>hc0,⟨_,hc0⟩⟩,by simp only[mnew,mpush];omega,hGl,s1,hfin⟩
theorem mrun_solve{p:List Cl}(hp:programE p=0){q:List Tm}(hq:queryE q=0){most:Nat}(hm:most≤400) :
 MvS p (mrun p most 442 (mnew q (Tm.greats q).toNat)) (solveP p q most)∧(mrun p most 442 (mnew q (Tm.greats q).toNat)).H.length≤400000∧(mrun p most 442 (mnew q (Tm.greats q).toNat)).G.length≤5000:=by
 have hg:(Tm.greats q).toNat≤12:=by have:=query_great hq;omega
 obtain⟨h1,h2,h3,h4,h5⟩:=start_sim p hq hg
 obtain⟨k1,k2,k3,-⟩:=runs_sim (clg_of hp) (pok_of hp) (program_zero hp).1 hm 442 _ _ h1 (start_inv p hq) (Nat.zero_le _) h4 (by omega) (by omega) (fun _=>by
  have:left most (startP q)≤440:=by simp[left,startP];omega
  constructor <;> omega)
 exact⟨k1,k2,k3⟩
end Go.Proofs.Ytikmgiapjigghaa

/- What a statement's machine reads as. -/
namespace Go.Proofs.Ytikmgiapjigghaa
open Go.ChangeShapes Go.WideShapes Go.ChangeAt Go.RowKit Go.Deep
def ReachD{H:Type}(t:TypeId)(d:DataW H):Prop:=∀ n∈d.weights Try.prog t,n≤reachBytes
theorem weightsAll_mem{H:Type}{P:Program}{e:TypeId}:∀ {ds:List (DataW H)} {d:DataW H},d∈ds→∀ n∈d.weights P e,n∈DataW.weightsAll P e ds
 | d0::ds,d,hd,n,hn=>by
  simp only[DataW.weightsAll,List.mem_append]
  rcases List.mem_cons.1 hd with rfl | hd
  ·exact .inl hn
  ·exact .inr (weightsAll_mem hd n hn)
theorem ReachD.field{H:Type}{t:TypeId}{fs:Array Field}{parts:List (DataW H)}(ht:Try.prog.underlying t=some (.struct fs))(h:ReachD t (.agg parts)){i:Nat}{f:Field}{d:DataW H}(hf:fs[i]? = some f)(hd:parts[i]? = some d):ReachD f.type d:=fun n hn=>h n (by
 simp only[DataW.weights,ht]
 exact DataW.weights_mem_each (j:=i) (by simp[hf]) hd n hn)
theorem ReachD.slice{H:Type}{t e:TypeId}{elems spare:List (DataW H)}(ht:Try.prog.underlying t=some (.slice e))(h:ReachD t (.slice elems spare)):elems.length*Try.prog.bytesOf e≤reachBytes∧∀ d,d∈elems→ReachD e d:=by
 refine⟨?_,fun d hd n hn=>h n ?_⟩
 ·have h1:=h ((elems.length+spare.length)*Try.prog.bytesOf e) (by simp only[DataW.weights,ht];exact List.mem_cons_self ..)
  exact Nat.le_trans (Nat.mul_le_mul_right _ (Nat.le_add_right _ _)) h1
 ·simp only[DataW.weights,ht]
  exact List.mem_cons_of_mem _ (List.mem_append.2 (.inl (weightsAll_mem hd n hn)))
section
variable {H:Type} {enc:TypeId×Value→H} {w:World} {base:Nat} {spare:Nat→Bool} {held:Bool}
theorem trod_row{t e:TypeId}{k:Nat}(ht:Try.prog.underlying t=some (.slice e))(hk:Try.prog.cellsOf e=k)(k0:0<k){α:Type}(R:List Value→α→Prop){fuel:Nat}
 (hR:∀ m,m<fuel→∀ cs (x:DataW H×List MemPlace),DataW.trod enc Try.prog w base spare held m e cs=some x→ReachD e x.1→∃ a,R cs a)
 {cs:List Value} {x:DataW H×List MemPlace} (h:DataW.trod enc Try.prog w base spare held fuel t cs=some x) (hz:ReachD t x.1) :
 ∃ (l:List α) (a:Option Addr) (cap:Nat),cs = [.slice a l.length cap]∧(l.length≤cap∧cap≤maxLen∧(a=none→cap=0))∧l.length*Try.prog.bytesOf e≤reachBytes ∧
  ∀ i (hi:i<l.length),∃ (b off:Nat) (cs':List Value),a=some ⟨b,off,none⟩∧b<w.heap.size∧R cs' l[i]∧cs'.length=k∧∀ j v,cs'[j]? = some v→w.cell? ⟨b,off+i*k+j,none⟩=some v:=by
 rcases DataW.trod_slice ht h with ⟨rfl,_⟩ | ⟨a,len,cap,elems,rest,n,rfl,rfl,hx,_,hl,hm,hlen,hel,_,_⟩
 ·exact⟨[],none,0,rfl,⟨Nat.le_refl _,Nat.zero_le _,fun _=>rfl⟩,by simp,fun i hi=>absurd hi (Nat.not_lt_zero i)⟩
 ·rw[hx] at hz
  obtain⟨hz1,hz2⟩:=hz.slice ht
  have key:∀ i:Fin len,∃ y:α,∃ (b off:Nat) (cs':List Value),a=⟨b,off,none⟩∧b<w.heap.size∧R cs' y∧cs'.length=k∧∀ j v,cs'[j]? = some v→w.cell? ⟨b,off+i*k+j,none⟩=some v:=by
   intro ⟨i,hi⟩
   have h1:=hel i hi
   have hie:i<elems.length:=by omega
   rw[List.getElem?_eq_getElem hie] at h1
   obtain⟨cs',hcs,htr⟩:=Option.bind_eq_some_iff.1 h1
   rw[hk] at hcs
   obtain⟨_,hcl,hat⟩:=World.cells?_some hcs
   obtain⟨y,hy⟩:=hR n (Nat.lt_succ_self n) cs' elems[i] htr (hz2 _ (List.mem_map.2 ⟨_,List.getElem_mem hie,rfl⟩))
   have c0:=hat 0 k0
   rw[List.getElem?_eq_getElem (by omega:0<cs'.length)] at c0
   obtain⟨b,off,spot⟩:=a
   have hsp:spot=none:=by
    have h8:=hel 0 (by omega)
    rw[List.getElem?_eq_getElem (by omega:0<elems.length)] at h8
    obtain⟨cs0,hcs0,_⟩:=Option.bind_eq_some_iff.1 h8
    rw[hk] at hcs0
    obtain⟨_,hcl0,hat0⟩:=World.cells?_some hcs0
    have b0:=hat0 0 k0
    rw[List.getElem?_eq_getElem (by omega:0<cs0.length)] at b0
    have:=World.cell?_spot b0
    simpa[Addr.add] using this
   subst hsp
   simp only[addr_add] at c0 hat
   refine⟨y,b,off,cs',rfl,cell_lt c0,hy,hcl,fun j v hv=>?_⟩
   have hj:j<cs'.length:=(List.getElem?_eq_some_iff.1 hv).1
   exact(hat j (by omega)).trans hv
  refine⟨List.ofFn fun i=>Classical.choose (key i),some a,cap,by rw[List.length_ofFn],⟨by rw[List.length_ofFn];exact hl,hm,fun h=>nomatch h⟩,by rw[List.length_ofFn];simpa[hlen] using hz1,fun i hi=>?_⟩
  rw[List.length_ofFn] at hi
  obtain⟨b,off,cs',h1,h2,h3,h4,h5⟩:=Classical.choose_spec (key ⟨i,hi⟩)
  refine⟨b,off,cs',by rw[h1],h2,?_,h4,h5⟩
  rw[List.getElem_ofFn]
  exact h3
theorem bCell:Try.prog.bytesOf 120=32:=by kernel_rfl
theorem bGoal:Try.prog.bytesOf 155=24:=by kernel_rfl
theorem bChoice:Try.prog.bytesOf 157=40:=by kernel_rfl
theorem bInt:Try.prog.bytesOf 3=8:=by kernel_rfl
theorem bTerm:Try.prog.bytesOf 24=48:=by kernel_rfl
theorem bAnswer:Try.prog.bytesOf 146=24:=by kernel_rfl
theorem cGoal:Try.prog.cellsOf 155=3:=by kernel_rfl
theorem cChoice:Try.prog.cellsOf 157=5:=by kernel_rfl
theorem cAnswer:Try.prog.cellsOf 146=1:=by kernel_rfl
theorem cAnswers:Try.prog.cellsOf 64=1:=by kernel_rfl
theorem cCells:Try.prog.cellsOf 42=1:=by kernel_rfl
theorem cGoals:Try.prog.cellsOf 78=1:=by kernel_rfl
theorem cChoices:Try.prog.cellsOf 79=1:=by kernel_rfl
theorem cInts:Try.prog.cellsOf 44=1:=by kernel_rfl
theorem cMac:Try.prog.cellsOf 81=9:=by kernel_rfl
theorem reach_le{n:Nat}(h:n≤reachBytes):n≤140737488355328:=Nat.le_trans h (by decide)
theorem trod_hpR{n:Nat}{cs:List Value}{x:DataW H×List MemPlace}(h:DataW.trod enc Try.prog w base spare held n 42 cs=some x)(hz:ReachD 42 x.1) :
 ∃ (K:List HC) (a:Option Addr) (cap:Nat),cs = [.slice a K.length cap]∧HpAt w (fun _=>True) K a cap∧K.length*32≤140737488355328:=by
 obtain⟨l,a,cap,h1,h2,h3,h4⟩:=trod_row (e:=120) Try.underlying42 cHc (by decide) (fun cs (c:HC)=>cs = [.int .i64 c.k,.int .i64 c.n,.string c.name]∧c.fits) (fun m _ cs x h _=>trod_hc h) h hz
 rw[bCell] at h3
 refine⟨l,a,cap,h1,⟨h2,fun i hi=>?_⟩,reach_le h3⟩
 obtain⟨b,off,cs',e1,e2,⟨rfl,e3⟩,-,e5⟩:=h4 i hi
 rw[hc_get hi]
 exact⟨b,off,e1,trivial,e2,e5 0 _ rfl,e5 1 _ rfl,e5 2 _ rfl,e3⟩
theorem trod_ints{n:Nat}{cs:List Value}{x:DataW H×List MemPlace}(h:DataW.trod enc Try.prog w base spare held n 44 cs=some x)(hz:ReachD 44 x.1) :
 ∃ (l:List Int) (a:Option Addr) (cap:Nat),cs = [.slice a l.length cap]∧IsAt w (fun _=>True) l a cap∧l.length*8≤140737488355328:=by
 obtain⟨l,a,cap,h1,h2,h3,h4⟩:=trod_row (e:=3) Try.underlying44 cI (by decide) (fun cs (c:Int)=>cs = [.int .i64 c]) (fun m _ cs x h _=>by
  obtain⟨y,e,-,-⟩:=DataW.trod_int Try.underlying3 h
  exact⟨y,e⟩) h hz
 rw[bInt] at h3
 refine⟨l,a,cap,h1,⟨h2,fun i hi=>?_⟩,reach_le h3⟩
 obtain⟨b,off,cs',e1,e2,rfl,-,e5⟩:=h4 i hi
 have:=e5 0 _ rfl
 rw[Nat.mul_one] at this
 exact⟨b,off,e1,trivial,e2,this⟩
theorem flatG_inv:∀ (l:List Gl) (j:Nat) (u:Value),(flatG l)[j]? = some u→∃ (i r:Nat) (h:i<l.length),j=i*3+r∧[Value.int .i64 l[i].at',Value.int .i64 l[i].cut,Value.int .i64 l[i].next][r]? = some u
 | [],j,u,h=>by cases h
 | x::l,0,u,h=>⟨0,0,Nat.succ_pos _,rfl,h⟩
 | x::l,1,u,h=>⟨0,1,Nat.succ_pos _,rfl,h⟩
 | x::l,2,u,h=>⟨0,2,Nat.succ_pos _,rfl,h⟩
 | x::l,j+3,u,h=>by
  obtain⟨i,r,hi,e1,e2⟩:=flatG_inv l j u h
  exact⟨i+1,r,Nat.succ_lt_succ hi,by omega,e2⟩
theorem flatK_inv:∀ (l:List Chi) (j:Nat) (u:Value),(flatK l)[j]? = some u→∃ (i r:Nat) (h:i<l.length),j=i*5+r∧[Value.int .i64 l[i].goal,Value.int .i64 l[i].clause,Value.int .i64 l[i].heap,Value.int .i64 l[i].trail,Value.int .i64 l[i].goals][r]? = some u
 | [],j,u,h=>by cases h
 | x::l,0,u,h=>⟨0,0,Nat.succ_pos _,rfl,h⟩
 | x::l,1,u,h=>⟨0,1,Nat.succ_pos _,rfl,h⟩
 | x::l,2,u,h=>⟨0,2,Nat.succ_pos _,rfl,h⟩
 | x::l,3,u,h=>⟨0,3,Nat.succ_pos _,rfl,h⟩
 | x::l,4,u,h=>⟨0,4,Nat.succ_pos _,rfl,h⟩
 | x::l,j+5,u,h=>by
  obtain⟨i,r,hi,e1,e2⟩:=flatK_inv l j u h
  exact⟨i+1,r,Nat.succ_lt_succ hi,by omega,e2⟩
set_option maxRecDepth 100000 in
theorem trod_gl{n:Nat}{cs:List Value}{x:DataW H×List MemPlace}(h:DataW.trod enc Try.prog w base spare held n 155 cs=some x) :
 ∃ g:Gl,cs = [.int .i64 g.at',.int .i64 g.cut,.int .i64 g.next]:=by
 obtain⟨ys,n',hn',hy,hlen',hyl,hf⟩:=DataW.trod_struct Try.underlying155 h
 rw[cGoal] at hlen'
 match cs,hlen',ys,hyl with
 | [c0,c1,c2],_,[y0,y1,y2],_ =>
  have f0 := hf 0 ⟨ "At", 3, 0, false, "", "", 0⟩ rfl
  have f1 := hf 1 ⟨ "Cut", 3, 1, false, "", "", 8⟩ rfl
  have f2 := hf 2 ⟨ "Next", 3, 2, false, "", "", 16⟩ rfl
  simp only[cI,List.drop_zero,List.drop_succ_cons,List.take_succ_cons,List.take_zero,List.getElem?_cons_zero,List.getElem?_cons_succ] at f0 f1 f2
  obtain⟨v0,e0,_,_⟩:=DataW.trod_int Try.underlying3 f0
  obtain⟨v1,e1,_,_⟩:=DataW.trod_int Try.underlying3 f1
  obtain⟨v2,e2,_,_⟩:=DataW.trod_int Try.underlying3 f2
  simp only[List.cons.injEq,and_true] at e0 e1 e2
  subst e0;subst e1;subst e2
  exact⟨⟨v0,v1,v2⟩,rfl⟩
set_option maxRecDepth 100000 in
theorem trod_chi{n:Nat}{cs:List Value}{x:DataW H×List MemPlace}(h:DataW.trod enc Try.prog w base spare held n 157 cs=some x) :
 ∃ c:Chi,cs = [.int .i64 c.goal,.int .i64 c.clause,.int .i64 c.heap,.int .i64 c.trail,.int .i64 c.goals]:=by
 obtain⟨ys,n',hn',hy,hlen',hyl,hf⟩:=DataW.trod_struct Try.underlying157 h
 rw[cChoice] at hlen'
 match cs,hlen',ys,hyl with
 | [c0,c1,c2,c3,c4],_,[y0,y1,y2,y3,y4],_ =>
  have f0 := hf 0 ⟨ "Goal", 3, 0, false, "", "", 0⟩ rfl
  have f1 := hf 1 ⟨ "Clause", 3, 1, false, "", "", 8⟩ rfl
  have f2 := hf 2 ⟨ "Heap", 3, 2, false, "", "", 16⟩ rfl
  have f3 := hf 3 ⟨ "Trail", 3, 3, false, "", "", 24⟩ rfl
  have f4 := hf 4 ⟨ "Goals", 3, 4, false, "", "", 32⟩ rfl
  simp only[cI,List.drop_zero,List.drop_succ_cons,List.take_succ_cons,List.take_zero,List.getElem?_cons_zero,List.getElem?_cons_succ] at f0 f1 f2 f3 f4
  obtain⟨v0,e0,_,_⟩:=DataW.trod_int Try.underlying3 f0
  obtain⟨v1,e1,_,_⟩:=DataW.trod_int Try.underlying3 f1
  obtain⟨v2,e2,_,_⟩:=DataW.trod_int Try.underlying3 f2
  obtain⟨v3,e3,_,_⟩:=DataW.trod_int Try.underlying3 f3
  obtain⟨v4,e4,_,_⟩:=DataW.trod_int Try.underlying3 f4
  simp only[List.cons.injEq,and_true] at e0 e1 e2 e3 e4
  subst e0;subst e1;subst e2;subst e3;subst e4
  exact⟨⟨v0,v1,v2,v3,v4⟩,rfl⟩
theorem trod_goals{n:Nat}{cs:List Value}{x:DataW H×List MemPlace}(h:DataW.trod enc Try.prog w base spare held n 78 cs=some x)(hz:ReachD 78 x.1) :
 ∃ (l:List Gl) (a:Option Addr) (cap:Nat),cs = [.slice a l.length cap]∧RwAt w (fun _=>True) 3 l.length (flatG l) a cap∧l.length*24≤140737488355328:=by
 obtain⟨l,a,cap,h1,h2,h3,h4⟩:=trod_row (e:=155) Try.underlying78 cGoal (by decide) (fun cs (g:Gl)=>cs = [.int .i64 g.at',.int .i64 g.cut,.int .i64 g.next]) (fun m _ cs x h _=>trod_gl h) h hz
 rw[bGoal] at h3
 refine⟨l,a,cap,h1,⟨h2,flatG_length l,fun j u hu=>?_⟩,reach_le h3⟩
 obtain⟨i,r,hi,rfl,hr⟩:=flatG_inv l j u hu
 obtain⟨b,off,cs',e1,e2,rfl,-,e5⟩:=h4 i hi
 have:=e5 r u hr
 rw[Nat.add_assoc] at this
 exact⟨b,off,e1,trivial,e2,this⟩
theorem trod_choices{n:Nat}{cs:List Value}{x:DataW H×List MemPlace}(h:DataW.trod enc Try.prog w base spare held n 79 cs=some x)(hz:ReachD 79 x.1) :
 ∃ (l:List Chi) (a:Option Addr) (cap:Nat),cs = [.slice a l.length cap]∧RwAt w (fun _=>True) 5 l.length (flatK l) a cap∧l.length*40≤140737488355328:=by
 obtain⟨l,a,cap,h1,h2,h3,h4⟩:=trod_row (e:=157) Try.underlying79 cChoice (by decide) (fun cs (c:Chi)=>cs = [.int .i64 c.goal,.int .i64 c.clause,.int .i64 c.heap,.int .i64 c.trail,.int .i64 c.goals]) (fun m _ cs x h _=>trod_chi h) h hz
 rw[bChoice] at h3
 refine⟨l,a,cap,h1,⟨h2,flatK_length l,fun j u hu=>?_⟩,reach_le h3⟩
 obtain⟨i,r,hi,rfl,hr⟩:=flatK_inv l j u hu
 obtain⟨b,off,cs',e1,e2,rfl,-,e5⟩:=h4 i hi
 have:=e5 r u hr
 rw[Nat.add_assoc] at this
 exact⟨b,off,e1,trivial,e2,this⟩
theorem ArgB.mk'{v:Int}{s:ByteArray}{l:List Tm}(h1:l.length*48≤140737488355328)(h2:∀ t,t∈l→ArgB t):ArgB (.mk v s l):=fun p hp=>by
 simp only[Tm.parts,List.mem_cons] at hp
 rcases hp with rfl | hp
 ·exact h1
 ·have:∀ (l:List Tm),(∀ t,t∈l→ArgB t)→p∈Tm.partss l→p.args.length*48≤140737488355328:=by
   intro l
   induction l with
   | nil=>intro _ h;cases h
   | cons a r ih =>
    intro hl h
    simp only[Tm.partss,List.mem_append] at h
    rcases h with h | h
    ·exact hl a List.mem_cons_self p h
    ·exact ih (fun t ht=>hl t (List.mem_cons_of_mem _ ht)) h
  exact this l h2 hp
set_option maxRecDepth 100000 in
theorem trod_tsR:∀ (fuel:Nat) (t:TypeId),Try.prog.underlying t=some (.slice 24)→∀ (cs:List Value) (x:DataW H×List MemPlace),DataW.trod enc Try.prog w base spare held fuel t cs=some x→ReachD t x.1 →
 ∃ (l:List Tm) (a:Option Addr) (cap:Nat),cs = [.slice a l.length cap]∧Ts w (fun _=>True) l a cap∧l.length*48≤140737488355328∧∀ t,t∈l→ArgB t:=by
 intro fuel
 induction fuel using Nat.strongRecOn with
 | _ fuel ih =>
 intro t ht cs x h hz
 obtain⟨L,a,cap,h1,h2,h3,h4⟩:=trod_row (e:=24) ht cTm (by decide) (fun cs (r:TmAt)=>cs = [.int .i64 r.1.var,.string r.1.name,.slice r.2.1 r.1.args.length r.2.2]∧r.1.fits∧Ts w (fun _=>True) r.1.args r.2.1 r.2.2∧ArgB r.1) (fun m hm cs x h hz=>by
  obtain⟨ys,n',hn',hy,hlen',hyl,hf⟩:=DataW.trod_struct Try.underlying24 h
  rw[cTm] at hlen'
  match cs,hlen',ys,hyl with
  | [c0,c1,c2],_,[y0,y1,y2],_ =>
   have f0 := hf 0 ⟨ "Var", 3, 0, false, "", "", 0⟩ rfl
   have f1 := hf 1 ⟨ "Name", 9, 1, false, "", "", 8⟩ rfl
   have f2 := hf 2 ⟨ "Args", 22, 2, false, "", "", 24⟩ rfl
   simp only[cI,cS,cT,List.drop_zero,List.drop_succ_cons,List.take_succ_cons,List.take_zero,List.getElem?_cons_zero,List.getElem?_cons_succ] at f0 f1 f2
   obtain⟨v,e0,_,hv⟩:=DataW.trod_int Try.underlying3 f0
   obtain⟨s,e1,_,hs⟩:=DataW.trod_string Try.underlying9 f1
   rw[hy] at hz
   have hz2:=ReachD.field Try.underlying24 hz (i:=2) rfl (d:=y2.1) rfl
   obtain⟨l,a',cap',e2,ht,hl,hb⟩:=ih n' (by omega) _ Try.underlying22 _ _ f2 hz2
   simp only[List.cons.injEq,and_true] at e0 e1 e2
   subst e0;subst e1;subst e2
   exact⟨(.mk v s l,a',cap'),rfl,⟨wf_i64 hv,hs⟩,ht,ArgB.mk' hl hb⟩) h hz
 rw[bTerm] at h3
 refine⟨L.map (·.1),a,cap,by rw[List.length_map];exact h1,.mk _ _ _ (by rw[List.length_map];exact h2) (fun i=>if h:i<L.length then L[i].2 else (none,0)) (fun i hi=>?_) (fun i hi=>?_),by rw[List.length_map];exact reach_le h3,fun t ht=>?_⟩
 ·rw[List.length_map] at hi
  obtain⟨b,off,cs',e1,e2,⟨rfl,e3,e4,-⟩,-,e5⟩:=h4 i hi
  rw[dif_pos hi,List.getElem_map]
  exact⟨b,off,e1,trivial,e2,⟨e5 0 _ rfl,e5 1 _ rfl,e5 2 _ rfl,e3⟩⟩
 ·rw[List.length_map] at hi
  obtain⟨b,off,cs',e1,e2,⟨rfl,e3,e4,-⟩,-,e5⟩:=h4 i hi
  rw[dif_pos hi,List.getElem_map]
  exact e4
 ·obtain⟨r,hr,rfl⟩:=List.mem_map.1 ht
  obtain⟨i,hi,rfl⟩:=List.getElem_of_mem hr
  obtain⟨b,off,cs',e1,e2,⟨rfl,e3,e4,e6⟩,-,e5⟩:=h4 i hi
  exact e6
set_option maxRecDepth 100000 in
theorem trod_answers{n:Nat}{cs:List Value}{x:DataW H×List MemPlace}(h:DataW.trod enc Try.prog w base spare held n 64 cs=some x)(hz:ReachD 64 x.1) :
 ∃ (l:List (List Tm)) (a:Option Addr) (cap:Nat),cs = [.slice a l.length cap]∧AsAt w (fun _=>True) l a cap∧l.length*24≤140737488355328∧∀ s,s∈l→s.length*48≤140737488355328∧∀ t,t∈s→ArgB t:=by
 obtain⟨L,a,cap,h1,h2,h3,h4⟩:=trod_row (e:=146) Try.underlying64 cAnswer (by decide) (fun cs (r:List Tm×Option Addr×Nat)=>cs = [.slice r.2.1 r.1.length r.2.2]∧Ts w (fun _=>True) r.1 r.2.1 r.2.2∧r.1.length*48≤140737488355328∧∀ t,t∈r.1→ArgB t) (fun m _ cs x h hz=>by
  obtain⟨l,a',cap',e1,e2,e3,e4⟩:=trod_tsR _ _ Try.underlying146 _ _ h hz
  exact⟨(l,a',cap'),e1,e2,e3,e4⟩) h hz
 rw[bAnswer] at h3
 refine⟨L.map (·.1),a,cap,by rw[List.length_map];exact h1,⟨by rw[List.length_map];exact h2,fun i hi=>?_⟩,by rw[List.length_map];exact reach_le h3,fun s hs=>?_⟩
 ·rw[List.length_map] at hi
  obtain⟨b,off,cs',e1,e2,⟨rfl,e3,e4,-⟩,-,e5⟩:=h4 i hi
  have h0:=e5 0 _ rfl
  rw[Nat.mul_one] at h0
  rw[List.getElem_map]
  exact⟨b,off,_,_,e1,trivial,e2,h0,e3⟩
 ·obtain⟨r,hr,rfl⟩:=List.mem_map.1 hs
  obtain⟨i,hi,rfl⟩:=List.getElem_of_mem hr
  obtain⟨b,off,cs',e1,e2,⟨rfl,e3,e4⟩,-,e5⟩:=h4 i hi
  exact e4
set_option maxRecDepth 100000 in
theorem trod_mac{n:Nat}{cs:List Value}{x:DataW H×List MemPlace}(h:DataW.trod enc Try.prog w base spare held n 81 cs=some x)(hz:ReachD 81 x.1) :
 ∃ (m:Mac) (d:MAd),cs=m.vals d∧MacAt w (fun _=>True) m d∧MacBig m∧I64 m.first∧I64 m.steps∧I64 m.fin:=by
 obtain⟨ys,n',hn',hy,hlen',hyl,hf⟩:=DataW.trod_struct Try.underlying81 h
 rw[cMac] at hlen'
 rw[hy] at hz
 match cs,hlen',ys,hyl with
 | [c0,c1,c2,c3,c4,c5,c6,c7,c8],_,[y0,y1,y2,y3,y4,y5,y6,y7,y8],_ =>
  have f0 := hf 0 ⟨ "Heap", 42, 0, false, "", "", 0⟩ rfl
  have f1 := hf 1 ⟨ "Goals", 78, 1, false, "", "", 24⟩ rfl
  have f2 := hf 2 ⟨ "First", 3, 2, false, "", "", 48⟩ rfl
  have f3 := hf 3 ⟨ "Choices", 79, 3, false, "", "", 56⟩ rfl
  have f4 := hf 4 ⟨ "Trail", 44, 4, false, "", "", 80⟩ rfl
  have f5 := hf 5 ⟨ "Query", 44, 5, false, "", "", 104⟩ rfl
  have f6 := hf 6 ⟨ "Steps", 3, 6, false, "", "", 128⟩ rfl
  have f7 := hf 7 ⟨ "End", 3, 7, false, "", "", 136⟩ rfl
  have f8 := hf 8 ⟨ "Answers", 64, 8, false, "", "", 144⟩ rfl
  simp only[cI,cCells,cGoals,cChoices,cInts,cAnswers,List.drop_zero,List.drop_succ_cons,List.take_succ_cons,List.take_zero,List.getElem?_cons_zero,List.getElem?_cons_succ] at f0 f1 f2 f3 f4 f5 f6 f7 f8
  have z0:=ReachD.field Try.underlying81 hz (i:=0) rfl (d:=y0.1) rfl
  have z1:=ReachD.field Try.underlying81 hz (i:=1) rfl (d:=y1.1) rfl
  have z3:=ReachD.field Try.underlying81 hz (i:=3) rfl (d:=y3.1) rfl
  have z4:=ReachD.field Try.underlying81 hz (i:=4) rfl (d:=y4.1) rfl
  have z5:=ReachD.field Try.underlying81 hz (i:=5) rfl (d:=y5.1) rfl
  have z8:=ReachD.field Try.underlying81 hz (i:=8) rfl (d:=y8.1) rfl
  obtain⟨hH,a0,n0,e0,k0,b0⟩:=trod_hpR f0 z0
  obtain⟨hG,a1,n1,e1,k1,b1⟩:=trod_goals f1 z1
  obtain⟨v2,e2,_,i2⟩:=DataW.trod_int Try.underlying3 f2
  obtain⟨hC,a3,n3,e3,k3,b3⟩:=trod_choices f3 z3
  obtain⟨hT,a4,n4,e4,k4,b4⟩:=trod_ints f4 z4
  obtain⟨hQ,a5,n5,e5,k5,b5⟩:=trod_ints f5 z5
  obtain⟨v6,e6,_,i6⟩:=DataW.trod_int Try.underlying3 f6
  obtain⟨v7,e7,_,i7⟩:=DataW.trod_int Try.underlying3 f7
  obtain⟨hA,a8,n8,e8,k8,b8,b9⟩:=trod_answers f8 z8
  simp only[List.cons.injEq,and_true] at e0 e1 e2 e3 e4 e5 e6 e7 e8
  subst e0;subst e1;subst e2;subst e3;subst e4;subst e5;subst e6;subst e7;subst e8
  exact⟨⟨hH,hG,v2,hC,hT,hQ,v6,v7,hA⟩,⟨a0,a1,a3,a4,a5,a8,n0,n1,n3,n4,n5,n8⟩,rfl,⟨k0,k1,k3,k4,k5,k8⟩,⟨b0,b1,b3,b4,b5,b8,b9⟩,wf_i64 i2,wf_i64 i6,wf_i64 i7⟩
end
end Go.Proofs.Ytikmgiapjigghaa
