/- Plain: a term put behind a heap hangs together with the store. -/
import Derived.Test.YtikmgiapjigghabCb10
import Derived.Test.YtikmgiapjigghabCb11
import Derived.Test.YtikmgiapjigghabCb15
import Derived.Test.YtikmgiapjigghabCb17
import Derived.Test.YtikmgiapjigghabCb24
namespace Go.Proofs.Ytikmgiapjigghab
open Go.RowKit
mutual
theorem putT_dom:∀ (t:Tm) (H:List HC) (V:CV) (v:Int) (c:Nat),(putT H V t).1.2 v=some c→V v=some c∨(V v=none∧H.length≤c∧∃ p,p∈t.parts∧p.var≠0∧p.var=v)
 | .mk v n l,H,V,x,c,hx=>by
  unfold putT at hx
  by_cases hv:v≠0
  ·rw[if_pos hv] at hx
   cases h:V v with
   | some d=>rw[h] at hx;exact .inl hx
   | none =>
    rw[h] at hx
    simp only[updV] at hx
    by_cases e:x=v
    ·subst e
     rw[if_pos rfl] at hx
     cases hx
     exact .inr ⟨h,Nat.le_refl _,_,Tm.self_mem _,hv,rfl⟩
    ·rw[if_neg e] at hx;exact .inl hx
  ·rw[if_neg hv] at hx
   rcases putAs_dom l _ V _ x c hx with h | ⟨h1,h2,p,h3,h4⟩
   ·exact .inl h
   ·refine .inr ⟨h1,?_,p,by rw[Tm.parts];exact List.mem_cons_of_mem _ h3,h4⟩
    simp only[List.length_append,List.length_singleton,List.length_replicate] at h2
    omega
theorem putAs_dom:∀ (l:List Tm) (H:List HC) (V:CV) (p:Nat) (v:Int) (c:Nat),(putAs H V p l).2 v=some c→V v=some c∨(V v=none∧H.length≤c∧∃ q,q∈Tm.partss l∧q.var≠0∧q.var=v)
 | [],H,V,p,x,c,hx=>by rw[putAs_nil] at hx;exact .inl hx
 | t::r,H,V,p,x,c,hx=>by
  rw[putAs_cons] at hx
  have hg:=putT_grow t H V
  rcases putAs_dom r _ _ _ x c hx with h | ⟨h1,h2,q,h3,h4⟩
  ·rcases putT_dom t H V x c h with h | ⟨h1,h2,q,h3,h4⟩
   ·exact .inl h
   ·exact .inr ⟨h1,h2,q,by rw[Tm.partss];exact List.mem_append_left _ h3,h4⟩
  ·refine .inr ⟨?_,?_,q,by rw[Tm.partss];exact List.mem_append_right _ h3,h4⟩
   ·cases h:V x with
    | none=>rfl
    | some d=>rw[putT_mono t H V x d h] at h1;cases h1
   ·rw[setN_length] at h2;omega
end
mutual
theorem putT_has:∀ (t:Tm) (H:List HC) (V:CV),WfT t→∀ p,p∈t.parts→p.var≠0→∃ c,(putT H V t).1.2 p.var=some c
 | .mk v n l,H,V,hw,p,hp,hv=>by
  unfold putT
  by_cases h0:v≠0
  ·rw[if_pos h0]
   obtain⟨ha,_⟩:=(hw _ (Tm.self_mem _)).2 h0
   simp only[Tm.args] at ha
   subst ha
   have e:p=.mk v n []:=by simpa[Tm.parts,Tm.partss] using hp
   subst e
   cases h:V v with
   | some d=>exact⟨d,h⟩
   | none=>exact⟨H.length,by show updV V v H.length v=_;simp[updV]⟩
  ·rw[if_neg h0]
   rw[Tm.parts] at hp
   rcases List.mem_cons.1 hp with rfl | hp
   ·exact absurd hv h0
   ·exact putAs_has l _ V _ (fun x hx=>hw.arg (t:=.mk v n l) hx) p hp hv
theorem putAs_has:∀ (l:List Tm) (H:List HC) (V:CV) (q:Nat),(∀ x,x∈l→WfT x)→∀ p,p∈Tm.partss l→p.var≠0→∃ c,(putAs H V q l).2 p.var=some c
 | [],H,V,q,hw,p,hp,hv=>by simp[Tm.partss] at hp
 | t::r,H,V,q,hw,p,hp,hv=>by
  rw[putAs_cons]
  rw[Tm.partss,List.mem_append] at hp
  rcases hp with hp | hp
  ·obtain⟨c,hc⟩:=putT_has t H V (hw t List.mem_cons_self) p hp hv
   exact⟨c,putAs_mono r _ _ _ _ _ hc⟩
  ·exact putAs_has r _ _ _ (fun x hx=>hw x (List.mem_cons_of_mem _ hx)) p hp hv
end
def CInj(V:CV):Prop:=∀ v w c,V v=some c→V w=some c→v=w
mutual
theorem putT_cinj:∀ (t:Tm) (H:List HC) (V:CV),CInj V→(∀ v c,V v=some c→c<H.length)→CInj (putT H V t).1.2∧∀ v c,(putT H V t).1.2 v=some c→c<(putT H V t).1.1.length
 | .mk v n l,H,V,hi,hb=>by
  unfold putT
  by_cases hv:v≠0
  ·rw[if_pos hv]
   cases h:V v with
   | some d=>exact⟨hi,hb⟩
   | none =>
    simp only
    refine⟨fun x y c hx hy=>?_,fun x c hx=>?_⟩
    ·simp only[updV] at hx hy
     by_cases e1:x=v
     ·by_cases e2:y=v
      ·rw[e1,e2]
      ·rw[if_pos e1] at hx;rw[if_neg e2] at hy
       have:=hb y c hy
       cases hx;omega
     ·rw[if_neg e1] at hx
      by_cases e2:y=v
      ·rw[if_pos e2] at hy
       have:=hb x c hx
       cases hy;omega
      ·rw[if_neg e2] at hy;exact hi x y c hx hy
    ·simp only[updV] at hx
     rw[List.length_append,List.length_singleton]
     by_cases e:x=v
     ·rw[if_pos e] at hx;cases hx;omega
     ·rw[if_neg e] at hx;have:=hb x c hx;omega
  ·rw[if_neg hv]
   exact putAs_cinj l _ V _ hi fun x c hx=>by
    have:=hb x c hx
    simp only[List.length_append,List.length_singleton,List.length_replicate];omega
theorem putAs_cinj:∀ (l:List Tm) (H:List HC) (V:CV) (p:Nat),CInj V→(∀ v c,V v=some c→c<H.length)→CInj (putAs H V p l).2∧∀ v c,(putAs H V p l).2 v=some c→c<(putAs H V p l).1.length
 | [],H,V,p,hi,hb=>by rw[putAs_nil];exact⟨hi,hb⟩
 | t::r,H,V,p,hi,hb=>by
  rw[putAs_cons]
  obtain⟨h1,h2⟩:=putT_cinj t H V hi hb
  exact putAs_cinj r _ _ _ h1 fun x c hx=>by rw[setN_length];exact h2 x c hx
end
structure PutH(H:List HC)(σ:Sub)(k:Int)(V:CV)(D:Int→Prop)(S:Int→Nat)(t:Tm)(H':List HC)(V':CV)(c:Nat)(D':Int→Prop)(S':Int→Nat):Prop where
 hang:Hang H' σ D' S'
 rel:VRel σ k V' D' S'
 inj:CInj V'∧∀ v c,V' v=some c→c<H'.length
 st:St H' D' S' c (far k t)
 more:∀ v,D v→D' v∧S' v=S v
 keep:∀ d u,St H D S d u→St H' D' S' d u
 len:H.length≤H'.length
 old:∀ i,i<H.length→hc H' i=hc H i
theorem Rv.varc{O:Nat→Prop}{H:List HC}{Ho:Nat→Prop}{S:Int→Nat}{i:Nat}{t:Tm}(h:Rv O H Ho S i t):∀ v,t=VarT v→v≠0→O (S v)∨hc H (S v)=selfC (S v):=by
 induction h with
 | @var i w h1 h2 h3 h4 h5 =>
  intro v e hv
  injection e with e1
  subst e1
  rw[h4];exact h5
 | ref h1 h2 h3 h4 h5 ih=>exact ih
 | fn h1 h2 h3 h4 h5 ih =>
  intro v e hv
  injection e with e1
  exact absurd e1.symm hv
theorem self_end{H:List HC}{c:Nat}(h:hc H c=selfC c):endH H c=c:=endH_stop fun hr=>hr.2 (by rw[h];rfl)
theorem hang_term{H:List HC}{σ:Sub}{D:Int→Prop}{S:Int→Nat}(h:Hang H σ D S){k:Int}(hk:0≤k){V:CV}(hV:VRel σ k V D S)(hj:CInj V){t:Tm}(hw:WfT t)(hn:NamesOk t)(hp:∀ p,p∈t.parts→p.var≠0→1≤p.var)
 (hlen:(putT H V t).1.1.length≤400000):∃ D' S',PutH H σ k V D S t (putT H V t).1.1 (putT H V t).1.2 (putT H V t).2 D' S':=by
 have hb:∀ v c,V v=some c→c<H.length:=fun v c e=>by obtain⟨_,h2,h3⟩:=hV.old v c e;rw[← h3];exact(h.cell _ h2).2
 have hdom:=putT_dom t H V
 have hmono:=putT_mono t H V
 have hhas:=putT_has t H V hw
 obtain⟨hinj,hbd⟩:=putT_cinj t H V hj hb
 have hput:=putT_okV (fun i=>i<H.length) t H V (fun _=>False) (fun v=>((putT H V t).1.2 v).getD 0) hw (fun i h=>h.elim) (fun v c hc=>by simp only[hc];rfl) (fun v c hc=>by
  obtain⟨h1,_,_⟩:=hV.old v c hc
  have e:(((putT H V t).1.2 v).getD 0)=c:=by rw[hmono v c hc];rfl
  exact⟨by omega,e,.var (hb v c hc) (fun e=>e) (by omega) e (.inl (hb v c hc))⟩)
 have hI:=put_invV h.heap hn hput
 generalize putT H V t=q at *
 obtain⟨⟨H',V'⟩,c⟩:=q
 simp only at *
 have ho:=hput.old
 have hl:=hput.len
 have hnew:∀ x c,V' x=some c→¬ D (x+k)→H.length≤c∧1≤x∧V x=none∧σ (x+k)=none∧hc H' c=selfC c:=fun x c hx hd=>by
  rcases hdom x c hx with e | ⟨e1,e2,p,e3,e4,e5⟩
  ·exact absurd (hV.old x c e).2.1 hd
  ·have h1:1≤x:=by rw[← e5];exact hp p e3 e4
   refine⟨e2,h1,e1,(hV.new x h1 e1).2,?_⟩
   obtain⟨a,b,d⟩:=hput.vok x c hx
   have b':(V' x).getD 0=c:=b
   rcases d.varc x rfl a with f | f
   ·have f':(V' x).getD 0<H.length:=f
    rw[b'] at f';omega
   ·have f':hc H' ((V' x).getD 0)=selfC ((V' x).getD 0):=f
    rw[b'] at f';exact f'
 have hS2:∀ x c,V' x=some c→D (x+k)→S (x+k)=c:=fun x c hx hd=>by
  rcases hdom x c hx with e | ⟨e1,e2,p,e3,e4,e5⟩
  ·exact(hV.old x c e).2.2
  ·exact absurd hd (hV.new x (by rw[← e5];exact hp p e3 e4) e1).1
 have hx1:∀ x c,V' x=some c→1≤x:=fun x c hx=>by
  rcases hdom x c hx with e | ⟨e1,e2,p,e3,e4,e5⟩
  ·exact(hV.old x c e).1
  ·rw[← e5];exact hp p e3 e4
 obtain⟨S',hSo,hSn⟩:∃ S':Int→Nat,(∀ v,D v→S' v=S v)∧∀ x c,V' x=some c→S' (x+k)=c:=by
  refine⟨fun v=>@ite _ (D v) (Classical.propDecidable _) (S v) ((V' (v-k)).getD 0),fun v hv=>if_pos hv,fun x c hx=>?_⟩
  by_cases hd:D (x+k)
  ·exact(if_pos hd).trans (hS2 x c hx hd)
  ·exact(if_neg hd).trans (by rw[show x+k-k=x by omega,hx];rfl)
 have hD:∀ v,D v→(D v∨∃ x c,v=x+k∧V' x=some c)∧S' v=S v∧S v<H.length:=fun v hv=>⟨.inl hv,hSo v hv,(h.cell v hv).2⟩
 have hkeep:∀ d u,St H D S d u→St H' (fun v=>D v∨∃ x c,v=x+k∧V' x=some c) S' d u:=fun d u hs=>hs.old h.heap hl ho hD
 have hI':HInv H':=⟨hlen,hI.1,hI.2⟩
 have hlk:∀ x c,V' x=some c→¬ D (x+k)→look σ (VarT (x+k))=VarT (x+k):=fun x c hx hd=>look_free (hnew x c hx hd).2.2.2.1
 have heo:∀ v,D v→endH H' (S' v)=endH H (S v)∧endH H (S v)<H.length:=fun v hv=>by
  rw[hSo v hv];exact⟨endH_old h.heap ho (h.cell v hv).2,(h.heap.end (h.cell v hv).2).1⟩
 have hen:∀ x c,V' x=some c→¬ D (x+k)→endH H' (S' (x+k))=c:=fun x c hx hd=>by rw[hSn x c hx];exact self_end (hnew x c hx hd).2.2.2.2
 refine⟨fun v=>D v∨∃ x c,v=x+k∧V' x=some c,S',?_⟩
 have hH:Hang H' σ (fun v=>D v∨∃ x c,v=x+k∧V' x=some c) S':=by
  refine⟨hI',h.store,?_,?_,?_,?_⟩
  ·rintro v (hv | ⟨x,c,rfl,hx⟩)
   ·obtain⟨a,b⟩:=h.cell v hv
    exact⟨a,by rw[hSo v hv];omega⟩
   ·have:=hx1 x c hx
    exact⟨by omega,by rw[hSn x c hx];exact hbd x c hx⟩
  ·rintro v hv hne
   by_cases hd:D v
   ·obtain⟨a,b⟩:=h.kind v hd hne
    obtain⟨e1,e2⟩:=heo v hd
    exact⟨by rw[e1,ho _ e2];exact a,.inl b⟩
   ·obtain⟨x,c,rfl,hx⟩:=hv.resolve_left hd
    refine⟨?_,by rw[hlk x c hx hd];exact .inr ⟨x,c,rfl,hx⟩⟩
    rw[hen x c hx hd,(hnew x c hx hd).2.2.2.2];rfl
  ·rintro v hv h0
   by_cases hd:D v
   ·have:=hkeep _ _ (h.fn v hd h0)
    rw[hSo v hd];exact this
   ·obtain⟨x,c,rfl,hx⟩:=hv.resolve_left hd
    rw[hlk x c hx hd] at h0
    have h1:=hx1 x c hx
    have h0':x+k=0:=h0
    omega
  ·rintro v u hv hu h1 h2
   by_cases d1:D v
   ·by_cases d2:D u
    ·rw[(heo v d1).1,(heo u d2).1];exact h.cls v u d1 d2 h1 h2
    ·obtain⟨x,c,rfl,hx⟩:=hu.resolve_left d2
     rw[(heo v d1).1,hen x c hx d2,hlk x c hx d2]
     have a:=(h.kind v d1 h1).2
     have b:=(hnew x c hx d2).1
     have e:=(heo v d1).2
     constructor
     ·intro e'
      have e'':(look σ (VarT v)).var=x+k:=e'
      rw[e''] at a;exact absurd a d2
     ·intro e';omega
   ·obtain⟨x,c,rfl,hx⟩:=hv.resolve_left d1
    by_cases d2:D u
    ·rw[(heo u d2).1,hen x c hx d1,hlk x c hx d1]
     have a:=(h.kind u d2 h2).2
     have b:=(hnew x c hx d1).1
     have e:=(heo u d2).2
     constructor
     ·intro e'
      have e'':x+k=(look σ (VarT u)).var:=e'
      rw[← e''] at a;exact absurd a d1
     ·intro e';omega
    ·obtain⟨y,d,rfl,hy⟩:=hu.resolve_left d2
     rw[hen x c hx d1,hen y d hy d2,hlk x c hx d1,hlk y d hy d2]
     constructor
     ·intro e'
      have e'':x+k=y+k:=e'
      have:x=y:=by omega
      subst this
      rw[hx] at hy;cases hy;rfl
     ·intro e'
      subst e'
      rw[hinj x y c hx hy]
 refine⟨hH,⟨fun v c hc=>⟨hx1 v c hc,.inr ⟨v,c,rfl,hc⟩,hSn v c hc⟩,fun v h1 hc=>?_⟩,⟨hinj,hbd⟩,?_,fun v hv=>⟨.inl hv,hSo v hv⟩,hkeep,hl,ho⟩
 ·have hv:V v=none:=by
   cases e:V v with
   | none=>rfl
   | some d=>rw[hmono v d e] at hc;cases hc
  refine⟨?_,(hV.new v h1 hv).2⟩
  rintro (hd | ⟨x,c,e,hx⟩)
  ·exact(hV.new v h1 hv).1 hd
  ·have:v=x:=by omega
   subst this
   rw[hc] at hx;cases hx
 ·refine hput.rd.st (fun i hi=>hI'.straight i hi) fun p hp' hv=>?_
  obtain⟨c',hc'⟩:=hhas p hp' hv
  have h1:=hp p hp' hv
  exact⟨by omega,.inr ⟨p.var,c',rfl,hc'⟩,by rw[hSn _ _ hc',hc'];rfl⟩
def GoR(H:List HC)(G:List Gn)(D:Int→Prop)(Sc:Int→Nat):List Goal→Nat→Prop
 | [],n=>n=0
 | g::r,n=>∃ x:Gn,1≤n∧G[n-1]? = some x∧x.cut=g.2∧St H D Sc x.at' g.1∧GoR H G D Sc r x.next
theorem GoR.keep{H H':List HC}{G g:List Gn}{D D':Int→Prop}{Sc Sc':Int→Nat}(hst:∀ c t,St H D Sc c t→St H' D' Sc' c t):∀ {now:List Goal} {n:Nat},GoR H G D Sc now n→GoR H' (G++g) D' Sc' now n:=by
 intro now
 induction now with
 | nil=>intro n h;exact h
 | cons a r ih =>
  rintro n ⟨x,h1,h2,h3,h4,h5⟩
  refine⟨x,h1,?_,h3,hst _ _ h4,ih h5⟩
  rw[List.getElem?_append_left (List.getElem?_eq_some_iff.1 h2).1];exact h2
structure Sit(S:MS)(n vars:Nat)(σ:Sub)(now:List Goal)(D:Int→Prop)(Sc:Int→Nat):Prop where
 hang:Hang S.H σ D Sc
 go:GoR S.H S.G D Sc now n
 query:∀ i (h:i<S.Q.length),St S.H D Sc S.Q[i] (VarT ((i:Int)+1))
 fresh:∀ v:Int,(vars:Int)<v→¬ D v∧σ v=none
 goals:∀ i (h:i<S.G.length),S.G[i].at'<S.H.length∧S.G[i].next≤i
 trail:∀ x,x∈S.T→x<S.H.length
theorem Sit.congr{S S':MS}{n vars:Nat}{σ:Sub}{now:List Goal}{D:Int→Prop}{Sc:Int→Nat}(h:Sit S n vars σ now D Sc)(h1:S'.H=S.H)(h2:S'.T=S.T)(h3:S'.G=S.G)(h4:S'.Q=S.Q):Sit S' n vars σ now D Sc:=by
 cases S;cases S'
 simp only at h1 h2 h3 h4
 subst h1 h2 h3 h4
 exact⟨h.hang,h.go,h.query,h.fresh,h.goals,h.trail⟩
theorem Sit.mono{S:MS}{n vars vars':Nat}{σ:Sub}{now:List Goal}{D:Int→Prop}{Sc:Int→Nat}(h:Sit S n vars σ now D Sc)(hv:vars≤vars'):Sit S n vars' σ now D Sc :=
 ⟨h.hang,h.go,h.query,fun v hw=>h.fresh v (by omega),h.goals,h.trail⟩
structure ChX(p:List Cl)(vars:Nat)(S:MS)(c:Cn)(d:PCh):Prop where
 within:Within S c
 cl:c.clause=d.cl∧d.cl<p.length
 ne:d.gs≠[]∧(look d.σ (headT d.gs)).var=0
 sit:∃ D Sc,Sit (undoS S c) c.goal vars d.σ d.gs D Sc
theorem ChX.mono{p:List Cl}{vars vars':Nat}{S:MS}{c:Cn}{d:PCh}(h:ChX p vars S c d)(hv:vars≤vars'):ChX p vars' S c d :=
 ⟨h.within,h.cl,h.ne,by obtain⟨D,Sc,hs⟩:=h.sit;exact⟨D,Sc,hs.mono hv⟩⟩
def ChR(p:List Cl)(vars:Nat):MS→List Cn→List PCh→Prop
 | _,[],[]=>True
 | S,c::cs,d::ds=>ChX p vars S c d∧ChR p vars (undoS S c) cs ds
 | _,[],_::_=>False
 | _,_::_,[]=>False
theorem ChR.len{p:List Cl}{vars:Nat}:∀ {cs:List Cn} {ds:List PCh} {S:MS},ChR p vars S cs ds→cs.length=ds.length:=by
 intro cs
 induction cs with
 | nil=>intro ds S h;cases ds with
  | nil=>rfl
  | cons d ds=>exact h.elim
 | cons c cs ih=>intro ds S h;cases ds with
  | nil=>exact h.elim
  | cons d ds=>simp only[List.length_cons];rw[ih h.2]
theorem ChR.mono{p:List Cl}{vars vars':Nat}(hv:vars≤vars'):∀ {cs:List Cn} {ds:List PCh} {S:MS},ChR p vars S cs ds→ChR p vars' S cs ds:=by
 intro cs
 induction cs with
 | nil=>intro ds S h;cases ds with
  | nil=>exact h
  | cons d ds=>exact h.elim
 | cons c cs ih=>intro ds S h;cases ds with
  | nil=>exact h.elim
  | cons d ds=>exact⟨h.1.mono hv,ih h.2⟩
theorem undoS_congr{S S':MS}(h1:S'.H=S.H)(h2:S'.T=S.T)(h3:S'.G=S.G)(c:Cn):(undoS S' c).H=(undoS S c).H∧(undoS S' c).T=(undoS S c).T∧(undoS S' c).G=(undoS S c).G:=by
 unfold undoS;simp only;rw[h1,h2,h3];exact⟨rfl,rfl,rfl⟩
theorem ChR.congr{p:List Cl}{vars:Nat}:∀ {cs:List Cn} {ds:List PCh} {S S':MS},ChR p vars S cs ds→S'.H=S.H→S'.T=S.T→S'.G=S.G→S'.Q=S.Q→ChR p vars S' cs ds:=by
 intro cs
 induction cs with
 | nil=>intro ds S S' h _ _ _ _;cases ds with
  | nil=>exact h
  | cons d ds=>exact h.elim
 | cons c cs ih=>intro ds S S' h h1 h2 h3 h4;cases ds with
  | nil=>exact h.elim
  | cons d ds =>
   obtain⟨e1,e2,e3⟩:=undoS_congr h1 h2 h3 c
   obtain⟨⟨w1,w2,w3⟩,k2,k3,D,Sc,k4⟩:=h.1
   exact⟨⟨⟨by rw[h1];exact w1,by rw[h2];exact w2,by rw[h3];exact w3⟩,k2,k3,D,Sc,k4.congr e1 e2 e3 h4⟩,ih h.2 e1 e2 e3 h4⟩
theorem Ext.within{S S':MS}(h:Ext S S'){c:Cn}(w:Within S c):Within S' c:=by
 obtain⟨l1,⟨b,e1,_,_⟩,⟨g,f1⟩⟩:=h
 obtain⟨w1,w2,w3⟩:=w
 exact⟨by omega,by rw[e1,List.length_append];omega,by rw[f1,List.length_append];omega⟩
theorem ChR.ext{p:List Cl}{vars:Nat}{cs:List Cn}{ds:List PCh}{S S':MS}(h:ChR p vars S cs ds)(he:Ext S S')(hq:S'.Q=S.Q):ChR p vars S' cs ds:=by
 cases cs with
 | nil=>cases ds with
  | nil=>exact h
  | cons d ds=>exact h.elim
 | cons c cs=>cases ds with
  | nil=>exact h.elim
  | cons d ds =>
   obtain⟨⟨w,k2,k3,D,Sc,k4⟩,h2⟩:=h
   obtain⟨e1,e2,e3⟩:=he.undo w
   exact⟨⟨he.within w,k2,k3,D,Sc,k4.congr e1 e2 e3 hq⟩,h2.congr e1 e2 e3 hq⟩
theorem undo_ext{S:MS}{c:Cn}(w:Within S c):Ext (undoS S c) S:=by
 obtain⟨w1,w2,w3⟩:=w
 have hl:(undoS S c).H.length=c.heap:=by unfold undoS;simp only[List.length_take,unbindN_length];omega
 refine⟨by omega,⟨S.T.drop c.trail,(List.take_append_drop _ _).symm,fun i hi h=>?_,fun i h hn=>?_⟩,⟨S.G.drop c.goals,(List.take_append_drop _ _).symm⟩⟩
 ·rw[hl] at h
  have:=undo_get (T:=S.T) (tr:=c.trail) w1 h
  rw[if_pos hi] at this
  exact this
 ·rw[hl] at h
  have:=undo_get (T:=S.T) (tr:=c.trail) w1 h
  rw[if_neg hn] at this
  exact this.symm
theorem ChR.tail{p:List Cl}{vars:Nat}{c:Cn}{cs:List Cn}{d:PCh}{ds:List PCh}{S:MS}(h:ChR p vars S (c::cs) (d::ds)):ChR p vars S cs ds :=
 h.2.ext (undo_ext h.1.within) rfl
theorem ChR.drop{p:List Cl}{vars:Nat}{S:MS}:∀ (k:Nat) {cs:List Cn} {ds:List PCh},ChR p vars S cs ds→ChR p vars S (cs.drop k) (ds.drop k):=by
 intro k
 induction k with
 | zero=>intro cs ds h;exact h
 | succ k ih =>
  intro cs ds h
  cases cs with
  | nil=>cases ds with
   | nil=>exact h
   | cons d ds=>exact h.elim
  | cons c cs=>cases ds with
   | nil=>exact h.elim
   | cons d ds=>exact ih h.tail
theorem ChR.take{p:List Cl}{vars:Nat}{S:MS}{ch:List Cn}{dh:List PCh}(h:ChR p vars S ch.reverse dh.reverse)(k:Nat):ChR p vars S (ch.take k).reverse (dh.take k).reverse:=by
 have hl:ch.length=dh.length:=by have:=h.len;simpa using this
 rw[List.reverse_take,List.reverse_take,hl]
 exact h.drop _
structure Core(p:List Cl)(S:MS)(P:PS):Prop where
 sit:∃ D Sc,Sit S S.first P.vars P.σ P.now D Sc
 ch:ChR p P.vars S S.ch.reverse P.ch.reverse
structure MvS(p:List Cl)(S:MS)(P:PS):Prop where
 fin:S.fin=P.fin
 steps:S.steps=P.steps
 ans:S.ans=P.ans
 core:S.fin=0→Core p S P
 weak:∃ P0,Core p S P0
structure CallIn(p:List Cl)(S:MS)(P:PS)(n:Nat)(gs:List Goal)(t:Tm):Prop where
 sit:∃ D Sc,Sit S n P.vars P.σ gs D Sc
 ch:ChR p P.vars S S.ch.reverse P.ch.reverse
 first:S.first=n
 work:S.f=P.f∧S.f≤4000
 ne:gs≠[]
 t:t=look P.σ (headT gs)∧t.var=0
 fin:S.fin=0∧P.fin=0
 same:S.steps=P.steps∧S.ans=P.ans
structure TmG(t:Tm):Prop where
 fit:Fit 13 t
 names:NamesOk t
 size:t.size≤60
structure ClG(c:Cl):Prop where
 head:TmG c.head
 body:∀ b,b∈c.body→TmG b
 len:c.body.length≤6
def StsL(H:List HC)(D:Int→Prop)(Sc:Int→Nat):List Nat→List Tm→Prop
 | [],[]=>True
 | a::cs0,t::ts=>St H D Sc a t∧StsL H D Sc cs0 ts
 | [],_::_=>False
 | _::_,[]=>False
structure PutLs(H:List HC)(σ:Sub)(k:Int)(D:Int→Prop)(Sc:Int→Nat)(l:List Tm)(H':List HC)(V':CV)(cs0:List Nat)(D':Int→Prop)(Sc':Int→Nat):Prop where
 hang:Hang H' σ D' Sc'
 rel:VRel σ k V' D' Sc'
 inj:CInj V'
 dom:∀ v c,V' v=some c→v≤12
 st:StsL H' D' Sc' cs0 (l.map (far k))
 keep:∀ d u,St H D Sc d u→St H' D' Sc' d u
 len:H.length≤H'.length∧H'.length≤H.length+119*l.length
 old:∀ i,i<H.length→hc H' i=hc H i
theorem TmG.var{t:Tm}(h:TmG t){p:Tm}(hp:p∈t.parts)(hv:p.var≠0):1≤p.var∧p.var≤12:=by
 have:=fit_parts h.fit hp hv
 omega
theorem putL_sim{σ:Sub}{k:Int}(hk:0≤k):∀ (l:List Tm) (H:List HC) (V:CV) (D:Int→Prop) (Sc:Int→Nat),Hang H σ D Sc→VRel σ k V D Sc→CInj V→(∀ v c,V v=some c→v≤12)→(∀ t,t∈l→TmG t)→H.length+119*l.length≤400000 →
 ∃ D' Sc',PutLs H σ k D Sc l (putL H V l).1.1 (putL H V l).1.2 (putL H V l).2 D' Sc':=by
 intro l
 induction l with
 | nil =>
  intro H V D Sc h hV hj hd _ _
  exact⟨D,Sc,h,hV,hj,hd,trivial,fun _ _ h=>h,⟨Nat.le_refl _,Nat.le_refl _⟩,fun _ _=>rfl⟩
 | cons t r ih =>
  intro H V D Sc h hV hj hd hl hlen
  have ht:=hl t List.mem_cons_self
  have hle:=putT_le t H V
  have hsz:=ht.size
  simp only[List.length_cons] at hlen
  obtain⟨D1,S1,q⟩:=hang_term h hk hV hj ht.fit.wf ht.names (fun p hp hv=>(ht.var hp hv).1) (by omega)
  have hd1:∀ v c,(putT H V t).1.2 v=some c→v≤12:=fun v c e=>by
   rcases putT_dom t H V v c e with e | ⟨_,_,p,e1,e2,e3⟩
   ·exact hd v c e
   ·rw[← e3];exact(ht.var e1 e2).2
  obtain⟨D2,S2,q2⟩:=ih (putT H V t).1.1 (putT H V t).1.2 D1 S1 q.hang q.rel q.inj.1 hd1 (fun x hx=>hl x (List.mem_cons_of_mem _ hx)) (by omega)
  refine⟨D2,S2,q2.hang,q2.rel,q2.inj,q2.dom,⟨q2.keep _ _ q.st,q2.st⟩,fun d u hs=>q2.keep d u (q.keep d u hs),⟨Nat.le_trans q.len q2.len.1,?_⟩,fun i hi=>?_⟩
  ·have:=q2.len.2
   simp only[putL,List.length_cons];omega
  ·have h1:=q2.old i (Nat.lt_of_lt_of_le hi q.len)
   exact h1.trans (q.old i hi)
theorem pushG_append(cut:Nat):∀ (x y:List Nat) (s:List Gn×Nat),pushG cut (x++y) s=pushG cut y (pushG cut x s):=by
 intro x
 induction x with
 | nil=>intro y s;rfl
 | cons a x ih=>intro y s;exact ih y _
theorem push_rel{H:List HC}{D:Int→Prop}{Sc:Int→Nat}(cut:Nat){G:List Gn}{nx:Nat}{rest:List Goal}(hr:GoR H G D Sc rest nx)(hn:nx≤G.length)(hG:∀ i (h:i<G.length),G[i].at'<H.length∧G[i].next≤i):∀ (cs0:List Nat) (ts:List Tm),StsL H D Sc cs0 ts →
 GoR H (pushG cut cs0.reverse (G,nx)).1 D Sc (ts.map (fun t=>(t,cut))++rest) (pushG cut cs0.reverse (G,nx)).2∧(pushG cut cs0.reverse (G,nx)).2≤(pushG cut cs0.reverse (G,nx)).1.length ∧
 (∃ g,(pushG cut cs0.reverse (G,nx)).1=G++g∧g.length=cs0.length)∧∀ i (h:i<(pushG cut cs0.reverse (G,nx)).1.length),(pushG cut cs0.reverse (G,nx)).1[i].at'<H.length∧(pushG cut cs0.reverse (G,nx)).1[i].next≤i:=by
 intro cs0
 induction cs0 with
 | nil =>
  intro ts h
  cases ts with
  | nil=>exact⟨hr,hn,⟨[],by simp[pushG],rfl⟩,hG⟩
  | cons t ts=>exact h.elim
 | cons a cs0 ih =>
  intro ts h
  cases ts with
  | nil=>exact h.elim
  | cons t ts =>
   obtain⟨h1,h2,⟨g,h3,h3'⟩,h4⟩:=ih ts h.2
   rw[List.reverse_cons,pushG_append]
   generalize pushG cut cs0.reverse (G,nx)=s at *
   have e:pushG cut [a] s=(s.1++[⟨a,cut,s.2⟩],s.1.length+1):=rfl
   rw[e]
   simp only
   refine⟨⟨⟨a,cut,s.2⟩,by omega,by simp,rfl,h.1,h1.keep fun _ _ h=>h⟩,by simp,⟨g++[⟨a,cut,s.2⟩],by rw[h3,List.append_assoc],by simp[h3']⟩,fun i hi=>?_⟩
   rw[List.length_append,List.length_singleton] at hi
   by_cases hl:i<s.1.length
   ·rw[List.getElem_append_left hl];exact h4 i hl
   ·have:i=s.1.length:=by omega
    subst this
    rw[List.getElem_append_right (Nat.le_refl _)]
    simp only[Nat.sub_self,List.getElem_cons_zero]
    exact⟨h.1.lt,h2⟩
def BRoom(n:Nat):HOut→Prop
 | .ok _ B _=>B.length≤n
 | .no _ B _=>B.length≤n
 | .many _ B=>B.length≤n
theorem meetH_room:∀ (f:Nat) (K:List HC) (B:List Nat) (ps:List (Nat×Nat)),HInv K→(∀ p,p∈ps→p.1<K.length∧p.2<K.length)→∀ n,B.length+f≤n→BRoom n (meetH K B f ps):=by
 intro f
 induction f using Nat.strongRecOn with
 | _ f ih =>
 intro K B ps hI hp n hn
 cases ps with
 | nil=>rw[meetH_nil];show B.length≤n;omega
 | cons p r =>
  cases f with
  | zero=>rw[meetH_zero];show B.length≤n;omega
  | succ f =>
   have h1:=hI.end (hp p List.mem_cons_self).1
   have h2:=hI.end (hp p List.mem_cons_self).2
   cases hs:pairHStep K B f (endH K p.1) (endH K p.2) with
   | done o =>
    rw[meetH_done _ hs]
    rcases done_pairHStep hs with ⟨f',rfl⟩ | rfl
    ·show B.length≤n;omega
    ·show B.length≤n;omega
   | go K' B' f' m =>
    rw[meetH_go _ hs]
    obtain⟨a,b,c,d⟩:=pairHStep_inv hI h1.1 h1.2 h2.1 h2.2 hs
    have hle:=pairHStep_le hs
    exact ih f' (by omega) K' B' (m++r) a (fun q hq=>by
     rcases List.mem_append.1 hq with hq | hq
     ·rw[b];exact c q hq
     ·rw[b];exact hp q (List.mem_cons_of_mem _ hq)) n (by omega)
theorem fit_cell{c:Cl}{x:HC}{t:Tm}(h1:x.name=t.name)(h2:x.n=(t.args.length:Int)):FitC c (cellT x)↔FitC c t:=by
 unfold FitC cellT
 simp only[Tm.name,Tm.args,List.length_replicate,h1,h2,Int.toNat_natCast]
theorem nextF_cell{p:List Cl}{x:HC}{t:Tm}(h1:x.name=t.name)(h2:x.n=(t.args.length:Int))(i:Nat):nextF p (cellT x) i=nextF p t i :=
 nextF_rel (s:=cellT x) (t:=t) h1 (by unfold cellT;simp only[Tm.args,List.length_replicate,h2,Int.toNat_natCast]) _ i rfl
theorem GoR.keep0{H H':List HC}{G:List Gn}{D D':Int→Prop}{Sc Sc':Int→Nat}(hst:∀ c t,St H D Sc c t→St H' D' Sc' c t){now:List Goal}{n:Nat}(h:GoR H G D Sc now n):GoR H' G D' Sc' now n:=by
 have:=h.keep (g:=[]) hst
 rwa [List.append_nil] at this
structure GoalIs(S:MS)(P:PS)(n:Nat)(gs:List Goal)(t:Tm)(D:Int→Prop)(Sc:Int→Nat)(g:Goal)(r:List Goal):Prop where
 sit:Sit S n P.vars P.σ gs D Sc
 gs:gs=g::r
 cut:(gn S (n-1)).cut=g.2
 go:GoR S.H S.G D Sc r (gn S (n-1)).next
 num:(gn S (n-1)).next<n∧1≤n∧n≤S.G.length∧(gn S (n-1)).at'<S.H.length
 at':St S.H D Sc (gn S (n-1)).at' g.1
 st:St S.H D Sc (goalEnd S n) t
 lt:goalEnd S n<S.H.length
theorem Sit.goal{S:MS}{n vars:Nat}{σ:Sub}{gs:List Goal}{D:Int→Prop}{Sc:Int→Nat}(hs:Sit S n vars σ gs D Sc)(hne:gs≠[]) :
 ∃ g r,gs=g::r∧(gn S (n-1)).cut=g.2∧GoR S.H S.G D Sc r (gn S (n-1)).next∧((gn S (n-1)).next<n∧1≤n∧n≤S.G.length∧(gn S (n-1)).at'<S.H.length)∧St S.H D Sc (gn S (n-1)).at' g.1:=by
 cases gs with
 | nil=>exact absurd rfl hne
 | cons g r =>
  obtain⟨x,h1,h2,h3,h4,h5⟩:=hs.go
  have hx:gn S (n-1)=x:=by unfold gn;rw[List.getD_eq_getElem?_getD,h2];rfl
  obtain⟨h6,h7⟩:=List.getElem?_eq_some_iff.1 h2
  have h8:=hs.goals (n-1) h6
  rw[h7] at h8
  rw[hx]
  exact⟨g,r,rfl,h3,h5,⟨by omega,h1,by omega,h8.1⟩,h4⟩
theorem CallIn.goal{p:List Cl}{S:MS}{P:PS}{n:Nat}{gs:List Goal}{t:Tm}(h:CallIn p S P n gs t):∃ D Sc g r,GoalIs S P n gs t D Sc g r:=by
 obtain⟨D,Sc,hs⟩:=h.sit
 obtain⟨g,r,h1,h2,h3,h4,h5⟩:=hs.goal h.ne
 obtain⟨k1,k2,_⟩:=hs.hang.look h5
 have ht:t=look P.σ g.1:=by rw[h.t.1,h1];rfl
 exact⟨D,Sc,g,r,hs,h1,h2,h3,h4,h5,by rw[ht];exact k1,k2⟩
theorem GoalIs.cell{S:MS}{P:PS}{n:Nat}{gs:List Goal}{t:Tm}{D:Int→Prop}{Sc:Int→Nat}{g:Goal}{r:List Goal}(h:GoalIs S P n gs t D Sc g r)(ht:t=look P.σ g.1) :
 (t.var≠0→(hc S.H (goalEnd S n)).k=1)∧(t.var=0→(hc S.H (goalEnd S n)).k=2∧(hc S.H (goalEnd S n)).name=t.name∧(hc S.H (goalEnd S n)).n=(t.args.length:Int)∧∀ i (hi:i<t.args.length),St S.H D Sc (goalEnd S n+1+i) t.args[i]):=by
 subst ht
 obtain⟨k1,k2,k3,k4,k5,k6⟩:=h.sit.hang.look h.at'
 refine⟨fun hv=>(k5 hv).1,fun hv=>?_⟩
 obtain⟨m1,m2,m3,m4⟩:=k6 hv
 have:(hc S.H (goalEnd S n)).k=2:=by
  rcases cell_right (h.sit.hang.heap.cells _ h.lt) with e | e
  ·exact absurd e.1 m1
  ·exact e.1
 exact⟨this,m2,m3,m4⟩
structure Grown(S S':MS):Prop where
 heap:S'.H.length≤S.H.length+833
 goals:S'.G.length≤S.G.length+6
 q:S'.Q=S.Q
 trail:S'.T.length≤S.T.length+4000
def ClOut(p:List Cl)(S:MS)(n:Nat)(gs:List Goal)(t:Tm):MS×Option Bool→PS×Option Bool→Prop
 | (S',some b),(P',some b')=>b=true∧b'=true∧MvS p S' P'∧Grown S S'
 | (S',none),(P',none)=>CallIn p S' P' n gs t∧S'.H=S.H∧S'.T=S.T∧S'.G=S.G∧S'.ch=S.ch∧S'.Q=S.Q∧S'.steps=S.steps∧S'.ans=S.ans
 | _,_=>False
section
variable {p:List Cl} {g:Gn} {at':Nat} {t:Tm} {was:Cn} {c:Cl} {i:Nat} {S:MS} {K1:List HC} {V1:CV} {a:Nat} {K:List HC} {B:List Nat} {f:Nat}
theorem mclause_ok(hz:putT S.H (fun _=>none) c.head=((K1,V1),a))(e:meetH K1 [] S.f [(a,at')]=.ok K B f) :
 mclause p g at' t was c i S=(mpush c.body V1 S.ch.length g.next { S with H:=K,T:=S.T++B,f:=f,ch:=if nextF p t (i+1)<p.length then S.ch++[{ was with clause:=nextF p t (i+1) }] else S.ch },some true):=by
 simp only[mclause,hz,msame,e,if_true]
theorem mclause_no(h0:S.fin=0)(hz:putT S.H (fun _=>none) c.head=((K1,V1),a))(e:meetH K1 [] S.f [(a,at')]=.no K B f) :
 mclause p g at' t was c i S=(undoS { S with H:=K,T:=S.T++B,f:=f } was,none):=by
 simp[mclause,hz,msame,e,h0]
theorem mclause_many(hz:putT S.H (fun _=>none) c.head=((K1,V1),a))(e:meetH K1 [] S.f [(a,at')]=.many K B) :
 mclause p g at' t was c i S=(undoS { S with H:=K,T:=S.T++B,f:=0,fin:=3 } was,some true):=by
 simp[mclause,hz,msame,e]
variable {gs:List Goal} {P:PS} {σ:Sub} {L:List Int} {f':Nat}
theorem pclause_ok(e:meet P.σ P.L P.f [(far P.vars c.head,t)]=.ok σ L f') :
 pclause p gs t c i P=({ P with σ:=σ,L:=L,f:=f',vars:=P.vars+12,ch:=if nextF p t (i+1)<p.length then P.ch++[⟨gs,nextF p t (i+1),P.σ,P.L⟩] else P.ch,now:=bodyG P.vars P.ch.length c.body++gs.tail },some true):=by
 simp only[pclause,e]
theorem pclause_no(e:meet P.σ P.L P.f [(far P.vars c.head,t)]=.no σ L f'):pclause p gs t c i P=({ P with f:=f',vars:=P.vars+12 },none):=by
 simp only[pclause,e]
theorem pclause_many(e:meet P.σ P.L P.f [(far P.vars c.head,t)]=.many σ L):pclause p gs t c i P=({ P with f:=0,vars:=P.vars+12,fin:=3 },some true):=by
 simp only[pclause,e]
end
theorem clause_sim{p:List Cl}{S:MS}{P:PS}{n:Nat}{gs:List Goal}{t:Tm}(h:CallIn p S P n gs t){c:Cl}(hC:ClG c)(i:Nat)(hroom:S.H.length+833≤400000∧S.G.length+6≤5000) :
 ClOut p S n gs t (mclause p (gn S (n-1)) (goalEnd S n) (cellT (hc S.H (goalEnd S n))) (markS S n) c i S) (pclause p gs t c i P):=by
 obtain⟨D,Sc,g,r,hG⟩:=h.goal
 have ht:t=look P.σ g.1:=by rw[h.t.1,hG.gs];rfl
 obtain⟨hk2,hnm,hnn,-⟩:=(hG.cell ht).2 h.t.2
 have hnext:nextF p (cellT (hc S.H (goalEnd S n))) (i+1)=nextF p t (i+1):=nextF_cell hnm hnn _
 obtain⟨hs,hgs,hcut,hgo,hnum,hat,hst,hlt⟩:=hG
 have hV0:VRel P.σ P.vars (fun _=>none) D Sc:=⟨(fun v c e=>nomatch e),fun v h1 _=>hs.fresh _ (by omega)⟩
 have hj0:CInj (fun _=>none):=fun v w c e=>nomatch e
 have hle:=putT_le c.head S.H (fun _=>none)
 have hsz:=hC.head.size
 have hbl:=hC.len
 obtain⟨D1,S1,q⟩:=hang_term hs.hang (Int.natCast_nonneg P.vars) hV0 hj0 hC.head.fit.wf hC.head.names (fun x hx hv=>(hC.head.var hx hv).1) (by omega)
 have hd1:∀ v k,(putT S.H (fun _=>none) c.head).1.2 v=some k→v≤12:=fun v k e=>by
  rcases putT_dom c.head S.H (fun _=>none) v k e with e | ⟨_,_,x,e1,e2,e3⟩
  ·cases e
  ·rw[← e3];exact(hC.head.var e1 e2).2
 obtain⟨⟨⟨K1,V1⟩,a⟩,hz⟩:∃ Z,putT S.H (fun _=>none) c.head=Z:=⟨_,rfl⟩
 rw[hz] at q hd1 hle
 simp only at q hd1 hle
 have hp1:∀ x,x∈[((a,far (P.vars:Int) c.head),(goalEnd S n,t))]→St K1 D1 S1 x.1.1 x.1.2∧St K1 D1 S1 x.2.1 x.2.2:=fun x hx=>by rw[List.mem_singleton] at hx;subst hx;exact⟨q.st,q.keep _ _ hst⟩
 have hm:=meetH_sim S.f K1 P.σ [] P.L _ q.hang hp1
 have hb:=keep_meetH S.f K1 [] [(a,goalEnd S n)] q.hang.heap (fun x hx=>by rw[List.mem_singleton] at hx;subst hx;exact⟨q.st.lt,(q.keep _ _ hst).lt⟩)
 have hrm:=meetH_room S.f K1 [] [(a,goalEnd S n)] q.hang.heap (fun x hx=>by rw[List.mem_singleton] at hx;subst hx;exact⟨q.st.lt,(q.keep _ _ hst).lt⟩) 4000 (by have:=h.work.2;simp;omega)
 have hky:=meet_keyD S.f K1 P.σ P.L _ q.hang hp1
 have hgr:=meet_grow S.f P.σ P.L [(far (P.vars:Int) c.head,t)] q.hang.store (fun x hx=>by rw[List.mem_singleton] at hx;subst hx;exact⟨q.st.wf q.hang.pos,hst.wf hs.hang.pos⟩)
 simp only[List.map_cons,List.map_nil] at hm hky
 have hwk:=h.work.1
 have hext:∀ (K:List HC) (B:List Nat),BKeep K1 [] K B→∀ S':MS,K.length≤S'.H.length→(∀ i,i<K.length→hc S'.H i=hc K i)→S'.T=S.T++B→(∃ g,S'.G=S.G++g)→Ext S S'∧∀ x,x∈S'.T→x<S'.H.length:=fun K B ⟨b1,b,b2,b3,b4⟩ S' x1 x2 x3 x4=>by
  rw[List.nil_append] at b2
  subst b2
  have hl:=q.len
  refine⟨⟨by omega,⟨B,x3,fun i hi hl=>?_,fun i hl hn=>?_⟩,x4⟩,fun x hx=>?_⟩
  ·rw[← q.old i hl];exact(b3 i hi).2
  ·rw[x2 i (by omega),b4 i (by omega) hn];exact q.old i hl
  ·rw[x3] at hx
   rcases List.mem_append.1 hx with hx | hx
   ·have:=hs.trail x hx;omega
   ·have:=(b3 x hx).1;omega
 have hback:∀ (K:List HC) (B:List Nat),BKeep K1 [] K B→∀ S':MS,S'.H=K→S'.T=S.T++B→S'.G=S.G→(undoS S' (markS S n)).H=S.H∧(undoS S' (markS S n)).T=S.T∧(undoS S' (markS S n)).G=S.G:=fun K B hk S' x1 x2 x3 =>
  (hext K B hk S' (by rw[x1];exact Nat.le_refl _) (fun i _=>by rw[x1]) x2 ⟨[],by rw[x3,List.append_nil]⟩).1.back n
 cases e1:meetH K1 [] S.f [(a,goalEnd S n)] with
 | no K B f =>
  cases e2:meet P.σ P.L S.f [(far (P.vars:Int) c.head,t)] with
  | no σ L f' =>
   rw[e1,e2] at hm;rw[e1] at hb;rw[e2] at hgr
   obtain⟨rfl,-,-⟩:=hm
   obtain⟨k1,k2,k3⟩:=hback K B hb { S with H:=K,T:=S.T++B,f:=f } rfl rfl rfl
   obtain⟨⟨N,hN,_⟩,hle2⟩:=hgr
   rw[hN,List.length_append] at hle2
   rw[mclause_no h.fin.1 hz e1,pclause_no (hwk ▸ e2)]
   exact⟨⟨⟨D,Sc,(hs.mono (by simp only;omega)).congr k1 k2 k3 rfl⟩,(h.ch.mono (by simp only;omega)).congr k1 k2 k3 rfl,h.first,⟨rfl,by have:=h.work.2;simp only[undoS];omega⟩,h.ne,h.t,h.fin,h.same⟩,k1,k2,k3,rfl,rfl,rfl,rfl⟩
  | ok σ L f'=>rw[e1,e2] at hm;exact hm.elim
  | many σ L=>rw[e1,e2] at hm;exact hm.elim
 | many K B =>
  cases e2:meet P.σ P.L S.f [(far (P.vars:Int) c.head,t)] with
  | no σ L f'=>rw[e1,e2] at hm;exact hm.elim
  | ok σ L f'=>rw[e1,e2] at hm;exact hm.elim
  | many σ L =>
   rw[e1] at hb
   obtain⟨k1,k2,k3⟩:=hback K B hb { S with H:=K,T:=S.T++B,f:=0,fin:=3 } rfl rfl rfl
   rw[mclause_many hz e1,pclause_many (hwk ▸ e2)]
   exact⟨rfl,rfl,⟨rfl,h.same.1,h.same.2,(fun e=>by simp[undoS] at e),⟨{ P with now:=gs },⟨D,Sc,by
    have:=hs.congr k1 k2 k3 (S':=undoS { S with H:=K,T:=S.T++B,f:=0,fin:=3 } (markS S n)) rfl
    rw[← h.first] at this
    exact this⟩,h.ch.congr k1 k2 k3 rfl⟩⟩,⟨by rw[k1];omega,by rw[k3];omega,rfl,by rw[k2];omega⟩⟩
 | ok K B f =>
  cases e2:meet P.σ P.L S.f [(far (P.vars:Int) c.head,t)] with
  | no σ L f'=>rw[e1,e2] at hm;exact hm.elim
  | many σ L=>rw[e1,e2] at hm;exact hm.elim
  | ok σ L f' =>
   rw[e1,e2] at hm;rw[e1] at hb hrm;rw[e2] at hky
   have hrb:B.length≤4000:=hrm
   obtain⟨rfl,hH,hl,hk⟩:=hm
   have hV2:VRel σ P.vars V1 D1 S1:=⟨q.rel.old,fun v h1 e=>by
    obtain⟨x1,x2⟩:=q.rel.new v h1 e
    refine⟨x1,?_⟩
    by_cases hz:σ (v+P.vars)=none
    ·exact hz
    ·exact absurd (hky _ x2 hz) x1⟩
   have hK:K.length≤S.H.length+119:=by omega
   obtain⟨D2,S2,q2⟩:=putL_sim (Int.natCast_nonneg P.vars) c.body K V1 D1 S1 hH hV2 q.inj.1 hd1 hC.body (by omega)
   have hq2:=q2.len.2
   have hkeep:∀ d u,St S.H D Sc d u→St (putL K V1 c.body).1.1 D2 S2 d u:=fun d u x=>q2.keep d u (hk d u (q.keep d u x))
   have hGo:∀ i (hi:i<S.G.length),S.G[i].at'<(putL K V1 c.body).1.1.length∧S.G[i].next≤i:=fun i hi=>by
    obtain⟨x1,x2⟩:=hs.goals i hi
    have:=q.len;have:=q2.len.1
    exact⟨by omega,x2⟩
   obtain⟨p1,p2,⟨g2,p3,p4⟩,p5⟩:=push_rel (H:=(putL K V1 c.body).1.1) (D:=D2) (Sc:=S2) S.ch.length (hgo.keep0 hkeep) (by omega) hGo _ _ q2.st
   have hat:(putL K V1 c.body).2.length=c.body.length:=by
    have hz:∀ (l:List Tm) (K:List HC) (V:CV),(putL K V l).2.length=l.length:=by
     intro l
     induction l with
     | nil=>intro K V;rfl
     | cons t l ih=>intro K V;simp only[putL,List.length_cons];rw[ih]
    exact hz _ _ _
   have hx:=hext K B hb { S with H:=(putL K V1 c.body).1.1,T:=S.T++B,G:=(pushG S.ch.length (putL K V1 c.body).2.reverse (S.G,(gn S (n-1)).next)).1 } q2.len.1 (fun i hi=>q2.old i hi) rfl ⟨g2,p3⟩
   obtain⟨k1,k2,k3⟩:=hx.1.back n
   have hfresh:∀ v:Int,((P.vars+12:Nat):Int)<v→¬ D2 v∧σ v=none:=fun v hv=>by
    have hn:(putL K V1 c.body).1.2 (v-P.vars)=none:=by
     cases hz:(putL K V1 c.body).1.2 (v-P.vars) with
     | none=>rfl
     | some k=>have:=q2.dom _ _ hz;omega
    have:=q2.rel.new (v-P.vars) (by omega) hn
    rwa [show v-(P.vars:Int)+P.vars=v by omega] at this
   have hGl:(pushG S.ch.length (putL K V1 c.body).2.reverse (S.G,(gn S (n-1)).next)).1.length≤S.G.length+6:=by rw[p3,List.length_append];omega
   have hch:=h.ch.mono (show P.vars≤P.vars+12 by omega)
   rw[mclause_ok hz e1,pclause_ok (hwk ▸ e2),hnext]
   simp only[mpush]
   rw[if_neg (show ¬ (400000<(putL K V1 c.body).1.1.length∨5000<(pushG S.ch.length (putL K V1 c.body).2.reverse (S.G,(gn S (n-1)).next)).1.length) by omega)]
   have hlen:S.ch.length=P.ch.length:=by have:=h.ch.len;simpa using this
   have hbody:bodyG P.vars P.ch.length c.body++gs.tail=((c.body.map (far (P.vars:Int))).map fun t=>(t,S.ch.length))++r:=by
    rw[hgs,hlen];unfold bodyG;rw[List.map_map];rfl
   generalize (putL K V1 c.body).1.1=K2 at *
   generalize pushG S.ch.length (putL K V1 c.body).2.reverse (S.G,(gn S (n-1)).next)=G2 at *
   have hcore:∀ S':MS,S'.H=K2→S'.T=S.T++B→S'.G=G2.1→S'.Q=S.Q→S'.first=G2.2→S'.ch=(if nextF p t (i+1)<p.length then S.ch++[{ markS S n with clause:=nextF p t (i+1) }] else S.ch) →
    Core p S' { P with σ:=σ,L:=L,f:=f,vars:=P.vars+12,ch:=if nextF p t (i+1)<p.length then P.ch++[⟨gs,nextF p t (i+1),P.σ,P.L⟩] else P.ch,now:=bodyG P.vars P.ch.length c.body++gs.tail }:=fun S' s1 s2 s3 s4 s5 s6=>by
    have hx':Ext S S':=⟨by rw[s1];exact hx.1.len,by rw[s1,s2];exact hx.1.trail,by rw[s3];exact hx.1.goals⟩
    refine⟨⟨D2,S2,?_,?_,?_,hfresh,?_,?_⟩,?_⟩
    ·rw[s1];exact q2.hang
    ·rw[s1,s3,s5,hbody];exact p1
    ·intro i hi
     have hi':i<S.Q.length:=by rw[← s4];exact hi
     have e:S'.Q[i]=S.Q[i]:=by simp only[s4]
     rw[s1,e]
     exact hkeep _ _ (hs.query i hi')
    ·intro i hi
     have hi':i<G2.1.length:=by rw[← s3];exact hi
     have e:S'.G[i]=G2.1[i]:=by simp only[s3]
     rw[s1,e]
     exact p5 i hi'
    ·intro x hx2
     rw[s2] at hx2
     rw[s1]
     exact hx.2 x hx2
    ·rw[s6]
     by_cases hnx:nextF p t (i+1)<p.length
     ·rw[if_pos hnx]
      simp only[if_pos hnx,List.reverse_append,List.reverse_cons,List.reverse_nil,List.nil_append,List.singleton_append]
      have hw:Within S' { markS S n with clause:=nextF p t (i+1) }:=hx'.within ⟨Nat.le_refl _,Nat.le_refl _,Nat.le_refl _⟩
      obtain⟨u1,u2,u3⟩:=hx'.back n
      exact⟨⟨hw,⟨rfl,hnx⟩,⟨h.ne,by rw[← h.t.1];exact h.t.2⟩,⟨D,Sc,(hs.mono (Nat.le_add_right _ 12)).congr u1 u2 u3 s4⟩⟩,hch.congr u1 u2 u3 s4⟩
     ·rw[if_neg hnx]
      simp only[if_neg hnx]
      exact hch.ext hx' s4
   have hC2:=hcore { S with H:=K2,G:=G2.1,first:=G2.2,ch:=if nextF p t (i+1)<p.length then S.ch++[{ markS S n with clause:=nextF p t (i+1) }] else S.ch,T:=S.T++B,f:=f } rfl rfl rfl rfl rfl rfl
   exact⟨rfl,rfl,⟨h.fin.1.trans h.fin.2.symm,h.same.1,h.same.2,fun _=>hC2,⟨_,hC2⟩⟩,⟨by simp only;omega,hGl,rfl,by simp only[List.length_append];omega⟩⟩
section
variable {p:List Cl} {n i:Nat} {S S':MS} {b:Bool}
theorem mcall_stop(h:¬ i<p.length):mcall p n i S=(S,false):=by unfold mcall mcallL;rw[dif_neg h]
theorem mcall_skip(h:i<p.length)(hf:¬ FitC p[i] (cellT (hc S.H (goalEnd S n)))):mcall p n i S=mcall p n (i+1) S:=by
 conv=>lhs;unfold mcall mcallL;rw[dif_pos h,if_neg hf]
 rfl
theorem mcall_done(h:i<p.length)(hf:FitC p[i] (cellT (hc S.H (goalEnd S n))))(hc':mclause p (gn S (n-1)) (goalEnd S n) (cellT (hc S.H (goalEnd S n))) (markS S n) p[i] i S=(S',some b)):mcall p n i S=(S',b):=by
 conv=>lhs;unfold mcall mcallL;rw[dif_pos h,if_pos hf,hc']
theorem mcall_go(h:i<p.length)(hf:FitC p[i] (cellT (hc S.H (goalEnd S n))))(hc':mclause p (gn S (n-1)) (goalEnd S n) (cellT (hc S.H (goalEnd S n))) (markS S n) p[i] i S=(S',none))(h1:S'.H=S.H)(h2:S'.T=S.T)(h3:S'.G=S.G):mcall p n i S=mcall p n (i+1) S':=by
 conv=>lhs;unfold mcall mcallL;rw[dif_pos h,if_pos hf,hc']
 unfold mcall
 have e1:gn S' (n-1)=gn S (n-1):=by unfold gn;rw[h3]
 have e2:goalEnd S' n=goalEnd S n:=by unfold goalEnd;rw[e1,h1]
 have e3:markS S' n=markS S n:=by unfold markS;rw[h1,h2,h3]
 rw[e1,e2,e3,h1]
end
structure CallOut(p:List Cl)(S:MS)(n:Nat)(gs:List Goal)(t:Tm)(x:MS×Bool)(y:PS×Bool):Prop where
 eq:x.2=y.2
 yes:x.2=true→MvS p x.1 y.1∧Grown S x.1
 no:x.2=false→CallIn p x.1 y.1 n gs t∧x.1.H=S.H∧x.1.T=S.T∧x.1.G=S.G∧x.1.ch=S.ch∧x.1.Q=S.Q∧x.1.steps=S.steps∧x.1.ans=S.ans
theorem call_sim{p:List Cl}(hp:∀ c,c∈p→ClG c){n:Nat}{gs:List Goal}{t:Tm}:∀ (m i:Nat) (S:MS) (P:PS),p.length-i=m→CallIn p S P n gs t→(S.H.length+833≤400000∧S.G.length+6≤5000) →
 CallOut p S n gs t (mcall p n i S) (pcall p gs t i P):=by
 intro m
 induction m with
 | zero =>
  intro i S P hm h _
  rw[mcall_stop (by omega),pcall_stop (by omega)]
  exact⟨rfl,(fun e=>by cases e),fun _=>⟨h,rfl,rfl,rfl,rfl,rfl,rfl,rfl⟩⟩
 | succ m ih =>
  intro i S P hm h hroom
  have hi:i<p.length:=by omega
  obtain⟨D,Sc,g,r,hG⟩:=h.goal
  have ht:t=look P.σ g.1:=by rw[h.t.1,hG.gs];rfl
  obtain⟨hk2,hnm,hnn,-⟩:=(hG.cell ht).2 h.t.2
  have hfit:FitC p[i] (cellT (hc S.H (goalEnd S n)))↔FitC p[i] t:=fit_cell hnm hnn
  by_cases hf:FitC p[i] t
  ·have hc1:=clause_sim h (hp _ (List.getElem_mem hi)) i hroom
   obtain⟨⟨S',o⟩,e1⟩:∃ x,mclause p (gn S (n-1)) (goalEnd S n) (cellT (hc S.H (goalEnd S n))) (markS S n) p[i] i S=x:=⟨_,rfl⟩
   obtain⟨⟨P',o'⟩,e2⟩:∃ x,pclause p gs t p[i] i P=x:=⟨_,rfl⟩
   rw[e1,e2] at hc1
   cases o with
   | some b =>
    cases o' with
    | some b' =>
     obtain⟨rfl,rfl,h1,h2⟩:=hc1
     rw[mcall_done hi (hfit.2 hf) e1,pcall_done hi hf e2]
     exact⟨rfl,fun _=>⟨h1,h2⟩,(fun e=>by cases e)⟩
    | none=>exact hc1.elim
   | none =>
    cases o' with
    | some b'=>exact hc1.elim
    | none =>
     obtain⟨h1,h2,h3,h4,h5,h6,h7,h8⟩:=hc1
     rw[mcall_go hi (hfit.2 hf) e1 h2 h3 h4,pcall_go hi hf e2]
     obtain⟨k1,k2,k3⟩:=ih (i+1) S' P' (by omega) h1 (by rw[h2,h4];exact hroom)
     refine⟨k1,fun e=>?_,fun e=>?_⟩
     ·obtain⟨q1,q2⟩:=k2 e
      exact⟨q1,⟨by rw[← h2];exact q2.heap,by rw[← h4];exact q2.goals,by rw[← h6];exact q2.q,by rw[← h3];exact q2.trail⟩⟩
     ·obtain⟨q1,q2,q3,q4,q5,q6,q7,q8⟩:=k3 e
      exact⟨q1,q2.trans h2,q3.trans h3,q4.trans h4,q5.trans h5,q6.trans h6,q7.trans h7,q8.trans h8⟩
  ·rw[mcall_skip hi (fun e=>hf (hfit.1 e)),pcall_skip hi hf]
   exact ih (i+1) S P (by omega) h hroom
theorem undo_len(S:MS)(c:Cn):(undoS S c).H.length≤S.H.length∧(undoS S c).G.length≤S.G.length∧(undoS S c).T.length≤S.T.length:=by
 unfold undoS
 simp only[List.length_take,unbindN_length]
 omega
theorem rev_take{α:Type}{l:List α}{k:Nat}{c:α}(h:l[k]? = some c):(l.take (k+1)).reverse=c::(l.take k).reverse:=by
 obtain⟨h1,h2⟩:=List.getElem?_eq_some_iff.1 h
 rw[List.take_succ_eq_append_getElem h1,List.reverse_append,h2]
 rfl
theorem CallIn.weak{p:List Cl}{S:MS}{P:PS}{n:Nat}{gs:List Goal}{t:Tm}(h:CallIn p S P n gs t):∃ P0,Core p S P0:=by
 obtain⟨D,Sc,hs⟩:=h.sit
 exact⟨{ P with now:=gs },⟨D,Sc,by rw[h.first];exact hs⟩,h.ch⟩
theorem Core.stop{p:List Cl}{S:MS}{P:PS}(h:Core p S P){S':MS}(h1:S'.H=S.H)(h2:S'.T=S.T)(h3:S'.G=S.G)(h4:S'.Q=S.Q)(h5:S'.ch=S.ch)(h6:S'.first=0):Core p S' { P with now:=[] }:=by
 obtain⟨⟨D,Sc,hs⟩,hc⟩:=h
 refine⟨⟨D,Sc,?_⟩,?_⟩
 ·have h0:Sit S 0 P.vars P.σ [] D Sc:=⟨hs.hang,rfl,hs.query,hs.fresh,hs.goals,hs.trail⟩
  rw[h6]
  exact h0.congr h1 h2 h3 h4
 ·rw[h5];exact hc.congr h1 h2 h3 h4
theorem mback_some{p:List Cl}{k:Nat}{S S1:MS}{c:Cn}(h:S.ch[k]? = some c)(hS:S1 = { undoS { S with ch:=S.ch.take k } c with first:=c.goal,f:=4000 })(h2:(hc S1.H (goalEnd S1 c.goal)).k=2) :
 mback p (k+1) S=if (mcall p c.goal c.clause S1).2=true then (mcall p c.goal c.clause S1).1 else mback p k (mcall p c.goal c.clause S1).1:=by
 subst hS
 simp only[mback,h]
 exact if_pos h2
theorem back_sim{p:List Cl}(hp:∀ c,c∈p→ClG c):∀ (k:Nat) (S:MS) (P:PS),ChR p P.vars S (S.ch.take k).reverse (P.ch.take k).reverse→k≤S.ch.length→S.ch.length=P.ch.length→(S.fin=0∧P.fin=0)→(S.steps=P.steps∧S.ans=P.ans)→(∃ P0,Core p S P0) →
 (S.H.length+833≤400000∧S.G.length+6≤5000)→MvS p (mback p k S) (pback p k P)∧Grown S (mback p k S):=by
 intro k
 induction k with
 | zero =>
  intro S P _ _ _ hf hs hw hroom
  obtain⟨P0,hw⟩:=hw
  simp only[mback,pback]
  exact⟨⟨rfl,hs.1,hs.2,(fun e=>by cases e),⟨_,hw.stop rfl rfl rfl rfl rfl rfl⟩⟩,⟨by simp only;omega,by simp only;omega,rfl,by simp only;omega⟩⟩
 | succ k ih =>
  intro S P hch hk hlen hf hs hw hroom
  obtain⟨c,hc1⟩:∃ c,S.ch[k]? = some c:=⟨_,List.getElem?_eq_getElem (by omega)⟩
  obtain⟨d,hd1⟩:∃ d,P.ch[k]? = some d:=⟨_,List.getElem?_eq_getElem (by omega)⟩
  rw[rev_take hc1,rev_take hd1] at hch
  obtain⟨⟨w,⟨c1,c2⟩,⟨d1,d2⟩,D,Sc,hsit⟩,hch2⟩:=hch
  simp only[pback,hd1]
  obtain⟨S1,hS1⟩:∃ S1:MS,S1 = { undoS { S with ch:=S.ch.take k } c with first:=c.goal,f:=4000 }:=⟨_,rfl⟩
  obtain⟨P1,hP1⟩:∃ P1:PS,P1 = { P with ch:=P.ch.take k,σ:=d.σ,L:=d.L,f:=4000 }:=⟨_,rfl⟩
  rw[← hP1]
  have e1:S1.H=(undoS S c).H:=by rw[hS1];rfl
  have e2:S1.T=(undoS S c).T:=by rw[hS1];rfl
  have e3:S1.G=(undoS S c).G:=by rw[hS1];rfl
  have e4:S1.Q=S.Q:=by rw[hS1];rfl
  have e5:S1.ch=S.ch.take k:=by rw[hS1];rfl
  have hl:=undo_len S c
  have hcall:CallIn p S1 P1 c.goal d.gs (look d.σ (headT d.gs)):=by
   refine⟨⟨D,Sc,?_⟩,?_,by rw[hS1],⟨by rw[hS1,hP1],by rw[hS1];exact Nat.le_refl _⟩,d1,⟨by rw[hP1],d2⟩,⟨by rw[hS1];exact hf.1,by rw[hP1];exact hf.2⟩,⟨by rw[hS1,hP1];exact hs.1,by rw[hS1,hP1];exact hs.2⟩⟩
   ·rw[hP1];exact hsit.congr e1 e2 e3 e4
   ·rw[e5,hP1];exact hch2.congr e1 e2 e3 e4
  have hroom1:S1.H.length+833≤400000∧S1.G.length+6≤5000:=by rw[e1,e3];omega
  obtain⟨D',Sc',g,r,hG⟩:=hcall.goal
  have ht:look d.σ (headT d.gs)=look P1.σ g.1:=by rw[hP1,hG.gs];rfl
  have hk2:=((hG.cell ht).2 d2).1
  rw[mback_some hc1 hS1 hk2,c1]
  have hout:=call_sim hp _ d.cl S1 P1 rfl hcall hroom1
  obtain⟨x,hx⟩:∃ x,mcall p c.goal d.cl S1=x:=⟨_,rfl⟩
  obtain⟨y,hy⟩:∃ y,pcall p d.gs (look d.σ (headT d.gs)) d.cl P1=y:=⟨_,rfl⟩
  rw[hx,hy] at hout ⊢
  obtain⟨h1,h2,h3⟩:=hout
  by_cases hb:x.2=true
  ·rw[if_pos hb,if_pos (by rw[← h1];exact hb)]
   obtain⟨q1,q2⟩:=h2 hb
   exact⟨q1,⟨by have:=q2.heap;rw[e1] at this;omega,by have:=q2.goals;rw[e3] at this;omega,q2.q.trans e4,by have:=q2.trail;rw[e2] at this;omega⟩⟩
  ·rw[if_neg hb,if_neg (by rw[← h1];exact hb)]
   obtain⟨q1,q2,q3,q4,q5,q6,q7,q8⟩:=h3 (by simpa using hb)
   have hll:x.1.ch.length=k:=by rw[q5,e5,List.length_take];omega
   have hle:=q1.ch.len
   simp only[List.length_reverse] at hle
   obtain⟨r1,r2⟩:=ih x.1 y.1 (q1.ch.take k) (by omega) hle q1.fin q1.same q1.weak (by rw[q2,q4];exact hroom1)
   refine⟨r1,⟨?_,?_,?_,?_⟩⟩
   ·have:=r2.heap;rw[q2,e1] at this;omega
   ·have:=r2.goals;rw[q4,e3] at this;omega
   ·rw[r2.q,q6,e4]
   ·have:=r2.trail;rw[q3,e2] at this;omega
theorem Core.len{p:List Cl}{S:MS}{P:PS}(h:Core p S P):S.ch.length=P.ch.length:=by have:=h.ch.len;simpa using this
theorem ChR.whole{p:List Cl}{vars:Nat}{S:MS}{ch:List Cn}{dh:List PCh}(h:ChR p vars S ch.reverse dh.reverse):ChR p vars S (ch.take ch.length).reverse (dh.take ch.length).reverse:=h.take _
theorem take_sim{p:List Cl}(hp:∀ c,c∈p→ClG c){S:MS}{P:PS}(h:Core p S P)(hne:P.now≠[])(hf:S.fin=0∧P.fin=0)(hs:S.steps=P.steps∧S.ans=P.ans)(hroom:S.H.length+833≤400000∧S.G.length+6≤5000) :
 MvS p (mtake p S) (ptake p P)∧Grown S (mtake p S):=by
 obtain⟨D,Sc,hsit⟩:=h.sit
 obtain⟨g,r,h1,h2,h3,h4,h5⟩:=hsit.goal hne
 have hlen:=h.len
 obtain⟨t,ht⟩:∃ t,t=look P.σ (headT P.now):=⟨_,rfl⟩
 have htg:t=look P.σ g.1:=by rw[ht,h1];rfl
 obtain⟨k1,k2,-,-,k5,k6⟩:=hsit.hang.look h5
 rw[← htg] at k1 k5 k6
 have hG:GoalIs S P S.first P.now t D Sc g r:=⟨hsit,h1,h2,h3,h4,h5,k1,k2⟩
 obtain⟨c5,c6⟩:=hG.cell htg
 have hg0:Grown S S:=⟨by omega,by omega,rfl,by omega⟩
 have hnow:P.now.tail=r:=by rw[h1];rfl
 have hcut:(P.now.head?.map (·.2)).getD 0=(gn S (S.first-1)).cut:=by rw[h1,h2];rfl
 have hnext:∀ (S':MS),S'.H=S.H→S'.T=S.T→S'.G=S.G→S'.Q=S.Q→S'.first=(gn S (S.first-1)).next→Sit S' S'.first P.vars P.σ r D Sc:=fun S' e1 e2 e3 e4 e5=>by
  have h0:Sit S (gn S (S.first-1)).next P.vars P.σ r D Sc:=⟨hsit.hang,h3,hsit.query,hsit.fresh,hsit.goals,hsit.trail⟩
  rw[e5]
  exact h0.congr e1 e2 e3 e4
 simp only[mtake,ptake]
 rw[← ht]
 by_cases hv:t.var=0
 ·obtain⟨hk,hnm,hnn,harg⟩:=c6 hv
  rw[if_neg (show ¬ (hc S.H (goalEnd S S.first)).k=1 by rw[hk];decide),if_neg (show ¬ t.var≠0 from fun e=>e hv),hnm,hnn,Int.toNat_natCast]
  by_cases hm:meansB t.name t.args.length=false
  ·rw[if_pos hm,if_pos hm]
   have hcall:CallIn p { S with steps:=S.steps+1,f:=4000 } { P with steps:=P.steps+1,f:=4000 } S.first P.now t :=
    ⟨⟨D,Sc,hsit.congr rfl rfl rfl rfl⟩,h.ch.congr rfl rfl rfl rfl,rfl,⟨rfl,Nat.le_refl _⟩,hne,⟨ht,hv⟩,hf,⟨by simp only;rw[hs.1],hs.2⟩⟩
   have hout:=call_sim hp _ 0 _ _ rfl hcall hroom
   obtain⟨x,hx⟩:∃ x,mcall p S.first 0 { S with steps:=S.steps+1,f:=4000 }=x:=⟨_,rfl⟩
   obtain⟨y,hy⟩:∃ y,pcall p P.now t 0 { P with steps:=P.steps+1,f:=4000 }=y:=⟨_,rfl⟩
   rw[hx,hy] at hout ⊢
   obtain⟨o1,o2,o3⟩:=hout
   by_cases hb:x.2=true
   ·rw[if_pos (.inl hb),if_pos (by rw[← o1];exact hb)]
    obtain⟨q1,q2⟩:=o2 hb
    exact⟨q1,⟨q2.heap,q2.goals,q2.q,q2.trail⟩⟩
   ·obtain⟨q1,q2,q3,q4,q5,q6,q7,q8⟩:=o3 (by simpa using hb)
    rw[if_neg (fun e=>e.elim hb fun e=>e q1.fin.1),if_neg (by rw[← o1];exact hb)]
    have hle:=q1.ch.len
    simp only[List.length_reverse] at hle
    rw[← hle]
    obtain⟨r1,r2⟩:=back_sim hp x.1.ch.length x.1 y.1 q1.ch.whole (Nat.le_refl _) hle q1.fin q1.same q1.weak (by rw[q2,q4];exact hroom)
    exact⟨r1,⟨by have:=r2.heap;rw[q2] at this;exact this,by have:=r2.goals;rw[q4] at this;exact this,by rw[r2.q,q6],by have:=r2.trail;rw[q3] at this;exact this⟩⟩
  ·rw[if_neg hm,if_neg hm]
   by_cases n1:t.name=⟨#[33]⟩
   ·rw[if_pos n1,if_pos n1,hcut,hnow]
    have hc0:Core p { S with steps:=S.steps+1,f:=4000,ch:=S.ch.take (gn S (S.first-1)).cut,first:=(gn S (S.first-1)).next } { P with steps:=P.steps+1,f:=4000,ch:=P.ch.take (gn S (S.first-1)).cut,now:=r } :=
     ⟨⟨D,Sc,hnext _ rfl rfl rfl rfl rfl⟩,(h.ch.take _).congr rfl rfl rfl rfl⟩
    exact⟨⟨hf.1.trans hf.2.symm,by simp only;rw[hs.1],hs.2,fun _=>hc0,⟨_,hc0⟩⟩,⟨by simp only;omega,by simp only;omega,rfl,by simp only;omega⟩⟩
   ·rw[if_neg n1,if_neg n1]
    by_cases n2:t.name=⟨#[116,114,117,101]⟩
    ·rw[if_pos n2,if_pos n2,hnow]
     have hc0:Core p { S with steps:=S.steps+1,f:=4000,first:=(gn S (S.first-1)).next } { P with steps:=P.steps+1,f:=4000,now:=r } :=
      ⟨⟨D,Sc,hnext _ rfl rfl rfl rfl rfl⟩,h.ch.congr rfl rfl rfl rfl⟩
     exact⟨⟨hf.1.trans hf.2.symm,by simp only;rw[hs.1],hs.2,fun _=>hc0,⟨_,hc0⟩⟩,⟨by simp only;omega,by simp only;omega,rfl,by simp only;omega⟩⟩
    ·rw[if_neg n2,if_neg n2]
     by_cases n3:t.name=⟨#[102,97,105,108]⟩
     ·rw[if_pos n3,if_pos n3,← hlen]
      have hc0:Core p { S with steps:=S.steps+1,f:=4000 } { P with steps:=P.steps+1,f:=4000 }:=⟨⟨D,Sc,hsit.congr rfl rfl rfl rfl⟩,h.ch.congr rfl rfl rfl rfl⟩
      obtain⟨r1,r2⟩:=back_sim hp S.ch.length { S with steps:=S.steps+1,f:=4000 } { P with steps:=P.steps+1,f:=4000 } hc0.ch.whole (Nat.le_refl _) hlen hf ⟨by simp only;rw[hs.1],hs.2⟩ ⟨_,hc0⟩ hroom
      exact⟨r1,⟨r2.heap,r2.goals,r2.q,r2.trail⟩⟩
     ·rw[if_neg n3,if_neg n3]
      have h2l:t.args.length=2:=means_two hm n1 n2 n3
      have ha0:t.args.getD 0 default=t.args[0]:=by rw[List.getD_eq_getElem?_getD,List.getElem?_eq_getElem (by omega)];rfl
      have ha1:t.args.getD 1 default=t.args[1]:=by rw[List.getD_eq_getElem?_getD,List.getElem?_eq_getElem (by omega)];rfl
      have hp1:∀ x,x∈[((goalEnd S S.first+1,t.args.getD 0 default),(goalEnd S S.first+2,t.args.getD 1 default))]→St S.H D Sc x.1.1 x.1.2∧St S.H D Sc x.2.1 x.2.2:=fun x hx=>by
       rw[List.mem_singleton] at hx;subst hx
       refine⟨?_,?_⟩
       ·rw[ha0];exact harg 0 (by omega)
       ·rw[ha1];exact harg 1 (by omega)
      have hms:=meetH_sim 4000 S.H P.σ [] P.L _ hsit.hang hp1
      have hbk:=keep_meetH 4000 S.H [] [(goalEnd S S.first+1,goalEnd S S.first+2)] hsit.hang.heap (fun x hx=>by
       rw[List.mem_singleton] at hx;subst hx
       have:=hp1 _ List.mem_cons_self
       exact⟨this.1.lt,this.2.lt⟩)
      have hrm:=meetH_room 4000 S.H [] [(goalEnd S S.first+1,goalEnd S S.first+2)] hsit.hang.heap (fun x hx=>by
       rw[List.mem_singleton] at hx;subst hx
       have:=hp1 _ List.mem_cons_self
       exact⟨this.1.lt,this.2.lt⟩) 4000 (by simp)
      have hky:=meet_keyD 4000 S.H P.σ P.L _ hsit.hang hp1
      simp only[List.map_cons,List.map_nil] at hms hky
      have hext:∀ (K:List HC) (B:List Nat),BKeep S.H [] K B→∀ S':MS,S'.H=K→S'.T=S.T++B→S'.G=S.G→Ext S S'∧∀ x,x∈S'.T→x<S'.H.length:=fun K B ⟨b1,b,b2,b3,b4⟩ S' x1 x2 x3=>by
       rw[List.nil_append] at b2
       subst b2
       refine⟨⟨by rw[x1];omega,⟨B,x2,fun i hi _=>(b3 i hi).2,fun i hl hn=>by rw[x1];exact b4 i hl hn⟩,⟨[],by rw[x3,List.append_nil]⟩⟩,fun x hx=>?_⟩
       rw[x2] at hx
       rw[x1]
       rcases List.mem_append.1 hx with hx | hx
       ·have:=hsit.trail x hx;omega
       ·have:=(b3 x hx).1;omega
      obtain⟨x,hx⟩:∃ x,msame (goalEnd S S.first+1) (goalEnd S S.first+2) { S with steps:=S.steps+1,f:=4000 }=x:=⟨_,rfl⟩
      rw[hx]
      cases e1:meetH S.H [] 4000 [(goalEnd S S.first+1,goalEnd S S.first+2)] with
      | ok K B f =>
       cases e2:meet P.σ P.L 4000 [(t.args.getD 0 default,t.args.getD 1 default)] with
       | ok σ L f' =>
        rw[e1,e2] at hms;rw[e1] at hbk hrm;rw[e2] at hky
        have hrb:B.length≤4000:=hrm
        obtain⟨rfl,m1,m2,m3⟩:=hms
        obtain rfl:x=({ S with H:=K,T:=S.T++B,f:=f,steps:=S.steps+1 },true):=by rw[← hx];simp only[msame,e1]
        simp only[if_true,hnow]
        have hx:=hext K B hbk { S with H:=K,T:=S.T++B,f:=f,steps:=S.steps+1,first:=(gn S (S.first-1)).next } rfl rfl rfl
        have hc0:Core p { S with H:=K,T:=S.T++B,f:=f,steps:=S.steps+1,first:=(gn S (S.first-1)).next } { P with σ:=σ,L:=L,f:=f,now:=r,steps:=P.steps+1 }:=by
         refine⟨⟨D,Sc,m1,h3.keep0 m3,fun i hi=>m3 _ _ (hsit.query i hi),fun v hv'=>?_,fun i hi=>?_,hx.2⟩,h.ch.ext hx.1 rfl⟩
         ·obtain⟨f1,f2⟩:=hsit.fresh v hv'
          refine⟨f1,?_⟩
          by_cases hz:σ v=none
          ·exact hz
          ·exact absurd (hky v f2 hz) f1
         ·have:=hsit.goals i hi
          exact⟨by simp only;rw[m2];exact this.1,this.2⟩
        exact⟨⟨hf.1.trans hf.2.symm,by simp only;rw[hs.1],hs.2,fun _=>hc0,⟨_,hc0⟩⟩,⟨by simp only;omega,by simp only;omega,rfl,by simp only[List.length_append];omega⟩⟩
       | no σ L f'=>rw[e1,e2] at hms;exact hms.elim
       | many σ L=>rw[e1,e2] at hms;exact hms.elim
      | no K B f =>
       cases e2:meet P.σ P.L 4000 [(t.args.getD 0 default,t.args.getD 1 default)] with
       | no σ L f' =>
        rw[e1,e2] at hms;rw[e1] at hbk
        obtain⟨rfl,-,-⟩:=hms
        obtain⟨u1,u2,u3⟩:=(hext K B hbk { S with H:=K,T:=S.T++B,f:=f,steps:=S.steps+1 } rfl rfl rfl).1.back S.first
        obtain rfl:x=({ S with H:=K,T:=S.T++B,f:=f,steps:=S.steps+1 },false):=by rw[← hx];simp only[msame,e1]
        simp only[Bool.false_eq_true,if_false,hnow]
        have hc0:Core p { undoS { S with H:=K,T:=S.T++B,f:=f,steps:=S.steps+1 } (markS S S.first) with first:=(gn S (S.first-1)).next } { P with f:=f,now:=r,steps:=P.steps+1 } :=
         ⟨⟨D,Sc,hnext _ u1 u2 u3 rfl rfl⟩,h.ch.congr u1 u2 u3 rfl⟩
        rw[if_neg (show ¬ (undoS { S with H:=K,T:=S.T++B,f:=f,steps:=S.steps+1 } (markS S S.first)).fin≠0 from fun e=>e hf.1),← hlen]
        obtain⟨r1,r2⟩:=back_sim hp S.ch.length _ _ hc0.ch.whole (Nat.le_refl _) hlen hf ⟨by simp only[undoS];rw[hs.1],hs.2⟩ ⟨_,hc0⟩ (by rw[show ({ undoS { S with H:=K,T:=S.T++B,f:=f,steps:=S.steps+1 } (markS S S.first) with first:=(gn S (S.first-1)).next }:MS).H=S.H from u1,show ({ undoS { S with H:=K,T:=S.T++B,f:=f,steps:=S.steps+1 } (markS S S.first) with first:=(gn S (S.first-1)).next }:MS).G=S.G from u3];exact hroom)
        exact⟨r1,⟨by have:=r2.heap;rwa [show ({ undoS { S with H:=K,T:=S.T++B,f:=f,steps:=S.steps+1 } (markS S S.first) with first:=(gn S (S.first-1)).next }:MS).H=S.H from u1] at this,by have:=r2.goals;rwa [show ({ undoS { S with H:=K,T:=S.T++B,f:=f,steps:=S.steps+1 } (markS S S.first) with first:=(gn S (S.first-1)).next }:MS).G=S.G from u3] at this,r2.q,by have:=r2.trail;rwa [show ({ undoS { S with H:=K,T:=S.T++B,f:=f,steps:=S.steps+1 } (markS S S.first) with first:=(gn S (S.first-1)).next }:MS).T=S.T from u2] at this⟩⟩
       | ok σ L f'=>rw[e1,e2] at hms;exact hms.elim
       | many σ L=>rw[e1,e2] at hms;exact hms.elim
      | many K B =>
       cases e2:meet P.σ P.L 4000 [(t.args.getD 0 default,t.args.getD 1 default)] with
       | many σ L =>
        rw[e1] at hbk
        obtain⟨u1,u2,u3⟩:=(hext K B hbk { S with H:=K,T:=S.T++B,f:=0,fin:=3,steps:=S.steps+1 } rfl rfl rfl).1.back S.first
        obtain rfl:x=({ S with H:=K,T:=S.T++B,f:=0,fin:=3,steps:=S.steps+1 },false):=by rw[← hx];simp only[msame,e1]
        simp only[Bool.false_eq_true,if_false,hnow]
        have hc0:Core p { undoS { S with H:=K,T:=S.T++B,f:=0,fin:=3,steps:=S.steps+1 } (markS S S.first) with first:=(gn S (S.first-1)).next } { P with f:=0,fin:=3,now:=r,steps:=P.steps+1 } :=
         ⟨⟨D,Sc,hnext _ u1 u2 u3 rfl rfl⟩,h.ch.congr u1 u2 u3 rfl⟩
        rw[if_pos (show (undoS { S with H:=K,T:=S.T++B,f:=0,fin:=3,steps:=S.steps+1 } (markS S S.first)).fin≠0 by simp[undoS])]
        exact⟨⟨rfl,by simp only[undoS];rw[hs.1],hs.2,(fun e=>by simp[undoS] at e),⟨_,hc0⟩⟩,⟨by simp only;rw[u1];omega,by simp only;rw[u3];omega,rfl,by simp only;rw[u2];omega⟩⟩
       | no σ L f'=>rw[e1,e2] at hms;exact hms.elim
       | ok σ L f'=>rw[e1,e2] at hms;exact hms.elim
 ·have hk:=c5 hv
  rw[if_pos hk,if_pos hv]
  have hc0:Core p { S with steps:=S.steps+1,f:=4000,fin:=4 } { P with steps:=P.steps+1,f:=4000,fin:=4 }:=⟨⟨D,Sc,hsit.congr rfl rfl rfl rfl⟩,h.ch.congr rfl rfl rfl rfl⟩
  exact⟨⟨rfl,by simp only;rw[hs.1],hs.2,(fun e=>by cases e),⟨_,hc0⟩⟩,⟨by simp only;omega,by simp only;omega,rfl,by simp only;omega⟩⟩
theorem ts_of_row'{w:World}{ok:Nat→Prop}{base:Nat}{v:Value}{L:List TmAt}(h:w.ownsRow base 71 3 v L.length (flat L))(hok:∀ b,v.ownBlock=some b→ok b)(he:TsEach w ok L) :
 ∃ a cap,v=.slice a (L.map (·.1)).length cap∧Ts w ok (L.map (·.1)) a cap:=by
 rcases h.2 with ⟨rfl,hn⟩ | ⟨g,cap,cur,rfl,hb,hg,hcap,hml,hsz,htk⟩
 ·have:L = []:=List.eq_nil_of_length_eq_zero hn
  subst this
  exact⟨none,0,rfl,Ts.empty' _ _⟩
 ·refine⟨some ⟨g,0,none⟩,cap,by simp,?_⟩
  have hcell:∀ j u,(flat L)[j]? = some u→w.cell? ⟨g,j,none⟩=some u:=by
   intro j u hu
   have hj:j<L.length*3:=by rw[← flat_length];exact(List.getElem?_eq_some_iff.1 hu).1
   rw[h.cellAt j hj,hu]
  have hgs:g<w.heap.size:=(Array.getElem?_eq_some_iff.1 hg).1
  refine .mk _ _ _ ⟨by simpa using hcap,hml,fun h=>by cases h⟩ (fun i=>((L.getD i (.mk 0 ByteArray.empty [],none,0)).2)) (fun i hi=>?_) (fun i hi=>?_)
  ·have hi':i<L.length:=by simpa using hi
   obtain⟨h1,h2,h3⟩:=flat_at L i hi'
   refine⟨g,0,rfl,hok g rfl,hgs,?_⟩
   simp only[List.getElem_map,List.getD_eq_getElem?_getD,List.getElem?_eq_getElem hi',Option.getD_some,Nat.zero_add]
   exact⟨hcell _ _ h1,hcell _ _ h2,hcell _ _ h3,(he _ (List.getElem_mem hi')).1⟩
  ·have hi':i<L.length:=by simpa using hi
   simp only[List.getElem_map,List.getD_eq_getElem?_getD,List.getElem?_eq_getElem hi',Option.getD_some]
   exact(he _ (List.getElem_mem hi')).2
structure BldC(wb:World)(bl:Nat)(Cb:Nat→Prop)(bo:Nat)(n:ByteArray)(L:List TmAt)(x:Value)(C:Nat→Prop)(wr:World):Prop where
 box:Box3 wr bo (.int .i64 0) (.string n) x
 own:OwnTs wr wb.heap.size (fun b=>wb.heap.size≤b∧¬ C b) x L
 xo:∀ g,x.ownBlock=some g→¬ C g
 touch:Touch (fun b=>b=bo∨Cb b∨b=bl) wb wr
 lt:bo<wb.heap.size
 col:∀ b,b<wb.heap.size→(C b↔Cb b)
 old:∀ b,C b→b<wr.heap.size
 sep:¬ Cb bo∧bl<wb.heap.size∧bl≠bo
theorem BldC.start{wb:World}{bl bo:Nat}{Cb:Nat→Prop}{n:ByteArray}(h:Box3 wb bo (.int .i64 0) (.string n) (.slice none 0 0))(ho:∀ b,Cb b→b<wb.heap.size)(hs:¬ Cb bo∧bl<wb.heap.size∧bl≠bo):BldC wb bl Cb bo n [] (.slice none 0 0) Cb wb :=
 ⟨h,OwnTs.nil _ _ _,(fun _ hg=>nomatch hg),Touch.refl _ _,h.lt,fun _ _=>Iff.rfl,ho,hs⟩
theorem BldC.form{wb wr:World}{bl bo:Nat}{Cb C:Nat→Prop}{n:ByteArray}{L:List TmAt}{x:Value}(h:BldC wb bl Cb bo n L x C wr):∃ a cap,x=.slice a L.length cap:=by
 rcases h.own.own.2 with ⟨h1,h2⟩ | ⟨g,cap,cur,h1,_⟩
 ·exact⟨none,0,by rw[h1,h2]⟩
 ·exact⟨_,_,h1⟩
theorem BldC.next{wb wr wX w1 X2 w2:World}{bl bo:Nat}{Cb C C1:Nat→Prop}{n:ByteArray}{L:List TmAt}{x x':Value}(h:BldC wb bl Cb bo n L x C wr)(hX:wr.heap.size≤wX.heap.size)
 (hb:Touch (fun b=>C b∨b=bl) wr w1) (hc1:∀ b,b<wX.heap.size→(C1 b↔C b)) (ho1:∀ b,C1 b→b<w1.heap.size) {t:Tm} {a:Option Addr} {c:Nat} (hf:t.fits) (ht:Ts w1 (fun b=>wX.heap.size≤b∧¬ C1 b) t.args a c) (hX2:Below w1.heap.size w1 X2)
 (ho:w2.ownsRow wb.heap.size 71 3 x' (L.length+1) (flat L++flat [(t,a,c)])) (hg:X2.grownBy w2 x.ownBlock) (hfr:Fresh X2 x x') :
 Box3 w2 bo (.int .i64 0) (.string n) x∧BldC wb bl Cb bo n (L++[(t,a,c)]) x' C1 (w2.setCell ⟨bo,2,none⟩ x'):=by
 have hbr:bo<wr.heap.size:=h.box.lt
 have hxb:∀ g,x.ownBlock=some g→wb.heap.size≤g∧g<wr.heap.size:=fun g hg=>h.own.block hg
 have hxo:x.ownBlock≠some bo:=fun e=>by have:=(hxb _ e).1;have:=h.lt;omega
 have hcb:¬ C bo:=fun e=>h.sep.1 ((h.col bo h.lt).1 e)
 have hM:∀ b,C b∨b=bl→b≠bo:=fun b e e2=>by
  subst e2
  rcases e with e | e
  ·exact hcb e
  ·exact h.sep.2.2 e.symm
 have hbl:bl<wb.heap.size:=h.sep.2.1
 have hW:Touch (fun b=>C b∨b=bl) wr X2:=hb.trans (Touch.below hX2)
 have hblk:w2.heap[bo]? = wr.heap[bo]?:=(hg.block bo (by have:=hW.size;omega) (fun e=>hxo e.symm)).trans (hW.block bo hbr fun hm=>hM bo hm rfl)
 have hB2:Box3 w2 bo (.int .i64 0) (.string n) x:=h.box.keep hblk
 refine⟨hB2,?_⟩
 have hx'o:x'.ownBlock≠some bo:=fun e=>by
  rcases hfr with e2 | e2
  ·exact hxo (e2 ▸ e)
  ·have:=e2 bo e;have:=hW.size;omega
 have hS:Touch (fun b=>b=bo) w2 (w2.setCell ⟨bo,2,none⟩ x'):=Touch.setCell _ rfl
 have hE:TsEach X2 (Free x (fun b=>wb.heap.size≤b∧¬ C1 b)) [(t,a,c)]:=by
  refine TsEach.one hf ((ht.keep (Keeps.below hX2 _)).mono fun b _ hk=>?_)
  exact⟨⟨by have:=h.touch.size;omega,hk.2⟩,fun e=>by have:=(hxb b e).2;omega⟩
 have hOW:OwnTs X2 wb.heap.size (fun b=>wb.heap.size≤b∧¬ C1 b) x L:=by
  refine⟨ownsRow_block h.own.own fun g hg'=>hW.block g (hxb g hg').2 fun hm=>?_,?_⟩
  ·rcases hm with hm | hm
   ·exact h.xo g hg' hm
   ·have:=(hxb g hg').1;omega
  ·have h1:TsEach wr (fun b=>Free x (fun b=>wb.heap.size≤b∧¬ C b) b∧b<wr.heap.size) L:=h.own.each.mono fun b hb h=>⟨h,hb⟩
   exact(h1.keep (hW.keeps fun b hb hm=>by
    rcases hm with hm | hm
    ·exact hb.1.1.2 hm
    ·have:=hb.1.1.1;omega)).mono fun b _ hb=>⟨⟨hb.1.1.1,fun e=>hb.1.1.2 ((hc1 b (by omega)).1 e)⟩,hb.1.2⟩
 have h2:OwnTs w2 wb.heap.size (fun b=>wb.heap.size≤b∧¬ C1 b) x' (L++[(t,a,c)]):=hOW.append hE (by simpa using ho) hg hfr
 have hT2:Touch (fun b=>(C b∨b=bl)∨x.ownBlock=some b) wr w2:=(hW.mono fun _ _ e=>.inl e).trans (Touch.grown hg fun k e=>.inr e)
 refine⟨?_,⟨?_,?_⟩,?_,?_,h.lt,?_,?_,h.sep⟩
 ·refine⟨?_⟩
  rw[heap_setCell_at _ _ _ _ hB2.blk];rfl
 ·exact ownsRow_block h2.own (fun g hg'=>Below.heap_setCell _ _ _ _ (fun e=>by subst e;exact hx'o hg'))
 ·have key:TsEach w2 (fun b=>Free x' (fun b=>wb.heap.size≤b∧¬ C1 b) b∧b≠bo) (L++[(t,a,c)]):=h2.each.mono fun b _ hk=>⟨hk,fun e=>by
   subst e
   have:=hk.1.1;have:=h.lt;omega⟩
  exact(key.keep (w':=w2.setCell ⟨bo,2,none⟩ x') (hS.keeps fun b hb=>hb.2)).mono fun b _ hk=>hk.1
 ·intro g hg' e
  rcases hfr with e2 | e2
  ·rw[e2] at hg'
   exact h.xo g hg' ((hc1 g (by have:=(hxb g hg').2;omega)).1 e)
  ·have:=e2 g hg';have:=ho1 g e;have:=hX2.size;omega
 ·refine⟨hS.os.trans (hT2.os.trans h.touch.os),hS.tape.trans (hT2.tape.trans h.touch.tape),hS.output.trans (hT2.output.trans h.touch.output),Nat.le_trans h.touch.size (Nat.le_trans hT2.size hS.size),fun b hb' hn=>?_⟩
  refine(hS.block b (Nat.lt_of_lt_of_le hb' (Nat.le_trans h.touch.size hT2.size)) (fun e=>hn (.inl e))).trans ((hT2.block b (Nat.lt_of_lt_of_le hb' h.touch.size) ?_).trans (h.touch.block b hb' hn))
  rintro ((e | e) | e)
  ·exact hn (.inr (.inl ((h.col b hb').1 e)))
  ·exact hn (.inr (.inr e))
  ·have:=(hxb b e).1;omega
 ·intro b hb'
  exact(hc1 b (by have:=h.touch.size;omega)).trans (h.col b hb')
 ·intro b e
  have:=ho1 b e;have:=hX2.size;have:=hg.size
  have:(w2.setCell ⟨bo,2,none⟩ x').heap.size=w2.heap.size:=by simp[World.setCell]
  omega
theorem BldC.done{w wb wr:World}{bl bo br:Nat}{Cb C C0:Nat→Prop}{n:ByteArray}{L:List TmAt}{x:Value}(h:BldC wb bl Cb bo n L x C wr)(hw:Touch (fun b=>C0 b∨b=bl) w wb)(hc:∀ b,b<w.heap.size→(Cb b↔C0 b))(hbo:w.heap.size≤bo)(hbr:w.heap.size≤br)(hlt:br<wb.heap.size) :
 ∃ a cap,x=.slice a (L.map (·.1)).length cap∧Ts (((wr.setCell ⟨br,0,none⟩ (.int .i64 0)).setCell ⟨br,1,none⟩ (.string n)).setCell ⟨br,2,none⟩ x) (fun b=>w.heap.size≤b∧¬ C b) (L.map (·.1)) a cap∧Touch (fun b=>C0 b∨b=bl) w (((wr.setCell ⟨br,0,none⟩ (.int .i64 0)).setCell ⟨br,1,none⟩ (.string n)).setCell ⟨br,2,none⟩ x):=by
 have hb:Touch (fun b=>C0 b∨b=bl) w wr:=by
  refine⟨h.touch.os.trans hw.os,h.touch.tape.trans hw.tape,h.touch.output.trans hw.output,Nat.le_trans hw.size h.touch.size,fun b hb hn=>(h.touch.block b (Nat.lt_of_lt_of_le hb hw.size) ?_).trans (hw.block b hb hn)⟩
  rintro (e | e | e)
  ·omega
  ·exact hn (.inl ((hc b hb).1 e))
  ·exact hn (.inr e)
 have h0:TsEach wr (fun b=>Free x (fun b=>w.heap.size≤b∧¬ C b) b∧b≠br) L:=h.own.each.mono fun b _ hk=>⟨⟨⟨Nat.le_trans hw.size hk.1.1,hk.1.2⟩,hk.2⟩,fun e=>by have:=hk.1.1;omega⟩
 have h1:TsEach (((wr.setCell ⟨br,0,none⟩ (.int .i64 0)).setCell ⟨br,1,none⟩ (.string n)).setCell ⟨br,2,none⟩ x) (fun b=>w.heap.size≤b∧¬ C b) L :=
  (h0.keep ((touch_put wr br _ _ _).keeps fun b hb=>hb.2)).mono fun b _ hk=>hk.1.1
 have ho:(((wr.setCell ⟨br,0,none⟩ (.int .i64 0)).setCell ⟨br,1,none⟩ (.string n)).setCell ⟨br,2,none⟩ x).ownsRow w.heap.size 71 3 x L.length (flat L):=by
  have h2:wr.ownsRow w.heap.size 71 3 x L.length (flat L):=by
   refine⟨h.own.own.1,h.own.own.2.imp id ?_⟩
   rintro ⟨g,cap,cur,a1,a2,a3⟩
   exact⟨g,cap,cur,a1,Nat.le_trans hw.size a2,a3⟩
  exact ownsRow_block h2 fun g hg=>other_put (fun e=>by have:=(h.own.block hg).1;omega) _ _ _
 have hx:=h.xo
 obtain⟨a,cap,he,hts⟩:=ts_of_row' ho (fun b hb=>⟨by have:=(h.own.block hb).1;have:=hw.size;omega,hx b hb⟩) h1
 refine⟨a,cap,he,hts,?_⟩
 have ht:=touch_put wr br (.int .i64 0) (.string n) x
 exact⟨ht.os.trans hb.os,ht.tape.trans hb.tape,ht.output.trans hb.output,Nat.le_trans hb.size ht.size,fun b hb' hn=>(ht.block b (Nat.lt_of_lt_of_le hb' hb.size) (fun e=>by omega)).trans (hb.block b hb' hn)⟩
theorem shL_size{H:List HC}:∀ (m:Nat) (l:List Nat) (x:List Tm×Nat),shL H m l=some x→Tm.sizes x.1+x.2≤m:=by
 intro m
 induction m using Nat.strongRecOn with
 | _ m ih =>
 intro l x h
 cases l with
 | nil=>rw[shL_nil] at h;cases h;simp[Tm.sizes]
 | cons t r =>
  cases m with
  | zero=>rw[shL_zero] at h;cases h
  | succ m =>
   by_cases hv:(hc H (endH H t)).k=1
   ·rw[shL_var hv] at h
    obtain⟨z,hz,rfl⟩:=Option.map_eq_some_iff.1 h
    have e2:=ih m (by omega) _ z hz
    simp only[Tm.sizes,Tm.size];omega
   ·rw[shL_fn hv] at h
    obtain⟨y,hy,h2⟩:=Option.bind_eq_some_iff.1 h
    obtain⟨z,hz,rfl⟩:=Option.map_eq_some_iff.1 h2
    have h3:=(shL_le _ _ _ hy).1
    have e1:=ih m (by omega) _ y hy
    have e2:=ih y.2 (by omega) _ z hz
    simp only[Tm.sizes,Tm.size];omega
theorem addV_len(s:List Int)(v:Int):(addV s v).length≤s.length+1:=by
 unfold addV
 split
 ·omega
 ·simp
theorem ren_len(t:Tm):∀ s,(Tm.ren numV s t).2.length≤s.length+t.size:=by
 induction t using Tm.ind with
 | h v n l ih =>
  have hl:∀ (r:List Tm) (s:List Int),(∀ x,x∈r→x∈l)→(Tm.rens numV s r).2.length≤s.length+Tm.sizes r:=by
   intro r
   induction r with
   | nil=>intro s _;simp[Tm.rens,Tm.sizes]
   | cons x r ihr =>
    intro s hr
    have h1:=ih x (hr x List.mem_cons_self) s
    have h2:=ihr (Tm.ren numV s x).2 fun y hy=>hr y (List.mem_cons_of_mem _ hy)
    simp only[Tm.rens,Tm.sizes]
    omega
  intro s
  simp only[Tm.ren,Tm.size]
  split
  ·have:=addV_len s v;simp only[numV];omega
  ·have:=hl l s fun x hx=>hx;simp only;omega
theorem rens_len(l:List Tm):∀ s,(Tm.rens numV s l).2.length≤s.length+Tm.sizes l:=by
 induction l with
 | nil=>intro s;simp[Tm.rens,Tm.sizes]
 | cons x r ih =>
  intro s
  have h1:=ren_len x s
  have h2:=ih (Tm.ren numV s x).2
  simp only[Tm.rens,Tm.sizes]
  omega
def ShPost(w:World)(nb bl:Nat)(C:Nat→Prop)(s:List Int)(o:Option (List Tm×Nat))(e:Ending)(w':World):Prop :=
 Touch (fun b=>C b∨b=bl) w w'∧∃ (C':Nat→Prop) (mv cv:Value) (s':List Int),(∀ b,b<w.heap.size→(C' b↔C b))∧NmAt w' nb C' s' mv cv ∧
 match o with
 | some x=>∃ (T:Tm) (a:Option Addr) (c:Nat),(Tm.rens numV s x.1).1 = [T]∧e=.returned (.tuple #[.agg #[.int .i64 T.var,.string T.name,.slice a T.args.length c],.bool true])∧T.fits∧Ts w' (fun b=>w.heap.size≤b∧¬ C' b) T.args a c ∧
  s'=(Tm.rens numV s x.1).2∧w'.heap[bl]? = some (.cells #[.int .i64 x.2] 3 (0,0))
 | none=>e=.returned (.tuple #[.agg #[.int .i64 0,.string ⟨#[]⟩,.slice none 0 0],.bool false])∧∃ (k:Int),w'.heap[bl]? = some (.cells #[.int .i64 k] 3 (0,0))
end Go.Proofs.Ytikmgiapjigghab
