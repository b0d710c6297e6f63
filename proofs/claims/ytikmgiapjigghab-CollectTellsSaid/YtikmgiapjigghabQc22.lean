/- Plain: what the machine does, as plain functions. -/
import Derived.Test.YtikmgiapjigghabQc13
import Derived.Test.YtikmgiapjigghabQc19
namespace Go.Proofs.Ytikmgiapjigghab
open Go.RowKit
structure Gn where
 at':Nat
 cut:Nat
 next:Nat
structure Cn where
 goal:Nat
 clause:Nat
 heap:Nat
 trail:Nat
 goals:Nat
structure MS where
 H:List HC
 G:List Gn
 first:Nat
 ch:List Cn
 T:List Nat
 Q:List Nat
 steps:Nat
 fin:Nat
 ans:List (List Tm)
 f:Nat
def gn(S:MS)(n:Nat):Gn:=S.G.getD n ⟨0,0,0⟩
def gN(top:Nat):List Nat→List HC→List HC
 | [],H=>H
 | x::r,H=>gN top r (if x<top then H.set x ⟨1,(x:Int),⟨#[]⟩⟩ else H)
def aK(S:MS)(c:Cn):MS:={S with H:=(gN c.heap (S.T.drop c.trail) S.H).take c.heap,T:=S.T.take c.trail,G:=S.G.take c.goals}
def aZ(S:MS)(n:Nat):Cn:=⟨n,0,S.H.length,S.T.length,S.G.length⟩
def aS(H:List HC)(V:CV):List Tm→(List HC×CV)×List Nat
 | []=>((H,V),[])
 | t::r=>((aS (putT H V t).1.1 (putT H V t).1.2 r).1,(putT H V t).2::(aS (putT H V t).1.1 (putT H V t).1.2 r).2)
def eR(cut:Nat):List Nat→List Gn×Nat→List Gn×Nat
 | [],x=>x
 | n::r,x=>eR cut r (x.1++[⟨n,cut,x.2⟩],x.1.length+1)
def lB(l:List Tm)(V:CV)(cut next:Nat)(S:MS):MS :=
 let P:=aS S.H V l
 let g:=eR cut P.2.reverse (S.G,next)
 {S with H:=P.1.1,G:=g.1,first:=g.2,fin:=if 400000<P.1.1.length∨5000<g.1.length then 3 else S.fin}
noncomputable def cQ(a b:Nat)(S:MS):MS×Bool :=
 match dE S.H [] S.f [(a,b)] with
 | .ok H B f=>({S with H:=H,T:=S.T++B,f:=f},true)
 | .no H B f=>({S with H:=H,T:=S.T++B,f:=f},false)
 | .many H B=>({S with H:=H,T:=S.T++B,f:=0,fin:=3},false)
def fP(c:HC):Tm:=.mk 0 c.name (List.replicate c.n.toNat default)
noncomputable def gE(p:List Cl)(g:Gn)(at':Nat)(t:Tm)(was:Cn)(c:Cl)(i:Nat)(S:MS):MS×Option Bool :=
 let P:=putT S.H (fun _=>none) c.head
 let r:=cQ P.2 at' {S with H:=P.1.1}
 if r.2=true then
  (lB c.body P.1.2 S.ch.length g.next {r.1 with ch:=if bE p t (i+1)<p.length then S.ch++[{was with clause:=bE p t (i+1)}] else S.ch},some true)
 else if r.1.fin≠0 then (aK r.1 was,some true) else (aK r.1 was,none)
noncomputable def pD(p:List Cl)(g:Gn)(at':Nat)(t:Tm)(was:Cn)(i:Nat)(S:MS):MS×Bool :=
 if h:i<p.length then
  if fG p[i] t then
   match gE p g at' t was p[i] i S with
   | (S',some b)=>(S',b)
   | (S',none)=>pD p g at' t was (i+1) S'
  else pD p g at' t was (i+1) S
 else (S,false)
termination_by p.length-i
noncomputable def aF(S:MS)(n:Nat):Nat:=aG S.H (gn S (n-1)).at'
noncomputable def dG(p:List Cl)(n i:Nat)(S:MS):MS×Bool :=
 pD p (gn S (n-1)) (aF S n) (fP (hc S.H (aF S n))) (aZ S n) i S
noncomputable def eL(p:List Cl):Nat→MS→MS
 | 0,S=>{S with first:=0,fin:=1}
 | k+1,S =>
  match S.ch[k]? with
  | none=>S
  | some c =>
   let S1:MS:={aK {S with ch:=S.ch.take k} c with first:=c.goal,f:=4000}
   if (hc S1.H (aF S1 c.goal)).k=2 then
    let r:=dG p c.goal c.clause S1
    if r.2=true then r.1 else eL p k r.1
   else eL p k S1
noncomputable def eS(p:List Cl)(S:MS):MS :=
 let S1:MS:={S with steps:=S.steps+1,f:=4000}
 let g:=gn S (S.first-1)
 let e:=aF S S.first
 let c:=hc S.H e
 if c.k=1 then {S1 with fin:=4}
 else if cG c.name c.n.toNat=false then
  let r:=dG p S.first 0 S1
  if r.2=true∨r.1.fin≠0 then r.1 else eL p r.1.ch.length r.1
 else if c.name=⟨#[33]⟩ then {S1 with ch:=S.ch.take g.cut,first:=g.next}
 else if c.name=⟨#[116,114,117,101]⟩ then {S1 with first:=g.next}
 else if c.name=⟨#[102,97,105,108]⟩ then eL p S.ch.length S1
 else
  let r:=cQ (e+1) (e+2) S1
  if r.2=true then {r.1 with first:=g.next}
  else
   let S2:MS:={aK r.1 (aZ S S.first) with first:=g.next}
   if S2.fin≠0 then S2 else eL p S2.ch.length S2
noncomputable def jK(p:List Cl)(S:MS):MS :=
 match shL S.H 200 S.Q with
 | none=>{S with fin:=3}
 | some x =>
  if 40≤S.ans.length+1 then {S with ans:=S.ans++[(Tm.rens cN [] x.1).1],fin:=1}
  else eL p S.ch.length {S with ans:=S.ans++[(Tm.rens cN [] x.1).1]}
def mU(i:Nat):HC:=⟨1,(i:Int),⟨#[]⟩⟩
def gH(K:List HC)(B:List Nat)(K':List HC)(B':List Nat):Prop :=
 K'.length=K.length∧∃b,B'=B++b∧(∀i,i∈b→i<K.length∧hc K i=mU i)∧∀i,i<K.length→i ∉ b→hc K' i=hc K i
theorem gH.refl(K:List HC)(B:List Nat):gH K B K B:=⟨rfl,[],by simp,(fun i h=>nomatch h),fun _ _ _=>rfl⟩
theorem gH.trans{K K1 K2:List HC}{B B1 B2:List Nat}(h:gH K B K1 B1)(k:gH K1 B1 K2 B2):gH K B K2 B2:=by
 obtain⟨l1,b1,e1,v1,s1⟩:=h;obtain⟨l2,b2,e2,v2,s2⟩:=k;refine⟨l2.trans l1,b1++b2,by rw[e2,e1,List.append_assoc],fun i hi=>?_,fun i hi hn=>?_⟩
 ·by_cases h1:i∈b1
  ·exact v1 i h1
  ·have h2:i∈b2:=(List.mem_append.1 hi).resolve_left h1
   obtain⟨a,b⟩:=v2 i h2;rw[l1] at a;exact⟨a,by rw[←s1 i a h1];exact b⟩
 ·have h1:i ∉ b1:=fun e=>hn (List.mem_append.2 (.inl e))
  have h2:i ∉ b2:=fun e=>hn (List.mem_append.2 (.inr e))
  rw[s2 i (by rw[l1];exact hi) h2,s1 i hi h1]
theorem xR{K:List HC}(hC:dK K){v:Nat}(hv:v<K.length)(hk:(hc K v).k=1)(hr:¬cR K v):hc K v=mU v:=by
 rcases bV (hC v hv) with ⟨_,_,_,hn⟩|⟨h,_⟩
 ·have h2:=aE1 hk hr
  have h3:(hc K v).name=⟨#[]⟩:=pI _ hn;unfold mU;rw[←hk,←h2,←h3]
 ·omega
theorem xS{K:List HC}(B:List Nat){v t:Nat}(hv:v<K.length)(hs:hc K v=mU v):gH K B (setN K v t) (B++[v]):=by
 refine⟨aL _ _ _,[v],rfl,fun i hi=>?_,fun i hi hn=>?_⟩
 ·rw[List.mem_singleton] at hi;subst hi;exact⟨hv,hs⟩
 ·rw[dL hv,if_neg fun e=>hn (List.mem_singleton.2 e)]
theorem mV{K:List HC}(h:dZ K){B:List Nat}{v t f:Nat}(hv:v<K.length)(hk:(hc K v).k=1)(hr:¬cR K v)(ht:t<K.length)(htr:¬cR K t){K':List HC}{B':List Nat}{f':Nat}{m:List (Nat×Nat)}(he:cU K B v t f=.go K' B' f' m):gH K B K' B':=by
 unfold cU at he;split at he
 ·cases he
 ·cases he
 ·cases he
  unfold cM;by_cases hs:(hc K t).k=1∧v<t
  ·rw[if_pos hs];exact xS B ht (xR h.cells ht hs.1 htr)
  ·rw[if_neg hs];exact xS B hv (xR h.cells hv hk hr)
theorem uT{K:List HC}(h:dZ K){B:List Nat}{x y f:Nat}(hx:x<K.length)(hxr:¬cR K x)(hy:y<K.length)(hyr:¬cR K y){K':List HC}{B':List Nat}{f':Nat}{m:List (Nat×Nat)}(he:aU K B f x y=.go K' B' f' m):gH K B K' B':=by
 unfold aU at he;split at he
 ·cases he;exact gH.refl _ _
 ·split at he
  ·rename_i h2
   exact mV h hx h2 hxr hy hyr he
  ·split at he
   ·rename_i h3
    exact mV h hy h3 hyr hx hxr he
   ·split at he
    ·cases he
    ·cases he;exact gH.refl _ _
theorem mW{K:List HC}{B:List Nat}{x y f:Nat}{o:qC}(he:aU K B f x y=.done o):(∃f',o=.no K B f')∨o=.many K B:=by
 unfold aU cU at he;split at he
 ·cases he
 ·split at he
  ·split at he
   ·cases he;exact .inl ⟨_,rfl⟩
   ·cases he;exact .inr rfl
   ·cases he
  ·split at he
   ·split at he
    ·cases he;exact .inl ⟨_,rfl⟩
    ·cases he;exact .inr rfl
    ·cases he
   ·split at he
    ·cases he;exact .inl ⟨_,rfl⟩
    ·cases he
def bL9(K:List HC)(B:List Nat):qC→Prop
 | .ok K' B' _=>gH K B K' B'
 | .no K' B' _=>gH K B K' B'
 | .many K' B'=>gH K B K' B'
theorem kQ:∀(f:Nat) (K:List HC) (B:List Nat) (ps:List (Nat×Nat)),dZ K→(∀p,p∈ps→p.1<K.length∧p.2<K.length)→bL9 K B (dE K B f ps):=by
 intro f
 induction f using Nat.strongRecOn with
 | _ f ih =>
 intro K B ps hI hp;cases ps with
 | nil=>rw[gB];exact gH.refl _ _
 | cons p r =>
  cases f with
  | zero=>rw[gT];exact gH.refl _ _
  | succ f =>
   have h1:=hI.end (hp p List.mem_cons_self).1;have h2:=hI.end (hp p List.mem_cons_self).2;cases hs:aU K B f (aG K p.1) (aG K p.2) with
   | done o =>
    rw[gU _ hs];rcases mW hs with ⟨f',rfl⟩|rfl
    ·exact gH.refl _ _
    ·exact gH.refl _ _
   | go K' B' f' m =>
    rw[kO _ hs];obtain⟨a,b,c,d⟩:=lH hI h1.1 h1.2 h2.1 h2.2 hs;have hle:=fE hs;have hk:=uT hI h1.1 h1.2 h2.1 h2.2 hs;have:=ih f' (by omega) K' B' (m++r) a (fun q hq=>by
     rcases List.mem_append.1 hq with hq|hq
     ·rw[b];exact c q hq
     ·rw[b];exact hp q (List.mem_cons_of_mem _ hq))
    generalize dE K' B' f' (m++r)=o at *;cases o with
    | ok K2 B2 f2=>exact hk.trans this
    | no K2 B2 f2=>exact hk.trans this
    | many K2 B2=>exact hk.trans this
theorem iK(top:Nat):∀(l:List Nat) (H:List HC),(gN top l H).length=H.length:=by
 intro l
 induction l with
 | nil=>intro H;rfl
 | cons x r ih=>intro H;simp only[gN];rw[ih];split <;> simp
theorem aL1(H:List HC)(x i:Nat)(c:HC)(hx:x<H.length):hc (H.set x c) i=if i=x then c else hc H i:=by
 unfold hc;rw[List.getD_eq_getElem?_getD,List.getD_eq_getElem?_getD,List.getElem?_set];by_cases h:i=x
 ·subst h;rw[if_pos rfl,if_pos rfl,if_pos hx];rfl
 ·rw[if_neg (fun e=>h e.symm),if_neg h]
theorem aL2(top:Nat):∀(l:List Nat) (H:List HC) (i:Nat),(∀x,x∈l→x<top→x<H.length)→hc (gN top l H) i=if i∈l∧i<top then mU i else hc H i:=by
 intro l
 induction l with
 | nil=>intro H i _;simp[gN]
 | cons x r ih =>
  intro H i hl;simp only[gN];rw[ih _ _ (fun y hy ht=>by
   have:=hl y (List.mem_cons_of_mem _ hy) ht;split
   ·simpa using this
   ·exact this)]
  by_cases h1:i∈r∧i<top
  ·rw[if_pos h1,if_pos ⟨List.mem_cons_of_mem _ h1.1,h1.2⟩]
  ·rw[if_neg h1]
   by_cases hx:x<top
   ·rw[if_pos hx,aL1 _ _ _ _ (hl x List.mem_cons_self hx)]
    by_cases e:i=x
    ·subst e
     rw[if_pos rfl,if_pos ⟨List.mem_cons_self,hx⟩];rfl
    ·rw[if_neg e,if_neg]
     rintro ⟨h2,h3⟩;rcases List.mem_cons.1 h2 with h2|h2
     ·exact e h2
     ·exact h1 ⟨h2,h3⟩
   ·rw[if_neg hx,if_neg]
    rintro ⟨h2,h3⟩;rcases List.mem_cons.1 h2 with h2|h2
    ·exact hx (h2 ▸ h3)
    ·exact h1 ⟨h2,h3⟩
theorem bM0{H K:List HC}(hl:H.length=K.length)(h:∀i,i<H.length→hc H i=hc K i):H=K:=by
 refine List.ext_getElem hl fun i h1 h2=>?_
 have:=h i h1
 rwa [lV h1,lV h2] at this
theorem zQ{H:List HC}{n i:Nat}(hi:i<n):hc (H.take n) i=hc H i:=by
 unfold hc;rw[List.getD_eq_getElem?_getD,List.getD_eq_getElem?_getD,List.getElem?_take,if_pos hi]
theorem qF{H:List HC}{T:List Nat}{top tr:Nat}(ht:top≤H.length){i:Nat}(hi:i<top):hc ((gN top (T.drop tr) H).take top) i=if i∈T.drop tr then mU i else hc H i:=by
 rw[zQ hi,aL2 _ _ _ _ (fun x _ hx=>nT hx ht)];by_cases h:i∈T.drop tr
 ·rw[if_pos ⟨h,hi⟩,if_pos h]
 ·rw[if_neg (fun e=>h e.1),if_neg h]
structure Ext(S S':MS):Prop where
 len:S.H.length≤S'.H.length
 trail:∃b,S'.T=S.T++b∧(∀i,i∈b→i<S.H.length→hc S.H i=mU i)∧∀i,i<S.H.length→i ∉ b→hc S'.H i=hc S.H i
 goals:∃g,S'.G=S.G++g
def jP(S:MS)(c:Cn):Prop:=c.heap≤S.H.length∧c.trail≤S.T.length∧c.goals≤S.G.length
theorem Ext.undo{S S':MS}(h:Ext S S'){c:Cn}(hc':jP S c):(aK S' c).H=(aK S c).H∧(aK S' c).T=(aK S c).T∧(aK S' c).G=(aK S c).G:=by
 obtain⟨w1,w2,w3⟩:=hc';obtain⟨l1,⟨b,e1,v1,s1⟩,⟨g,f1⟩⟩:=h;refine⟨?_,?_,?_⟩
 ·unfold aK
  simp only;have la:∀K:List HC,∀T:List Nat,c.heap≤K.length→((gN c.heap T K).take c.heap).length=c.heap:=fun K T hK=>by rw[List.length_take,iK];omega
  refine bM0 (by rw[la _ _ (by omega),la _ _ w1]) fun i hi=>?_
  rw[la _ _ (by omega)] at hi;rw[qF (by omega) hi,qF w1 hi,e1,List.drop_append_of_le_length w2];by_cases h1:i∈S.T.drop c.trail
  ·rw[if_pos (List.mem_append.2 (.inl h1)),if_pos h1]
  ·rw[if_neg h1]
   by_cases h2:i∈b
   ·rw[if_pos (List.mem_append.2 (.inr h2))];exact(v1 i h2 (by omega)).symm
   ·rw[if_neg fun e=>(List.mem_append.1 e).elim h1 h2];exact s1 i (by omega) h2
 ·unfold aK
  simp only;rw[e1,List.take_append_of_le_length w2]
 ·unfold aK
  simp only;rw[f1,List.take_append_of_le_length w3]
theorem Ext.back{S S':MS}(h:Ext S S')(n:Nat):(aK S' (aZ S n)).H=S.H∧(aK S' (aZ S n)).T=S.T∧(aK S' (aZ S n)).G=S.G:=by
 obtain⟨h1,h2,h3⟩:=h.undo (c:=aZ S n) ⟨nR _,nR _,nR _⟩;rw[h1,h2,h3];unfold aK aZ;simp only;refine⟨?_,List.take_length,List.take_length⟩;rw[List.drop_length];simp[gN]
end Go.Proofs.Ytikmgiapjigghab
namespace Go.Proofs.Ytikmgiapjigghab
inductive Rv(O:Nat→Prop)(H:List HC)(Ho:Nat→Prop)(S:Int→Nat):Nat→Tm→Prop
 | var {i:Nat} {v:Int}:i<H.length→¬Ho i→v≠0→S v=i→(O i∨hc H i=⟨1,(i:Int),⟨#[]⟩⟩)→Rv O H Ho S i (aQ v)
 | ref {i j:Nat} {t:Tm}:i<H.length→¬Ho i→hc H i=⟨1,(j:Int),⟨#[]⟩⟩→j≠i→Rv O H Ho S j t→Rv O H Ho S i t
 | fn {i:Nat} {n:ByteArray} {l:List Tm}:i<H.length→¬Ho i→hc H i=⟨2,(l.length:Int),n⟩→(∀k,k<l.length→(hc H (i+1+k)).k=1)→(∀k (h:k<l.length),Rv O H Ho S (i+1+k) l[k])→Rv O H Ho S i (.mk 0 n l)
theorem Rv.lt{O:Nat→Prop}{H:List HC}{Ho:Nat→Prop}{S:Int→Nat}{i:Nat}{t:Tm}(h:Rv O H Ho S i t):i<H.length:=by cases h <;> assumption
theorem Rv.keep{O:Nat→Prop}{H H':List HC}{Ho Ho':Nat→Prop}{S:Int→Nat}(hl:H.length≤H'.length)(hk:∀i,i<H.length→¬Ho i→hc H' i=hc H i)(ho:∀i,i<H.length→¬Ho i→¬Ho' i){i:Nat}{t:Tm}(h:Rv O H Ho S i t):Rv O H' Ho' S i t∧¬Ho i:=by
 induction h with
 | var h1 h2 h3 h4 h5=>exact⟨.var (by omega) (ho _ h1 h2) h3 h4 (h5.imp id fun h=>by rw[hk _ h1 h2];exact h),h2⟩
 | ref h1 h2 h3 h4 h5 ih=>exact⟨.ref (by omega) (ho _ h1 h2) (by rw[hk _ h1 h2];exact h3) h4 ih.1,h2⟩
 | fn h1 h2 h3 h4 h5 ih=>exact⟨.fn (by omega) (ho _ h1 h2) (by rw[hk _ h1 h2];exact h3) (fun k hk'=>by rw[hk _ (h5 k hk').lt (ih k hk').2];exact h4 k hk') (fun k hk'=>(ih k hk').1),h2⟩
def bB5(O:Nat→Prop)(H:List HC)(Ho:Nat→Prop)(S:Int→Nat)(V:CV):Prop:=∀v c,V v=some c→v≠0∧S v=c∧Rv O H Ho S c (aQ v)
structure bB6(O:Nat→Prop)(H:List HC)(V:CV)(Ho:Nat→Prop)(S:Int→Nat)(t:Tm)(H':List HC)(V':CV)(c:Nat):Prop where
 len:H.length≤H'.length
 old:∀i,i<H.length→hc H' i=hc H i
 rd:Rv O H' Ho S c t
 new:∀i,H.length≤i→i<H'.length→∃u,u∈t.parts∧Rv O H' Ho S i u
 vok:bB5 O H' Ho S V'
structure bG4(O:Nat→Prop)(H:List HC)(V:CV)(Ho:Nat→Prop)(S:Int→Nat)(p:Nat)(l:List Tm)(H':List HC)(V':CV):Prop where
 len:H.length≤H'.length
 old:∀i,i<H.length→¬(p≤i∧i<p+l.length)→hc H' i=hc H i
 kind:∀k,k<l.length→(hc H' (p+k)).k=1
 rd:∀k (h:k<l.length),Rv O H' Ho S (p+k) l[k]
 new:∀i,H.length≤i→i<H'.length→∃u,u∈Tm.partss l∧Rv O H' Ho S i u
 vok:bB5 O H' Ho S V'
mutual
theorem aG5(O:Nat→Prop):∀(t:Tm) (H:List HC) (V:CV) (Ho:Nat→Prop) (S:Int→Nat),WfT t→(∀i,Ho i→i<H.length)→(∀v c,(putT H V t).1.2 v=some c→S v=c)→bB5 O H Ho S V →
 bB6 O H V Ho S t (putT H V t).1.1 (putT H V t).1.2 (putT H V t).2
 | .mk v n l,H,V,Ho,S,hw,ho,hS,hV=>by
  unfold putT at hS ⊢;by_cases hv:v≠0
  ·rw[if_pos hv] at hS ⊢
   obtain⟨ha,hn⟩:=(hw _ (Tm.self_mem _)).2 hv;simp only[Tm.args,Tm.name] at ha hn;subst ha;subst hn;cases h:V v with
   | some c =>
    simp only;exact⟨nR _,fun _ _=>rfl,(hV v c h).2.2,fun i h1 h2=>by omega,hV⟩
   | none =>
    rw[h] at hS;simp only at hS ⊢;have hSv:S v=H.length:=hS v _ (by simp[oW]);have hlen:(H++[(⟨1,(H.length:Int),⟨#[]⟩⟩:HC)]).length=H.length+1:=by simp
    have hnew:Rv O (H++[⟨1,(H.length:Int),⟨#[]⟩⟩]) Ho S H.length (aQ v):=by
     refine .var (by rw[hlen];omega) (fun h=>by have:=ho _ h;omega) hv hSv (.inr ?_);have:=jV (H:=H) (R:=[⟨1,(H.length:Int),⟨#[]⟩⟩]) 0;rw[Nat.add_zero] at this;rw[this];rfl
    refine⟨by rw[hlen];omega,fun i hi=>nI hi,hnew,fun i h1 h2=>?_,fun x c hx=>?_⟩
    ·rw[hlen] at h2
     have:i=H.length:=by omega
     subst this;exact⟨_,Tm.self_mem _,hnew⟩
    ·simp only[oW] at hx
     by_cases e:x=v
     ·subst e;rw[if_pos rfl] at hx;cases hx;exact⟨hv,hSv,hnew⟩
     ·rw[if_neg e] at hx
      obtain⟨h1,h2,h3⟩:=hV x c hx;exact⟨h1,h2,(h3.keep (by rw[hlen];omega) (fun i hi _=>nI hi) (fun i _ h=>h)).1⟩
  ·rw[if_neg hv] at hS ⊢
   have hv0:v=0:=Classical.byContradiction hv;subst hv0;simp only at hS ⊢;generalize hH1:H++[(⟨2,(l.length:Int),n⟩:HC)]++List.replicate l.length ⟨1,0,⟨#[]⟩⟩=H1 at hS ⊢;have hlen1:H1.length=H.length+1+l.length:=by subst hH1;simp;omega
   have hold1:∀i,i<H.length→hc H1 i=hc H i:=fun i hi=>by
    subst hH1;rw[List.append_assoc];exact nI hi
   have hfn1:hc H1 H.length=⟨2,(l.length:Int),n⟩:=by
    subst hH1;rw[List.append_assoc];have:=jV (H:=H) (R:=[(⟨2,(l.length:Int),n⟩:HC)]++List.replicate l.length ⟨1,0,⟨#[]⟩⟩) 0;rw[Nat.add_zero] at this;rw[this];rfl
   have hho1:∀k,k<l.length→hc H1 (H.length+1+k)=⟨1,0,⟨#[]⟩⟩:=fun k hk=>by
    subst hH1;have:=jV (H:=H++[(⟨2,(l.length:Int),n⟩:HC)]) (R:=List.replicate l.length ⟨1,0,⟨#[]⟩⟩) k;have e:(H++[(⟨2,(l.length:Int),n⟩:HC)]).length=H.length+1:=by simp
    rw[e] at this;rw[this,bK8 hk]
   have hV1:bB5 O H1 (fun i=>Ho i∨i=H.length) S V:=fun x c hx=>by
    obtain⟨h1,h2,h3⟩:=hV x c hx;exact⟨h1,h2,(h3.keep (by omega) (fun i hi _=>hold1 i hi) (fun i hi h=>fun e=>e.elim h fun e=>by omega)).1⟩
   have hq:=yI O l H1 V (fun i=>Ho i∨i=H.length) S (H.length+1) (fun x hx=>hw.arg (t:=.mk 0 n l) hx) (fun i hi=>hi.elim (fun h=>by have:=ho i h;omega) fun e=>by omega) (by omega) (fun k hk=>by rw[hho1 k hk])
    (fun i h1 h2 h3=>h3.elim (fun h=>by have:=ho i h;omega) fun e=>by omega) hS (fun x c hx=>by
     obtain⟨h1,h2,h3⟩:=hV x c hx;exact⟨h1,h2,(h3.keep (by omega) (fun i hi _=>hold1 i hi) (fun i hi h=>fun e=>e.elim (fun e=>e.elim h fun e=>by omega) fun e=>by omega)).1⟩)
   generalize eV H1 V (H.length+1) l=q at hq hS ⊢;have hfn:hc q.1 H.length=⟨2,(l.length:Int),n⟩:=(hq.old _ (by omega) (by omega)).trans hfn1;have hql:=hq.len;have hkeep:∀{i:Nat} {u:Tm},Rv O q.1 (fun i=>Ho i∨i=H.length) S i u→Rv O q.1 Ho S i u:=fun h=>(h.keep (nR _) (fun _ _ _=>rfl) (fun i _ h e=>h (.inl e))).1
   have hself:Rv O q.1 Ho S H.length (.mk 0 n l):=.fn (by omega) (fun h=>by have:=ho _ h;omega) hfn hq.kind (fun k hk=>hkeep (hq.rd k hk));refine⟨by omega,fun i hi=>(hq.old i (by omega) (by omega)).trans (hold1 i hi),hself,fun i h1 h2=>?_,fun x c hx=>?_⟩
   ·by_cases e:i=H.length
    ·subst e;exact⟨_,Tm.self_mem _,hself⟩
    ·by_cases e2:i<H1.length
     ·obtain⟨k,rfl⟩:∃k,i=H.length+1+k:=⟨i-(H.length+1),by omega⟩
      have hk:k<l.length:=by omega
      exact⟨l[k],Tm.parts_arg (t:=.mk 0 n l) (List.getElem_mem hk) (Tm.self_mem _),hkeep (hq.rd k hk)⟩
     ·obtain⟨u,hu,hr⟩:=hq.new i (by omega) h2
      exact⟨u,by rw[Tm.parts];exact List.mem_cons_of_mem _ hu,hkeep hr⟩
   ·obtain⟨h1,h2,h3⟩:=hq.vok x c hx
    exact⟨h1,h2,hkeep h3⟩
theorem yI(O:Nat→Prop):∀(l:List Tm) (H:List HC) (V:CV) (Ho:Nat→Prop) (S:Int→Nat) (p:Nat),(∀t,t∈l→WfT t)→(∀i,Ho i→i<H.length)→p+l.length≤H.length→(∀k,k<l.length→hc H (p+k)=⟨1,0,⟨#[]⟩⟩) →
 (∀i,p≤i→i<p+l.length→¬Ho i)→(∀v c,(eV H V p l).2 v=some c→S v=c)→bB5 O H (fun i=>Ho i∨(p≤i∧i<p+l.length)) S V →
 bG4 O H V Ho S p l (eV H V p l).1 (eV H V p l).2
 | [],H,V,Ho,S,p,hw,ho,hp,hz,hd,hS,hV=>by
  rw[iA];exact⟨nR _,fun _ _ _=>rfl,fun k hk=>absurd hk (Nat.not_lt_zero k),fun k hk=>absurd hk (Nat.not_lt_zero k),fun i h1 h2=>absurd h1 (Nat.not_le.2 h2),fun x c hx=>by
   obtain⟨h1,h2,h3⟩:=hV x c hx;exact⟨h1,h2,(h3.keep (nR _) (fun _ _ _=>rfl) (fun i _ h e=>h (.inl e))).1⟩⟩
 | t::r,H,V,Ho,S,p,hw,ho,hp,hz,hd,hS,hV=>by
  rw[fC] at hS ⊢;rw[List.length_cons] at hp hz hd;have hq:=aG5 O t H V (fun i=>Ho i∨(p≤i∧i<p+(r.length+1))) S (hw t List.mem_cons_self) (fun i h=>h.elim (fun h=>ho i h) fun h=>by omega) (fun v c hc=>hS v c (lU r _ _ _ v c hc)) (by simpa using hV);generalize putT H V t=q at hq hS ⊢;have hql:=hq.len;have hpq:p<q.1.1.length:=by omega
  have hcl:=hq.rd.lt;have hne:q.2≠p:=fun e=>by
   have:=(hq.rd.keep (Ho':=fun _=>False) (nR _) (fun _ _ _=>rfl) (fun i _ _ e=>e)).2;exact this (.inr ⟨by omega,by omega⟩)
  have hset:∀i,i≠p→hc (setN q.1.1 p q.2) i=hc q.1.1 i:=fun i h=>bE8 hpq h
  have hzp:hc q.1.1 p=⟨1,0,⟨#[]⟩⟩:=(hq.old p (by omega)).trans (by simpa using hz 0 (by omega));have hsp:hc (setN q.1.1 p q.2) p=⟨1,(q.2:Int),⟨#[]⟩⟩:=by rw[dL hpq,if_pos rfl,hzp]
  have hkeep:∀{i:Nat} {u:Tm},Rv O q.1.1 (fun i=>Ho i∨(p≤i∧i<p+(r.length+1))) S i u→Rv O (setN q.1.1 p q.2) (fun i=>Ho i∨(p+1≤i∧i<p+1+r.length)) S i u:=fun h =>
   (h.keep (by rw[aL];exact nR _) (fun i _ hn=>hset i fun e=>hn (.inr ⟨by omega,by omega⟩)) (fun i _ hn e=>e.elim (fun e=>hn (.inl e)) fun e=>hn (.inr ⟨by omega,by omega⟩))).1
  have hs:=yI O r (setN q.1.1 p q.2) q.1.2 Ho S (p+1) (fun x hx=>hw x (List.mem_cons_of_mem _ hx)) (fun i h=>by rw[aL];have:=ho i h;omega) (by rw[aL];omega)
   (fun k hk=>by rw[hset _ (by omega),hq.old _ (by omega),show p+1+k=p+(k+1) by omega];exact hz (k+1) (by omega)) (fun i h1 h2=>hd i (by omega) (by omega)) hS (fun x c hx=>by
    obtain⟨h1,h2,h3⟩:=hq.vok x c hx;exact⟨h1,h2,hkeep h3⟩)
  generalize eV (setN q.1.1 p q.2) q.1.2 (p+1) r=z at hs hS ⊢;have hsl:=hs.len;rw[aL] at hsl;have hkeep2:∀{i:Nat} {u:Tm},Rv O q.1.1 (fun i=>Ho i∨(p≤i∧i<p+(r.length+1))) S i u→Rv O z.1 Ho S i u:=fun h =>
   ((hkeep h).keep (by rw[aL];exact hsl) (fun i hi hn=>hs.old i (by rwa [aL] at hi ⊢) (fun e=>hn (.inr e))) (fun i _ hn e=>hn (.inl e))).1
  have hzp2:hc z.1 p=⟨1,(q.2:Int),⟨#[]⟩⟩:=(hs.old p (by rw[aL];exact hpq) (by omega)).trans hsp;have hhead:Rv O z.1 Ho S p t:=.ref (by omega) (hd p (by omega) (by omega)) hzp2 hne (hkeep2 hq.rd);refine⟨by omega,fun i hi hn=>?_,fun k hk=>?_,fun k hk=>?_,fun i h1 h2=>?_,hs.vok⟩
  ·rw[List.length_cons] at hn
   rw[hs.old i (by rw[aL];omega) (by omega),hset i (by omega),hq.old i hi]
  ·cases k with
   | zero=>rw[Nat.add_zero,hzp2]
   | succ k =>
    rw[List.length_cons] at hk;rw[show p+(k+1)=p+1+k by omega];exact hs.kind k (by omega)
  ·cases k with
   | zero=>rw[Nat.add_zero];exact hhead
   | succ k =>
    rw[List.length_cons] at hk;rw[show p+(k+1)=p+1+k by omega];exact hs.rd k (by omega)
  ·by_cases e:i<q.1.1.length
   ·obtain⟨u,hu,hr⟩:=hq.new i h1 e
    exact⟨u,by rw[Tm.partss];exact List.mem_append_left _ hu,hkeep2 hr⟩
   ·obtain⟨u,hu,hr⟩:=hs.new i (by rw[aL];omega) h2
    exact⟨u,by rw[Tm.partss];exact List.mem_append_right _ hu,hr⟩
end
end Go.Proofs.Ytikmgiapjigghab
namespace Go.Proofs.Ytikmgiapjigghab
open Go.RowKit
theorem Rv.acc{O:Nat→Prop}{H:List HC}{Ho:Nat→Prop}{S:Int→Nat}(hO:∀i,O i→Acc (iQ (leads H)) i){i:Nat}{t:Tm}(h:Rv O H Ho S i t):Acc (iQ (leads H)) i:=by
 induction h with
 | var h1 h2 h3 h4 h5 =>
  rcases h5 with h5|h5
  ·exact hO _ h5
  ·refine⟨_,fun y hy=>?_⟩
   have hy':y∈leads H _:=hy;unfold leads at hy';rw[h5] at hy';simp at hy'
 | @ref i j t h1 h2 h3 h4 h5 ih =>
  refine⟨_,fun y hy=>?_⟩;have hy':y∈leads H i:=hy;unfold leads at hy';rw[h3] at hy';simp only[if_true] at hy';rw[if_neg (by omega),List.mem_singleton] at hy';have:y=j:=by omega
  rw[this];exact ih
 | @fn i n l h1 h2 h3 h4 h5 ih =>
  refine⟨_,fun y hy=>?_⟩;have hy':y∈leads H i:=hy;unfold leads at hy';rw[h3] at hy';simp only at hy';rw[if_neg (by omega),List.mem_map] at hy';obtain⟨k,hk,rfl⟩:=hy';rw[List.mem_range] at hk;exact ih k (by omega)
theorem Rv.cell{O:Nat→Prop}{H:List HC}{Ho:Nat→Prop}{S:Int→Nat}(hO:∀i,O i→cD H i=0){i:Nat}{t:Tm}(h:Rv O H Ho S i t)(ht:kX t):cD H i=0:=by
 cases h with
 | var h1 h2 h3 h4 h5 =>
  rcases h5 with h5|h5
  ·exact hO _ h5
  ·unfold cD
   rw[h5];simp only[if_true];rw[if_neg (by omega),if_neg (fun h=>h rfl)]
 | ref h1 h2 h3 h4 h5 =>
  have:=h5.lt;unfold cD;rw[h3];simp only[if_true];rw[if_neg (by omega),if_neg (fun h=>h rfl)]
 | @fn _ n l h1 h2 h3 h4 h5 =>
  obtain⟨a,b,c⟩:=ht _ (Tm.self_mem _) rfl;simp only[Tm.name,Tm.args] at a b c;unfold cD gJ;rw[h3];simp only;have hlt:(i:Int)+(l.length:Int)<(H.length:Int):=by
   cases hl:l.length with
   | zero=>simp;exact h1
   | succ k =>
    have:=(h5 k (by omega)).lt;omega
  have h6:¬(¬(dO n=true)∨(l.length:Int)<0∨4<(l.length:Int)∨(n.toList = [33]∧0<(l.length:Int))):=by
   rintro (h|h|h|h)
   ·exact h a
   ·omega
   ·omega
   ·exact c ⟨h.1,by omega⟩
  rw[if_neg (by omega),if_pos trivial,if_neg h6,if_neg (by omega),if_pos];intro j hj;exact h4 j (by omega)
theorem aZ2{H:List HC}(h:dZ H){t:Tm}(hn:kX t){V V':CV}{S:Int→Nat}{H':List HC}{c:Nat}(hp:bB6 (fun i=>i<H.length) H V (fun _=>False) S t H' V' c):dK H'∧eW H':=by
 have hc0:∀i,i<H.length→cD H' i=0∧leads H' i=leads H i:=fun i e=>aW9 hp.len hp.old e (h.cells i e)
 have hacc:∀i,i<H.length→Acc (iQ (leads H')) i:=by
  have:∀u,Acc (iQ (leads H)) u→u<H.length→Acc (iQ (leads H')) u:=by
   intro u hu
   induction hu with
   | intro u _ ih =>
    intro hul;refine⟨u,fun y hy=>?_⟩;have hy':y∈leads H u:=by have h2:y∈leads H' u:=hy;rwa [(hc0 u hul).2] at h2
    exact ih y hy' (iF h.cells u hul y hy')
  exact fun i e=>this i (h.straight i e) e
 refine⟨fun i hi=>?_,fun i hi=>?_⟩
 ·by_cases e:i<H.length
  ·exact(hc0 i e).1
  ·obtain⟨u,hu,hr⟩:=hp.new i (by omega) hi
   exact hr.cell (fun j hj=>(hc0 j hj).1) (hn.part hu)
 ·by_cases e:i<H.length
  ·exact hacc i e
  ·obtain⟨u,hu,hr⟩:=hp.new i (by omega) hi
   exact hr.acc hacc
theorem aZ3{H H':List HC}(hC:dK H)(ho:∀i,i<H.length→hc H' i=hc H i):∀(m i j:Nat),i<H.length→iU H m i j→iU H' m i j:=by
 intro m
 induction m with
 | zero =>
  rintro i j hi ⟨rfl,hr⟩;exact⟨rfl,fun h=>hr ⟨by rw[←ho i hi];exact h.1,by rw[←ho i hi];exact h.2⟩⟩
 | succ m ih =>
  rintro i j hi ⟨hr,he⟩;have hj:(hc H i).n.toNat<H.length:=iF hC i hi _ (by unfold leads;rw[if_pos hr.1,if_neg hr.2];exact List.mem_singleton.2 rfl);exact⟨⟨by rw[ho i hi];exact hr.1,by rw[ho i hi];exact hr.2⟩,by rw[ho i hi];exact ih _ _ hj he⟩
theorem qG{H H':List HC}(h:dZ H)(ho:∀i,i<H.length→hc H' i=hc H i){i:Nat}(hi:i<H.length):aG H' i=aG H i:=by
 obtain⟨m,hm⟩:=fI (h.straight i hi);exact pV (aZ3 h.cells ho m i _ hi hm)
theorem aZ4{H:List HC}{i j:Nat}(hj:Acc (iQ (leads H)) j)(h:hc H i=⟨1,(j:Int),⟨#[]⟩⟩)(hne:j≠i):aG H i=aG H j:=by
 obtain⟨m,hm⟩:=fI hj;refine pV (m:=m+1) ⟨⟨by rw[h],by rw[h];simp only;omega⟩,?_⟩;rw[h];simpa using hm
theorem St.old{H H':List HC}(h:dZ H)(hl:H.length≤H'.length)(ho:∀i,i<H.length→hc H' i=hc H i){D D':Int→Prop}{S S':Int→Nat}(hD:∀v,D v→D' v∧S' v=S v∧S v<H.length){c:Nat}{t:Tm}(hs:St H D S c t):St H' D' S' c t:=by
 induction hs with
 | @var c v h1 h2 h3 =>
  obtain⟨a,b,d⟩:=hD v h1;exact .var a (by omega) (by rw[b,qG h ho h2,qG h ho d];exact h3)
 | @fn c n l h1 h2 h3 h4 h5 ih =>
  have he:=qG h ho h1;have hlt:=(h.end h1).1;exact .fn (by omega) (by rw[he,ho _ hlt];exact h2) (by rw[he,ho _ hlt];exact h3) (by rw[he,ho _ hlt];exact h4) (fun i hi=>by rw[he];exact ih i hi)
theorem Rv.st{O:Nat→Prop}{H:List HC}{Ho:Nat→Prop}{S:Int→Nat}{D:Int→Prop}{Sc:Int→Nat}{k:Int}(hA:∀i,i<H.length→Acc (iQ (leads H)) i){i:Nat}{t:Tm}(h:Rv O H Ho S i t)
 (hk:∀p,p∈t.parts→p.var≠0→p.var+k≠0∧D (p.var+k)∧Sc (p.var+k)=S p.var):St H D Sc i (far k t):=by
 induction h with
 | @var i v h1 h2 h3 h4 h5 =>
  obtain⟨a,b,c⟩:=hk _ (Tm.self_mem _) h3;have e:far k (aQ v)=aQ (v+k):=by unfold far;rw[Tm.mapv_var (t:=aQ v) h3];rfl
  rw[e];exact .var b h1 (by rw[show Sc (v+k)=S v from c,h4])
 | @ref i j t h1 h2 h3 h4 h5 ih=>exact(ih hk).at' (aZ4 (hA j h5.lt) h3 h4) h1
 | @fn i n l h1 h2 h3 h4 h5 ih =>
  have e:far k (.mk 0 n l)=.mk 0 n (l.map (far k)):=by unfold far;rw[Tm.mapv_fn (t:=.mk 0 n l) rfl];rfl
  have hend:aG H i=i:=rC fun hr=>by have:=hr.1;rw[h3] at this;cases this
  rw[e];refine .fn h1 (by rw[hend,h3];show (2:Int)≠1;decide) (by rw[hend,h3]) (by rw[hend,h3,List.length_map]) fun q hq=>?_
  rw[List.length_map] at hq;rw[hend,List.getElem_map];exact ih q hq fun p hp hv=>hk p (Tm.parts_arg (t:=.mk 0 n l) (List.getElem_mem hq) hp) hv
section
variable {H:List HC} {σ:Sub} {D:Int→Prop} {S:Int→Nat}
theorem xW{v:Int}{u:Tm}(hv:D v)(h1:1≤v)(hu:u.var≠0→D u.var){L:List Int}{f:Nat}{σ':Sub}{L':List Int}{f':Nat}{m:List (Tm×Tm)}(he:cB σ L v u f=.go σ' L' f' m):∀w,σ w=none→σ' w≠none→D w:=by
 unfold cB at he;split at he
 ·cases he
 ·cases he
 ·cases he
  intro w h0 h2;have hk:D (fN v u).1:=by
   unfold fN;by_cases hlt:v<u.var
   ·rw[if_pos hlt];exact hu (by omega)
   ·rw[if_neg hlt];exact hv
  by_cases e:w=(fN v u).1
  ·rw[e];exact hk
  ·exfalso
   apply h2;unfold upd;rw[if_neg e];exact h0
theorem aS2(h:fL H σ D S){c d:Nat}{s t:Tm}(hs:St H D S c s)(ht:St H D S d t){L:List Int}{f:Nat}{σ':Sub}{L':List Int}{f':Nat}{m:List (Tm×Tm)}(he:aW σ L f (Go.Proofs.Ytikmgiapjigghab.look σ s) (Go.Proofs.Ytikmgiapjigghab.look σ t)=.go σ' L' f' m) :
 ∀w,σ w=none→σ' w≠none→D w:=by
 have d1:(Go.Proofs.Ytikmgiapjigghab.look σ s).var≠0→D (Go.Proofs.Ytikmgiapjigghab.look σ s).var:=fun e=>((h.look hs).2.2.2.2.1 e).2.1
 have d2:(Go.Proofs.Ytikmgiapjigghab.look σ t).var≠0→D (Go.Proofs.Ytikmgiapjigghab.look σ t).var:=fun e=>((h.look ht).2.2.2.2.1 e).2.1
 unfold aW at he;split at he
 ·cases he;exact fun w h0 h1=>absurd h0 h1
 ·split at he
  ·rename_i h2
   exact xW (d1 h2) (h.pos _ (d1 h2)) d2 he
  ·split at he
   ·rename_i h3
    exact xW (d2 h3) (h.pos _ (d2 h3)) d1 he
   ·split at he
    ·cases he
    ·cases he;exact fun w h0 h1=>absurd h0 h1
end
def bQ8(σ:Sub)(D:Int→Prop):aI0→Prop
 | .ok σ' _ _=>∀w,σ w=none→σ' w≠none→D w
 | _=>True
theorem xX{D:Int→Prop}{S:Int→Nat}:∀(f:Nat) (H:List HC) (σ:Sub) (L:List Int) (ps:List ((Nat×Tm)×(Nat×Tm))),fL H σ D S→(∀p,p∈ps→St H D S p.1.1 p.1.2∧St H D S p.2.1 p.2.2) →
 bQ8 σ D (meet σ L f (ps.map fun p=>(p.1.2,p.2.2))):=by
 intro f
 induction f using Nat.strongRecOn with
 | _ f ih =>
 intro H σ L ps h hp;cases ps with
 | nil=>rw[List.map_nil,jM];exact fun w h0 h1=>absurd h0 h1
 | cons p r =>
  rw[List.map_cons];cases f with
  | zero=>rw[kH];exact trivial
  | succ f =>
   obtain⟨p1,p2⟩:=hp p List.mem_cons_self;have hs:=oD h p1 p2 f [] L;cases e2:aW σ L f (look σ p.1.2) (look σ p.2.2) with
   | done o' =>
    rw[kI _ e2];cases e1:aU H [] f (aG H p.1.1) (aG H p.2.1) with
    | done o =>
     rw[e1,e2] at hs;have hg:=yT h.store (s:=p.1.2) (t:=p.2.2) L f;rw[e2] at hg;cases o' with
     | ok σ' L' f'=>exact hg.elim
     | no σ' L' f'=>exact trivial
     | many σ' L'=>exact trivial
    | go H' B' f' m=>rw[e1,e2] at hs;exact hs.elim
   | go σ' L' g n =>
    cases e1:aU H [] f (aG H p.1.1) (aG H p.2.1) with
    | done o=>rw[e1,e2] at hs;exact hs.elim
    | go H' B' f' m =>
     have hk:=aS2 h p1 p2 e2;rw[e1,e2] at hs;obtain⟨rfl,h',hl,hst,qs,rfl,rfl,hq⟩:=hs;rw[kC _ e2,←List.map_append];have:=ih f' (Nat.lt_succ_of_le (fE e1)) H' σ' L' (qs++r) h' fun q hq'=>by
      rcases List.mem_append.1 hq' with hq'|hq'
      ·exact hq q hq'
      ·obtain⟨a1,a2⟩:=hp q (List.mem_cons_of_mem _ hq')
       exact⟨hst _ _ a1,hst _ _ a2⟩
     generalize meet σ' L' f' ((qs++r).map fun p=>(p.1.2,p.2.2))=o at *;cases o with
     | ok σ2 L2 f2 =>
      intro w h0 h1;by_cases e:σ' w=none
      ·exact this w e h1
      ·exact hk w h0 e
     | no σ2 L2 f2=>exact trivial
     | many σ2 L2=>exact trivial
structure aL4(σ:Sub)(k:Int)(V:CV)(D:Int→Prop)(S:Int→Nat):Prop where
 old:∀v c,V v=some c→1≤v∧D (v+k)∧S (v+k)=c
 new:∀v,1≤v→V v=none→¬D (v+k)∧σ (v+k)=none
end Go.Proofs.Ytikmgiapjigghab
