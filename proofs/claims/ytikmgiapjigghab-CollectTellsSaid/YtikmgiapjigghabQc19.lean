/- Walk: Unify. -/
import Derived.Deep.DeepCutAuto
import Derived.Deep.RegionHeld3
import Derived.Test.YtikmgiapjigghabQc03
import Derived.Test.YtikmgiapjigghabQc07
import Derived.Test.YtikmgiapjigghabQc08
import Derived.Test.YtikmgiapjigghabQc10
import Derived.Test.YtikmgiapjigghabQc11
import Derived.Test.YtikmgiapjigghabQc18
set_option maxRecDepth 100000
set_option maxHeartbeats 8000000
namespace Go.Proofs.Ytikmgiapjigghab
open Go.RowKit
theorem dA.more{wb wr wX w1 X2 w2:World}{ok:Nat→Prop}{L:List dS}{x x':Value}(h:dA wr wb.heap.size (OkN ok wb) x L)(hw:Below wb.heap.size wb wr)(hok:∀b,ok b→b<wb.heap.size)(hX:wr.heap.size≤wX.heap.size)
 (hb:Below wr.heap.size wr w1) {t:Tm} {a:Option Addr} {c:Nat} (hf:t.fits) (ht:Ts w1 (OkN ok wX) t.args a c) (hX2:Below w1.heap.size w1 X2)
 (ho:w2.ownsRow wb.heap.size 71 3 x' (L.length+1) (dX L++dX [(t,a,c)])) (hg:X2.grownBy w2 x.ownBlock) (hfr:cF X2 x x') :
 dA w2 wb.heap.size (OkN ok wb) x' (L++[(t,a,c)])∧Below wb.heap.size wb w2:=by
 have hxb:∀g,x.ownBlock=some g→wb.heap.size≤g∧g<wr.heap.size:=fun g hg=>h.block hg
 have hW:Below wr.heap.size wr X2:=hb.trans (hX2.mono hb.size);have hE:bW X2 (nB x (OkN ok wb)) [(t,a,c)]:=by
  refine bW.one hf ((ht.keep (aD.below hX2 _)).mono fun b _ hk=>?_);rcases hk with hk|hk
  ·exact⟨.inl hk,fun e=>by have:=(hxb b e).1;have:=hok b hk;omega⟩
  ·exact⟨.inr (by have:=hw.size;omega),fun e=>by have:=(hxb b e).2;omega⟩
 have h2:dA w2 wb.heap.size (OkN ok wb) x' (L++[(t,a,c)]):=(h.below hW).append hE (by simpa using ho) hg hfr;refine⟨h2,?_⟩;have hT:aA (fun b=>x.ownBlock=some b) X2 w2:=aA.grown hg fun k e=>e
 exact(hw.trans (hW.mono hw.size)).trans (hT.toBelow (Nat.le_trans hw.size hW.size) fun b e=>(hxb b e).1)
theorem dA.form{w:World}{base:Nat}{ok:Nat→Prop}{L:List dS}{x:Value}(h:dA w base ok x L):∃a cap,x=.slice a L.length cap:=by
 rcases h.own.2 with ⟨h1,h2⟩|⟨g,cap,cur,h1,_⟩
 ·exact⟨none,0,by rw[h1,h2]⟩
 ·exact⟨_,_,h1⟩
theorem dA.ret{w wb wr:World}{ok:Nat→Prop}{L:List dS}{x:Value}(h:dA wr wb.heap.size (OkN ok wb) x L)(hw:w.heap.size≤wb.heap.size):∃a cap,x=.slice a (L.map (·.1)).length cap∧Ts wr (OkN ok w) (L.map (·.1)) a cap:=by
 have h1:bW wr (OkN ok w) L:=h.each.mono fun b _ hk=>by
  rcases hk.1 with h3|h3
  ·exact .inl h3
  ·exact .inr (by omega)
 have ho:wr.ownsRow w.heap.size 71 3 x L.length (dX L):=by
  refine⟨h.own.1,h.own.2.imp id ?_⟩;rintro ⟨g,cap,cur,a1,a2,a3⟩;exact⟨g,cap,cur,a1,Nat.le_trans hw a2,a3⟩
 exact Ts.of_row ho (fun b hb=>.inr hb) h1
theorem gF.none:gF (fun _=>Option.none):=Sim.start.inv
theorem Tm.partss_of{l:List Tm}{p:Tm}(h:p∈Tm.partss l):∃t,t∈l∧p∈t.parts:=by
 induction l with
 | nil=>cases h
 | cons t l ih =>
  rw[Tm.partss,List.mem_append] at h;rcases h with h|h
  ·exact⟨t,List.mem_cons_self,h⟩
  ·obtain⟨u,hu,hp⟩:=ih h
   exact⟨u,List.mem_cons_of_mem _ hu,hp⟩
structure fH(w:World)(b:Nat)(l:List Int):Prop where
 blk:w.heap[b]? = some (.cells (l.map fun v=>Value.int .i64 v).toArray 3 (0,0))
theorem fH.get{w:World}{b:Nat}{l:List Int}(h:fH w b l)(i:Nat)(hi:i<l.length):w.cell? ⟨b,i,none⟩=some (.int .i64 l[i]):=by
 simp[World.cell?,h.blk,hi]
theorem fH.fz{w:World}{b:Nat}{l:List Int}(h:fH w b l)(o:Nat):w.frozen? ⟨b,o,none⟩=false:=by simp[World.frozen?,h.blk]
theorem fH.lt{w:World}{b:Nat}{l:List Int}(h:fH w b l):b<w.heap.size:=(gS h.blk).1
theorem fH.keep{w w':World}{b:Nat}{l:List Int}(h:fH w b l)(hb:w'.heap[b]? = w.heap[b]?):fH w' b l:=⟨hb.trans h.blk⟩
theorem fH.below{w w':World}{b:Nat}{l:List Int}(h:fH w b l)(hb:Below w.heap.size w w'):fH w' b l:=h.keep (hb.block b h.lt)
theorem fH.set{w:World}{b:Nat}{l:List Int}(h:fH w b l)(i:Nat)(v:Int):fH (w.setCell ⟨b,i,none⟩ (.int .i64 v)) b (l.set i v):=by
 refine⟨?_⟩;rw[aB _ _ _ _ h.blk,List.map_set];simp
theorem aT6{s:List Int}{v x:Int}:x∈nA s v↔x∈s∨x=v:=by
 unfold nA;by_cases h:v∈s
 ·rw[if_pos h];exact⟨.inl,fun e=>e.elim id fun e=>e ▸ h⟩
 ·rw[if_neg h,List.mem_append,List.mem_singleton]
theorem aT7{P:Int→Prop}{g:Int→Int}(hg:∀v w,P v→P w→g v=g w→v=w){v:Int}(hv:P v):∀s:List Int,(∀x,x∈s→P x)→(s.map g).idxOf (g v)=s.idxOf v:=by
 intro s
 induction s with
 | nil=>intro _;rfl
 | cons a s ih =>
  intro hs;have ha:=hs a List.mem_cons_self;have hr:=ih fun x hx=>hs x (List.mem_cons_of_mem _ hx)
  rw[List.map_cons,List.idxOf_cons,List.idxOf_cons,hr];by_cases e:a=v
  ·subst e;simp
  ·have e2:¬g a=g v:=fun e2=>e (hg a v ha hv e2)
   rw[show (g a == g v)=false by simpa using e2,show (a == v)=false by simpa using e]
theorem aP6{P:Int→Prop}{g:Int→Int}(hg:∀v w,P v→P w→g v=g w→v=w){v:Int}(hv:P v){s:List Int}(hs:∀x,x∈s→P x):g v∈s.map g↔v∈s:=by
 rw[List.mem_map];exact⟨fun ⟨a,ha,e⟩=>by rw[←hg a v (hs a ha) hv e];exact ha,fun h=>⟨v,h,rfl⟩⟩
theorem bD0{P:Int→Prop}{g:Int→Int}(hg:∀v w,P v→P w→g v=g w→v=w){v:Int}(hv:P v){s:List Int}(hs:∀x,x∈s→P x) :
 cN (s.map g) (g v)=((cN s v).1,(cN s v).2.map g)∧∀x,x∈(cN s v).2→P x:=by
 have ha:nA (s.map g) (g v)=(nA s v).map g:=by
  unfold nA;by_cases e:v∈s
  ·rw[if_pos e,if_pos ((aP6 hg hv hs).2 e)]
  ·rw[if_neg e,if_neg (fun h=>e ((aP6 hg hv hs).1 h)),List.map_append];rfl
 have hp:∀x,x∈nA s v→P x:=fun x hx=>by
  rcases aT6.1 hx with h|h
  ·exact hs x h
  ·exact h ▸ hv
 refine⟨?_,hp⟩;simp only[cN];rw[ha,aT7 hg hv _ hp]
theorem bH5{P:Int→Prop}{g:Int→Int}(hg:∀v w,P v→P w→g v=g w→v=w)(hz:∀v,P v→g v≠0)(t:Tm):∀s:List Int,WfT t→(∀p,p∈t.parts→p.var≠0→P p.var)→(∀x,x∈s→P x) →
 Tm.ren cN (s.map g) (t.mapv g)=((Tm.ren cN s t).1,(Tm.ren cN s t).2.map g)∧∀x,x∈(Tm.ren cN s t).2→P x:=by
 induction t using Tm.ind with
 | h v n l ih =>
  intro s hw hp hs;by_cases hv:v=0
  ·subst hv
   rw[Tm.mapv_fn (t:=.mk 0 n l) rfl];have hl:∀(r:List Tm) (s:List Int),(∀x,x∈r→x∈l)→(∀x,x∈s→P x)→Tm.rens cN (s.map g) (r.map (Tm.mapv g))=((Tm.rens cN s r).1,(Tm.rens cN s r).2.map g)∧∀x,x∈(Tm.rens cN s r).2→P x:=by
    intro r
    induction r with
    | nil=>intro s _ hs;exact⟨rfl,hs⟩
    | cons x r ihr =>
     intro s hr hs;have hx:=hr x List.mem_cons_self;obtain⟨h1,h2⟩:=ih x hx s (hw.arg (t:=.mk 0 n l) hx) (fun p hpp=>hp p (Tm.parts_arg (t:=.mk 0 n l) hx hpp)) hs;obtain⟨h3,h4⟩:=ihr (Tm.ren cN s x).2 (fun y hy=>hr y (List.mem_cons_of_mem _ hy)) h2;simp only[List.map_cons,Tm.rens,h1,h3];exact⟨trivial,h4⟩
   obtain⟨h1,h2⟩:=hl l s (fun _ h=>h) hs;simp only[Tm.name,Tm.args,Tm.ren];rw[if_neg (fun h=>h rfl),if_neg (fun h=>h rfl),h1];exact⟨rfl,h2⟩
  ·have hP:P v:=hp _ (Tm.self_mem _) hv
   rw[Tm.mapv_var (t:=.mk v n l) hv];obtain⟨h1,h2⟩:=bD0 hg hP hs;have e1:Tm.ren cN (s.map g) (aQ (g v))=(.mk (cN (s.map g) (g v)).1 ⟨#[]⟩ [],(cN (s.map g) (g v)).2):=by simp only[Tm.ren];rw[if_pos (hz v hP)]
   have e2:Tm.ren cN s (.mk v n l)=(.mk (cN s v).1 ⟨#[]⟩ [],(cN s v).2):=by simp only[Tm.ren];rw[if_pos hv]
   show Tm.ren cN (s.map g) (aQ (g v))=_∧_;rw[e1,e2,h1];exact⟨rfl,h2⟩
section
variable {q:Int→Int} {n:Nat} {τ ρ:Sub}
end
abbrev eD:=Tm×Nat
structure PCh where
 gs:List eD
 cl:Nat
 σ:Sub
 L:List Int
structure PS where
 σ:Sub
 L:List Int
 f:Nat
 vars:Nat
 ch:List PCh
 now:List eD
 ans:List (List Tm)
 fin:Nat
 steps:Nat
def fG(c:Cl)(t:Tm):Prop:=c.head.name=t.name∧c.head.args.length=t.args.length
noncomputable instance (c:Cl) (t:Tm):Decidable (fG c t):=Classical.propDecidable _
noncomputable def bE(p:List Cl)(t:Tm)(i:Nat):Nat :=
 if h:i<p.length then (if fG p[i] t then i else bE p t (i+1)) else i
termination_by p.length-i
theorem gX{p:List Cl}{t:Tm}{i:Nat}(h:¬i<p.length):bE p t i=i:=by unfold bE;rw[dif_neg h]
theorem iY{p:List Cl}{t:Tm}{i:Nat}(h:i<p.length)(hf:fG p[i] t):bE p t i=i:=by unfold bE;rw[dif_pos h,if_pos hf]
theorem iZ{p:List Cl}{t:Tm}{i:Nat}(h:i<p.length)(hf:¬fG p[i] t):bE p t i=bE p t (i+1):=by conv=>lhs;unfold bE;rw[dif_pos h,if_neg hf]
theorem vV(p:List Cl)(t:Tm):∀(m i:Nat),p.length-i=m→i≤bE p t i∧(i≤p.length→bE p t i≤p.length):=by
 intro m
 induction m with
 | zero=>intro i h;rw[gX (by omega)];omega
 | succ m ih =>
  intro i h;have hi:i<p.length:=by omega
  by_cases hf:fG p[i] t
  ·rw[iY hi hf];omega
  ·rw[iZ hi hf]
   have:=ih (i+1) (by omega);omega
theorem aI4(p:List Cl)(t:Tm):∀(m i:Nat),p.length-i=m→(h:bE p t i<p.length)→fG p[bE p t i] t:=by
 intro m
 induction m with
 | zero=>intro i h h2;rw[gX (by omega)] at h2;omega
 | succ m ih =>
  intro i h h2;have hi:i<p.length:=by omega
  by_cases hf:fG p[i] t
  ·simp only[iY hi hf];exact hf
  ·simp only[iZ hi hf] at h2 ⊢;exact ih (i+1) (by omega) h2
def far(k:Int)(t:Tm):Tm:=t.mapv fun v=>v+k
def qU(k:Int)(cut:Nat)(l:List Tm):List eD:=l.map fun b=>(far k b,cut)
noncomputable def cO(p:List Cl)(gs:List eD)(t:Tm)(c:Cl)(i:Nat)(S:PS):PS×Option Bool :=
 match meet S.σ S.L S.f [(far S.vars c.head,t)] with
 | .ok σ L f=>({S with σ:=σ,L:=L,f:=f,vars:=S.vars+12,ch:=if bE p t (i+1)<p.length then S.ch++[⟨gs,bE p t (i+1),S.σ,S.L⟩] else S.ch,now:=qU S.vars S.ch.length c.body++gs.tail},some true)
 | .no _ _ f=>({S with f:=f,vars:=S.vars+12},none)
 | .many _ _=>({S with f:=0,vars:=S.vars+12,fin:=3},some true)
noncomputable def dY(p:List Cl)(gs:List eD)(t:Tm)(i:Nat)(S:PS):PS×Bool :=
 if h:i<p.length then
  if fG p[i] t then
   match cO p gs t p[i] i S with
   | (S',some b)=>(S',b)
   | (S',none)=>dY p gs t (i+1) S'
  else dY p gs t (i+1) S
 else (S,false)
termination_by p.length-i
theorem pJ{p:List Cl}{gs:List eD}{t:Tm}{i:Nat}{S:PS}(h:¬i<p.length):dY p gs t i S=(S,false):=by unfold dY;rw[dif_neg h]
theorem pK{p:List Cl}{gs:List eD}{t:Tm}{i:Nat}{S:PS}(h:i<p.length)(hf:¬fG p[i] t):dY p gs t i S=dY p gs t (i+1) S:=by conv=>lhs;unfold dY;rw[dif_pos h,if_neg hf]
theorem gY{p:List Cl}{gs:List eD}{t:Tm}{i:Nat}{S S':PS}{b:Bool}(h:i<p.length)(hf:fG p[i] t)(hc:cO p gs t p[i] i S=(S',some b)):dY p gs t i S=(S',b):=by
 conv=>lhs;unfold dY;rw[dif_pos h,if_pos hf,hc]
theorem vW{p:List Cl}{gs:List eD}{t:Tm}{i:Nat}{S S':PS}(h:i<p.length)(hf:fG p[i] t)(hc:cO p gs t p[i] i S=(S',none)):dY p gs t i S=dY p gs t (i+1) S':=by
 conv=>lhs;unfold dY;rw[dif_pos h,if_pos hf,hc]
def iM(gs:List eD):Tm:=(gs.head?.map (·.1)).getD default
noncomputable def fZ(p:List Cl):Nat→PS→PS
 | 0,S=>{S with fin:=1}
 | n+1,S =>
  match S.ch[n]? with
  | none=>S
  | some c =>
   let r:=dY p c.gs (look c.σ (iM c.gs)) c.cl {S with ch:=S.ch.take n,σ:=c.σ,L:=c.L,f:=4000}
   if r.2=true then r.1 else fZ p n r.1
noncomputable def lD(p:List Cl)(S:PS):PS :=
 let S1:PS:={S with steps:=S.steps+1,f:=4000}
 let t:=look S.σ (iM S.now)
 if t.var≠0 then {S1 with fin:=4}
 else if cG t.name t.args.length=false then
  let r:=dY p S.now t 0 S1
  if r.2=true then r.1 else fZ p r.1.ch.length r.1
 else if t.name=⟨#[33]⟩ then {S1 with ch:=S.ch.take ((S.now.head?.map (·.2)).getD 0),now:=S.now.tail}
 else if t.name=⟨#[116,114,117,101]⟩ then {S1 with now:=S.now.tail}
 else if t.name=⟨#[102,97,105,108]⟩ then fZ p S.ch.length S1
 else match meet S.σ S.L 4000 [(t.args.getD 0 default,t.args.getD 1 default)] with
  | .ok σ L f=>{S1 with σ:=σ,L:=L,f:=f,now:=S.now.tail}
  | .no _ _ f=>fZ p S.ch.length {S1 with f:=f,now:=S.now.tail}
  | .many _ _=>{S1 with f:=0,fin:=3,now:=S.now.tail}
def dB(n:Nat):List Tm:=(List.range n).map fun i:Nat=>aQ ((i:Int)+1)
noncomputable def gA(p:List Cl)(query:Nat)(S:PS):PS :=
 match gG S.σ 200 (dB query) with
 | none=>{S with fin:=3}
 | some x =>
  if S.ans.length+1=40 then {S with ans:=S.ans++[(Tm.rens cN [] x.1).1],fin:=1}
  else fZ p S.ch.length {S with ans:=S.ans++[(Tm.rens cN [] x.1).1]}
noncomputable def gI(p:List Cl)(query:Nat)(most:Int)(S:PS):PS :=
 if S.now = [] then gA p query S else if (S.steps:Int)=most then {S with fin:=2} else lD p S
theorem Fit.mono{n m:Nat}{t:Tm}(h:Fit n t)(hm:n≤m):Fit m t:=⟨h.wf,fun p hp=>⟨nT (h.bd p hp).1 hm,(h.bd p hp).2⟩⟩
theorem jA:∀(l:List Tm) (p:Tm),p∈Tm.partss l→∃x,x∈l∧p∈x.parts:=by
 intro l
 induction l with
 | nil=>intro p h;simp[Tm.partss] at h
 | cons a r ih =>
  intro p h;rw[Tm.partss,List.mem_append] at h;rcases h with h|h
  ·exact⟨a,List.mem_cons_self,h⟩
  ·obtain⟨x,h1,h2⟩:=ih p h
   exact⟨x,List.mem_cons_of_mem _ h1,h2⟩
theorem Fit.map{n m:Nat}{f:Int→Int}(t:Tm):Fit n t→(∀v:Int,1≤v→v.toNat<n→1≤f v∧(f v).toNat<m)→0<m→Fit m (t.mapv f):=by
 induction t using Tm.ind with
 | h v nm l ih =>
  intro hf hS hm;by_cases hv:v=0
  ·subst hv
   rw[Tm.mapv_fn (t:=.mk 0 nm l) rfl];simp only[Tm.name,Tm.args];have ha:∀x,x∈l→Fit m (x.mapv f):=fun x hx=>ih x hx (hf.arg (t:=.mk 0 nm l) hx) hS hm
   refine⟨fun p hp=>?_,fun p hp=>?_⟩
   ·rw[Tm.parts] at hp
    rcases List.mem_cons.1 hp with rfl|hp
    ·exact⟨Int.le_refl _,fun e=>absurd rfl e⟩
    ·obtain⟨y,hy,hp⟩:=jA _ _ hp
     obtain⟨x,hx,rfl⟩:=List.mem_map.1 hy;exact(ha x hx).wf p hp
   ·rw[Tm.parts] at hp
    rcases List.mem_cons.1 hp with rfl|hp
    ·have:=hf.len
     simp only[Tm.var,Tm.args] at this ⊢;rw[List.length_map];exact⟨hm,this⟩
    ·obtain⟨y,hy,hp⟩:=jA _ _ hp
     obtain⟨x,hx,rfl⟩:=List.mem_map.1 hy;exact(ha x hx).bd p hp
  ·rw[Tm.mapv_var (t:=.mk v nm l) hv]
   have h1:=hf.pos;simp only[Tm.var] at h1 ⊢;have h2:=hS v (by omega) h1.2;exact aA9 (by omega) h2.2
theorem yS{n:Nat}{t:Tm}(h:Fit n t){p:Tm}(hp:p∈t.parts)(hv:p.var≠0):1≤p.var∧p.var.toNat<n:=by
 have h1:=(h.wf p hp).1;have h2:=(h.bd p hp).1;exact⟨by omega,h2⟩
theorem bE0{n:Nat}{t:Tm}(h:Fit 13 t):Fit (n+13) (far (n:Int) t):=Fit.map t h (fun v h1 h2=>by omega) (by omega)
def POk(p:List Cl):Prop:=∀c,c∈p→Fit 13 c.head∧∀b,b∈c.body→Fit 13 b
theorem aU4{p:List Cl}{s t:Tm}(hn:s.name=t.name)(hl:s.args.length=t.args.length):∀(m i:Nat),p.length-i=m→bE p s i=bE p t i:=by
 intro m
 induction m with
 | zero=>intro i h;rw[gX (by omega),gX (by omega)]
 | succ m ih =>
  intro i h;have hi:i<p.length:=by omega
  by_cases hf:fG p[i] t
  ·rw[iY hi hf,iY hi (by unfold fG at *;rw[hn,hl];exact hf)]
  ·rw[iZ hi hf,iZ hi (by unfold fG at *;rw[hn,hl];exact hf),ih (i+1) (by omega)]
theorem bE1{p:List Cl}{gs:List eD}{s:Tm}:∀(m i:Nat) (S:PS),p.length-i=m→(dY p gs s i S).2=false→(dY p gs s i S).1.ch=S.ch:=by
 intro m
 induction m with
 | zero=>intro i S h _;rw[pJ (by omega)]
 | succ m ih =>
  intro i S h;have hi:i<p.length:=by omega
  by_cases hf:fG p[i] s
  ·cases hA:Go.Proofs.Ytikmgiapjigghab.meet S.σ S.L S.f [(far S.vars p[i].head,s)] with
   | ok σ' L' f' =>
    have hpc:cO p gs s p[i] i S=({S with σ:=σ',L:=L',f:=f',vars:=S.vars+12,ch:=if bE p s (i+1)<p.length then S.ch++[⟨gs,bE p s (i+1),S.σ,S.L⟩] else S.ch,now:=qU S.vars S.ch.length p[i].body++gs.tail},some true):=by unfold cO;rw[hA]
    rw[gY hi hf hpc];intro e;cases e
   | no σ' L' f' =>
    have hpc:cO p gs s p[i] i S=({S with f:=f',vars:=S.vars+12},none):=by unfold cO;rw[hA]
    rw[vW hi hf hpc];exact ih (i+1) _ (by omega)
   | many σ' L' =>
    have hpc:cO p gs s p[i] i S=({S with f:=0,vars:=S.vars+12,fin:=3},some true):=by unfold cO;rw[hA]
    rw[gY hi hf hpc];intro e;cases e
  ·rw[pK hi hf]
   exact ih (i+1) S (by omega)
theorem bE2{P:Int→Prop}{g:Int→Int}(hg:∀v w,P v→P w→g v=g w→v=w)(hz:∀v,P v→g v≠0)(l:List Tm)(hw:∀t,t∈l→WfT t)(hp:∀t,t∈l→∀p,p∈t.parts→p.var≠0→P p.var):(Tm.rens cN [] (l.map (Tm.mapv g))).1=(Tm.rens cN [] l).1:=by
 have h:=(bH5 hg hz (.mk 0 ⟨#[]⟩ l) [] (fun p hp'=>by
  rw[Tm.parts] at hp';rcases List.mem_cons.1 hp' with rfl|hp'
  ·exact⟨Int.le_refl _,fun e=>absurd rfl e⟩
  ·obtain⟨x,hx,hp'⟩:=jA _ _ hp'
   exact hw x hx p hp') (fun p hp' hv=>by
  rw[Tm.parts] at hp';rcases List.mem_cons.1 hp' with rfl|hp'
  ·exact absurd rfl hv
  ·obtain⟨x,hx,hp'⟩:=jA _ _ hp'
   exact hp x hx p hp' hv) (fun x hx=>nomatch hx)).1
 rw[Tm.mapv_fn (t:=.mk 0 ⟨#[]⟩ l) rfl] at h;simp only[Tm.name,Tm.args,Tm.ren,List.map_nil] at h;rw[if_neg (fun e=>e rfl),if_neg (fun e=>e rfl)] at h;have:=congrArg (fun x:Tm×List Int=>x.1.args) h;simpa[Tm.args] using this
def jN(σ:Sub)(L:List Int)(σ':Sub)(L':List Int):Prop :=
 ∃N:List Int,L'=L++N∧N.Nodup∧(∀x,x∈N→σ x=none∧σ' x≠none)∧∀x,x ∉ N→σ' x = σ x
theorem jN.refl(σ:Sub)(L:List Int):jN σ L σ L:=⟨[],by simp,List.nodup_nil,fun x hx=>(nomatch hx),fun _ _=>rfl⟩
theorem jN.trans{σ σ1 σ2:Sub}{L L1 L2:List Int}(h:jN σ L σ1 L1)(k:jN σ1 L1 σ2 L2):jN σ L σ2 L2:=by
 obtain⟨N,rfl,h1,h2,h3⟩:=h;obtain⟨M,rfl,k1,k2,k3⟩:=k;have hd:∀x,x∈N→x ∉ M:=fun x hx hy=>(h2 x hx).2 (k2 x hy).1
 refine⟨N++M,by simp,List.nodup_append.2 ⟨h1,k1,fun a ha b hb e=>hd a ha (e ▸ hb)⟩,fun x hx=>?_,fun x hx=>?_⟩
 ·rcases List.mem_append.1 hx with hx|hx
  ·exact⟨(h2 x hx).1,by rw[k3 x (hd x hx)];exact(h2 x hx).2⟩
  ·have:x ∉ N:=fun e=>hd x e hx
   exact⟨by rw[←h3 x this];exact(k2 x hx).1,(k2 x hx).2⟩
 ·rw[List.mem_append,not_or] at hx
  rw[k3 x hx.2,h3 x hx.1]
theorem jN.one{σ:Sub}{L:List Int}{k:Int}{u:Tm}(h:σ k=none):jN σ L (upd σ k u) (L++[k]) :=
 ⟨[k],rfl,by simp,fun x hx=>by rw[List.mem_singleton] at hx;subst hx;exact⟨h,by unfold upd;rw[if_pos rfl];simp⟩,fun x hx=>by
  rw[List.mem_singleton] at hx;unfold upd;rw[if_neg hx]⟩
def undo(σ:Sub)(L:List Int)(k:Nat):Sub:=fun v=>if v∈L.drop k then none else σ v
theorem jN.back{σ σ':Sub}{L L':List Int}(h:jN σ L σ' L'):undo σ' L' L.length = σ∧L'.take L.length=L∧L.length≤L'.length:=by
 obtain⟨N,rfl,h1,h2,h3⟩:=h;refine⟨?_,by simp,by simp⟩;funext x;unfold undo;rw[List.drop_left];by_cases hx:x∈N
 ·rw[if_pos hx,(h2 x hx).1]
 ·rw[if_neg hx,h3 x hx]
def lE(σ:Sub)(L:List Int):Prop:=L.Nodup∧∀x,x∈L→σ x≠none
theorem jN.ok{σ σ':Sub}{L L':List Int}(h:jN σ L σ' L')(k:lE σ L):lE σ' L':=by
 obtain⟨N,rfl,h1,h2,h3⟩:=h;refine⟨List.nodup_append.2 ⟨k.1,h1,fun a ha b hb e=>k.2 a ha (e ▸ (h2 b hb).1)⟩,fun x hx=>?_⟩;by_cases hn:x∈N
 ·exact(h2 x hn).2
 ·rw[h3 x hn];exact k.2 x ((List.mem_append.1 hx).resolve_right hn)
theorem yT{σ:Sub}(hi:gF σ){s t:Tm}(L:List Int)(f:Nat) :
 match aW σ L f (look σ s) (look σ t) with
 | .done (.ok _ _ _)=>False
 | .done (.no σ' L' f')=>σ' = σ∧L'=L∧f'≤f
 | .done (.many σ' L')=>σ' = σ∧L'=L
 | .go σ' L' f' _=>jN σ L σ' L'∧2*L'.length+f'≤2*L.length+f+1:=by
 have hb:∀(v:Int) (u:Tm),σ v=none→(u.var=0∨σ u.var=none)→match cB σ L v u f with
  | .done (.ok _ _ _)=>False
  | .done (.no σ' L' f')=>σ' = σ∧L'=L∧f'≤f
  | .done (.many σ' L')=>σ' = σ∧L'=L
  | .go σ' L' f' _=>jN σ L σ' L'∧2*L'.length+f'≤2*L.length+f+1:=fun v u hv hu=>by
  unfold cB;cases hw:within σ v f [u] with
  | yes g=>exact⟨rfl,rfl,(rW σ v f [u]).1 g hw⟩
  | many=>exact⟨rfl,rfl⟩
  | no g =>
   have hlt:=aT9 hw;refine⟨jN.one ?_,?_⟩
   ·unfold fN
    by_cases hlt2:v<u.var
    ·rw[if_pos hlt2]
     rcases hu with h0|h0
     ·show σ u.var=none
      rw[h0];cases e:σ 0 with
      | none=>rfl
      | some x=>have:=(hi.each _ _ e).1;omega
     ·exact h0
    ·rw[if_neg hlt2];exact hv
   ·rw[List.length_append,List.length_singleton];omega
 have hs1:=xQ hi.rank.ends s;have hs2:=xQ hi.rank.ends t;unfold aW;by_cases c1:(look σ s).var≠0∧(look σ s).var=(look σ t).var
 ·rw[if_pos c1];exact⟨jN.refl _ _,by omega⟩
 ·rw[if_neg c1]
  by_cases c2:(look σ s).var≠0
  ·rw[if_pos c2];exact hb _ _ (hs1.resolve_left c2) hs2
  ·rw[if_neg c2]
   by_cases c3:(look σ t).var≠0
   ·rw[if_pos c3];exact hb _ _ (hs2.resolve_left c3) hs1
   ·rw[if_neg c3]
    by_cases c4:(look σ s).name≠(look σ t).name∨(look σ s).args.length≠(look σ t).args.length
    ·rw[if_pos c4];exact⟨rfl,rfl,nR _⟩
    ·rw[if_neg c4];exact⟨jN.refl _ _,by omega⟩
def bI2(σ:Sub)(L:List Int)(f:Nat):aI0→Prop
 | .ok σ' L' f'=>jN σ L σ' L'∧2*L'.length+f'≤2*L.length+f
 | .no σ' L' f'=>jN σ L σ' L'∧2*L'.length+f'≤2*L.length+f
 | .many σ' L'=>jN σ L σ' L'∧2*L'.length≤2*L.length+f
theorem nQ:∀(f:Nat) (σ:Sub) (L:List Int) (ps:List (Tm×Tm)),gF σ→(∀p∈ps,WfT p.1∧WfT p.2)→bI2 σ L f (meet σ L f ps):=by
 intro f
 induction f using Nat.strongRecOn with
 | _ f ih =>
  intro σ L ps hi hp;cases ps with
  | nil=>rw[jM];exact⟨jN.refl _ _,nR _⟩
  | cons p r =>
   cases f with
   | zero=>rw[kH];exact⟨jN.refl _ _,by omega⟩
   | succ f =>
    obtain⟨w1,w2⟩:=hp p List.mem_cons_self;have hs:=yT hi (s:=p.1) (t:=p.2) L f;cases h1:aW σ L f (look σ p.1) (look σ p.2) with
    | done o =>
     rw[h1] at hs;rw[kI _ h1];cases o with
     | ok _ _ _=>exact hs.elim
     | no σ' L' f'=>obtain⟨rfl,rfl,h3⟩:=hs;exact⟨jN.refl _ _,by omega⟩
     | many σ' L'=>obtain⟨rfl,rfl⟩:=hs;exact⟨jN.refl _ _,by omega⟩
    | go σ1 L1 f1 m =>
     rw[h1] at hs;obtain⟨hg,hl⟩:=hs;rw[kC _ h1];obtain⟨i1,i2⟩:=kB hi w1 w2 h1;have:=ih f1 (Nat.lt_succ_of_le (jL h1)) σ1 L1 (m++r) i1 (fun q hq=>by
      rcases List.mem_append.1 hq with h5|h5
      ·exact i2 q h5
      ·exact hp q (List.mem_cons_of_mem _ h5))
     cases h2:meet σ1 L1 f1 (m++r) with
     | ok σ2 L2 f2=>rw[h2] at this;exact⟨hg.trans this.1,by have:=this.2;omega⟩
     | no σ2 L2 f2=>rw[h2] at this;exact⟨hg.trans this.1,by have:=this.2;omega⟩
     | many σ2 L2=>rw[h2] at this;exact⟨hg.trans this.1,by have:=this.2;omega⟩
theorem aM9{σ:Sub}{L:List Int}{f:Nat}{x y:Tm}{o:aI0}(h:aW σ L f x y=.done o):(∃g,o=.no σ L g)∨o=.many σ L:=by
 unfold aW cB at h;split at h
 ·cases h
 ·split at h
  ·split at h
   ·cases h;exact .inl ⟨_,rfl⟩
   ·cases h;exact .inr rfl
   ·cases h
  ·split at h
   ·split at h
    ·cases h;exact .inl ⟨_,rfl⟩
    ·cases h;exact .inr rfl
    ·cases h
   ·split at h
    ·cases h;exact .inl ⟨_,rfl⟩
    ·cases h
def rR(σ:Sub)(L:List Int)(σ0:Sub)(L0:List Int):Prop:=L0=L.take L0.length∧L0.length≤L.length∧undo σ L L0.length = σ0
theorem rR.refl(σ:Sub)(L:List Int):rR σ L σ L:=⟨by simp,nR _,by funext v;unfold undo;simp⟩
theorem yO(σ:Sub)(L:List Int){k m:Nat}(h:k≤m):undo (undo σ L m) (L.take m) k=undo σ L k:=by
 have key:∀v,v∈L.drop k↔v∈(L.take m).drop k∨v∈L.drop m:=fun v=>by
  have e:L.drop k=(L.take m).drop k++L.drop m:=by
   by_cases hm:m≤L.length
   ·conv=>lhs;rw[←List.take_append_drop m L,List.drop_append_of_le_length (by rw[List.length_take];omega)]
   ·rw[List.take_of_length_le (by omega),List.drop_eq_nil_of_le (by omega:L.length≤m),List.append_nil]
  rw[e,List.mem_append]
 funext v;unfold undo;by_cases h1:v∈(L.take m).drop k
 ·rw[if_pos h1,if_pos ((key v).2 (.inl h1))]
 ·rw[if_neg h1]
  by_cases h2:v∈L.drop m
  ·rw[if_pos h2,if_pos ((key v).2 (.inr h2))]
  ·rw[if_neg h2,if_neg (fun e=>((key v).1 e).elim h1 h2)]
theorem rR.inner{σ σ1 σ2:Sub}{L L1 L2:List Int}(h:rR σ L σ1 L1)(k:rR σ L σ2 L2)(hl:L2.length≤L1.length):rR σ1 L1 σ2 L2:=by
 obtain⟨h1,h2,rfl⟩:=h;obtain⟨k1,k2,rfl⟩:=k;refine⟨?_,hl,?_⟩
 ·conv=>rhs;rw[h1,List.take_take,Nat.min_eq_left hl]
  exact k1
 ·conv=>lhs;rw[h1]
  rw[List.length_take,Nat.min_eq_left h2,yO _ _ hl]
theorem jN.snap{σ σ' σ0:Sub}{L L' L0:List Int}(h:jN σ L σ' L')(k:rR σ L σ0 L0):rR σ' L' σ0 L0:=by
 obtain⟨hb,ht,hl⟩:=h.back;obtain⟨k1,k2,rfl⟩:=k;refine⟨?_,Nat.le_trans k2 hl,?_⟩
 ·conv=>lhs;rw[k1,←ht,List.take_take,Nat.min_eq_left k2]
 ·rw[←yO σ' L' k2,hb,ht]
theorem gF.undo{σ:Sub}(h:gF σ)(L:List Int)(k:Nat):gF (undo σ L k):=by
 obtain⟨⟨r,hr⟩,he⟩:=h;have key:∀v u,Go.Proofs.Ytikmgiapjigghab.undo σ L k v=some u→σ v=some u:=fun v u e=>by
  unfold Go.Proofs.Ytikmgiapjigghab.undo at e;split at e
  ·cases e
  ·exact e
 exact⟨⟨r,fun v u e=>hr v u (key v u e)⟩,fun v u e=>he v u (key v u e)⟩
theorem aU1{σ:Sub}{L:List Int}{k:Nat}{v:Int}{u:Tm}(e:undo σ L k v=some u):σ v=some u:=by
 unfold undo at e;split at e
 ·cases e
 ·exact e
theorem lE.undo{σ:Sub}{L:List Int}(h:lE σ L)(k:Nat):lE (undo σ L k) (L.take k):=by
 have hn:=h.1;rw[←List.take_append_drop k L] at hn;obtain⟨n1,n2,n3⟩:=List.nodup_append.1 hn;refine⟨n1,fun x hx=>?_⟩;unfold Go.Proofs.Ytikmgiapjigghab.undo;rw[if_neg (fun e=>n3 x hx x e rfl)];exact h.2 x (List.mem_of_mem_take hx)
structure qS(p:List Cl)(S:PS):Prop where
 sinv:gF S.σ
 dom:∀v u,S.σ v=some u→Fit (S.vars+1) u∧v.toNat<S.vars+1
 trail:lE S.σ S.L
 now:∀g,g∈S.now→Fit (S.vars+1) g.1
 snap:∀c,c∈S.ch→rR S.σ S.L c.σ c.L∧c.gs≠[]∧c.cl<p.length∧(∀g,g∈c.gs→Fit (S.vars+1) g.1)∧c.L.length+2000≤2000*S.steps
 mono:S.ch.Pairwise fun a b=>a.L.length≤b.L.length
 len:S.L.length≤2000*S.steps
 base:12≤S.vars
theorem yP:∀(f:Nat) (σ:Sub) (L:List Int) (ps:List (Tm×Tm)) (σ':Sub) (L':List Int) (f':Nat),gF σ→(∀p∈ps,WfT p.1∧WfT p.2)→meet σ L f ps=.ok σ' L' f'→gF σ':=by
 intro f
 induction f using Nat.strongRecOn with
 | _ f ih =>
  intro σ L ps σ' L' f' hi hp he;cases ps with
  | nil=>rw[jM] at he;cases he;exact hi
  | cons p r =>
   cases f with
   | zero=>rw[kH] at he;cases he
   | succ f =>
    obtain⟨w1,w2⟩:=hp p List.mem_cons_self;cases h1:aW σ L f (look σ p.1) (look σ p.2) with
    | done o =>
     rw[kI _ h1] at he;rcases aM9 h1 with ⟨g,rfl⟩|rfl <;> cases he
    | go σ1 L1 f1 m =>
     rw[kC _ h1] at he;obtain⟨i1,i2⟩:=kB hi w1 w2 h1;exact ih f1 (Nat.lt_succ_of_le (jL h1)) σ1 L1 (m++r) σ' L' f' i1 (fun q hq=>by
      rcases List.mem_append.1 hq with h5|h5
      ·exact i2 q h5
      ·exact hp q (List.mem_cons_of_mem _ h5)) he
structure wQ(p:List Cl)(gs:List eD)(t:Tm)(S:PS):Prop where
 sinv:gF S.σ
 dom:∀v u,S.σ v=some u→Fit (S.vars+1) u∧v.toNat<S.vars+1
 trail:lE S.σ S.L
 gs:gs≠[]∧∀g,g∈gs→Fit (S.vars+1) g.1
 t:Fit (S.vars+1) t
 snap:∀c,c∈S.ch→rR S.σ S.L c.σ c.L∧c.gs≠[]∧c.cl<p.length∧(∀g,g∈c.gs→Fit (S.vars+1) g.1)∧c.L.length+2000≤2000*S.steps
 mono:S.ch.Pairwise fun a b=>a.L.length≤b.L.length
 below:∀c,c∈S.ch→c.L.length≤S.L.length
 len:S.L.length+2000≤2000*S.steps
 f:S.f≤4000
 base:12≤S.vars
def lZ(m:Nat)(ch:List PCh):Nat:=(ch.map fun c=>m-c.cl).sum
theorem yQ(m:Nat)(ch:List PCh)(c:PCh):lZ m (ch++[c])=lZ m ch+(m-c.cl):=by simp[lZ]
theorem yR(m:Nat)(ch:List PCh)(k:Nat):lZ m (ch.take k)≤lZ m ch:=by
 induction ch generalizing k with
 | nil=>simp[lZ]
 | cons c r ih =>
  cases k with
  | zero=>simp[lZ]
  | succ k=>have:=ih k;simp only[lZ,List.take_succ_cons,List.map_cons,List.sum_cons] at this ⊢;omega
theorem wQ.more{p:List Cl}{gs:List eD}{t:Tm}{S:PS}(h:wQ p gs t S){f:Nat}(hf:f≤4000):wQ p gs t {S with f:=f,vars:=S.vars+12} :=
 ⟨h.sinv,fun v u e=>⟨(h.dom v u e).1.mono (by simp only;omega),by have:=(h.dom v u e).2;simp only;omega⟩,h.trail,⟨h.gs.1,fun g hg=>(h.gs.2 g hg).mono (by simp only;omega)⟩,h.t.mono (by simp only;omega),fun c hc=>by
  obtain⟨a,b,d,e,f⟩:=h.snap c hc;exact⟨a,b,d,fun g hg=>(e g hg).mono (by simp only;omega),f⟩,h.mono,h.below,h.len,hf,by have:=h.base;simp only;omega⟩
theorem vS{n:Nat}{t:Tm}(h:Fit 13 t):Fit (n+12+1) (far (n:Int) t):=bE0 h
theorem aU2{p:List Cl}{gs:List eD}{t:Tm}{S:PS}(h:wQ p gs t S){c:Cl}(hc:Fit 13 c.head∧∀b,b∈c.body→Fit 13 b)(i:Nat){σ:Sub}{L:List Int}{f:Nat}(hm:meet S.σ S.L S.f [(far S.vars c.head,t)]=.ok σ L f) :
 qS p {S with σ:=σ,L:=L,f:=f,vars:=S.vars+12,ch:=if bE p t (i+1)<p.length then S.ch++[⟨gs,bE p t (i+1),S.σ,S.L⟩] else S.ch,now:=qU S.vars S.ch.length c.body++gs.tail}:=by
 have hf1:=vS (n:=S.vars) hc.1;have hf2:Fit (S.vars+12+1) t:=h.t.mono (by omega);have hw:∀q∈[(far (S.vars:Int) c.head,t)],WfT q.1∧WfT q.2:=fun q hq=>by rw[List.mem_singleton] at hq;subst hq;exact⟨hf1.wf,hf2.wf⟩
 have hw2:∀q∈[(far (S.vars:Int) c.head,t)],Fit (S.vars+12+1) q.1∧Fit (S.vars+12+1) q.2:=fun q hq=>by rw[List.mem_singleton] at hq;subst hq;exact⟨hf1,hf2⟩
 have hd:∀v u,S.σ v=some u→Fit (S.vars+12+1) u:=fun v u e=>(h.dom v u e).1.mono (by omega)
 have hk:∀v u,S.σ v=some u→v.toNat<S.vars+12+1:=fun v u e=>by have:=(h.dom v u e).2;omega
 have hg:=nQ S.f S.σ S.L _ h.sinv hw;rw[hm] at hg;obtain⟨hg1,hg2⟩:=hg;have hsim:=yP S.f S.σ S.L _ σ L f h.sinv hw hm;have hdom:=aG4 S.f S.σ S.L _ σ L f h.sinv hd hw2 hm;have hkey:=yF S.f S.σ S.L _ σ L f h.sinv hd hk hw2 hm;have hlen:L.length≤S.L.length+2000:=by have:=h.f;omega
 refine⟨hsim,fun v u e=>⟨hdom v u e,hkey v u e⟩,hg1.ok h.trail,fun g hgm=>?_,fun c' hc'=>?_,?_,by have:=h.len;simp only;omega,by have:=h.base;simp only;omega⟩
 ·rcases List.mem_append.1 hgm with hgm|hgm
  ·unfold qU at hgm
   obtain⟨b,hb,rfl⟩:=List.mem_map.1 hgm;exact vS (hc.2 b hb)
  ·exact(h.gs.2 g (List.mem_of_mem_tail hgm)).mono (by simp only;omega)
 ·have hold:∀c',c'∈S.ch→rR σ L c'.σ c'.L∧c'.gs≠[]∧c'.cl<p.length∧(∀g,g∈c'.gs→Fit (S.vars+12+1) g.1)∧c'.L.length+2000≤2000*S.steps:=fun c' hc'=>by
   obtain⟨a,b,d,e,f⟩:=h.snap c' hc';exact⟨hg1.snap a,b,d,fun g hg=>(e g hg).mono (by omega),f⟩
  simp only at hc';split at hc'
  ·rename_i hlt
   rcases List.mem_append.1 hc' with hc'|hc'
   ·exact hold c' hc'
   ·rw[List.mem_singleton] at hc';subst hc'
    exact⟨hg1.snap (rR.refl _ _),h.gs.1,hlt,fun g hg=>(h.gs.2 g hg).mono (by simp only;omega),h.len⟩
  ·exact hold c' hc'
 ·simp only
  split
  ·refine List.pairwise_append.2 ⟨h.mono,by simp,fun a ha b hb=>?_⟩
   rw[List.mem_singleton] at hb;subst hb;exact h.below a ha
  ·exact h.mono
theorem aI2{p:List Cl}(hp:POk p){gs:List eD}{t:Tm}:∀(m i:Nat) (S:PS),p.length-i=m→i≤p.length→wQ p gs t S →
 (((dY p gs t i S).2=true∧(dY p gs t i S).1.fin=0→qS p (dY p gs t i S).1)∧((dY p gs t i S).2=false→wQ p gs t (dY p gs t i S).1)) ∧
 (dY p gs t i S).1.vars+12*lZ p.length (dY p gs t i S).1.ch≤S.vars+12*lZ p.length S.ch+12*(p.length-i)∧(dY p gs t i S).1.ans=S.ans∧(dY p gs t i S).1.steps=S.steps∧S.vars≤(dY p gs t i S).1.vars ∧
 ((dY p gs t i S).1.fin=S.fin∨((dY p gs t i S).1.fin=3∧(dY p gs t i S).2=true)):=by
 intro m
 induction m with
 | zero =>
  intro i S hm hi h;rw[pJ (by omega)];exact⟨⟨fun e=>absurd e.1 (by simp),fun _=>h⟩,by simp only;omega,rfl,rfl,nR _,.inl rfl⟩
 | succ m ih =>
  intro i S hm hi h;have hi':i<p.length:=by omega
  by_cases hf:fG p[i] t
  ·cases hA:meet S.σ S.L S.f [(far S.vars p[i].head,t)] with
   | ok σ' L' f' =>
    have hpc:cO p gs t p[i] i S=({S with σ:=σ',L:=L',f:=f',vars:=S.vars+12,ch:=if bE p t (i+1)<p.length then S.ch++[⟨gs,bE p t (i+1),S.σ,S.L⟩] else S.ch,now:=qU S.vars S.ch.length p[i].body++gs.tail},some true):=by unfold cO;rw[hA]
    rw[gY hi' hf hpc];refine⟨⟨fun _=>aU2 h (hp p[i] (List.getElem_mem hi')) i hA,fun e=>by cases e⟩,?_,rfl,rfl,by simp only;omega,.inl rfl⟩;simp only;have hn:=vV p t (p.length-(i+1)) (i+1) rfl;split
    ·rw[yQ];simp only;omega
    ·omega
   | no σ' L' f' =>
    have hpc:cO p gs t p[i] i S=({S with f:=f',vars:=S.vars+12},none):=by unfold cO;rw[hA]
    rw[vW hi' hf hpc];have hle:f'≤S.f:=by
     have hw:∀q∈[(far (S.vars:Int) p[i].head,t)],WfT q.1∧WfT q.2:=fun q hq=>by rw[List.mem_singleton] at hq;subst hq;exact⟨(vS (n:=S.vars) (hp p[i] (List.getElem_mem hi')).1).wf,h.t.wf⟩
     have hg:=nQ S.f S.σ S.L _ h.sinv hw;rw[hA] at hg;obtain⟨⟨N,hN,_⟩,h2⟩:=hg;rw[hN,List.length_append] at h2;omega
    obtain⟨a,b,c,d,e,f⟩:=ih (i+1) {S with f:=f',vars:=S.vars+12} (by omega) (by omega) (h.more (by have:=h.f;omega));exact⟨a,by simp only at b;omega,c,d,by simp only at e;omega,f⟩
   | many σ' L' =>
    have hpc:cO p gs t p[i] i S=({S with f:=0,vars:=S.vars+12,fin:=3},some true):=by unfold cO;rw[hA]
    rw[gY hi' hf hpc];exact⟨⟨fun e=>absurd e.2 (by simp),fun e=>by cases e⟩,by simp only;omega,rfl,rfl,by simp only;omega,.inr ⟨rfl,rfl⟩⟩
  ·rw[pK hi' hf]
   obtain⟨a,b,c,d,e,f⟩:=ih (i+1) S (by omega) (by omega) h;exact⟨a,by omega,c,d,e,f⟩
def bR1(v:Value)(k:Nat):Value:=match v with
 | .slice a _ c=>.slice a k c
 | v=>v
theorem iD{w:World}{base:Nat}{e:TypeId}{size:Nat}{v:Value}{n:Nat}{xs:List Value}(h:w.ownsRow base e size v n xs){k:Nat}(hk:k≤n):w.ownsRow base e size (bR1 v k) k (xs.take (k*size)):=by
 obtain⟨h1,h2⟩:=h;have hm:k*size≤n*size:=Nat.mul_le_mul_right _ hk;refine⟨by rw[List.length_take];omega,?_⟩;rcases h2 with ⟨rfl,rfl⟩|⟨g,cap,cur,rfl,hb,hg,hc,hm2,hs,ht⟩
 ·left;have:k=0:=by omega
  subst this;exact⟨rfl,rfl⟩
 ·right
  refine⟨g,cap,cur,rfl,hb,hg,by omega,hm2,hs,?_⟩;rw[←ht,List.take_take];congr 1;omega
theorem bH8{a b:ByteArray}:a.toList=b.toList↔a=b:=by
 constructor
 ·intro h;rw[ByteArray.toList_eq,ByteArray.toList_eq] at h;exact ByteArray.ext (Array.toList_inj.1 h)
 ·intro h;rw[h]
theorem bD7{c:Cl}{t:Tm}(h1:c.head.name=t.name)(h2:c.head.args.length=t.args.length):decide (fG c t)=true:=decide_eq_true ⟨h1,h2⟩
theorem bN4{c:Cl}{t:Tm}(h1:c.head.name≠t.name):decide (fG c t)=false:=decide_eq_false fun h=>h1 h.1
theorem bN5{c:Cl}{t:Tm}(h1:c.head.args.length≠t.args.length):decide (fG c t)=false:=decide_eq_false fun h=>h1 h.2
theorem bQ0(c:Cl)(t:Tm)(w:World)(a1 a2:Option Addr)(c1 c2:Nat) :
 Calls Try.prog 118 #[.agg #[.int .i64 c.head.var,.string c.head.name,.slice a1 c.head.args.length c1,.slice a2 c.body.length c2],.string t.name,.int .i64 t.args.length] w fun e w'=>e=.returned (.bool (decide (fG c t)))∧Below w.heap.size w w':=by
 by_cases h1:c.head.name=t.name
 ·by_cases h2:c.head.args.length=t.args.length
  ·rw[bD7 h1 h2]
   rw[h1,h2] at *;go_enter Try.func118,Try.ntmps118;go_wp2_with fail;go_ret;exact⟨by simp,(bR _ _).alloc (nR _) _⟩
  ·rw[bN5 h2]
   have h3:((c.head.args.length:Int) == (t.args.length:Int))=false:=by rw[beq_eq_false_iff_ne];omega
   rw[h1] at *;clear h2;go_enter Try.func118,Try.ntmps118;go_wp2_with fail;go_ret;exact⟨rfl,(bR _ _).alloc (nR _) _⟩
 ·rw[bN4 h1]
  have h3:¬c.head.name.toList=t.name.toList:=fun e=>h1 (bH8.1 e)
  clear h1;go_enter Try.func118,Try.ntmps118;go_wp2_with fail;go_ret;exact⟨rfl,(bR _ _).alloc (nR _) _⟩
theorem bJ8{p:List Cl}{w:World}{ok:Nat→Prop}{a:Option Addr}{cap:Nat}(hp:Pr w ok p a cap)(t:Tm)(i:Nat)(hi:i≤p.length) :
 Calls Try.prog 111 #[.slice a p.length cap,.string t.name,.int .i64 t.args.length,.int .i64 i] w fun e w'=>e=.returned (.int .i64 (bE p t i:Nat))∧Below w.heap.size w w':=by
 have HP:=lh hp;have hcl:p.length≤9223372036854775807:=by have:=hp.room;unfold maxLen at this;omega
 clear hp;go_enter Try.func111,Try.ntmps111;go_wp2_with fail
 go_loopw[3] (fun v3 wr=>∃k:Nat,k≤p.length∧v3=.int .i64 k∧Hid (bE p t k=bE p t i)∧Below w.heap.size w wr) (fun v3 _=>p.length-(intOf v3).toNat)
 case atStart=>exact⟨i,hi,rfl,lh rfl,Below.refl _ _⟩
 case round =>
  obtain⟨k,hk,rfl,HN,hbr⟩:=hrel;have HB:=lh hbr;by_cases hlt:k<p.length
  ·obtain⟨b,off,a1,a2,c1,c2,rfl,hokb,hbs,hc3,hc4,ht1,ht2⟩:=HP.out.elem k hlt
   have hcv:=(hbr.cell (p:=⟨b,off+k*4,none⟩) hbs).trans hc3.var;have hcn:=(hbr.cell (p:=⟨b,off+k*4+1,none⟩) hbs).trans hc3.name;have hca:=(hbr.cell (p:=⟨b,off+k*4+2,none⟩) hbs).trans hc3.args;have hcb:=(hbr.cell (p:=⟨b,off+k*4+3,none⟩) hbs).trans hc4;clear hc3 hc4 ht1 ht2 hbr;have HF:=lh (bQ0 p[k] t wr a1 a2 c1 c2);by_cases hf:fG p[k] t
   ·have HR:Hid (bE p t i=k):=lh (by rw[←HN.out];exact iY hlt hf)
    rw[decide_eq_true hf] at HF;clear hf;go_wp2_with (go_at_call 118;refine HF.out.mono ?_;rintro e w1 ⟨rfl,hb1⟩;have HB1:=lh hb1;clear hb1);go_ret;exact⟨by rw[HR.out];rfl,HB.out.trans (HB1.out.mono HB.out.size)⟩
   ·have HR:Hid (bE p t (k+1)=bE p t i):=lh (by rw[←HN.out];exact(iZ hlt hf).symm)
    rw[decide_eq_false hf] at HF;clear hf;go_wp2_with (go_at_call 118;refine HF.out.mono ?_;rintro e w1 ⟨rfl,hb1⟩;have HB1:=lh hb1;clear hb1);go_roundw
    case measure=>simp[intOf];omega
    case rel=>exact⟨k+1,by omega,by go_num,HR,HB.out.trans (HB1.out.mono HB.out.size)⟩
  ·have HR:Hid (bE p t i=k):=lh (by rw[←HN.out];exact gX hlt)
   go_wp2_with fail;go_ret;exact⟨by rw[HR.out];rfl,HB.out⟩


theorem Pr.mono{w:World}{ok ok':Nat→Prop}(hk:∀b,b<w.heap.size→ok b→ok' b){P:List Cl}{a:Option Addr}{cap:Nat}(h:Pr w ok P a cap):Pr w ok' P a cap:=by
 refine⟨h.room,fun i hi=>?_⟩;obtain⟨b,off,a1,a2,c1,c2,h1,h2,h3,h4,h5,h6,h7⟩:=h.elem i hi;exact⟨b,off,a1,a2,c1,c2,h1,hk b h3 h2,h3,h4,h5,h6.mono hk,h7.mono hk⟩
def iC(l:List ((Option Addr×Nat)×List Tm)):List Value:=l.map fun x=>Value.slice x.1.1 x.2.length x.1.2
section
variable {w w':World} {br bs bm:Nat} {tv cv av:Value} {np pa:Option Addr} {pc:Nat} {p:List Cl} {query:Nat} {S:PS} {wk:Nat}
end
structure lF(w:World)(ok:Nat→Prop)(l:List (List Tm))(a:Option Addr)(cap:Nat):Prop where
 room:l.length≤cap∧cap≤maxLen∧(a=none→cap=0)
 elem:∀i (h:i<l.length),∃(b off:Nat) (a1:Option Addr) (c1:Nat),a=some ⟨b,off,none⟩∧ok b∧b<w.heap.size∧w.cell? ⟨b,off+i,none⟩=some (.slice a1 l[i].length c1)∧Ts w ok l[i] a1 c1
theorem lF.keep{w w':World}{ok:Nat→Prop}(hk:aD ok w w'){l:List (List Tm)}{a:Option Addr}{cap:Nat}(h:lF w ok l a cap):lF w' ok l a cap:=by
 refine⟨h.room,fun i hi=>?_⟩;obtain⟨b,off,a1,c1,h1,h2,h3,h4,h5⟩:=h.elem i hi;exact⟨b,off,a1,c1,h1,h2,nT h3 hk.size,(hk.cell (p:=⟨b,_,none⟩) h2 h3).trans h4,h5.keep hk⟩
theorem lF.mono{w:World}{ok ok':Nat→Prop}(hk:∀b,b<w.heap.size→ok b→ok' b){l:List (List Tm)}{a:Option Addr}{cap:Nat}(h:lF w ok l a cap):lF w ok' l a cap:=by
 refine⟨h.room,fun i hi=>?_⟩;obtain⟨b,off,a1,c1,h1,h2,h3,h4,h5⟩:=h.elem i hi;exact⟨b,off,a1,c1,h1,hk b h3 h2,h3,h4,h5.mono hk⟩
theorem lF.of_row{w:World}{ok:Nat→Prop}{base:Nat}{e:TypeId}{v:Value}{A:List ((Option Addr×Nat)×List Tm)}(h:w.ownsRow base e 1 v A.length (iC A))(hok:∀b,v.ownBlock=some b→ok b)(he:∀x,x∈A→Ts w ok x.2 x.1.1 x.1.2) :
 ∃a cap,v=.slice a (A.map (·.2)).length cap∧lF w ok (A.map (·.2)) a cap:=by
 have hrow:=h;rcases h.2 with ⟨rfl,hn⟩|⟨g,cap,cur,rfl,hb,hg,hcap,hml,hsz,htk⟩
 ·have:A = []:=List.eq_nil_of_length_eq_zero hn
  subst this;exact⟨none,0,rfl,⟨nR _,Nat.zero_le _,fun _=>rfl⟩,fun i hi=>by cases hi⟩
 ·refine⟨some ⟨g,0,none⟩,cap,by simp,⟨by simpa using hcap,hml,fun h=>by cases h⟩,fun i hi=>?_⟩
  have hi':i<A.length:=by simpa using hi
  have hl:(iC A).length=A.length:=by simp[iC]
  have hc:=hrow.cellAt i (by omega);have e1:(iC A)[i]? = some (Value.slice A[i].1.1 A[i].2.length A[i].1.2):=by simp[iC,hi']
  refine⟨g,0,A[i].1.1,A[i].1.2,rfl,hok g rfl,(hrow.lt g rfl).2,?_,?_⟩
  ·rw[Nat.zero_add,List.getElem_map]
   exact hc.trans e1
  ·rw[List.getElem_map]
   exact he _ (List.getElem_mem hi')
structure aU3(p:List Cl)(S:PS):Prop where
 sinv:gF S.σ
 dom:∀v u,S.σ v=some u→Fit (S.vars+1) u∧v.toNat<S.vars+1
 trail:lE S.σ S.L
 snap:∀c,c∈S.ch→rR S.σ S.L c.σ c.L∧c.gs≠[]∧c.cl<p.length∧(∀g,g∈c.gs→Fit (S.vars+1) g.1)∧c.L.length+2000≤2000*S.steps
 mono:S.ch.Pairwise fun a b=>a.L.length≤b.L.length
 len:S.L.length≤2000*S.steps
 base:12≤S.vars
theorem wQ.toB{p:List Cl}{gs:List eD}{t:Tm}{S:PS}(h:wQ p gs t S):aU3 p S:=⟨h.sinv,h.dom,h.trail,h.snap,h.mono,by have:=h.len;omega,h.base⟩
theorem rS{n:Nat}{gs:List eD}(hne:gs≠[])(h:∀g,g∈gs→Fit n g.1):Fit n (iM gs):=by
 cases gs with
 | nil=>exact absurd rfl hne
 | cons a r=>exact h a List.mem_cons_self
theorem aU3.call{p:List Cl}{S:PS}(h:aU3 p S){n:Nat}(hn:n<S.ch.length) :
 wQ p S.ch[n].gs (look S.ch[n].σ (iM S.ch[n].gs)) {S with ch:=S.ch.take n,σ:=S.ch[n].σ,L:=S.ch[n].L,f:=4000}:=by
 obtain⟨h1,h2,h3,h4,h5⟩:=h.snap S.ch[n] (List.getElem_mem hn);have hle:∀c',c'∈S.ch.take n→c'.L.length≤S.ch[n].L.length:=fun c' hc'=>by
  obtain⟨j,hj,rfl⟩:=List.getElem_of_mem hc';rw[List.length_take] at hj;rw[List.getElem_take];exact List.pairwise_iff_getElem.1 h.mono j n (by omega) hn (by omega)
 have hs:S.ch[n].σ = undo S.σ S.L S.ch[n].L.length:=h1.2.2.symm;have hd:∀v u,S.ch[n].σ v=some u→Fit (S.vars+1) u∧v.toNat<S.vars+1:=fun v u e=>by
  rw[hs] at e;exact h.dom v u (aU1 e)
 have hsi:gF S.ch[n].σ:=by rw[hs];exact h.sinv.undo _ _
 refine⟨hsi,hd,?_,⟨h2,h4⟩,?_,?_,?_,hle,by (try simp only);omega,by (try simp only);omega,h.base⟩
 ·have:=h.trail.undo S.ch[n].L.length
  rw[←hs,←h1.1] at this;exact this
 ·exact kV hsi.rank.ends (fun v u e=>(hd v u e).1) (rS h2 h4)
 ·intro c' hc'
  obtain⟨k1,k2,k3,k4,k5⟩:=h.snap c' (List.mem_of_mem_take hc');exact⟨h1.inner k1 (hle c' hc'),k2,k3,k4,k5⟩
 ·exact h.mono.sublist (List.take_sublist _ _)
theorem bH9{m:Nat}{ch:List PCh}{n:Nat}(hn:n<ch.length):lZ m (ch.take n)+(m-ch[n].cl)≤lZ m ch:=by
 have h:=yR m ch (n+1);rw[List.take_succ_eq_append_getElem hn,yQ] at h;exact h
theorem aI5{p:List Cl}(hp:POk p):∀(n:Nat) (S:PS),n=S.ch.length→S.fin=0→aU3 p S →
 ((fZ p n S).fin=0→qS p (fZ p n S))∧(fZ p n S).vars+12*lZ p.length (fZ p n S).ch≤S.vars+12*lZ p.length S.ch∧(fZ p n S).ans=S.ans∧(fZ p n S).steps=S.steps∧(fZ p n S).fin≤3:=by
 intro n
 induction n with
 | zero=>intro S _ _ _;exact⟨(fun e=>by cases e),nR _,rfl,rfl,by simp[fZ]⟩
 | succ n ih =>
  intro S hn h0 h;have hn':n<S.ch.length:=by omega
  have e1:S.ch[n]? = some S.ch[n]:=List.getElem?_eq_getElem hn';have hc:=h.call hn';have hcl:=(h.snap S.ch[n] (List.getElem_mem hn')).2.2.1;have hpot:=bH9 (m:=p.length) hn';have hch:=bE1 (p:=p) (gs:=S.ch[n].gs) (s:=look S.ch[n].σ (iM S.ch[n].gs)) (p.length-S.ch[n].cl) S.ch[n].cl {S with ch:=S.ch.take n,σ:=S.ch[n].σ,L:=S.ch[n].L,f:=4000} rfl;obtain⟨⟨a1,a2⟩,b,c,d,e,f⟩:=aI2 hp (p.length-S.ch[n].cl) S.ch[n].cl {S with ch:=S.ch.take n,σ:=S.ch[n].σ,L:=S.ch[n].L,f:=4000} rfl (by omega) hc;simp only[fZ,e1];generalize dY p S.ch[n].gs (look S.ch[n].σ (iM S.ch[n].gs)) S.ch[n].cl {S with ch:=S.ch.take n,σ:=S.ch[n].σ,L:=S.ch[n].L,f:=4000}=x at *;obtain⟨x1,x2⟩:=x;simp only at a1 a2 b c d e f hch ⊢;cases x2 with
  | true =>
   rw[if_pos rfl];exact⟨fun h=>a1 ⟨rfl,h⟩,by omega,c,d,by omega⟩
  | false =>
   rw[if_neg (by decide)];have hl:n=x1.ch.length:=by rw[hch rfl,List.length_take];omega
   have hf:x1.fin=0:=f.elim (fun e=>e.trans h0) fun e=>by cases e.2
   obtain⟨g1,g2,g3,g4,g5⟩:=ih x1 hl hf (a2 rfl).toB;exact⟨g1,by omega,g3.trans c,g4.trans d,g5⟩
structure aA6(p:List Cl)(S:PS):Prop where
 core:S.fin=0→qS p S∧S.ans.length<40
 steps:S.steps≤400
 pot:S.vars+12*lZ p.length S.ch+360*(400-S.steps)≤144012
 fin:S.fin≤4
theorem qS.call{p:List Cl}{S:PS}(h:qS p S)(hne:S.now≠[]):wQ p S.now (look S.σ (iM S.now)) {S with steps:=S.steps+1,f:=4000} :=
 ⟨h.sinv,h.dom,h.trail,⟨hne,h.now⟩,kV h.sinv.rank.ends (fun v u e=>(h.dom v u e).1) (rS hne h.now),fun c hc=>by
  obtain⟨a,b,c,d,e⟩:=h.snap c hc;exact⟨a,b,c,d,by (try simp only);omega⟩,h.mono,fun c hc=>(h.snap c hc).1.2.1,by have:=h.len;simp only;omega,by (try simp only);omega,h.base⟩
theorem qS.toB1{p:List Cl}{S:PS}(h:qS p S){f:Nat}{now:List eD}:aU3 p {S with steps:=S.steps+1,f:=f,now:=now} :=
 ⟨h.sinv,h.dom,h.trail,fun c hc=>by
  obtain⟨a,b,c,d,e⟩:=h.snap c hc;exact⟨a,b,c,d,by (try simp only);omega⟩,h.mono,by have:=h.len;simp only;omega,h.base⟩
theorem qS.tail{p:List Cl}{S:PS}(h:qS p S){f k:Nat}:qS p {S with steps:=S.steps+1,f:=f,now:=S.now.tail,ch:=S.ch.take k} :=
 ⟨h.sinv,h.dom,h.trail,fun g hg=>h.now g (List.mem_of_mem_tail hg),fun c hc=>by
  obtain⟨a,b,c,d,e⟩:=h.snap c (List.mem_of_mem_take hc);exact⟨a,b,c,d,by (try simp only);omega⟩,h.mono.sublist (List.take_sublist _ _),by have:=h.len;simp only;omega,h.base⟩
theorem aI6{n:Nat}{l:List Tm}{i:Nat}(hi:i<l.length)(h:∀x,x∈l→Fit n x):Fit n (l.getD i default):=by
 rw[List.getD_eq_getElem?_getD,List.getElem?_eq_getElem hi];exact h _ (List.getElem_mem _)
theorem rT{t:Tm}(hm:¬cG t.name t.args.length=false)(h1:t.name≠⟨#[33]⟩)(h2:t.name≠⟨#[116,114,117,101]⟩)(h3:t.name≠⟨#[102,97,105,108]⟩):t.args.length=2:=by
 have hm':cG t.name t.args.length=true:=by simpa using hm
 have ne:∀l:List UInt8,t.name≠⟨l.toArray⟩→(t.name.toList == l)=false:=fun l hl=>by
  rw[beq_eq_false_iff_ne];intro e;apply hl;have:t.name.data.toList=l:=by rw[←e,ByteArray.toList_eq]
  cases hb:t.name with
  | mk d=>rw[hb] at this;rw[←this]
 unfold cG at hm';rw[ne _ h1,ne _ h2,ne _ h3] at hm';simp at hm';exact hm'.1
theorem qS.eq{p:List Cl}{S:PS}(h:qS p S){a b:Tm}(ha:Fit (S.vars+1) a)(hb:Fit (S.vars+1) b){σ:Sub}{L:List Int}{f:Nat}(hm:meet S.σ S.L 4000 [(a,b)]=.ok σ L f) :
 qS p {S with steps:=S.steps+1,σ:=σ,L:=L,f:=f,now:=S.now.tail}:=by
 have hw2:∀q∈[(a,b)],Fit (S.vars+1) q.1∧Fit (S.vars+1) q.2:=fun q hq=>by rw[List.mem_singleton] at hq;subst hq;exact⟨ha,hb⟩
 have hw:∀q∈[(a,b)],WfT q.1∧WfT q.2:=fun q hq=>⟨(hw2 q hq).1.wf,(hw2 q hq).2.wf⟩
 have hg:=nQ 4000 S.σ S.L _ h.sinv hw;rw[hm] at hg;obtain⟨hg1,hg2⟩:=hg;have hd:∀v u,S.σ v=some u→Fit (S.vars+1) u:=fun v u e=>(h.dom v u e).1
 have hdom:=aG4 4000 S.σ S.L _ σ L f h.sinv hd hw2 hm;have hkey:=yF 4000 S.σ S.L _ σ L f h.sinv hd (fun v u e=>(h.dom v u e).2) hw2 hm;refine⟨yP 4000 S.σ S.L _ σ L f h.sinv hw hm,fun v u e=>⟨hdom v u e,hkey v u e⟩,hg1.ok h.trail,fun g hg=>h.now g (List.mem_of_mem_tail hg),fun c hc=>?_,h.mono,by have:=h.len;simp only;omega,h.base⟩;obtain⟨a,b,c,d,e⟩:=h.snap c hc;exact⟨hg1.snap a,b,c,d,by (try simp only);omega⟩
theorem bD8{p:List Cl}(hp:POk p)(h30:p.length≤30){S:PS}(h:aA6 p S)(h0:S.fin=0)(hne:S.now≠[])(hst:S.steps<400) :
 aA6 p (lD p S)∧(lD p S).steps=S.steps+1∧(lD p S).ans=S.ans:=by
 obtain⟨hP,hA⟩:=h.core h0;have hpot:=h.pot;have hback:∀S1:PS,S1.fin=0→aU3 p S1→S1.steps=S.steps+1→S1.ans=S.ans→S1.vars+12*lZ p.length S1.ch+360*(400-(S.steps+1))≤144012 →
  aA6 p (fZ p S1.ch.length S1)∧(fZ p S1.ch.length S1).steps=S.steps+1∧(fZ p S1.ch.length S1).ans=S.ans:=fun S1 k0 k1 k2 k3 k4=>by
  obtain⟨g1,g2,g3,g4,g5⟩:=aI5 hp S1.ch.length S1 rfl k0 k1;exact⟨⟨fun e=>⟨g1 e,by rw[g3,k3];exact hA⟩,by rw[g4,k2];omega,by rw[g4,k2];omega,by omega⟩,g4.trans k2,g3.trans k3⟩
 simp only[lD];split
 ·exact⟨⟨(fun e=>by cases e),by (try simp only);omega,by (try simp only);omega,nR _⟩,rfl,rfl⟩
 ·split
  ·have hci:=hP.call hne
   obtain⟨⟨a1,a2⟩,b,c,d,e,f⟩:=aI2 hp p.length 0 {S with steps:=S.steps+1,f:=4000} (by omega) (Nat.zero_le _) hci;generalize dY p S.now (look S.σ (iM S.now)) 0 {S with steps:=S.steps+1,f:=4000}=x at *;obtain⟨x1,x2⟩:=x;simp only at a1 a2 b c d e f ⊢;cases x2 with
   | true =>
    rw[if_pos rfl];exact⟨⟨fun h=>⟨a1 ⟨rfl,h⟩,by rw[c];exact hA⟩,by omega,by rw[d];omega,by omega⟩,d,c⟩
   | false =>
    rw[if_neg (by decide)];exact hback x1 (f.elim (fun e=>e.trans h0) fun e=>by cases e.2) (a2 rfl).toB d c (by omega)
  ·rename_i hv hm
   split
   ·refine⟨⟨fun _=>⟨hP.tail,hA⟩,by (try simp only);omega,?_,by (try simp only);omega⟩,rfl,rfl⟩
    have:=yR p.length S.ch ((S.now.head?.map (·.2)).getD 0);simp only;omega
   ·rename_i h1
    split
    ·refine⟨⟨fun _=>⟨?_,hA⟩,by (try simp only);omega,by (try simp only);omega,by (try simp only);omega⟩,rfl,rfl⟩
     have:=hP.tail (f:=4000) (k:=S.ch.length);rw[List.take_length] at this;exact this
    ·rename_i h2
     split
     ·exact hback {S with steps:=S.steps+1,f:=4000} h0 (hP.toB1) rfl rfl (by (try simp only);omega)
     ·rename_i h3
      have hf:=kV hP.sinv.rank.ends (fun v u e=>(hP.dom v u e).1) (rS hne hP.now);have hl2:=rT hm h1 h2 h3;have f0:=aI6 (i:=0) (by omega) fun x hx=>hf.arg hx
      have f1:=aI6 (i:=1) (by omega) fun x hx=>hf.arg hx
      split
      ·rename_i hA2
       exact⟨⟨fun _=>⟨hP.eq f0 f1 hA2,hA⟩,by (try simp only);omega,by (try simp only);omega,by (try simp only);omega⟩,rfl,rfl⟩
      ·rename_i f _
       exact hback {S with steps:=S.steps+1,f:=f,now:=S.now.tail} h0 (hP.toB1) rfl rfl (by (try simp only);omega)
      ·exact⟨⟨(fun e=>by cases e),by (try simp only);omega,by (try simp only);omega,by (try simp only);omega⟩,rfl,rfl⟩
theorem vX{p:List Cl}(hp:POk p)(query:Nat){S:PS}(h:aA6 p S)(h0:S.fin=0) :
 aA6 p (gA p query S)∧(gA p query S).steps=S.steps∧((gA p query S).fin=0→(gA p query S).ans.length=S.ans.length+1):=by
 obtain⟨hP,hA⟩:=h.core h0;have hpot:=h.pot;simp only[gA];split
 ·exact⟨⟨(fun e=>by cases e),h.steps,hpot,by (try simp only);omega⟩,rfl,(fun e=>by cases e)⟩
 ·rename_i x _
  split
  ·exact⟨⟨(fun e=>by cases e),h.steps,hpot,by (try simp only);omega⟩,rfl,(fun e=>by cases e)⟩
  ·rename_i h40
   obtain⟨g1,g2,g3,g4,g5⟩:=aI5 hp S.ch.length {S with ans:=S.ans++[(Tm.rens cN [] x.1).1]} rfl h0 ⟨hP.sinv,hP.dom,hP.trail,hP.snap,hP.mono,hP.len,hP.base⟩;have hl:(fZ p S.ch.length {S with ans:=S.ans++[(Tm.rens cN [] x.1).1]}).ans.length=S.ans.length+1:=by rw[g3];simp
   refine⟨⟨fun e=>⟨g1 e,by rw[hl];omega⟩,by rw[g4];exact h.steps,?_,by omega⟩,g4,fun _=>hl⟩;rw[g4];simp only at g2 ⊢;omega
theorem bD9{p:List Cl}(hp:POk p)(h30:p.length≤30)(query:Nat){most:Nat}(hmost:most≤400){S:PS}(h:aA6 p S)(h0:S.fin=0)(hs:S.steps≤most) :
 aA6 p (gI p query most S)∧(gI p query most S).steps≤most∧((gI p query most S).fin=0→(most-(gI p query most S).steps)+(40-(gI p query most S).ans.length)+1=(most-S.steps)+(40-S.ans.length)):=by
 unfold gI;by_cases hn:S.now = []
 ·rw[if_pos hn]
  obtain⟨a,b,c⟩:=vX hp query h h0;refine⟨a,by rw[b];exact hs,fun e=>?_⟩;have:=c e;have:=(h.core h0).2;rw[b];omega
 ·rw[if_neg hn]
  by_cases hm:(S.steps:Int)=most
  ·rw[if_pos hm]
   exact⟨⟨(fun e=>by cases e),h.steps,h.pot,by (try simp only);omega⟩,hs,(fun e=>by cases e)⟩
  ·rw[if_neg hm]
   obtain⟨a,b,c⟩:=bD8 hp h30 h h0 hn (by omega);exact⟨a,by rw[b];omega,fun _=>by rw[b,c];omega⟩
def rO(t:Tm):Prop:=∀p,p∈t.parts→p.args.length*48≤140737488355328
theorem bF7{K:Int}(t:Tm):∀(w:World) (ok:Nat→Prop) (a:Option Addr) (cap:Nat),(∀b,ok b→b<w.heap.size)→rO t→t.fits→Ts w ok t.args a cap→(∀p,p∈t.parts→p.var≠0→I64 (p.var+K)) →
 Calls Try.prog 60 #[.agg #[.int .i64 t.var,.string t.name,.slice a t.args.length cap],.int .i64 K] w (oK w ok (far K t)):=by
 induction t using Tm.ind with
 | h v n l ih =>
  intro w ok a cap hok hsize hfit hrd hx;have IH:=lh ih;have HOK:=lh hok;have HF:=lh hfit;have HX:=lh hx;have HSIZE:=lh hsize;simp only[Tm.var,Tm.name,Tm.args] at hrd ⊢;have HRD:=lh hrd;have hcl:l.length*48≤140737488355328:=by
   have h1:=hsize _ (Tm.self_mem _);simp only[Tm.args] at h1;exact h1
  clear ih hok hfit hx hrd hsize;by_cases hv:v=0
  ·subst hv
   have HRES:Hid (far K (.mk 0 n l)=.mk 0 n (l.map (far K))):=lh (by unfold far;exact Tm.mapv_fn (by rfl));go_enter Try.func60,Try.ntmps60;go_wp2_with fail;have BB:Below w.heap.size w (((w.alloc (.cells #[.int .i64 0,.string n,.slice a l.length cap] 71)).alloc (.cells #[.int .i64 0,.string ⟨#[]⟩,.slice none 0 0] 71)).alloc (.cells #[.int .i64 0,.string n,.slice none 0 0] 71)):=(((bR _ _).alloc (nR _) _).alloc (by simp) _).alloc (by simp;omega) _;have B2:dP (((w.alloc (.cells #[.int .i64 0,.string n,.slice a l.length cap] 71)).alloc (.cells #[.int .i64 0,.string ⟨#[]⟩,.slice none 0 0] 71)).alloc (.cells #[.int .i64 0,.string n,.slice none 0 0] 71)) w.heap.size (.int .i64 0) (.string n) (.slice a l.length cap):=((dP.made w _ _ _).alloc _).alloc _;have B4:dP (((w.alloc (.cells #[.int .i64 0,.string n,.slice a l.length cap] 71)).alloc (.cells #[.int .i64 0,.string ⟨#[]⟩,.slice none 0 0] 71)).alloc (.cells #[.int .i64 0,.string n,.slice none 0 0] 71)) (w.heap.size+1) (.int .i64 0) (.string ⟨#[]⟩) (.slice none 0 0):=(dP.made2 (by simp)).alloc _;have B5:dP (((w.alloc (.cells #[.int .i64 0,.string n,.slice a l.length cap] 71)).alloc (.cells #[.int .i64 0,.string ⟨#[]⟩,.slice none 0 0] 71)).alloc (.cells #[.int .i64 0,.string n,.slice none 0 0] 71)) (w.heap.size+1+1) (.int .i64 0) (.string n) (.slice none 0 0):=dP.made2 (by simp);have hsz:(((w.alloc (.cells #[.int .i64 0,.string n,.slice a l.length cap] 71)).alloc (.cells #[.int .i64 0,.string ⟨#[]⟩,.slice none 0 0] 71)).alloc (.cells #[.int .i64 0,.string n,.slice none 0 0] 71)).heap.size=w.heap.size+3:=by simp
   have HBB:=lh BB;have HB2:=lh B2;have HB4:=lh B4;have HB5:=lh B5;have HSZ:=lh hsz;clear BB B2 B4 B5 hsz;generalize (((w.alloc (.cells #[.int .i64 0,.string n,.slice a l.length cap] 71)).alloc (.cells #[.int .i64 0,.string ⟨#[]⟩,.slice none 0 0] 71)).alloc (.cells #[.int .i64 0,.string n,.slice none 0 0] 71))=wb at *
   go_loopw[22] (fun y wr=>∃(k:Nat) (L:List dS) (x:Value),k≤l.length∧y=.int .i64 k∧L.map (·.1)=(l.take k).map (far K)∧iS wb ok (w.heap.size+1+1) n L x wr) (fun y _=>l.length-(intOf y).toNat)
   case atStart=>exact⟨0,[],.slice none 0 0,Nat.zero_le _,rfl,rfl,iS.start HB5.out⟩
   case round =>
    obtain⟨k,L,x,hk,rfl,hL,hrel⟩:=hrel;have HL:=lh hL;have HR:=lh hrel;obtain⟨xa,xc,rfl⟩:=hrel.form;have p2:=(HB2.out.keep (hrel.touch.block _ HB2.out.lt (by omega))).c2;have q4:=(HB4.out.keep (hrel.touch.block _ HB4.out.lt (by omega))).all;have q0:=hrel.box.c0;have q1:=hrel.box.c1;have q2:=hrel.box.c2;have qf:=hrel.box.fz;have hLk:L.length=k:=by
     have:=congrArg List.length hL;rw[List.length_map,List.length_map,List.length_take] at this;omega
    have HLK:=lh hLk;have HSW:Hid (w.heap.size+3≤wr.heap.size):=lh (by have:=hrel.touch.size;have:=HSZ.out;omega);have HBR:Hid (Below w.heap.size w wr):=lh (HBB.out.trans (hrel.touch.toBelow HBB.out.size (fun b e=>by omega)));clear hrel hL hLk;by_cases hlt:k<l.length
    ·obtain⟨b,off,a',cap',rfl,hokb,hbs,hc,ht⟩:=HRD.out.at k hlt
     have m0:=(HBR.out.cell (p:=⟨b,off+k*3,none⟩) hbs).trans hc.var;have m1:=(HBR.out.cell (p:=⟨b,off+k*3+1,none⟩) hbs).trans hc.name;have m2:=(HBR.out.cell (p:=⟨b,off+k*3+2,none⟩) hbs).trans hc.args;have hk0:(0:Int)≤(k:Int):=by omega
     have hk1:(k:Int)<(l.length:Int):=by omega
     have hmem:l[k]∈l:=List.getElem_mem hlt;have HC:=lh hc.fits;have HTS:=lh ht;clear hc ht;obtain⟨i0,hi,hz0,hz1,hz2⟩:=info_parts Try.infoTm;have HCL:Hid (∀u,Below wr.heap.size wr u→Calls Try.prog 60 #[.agg #[.int .i64 l[k].var,.string l[k].name,.slice a' l[k].args.length cap'],.int .i64 K] u (oK u ok (far K l[k]))):=lh fun u hu =>
      IH.out _ hmem u ok a' cap' (fun b hb=>by have:=HOK.out b hb;have:=hu.size;have:=HSW.out;omega) (fun p hp=>HSIZE.out p (Tm.parts_arg (t:=.mk 0 n l) hmem hp)) HC.out (HTS.out.keep ((aD.below HBR.out ok).trans (aD.below hu ok))) (fun p hp=>HX.out p (Tm.parts_arg (t:=.mk 0 n l) hmem hp))
     have zlt:w.heap.size+1+1<wr.heap.size:=by have:=HSW.out;omega
     go_wp2_with fail
     go_region_law (first
      | (
       go_simp
       go_at_call 60
       refine(HCL.out _ ?_).mono ?_
       ·exact((bR _ _).alloc (nR _) _).drew
       rintro e w1 ⟨a2,c2,rfl,hf2,ht2,hb2⟩;have HB:Below wr.heap.size wr w1:=(((bR _ _).alloc (nR _) _).drew).trans (hb2.mono (by simp[World.drew]));have r0:w1.cell? ⟨w.heap.size+1+1,2,none⟩=some (.slice xa L.length xc):=(HR.out.box.below HB).c2;have z1:w.heap.size+1+1<w1.heap.size:=(HR.out.box.below HB).lt;have HO1:=lh ((aH HR.out.own.own HB).alloc (.cells #[.int .i64 (far K l[k]).var,.string (far K l[k]).name,.slice a2 (far K l[k]).args.length c2] 71));have HN1:Hid (∀j u,(dX [(far K l[k],a2,c2)])[j]? = some u→(w1.alloc (.cells #[.int .i64 (far K l[k]).var,.string (far K l[k]).name,.slice a2 (far K l[k]).args.length c2] 71)).cell? ((⟨w1.heap.size,0,none⟩:Addr).add j)=some u):=lh (by
        have ho:=World.ownsRow_lit (base:=w1.heap.size) (e:=71) (size:=3) w1 #[.int .i64 (far K l[k]).var,.string (far K l[k]).name,.slice a2 (far K l[k]).args.length c2] 1 (nR _) (by unfold maxLen;omega) rfl;exact ho.cells (g:=w1.heap.size) rfl)
       have HF2:=lh hf2;have HT2:=lh ht2;have HB1:=lh HB;clear hf2 ht2 hb2 HB)
      | (
       have _g:=HO1;refine eB _ (by rfl) _ _ _ (by rfl) wb.heap.size 71 i0 _ 3 48 Try.underlying48 hi hz0 hz1 hz2 rfl (by decide) (.slice xa L.length xc) L.length (dX L) (by rfl) HO1.out (some ⟨w1.heap.size,0,none⟩) 1 1 (by intro h;cases h) (dX [(far K l[k],a2,c2)]) (by rfl) (by rw[eG];rfl) (by intro ad had;cases had;exact HN1.out) (kU _) (by have:=HLK.out;unfold maxLen;omega) (by have:=HLK.out;omega) (by have:=HR.out.touch.size;have:=HB1.out.size;simp;omega) ?_;intro v3 w3 hown3 hgrow3 hfr3;have HNX:=lh (HR.out.next (fun b hb=>by have:=HOK.out b hb;have:=HSZ.out;omega) (show wr.heap.size≤(wr.alloc (.cells #[.int .i64 l[k].var,.string l[k].name,.slice a' l[k].args.length cap'] 71)).drew.heap.size by simp[World.drew]) HB1.out HF2.out HT2.out ((bR _ _).alloc (nR _) _) hown3 hgrow3 hfr3);obtain⟨g3,cap3,rfl⟩:=bQ hown3 (by omega);have s2:w3.cell? ⟨w.heap.size+1+1,2,none⟩=some (.slice xa L.length xc):=HNX.out.1.c2;have sf:∀o,w3.frozen? ⟨w.heap.size+1+1,o,none⟩=false:=HNX.out.1.fz;clear hown3 hgrow3 hfr3))
     all_goals
      go_wp2_with fail;go_roundw
      case measure=>simp[intOf];omega
      case rel=>exact⟨k+1,_,_,by omega,by go_num,by rw[List.map_append,HL.out,List.take_succ_eq_append_getElem hlt,List.map_append];rfl,HNX.out.2⟩
    ·have HLE:Hid (l.take k=l):=lh (List.take_of_length_le (by omega))
     obtain⟨q40,q41,q42,q43⟩:=q4;go_wp2_with fail;have HD:=lh (HR.out.done (br:=w.heap.size+1) (t:=.mk 0 n (l.map (far K))) HBB.out (by omega) (by omega) (by have:=HSZ.out;omega) HOK.out HF.out.2 (by rw[HL.out,HLE.out]));rw[HRES.out];exact bodyPost_ret (v:=.agg #[.int .i64 0,.string n,.slice xa L.length xc]) (by simp[results,Try.results60,go_sem,q40,q41,q42]) rfl HD.out
  ·have hv1:(v != 0)=true:=by rw[bne_iff_ne];exact hv
   have hx:=HX.out _ (Tm.self_mem (.mk v n l)) hv;simp only[Tm.var] at hx;have HI:=lh hx;unfold I64 at hx;obtain⟨hx1,hx2⟩:=hx;have HRES:Hid (far K (.mk v n l)=aQ (v+K)):=lh (by unfold far;rw[Tm.mapv_var (by exact hv)];rfl);clear hv;go_enter Try.func60,Try.ntmps60;go_wp2_with fail;rw[HRES.out];exact bodyPost_ret (v:=.agg #[.int .i64 (v+K),.string ⟨#[]⟩,.slice none 0 0]) (by simp[results,Try.results60,go_sem]) rfl ⟨none,0,rfl,⟨HI.out,Nat.zero_le _⟩,Ts.empty' _ _,((bR _ _).alloc (nR _) _).alloc (by simp) _⟩
theorem bO7{K:Int}(t:Tm):∀(w:World) (ok:Nat→Prop) (a:Option Addr) (cap:Nat),(∀b,ok b→b<w.heap.size)→rO t→t.fits→Ts w ok t.args a cap→(∀p,p∈t.parts→p.var≠0→I64 (p.var+K)) →
 Calls Try.prog 68 #[.agg #[.int .i64 t.var,.string t.name,.slice a t.args.length cap],.int .i64 K] w (oK w ok (far K t)):=by
 induction t using Tm.ind with
 | h v n l ih =>
  intro w ok a cap hok hsize hfit hrd hx;have IH:=lh ih;have HOK:=lh hok;have HF:=lh hfit;have HX:=lh hx;have HSIZE:=lh hsize;simp only[Tm.var,Tm.name,Tm.args] at hrd ⊢;have HRD:=lh hrd;have hcl:l.length*48≤140737488355328:=by
   have h1:=hsize _ (Tm.self_mem _);simp only[Tm.args] at h1;exact h1
  clear ih hok hfit hx hrd hsize;by_cases hv:v=0
  ·subst hv
   have HRES:Hid (far K (.mk 0 n l)=.mk 0 n (l.map (far K))):=lh (by unfold far;exact Tm.mapv_fn (by rfl));go_enter Try.func68,Try.ntmps68;go_wp2_with fail;have BB:Below w.heap.size w (((w.alloc (.cells #[.int .i64 0,.string n,.slice a l.length cap] 71)).alloc (.cells #[.int .i64 0,.string ⟨#[]⟩,.slice none 0 0] 71)).alloc (.cells #[.int .i64 0,.string n,.slice none 0 0] 71)):=(((bR _ _).alloc (nR _) _).alloc (by simp) _).alloc (by simp;omega) _;have B2:dP (((w.alloc (.cells #[.int .i64 0,.string n,.slice a l.length cap] 71)).alloc (.cells #[.int .i64 0,.string ⟨#[]⟩,.slice none 0 0] 71)).alloc (.cells #[.int .i64 0,.string n,.slice none 0 0] 71)) w.heap.size (.int .i64 0) (.string n) (.slice a l.length cap):=((dP.made w _ _ _).alloc _).alloc _;have B4:dP (((w.alloc (.cells #[.int .i64 0,.string n,.slice a l.length cap] 71)).alloc (.cells #[.int .i64 0,.string ⟨#[]⟩,.slice none 0 0] 71)).alloc (.cells #[.int .i64 0,.string n,.slice none 0 0] 71)) (w.heap.size+1) (.int .i64 0) (.string ⟨#[]⟩) (.slice none 0 0):=(dP.made2 (by simp)).alloc _;have B5:dP (((w.alloc (.cells #[.int .i64 0,.string n,.slice a l.length cap] 71)).alloc (.cells #[.int .i64 0,.string ⟨#[]⟩,.slice none 0 0] 71)).alloc (.cells #[.int .i64 0,.string n,.slice none 0 0] 71)) (w.heap.size+1+1) (.int .i64 0) (.string n) (.slice none 0 0):=dP.made2 (by simp);have hsz:(((w.alloc (.cells #[.int .i64 0,.string n,.slice a l.length cap] 71)).alloc (.cells #[.int .i64 0,.string ⟨#[]⟩,.slice none 0 0] 71)).alloc (.cells #[.int .i64 0,.string n,.slice none 0 0] 71)).heap.size=w.heap.size+3:=by simp
   have HBB:=lh BB;have HB2:=lh B2;have HB4:=lh B4;have HB5:=lh B5;have HSZ:=lh hsz;clear BB B2 B4 B5 hsz;generalize (((w.alloc (.cells #[.int .i64 0,.string n,.slice a l.length cap] 71)).alloc (.cells #[.int .i64 0,.string ⟨#[]⟩,.slice none 0 0] 71)).alloc (.cells #[.int .i64 0,.string n,.slice none 0 0] 71))=wb at *
   go_loopw[6] (fun y wr=>∃(k:Nat) (L:List dS) (x:Value),k≤l.length∧y=.int .i64 k∧L.map (·.1)=(l.take k).map (far K)∧iS wb ok (w.heap.size+1+1) n L x wr) (fun y _=>l.length-(intOf y).toNat)
   case atStart=>exact⟨0,[],.slice none 0 0,Nat.zero_le _,rfl,rfl,iS.start HB5.out⟩
   case round =>
    obtain⟨k,L,x,hk,rfl,hL,hrel⟩:=hrel;have HL:=lh hL;have HR:=lh hrel;obtain⟨xa,xc,rfl⟩:=hrel.form;have p2:=(HB2.out.keep (hrel.touch.block _ HB2.out.lt (by omega))).c2;have q4:=(HB4.out.keep (hrel.touch.block _ HB4.out.lt (by omega))).all;have q0:=hrel.box.c0;have q1:=hrel.box.c1;have q2:=hrel.box.c2;have qf:=hrel.box.fz;have hLk:L.length=k:=by
     have:=congrArg List.length hL;rw[List.length_map,List.length_map,List.length_take] at this;omega
    have HLK:=lh hLk;have HSW:Hid (w.heap.size+3≤wr.heap.size):=lh (by have:=hrel.touch.size;have:=HSZ.out;omega);have HBR:Hid (Below w.heap.size w wr):=lh (HBB.out.trans (hrel.touch.toBelow HBB.out.size (fun b e=>by omega)));clear hrel hL hLk;by_cases hlt:k<l.length
    ·obtain⟨b,off,a',cap',rfl,hokb,hbs,hc,ht⟩:=HRD.out.at k hlt
     have m0:=(HBR.out.cell (p:=⟨b,off+k*3,none⟩) hbs).trans hc.var;have m1:=(HBR.out.cell (p:=⟨b,off+k*3+1,none⟩) hbs).trans hc.name;have m2:=(HBR.out.cell (p:=⟨b,off+k*3+2,none⟩) hbs).trans hc.args;have hk0:(0:Int)≤(k:Int):=by omega
     have hk1:(k:Int)<(l.length:Int):=by omega
     have hmem:l[k]∈l:=List.getElem_mem hlt;have HC:=lh hc.fits;have HTS:=lh ht;clear hc ht;obtain⟨i0,hi,hz0,hz1,hz2⟩:=info_parts Try.infoTm;have HCL:Hid (∀u,Below wr.heap.size wr u→Calls Try.prog 68 #[.agg #[.int .i64 l[k].var,.string l[k].name,.slice a' l[k].args.length cap'],.int .i64 K] u (oK u ok (far K l[k]))):=lh fun u hu =>
      IH.out _ hmem u ok a' cap' (fun b hb=>by have:=HOK.out b hb;have:=hu.size;have:=HSW.out;omega) (fun p hp=>HSIZE.out p (Tm.parts_arg (t:=.mk 0 n l) hmem hp)) HC.out (HTS.out.keep ((aD.below HBR.out ok).trans (aD.below hu ok))) (fun p hp=>HX.out p (Tm.parts_arg (t:=.mk 0 n l) hmem hp))
     go_wp2_with fail
     go_region_law (first
      | (
       go_simp
       go_at_call 68
       refine(HCL.out _ ?_).mono ?_
       ·exact(bR _ _).drew
       rintro e w1 ⟨a2,c2,rfl,hf2,ht2,hb2⟩;have HB:Below wr.heap.size wr w1:=((bR _ _).drew).trans hb2;have r0:w1.cell? ⟨w.heap.size+1+1,2,none⟩=some (.slice xa L.length xc):=(HR.out.box.below HB).c2;have z1:w.heap.size+1+1<w1.heap.size:=(HR.out.box.below HB).lt;have HO1:=lh ((aH HR.out.own.own HB).alloc (.cells #[.int .i64 (far K l[k]).var,.string (far K l[k]).name,.slice a2 (far K l[k]).args.length c2] 71));have HN1:Hid (∀j u,(dX [(far K l[k],a2,c2)])[j]? = some u→(w1.alloc (.cells #[.int .i64 (far K l[k]).var,.string (far K l[k]).name,.slice a2 (far K l[k]).args.length c2] 71)).cell? ((⟨w1.heap.size,0,none⟩:Addr).add j)=some u):=lh (by
        have ho:=World.ownsRow_lit (base:=w1.heap.size) (e:=71) (size:=3) w1 #[.int .i64 (far K l[k]).var,.string (far K l[k]).name,.slice a2 (far K l[k]).args.length c2] 1 (nR _) (by unfold maxLen;omega) rfl;exact ho.cells (g:=w1.heap.size) rfl)
       have HF2:=lh hf2;have HT2:=lh ht2;have HB1:=lh HB;clear hf2 ht2 hb2 HB)
      | (
       have _g:=HO1;refine eB _ (by rfl) _ _ _ (by rfl) wb.heap.size 71 i0 _ 3 48 Try.underlying48 hi hz0 hz1 hz2 rfl (by decide) (.slice xa L.length xc) L.length (dX L) (by rfl) HO1.out (some ⟨w1.heap.size,0,none⟩) 1 1 (by intro h;cases h) (dX [(far K l[k],a2,c2)]) (by rfl) (by rw[eG];rfl) (by intro ad had;cases had;exact HN1.out) (kU _) (by have:=HLK.out;unfold maxLen;omega) (by have:=HLK.out;omega) (by have:=HR.out.touch.size;have:=HB1.out.size;simp;omega) ?_;intro v3 w3 hown3 hgrow3 hfr3;have HNX:=lh (HR.out.next (fun b hb=>by have:=HOK.out b hb;have:=HSZ.out;omega) (show wr.heap.size≤wr.drew.heap.size from nR _) HB1.out HF2.out HT2.out ((bR _ _).alloc (nR _) _) hown3 hgrow3 hfr3);obtain⟨g3,cap3,rfl⟩:=bQ hown3 (by omega);have s2:w3.cell? ⟨w.heap.size+1+1,2,none⟩=some (.slice xa L.length xc):=HNX.out.1.c2;have sf:∀o,w3.frozen? ⟨w.heap.size+1+1,o,none⟩=false:=HNX.out.1.fz;clear hown3 hgrow3 hfr3))
     all_goals
      go_wp2_with fail;go_roundw
      case measure=>simp[intOf];omega
      case rel=>exact⟨k+1,_,_,by omega,by go_num,by rw[List.map_append,HL.out,List.take_succ_eq_append_getElem hlt,List.map_append];rfl,HNX.out.2⟩
    ·have HLE:Hid (l.take k=l):=lh (List.take_of_length_le (by omega))
     obtain⟨q40,q41,q42,q43⟩:=q4;go_wp2_with fail;have HD:=lh (HR.out.done (br:=w.heap.size+1) (t:=.mk 0 n (l.map (far K))) HBB.out (by omega) (by omega) (by have:=HSZ.out;omega) HOK.out HF.out.2 (by rw[HL.out,HLE.out]));rw[HRES.out];exact bodyPost_ret (v:=.agg #[.int .i64 0,.string n,.slice xa L.length xc]) (by simp[results,Try.results68,go_sem,q40,q41,q42]) rfl HD.out
  ·have hv1:(v != 0)=true:=by rw[bne_iff_ne];exact hv
   have hx:=HX.out _ (Tm.self_mem (.mk v n l)) hv;simp only[Tm.var] at hx;have HI:=lh hx;unfold I64 at hx;obtain⟨hx1,hx2⟩:=hx;have HRES:Hid (far K (.mk v n l)=aQ (v+K)):=lh (by unfold far;rw[Tm.mapv_var (by exact hv)];rfl);clear hv;go_enter Try.func68,Try.ntmps68;go_wp2_with fail;rw[HRES.out];exact bodyPost_ret (v:=.agg #[.int .i64 (v+K),.string ⟨#[]⟩,.slice none 0 0]) (by simp[results,Try.results68,go_sem]) rfl ⟨none,0,rfl,⟨HI.out,Nat.zero_le _⟩,Ts.empty' _ _,((bR _ _).alloc (nR _) _).alloc (by simp) _⟩
theorem bI3{w:World}{ok:Nat→Prop}(t u:Tm){a b:Option Addr}{c d:Nat}(ht:Ts w ok t.args a c)(hu:Ts w ok u.args b d)(hf:t.fits)(hg:u.fits)(hok:ok w.heap.size) :
 Ts (w.alloc (.cells #[.int .i64 t.var,.string t.name,.slice a t.args.length c,.int .i64 u.var,.string u.name,.slice b u.args.length d] 71)) ok [t,u] (some ⟨w.heap.size,0,none⟩) 2:=by
 have hk:aD ok w (w.alloc (.cells #[.int .i64 t.var,.string t.name,.slice a t.args.length c,.int .i64 u.var,.string u.name,.slice b u.args.length d] 71)):=aD.below ((bR _ _).alloc (nR _) _) ok;refine .mk [t,u] _ 2 ⟨nR _,by unfold maxLen;omega,fun h=>by cases h⟩ (fun i=>if i=0 then (a,c) else (b,d)) (fun i hi=>?_) (fun i hi=>?_)
 ·rcases (by simp at hi;omega:i=0∨i=1) with rfl|rfl
  ·refine⟨w.heap.size,0,rfl,hok,by simp,jR.mk ?_ ?_ ?_ hf⟩
   all_goals simp[World.cell?,World.alloc,-World.alloc_eq]
  ·refine⟨w.heap.size,0,rfl,hok,by simp,jR.mk ?_ ?_ ?_ hg⟩
   all_goals simp[World.cell?,World.alloc,-World.alloc_eq]
 ·rcases (by simp at hi;omega:i=0∨i=1) with rfl|rfl
  ·exact ht.keep hk
  ·exact hu.keep hk


end Go.Proofs.Ytikmgiapjigghab
