/- Walk: Unify. -/
import Derived.Deep.RegionHeld3
import Derived.Test.YtikmgiapjigghabCb03
import Derived.Test.YtikmgiapjigghabCb07
import Derived.Test.YtikmgiapjigghabCb10
import Derived.Test.YtikmgiapjigghabCb11
import Derived.Test.YtikmgiapjigghabCb14
namespace Go.Proofs.Ytikmgiapjigghab
open Go.RowKit
theorem OwnTs.more{wb wr wX w1 X2 w2:World}{ok:Nat→Prop}{L:List TmAt}{x x':Value}(h:OwnTs wr wb.heap.size (OkN ok wb) x L)(hw:Below wb.heap.size wb wr)(hok:∀ b,ok b→b<wb.heap.size)(hX:wr.heap.size≤wX.heap.size)
 (hb:Below wr.heap.size wr w1) {t:Tm} {a:Option Addr} {c:Nat} (hf:t.fits) (ht:Ts w1 (OkN ok wX) t.args a c) (hX2:Below w1.heap.size w1 X2)
 (ho:w2.ownsRow wb.heap.size 71 3 x' (L.length+1) (flat L++flat [(t,a,c)])) (hg:X2.grownBy w2 x.ownBlock) (hfr:Fresh X2 x x') :
 OwnTs w2 wb.heap.size (OkN ok wb) x' (L++[(t,a,c)])∧Below wb.heap.size wb w2:=by
 have hxb:∀ g,x.ownBlock=some g→wb.heap.size≤g∧g<wr.heap.size:=fun g hg=>h.block hg
 have hW:Below wr.heap.size wr X2:=hb.trans (hX2.mono hb.size)
 have hE:TsEach X2 (Free x (OkN ok wb)) [(t,a,c)]:=by
  refine TsEach.one hf ((ht.keep (Keeps.below hX2 _)).mono fun b _ hk=>?_)
  rcases hk with hk | hk
  ·exact⟨.inl hk,fun e=>by have:=(hxb b e).1;have:=hok b hk;omega⟩
  ·exact⟨.inr (by have:=hw.size;omega),fun e=>by have:=(hxb b e).2;omega⟩
 have h2:OwnTs w2 wb.heap.size (OkN ok wb) x' (L++[(t,a,c)]):=(h.below hW).append hE (by simpa using ho) hg hfr
 refine⟨h2,?_⟩
 have hT:Touch (fun b=>x.ownBlock=some b) X2 w2:=Touch.grown hg fun k e=>e
 exact(hw.trans (hW.mono hw.size)).trans (hT.toBelow (Nat.le_trans hw.size hW.size) fun b e=>(hxb b e).1)
theorem OwnTs.form{w:World}{base:Nat}{ok:Nat→Prop}{L:List TmAt}{x:Value}(h:OwnTs w base ok x L):∃ a cap,x=.slice a L.length cap:=by
 rcases h.own.2 with ⟨h1,h2⟩ | ⟨g,cap,cur,h1,_⟩
 ·exact⟨none,0,by rw[h1,h2]⟩
 ·exact⟨_,_,h1⟩
theorem OwnTs.ret{w wb wr:World}{ok:Nat→Prop}{L:List TmAt}{x:Value}(h:OwnTs wr wb.heap.size (OkN ok wb) x L)(hw:w.heap.size≤wb.heap.size):∃ a cap,x=.slice a (L.map (·.1)).length cap∧Ts wr (OkN ok w) (L.map (·.1)) a cap:=by
 have h1:TsEach wr (OkN ok w) L:=h.each.mono fun b _ hk=>by
  rcases hk.1 with h3 | h3
  ·exact .inl h3
  ·exact .inr (by omega)
 have ho:wr.ownsRow w.heap.size 71 3 x L.length (flat L):=by
  refine⟨h.own.1,h.own.2.imp id ?_⟩
  rintro ⟨g,cap,cur,a1,a2,a3⟩
  exact⟨g,cap,cur,a1,Nat.le_trans hw a2,a3⟩
 exact Ts.of_row ho (fun b hb=>.inr hb) h1
theorem SInv.none:SInv (fun _=>Option.none):=Sim.start.inv
theorem Tm.partss_of{l:List Tm}{p:Tm}(h:p∈Tm.partss l):∃ t,t∈l∧p∈t.parts:=by
 induction l with
 | nil=>cases h
 | cons t l ih =>
  rw[Tm.partss,List.mem_append] at h
  rcases h with h | h
  ·exact⟨t,List.mem_cons_self,h⟩
  ·obtain⟨u,hu,hp⟩:=ih h
   exact⟨u,List.mem_cons_of_mem _ hu,hp⟩
theorem mem_addV'{s:List Int}{v x:Int}:x∈addV s v↔x∈s∨x=v:=by
 unfold addV
 by_cases h:v∈s
 ·rw[if_pos h];exact⟨.inl,fun e=>e.elim id fun e=>e ▸ h⟩
 ·rw[if_neg h,List.mem_append,List.mem_singleton]
theorem idxOf_inj{P:Int→Prop}{g:Int→Int}(hg:∀ v w,P v→P w→g v=g w→v=w){v:Int}(hv:P v):∀ s:List Int,(∀ x,x∈s→P x)→(s.map g).idxOf (g v)=s.idxOf v:=by
 intro s
 induction s with
 | nil=>intro _;rfl
 | cons a s ih =>
  intro hs
  have ha:=hs a List.mem_cons_self
  have hr:=ih fun x hx=>hs x (List.mem_cons_of_mem _ hx)
  rw[List.map_cons,List.idxOf_cons,List.idxOf_cons,hr]
  by_cases e:a=v
  ·subst e;simp
  ·have e2:¬ g a=g v:=fun e2=>e (hg a v ha hv e2)
   rw[show (g a == g v)=false by simpa using e2,show (a == v)=false by simpa using e]
theorem mem_inj{P:Int→Prop}{g:Int→Int}(hg:∀ v w,P v→P w→g v=g w→v=w){v:Int}(hv:P v){s:List Int}(hs:∀ x,x∈s→P x):g v∈s.map g↔v∈s:=by
 rw[List.mem_map]
 exact⟨fun ⟨a,ha,e⟩=>by rw[← hg a v (hs a ha) hv e];exact ha,fun h=>⟨v,h,rfl⟩⟩
theorem numV_inj{P:Int→Prop}{g:Int→Int}(hg:∀ v w,P v→P w→g v=g w→v=w){v:Int}(hv:P v){s:List Int}(hs:∀ x,x∈s→P x) :
 numV (s.map g) (g v)=((numV s v).1,(numV s v).2.map g)∧∀ x,x∈(numV s v).2→P x:=by
 have ha:addV (s.map g) (g v)=(addV s v).map g:=by
  unfold addV
  by_cases e:v∈s
  ·rw[if_pos e,if_pos ((mem_inj hg hv hs).2 e)]
  ·rw[if_neg e,if_neg (fun h=>e ((mem_inj hg hv hs).1 h)),List.map_append];rfl
 have hp:∀ x,x∈addV s v→P x:=fun x hx=>by
  rcases mem_addV'.1 hx with h | h
  ·exact hs x h
  ·exact h ▸ hv
 refine⟨?_,hp⟩
 simp only[numV]
 rw[ha,idxOf_inj hg hv _ hp]
theorem ren_inj{P:Int→Prop}{g:Int→Int}(hg:∀ v w,P v→P w→g v=g w→v=w)(hz:∀ v,P v→g v≠0)(t:Tm):∀ s:List Int,WfT t→(∀ p,p∈t.parts→p.var≠0→P p.var)→(∀ x,x∈s→P x) →
 Tm.ren numV (s.map g) (t.mapv g)=((Tm.ren numV s t).1,(Tm.ren numV s t).2.map g)∧∀ x,x∈(Tm.ren numV s t).2→P x:=by
 induction t using Tm.ind with
 | h v n l ih =>
  intro s hw hp hs
  by_cases hv:v=0
  ·subst hv
   rw[Tm.mapv_fn (t:=.mk 0 n l) rfl]
   have hl:∀ (r:List Tm) (s:List Int),(∀ x,x∈r→x∈l)→(∀ x,x∈s→P x)→Tm.rens numV (s.map g) (r.map (Tm.mapv g))=((Tm.rens numV s r).1,(Tm.rens numV s r).2.map g)∧∀ x,x∈(Tm.rens numV s r).2→P x:=by
    intro r
    induction r with
    | nil=>intro s _ hs;exact⟨rfl,hs⟩
    | cons x r ihr =>
     intro s hr hs
     have hx:=hr x List.mem_cons_self
     obtain⟨h1,h2⟩:=ih x hx s (hw.arg (t:=.mk 0 n l) hx) (fun p hpp=>hp p (Tm.parts_arg (t:=.mk 0 n l) hx hpp)) hs
     obtain⟨h3,h4⟩:=ihr (Tm.ren numV s x).2 (fun y hy=>hr y (List.mem_cons_of_mem _ hy)) h2
     simp only[List.map_cons,Tm.rens,h1,h3]
     exact⟨trivial,h4⟩
   obtain⟨h1,h2⟩:=hl l s (fun _ h=>h) hs
   simp only[Tm.name,Tm.args,Tm.ren]
   rw[if_neg (fun h=>h rfl),if_neg (fun h=>h rfl),h1]
   exact⟨rfl,h2⟩
  ·have hP:P v:=hp _ (Tm.self_mem _) hv
   rw[Tm.mapv_var (t:=.mk v n l) hv]
   obtain⟨h1,h2⟩:=numV_inj hg hP hs
   have e1:Tm.ren numV (s.map g) (VarT (g v))=(.mk (numV (s.map g) (g v)).1 ⟨#[]⟩ [],(numV (s.map g) (g v)).2):=by simp only[Tm.ren];rw[if_pos (hz v hP)]
   have e2:Tm.ren numV s (.mk v n l)=(.mk (numV s v).1 ⟨#[]⟩ [],(numV s v).2):=by simp only[Tm.ren];rw[if_pos hv]
   show Tm.ren numV (s.map g) (VarT (g v))=_∧_
   rw[e1,e2,h1]
   exact⟨rfl,h2⟩
section
variable {q:Int→Int} {n:Nat} {τ ρ:Sub}
end
abbrev Goal:=Tm×Nat
structure PCh where
 gs:List Goal
 cl:Nat
 σ:Sub
 L:List Int
structure PS where
 σ:Sub
 L:List Int
 f:Nat
 vars:Nat
 ch:List PCh
 now:List Goal
 ans:List (List Tm)
 fin:Nat
 steps:Nat
def FitC(c:Cl)(t:Tm):Prop:=c.head.name=t.name∧c.head.args.length=t.args.length
noncomputable instance (c:Cl) (t:Tm):Decidable (FitC c t):=Classical.propDecidable _
noncomputable def nextF(p:List Cl)(t:Tm)(i:Nat):Nat :=
 if h:i<p.length then (if FitC p[i] t then i else nextF p t (i+1)) else i
termination_by p.length-i
theorem nextF_stop{p:List Cl}{t:Tm}{i:Nat}(h:¬ i<p.length):nextF p t i=i:=by unfold nextF;rw[dif_neg h]
theorem nextF_fit{p:List Cl}{t:Tm}{i:Nat}(h:i<p.length)(hf:FitC p[i] t):nextF p t i=i:=by unfold nextF;rw[dif_pos h,if_pos hf]
theorem nextF_next{p:List Cl}{t:Tm}{i:Nat}(h:i<p.length)(hf:¬ FitC p[i] t):nextF p t i=nextF p t (i+1):=by conv=>lhs;unfold nextF;rw[dif_pos h,if_neg hf]
theorem nextF_ge(p:List Cl)(t:Tm):∀ (m i:Nat),p.length-i=m→i≤nextF p t i∧(i≤p.length→nextF p t i≤p.length):=by
 intro m
 induction m with
 | zero=>intro i h;rw[nextF_stop (by omega)];omega
 | succ m ih =>
  intro i h
  have hi:i<p.length:=by omega
  by_cases hf:FitC p[i] t
  ·rw[nextF_fit hi hf];omega
  ·rw[nextF_next hi hf]
   have:=ih (i+1) (by omega)
   omega
theorem nextF_is(p:List Cl)(t:Tm):∀ (m i:Nat),p.length-i=m→(h:nextF p t i<p.length)→FitC p[nextF p t i] t:=by
 intro m
 induction m with
 | zero=>intro i h h2;rw[nextF_stop (by omega)] at h2;omega
 | succ m ih =>
  intro i h h2
  have hi:i<p.length:=by omega
  by_cases hf:FitC p[i] t
  ·simp only[nextF_fit hi hf];exact hf
  ·simp only[nextF_next hi hf] at h2 ⊢;exact ih (i+1) (by omega) h2
def far(k:Int)(t:Tm):Tm:=t.mapv fun v=>v+k
def bodyG(k:Int)(cut:Nat)(l:List Tm):List Goal:=l.map fun b=>(far k b,cut)
noncomputable def pclause(p:List Cl)(gs:List Goal)(t:Tm)(c:Cl)(i:Nat)(S:PS):PS×Option Bool :=
 match meet S.σ S.L S.f [(far S.vars c.head,t)] with
 | .ok σ L f=>({ S with σ:=σ,L:=L,f:=f,vars:=S.vars+12,ch:=if nextF p t (i+1)<p.length then S.ch++[⟨gs,nextF p t (i+1),S.σ,S.L⟩] else S.ch,now:=bodyG S.vars S.ch.length c.body++gs.tail },some true)
 | .no _ _ f=>({ S with f:=f,vars:=S.vars+12 },none)
 | .many _ _=>({ S with f:=0,vars:=S.vars+12,fin:=3 },some true)
noncomputable def pcall(p:List Cl)(gs:List Goal)(t:Tm)(i:Nat)(S:PS):PS×Bool :=
 if h:i<p.length then
  if FitC p[i] t then
   match pclause p gs t p[i] i S with
   | (S',some b)=>(S',b)
   | (S',none)=>pcall p gs t (i+1) S'
  else pcall p gs t (i+1) S
 else (S,false)
termination_by p.length-i
theorem pcall_stop{p:List Cl}{gs:List Goal}{t:Tm}{i:Nat}{S:PS}(h:¬ i<p.length):pcall p gs t i S=(S,false):=by unfold pcall;rw[dif_neg h]
theorem pcall_skip{p:List Cl}{gs:List Goal}{t:Tm}{i:Nat}{S:PS}(h:i<p.length)(hf:¬ FitC p[i] t):pcall p gs t i S=pcall p gs t (i+1) S:=by conv=>lhs;unfold pcall;rw[dif_pos h,if_neg hf]
theorem pcall_done{p:List Cl}{gs:List Goal}{t:Tm}{i:Nat}{S S':PS}{b:Bool}(h:i<p.length)(hf:FitC p[i] t)(hc:pclause p gs t p[i] i S=(S',some b)):pcall p gs t i S=(S',b):=by
 conv=>lhs;unfold pcall;rw[dif_pos h,if_pos hf,hc]
theorem pcall_go{p:List Cl}{gs:List Goal}{t:Tm}{i:Nat}{S S':PS}(h:i<p.length)(hf:FitC p[i] t)(hc:pclause p gs t p[i] i S=(S',none)):pcall p gs t i S=pcall p gs t (i+1) S':=by
 conv=>lhs;unfold pcall;rw[dif_pos h,if_pos hf,hc]
theorem pcall_next{p:List Cl}{gs:List Goal}{t:Tm}{S:PS}:∀ (m i:Nat),p.length-i=m→pcall p gs t i S=pcall p gs t (nextF p t i) S:=by
 intro m
 induction m with
 | zero=>intro i h;rw[nextF_stop (by omega)]
 | succ m ih =>
  intro i h
  have hi:i<p.length:=by omega
  by_cases hf:FitC p[i] t
  ·rw[nextF_fit hi hf]
  ·rw[nextF_next hi hf,pcall_skip hi hf];exact ih (i+1) (by omega)
def headT(gs:List Goal):Tm:=(gs.head?.map (·.1)).getD default
noncomputable def pback(p:List Cl):Nat→PS→PS
 | 0,S=>{ S with fin:=1 }
 | n+1,S =>
  match S.ch[n]? with
  | none=>S
  | some c =>
   let r:=pcall p c.gs (look c.σ (headT c.gs)) c.cl { S with ch:=S.ch.take n,σ:=c.σ,L:=c.L,f:=4000 }
   if r.2=true then r.1 else pback p n r.1
noncomputable def ptake(p:List Cl)(S:PS):PS :=
 let S1:PS:={ S with steps:=S.steps+1,f:=4000 }
 let t:=look S.σ (headT S.now)
 if t.var≠0 then { S1 with fin:=4 }
 else if meansB t.name t.args.length=false then
  let r:=pcall p S.now t 0 S1
  if r.2=true then r.1 else pback p r.1.ch.length r.1
 else if t.name=⟨#[33]⟩ then { S1 with ch:=S.ch.take ((S.now.head?.map (·.2)).getD 0),now:=S.now.tail }
 else if t.name=⟨#[116,114,117,101]⟩ then { S1 with now:=S.now.tail }
 else if t.name=⟨#[102,97,105,108]⟩ then pback p S.ch.length S1
 else match meet S.σ S.L 4000 [(t.args.getD 0 default,t.args.getD 1 default)] with
  | .ok σ L f=>{ S1 with σ:=σ,L:=L,f:=f,now:=S.now.tail }
  | .no _ _ f=>pback p S.ch.length { S1 with f:=f,now:=S.now.tail }
  | .many _ _=>{ S1 with f:=0,fin:=3,now:=S.now.tail }
def varsL(n:Nat):List Tm:=(List.range n).map fun i:Nat=>VarT ((i:Int)+1)
noncomputable def pansw(p:List Cl)(query:Nat)(S:PS):PS :=
 match thrL S.σ 200 (varsL query) with
 | none=>{ S with fin:=3 }
 | some x =>
  if S.ans.length+1=40 then { S with ans:=S.ans++[(Tm.rens numV [] x.1).1],fin:=1 }
  else pback p S.ch.length { S with ans:=S.ans++[(Tm.rens numV [] x.1).1] }
noncomputable def pstep(p:List Cl)(query:Nat)(most:Int)(S:PS):PS :=
 if S.now = [] then pansw p query S else if (S.steps:Int)=most then { S with fin:=2 } else ptake p S
theorem Fit.mono{n m:Nat}{t:Tm}(h:Fit n t)(hm:n≤m):Fit m t:=⟨h.wf,fun p hp=>⟨Nat.lt_of_lt_of_le (h.bd p hp).1 hm,(h.bd p hp).2⟩⟩
theorem partss_sub:∀ (l:List Tm) (p:Tm),p∈Tm.partss l→∃ x,x∈l∧p∈x.parts:=by
 intro l
 induction l with
 | nil=>intro p h;simp[Tm.partss] at h
 | cons a r ih =>
  intro p h
  rw[Tm.partss,List.mem_append] at h
  rcases h with h | h
  ·exact⟨a,List.mem_cons_self,h⟩
  ·obtain⟨x,h1,h2⟩:=ih p h
   exact⟨x,List.mem_cons_of_mem _ h1,h2⟩
theorem Fit.map{n m:Nat}{f:Int→Int}(t:Tm):Fit n t→(∀ v:Int,1≤v→v.toNat<n→1≤f v∧(f v).toNat<m)→0<m→Fit m (t.mapv f):=by
 induction t using Tm.ind with
 | h v nm l ih =>
  intro hf hS hm
  by_cases hv:v=0
  ·subst hv
   rw[Tm.mapv_fn (t:=.mk 0 nm l) rfl]
   simp only[Tm.name,Tm.args]
   have ha:∀ x,x∈l→Fit m (x.mapv f):=fun x hx=>ih x hx (hf.arg (t:=.mk 0 nm l) hx) hS hm
   refine⟨fun p hp=>?_,fun p hp=>?_⟩
   ·rw[Tm.parts] at hp
    rcases List.mem_cons.1 hp with rfl | hp
    ·exact⟨Int.le_refl _,fun e=>absurd rfl e⟩
    ·obtain⟨y,hy,hp⟩:=partss_sub _ _ hp
     obtain⟨x,hx,rfl⟩:=List.mem_map.1 hy
     exact(ha x hx).wf p hp
   ·rw[Tm.parts] at hp
    rcases List.mem_cons.1 hp with rfl | hp
    ·have:=hf.len
     simp only[Tm.var,Tm.args] at this ⊢
     rw[List.length_map];exact⟨hm,this⟩
    ·obtain⟨y,hy,hp⟩:=partss_sub _ _ hp
     obtain⟨x,hx,rfl⟩:=List.mem_map.1 hy
     exact(ha x hx).bd p hp
  ·rw[Tm.mapv_var (t:=.mk v nm l) hv]
   have h1:=hf.pos
   simp only[Tm.var] at h1 ⊢
   have h2:=hS v (by omega) h1.2
   exact fit_var (by omega) h2.2
theorem fit_parts{n:Nat}{t:Tm}(h:Fit n t){p:Tm}(hp:p∈t.parts)(hv:p.var≠0):1≤p.var∧p.var.toNat<n:=by
 have h1:=(h.wf p hp).1
 have h2:=(h.bd p hp).1
 exact⟨by omega,h2⟩
theorem far_fit'{n:Nat}{t:Tm}(h:Fit 13 t):Fit (n+13) (far (n:Int) t):=Fit.map t h (fun v h1 h2=>by omega) (by omega)
def POk(p:List Cl):Prop:=∀ c,c∈p→Fit 13 c.head∧∀ b,b∈c.body→Fit 13 b
theorem nextF_rel{p:List Cl}{s t:Tm}(hn:s.name=t.name)(hl:s.args.length=t.args.length):∀ (m i:Nat),p.length-i=m→nextF p s i=nextF p t i:=by
 intro m
 induction m with
 | zero=>intro i h;rw[nextF_stop (by omega),nextF_stop (by omega)]
 | succ m ih =>
  intro i h
  have hi:i<p.length:=by omega
  by_cases hf:FitC p[i] t
  ·rw[nextF_fit hi hf,nextF_fit hi (by unfold FitC at *;rw[hn,hl];exact hf)]
  ·rw[nextF_next hi hf,nextF_next hi (by unfold FitC at *;rw[hn,hl];exact hf),ih (i+1) (by omega)]
theorem pcall_ch{p:List Cl}{gs:List Goal}{s:Tm}:∀ (m i:Nat) (S:PS),p.length-i=m→(pcall p gs s i S).2=false→(pcall p gs s i S).1.ch=S.ch:=by
 intro m
 induction m with
 | zero=>intro i S h _;rw[pcall_stop (by omega)]
 | succ m ih =>
  intro i S h
  have hi:i<p.length:=by omega
  by_cases hf:FitC p[i] s
  ·cases hA:Go.Proofs.Ytikmgiapjigghab.meet S.σ S.L S.f [(far S.vars p[i].head,s)] with
   | ok σ' L' f' =>
    have hpc:pclause p gs s p[i] i S=({ S with σ:=σ',L:=L',f:=f',vars:=S.vars+12,ch:=if nextF p s (i+1)<p.length then S.ch++[⟨gs,nextF p s (i+1),S.σ,S.L⟩] else S.ch,now:=bodyG S.vars S.ch.length p[i].body++gs.tail },some true):=by unfold pclause;rw[hA]
    rw[pcall_done hi hf hpc]
    intro e;cases e
   | no σ' L' f' =>
    have hpc:pclause p gs s p[i] i S=({ S with f:=f',vars:=S.vars+12 },none):=by unfold pclause;rw[hA]
    rw[pcall_go hi hf hpc]
    exact ih (i+1) _ (by omega)
   | many σ' L' =>
    have hpc:pclause p gs s p[i] i S=({ S with f:=0,vars:=S.vars+12,fin:=3 },some true):=by unfold pclause;rw[hA]
    rw[pcall_done hi hf hpc]
    intro e;cases e
  ·rw[pcall_skip hi hf]
   exact ih (i+1) S (by omega)
theorem rens_inj{P:Int→Prop}{g:Int→Int}(hg:∀ v w,P v→P w→g v=g w→v=w)(hz:∀ v,P v→g v≠0)(l:List Tm)(hw:∀ t,t∈l→WfT t)(hp:∀ t,t∈l→∀ p,p∈t.parts→p.var≠0→P p.var):(Tm.rens numV [] (l.map (Tm.mapv g))).1=(Tm.rens numV [] l).1:=by
 have h:=(ren_inj hg hz (.mk 0 ⟨#[]⟩ l) [] (fun p hp'=>by
  rw[Tm.parts] at hp'
  rcases List.mem_cons.1 hp' with rfl | hp'
  ·exact⟨Int.le_refl _,fun e=>absurd rfl e⟩
  ·obtain⟨x,hx,hp'⟩:=partss_sub _ _ hp'
   exact hw x hx p hp') (fun p hp' hv=>by
  rw[Tm.parts] at hp'
  rcases List.mem_cons.1 hp' with rfl | hp'
  ·exact absurd rfl hv
  ·obtain⟨x,hx,hp'⟩:=partss_sub _ _ hp'
   exact hp x hx p hp' hv) (fun x hx=>nomatch hx)).1
 rw[Tm.mapv_fn (t:=.mk 0 ⟨#[]⟩ l) rfl] at h
 simp only[Tm.name,Tm.args,Tm.ren,List.map_nil] at h
 rw[if_neg (fun e=>e rfl),if_neg (fun e=>e rfl)] at h
 have:=congrArg (fun x:Tm×List Int=>x.1.args) h
 simpa[Tm.args] using this
def Grow(σ:Sub)(L:List Int)(σ':Sub)(L':List Int):Prop :=
 ∃ N:List Int,L'=L++N∧N.Nodup∧(∀ x,x∈N→σ x=none∧σ' x≠none)∧∀ x,x ∉ N→σ' x = σ x
theorem Grow.refl(σ:Sub)(L:List Int):Grow σ L σ L:=⟨[],by simp,List.nodup_nil,fun x hx=>(nomatch hx),fun _ _=>rfl⟩
theorem Grow.trans{σ σ1 σ2:Sub}{L L1 L2:List Int}(h:Grow σ L σ1 L1)(k:Grow σ1 L1 σ2 L2):Grow σ L σ2 L2:=by
 obtain⟨N,rfl,h1,h2,h3⟩:=h
 obtain⟨M,rfl,k1,k2,k3⟩:=k
 have hd:∀ x,x∈N→x ∉ M:=fun x hx hy=>(h2 x hx).2 (k2 x hy).1
 refine⟨N++M,by simp,List.nodup_append.2 ⟨h1,k1,fun a ha b hb e=>hd a ha (e ▸ hb)⟩,fun x hx=>?_,fun x hx=>?_⟩
 ·rcases List.mem_append.1 hx with hx | hx
  ·exact⟨(h2 x hx).1,by rw[k3 x (hd x hx)];exact(h2 x hx).2⟩
  ·have:x ∉ N:=fun e=>hd x e hx
   exact⟨by rw[← h3 x this];exact(k2 x hx).1,(k2 x hx).2⟩
 ·rw[List.mem_append,not_or] at hx
  rw[k3 x hx.2,h3 x hx.1]
theorem Grow.one{σ:Sub}{L:List Int}{k:Int}{u:Tm}(h:σ k=none):Grow σ L (upd σ k u) (L++[k]) :=
 ⟨[k],rfl,by simp,fun x hx=>by rw[List.mem_singleton] at hx;subst hx;exact⟨h,by unfold upd;rw[if_pos rfl];simp⟩,fun x hx=>by
  rw[List.mem_singleton] at hx;unfold upd;rw[if_neg hx]⟩
def undo(σ:Sub)(L:List Int)(k:Nat):Sub:=fun v=>if v∈L.drop k then none else σ v
theorem Grow.back{σ σ':Sub}{L L':List Int}(h:Grow σ L σ' L'):undo σ' L' L.length = σ∧L'.take L.length=L∧L.length≤L'.length:=by
 obtain⟨N,rfl,h1,h2,h3⟩:=h
 refine⟨?_,by simp,by simp⟩
 funext x
 unfold undo
 rw[List.drop_left]
 by_cases hx:x∈N
 ·rw[if_pos hx,(h2 x hx).1]
 ·rw[if_neg hx,h3 x hx]
def TrailOk(σ:Sub)(L:List Int):Prop:=L.Nodup∧∀ x,x∈L→σ x≠none
theorem Grow.ok{σ σ':Sub}{L L':List Int}(h:Grow σ L σ' L')(k:TrailOk σ L):TrailOk σ' L':=by
 obtain⟨N,rfl,h1,h2,h3⟩:=h
 refine⟨List.nodup_append.2 ⟨k.1,h1,fun a ha b hb e=>k.2 a ha (e ▸ (h2 b hb).1)⟩,fun x hx=>?_⟩
 by_cases hn:x∈N
 ·exact(h2 x hn).2
 ·rw[h3 x hn];exact k.2 x ((List.mem_append.1 hx).resolve_right hn)
theorem step_grow{σ:Sub}(hi:SInv σ){s t:Tm}(L:List Int)(f:Nat) :
 match pairStep σ L f (look σ s) (look σ t) with
 | .done (.ok _ _ _)=>False
 | .done (.no σ' L' f')=>σ' = σ∧L'=L∧f'≤f
 | .done (.many σ' L')=>σ' = σ∧L'=L
 | .go σ' L' f' _=>Grow σ L σ' L'∧2*L'.length+f'≤2*L.length+f+1:=by
 have hb:∀ (v:Int) (u:Tm),σ v=none→(u.var=0∨σ u.var=none)→match bindStep σ L v u f with
  | .done (.ok _ _ _)=>False
  | .done (.no σ' L' f')=>σ' = σ∧L'=L∧f'≤f
  | .done (.many σ' L')=>σ' = σ∧L'=L
  | .go σ' L' f' _=>Grow σ L σ' L'∧2*L'.length+f'≤2*L.length+f+1:=fun v u hv hu=>by
  unfold bindStep
  cases hw:within σ v f [u] with
  | yes g=>exact⟨rfl,rfl,(within_le σ v f [u]).1 g hw⟩
  | many=>exact⟨rfl,rfl⟩
  | no g =>
   have hlt:=within_lt hw
   refine⟨Grow.one ?_,?_⟩
   ·unfold bindS
    by_cases hlt2:v<u.var
    ·rw[if_pos hlt2]
     rcases hu with h0 | h0
     ·show σ u.var=none
      rw[h0]
      cases e:σ 0 with
      | none=>rfl
      | some x=>have:=(hi.each _ _ e).1;omega
     ·exact h0
    ·rw[if_neg hlt2];exact hv
   ·rw[List.length_append,List.length_singleton];omega
 have hs1:=look_stop hi.rank.ends s
 have hs2:=look_stop hi.rank.ends t
 unfold pairStep
 by_cases c1:(look σ s).var≠0∧(look σ s).var=(look σ t).var
 ·rw[if_pos c1];exact⟨Grow.refl _ _,by omega⟩
 ·rw[if_neg c1]
  by_cases c2:(look σ s).var≠0
  ·rw[if_pos c2];exact hb _ _ (hs1.resolve_left c2) hs2
  ·rw[if_neg c2]
   by_cases c3:(look σ t).var≠0
   ·rw[if_pos c3];exact hb _ _ (hs2.resolve_left c3) hs1
   ·rw[if_neg c3]
    by_cases c4:(look σ s).name≠(look σ t).name∨(look σ s).args.length≠(look σ t).args.length
    ·rw[if_pos c4];exact⟨rfl,rfl,Nat.le_refl _⟩
    ·rw[if_neg c4];exact⟨Grow.refl _ _,by omega⟩
def GrowOut(σ:Sub)(L:List Int)(f:Nat):MOut→Prop
 | .ok σ' L' f'=>Grow σ L σ' L'∧2*L'.length+f'≤2*L.length+f
 | .no σ' L' f'=>Grow σ L σ' L'∧2*L'.length+f'≤2*L.length+f
 | .many σ' L'=>Grow σ L σ' L'∧2*L'.length≤2*L.length+f
theorem meet_grow:∀ (f:Nat) (σ:Sub) (L:List Int) (ps:List (Tm×Tm)),SInv σ→(∀ p∈ps,WfT p.1∧WfT p.2)→GrowOut σ L f (meet σ L f ps):=by
 intro f
 induction f using Nat.strongRecOn with
 | _ f ih =>
  intro σ L ps hi hp
  cases ps with
  | nil=>rw[meet_nil];exact⟨Grow.refl _ _,Nat.le_refl _⟩
  | cons p r =>
   cases f with
   | zero=>rw[meet_zero];exact⟨Grow.refl _ _,by omega⟩
   | succ f =>
    obtain⟨w1,w2⟩:=hp p List.mem_cons_self
    have hs:=step_grow hi (s:=p.1) (t:=p.2) L f
    cases h1:pairStep σ L f (look σ p.1) (look σ p.2) with
    | done o =>
     rw[h1] at hs
     rw[meet_done _ h1]
     cases o with
     | ok _ _ _=>exact hs.elim
     | no σ' L' f'=>obtain⟨rfl,rfl,h3⟩:=hs;exact⟨Grow.refl _ _,by omega⟩
     | many σ' L'=>obtain⟨rfl,rfl⟩:=hs;exact⟨Grow.refl _ _,by omega⟩
    | go σ1 L1 f1 m =>
     rw[h1] at hs
     obtain⟨hg,hl⟩:=hs
     rw[meet_go _ h1]
     obtain⟨i1,i2⟩:=pairStep_inv hi w1 w2 h1
     have:=ih f1 (Nat.lt_succ_of_le (pairStep_le h1)) σ1 L1 (m++r) i1 (fun q hq=>by
      rcases List.mem_append.1 hq with h5 | h5
      ·exact i2 q h5
      ·exact hp q (List.mem_cons_of_mem _ h5))
     cases h2:meet σ1 L1 f1 (m++r) with
     | ok σ2 L2 f2=>rw[h2] at this;exact⟨hg.trans this.1,by have:=this.2;omega⟩
     | no σ2 L2 f2=>rw[h2] at this;exact⟨hg.trans this.1,by have:=this.2;omega⟩
     | many σ2 L2=>rw[h2] at this;exact⟨hg.trans this.1,by have:=this.2;omega⟩
def GrowB(n:Nat)(L:List Int):MOut→Prop
 | .ok _ L' _=>∀ x,x∈L'→x∈L∨x.toNat<n
 | .no _ L' _=>∀ x,x∈L'→x∈L∨x.toNat<n
 | .many _ L'=>∀ x,x∈L'→x∈L∨x.toNat<n
theorem bindS_key{n:Nat}{v:Int}{t:Tm}(hv:v.toNat<n)(ht:Fit n t):(bindS v t).1.toNat<n:=by
 unfold bindS
 split
 ·exact ht.pos.2
 ·exact hv
theorem step_keyB{n:Nat}{σ:Sub}{L:List Int}{f:Nat}{x y:Tm}(hx:Fit n x)(hy:Fit n y){σ':Sub}{L':List Int}{f':Nat}{m:List (Tm×Tm)}(h:pairStep σ L f x y=.go σ' L' f' m):∀ z,z∈L'→z∈L∨z.toNat<n:=by
 have hb:∀ (v:Int) (t:Tm),v.toNat<n→Fit n t→bindStep σ L v t f=.go σ' L' f' m→∀ z,z∈L'→z∈L∨z.toNat<n:=fun v t hv ht he=>by
  unfold bindStep at he
  cases hw:within σ v f [t] with
  | yes g=>rw[hw] at he;cases he
  | many=>rw[hw] at he;cases he
  | no g =>
   rw[hw] at he
   cases he
   intro z hz
   rcases List.mem_append.1 hz with h1 | h1
   ·exact .inl h1
   ·rw[List.mem_singleton] at h1;subst h1;exact .inr (bindS_key hv ht)
 unfold pairStep at h
 split at h
 ·cases h;intro z hz;exact .inl hz
 ·split at h
  ·exact hb _ _ hx.pos.2 hy h
  ·split at h
   ·exact hb _ _ hy.pos.2 hx h
   ·split at h
    ·cases h
    ·cases h;intro z hz;exact .inl hz
theorem step_doneL{σ:Sub}{L:List Int}{f:Nat}{x y:Tm}{o:MOut}(h:pairStep σ L f x y=.done o):(∃ g,o=.no σ L g)∨o=.many σ L:=by
 unfold pairStep bindStep at h
 split at h
 ·cases h
 ·split at h
  ·split at h
   ·cases h;exact .inl ⟨_,rfl⟩
   ·cases h;exact .inr rfl
   ·cases h
  ·split at h
   ·split at h
    ·cases h;exact .inl ⟨_,rfl⟩
    ·cases h;exact .inr rfl
    ·cases h
   ·split at h
    ·cases h;exact .inl ⟨_,rfl⟩
    ·cases h
theorem meet_keyB{n:Nat}:∀ (f:Nat) (σ:Sub) (L:List Int) (ps:List (Tm×Tm)),SInv σ→(∀ v u,σ v=some u→Fit n u)→(∀ p∈ps,Fit n p.1∧Fit n p.2)→GrowB n L (meet σ L f ps):=by
 intro f
 induction f using Nat.strongRecOn with
 | _ f ih =>
  intro σ L ps hi hd hp
  cases ps with
  | nil=>rw[meet_nil];exact fun x hx=>.inl hx
  | cons p r =>
   cases f with
   | zero=>rw[meet_zero];exact fun x hx=>.inl hx
   | succ f =>
    obtain⟨w1,w2⟩:=hp p List.mem_cons_self
    have f1':=fit_look hi.rank.ends hd w1;have f2':=fit_look hi.rank.ends hd w2
    cases h1:pairStep σ L f (look σ p.1) (look σ p.2) with
    | done o =>
     rw[meet_done _ h1]
     rcases step_doneL h1 with ⟨g,rfl⟩ | rfl
     ·exact fun x hx=>.inl hx
     ·exact fun x hx=>.inl hx
    | go σ1 L1 f1 m =>
     rw[meet_go _ h1]
     obtain⟨i1,_⟩:=pairStep_inv hi w1.wf w2.wf h1
     obtain⟨d1,d2⟩:=pairStep_dom hd f1' f2' h1
     have hk:=step_keyB f1' f2' h1
     have:=ih f1 (Nat.lt_succ_of_le (pairStep_le h1)) σ1 L1 (m++r) i1 d1 (fun q hq=>by
      rcases List.mem_append.1 hq with h5 | h5
      ·exact d2 q h5
      ·exact hp q (List.mem_cons_of_mem _ h5))
     cases h2:meet σ1 L1 f1 (m++r) with
     | ok σ2 L2 f2=>rw[h2] at this;exact fun x hx=>(this x hx).elim (hk x) .inr
     | no σ2 L2 f2=>rw[h2] at this;exact fun x hx=>(this x hx).elim (hk x) .inr
     | many σ2 L2=>rw[h2] at this;exact fun x hx=>(this x hx).elim (hk x) .inr
def Snap(σ:Sub)(L:List Int)(σ0:Sub)(L0:List Int):Prop:=L0=L.take L0.length∧L0.length≤L.length∧undo σ L L0.length = σ0
theorem Snap.refl(σ:Sub)(L:List Int):Snap σ L σ L:=⟨by simp,Nat.le_refl _,by funext v;unfold undo;simp⟩
theorem undo_undo(σ:Sub)(L:List Int){k m:Nat}(h:k≤m):undo (undo σ L m) (L.take m) k=undo σ L k:=by
 have key:∀ v,v∈L.drop k↔v∈(L.take m).drop k∨v∈L.drop m:=fun v=>by
  have e:L.drop k=(L.take m).drop k++L.drop m:=by
   by_cases hm:m≤L.length
   ·conv=>lhs;rw[← List.take_append_drop m L,List.drop_append_of_le_length (by rw[List.length_take];omega)]
   ·rw[List.take_of_length_le (by omega),List.drop_eq_nil_of_le (by omega:L.length≤m),List.append_nil]
  rw[e,List.mem_append]
 funext v
 unfold undo
 by_cases h1:v∈(L.take m).drop k
 ·rw[if_pos h1,if_pos ((key v).2 (.inl h1))]
 ·rw[if_neg h1]
  by_cases h2:v∈L.drop m
  ·rw[if_pos h2,if_pos ((key v).2 (.inr h2))]
  ·rw[if_neg h2,if_neg (fun e=>((key v).1 e).elim h1 h2)]
theorem Snap.inner{σ σ1 σ2:Sub}{L L1 L2:List Int}(h:Snap σ L σ1 L1)(k:Snap σ L σ2 L2)(hl:L2.length≤L1.length):Snap σ1 L1 σ2 L2:=by
 obtain⟨h1,h2,rfl⟩:=h
 obtain⟨k1,k2,rfl⟩:=k
 refine⟨?_,hl,?_⟩
 ·conv=>rhs;rw[h1,List.take_take,Nat.min_eq_left hl]
  exact k1
 ·conv=>lhs;rw[h1]
  rw[List.length_take,Nat.min_eq_left h2,undo_undo _ _ hl]
theorem Grow.snap{σ σ' σ0:Sub}{L L' L0:List Int}(h:Grow σ L σ' L')(k:Snap σ L σ0 L0):Snap σ' L' σ0 L0:=by
 obtain⟨hb,ht,hl⟩:=h.back
 obtain⟨k1,k2,rfl⟩:=k
 refine⟨?_,Nat.le_trans k2 hl,?_⟩
 ·conv=>lhs;rw[k1,← ht,List.take_take,Nat.min_eq_left k2]
 ·rw[← undo_undo σ' L' k2,hb,ht]
theorem SInv.undo{σ:Sub}(h:SInv σ)(L:List Int)(k:Nat):SInv (undo σ L k):=by
 obtain⟨⟨r,hr⟩,he⟩:=h
 have key:∀ v u,Go.Proofs.Ytikmgiapjigghab.undo σ L k v=some u→σ v=some u:=fun v u e=>by
  unfold Go.Proofs.Ytikmgiapjigghab.undo at e
  split at e
  ·cases e
  ·exact e
 exact⟨⟨r,fun v u e=>hr v u (key v u e)⟩,fun v u e=>he v u (key v u e)⟩
theorem undo_some{σ:Sub}{L:List Int}{k:Nat}{v:Int}{u:Tm}(e:undo σ L k v=some u):σ v=some u:=by
 unfold undo at e
 split at e
 ·cases e
 ·exact e
theorem TrailOk.undo{σ:Sub}{L:List Int}(h:TrailOk σ L)(k:Nat):TrailOk (undo σ L k) (L.take k):=by
 have hn:=h.1
 rw[← List.take_append_drop k L] at hn
 obtain⟨n1,n2,n3⟩:=List.nodup_append.1 hn
 refine⟨n1,fun x hx=>?_⟩
 unfold Go.Proofs.Ytikmgiapjigghab.undo
 rw[if_neg (fun e=>n3 x hx x e rfl)]
 exact h.2 x (List.mem_of_mem_take hx)
structure PInv(p:List Cl)(S:PS):Prop where
 sinv:SInv S.σ
 dom:∀ v u,S.σ v=some u→Fit (S.vars+1) u∧v.toNat<S.vars+1
 trail:TrailOk S.σ S.L
 now:∀ g,g∈S.now→Fit (S.vars+1) g.1
 snap:∀ c,c∈S.ch→Snap S.σ S.L c.σ c.L∧c.gs≠[]∧c.cl<p.length∧(∀ g,g∈c.gs→Fit (S.vars+1) g.1)∧c.L.length+2000≤2000*S.steps
 mono:S.ch.Pairwise fun a b=>a.L.length≤b.L.length
 len:S.L.length≤2000*S.steps
 base:12≤S.vars
theorem meet_sinv:∀ (f:Nat) (σ:Sub) (L:List Int) (ps:List (Tm×Tm)) (σ':Sub) (L':List Int) (f':Nat),SInv σ→(∀ p∈ps,WfT p.1∧WfT p.2)→meet σ L f ps=.ok σ' L' f'→SInv σ':=by
 intro f
 induction f using Nat.strongRecOn with
 | _ f ih =>
  intro σ L ps σ' L' f' hi hp he
  cases ps with
  | nil=>rw[meet_nil] at he;cases he;exact hi
  | cons p r =>
   cases f with
   | zero=>rw[meet_zero] at he;cases he
   | succ f =>
    obtain⟨w1,w2⟩:=hp p List.mem_cons_self
    cases h1:pairStep σ L f (look σ p.1) (look σ p.2) with
    | done o =>
     rw[meet_done _ h1] at he
     rcases step_doneL h1 with ⟨g,rfl⟩ | rfl <;> cases he
    | go σ1 L1 f1 m =>
     rw[meet_go _ h1] at he
     obtain⟨i1,i2⟩:=pairStep_inv hi w1 w2 h1
     exact ih f1 (Nat.lt_succ_of_le (pairStep_le h1)) σ1 L1 (m++r) σ' L' f' i1 (fun q hq=>by
      rcases List.mem_append.1 hq with h5 | h5
      ·exact i2 q h5
      ·exact hp q (List.mem_cons_of_mem _ h5)) he
structure CInv(p:List Cl)(gs:List Goal)(t:Tm)(S:PS):Prop where
 sinv:SInv S.σ
 dom:∀ v u,S.σ v=some u→Fit (S.vars+1) u∧v.toNat<S.vars+1
 trail:TrailOk S.σ S.L
 gs:gs≠[]∧∀ g,g∈gs→Fit (S.vars+1) g.1
 t:Fit (S.vars+1) t
 snap:∀ c,c∈S.ch→Snap S.σ S.L c.σ c.L∧c.gs≠[]∧c.cl<p.length∧(∀ g,g∈c.gs→Fit (S.vars+1) g.1)∧c.L.length+2000≤2000*S.steps
 mono:S.ch.Pairwise fun a b=>a.L.length≤b.L.length
 below:∀ c,c∈S.ch→c.L.length≤S.L.length
 len:S.L.length+2000≤2000*S.steps
 f:S.f≤4000
 base:12≤S.vars
def potC(m:Nat)(ch:List PCh):Nat:=(ch.map fun c=>m-c.cl).sum
theorem potC_push(m:Nat)(ch:List PCh)(c:PCh):potC m (ch++[c])=potC m ch+(m-c.cl):=by simp[potC]
theorem potC_take(m:Nat)(ch:List PCh)(k:Nat):potC m (ch.take k)≤potC m ch:=by
 induction ch generalizing k with
 | nil=>simp[potC]
 | cons c r ih =>
  cases k with
  | zero=>simp[potC]
  | succ k=>have:=ih k;simp only[potC,List.take_succ_cons,List.map_cons,List.sum_cons] at this ⊢;omega
theorem CInv.more{p:List Cl}{gs:List Goal}{t:Tm}{S:PS}(h:CInv p gs t S){f:Nat}(hf:f≤4000):CInv p gs t { S with f:=f,vars:=S.vars+12 } :=
 ⟨h.sinv,fun v u e=>⟨(h.dom v u e).1.mono (by simp only;omega),by have:=(h.dom v u e).2;simp only;omega⟩,h.trail,⟨h.gs.1,fun g hg=>(h.gs.2 g hg).mono (by simp only;omega)⟩,h.t.mono (by simp only;omega),fun c hc=>by
  obtain⟨a,b,d,e,f⟩:=h.snap c hc
  exact⟨a,b,d,fun g hg=>(e g hg).mono (by simp only;omega),f⟩,h.mono,h.below,h.len,hf,by have:=h.base;simp only;omega⟩
theorem far_fitP{n:Nat}{t:Tm}(h:Fit 13 t):Fit (n+12+1) (far (n:Int) t):=far_fit' h
theorem clause_ok{p:List Cl}{gs:List Goal}{t:Tm}{S:PS}(h:CInv p gs t S){c:Cl}(hc:Fit 13 c.head∧∀ b,b∈c.body→Fit 13 b)(i:Nat){σ:Sub}{L:List Int}{f:Nat}(hm:meet S.σ S.L S.f [(far S.vars c.head,t)]=.ok σ L f) :
 PInv p { S with σ:=σ,L:=L,f:=f,vars:=S.vars+12,ch:=if nextF p t (i+1)<p.length then S.ch++[⟨gs,nextF p t (i+1),S.σ,S.L⟩] else S.ch,now:=bodyG S.vars S.ch.length c.body++gs.tail }:=by
 have hf1:=far_fitP (n:=S.vars) hc.1
 have hf2:Fit (S.vars+12+1) t:=h.t.mono (by omega)
 have hw:∀ q∈[(far (S.vars:Int) c.head,t)],WfT q.1∧WfT q.2:=fun q hq=>by rw[List.mem_singleton] at hq;subst hq;exact⟨hf1.wf,hf2.wf⟩
 have hw2:∀ q∈[(far (S.vars:Int) c.head,t)],Fit (S.vars+12+1) q.1∧Fit (S.vars+12+1) q.2:=fun q hq=>by rw[List.mem_singleton] at hq;subst hq;exact⟨hf1,hf2⟩
 have hd:∀ v u,S.σ v=some u→Fit (S.vars+12+1) u:=fun v u e=>(h.dom v u e).1.mono (by omega)
 have hk:∀ v u,S.σ v=some u→v.toNat<S.vars+12+1:=fun v u e=>by have:=(h.dom v u e).2;omega
 have hg:=meet_grow S.f S.σ S.L _ h.sinv hw
 rw[hm] at hg
 obtain⟨hg1,hg2⟩:=hg
 have hsim:=meet_sinv S.f S.σ S.L _ σ L f h.sinv hw hm
 have hdom:=meet_dom S.f S.σ S.L _ σ L f h.sinv hd hw2 hm
 have hkey:=meet_keys S.f S.σ S.L _ σ L f h.sinv hd hk hw2 hm
 have hlen:L.length≤S.L.length+2000:=by have:=h.f;omega
 refine⟨hsim,fun v u e=>⟨hdom v u e,hkey v u e⟩,hg1.ok h.trail,fun g hgm=>?_,fun c' hc'=>?_,?_,by have:=h.len;simp only;omega,by have:=h.base;simp only;omega⟩
 ·rcases List.mem_append.1 hgm with hgm | hgm
  ·unfold bodyG at hgm
   obtain⟨b,hb,rfl⟩:=List.mem_map.1 hgm
   exact far_fitP (hc.2 b hb)
  ·exact(h.gs.2 g (List.mem_of_mem_tail hgm)).mono (by simp only;omega)
 ·have hold:∀ c',c'∈S.ch→Snap σ L c'.σ c'.L∧c'.gs≠[]∧c'.cl<p.length∧(∀ g,g∈c'.gs→Fit (S.vars+12+1) g.1)∧c'.L.length+2000≤2000*S.steps:=fun c' hc'=>by
   obtain⟨a,b,d,e,f⟩:=h.snap c' hc'
   exact⟨hg1.snap a,b,d,fun g hg=>(e g hg).mono (by omega),f⟩
  simp only at hc'
  split at hc'
  ·rename_i hlt
   rcases List.mem_append.1 hc' with hc' | hc'
   ·exact hold c' hc'
   ·rw[List.mem_singleton] at hc';subst hc'
    exact⟨hg1.snap (Snap.refl _ _),h.gs.1,hlt,fun g hg=>(h.gs.2 g hg).mono (by simp only;omega),h.len⟩
  ·exact hold c' hc'
 ·simp only
  split
  ·refine List.pairwise_append.2 ⟨h.mono,by simp,fun a ha b hb=>?_⟩
   rw[List.mem_singleton] at hb;subst hb
   exact h.below a ha
  ·exact h.mono
theorem call_inv{p:List Cl}(hp:POk p){gs:List Goal}{t:Tm}:∀ (m i:Nat) (S:PS),p.length-i=m→i≤p.length→CInv p gs t S →
 (((pcall p gs t i S).2=true∧(pcall p gs t i S).1.fin=0→PInv p (pcall p gs t i S).1)∧((pcall p gs t i S).2=false→CInv p gs t (pcall p gs t i S).1)) ∧
 (pcall p gs t i S).1.vars+12*potC p.length (pcall p gs t i S).1.ch≤S.vars+12*potC p.length S.ch+12*(p.length-i)∧(pcall p gs t i S).1.ans=S.ans∧(pcall p gs t i S).1.steps=S.steps∧S.vars≤(pcall p gs t i S).1.vars ∧
 ((pcall p gs t i S).1.fin=S.fin∨((pcall p gs t i S).1.fin=3∧(pcall p gs t i S).2=true)):=by
 intro m
 induction m with
 | zero =>
  intro i S hm hi h
  rw[pcall_stop (by omega)]
  exact⟨⟨fun e=>absurd e.1 (by simp),fun _=>h⟩,by simp only;omega,rfl,rfl,Nat.le_refl _,.inl rfl⟩
 | succ m ih =>
  intro i S hm hi h
  have hi':i<p.length:=by omega
  by_cases hf:FitC p[i] t
  ·cases hA:meet S.σ S.L S.f [(far S.vars p[i].head,t)] with
   | ok σ' L' f' =>
    have hpc:pclause p gs t p[i] i S=({ S with σ:=σ',L:=L',f:=f',vars:=S.vars+12,ch:=if nextF p t (i+1)<p.length then S.ch++[⟨gs,nextF p t (i+1),S.σ,S.L⟩] else S.ch,now:=bodyG S.vars S.ch.length p[i].body++gs.tail },some true):=by unfold pclause;rw[hA]
    rw[pcall_done hi' hf hpc]
    refine⟨⟨fun _=>clause_ok h (hp p[i] (List.getElem_mem hi')) i hA,fun e=>by cases e⟩,?_,rfl,rfl,by simp only;omega,.inl rfl⟩
    simp only
    have hn:=nextF_ge p t (p.length-(i+1)) (i+1) rfl
    split
    ·rw[potC_push];simp only;omega
    ·omega
   | no σ' L' f' =>
    have hpc:pclause p gs t p[i] i S=({ S with f:=f',vars:=S.vars+12 },none):=by unfold pclause;rw[hA]
    rw[pcall_go hi' hf hpc]
    have hle:f'≤S.f:=by
     have hw:∀ q∈[(far (S.vars:Int) p[i].head,t)],WfT q.1∧WfT q.2:=fun q hq=>by rw[List.mem_singleton] at hq;subst hq;exact⟨(far_fitP (n:=S.vars) (hp p[i] (List.getElem_mem hi')).1).wf,h.t.wf⟩
     have hg:=meet_grow S.f S.σ S.L _ h.sinv hw
     rw[hA] at hg
     obtain⟨⟨N,hN,_⟩,h2⟩:=hg
     rw[hN,List.length_append] at h2
     omega
    obtain⟨a,b,c,d,e,f⟩:=ih (i+1) { S with f:=f',vars:=S.vars+12 } (by omega) (by omega) (h.more (by have:=h.f;omega))
    exact⟨a,by simp only at b;omega,c,d,by simp only at e;omega,f⟩
   | many σ' L' =>
    have hpc:pclause p gs t p[i] i S=({ S with f:=0,vars:=S.vars+12,fin:=3 },some true):=by unfold pclause;rw[hA]
    rw[pcall_done hi' hf hpc]
    exact⟨⟨fun e=>absurd e.2 (by simp),fun e=>by cases e⟩,by simp only;omega,rfl,rfl,by simp only;omega,.inr ⟨rfl,rfl⟩⟩
  ·rw[pcall_skip hi' hf]
   obtain⟨a,b,c,d,e,f⟩:=ih (i+1) S (by omega) (by omega) h
   exact⟨a,by omega,c,d,e,f⟩
structure BInv(p:List Cl)(S:PS):Prop where
 sinv:SInv S.σ
 dom:∀ v u,S.σ v=some u→Fit (S.vars+1) u∧v.toNat<S.vars+1
 trail:TrailOk S.σ S.L
 snap:∀ c,c∈S.ch→Snap S.σ S.L c.σ c.L∧c.gs≠[]∧c.cl<p.length∧(∀ g,g∈c.gs→Fit (S.vars+1) g.1)∧c.L.length+2000≤2000*S.steps
 mono:S.ch.Pairwise fun a b=>a.L.length≤b.L.length
 len:S.L.length≤2000*S.steps
 base:12≤S.vars
theorem CInv.toB{p:List Cl}{gs:List Goal}{t:Tm}{S:PS}(h:CInv p gs t S):BInv p S:=⟨h.sinv,h.dom,h.trail,h.snap,h.mono,by have:=h.len;omega,h.base⟩
theorem fit_headT{n:Nat}{gs:List Goal}(hne:gs≠[])(h:∀ g,g∈gs→Fit n g.1):Fit n (headT gs):=by
 cases gs with
 | nil=>exact absurd rfl hne
 | cons a r=>exact h a List.mem_cons_self
theorem BInv.call{p:List Cl}{S:PS}(h:BInv p S){n:Nat}(hn:n<S.ch.length) :
 CInv p S.ch[n].gs (look S.ch[n].σ (headT S.ch[n].gs)) { S with ch:=S.ch.take n,σ:=S.ch[n].σ,L:=S.ch[n].L,f:=4000 }:=by
 obtain⟨h1,h2,h3,h4,h5⟩:=h.snap S.ch[n] (List.getElem_mem hn)
 have hle:∀ c',c'∈S.ch.take n→c'.L.length≤S.ch[n].L.length:=fun c' hc'=>by
  obtain⟨j,hj,rfl⟩:=List.getElem_of_mem hc'
  rw[List.length_take] at hj
  rw[List.getElem_take]
  exact List.pairwise_iff_getElem.1 h.mono j n (by omega) hn (by omega)
 have hs:S.ch[n].σ = undo S.σ S.L S.ch[n].L.length:=h1.2.2.symm
 have hd:∀ v u,S.ch[n].σ v=some u→Fit (S.vars+1) u∧v.toNat<S.vars+1:=fun v u e=>by
  rw[hs] at e;exact h.dom v u (undo_some e)
 have hsi:SInv S.ch[n].σ:=by rw[hs];exact h.sinv.undo _ _
 refine⟨hsi,hd,?_,⟨h2,h4⟩,?_,?_,?_,hle,by (try simp only);omega,by (try simp only);omega,h.base⟩
 ·have:=h.trail.undo S.ch[n].L.length
  rw[← hs,← h1.1] at this
  exact this
 ·exact fit_look hsi.rank.ends (fun v u e=>(hd v u e).1) (fit_headT h2 h4)
 ·intro c' hc'
  obtain⟨k1,k2,k3,k4,k5⟩:=h.snap c' (List.mem_of_mem_take hc')
  exact⟨h1.inner k1 (hle c' hc'),k2,k3,k4,k5⟩
 ·exact h.mono.sublist (List.take_sublist _ _)
theorem potC_at{m:Nat}{ch:List PCh}{n:Nat}(hn:n<ch.length):potC m (ch.take n)+(m-ch[n].cl)≤potC m ch:=by
 have h:=potC_take m ch (n+1)
 rw[List.take_succ_eq_append_getElem hn,potC_push] at h
 exact h
theorem back_inv{p:List Cl}(hp:POk p):∀ (n:Nat) (S:PS),n=S.ch.length→S.fin=0→BInv p S →
 ((pback p n S).fin=0→PInv p (pback p n S))∧(pback p n S).vars+12*potC p.length (pback p n S).ch≤S.vars+12*potC p.length S.ch∧(pback p n S).ans=S.ans∧(pback p n S).steps=S.steps∧(pback p n S).fin≤3:=by
 intro n
 induction n with
 | zero=>intro S _ _ _;exact⟨(fun e=>by cases e),Nat.le_refl _,rfl,rfl,by simp[pback]⟩
 | succ n ih =>
  intro S hn h0 h
  have hn':n<S.ch.length:=by omega
  have e1:S.ch[n]? = some S.ch[n]:=List.getElem?_eq_getElem hn'
  have hc:=h.call hn'
  have hcl:=(h.snap S.ch[n] (List.getElem_mem hn')).2.2.1
  have hpot:=potC_at (m:=p.length) hn'
  have hch:=pcall_ch (p:=p) (gs:=S.ch[n].gs) (s:=look S.ch[n].σ (headT S.ch[n].gs)) (p.length-S.ch[n].cl) S.ch[n].cl { S with ch:=S.ch.take n,σ:=S.ch[n].σ,L:=S.ch[n].L,f:=4000 } rfl
  obtain⟨⟨a1,a2⟩,b,c,d,e,f⟩:=call_inv hp (p.length-S.ch[n].cl) S.ch[n].cl { S with ch:=S.ch.take n,σ:=S.ch[n].σ,L:=S.ch[n].L,f:=4000 } rfl (by omega) hc
  simp only[pback,e1]
  generalize pcall p S.ch[n].gs (look S.ch[n].σ (headT S.ch[n].gs)) S.ch[n].cl { S with ch:=S.ch.take n,σ:=S.ch[n].σ,L:=S.ch[n].L,f:=4000 }=x at *
  obtain⟨x1,x2⟩:=x
  simp only at a1 a2 b c d e f hch ⊢
  cases x2 with
  | true =>
   rw[if_pos rfl]
   exact⟨fun h=>a1 ⟨rfl,h⟩,by omega,c,d,by omega⟩
  | false =>
   rw[if_neg (by decide)]
   have hl:n=x1.ch.length:=by rw[hch rfl,List.length_take];omega
   have hf:x1.fin=0:=f.elim (fun e=>e.trans h0) fun e=>by cases e.2
   obtain⟨g1,g2,g3,g4,g5⟩:=ih x1 hl hf (a2 rfl).toB
   exact⟨g1,by omega,g3.trans c,g4.trans d,g5⟩
structure RInv(p:List Cl)(S:PS):Prop where
 core:S.fin=0→PInv p S∧S.ans.length<40
 steps:S.steps≤400
 pot:S.vars+12*potC p.length S.ch+360*(400-S.steps)≤144012
 fin:S.fin≤4
theorem PInv.call{p:List Cl}{S:PS}(h:PInv p S)(hne:S.now≠[]):CInv p S.now (look S.σ (headT S.now)) { S with steps:=S.steps+1,f:=4000 } :=
 ⟨h.sinv,h.dom,h.trail,⟨hne,h.now⟩,fit_look h.sinv.rank.ends (fun v u e=>(h.dom v u e).1) (fit_headT hne h.now),fun c hc=>by
  obtain⟨a,b,c,d,e⟩:=h.snap c hc
  exact⟨a,b,c,d,by (try simp only);omega⟩,h.mono,fun c hc=>(h.snap c hc).1.2.1,by have:=h.len;simp only;omega,by (try simp only);omega,h.base⟩
theorem PInv.toB1{p:List Cl}{S:PS}(h:PInv p S){f:Nat}{now:List Goal}:BInv p { S with steps:=S.steps+1,f:=f,now:=now } :=
 ⟨h.sinv,h.dom,h.trail,fun c hc=>by
  obtain⟨a,b,c,d,e⟩:=h.snap c hc
  exact⟨a,b,c,d,by (try simp only);omega⟩,h.mono,by have:=h.len;simp only;omega,h.base⟩
theorem PInv.tail{p:List Cl}{S:PS}(h:PInv p S){f k:Nat}:PInv p { S with steps:=S.steps+1,f:=f,now:=S.now.tail,ch:=S.ch.take k } :=
 ⟨h.sinv,h.dom,h.trail,fun g hg=>h.now g (List.mem_of_mem_tail hg),fun c hc=>by
  obtain⟨a,b,c,d,e⟩:=h.snap c (List.mem_of_mem_take hc)
  exact⟨a,b,c,d,by (try simp only);omega⟩,h.mono.sublist (List.take_sublist _ _),by have:=h.len;simp only;omega,h.base⟩
theorem getD_fit{n:Nat}{l:List Tm}{i:Nat}(hi:i<l.length)(h:∀ x,x∈l→Fit n x):Fit n (l.getD i default):=by
 rw[List.getD_eq_getElem?_getD,List.getElem?_eq_getElem hi];exact h _ (List.getElem_mem _)
theorem means_two{t:Tm}(hm:¬ meansB t.name t.args.length=false)(h1:t.name≠⟨#[33]⟩)(h2:t.name≠⟨#[116,114,117,101]⟩)(h3:t.name≠⟨#[102,97,105,108]⟩):t.args.length=2:=by
 have hm':meansB t.name t.args.length=true:=by simpa using hm
 have ne:∀ l:List UInt8,t.name≠⟨l.toArray⟩→(t.name.toList == l)=false:=fun l hl=>by
  rw[beq_eq_false_iff_ne]
  intro e
  apply hl
  have:t.name.data.toList=l:=by rw[← e,ByteArray.toList_eq]
  cases hb:t.name with
  | mk d=>rw[hb] at this;rw[← this]
 unfold meansB at hm'
 rw[ne _ h1,ne _ h2,ne _ h3] at hm'
 simp at hm'
 exact hm'.1
theorem PInv.eq{p:List Cl}{S:PS}(h:PInv p S){a b:Tm}(ha:Fit (S.vars+1) a)(hb:Fit (S.vars+1) b){σ:Sub}{L:List Int}{f:Nat}(hm:meet S.σ S.L 4000 [(a,b)]=.ok σ L f) :
 PInv p { S with steps:=S.steps+1,σ:=σ,L:=L,f:=f,now:=S.now.tail }:=by
 have hw2:∀ q∈[(a,b)],Fit (S.vars+1) q.1∧Fit (S.vars+1) q.2:=fun q hq=>by rw[List.mem_singleton] at hq;subst hq;exact⟨ha,hb⟩
 have hw:∀ q∈[(a,b)],WfT q.1∧WfT q.2:=fun q hq=>⟨(hw2 q hq).1.wf,(hw2 q hq).2.wf⟩
 have hg:=meet_grow 4000 S.σ S.L _ h.sinv hw
 rw[hm] at hg
 obtain⟨hg1,hg2⟩:=hg
 have hd:∀ v u,S.σ v=some u→Fit (S.vars+1) u:=fun v u e=>(h.dom v u e).1
 have hdom:=meet_dom 4000 S.σ S.L _ σ L f h.sinv hd hw2 hm
 have hkey:=meet_keys 4000 S.σ S.L _ σ L f h.sinv hd (fun v u e=>(h.dom v u e).2) hw2 hm
 refine⟨meet_sinv 4000 S.σ S.L _ σ L f h.sinv hw hm,fun v u e=>⟨hdom v u e,hkey v u e⟩,hg1.ok h.trail,fun g hg=>h.now g (List.mem_of_mem_tail hg),fun c hc=>?_,h.mono,by have:=h.len;simp only;omega,h.base⟩
 obtain⟨a,b,c,d,e⟩:=h.snap c hc
 exact⟨hg1.snap a,b,c,d,by (try simp only);omega⟩
theorem take_inv{p:List Cl}(hp:POk p)(h30:p.length≤30){S:PS}(h:RInv p S)(h0:S.fin=0)(hne:S.now≠[])(hst:S.steps<400) :
 RInv p (ptake p S)∧(ptake p S).steps=S.steps+1∧(ptake p S).ans=S.ans:=by
 obtain⟨hP,hA⟩:=h.core h0
 have hpot:=h.pot
 have hback:∀ S1:PS,S1.fin=0→BInv p S1→S1.steps=S.steps+1→S1.ans=S.ans→S1.vars+12*potC p.length S1.ch+360*(400-(S.steps+1))≤144012 →
  RInv p (pback p S1.ch.length S1)∧(pback p S1.ch.length S1).steps=S.steps+1∧(pback p S1.ch.length S1).ans=S.ans:=fun S1 k0 k1 k2 k3 k4=>by
  obtain⟨g1,g2,g3,g4,g5⟩:=back_inv hp S1.ch.length S1 rfl k0 k1
  exact⟨⟨fun e=>⟨g1 e,by rw[g3,k3];exact hA⟩,by rw[g4,k2];omega,by rw[g4,k2];omega,by omega⟩,g4.trans k2,g3.trans k3⟩
 simp only[ptake]
 split
 ·exact⟨⟨(fun e=>by cases e),by (try simp only);omega,by (try simp only);omega,Nat.le_refl _⟩,rfl,rfl⟩
 ·split
  ·have hci:=hP.call hne
   obtain⟨⟨a1,a2⟩,b,c,d,e,f⟩:=call_inv hp p.length 0 { S with steps:=S.steps+1,f:=4000 } (by omega) (Nat.zero_le _) hci
   generalize pcall p S.now (look S.σ (headT S.now)) 0 { S with steps:=S.steps+1,f:=4000 }=x at *
   obtain⟨x1,x2⟩:=x
   simp only at a1 a2 b c d e f ⊢
   cases x2 with
   | true =>
    rw[if_pos rfl]
    exact⟨⟨fun h=>⟨a1 ⟨rfl,h⟩,by rw[c];exact hA⟩,by omega,by rw[d];omega,by omega⟩,d,c⟩
   | false =>
    rw[if_neg (by decide)]
    exact hback x1 (f.elim (fun e=>e.trans h0) fun e=>by cases e.2) (a2 rfl).toB d c (by omega)
  ·rename_i hv hm
   split
   ·refine⟨⟨fun _=>⟨hP.tail,hA⟩,by (try simp only);omega,?_,by (try simp only);omega⟩,rfl,rfl⟩
    have:=potC_take p.length S.ch ((S.now.head?.map (·.2)).getD 0)
    simp only;omega
   ·rename_i h1
    split
    ·refine⟨⟨fun _=>⟨?_,hA⟩,by (try simp only);omega,by (try simp only);omega,by (try simp only);omega⟩,rfl,rfl⟩
     have:=hP.tail (f:=4000) (k:=S.ch.length)
     rw[List.take_length] at this
     exact this
    ·rename_i h2
     split
     ·exact hback { S with steps:=S.steps+1,f:=4000 } h0 (hP.toB1) rfl rfl (by (try simp only);omega)
     ·rename_i h3
      have hf:=fit_look hP.sinv.rank.ends (fun v u e=>(hP.dom v u e).1) (fit_headT hne hP.now)
      have hl2:=means_two hm h1 h2 h3
      have f0:=getD_fit (i:=0) (by omega) fun x hx=>hf.arg hx
      have f1:=getD_fit (i:=1) (by omega) fun x hx=>hf.arg hx
      split
      ·rename_i hA2
       exact⟨⟨fun _=>⟨hP.eq f0 f1 hA2,hA⟩,by (try simp only);omega,by (try simp only);omega,by (try simp only);omega⟩,rfl,rfl⟩
      ·rename_i f _
       exact hback { S with steps:=S.steps+1,f:=f,now:=S.now.tail } h0 (hP.toB1) rfl rfl (by (try simp only);omega)
      ·exact⟨⟨(fun e=>by cases e),by (try simp only);omega,by (try simp only);omega,by (try simp only);omega⟩,rfl,rfl⟩
theorem answ_inv{p:List Cl}(hp:POk p)(query:Nat){S:PS}(h:RInv p S)(h0:S.fin=0) :
 RInv p (pansw p query S)∧(pansw p query S).steps=S.steps∧((pansw p query S).fin=0→(pansw p query S).ans.length=S.ans.length+1):=by
 obtain⟨hP,hA⟩:=h.core h0
 have hpot:=h.pot
 simp only[pansw]
 split
 ·exact⟨⟨(fun e=>by cases e),h.steps,hpot,by (try simp only);omega⟩,rfl,(fun e=>by cases e)⟩
 ·rename_i x _
  split
  ·exact⟨⟨(fun e=>by cases e),h.steps,hpot,by (try simp only);omega⟩,rfl,(fun e=>by cases e)⟩
  ·rename_i h40
   obtain⟨g1,g2,g3,g4,g5⟩:=back_inv hp S.ch.length { S with ans:=S.ans++[(Tm.rens numV [] x.1).1] } rfl h0 ⟨hP.sinv,hP.dom,hP.trail,hP.snap,hP.mono,hP.len,hP.base⟩
   have hl:(pback p S.ch.length { S with ans:=S.ans++[(Tm.rens numV [] x.1).1] }).ans.length=S.ans.length+1:=by rw[g3];simp
   refine⟨⟨fun e=>⟨g1 e,by rw[hl];omega⟩,by rw[g4];exact h.steps,?_,by omega⟩,g4,fun _=>hl⟩
   rw[g4];simp only at g2 ⊢;omega
theorem step_inv{p:List Cl}(hp:POk p)(h30:p.length≤30)(query:Nat){most:Nat}(hmost:most≤400){S:PS}(h:RInv p S)(h0:S.fin=0)(hs:S.steps≤most) :
 RInv p (pstep p query most S)∧(pstep p query most S).steps≤most∧((pstep p query most S).fin=0→(most-(pstep p query most S).steps)+(40-(pstep p query most S).ans.length)+1=(most-S.steps)+(40-S.ans.length)):=by
 unfold pstep
 by_cases hn:S.now = []
 ·rw[if_pos hn]
  obtain⟨a,b,c⟩:=answ_inv hp query h h0
  refine⟨a,by rw[b];exact hs,fun e=>?_⟩
  have:=c e
  have:=(h.core h0).2
  rw[b];omega
 ·rw[if_neg hn]
  by_cases hm:(S.steps:Int)=most
  ·rw[if_pos hm]
   exact⟨⟨(fun e=>by cases e),h.steps,h.pot,by (try simp only);omega⟩,hs,(fun e=>by cases e)⟩
  ·rw[if_neg hm]
   obtain⟨a,b,c⟩:=take_inv hp h30 h h0 hn (by omega)
   exact⟨a,by rw[b];omega,fun _=>by rw[b,c];omega⟩
noncomputable def prun(p:List Cl)(query:Nat)(most:Int):Nat→PS→PS
 | 0,S=>S
 | n+1,S=>if S.fin=0 then prun p query most n (pstep p query most S) else S
theorem prun_ends{p:List Cl}(hp:POk p)(h30:p.length≤30)(query:Nat){most:Nat}(hmost:most≤400):∀ (n:Nat) (S:PS),RInv p S→S.steps≤most→(S.fin=0→(most-S.steps)+(40-S.ans.length)<n)→(prun p query most n S).fin≠0:=by
 intro n
 induction n with
 | zero=>intro S h _ hn e;exact absurd (hn e) (by omega)
 | succ n ih =>
  intro S h hs hn
  unfold prun
  by_cases h0:S.fin=0
  ·rw[if_pos h0]
   obtain⟨a,b,c⟩:=step_inv hp h30 query hmost h h0 hs
   exact ih _ a b fun e=>by have:=c e;have:=hn h0;omega
  ·rw[if_neg h0];exact h0
theorem ts_lit2{w:World}{ok:Nat→Prop}(t u:Tm){a b:Option Addr}{c d:Nat}(ht:Ts w ok t.args a c)(hu:Ts w ok u.args b d)(hf:t.fits)(hg:u.fits)(hok:ok w.heap.size) :
 Ts (w.alloc (.cells #[.int .i64 t.var,.string t.name,.slice a t.args.length c,.int .i64 u.var,.string u.name,.slice b u.args.length d] 71)) ok [t,u] (some ⟨w.heap.size,0,none⟩) 2:=by
 have hk:Keeps ok w (w.alloc (.cells #[.int .i64 t.var,.string t.name,.slice a t.args.length c,.int .i64 u.var,.string u.name,.slice b u.args.length d] 71)):=Keeps.below ((Below.refl _ _).alloc (Nat.le_refl _) _) ok
 refine .mk [t,u] _ 2 ⟨Nat.le_refl _,by unfold maxLen;omega,fun h=>by cases h⟩ (fun i=>if i=0 then (a,c) else (b,d)) (fun i hi=>?_) (fun i hi=>?_)
 ·rcases (by simp at hi;omega:i=0∨i=1) with rfl | rfl
  ·refine⟨w.heap.size,0,rfl,hok,by simp,Cells3.mk ?_ ?_ ?_ hf⟩
   all_goals simp[World.cell?,World.alloc,-World.alloc_eq]
  ·refine⟨w.heap.size,0,rfl,hok,by simp,Cells3.mk ?_ ?_ ?_ hg⟩
   all_goals simp[World.cell?,World.alloc,-World.alloc_eq]
 ·rcases (by simp at hi;omega:i=0∨i=1) with rfl | rfl
  ·exact ht.keep hk
  ·exact hu.keep hk

theorem pclause_keep(p:List Cl)(gs:List Goal)(t:Tm)(c:Cl)(i:Nat)(S:PS):((pclause p gs t c i S).1.fin=S.fin∨(pclause p gs t c i S).1.fin=3)∧(pclause p gs t c i S).1.ans=S.ans∧(pclause p gs t c i S).1.steps=S.steps:=by
 unfold pclause
 split
 ·exact⟨.inl rfl,rfl,rfl⟩
 ·exact⟨.inl rfl,rfl,rfl⟩
 ·exact⟨.inr rfl,rfl,rfl⟩
theorem pcall_keep(p:List Cl)(gs:List Goal)(t:Tm):∀ (m i:Nat) (S:PS),p.length-i=m→((pcall p gs t i S).1.fin=S.fin∨(pcall p gs t i S).1.fin=3)∧(pcall p gs t i S).1.ans=S.ans∧(pcall p gs t i S).1.steps=S.steps:=by
 intro m
 induction m with
 | zero=>intro i S h;rw[pcall_stop (by omega)];exact⟨.inl rfl,rfl,rfl⟩
 | succ m ih =>
  intro i S h
  have hi:i<p.length:=by omega
  by_cases hf:FitC p[i] t
  ·have h1:=pclause_keep p gs t p[i] i S
   cases hc:pclause p gs t p[i] i S with
   | mk S' b =>
    rw[hc] at h1
    obtain⟨a1,a2,a3⟩:=h1
    cases b with
    | none =>
     rw[pcall_go hi hf hc]
     obtain⟨b1,b2,b3⟩:=ih (i+1) S' (by omega)
     refine⟨?_,b2.trans a2,b3.trans a3⟩
     rcases b1 with b1 | b1
     ·rw[b1];exact a1
     ·exact .inr b1
    | some b=>rw[pcall_done hi hf hc];exact⟨a1,a2,a3⟩
  ·rw[pcall_skip hi hf];exact ih (i+1) S (by omega)
theorem pback_keep(p:List Cl):∀ (n:Nat) (S:PS),S.fin≠2→(pback p n S).fin≠2∧(pback p n S).ans=S.ans∧(pback p n S).steps=S.steps:=by
 intro n
 induction n with
 | zero=>intro S h;exact⟨by simp[pback],rfl,rfl⟩
 | succ n ih =>
  intro S h
  simp only[pback]
  split
  ·exact⟨h,rfl,rfl⟩
  ·rename_i c _
   obtain⟨a1,a2,a3⟩:=pcall_keep p c.gs (look c.σ (headT c.gs)) (p.length-c.cl) c.cl { S with ch:=S.ch.take n,σ:=c.σ,L:=c.L,f:=4000 } rfl
   generalize pcall p c.gs (look c.σ (headT c.gs)) c.cl { S with ch:=S.ch.take n,σ:=c.σ,L:=c.L,f:=4000 }=x at *
   have hx:x.1.fin≠2:=by rcases a1 with a1 | a1 <;> rw[a1] <;> first | exact h | decide
   split
   ·exact⟨hx,a2,a3⟩
   ·obtain⟨b1,b2,b3⟩:=ih x.1 hx
    exact⟨b1,b2.trans a2,b3.trans a3⟩
theorem ptake_keep(p:List Cl)(S:PS)(h:S.fin≠2):(ptake p S).fin≠2∧(ptake p S).ans=S.ans∧(ptake p S).steps=S.steps+1:=by
 simp only[ptake]
 split
 ·exact⟨by simp,rfl,rfl⟩
 ·split
  ·obtain⟨a1,a2,a3⟩:=pcall_keep p S.now (look S.σ (headT S.now)) p.length 0 { S with steps:=S.steps+1,f:=4000 } (by omega)
   generalize pcall p S.now (look S.σ (headT S.now)) 0 { S with steps:=S.steps+1,f:=4000 }=x at *
   have hx:x.1.fin≠2:=by rcases a1 with a1 | a1 <;> rw[a1] <;> first | exact h | decide
   split
   ·exact⟨hx,a2,a3⟩
   ·obtain⟨b1,b2,b3⟩:=pback_keep p x.1.ch.length x.1 hx
    exact⟨b1,b2.trans a2,b3.trans a3⟩
  ·split
   ·exact⟨h,rfl,rfl⟩
   ·split
    ·exact⟨h,rfl,rfl⟩
    ·split
     ·exact pback_keep p S.ch.length { S with steps:=S.steps+1,f:=4000 } h
     ·split
      ·exact⟨h,rfl,rfl⟩
      ·rename_i f _
       exact pback_keep p S.ch.length { S with steps:=S.steps+1,f:=f,now:=S.now.tail } h
      ·exact⟨by simp,rfl,rfl⟩
theorem pansw_keep(p:List Cl)(query:Nat)(S:PS)(h:S.fin≠2):(pansw p query S).fin≠2∧S.ans <+: (pansw p query S).ans∧(pansw p query S).steps=S.steps:=by
 simp only[pansw]
 split
 ·exact⟨by simp,List.prefix_rfl,rfl⟩
 ·rename_i x _
  split
  ·exact⟨by simp,List.prefix_append _ _,rfl⟩
  ·obtain⟨b1,b2,b3⟩:=pback_keep p S.ch.length { S with ans:=S.ans++[(Tm.rens numV [] x.1).1] } h
   exact⟨b1,by rw[b2];exact List.prefix_append _ _,b3⟩
theorem pstep_ans(p:List Cl)(query:Nat)(most:Int)(S:PS)(h:S.fin≠2):S.ans <+: (pstep p query most S).ans:=by
 unfold pstep
 split
 ·exact(pansw_keep p query S h).2.1
 ·split
  ·exact List.prefix_rfl
  ·rw[(ptake_keep p S h).2.1];exact List.prefix_rfl
theorem prun_end{p:List Cl}{query:Nat}{most:Int}(n:Nat){S:PS}(h:S.fin≠0):prun p query most n S=S:=by
 cases n with
 | zero=>rfl
 | succ n=>unfold prun;rw[if_neg h]
theorem prun_ans(p:List Cl)(query:Nat)(most:Int):∀ (n:Nat) (S:PS),S.ans <+: (prun p query most n S).ans:=by
 intro n
 induction n with
 | zero=>intro S;exact List.prefix_rfl
 | succ n ih =>
  intro S
  unfold prun
  split
  ·rename_i h
   exact(pstep_ans p query most S (by omega)).trans (ih _)
  ·exact List.prefix_rfl
theorem program_zero{P:List Cl}(h:programE P=0):P.length≤30∧∀ c,c∈P→c.head.checkE=0∧queryE c.body=0:=by
 unfold programE at h
 by_cases h6:30<P.length
 ·rw[if_pos h6] at h;cases h
 ·rw[if_neg h6] at h
  refine⟨by omega,fun c hc=>?_⟩
  obtain⟨k,hk,rfl⟩:=List.getElem_of_mem hc
  have h1:=firstN_zero h k (by simpa using hk)
  rw[List.getElem_map] at h1
  rcases clauseE_cases P[k] with ⟨a,b⟩ | ⟨a,b,c⟩ | ⟨a,b,c,d⟩ | ⟨a,b,c,d⟩
  ·exact absurd (b.symm.trans h1) a
  ·rw[c] at h1;cases h1
  ·rw[d] at h1;cases h1
  ·exact⟨a,d.symm.trans h1⟩
theorem query_mem{q:List Tm}(h:queryE q=0){t:Tm}(ht:t∈q):t.checkE=0:=by
 obtain⟨k,hk,rfl⟩:=List.getElem_of_mem ht
 exact(query_zero h).2 k hk
theorem check_size{t:Tm}(h:t.checkE=0):t.size≤100000:=by have:=(check_zero h).1;omega
theorem pok_of{P:List Cl}(h:programE P=0):POk P:=fun c hc=>by
 obtain⟨h1,h2⟩:=(program_zero h).2 c hc
 exact⟨check_fit h1,fun b hb=>check_fit (query_mem h2 hb)⟩
theorem psize_of{P:List Cl}(h:programE P=0):∀ c,c∈P→c.head.size≤100000∧∀ b,b∈c.body→b.size≤100000:=fun c hc=>by
 obtain⟨h1,h2⟩:=(program_zero h).2 c hc
 exact⟨check_size h1,fun b hb=>check_size (query_mem h2 hb)⟩
theorem greats_le{n:Int}(hn:0≤n)(l:List Tm)(h:∀ t,t∈l→∀ p,p∈t.parts→p.var≤n):Tm.greats l≤n:=by
 have key:∀ (r:List Tm) (m:Int),m≤n→(∀ p,p∈r→p.var≤n)→vmax m r≤n:=by
  intro r
  induction r with
  | nil=>intro m hm _;exact hm
  | cons a r ih=>intro m hm hr;exact ih (max m a.var) (by have:=hr a List.mem_cons_self;omega) fun p hp=>hr p (List.mem_cons_of_mem _ hp)
 have h1:=Tm.greats_eq l 0 (Int.le_refl _)
 have h2:=key (Tm.partss l) 0 hn fun p hp=>by
  obtain⟨x,hx,hp⟩:=partss_sub l p hp
  exact h x hx p hp
 rw[h1] at h2;omega
theorem query_great{q:List Tm}(h:queryE q=0):Tm.greats q≤12:=greats_le (by decide) q fun t ht p hp=>by
 have hf:=check_fit (query_mem h ht)
 by_cases hv:p.var=0
 ·omega
 ·have:=fit_parts hf hp hv;omega
def startP(q:List Tm):PS:={ σ:=fun _=>none,L:=[],f:=4000,vars:=12,ch:=[],now:=q.map fun t=>(t,0),ans:=[],fin:=0,steps:=0 }
theorem start_inv(p:List Cl){q:List Tm}(h:queryE q=0):RInv p (startP q):=by
 refine⟨fun _=>⟨⟨SInv.none,(fun v u e=>by cases e),⟨List.nodup_nil,(fun x hx=>by cases hx)⟩,fun g hg=>?_,(fun c hc=>by cases hc),List.Pairwise.nil,Nat.zero_le _,Nat.le_refl _⟩,by simp[startP]⟩,Nat.zero_le _,by simp[startP,potC],Nat.zero_le _⟩
 obtain⟨t,ht,rfl⟩:=List.mem_map.1 hg
 exact check_fit (query_mem h ht)
noncomputable def solveP(p:List Cl)(q:List Tm)(most:Nat):PS:=prun p (Tm.greats q).toNat most 442 (startP q)
theorem solve_ends{p:List Cl}(hp:programE p=0){q:List Tm}(hq:queryE q=0){most:Nat}(hm:most≤400):(solveP p q most).fin≠0 :=
 prun_ends (pok_of hp) (program_zero hp).1 _ hm 442 _ (start_inv p hq) (Nat.zero_le _) fun _=>by simp[startP];omega
def cutV(v:Value)(k:Nat):Value:=match v with
 | .slice a _ c=>.slice a k c
 | v=>v
theorem ownsRow_cut{w:World}{base:Nat}{e:TypeId}{size:Nat}{v:Value}{n:Nat}{xs:List Value}(h:w.ownsRow base e size v n xs){k:Nat}(hk:k≤n):w.ownsRow base e size (cutV v k) k (xs.take (k*size)):=by
 obtain⟨h1,h2⟩:=h
 have hm:k*size≤n*size:=Nat.mul_le_mul_right _ hk
 refine⟨by rw[List.length_take];omega,?_⟩
 rcases h2 with ⟨rfl,rfl⟩ | ⟨g,cap,cur,rfl,hb,hg,hc,hm2,hs,ht⟩
 ·left;have:k=0:=by omega
  subst this;exact⟨rfl,rfl⟩
 ·right
  refine⟨g,cap,cur,rfl,hb,hg,by omega,hm2,hs,?_⟩
  rw[← ht,List.take_take]
  congr 1;omega
theorem cutV_own(v:Value)(k:Nat):(cutV v k).ownBlock=v.ownBlock:=by
 cases v with
 | slice a n c=>cases a <;> rfl
 | _=>rfl
def undoJ(σ:Sub)(L:List Int)(k j:Nat):Sub:=fun v=>if v∈(L.drop k).take j then none else σ v
theorem undoJ_all(σ:Sub)(L:List Int)(k:Nat):undoJ σ L k (L.length-k)=undo σ L k:=by
 funext v
 unfold undoJ undo
 rw[List.take_of_length_le (by rw[List.length_drop];exact Nat.le_refl _)]
theorem undoJ_next(σ:Sub)(L:List Int)(k j:Nat)(hj:k+j<L.length)(x:Int):undoJ σ L k (j+1) x=if x=L[k+j] then none else undoJ σ L k j x:=by
 have hd:j<(L.drop k).length:=by rw[List.length_drop];omega
 unfold undoJ
 rw[List.take_succ_eq_append_getElem hd]
 simp only[List.mem_append,List.mem_singleton,List.getElem_drop]
 by_cases h:x=L[k+j]
 ·rw[if_pos (.inr h),if_pos h]
 ·rw[if_neg h]
  by_cases h2:x∈(L.drop k).take j
  ·rw[if_pos (.inl h2),if_pos h2]
  ·rw[if_neg (fun e=>e.elim h2 h),if_neg h2]
theorem undoJ_old{σ:Sub}{L:List Int}(ht:TrailOk σ L)(k j:Nat)(hj:k+j<L.length):undoJ σ L k j L[k+j]≠none:=by
 unfold undoJ
 rw[if_neg]
 ·exact ht.2 _ (List.getElem_mem hj)
 ·intro h
  obtain⟨i,hi,he⟩:=List.getElem_of_mem h
  rw[List.length_take,List.length_drop] at hi
  rw[List.getElem_take,List.getElem_drop] at he
  have e1:=ht.1.idxOf_getElem (k+i) (by omega)
  have e2:=ht.1.idxOf_getElem (k+j) hj
  rw[he,e2] at e1
  omega
structure StU(w:World)(ok:Nat→Prop)(bs bm:Nat)(tv:Value)(σ:Sub)(L:List Int)(wk n:Nat):Prop where
 blk:w.heap[bs]? = some (.cells #[.map (some bm),tv,.int .i64 wk] 121 (0,0))
 trail:w.ownsRow 0 3 1 tv L.length (L.map (Value.int .i64))
 map:∃ f,IMap Try.prog 3 w bm n f∧∀ k,MapTm w ok (σ k) (f k)
 ne:bs≠bm∧tv.ownBlock≠some bs∧tv.ownBlock≠some bm
 okb:∀ b,ok b→b<w.heap.size∧¬ StM bs bm tv b
theorem StU.cells{w:World}{ok:Nat→Prop}{bs bm:Nat}{tv:Value}{σ:Sub}{L:List Int}{wk n:Nat}(h:StU w ok bs bm tv σ L wk n) :
 w.cell? ⟨bs,0,none⟩=some (.map (some bm))∧w.cell? ⟨bs,1,none⟩=some tv∧w.cell? ⟨bs,2,none⟩=some (.int .i64 wk)∧(∀ o,w.frozen? ⟨bs,o,none⟩=false):=by
 refine⟨?_,?_,?_,fun o=>?_⟩
 ·simp[World.cell?,h.blk]
 ·simp[World.cell?,h.blk]
 ·simp[World.cell?,h.blk]
 ·simp[World.frozen?,h.blk]
theorem StU.drop{w:World}{ok:Nat→Prop}{bs bm:Nat}{tv:Value}{σ:Sub}{L:List Int}{wk n:Nat}(h:StU w ok bs bm tv σ L wk n){x:Int}(hx:I64 x)(hold:σ x≠none)(ty:TypeId) :
 ∃ w',(Builtin.delete_ #[119,3] ty #[.map (some bm),.int .i64 x]).run Try.prog w=.ok (.tuple #[]) w'∧StU w' ok bs bm tv (fun y=>if y=x then none else σ y) L wk (n-1)∧w.grownBy w' (some bm):=by
 obtain⟨f,h1,h2⟩:=h.map
 have hfx:f x≠none:=by
  have:=h2 x
  cases e:σ x with
  | none=>exact absurd e hold
  | some u=>rw[e] at this;intro e2;rw[e2] at this;obtain⟨_,_,e3,_⟩:=this;cases e3
 obtain⟨w',hrun,h3,hg⟩:=h1.drop keyedI Try.underlying3 Try.underlying119 hx hfx ty
 have hT:Touch (StM bs bm tv) w w':=Touch.grown hg (fun k e=>by cases e;exact .inr (.inl rfl))
 have hK:Keeps ok w w':=hT.keeps fun b hb=>(h.okb b hb).2
 have hlt:bs<w.heap.size:=(Array.getElem?_eq_some_iff.1 h.blk).1
 refine⟨w',hrun,⟨(hg.block bs hlt (fun e=>h.ne.1 (by injection e))).trans h.blk,h.trail.kept hg (.inr h.ne.2.2),⟨_,h3,fun y=>?_⟩,h.ne,fun b hb=>⟨Nat.lt_of_lt_of_le (h.okb b hb).1 hg.size,(h.okb b hb).2⟩⟩,hg⟩
 by_cases e:y=x
 ·subst e
  rw[if_pos rfl]
  show setAt f y none y=none
  unfold setAt;rw[if_pos rfl]
 ·simp only[setAt,if_neg e]
  exact(h2 y).keep hK
theorem StAt.u{w:World}{ok:Nat→Prop}{bs bm:Nat}{tv:Value}{σ:Sub}{L:List Int}{wk:Nat}(h:StAt w ok bs bm tv σ L wk):StU w ok bs bm tv σ L wk L.length:=⟨h.blk,h.trail,h.map,h.ne,h.okb⟩
theorem StU.cut{w:World}{ok:Nat→Prop}{bs bm:Nat}{tv:Value}{σ:Sub}{L:List Int}{wk k:Nat}(h:StU w ok bs bm tv σ L wk k)(hk:k≤L.length):StAt (w.setCell ⟨bs,1,none⟩ (cutV tv k)) ok bs bm (cutV tv k) σ (L.take k) wk:=by
 obtain⟨f,h1,h2⟩:=h.map
 have hS:Touch (fun b=>b=bs) w (w.setCell ⟨bs,1,none⟩ (cutV tv k)):=Touch.setCell _ rfl
 have hK:Keeps ok w (w.setCell ⟨bs,1,none⟩ (cutV tv k)):=hS.keeps fun b hb e=>(h.okb b hb).2 (.inl e)
 have hl:(L.take k).length=k:=by rw[List.length_take];omega
 refine⟨by rw[heap_setCell_at _ _ _ _ h.blk];rfl,?_,⟨f,?_,fun x=>(h2 x).keep hK⟩,⟨h.ne.1,by rw[cutV_own];exact h.ne.2⟩,fun b hb=>⟨Nat.lt_of_lt_of_le (h.okb b hb).1 hS.size,fun hm=>(h.okb b hb).2 (by unfold StM at *;rw[cutV_own] at hm;exact hm)⟩⟩
 ·have:=ownsRow_cut h.trail hk
  rw[Nat.mul_one,← List.map_take] at this
  rw[hl]
  exact ownsRow_block this fun g hg=>Below.heap_setCell _ _ _ _ (fun e=>by rw[cutV_own] at hg;have e':g=bs:=e;rw[e'] at hg;exact h.ne.2.1 hg)
 ·rw[hl]
  exact h1.kept (Below.heap_setCell _ _ _ _ (fun e=>h.ne.1 (by have e':bm=bs:=e;exact e'.symm)))
theorem int_row{w:World}{base:Nat}{g n cap:Nat}{L:List Int}(h:w.ownsRow base 3 1 (.slice (some ⟨g,0,none⟩) n cap) n (L.map (Value.int .i64)))(j:Nat)(hj:j<L.length):w.cell? ⟨g,j,none⟩=some (.int .i64 L[j]):=by
 have h1:=h.cells (g:=g) rfl j (.int .i64 L[j]) (by simp[hj])
 by_cases h0:j=0
 ·subst h0;exact h1
 ·simpa[Addr.add,h0] using h1
def UndoPost(w:World)(ok:Nat→Prop)(bs bm:Nat)(tv:Value)(σ:Sub)(L:List Int)(wk k:Nat)(e:Ending)(w':World):Prop :=
 (∃ v,e=.returned v)∧Touch (StM bs bm tv) w w'∧StAt w' ok bs bm (cutV tv k) (undo σ L k) (L.take k) wk
set_option maxRecDepth 100000 in
set_option maxHeartbeats 2000000 in
theorem UndoW{w:World}{ok:Nat→Prop}{bs bm:Nat}{tv:Value}{σ:Sub}{L:List Int}{wk:Nat}(h:StAt w ok bs bm tv σ L wk)(ht:TrailOk σ L)(h64:∀ x,x∈L→I64 x){k:Nat}(hk:k≤L.length)(hl:L.length≤1000000) :
 Calls Try.prog 105 #[.pointer (some ⟨bs,0,none⟩),.int .i64 k] w (UndoPost w ok bs bm tv σ L wk k):=by
 have H:=lh h;have HT:=lh ht;have H64:=lh h64
 obtain⟨c0,c1,c2,cf⟩:=h.cells
 have hr:=h.trail.2
 clear h ht h64
 rcases hr with ⟨rfl,h0⟩ | ⟨g,cap,cur,rfl,hb,hg,hc,hm2,hs,htk⟩
 ·have hk0:k=0:=by omega
  subst hk0
  have hL:L = []:=List.length_eq_zero_iff.1 h0
  subst hL
  clear h0 hk hl
  go_enter Try.func105,Try.ntmps105
  go_wp2_with fail
  go_loopw[13] (fun v13 wr=>v13=.int .i64 0∧wr=w) (fun _ _=>0)
  case atStart=>exact⟨rfl,rfl⟩
  case round =>
   obtain⟨rfl,rfl⟩:=hrel
   have HC:=lh (H.out.u.cut (k:=0) (Nat.zero_le _))
   go_wp2_with fail
   have e:undo σ [] 0 = σ:=by funext v;unfold undo;simp
   refine bodyPost_ret (v:=.tuple #[]) (by simp[results,Try.results105,go_sem]) rfl ⟨⟨_,rfl⟩,Touch.setCell _ (.inl rfl),?_⟩
   rw[e]
   exact HC.out
 ·by_cases hkl:k=L.length
  ·subst hkl
   have HE:Hid (undo σ L L.length = σ):=lh (by funext v;unfold undo;simp)
   have hcap9:cap≤9223372036854775807:=by unfold maxLen at hm2;omega
   clear hm2 hs htk hg hb
   by_cases hcl:cap=L.length
   ·subst hcl
    go_enter Try.func105,Try.ntmps105
    go_wp2_with fail
    go_loopw[13] (fun v13 wr=>v13=.int .i64 0∧wr=w) (fun _ _=>0)
    case atStart=>exact⟨rfl,rfl⟩
    case round =>
     obtain⟨rfl,rfl⟩:=hrel
     have HC:=lh (H.out.u.cut (Nat.le_refl _))
     go_wp2_with fail
     refine bodyPost_ret (v:=.tuple #[]) (by simp[results,Try.results105,go_sem]) rfl ⟨⟨_,rfl⟩,Touch.setCell _ (.inl rfl),?_⟩
     rw[HE.out]
     exact HC.out
   ·have hcl':L.length<cap:=by omega
    go_enter Try.func105,Try.ntmps105
    go_wp2_with fail
    go_loopw[13] (fun v13 wr=>v13=.int .i64 0∧wr=w) (fun _ _=>0)
    case atStart=>exact⟨rfl,rfl⟩
    case round =>
     obtain⟨rfl,rfl⟩:=hrel
     have HC:=lh (H.out.u.cut (Nat.le_refl _))
     go_wp2_with fail
     refine bodyPost_ret (v:=.tuple #[]) (by simp[results,Try.results105,go_sem]) rfl ⟨⟨_,rfl⟩,Touch.setCell _ (.inl rfl),?_⟩
     rw[HE.out]
     exact HC.out
  ·have hkc:k<cap:=by omega
   have HC:Hid (cap≤maxLen):=lh hm2
   have hcap9:cap≤9223372036854775807:=by unfold maxLen at hm2;omega
   have hcc:∀ j (hj:j<L.length),w.cell? ⟨g,j,none⟩=some (.int .i64 L[j]):=fun j hj=>by
    exact int_row H.out.trail j hj
   clear hm2 hs htk hg hb
   go_enter Try.func105,Try.ntmps105
   go_wp2_with fail
   go_loopw[13] (fun v13 wr=>∃ j:Nat,k+j≤L.length∧v13=.int .i64 j∧Hid (StU wr ok bs bm (.slice (some ⟨g,0,none⟩) L.length cap) (undoJ σ L k j) L wk (L.length-j))∧Hid (Touch (fun b=>b=bm) w wr)) (fun v13 _=>L.length-(intOf v13).toNat)
   case atStart=>exact⟨0,by omega,rfl,lh (by
    have e:undoJ σ L k 0 = σ:=by funext v;unfold undoJ;simp
    rw[e];exact H.out.u),lh (Touch.refl _ _)⟩
   case round =>
    obtain⟨j,hj,rfl,HU,HTO⟩:=hrel
    have hgm:g≠bm:=fun e=>H.out.ne.2.2 (by rw[e];rfl)
    obtain⟨d0,d1,d2,df⟩:=HU.out.cells
    by_cases hlt:k+j<L.length
    ·have q0:wr.cell? ⟨g,k+j,none⟩=some (.int .i64 L[k+j]):=int_row HU.out.trail (k+j) hlt
     have hjn:(j:Int)<(L.length:Int)-(k:Int):=by omega
     have hj0:(0:Int)≤(j:Int):=by omega
     obtain⟨w2,hrun,hu2,hg2⟩:=HU.out.drop (H64.out _ (List.getElem_mem hlt)) (undoJ_old HT.out k j hlt) 0
     have HG2:=lh hg2
     have HU2:Hid (StU w2 ok bs bm (.slice (some ⟨g,0,none⟩) L.length cap) (undoJ σ L k (j+1)) L wk (L.length-(j+1))):=lh (by
      have e:undoJ σ L k (j+1)=fun y=>if y=L[k+j] then none else undoJ σ L k j y:=by funext y;exact undoJ_next σ L k j hlt y
      rw[e,show L.length-(j+1)=L.length-j-1 by omega];exact hu2)
     clear hu2 hg2
     go_wp2_with fail
     go_roundw
     case measure=>simp[intOf];omega
     case rel=>exact⟨j+1,by omega,by go_num,HU2,lh (HTO.out.trans (Touch.grown HG2.out fun b e=>by cases e;rfl))⟩
    ·have hje:(j:Int)=(L.length:Int)-(k:Int):=by omega
     have hu:=HU.out
     rw[show L.length-j=k by omega] at hu
     have HC2:=lh (hu.cut hk)
     clear hu
     have HJ:Hid (undoJ σ L k j=undo σ L k):=lh (by rw[show j=L.length-k by omega];exact undoJ_all σ L k)
     go_wp2_with fail
     refine bodyPost_ret (v:=.tuple #[]) (by simp[results,Try.results105,go_sem]) rfl ⟨⟨_,rfl⟩,(HTO.out.mono fun b _ e=>.inr (.inl e)).trans (Touch.setCell _ (.inl rfl)),?_⟩
     rw[← HJ.out]
     exact HC2.out

end Go.Proofs.Ytikmgiapjigghab
