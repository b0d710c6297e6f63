/- Plain: what is known of a machine that runs, from step to step. -/
import Derived.Test.YtikmgiapjigghabCb14
import Derived.Test.YtikmgiapjigghabCb16
import Derived.Test.YtikmgiapjigghabCb26
import Derived.Test.YtikmgiapjigghabCb33
import Derived.Test.YtikmgiapjigghabCb34
namespace Go.Proofs.Ytikmgiapjigghab
open Go.RowKit
structure PgI(p:List Cl):Prop where
 cl:∀ c,c∈p→ClG c
 ok:POk p
 len:p.length≤30
structure RunI(p:List Cl)(query most:Nat)(S:MS)(P:PS):Prop where
 mv:MvS p S P
 inv:RInv p P
 q:S.Q.length=query
 st:P.steps≤most
 big:S.H.length≤400000∧S.G.length≤5000
 room:P.fin=0→S.H.length+833*(left most P+1)≤400000∧S.G.length+6*(left most P+1)≤5000∧S.T.length+4000*(left most P+1)≤2000000
set_option maxRecDepth 20000 in
theorem RunI.step{p:List Cl}(hp:PgI p){query most:Nat}(hmost:most≤400){S:MS}{P:PS}(h:RunI p query most S P)(h0:P.fin=0):RunI p query most (mstep p most S) (pstep p query most P)∧((pstep p query most P).fin=0→left most (pstep p query most P)+1=left most P):=by
 obtain⟨r1,r2,r3⟩:=h.room h0
 have ha:=(h.inv.core h0).2
 obtain⟨q1,q2⟩:=step_sim hp.cl h.mv h0 (most:=most) h.q (by omega) h.st (by constructor <;> omega)
 obtain⟨i1,i2,i3⟩:=step_inv hp.ok hp.len query hmost h.inv h0 h.st
 have g1:=q2.heap;have g2:=q2.goals;have g3:=q2.q;have g4:=q2.trail
 have hl:(pstep p query most P).fin=0→left most (pstep p query most P)+1=left most P:=fun e=>by have:=i3 e;unfold left;exact this
 refine⟨⟨q1,i1,by rw[g3];exact h.q,i2,by omega,fun e=>?_⟩,hl⟩
 have:=hl e
 omega
theorem RunI.chb{p:List Cl}{query most:Nat}{S:MS}{P:PS}(h:RunI p query most S P)(h0:P.fin=0):S.ch.length≤100000:=by
 have hc:=h.mv.core (h.mv.fin.trans h0)
 have h1:=hc.len
 obtain⟨hP,-⟩:=h.inv.core h0
 have h2:=potC_len (m:=p.length) (ch:=P.ch) fun c hc=>(hP.snap c hc).2.2.1
 have h3:=h.inv.pot
 omega
set_option maxRecDepth 20000 in
theorem RunI.aw{p:List Cl}{query most:Nat}(hq:query≤12){S:MS}{P:PS}(h:RunI p query most S P)(h0:P.fin=0):AwI p S P:=by
 obtain⟨r1,r2,r3⟩:=h.room h0
 have ha:=(h.inv.core h0).2
 have hc:=h.chb h0
 exact⟨h.mv.core (h.mv.fin.trans h0),⟨h.mv.fin.trans h0,h0⟩,⟨h.mv.steps,h.mv.ans⟩,by constructor <;> omega,by omega,by omega,by rw[h.q];exact hq,by rw[h.mv.ans];omega⟩
set_option maxRecDepth 20000 in
theorem RunI.tk{p:List Cl}{query most:Nat}{S:MS}{P:PS}(h:RunI p query most S P)(h0:P.fin=0)(hf:S.first≠0):TkI p S P:=by
 obtain⟨r1,r2,r3⟩:=h.room h0
 have hc:=h.chb h0
 have hco:=h.mv.core (h.mv.fin.trans h0)
 obtain⟨D,Sc,hs⟩:=hco.sit
 exact⟨hco,fun e=>hf (hs.first.2 e),⟨h.mv.fin.trans h0,h0⟩,⟨h.mv.steps,h.mv.ans⟩,by constructor <;> omega,by omega,by omega⟩
noncomputable def manss(p:List Cl):Nat→MS→MS
 | 0,S=>S
 | n+1,S=>if S.fin=0∧S.first=0 then manss p n (mansw p S) else S
noncomputable def mone(p:List Cl)(S:MS):MS:=manss p 41 (if S.fin=0∧S.first≠0 then mtake p S else S)
noncomputable def panss(p:List Cl)(query:Nat):Nat→PS→PS
 | 0,P=>P
 | n+1,P=>if P.fin=0∧P.now = [] then panss p query n (pansw p query P) else P
noncomputable def pone(p:List Cl)(query:Nat)(P:PS):PS:=panss p query 41 (if P.fin=0∧P.now≠[] then ptake p P else P)
theorem RunI.first{p:List Cl}{query most:Nat}{S:MS}{P:PS}(h:RunI p query most S P)(h0:P.fin=0):S.first=0↔P.now = []:=by
 obtain⟨D,Sc,hs⟩:=(h.mv.core (h.mv.fin.trans h0)).sit
 exact hs.first
theorem RunI.answ{p:List Cl}(hp:PgI p){query most:Nat}(hmost:most≤400){S:MS}{P:PS}(h:RunI p query most S P)(h0:P.fin=0)(hf:S.first=0):RunI p query most (mansw p S) (pansw p query P)∧((pansw p query P).fin=0→left most (pansw p query P)+1=left most P):=by
 have h1:=h.step hp hmost h0
 have e1:mstep p most S=mansw p S:=if_pos hf
 have e2:pstep p query most P=pansw p query P:=if_pos ((h.first h0).1 hf)
 rw[e1,e2] at h1
 exact h1
theorem RunI.take{p:List Cl}(hp:PgI p){query most:Nat}(hmost:most≤400){S:MS}{P:PS}(h:RunI p query most S P)(h0:P.fin=0)(hf:S.first≠0)(hs:P.steps<most):RunI p query most (mtake p S) (ptake p P)∧((ptake p P).fin=0→left most (ptake p P)+1=left most P):=by
 have h1:=h.step hp hmost h0
 have hst:=h.mv.steps
 have e1:mstep p most S=mtake p S:=by unfold mstep;rw[if_neg hf,if_neg (by omega)]
 have e2:pstep p query most P=ptake p P:=by unfold pstep;rw[if_neg (fun e=>hf ((h.first h0).2 e)),if_neg (by omega)]
 rw[e1,e2] at h1
 exact h1
theorem RunI.answers{p:List Cl}(hp:PgI p){query most:Nat}(hmost:most≤400):∀ (n:Nat) (S:MS) (P:PS),RunI p query most S P→40-P.ans.length<n∨P.fin≠0 →
 RunI p query most (manss p n S) (panss p query n P)∧((manss p n S).fin=0→(manss p n S).first≠0)∧(panss p query n P).steps=P.steps:=by
 intro n
 induction n with
 | zero =>
  intro S P h hn
  refine⟨h,fun e=>?_,rfl⟩
  rcases hn with e | e
  ·omega
  ·exact absurd (h.mv.fin.symm.trans ‹_›) e
 | succ n ih =>
  intro S P h hn
  unfold manss panss
  by_cases h0:P.fin=0
  ·have hS:=h.mv.fin.trans h0
   by_cases hf:S.first=0
   ·have hnow:=(h.first h0).1 hf
    rw[if_pos ⟨hS,hf⟩,if_pos ⟨h0,hnow⟩]
    obtain⟨k1,k2⟩:=h.answ hp hmost h0 hf
    have hst:(pansw p query P).steps=P.steps:=(answ_inv hp.ok query h.inv h0).2.1
    obtain⟨j1,j2,j3⟩:=ih (mansw p S) (pansw p query P) k1 (by
     by_cases h1:(pansw p query P).fin=0
     ·left
      have:=k2 h1
      unfold left at this
      have h40:=(h.inv.core h0).2
      rw[hst] at this
      omega
     ·exact .inr h1)
    exact⟨j1,j2,j3.trans hst⟩
   ·rw[if_neg (fun e=>hf e.2),if_neg (fun e=>hf ((h.first h0).2 e.2))]
    exact⟨h,fun _=>hf,rfl⟩
  ·rw[if_neg (fun e=>h0 (h.mv.fin.symm.trans e.1)),if_neg (fun e=>h0 e.1)]
   exact⟨h,fun e=>absurd (h.mv.fin.symm.trans e) h0,rfl⟩
theorem RunI.one{p:List Cl}(hp:PgI p){query most:Nat}(hmost:most≤400){S:MS}{P:PS}(h:RunI p query most S P)(hs:S.first≠0→P.steps<most) :
 RunI p query most (mone p S) (pone p query P)∧((mone p S).fin=0→(mone p S).first≠0):=by
 unfold mone pone
 by_cases h0:P.fin=0
 ·have hS:=h.mv.fin.trans h0
  have h40:=(h.inv.core h0).2
  by_cases hf:S.first=0
  ·rw[if_neg (fun e=>e.2 hf),if_neg (fun e=>e.2 ((h.first h0).1 hf))]
   obtain⟨a,b,-⟩:=RunI.answers hp hmost 41 S P h (by omega)
   exact⟨a,b⟩
  ·rw[if_pos ⟨hS,hf⟩,if_pos ⟨h0,fun e=>hf ((h.first h0).2 e)⟩]
   obtain⟨k1,k2⟩:=h.take hp hmost h0 hf (hs hf)
   obtain⟨a,b,-⟩:=RunI.answers hp hmost 41 _ _ k1 (by omega)
   exact⟨a,b⟩
 ·rw[if_neg (fun e=>h0 (h.mv.fin.symm.trans e.1)),if_neg (fun e=>h0 e.1)]
  obtain⟨a,b,-⟩:=RunI.answers hp hmost 41 S P h (.inr h0)
  exact⟨a,b⟩
theorem mrun_stop{p:List Cl}{most:Int}{S:MS}(h:S.fin≠0):∀ n,mrun p most n S=S
 | 0=>rfl
 | n+1=>by unfold mrun;rw[if_neg h]
theorem mrun_add{p:List Cl}{most:Int}:∀ (a b:Nat) (S:MS),mrun p most (a+b) S=mrun p most b (mrun p most a S):=by
 intro a
 induction a with
 | zero=>intro b S;rw[Nat.zero_add];rfl
 | succ a ih =>
  intro b S
  rw[show a+1+b=(a+b)+1 by omega]
  by_cases h:S.fin=0
  ·conv=>lhs;unfold mrun
   rw[if_pos h,ih]
   congr 1
   conv=>rhs;unfold mrun
   rw[if_pos h]
  ·rw[mrun_stop h,mrun_stop h,mrun_stop h]
theorem mrun_same{p:List Cl}{most:Int}{a b:Nat}{S:MS}(ha:(mrun p most a S).fin≠0)(hb:(mrun p most b S).fin≠0):mrun p most a S=mrun p most b S:=by
 have key:∀ a b:Nat,a≤b→(mrun p most a S).fin≠0→mrun p most b S=mrun p most a S:=fun a b hab h=>by
  obtain⟨c,rfl⟩:=Nat.exists_eq_add_of_le hab
  rw[mrun_add,mrun_stop h]
 rcases Nat.le_total a b with h | h
 ·exact(key a b h ha).symm
 ·exact key b a h hb
theorem manss_run{p:List Cl}{most:Int}:∀ (n:Nat) (S:MS),∃ k,manss p n S=mrun p most k S:=by
 intro n
 induction n with
 | zero=>intro S;exact⟨0,rfl⟩
 | succ n ih =>
  intro S
  unfold manss
  by_cases h:S.fin=0∧S.first=0
  ·rw[if_pos h]
   obtain⟨k,hk⟩:=ih (mansw p S)
   refine⟨k+1,?_⟩
   rw[hk]
   conv=>rhs;unfold mrun
   rw[if_pos h.1]
   have:mstep p most S=mansw p S:=if_pos h.2
   rw[this]
  ·rw[if_neg h];exact⟨0,rfl⟩
theorem mone_run{p:List Cl}{most:Int}{S:MS}(hs:S.first≠0→(S.steps:Int)<most):∃ k,mone p S=mrun p most k S:=by
 unfold mone
 by_cases h:S.fin=0∧S.first≠0
 ·rw[if_pos h]
  obtain⟨k,hk⟩:=manss_run (p:=p) (most:=most) 41 (mtake p S)
  refine⟨k+1,?_⟩
  rw[hk]
  conv=>rhs;unfold mrun
  rw[if_pos h.1]
  have:mstep p most S=mtake p S:=by unfold mstep;rw[if_neg h.2,if_neg (by have:=hs h.2;omega)]
  rw[this]
 ·rw[if_neg h];exact manss_run 41 S
theorem RunI.answers_left{p:List Cl}(hp:PgI p){query most:Nat}(hmost:most≤400):∀ (n:Nat) (S:MS) (P:PS),RunI p query most S P→(panss p query n P).fin=0→P.fin=0∧left most (panss p query n P)≤left most P∧(P.now = []→0<n→left most (panss p query n P)<left most P):=by
 intro n
 induction n with
 | zero=>intro S P _ h;exact⟨h,Nat.le_refl _,fun _ h=>absurd h (Nat.lt_irrefl _)⟩
 | succ n ih =>
  intro S P h hf
  unfold panss at hf ⊢
  by_cases h0:P.fin=0
  ·by_cases hn:P.now = []
   ·rw[if_pos ⟨h0,hn⟩] at hf ⊢
    obtain⟨k1,k2⟩:=h.answ hp hmost h0 ((h.first h0).2 hn)
    obtain⟨j1,j2,-⟩:=ih _ _ k1 hf
    have:=k2 j1
    exact⟨h0,by omega,fun _ _=>by omega⟩
   ·rw[if_neg (fun e=>hn e.2)] at hf ⊢
    exact⟨h0,Nat.le_refl _,fun e=>absurd e hn⟩
  ·rw[if_neg (fun e=>h0 e.1)] at hf
   exact absurd hf h0
theorem RunI.one_left{p:List Cl}(hp:PgI p){query most:Nat}(hmost:most≤400){S:MS}{P:PS}(h:RunI p query most S P)(h0:P.fin=0)(hs:S.first≠0→P.steps<most)(hf:(pone p query P).fin=0):left most (pone p query P)<left most P:=by
 unfold pone at hf ⊢
 by_cases hn:P.now = []
 ·rw[if_neg (fun e=>e.2 hn)] at hf ⊢
  exact(RunI.answers_left hp hmost 41 S P h hf).2.2 hn (by decide)
 ·have hfi:S.first≠0:=fun e=>hn ((h.first h0).1 e)
  rw[if_pos ⟨h0,hn⟩] at hf ⊢
  obtain⟨k1,k2⟩:=h.take hp hmost h0 hfi (hs hfi)
  obtain⟨j1,j2,-⟩:=RunI.answers_left hp hmost 41 _ _ k1 hf
  have:=k2 j1
  omega
theorem RunI.halt{p:List Cl}{query most:Nat}{S:MS}{P:PS}(h:RunI p query most S P)(h0:P.fin=0)(hf:S.first≠0)(hs:(most:Int)≤(S.steps:Int)):∃ k,{ S with fin:=2 }=mrun p most k S:=by
 refine⟨1,?_⟩
 unfold mrun
 rw[if_pos (h.mv.fin.trans h0)]
 unfold mstep mrun
 rw[if_neg hf,if_pos hs]
end Go.Proofs.Ytikmgiapjigghab
namespace Go.Proofs.Ytikmgiapjigghab
open Go.RowKit Go.Shelf
theorem RnAt.pushQ{w X w5:World}{Z:Nat→Prop}{R:Nat}{p:List Cl}{pa:Option Addr}{pc:Nat}{m:Mac}{d:MAd}{wk:Nat}(h:RnAt w Z R p pa pc m d wk)(hX:Below w.heap.size w X){x:Int}{n:Nat}(hn:m.Q.length=n){a5:Option Addr}{c5:Nat}
 (hown:w5.ownsRow 0 3 1 (.slice a5 (n+1) c5) (n+1) (m.Q.map (fun x=>Value.int .i64 x)++[.int .i64 x])) (hg:X.grownBy w5 (Value.slice d.q n d.qn).ownBlock) (hf:Fresh X (.slice d.q n d.qn) (.slice a5 (n+1) c5)) (hzn:∀ b,Z b→b<w.heap.size) :
 RnAt (w5.setCell ⟨R,6,none⟩ (.slice a5 (n+1) c5)) Z R p pa pc { m with Q:=m.Q++[x] } { d with q:=a5,qn:=c5 } wk∧Touch (RM R d) w (w5.setCell ⟨R,6,none⟩ (.slice a5 (n+1) c5))∧FreshD w d { d with q:=a5,qn:=c5 }:=by
 subst hn
 have h3:=h.below hX
 have hs:=hX.size
 have ht4:Touch (fun b=>bk d.q=some b) X w5:=Touch.grown hg fun k e=>(bk_own d.q m.Q.length d.qn).symm.trans e
 have hf4:bk a5=bk d.q∨∀ b,bk a5=some b→X.heap.size≤b:=hf.elim (fun e=>.inl ((bk_own _ _ _).symm.trans (e.trans (bk_own _ _ _)))) fun e=>.inr fun b hb=>e b ((bk_own _ _ _).trans hb)
 have hLl:(m.Q++[x]).length=m.Q.length+1:=by simp
 obtain⟨q1,-⟩:=h3.putQ (L:=m.Q++[x]) (a:=a5) (n:=c5) (ht4.mono fun b _ e=>.inl e) (by rw[hLl,List.map_append];exact hown) hf4 (fun b hb=>Nat.lt_of_lt_of_le (hzn b hb) hs)
 rw[hLl] at q1
 refine⟨q1,(Touch.below hX).trans ((ht4.mono fun b _ e=>.inr (by rw[← e];simp[rws])).trans (Touch.setCell _ (.inl rfl))),fun b hb=>?_⟩
 simp only[rws,List.mem_cons,List.not_mem_nil,or_false] at hb ⊢
 rcases hf4 with e | e
 ·rw[e] at hb;exact .inl hb
 ·rcases hb with e1 | e1 | e1 | e1 | e1 | e1
  ·exact .inl (.inl e1)
  ·exact .inl (.inr (.inl e1))
  ·exact .inl (.inr (.inr (.inl e1)))
  ·exact .inl (.inr (.inr (.inr (.inl e1))))
  ·exact .inr (by have:=e b e1.symm;omega)
  ·exact .inl (.inr (.inr (.inr (.inr (.inr e1)))))
def mqs(i:Nat):MS:={ H:=(putL [] (fun _=>none) (varsL i)).1.1,G:=[],first:=0,ch:=[],T:=[],Q:=(putL [] (fun _=>none) (varsL i)).2,steps:=0,fin:=0,ans:=[],f:=4000 }
theorem vars_succ(n:Nat):varsL (n+1)=varsL n++[VarT ((n:Int)+1)]:=by simp[varsL,List.range_succ]
structure NwI(w wr:World)(p:List Cl)(pa:Option Addr)(pc bm i:Nat)(d:MAd):Prop where
 rn:RnAt wr (fun b=>b=bm) w.heap.size p pa pc (mqs i).mac d 0
 v:∃ n,VAt wr bm n (putL [] (fun _=>none) (varsL i)).1.2∧n≤(mqs i).H.length
 fr:∀ b,some b∈rws d→w.heap.size≤b
 below:Below w.heap.size w wr
 len:(mqs i).H.length≤119*i
 vb:VB (putL [] (fun _=>none) (varsL i)).1.2 1000000
theorem NwI.start{w:World}{ok:Nat→Prop}{p:List Cl}{pa:Option Addr}{pc:Nat}(hp:Pr w ok p pa pc):NwI w ((w.alloc (.cells #[.slice pa p.length pc,.slice none 0 0,.slice none 0 0,.int .i64 0,.slice none 0 0,.slice none 0 0,.slice none 0 0,.int .i64 0,.int .i64 0,.slice none 0 0,.int .i64 0] 59)).alloc (.map #[] 0)) p pa pc (w.heap.size+1) 0 ⟨none,none,none,none,none,none,0,0,0,0,0,0⟩:=by
 have hsz:(w.alloc (.cells #[.slice pa p.length pc,.slice none 0 0,.slice none 0 0,.int .i64 0,.slice none 0 0,.slice none 0 0,.slice none 0 0,.int .i64 0,.int .i64 0,.slice none 0 0,.int .i64 0] 59)).heap.size=w.heap.size+1:=by simp
 have B1:Below w.heap.size w (w.alloc (.cells #[.slice pa p.length pc,.slice none 0 0,.slice none 0 0,.int .i64 0,.slice none 0 0,.slice none 0 0,.slice none 0 0,.int .i64 0,.int .i64 0,.slice none 0 0,.int .i64 0] 59)):=(Below.refl _ _).alloc (Nat.le_refl _) _
 have hrm:∀ b,RM w.heap.size ⟨none,none,none,none,none,none,0,0,0,0,0,0⟩ b→b=w.heap.size:=fun b hb=>hb.elim id fun e=>by simp[rws,bk,Value.ownBlock] at e
 have hr0:RnAt (w.alloc (.cells #[.slice pa p.length pc,.slice none 0 0,.slice none 0 0,.int .i64 0,.slice none 0 0,.slice none 0 0,.slice none 0 0,.int .i64 0,.int .i64 0,.slice none 0 0,.int .i64 0] 59)) (fun b=>b=w.heap.size+1) w.heap.size p pa pc (mqs 0).mac ⟨none,none,none,none,none,none,0,0,0,0,0,0⟩ 0:=by
  refine⟨heap_alloc_new w _,⟨⟨World.ownsRow_nil _ _ _ _,fun i hi=>absurd hi (Nat.not_lt_zero _)⟩,World.ownsRow_nil _ _ _ _,World.ownsRow_nil _ _ _ _,World.ownsRow_nil _ _ _ _,World.ownsRow_nil _ _ _ _,⟨[],rfl,World.ownsRow_nil _ _ _ _,fun x hx=>nomatch hx⟩,?_⟩,fun y hy e=>by subst e;simp[rws,bk,Value.ownBlock] at hy,?_,fun b hb e=>by have:=hrm b hb;omega⟩
  ·unfold Nd
   simp[bk,Value.ownBlock]
  ·exact((hp.mono (ok':=fun b=>b<w.heap.size) fun b hb _=>hb).keep (Keeps.below B1 _)).mono fun b _ hb=>⟨fun e=>by have:=hrm b e;omega,by omega⟩
 refine⟨hr0.below ((Below.refl _ _).alloc (Nat.le_refl _) _),⟨0,?_,Nat.zero_le _⟩,fun b hb=>by simp[rws,bk,Value.ownBlock] at hb,B1.alloc (by simp) _,Nat.zero_le _,fun v c e=>nomatch e⟩
 rw[← hsz]
 exact IMap.made _
theorem FreshD.base{w wr:World}{d d':MAd}(h:∀ b,some b∈rws d→w.heap.size≤b)(hf:FreshD wr d d')(hs:w.heap.size≤wr.heap.size):∀ b,some b∈rws d'→w.heap.size≤b:=fun b hb=>(hf b hb).elim (h b) fun e=>by omega
theorem NwI.under{w wr w2:World}{p:List Cl}{pa:Option Addr}{pc bm i:Nat}{d:MAd}(h:NwI w wr p pa pc bm i d)(hb:Below wr.heap.size wr w2):NwI w w2 p pa pc bm i d :=
 ⟨h.rn.below hb,by obtain⟨n,hv,hn⟩:=h.v;exact⟨n,hv.keep (hb.block bm hv.lt),hn⟩,h.fr,h.below.trans (hb.mono h.below.size),h.len,h.vb⟩
theorem NwI.bm{w wr:World}{p:List Cl}{pa:Option Addr}{pc bm i:Nat}{d:MAd}(h:NwI w wr p pa pc bm i d):bm<wr.heap.size:=by obtain⟨n,hv,-⟩:=h.v;exact hv.lt
theorem NwI.next{w wr wx X w7:World}{p:List Cl}{pa:Option Addr}{pc bm i:Nat}{d d5:MAd}(h:NwI w wr p pa pc bm i d)(hbm:w.heap.size<bm∧bm<wr.heap.size){K1:List HC}{V1:CV}{a:Nat}(hput:putT (mqs i).H (putL [] (fun _=>none) (varsL i)).1.2 (VarT ((i:Int)+1))=((K1,V1),a))(hi:i<12)
 (hpr:PutR wr wx (fun _=>False) w.heap.size p pa pc (mqs i).mac d d5 0 bm K1 V1) (hX:Below wx.heap.size wx X) {a5:Option Addr} {c5 n:Nat} (hn:(mqs i).Q.length=n)
 (hown:w7.ownsRow 0 3 1 (.slice a5 (n+1) c5) (n+1) ((mqs i).mac.Q.map (fun x=>Value.int .i64 x)++[.int .i64 (a:Nat)])) (hg:X.grownBy w7 (Value.slice d5.q n d5.qn).ownBlock) (hf:Fresh X (.slice d5.q n d5.qn) (.slice a5 (n+1) c5)) :
 NwI w (w7.setCell ⟨w.heap.size,6,none⟩ (.slice a5 (n+1) c5)) p pa pc bm (i+1) { d5 with q:=a5,qn:=c5 }:=by
 have hz:∀ b,(False∨b=bm)→b=bm:=fun b e=>e.elim (fun e=>e.elim) id
 have hrx:RnAt wx (fun b=>b=bm) w.heap.size p pa pc { (mqs i).mac with H:=K1 } d5 0:=hpr.rn.zmono fun b _ e=>.inr e
 have hsx:=hpr.t.size
 have hml:({ (mqs i).mac with H:=K1 }:Mac).Q.length=n:=by rw[← hn];simp[MS.mac]
 obtain⟨q1,q2,q3⟩:=hrx.pushQ hX (x:=(a:Int)) (n:=n) hml hown hg hf (fun b hb=>by have e:b=bm:=hb;rw[e];omega)
 have hsn:=putL_snoc (VarT ((i:Int)+1)) (varsL i) [] (fun _=>none)
 rw[← vars_succ] at hsn
 have hput':putT (putL [] (fun _=>none) (varsL i)).1.1 (putL [] (fun _=>none) (varsL i)).1.2 (VarT ((i:Int)+1))=((K1,V1),a):=hput
 rw[hput'] at hsn
 have hle:=putT_le (VarT ((i:Int)+1)) (mqs i).H (putL [] (fun _=>none) (varsL i)).1.2
 have hlen:=h.len
 have hvs:(VarT ((i:Int)+1)).size=1:=rfl
 have hbd:=putT_vb (VarT ((i:Int)+1)) (mqs i).H (putL [] (fun _=>none) (varsL i)).1.2 1000000 h.vb (by rw[hvs];omega)
 rw[hput] at hle hbd
 simp only at hle hbd
 have hmq:(mqs (i+1)).mac = { { (mqs i).mac with H:=K1 } with Q:=(mqs i).mac.Q++[(a:Int)] }:=by
  simp only[mqs,MS.mac,hsn,List.map_append,List.map_cons,List.map_nil]
 have hR:w.heap.size<wr.heap.size:=h.rn.lt
 have fr5:∀ b,some b∈rws d5→w.heap.size≤b:=FreshD.base h.fr hpr.fr h.below.size
 have hrmd:∀ b,RM w.heap.size d b→w.heap.size≤b:=fun b e=>e.elim (fun e=>by omega) (h.fr b)
 have hrm5:∀ b,RM w.heap.size d5 b→w.heap.size≤b:=fun b e=>e.elim (fun e=>by omega) (fr5 b)
 have hbx:Below w.heap.size w wx:=h.below.trans (hpr.t.toBelow h.below.size fun b e=>e.elim (hrmd b) fun e=>by omega)
 refine⟨by rw[hmq];exact q1,?_,FreshD.base fr5 q3 hbx.size,hbx.trans (q2.toBelow hbx.size hrm5),?_,?_⟩
 ·obtain⟨n5,hv5,hn5⟩:=hpr.v
  refine⟨n5,?_,?_⟩
  ·have e:(putL [] (fun _=>none) (varsL (i+1))).1.2=V1:=by rw[hsn]
   rw[e]
   exact hv5.keep (q2.block bm hv5.lt fun e=>hrx.zr bm e rfl)
  ·have e:(mqs (i+1)).H=K1:=by simp only[mqs,hsn]
   rw[e];exact hn5
 ·have e:(mqs (i+1)).H=K1:=by simp only[mqs,hsn]
  rw[e]
  rw[hvs] at hle
  omega
 ·have e:(putL [] (fun _=>none) (varsL (i+1))).1.2=V1:=by rw[hsn]
  rw[e];exact hbd.2
def NwPost(w:World)(p:List Cl)(pa:Option Addr)(pc:Nat)(S:MS)(e:Ending)(w':World):Prop :=
 ∃ d,e=.returned (.pointer (some ⟨w.heap.size,0,none⟩))∧RnAt w' (fun _=>False) w.heap.size p pa pc S.mac d 0∧Below w.heap.size w w'∧∀ b,some b∈rws d→w.heap.size≤b
set_option maxRecDepth 100000 in
set_option maxHeartbeats 3200000 in
theorem NewRW{w:World}{okp okq:Nat→Prop}{p:List Cl}{pa:Option Addr}{pc:Nat}(hp:Pr w okp p pa pc){q:List Tm}{qa:Option Addr}{qc:Nat}(hq:Ts w okq q qa qc){g:Nat}(hg:Tm.greats q=(g:Int))(hg12:g≤12)(hqs:∀ t,t∈q→t.size≤60)(hql:q.length≤6) :
 Calls Try.prog 42 #[.slice pa p.length pc,.slice qa q.length qc] w (NwPost w p pa pc (mnew q g)):=by
 have HN0:=lh (NwI.start hp)
 have HQ:Hid (Ts w (fun b=>b<w.heap.size) q qa qc):=lh (hq.mono fun b hb _=>hb)
 have HG:=lh hg;have HQS:=lh hqs
 have hmm:=@run_makeMap Try.prog
 clear hp hq hg hqs
 go_enter Try.func42,Try.ntmps42
 go_wp2_with fail
 generalize (w.alloc (.cells #[.slice pa p.length pc,.slice none 0 0,.slice none 0 0,.int .i64 0,.slice none 0 0,.slice none 0 0,.slice none 0 0,.int .i64 0,.int .i64 0,.slice none 0 0,.int .i64 0] 59)).alloc (.map #[] 0)=wl at *
 clear hmm
 go_loopw[7] (fun x7 wr=>∃ (i:Nat) (d:MAd),i≤g∧x7=.int .i64 ((i:Int)+1)∧Hid (NwI w wr p pa pc (w.heap.size+1) i d)) (fun x7 _=>g+1-(intOf x7).toNat)
 case atStart=>exact⟨0,_,Nat.zero_le _,rfl,HN0⟩
 case round =>
  clear HN0
  obtain⟨i,d,hi,rfl,HI⟩:=hrel
  have HGR:Hid (Calls Try.prog 48 #[.slice qa q.length qc] wr fun e w'=>e=.returned (.int .i64 (g:Nat))∧Below wr.heap.size wr w'):=lh (by
   have h1:=GreatestW q wr _ qa qc (HQ.out.keep (Keeps.below HI.out.below _))
   rw[HG.out] at h1
   exact h1)
  by_cases hlt:i<g
  ·have hlt1:(i:Int)+1≤(g:Int):=by omega
   go_upto_region 7 with (go_at_call 48;refine HGR.out.mono ?_;rintro e w2 ⟨rfl,hb2⟩;have HB2:=lh hb2;clear hb2)
   have HI2:=lh (HI.out.under HB2.out)
   obtain⟨c0,c1,c2,c3,c4,c5,c6,c7,c8,c9,c10,cf⟩:=HI2.out.rn.cells
   have zR:=HI2.out.rn.lt
   have hbm:=HI2.out.bm
   obtain⟨⟨⟨K1,V1⟩,a⟩,hput⟩:∃ Z,putT (mqs i).H (putL [] (fun _=>none) (varsL i)).1.2 (VarT ((i:Int)+1))=Z:=⟨_,rfl⟩
   have HPUT:=lh hput
   obtain⟨nv,hv1,hv2⟩:=HI2.out.v
   have HCL:Hid (Calls Try.prog 71 #[.slice d.h (mqs i).H.length d.hn,.agg #[.int .i64 ((i:Int)+1),.string ⟨#[]⟩,.slice none 0 0],.map (some (w.heap.size+1))] w2 (PutPost w2 0 (.slice d.h (mqs i).H.length d.hn) (w.heap.size+1) ((K1,V1),a))):=lh (by
    rw[← hput]
    have hl:=HI2.out.len
    exact PutW (VarT ((i:Int)+1)) _ (fun _=>False) none 0 0 (w.heap.size+1) nv (.slice d.h (mqs i).H.length d.hn) (mqs i).H _ ⟨by show I64 ((i:Int)+1);unfold I64;omega,Nat.zero_le _⟩ (Ts.empty' _ _) (fun b hb=>hb.elim) HI2.out.rn.rows.h hv1 hv2 (fun e=>HI2.out.rn.zr (w.heap.size+1) (.inr (by rw[← (bk_own _ _ _).symm.trans e];simp[rws])) rfl) (Nat.zero_le _) (by have e:(VarT ((i:Int)+1)).size=1:=rfl;rw[e];omega) HI2.out.vb)
   clear hput hv1 hv2
   have hQl:(mqs i).mac.Q.length=(mqs i).Q.length:=by simp[MS.mac]
   rw[hQl] at c6
   go_upto_region 8 with (go_at_call 71;refine HCL.out.mono ?_;rintro e w1 ⟨v5,n5,rfl,hH5,hV5,hn5,hf5,ht5⟩;obtain⟨a5,c5',rfl⟩:=hH5.form;have hbR:w1.heap[w.heap.size]? = w2.heap[w.heap.size]?:=ht5.block w.heap.size zR (fun e=>e.elim (fun e=>HI2.out.rn.ne (bk d.h) (by simp[rws]) ((bk_own _ _ _).symm.trans e)) fun e=>by omega);have y1:w1.cell? ⟨w.heap.size,1,none⟩=some (.slice d.h (mqs i).mac.H.length d.hn):=(World.cell?_of_block hbR).trans c1;have yf:∀ o,w1.frozen? ⟨w.heap.size,o,none⟩=false:=(fun o=>by have:=cf o;simpa[World.frozen?,hbR] using this);have H5:=lh (And.intro hH5 (And.intro hV5 (And.intro hn5 (And.intro hf5 ht5))));clear hH5 hV5 hn5 hf5 ht5 hbR)
   have hpr:=PutR.of (Z:=fun _=>False) (w:=w2) (u:=w2) (bm:=w.heap.size+1) (HI2.out.rn.zmono fun b _ e=>e.elim (fun e=>e.elim) id) (fun b e=>e.elim) hbm (Below.refl _ _) H5.out.1 H5.out.2.1 H5.out.2.2.1 H5.out.2.2.2.1 H5.out.2.2.2.2
   have HPR:=lh hpr
   clear hpr H5 y1 yf c0 c1 c2 c3 c4 c5 c6 c7 c8 c9 c10 cf HCL
   generalize w1.setCell ⟨w.heap.size,1,none⟩ (.slice a5 K1.length c5')=wx at *
   generalize ({ d with h:=a5,hn:=c5' }:MAd)=d5 at *
   obtain⟨x0,x1,x2,x3,x4,x5,x6,x7,x8,x9,x10,xf⟩:=HPR.out.rn.cells
   have zRx:=HPR.out.rn.lt
   have hml:({ (mqs i).mac with H:=K1 }:Mac).Q.length=(mqs i).Q.length:=by simp[MS.mac]
   rw[hml] at x6
   have hq5:=HPR.out.rn.rows.q
   rw[hml] at hq5
   have HO1:=lh (hq5.alloc (.cells #[.int .i64 (a:Nat)] 3))
   have hqi:(mqs i).Q.length=i:=by
    have:=putL_cells (varsL i) [] (fun _=>none)
    simp only[mqs]
    rw[this];simp[varsL]
   have hqi2:(mqs i).Q.length≤12:=by omega
   obtain⟨i1,hi1,hz0,hz1,hz2⟩:=info_parts Try.infoInt
   clear hml hqi hq5 hQl
   go_wp2_with (at_builtin;have _g:=HO1;(refine wpList_append_fresh _ rfl _ _ 27 rfl 0 3 i1 _ 1 8 Try.underlying27 hi1 hz0 hz1 hz2 rfl (by decide) _ _ _ rfl HO1.out ⟨wx.heap.size,0,none⟩ 1 1 [.int .i64 (a:Nat)] rfl rfl ?d1 ?d2 ?d3 ?d4 ?d5 ?_))
   any_goals (first | exact one_cell _ _ _ | (intro u hu;simp only[List.mem_singleton] at hu;subst hu;rfl) | rfl | (unfold maxLen;omega) | omega | (simp only[World.size_alloc];omega))
   intro v7 w7 hown7 hgrow7 hfr7
   obtain⟨a7,c7',rfl⟩:=ownsRow_form hown7
   have hX1:Below wx.heap.size wx (wx.alloc (.cells #[.int .i64 (a:Nat)] 3)):=(Below.refl _ _).alloc (Nat.le_refl _) _
   have hrb:w7.heap[w.heap.size]? = wx.heap[w.heap.size]?:=(hgrow7.block w.heap.size (Nat.lt_of_lt_of_le zRx hX1.size) (fun e=>HPR.out.rn.ne (bk d5.q) (by simp[rws]) ((bk_own d5.q (mqs i).Q.length d5.qn).symm.trans e.symm))).trans (hX1.block w.heap.size zRx)
   have z6:w7.cell? ⟨w.heap.size,6,none⟩=some (.slice d5.q (mqs i).Q.length d5.qn):=(World.cell?_of_block hrb).trans x6
   have zf:∀ o,w7.frozen? ⟨w.heap.size,o,none⟩=false:=fun o=>by have:=xf o;simpa[World.frozen?,hrb] using this
   have HNX:=lh (HI2.out.next ⟨by omega,hbm⟩ HPUT.out (by omega) HPR.out hX1 rfl hown7 hgrow7 hfr7)
   clear hX1 hrb hown7 hgrow7 hfr7 x0 x1 x2 x3 x4 x5 x6 x7 x8 x9 x10 xf
   go_wp2_with fail
   go_roundw
   case measure=>simp only[intOf];omega
   case rel=>exact⟨i+1,_,by omega,by go_num,HNX⟩
  ·have hlt1:¬ (i:Int)+1≤(g:Int):=by omega
   obtain rfl:i=g:=by omega
   go_upto_region 9 with (go_at_call 48;refine HGR.out.mono ?_;rintro e w2 ⟨rfl,hb2⟩;have HB2:=lh hb2;clear hb2)
   have HI2:=lh (HI.out.under HB2.out)
   have hbm:=HI2.out.bm
   have HPW:=lh (by
    obtain⟨nv,hv1,hv2⟩:=HI2.out.v
    have hl:=HI2.out.len
    have h1:=RPushW (S:=mqs i) (l:=q) (la:=qa) (lc:=qc) (bm:=w.heap.size+1) (n:=nv) (V:=(putL [] (fun _=>none) (varsL i)).1.2) (cut:=0) (nx:=0) (okq:=fun b=>b<w.heap.size) HI2.out.rn (fun b hb=>by have e:b=w.heap.size+1:=hb;rw[e];exact hbm) ((HQ.out.keep (Keeps.below HI2.out.below _))) (fun b hb=>⟨fun e=>e.elim (fun e=>by omega) fun e=>by have:=HI2.out.fr b e;omega,by omega⟩) hv1 hv2 rfl HI2.out.vb HQS.out (by omega) (by show ([]:List Gn).length+q.length≤5000;simp only[List.length_nil];omega) rfl
    exact h1)
   clear hbm
   go_wp2_with (go_at_call 72;refine HPW.out.mono ?_;rintro e w8 ⟨⟨uv,rfl⟩,ht8,d8,hf8,hr8⟩;have HT8:=lh ht8;have HF8:=lh hf8;have HR8:=lh hr8;clear ht8 hf8 hr8)
   go_ret
   have hrmd:∀ b,RM w.heap.size d b→w.heap.size≤b:=fun b e=>e.elim (fun e=>by omega) (HI2.out.fr b)
   exact⟨d8,rfl,HR8.out.zmono (fun _ _ e=>e.elim),HI2.out.below.trans (HT8.out.toBelow HI2.out.below.size fun b e=>e.elim (hrmd b) fun e=>by omega),FreshD.base HI2.out.fr HF8.out HI2.out.below.size⟩
end Go.Proofs.Ytikmgiapjigghab
