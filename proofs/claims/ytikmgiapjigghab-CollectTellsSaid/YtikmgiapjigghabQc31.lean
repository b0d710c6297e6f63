/- Plain: what is known of a machine that runs, from step to step. -/
import Derived.Test.YtikmgiapjigghabQc18
import Derived.Test.YtikmgiapjigghabQc21
import Derived.Test.YtikmgiapjigghabQc27
import Derived.Test.YtikmgiapjigghabQc29
import Derived.Test.YtikmgiapjigghabQc30
set_option maxRecDepth 100000
set_option maxHeartbeats 8000000
namespace Go.Proofs.Ytikmgiapjigghab
open Go.RowKit
structure PgI(p:List Cl):Prop where
 cl:∀c,c∈p→ClG c
 ok:POk p
 len:p.length≤30
structure fW(p:List Cl)(query most:Nat)(S:MS)(P:PS):Prop where
 mv:MvS p S P
 inv:aA6 p P
 q:S.Q.length=query
 st:P.steps≤most
 big:S.H.length≤400000∧S.G.length≤5000
 room:P.fin=0→S.H.length+833*(left most P+1)≤400000∧S.G.length+6*(left most P+1)≤5000∧S.T.length+4000*(left most P+1)≤2000000
theorem fW.step{p:List Cl}(hp:PgI p){query most:Nat}(hmost:most≤400){S:MS}{P:PS}(h:fW p query most S P)(h0:P.fin=0):fW p query most (vF p most S) (gI p query most P)∧((gI p query most P).fin=0→left most (gI p query most P)+1=left most P):=by
 obtain⟨r1,r2,r3⟩:=h.room h0;have ha:=(h.inv.core h0).2;obtain⟨q1,q2⟩:=bC1 hp.cl h.mv h0 (most:=most) h.q (by omega) h.st (by constructor <;> omega);obtain⟨i1,i2,i3⟩:=bD9 hp.ok hp.len query hmost h.inv h0 h.st;have g1:=q2.heap;have g2:=q2.goals;have g3:=q2.q;have g4:=q2.trail;have hl:(gI p query most P).fin=0→left most (gI p query most P)+1=left most P:=fun e=>by have:=i3 e;unfold left;exact this
 refine⟨⟨q1,i1,by rw[g3];exact h.q,i2,by omega,fun e=>?_⟩,hl⟩;have:=hl e;omega
theorem fW.chb{p:List Cl}{query most:Nat}{S:MS}{P:PS}(h:fW p query most S P)(h0:P.fin=0):S.ch.length≤100000:=by
 have hc:=h.mv.core (h.mv.fin.trans h0);have h1:=hc.len;obtain⟨hP,-⟩:=h.inv.core h0;have h2:=bD6 (m:=p.length) (ch:=P.ch) fun c hc=>(hP.snap c hc).2.2.1
 have h3:=h.inv.pot;omega
theorem fW.aw{p:List Cl}{query most:Nat}(hq:query≤12){S:MS}{P:PS}(h:fW p query most S P)(h0:P.fin=0):AwI p S P:=by
 obtain⟨r1,r2,r3⟩:=h.room h0;have ha:=(h.inv.core h0).2;have hc:=h.chb h0;exact⟨h.mv.core (h.mv.fin.trans h0),⟨h.mv.fin.trans h0,h0⟩,⟨h.mv.steps,h.mv.ans⟩,by constructor <;> omega,by omega,by omega,by rw[h.q];exact hq,by rw[h.mv.ans];omega⟩
theorem fW.tk{p:List Cl}{query most:Nat}{S:MS}{P:PS}(h:fW p query most S P)(h0:P.fin=0)(hf:S.first≠0):TkI p S P:=by
 obtain⟨r1,r2,r3⟩:=h.room h0;have hc:=h.chb h0;have hco:=h.mv.core (h.mv.fin.trans h0);obtain⟨D,Sc,hs⟩:=hco.sit;exact⟨hco,fun e=>hf (hs.first.2 e),⟨h.mv.fin.trans h0,h0⟩,⟨h.mv.steps,h.mv.ans⟩,by constructor <;> omega,by omega,by omega⟩
noncomputable def lP(p:List Cl):Nat→MS→MS
 | 0,S=>S
 | n+1,S=>if S.fin=0∧S.first=0 then lP p n (jK p S) else S
noncomputable def kW(p:List Cl)(S:MS):MS:=lP p 41 (if S.fin=0∧S.first≠0 then eS p S else S)
noncomputable def vJ(p:List Cl)(query:Nat):Nat→PS→PS
 | 0,P=>P
 | n+1,P=>if P.fin=0∧P.now = [] then vJ p query n (gA p query P) else P
noncomputable def bG9(p:List Cl)(query:Nat)(P:PS):PS:=vJ p query 41 (if P.fin=0∧P.now≠[] then lD p P else P)
theorem fW.first{p:List Cl}{query most:Nat}{S:MS}{P:PS}(h:fW p query most S P)(h0:P.fin=0):S.first=0↔P.now = []:=by
 obtain⟨D,Sc,hs⟩:=(h.mv.core (h.mv.fin.trans h0)).sit;exact hs.first
theorem fW.answ{p:List Cl}(hp:PgI p){query most:Nat}(hmost:most≤400){S:MS}{P:PS}(h:fW p query most S P)(h0:P.fin=0)(hf:S.first=0):fW p query most (jK p S) (gA p query P)∧((gA p query P).fin=0→left most (gA p query P)+1=left most P):=by
 have h1:=h.step hp hmost h0;have e1:vF p most S=jK p S:=if_pos hf;have e2:gI p query most P=gA p query P:=if_pos ((h.first h0).1 hf);rw[e1,e2] at h1;exact h1
theorem fW.take{p:List Cl}(hp:PgI p){query most:Nat}(hmost:most≤400){S:MS}{P:PS}(h:fW p query most S P)(h0:P.fin=0)(hf:S.first≠0)(hs:P.steps<most):fW p query most (eS p S) (lD p P)∧((lD p P).fin=0→left most (lD p P)+1=left most P):=by
 have h1:=h.step hp hmost h0;have hst:=h.mv.steps;have e1:vF p most S=eS p S:=by unfold vF;rw[if_neg hf,if_neg (by omega)]
 have e2:gI p query most P=lD p P:=by unfold gI;rw[if_neg (fun e=>hf ((h.first h0).2 e)),if_neg (by omega)]
 rw[e1,e2] at h1;exact h1
theorem fW.answers{p:List Cl}(hp:PgI p){query most:Nat}(hmost:most≤400):∀(n:Nat) (S:MS) (P:PS),fW p query most S P→40-P.ans.length<n∨P.fin≠0 →
 fW p query most (lP p n S) (vJ p query n P)∧((lP p n S).fin=0→(lP p n S).first≠0)∧(vJ p query n P).steps=P.steps:=by
 intro n
 induction n with
 | zero =>
  intro S P h hn;refine⟨h,fun e=>?_,rfl⟩;rcases hn with e|e
  ·omega
  ·exact absurd (h.mv.fin.symm.trans ‹_›) e
 | succ n ih =>
  intro S P h hn;unfold lP vJ;by_cases h0:P.fin=0
  ·have hS:=h.mv.fin.trans h0
   by_cases hf:S.first=0
   ·have hnow:=(h.first h0).1 hf
    rw[if_pos ⟨hS,hf⟩,if_pos ⟨h0,hnow⟩];obtain⟨k1,k2⟩:=h.answ hp hmost h0 hf;have hst:(gA p query P).steps=P.steps:=(vX hp.ok query h.inv h0).2.1;obtain⟨j1,j2,j3⟩:=ih (jK p S) (gA p query P) k1 (by
     by_cases h1:(gA p query P).fin=0
     ·left
      have:=k2 h1;unfold left at this;have h40:=(h.inv.core h0).2;rw[hst] at this;omega
     ·exact .inr h1)
    exact⟨j1,j2,j3.trans hst⟩
   ·rw[if_neg (fun e=>hf e.2),if_neg (fun e=>hf ((h.first h0).2 e.2))]
    exact⟨h,fun _=>hf,rfl⟩
  ·rw[if_neg (fun e=>h0 (h.mv.fin.symm.trans e.1)),if_neg (fun e=>h0 e.1)]
   exact⟨h,fun e=>absurd (h.mv.fin.symm.trans e) h0,rfl⟩
theorem fW.one{p:List Cl}(hp:PgI p){query most:Nat}(hmost:most≤400){S:MS}{P:PS}(h:fW p query most S P)(hs:S.first≠0→P.steps<most) :
 fW p query most (kW p S) (bG9 p query P)∧((kW p S).fin=0→(kW p S).first≠0):=by
 unfold kW bG9;by_cases h0:P.fin=0
 ·have hS:=h.mv.fin.trans h0
  have h40:=(h.inv.core h0).2;by_cases hf:S.first=0
  ·rw[if_neg (fun e=>e.2 hf),if_neg (fun e=>e.2 ((h.first h0).1 hf))]
   obtain⟨a,b,-⟩:=fW.answers hp hmost 41 S P h (by omega);exact⟨a,b⟩
  ·rw[if_pos ⟨hS,hf⟩,if_pos ⟨h0,fun e=>hf ((h.first h0).2 e)⟩]
   obtain⟨k1,k2⟩:=h.take hp hmost h0 hf (hs hf);obtain⟨a,b,-⟩:=fW.answers hp hmost 41 _ _ k1 (by omega);exact⟨a,b⟩
 ·rw[if_neg (fun e=>h0 (h.mv.fin.symm.trans e.1)),if_neg (fun e=>h0 e.1)]
  obtain⟨a,b,-⟩:=fW.answers hp hmost 41 S P h (.inr h0);exact⟨a,b⟩

end Go.Proofs.Ytikmgiapjigghab
namespace Go.Proofs.Ytikmgiapjigghab
open Go.RowKit Go.Shelf
theorem aX.pushQ{w X w5:World}{Z:Nat→Prop}{R:Nat}{p:List Cl}{pa:Option Addr}{pc:Nat}{m:Mac}{d:MAd}{wk:Nat}(h:aX w Z R p pa pc m d wk)(hX:Below w.heap.size w X){x:Int}{n:Nat}(hn:m.Q.length=n){a5:Option Addr}{c5:Nat}
 (hown:w5.ownsRow 0 3 1 (.slice a5 (n+1) c5) (n+1) (m.Q.map (fun x=>Value.int .i64 x)++[.int .i64 x])) (hg:X.grownBy w5 (Value.slice d.q n d.qn).ownBlock) (hf:cF X (.slice d.q n d.qn) (.slice a5 (n+1) c5)) (hzn:∀b,Z b→b<w.heap.size) :
 aX (w5.setCell ⟨R,6,none⟩ (.slice a5 (n+1) c5)) Z R p pa pc {m with Q:=m.Q++[x]} {d with q:=a5,qn:=c5} wk∧aA (RM R d) w (w5.setCell ⟨R,6,none⟩ (.slice a5 (n+1) c5))∧bB w d {d with q:=a5,qn:=c5}:=by
 subst hn;have h3:=h.below hX;have hs:=hX.size;have ht4:aA (fun b=>bk d.q=some b) X w5:=aA.grown hg fun k e=>(aE d.q m.Q.length d.qn).symm.trans e
 have hf4:bk a5=bk d.q∨∀b,bk a5=some b→X.heap.size≤b:=hf.elim (fun e=>.inl ((aE _ _ _).symm.trans (e.trans (aE _ _ _)))) fun e=>.inr fun b hb=>e b ((aE _ _ _).trans hb)
 have hLl:(m.Q++[x]).length=m.Q.length+1:=by simp
 obtain⟨q1,-⟩:=h3.putQ (L:=m.Q++[x]) (a:=a5) (n:=c5) (ht4.mono fun b _ e=>.inl e) (by rw[hLl,List.map_append];exact hown) hf4 (fun b hb=>nT (hzn b hb) hs);rw[hLl] at q1;refine⟨q1,(aA.below hX).trans ((ht4.mono fun b _ e=>.inr (by rw[←e];simp[rws])).trans (aA.setCell _ (.inl rfl))),fun b hb=>?_⟩;simp only[rws,List.mem_cons,List.not_mem_nil,or_false] at hb ⊢;rcases hf4 with e|e
 ·rw[e] at hb;exact .inl hb
 ·rcases hb with e1|e1|e1|e1|e1|e1
  ·exact .inl (.inl e1)
  ·exact .inl (.inr (.inl e1))
  ·exact .inl (.inr (.inr (.inl e1)))
  ·exact .inl (.inr (.inr (.inr (.inl e1))))
  ·exact .inr (by have:=e b e1.symm;omega)
  ·exact .inl (.inr (.inr (.inr (.inr (.inr e1)))))
def mqs(i:Nat):MS:={H:=(aS [] (fun _=>none) (dB i)).1.1,G:=[],first:=0,ch:=[],T:=[],Q:=(aS [] (fun _=>none) (dB i)).2,steps:=0,fin:=0,ans:=[],f:=4000}
theorem aS4(n:Nat):dB (n+1)=dB n++[aQ ((n:Int)+1)]:=by simp[dB,List.range_succ]
structure NwI(w wr:World)(p:List Cl)(pa:Option Addr)(pc bm i:Nat)(d:MAd):Prop where
 rn:aX wr (fun b=>b=bm) w.heap.size p pa pc (mqs i).mac d 0
 v:∃n,VAt wr bm n (aS [] (fun _=>none) (dB i)).1.2∧n≤(mqs i).H.length
 fr:∀b,some b∈rws d→w.heap.size≤b
 below:Below w.heap.size w wr
 len:(mqs i).H.length≤119*i
 vb:VB (aS [] (fun _=>none) (dB i)).1.2 1000000
theorem NwI.start{w:World}{ok:Nat→Prop}{p:List Cl}{pa:Option Addr}{pc:Nat}(hp:Pr w ok p pa pc):NwI w ((w.alloc (.cells #[.slice pa p.length pc,.slice none 0 0,.slice none 0 0,.int .i64 0,.slice none 0 0,.slice none 0 0,.slice none 0 0,.int .i64 0,.int .i64 0,.slice none 0 0,.int .i64 0] 59)).alloc (.map #[] 0)) p pa pc (w.heap.size+1) 0 ⟨none,none,none,none,none,none,0,0,0,0,0,0⟩:=by
 have hsz:(w.alloc (.cells #[.slice pa p.length pc,.slice none 0 0,.slice none 0 0,.int .i64 0,.slice none 0 0,.slice none 0 0,.slice none 0 0,.int .i64 0,.int .i64 0,.slice none 0 0,.int .i64 0] 59)).heap.size=w.heap.size+1:=by simp
 have B1:Below w.heap.size w (w.alloc (.cells #[.slice pa p.length pc,.slice none 0 0,.slice none 0 0,.int .i64 0,.slice none 0 0,.slice none 0 0,.slice none 0 0,.int .i64 0,.int .i64 0,.slice none 0 0,.int .i64 0] 59)):=(bR _ _).alloc (nR _) _;have hrm:∀b,RM w.heap.size ⟨none,none,none,none,none,none,0,0,0,0,0,0⟩ b→b=w.heap.size:=fun b hb=>hb.elim id fun e=>by simp[rws,bk,Value.ownBlock] at e
 have hr0:aX (w.alloc (.cells #[.slice pa p.length pc,.slice none 0 0,.slice none 0 0,.int .i64 0,.slice none 0 0,.slice none 0 0,.slice none 0 0,.int .i64 0,.int .i64 0,.slice none 0 0,.int .i64 0] 59)) (fun b=>b=w.heap.size+1) w.heap.size p pa pc (mqs 0).mac ⟨none,none,none,none,none,none,0,0,0,0,0,0⟩ 0:=by
  refine⟨heap_alloc_new w _,⟨⟨World.ownsRow_nil _ _ _ _,fun i hi=>absurd hi (Nat.not_lt_zero _)⟩,World.ownsRow_nil _ _ _ _,World.ownsRow_nil _ _ _ _,World.ownsRow_nil _ _ _ _,World.ownsRow_nil _ _ _ _,⟨[],rfl,World.ownsRow_nil _ _ _ _,fun x hx=>nomatch hx⟩,?_⟩,fun y hy e=>by subst e;simp[rws,bk,Value.ownBlock] at hy,?_,fun b hb e=>by have:=hrm b hb;omega⟩
  ·unfold Nd
   simp[bk,Value.ownBlock]
  ·exact((hp.mono (ok':=fun b=>b<w.heap.size) fun b hb _=>hb).keep (aD.below B1 _)).mono fun b _ hb=>⟨fun e=>by have:=hrm b e;omega,by omega⟩
 refine⟨hr0.below ((bR _ _).alloc (nR _) _),⟨0,?_,Nat.zero_le _⟩,fun b hb=>by simp[rws,bk,Value.ownBlock] at hb,B1.alloc (by simp) _,Nat.zero_le _,fun v c e=>nomatch e⟩;rw[←hsz];exact iV.made _
theorem bB.base{w wr:World}{d d':MAd}(h:∀b,some b∈rws d→w.heap.size≤b)(hf:bB wr d d')(hs:w.heap.size≤wr.heap.size):∀b,some b∈rws d'→w.heap.size≤b:=fun b hb=>(hf b hb).elim (h b) fun e=>by omega
theorem NwI.under{w wr w2:World}{p:List Cl}{pa:Option Addr}{pc bm i:Nat}{d:MAd}(h:NwI w wr p pa pc bm i d)(hb:Below wr.heap.size wr w2):NwI w w2 p pa pc bm i d :=
 ⟨h.rn.below hb,by obtain⟨n,hv,hn⟩:=h.v;exact⟨n,hv.keep (hb.block bm hv.lt),hn⟩,h.fr,h.below.trans (hb.mono h.below.size),h.len,h.vb⟩
theorem NwI.bm{w wr:World}{p:List Cl}{pa:Option Addr}{pc bm i:Nat}{d:MAd}(h:NwI w wr p pa pc bm i d):bm<wr.heap.size:=by obtain⟨n,hv,-⟩:=h.v;exact hv.lt
theorem NwI.next{w wr wx X w7:World}{p:List Cl}{pa:Option Addr}{pc bm i:Nat}{d d5:MAd}(h:NwI w wr p pa pc bm i d)(hbm:w.heap.size<bm∧bm<wr.heap.size){K1:List HC}{V1:CV}{a:Nat}(hput:putT (mqs i).H (aS [] (fun _=>none) (dB i)).1.2 (aQ ((i:Int)+1))=((K1,V1),a))(hi:i<12)
 (hpr:aR9 wr wx (fun _=>False) w.heap.size p pa pc (mqs i).mac d d5 0 bm K1 V1) (hX:Below wx.heap.size wx X) {a5:Option Addr} {c5 n:Nat} (hn:(mqs i).Q.length=n)
 (hown:w7.ownsRow 0 3 1 (.slice a5 (n+1) c5) (n+1) ((mqs i).mac.Q.map (fun x=>Value.int .i64 x)++[.int .i64 (a:Nat)])) (hg:X.grownBy w7 (Value.slice d5.q n d5.qn).ownBlock) (hf:cF X (.slice d5.q n d5.qn) (.slice a5 (n+1) c5)) :
 NwI w (w7.setCell ⟨w.heap.size,6,none⟩ (.slice a5 (n+1) c5)) p pa pc bm (i+1) {d5 with q:=a5,qn:=c5}:=by
 have hz:∀b,(False∨b=bm)→b=bm:=fun b e=>e.elim (fun e=>e.elim) id
 have hrx:aX wx (fun b=>b=bm) w.heap.size p pa pc {(mqs i).mac with H:=K1} d5 0:=hpr.rn.zmono fun b _ e=>.inr e
 have hsx:=hpr.t.size;have hml:({(mqs i).mac with H:=K1}:Mac).Q.length=n:=by rw[←hn];simp[MS.mac]
 obtain⟨q1,q2,q3⟩:=hrx.pushQ hX (x:=(a:Int)) (n:=n) hml hown hg hf (fun b hb=>by have e:b=bm:=hb;rw[e];omega);have hsn:=yH (aQ ((i:Int)+1)) (dB i) [] (fun _=>none);rw[←aS4] at hsn;have hput':putT (aS [] (fun _=>none) (dB i)).1.1 (aS [] (fun _=>none) (dB i)).1.2 (aQ ((i:Int)+1))=((K1,V1),a):=hput;rw[hput'] at hsn;have hle:=kZ (aQ ((i:Int)+1)) (mqs i).H (aS [] (fun _=>none) (dB i)).1.2;have hlen:=h.len;have hvs:(aQ ((i:Int)+1)).size=1:=rfl;have hbd:=qA (aQ ((i:Int)+1)) (mqs i).H (aS [] (fun _=>none) (dB i)).1.2 1000000 h.vb (by rw[hvs];omega);rw[hput] at hle hbd;simp only at hle hbd;have hmq:(mqs (i+1)).mac = {{(mqs i).mac with H:=K1} with Q:=(mqs i).mac.Q++[(a:Int)]}:=by
  simp only[mqs,MS.mac,hsn,List.map_append,List.map_cons,List.map_nil]
 have hR:w.heap.size<wr.heap.size:=h.rn.lt;have fr5:∀b,some b∈rws d5→w.heap.size≤b:=bB.base h.fr hpr.fr h.below.size;have hrmd:∀b,RM w.heap.size d b→w.heap.size≤b:=fun b e=>e.elim (fun e=>by omega) (h.fr b)
 have hrm5:∀b,RM w.heap.size d5 b→w.heap.size≤b:=fun b e=>e.elim (fun e=>by omega) (fr5 b)
 have hbx:Below w.heap.size w wx:=h.below.trans (hpr.t.toBelow h.below.size fun b e=>e.elim (hrmd b) fun e=>by omega);refine⟨by rw[hmq];exact q1,?_,bB.base fr5 q3 hbx.size,hbx.trans (q2.toBelow hbx.size hrm5),?_,?_⟩
 ·obtain⟨n5,hv5,hn5⟩:=hpr.v
  refine⟨n5,?_,?_⟩
  ·have e:(aS [] (fun _=>none) (dB (i+1))).1.2=V1:=by rw[hsn]
   rw[e];exact hv5.keep (q2.block bm hv5.lt fun e=>hrx.zr bm e rfl)
  ·have e:(mqs (i+1)).H=K1:=by simp only[mqs,hsn]
   rw[e];exact hn5
 ·have e:(mqs (i+1)).H=K1:=by simp only[mqs,hsn]
  rw[e];rw[hvs] at hle;omega
 ·have e:(aS [] (fun _=>none) (dB (i+1))).1.2=V1:=by rw[hsn]
  rw[e];exact hbd.2
def bA2(w:World)(p:List Cl)(pa:Option Addr)(pc:Nat)(S:MS)(e:Ending)(w':World):Prop :=
 ∃d,e=.returned (.pointer (some ⟨w.heap.size,0,none⟩))∧aX w' (fun _=>False) w.heap.size p pa pc S.mac d 0∧Below w.heap.size w w'∧∀b,some b∈rws d→w.heap.size≤b
theorem bO8{w:World}{okp okq:Nat→Prop}{p:List Cl}{pa:Option Addr}{pc:Nat}(hp:Pr w okp p pa pc){q:List Tm}{qa:Option Addr}{qc:Nat}(hq:Ts w okq q qa qc){g:Nat}(hg:Tm.greats q=(g:Int))(hg12:g≤12)(hqs:∀t,t∈q→t.size≤60)(hql:q.length≤6) :
 Calls Try.prog 42 #[.slice pa p.length pc,.slice qa q.length qc] w (bA2 w p pa pc (kA q g)):=by
 have HN0:=lh (NwI.start hp);have HQ:Hid (Ts w (fun b=>b<w.heap.size) q qa qc):=lh (hq.mono fun b hb _=>hb);have HG:=lh hg;have HQS:=lh hqs;have hmm:=@run_makeMap Try.prog;clear hp hq hg hqs;go_enter Try.func42,Try.ntmps42;go_wp2_with fail;generalize (w.alloc (.cells #[.slice pa p.length pc,.slice none 0 0,.slice none 0 0,.int .i64 0,.slice none 0 0,.slice none 0 0,.slice none 0 0,.int .i64 0,.int .i64 0,.slice none 0 0,.int .i64 0] 59)).alloc (.map #[] 0)=wl at *;clear hmm
 go_loopw[7] (fun x7 wr=>∃(i:Nat) (d:MAd),i≤g∧x7=.int .i64 ((i:Int)+1)∧Hid (NwI w wr p pa pc (w.heap.size+1) i d)) (fun x7 _=>g+1-(intOf x7).toNat)
 case atStart=>exact⟨0,_,Nat.zero_le _,rfl,HN0⟩
 case round =>
  clear HN0;obtain⟨i,d,hi,rfl,HI⟩:=hrel;have HGR:Hid (Calls Try.prog 48 #[.slice qa q.length qc] wr fun e w'=>e=.returned (.int .i64 (g:Nat))∧Below wr.heap.size wr w'):=lh (by
   have h1:=aQ1 q wr _ qa qc (HQ.out.keep (aD.below HI.out.below _));rw[HG.out] at h1;exact h1)
  by_cases hlt:i<g
  ·have hlt1:(i:Int)+1≤(g:Int):=by omega
   go_upto_region 7 with (go_at_call 48;refine HGR.out.mono ?_;rintro e w2 ⟨rfl,hb2⟩;have HB2:=lh hb2;clear hb2);have HI2:=lh (HI.out.under HB2.out);obtain⟨c0,c1,c2,c3,c4,c5,c6,c7,c8,c9,c10,cf⟩:=HI2.out.rn.cells;have zR:=HI2.out.rn.lt;have hbm:=HI2.out.bm;obtain⟨⟨⟨K1,V1⟩,a⟩,hput⟩:∃Z,putT (mqs i).H (aS [] (fun _=>none) (dB i)).1.2 (aQ ((i:Int)+1))=Z:=⟨_,rfl⟩
   have HPUT:=lh hput;obtain⟨nv,hv1,hv2⟩:=HI2.out.v;have HCL:Hid (Calls Try.prog 71 #[.slice d.h (mqs i).H.length d.hn,.agg #[.int .i64 ((i:Int)+1),.string ⟨#[]⟩,.slice none 0 0],.map (some (w.heap.size+1))] w2 (tF w2 0 (.slice d.h (mqs i).H.length d.hn) (w.heap.size+1) ((K1,V1),a))):=lh (by
    rw[←hput];have hl:=HI2.out.len;exact bL4 (aQ ((i:Int)+1)) _ (fun _=>False) none 0 0 (w.heap.size+1) nv (.slice d.h (mqs i).H.length d.hn) (mqs i).H _ ⟨by show I64 ((i:Int)+1);unfold I64;omega,Nat.zero_le _⟩ (Ts.empty' _ _) (fun b hb=>hb.elim) HI2.out.rn.rows.h hv1 hv2 (fun e=>HI2.out.rn.zr (w.heap.size+1) (.inr (by rw[←(aE _ _ _).symm.trans e];simp[rws])) rfl) (Nat.zero_le _) (by have e:(aQ ((i:Int)+1)).size=1:=rfl;rw[e];omega) HI2.out.vb)
   clear hput hv1 hv2;have hQl:(mqs i).mac.Q.length=(mqs i).Q.length:=by simp[MS.mac]
   rw[hQl] at c6;go_upto_region 8 with (go_at_call 71;refine HCL.out.mono ?_;rintro e w1 ⟨v5,n5,rfl,hH5,hV5,hn5,hf5,ht5⟩;obtain⟨a5,c5',rfl⟩:=hH5.form;have hbR:w1.heap[w.heap.size]? = w2.heap[w.heap.size]?:=ht5.block w.heap.size zR (fun e=>e.elim (fun e=>HI2.out.rn.ne (bk d.h) (by simp[rws]) ((aE _ _ _).symm.trans e)) fun e=>by omega);have y1:w1.cell? ⟨w.heap.size,1,none⟩=some (.slice d.h (mqs i).mac.H.length d.hn):=(World.cell?_of_block hbR).trans c1;have yf:∀o,w1.frozen? ⟨w.heap.size,o,none⟩=false:=(fun o=>by have:=cf o;simpa[World.frozen?,hbR] using this);have H5:=lh (And.intro hH5 (And.intro hV5 (And.intro hn5 (And.intro hf5 ht5))));clear hH5 hV5 hn5 hf5 ht5 hbR);have hpr:=aR9.of (Z:=fun _=>False) (w:=w2) (u:=w2) (bm:=w.heap.size+1) (HI2.out.rn.zmono fun b _ e=>e.elim (fun e=>e.elim) id) (fun b e=>e.elim) hbm (bR _ _) H5.out.1 H5.out.2.1 H5.out.2.2.1 H5.out.2.2.2.1 H5.out.2.2.2.2;have HPR:=lh hpr;clear hpr H5 y1 yf c0 c1 c2 c3 c4 c5 c6 c7 c8 c9 c10 cf HCL;generalize w1.setCell ⟨w.heap.size,1,none⟩ (.slice a5 K1.length c5')=wx at *;generalize ({d with h:=a5,hn:=c5'}:MAd)=d5 at *;obtain⟨x0,x1,x2,x3,x4,x5,x6,x7,x8,x9,x10,xf⟩:=HPR.out.rn.cells;have zRx:=HPR.out.rn.lt;have hml:({(mqs i).mac with H:=K1}:Mac).Q.length=(mqs i).Q.length:=by simp[MS.mac]
   rw[hml] at x6;have hq5:=HPR.out.rn.rows.q;rw[hml] at hq5;have HO1:=lh (hq5.alloc (.cells #[.int .i64 (a:Nat)] 3));have hqi:(mqs i).Q.length=i:=by
    have:=pE (dB i) [] (fun _=>none);simp only[mqs];rw[this];simp[dB]
   have hqi2:(mqs i).Q.length≤12:=by omega
   obtain⟨i1,hi1,hz0,hz1,hz2⟩:=info_parts Try.infoInt;clear hml hqi hq5 hQl;go_wp2_with (at_builtin;have _g:=HO1;(refine aR _ rfl _ _ 27 rfl 0 3 i1 _ 1 8 Try.underlying27 hi1 hz0 hz1 hz2 rfl (by decide) _ _ _ rfl HO1.out ⟨wx.heap.size,0,none⟩ 1 1 [.int .i64 (a:Nat)] rfl rfl ?d1 ?d2 ?d3 ?d4 ?d5 ?_))
   any_goals (first|exact dT _ _ _|(intro u hu;simp only[List.mem_singleton] at hu;subst hu;rfl)|rfl|(unfold maxLen;omega)|omega|(simp only[World.size_alloc];omega))
   intro v7 w7 hown7 hgrow7 hfr7;obtain⟨a7,c7',rfl⟩:=bL hown7;have hX1:Below wx.heap.size wx (wx.alloc (.cells #[.int .i64 (a:Nat)] 3)):=(bR _ _).alloc (nR _) _;have hrb:w7.heap[w.heap.size]? = wx.heap[w.heap.size]?:=(hgrow7.block w.heap.size (nT zRx hX1.size) (fun e=>HPR.out.rn.ne (bk d5.q) (by simp[rws]) ((aE d5.q (mqs i).Q.length d5.qn).symm.trans e.symm))).trans (hX1.block w.heap.size zRx);have z6:w7.cell? ⟨w.heap.size,6,none⟩=some (.slice d5.q (mqs i).Q.length d5.qn):=(World.cell?_of_block hrb).trans x6;have zf:∀o,w7.frozen? ⟨w.heap.size,o,none⟩=false:=fun o=>by have:=xf o;simpa[World.frozen?,hrb] using this
   have HNX:=lh (HI2.out.next ⟨by omega,hbm⟩ HPUT.out (by omega) HPR.out hX1 rfl hown7 hgrow7 hfr7);clear hX1 hrb hown7 hgrow7 hfr7 x0 x1 x2 x3 x4 x5 x6 x7 x8 x9 x10 xf;go_wp2_with fail;go_roundw
   case measure=>simp only[intOf];omega
   case rel=>exact⟨i+1,_,by omega,by go_num,HNX⟩
  ·have hlt1:¬(i:Int)+1≤(g:Int):=by omega
   obtain rfl:i=g:=by omega
   go_upto_region 9 with (go_at_call 48;refine HGR.out.mono ?_;rintro e w2 ⟨rfl,hb2⟩;have HB2:=lh hb2;clear hb2);have HI2:=lh (HI.out.under HB2.out);have hbm:=HI2.out.bm;have HPW:=lh (by
    obtain⟨nv,hv1,hv2⟩:=HI2.out.v;have hl:=HI2.out.len;have h1:=bB2 (S:=mqs i) (l:=q) (la:=qa) (lc:=qc) (bm:=w.heap.size+1) (n:=nv) (V:=(aS [] (fun _=>none) (dB i)).1.2) (cut:=0) (nx:=0) (okq:=fun b=>b<w.heap.size) HI2.out.rn (fun b hb=>by have e:b=w.heap.size+1:=hb;rw[e];exact hbm) ((HQ.out.keep (aD.below HI2.out.below _))) (fun b hb=>⟨fun e=>e.elim (fun e=>by omega) fun e=>by have:=HI2.out.fr b e;omega,by omega⟩) hv1 hv2 rfl HI2.out.vb HQS.out (by omega) (by show ([]:List Gn).length+q.length≤5000;simp only[List.length_nil];omega) rfl;exact h1)
   clear hbm;go_wp2_with (go_at_call 72;refine HPW.out.mono ?_;rintro e w8 ⟨⟨uv,rfl⟩,ht8,d8,hf8,hr8⟩;have HT8:=lh ht8;have HF8:=lh hf8;have HR8:=lh hr8;clear ht8 hf8 hr8);go_ret;have hrmd:∀b,RM w.heap.size d b→w.heap.size≤b:=fun b e=>e.elim (fun e=>by omega) (HI2.out.fr b)
   exact⟨d8,rfl,HR8.out.zmono (fun _ _ e=>e.elim),HI2.out.below.trans (HT8.out.toBelow HI2.out.below.size fun b e=>e.elim (hrmd b) fun e=>by omega),bB.base HI2.out.fr HF8.out HI2.out.below.size⟩
end Go.Proofs.Ytikmgiapjigghab
