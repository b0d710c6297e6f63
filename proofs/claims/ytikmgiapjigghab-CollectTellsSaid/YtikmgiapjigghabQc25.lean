/- The runner in memory, and what turns of it. (Written by mk_mrat.py.) -/
import Derived.Test.YtikmgiapjigghabQc20
import Derived.Test.YtikmgiapjigghabQc24
set_option maxRecDepth 100000
set_option maxHeartbeats 8000000
namespace Go.Proofs.Ytikmgiapjigghab
open Go.RowKit
def rws(d:MAd):List (Option Nat):=[bk d.h,bk d.g,bk d.c,bk d.t,bk d.q,bk d.a]
def RM(R:Nat)(d:MAd)(b:Nat):Prop:=b=R∨some b∈rws d
def kT(pa:Option Addr)(np pc:Nat)(m:Mac)(d:MAd)(wk:Nat):List Value :=
 [.slice pa np pc,.slice d.h m.H.length d.hn,.slice d.g m.G.length d.gn,.int .i64 m.first,.slice d.c m.ch.length d.cn,.slice d.t m.T.length d.tn,.slice d.q m.Q.length d.qn,.int .i64 m.steps,.int .i64 m.fin,.slice d.a m.ans.length d.an,.int .i64 wk]
structure aX(w:World)(Z:Nat→Prop)(R:Nat)(p:List Cl)(pa:Option Addr)(pc:Nat)(m:Mac)(d:MAd)(wk:Nat):Prop where
 blk:w.heap[R]? = some (.cells (kT pa p.length pc m d wk).toArray 59 (0,0))
 rows:OwM w 0 (fun b=>b≠R∧¬Z b) m d
 ne:∀y,y∈rws d→y≠some R
 prog:Pr w (fun b=>¬RM R d b∧¬Z b) p pa pc
 zr:∀b,RM R d b→¬Z b
theorem OwM.lt{w:World}{base:Nat}{okA:Nat→Prop}{m:Mac}{d:MAd}(h:OwM w base okA m d):∀b,some b∈rws d→b<w.heap.size:=by
 intro b hb;simp only[rws,List.mem_cons,List.not_mem_nil,or_false] at hb;obtain⟨A,e1,e2,e3⟩:=h.a;rcases hb with e|e|e|e|e|e
 ·exact(h.h.row.lt b ((aE _ _ _).trans e.symm)).2
 ·exact(h.g.lt b ((aE _ _ _).trans e.symm)).2
 ·exact(h.c.lt b ((aE _ _ _).trans e.symm)).2
 ·exact(h.t.lt b ((aE _ _ _).trans e.symm)).2
 ·exact(h.q.lt b ((aE _ _ _).trans e.symm)).2
 ·exact(e2.lt b ((aE _ _ _).trans e.symm)).2
theorem OwM.keep{w w':World}{base:Nat}{okA okA':Nat→Prop}{m:Mac}{d:MAd}(h:OwM w base okA m d)(hs:w.heap.size≤w'.heap.size)(hk:∀b,b<w.heap.size→(some b∈rws d∨okA b)→w'.heap[b]? = w.heap[b]?)(hok:∀b,b<w.heap.size→okA b→okA' b):OwM w' base okA' m d:=by
 have key:∀{e:TypeId} {k n n' c:Nat} {a:Option Addr} {vs:List Value},w.ownsRow base e k (.slice a n c) n' vs→bk a∈rws d→w'.ownsRow base e k (.slice a n c) n' vs:=fun h' hm =>
  aC h' fun g hg=>hk g (h'.lt g hg).2 (.inl (by rw[←(aE _ _ _).symm.trans hg];exact hm))
 obtain⟨A,e1,e2,e3⟩:=h.a;refine⟨⟨key h.h.row (by simp[rws]),h.h.fits⟩,key h.g (by simp[rws]),key h.c (by simp[rws]),key h.t (by simp[rws]),key h.q (by simp[rws]),⟨A,e1,key e2 (by simp[rws]),fun x hx=>?_⟩,h.ne⟩;exact((e3 x hx).mono (ok':=fun b=>(okA b∧∀y,y∈[bk d.h,bk d.g,bk d.c,bk d.t,bk d.q,bk d.a]→y≠some b)∧b<w.heap.size) fun b hb h=>⟨h,hb⟩).keep ⟨hs,fun b hb hl=>hk b hl (.inr hb.1.1)⟩ |>.mono fun b _ hb=>⟨hok b hb.2 hb.1.1,hb.1.2⟩
section
variable {w w':World} {Z:Nat→Prop} {R:Nat} {p:List Cl} {pa:Option Addr} {pc:Nat} {m:Mac} {d:MAd} {wk:Nat}
theorem aX.lt(h:aX w Z R p pa pc m d wk):R<w.heap.size:=(gS h.blk).1
theorem aX.rmlt(h:aX w Z R p pa pc m d wk):∀b,RM R d b→b<w.heap.size:=fun b hb=>hb.elim (fun e=>by rw[e];exact h.lt) (h.rows.lt b)
theorem aX.cells(h:aX w Z R p pa pc m d wk) :
 w.cell? ⟨R,0,none⟩=some (.slice pa p.length pc)∧w.cell? ⟨R,1,none⟩=some (.slice d.h m.H.length d.hn)∧w.cell? ⟨R,2,none⟩=some (.slice d.g m.G.length d.gn)∧w.cell? ⟨R,3,none⟩=some (.int .i64 m.first)∧w.cell? ⟨R,4,none⟩=some (.slice d.c m.ch.length d.cn) ∧
 w.cell? ⟨R,5,none⟩=some (.slice d.t m.T.length d.tn)∧w.cell? ⟨R,6,none⟩=some (.slice d.q m.Q.length d.qn)∧w.cell? ⟨R,7,none⟩=some (.int .i64 m.steps)∧w.cell? ⟨R,8,none⟩=some (.int .i64 m.fin)∧w.cell? ⟨R,9,none⟩=some (.slice d.a m.ans.length d.an)∧w.cell? ⟨R,10,none⟩=some (.int .i64 wk)∧∀o,w.frozen? ⟨R,o,none⟩=false:=by
 have h':=h.blk;refine⟨?_,?_,?_,?_,?_,?_,?_,?_,?_,?_,?_,fun o=>by simp[World.frozen?,h']⟩
 all_goals simp[World.cell?,h',kT]
theorem aX.turn(h:aX w Z R p pa pc m d wk){m':Mac}{d':MAd}{wk':Nat}(hb:w'.heap[R]? = some (.cells (kT pa p.length pc m' d' wk').toArray 59 (0,0)))(hr:OwM w' 0 (fun b=>b≠R∧¬Z b) m' d')(ht:aA (fun b=>RM R d b∨Z b) w w')
 (hf:∀b,some b∈rws d'→some b∈rws d∨w.heap.size≤b) (hz:∀b,some b∈rws d'→¬Z b):aX w' Z R p pa pc m' d' wk':=by
 refine⟨hb,hr,fun y hy e=>?_,?_,fun b hb=>hb.elim (fun e=>h.zr b (.inl e)) (hz b)⟩
 ·subst e
  rcases hf R hy with e|e
  ·exact h.ne _ e rfl
  ·have:=h.lt;omega
 ·have h1:Pr w (fun b=>(¬RM R d b∧¬Z b)∧b<w.heap.size) p pa pc:=h.prog.mono fun b hb hn=>⟨hn,hb⟩
  refine(h1.keep (ht.keeps fun b hb e=>e.elim hb.1.1 hb.1.2)).mono fun b _ hb=>⟨fun e=>?_,hb.1.2⟩
  rcases e with e|e
  ·exact hb.1.1 (.inl e)
  ·rcases hf b e with e|e
   ·exact hb.1.1 (.inr e)
   ·omega
theorem aX.keep(h:aX w Z R p pa pc m d wk){M:Nat→Prop}(ht:aA M w w')(hM:∀b,b<w.heap.size→M b→Z b):aX w' Z R p pa pc m d wk:=by
 have hk:∀b,b<w.heap.size→¬Z b→w'.heap[b]? = w.heap[b]?:=fun b hb hz=>ht.block b hb fun e=>hz (hM b hb e)
 refine h.turn ((hk R h.lt (h.zr R (.inl rfl))).trans h.blk) (h.rows.keep ht.size (fun b hb e=>hk b hb (e.elim (fun e=>h.zr b (.inr e)) fun e=>e.2)) fun b _ hb=>hb) ⟨ht.os,ht.tape,ht.output,ht.size,fun b hb hn=>hk b hb fun e=>hn (.inr e)⟩ (fun b hb=>.inl hb) fun b hb=>h.zr b (.inr hb)
theorem aX.zmono(h:aX w Z R p pa pc m d wk){Z':Nat→Prop}(hz:∀b,b<w.heap.size→Z' b→Z b):aX w Z' R p pa pc m d wk :=
 ⟨h.blk,h.rows.keep (nR _) (fun _ _ _=>rfl) fun b hb e=>⟨e.1,fun z=>e.2 (hz b hb z)⟩,h.ne,h.prog.mono fun b hb e=>⟨e.1,fun z=>e.2 (hz b hb z)⟩,fun b hb z=>h.zr b hb (hz b (h.rmlt b hb) z)⟩
theorem aX.below(h:aX w Z R p pa pc m d wk)(hb:Below w.heap.size w w'):aX w' Z R p pa pc m d wk :=
 h.keep (M:=fun b=>w.heap.size≤b) ⟨hb.os,hb.tape,hb.output,hb.size,fun b hl _=>hb.block b hl⟩ fun b h1 h2=>by omega
end
theorem bA{w w':World}{base R:Nat}{Z:Nat→Prop}{x:Option Nat}(ht:aA (fun b=>b=R∨x=some b∨Z b) w w'){e:TypeId}{k n n' c:Nat}{a:Option Addr}{vs:List Value}(h:w.ownsRow base e k (.slice a n c) n' vs)(h1:bk a≠some R)(h2:∀b,bk a=some b→x≠some b)(h3:∀b,bk a=some b→¬Z b):w'.ownsRow base e k (.slice a n c) n' vs :=
 aC h fun g hg=>ht.block g (h.lt g hg).2 fun e=>by
  have hg':=(aE _ _ _).symm.trans hg;rcases e with e|e|e
  ·subst e;exact h1 hg'
  ·exact h2 g hg' e
  ·exact h3 g hg' e
theorem lN{w w':World}{R:Nat}{Z:Nat→Prop}{x:Option Nat}{l l':List (Option Nat)}(ht:aA (fun b=>b=R∨x=some b∨Z b) w w')(hx:x∈l)(hl:∀b,some b∈l'→some b∈l∨w.heap.size≤b){L:List Tm}{a:Option Addr}{c:Nat}(h:Ts w (fun b=>(b≠R∧¬Z b)∧∀y,y∈l→y≠some b) L a c):Ts w' (fun b=>(b≠R∧¬Z b)∧∀y,y∈l'→y≠some b) L a c:=by
 have h1:=h.mono (ok':=fun b=>((b≠R∧¬Z b)∧∀y,y∈l→y≠some b)∧b<w.heap.size) fun b hb h=>⟨h,hb⟩
 refine(h1.keep (ht.keeps fun b hb e=>?_)).mono fun b _ hb=>⟨hb.1.1,fun y hy e=>?_⟩
 ·rcases e with e|e|e
  ·exact hb.1.1.1 e
  ·exact hb.1.2 x hx e
  ·exact hb.1.1.2 e
 ·subst e
  rcases hl b hy with e|e
  ·exact hb.1.2 _ e rfl
  ·omega
theorem aX.putH{w w1:World}{Z:Nat→Prop}{R:Nat}{p:List Cl}{pa:Option Addr}{pc:Nat}{m:Mac}{d:MAd}{wk:Nat}(h:aX w Z R p pa pc m d wk)(ht:aA (fun b=>bk d.h=some b∨Z b) w w1){L:List HC}{a:Option Addr}{n:Nat}(hx:eT w1 0 (.slice a L.length n) L)
 (hf:bk a=bk d.h∨∀b,bk a=some b→w.heap.size≤b) (hzn:∀b,Z b→b<w.heap.size):aX (w1.setCell ⟨R,1,none⟩ (.slice a L.length n)) Z R p pa pc {m with H:=L} {d with h:=a,hn:=n} wk∧aA (fun b=>RM R d b∨Z b) w (w1.setCell ⟨R,1,none⟩ (.slice a L.length n)):=by
 have hne:=h.rows.ne;unfold Nd at hne;simp only[List.pairwise_cons,List.mem_cons,List.not_mem_nil,or_false,forall_eq_or_imp,forall_eq] at hne;obtain⟨⟨hg,hc,ht',hq,ha⟩,⟨gc,gt,gq,ga⟩,⟨ct,cq,ca⟩,⟨tq,ta⟩,qa,-⟩:=hne;have hR:=h.ne;simp only[rws,List.mem_cons,List.not_mem_nil,or_false,forall_eq_or_imp,forall_eq] at hR;obtain⟨rh,rg,rc,rt,rq,ra⟩:=hR;have ht2:aA (fun b=>b=R∨bk d.h=some b∨Z b) w (w1.setCell ⟨R,1,none⟩ (.slice a L.length n)):=(ht.mono fun b _ e=>.inr e).trans (aA.setCell _ (.inl rfl));have htR:aA (fun b=>RM R d b∨Z b) w (w1.setCell ⟨R,1,none⟩ (.slice a L.length n)):=ht2.mono fun b _ e=>by
  rcases e with e|e|e
  ·exact .inl (.inl e)
  ·exact .inl (.inr (by rw[←e];simp[rws]))
  ·exact .inr e
 have hzz:∀y:Option Addr,bk y∈rws d→∀b,bk y=some b→¬Z b:=fun y hy b hb=>h.zr b (.inr (by rw[←hb];exact hy))
 have hza:∀b,bk a=some b→¬Z b:=fun b hb e=>by
  rcases hf with h1|h1
  ·exact hzz d.h (by simp[rws]) b (h1.symm.trans hb) e
  ·have:=h1 b hb;have:=hzn b e;omega
 have hfr:∀b,some b∈rws {d with h:=a,hn:=n}→some b∈rws d∨w.heap.size≤b:=fun b hb=>by
  simp only[rws,List.mem_cons,List.not_mem_nil,or_false] at hb ⊢;rcases hf with e|e
  ·rw[e] at hb;exact .inl hb
  ·rcases hb with e1|e1|e1|e1|e1|e1
   ·exact .inr (e b e1.symm)
   ·exact .inl (.inr (.inl e1))
   ·exact .inl (.inr (.inr (.inl e1)))
   ·exact .inl (.inr (.inr (.inr (.inl e1))))
   ·exact .inl (.inr (.inr (.inr (.inr (.inl e1)))))
   ·exact .inl (.inr (.inr (.inr (.inr (.inr e1)))))
 have hnew:∀y:Option Addr,bk y∈rws d→(∀b,bk d.h=some b→bk y≠some b)→∀b,bk a=some b→bk y≠some b:=fun y hy hd b hb e=>by
  rcases hf with h1|h1
  ·exact hd b (h1.symm.trans hb) e
  ·have:=h1 b hb;have:=h.rows.lt b (by rw[←e];exact hy);omega
 have hxo:∀b,b≠R→(w1.setCell ⟨R,1,none⟩ (.slice a L.length n)).heap[b]? = w1.heap[b]?:=fun b hb=>Below.heap_setCell _ _ _ _ hb
 have haR:bk a≠some R:=fun e=>by
  rcases hf with h1|h1
  ·exact rh (h1.symm.trans e)
  ·have:=h1 R e;have:=h.lt;omega
 have hzd:∀b,some b∈rws {d with h:=a,hn:=n}→¬Z b:=fun b hb=>by
  simp only[rws,List.mem_cons,List.not_mem_nil,or_false] at hb;rcases hb with e1|e1|e1|e1|e1|e1
  ·exact hza b e1.symm
  ·exact hzz d.g (by simp[rws]) b e1.symm
  ·exact hzz d.c (by simp[rws]) b e1.symm
  ·exact hzz d.t (by simp[rws]) b e1.symm
  ·exact hzz d.q (by simp[rws]) b e1.symm
  ·exact hzz d.a (by simp[rws]) b e1.symm
 obtain⟨A,e1,e2,e3⟩:=h.rows.a;refine⟨h.turn ?_ ⟨?_,?_,?_,?_,?_,⟨A,e1,?_,fun z hz=>lN ht2 (by simp[rws]) hfr (e3 z hz)⟩,?_⟩ htR hfr hzd,htR⟩
 ·rw[aB w1 R 1 _ ((ht.block R h.lt (fun e=>e.elim rh (h.zr R (.inl rfl)))).trans h.blk)];rfl
 ·exact hx.keep fun b hb=>hxo b fun e=>haR ((aE _ _ _).symm.trans (by rw[←e];exact hb))
 ·exact bA ht2 h.rows.g rg (fun b e1 e2=>hg b e2 e1) (hzz _ (by simp[rws]))
 ·exact bA ht2 h.rows.c rc (fun b e1 e2=>hc b e2 e1) (hzz _ (by simp[rws]))
 ·exact bA ht2 h.rows.t rt (fun b e1 e2=>ht' b e2 e1) (hzz _ (by simp[rws]))
 ·exact bA ht2 h.rows.q rq (fun b e1 e2=>hq b e2 e1) (hzz _ (by simp[rws]))
 ·exact bA ht2 e2 ra (fun b e1 e2=>ha b e2 e1) (hzz _ (by simp[rws]))
 ·unfold Nd
  simp only[List.pairwise_cons,List.mem_cons,List.not_mem_nil,or_false,forall_eq_or_imp,forall_eq];exact⟨⟨(hnew d.g (by simp[rws]) hg),(hnew d.c (by simp[rws]) hc),(hnew d.t (by simp[rws]) ht'),(hnew d.q (by simp[rws]) hq),(hnew d.a (by simp[rws]) ha)⟩,⟨gc,gt,gq,ga⟩,⟨ct,cq,ca⟩,⟨tq,ta⟩,qa,fun _ h=>h.elim,List.Pairwise.nil⟩
theorem aX.putG{w w1:World}{Z:Nat→Prop}{R:Nat}{p:List Cl}{pa:Option Addr}{pc:Nat}{m:Mac}{d:MAd}{wk:Nat}(h:aX w Z R p pa pc m d wk)(ht:aA (fun b=>bk d.g=some b∨Z b) w w1){L:List Gl}{a:Option Addr}{n:Nat}(hx:w1.ownsRow 0 65 3 (.slice a L.length n) L.length (cE L))
 (hf:bk a=bk d.g∨∀b,bk a=some b→w.heap.size≤b) (hzn:∀b,Z b→b<w.heap.size):aX (w1.setCell ⟨R,2,none⟩ (.slice a L.length n)) Z R p pa pc {m with G:=L} {d with g:=a,gn:=n} wk∧aA (fun b=>RM R d b∨Z b) w (w1.setCell ⟨R,2,none⟩ (.slice a L.length n)):=by
 have hne:=h.rows.ne;unfold Nd at hne;simp only[List.pairwise_cons,List.mem_cons,List.not_mem_nil,or_false,forall_eq_or_imp,forall_eq] at hne;obtain⟨⟨hg,hc,ht',hq,ha⟩,⟨gc,gt,gq,ga⟩,⟨ct,cq,ca⟩,⟨tq,ta⟩,qa,-⟩:=hne;have hR:=h.ne;simp only[rws,List.mem_cons,List.not_mem_nil,or_false,forall_eq_or_imp,forall_eq] at hR;obtain⟨rh,rg,rc,rt,rq,ra⟩:=hR;have ht2:aA (fun b=>b=R∨bk d.g=some b∨Z b) w (w1.setCell ⟨R,2,none⟩ (.slice a L.length n)):=(ht.mono fun b _ e=>.inr e).trans (aA.setCell _ (.inl rfl));have htR:aA (fun b=>RM R d b∨Z b) w (w1.setCell ⟨R,2,none⟩ (.slice a L.length n)):=ht2.mono fun b _ e=>by
  rcases e with e|e|e
  ·exact .inl (.inl e)
  ·exact .inl (.inr (by rw[←e];simp[rws]))
  ·exact .inr e
 have hzz:∀y:Option Addr,bk y∈rws d→∀b,bk y=some b→¬Z b:=fun y hy b hb=>h.zr b (.inr (by rw[←hb];exact hy))
 have hza:∀b,bk a=some b→¬Z b:=fun b hb e=>by
  rcases hf with h1|h1
  ·exact hzz d.g (by simp[rws]) b (h1.symm.trans hb) e
  ·have:=h1 b hb;have:=hzn b e;omega
 have hfr:∀b,some b∈rws {d with g:=a,gn:=n}→some b∈rws d∨w.heap.size≤b:=fun b hb=>by
  simp only[rws,List.mem_cons,List.not_mem_nil,or_false] at hb ⊢;rcases hf with e|e
  ·rw[e] at hb;exact .inl hb
  ·rcases hb with e1|e1|e1|e1|e1|e1
   ·exact .inl (.inl e1)
   ·exact .inr (e b e1.symm)
   ·exact .inl (.inr (.inr (.inl e1)))
   ·exact .inl (.inr (.inr (.inr (.inl e1))))
   ·exact .inl (.inr (.inr (.inr (.inr (.inl e1)))))
   ·exact .inl (.inr (.inr (.inr (.inr (.inr e1)))))
 have hnew:∀y:Option Addr,bk y∈rws d→(∀b,bk d.g=some b→bk y≠some b)→∀b,bk a=some b→bk y≠some b:=fun y hy hd b hb e=>by
  rcases hf with h1|h1
  ·exact hd b (h1.symm.trans hb) e
  ·have:=h1 b hb;have:=h.rows.lt b (by rw[←e];exact hy);omega
 have hxo:∀b,b≠R→(w1.setCell ⟨R,2,none⟩ (.slice a L.length n)).heap[b]? = w1.heap[b]?:=fun b hb=>Below.heap_setCell _ _ _ _ hb
 have haR:bk a≠some R:=fun e=>by
  rcases hf with h1|h1
  ·exact rg (h1.symm.trans e)
  ·have:=h1 R e;have:=h.lt;omega
 have hzd:∀b,some b∈rws {d with g:=a,gn:=n}→¬Z b:=fun b hb=>by
  simp only[rws,List.mem_cons,List.not_mem_nil,or_false] at hb;rcases hb with e1|e1|e1|e1|e1|e1
  ·exact hzz d.h (by simp[rws]) b e1.symm
  ·exact hza b e1.symm
  ·exact hzz d.c (by simp[rws]) b e1.symm
  ·exact hzz d.t (by simp[rws]) b e1.symm
  ·exact hzz d.q (by simp[rws]) b e1.symm
  ·exact hzz d.a (by simp[rws]) b e1.symm
 obtain⟨A,e1,e2,e3⟩:=h.rows.a;refine⟨h.turn ?_ ⟨?_,?_,?_,?_,?_,⟨A,e1,?_,fun z hz=>lN ht2 (by simp[rws]) hfr (e3 z hz)⟩,?_⟩ htR hfr hzd,htR⟩
 ·rw[aB w1 R 2 _ ((ht.block R h.lt (fun e=>e.elim rg (h.zr R (.inl rfl)))).trans h.blk)];rfl
 ·exact⟨bA ht2 h.rows.h.row rh hg (hzz _ (by simp[rws])),h.rows.h.fits⟩
 ·exact aC hx fun b hb=>hxo b fun e=>haR ((aE _ _ _).symm.trans (by rw[←e];exact hb))
 ·exact bA ht2 h.rows.c rc (fun b e1 e2=>gc b e2 e1) (hzz _ (by simp[rws]))
 ·exact bA ht2 h.rows.t rt (fun b e1 e2=>gt b e2 e1) (hzz _ (by simp[rws]))
 ·exact bA ht2 h.rows.q rq (fun b e1 e2=>gq b e2 e1) (hzz _ (by simp[rws]))
 ·exact bA ht2 e2 ra (fun b e1 e2=>ga b e2 e1) (hzz _ (by simp[rws]))
 ·unfold Nd
  simp only[List.pairwise_cons,List.mem_cons,List.not_mem_nil,or_false,forall_eq_or_imp,forall_eq];exact⟨⟨(fun b e1 e2=>hnew d.h (by simp[rws]) (fun b e1 e2=>hg b e2 e1) b e2 e1),hc,ht',hq,ha⟩,⟨(hnew d.c (by simp[rws]) gc),(hnew d.t (by simp[rws]) gt),(hnew d.q (by simp[rws]) gq),(hnew d.a (by simp[rws]) ga)⟩,⟨ct,cq,ca⟩,⟨tq,ta⟩,qa,fun _ h=>h.elim,List.Pairwise.nil⟩
theorem aX.putch{w w1:World}{Z:Nat→Prop}{R:Nat}{p:List Cl}{pa:Option Addr}{pc:Nat}{m:Mac}{d:MAd}{wk:Nat}(h:aX w Z R p pa pc m d wk)(ht:aA (fun b=>bk d.c=some b∨Z b) w w1){L:List Chi}{a:Option Addr}{n:Nat}(hx:w1.ownsRow 0 67 5 (.slice a L.length n) L.length (cW L))
 (hf:bk a=bk d.c∨∀b,bk a=some b→w.heap.size≤b) (hzn:∀b,Z b→b<w.heap.size):aX (w1.setCell ⟨R,4,none⟩ (.slice a L.length n)) Z R p pa pc {m with ch:=L} {d with c:=a,cn:=n} wk∧aA (fun b=>RM R d b∨Z b) w (w1.setCell ⟨R,4,none⟩ (.slice a L.length n)):=by
 have hne:=h.rows.ne;unfold Nd at hne;simp only[List.pairwise_cons,List.mem_cons,List.not_mem_nil,or_false,forall_eq_or_imp,forall_eq] at hne;obtain⟨⟨hg,hc,ht',hq,ha⟩,⟨gc,gt,gq,ga⟩,⟨ct,cq,ca⟩,⟨tq,ta⟩,qa,-⟩:=hne;have hR:=h.ne;simp only[rws,List.mem_cons,List.not_mem_nil,or_false,forall_eq_or_imp,forall_eq] at hR;obtain⟨rh,rg,rc,rt,rq,ra⟩:=hR;have ht2:aA (fun b=>b=R∨bk d.c=some b∨Z b) w (w1.setCell ⟨R,4,none⟩ (.slice a L.length n)):=(ht.mono fun b _ e=>.inr e).trans (aA.setCell _ (.inl rfl));have htR:aA (fun b=>RM R d b∨Z b) w (w1.setCell ⟨R,4,none⟩ (.slice a L.length n)):=ht2.mono fun b _ e=>by
  rcases e with e|e|e
  ·exact .inl (.inl e)
  ·exact .inl (.inr (by rw[←e];simp[rws]))
  ·exact .inr e
 have hzz:∀y:Option Addr,bk y∈rws d→∀b,bk y=some b→¬Z b:=fun y hy b hb=>h.zr b (.inr (by rw[←hb];exact hy))
 have hza:∀b,bk a=some b→¬Z b:=fun b hb e=>by
  rcases hf with h1|h1
  ·exact hzz d.c (by simp[rws]) b (h1.symm.trans hb) e
  ·have:=h1 b hb;have:=hzn b e;omega
 have hfr:∀b,some b∈rws {d with c:=a,cn:=n}→some b∈rws d∨w.heap.size≤b:=fun b hb=>by
  simp only[rws,List.mem_cons,List.not_mem_nil,or_false] at hb ⊢;rcases hf with e|e
  ·rw[e] at hb;exact .inl hb
  ·rcases hb with e1|e1|e1|e1|e1|e1
   ·exact .inl (.inl e1)
   ·exact .inl (.inr (.inl e1))
   ·exact .inr (e b e1.symm)
   ·exact .inl (.inr (.inr (.inr (.inl e1))))
   ·exact .inl (.inr (.inr (.inr (.inr (.inl e1)))))
   ·exact .inl (.inr (.inr (.inr (.inr (.inr e1)))))
 have hnew:∀y:Option Addr,bk y∈rws d→(∀b,bk d.c=some b→bk y≠some b)→∀b,bk a=some b→bk y≠some b:=fun y hy hd b hb e=>by
  rcases hf with h1|h1
  ·exact hd b (h1.symm.trans hb) e
  ·have:=h1 b hb;have:=h.rows.lt b (by rw[←e];exact hy);omega
 have hxo:∀b,b≠R→(w1.setCell ⟨R,4,none⟩ (.slice a L.length n)).heap[b]? = w1.heap[b]?:=fun b hb=>Below.heap_setCell _ _ _ _ hb
 have haR:bk a≠some R:=fun e=>by
  rcases hf with h1|h1
  ·exact rc (h1.symm.trans e)
  ·have:=h1 R e;have:=h.lt;omega
 have hzd:∀b,some b∈rws {d with c:=a,cn:=n}→¬Z b:=fun b hb=>by
  simp only[rws,List.mem_cons,List.not_mem_nil,or_false] at hb;rcases hb with e1|e1|e1|e1|e1|e1
  ·exact hzz d.h (by simp[rws]) b e1.symm
  ·exact hzz d.g (by simp[rws]) b e1.symm
  ·exact hza b e1.symm
  ·exact hzz d.t (by simp[rws]) b e1.symm
  ·exact hzz d.q (by simp[rws]) b e1.symm
  ·exact hzz d.a (by simp[rws]) b e1.symm
 obtain⟨A,e1,e2,e3⟩:=h.rows.a;refine⟨h.turn ?_ ⟨?_,?_,?_,?_,?_,⟨A,e1,?_,fun z hz=>lN ht2 (by simp[rws]) hfr (e3 z hz)⟩,?_⟩ htR hfr hzd,htR⟩
 ·rw[aB w1 R 4 _ ((ht.block R h.lt (fun e=>e.elim rc (h.zr R (.inl rfl)))).trans h.blk)];rfl
 ·exact⟨bA ht2 h.rows.h.row rh hc (hzz _ (by simp[rws])),h.rows.h.fits⟩
 ·exact bA ht2 h.rows.g rg gc (hzz _ (by simp[rws]))
 ·exact aC hx fun b hb=>hxo b fun e=>haR ((aE _ _ _).symm.trans (by rw[←e];exact hb))
 ·exact bA ht2 h.rows.t rt (fun b e1 e2=>ct b e2 e1) (hzz _ (by simp[rws]))
 ·exact bA ht2 h.rows.q rq (fun b e1 e2=>cq b e2 e1) (hzz _ (by simp[rws]))
 ·exact bA ht2 e2 ra (fun b e1 e2=>ca b e2 e1) (hzz _ (by simp[rws]))
 ·unfold Nd
  simp only[List.pairwise_cons,List.mem_cons,List.not_mem_nil,or_false,forall_eq_or_imp,forall_eq];exact⟨⟨hg,(fun b e1 e2=>hnew d.h (by simp[rws]) (fun b e1 e2=>hc b e2 e1) b e2 e1),ht',hq,ha⟩,⟨(fun b e1 e2=>hnew d.g (by simp[rws]) (fun b e1 e2=>gc b e2 e1) b e2 e1),gt,gq,ga⟩,⟨(hnew d.t (by simp[rws]) ct),(hnew d.q (by simp[rws]) cq),(hnew d.a (by simp[rws]) ca)⟩,⟨tq,ta⟩,qa,fun _ h=>h.elim,List.Pairwise.nil⟩
theorem aX.putT{w w1:World}{Z:Nat→Prop}{R:Nat}{p:List Cl}{pa:Option Addr}{pc:Nat}{m:Mac}{d:MAd}{wk:Nat}(h:aX w Z R p pa pc m d wk)(ht:aA (fun b=>bk d.t=some b∨Z b) w w1){L:List Int}{a:Option Addr}{n:Nat}(hx:w1.ownsRow 0 3 1 (.slice a L.length n) L.length (L.map fun x=>Value.int .i64 x))
 (hf:bk a=bk d.t∨∀b,bk a=some b→w.heap.size≤b) (hzn:∀b,Z b→b<w.heap.size):aX (w1.setCell ⟨R,5,none⟩ (.slice a L.length n)) Z R p pa pc {m with T:=L} {d with t:=a,tn:=n} wk∧aA (fun b=>RM R d b∨Z b) w (w1.setCell ⟨R,5,none⟩ (.slice a L.length n)):=by
 have hne:=h.rows.ne;unfold Nd at hne;simp only[List.pairwise_cons,List.mem_cons,List.not_mem_nil,or_false,forall_eq_or_imp,forall_eq] at hne;obtain⟨⟨hg,hc,ht',hq,ha⟩,⟨gc,gt,gq,ga⟩,⟨ct,cq,ca⟩,⟨tq,ta⟩,qa,-⟩:=hne;have hR:=h.ne;simp only[rws,List.mem_cons,List.not_mem_nil,or_false,forall_eq_or_imp,forall_eq] at hR;obtain⟨rh,rg,rc,rt,rq,ra⟩:=hR;have ht2:aA (fun b=>b=R∨bk d.t=some b∨Z b) w (w1.setCell ⟨R,5,none⟩ (.slice a L.length n)):=(ht.mono fun b _ e=>.inr e).trans (aA.setCell _ (.inl rfl));have htR:aA (fun b=>RM R d b∨Z b) w (w1.setCell ⟨R,5,none⟩ (.slice a L.length n)):=ht2.mono fun b _ e=>by
  rcases e with e|e|e
  ·exact .inl (.inl e)
  ·exact .inl (.inr (by rw[←e];simp[rws]))
  ·exact .inr e
 have hzz:∀y:Option Addr,bk y∈rws d→∀b,bk y=some b→¬Z b:=fun y hy b hb=>h.zr b (.inr (by rw[←hb];exact hy))
 have hza:∀b,bk a=some b→¬Z b:=fun b hb e=>by
  rcases hf with h1|h1
  ·exact hzz d.t (by simp[rws]) b (h1.symm.trans hb) e
  ·have:=h1 b hb;have:=hzn b e;omega
 have hfr:∀b,some b∈rws {d with t:=a,tn:=n}→some b∈rws d∨w.heap.size≤b:=fun b hb=>by
  simp only[rws,List.mem_cons,List.not_mem_nil,or_false] at hb ⊢;rcases hf with e|e
  ·rw[e] at hb;exact .inl hb
  ·rcases hb with e1|e1|e1|e1|e1|e1
   ·exact .inl (.inl e1)
   ·exact .inl (.inr (.inl e1))
   ·exact .inl (.inr (.inr (.inl e1)))
   ·exact .inr (e b e1.symm)
   ·exact .inl (.inr (.inr (.inr (.inr (.inl e1)))))
   ·exact .inl (.inr (.inr (.inr (.inr (.inr e1)))))
 have hnew:∀y:Option Addr,bk y∈rws d→(∀b,bk d.t=some b→bk y≠some b)→∀b,bk a=some b→bk y≠some b:=fun y hy hd b hb e=>by
  rcases hf with h1|h1
  ·exact hd b (h1.symm.trans hb) e
  ·have:=h1 b hb;have:=h.rows.lt b (by rw[←e];exact hy);omega
 have hxo:∀b,b≠R→(w1.setCell ⟨R,5,none⟩ (.slice a L.length n)).heap[b]? = w1.heap[b]?:=fun b hb=>Below.heap_setCell _ _ _ _ hb
 have haR:bk a≠some R:=fun e=>by
  rcases hf with h1|h1
  ·exact rt (h1.symm.trans e)
  ·have:=h1 R e;have:=h.lt;omega
 have hzd:∀b,some b∈rws {d with t:=a,tn:=n}→¬Z b:=fun b hb=>by
  simp only[rws,List.mem_cons,List.not_mem_nil,or_false] at hb;rcases hb with e1|e1|e1|e1|e1|e1
  ·exact hzz d.h (by simp[rws]) b e1.symm
  ·exact hzz d.g (by simp[rws]) b e1.symm
  ·exact hzz d.c (by simp[rws]) b e1.symm
  ·exact hza b e1.symm
  ·exact hzz d.q (by simp[rws]) b e1.symm
  ·exact hzz d.a (by simp[rws]) b e1.symm
 obtain⟨A,e1,e2,e3⟩:=h.rows.a;refine⟨h.turn ?_ ⟨?_,?_,?_,?_,?_,⟨A,e1,?_,fun z hz=>lN ht2 (by simp[rws]) hfr (e3 z hz)⟩,?_⟩ htR hfr hzd,htR⟩
 ·rw[aB w1 R 5 _ ((ht.block R h.lt (fun e=>e.elim rt (h.zr R (.inl rfl)))).trans h.blk)];rfl
 ·exact⟨bA ht2 h.rows.h.row rh ht' (hzz _ (by simp[rws])),h.rows.h.fits⟩
 ·exact bA ht2 h.rows.g rg gt (hzz _ (by simp[rws]))
 ·exact bA ht2 h.rows.c rc ct (hzz _ (by simp[rws]))
 ·exact aC hx fun b hb=>hxo b fun e=>haR ((aE _ _ _).symm.trans (by rw[←e];exact hb))
 ·exact bA ht2 h.rows.q rq (fun b e1 e2=>tq b e2 e1) (hzz _ (by simp[rws]))
 ·exact bA ht2 e2 ra (fun b e1 e2=>ta b e2 e1) (hzz _ (by simp[rws]))
 ·unfold Nd
  simp only[List.pairwise_cons,List.mem_cons,List.not_mem_nil,or_false,forall_eq_or_imp,forall_eq];exact⟨⟨hg,hc,(fun b e1 e2=>hnew d.h (by simp[rws]) (fun b e1 e2=>ht' b e2 e1) b e2 e1),hq,ha⟩,⟨gc,(fun b e1 e2=>hnew d.g (by simp[rws]) (fun b e1 e2=>gt b e2 e1) b e2 e1),gq,ga⟩,⟨(fun b e1 e2=>hnew d.c (by simp[rws]) (fun b e1 e2=>ct b e2 e1) b e2 e1),cq,ca⟩,⟨(hnew d.q (by simp[rws]) tq),(hnew d.a (by simp[rws]) ta)⟩,qa,fun _ h=>h.elim,List.Pairwise.nil⟩
theorem aX.putQ{w w1:World}{Z:Nat→Prop}{R:Nat}{p:List Cl}{pa:Option Addr}{pc:Nat}{m:Mac}{d:MAd}{wk:Nat}(h:aX w Z R p pa pc m d wk)(ht:aA (fun b=>bk d.q=some b∨Z b) w w1){L:List Int}{a:Option Addr}{n:Nat}(hx:w1.ownsRow 0 3 1 (.slice a L.length n) L.length (L.map fun x=>Value.int .i64 x))
 (hf:bk a=bk d.q∨∀b,bk a=some b→w.heap.size≤b) (hzn:∀b,Z b→b<w.heap.size):aX (w1.setCell ⟨R,6,none⟩ (.slice a L.length n)) Z R p pa pc {m with Q:=L} {d with q:=a,qn:=n} wk∧aA (fun b=>RM R d b∨Z b) w (w1.setCell ⟨R,6,none⟩ (.slice a L.length n)):=by
 have hne:=h.rows.ne;unfold Nd at hne;simp only[List.pairwise_cons,List.mem_cons,List.not_mem_nil,or_false,forall_eq_or_imp,forall_eq] at hne;obtain⟨⟨hg,hc,ht',hq,ha⟩,⟨gc,gt,gq,ga⟩,⟨ct,cq,ca⟩,⟨tq,ta⟩,qa,-⟩:=hne;have hR:=h.ne;simp only[rws,List.mem_cons,List.not_mem_nil,or_false,forall_eq_or_imp,forall_eq] at hR;obtain⟨rh,rg,rc,rt,rq,ra⟩:=hR;have ht2:aA (fun b=>b=R∨bk d.q=some b∨Z b) w (w1.setCell ⟨R,6,none⟩ (.slice a L.length n)):=(ht.mono fun b _ e=>.inr e).trans (aA.setCell _ (.inl rfl));have htR:aA (fun b=>RM R d b∨Z b) w (w1.setCell ⟨R,6,none⟩ (.slice a L.length n)):=ht2.mono fun b _ e=>by
  rcases e with e|e|e
  ·exact .inl (.inl e)
  ·exact .inl (.inr (by rw[←e];simp[rws]))
  ·exact .inr e
 have hzz:∀y:Option Addr,bk y∈rws d→∀b,bk y=some b→¬Z b:=fun y hy b hb=>h.zr b (.inr (by rw[←hb];exact hy))
 have hza:∀b,bk a=some b→¬Z b:=fun b hb e=>by
  rcases hf with h1|h1
  ·exact hzz d.q (by simp[rws]) b (h1.symm.trans hb) e
  ·have:=h1 b hb;have:=hzn b e;omega
 have hfr:∀b,some b∈rws {d with q:=a,qn:=n}→some b∈rws d∨w.heap.size≤b:=fun b hb=>by
  simp only[rws,List.mem_cons,List.not_mem_nil,or_false] at hb ⊢;rcases hf with e|e
  ·rw[e] at hb;exact .inl hb
  ·rcases hb with e1|e1|e1|e1|e1|e1
   ·exact .inl (.inl e1)
   ·exact .inl (.inr (.inl e1))
   ·exact .inl (.inr (.inr (.inl e1)))
   ·exact .inl (.inr (.inr (.inr (.inl e1))))
   ·exact .inr (e b e1.symm)
   ·exact .inl (.inr (.inr (.inr (.inr (.inr e1)))))
 have hnew:∀y:Option Addr,bk y∈rws d→(∀b,bk d.q=some b→bk y≠some b)→∀b,bk a=some b→bk y≠some b:=fun y hy hd b hb e=>by
  rcases hf with h1|h1
  ·exact hd b (h1.symm.trans hb) e
  ·have:=h1 b hb;have:=h.rows.lt b (by rw[←e];exact hy);omega
 have hxo:∀b,b≠R→(w1.setCell ⟨R,6,none⟩ (.slice a L.length n)).heap[b]? = w1.heap[b]?:=fun b hb=>Below.heap_setCell _ _ _ _ hb
 have haR:bk a≠some R:=fun e=>by
  rcases hf with h1|h1
  ·exact rq (h1.symm.trans e)
  ·have:=h1 R e;have:=h.lt;omega
 have hzd:∀b,some b∈rws {d with q:=a,qn:=n}→¬Z b:=fun b hb=>by
  simp only[rws,List.mem_cons,List.not_mem_nil,or_false] at hb;rcases hb with e1|e1|e1|e1|e1|e1
  ·exact hzz d.h (by simp[rws]) b e1.symm
  ·exact hzz d.g (by simp[rws]) b e1.symm
  ·exact hzz d.c (by simp[rws]) b e1.symm
  ·exact hzz d.t (by simp[rws]) b e1.symm
  ·exact hza b e1.symm
  ·exact hzz d.a (by simp[rws]) b e1.symm
 obtain⟨A,e1,e2,e3⟩:=h.rows.a;refine⟨h.turn ?_ ⟨?_,?_,?_,?_,?_,⟨A,e1,?_,fun z hz=>lN ht2 (by simp[rws]) hfr (e3 z hz)⟩,?_⟩ htR hfr hzd,htR⟩
 ·rw[aB w1 R 6 _ ((ht.block R h.lt (fun e=>e.elim rq (h.zr R (.inl rfl)))).trans h.blk)];rfl
 ·exact⟨bA ht2 h.rows.h.row rh hq (hzz _ (by simp[rws])),h.rows.h.fits⟩
 ·exact bA ht2 h.rows.g rg gq (hzz _ (by simp[rws]))
 ·exact bA ht2 h.rows.c rc cq (hzz _ (by simp[rws]))
 ·exact bA ht2 h.rows.t rt tq (hzz _ (by simp[rws]))
 ·exact aC hx fun b hb=>hxo b fun e=>haR ((aE _ _ _).symm.trans (by rw[←e];exact hb))
 ·exact bA ht2 e2 ra (fun b e1 e2=>qa b e2 e1) (hzz _ (by simp[rws]))
 ·unfold Nd
  simp only[List.pairwise_cons,List.mem_cons,List.not_mem_nil,or_false,forall_eq_or_imp,forall_eq];exact⟨⟨hg,hc,ht',(fun b e1 e2=>hnew d.h (by simp[rws]) (fun b e1 e2=>hq b e2 e1) b e2 e1),ha⟩,⟨gc,gt,(fun b e1 e2=>hnew d.g (by simp[rws]) (fun b e1 e2=>gq b e2 e1) b e2 e1),ga⟩,⟨ct,(fun b e1 e2=>hnew d.c (by simp[rws]) (fun b e1 e2=>cq b e2 e1) b e2 e1),ca⟩,⟨(fun b e1 e2=>hnew d.t (by simp[rws]) (fun b e1 e2=>tq b e2 e1) b e2 e1),ta⟩,(hnew d.a (by simp[rws]) qa),fun _ h=>h.elim,List.Pairwise.nil⟩
theorem aX.putFirst{w:World}{Z:Nat→Prop}{R:Nat}{p:List Cl}{pa:Option Addr}{pc:Nat}{m:Mac}{d:MAd}{wk:Nat}(h:aX w Z R p pa pc m d wk)(v:Int):aX (w.setCell ⟨R,3,none⟩ (.int .i64 v)) Z R p pa pc {m with first:=v} d wk∧aA (RM R d) w (w.setCell ⟨R,3,none⟩ (.int .i64 v)):=by
 have ht:aA (RM R d) w (w.setCell ⟨R,3,none⟩ (.int .i64 v)):=aA.setCell _ (.inl rfl);have hr:=h.rows.keep (w':=w.setCell ⟨R,3,none⟩ (.int .i64 v)) (okA':=fun b=>b≠R∧¬Z b) (by simp[World.setCell]) (fun b _ hb=>Below.heap_setCell _ _ _ _ (fun e=>hb.elim (fun e1=>h.ne _ e1 (by rw[e])) fun e1=>e1.1 e)) fun b _ hb=>hb
 exact⟨h.turn (by rw[aB w R 3 _ h.blk];rfl) ⟨hr.h,hr.g,hr.c,hr.t,hr.q,hr.a,hr.ne⟩ (ht.mono fun b _ e=>.inl e) (fun b hb=>.inl hb) (fun b hb=>h.zr b (.inr hb)),ht⟩
theorem aX.putSteps{w:World}{Z:Nat→Prop}{R:Nat}{p:List Cl}{pa:Option Addr}{pc:Nat}{m:Mac}{d:MAd}{wk:Nat}(h:aX w Z R p pa pc m d wk)(v:Int):aX (w.setCell ⟨R,7,none⟩ (.int .i64 v)) Z R p pa pc {m with steps:=v} d wk∧aA (RM R d) w (w.setCell ⟨R,7,none⟩ (.int .i64 v)):=by
 have ht:aA (RM R d) w (w.setCell ⟨R,7,none⟩ (.int .i64 v)):=aA.setCell _ (.inl rfl);have hr:=h.rows.keep (w':=w.setCell ⟨R,7,none⟩ (.int .i64 v)) (okA':=fun b=>b≠R∧¬Z b) (by simp[World.setCell]) (fun b _ hb=>Below.heap_setCell _ _ _ _ (fun e=>hb.elim (fun e1=>h.ne _ e1 (by rw[e])) fun e1=>e1.1 e)) fun b _ hb=>hb
 exact⟨h.turn (by rw[aB w R 7 _ h.blk];rfl) ⟨hr.h,hr.g,hr.c,hr.t,hr.q,hr.a,hr.ne⟩ (ht.mono fun b _ e=>.inl e) (fun b hb=>.inl hb) (fun b hb=>h.zr b (.inr hb)),ht⟩
theorem aX.putFin{w:World}{Z:Nat→Prop}{R:Nat}{p:List Cl}{pa:Option Addr}{pc:Nat}{m:Mac}{d:MAd}{wk:Nat}(h:aX w Z R p pa pc m d wk)(v:Int):aX (w.setCell ⟨R,8,none⟩ (.int .i64 v)) Z R p pa pc {m with fin:=v} d wk∧aA (RM R d) w (w.setCell ⟨R,8,none⟩ (.int .i64 v)):=by
 have ht:aA (RM R d) w (w.setCell ⟨R,8,none⟩ (.int .i64 v)):=aA.setCell _ (.inl rfl);have hr:=h.rows.keep (w':=w.setCell ⟨R,8,none⟩ (.int .i64 v)) (okA':=fun b=>b≠R∧¬Z b) (by simp[World.setCell]) (fun b _ hb=>Below.heap_setCell _ _ _ _ (fun e=>hb.elim (fun e1=>h.ne _ e1 (by rw[e])) fun e1=>e1.1 e)) fun b _ hb=>hb
 exact⟨h.turn (by rw[aB w R 8 _ h.blk];rfl) ⟨hr.h,hr.g,hr.c,hr.t,hr.q,hr.a,hr.ne⟩ (ht.mono fun b _ e=>.inl e) (fun b hb=>.inl hb) (fun b hb=>h.zr b (.inr hb)),ht⟩
theorem aX.putWork{w:World}{Z:Nat→Prop}{R:Nat}{p:List Cl}{pa:Option Addr}{pc:Nat}{m:Mac}{d:MAd}{wk:Nat}(h:aX w Z R p pa pc m d wk)(v:Nat):aX (w.setCell ⟨R,10,none⟩ (.int .i64 (v:Int))) Z R p pa pc m d v∧aA (RM R d) w (w.setCell ⟨R,10,none⟩ (.int .i64 (v:Int))):=by
 have ht:aA (RM R d) w (w.setCell ⟨R,10,none⟩ (.int .i64 (v:Int))):=aA.setCell _ (.inl rfl);have hr:=h.rows.keep (w':=w.setCell ⟨R,10,none⟩ (.int .i64 (v:Int))) (okA':=fun b=>b≠R∧¬Z b) (by simp[World.setCell]) (fun b _ hb=>Below.heap_setCell _ _ _ _ (fun e=>hb.elim (fun e1=>h.ne _ e1 (by rw[e])) fun e1=>e1.1 e)) fun b _ hb=>hb
 exact⟨h.turn (by rw[aB w R 10 _ h.blk];rfl) hr (ht.mono fun b _ e=>.inl e) (fun b hb=>.inl hb) (fun b hb=>h.zr b (.inr hb)),ht⟩
structure BxV(vs:Array Value)(o:Nat)(m:Mac)(d:MAd):Prop where
 h:vs[o]? = some (.slice d.h m.H.length d.hn)
 g:vs[o+1]? = some (.slice d.g m.G.length d.gn)
 f:vs[o+2]? = some (.int .i64 m.first)
 c:vs[o+3]? = some (.slice d.c m.ch.length d.cn)
 t:vs[o+4]? = some (.slice d.t m.T.length d.tn)
 q:vs[o+5]? = some (.slice d.q m.Q.length d.qn)
 s:vs[o+6]? = some (.int .i64 m.steps)
 e:vs[o+7]? = some (.int .i64 m.fin)
 a:vs[o+8]? = some (.slice d.a m.ans.length d.an)
structure RwS(w:World)(B:Nat)(vs:Array Value)(ty:TypeId)(d:MAd)(wr:World)(R:List bC):Prop where
 box:wr.heap[B]? = some (.cells vs ty (0,0))
 bag:Bag wr R
 nb:∀(i:Nat) (r:bC),R[i]? = some r→bk r.a≠some B
 own:∀(i:Nat) (r:bC),R[i]? = some r→∀b,bk r.a=some b→some b∈rws d∨w.heap.size≤b
 touch:aA (fun b=>b=B∨some b∈rws d∨w.heap.size≤b) w wr
section
variable {w:World} {B:Nat} {vs:Array Value} {ty:TypeId} {d:MAd} {wr w':World} {R:List bC}
theorem RwS.blt(h:RwS w B vs ty d wr R):B<wr.heap.size:=(gS h.box).1
theorem RwS.all(h:RwS w B vs ty d wr R){o:Nat}{m:Mac}{d2:MAd}(hv:BxV vs o m d2) :
 wr.cell? ⟨B,o,none⟩=some (.slice d2.h m.H.length d2.hn)∧wr.cell? ⟨B,o+1,none⟩=some (.slice d2.g m.G.length d2.gn)∧wr.cell? ⟨B,o+2,none⟩=some (.int .i64 m.first)∧wr.cell? ⟨B,o+3,none⟩=some (.slice d2.c m.ch.length d2.cn)∧wr.cell? ⟨B,o+4,none⟩=some (.slice d2.t m.T.length d2.tn) ∧
 wr.cell? ⟨B,o+5,none⟩=some (.slice d2.q m.Q.length d2.qn)∧wr.cell? ⟨B,o+6,none⟩=some (.int .i64 m.steps)∧wr.cell? ⟨B,o+7,none⟩=some (.int .i64 m.fin)∧wr.cell? ⟨B,o+8,none⟩=some (.slice d2.a m.ans.length d2.an)∧∀i,wr.frozen? ⟨B,i,none⟩=false:=by
 have hb:=h.box;have k:∀i v,vs[i]? = some v→wr.cell? ⟨B,i,none⟩=some v:=fun i v hi=>by simp only[World.cell?,hb];simpa using hi
 exact⟨k _ _ hv.h,k _ _ hv.g,k _ _ hv.f,k _ _ hv.c,k _ _ hv.t,k _ _ hv.q,k _ _ hv.s,k _ _ hv.e,k _ _ hv.a,fun i=>by simp[World.frozen?,hb]⟩
theorem RwS.below(h:RwS w B vs ty d wr R)(hb:Below wr.heap.size wr w'):RwS w B vs ty d w' R :=
 ⟨(hb.block B h.blt).trans h.box,h.bag.below hb,h.nb,h.own,h.touch.trans (aA.below hb)⟩
theorem RwS.upd(h:RwS w B vs ty d wr R){i:Nat}{r:bC}(hi:R[i]? = some r){r':bC}(ht:aA (fun b=>bk r.a=some b) wr w')(hr:r'.In w' 0)(hf:bk r'.a=bk r.a∨∀b,bk r'.a=some b→wr.heap.size≤b):RwS w B vs ty d w' (R.set i r'):=by
 have hil:=(List.getElem?_eq_some_iff.1 hi).1;refine⟨(ht.block B h.blt (h.nb i r hi)).trans h.box,h.bag.upd hi ht hr hf,fun j s hs=>?_,fun j s hs b hb=>?_,h.touch.trans ?_⟩
 ·rw[List.getElem?_set] at hs
  by_cases e:i=j
  ·rw[if_pos e,if_pos hil] at hs
   injection hs with hs;subst hs;rcases hf with hf|hf
   ·rw[hf];exact h.nb i r hi
   ·intro e2;have:=hf B e2;have:=h.blt;omega
  ·rw[if_neg e] at hs;exact h.nb j s hs
 ·rw[List.getElem?_set] at hs
  by_cases e:i=j
  ·rw[if_pos e,if_pos hil] at hs
   injection hs with hs;subst hs;rcases hf with hf|hf
   ·exact h.own i r hi b (hf.symm.trans hb)
   ·right;have:=hf b hb;have:=h.touch.size;omega
  ·rw[if_neg e] at hs;exact h.own j s hs b hb
 ·exact ht.mono fun b _ e=>.inr (h.own i r hi b e)
theorem RwS.add(h:RwS w B vs ty d wr R)(hb:Below wr.heap.size wr w'){r:bC}(hr:r.In w' 0)(hf:∀b,bk r.a=some b→wr.heap.size≤b):RwS w B vs ty d w' (R++[r]):=by
 have hs:=h.touch.size;refine⟨(hb.block B h.blt).trans h.box,h.bag.add hb hr hf,fun j s hj=>?_,fun j s hj b e=>?_,h.touch.trans (aA.below hb)⟩
 ·rw[List.getElem?_append] at hj
  split at hj
  ·exact h.nb j s hj
  ·have:=List.mem_of_getElem? hj
   rw[List.mem_singleton] at this;subst this;intro e2;have:=hf B e2;have:=h.blt;omega
 ·rw[List.getElem?_append] at hj
  split at hj
  ·exact h.own j s hj b e
  ·have:=List.mem_of_getElem? hj
   rw[List.mem_singleton] at this;subst this
   right;have:=hf b e;omega
theorem RwS.store(h:RwS w B vs ty d wr R){i:Nat}{r:bC}(hi:R[i]? = some r){g:Nat}(hg:r.a=some ⟨g,0,none⟩)(j:Nat)(u:Value):RwS w B vs ty d (wr.setCell ⟨g,j,none⟩ u) (R.set i {r with vs:=r.vs.set j u}):=by
 have h0:=h.bag.rows i r hi;have h':wr.ownsRow 0 r.e r.k (.slice (some ⟨g,0,none⟩) r.n r.c) r.n r.vs:=by rw[←hg];exact h0
 have h1:=(World.ownsRow.stored h' j u).1;refine h.upd hi (aA.setCell _ ?_) ?_ (.inl rfl)
 ·show bk r.a=some g
  rw[hg];rfl
 ·unfold bC.In
  simp only;rw[hg];exact h1
theorem RwS.grow(h:RwS w B vs ty d wr R){i:Nat}{r:bC}(hi:R[i]? = some r){X:World}(hX:Below wr.heap.size wr X){n m c:Nat}{a:Option Addr}{ws:List Value}(ho:w'.ownsRow 0 r.e r.k (.slice a m c) m ws)(hg:X.grownBy w' (Value.slice r.a n r.c).ownBlock)(hf:cF X (.slice r.a n r.c) (.slice a m c)):RwS w B vs ty d w' (R.set i ⟨r.e,r.k,a,m,c,ws⟩):=by
 rw[aE] at hg;refine h.upd hi ?_ ho ?_
 ·exact(aA.below hX).trans (aA.grown hg fun k e=>e)
 ·rcases hf with hf|hf
  ·left;rw[aE,aE] at hf;exact hf
  ·right
   intro b hb;exact Nat.le_trans hX.size (hf b ((aE _ _ _).trans hb))
theorem RwS.storeI(h:RwS w B vs ty d wr R){i:Nat}{l:List Int}{g c:Nat}(hi:R[i]? = some (rI l (some ⟨g,0,none⟩) c))(j:Nat)(x:Int):RwS w B vs ty d (wr.setCell ⟨g,j,none⟩ (.int .i64 x)) (R.set i (rI (l.set j x) (some ⟨g,0,none⟩) c)):=by
 have:=h.store hi rfl j (.int .i64 x);have e:({rI l (some ⟨g,0,none⟩) c with vs:=(rI l (some ⟨g,0,none⟩) c).vs.set j (.int .i64 x)}:bC)=rI (l.set j x) (some ⟨g,0,none⟩) c:=by simp[rI,List.map_set]
 rw[e] at this;exact this
theorem RwS.storeG(h:RwS w B vs ty d wr R){i:Nat}{l:List Gl}{g c:Nat}(hi:R[i]? = some (rG l (some ⟨g,0,none⟩) c)){j:Nat}(hj:j<l.length)(x:Int):RwS w B vs ty d (wr.setCell ⟨g,j*3,none⟩ (.int .i64 x)) (R.set i (rG (l.set j {l[j] with at':=x}) (some ⟨g,0,none⟩) c)):=by
 have:=h.store hi rfl (j*3) (.int .i64 x);have e:({rG l (some ⟨g,0,none⟩) c with vs:=(rG l (some ⟨g,0,none⟩) c).vs.set (j*3) (.int .i64 x)}:bC)=rG (l.set j {l[j] with at':=x}) (some ⟨g,0,none⟩) c:=by
  have:=aP9 l j {l[j] with at':=x} hj rfl rfl;simp[rG,this]
 rw[e] at this;exact this
theorem RwS.storeH(h:RwS w B vs ty d wr R){i:Nat}{l:List HC}{g c:Nat}(hi:R[i]? = some (rH l (some ⟨g,0,none⟩) c)){j:Nat}(hj:j<l.length)(x:Int):RwS w B vs ty d (wr.setCell ⟨g,j*3+1,none⟩ (.int .i64 x)) (R.set i (rH (l.set j {l[j] with n:=x}) (some ⟨g,0,none⟩) c)):=by
 have:=h.store hi rfl (j*3+1) (.int .i64 x);have e:({rH l (some ⟨g,0,none⟩) c with vs:=(rH l (some ⟨g,0,none⟩) c).vs.set (j*3+1) (.int .i64 x)}:bC)=rH (l.set j {l[j] with n:=x}) (some ⟨g,0,none⟩) c:=by
  have:=yU l j x hj;simp[rH,this]
 rw[e] at this;exact this
theorem zC{α:Type}(l:List α)(i:Nat)(a b:α):(l.set i a).set i b=l.set i b:=by simp
theorem RwS.storeK(h:RwS w B vs ty d wr R){i:Nat}{l:List Chi}{g c:Nat}(hi:R[i]? = some (rK l (some ⟨g,0,none⟩) c)){j:Nat}(hj:j<l.length)(x y:Int):RwS w B vs ty d ((wr.setCell ⟨g,j*5+2,none⟩ (.int .i64 x)).setCell ⟨g,j*5+3,none⟩ (.int .i64 y)) (R.set i (rK (l.set j {l[j] with heap:=x,trail:=y}) (some ⟨g,0,none⟩) c)):=by
 have hil:=(List.getElem?_eq_some_iff.1 hi).1;have h1:=h.store hi rfl (j*5+2) (.int .i64 x);have h2:=h1.store (i:=i) (r:={rK l (some ⟨g,0,none⟩) c with vs:=(rK l (some ⟨g,0,none⟩) c).vs.set (j*5+2) (.int .i64 x)}) (by rw[List.getElem?_set,if_pos rfl,if_pos hil]) rfl (j*5+3) (.int .i64 y);rw[zC] at h2;have e:({({rK l (some ⟨g,0,none⟩) c with vs:=(rK l (some ⟨g,0,none⟩) c).vs.set (j*5+2) (.int .i64 x)}:bC) with vs:=((rK l (some ⟨g,0,none⟩) c).vs.set (j*5+2) (.int .i64 x)).set (j*5+3) (.int .i64 y)}:bC)=rK (l.set j {l[j] with heap:=x,trail:=y}) (some ⟨g,0,none⟩) c:=by
  have:=aQ0 l j x y hj;simp[rK,this]
 rw[←e];exact h2
theorem RwS.row(h:RwS w B vs ty d wr R)(i:Nat){r:bC}(hi:R[i]? = some r):r.In wr 0:=h.bag.rows i r hi
theorem RwS.two(h:RwS w B vs ty d wr R)(i j:Nat){r s:bC}(hij:i≠j)(hi:R[i]? = some r)(hj:R[j]? = some s){a b:Nat}(ha:r.a=some ⟨a,0,none⟩)(hb:s.a=some ⟨b,0,none⟩):a≠b:=fun e=>by
 refine h.bag.ne i j r s hij hi hj a (by rw[ha];rfl) ?_;rw[hb,e];rfl
theorem RwS.notB(h:RwS w B vs ty d wr R)(i:Nat){r:bC}(hi:R[i]? = some r){a:Nat}(ha:r.a=some ⟨a,0,none⟩):a≠B:=fun e=>h.nb i r hi (by rw[ha,e];rfl)
theorem RwS.setB(h:RwS w B vs ty d wr R)(j:Nat)(u:Value):RwS w B (vs.setIfInBounds j u) ty d (wr.setCell ⟨B,j,none⟩ u) R:=by
 refine⟨aB wr B j u h.box,h.bag.keep (M:=fun b=>b=B) (aA.setCell _ rfl) fun i r hi b hb e=>h.nb i r hi (by rw[hb,e]),h.nb,h.own,h.touch.trans (aA.setCell _ (.inl rfl))⟩
end
def bP5(n:Nat):qC→Prop
 | .ok _ B _=>B.length≤n
 | .no _ B _=>B.length≤n
 | .many _ B=>B.length≤n
theorem lX:∀(f:Nat) (K:List HC) (B:List Nat) (ps:List (Nat×Nat)),dZ K→(∀p,p∈ps→p.1<K.length∧p.2<K.length)→∀n,B.length+f≤n→bP5 n (dE K B f ps):=by
 intro f
 induction f using Nat.strongRecOn with
 | _ f ih =>
 intro K B ps hI hp n hn;cases ps with
 | nil=>rw[gB];show B.length≤n;omega
 | cons p r =>
  cases f with
  | zero=>rw[gT];show B.length≤n;omega
  | succ f =>
   have h1:=hI.end (hp p List.mem_cons_self).1;have h2:=hI.end (hp p List.mem_cons_self).2;cases hs:aU K B f (aG K p.1) (aG K p.2) with
   | done o =>
    rw[gU _ hs];rcases mW hs with ⟨f',rfl⟩|rfl
    ·show B.length≤n;omega
    ·show B.length≤n;omega
   | go K' B' f' m =>
    rw[kO _ hs];obtain⟨a,b,c,d⟩:=lH hI h1.1 h1.2 h2.1 h2.2 hs;have hle:=fE hs;exact ih f' (by omega) K' B' (m++r) a (fun q hq=>by
     rcases List.mem_append.1 hq with hq|hq
     ·rw[b];exact c q hq
     ·rw[b];exact hp q (List.mem_cons_of_mem _ hq)) n (by omega)
theorem aF4{c:Cl}{x:HC}{t:Tm}(h1:x.name=t.name)(h2:x.n=(t.args.length:Int)):fG c (fP x)↔fG c t:=by
 unfold fG fP;simp only[Tm.name,Tm.args,List.length_replicate,h1,h2,Int.toNat_natCast]
theorem uM{p:List Cl}{x:HC}{t:Tm}(h1:x.name=t.name)(h2:x.n=(t.args.length:Int))(i:Nat):bE p (fP x) i=bE p t i :=
 aU4 (s:=fP x) (t:=t) h1 (by unfold fP;simp only[Tm.args,List.length_replicate,h2,Int.toNat_natCast]) _ i rfl
theorem GoR.keep0{H H':List HC}{G:List Gn}{D D':Int→Prop}{Sc Sc':Int→Nat}(hst:∀c t,St H D Sc c t→St H' D' Sc' c t){now:List eD}{n:Nat}(h:GoR H G D Sc now n):GoR H' G D' Sc' now n:=by
 have:=h.keep (g:=[]) hst
 rwa [List.append_nil] at this
structure uN(S:MS)(P:PS)(n:Nat)(gs:List eD)(t:Tm)(D:Int→Prop)(Sc:Int→Nat)(g:eD)(r:List eD):Prop where
 sit:Sit S n P.vars P.σ gs D Sc
 gs:gs=g::r
 cut:(gn S (n-1)).cut=g.2
 go:GoR S.H S.G D Sc r (gn S (n-1)).next
 num:(gn S (n-1)).next<n∧1≤n∧n≤S.G.length∧(gn S (n-1)).at'<S.H.length
 at':St S.H D Sc (gn S (n-1)).at' g.1
 st:St S.H D Sc (aF S n) t
 lt:aF S n<S.H.length
theorem Sit.goal{S:MS}{n vars:Nat}{σ:Sub}{gs:List eD}{D:Int→Prop}{Sc:Int→Nat}(hs:Sit S n vars σ gs D Sc)(hne:gs≠[]) :
 ∃g r,gs=g::r∧(gn S (n-1)).cut=g.2∧GoR S.H S.G D Sc r (gn S (n-1)).next∧((gn S (n-1)).next<n∧1≤n∧n≤S.G.length∧(gn S (n-1)).at'<S.H.length)∧St S.H D Sc (gn S (n-1)).at' g.1:=by
 cases gs with
 | nil=>exact absurd rfl hne
 | cons g r =>
  obtain⟨x,h1,h2,h3,h4,h5⟩:=hs.go;have hx:gn S (n-1)=x:=by unfold gn;rw[List.getD_eq_getElem?_getD,h2];rfl
  obtain⟨h6,h7⟩:=List.getElem?_eq_some_iff.1 h2;have h8:=hs.goals (n-1) h6;rw[h7] at h8;rw[hx];exact⟨g,r,rfl,h3,h5,⟨by omega,h1,by omega,h8.1⟩,h4⟩
theorem fM.goal{p:List Cl}{S:MS}{P:PS}{n:Nat}{gs:List eD}{t:Tm}(h:fM p S P n gs t):∃D Sc g r,uN S P n gs t D Sc g r:=by
 obtain⟨D,Sc,hs⟩:=h.sit;obtain⟨g,r,h1,h2,h3,h4,h5⟩:=hs.goal h.ne;obtain⟨k1,k2,_⟩:=hs.hang.look h5;have ht:t=look P.σ g.1:=by rw[h.t.1,h1];rfl
 exact⟨D,Sc,g,r,hs,h1,h2,h3,h4,h5,by rw[ht];exact k1,k2⟩
theorem uN.cell{S:MS}{P:PS}{n:Nat}{gs:List eD}{t:Tm}{D:Int→Prop}{Sc:Int→Nat}{g:eD}{r:List eD}(h:uN S P n gs t D Sc g r)(ht:t=look P.σ g.1) :
 (t.var≠0→(hc S.H (aF S n)).k=1)∧(t.var=0→(hc S.H (aF S n)).k=2∧(hc S.H (aF S n)).name=t.name∧(hc S.H (aF S n)).n=(t.args.length:Int)∧∀i (hi:i<t.args.length),St S.H D Sc (aF S n+1+i) t.args[i]):=by
 subst ht;obtain⟨k1,k2,k3,k4,k5,k6⟩:=h.sit.hang.look h.at';refine⟨fun hv=>(k5 hv).1,fun hv=>?_⟩;obtain⟨m1,m2,m3,m4⟩:=k6 hv;have:(hc S.H (aF S n)).k=2:=by
  rcases bV (h.sit.hang.heap.cells _ h.lt) with e|e
  ·exact absurd e.1 m1
  ·exact e.1
 exact⟨this,m2,m3,m4⟩
structure sQ(S S':MS):Prop where
 heap:S'.H.length≤S.H.length+833
 goals:S'.G.length≤S.G.length+6
 q:S'.Q=S.Q
 trail:S'.T.length≤S.T.length+4000
def bO6(p:List Cl)(S:MS)(n:Nat)(gs:List eD)(t:Tm):MS×Option Bool→PS×Option Bool→Prop
 | (S',some b),(P',some b')=>b=true∧b'=true∧MvS p S' P'∧sQ S S'
 | (S',none),(P',none)=>fM p S' P' n gs t∧S'.H=S.H∧S'.T=S.T∧S'.G=S.G∧S'.ch=S.ch∧S'.Q=S.Q∧S'.steps=S.steps∧S'.ans=S.ans
 | _,_=>False
section
variable {p:List Cl} {g:Gn} {at':Nat} {t:Tm} {was:Cn} {c:Cl} {i:Nat} {S:MS} {K1:List HC} {V1:CV} {a:Nat} {K:List HC} {B:List Nat} {f:Nat}
theorem aK6(hz:putT S.H (fun _=>none) c.head=((K1,V1),a))(e:dE K1 [] S.f [(a,at')]=.ok K B f) :
 gE p g at' t was c i S=(lB c.body V1 S.ch.length g.next {S with H:=K,T:=S.T++B,f:=f,ch:=if bE p t (i+1)<p.length then S.ch++[{was with clause:=bE p t (i+1)}] else S.ch},some true):=by
 simp only[gE,hz,cQ,e,if_true]
theorem aK7(h0:S.fin=0)(hz:putT S.H (fun _=>none) c.head=((K1,V1),a))(e:dE K1 [] S.f [(a,at')]=.no K B f) :
 gE p g at' t was c i S=(aK {S with H:=K,T:=S.T++B,f:=f} was,none):=by
 simp[gE,hz,cQ,e,h0]
theorem zM(hz:putT S.H (fun _=>none) c.head=((K1,V1),a))(e:dE K1 [] S.f [(a,at')]=.many K B) :
 gE p g at' t was c i S=(aK {S with H:=K,T:=S.T++B,f:=0,fin:=3} was,some true):=by
 simp[gE,hz,cQ,e]
variable {gs:List eD} {P:PS} {σ:Sub} {L:List Int} {f':Nat}
theorem aK8(e:meet P.σ P.L P.f [(far P.vars c.head,t)]=.ok σ L f') :
 cO p gs t c i P=({P with σ:=σ,L:=L,f:=f',vars:=P.vars+12,ch:=if bE p t (i+1)<p.length then P.ch++[⟨gs,bE p t (i+1),P.σ,P.L⟩] else P.ch,now:=qU P.vars P.ch.length c.body++gs.tail},some true):=by
 simp only[cO,e]
theorem aK9(e:meet P.σ P.L P.f [(far P.vars c.head,t)]=.no σ L f'):cO p gs t c i P=({P with f:=f',vars:=P.vars+12},none):=by
 simp only[cO,e]
theorem zN(e:meet P.σ P.L P.f [(far P.vars c.head,t)]=.many σ L):cO p gs t c i P=({P with f:=0,vars:=P.vars+12,fin:=3},some true):=by
 simp only[cO,e]
end
theorem uO{p:List Cl}{S:MS}{P:PS}{n:Nat}{gs:List eD}{t:Tm}(h:fM p S P n gs t){c:Cl}(hC:ClG c)(i:Nat)(hroom:S.H.length+833≤400000∧S.G.length+6≤5000) :
 bO6 p S n gs t (gE p (gn S (n-1)) (aF S n) (fP (hc S.H (aF S n))) (aZ S n) c i S) (cO p gs t c i P):=by
 obtain⟨D,Sc,g,r,hG⟩:=h.goal;have ht:t=look P.σ g.1:=by rw[h.t.1,hG.gs];rfl
 obtain⟨hk2,hnm,hnn,-⟩:=(hG.cell ht).2 h.t.2;have hnext:bE p (fP (hc S.H (aF S n))) (i+1)=bE p t (i+1):=uM hnm hnn _;obtain⟨hs,hgs,hcut,hgo,hnum,hat,hst,hlt⟩:=hG;have hV0:aL4 P.σ P.vars (fun _=>none) D Sc:=⟨(fun v c e=>nomatch e),fun v h1 _=>hs.fresh _ (by omega)⟩
 have hj0:wL (fun _=>none):=fun v w c e=>nomatch e
 have hle:=kZ c.head S.H (fun _=>none);have hsz:=hC.head.size;have hbl:=hC.len;obtain⟨D1,S1,q⟩:=rN hs.hang (Int.natCast_nonneg P.vars) hV0 hj0 hC.head.fit.wf hC.head.names (fun x hx hv=>(hC.head.var hx hv).1) (by omega);have hd1:∀v k,(putT S.H (fun _=>none) c.head).1.2 v=some k→v≤12:=fun v k e=>by
  rcases qH c.head S.H (fun _=>none) v k e with e|⟨_,_,x,e1,e2,e3⟩
  ·cases e
  ·rw[←e3];exact(hC.head.var e1 e2).2
 obtain⟨⟨⟨K1,V1⟩,a⟩,hz⟩:∃Z,putT S.H (fun _=>none) c.head=Z:=⟨_,rfl⟩
 rw[hz] at q hd1 hle;simp only at q hd1 hle;have hp1:∀x,x∈[((a,far (P.vars:Int) c.head),(aF S n,t))]→St K1 D1 S1 x.1.1 x.1.2∧St K1 D1 S1 x.2.1 x.2.2:=fun x hx=>by rw[List.mem_singleton] at hx;subst hx;exact⟨q.st,q.keep _ _ hst⟩
 have hm:=xC S.f K1 P.σ [] P.L _ q.hang hp1;have hb:=kQ S.f K1 [] [(a,aF S n)] q.hang.heap (fun x hx=>by rw[List.mem_singleton] at hx;subst hx;exact⟨q.st.lt,(q.keep _ _ hst).lt⟩);have hrm:=lX S.f K1 [] [(a,aF S n)] q.hang.heap (fun x hx=>by rw[List.mem_singleton] at hx;subst hx;exact⟨q.st.lt,(q.keep _ _ hst).lt⟩) 4000 (by have:=h.work.2;simp;omega);have hky:=xX S.f K1 P.σ P.L _ q.hang hp1;have hgr:=nQ S.f P.σ P.L [(far (P.vars:Int) c.head,t)] q.hang.store (fun x hx=>by rw[List.mem_singleton] at hx;subst hx;exact⟨q.st.wf q.hang.pos,hst.wf hs.hang.pos⟩);simp only[List.map_cons,List.map_nil] at hm hky;have hwk:=h.work.1;have hext:∀(K:List HC) (B:List Nat),gH K1 [] K B→∀S':MS,K.length≤S'.H.length→(∀i,i<K.length→hc S'.H i=hc K i)→S'.T=S.T++B→(∃g,S'.G=S.G++g)→Ext S S'∧∀x,x∈S'.T→x<S'.H.length:=fun K B ⟨b1,b,b2,b3,b4⟩ S' x1 x2 x3 x4=>by
  rw[List.nil_append] at b2;subst b2;have hl:=q.len;refine⟨⟨by omega,⟨B,x3,fun i hi hl=>?_,fun i hl hn=>?_⟩,x4⟩,fun x hx=>?_⟩
  ·rw[←q.old i hl];exact(b3 i hi).2
  ·rw[x2 i (by omega),b4 i (by omega) hn];exact q.old i hl
  ·rw[x3] at hx
   rcases List.mem_append.1 hx with hx|hx
   ·have:=hs.trail x hx;omega
   ·have:=(b3 x hx).1;omega
 have hback:∀(K:List HC) (B:List Nat),gH K1 [] K B→∀S':MS,S'.H=K→S'.T=S.T++B→S'.G=S.G→(aK S' (aZ S n)).H=S.H∧(aK S' (aZ S n)).T=S.T∧(aK S' (aZ S n)).G=S.G:=fun K B hk S' x1 x2 x3 =>
  (hext K B hk S' (by rw[x1];exact nR _) (fun i _=>by rw[x1]) x2 ⟨[],by rw[x3,List.append_nil]⟩).1.back n
 cases e1:dE K1 [] S.f [(a,aF S n)] with
 | no K B f =>
  cases e2:meet P.σ P.L S.f [(far (P.vars:Int) c.head,t)] with
  | no σ L f' =>
   rw[e1,e2] at hm;rw[e1] at hb;rw[e2] at hgr;obtain⟨rfl,-,-⟩:=hm;obtain⟨k1,k2,k3⟩:=hback K B hb {S with H:=K,T:=S.T++B,f:=f} rfl rfl rfl;obtain⟨⟨N,hN,_⟩,hle2⟩:=hgr;rw[hN,List.length_append] at hle2;rw[aK7 h.fin.1 hz e1,aK9 (hwk ▸ e2)];exact⟨⟨⟨D,Sc,(hs.mono (by simp only;omega)).congr k1 k2 k3 rfl⟩,(h.ch.mono (by simp only;omega)).congr k1 k2 k3 rfl,h.first,⟨rfl,by have:=h.work.2;simp only[aK];omega⟩,h.ne,h.t,h.fin,h.same⟩,k1,k2,k3,rfl,rfl,rfl,rfl⟩
  | ok σ L f'=>rw[e1,e2] at hm;exact hm.elim
  | many σ L=>rw[e1,e2] at hm;exact hm.elim
 | many K B =>
  cases e2:meet P.σ P.L S.f [(far (P.vars:Int) c.head,t)] with
  | no σ L f'=>rw[e1,e2] at hm;exact hm.elim
  | ok σ L f'=>rw[e1,e2] at hm;exact hm.elim
  | many σ L =>
   rw[e1] at hb;obtain⟨k1,k2,k3⟩:=hback K B hb {S with H:=K,T:=S.T++B,f:=0,fin:=3} rfl rfl rfl;rw[zM hz e1,zN (hwk ▸ e2)];exact⟨rfl,rfl,⟨rfl,h.same.1,h.same.2,(fun e=>by simp[aK] at e),⟨{P with now:=gs},⟨D,Sc,by
    have:=hs.congr k1 k2 k3 (S':=aK {S with H:=K,T:=S.T++B,f:=0,fin:=3} (aZ S n)) rfl;rw[←h.first] at this;exact this⟩,h.ch.congr k1 k2 k3 rfl⟩⟩,⟨by rw[k1];omega,by rw[k3];omega,rfl,by rw[k2];omega⟩⟩
 | ok K B f =>
  cases e2:meet P.σ P.L S.f [(far (P.vars:Int) c.head,t)] with
  | no σ L f'=>rw[e1,e2] at hm;exact hm.elim
  | many σ L=>rw[e1,e2] at hm;exact hm.elim
  | ok σ L f' =>
   rw[e1,e2] at hm;rw[e1] at hb hrm;rw[e2] at hky;have hrb:B.length≤4000:=hrm;obtain⟨rfl,hH,hl,hk⟩:=hm;have hV2:aL4 σ P.vars V1 D1 S1:=⟨q.rel.old,fun v h1 e=>by
    obtain⟨x1,x2⟩:=q.rel.new v h1 e;refine⟨x1,?_⟩;by_cases hz:σ (v+P.vars)=none
    ·exact hz
    ·exact absurd (hky _ x2 hz) x1⟩
   have hK:K.length≤S.H.length+119:=by omega
   obtain⟨D2,S2,q2⟩:=vE (Int.natCast_nonneg P.vars) c.body K V1 D1 S1 hH hV2 q.inj.1 hd1 hC.body (by omega);have hq2:=q2.len.2;have hkeep:∀d u,St S.H D Sc d u→St (aS K V1 c.body).1.1 D2 S2 d u:=fun d u x=>q2.keep d u (hk d u (q.keep d u x))
   have hGo:∀i (hi:i<S.G.length),S.G[i].at'<(aS K V1 c.body).1.1.length∧S.G[i].next≤i:=fun i hi=>by
    obtain⟨x1,x2⟩:=hs.goals i hi;have:=q.len;have:=q2.len.1;exact⟨by omega,x2⟩
   obtain⟨p1,p2,⟨g2,p3,p4⟩,p5⟩:=aG7 (H:=(aS K V1 c.body).1.1) (D:=D2) (Sc:=S2) S.ch.length (hgo.keep0 hkeep) (by omega) hGo _ _ q2.st;have hat:(aS K V1 c.body).2.length=c.body.length:=by
    have hz:∀(l:List Tm) (K:List HC) (V:CV),(aS K V l).2.length=l.length:=by
     intro l
     induction l with
     | nil=>intro K V;rfl
     | cons t l ih=>intro K V;simp only[aS,List.length_cons];rw[ih]
    exact hz _ _ _
   have hx:=hext K B hb {S with H:=(aS K V1 c.body).1.1,T:=S.T++B,G:=(eR S.ch.length (aS K V1 c.body).2.reverse (S.G,(gn S (n-1)).next)).1} q2.len.1 (fun i hi=>q2.old i hi) rfl ⟨g2,p3⟩;obtain⟨k1,k2,k3⟩:=hx.1.back n;have hfresh:∀v:Int,((P.vars+12:Nat):Int)<v→¬D2 v∧σ v=none:=fun v hv=>by
    have hn:(aS K V1 c.body).1.2 (v-P.vars)=none:=by
     cases hz:(aS K V1 c.body).1.2 (v-P.vars) with
     | none=>rfl
     | some k=>have:=q2.dom _ _ hz;omega
    have:=q2.rel.new (v-P.vars) (by omega) hn
    rwa [show v-(P.vars:Int)+P.vars=v by omega] at this
   have hGl:(eR S.ch.length (aS K V1 c.body).2.reverse (S.G,(gn S (n-1)).next)).1.length≤S.G.length+6:=by rw[p3,List.length_append];omega
   have hch:=h.ch.mono (show P.vars≤P.vars+12 by omega);rw[aK6 hz e1,aK8 (hwk ▸ e2),hnext];simp only[lB];rw[if_neg (show ¬(400000<(aS K V1 c.body).1.1.length∨5000<(eR S.ch.length (aS K V1 c.body).2.reverse (S.G,(gn S (n-1)).next)).1.length) by omega)];have hlen:S.ch.length=P.ch.length:=by have:=h.ch.len;simpa using this
   have hbody:qU P.vars P.ch.length c.body++gs.tail=((c.body.map (far (P.vars:Int))).map fun t=>(t,S.ch.length))++r:=by
    rw[hgs,hlen];unfold qU;rw[List.map_map];rfl
   generalize (aS K V1 c.body).1.1=K2 at *;generalize eR S.ch.length (aS K V1 c.body).2.reverse (S.G,(gn S (n-1)).next)=G2 at *;have hcore:∀S':MS,S'.H=K2→S'.T=S.T++B→S'.G=G2.1→S'.Q=S.Q→S'.first=G2.2→S'.ch=(if bE p t (i+1)<p.length then S.ch++[{aZ S n with clause:=bE p t (i+1)}] else S.ch) →
    gW p S' {P with σ:=σ,L:=L,f:=f,vars:=P.vars+12,ch:=if bE p t (i+1)<p.length then P.ch++[⟨gs,bE p t (i+1),P.σ,P.L⟩] else P.ch,now:=qU P.vars P.ch.length c.body++gs.tail}:=fun S' s1 s2 s3 s4 s5 s6=>by
    have hx':Ext S S':=⟨by rw[s1];exact hx.1.len,by rw[s1,s2];exact hx.1.trail,by rw[s3];exact hx.1.goals⟩
    refine⟨⟨D2,S2,?_,?_,?_,hfresh,?_,?_⟩,?_⟩
    ·rw[s1];exact q2.hang
    ·rw[s1,s3,s5,hbody];exact p1
    ·intro i hi
     have hi':i<S.Q.length:=by rw[←s4];exact hi
     have e:S'.Q[i]=S.Q[i]:=by simp only[s4]
     rw[s1,e];exact hkeep _ _ (hs.query i hi')
    ·intro i hi
     have hi':i<G2.1.length:=by rw[←s3];exact hi
     have e:S'.G[i]=G2.1[i]:=by simp only[s3]
     rw[s1,e];exact p5 i hi'
    ·intro x hx2
     rw[s2] at hx2;rw[s1];exact hx.2 x hx2
    ·rw[s6]
     by_cases hnx:bE p t (i+1)<p.length
     ·rw[if_pos hnx]
      simp only[if_pos hnx,List.reverse_append,List.reverse_cons,List.reverse_nil,List.nil_append,List.singleton_append];have hw:jP S' {aZ S n with clause:=bE p t (i+1)}:=hx'.within ⟨nR _,nR _,nR _⟩;obtain⟨u1,u2,u3⟩:=hx'.back n;exact⟨⟨hw,⟨rfl,hnx⟩,⟨h.ne,by rw[←h.t.1];exact h.t.2⟩,⟨D,Sc,(hs.mono (Nat.le_add_right _ 12)).congr u1 u2 u3 s4⟩⟩,hch.congr u1 u2 u3 s4⟩
     ·rw[if_neg hnx]
      simp only[if_neg hnx];exact hch.ext hx' s4
   have hC2:=hcore {S with H:=K2,G:=G2.1,first:=G2.2,ch:=if bE p t (i+1)<p.length then S.ch++[{aZ S n with clause:=bE p t (i+1)}] else S.ch,T:=S.T++B,f:=f} rfl rfl rfl rfl rfl rfl;exact⟨rfl,rfl,⟨h.fin.1.trans h.fin.2.symm,h.same.1,h.same.2,fun _=>hC2,⟨_,hC2⟩⟩,⟨by simp only;omega,hGl,rfl,by simp only[List.length_append];omega⟩⟩
def Gn.gl(g:Gn):Gl:=⟨g.at',g.cut,g.next⟩
def Cn.chi(c:Cn):Chi:=⟨c.goal,c.clause,c.heap,c.trail,c.goals⟩
def MS.mac(S:MS):Mac:=⟨S.H,S.G.map Gn.gl,S.first,S.ch.map Cn.chi,S.T.map fun x:Nat=>(x:Int),S.Q.map fun x:Nat=>(x:Int),S.steps,S.fin,S.ans⟩
def bB(w:World)(d d':MAd):Prop:=∀b,some b∈rws d'→some b∈rws d∨w.heap.size≤b
theorem bB.refl(w:World)(d:MAd):bB w d d:=fun _ h=>.inl h
theorem bB.trans{w w1:World}{d d1 d2:MAd}(h:bB w d d1)(k:bB w1 d1 d2)(hs:w.heap.size≤w1.heap.size):bB w d d2:=fun b hb =>
 (k b hb).elim (fun e=>h b e) fun e=>.inr (Nat.le_trans hs e)
theorem fF{w w1 w2:World}{R:Nat}{d d1:MAd}(h:aA (RM R d) w w1)(hf:bB w d d1)(k:aA (RM R d1) w1 w2):aA (RM R d) w w2:=by
 refine⟨k.os.trans h.os,k.tape.trans h.tape,k.output.trans h.output,Nat.le_trans h.size k.size,fun b hb hn=>(k.block b (nT hb h.size) ?_).trans (h.block b hb hn)⟩;rintro (e|e)
 ·exact hn (.inl e)
 ·rcases hf b e with e|e
  ·exact hn (.inr e)
  ·omega
theorem bJ6{w:World}{Z:Nat→Prop}{R:Nat}{p:List Cl}{pa:Option Addr}{pc:Nat}{m:Mac}{d:MAd}{wk:Nat}(h:aX w Z R p pa pc m d wk)(n cl:Int) :
 Calls Try.prog 88 #[.pointer (some ⟨R,0,none⟩),.int .i64 n,.int .i64 cl] w fun e w'=>e=.returned (.agg #[.int .i64 n,.int .i64 cl,.int .i64 m.H.length,.int .i64 m.T.length,.int .i64 m.G.length])∧Below w.heap.size w w':=by
 obtain⟨c0,c1,c2,c3,c4,c5,c6,c7,c8,c9,c10,cf⟩:=h.cells;have zR:=h.lt;have B0:Below w.heap.size w (w.alloc (.cells #[.int .i64 0,.int .i64 0,.int .i64 0,.int .i64 0,.int .i64 0] 67)):=(bR _ _).alloc (nR _) _;have HB0:=lh B0;clear h B0;go_enter Try.func88,Try.ntmps88;go_wp2_with fail
 go_region
 go_wp2_with fail;exact bodyPost_ret (v:=.agg #[.int .i64 n,.int .i64 cl,.int .i64 m.H.length,.int .i64 m.T.length,.int .i64 m.G.length]) (by simp[results,Try.results88,go_sem]) rfl ⟨rfl,(((bR _ _).alloc (nR _) _).drew)⟩
theorem aS8{w:World}{Z:Nat→Prop}{R:Nat}{p:List Cl}{pa:Option Addr}{pc:Nat}{m:Mac}{d:MAd}{wk:Nat}(h:aX w Z R p pa pc m d wk)(hI:dZ m.H){n a:Nat}(hn:1≤n∧n≤m.G.length)(ha:(m.G.getD (n-1) ⟨0,0,0⟩).at'=(a:Int))(hal:a<m.H.length) :
 Calls Try.prog 113 #[.pointer (some ⟨R,0,none⟩),.int .i64 n] w fun e w'=>e=.returned (.bool (decide ((hc m.H (aG m.H a)).k=2)))∧Below w.heap.size w w':=by
 obtain⟨c0,c1,c2,c3,c4,c5,c6,c7,c8,c9,c10,cf⟩:=h.cells;have zR:=h.lt;obtain⟨k,hk⟩:=fI (hI.straight a hal);obtain⟨hel,-⟩:=hI.end hal;obtain⟨q,rfl⟩:∃q,n=q+1:=⟨n-1,by omega⟩
 rw[Nat.add_sub_cancel] at ha;have hq:q<m.G.length:=by omega
 have ha':m.G[q].at'=(a:Int):=by rw[List.getD_eq_getElem?_getD,List.getElem?_eq_getElem hq] at ha;exact ha
 obtain⟨dh,dg,dc,dt,dq,da,dhn,dgn,dcn,dtn,dqn,dan⟩:=d;obtain⟨ah,ch,e,hp⟩:=dV.of_row (ok:=fun _=>True) h.rows.h.row (fun _ _=>trivial) h.rows.h.fits;injection e with e1 _ e2;have e1':dh=ah:=e1;have e2':dhn=ch:=e2;subst e1';subst e2';obtain⟨ag,cg,e,hg⟩:=cZ.of_row (ok:=fun _=>True) h.rows.g (dN _) (fun _ _=>trivial);injection e with e1 _ e2;have e1':dg=ag:=e1;have e2':dgn=cg:=e2;subst e1';subst e2';have HE:Hid (∀j,Calls Try.prog 85 #[.slice dh m.H.length dhn,.int .i64 a] (w.drewN j) fun e w'=>e=.returned (.int .i64 (aG m.H a))∧w'=w.drewN j):=lh fun j=>(aK1 (hp.below (bP w j)) hI.cells hk hal).mono fun _ _ h=>⟨h.1,h.2.symm⟩
 obtain⟨b,off,hbg,-,zb,hcs⟩:=hg.some (by decide) (by omega);subst hbg;obtain⟨g0,-,-⟩:=fU m.G q hq;have m0:=hcs _ _ g0;rw[ha'] at m0;obtain⟨b2,off2,hbh,-,zb2,d0,d1,d2,-⟩:=hp.at' _ hel;subst hbh;have hg9:m.G.length≤9223372036854775807:=by have:=hg.cap;unfold maxLen at this;omega
 have hl4:=hI.len;clear h hI hk hp hg hcs g0 ha ha';simp only at c1 c2;go_enter Try.func113,Try.ntmps113;go_wp2_with fail
 go_quiet (first|(go_at_call 85;exact Calls.quiet_of_same (HE.out _)))
 rename_i nq;have hB:=bP w nq;generalize w.drewN nq=w2 at *;go_wp2_with fail;go_ret;exact⟨eY (by rw[Bool.eq_iff_iff];simp),hB⟩
def rA(A:List ((Option Addr×Nat)×List Tm))(a:Option Addr)(c:Nat):bC:=⟨78,1,a,A.length,c,iC A⟩
def eN(m:Mac)(d:MAd)(A:List ((Option Addr×Nat)×List Tm)):List bC:=[rH m.H d.h d.hn,rG m.G d.g d.gn,rK m.ch d.c d.cn,rI m.T d.t d.tn,rI m.Q d.q d.qn,rA A d.a d.an]
theorem bJ1{w:World}{base g:Nat}{l:List HC}{c:Nat}(h:(rH l (some ⟨g,0,none⟩) c).In w base){j:Nat}(hj:j<l.length):w.cell? ⟨g,j*3,none⟩=some (.int .i64 l[j].k)∧w.cell? ⟨g,j*3+1,none⟩=some (.int .i64 l[j].n)∧w.cell? ⟨g,j*3+2,none⟩=some (.string l[j].name):=by
 have key:∀(l:List HC) (j:Nat) (hj:j<l.length),(bS l)[j*3]? = some (.int .i64 l[j].k)∧(bS l)[j*3+1]? = some (.int .i64 l[j].n)∧(bS l)[j*3+2]? = some (.string l[j].name):=by
  intro l
  induction l with
  | nil=>intro j hj;cases hj
  | cons x l ih =>
   intro j hj;cases j with
   | zero=>exact⟨rfl,rfl,rfl⟩
   | succ j =>
    have:=ih j (by simpa using hj);rw[show (j+1)*3=j*3+1+1+1 by omega];exact this
 obtain⟨h0,h1,h2⟩:=key l j hj;exact⟨h.cell rfl h0,h.cell rfl h1,h.cell rfl h2⟩
theorem OwM.mac{w:World}{base:Nat}{okA:Nat→Prop}{m:Mac}{d:MAd}(h:OwM w base okA m d):bO w (fun _=>True) m d:=by
 obtain⟨dh,dg,dc,dt,dq,da,dhn,dgn,dcn,dtn,dqn,dan⟩:=d;obtain⟨A,e1,e2,e3⟩:=h.a;refine⟨?_,?_,?_,?_,?_,?_⟩
 ·obtain⟨a,c,e,hr⟩:=dV.of_row (ok:=fun _=>True) h.h.row (fun b hb=>trivial) h.h.fits
  injection e with q1 _ q2;have q1':a=dh:=q1.symm;have q2':c=dhn:=q2.symm;subst q1';subst q2';exact hr
 ·obtain⟨a,c,e,hr⟩:=cZ.of_row (ok:=fun _=>True) h.g (dN _) (fun b hb=>trivial)
  injection e with q1 _ q2;have q1':a=dg:=q1.symm;have q2':c=dgn:=q2.symm;subst q1';subst q2';exact hr
 ·obtain⟨a,c,e,hr⟩:=cZ.of_row (ok:=fun _=>True) h.c (eQ _) (fun b hb=>trivial)
  injection e with q1 _ q2;have q1':a=dc:=q1.symm;have q2':c=dcn:=q2.symm;subst q1';subst q2';exact hr
 ·obtain⟨a,c,e,hr⟩:=dC.of_row (ok:=fun _=>True) h.t (fun b hb=>trivial)
  injection e with q1 _ q2;have q1':a=dt:=q1.symm;have q2':c=dtn:=q2.symm;subst q1';subst q2';exact hr
 ·obtain⟨a,c,e,hr⟩:=dC.of_row (ok:=fun _=>True) h.q (fun b hb=>trivial)
  injection e with q1 _ q2;have q1':a=dq:=q1.symm;have q2':c=dqn:=q2.symm;subst q1';subst q2';exact hr
 ·obtain⟨a,c,e,hr⟩:=lF.of_row (ok:=fun _=>True) e2 (fun b hb=>trivial) (fun x hx=>(e3 x hx).mono fun b _ hb=>trivial)
  have hl:A.length=m.ans.length:=by rw[←e1,List.length_map]
  injection e with q1 _ q2;have q1':a=da:=q1.symm;have q2':c=dan:=q2.symm;subst q1';subst q2';rw[e1] at hr;exact hr
theorem OwM.bag{w:World}{base:Nat}{okA:Nat→Prop}{m:Mac}{d:MAd}(h:OwM w base okA m d){A:List ((Option Addr×Nat)×List Tm)}(e1:A.map (·.2)=m.ans)(e2:w.ownsRow base 78 1 (.slice d.a m.ans.length d.an) A.length (iC A)):Bag w (eN m d A):=by
 have hl:m.ans.length=A.length:=by rw[←e1,List.length_map]
 rw[hl] at e2;refine⟨fun i r hr=>?_,fun i j r s hij hr hs b hb=>?_⟩
 ·have:=List.mem_of_getElem? hr
  simp only[eN,List.mem_cons,List.not_mem_nil,or_false] at this;rcases this with rfl|rfl|rfl|rfl|rfl|rfl
  ·exact aI h.h.row (Nat.zero_le _)
  ·exact aI h.g (Nat.zero_le _)
  ·exact aI h.c (Nat.zero_le _)
  ·exact aI h.t (Nat.zero_le _)
  ·exact aI h.q (Nat.zero_le _)
  ·exact aI e2 (Nat.zero_le _)
 ·have hn:=aU9.1 h.ne
  have hm:[bk d.h,bk d.g,bk d.c,bk d.t,bk d.q,bk d.a]=(eN m d A).map (fun r=>bk r.a):=rfl;rw[hm] at hn;exact hn i j _ _ hij (by rw[List.getElem?_map,hr];rfl) (by rw[List.getElem?_map,hs];rfl) b hb
theorem aC0{m:Mac}{d:MAd}{A:List ((Option Addr×Nat)×List Tm)}{i:Nat}{r:bC}(hr:(eN m d A)[i]? = some r):bk r.a∈rws d:=by
 have:=List.mem_of_getElem? hr;simp only[eN,List.mem_cons,List.not_mem_nil,or_false] at this;rcases this with rfl|rfl|rfl|rfl|rfl|rfl <;> simp[rws,rH,rG,rK,rI,rA]
theorem RwS.start{w:World}{B:Nat}{vs:Array Value}{ty:TypeId}{base:Nat}{okA:Nat→Prop}{m:Mac}{d:MAd}(hb:w.heap[B]? = some (.cells vs ty (0,0)))(h:OwM w base okA m d)(hne:∀y,y∈rws d→y≠some B){A:List ((Option Addr×Nat)×List Tm)}(e1:A.map (·.2)=m.ans)(e2:w.ownsRow base 78 1 (.slice d.a m.ans.length d.an) A.length (iC A)):RwS w B vs ty d w (eN m d A) :=
 ⟨hb,h.bag e1 e2,fun i r hr=>hne _ (aC0 hr),fun i r hr b hb=>.inl (by rw[←hb];exact aC0 hr),aA.refl _ _⟩
def aN4(w:World)(B o:Nat)(vs:Array Value)(ty:TypeId)(m:Mac)(d:MAd)(okA:Nat→Prop)(K:Mac)(e:Ending)(w':World):Prop :=
 ∃ha hn ta tn,e=.returned (.int .i64 ((m.H.length:Int)-K.H.length))∧w'.heap[B]? = some (.cells ((vs.setIfInBounds o (.slice ha K.H.length hn)).setIfInBounds (o+4) (.slice ta K.T.length tn)) ty (0,0))∧OwM w' 0 okA K {d with h:=ha,hn:=hn,t:=ta,tn:=tn}∧aA (fun b=>b=B∨some b∈rws d) w w'∧(∀b,bk ha=some b→w.heap.size≤b)∧∀b,bk ta=some b→w.heap.size≤b
theorem bE5{w w':World}{B:Nat}{vs vs':Array Value}{ty:TypeId}{o:Nat}{m:Mac}{d:MAd}{okA:Nat→Prop}(hoB:∀b,okA b→b≠B){A:List ((Option Addr×Nat)×List Tm)}(e1:A.map (·.2)=m.ans)(e3:∀x,x∈A→Ts w (fun b=>okA b∧∀y,y∈[bk d.h,bk d.g,bk d.c,bk d.t,bk d.q,bk d.a]→y≠some b) x.2 x.1.1 x.1.2)
 {K:Mac} (hKa:K.ans=m.ans) {m1:Mac} {ha ta:Option Addr} {hn tn:Nat} {x1 x2 x3:bC} (hs:RwS w B vs' ty d w' (eN m1 d A++[x1,x2,rH K.H ha hn,x3,rI K.T ta tn])) (g1:m1.G=K.G) (g2:m1.ch=K.ch) (g3:m1.Q=K.Q)
 (hvs:vs'=(vs.setIfInBounds o (.slice ha K.H.length hn)).setIfInBounds (o+4) (.slice ta K.T.length tn)) (hf:∀i,i<K.H.length→(hc K.H i).fits) (hfh:∀b,bk ha=some b→w.heap.size≤b) (hft:∀b,bk ta=some b→w.heap.size≤b) {e:Ending} (he:e=.returned (.int .i64 ((m.H.length:Int)-K.H.length))):aN4 w B o vs ty m d okA K e w':=by
 have hl:m.ans.length=A.length:=by rw[←e1,List.length_map]
 have r1:=hs.row 1 rfl;have r2:=hs.row 2 rfl;have r4:=hs.row 4 rfl;have r5:=hs.row 5 rfl;have r8:=hs.row 8 rfl;have r10:=hs.row 10 rfl;have ht:aA (fun b=>b=B∨some b∈rws d) w w':=hs.touch.mono fun b hb e=>by
  rcases e with e|e|e
  ·exact .inl e
  ·exact .inr e
  ·omega
 unfold bC.In at r1 r2 r4 r5 r8 r10;simp only[rG,rK,rI,rA,rH] at r1 r2 r4 r5 r8 r10;rw[g1] at r1;rw[g2] at r2;rw[g3] at r4;have nw:∀(i:Nat) (r:bC),(eN m1 d A++[x1,x2,rH K.H ha hn,x3,rI K.T ta tn])[i]? = some r→i≠8→i≠10→∀b,bk r.a=some b→bk ha≠some b∧bk ta≠some b:=fun i r hr h8 h10 b hb =>
  ⟨fun e=>hs.bag.ne i 8 r _ h8 hr rfl b hb e,fun e=>hs.bag.ne i 10 r _ h10 hr rfl b hb e⟩
 refine⟨ha,hn,ta,tn,he,by rw[←hvs];exact hs.box,⟨⟨r8,hf⟩,r1,r2,r10,r4,⟨A,by rw[hKa];exact e1,by rw[hKa,hl];exact r5,fun x hx=>?_⟩,?_⟩,ht,hfh,hft⟩
 ·have h1:=(e3 x hx).mono (ok':=fun b=>(okA b∧∀y,y∈[bk d.h,bk d.g,bk d.c,bk d.t,bk d.q,bk d.a]→y≠some b)∧b<w.heap.size) fun b hb h=>⟨h,hb⟩
  refine(h1.keep (ht.keeps fun b hb e=>?_)).mono fun b _ hb=>⟨hb.1.1,fun y hy e=>?_⟩
  ·rcases e with e|e
   ·exact hoB b hb.1.1 e
   ·exact hb.1.2 _ e rfl
  ·subst e
   simp only[List.mem_cons,List.not_mem_nil,or_false] at hy;rcases hy with e|e|e|e|e|e
   ·have:=hfh b e.symm;omega
   ·exact hb.1.2 (bk d.g) (by simp) e.symm
   ·exact hb.1.2 (bk d.c) (by simp) e.symm
   ·have:=hft b e.symm;omega
   ·exact hb.1.2 (bk d.q) (by simp) e.symm
   ·exact hb.1.2 (bk d.a) (by simp) e.symm
 ·refine aU9.2 fun i j x y hij hx hy b hb=>?_
  have hix:=(List.getElem?_eq_some_iff.1 hx).1;have hjx:=(List.getElem?_eq_some_iff.1 hy).1;simp only[List.length_cons,List.length_nil] at hix hjx;have key:∀i,i<6→∀x,[bk ha,bk d.g,bk d.c,bk ta,bk d.q,bk d.a][i]? = some x→∃k r,(eN m1 d A++[x1,x2,rH K.H ha hn,x3,rI K.T ta tn])[k]? = some r∧bk r.a=x∧k=(if i=0 then 8 else if i=3 then 10 else i):=by
   intro i hi x hx
   match i,hi with
   | 0,_=>exact⟨8,_,rfl,Option.some.inj hx,rfl⟩
   | 1,_=>exact⟨1,_,rfl,Option.some.inj hx,rfl⟩
   | 2,_=>exact⟨2,_,rfl,Option.some.inj hx,rfl⟩
   | 3,_=>exact⟨10,_,rfl,Option.some.inj hx,rfl⟩
   | 4,_=>exact⟨4,_,rfl,Option.some.inj hx,rfl⟩
   | 5,_=>exact⟨5,_,rfl,Option.some.inj hx,rfl⟩
  obtain⟨k1,s1,a1,a2,a3⟩:=key i (by omega) x hx;obtain⟨k2,s2,b1,b2,b3⟩:=key j (by omega) y hy;subst a2;subst b2;refine hs.bag.ne k1 k2 s1 s2 ?_ a1 b1 b hb;rw[a3,b3];split <;> split <;> (try split) <;> (try split) <;> omega
end Go.Proofs.Ytikmgiapjigghab
namespace Go.Proofs.Ytikmgiapjigghab
open Go.RowKit Go.Shelf
def marks(l:List Nat):List Deferred:=l.map fun D=>{target:=.collected D,args:=#[]}
structure MkS(l:List Nat)(w w':World):Prop where
 os:w'.os=w.os
 tape:w'.tape=w.tape
 output:w'.output=w.output
 size:w'.heap.size=w.heap.size
 block:∀b,b ∉ l→w'.heap[b]? = w.heap[b]?
theorem MkS.refl(l:List Nat)(w:World):MkS l w w:=⟨rfl,rfl,rfl,rfl,fun _ _=>rfl⟩
theorem MkS.touch{l:List Nat}{w w':World}(h:MkS l w w'):aA (fun b=>b∈l) w w':=⟨h.os,h.tape,h.output,Nat.le_of_eq h.size.symm,fun b _ hn=>h.block b hn⟩
theorem pS{F:Fence}{n:Nat}{P:Program}{fn:Func}{tmps:Array Value}{R:Ending→World→Prop}:∀(l:List Nat) (w:World),l.Nodup→(∀D,D∈l→w.heap[D]? = some (.deferred (some []))) →
 (∀w',MkS l w w'→∃v,(results fn tmps).run P w'=.ok v w'∧R (.returned v) w')→LeavesInM F n P fn tmps R (marks l) .returning w
 | [],w,_,_,h=>h w (MkS.refl _ _)
 | D::l,w,hn,hd,h=>by
  obtain⟨h1,h2⟩:=List.nodup_cons.1 hn;refine⟨by simp,.inl ⟨D,_,rfl,run_takeDeferred (hd D List.mem_cons_self),?_⟩⟩;refine pS l _ h2 (fun D' hD'=>?_) fun w' hw'=>h w' ⟨hw'.os,hw'.tape,hw'.output,by rw[hw'.size];simp,fun b hb=>?_⟩
  ·rw[World.putObj_heap_other (k:=D') (r:=D) fun e=>h1 (by rw[←e];exact hD')]
   exact hd D' (List.mem_cons_of_mem _ hD')
  ·rw[hw'.block b fun e=>hb (List.mem_cons_of_mem _ e)]
   exact World.putObj_heap_other fun e=>hb (by rw[e];exact List.mem_cons_self)
end Go.Proofs.Ytikmgiapjigghab
