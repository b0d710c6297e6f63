/- The runner in memory, and what turns of it. (Written by mk_mrat.py.) -/
import Derived.Test.YtikmgiapjigghabCb25
import Derived.Test.YtikmgiapjigghabCb26
import Derived.Test.YtikmgiapjigghabCb27
import Derived.Test.YtikmgiapjigghabCb28
namespace Go.Proofs.Ytikmgiapjigghab
open Go.RowKit
def rws(d:MAd):List (Option Nat):=[bk d.h,bk d.g,bk d.c,bk d.t,bk d.q,bk d.a]
def RM(R:Nat)(d:MAd)(b:Nat):Prop:=b=R∨some b∈rws d
def rvals(pa:Option Addr)(np pc:Nat)(m:Mac)(d:MAd)(wk:Nat):List Value :=
 [.slice pa np pc,.slice d.h m.H.length d.hn,.slice d.g m.G.length d.gn,.int .i64 m.first,.slice d.c m.ch.length d.cn,.slice d.t m.T.length d.tn,.slice d.q m.Q.length d.qn,.int .i64 m.steps,.int .i64 m.fin,.slice d.a m.ans.length d.an,.int .i64 wk]
structure RnAt(w:World)(Z:Nat→Prop)(R:Nat)(p:List Cl)(pa:Option Addr)(pc:Nat)(m:Mac)(d:MAd)(wk:Nat):Prop where
 blk:w.heap[R]? = some (.cells (rvals pa p.length pc m d wk).toArray 59 (0,0))
 rows:OwM w 0 (fun b=>b≠R∧¬ Z b) m d
 ne:∀ y,y∈rws d→y≠some R
 prog:Pr w (fun b=>¬ RM R d b∧¬ Z b) p pa pc
 zr:∀ b,RM R d b→¬ Z b
theorem OwM.lt{w:World}{base:Nat}{okA:Nat→Prop}{m:Mac}{d:MAd}(h:OwM w base okA m d):∀ b,some b∈rws d→b<w.heap.size:=by
 intro b hb
 simp only[rws,List.mem_cons,List.not_mem_nil,or_false] at hb
 obtain⟨A,e1,e2,e3⟩:=h.a
 rcases hb with e | e | e | e | e | e
 ·exact(h.h.row.lt b ((bk_own _ _ _).trans e.symm)).2
 ·exact(h.g.lt b ((bk_own _ _ _).trans e.symm)).2
 ·exact(h.c.lt b ((bk_own _ _ _).trans e.symm)).2
 ·exact(h.t.lt b ((bk_own _ _ _).trans e.symm)).2
 ·exact(h.q.lt b ((bk_own _ _ _).trans e.symm)).2
 ·exact(e2.lt b ((bk_own _ _ _).trans e.symm)).2
theorem OwM.keep{w w':World}{base:Nat}{okA okA':Nat→Prop}{m:Mac}{d:MAd}(h:OwM w base okA m d)(hs:w.heap.size≤w'.heap.size)(hk:∀ b,b<w.heap.size→(some b∈rws d∨okA b)→w'.heap[b]? = w.heap[b]?)(hok:∀ b,b<w.heap.size→okA b→okA' b):OwM w' base okA' m d:=by
 have key:∀ {e:TypeId} {k n n' c:Nat} {a:Option Addr} {vs:List Value},w.ownsRow base e k (.slice a n c) n' vs→bk a∈rws d→w'.ownsRow base e k (.slice a n c) n' vs:=fun h' hm =>
  ownsRow_block h' fun g hg=>hk g (h'.lt g hg).2 (.inl (by rw[← (bk_own _ _ _).symm.trans hg];exact hm))
 obtain⟨A,e1,e2,e3⟩:=h.a
 refine⟨⟨key h.h.row (by simp[rws]),h.h.fits⟩,key h.g (by simp[rws]),key h.c (by simp[rws]),key h.t (by simp[rws]),key h.q (by simp[rws]),⟨A,e1,key e2 (by simp[rws]),fun x hx=>?_⟩,h.ne⟩
 exact((e3 x hx).mono (ok':=fun b=>(okA b∧∀ y,y∈[bk d.h,bk d.g,bk d.c,bk d.t,bk d.q,bk d.a]→y≠some b)∧b<w.heap.size) fun b hb h=>⟨h,hb⟩).keep ⟨hs,fun b hb hl=>hk b hl (.inr hb.1.1)⟩ |>.mono fun b _ hb=>⟨hok b hb.2 hb.1.1,hb.1.2⟩
section
variable {w w':World} {Z:Nat→Prop} {R:Nat} {p:List Cl} {pa:Option Addr} {pc:Nat} {m:Mac} {d:MAd} {wk:Nat}
theorem RnAt.lt(h:RnAt w Z R p pa pc m d wk):R<w.heap.size:=(Array.getElem?_eq_some_iff.1 h.blk).1
theorem RnAt.rmlt(h:RnAt w Z R p pa pc m d wk):∀ b,RM R d b→b<w.heap.size:=fun b hb=>hb.elim (fun e=>by rw[e];exact h.lt) (h.rows.lt b)
theorem RnAt.cells(h:RnAt w Z R p pa pc m d wk) :
 w.cell? ⟨R,0,none⟩=some (.slice pa p.length pc)∧w.cell? ⟨R,1,none⟩=some (.slice d.h m.H.length d.hn)∧w.cell? ⟨R,2,none⟩=some (.slice d.g m.G.length d.gn)∧w.cell? ⟨R,3,none⟩=some (.int .i64 m.first)∧w.cell? ⟨R,4,none⟩=some (.slice d.c m.ch.length d.cn) ∧
 w.cell? ⟨R,5,none⟩=some (.slice d.t m.T.length d.tn)∧w.cell? ⟨R,6,none⟩=some (.slice d.q m.Q.length d.qn)∧w.cell? ⟨R,7,none⟩=some (.int .i64 m.steps)∧w.cell? ⟨R,8,none⟩=some (.int .i64 m.fin)∧w.cell? ⟨R,9,none⟩=some (.slice d.a m.ans.length d.an)∧w.cell? ⟨R,10,none⟩=some (.int .i64 wk)∧∀ o,w.frozen? ⟨R,o,none⟩=false:=by
 have h':=h.blk
 refine⟨?_,?_,?_,?_,?_,?_,?_,?_,?_,?_,?_,fun o=>by simp[World.frozen?,h']⟩
 all_goals simp[World.cell?,h',rvals]
theorem RnAt.turn(h:RnAt w Z R p pa pc m d wk){m':Mac}{d':MAd}{wk':Nat}(hb:w'.heap[R]? = some (.cells (rvals pa p.length pc m' d' wk').toArray 59 (0,0)))(hr:OwM w' 0 (fun b=>b≠R∧¬ Z b) m' d')(ht:Touch (fun b=>RM R d b∨Z b) w w')
 (hf:∀ b,some b∈rws d'→some b∈rws d∨w.heap.size≤b) (hz:∀ b,some b∈rws d'→¬ Z b):RnAt w' Z R p pa pc m' d' wk':=by
 refine⟨hb,hr,fun y hy e=>?_,?_,fun b hb=>hb.elim (fun e=>h.zr b (.inl e)) (hz b)⟩
 ·subst e
  rcases hf R hy with e | e
  ·exact h.ne _ e rfl
  ·have:=h.lt;omega
 ·have h1:Pr w (fun b=>(¬ RM R d b∧¬ Z b)∧b<w.heap.size) p pa pc:=h.prog.mono fun b hb hn=>⟨hn,hb⟩
  refine(h1.keep (ht.keeps fun b hb e=>e.elim hb.1.1 hb.1.2)).mono fun b _ hb=>⟨fun e=>?_,hb.1.2⟩
  rcases e with e | e
  ·exact hb.1.1 (.inl e)
  ·rcases hf b e with e | e
   ·exact hb.1.1 (.inr e)
   ·omega
theorem RnAt.keep(h:RnAt w Z R p pa pc m d wk){M:Nat→Prop}(ht:Touch M w w')(hM:∀ b,b<w.heap.size→M b→Z b):RnAt w' Z R p pa pc m d wk:=by
 have hk:∀ b,b<w.heap.size→¬ Z b→w'.heap[b]? = w.heap[b]?:=fun b hb hz=>ht.block b hb fun e=>hz (hM b hb e)
 refine h.turn ((hk R h.lt (h.zr R (.inl rfl))).trans h.blk) (h.rows.keep ht.size (fun b hb e=>hk b hb (e.elim (fun e=>h.zr b (.inr e)) fun e=>e.2)) fun b _ hb=>hb) ⟨ht.os,ht.tape,ht.output,ht.size,fun b hb hn=>hk b hb fun e=>hn (.inr e)⟩ (fun b hb=>.inl hb) fun b hb=>h.zr b (.inr hb)
theorem RnAt.zmono(h:RnAt w Z R p pa pc m d wk){Z':Nat→Prop}(hz:∀ b,b<w.heap.size→Z' b→Z b):RnAt w Z' R p pa pc m d wk :=
 ⟨h.blk,h.rows.keep (Nat.le_refl _) (fun _ _ _=>rfl) fun b hb e=>⟨e.1,fun z=>e.2 (hz b hb z)⟩,h.ne,h.prog.mono fun b hb e=>⟨e.1,fun z=>e.2 (hz b hb z)⟩,fun b hb z=>h.zr b hb (hz b (h.rmlt b hb) z)⟩
theorem RnAt.below(h:RnAt w Z R p pa pc m d wk)(hb:Below w.heap.size w w'):RnAt w' Z R p pa pc m d wk :=
 h.keep (M:=fun b=>w.heap.size≤b) ⟨hb.os,hb.tape,hb.output,hb.size,fun b hl _=>hb.block b hl⟩ fun b h1 h2=>by omega
end
theorem row_keep{w w':World}{base R:Nat}{Z:Nat→Prop}{x:Option Nat}(ht:Touch (fun b=>b=R∨x=some b∨Z b) w w'){e:TypeId}{k n n' c:Nat}{a:Option Addr}{vs:List Value}(h:w.ownsRow base e k (.slice a n c) n' vs)(h1:bk a≠some R)(h2:∀ b,bk a=some b→x≠some b)(h3:∀ b,bk a=some b→¬ Z b):w'.ownsRow base e k (.slice a n c) n' vs :=
 ownsRow_block h fun g hg=>ht.block g (h.lt g hg).2 fun e=>by
  have hg':=(bk_own _ _ _).symm.trans hg
  rcases e with e | e | e
  ·subst e;exact h1 hg'
  ·exact h2 g hg' e
  ·exact h3 g hg' e
theorem ans_keep{w w':World}{R:Nat}{Z:Nat→Prop}{x:Option Nat}{l l':List (Option Nat)}(ht:Touch (fun b=>b=R∨x=some b∨Z b) w w')(hx:x∈l)(hl:∀ b,some b∈l'→some b∈l∨w.heap.size≤b){L:List Tm}{a:Option Addr}{c:Nat}(h:Ts w (fun b=>(b≠R∧¬ Z b)∧∀ y,y∈l→y≠some b) L a c):Ts w' (fun b=>(b≠R∧¬ Z b)∧∀ y,y∈l'→y≠some b) L a c:=by
 have h1:=h.mono (ok':=fun b=>((b≠R∧¬ Z b)∧∀ y,y∈l→y≠some b)∧b<w.heap.size) fun b hb h=>⟨h,hb⟩
 refine(h1.keep (ht.keeps fun b hb e=>?_)).mono fun b _ hb=>⟨hb.1.1,fun y hy e=>?_⟩
 ·rcases e with e | e | e
  ·exact hb.1.1.1 e
  ·exact hb.1.2 x hx e
  ·exact hb.1.1.2 e
 ·subst e
  rcases hl b hy with e | e
  ·exact hb.1.2 _ e rfl
  ·omega
theorem RnAt.putH{w w1:World}{Z:Nat→Prop}{R:Nat}{p:List Cl}{pa:Option Addr}{pc:Nat}{m:Mac}{d:MAd}{wk:Nat}(h:RnAt w Z R p pa pc m d wk)(ht:Touch (fun b=>bk d.h=some b∨Z b) w w1){L:List HC}{a:Option Addr}{n:Nat}(hx:HOwn w1 0 (.slice a L.length n) L)
 (hf:bk a=bk d.h∨∀ b,bk a=some b→w.heap.size≤b) (hzn:∀ b,Z b→b<w.heap.size):RnAt (w1.setCell ⟨R,1,none⟩ (.slice a L.length n)) Z R p pa pc { m with H:=L } { d with h:=a,hn:=n } wk∧Touch (fun b=>RM R d b∨Z b) w (w1.setCell ⟨R,1,none⟩ (.slice a L.length n)):=by
 have hne:=h.rows.ne
 unfold Nd at hne
 simp only[List.pairwise_cons,List.mem_cons,List.not_mem_nil,or_false,forall_eq_or_imp,forall_eq] at hne
 obtain⟨⟨hg,hc,ht',hq,ha⟩,⟨gc,gt,gq,ga⟩,⟨ct,cq,ca⟩,⟨tq,ta⟩,qa,-⟩:=hne
 have hR:=h.ne
 simp only[rws,List.mem_cons,List.not_mem_nil,or_false,forall_eq_or_imp,forall_eq] at hR
 obtain⟨rh,rg,rc,rt,rq,ra⟩:=hR
 have ht2:Touch (fun b=>b=R∨bk d.h=some b∨Z b) w (w1.setCell ⟨R,1,none⟩ (.slice a L.length n)):=(ht.mono fun b _ e=>.inr e).trans (Touch.setCell _ (.inl rfl))
 have htR:Touch (fun b=>RM R d b∨Z b) w (w1.setCell ⟨R,1,none⟩ (.slice a L.length n)):=ht2.mono fun b _ e=>by
  rcases e with e | e | e
  ·exact .inl (.inl e)
  ·exact .inl (.inr (by rw[← e];simp[rws]))
  ·exact .inr e
 have hzz:∀ y:Option Addr,bk y∈rws d→∀ b,bk y=some b→¬ Z b:=fun y hy b hb=>h.zr b (.inr (by rw[← hb];exact hy))
 have hza:∀ b,bk a=some b→¬ Z b:=fun b hb e=>by
  rcases hf with h1 | h1
  ·exact hzz d.h (by simp[rws]) b (h1.symm.trans hb) e
  ·have:=h1 b hb;have:=hzn b e;omega
 have hfr:∀ b,some b∈rws { d with h:=a,hn:=n }→some b∈rws d∨w.heap.size≤b:=fun b hb=>by
  simp only[rws,List.mem_cons,List.not_mem_nil,or_false] at hb ⊢
  rcases hf with e | e
  ·rw[e] at hb;exact .inl hb
  ·rcases hb with e1 | e1 | e1 | e1 | e1 | e1
   ·exact .inr (e b e1.symm)
   ·exact .inl (.inr (.inl e1))
   ·exact .inl (.inr (.inr (.inl e1)))
   ·exact .inl (.inr (.inr (.inr (.inl e1))))
   ·exact .inl (.inr (.inr (.inr (.inr (.inl e1)))))
   ·exact .inl (.inr (.inr (.inr (.inr (.inr e1)))))
 have hnew:∀ y:Option Addr,bk y∈rws d→(∀ b,bk d.h=some b→bk y≠some b)→∀ b,bk a=some b→bk y≠some b:=fun y hy hd b hb e=>by
  rcases hf with h1 | h1
  ·exact hd b (h1.symm.trans hb) e
  ·have:=h1 b hb;have:=h.rows.lt b (by rw[← e];exact hy);omega
 have hxo:∀ b,b≠R→(w1.setCell ⟨R,1,none⟩ (.slice a L.length n)).heap[b]? = w1.heap[b]?:=fun b hb=>Below.heap_setCell _ _ _ _ hb
 have haR:bk a≠some R:=fun e=>by
  rcases hf with h1 | h1
  ·exact rh (h1.symm.trans e)
  ·have:=h1 R e;have:=h.lt;omega
 have hzd:∀ b,some b∈rws { d with h:=a,hn:=n }→¬ Z b:=fun b hb=>by
  simp only[rws,List.mem_cons,List.not_mem_nil,or_false] at hb
  rcases hb with e1 | e1 | e1 | e1 | e1 | e1
  ·exact hza b e1.symm
  ·exact hzz d.g (by simp[rws]) b e1.symm
  ·exact hzz d.c (by simp[rws]) b e1.symm
  ·exact hzz d.t (by simp[rws]) b e1.symm
  ·exact hzz d.q (by simp[rws]) b e1.symm
  ·exact hzz d.a (by simp[rws]) b e1.symm
 obtain⟨A,e1,e2,e3⟩:=h.rows.a
 refine⟨h.turn ?_ ⟨?_,?_,?_,?_,?_,⟨A,e1,?_,fun z hz=>ans_keep ht2 (by simp[rws]) hfr (e3 z hz)⟩,?_⟩ htR hfr hzd,htR⟩
 ·rw[heap_setCell_at w1 R 1 _ ((ht.block R h.lt (fun e=>e.elim rh (h.zr R (.inl rfl)))).trans h.blk)];rfl
 ·exact hx.keep fun b hb=>hxo b fun e=>haR ((bk_own _ _ _).symm.trans (by rw[← e];exact hb))
 ·exact row_keep ht2 h.rows.g rg (fun b e1 e2=>hg b e2 e1) (hzz _ (by simp[rws]))
 ·exact row_keep ht2 h.rows.c rc (fun b e1 e2=>hc b e2 e1) (hzz _ (by simp[rws]))
 ·exact row_keep ht2 h.rows.t rt (fun b e1 e2=>ht' b e2 e1) (hzz _ (by simp[rws]))
 ·exact row_keep ht2 h.rows.q rq (fun b e1 e2=>hq b e2 e1) (hzz _ (by simp[rws]))
 ·exact row_keep ht2 e2 ra (fun b e1 e2=>ha b e2 e1) (hzz _ (by simp[rws]))
 ·unfold Nd
  simp only[List.pairwise_cons,List.mem_cons,List.not_mem_nil,or_false,forall_eq_or_imp,forall_eq]
  exact⟨⟨(hnew d.g (by simp[rws]) hg),(hnew d.c (by simp[rws]) hc),(hnew d.t (by simp[rws]) ht'),(hnew d.q (by simp[rws]) hq),(hnew d.a (by simp[rws]) ha)⟩,⟨gc,gt,gq,ga⟩,⟨ct,cq,ca⟩,⟨tq,ta⟩,qa,fun _ h=>h.elim,List.Pairwise.nil⟩
theorem RnAt.putG{w w1:World}{Z:Nat→Prop}{R:Nat}{p:List Cl}{pa:Option Addr}{pc:Nat}{m:Mac}{d:MAd}{wk:Nat}(h:RnAt w Z R p pa pc m d wk)(ht:Touch (fun b=>bk d.g=some b∨Z b) w w1){L:List Gl}{a:Option Addr}{n:Nat}(hx:w1.ownsRow 0 65 3 (.slice a L.length n) L.length (flatG L))
 (hf:bk a=bk d.g∨∀ b,bk a=some b→w.heap.size≤b) (hzn:∀ b,Z b→b<w.heap.size):RnAt (w1.setCell ⟨R,2,none⟩ (.slice a L.length n)) Z R p pa pc { m with G:=L } { d with g:=a,gn:=n } wk∧Touch (fun b=>RM R d b∨Z b) w (w1.setCell ⟨R,2,none⟩ (.slice a L.length n)):=by
 have hne:=h.rows.ne
 unfold Nd at hne
 simp only[List.pairwise_cons,List.mem_cons,List.not_mem_nil,or_false,forall_eq_or_imp,forall_eq] at hne
 obtain⟨⟨hg,hc,ht',hq,ha⟩,⟨gc,gt,gq,ga⟩,⟨ct,cq,ca⟩,⟨tq,ta⟩,qa,-⟩:=hne
 have hR:=h.ne
 simp only[rws,List.mem_cons,List.not_mem_nil,or_false,forall_eq_or_imp,forall_eq] at hR
 obtain⟨rh,rg,rc,rt,rq,ra⟩:=hR
 have ht2:Touch (fun b=>b=R∨bk d.g=some b∨Z b) w (w1.setCell ⟨R,2,none⟩ (.slice a L.length n)):=(ht.mono fun b _ e=>.inr e).trans (Touch.setCell _ (.inl rfl))
 have htR:Touch (fun b=>RM R d b∨Z b) w (w1.setCell ⟨R,2,none⟩ (.slice a L.length n)):=ht2.mono fun b _ e=>by
  rcases e with e | e | e
  ·exact .inl (.inl e)
  ·exact .inl (.inr (by rw[← e];simp[rws]))
  ·exact .inr e
 have hzz:∀ y:Option Addr,bk y∈rws d→∀ b,bk y=some b→¬ Z b:=fun y hy b hb=>h.zr b (.inr (by rw[← hb];exact hy))
 have hza:∀ b,bk a=some b→¬ Z b:=fun b hb e=>by
  rcases hf with h1 | h1
  ·exact hzz d.g (by simp[rws]) b (h1.symm.trans hb) e
  ·have:=h1 b hb;have:=hzn b e;omega
 have hfr:∀ b,some b∈rws { d with g:=a,gn:=n }→some b∈rws d∨w.heap.size≤b:=fun b hb=>by
  simp only[rws,List.mem_cons,List.not_mem_nil,or_false] at hb ⊢
  rcases hf with e | e
  ·rw[e] at hb;exact .inl hb
  ·rcases hb with e1 | e1 | e1 | e1 | e1 | e1
   ·exact .inl (.inl e1)
   ·exact .inr (e b e1.symm)
   ·exact .inl (.inr (.inr (.inl e1)))
   ·exact .inl (.inr (.inr (.inr (.inl e1))))
   ·exact .inl (.inr (.inr (.inr (.inr (.inl e1)))))
   ·exact .inl (.inr (.inr (.inr (.inr (.inr e1)))))
 have hnew:∀ y:Option Addr,bk y∈rws d→(∀ b,bk d.g=some b→bk y≠some b)→∀ b,bk a=some b→bk y≠some b:=fun y hy hd b hb e=>by
  rcases hf with h1 | h1
  ·exact hd b (h1.symm.trans hb) e
  ·have:=h1 b hb;have:=h.rows.lt b (by rw[← e];exact hy);omega
 have hxo:∀ b,b≠R→(w1.setCell ⟨R,2,none⟩ (.slice a L.length n)).heap[b]? = w1.heap[b]?:=fun b hb=>Below.heap_setCell _ _ _ _ hb
 have haR:bk a≠some R:=fun e=>by
  rcases hf with h1 | h1
  ·exact rg (h1.symm.trans e)
  ·have:=h1 R e;have:=h.lt;omega
 have hzd:∀ b,some b∈rws { d with g:=a,gn:=n }→¬ Z b:=fun b hb=>by
  simp only[rws,List.mem_cons,List.not_mem_nil,or_false] at hb
  rcases hb with e1 | e1 | e1 | e1 | e1 | e1
  ·exact hzz d.h (by simp[rws]) b e1.symm
  ·exact hza b e1.symm
  ·exact hzz d.c (by simp[rws]) b e1.symm
  ·exact hzz d.t (by simp[rws]) b e1.symm
  ·exact hzz d.q (by simp[rws]) b e1.symm
  ·exact hzz d.a (by simp[rws]) b e1.symm
 obtain⟨A,e1,e2,e3⟩:=h.rows.a
 refine⟨h.turn ?_ ⟨?_,?_,?_,?_,?_,⟨A,e1,?_,fun z hz=>ans_keep ht2 (by simp[rws]) hfr (e3 z hz)⟩,?_⟩ htR hfr hzd,htR⟩
 ·rw[heap_setCell_at w1 R 2 _ ((ht.block R h.lt (fun e=>e.elim rg (h.zr R (.inl rfl)))).trans h.blk)];rfl
 ·exact⟨row_keep ht2 h.rows.h.row rh hg (hzz _ (by simp[rws])),h.rows.h.fits⟩
 ·exact ownsRow_block hx fun b hb=>hxo b fun e=>haR ((bk_own _ _ _).symm.trans (by rw[← e];exact hb))
 ·exact row_keep ht2 h.rows.c rc (fun b e1 e2=>gc b e2 e1) (hzz _ (by simp[rws]))
 ·exact row_keep ht2 h.rows.t rt (fun b e1 e2=>gt b e2 e1) (hzz _ (by simp[rws]))
 ·exact row_keep ht2 h.rows.q rq (fun b e1 e2=>gq b e2 e1) (hzz _ (by simp[rws]))
 ·exact row_keep ht2 e2 ra (fun b e1 e2=>ga b e2 e1) (hzz _ (by simp[rws]))
 ·unfold Nd
  simp only[List.pairwise_cons,List.mem_cons,List.not_mem_nil,or_false,forall_eq_or_imp,forall_eq]
  exact⟨⟨(fun b e1 e2=>hnew d.h (by simp[rws]) (fun b e1 e2=>hg b e2 e1) b e2 e1),hc,ht',hq,ha⟩,⟨(hnew d.c (by simp[rws]) gc),(hnew d.t (by simp[rws]) gt),(hnew d.q (by simp[rws]) gq),(hnew d.a (by simp[rws]) ga)⟩,⟨ct,cq,ca⟩,⟨tq,ta⟩,qa,fun _ h=>h.elim,List.Pairwise.nil⟩
theorem RnAt.putch{w w1:World}{Z:Nat→Prop}{R:Nat}{p:List Cl}{pa:Option Addr}{pc:Nat}{m:Mac}{d:MAd}{wk:Nat}(h:RnAt w Z R p pa pc m d wk)(ht:Touch (fun b=>bk d.c=some b∨Z b) w w1){L:List Chi}{a:Option Addr}{n:Nat}(hx:w1.ownsRow 0 67 5 (.slice a L.length n) L.length (flatK L))
 (hf:bk a=bk d.c∨∀ b,bk a=some b→w.heap.size≤b) (hzn:∀ b,Z b→b<w.heap.size):RnAt (w1.setCell ⟨R,4,none⟩ (.slice a L.length n)) Z R p pa pc { m with ch:=L } { d with c:=a,cn:=n } wk∧Touch (fun b=>RM R d b∨Z b) w (w1.setCell ⟨R,4,none⟩ (.slice a L.length n)):=by
 have hne:=h.rows.ne
 unfold Nd at hne
 simp only[List.pairwise_cons,List.mem_cons,List.not_mem_nil,or_false,forall_eq_or_imp,forall_eq] at hne
 obtain⟨⟨hg,hc,ht',hq,ha⟩,⟨gc,gt,gq,ga⟩,⟨ct,cq,ca⟩,⟨tq,ta⟩,qa,-⟩:=hne
 have hR:=h.ne
 simp only[rws,List.mem_cons,List.not_mem_nil,or_false,forall_eq_or_imp,forall_eq] at hR
 obtain⟨rh,rg,rc,rt,rq,ra⟩:=hR
 have ht2:Touch (fun b=>b=R∨bk d.c=some b∨Z b) w (w1.setCell ⟨R,4,none⟩ (.slice a L.length n)):=(ht.mono fun b _ e=>.inr e).trans (Touch.setCell _ (.inl rfl))
 have htR:Touch (fun b=>RM R d b∨Z b) w (w1.setCell ⟨R,4,none⟩ (.slice a L.length n)):=ht2.mono fun b _ e=>by
  rcases e with e | e | e
  ·exact .inl (.inl e)
  ·exact .inl (.inr (by rw[← e];simp[rws]))
  ·exact .inr e
 have hzz:∀ y:Option Addr,bk y∈rws d→∀ b,bk y=some b→¬ Z b:=fun y hy b hb=>h.zr b (.inr (by rw[← hb];exact hy))
 have hza:∀ b,bk a=some b→¬ Z b:=fun b hb e=>by
  rcases hf with h1 | h1
  ·exact hzz d.c (by simp[rws]) b (h1.symm.trans hb) e
  ·have:=h1 b hb;have:=hzn b e;omega
 have hfr:∀ b,some b∈rws { d with c:=a,cn:=n }→some b∈rws d∨w.heap.size≤b:=fun b hb=>by
  simp only[rws,List.mem_cons,List.not_mem_nil,or_false] at hb ⊢
  rcases hf with e | e
  ·rw[e] at hb;exact .inl hb
  ·rcases hb with e1 | e1 | e1 | e1 | e1 | e1
   ·exact .inl (.inl e1)
   ·exact .inl (.inr (.inl e1))
   ·exact .inr (e b e1.symm)
   ·exact .inl (.inr (.inr (.inr (.inl e1))))
   ·exact .inl (.inr (.inr (.inr (.inr (.inl e1)))))
   ·exact .inl (.inr (.inr (.inr (.inr (.inr e1)))))
 have hnew:∀ y:Option Addr,bk y∈rws d→(∀ b,bk d.c=some b→bk y≠some b)→∀ b,bk a=some b→bk y≠some b:=fun y hy hd b hb e=>by
  rcases hf with h1 | h1
  ·exact hd b (h1.symm.trans hb) e
  ·have:=h1 b hb;have:=h.rows.lt b (by rw[← e];exact hy);omega
 have hxo:∀ b,b≠R→(w1.setCell ⟨R,4,none⟩ (.slice a L.length n)).heap[b]? = w1.heap[b]?:=fun b hb=>Below.heap_setCell _ _ _ _ hb
 have haR:bk a≠some R:=fun e=>by
  rcases hf with h1 | h1
  ·exact rc (h1.symm.trans e)
  ·have:=h1 R e;have:=h.lt;omega
 have hzd:∀ b,some b∈rws { d with c:=a,cn:=n }→¬ Z b:=fun b hb=>by
  simp only[rws,List.mem_cons,List.not_mem_nil,or_false] at hb
  rcases hb with e1 | e1 | e1 | e1 | e1 | e1
  ·exact hzz d.h (by simp[rws]) b e1.symm
  ·exact hzz d.g (by simp[rws]) b e1.symm
  ·exact hza b e1.symm
  ·exact hzz d.t (by simp[rws]) b e1.symm
  ·exact hzz d.q (by simp[rws]) b e1.symm
  ·exact hzz d.a (by simp[rws]) b e1.symm
 obtain⟨A,e1,e2,e3⟩:=h.rows.a
 refine⟨h.turn ?_ ⟨?_,?_,?_,?_,?_,⟨A,e1,?_,fun z hz=>ans_keep ht2 (by simp[rws]) hfr (e3 z hz)⟩,?_⟩ htR hfr hzd,htR⟩
 ·rw[heap_setCell_at w1 R 4 _ ((ht.block R h.lt (fun e=>e.elim rc (h.zr R (.inl rfl)))).trans h.blk)];rfl
 ·exact⟨row_keep ht2 h.rows.h.row rh hc (hzz _ (by simp[rws])),h.rows.h.fits⟩
 ·exact row_keep ht2 h.rows.g rg gc (hzz _ (by simp[rws]))
 ·exact ownsRow_block hx fun b hb=>hxo b fun e=>haR ((bk_own _ _ _).symm.trans (by rw[← e];exact hb))
 ·exact row_keep ht2 h.rows.t rt (fun b e1 e2=>ct b e2 e1) (hzz _ (by simp[rws]))
 ·exact row_keep ht2 h.rows.q rq (fun b e1 e2=>cq b e2 e1) (hzz _ (by simp[rws]))
 ·exact row_keep ht2 e2 ra (fun b e1 e2=>ca b e2 e1) (hzz _ (by simp[rws]))
 ·unfold Nd
  simp only[List.pairwise_cons,List.mem_cons,List.not_mem_nil,or_false,forall_eq_or_imp,forall_eq]
  exact⟨⟨hg,(fun b e1 e2=>hnew d.h (by simp[rws]) (fun b e1 e2=>hc b e2 e1) b e2 e1),ht',hq,ha⟩,⟨(fun b e1 e2=>hnew d.g (by simp[rws]) (fun b e1 e2=>gc b e2 e1) b e2 e1),gt,gq,ga⟩,⟨(hnew d.t (by simp[rws]) ct),(hnew d.q (by simp[rws]) cq),(hnew d.a (by simp[rws]) ca)⟩,⟨tq,ta⟩,qa,fun _ h=>h.elim,List.Pairwise.nil⟩
theorem RnAt.putT{w w1:World}{Z:Nat→Prop}{R:Nat}{p:List Cl}{pa:Option Addr}{pc:Nat}{m:Mac}{d:MAd}{wk:Nat}(h:RnAt w Z R p pa pc m d wk)(ht:Touch (fun b=>bk d.t=some b∨Z b) w w1){L:List Int}{a:Option Addr}{n:Nat}(hx:w1.ownsRow 0 3 1 (.slice a L.length n) L.length (L.map fun x=>Value.int .i64 x))
 (hf:bk a=bk d.t∨∀ b,bk a=some b→w.heap.size≤b) (hzn:∀ b,Z b→b<w.heap.size):RnAt (w1.setCell ⟨R,5,none⟩ (.slice a L.length n)) Z R p pa pc { m with T:=L } { d with t:=a,tn:=n } wk∧Touch (fun b=>RM R d b∨Z b) w (w1.setCell ⟨R,5,none⟩ (.slice a L.length n)):=by
 have hne:=h.rows.ne
 unfold Nd at hne
 simp only[List.pairwise_cons,List.mem_cons,List.not_mem_nil,or_false,forall_eq_or_imp,forall_eq] at hne
 obtain⟨⟨hg,hc,ht',hq,ha⟩,⟨gc,gt,gq,ga⟩,⟨ct,cq,ca⟩,⟨tq,ta⟩,qa,-⟩:=hne
 have hR:=h.ne
 simp only[rws,List.mem_cons,List.not_mem_nil,or_false,forall_eq_or_imp,forall_eq] at hR
 obtain⟨rh,rg,rc,rt,rq,ra⟩:=hR
 have ht2:Touch (fun b=>b=R∨bk d.t=some b∨Z b) w (w1.setCell ⟨R,5,none⟩ (.slice a L.length n)):=(ht.mono fun b _ e=>.inr e).trans (Touch.setCell _ (.inl rfl))
 have htR:Touch (fun b=>RM R d b∨Z b) w (w1.setCell ⟨R,5,none⟩ (.slice a L.length n)):=ht2.mono fun b _ e=>by
  rcases e with e | e | e
  ·exact .inl (.inl e)
  ·exact .inl (.inr (by rw[← e];simp[rws]))
  ·exact .inr e
 have hzz:∀ y:Option Addr,bk y∈rws d→∀ b,bk y=some b→¬ Z b:=fun y hy b hb=>h.zr b (.inr (by rw[← hb];exact hy))
 have hza:∀ b,bk a=some b→¬ Z b:=fun b hb e=>by
  rcases hf with h1 | h1
  ·exact hzz d.t (by simp[rws]) b (h1.symm.trans hb) e
  ·have:=h1 b hb;have:=hzn b e;omega
 have hfr:∀ b,some b∈rws { d with t:=a,tn:=n }→some b∈rws d∨w.heap.size≤b:=fun b hb=>by
  simp only[rws,List.mem_cons,List.not_mem_nil,or_false] at hb ⊢
  rcases hf with e | e
  ·rw[e] at hb;exact .inl hb
  ·rcases hb with e1 | e1 | e1 | e1 | e1 | e1
   ·exact .inl (.inl e1)
   ·exact .inl (.inr (.inl e1))
   ·exact .inl (.inr (.inr (.inl e1)))
   ·exact .inr (e b e1.symm)
   ·exact .inl (.inr (.inr (.inr (.inr (.inl e1)))))
   ·exact .inl (.inr (.inr (.inr (.inr (.inr e1)))))
 have hnew:∀ y:Option Addr,bk y∈rws d→(∀ b,bk d.t=some b→bk y≠some b)→∀ b,bk a=some b→bk y≠some b:=fun y hy hd b hb e=>by
  rcases hf with h1 | h1
  ·exact hd b (h1.symm.trans hb) e
  ·have:=h1 b hb;have:=h.rows.lt b (by rw[← e];exact hy);omega
 have hxo:∀ b,b≠R→(w1.setCell ⟨R,5,none⟩ (.slice a L.length n)).heap[b]? = w1.heap[b]?:=fun b hb=>Below.heap_setCell _ _ _ _ hb
 have haR:bk a≠some R:=fun e=>by
  rcases hf with h1 | h1
  ·exact rt (h1.symm.trans e)
  ·have:=h1 R e;have:=h.lt;omega
 have hzd:∀ b,some b∈rws { d with t:=a,tn:=n }→¬ Z b:=fun b hb=>by
  simp only[rws,List.mem_cons,List.not_mem_nil,or_false] at hb
  rcases hb with e1 | e1 | e1 | e1 | e1 | e1
  ·exact hzz d.h (by simp[rws]) b e1.symm
  ·exact hzz d.g (by simp[rws]) b e1.symm
  ·exact hzz d.c (by simp[rws]) b e1.symm
  ·exact hza b e1.symm
  ·exact hzz d.q (by simp[rws]) b e1.symm
  ·exact hzz d.a (by simp[rws]) b e1.symm
 obtain⟨A,e1,e2,e3⟩:=h.rows.a
 refine⟨h.turn ?_ ⟨?_,?_,?_,?_,?_,⟨A,e1,?_,fun z hz=>ans_keep ht2 (by simp[rws]) hfr (e3 z hz)⟩,?_⟩ htR hfr hzd,htR⟩
 ·rw[heap_setCell_at w1 R 5 _ ((ht.block R h.lt (fun e=>e.elim rt (h.zr R (.inl rfl)))).trans h.blk)];rfl
 ·exact⟨row_keep ht2 h.rows.h.row rh ht' (hzz _ (by simp[rws])),h.rows.h.fits⟩
 ·exact row_keep ht2 h.rows.g rg gt (hzz _ (by simp[rws]))
 ·exact row_keep ht2 h.rows.c rc ct (hzz _ (by simp[rws]))
 ·exact ownsRow_block hx fun b hb=>hxo b fun e=>haR ((bk_own _ _ _).symm.trans (by rw[← e];exact hb))
 ·exact row_keep ht2 h.rows.q rq (fun b e1 e2=>tq b e2 e1) (hzz _ (by simp[rws]))
 ·exact row_keep ht2 e2 ra (fun b e1 e2=>ta b e2 e1) (hzz _ (by simp[rws]))
 ·unfold Nd
  simp only[List.pairwise_cons,List.mem_cons,List.not_mem_nil,or_false,forall_eq_or_imp,forall_eq]
  exact⟨⟨hg,hc,(fun b e1 e2=>hnew d.h (by simp[rws]) (fun b e1 e2=>ht' b e2 e1) b e2 e1),hq,ha⟩,⟨gc,(fun b e1 e2=>hnew d.g (by simp[rws]) (fun b e1 e2=>gt b e2 e1) b e2 e1),gq,ga⟩,⟨(fun b e1 e2=>hnew d.c (by simp[rws]) (fun b e1 e2=>ct b e2 e1) b e2 e1),cq,ca⟩,⟨(hnew d.q (by simp[rws]) tq),(hnew d.a (by simp[rws]) ta)⟩,qa,fun _ h=>h.elim,List.Pairwise.nil⟩
theorem RnAt.putQ{w w1:World}{Z:Nat→Prop}{R:Nat}{p:List Cl}{pa:Option Addr}{pc:Nat}{m:Mac}{d:MAd}{wk:Nat}(h:RnAt w Z R p pa pc m d wk)(ht:Touch (fun b=>bk d.q=some b∨Z b) w w1){L:List Int}{a:Option Addr}{n:Nat}(hx:w1.ownsRow 0 3 1 (.slice a L.length n) L.length (L.map fun x=>Value.int .i64 x))
 (hf:bk a=bk d.q∨∀ b,bk a=some b→w.heap.size≤b) (hzn:∀ b,Z b→b<w.heap.size):RnAt (w1.setCell ⟨R,6,none⟩ (.slice a L.length n)) Z R p pa pc { m with Q:=L } { d with q:=a,qn:=n } wk∧Touch (fun b=>RM R d b∨Z b) w (w1.setCell ⟨R,6,none⟩ (.slice a L.length n)):=by
 have hne:=h.rows.ne
 unfold Nd at hne
 simp only[List.pairwise_cons,List.mem_cons,List.not_mem_nil,or_false,forall_eq_or_imp,forall_eq] at hne
 obtain⟨⟨hg,hc,ht',hq,ha⟩,⟨gc,gt,gq,ga⟩,⟨ct,cq,ca⟩,⟨tq,ta⟩,qa,-⟩:=hne
 have hR:=h.ne
 simp only[rws,List.mem_cons,List.not_mem_nil,or_false,forall_eq_or_imp,forall_eq] at hR
 obtain⟨rh,rg,rc,rt,rq,ra⟩:=hR
 have ht2:Touch (fun b=>b=R∨bk d.q=some b∨Z b) w (w1.setCell ⟨R,6,none⟩ (.slice a L.length n)):=(ht.mono fun b _ e=>.inr e).trans (Touch.setCell _ (.inl rfl))
 have htR:Touch (fun b=>RM R d b∨Z b) w (w1.setCell ⟨R,6,none⟩ (.slice a L.length n)):=ht2.mono fun b _ e=>by
  rcases e with e | e | e
  ·exact .inl (.inl e)
  ·exact .inl (.inr (by rw[← e];simp[rws]))
  ·exact .inr e
 have hzz:∀ y:Option Addr,bk y∈rws d→∀ b,bk y=some b→¬ Z b:=fun y hy b hb=>h.zr b (.inr (by rw[← hb];exact hy))
 have hza:∀ b,bk a=some b→¬ Z b:=fun b hb e=>by
  rcases hf with h1 | h1
  ·exact hzz d.q (by simp[rws]) b (h1.symm.trans hb) e
  ·have:=h1 b hb;have:=hzn b e;omega
 have hfr:∀ b,some b∈rws { d with q:=a,qn:=n }→some b∈rws d∨w.heap.size≤b:=fun b hb=>by
  simp only[rws,List.mem_cons,List.not_mem_nil,or_false] at hb ⊢
  rcases hf with e | e
  ·rw[e] at hb;exact .inl hb
  ·rcases hb with e1 | e1 | e1 | e1 | e1 | e1
   ·exact .inl (.inl e1)
   ·exact .inl (.inr (.inl e1))
   ·exact .inl (.inr (.inr (.inl e1)))
   ·exact .inl (.inr (.inr (.inr (.inl e1))))
   ·exact .inr (e b e1.symm)
   ·exact .inl (.inr (.inr (.inr (.inr (.inr e1)))))
 have hnew:∀ y:Option Addr,bk y∈rws d→(∀ b,bk d.q=some b→bk y≠some b)→∀ b,bk a=some b→bk y≠some b:=fun y hy hd b hb e=>by
  rcases hf with h1 | h1
  ·exact hd b (h1.symm.trans hb) e
  ·have:=h1 b hb;have:=h.rows.lt b (by rw[← e];exact hy);omega
 have hxo:∀ b,b≠R→(w1.setCell ⟨R,6,none⟩ (.slice a L.length n)).heap[b]? = w1.heap[b]?:=fun b hb=>Below.heap_setCell _ _ _ _ hb
 have haR:bk a≠some R:=fun e=>by
  rcases hf with h1 | h1
  ·exact rq (h1.symm.trans e)
  ·have:=h1 R e;have:=h.lt;omega
 have hzd:∀ b,some b∈rws { d with q:=a,qn:=n }→¬ Z b:=fun b hb=>by
  simp only[rws,List.mem_cons,List.not_mem_nil,or_false] at hb
  rcases hb with e1 | e1 | e1 | e1 | e1 | e1
  ·exact hzz d.h (by simp[rws]) b e1.symm
  ·exact hzz d.g (by simp[rws]) b e1.symm
  ·exact hzz d.c (by simp[rws]) b e1.symm
  ·exact hzz d.t (by simp[rws]) b e1.symm
  ·exact hza b e1.symm
  ·exact hzz d.a (by simp[rws]) b e1.symm
 obtain⟨A,e1,e2,e3⟩:=h.rows.a
 refine⟨h.turn ?_ ⟨?_,?_,?_,?_,?_,⟨A,e1,?_,fun z hz=>ans_keep ht2 (by simp[rws]) hfr (e3 z hz)⟩,?_⟩ htR hfr hzd,htR⟩
 ·rw[heap_setCell_at w1 R 6 _ ((ht.block R h.lt (fun e=>e.elim rq (h.zr R (.inl rfl)))).trans h.blk)];rfl
 ·exact⟨row_keep ht2 h.rows.h.row rh hq (hzz _ (by simp[rws])),h.rows.h.fits⟩
 ·exact row_keep ht2 h.rows.g rg gq (hzz _ (by simp[rws]))
 ·exact row_keep ht2 h.rows.c rc cq (hzz _ (by simp[rws]))
 ·exact row_keep ht2 h.rows.t rt tq (hzz _ (by simp[rws]))
 ·exact ownsRow_block hx fun b hb=>hxo b fun e=>haR ((bk_own _ _ _).symm.trans (by rw[← e];exact hb))
 ·exact row_keep ht2 e2 ra (fun b e1 e2=>qa b e2 e1) (hzz _ (by simp[rws]))
 ·unfold Nd
  simp only[List.pairwise_cons,List.mem_cons,List.not_mem_nil,or_false,forall_eq_or_imp,forall_eq]
  exact⟨⟨hg,hc,ht',(fun b e1 e2=>hnew d.h (by simp[rws]) (fun b e1 e2=>hq b e2 e1) b e2 e1),ha⟩,⟨gc,gt,(fun b e1 e2=>hnew d.g (by simp[rws]) (fun b e1 e2=>gq b e2 e1) b e2 e1),ga⟩,⟨ct,(fun b e1 e2=>hnew d.c (by simp[rws]) (fun b e1 e2=>cq b e2 e1) b e2 e1),ca⟩,⟨(fun b e1 e2=>hnew d.t (by simp[rws]) (fun b e1 e2=>tq b e2 e1) b e2 e1),ta⟩,(hnew d.a (by simp[rws]) qa),fun _ h=>h.elim,List.Pairwise.nil⟩
theorem RnAt.putFirst{w:World}{Z:Nat→Prop}{R:Nat}{p:List Cl}{pa:Option Addr}{pc:Nat}{m:Mac}{d:MAd}{wk:Nat}(h:RnAt w Z R p pa pc m d wk)(v:Int):RnAt (w.setCell ⟨R,3,none⟩ (.int .i64 v)) Z R p pa pc { m with first:=v } d wk∧Touch (RM R d) w (w.setCell ⟨R,3,none⟩ (.int .i64 v)):=by
 have ht:Touch (RM R d) w (w.setCell ⟨R,3,none⟩ (.int .i64 v)):=Touch.setCell _ (.inl rfl)
 have hr:=h.rows.keep (w':=w.setCell ⟨R,3,none⟩ (.int .i64 v)) (okA':=fun b=>b≠R∧¬ Z b) (by simp[World.setCell]) (fun b _ hb=>Below.heap_setCell _ _ _ _ (fun e=>hb.elim (fun e1=>h.ne _ e1 (by rw[e])) fun e1=>e1.1 e)) fun b _ hb=>hb
 exact⟨h.turn (by rw[heap_setCell_at w R 3 _ h.blk];rfl) ⟨hr.h,hr.g,hr.c,hr.t,hr.q,hr.a,hr.ne⟩ (ht.mono fun b _ e=>.inl e) (fun b hb=>.inl hb) (fun b hb=>h.zr b (.inr hb)),ht⟩
theorem RnAt.putSteps{w:World}{Z:Nat→Prop}{R:Nat}{p:List Cl}{pa:Option Addr}{pc:Nat}{m:Mac}{d:MAd}{wk:Nat}(h:RnAt w Z R p pa pc m d wk)(v:Int):RnAt (w.setCell ⟨R,7,none⟩ (.int .i64 v)) Z R p pa pc { m with steps:=v } d wk∧Touch (RM R d) w (w.setCell ⟨R,7,none⟩ (.int .i64 v)):=by
 have ht:Touch (RM R d) w (w.setCell ⟨R,7,none⟩ (.int .i64 v)):=Touch.setCell _ (.inl rfl)
 have hr:=h.rows.keep (w':=w.setCell ⟨R,7,none⟩ (.int .i64 v)) (okA':=fun b=>b≠R∧¬ Z b) (by simp[World.setCell]) (fun b _ hb=>Below.heap_setCell _ _ _ _ (fun e=>hb.elim (fun e1=>h.ne _ e1 (by rw[e])) fun e1=>e1.1 e)) fun b _ hb=>hb
 exact⟨h.turn (by rw[heap_setCell_at w R 7 _ h.blk];rfl) ⟨hr.h,hr.g,hr.c,hr.t,hr.q,hr.a,hr.ne⟩ (ht.mono fun b _ e=>.inl e) (fun b hb=>.inl hb) (fun b hb=>h.zr b (.inr hb)),ht⟩
theorem RnAt.putFin{w:World}{Z:Nat→Prop}{R:Nat}{p:List Cl}{pa:Option Addr}{pc:Nat}{m:Mac}{d:MAd}{wk:Nat}(h:RnAt w Z R p pa pc m d wk)(v:Int):RnAt (w.setCell ⟨R,8,none⟩ (.int .i64 v)) Z R p pa pc { m with fin:=v } d wk∧Touch (RM R d) w (w.setCell ⟨R,8,none⟩ (.int .i64 v)):=by
 have ht:Touch (RM R d) w (w.setCell ⟨R,8,none⟩ (.int .i64 v)):=Touch.setCell _ (.inl rfl)
 have hr:=h.rows.keep (w':=w.setCell ⟨R,8,none⟩ (.int .i64 v)) (okA':=fun b=>b≠R∧¬ Z b) (by simp[World.setCell]) (fun b _ hb=>Below.heap_setCell _ _ _ _ (fun e=>hb.elim (fun e1=>h.ne _ e1 (by rw[e])) fun e1=>e1.1 e)) fun b _ hb=>hb
 exact⟨h.turn (by rw[heap_setCell_at w R 8 _ h.blk];rfl) ⟨hr.h,hr.g,hr.c,hr.t,hr.q,hr.a,hr.ne⟩ (ht.mono fun b _ e=>.inl e) (fun b hb=>.inl hb) (fun b hb=>h.zr b (.inr hb)),ht⟩
theorem RnAt.putWork{w:World}{Z:Nat→Prop}{R:Nat}{p:List Cl}{pa:Option Addr}{pc:Nat}{m:Mac}{d:MAd}{wk:Nat}(h:RnAt w Z R p pa pc m d wk)(v:Nat):RnAt (w.setCell ⟨R,10,none⟩ (.int .i64 (v:Int))) Z R p pa pc m d v∧Touch (RM R d) w (w.setCell ⟨R,10,none⟩ (.int .i64 (v:Int))):=by
 have ht:Touch (RM R d) w (w.setCell ⟨R,10,none⟩ (.int .i64 (v:Int))):=Touch.setCell _ (.inl rfl)
 have hr:=h.rows.keep (w':=w.setCell ⟨R,10,none⟩ (.int .i64 (v:Int))) (okA':=fun b=>b≠R∧¬ Z b) (by simp[World.setCell]) (fun b _ hb=>Below.heap_setCell _ _ _ _ (fun e=>hb.elim (fun e1=>h.ne _ e1 (by rw[e])) fun e1=>e1.1 e)) fun b _ hb=>hb
 exact⟨h.turn (by rw[heap_setCell_at w R 10 _ h.blk];rfl) hr (ht.mono fun b _ e=>.inl e) (fun b hb=>.inl hb) (fun b hb=>h.zr b (.inr hb)),ht⟩
def Gn.gl(g:Gn):Gl:=⟨g.at',g.cut,g.next⟩
def Cn.chi(c:Cn):Chi:=⟨c.goal,c.clause,c.heap,c.trail,c.goals⟩
def MS.mac(S:MS):Mac:=⟨S.H,S.G.map Gn.gl,S.first,S.ch.map Cn.chi,S.T.map fun x:Nat=>(x:Int),S.Q.map fun x:Nat=>(x:Int),S.steps,S.fin,S.ans⟩
def FreshD(w:World)(d d':MAd):Prop:=∀ b,some b∈rws d'→some b∈rws d∨w.heap.size≤b
theorem FreshD.refl(w:World)(d:MAd):FreshD w d d:=fun _ h=>.inl h
theorem FreshD.trans{w w1:World}{d d1 d2:MAd}(h:FreshD w d d1)(k:FreshD w1 d1 d2)(hs:w.heap.size≤w1.heap.size):FreshD w d d2:=fun b hb =>
 (k b hb).elim (fun e=>h b e) fun e=>.inr (Nat.le_trans hs e)
theorem rm_next{w w1 w2:World}{R:Nat}{d d1:MAd}(h:Touch (RM R d) w w1)(hf:FreshD w d d1)(k:Touch (RM R d1) w1 w2):Touch (RM R d) w w2:=by
 refine⟨k.os.trans h.os,k.tape.trans h.tape,k.output.trans h.output,Nat.le_trans h.size k.size,fun b hb hn=>(k.block b (Nat.lt_of_lt_of_le hb h.size) ?_).trans (h.block b hb hn)⟩
 rintro (e | e)
 ·exact hn (.inl e)
 ·rcases hf b e with e | e
  ·exact hn (.inr e)
  ·omega
set_option maxRecDepth 100000 in
set_option maxHeartbeats 1600000 in
theorem MarkW{w:World}{Z:Nat→Prop}{R:Nat}{p:List Cl}{pa:Option Addr}{pc:Nat}{m:Mac}{d:MAd}{wk:Nat}(h:RnAt w Z R p pa pc m d wk)(n cl:Int) :
 Calls Try.prog 88 #[.pointer (some ⟨R,0,none⟩),.int .i64 n,.int .i64 cl] w fun e w'=>e=.returned (.agg #[.int .i64 n,.int .i64 cl,.int .i64 m.H.length,.int .i64 m.T.length,.int .i64 m.G.length])∧Below w.heap.size w w':=by
 obtain⟨c0,c1,c2,c3,c4,c5,c6,c7,c8,c9,c10,cf⟩:=h.cells
 have zR:=h.lt
 have B0:Below w.heap.size w (w.alloc (.cells #[.int .i64 0,.int .i64 0,.int .i64 0,.int .i64 0,.int .i64 0] 67)):=(Below.refl _ _).alloc (Nat.le_refl _) _
 have HB0:=lh B0
 clear h B0
 go_enter Try.func88,Try.ntmps88
 go_wp2_with fail
 go_region
 go_wp2_with fail
 exact bodyPost_ret (v:=.agg #[.int .i64 n,.int .i64 cl,.int .i64 m.H.length,.int .i64 m.T.length,.int .i64 m.G.length]) (by simp[results,Try.results88,go_sem]) rfl ⟨rfl,(((Below.refl _ _).alloc (Nat.le_refl _) _).drew)⟩
set_option maxRecDepth 100000 in
set_option maxHeartbeats 1600000 in
theorem CallableW{w:World}{Z:Nat→Prop}{R:Nat}{p:List Cl}{pa:Option Addr}{pc:Nat}{m:Mac}{d:MAd}{wk:Nat}(h:RnAt w Z R p pa pc m d wk)(hI:HInv m.H){n a:Nat}(hn:1≤n∧n≤m.G.length)(ha:(m.G.getD (n-1) ⟨0,0,0⟩).at'=(a:Int))(hal:a<m.H.length) :
 Calls Try.prog 113 #[.pointer (some ⟨R,0,none⟩),.int .i64 n] w fun e w'=>e=.returned (.bool (decide ((hc m.H (endH m.H a)).k=2)))∧Below w.heap.size w w':=by
 obtain⟨c0,c1,c2,c3,c4,c5,c6,c7,c8,c9,c10,cf⟩:=h.cells
 have zR:=h.lt
 obtain⟨k,hk⟩:=end_spec (hI.straight a hal)
 obtain⟨hel,-⟩:=hI.end hal
 obtain⟨q,rfl⟩:∃ q,n=q+1:=⟨n-1,by omega⟩
 rw[Nat.add_sub_cancel] at ha
 have hq:q<m.G.length:=by omega
 have ha':m.G[q].at'=(a:Int):=by rw[List.getD_eq_getElem?_getD,List.getElem?_eq_getElem hq] at ha;exact ha
 obtain⟨dh,dg,dc,dt,dq,da,dhn,dgn,dcn,dtn,dqn,dan⟩:=d
 obtain⟨ah,ch,e,hp⟩:=HpAt.of_row (ok:=fun _=>True) h.rows.h.row (fun _ _=>trivial) h.rows.h.fits
 injection e with e1 _ e2
 have e1':dh=ah:=e1
 have e2':dhn=ch:=e2
 subst e1';subst e2'
 obtain⟨ag,cg,e,hg⟩:=RwAt.of_row (ok:=fun _=>True) h.rows.g (flatG_length _) (fun _ _=>trivial)
 injection e with e1 _ e2
 have e1':dg=ag:=e1
 have e2':dgn=cg:=e2
 subst e1';subst e2'
 have HE:Hid (∀ j,Calls Try.prog 85 #[.slice dh m.H.length dhn,.int .i64 a] (w.drewN j) fun e w'=>e=.returned (.int .i64 (endH m.H a))∧w'=w.drewN j):=lh fun j=>(EndW (hp.below (below_drewN w j)) hI.cells hk hal).mono fun _ _ h=>⟨h.1,h.2.symm⟩
 obtain⟨b,off,hbg,-,zb,hcs⟩:=hg.some (by decide) (by omega)
 subst hbg
 obtain⟨g0,-,-⟩:=flatG_at m.G q hq
 have m0:=hcs _ _ g0
 rw[ha'] at m0
 obtain⟨b2,off2,hbh,-,zb2,d0,d1,d2,-⟩:=hp.at' _ hel
 subst hbh
 have hg9:m.G.length≤9223372036854775807:=by have:=hg.cap;unfold maxLen at this;omega
 have hl4:=hI.len
 clear h hI hk hp hg hcs g0 ha ha'
 simp only at c1 c2
 go_enter Try.func113,Try.ntmps113
 go_wp2_with fail
 go_quiet (first | (go_at_call 85;exact Calls.quiet_of_same (HE.out _)))
 rename_i nq
 have hB:=below_drewN w nq
 generalize w.drewN nq=w2 at *
 go_wp2_with fail
 go_ret
 exact⟨retB (by rw[Bool.eq_iff_iff];simp),hB⟩
theorem sit_there{S:MS}{n vars:Nat}{σ:Sub}{now:List Goal}{D:Int→Prop}{Sc:Int→Nat}(h:Sit S n vars σ now D Sc):There S.mac.H S.mac.G S.mac.T S.mac.Q:=by
 refine⟨fun i hi=>?_,fun g hg=>?_,fun x hx=>?_,fun x hx=>?_⟩
 ·rcases cell_right (h.hang.heap.cells i hi) with ⟨h1,h2,h3,h4⟩ | ⟨h1,h2,h3,h4,h5,h6⟩
  ·refine⟨fun _=>⟨h2,?_⟩,fun e=>?_⟩
   ·show (hc S.H i).n<(S.H.length:Int)
    omega
   ·have e':(hc S.H i).k=2:=e
    omega
  ·refine⟨fun e=>?_,fun _=>?_⟩
   ·have e':(hc S.H i).k=1:=e
    omega
   ·show (i:Int)+(hc S.H i).n<(S.H.length:Int)
    omega
 ·obtain⟨x,hx,rfl⟩:=List.mem_map.1 hg
  obtain⟨i,hi,rfl⟩:=List.getElem_of_mem hx
  have:=(h.goals i hi).1
  exact⟨by simp only[Gn.gl];omega,by simp only[Gn.gl,MS.mac];omega⟩
 ·obtain⟨y,hy,rfl⟩:=List.mem_map.1 hx
  have:=h.trail y hy
  exact⟨by omega,by simp only[MS.mac];omega⟩
 ·obtain⟨y,hy,rfl⟩:=List.mem_map.1 hx
  obtain⟨i,hi,rfl⟩:=List.getElem_of_mem hy
  have:=(h.query i hi).lt
  exact⟨by omega,by simp only[MS.mac];omega⟩
theorem unbind_cast(top:Nat):∀ (l:List Nat) (H:List HC),unbind (top:Int) (l.map fun x:Nat=>(x:Int)) H=unbindN top l H:=by
 intro l
 induction l with
 | nil=>intro H;rfl
 | cons x r ih =>
  intro H
  simp only[List.map_cons,unbind,unbindN]
  rw[← ih]
  by_cases h:x<top
  ·rw[if_pos h,if_pos (by omega)];rfl
  ·rw[if_neg h,if_neg (by omega)]
theorem undo_mac(S:MS)(c:Cn):undoM S.mac c.chi=(undoS S c).mac:=by
 simp only[undoM,undoS,MS.mac,Cn.chi,Int.toNat_natCast,← List.map_drop,unbind_cast,List.map_take]
theorem chr_lasting{p:List Cl}{vars:Nat}:∀ {cs:List Cn} {ds:List PCh} {S:MS},ChR p vars S cs ds→Lasting (cs.map Cn.chi) S.mac:=by
 intro cs
 induction cs with
 | nil=>intro ds S h;trivial
 | cons c cs ih =>
  intro ds S h
  cases ds with
  | nil=>exact h.elim
  | cons d ds =>
   obtain⟨⟨-,-,-,D,Sc,hs⟩,h2⟩:=h
   simp only[List.map_cons,Lasting,undo_mac]
   exact⟨sit_there hs,ih h2⟩
theorem choices_snoc{np ng nh nt:Nat}{c:Chi}:∀ (l:List Chi) (was:Chi),ChoicesOk np ng nh nt was l→ChoiceOk np ng nh nt ((was::l).getLast (List.cons_ne_nil _ _)) c→ChoicesOk np ng nh nt was (l++[c]):=by
 intro l
 induction l with
 | nil=>intro was _ h;exact⟨h,trivial⟩
 | cons a l ih =>
  intro was h k
  refine⟨h.1,ih a h.2 ?_⟩
  rwa [List.getLast_cons (List.cons_ne_nil _ _)] at k
theorem choices_mono{np ng nh nt ng' nh' nt':Nat}(h1:ng≤ng')(h2:nh≤nh')(h3:nt≤nt'):∀ (l:List Chi) (was:Chi),ChoicesOk np ng nh nt was l→ChoicesOk np ng' nh' nt' was l:=by
 intro l
 induction l with
 | nil=>intro was _;trivial
 | cons a l ih =>
  intro was h
  obtain⟨k,h⟩:=h
  have g1:=k.goal.2;have g2:=k.heap.2;have g3:=k.trail.2;have g4:=k.goals.2
  exact⟨⟨⟨k.goal.1,by omega⟩,k.clause,⟨k.heap.1,by omega⟩,⟨k.trail.1,by omega⟩,⟨k.goals.1,by omega⟩,k.own⟩,ih a h⟩
theorem within_len{S:MS}{c:Cn}(w:Within S c):(undoS S c).H.length=c.heap∧(undoS S c).T.length=c.trail∧(undoS S c).G.length=c.goals:=by
 obtain⟨w1,w2,w3⟩:=w
 unfold undoS
 simp only[List.length_take,unbindN_length]
 omega
theorem chr_choices{p:List Cl}{vars:Nat}:∀ {cs:List Cn} {ds:List PCh} {S:MS},ChR p vars S cs ds→ChoicesOk p.length S.G.length S.H.length S.T.length zeroChi (cs.reverse.map Cn.chi):=by
 intro cs
 induction cs with
 | nil=>intro ds S h;trivial
 | cons c cs ih =>
  intro ds S h
  cases ds with
  | nil=>exact h.elim
  | cons d ds =>
   obtain⟨⟨w,⟨c1,c2⟩,⟨d1,-⟩,D,Sc,hs⟩,h2⟩:=h
   obtain⟨l1,l2,l3⟩:=within_len w
   have hi:=ih h2
   rw[l1,l2,l3] at hi
   obtain⟨w1,w2,w3⟩:=w
   rw[List.reverse_cons,List.map_append]
   refine choices_snoc _ _ (choices_mono w3 w1 w2 _ _ hi) ?_
   obtain⟨g,r,-,-,-,⟨-,k1,k2,-⟩,-⟩:=hs.goal d1
   rw[l3] at k2
   have key:∃ b:Chi,((zeroChi::cs.reverse.map Cn.chi).getLast (List.cons_ne_nil _ _))=b∧b.heap≤(c.heap:Int)∧b.trail≤(c.trail:Int)∧b.goals≤(c.goals:Int):=by
    cases cs with
    | nil=>exact⟨_,rfl,by simp[zeroChi],by simp[zeroChi],by simp[zeroChi]⟩
    | cons c' cs =>
     cases ds with
     | nil=>exact h2.elim
     | cons d' ds =>
      obtain⟨v1,v2,v3⟩:=h2.1.within
      rw[l1] at v1;rw[l2] at v2;rw[l3] at v3
      refine⟨c'.chi,?_,by simp only[Cn.chi];omega,by simp only[Cn.chi];omega,by simp only[Cn.chi];omega⟩
      rw[List.getLast_cons (by simp)]
      simp
   obtain⟨b,hb,b1,b2,b3⟩:=key
   rw[hb]
   exact⟨⟨by simp only[Cn.chi];omega,by simp only[Cn.chi];omega⟩,⟨by simp only[Cn.chi];omega,by simp only[Cn.chi];omega⟩,⟨b1,by simp only[Cn.chi];omega⟩,⟨b2,by simp only[Cn.chi];omega⟩,⟨b3,by simp only[Cn.chi];omega⟩,by simp only[Cn.chi];omega⟩
theorem core_checks{p:List Cl}(hp:programE p=0){S:MS}{P:PS}(h:Core p S P)(hG:S.G.length≤5000)(hQ:S.Q.length≤12)(hs:S.steps≤400)(hf:S.fin≤4):checkM p S.mac=0:=by
 obtain⟨⟨D,Sc,hsit⟩,hch⟩:=h
 have hfirst:S.first≤S.G.length:=by
  by_cases hn:P.now = []
  ·rw[hsit.first.2 hn];exact Nat.zero_le _
  ·obtain⟨g,r,-,-,-,⟨-,-,k,-⟩,-⟩:=hsit.goal hn
   exact k
 have hH:checkH S.mac.H=0:=by
  rw[show S.mac.H=S.H from rfl]
  unfold checkH
  rw[if_neg (by have:=hsit.hang.heap.len;omega),firstCell_zero _ hsit.hang.heap.cells,if_neg (fun e=>e rfl),if_pos hsit.hang.heap.straight]
 have hg:GoalsOk S.mac.G:=fun i hi=>by
  have hi':i<S.G.length:=by simpa[MS.mac] using hi
  have e:S.mac.G[i]=(S.G[i]).gl:=by simp[MS.mac]
  rw[e]
  have:=(hsit.goals i hi').2
  exact⟨by simp only[Gn.gl];omega,by simp only[Gn.gl];omega,by simp only[Gn.gl];omega⟩
 have hc:=chr_choices hch
 rw[List.reverse_reverse] at hc
 have hl:=chr_lasting hch
 have e1:S.mac.ch.reverse=S.ch.reverse.map Cn.chi:=by simp only[MS.mac,List.map_reverse]
 have e2:S.mac.G.length=S.G.length:=by simp[MS.mac]
 have e3:S.mac.T.length=S.T.length:=by simp[MS.mac]
 have e4:S.mac.Q.length=S.Q.length:=by simp[MS.mac]
 unfold checkM
 rw[if_neg (fun e=>e hp),if_neg (fun e=>e hH),e2,e3,e4,if_neg (by omega),if_neg (by unfold thereB;rw[pd_true (sit_there hsit)];decide),if_neg (by rw[pd_true hg];decide),
  if_neg (fun e=>e ⟨by simp only[MS.mac];omega,by simp only[MS.mac];omega⟩),if_neg (by rw[pd_true (show ChoicesOk p.length S.G.length S.mac.H.length S.T.length zeroChi S.mac.ch from hc)];decide),e1,if_neg (by rw[pd_true hl];decide),
  if_neg (by rw[pd_true (show RangeOk S.mac from ⟨⟨by simp only[MS.mac];omega,by simp only[MS.mac];omega⟩,by simp only[MS.mac];omega,by simp only[MS.mac];omega⟩)];decide)]
theorem RUndoW{w:World}{Z:Nat→Prop}{R:Nat}{p:List Cl}{pa:Option Addr}{pc:Nat}{S:MS}{d:MAd}{wk:Nat}(h:RnAt w Z R p pa pc S.mac d wk){c:Cn}(hw:Within S c)(hl:S.H.length≤400000) :
 Calls Try.prog 84 #[.pointer (some ⟨R,1,none⟩),.agg #[.int .i64 (c.goal:Int),.int .i64 (c.clause:Int),.int .i64 (c.heap:Int),.int .i64 (c.trail:Int),.int .i64 (c.goals:Int)]] w fun e w' =>
  (∃ v,e=.returned v)∧Touch (RM R d) w w'∧RnAt w' Z R p pa pc (undoS S c).mac d wk:=by
 obtain⟨l1,l2,l3⟩:=within_len hw
 obtain⟨w1,w2,w3⟩:=hw
 have hne:=h.rows.ne
 unfold Nd at hne
 simp only[List.pairwise_cons,List.mem_cons,List.not_mem_nil,or_false,forall_eq_or_imp,forall_eq] at hne
 obtain⟨⟨hg,hc,ht',hq,ha⟩,-⟩:=hne
 have hR:=h.ne
 simp only[rws,List.mem_cons,List.not_mem_nil,or_false,forall_eq_or_imp,forall_eq] at hR
 obtain⟨rh,rg,rc,rt,rq,ra⟩:=hR
 have hmt:S.mac.T.length=S.T.length:=by simp[MS.mac]
 have hmg:S.mac.G.length=S.G.length:=by simp[MS.mac]
 have hU:UAt w R 1 (rvals pa p.length pc S.mac d wk).toArray 59 0 S.mac.H S.mac.T S.mac.G.length d.h d.t d.g d.hn d.tn d.gn:=by
  refine⟨h.blk,rfl,rfl,rfl,h.rows.h,?_,fun e=>rh ((bk_own _ _ _).symm.trans e),?_⟩
  ·obtain⟨a3,c3,e,hr⟩:=IsAt.of_row (ok:=fun b=>b≠R∧(Value.slice d.h S.mac.H.length d.hn).ownBlock≠some b) h.rows.t (fun b hb=>⟨fun e=>rt ((bk_own _ _ _).symm.trans (by rw[← e];exact hb)),fun e=>ht' b ((bk_own _ _ _).symm.trans e) ((bk_own _ _ _).symm.trans hb)⟩)
   injection e with q1 _ q2
   subst q1;subst q2
   exact hr
  ·obtain⟨a3,c3,e,hr⟩:=RwAt.of_row (ok:=fun _=>True) h.rows.g (flatG_length _) (fun _ _=>trivial)
   injection e with q1 _ q2
   subst q1;subst q2
   exact⟨hr.cap.1,hr.cap.2.1⟩
 refine(UndoMW hU (c:=c.chi) ⟨by simp only[Cn.chi];omega,by simp only[Cn.chi,MS.mac];omega⟩ ⟨by simp only[Cn.chi];omega,by rw[hmt];simp only[Cn.chi];omega⟩ ⟨by simp only[Cn.chi];omega,by rw[hmg];simp only[Cn.chi];omega⟩ (fun x hx=>by
  obtain⟨y,-,rfl⟩:=List.mem_map.1 hx
  omega) hl).mono ?_
 rintro e w' ⟨hv,ht,hb,ho⟩
 have htR:Touch (RM R d) w w':=ht.mono fun b _ e=>by
  rcases e with e | e
  ·exact .inl e
  ·exact .inr (by rw[← (bk_own _ _ _).symm.trans e];simp[rws])
 have ht2:Touch (fun b=>b=R∨bk d.h=some b∨Z b) w w':=ht.mono fun b _ e=>e.elim .inl fun e=>.inr (.inl ((bk_own _ _ _).symm.trans e))
 have hzz:∀ y:Option Addr,bk y∈rws d→∀ b,bk y=some b→¬ Z b:=fun y hy b hb=>h.zr b (.inr (by rw[← hb];exact hy))
 simp only[Cn.chi,Int.toNat_natCast] at hb ho
 have e1:(undoS S c).mac.H.length=c.heap:=l1
 have e2:(undoS S c).mac.T.length=c.trail:=by simp only[MS.mac,List.length_map];exact l2
 have e3:(undoS S c).mac.G.length=c.goals:=by simp only[MS.mac,List.length_map];exact l3
 obtain⟨A,q1,q2,q3⟩:=h.rows.a
 refine⟨hv,htR,h.turn ?_ ⟨?_,?_,?_,?_,?_,⟨A,q1,?_,fun z hz=>ans_keep ht2 (by simp) (fun b hb=>.inl hb) (q3 z hz)⟩,h.rows.ne⟩ (htR.mono fun b _ e=>.inl e) (fun b hb=>.inl hb) (fun b hb=>h.zr b (.inr hb))⟩
 ·rw[hb]
  simp only[rvals,e1,e2,e3]
  rfl
 ·rw[e1]
  have e4:(unbind (c.heap:Int) (S.mac.T.drop c.trail) S.mac.H).take c.heap=(undoS S c).mac.H:=by
   simp only[MS.mac,undoS,← List.map_drop,unbind_cast]
  rw[← e4];exact ho
 ·have hr:=ownsRow_cut (row_keep ht2 h.rows.g rg (fun b e1 e2=>hg b e2 e1) (hzz _ (by simp[rws]))) (k:=c.goals) (by rw[hmg];exact w3)
  rw[e3]
  have e4:(undoS S c).mac.G=S.mac.G.take c.goals:=by simp only[MS.mac,undoS,List.map_take]
  rw[e4,flatG_take];exact hr
 ·exact row_keep ht2 h.rows.c rc (fun b e1 e2=>hc b e2 e1) (hzz _ (by simp[rws]))
 ·have hr:=ownsRow_cut (row_keep ht2 h.rows.t rt (fun b e1 e2=>ht' b e2 e1) (hzz _ (by simp[rws]))) (k:=c.trail) (by rw[hmt];exact w2)
  rw[e2]
  have e4:(undoS S c).mac.T=S.mac.T.take c.trail:=by simp only[MS.mac,undoS,List.map_take]
  rw[e4,List.map_take]
  rw[Nat.mul_one] at hr
  exact hr
 ·exact row_keep ht2 h.rows.q rq (fun b e1 e2=>hq b e2 e1) (hzz _ (by simp[rws]))
 ·exact row_keep ht2 q2 ra (fun b e1 e2=>ha b e2 e1) (hzz _ (by simp[rws]))
def readyE(p:List Cl)(q:List Tm)(steps:Int):Nat :=
 if programE p≠0 then programE p else if queryE q≠0 then queryE q else if 0≤steps∧steps≤400 then 0 else 3
set_option maxRecDepth 100000 in
set_option maxHeartbeats 1000000 in
theorem MReadyW{p:List Cl}{q:List Tm}{steps:Int}{w:World}{ok:Nat→Prop}{pa qa:Option Addr}{pc qc:Nat}(hp:Pr w ok p pa pc)(hq:Ts w ok q qa qc) :
 Calls Try.prog 41 #[.slice pa p.length pc,.slice qa q.length qc,.int .i64 steps] w fun e w'=>e=.returned (.int .i64 (readyE p q steps:Nat))∧Below w.heap.size w w':=by
 have HC:=lh (ClausesW p w ok pa pc hp)
 have HQ:Hid (∀ u,Below w.heap.size w u→Calls Try.prog 46 #[.slice qa q.length qc] u fun e w'=>e=.returned (.int .i64 (queryE q:Nat))∧Below w.heap.size w w'):=lh fun u hu=>(QueryW q u ok qa qc (hq.keep (Keeps.below hu _))).mono fun e w' h=>⟨h.1,hu.trans (h.2.mono hu.size)⟩
 clear hp hq
 by_cases h1:programE p=0
 ·rw[h1] at HC
  by_cases h2:queryE q=0
  ·rw[h2] at HQ
   by_cases h3:0≤steps∧steps≤400
   ·have hE:readyE p q steps=0:=by unfold readyE;rw[if_neg (fun e=>e h1),if_neg (fun e=>e h2),if_pos h3]
    rw[hE]
    have HB:=lh (betw_true h3)
    clear h1 h2 h3 hE
    go_enter Try.func41,Try.ntmps41
    go_wp2_with (first
     | (go_at_call 45;refine HC.out.mono ?_;rintro e w1 ⟨rfl,hb1⟩;have HB1:=lh hb1;clear hb1)
     | (go_at_call 46;refine(HQ.out _ HB1.out).mono ?_;rintro e w2 ⟨rfl,hb2⟩;have HB2:=lh hb2;clear hb2)
     | (go_at_call 53;refine(withinW _ _ _ _).mono ?_;rintro e w3 ⟨rfl,rfl⟩;rw[HB.out]))
    go_ret
    exact⟨rfl,HB2.out⟩
   ·have hE:readyE p q steps=3:=by unfold readyE;rw[if_neg (fun e=>e h1),if_neg (fun e=>e h2),if_neg h3]
    rw[hE]
    have HB:=lh (betw_false h3)
    clear h1 h2 h3 hE
    go_enter Try.func41,Try.ntmps41
    go_wp2_with (first
     | (go_at_call 45;refine HC.out.mono ?_;rintro e w1 ⟨rfl,hb1⟩;have HB1:=lh hb1;clear hb1)
     | (go_at_call 46;refine(HQ.out _ HB1.out).mono ?_;rintro e w2 ⟨rfl,hb2⟩;have HB2:=lh hb2;clear hb2)
     | (go_at_call 53;refine(withinW _ _ _ _).mono ?_;rintro e w3 ⟨rfl,rfl⟩;rw[HB.out]))
    go_ret
    exact⟨rfl,HB2.out⟩
  ·have hE:readyE p q steps=queryE q:=by unfold readyE;rw[if_neg (fun e=>e h1),if_pos h2]
   rw[hE]
   obtain⟨k,hk⟩:∃ k,queryE q=k:=⟨_,rfl⟩
   rw[hk] at HQ h2 ⊢
   have hz:((k:Int) == 0)=false:=by rw[beq_eq_false_iff_ne];omega
   have HB:=lh (rfl:betw steps 0 400=betw steps 0 400)
   clear h1 hE hk
   go_enter Try.func41,Try.ntmps41
   go_wp2_with (first
    | (go_at_call 45;refine HC.out.mono ?_;rintro e w1 ⟨rfl,hb1⟩;have HB1:=lh hb1;clear hb1)
    | (go_at_call 46;refine(HQ.out _ HB1.out).mono ?_;rintro e w2 ⟨rfl,hb2⟩;have HB2:=lh hb2;clear hb2)
    | (go_at_call 53;refine(withinW _ _ _ _).mono ?_;rintro e w3 ⟨rfl,rfl⟩;rw[HB.out]))
   go_ret
   exact⟨rfl,HB2.out⟩
 ·have hE:readyE p q steps=programE p:=by unfold readyE;rw[if_pos h1]
  rw[hE]
  obtain⟨k,hk⟩:∃ k,programE p=k:=⟨_,rfl⟩
  rw[hk] at HC h1 ⊢
  have hz:((k:Int) == 0)=false:=by rw[beq_eq_false_iff_ne];omega
  have HB:=lh (rfl:betw steps 0 400=betw steps 0 400)
  clear hE hk
  go_enter Try.func41,Try.ntmps41
  go_wp2_with (first
   | (go_at_call 45;refine HC.out.mono ?_;rintro e w1 ⟨rfl,hb1⟩;have HB1:=lh hb1;clear hb1)
   | (go_at_call 46;refine(HQ.out _ HB1.out).mono ?_;rintro e w2 ⟨rfl,hb2⟩;have HB2:=lh hb2;clear hb2)
   | (go_at_call 53;refine(withinW _ _ _ _).mono ?_;rintro e w3 ⟨rfl,rfl⟩;rw[HB.out]))
  go_ret
  exact⟨rfl,HB1.out⟩
theorem RnAt.rowH{w w1:World}{Z:Nat→Prop}{R:Nat}{p:List Cl}{pa:Option Addr}{pc:Nat}{m:Mac}{d:MAd}{wk:Nat}(h:RnAt w Z R p pa pc m d wk)(ht:Touch (fun b=>bk d.h=some b) w w1){L:List HC}(hx:HOwn w1 0 (.slice d.h L.length d.hn) L)(hl:L.length=m.H.length)(hzn:∀ b,Z b→b<w.heap.size):RnAt w1 Z R p pa pc { m with H:=L } d wk∧Touch (RM R d) w w1:=by
 obtain⟨h1,-⟩:=h.putH (ht.mono fun b _ e=>.inl e) hx (.inl rfl) hzn
 have hR:=h.ne
 simp only[rws,List.mem_cons,List.not_mem_nil,or_false,forall_eq_or_imp,forall_eq] at hR
 have hb1:w1.heap[R]? = some (.cells (rvals pa p.length pc m d wk).toArray 59 (0,0)):=(ht.block R h.lt hR.1).trans h.blk
 have hs:∀ b,w1.heap[b]? = (w1.setCell ⟨R,1,none⟩ (.slice d.h L.length d.hn)).heap[b]?:=fun b=>by
  by_cases e:b=R
  ·subst e
   rw[heap_setCell_at w1 b 1 _ hb1,hb1,hl];rfl
  ·exact(Below.heap_setCell _ _ _ _ e).symm
 have ht1:Touch (fun _=>False) (w1.setCell ⟨R,1,none⟩ (.slice d.h L.length d.hn)) w1:=⟨rfl,rfl,rfl,by simp[World.setCell],fun b _ _=>hs b⟩
 exact⟨h1.keep ht1 fun _ _ e=>e.elim,ht.mono fun b _ e=>.inr (by rw[← e];simp[rws])⟩
theorem msame_is{S:MS}(hI:HInv S.H)(h0:S.fin=0)(hf4:S.f≤4000){a b:Nat}(ha:a<S.H.length)(hb:b<S.H.length){T:TypeId}{w w':World}{bs g cap:Nat}{tv:Value}{e:Ending}(h:BSamePost T w bs g cap tv (meetH S.H [] S.f [(a,b)]) e w') :
 ∃ (K:List HC) (B:List Nat) (wk:Nat) (ok:Bool) (en:Nat) (tv':Value),e=.returned (.tuple #[.bool ok,.int .i64 (en:Nat)])∧BAt T w' bs g cap tv' K B wk∧Fresh w tv tv'∧K.length=S.H.length∧B.length≤4000∧(msame a b S).2=ok∧(en=0∨en=2∧ok=false) ∧
  (msame a b S).1.mac = { S.mac with H:=K,T:=(S.T++B).map fun x:Nat=>(x:Int),fin:=if en=0 then 0 else 3 }∧((msame a b S).1.fin=0→wk=4000-(msame a b S).1.f):=by
 obtain⟨-,tv',hfr,hm⟩:=h
 have hk:=keep_meetH S.f S.H [] [(a,b)] hI (fun x hx=>by rw[List.mem_singleton] at hx;subst hx;exact⟨ha,hb⟩)
 have hr:=meetH_room S.f S.H [] [(a,b)] hI (fun x hx=>by rw[List.mem_singleton] at hx;subst hx;exact⟨ha,hb⟩) 4000 (by simp;omega)
 cases ho:meetH S.H [] S.f [(a,b)] with
 | ok K B f =>
  rw[ho] at hm hk hr
  obtain⟨rfl,hb⟩:=hm
  exact⟨K,B,_,true,0,tv',rfl,hb,hfr,hk.1,hr,by simp only[msame,ho],.inl rfl,by simp only[msame,ho,MS.mac,if_true,h0];rfl,fun _=>by simp only[msame,ho]⟩
 | no K B f =>
  rw[ho] at hm hk hr
  obtain⟨rfl,hb⟩:=hm
  exact⟨K,B,_,false,0,tv',rfl,hb,hfr,hk.1,hr,by simp only[msame,ho],.inl rfl,by simp only[msame,ho,MS.mac,if_true,h0];rfl,fun _=>by simp only[msame,ho]⟩
 | many K B =>
  rw[ho] at hm hk hr
  obtain⟨rfl,hb⟩:=hm
  exact⟨K,B,_,false,2,tv',rfl,hb,hfr,hk.1,hr,by simp only[msame,ho],.inr ⟨rfl,rfl⟩,by simp only[msame,ho,MS.mac];rw[if_neg (by decide)];rfl,fun e=>by simp only[msame,ho] at e;cases e⟩
def RSamePost(w:World)(Z:Nat→Prop)(R:Nat)(p:List Cl)(pa:Option Addr)(pc:Nat)(d:MAd)(r:MS×Bool)(e:Ending)(w':World):Prop :=
 e=.returned (.bool r.2)∧Touch (RM R d) w w'∧∃ d' wk',FreshD w d d'∧RnAt w' Z R p pa pc r.1.mac d' wk'∧(r.1.fin=0→wk'=4000-r.1.f)
set_option maxRecDepth 100000 in
set_option maxHeartbeats 3200000 in
theorem RSameW{w:World}{Z:Nat→Prop}{R:Nat}{p:List Cl}{pa:Option Addr}{pc:Nat}{S:MS}{d:MAd}(h:RnAt w Z R p pa pc S.mac d (4000-S.f))(hf4:S.f≤4000)(hI:HInv S.H){a b:Nat}(ha:a<S.H.length)(hb:b<S.H.length)(hT:S.T.length≤100000000)(h0:S.fin=0)(hzn:∀ b,Z b→b<w.heap.size) :
 Calls Try.prog 89 #[.pointer (some ⟨R,0,none⟩),.int .i64 a,.int .i64 b] w (RSamePost w Z R p pa pc d (msame a b S)):=by
 obtain⟨c0,c1,c2,c3,c4,c5,c6,c7,c8,c9,c10,cf⟩:=h.cells
 have zR:=h.lt
 have hrow:w.ownsRow 0 69 3 (.slice d.h S.H.length d.hn) S.H.length (flatH S.H):=h.rows.h.row
 obtain⟨g,cap,hgv⟩:=own_shape hrow (by omega)
 injection hgv with e1 _ e2
 have HD:=lh e1
 have hgk:bk d.h=some g:=by rw[e1];rfl
 have hgR:g≠R:=fun e=>h.ne (bk d.h) (by simp[rws]) (by rw[hgk,e])
 have hglt:g<w.heap.size:=h.rows.lt g (by rw[← hgk];simp[rws])
 have hc1:w.cell? ⟨R,1,none⟩=some (.slice (some ⟨g,0,none⟩) S.H.length cap):=by rw[← e1,← e2];exact c1
 rw[e1,e2] at hrow
 have HE2:=lh e2
 have HI:=lh hI;have H0:=lh h0;have HF4:=lh hf4;have HA:=lh ha;have HB:=lh hb;have HGK:=lh hgk;have HTL:=lh hT;have HZN:=lh hzn
 have HB1:Hid (Below w.heap.size w (w.alloc (.cells #[.slice (some ⟨g,0,none⟩) S.H.length cap,.slice none 0 0,.int .i64 ((4000-S.f:Nat):Int)] 164)).drew):=lh (((Below.refl _ _).alloc (Nat.le_refl _) _).drew)
 have HBT:Hid (BAt 164 (w.alloc (.cells #[.slice (some ⟨g,0,none⟩) S.H.length cap,.slice none 0 0,.int .i64 ((4000-S.f:Nat):Int)] 164)).drew w.heap.size g cap (.slice none 0 0) S.H [] (4000-S.f)):=lh ⟨heap_alloc_new w _,ownsRow_below hrow HB1.out,h.rows.h.fits,World.ownsRow_nil _ _ _ _,by omega,by simp[Value.ownBlock],by simp[Value.ownBlock]⟩
 have HS:=lh (bsameW S.f S.H [] (.slice none 0 0) a b _ hf4 HBT.out hI (by simp;omega) ha hb)
 have HR:=lh h
 clear h hrow e1 e2 c1 hI h0 hf4 ha hb hgk hT hzn
 go_enter Try.func89,Try.ntmps89
 go_wp2_with fail
 go_region
 go_wp2_with (go_at_call 112;refine HS.out.mono ?_;rintro e w2 hp;have HP:=lh hp;obtain⟨K,B,wk2,okb,en,tv,rfl,hbt,hfr,hkl,hbl,hres,hen,hmac,hwk⟩:=msame_is HI.out H0.out HF4.out HA.out HB.out hp;have HBT2:=lh hbt;have HFR:=lh hfr;have HKL:=lh hkl;have HBL:=lh hbl;have HRES:=lh hres;have HEN:=lh hen;have HMAC:=lh hmac;have HWK:=lh hwk;have hT2:Touch (fun b=>b=g∨w.heap.size≤b) w w2:=(Touch.below HB1.out).trans (hp.1.mono fun b _ e=>e.elim (fun e=>.inr (by omega)) fun e=>e.elim .inl fun e=>by simp[Value.ownBlock] at e);have HT2:=lh hT2;obtain⟨a2,c2',hat,hisn⟩:=IsAt.of_row (ok:=fun b=>w.heap.size≤b) (l:=B.map fun v:Nat=>(v:Int)) (v:=tv) (by have:=hbt.bd;rw[List.length_map,List.map_map];exact this) (fun b hb=>HFR.out.elim (fun e=>by rw[e] at hb;simp[Value.ownBlock] at hb) fun e=>by have:=e b hb;have:=HB1.out.size;omega);have HIS:=lh hisn;clear hisn;subst hat;obtain⟨x0,x1,x2,-,-⟩:=hbt.cells;rw[List.length_map] at x1;have hR2:=HR.out.rowH (L:=K) (HT2.out.mono fun b hb e=>e.elim (fun e=>by rw[HGK.out,e]) fun e=>by omega) (by rw[HD.out,HE2.out];exact⟨HBT2.out.row,HBT2.out.fits⟩) HKL.out HZN.out;have HR2:=lh hR2.1;have HTM:=lh hR2.2;obtain⟨r0,r1,r2,r3,r4,r5,r6,r7,r8,r9,r10,rf⟩:=hR2.1.cells;clear hR2;clear hbt;clear hp hfr hkl hbl hres hen hmac hwk hT2)
 have HR3:=lh (HR2.out.putWork wk2).1
 have HTK:=lh (HR2.out.putWork wk2).2
 have zw2:w.heap.size<w2.heap.size:=HBT2.out.lt.1
 have y1:(w2.setCell ⟨R,10,none⟩ (.int .i64 (wk2:Int))).cell? ⟨w.heap.size,1,none⟩=some (.slice a2 B.length c2'):=(HTK.out.cell (p:=⟨w.heap.size,1,none⟩) zw2 fun e=>by have:=HR.out.rmlt _ e;simp at this).trans x1
 have HIS3:=lh (HIS.out.keep (HTK.out.keeps fun b hb e=>by have:=HR.out.rmlt _ e;omega))
 have hTL:=HTL.out
 have hBL:=HBL.out
 obtain⟨s0,s1,s2,s3,s4,s5,s6,s7,s8,s9,s10,sf⟩:=HR3.out.cells
 have hdt:(S.mac.T).length=S.T.length:=by simp[MS.mac]
 simp only[hdt] at s5
 have hw23:w2.heap.size≤(w2.setCell ⟨R,10,none⟩ (.int .i64 (wk2:Int))).heap.size:=HTK.out.size
 generalize w2.setCell ⟨R,10,none⟩ (.int .i64 (wk2:Int))=w3 at *
 have HO1:Hid (w3.drew.ownsRow 0 3 1 (.slice d.t S.T.length d.tn) S.T.length (S.T.map fun x:Nat=>Value.int .i64 (x:Int))):=lh (by
  have h1:=HR3.out.rows.t
  have h2:=ownsRow_below h1 ((Below.refl w3.heap.size w3).drew)
  simpa[MS.mac,Function.comp_def] using h2)
 have HNW:Hid (∀ ad,a2=some ad→∀ j u,(flatN B)[j]? = some u→w3.drew.cell? (ad.add j)=some u):=lh fun ad had j u hu=>by
  subst had
  have:=HIS3.out.rw'.news j u (by simpa[flatN,Function.comp_def] using hu)
  exact this
 have hane:a2=none→B.length=0:=fun e=>by have:=HIS3.out.cap;have h2:=this.2.2 e;have:=this.1;simp at this;omega
 obtain⟨i0,hi0,hz0,hz1,hz2⟩:=info_parts Try.infoInt
 go_region_law ((
  refine step_append_opt _ (by rfl) _ _ _ (by rfl) 0 3 i0 _ 1 8 Try.underlying27 hi0 hz0 hz1 hz2 rfl (by decide) (.slice d.t S.T.length d.tn) S.T.length (S.T.map fun x:Nat=>Value.int .i64 (x:Int)) (by rfl) HO1.out a2 B.length c2' hane (flatN B) (by rfl) (by simp[flatN]) HNW.out (by intro u hu;obtain⟨x,_,rfl⟩:=List.mem_map.1 hu;rfl) (by unfold maxLen;omega) (by omega) (Nat.zero_le _) ?_
  intro v4 w4 hown4 hgrow4 hfr4
  obtain⟨a4,c4,rfl⟩:=ownsRow_form hown4
  have HOWN4:=lh hown4;have HGR4:=lh hgrow4;have HFR4:=lh hfr4
  have hRb:w4.heap[R]? = w3.heap[R]?:=hgrow4.block R HR3.out.lt (fun e=>HR3.out.ne (bk d.t) (by simp[rws]) ((bk_own d.t S.T.length d.tn).symm.trans e.symm))
  have z5:w4.cell? ⟨R,5,none⟩=some (.slice d.t S.T.length d.tn):=(World.cell?_of_block hRb).trans s5
  have zf:∀ o,w4.frozen? ⟨R,o,none⟩=false:=fun o=>by have:=sf o;simpa[World.frozen?,hRb] using this
  clear hown4 hgrow4 hfr4))
 all_goals
  have hLl:((S.T++B).map fun x:Nat=>(x:Int)).length=S.T.length+B.length:=by simp
  have HX4:Hid (RnAt (w4.setCell ⟨R,5,none⟩ (.slice a4 (S.T.length+B.length) c4)) Z R p pa pc { S.mac with H:=K,T:=(S.T++B).map fun x:Nat=>(x:Int) } { d with t:=a4,tn:=c4 } wk2∧Touch (RM R d) w3 (w4.setCell ⟨R,5,none⟩ (.slice a4 (S.T.length+B.length) c4))∧FreshD w3 d { d with t:=a4,tn:=c4 }):=lh (by
   have h3:=HR3.out.below ((Below.refl w3.heap.size w3).drew)
   have ht4:Touch (fun b=>bk d.t=some b) w3.drew w4:=Touch.grown HGR4.out fun k e=>(bk_own d.t S.T.length d.tn).symm.trans e
   have hf4:bk a4=bk d.t∨∀ b,bk a4=some b→w3.drew.heap.size≤b:=HFR4.out.elim (fun e=>.inl ((bk_own _ _ _).symm.trans (e.trans (bk_own _ _ _)))) fun e=>.inr fun b hb=>e b ((bk_own _ _ _).trans hb)
   obtain⟨q1,-⟩:=h3.putT (L:=(S.T++B).map fun x:Nat=>(x:Int)) (a:=a4) (n:=c4) (ht4.mono fun b _ e=>.inl e) (by rw[hLl];have:=HOWN4.out;simpa[flatN,Function.comp_def] using this) hf4 (fun b hb=>by have:=HZN.out b hb;have:=HTM.out.size;have:=HTK.out.size;exact Nat.lt_of_lt_of_le (HZN.out b hb) (Nat.le_trans HTM.out.size (Nat.le_trans HTK.out.size (Below.refl w3.heap.size w3).drew.size)))
   rw[hLl] at q1
   have q2:Touch (RM R d) w3.drew (w4.setCell ⟨R,5,none⟩ (.slice a4 (S.T.length+B.length) c4)):=(ht4.mono fun b _ e=>.inr (by rw[← e];simp[rws])).trans (Touch.setCell _ (.inl rfl))
   refine⟨q1,(Touch.below ((Below.refl w3.heap.size w3).drew)).trans q2,fun b hb=>?_⟩
   simp only[rws,List.mem_cons,List.not_mem_nil,or_false] at hb ⊢
   rcases hf4 with e | e
   ·rw[e] at hb;exact .inl hb
   ·rcases hb with e1 | e1 | e1 | e1 | e1 | e1
    ·exact .inl (.inl e1)
    ·exact .inl (.inr (.inl e1))
    ·exact .inl (.inr (.inr (.inl e1)))
    ·exact .inr (e b e1.symm)
    ·exact .inl (.inr (.inr (.inr (.inr (.inl e1)))))
    ·exact .inl (.inr (.inr (.inr (.inr (.inr e1))))))
  have HTW:Hid (Touch (RM R d) w (w4.setCell ⟨R,5,none⟩ (.slice a4 (S.T.length+B.length) c4))∧FreshD w d { d with t:=a4,tn:=c4 }):=lh ⟨(HTM.out.trans HTK.out).trans HX4.out.2.1,fun b hb=>(HX4.out.2.2 b hb).imp id fun e=>by have:=HTM.out.size;omega⟩
  obtain⟨-,-,-,-,-,-,-,-,j8,-,-,jf⟩:=HX4.out.1.cells
  have zR4:=HX4.out.1.lt
  clear hLl
  generalize w4.setCell ⟨R,5,none⟩ (.slice a4 (S.T.length+B.length) c4)=w5 at *
  rcases HEN.out with rfl | ⟨rfl,rfl⟩
  ·have HF:Hid (RnAt w5 Z R p pa pc (msame a b S).1.mac { d with t:=a4,tn:=c4 } wk2):=lh (by
    have e:(msame a b S).1.mac = { S.mac with H:=K,T:=(S.T++B).map fun x:Nat=>(x:Int) }:=by
     rw[HMAC.out,if_pos rfl]
     have:=H0.out
     simp only[MS.mac,this];rfl
    rw[e];exact HX4.out.1)
   cases okb with
   | true =>
    go_wp2_with fail
    go_ret
    exact⟨by rw[HRES.out];rfl,HTW.out.1,_,wk2,HTW.out.2,HF.out,HWK.out⟩
   | false =>
    go_wp2_with fail
    go_ret
    exact⟨by rw[HRES.out];rfl,HTW.out.1,_,wk2,HTW.out.2,HF.out,HWK.out⟩
  ·have HF:Hid (RnAt (w5.setCell ⟨R,8,none⟩ (.int .i64 3)) Z R p pa pc (msame a b S).1.mac { d with t:=a4,tn:=c4 } wk2∧Touch (RM R { d with t:=a4,tn:=c4 }) w5 (w5.setCell ⟨R,8,none⟩ (.int .i64 3))):=lh (by
    have e:(msame a b S).1.mac = { S.mac with H:=K,T:=(S.T++B).map fun x:Nat=>(x:Int),fin:=3 }:=by
     rw[HMAC.out,if_neg (by decide)]
    rw[e];exact HX4.out.1.putFin 3)
   go_wp2_with fail
   go_ret
   exact⟨by rw[HRES.out];rfl,rm_next HTW.out.1 HTW.out.2 HF.out.2,_,wk2,HTW.out.2,HF.out.1,HWK.out⟩
end Go.Proofs.Ytikmgiapjigghab
