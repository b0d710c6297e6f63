/- Goals pushed, one by one: what lies there while they are. -/
import Derived.Test.YtikmgiapjigghabCb03
import Derived.Test.YtikmgiapjigghabCb11
import Derived.Test.YtikmgiapjigghabCb24
import Derived.Test.YtikmgiapjigghabCb25
import Derived.Test.YtikmgiapjigghabCb27
import Derived.Test.YtikmgiapjigghabCb28
import Derived.Test.YtikmgiapjigghabCb29
namespace Go.Proofs.Ytikmgiapjigghab
open Go.RowKit
def pg(S:MS)(V:CV)(l:List Tm)(cut nx i:Nat):List Gn×Nat:=pushG cut ((putL S.H V l).2.reverse.take i) (S.G,nx)
theorem pg_succ(S:MS)(V:CV)(l:List Tm)(cut nx:Nat){i:Nat}(h:i<(putL S.H V l).2.length) :
 pg S V l cut nx (i+1)=((pg S V l cut nx i).1++[⟨(putL S.H V l).2.getD ((putL S.H V l).2.length-1-i) 0,cut,(pg S V l cut nx i).2⟩],(pg S V l cut nx i).1.length+1):=by
 have hr:i<(putL S.H V l).2.reverse.length:=by rw[List.length_reverse];exact h
 unfold pg
 rw[List.take_succ_eq_append_getElem hr,pushG_append]
 simp only[pushG,List.getElem_reverse]
 rw[List.getD_eq_getElem?_getD,List.getElem?_eq_getElem (by omega)]
 rfl
theorem pg_len(S:MS)(V:CV)(l:List Tm)(cut nx:Nat):∀ i,i≤(putL S.H V l).2.length→(pg S V l cut nx i).1.length=S.G.length+i:=by
 intro i
 induction i with
 | zero=>intro _;rfl
 | succ i ih=>intro h;rw[pg_succ S V l cut nx (by omega)];have:=ih (by omega);simp only[List.length_append,List.length_singleton];omega
theorem pg_all(S:MS)(V:CV)(l:List Tm)(cut nx:Nat):pg S V l cut nx (putL S.H V l).2.length=pushG cut (putL S.H V l).2.reverse (S.G,nx):=by
 unfold pg
 rw[List.take_of_length_le (by rw[List.length_reverse];exact Nat.le_refl _)]
theorem ownsRow_isCells{w:World}{base:Nat}{e:TypeId}{size:Nat}{v:Value}{n:Nat}{xs:List Value}(h:w.ownsRow base e size v n xs){g:Nat}(hg:v.ownBlock=some g){o:Obj}(ho:w.heap[g]? = some o):o.isCells=true:=by
 rcases h.2 with ⟨h1,h2⟩ | ⟨g',cap,cur,rfl,h3,h4,r⟩
 ·rw[h1] at hg;simp[Value.ownBlock] at hg
 ·have e:g'=g:=by simpa[Value.ownBlock] using hg
  subst e
  rw[h4] at ho
  cases ho
  rfl
structure PJ(w0 W:World)(R:Nat)(pa:Option Addr)(np pc:Nat)(m:Mac)(d:MAd)(wk:Nat)(L:List Gl)(f:Int)(a:Option Addr)(n:Nat):Prop where
 blk:W.heap[R]? = some (.cells (rvals pa np pc { m with G:=L,first:=f } { d with g:=a,gn:=n } wk).toArray 59 (0,0))
 g:W.ownsRow 0 65 3 (.slice a L.length n) L.length (flatG L)
 fr:bk a=bk d.g∨∀ b,bk a=some b→w0.heap.size≤b
 t:Touch (fun b=>b=R∨bk d.g=some b∨w0.heap.size≤b) w0 W
section
variable {w0 W W':World} {R:Nat} {pa:Option Addr} {np pc:Nat} {m:Mac} {d:MAd} {wk:Nat} {L:List Gl} {f:Int} {a:Option Addr} {n:Nat}
theorem PJ.step(hR:R<w0.heap.size)(h:PJ w0 W R pa np pc m d wk L f a n){row:Option Nat}(hg:W.grownBy W' row)(hr:∀ r,row=some r→w0.heap.size≤r∧∃ o:Obj,W.heap[r]? = some o∧o.isCells=false):PJ w0 W' R pa np pc m d wk L f a n:=by
 have ht:Touch (fun k=>row=some k) W W':=Touch.grown hg fun k e=>e
 have hs:=h.t.size
 refine⟨?_,ownsRow_block h.g fun g hg'=>ht.block g (h.g.lt g hg').2 fun e=>?_,h.fr,h.t.trans (ht.mono fun b _ e=>.inr (.inr (hr b e).1))⟩
 ·rw[ht.block R (by omega) fun e=>by have:=(hr R e).1;omega];exact h.blk
 ·obtain⟨-,o,ho,hc⟩:=hr g e
  rw[ownsRow_isCells h.g hg' ho] at hc
  cases hc
theorem PJ.own{β:Type}(hR:R<w0.heap.size)(q:β→Prop)(L:β→List Gl)(f:β→Int):OwnFrom w0.heap.size (fun (i:β) W=>q i∧∃ a n,PJ w0 W R pa np pc m d wk (L i) (f i) a n):=by
 rintro i W W' row ⟨hq,a,n,h⟩ hg hr
 exact⟨hq,a,n,h.step hR hg hr⟩
theorem PJ.bkR(hR:R<w0.heap.size)(hg:bk d.g≠some R)(h:PJ w0 W R pa np pc m d wk L f a n):bk a≠some R:=fun e=>by
 rcases h.fr with k | k
 ·exact hg (k.symm.trans e)
 ·have:=k R e;omega
theorem PJ.cells(h:PJ w0 W R pa np pc m d wk L f a n) :
 W.cell? ⟨R,1,none⟩=some (.slice d.h m.H.length d.hn)∧W.cell? ⟨R,2,none⟩=some (.slice a L.length n)∧W.cell? ⟨R,3,none⟩=some (.int .i64 f)∧∀ o,W.frozen? ⟨R,o,none⟩=false:=by
 have h':=h.blk
 refine⟨?_,?_,?_,fun o=>by simp[World.frozen?,h']⟩
 all_goals simp[World.cell?,h',rvals]
theorem PJ.lt(h:PJ w0 W R pa np pc m d wk L f a n):R<W.heap.size:=(Array.getElem?_eq_some_iff.1 h.blk).1
theorem PJ.below(h:PJ w0 W R pa np pc m d wk L f a n)(hb:Below W.heap.size W W'):PJ w0 W' R pa np pc m d wk L f a n :=
 ⟨(hb.block R h.lt).trans h.blk,ownsRow_block h.g fun g hg=>hb.block g (h.g.lt g hg).2,h.fr,h.t.trans ((Touch.below hb:Touch (fun _=>False) W W').mono fun _ _ e=>e.elim)⟩
theorem PJ.first(hR:R<w0.heap.size)(hg:bk d.g≠some R)(h:PJ w0 W R pa np pc m d wk L f a n)(v:Int):PJ w0 (W.setCell ⟨R,3,none⟩ (.int .i64 v)) R pa np pc m d wk L v a n:=by
 refine⟨?_,ownsRow_block h.g fun g hg'=>Below.heap_setCell _ _ _ _ fun e=>?_,h.fr,h.t.trans (Touch.setCell _ (.inl rfl))⟩
 ·rw[heap_setCell_at W R 3 _ h.blk];rfl
 ·exact h.bkR hR hg ((bk_own _ _ _).symm.trans (by rw[← (show g=R from e)];exact hg'))
theorem PJ.next(hR:R<w0.heap.size)(hg:bk d.g≠some R)(h:PJ w0 W R pa np pc m d wk L f a n){X w7:World}(hX:Below W.heap.size W X){x:Gl}{a7:Option Addr}{n7:Nat}(ho:w7.ownsRow 0 65 3 (.slice a7 (L.length+1) n7) (L.length+1) (flatG L++flatG [x]))
 (hgr:X.grownBy w7 (Value.slice a L.length n).ownBlock) (hf:Fresh X (.slice a L.length n) (.slice a7 (L.length+1) n7)) :
 PJ w0 (w7.setCell ⟨R,2,none⟩ (.slice a7 (L.length+1) n7)) R pa np pc m d wk (L++[x]) f a7 n7∧Touch (fun b=>b=R∨bk a=some b) W (w7.setCell ⟨R,2,none⟩ (.slice a7 (L.length+1) n7)):=by
 have haR:=h.bkR hR hg
 have hs:=h.t.size
 have hsX:=hX.size
 have ht:Touch (fun b=>bk a=some b) X w7:=Touch.grown hgr fun k e=>(bk_own a L.length n).symm.trans e
 have hb7:w7.heap[R]? = W.heap[R]?:=(ht.block R (Nat.lt_of_lt_of_le h.lt hsX) haR).trans (hX.block R h.lt)
 have hfr:bk a7=bk a∨∀ b,bk a7=some b→X.heap.size≤b:=hf.elim (fun e=>.inl ((bk_own _ _ _).symm.trans (e.trans (bk_own _ _ _)))) fun e=>.inr fun b hb=>e b ((bk_own _ _ _).trans hb)
 have hl:(L++[x]).length=L.length+1:=by simp
 have hT:Touch (fun b=>b=R∨bk a=some b) W (w7.setCell ⟨R,2,none⟩ (.slice a7 (L.length+1) n7)):=(Touch.below hX).trans ((ht.mono fun b _ e=>.inr e).trans (Touch.setCell _ (.inl rfl)))
 refine⟨⟨?_,?_,?_,h.t.trans (hT.mono fun b _ e=>?_)⟩,hT⟩
 ·rw[heap_setCell_at w7 R 2 _ (hb7.trans h.blk)]
  simp[rvals]
 ·rw[hl,flatG_append]
  refine ownsRow_block ho fun g hg'=>Below.heap_setCell _ _ _ _ fun e=>?_
  subst e
  have hk:=(bk_own _ _ _).symm.trans hg'
  rcases hfr with k | k
  ·exact haR (k.symm.trans hk)
  ·have:=k g hk;have:=h.lt;omega
 ·rcases hfr with k | k
  ·rw[k];exact h.fr
  ·exact .inr fun b hb=>by have:=k b hb;omega
 ·rcases e with e | e
  ·exact .inl e
  ·rcases h.fr with k | k
   ·exact .inr (.inl (k.symm.trans e))
   ·exact .inr (.inr (k b e))
theorem PJ.done{Z:Nat→Prop}{p:List Cl}(h0:RnAt w0 Z R p pa pc m d wk)(hzn:∀ b,Z b→b<w0.heap.size)(h:PJ w0 W R pa p.length pc m d wk L f a n):RnAt W Z R p pa pc { m with G:=L,first:=f } { d with g:=a,gn:=n } wk:=by
 have hR:=h0.lt
 have hg:bk d.g≠some R:=h0.ne _ (by simp[rws])
 have haR:=h.bkR hR hg
 obtain⟨W1,hW1⟩:∃ W1,W1=W.putObj R (.cells (rvals pa p.length pc m d wk).toArray 59 (0,0)):=⟨_,rfl⟩
 have hb1:W1.heap[R]? = some (.cells (rvals pa p.length pc m d wk).toArray 59 (0,0)):=by rw[hW1];exact World.putObj_heap_same h.lt
 have ho1:∀ b,b≠R→W1.heap[b]? = W.heap[b]?:=fun b hb=>by rw[hW1];exact World.putObj_heap_other hb
 have hs1:W1.heap.size=W.heap.size:=by rw[hW1];simp[World.putObj]
 have ht1:Touch (fun b=>bk d.g=some b∨Z b) w0 W1:=by
  refine⟨by rw[hW1];exact h.t.os,by rw[hW1];exact h.t.tape,by rw[hW1];exact h.t.output,by rw[hs1];exact h.t.size,fun b hb hn=>?_⟩
  by_cases e:b=R
  ·subst e;rw[hb1,h0.blk]
  ·rw[ho1 b e]
   exact h.t.block b hb fun k=>by
    rcases k with k | k | k
    ·exact e k
    ·exact hn (.inl k)
    ·omega
 have hx1:W1.ownsRow 0 65 3 (.slice a L.length n) L.length (flatG L):=ownsRow_block h.g fun g hg'=>ho1 g fun e=>haR ((bk_own _ _ _).symm.trans (by rw[← e];exact hg'))
 have h2:=((h0.putG ht1 hx1 h.fr hzn).1.putFirst f).1
 refine h2.keep (M:=fun _=>False) ⟨by rw[hW1];rfl,by rw[hW1];rfl,by rw[hW1];rfl,by simp[World.setCell,hs1],fun b _ _=>?_⟩ fun _ _ e=>e.elim
 by_cases e:b=R
 ·subst e
  rw[h.blk,heap_setCell_at _ b 3 _ (heap_setCell_at W1 b 2 _ hb1)]
  simp[rvals]
 ·rw[Below.heap_setCell _ _ _ _ e,Below.heap_setCell _ _ _ _ e,ho1 b e]
theorem PJ.start{Z:Nat→Prop}{p:List Cl}(h:RnAt w0 Z R p pa pc m d wk):PJ w0 w0 R pa p.length pc m d wk m.G m.first d.g d.gn :=
 ⟨h.blk,h.rows.g,.inl rfl,Touch.refl _ _⟩
end
theorem new_cells3(W:World)(x y z:Value)(T:TypeId):∀ j u,[x,y,z][j]? = some u→((W.alloc (.cells #[x,y,z] T)).drew).cell? ((⟨W.heap.size,0,none⟩:Addr).add j)=some u:=by
 intro j u h
 have hb:((W.alloc (.cells #[x,y,z] T)).drew).heap[W.heap.size]? = some (.cells #[x,y,z] T (0,0)):=heap_alloc_new W _
 match j,h with
 | 0,h=>cases h;rw[show (⟨W.heap.size,0,none⟩:Addr).add 0=⟨W.heap.size,0,none⟩ by simp[Addr.add]];simp only[World.cell?,hb];rfl
 | 1,h=>cases h;rw[show (⟨W.heap.size,0,none⟩:Addr).add 1=⟨W.heap.size,1,none⟩ by simp[Addr.add]];simp only[World.cell?,hb];rfl
 | 2,h=>cases h;rw[show (⟨W.heap.size,0,none⟩:Addr).add 2=⟨W.heap.size,2,none⟩ by simp[Addr.add]];simp only[World.cell?,hb];rfl
 | j+3,h=>simp at h
theorem getD_coe(l:List Nat)(k:Nat):(l.map (fun x:Nat=>(x:Int))).getD k 0=((l.getD k 0:Nat):Int):=by
 simp only[List.getD_eq_getElem?_getD,List.getElem?_map]
 cases l[k]? <;> rfl
theorem pg_next(S:MS)(V:CV)(l:List Tm)(cut nx:Nat){i:Nat}(h:i<(putL S.H V l).2.length){A:List Int}(hA:A=(putL S.H V l).2.map (fun x:Nat=>(x:Int))) :
 (pg S V l cut nx (i+1)).1.map Gn.gl=(pg S V l cut nx i).1.map Gn.gl++[⟨A.getD (A.length-1-i) 0,(cut:Int),((pg S V l cut nx i).2:Int)⟩]∧((pg S V l cut nx (i+1)).2:Int)=((((pg S V l cut nx i).1.map Gn.gl).length:Nat):Int)+1:=by
 rw[pg_succ S V l cut nx h,hA,getD_coe]
 simp[Gn.gl]
theorem mpush_mac(l:List Tm)(V:CV)(cut nx:Nat)(S:MS){L:List Gl}{f:Int}(hL:L=(pushG cut (putL S.H V l).2.reverse (S.G,nx)).1.map Gn.gl)(hf:f=((pushG cut (putL S.H V l).2.reverse (S.G,nx)).2:Int))(h1:(putL S.H V l).1.1.length≤400000)(h2:L.length≤5000) :
 (mpush l V cut nx S).mac = { S.mac with H:=(putL S.H V l).1.1,G:=L,first:=f }:=by
 have h3:(pushG cut (putL S.H V l).2.reverse (S.G,nx)).1.length≤5000:=by rw[hL,List.length_map] at h2;exact h2
 simp only[mpush,MS.mac]
 rw[if_neg (by omega),hL,hf]
theorem keepsFrom_cells{B:Nat}{W V:World}{M:Nat→Prop}(h:Touch M W V)(hM:∀ b o,M b→W.heap[b]? = some o→o.isCells=true):KeepsFrom B W V :=
 ⟨h.size,fun k o _ ho hc=>(h.block k (Array.getElem?_eq_some_iff.1 ho).1 fun e=>by rw[hM k o e ho] at hc;cases hc).trans ho⟩
section
variable {F:Fence} {n:Nat} {P:Program} {ops:Array Oper} {Q:Exit→Act→World→Prop} {md:Region.Mode}
theorem listed_set(l:Array Bool)(i j:Nat)(hi:i<l.size):(l.setIfInBounds i true).getD j false=if j=i then true else l.getD j false:=by
 simp only[Array.getD_eq_getD_getElem?,Array.getElem?_setIfInBounds]
 by_cases h:i=j
 ·subst h;simp[hi]
 ·rw[if_neg h,if_neg (fun e=>h e.symm)]
theorem listed_in{l:Array Bool}{i:Nat}(h:l.getD i true=false):i<l.size∧l.getD i false=false:=by
 simp only[Array.getD_eq_getD_getElem?] at h ⊢
 cases e:l[i]? with
 | none=>rw[e] at h;simp at h
 | some b=>rw[e] at h;simp at h;subst h;exact⟨(Array.getElem?_eq_some_iff.1 e).1,by simp⟩
theorem count_set{l:Array Bool}{i:Nat}(h:l.getD i true=false):(l.setIfInBounds i true).toList.count false+1≤l.toList.count false:=by
 obtain⟨h1,h2⟩:=listed_in h
 have h3:l.toList[i]'(by simpa using h1)=false:=by
  simp only[Array.getD_eq_getD_getElem?,Array.getElem?_eq_getElem h1] at h2
  simpa using h2
 have h4:0<l.toList.count false:=List.count_pos_iff.2 (by rw[← h3];exact List.getElem_mem _)
 rw[Array.toList_setIfInBounds,List.count_set (by simpa using h1)]
 simp only[h3,beq_self_eq_true,if_true,show (true == false)=false from rfl,Bool.false_eq_true,if_false,Nat.add_zero]
 omega
structure RegJ(md:Region.Mode)(ops:Array Oper)(vals:Nat→Value)(a0:Act)(WJ:(Nat→Bool)→World→Prop)(L:Nat→Bool)(a:Act)(w:World):Prop where
 closed:∀ (j:Nat) (o:Oper),L j=true→ops[j]? = some o→∀ e∈o.after,Region.binds md e=true→L e.on=true
 val:∀ (j:Nat) (o:Oper) (d:Nat),L j=true→ops[j]? = some o→o.dst=some d→a.tmps.getD d undef=vals j
 other:∀ d,(∀ (j:Nat) (o:Oper),ops[j]? = some o→o.dst≠some d)→a.tmps.getD d undef=a0.tmps.getD d undef
 size:a.tmps.size=a0.tmps.size
 defers:a.defers=a0.defers
 wj:WJ L w
theorem wpAnyIn_vals(hF:∀ f,F.fn f){vals:Nat→Value}{a0:Act}{WJ:(Nat→Bool)→World→Prop}
 (hops:∀ i o,ops[i]? = some o→(∀ y,Region.wanted o y=true)∧(∀ c,o.op≠.defer c)∧(∀ e∈o.after,e.on<i)∧∀ d,o.dst=some d→d<a0.tmps.size∧∀ j o',ops[j]? = some o'→o'.dst=some d→j=i)
 (hext:∀ L L' w,(∀ j,L j=L' j)→WJ L w→WJ L' w)
 (hstep:∀ L a w i o,RegJ md ops vals a0 WJ L a w→ops[i]? = some o→L i=false→(∀ e∈o.after,Region.binds md e=true→L e.on=true) →
  ∃ w',((execOp a.eval o).run P w=.ok (.value (vals i)) w'∨((execOp a.eval o).run P w=.ok .skip w'∧vals i=undef))∧WJ (fun j=>if j=i then true else L j) w')
 (hdone:∀ L a w,RegJ md ops vals a0 WJ L a w→(∀ j,j<ops.size→L j=true)→Q .normal a w) :
 ∀ (fuel:Nat) (listed:Array Bool) (a:Act) (w:World),listed.toList.count false≤fuel→RegJ md ops vals a0 WJ (fun j=>listed.getD j false) a w→(∀ j,listed.getD j true=false→j<ops.size)→(∀ j,j<ops.size→j<listed.size)→wpAnyIn F n P md ops Q fuel listed a w:=by
 have fin:∀ (listed:Array Bool) (a:Act) (w:World),RegJ md ops vals a0 WJ (fun j=>listed.getD j false) a w→(∀ j,j<ops.size→j<listed.size)→Region.ready md ops listed = []→Q .normal a w:=by
  intro listed a w hJ hs hr
  refine hdone _ a w hJ ?_
  intro j
  induction j using Nat.strongRecOn with
  | _ j ih =>
   intro hj
   obtain⟨o,ho⟩:∃ o,ops[j]? = some o:=⟨_,Array.getElem?_eq_getElem hj⟩
   by_cases hl:listed.getD j false=true
   ·exact hl
   ·have hjs:=hs j hj
    have h1:listed.getD j true=false:=by
     simp only[Array.getD_eq_getD_getElem?,Array.getElem?_eq_getElem hjs,Option.getD_some] at hl ⊢
     simpa using hl
    have:j∈Region.ready md ops listed:=mem_ready.2 ⟨h1,o,ho,fun e he _=>by
     have h2:=(hops j o ho).2.2.1 e he
     exact ih e.on h2 (by omega)⟩
    rw[hr] at this
    cases this
 intro fuel
 induction fuel with
 | zero =>
  intro listed a w hc hJ hb hs
  have hr:Region.ready md ops listed = []:=by
   cases h:Region.ready md ops listed with
   | nil=>rfl
   | cons i r =>
    have hi:i∈Region.ready md ops listed:=by rw[h];exact List.mem_cons_self
    have:=count_set (mem_ready.1 hi).1
    omega
  exact⟨hr,fin listed a w hJ hs hr⟩
 | succ fuel ih =>
  intro listed a w hc hJ hb hs
  refine⟨fin listed a w hJ hs,fun i hi=>?_⟩
  obtain⟨h1,o,ho,hall⟩:=mem_ready.1 hi
  obtain⟨his,h1f⟩:=listed_in h1
  obtain⟨o1,o2,o3,o4⟩:=hops i o ho
  obtain⟨w',hrun,hw'⟩:=hstep _ a w i o hJ ho h1f hall
  have hcn:=count_set h1
  -- what comes behind
  have next:RegJ md ops vals a0 WJ (fun j=>(listed.setIfInBounds i true).getD j false) (a.put o.dst (vals i)) w':=by
   have hset:∀ j,(listed.setIfInBounds i true).getD j false=if j=i then true else listed.getD j false:=fun j=>listed_set listed i j his
   refine⟨fun j oj hj hoj e he hbd=>?_,fun j oj d hj hoj hd=>?_,fun d hd=>?_,?_,?_,hext _ _ _ (fun j=>(hset j).symm) hw'⟩
   ·simp only[hset] at hj ⊢
    by_cases hji:j=i
    ·subst hji
     rw[ho] at hoj;cases hoj
     have:=hall e he hbd
     split
     ·rfl
     ·exact this
    ·rw[if_neg hji] at hj
     have:=hJ.closed j oj hj hoj e he hbd
     split
     ·rfl
     ·exact this
   ·simp only[hset] at hj
    by_cases hji:j=i
    ·subst hji
     rw[ho] at hoj;cases hoj
     have hds:=(o4 d hd).1
     rw[hd]
     simp only[Act.put,Array.getD_eq_getD_getElem?,Array.getElem?_setIfInBounds]
     rw[← hJ.size] at hds
     simp[hds]
    ·rw[if_neg hji] at hj
     rw[← hJ.val j oj d hj hoj hd]
     cases hdo:o.dst with
     | none=>rfl
     | some d' =>
      have:d'≠d:=fun e=>hji ((o4 d' hdo).2 j oj hoj (by rw[hd,e]))
      simp only[Act.put,Array.getD_eq_getD_getElem?,Array.getElem?_setIfInBounds]
      rw[if_neg this]
   ·rw[← hJ.other d hd]
    cases hdo:o.dst with
    | none=>rfl
    | some d' =>
     have:d'≠d:=fun e=>hd i o ho (by rw[hdo,e])
     simp only[Act.put,Array.getD_eq_getD_getElem?,Array.getElem?_setIfInBounds]
     rw[if_neg this]
   ·cases hdo:o.dst with
    | none=>exact hJ.size
    | some d'=>simp only[Act.put,Array.size_setIfInBounds];exact hJ.size
   ·cases hdo:o.dst with
    | none=>exact hJ.defers
    | some d'=>exact hJ.defers
  have key:=ih (listed.setIfInBounds i true) _ w' (by omega) next (fun j hj=>hb j (by
   simp only[Array.getD_eq_getD_getElem?,Array.getElem?_setIfInBounds] at hj ⊢
   by_cases e:i=j
   ·subst e;simp[his] at hj
   ·rw[if_neg e] at hj;exact hj)) (fun j hj=>by rw[Array.size_setIfInBounds];exact hs j hj)
  unfold wpOpIn
  simp only[ho,o1,if_true]
  refine⟨fun f _=>hF f,?_⟩
  rw[Oper.semAt_eq _ _ _ o2]
  rcases hrun with h | ⟨h,hv⟩
  ·rw[h];exact key
  ·rw[h,Oper.uponIn_skip,← hv];exact key
theorem wpIn_region_vals{id:Nat}{a0:Act}{w0:World}(hm:P.follows .mixedOrders=true)(hF:∀ f,F.fn f){vals:Nat→Value}{WJ:(Nat→Bool)→World→Prop}
 (hops:∀ i o,ops[i]? = some o→(∀ y,Region.wanted o y=true)∧(∀ c,o.op≠.defer c)∧(∀ e∈o.after,e.on<i)∧∀ d,o.dst=some d→d<a0.tmps.size∧∀ j o',ops[j]? = some o'→o'.dst=some d→j=i)
 (hext:∀ L L' w,(∀ j,L j=L' j)→WJ L w→WJ L' w) (h0:WJ (fun _=>false) w0.drew)
 (hstep:∀ L a w i o,RegJ .any ops vals a0 WJ L a w→ops[i]? = some o→L i=false→(∀ e∈o.after,Region.binds .any e=true→L e.on=true) →
  ∃ w',((execOp a.eval o).run P w=.ok (.value (vals i)) w'∨((execOp a.eval o).run P w=.ok .skip w'∧vals i=undef))∧WJ (fun j=>if j=i then true else L j) w')
 (hdone:∀ L a w,RegJ .any ops vals a0 WJ L a w→(∀ j,j<ops.size→L j=true)→Q .normal a w):(Code.region id ops true).wpIn F n P Q a0 w0:=by
 refine wpIn_region_any hm (wpAnyIn_vals hF hops hext hstep hdone ops.size _ a0 _ ?_ ?_ ?_ ?_)
 ·rw[Array.toList_replicate,List.count_replicate_self];exact Nat.le_refl _
 ·have hf:∀ j,(Array.replicate ops.size false).getD j false=false:=fun j=>by
   simp only[Array.getD_eq_getD_getElem?,Array.getElem?_replicate]
   split <;> rfl
  refine⟨fun j o hj=>?_,fun j o d hj=>?_,fun d _=>rfl,rfl,rfl,hext _ _ _ (fun j=>(hf j).symm) h0⟩
  ·simp only[hf] at hj;cases hj
  ·simp only[hf] at hj;cases hj
 ·intro j hj
  have:=(listed_in hj).1
  simpa using this
 ·intro j hj;simpa using hj
def opsOk(ops:Array Oper)(size:Nat):Bool :=
 (List.range ops.size).all fun i=>match ops[i]? with
  | none=>true
  | some o=>o.guard.isNone && (match o.op with | .defer _=>false | _=>true) && o.after.all (fun e=>decide (e.on<i)) && (match o.dst with
   | none=>true
   | some d=>decide (d<size) && (List.range ops.size).all fun j=>match ops[j]? with
    | none=>true
    | some o'=>(match o'.dst with | some d'=>!decide (d'=d) | none=>true) || decide (j=i))
theorem opsOk_spec{size:Nat}(h:opsOk ops size=true):∀ i o,ops[i]? = some o→(∀ y,Region.wanted o y=true)∧(∀ c,o.op≠.defer c)∧(∀ e∈o.after,e.on<i)∧∀ d,o.dst=some d→d<size∧∀ j o',ops[j]? = some o'→o'.dst=some d→j=i:=by
 intro i o ho
 have hi:i<ops.size:=(Array.getElem?_eq_some_iff.1 ho).1
 have h1:=List.all_eq_true.1 h i (List.mem_range.2 hi)
 simp only[ho,Bool.and_eq_true] at h1
 obtain⟨⟨⟨g1,g2⟩,g3⟩,g4⟩:=h1
 refine⟨fun y=>?_,fun c e=>(by rw[e] at g2;cases g2),fun e he=>?_,fun d hd=>?_⟩
 ·unfold Region.wanted
  cases hg:o.guard with
  | none=>rfl
  | some q=>rw[hg] at g1;cases g1
 ·have:=Array.all_eq_true_iff_forall_mem.1 g3 e he
  simpa using this
 ·rw[hd] at g4
  simp only[Bool.and_eq_true,decide_eq_true_eq] at g4
  refine⟨g4.1,fun j o' hj hd'=>?_⟩
  have hjl:j<ops.size:=(Array.getElem?_eq_some_iff.1 hj).1
  have h2:=List.all_eq_true.1 g4.2 j (List.mem_range.2 hjl)
  simp only[hj,hd'] at h2
  simpa using h2
theorem RegJ.at'{vals:Nat→Value}{a0:Act}{WJ:(Nat→Bool)→World→Prop}{L:Nat→Bool}{a:Act}{w:World}(h:RegJ md ops vals a0 WJ L a w){j d:Nat}{o:Oper}(hl:L j=true)(ho:ops[j]? = some o)(hd:o.dst=some d):a.tmps[d]?.getD undef=vals j:=by
 rw[← Array.getD_eq_getD_getElem?];exact h.val j o d hl ho hd
theorem RegJ.old{vals:Nat→Value}{a0:Act}{WJ:(Nat→Bool)→World→Prop}{L:Nat→Bool}{a:Act}{w:World}(h:RegJ md ops vals a0 WJ L a w){d:Nat}(hd:∀ (j:Nat) (o:Oper),ops[j]? = some o→o.dst≠some d):a.tmps[d]?.getD undef=a0.tmps[d]?.getD undef:=by
 rw[← Array.getD_eq_getD_getElem?,← Array.getD_eq_getD_getElem?];exact h.other d hd
def freeOf(ops:Array Oper)(d:Nat):Bool:=(List.range ops.size).all fun i=>match ops[i]? with
 | none=>true
 | some o=>match o.dst with | some d'=>!decide (d'=d) | none=>true
theorem freeOf_spec{d:Nat}(h:freeOf ops d=true):∀ (j:Nat) (o:Oper),ops[j]? = some o→o.dst≠some d:=by
 intro j o ho e
 have:=List.all_eq_true.1 h j (List.mem_range.2 (Array.getElem?_eq_some_iff.1 ho).1)
 simp only[ho,e] at this
 simp at this
end
theorem putT_some{H:List HC}{V:CV}{v:Int}{n:ByteArray}{l:List Tm}{c:Nat}(hv:v≠0)(h:V v=some c):putT H V (.mk v n l)=((H,V),c):=by
 unfold putT;rw[if_pos hv,h]
theorem putT_none{H:List HC}{V:CV}{v:Int}{n:ByteArray}{l:List Tm}(hv:v≠0)(h:V v=none):putT H V (.mk v n l)=((H++[⟨1,(H.length:Int),⟨#[]⟩⟩],updV V v H.length),H.length):=by
 unfold putT;rw[if_pos hv,h]
theorem putT_fn{H:List HC}{V:CV}{n:ByteArray}{l:List Tm}:putT H V (.mk 0 n l)=(putAs (H++[⟨2,(l.length:Int),n⟩]++List.replicate l.length (⟨1,0,⟨#[]⟩⟩:HC)) V (H.length+1) l,H.length):=by
 unfold putT;rw[if_neg (fun h=>h rfl)]
set_option maxRecDepth 100000 in
set_option maxHeartbeats 4000000 in
theorem PutW(t:Tm):∀ (w:World) (ok:Nat→Prop) (a:Option Addr) (cap base bm n:Nat) (v:Value) (H:List HC) (V:CV),t.fits→Ts w ok t.args a cap→(∀ b,ok b→b<w.heap.size∧v.ownBlock≠some b∧b≠bm)→HOwn w base v H→VAt w bm n V→n≤H.length→v.ownBlock≠some bm→base≤w.heap.size→H.length+2*t.size≤1000000→VB V 1000000 →
 Calls Try.prog 71 #[v,.agg #[.int .i64 t.var,.string t.name,.slice a t.args.length cap],.map (some bm)] w (PutPost w base v bm (putT H V t)):=by
 induction t using Tm.ind with
 | h tv tn l ih =>
 intro w ok a cap base bm n v H V hfit hts hok hH hV hnn hvb hbase hlen hvbd
 have HVBD:=lh hvbd
 clear hvbd
 have IH:=lh ih;have HF:=lh hfit;have HT:=lh hts;have HOK:=lh hok;have HH:=lh hH;have HV:=lh hV
 obtain⟨va,vc,hve⟩:=hH.form
 subst hve
 simp only[Tm.var,Tm.name,Tm.args] at hts ⊢
 have HT':Hid (Ts w ok l a cap):=lh hts
 have HVB:=lh hvb
 clear ih hfit hts hok hH hV hvb HT
 have hsz:=(Tm.mk tv tn l).size_pos
 have BA:Below w.heap.size w (w.alloc (.cells #[.int .i64 tv,.string tn,.slice a l.length cap] 71)):=(Below.refl _ _).alloc (Nat.le_refl _) _
 have HBA:=lh BA
 have HVA:=lh (HV.out.keep (BA.block bm HV.out.lt))
 have HHA:=lh (HH.out.below BA)
 have HI:Hid (I64 tv):=lh HF.out.1
 obtain⟨i0,hi0,hz0,hz1,hz2⟩:=info_parts Try.infoCell
 clear BA
 by_cases hv:tv≠0
 ·have hv':(tv != 0)=true:=by rw[bne_iff_ne];exact hv
  cases hs:V tv with
  | some c =>
   have HO:=lh (putT_some (n:=tn) (l:=l) (H:=H) hv hs)
   have hlk:=(HVA.out.look HI.out).2 c hs
   clear hv hs
   go_enter Try.func71,Try.ntmps71
   go_wp2_with fail
   rw[HO.out]
   exact bodyPost_ret (v:=.tuple #[.slice va H.length vc,.int .i64 (c:Nat)]) (by simp[results,Try.results71,go_sem]) rfl ⟨_,n,rfl,HHA.out,HVA.out,hnn,.inl rfl,Touch.below HBA.out⟩
  | none =>
   have HO:=lh (putT_none (n:=tn) (l:=l) (H:=H) hv hs)
   have hlk:=(HVA.out.look HI.out).1 hs
   obtain⟨W1,hup,hv1,hg1⟩:=HVA.out.store HI.out hs (by omega) H.length
   have HV1:=lh hv1
   have HTT:Hid (Touch (PutM (.slice va H.length vc) bm) w W1):=lh ((Touch.below HBA.out).trans (Touch.grown hg1 fun k e=>by cases e;exact .inr rfl))
   have HH1:Hid (HOwn W1 base (.slice va H.length vc) H):=lh (HHA.out.keep fun g hg=>hg1.block g (HHA.out.row.lt g hg).2 (fun e=>by cases e;exact HVB.out hg))
   have hsz1:=hg1.size
   have HO1:=lh (HH1.out.row.alloc (.cells #[.int .i64 1,.int .i64 H.length,.string ⟨#[]⟩] 69))
   have hHl:H.length≤1000000:=by omega
   clear hv hs hv1 hg1
   go_enter Try.func71,Try.ntmps71
   go_wp2_with (first
    | (at_builtin;have _g:=HO1;refine wpList_append_opt _ rfl _ _ 24 rfl base 69 i0 _ 3 32 Try.underlying24 hi0 hz0 hz1 hz2 rfl (by decide) _ _ _ rfl HO1.out (some ⟨W1.heap.size,0,none⟩) 1 1 ?d0 [.int .i64 1,.int .i64 (H.length:Nat),.string ⟨#[]⟩] rfl rfl ?d1 ?d2 ?d3 ?d4 ?d5 ?_))
   case d0=>intro h;cases h
   case d1=>exact newsC W1 ⟨1,(H.length:Int),⟨#[]⟩⟩ rfl
   case d2=>exact oneC ⟨1,(H.length:Int),⟨#[]⟩⟩
   case d3=>unfold maxLen;omega
   case d4=>omega
   case d5=>simp only[aSz] at hsz1 ⊢;omega
   ·intro v4 w4 hown4 hgrow4 hfr4
    have hp:=HH1.out.push (c:=⟨1,(H.length:Int),⟨#[]⟩⟩) ⟨(by show I64 1;unfold I64;omega),(by show I64 (H.length:Int);unfold I64;omega),Nat.zero_le _⟩ ((Below.refl _ _).alloc (Nat.le_refl _) (.cells #[.int .i64 1,.int .i64 H.length,.string ⟨#[]⟩] 69)) hown4 hgrow4 hfr4 bm
    have HPP:=lh hp
    have HV4:Hid (VAt w4 bm (n+1) (updV V tv H.length)):=lh (HV1.out.keep ((hgrow4.block bm (by simp only[aSz];have:=HV1.out.lt;omega) (fun e=>HVB.out e.symm)).trans (Below.heap_alloc _ _ _ HV1.out.lt)))
    obtain⟨g4,cap4,rfl⟩:=own_shape hown4 (by omega)
    clear hp hown4 hgrow4 hfr4
    go_wp2_with fail
    rw[HO.out]
    exact bodyPost_ret (v:=.tuple #[.slice (some ⟨g4,0,none⟩) (H.length+1) cap4,.int .i64 (H.length:Nat)]) (by simp[results,Try.results71,go_sem]) rfl
     ⟨_,n+1,rfl,HPP.out.1,HV4.out,by simp only[List.length_append,List.length_cons,List.length_nil];omega,by
      rcases HPP.out.2.1 with e | e
      ·exact .inl e
      ·exact .inr fun g hg=>by have:=e g hg;have:=HTT.out.size;omega,HTT.out.trans HPP.out.2.2⟩
 ·have hv0:tv=0:=Decidable.of_not_not hv
  subst hv0
  have HO:=lh (putT_fn (H:=H) (V:=V) (n:=tn) (l:=l))
  have hll:l.length≤1000000:=by
   have:=Tm.length_le_sizes l
   simp only[Tm.size] at hlen;omega
  have hlen0:H.length+2*(1+Tm.sizes l)≤1000000:=by simpa only[Tm.size] using hlen
  have HLEN:=lh hlen0
  have hHl:H.length≤1000000:=by omega
  have HNF:Hid (tn.size≤maxLen):=lh HF.out.2
  have hA4:Box3 (w.alloc (.cells #[.int .i64 0,.string tn,.slice a l.length cap] 71)) w.heap.size (.int .i64 0) (.string tn) (.slice a l.length cap):=Box3.made w _ _ _
  have hTW:Ts (w.alloc (.cells #[.int .i64 0,.string tn,.slice a l.length cap] 71)) ok l a cap:=HT'.out.keep (Keeps.below HBA.out ok)
  have hsz0:(w.alloc (.cells #[.int .i64 0,.string tn,.slice a l.length cap] 71)).heap.size=w.heap.size+1:=aSz _ _
  have HA4:=lh hA4;have HTW:=lh hTW;have HSZ0:=lh hsz0
  have HVL:Hid (∀ g,(Value.slice va H.length vc).ownBlock=some g→g<w.heap.size):=lh fun g hg=>(HH.out.row.lt g hg).2
  have HBM:Hid (bm<w.heap.size):=lh HV.out.lt
  clear hv hA4 hTW hsz0 hlen hlen0 hsz
  have x0:=HA4.out.c0;have x1:=HA4.out.c1;have x2:=HA4.out.c2
  have HO1:=lh (HHA.out.row.alloc (.cells #[.int .i64 2,.int .i64 l.length,.string tn] 69))
  go_enter Try.func71,Try.ntmps71
  have hbs0:base≤w.heap.size+1:=by omega
  go_wp2_with (first
   | (at_builtin;have _g:=HO1;refine wpList_append_opt _ rfl _ _ 24 rfl base 69 i0 _ 3 32 Try.underlying24 hi0 hz0 hz1 hz2 rfl (by decide) _ _ _ rfl HO1.out (some ⟨w.heap.size+1,0,none⟩) 1 1 ?e0 [.int .i64 2,.int .i64 (l.length:Nat),.string tn] rfl rfl ?e1 ?e2 ?e3 ?e4 ?e5 ?_))
  case e0=>intro h;cases h
  case e1=>exact newsC (w.alloc (.cells #[.int .i64 0,.string tn,.slice a l.length cap] 71)) ⟨2,(l.length:Int),tn⟩ (by simp only[aSz])
  case e2=>exact oneC ⟨2,(l.length:Int),tn⟩
  case e3=>unfold maxLen;omega
  case e4=>omega
  case e5=>simp only[aSz];omega
  ·intro v4 w4 hown4 hgrow4 hfr4
   have hp:=HHA.out.push (c:=⟨2,(l.length:Int),tn⟩) ⟨(by show I64 2;unfold I64;omega),(by show I64 (l.length:Int);unfold I64;omega),HNF.out⟩ ((Below.refl _ _).alloc (Nat.le_refl _) (.cells #[.int .i64 2,.int .i64 l.length,.string tn] 69)) hown4 hgrow4 hfr4 bm
   have HP:=lh hp.1;have HFR:=lh hp.2.1;have HTT:=lh hp.2.2
   have hv4:VAt w4 bm n V:=HVA.out.keep ((hgrow4.block bm (by simp only[aSz];have:=HBM.out;omega) (fun e=>HVB.out e.symm)).trans (Below.heap_alloc _ _ _ HVA.out.lt))
   have HV4:=lh hv4
   obtain⟨g4,cap4,rfl⟩:=own_shape hown4 (by omega)
   clear hp hown4 hgrow4 hfr4 HO1 x0 x1 x2 hv4
   have hq:Box3 w4 w.heap.size (.int .i64 0) (.string tn) (.slice a l.length cap):=HA4.out.keep (HTT.out.block _ HA4.out.lt (fun e=>e.elim (fun e=>by have:=HVL.out _ e;omega) (fun e=>by have:=HBM.out;omega)))
   have x0:=hq.c0;have x1:=hq.c1;have x2:=hq.c2
   have HBX:Hid (∀ u,Touch (PutM (.slice va H.length vc) bm) (w.alloc (.cells #[.int .i64 0,.string tn,.slice a l.length cap] 71)) u→Box3 u w.heap.size (.int .i64 0) (.string tn) (.slice a l.length cap)):=lh fun u hu=>HA4.out.keep (hu.block _ HA4.out.lt (fun e=>e.elim (fun e=>by have:=HVL.out _ e;omega) (fun e=>by have:=HBM.out;omega)))
   clear hq
   go_wp2_with fail
   clear x0 x1 x2
   go_loopw[0,54] (fun v0 v54 wr=>∃ j:Nat,j≤l.length∧v54=.int .i64 j∧HOwn wr base v0 (H++[⟨2,(l.length:Int),tn⟩]++List.replicate j (⟨1,0,⟨#[]⟩⟩:HC))∧VAt wr bm n V∧Hid (Fresh (w.alloc (.cells #[.int .i64 0,.string tn,.slice a l.length cap] 71)) (.slice va H.length vc) v0)∧Hid (Touch (PutM (.slice va H.length vc) bm) (w.alloc (.cells #[.int .i64 0,.string tn,.slice a l.length cap] 71)) wr)) (fun _ v54 _=>l.length-(intOf v54).toNat)
   case atStart=>exact⟨0,Nat.zero_le _,rfl,by simpa using HP.out,HV4.out,HFR,HTT⟩
   case round =>
    obtain⟨j,hj,rfl,hho,hva,HF0,HT0⟩:=hrel
    have HHO:=lh hho;have HVO:=lh hva
    obtain⟨ua,uc,hue⟩:=hho.form
    subst hue
    have hq:=HBX.out wr HT0.out
    have x0:=hq.c0;have x1:=hq.c1;have x2:=hq.c2
    clear hho hva hq
    have hcl:(H++[(⟨2,(l.length:Int),tn⟩:HC)]++List.replicate j (⟨1,0,⟨#[]⟩⟩:HC)).length=H.length+1+j:=by simp;omega
    by_cases hlt:j<l.length
    ·have HO2:=lh (HHO.out.row.alloc (.cells #[.int .i64 1,.int .i64 0,.string ⟨#[]⟩] 69))
     have HCL:=lh hcl
     have HRE:Hid (H++[(⟨2,(l.length:Int),tn⟩:HC)]++List.replicate j (⟨1,0,⟨#[]⟩⟩:HC)++[(⟨1,0,⟨#[]⟩⟩:HC)]=H++[(⟨2,(l.length:Int),tn⟩:HC)]++List.replicate (j+1) (⟨1,0,⟨#[]⟩⟩:HC)):=lh (by rw[List.append_assoc,List.replicate_succ'])
     have hws:base≤wr.heap.size+1:=by have:=HT0.out.size;have:=HSZ0.out;omega
     clear hcl
     generalize H++[(⟨2,(l.length:Int),tn⟩:HC)]++List.replicate j (⟨1,0,⟨#[]⟩⟩:HC)=Hj at *
     go_wp2_with (first
      | (at_builtin;have _g:=HO2;refine wpList_append_opt _ rfl _ _ 24 rfl base 69 i0 _ 3 32 Try.underlying24 hi0 hz0 hz1 hz2 rfl (by decide) _ _ _ rfl HO2.out (some ⟨wr.heap.size,0,none⟩) 1 1 ?f0 [.int .i64 1,.int .i64 0,.string ⟨#[]⟩] rfl rfl ?f1 ?f2 ?f3 ?f4 ?f5 ?_))
     case f0=>intro h;cases h
     case f1=>exact newsC wr ⟨1,0,⟨#[]⟩⟩ rfl
     case f2=>exact oneC ⟨1,0,⟨#[]⟩⟩
     case f3=>have:=HCL.out;unfold maxLen;omega
     case f4=>have:=HCL.out;omega
     case f5=>simp only[aSz];omega
     ·intro v5 w5 hown5 hgrow5 hfr5
      have hp:=HHO.out.push (c:=⟨1,0,⟨#[]⟩⟩) ⟨(by show I64 1;unfold I64;omega),(by show I64 0;unfold I64;omega),Nat.zero_le _⟩ ((Below.refl _ _).alloc (Nat.le_refl _) (.cells #[.int .i64 1,.int .i64 0,.string ⟨#[]⟩] 69)) hown5 hgrow5 hfr5 bm
      have hne:(Value.slice ua Hj.length uc).ownBlock≠some bm:=fun e=>by
       rcases HF0.out with e2 | e2
       ·exact HVB.out (e2 ▸ e)
       ·have:=e2 bm e;have:=HBM.out;have:=HSZ0.out;omega
      have hv5:VAt w5 bm n V:=HVO.out.keep ((hgrow5.block bm (by simp only[aSz];have:=HVO.out.lt;omega) (fun e=>hne e.symm)).trans (Below.heap_alloc _ _ _ HVO.out.lt))
      have HP5:=lh hp.1;have HFR5:=lh (HF0.out.trans hp.2.1 HT0.out.size);have HT5:=lh (HT0.out.freshP HF0.out hp.2.2);have HV5:=lh hv5
      obtain⟨g5,cap5,rfl⟩:=own_shape hown5 (by omega)
      clear hp hown5 hgrow5 hfr5 hne hv5
      go_wp2_with fail
      go_roundw
      case measure=>simp[intOf];omega
      case rel=>exact⟨j+1,by omega,by go_num,by rw[← HRE.out];exact HP5.out,HV5.out,HFR5,HT5⟩
    ·have hje:j=l.length:=by omega
     subst hje
     have HL1:Hid ((H++[(⟨2,(l.length:Int),tn⟩:HC)]++List.replicate l.length (⟨1,0,⟨#[]⟩⟩:HC)).length=H.length+1+l.length):=lh hcl
     have HSZL:=lh (Tm.length_le_sizes l)
     clear hcl
     generalize H++[(⟨2,(l.length:Int),tn⟩:HC)]++List.replicate l.length (⟨1,0,⟨#[]⟩⟩:HC)=H1 at *
     go_wp2_with fail
     clear x0 x1 x2
     go_loopw[0,64] (fun v0 v64 wz=>∃ (i ni:Nat) (Hi:List HC) (Vi:CV),i≤l.length∧v64=.int .i64 i∧HOwn wz base v0 Hi∧VAt wz bm ni Vi∧ni≤Hi.length∧Hid (putAs H1 V (H.length+1) l=putAs Hi Vi (H.length+1+i) (l.drop i))∧Hid (Hi.length+2*Tm.sizes (l.drop i)+1≤H.length+2*(1+Tm.sizes l)+(l.length-i))∧H.length+1+l.length≤Hi.length∧Hid (VB Vi 1000000)∧Hid (Fresh (w.alloc (.cells #[.int .i64 0,.string tn,.slice a l.length cap] 71)) (.slice va H.length vc) v0)∧Hid (Touch (PutM (.slice va H.length vc) bm) (w.alloc (.cells #[.int .i64 0,.string tn,.slice a l.length cap] 71)) wz)) (fun _ v64 _=>l.length-(intOf v64).toNat)
     case atStart=>exact⟨0,n,H1,V,Nat.zero_le _,rfl,HHO.out,HVO.out,by have:=HL1.out;omega,lh rfl,lh (by have:=HL1.out;rw[List.drop_zero];omega),by have:=HL1.out;omega,HVBD,HF0,HT0⟩
     case round =>
      obtain⟨i,ni,Hi,Vi,hi,rfl,hhi,hvi,hni,HPA,HBD,hHi,HVBi,HFi,HTi⟩:=hrel
      have HHi:=lh hhi;have HVi:=lh hvi
      obtain⟨ya,yc,hye⟩:=hhi.form
      subst hye
      have HTZ:=lh (HTW.out.keep (HTi.out.keeps fun b hb e=>e.elim (fun e=>(HOK.out b hb).2.1 e) (fun e=>(HOK.out b hb).2.2 e)))
      have hHil:Hi.length≤9223372036854775807:=by have:=HBD.out;have:=HLEN.out;omega
      clear hhi hvi
      by_cases hlt:i<l.length
      ·obtain⟨bb,off,a',cap',rfl,hokb,hbs,hc3,ht3⟩:=HTZ.out.at i hlt
       have m0:=hc3.var;have m1:=hc3.name;have m2:=hc3.args
       have HFX:=lh hc3.fits
       have BX:Below wr.heap.size wr (wr.alloc (.cells #[.int .i64 l[i].var,.string l[i].name,.slice a' l[i].args.length cap'] 71)):=(Below.refl _ _).alloc (Nat.le_refl _) _
       have HBX2:=lh BX
       have HDS:Hid (Tm.sizes (l.drop i)=l[i].size+Tm.sizes (l.drop (i+1))∧l.length-(i+1)≤Tm.sizes (l.drop (i+1))):=lh (by
        have h1:=Tm.length_le_sizes (l.drop (i+1))
        rw[List.length_drop] at h1
        exact⟨by rw[List.drop_eq_getElem_cons hlt];rfl,h1⟩)
       have hyb:(Value.slice ya Hi.length yc).ownBlock≠some bm:=fun e=>by
        rcases HFi.out with e2 | e2
        ·exact HVB.out (e2 ▸ e)
        ·have:=e2 bm e;have:=HBM.out;have:=HSZ0.out;omega
       have hyo:∀ b,ok b→(Value.slice ya Hi.length yc).ownBlock≠some b:=fun b hb e=>by
        rcases HFi.out with e2 | e2
        ·exact(HOK.out b hb).2.1 (e2 ▸ e)
        ·have:=e2 b e;have:=(HOK.out b hb).1;have:=HSZ0.out;omega
       have HCL:=lh (IH.out l[i] (List.getElem_mem hlt) (wr.alloc (.cells #[.int .i64 l[i].var,.string l[i].name,.slice a' l[i].args.length cap'] 71)) ok a' cap' base bm ni (.slice ya Hi.length yc) Hi Vi hc3.fits (ht3.keep (Keeps.below BX ok)) (fun b hb=>⟨by have:=(HOK.out b hb).1;have:=HTi.out.size;have:=HSZ0.out;have:=BX.size;omega,hyo b hb,(HOK.out b hb).2.2⟩) (HHi.out.below BX) (HVi.out.keep (BX.block bm HVi.out.lt)) hni hyb (by have:=HTi.out.size;have:=HSZ0.out;have:=BX.size;omega)
        (by have h1:=HBD.out;have h2:=HDS.out;have h3:=HLEN.out;omega) HVBi.out)
       have HIX:=lh (putT_vb l[i] Hi Vi 1000000 HVBi.out (by have h1:=HBD.out;have h2:=HDS.out;have h3:=HLEN.out;omega))
       have HPC:Hid (putAs H1 V (H.length+1) l=putAs (setN (putT Hi Vi l[i]).1.1 (H.length+1+i) (putT Hi Vi l[i]).2) (putT Hi Vi l[i]).1.2 (H.length+1+(i+1)) (l.drop (i+1))):=lh (by
        rw[HPA.out,List.drop_eq_getElem_cons hlt,putAs_cons];rfl)
       have HTL:=lh (putT_le l[i] Hi Vi)
       have HTG:=lh (putT_grow l[i] Hi Vi)
       clear hc3 ht3 BX hyb hyo
       generalize putT Hi Vi l[i]=r at *
       go_wp2_with fail
       refine HCL.out.mono ?_
       rintro e w5 ⟨v5,n5,rfl,hh5,hv5,hn5,hf5,ht5⟩
       have hr1:H.length+1+l.length≤r.1.1.length:=by have:=HTG.out;omega
       have hpos:1≤r.1.1.length:=by omega
       obtain⟨g5,cap5,rfl⟩:=own_shape hh5.row hpos
       have hset:=hh5.set rfl (p:=H.length+1+i) (t:=r.2) (by omega) (by have:=HIX.out.1;omega)
       obtain⟨f0,f1,f2⟩:=flatH_at r.1.1 (H.length+1+i) (by omega)
       have y1:w5.cell? ⟨g5,(H.length+1+i)*3+1,none⟩=some (.int .i64 (hc r.1.1 (H.length+1+i)).n):=(hh5.row.cellAt _ (by omega)).trans f1
       have yf:∀ o,w5.frozen? ⟨g5,o,none⟩=false:=fun o=>hh5.row.frozenAt o
       have hg5:g5<w5.heap.size:=(hh5.row.lt g5 rfl).2
       have HF5:=lh (HFi.out.trans (hf5.old HBX2.out.size) HTi.out.size)
       have HT5:=lh (HTi.out.freshP HFi.out ((Touch.below HBX2.out).trans ht5))
       have hg5b:g5≠bm:=fun e=>by
        rcases HF5.out with e2 | e2
        ·exact HVB.out (by rw[← e2];simp only[Value.ownBlock,Option.some.injEq];exact e)
        ·have:=e2 g5 rfl;have:=HBM.out;have:=HSZ0.out;omega
       have HS5:=lh hset
       have HV5:Hid (VAt (w5.setCell ⟨g5,(H.length+1+i)*3+1,none⟩ (.int .i64 (r.2:Nat))) bm n5 r.1.2):=lh (hv5.keep (Below.heap_setCell _ _ _ _ (fun e=>hg5b e.symm)))
       have HT6:=lh (HT5.out.freshP HF5.out (Touch.setCell (w:=w5) (p:=⟨g5,(H.length+1+i)*3+1,none⟩) (.int .i64 (r.2:Nat)) (.inl rfl)))
       have hix:(H.length:Int)+1+(i:Int)<(r.1.1.length:Int):=by omega
       clear hset f0 f1 f2 hh5 hv5 hf5 ht5
       go_wp2_with fail
       go_roundw
       case measure=>simp[intOf];omega
       case rel =>
        exact⟨i+1,n5,setN r.1.1 (H.length+1+i) r.2,r.1.2,by omega,by go_num,HS5.out,HV5.out,by rw[setN_length];exact hn5,HPC,lh (by
         rw[setN_length]
         have h1:=HBD.out;have h2:=HDS.out;have h3:=HTL.out
         omega),by rw[setN_length];exact hr1,lh HIX.out.2,HF5,HT6⟩
      ·have HPE:Hid (putAs H1 V (H.length+1) l=(Hi,Vi)):=lh (by rw[HPA.out,List.drop_eq_nil_of_le (by omega),putAs_nil])
       go_wp2_with fail
       rw[HO.out,HPE.out]
       exact bodyPost_ret (v:=.tuple #[.slice ya Hi.length yc,.int .i64 (H.length:Nat)]) (by simp[results,Try.results71,go_sem]) rfl
        ⟨_,ni,rfl,HHi.out,HVi.out,hni,by
         rcases HFi.out with e | e
         ·exact .inl e
         ·exact .inr fun g hg=>by have:=e g hg;have:=HSZ0.out;omega,(Touch.below HBA.out).trans HTi.out⟩
theorem near_of_inv{H:List HC}(h:HInv H):NearH H:=fun i hi h2=>by
 rcases cell_right (h.cells i hi) with e | e
 ·rw[e.1] at h2;cases h2
 ·exact⟨e.2.2.1,by have:=e.2.2.2.1;have:=e.2.2.1;omega⟩
set_option maxRecDepth 100000 in
set_option maxHeartbeats 3200000 in
theorem CheckMW(p:List Cl)(m:Mac)(d:MAd){w:World}{ok:Nat→Prop}{pa:Option Addr}{pc:Nat}(hp:Pr w ok p pa pc)(h:MacAt w ok m d)(hb:MacBig m) :
 Calls Try.prog 22 #[.slice pa p.length pc,.agg #[.slice d.h m.H.length d.hn,.slice d.g m.G.length d.gn,.int .i64 m.first,.slice d.c m.ch.length d.cn,.slice d.t m.T.length d.tn,.slice d.q m.Q.length d.qn,.int .i64 m.steps,.int .i64 m.fin,.slice d.a m.ans.length d.an]] w
  fun e w'=>e=.returned (.int .i64 (checkM p m:Nat))∧Below w.heap.size w w':=by
 have hg9:m.G.length≤9223372036854775807:=by have:=h.g.cap;unfold maxLen at this;omega
 have hq9:m.Q.length≤9223372036854775807:=by have:=h.q.cap;unfold maxLen at this;omega
 have HCL:=lh (fun u (hu:Below w.heap.size w u)=>ClausesW p u ok pa pc (hp.keep (Keeps.below hu ok)))
 have HMB:=lh (fun u (hu:Below w.heap.size w u)=>h.keep (Keeps.below hu ok))
 have HXB:Hid (∀ u,Below (w.heap.size+1) (w.alloc (.cells (m.vals d).toArray 30)) u→MBox u w.heap.size m d):=lh fun u hu=>(MBox.made w m d).below (by simpa using hu)
 have HWB:Hid (∀ u,Below (w.heap.size+1) (w.alloc (.cells (m.vals d).toArray 30)) u→Below w.heap.size w u):=lh fun u hu=>((Below.refl _ _).alloc (Nat.le_refl _) _).trans (hu.mono (by omega))
 have HB0:Hid (Below (w.heap.size+1) (w.alloc (.cells (m.vals d).toArray 30)) (w.alloc (.cells (m.vals d).toArray 30))):=lh (Below.refl _ _)
 have HUP:Hid (∀ u v,Below (w.heap.size+1) (w.alloc (.cells (m.vals d).toArray 30)) u→Below u.heap.size u v→Below (w.heap.size+1) (w.alloc (.cells (m.vals d).toArray 30)) v):=lh fun u v hu hv=>hu.trans (hv.mono (by have:=hu.size;simp at this;omega))
 have HBIG:=lh hb
 clear h hp hb
 simp only[Mac.vals] at HXB HWB HB0 HUP
 by_cases e1:programE p=0
 ·have h1:=e1
  have t1:((programE p:Int) == 0)=true:=by rw[e1];rfl
  have t2:((programE p:Int) != 0)=false:=by rw[e1];rfl
  by_cases e2:checkH m.H=0
  ·have h2:=e2
   have t3:((checkH m.H:Int) != 0)=false:=by rw[e2];rfl
   have hI:=HInv.of e2
   have hl4:=hI.len
   have HNR:=lh (near_of_inv hI)
   clear hI
   by_cases e3:5000<m.G.length
   ·have HR:Hid (checkM p m=2):=lh (by unfold checkM;rw[if_neg (fun e=>e h1),if_neg (fun e=>e h2),if_pos (.inl e3)])
    have t4:(5000:Int)<(m.G.length:Int):=by omega
    clear e1 e2 h1 h2
    go_enter Try.func22,Try.ntmps22
    go_wp2_with (first | (go_at_call 45;refine(HCL.out _ (HWB.out _ HB0.out)).mono ?_;rintro e w1 ⟨rfl,hb1⟩;have B1:=lh (HUP.out _ _ HB0.out hb1);obtain⟨y0,y1,y2,y3,y4,y5,y6,y7,y8,-⟩:=(HXB.out _ B1.out).all;clear hb1) | (go_at_call 50;refine(HCheckW (HMB.out _ (HWB.out _ B1.out)).h).mono ?_;rintro e w2 ⟨rfl,hb2⟩;have B2:=lh (HUP.out _ _ B1.out hb2);obtain⟨z0,z1,z2,z3,z4,z5,z6,z7,z8,-⟩:=(HXB.out _ B2.out).all;clear hb2))
    go_ret
    rw[HR.out]
    exact⟨rfl,HWB.out _ B2.out⟩
   ·by_cases e3':12<m.Q.length
    ·have HR:Hid (checkM p m=2):=lh (by unfold checkM;rw[if_neg (fun e=>e h1),if_neg (fun e=>e h2),if_pos (.inr e3')])
     have t4:¬ (5000:Int)<(m.G.length:Int):=by omega
     have t5:(12:Int)<(m.Q.length:Int):=by omega
     clear e1 e2 h1 h2
     go_enter Try.func22,Try.ntmps22
     go_wp2_with (first | (go_at_call 45;refine(HCL.out _ (HWB.out _ HB0.out)).mono ?_;rintro e w1 ⟨rfl,hb1⟩;have B1:=lh (HUP.out _ _ HB0.out hb1);obtain⟨y0,y1,y2,y3,y4,y5,y6,y7,y8,-⟩:=(HXB.out _ B1.out).all;clear hb1) | (go_at_call 50;refine(HCheckW (HMB.out _ (HWB.out _ B1.out)).h).mono ?_;rintro e w2 ⟨rfl,hb2⟩;have B2:=lh (HUP.out _ _ B1.out hb2);obtain⟨z0,z1,z2,z3,z4,z5,z6,z7,z8,-⟩:=(HXB.out _ B2.out).all;clear hb2))
     go_ret
     rw[HR.out]
     exact⟨rfl,HWB.out _ B2.out⟩
    ·have h3:¬ (5000<m.G.length∨12<m.Q.length):=fun e=>e.elim e3 e3'
     have t4:¬ (5000:Int)<(m.G.length:Int):=by omega
     have t5:¬ (12:Int)<(m.Q.length:Int):=by omega
     by_cases e4:ThereM m
     ·have hth:thereB m=true:=pd_true e4
      have h4:¬ thereB m=false:=by rw[hth];decide
      have HTH:=lh e4
      have H1:=lh h1;have H2:=lh h2;have H3:=lh h3;have H4:=lh h4
      clear e1 e2 h1 h2 e3 e3' h3 h4 e4
      go_enter Try.func22,Try.ntmps22
      go_wp2_with (first | (go_at_call 45;refine(HCL.out _ (HWB.out _ HB0.out)).mono ?_;rintro e w1 ⟨rfl,hb1⟩;have B1:=lh (HUP.out _ _ HB0.out hb1);obtain⟨y0,y1,y2,y3,y4,y5,y6,y7,y8,-⟩:=(HXB.out _ B1.out).all;clear hb1) | (go_at_call 50;refine(HCheckW (HMB.out _ (HWB.out _ B1.out)).h).mono ?_;rintro e w2 ⟨rfl,hb2⟩;have B2:=lh (HUP.out _ _ B1.out hb2);obtain⟨z0,z1,z2,z3,z4,z5,z6,z7,z8,-⟩:=(HXB.out _ B2.out).all;clear hb2) | (go_at_call 51;refine(ThereW m d (HMB.out _ (HWB.out _ B2.out)) HNR.out hl4).mono ?_;rintro e w3 ⟨rfl,hb3⟩;have B3:=lh (HUP.out _ _ B2.out hb3);obtain⟨x0,x1,x2,x3,x4,x5,x6,x7,x8,-⟩:=(HXB.out _ B3.out).all;clear hb3))
      go_loopw[37] (fun x37 wr=>∃ i:Nat,i≤m.G.length∧x37=.int .i64 i∧Hid (Below (w.heap.size+1) (w.alloc (.cells #[.slice d.h m.H.length d.hn,.slice d.g m.G.length d.gn,.int .i64 m.first,.slice d.c m.ch.length d.cn,.slice d.t m.T.length d.tn,.slice d.q m.Q.length d.qn,.int .i64 m.steps,.int .i64 m.fin,.slice d.a m.ans.length d.an] 30)) wr)∧Hid (∀ j (hj:j<m.G.length),j<i→GoalOk m.G j hj)) (fun x37 _=>m.G.length-(intOf x37).toNat)
      case atStart=>exact⟨0,Nat.zero_le _,rfl,B3,lh fun j _ h=>absurd h (Nat.not_lt_zero j)⟩
      case round =>
       obtain⟨i,hi,rfl,BL,HG⟩:=hrel
       obtain⟨q0,q1,q2,q3,q4,q5,q6,q7,q8,-⟩:=(HXB.out _ BL.out).all
       by_cases hlt:i<m.G.length
       ·by_cases hg:GoalOk m.G i hlt
        ·have hge:goalE m.G i=0:=by unfold goalE;rw[dif_pos hlt,if_pos hg]
         have hge':(goalE m.G i != 0)=false:=by rw[hge];rfl
         have HG2:Hid (∀ j (hj:j<m.G.length),j<i+1→GoalOk m.G j hj):=lh fun j hj h=>by
          by_cases e:j=i
          ·subst e;exact hg
          ·exact HG.out j hj (by omega)
         clear hg hge
         go_wp2_with (go_at_call 52;refine(GoalW m d (HMB.out _ (HWB.out _ BL.out)) i hlt).mono ?_;rintro e w4 ⟨rfl,hb4⟩;have B4:=lh (HUP.out _ _ BL.out hb4);clear hb4)
         go_roundw
         case measure=>simp only[intOf];omega
         case rel=>exact⟨i+1,by omega,by go_num,B4,HG2⟩
        ·have hge:goalE m.G i=4:=by unfold goalE;rw[dif_pos hlt,if_neg hg]
         have hge':(goalE m.G i != 0)=true:=by rw[hge];rfl
         have H5:Hid (pd (GoalsOk m.G)=false):=lh (pd_false fun e=>hg (e i hlt))
         have HR:Hid (checkM p m=4):=lh (by unfold checkM;rw[if_neg (fun e=>e H1.out),if_neg (fun e=>e H2.out),if_neg H3.out,if_neg H4.out,if_pos H5.out])
         have HGE:Hid (goalE m.G i=4):=lh hge
         clear hg hge
         go_wp2_with (go_at_call 52;refine(GoalW m d (HMB.out _ (HWB.out _ BL.out)) i hlt).mono ?_;rintro e w4 ⟨rfl,hb4⟩;have B4:=lh (HUP.out _ _ BL.out hb4);clear hb4)
         go_ret
         rw[HR.out]
         refine⟨?_,HWB.out _ B4.out⟩
         exact retI HGE.out
       ·have H5:Hid (¬ pd (GoalsOk m.G)=false):=lh (by rw[pd_true (show GoalsOk m.G from fun j hj=>HG.out j hj (by omega))];decide)
        by_cases f1:0≤m.first∧m.first≤(m.G.length:Int)
        ·have b1:betw m.first 0 (m.G.length:Int)=true:=betw_true f1
         have H6:Hid (¬ ¬ (0≤m.first∧m.first≤(m.G.length:Int))):=lh fun e=>e f1
         by_cases f2:ChoicesOk p.length m.G.length m.H.length m.T.length zeroChi m.ch
         ·have HCO:=lh f2
          have hce:choicesE p.length m=0:=by unfold choicesE;rw[if_pos (pd_true f2)]
          have hce':(choicesE p.length m != 0)=false:=by rw[hce];rfl
          have H7:Hid (¬ pd (ChoicesOk p.length m.G.length m.H.length m.T.length zeroChi m.ch)=false):=lh (by rw[pd_true f2];decide)
          by_cases f3:Lasting m.ch.reverse m
          ·have hpl:pd (Lasting m.ch.reverse m)=true:=pd_true f3
           have H8:Hid (¬ pd (Lasting m.ch.reverse m)=false):=lh (by rw[hpl];decide)
           by_cases f4:0≤m.steps∧m.steps≤400
           ·have b4:betw m.steps 0 400=true:=betw_true f4
            by_cases f5:0≤m.fin∧m.fin≤4
            ·have b5:betw m.fin 0 4=true:=betw_true f5
             have HR:Hid (checkM p m=0):=lh (by unfold checkM;rw[if_neg (fun e=>e H1.out),if_neg (fun e=>e H2.out),if_neg H3.out,if_neg H4.out,if_neg H5.out,if_neg H6.out,if_neg H7.out,if_neg H8.out,if_neg (by rw[pd_true (show RangeOk m from ⟨f4,f5⟩)];decide)])
             clear f1 f2 f3 f4 f5 hce
             go_wp2_with (first | (go_at_call 53;refine(withinW _ _ _ _).mono ?_;rintro e w5 ⟨rfl,rfl⟩) | (go_at_call 54;refine(ChoicesW m d (HMB.out _ (HWB.out _ BL.out)) p.length pc pa).mono ?_;rintro e w6 ⟨rfl,hb6⟩;have B6:=lh (HUP.out _ _ BL.out hb6);obtain⟨u0,u1,u2,u3,u4,u5,u6,u7,u8,-⟩:=(HXB.out _ B6.out).all;clear hb6) | (go_at_call 55;refine(LastingW m d (HMB.out _ (HWB.out _ B6.out)) HBIG.out HCO.out HTH.out HNR.out hl4).mono ?_;rintro e w7 ⟨rfl,hb7⟩;have B7:=lh (HUP.out _ _ B6.out hb7);obtain⟨v0,v1,v2,v3,v4,v5,v6,v7,v8,-⟩:=(HXB.out _ B7.out).all;clear hb7))
             go_ret
             rw[HR.out]
             exact⟨rfl,HWB.out _ B7.out⟩
            ·have b5:betw m.fin 0 4=false:=betw_false f5
             have HR:Hid (checkM p m=3):=lh (by unfold checkM;rw[if_neg (fun e=>e H1.out),if_neg (fun e=>e H2.out),if_neg H3.out,if_neg H4.out,if_neg H5.out,if_neg H6.out,if_neg H7.out,if_neg H8.out,if_pos (pd_false fun e:RangeOk m=>f5 e.2)])
             clear f1 f2 f3 f4 f5 hce
             go_wp2_with (first | (go_at_call 53;refine(withinW _ _ _ _).mono ?_;rintro e w5 ⟨rfl,rfl⟩) | (go_at_call 54;refine(ChoicesW m d (HMB.out _ (HWB.out _ BL.out)) p.length pc pa).mono ?_;rintro e w6 ⟨rfl,hb6⟩;have B6:=lh (HUP.out _ _ BL.out hb6);obtain⟨u0,u1,u2,u3,u4,u5,u6,u7,u8,-⟩:=(HXB.out _ B6.out).all;clear hb6) | (go_at_call 55;refine(LastingW m d (HMB.out _ (HWB.out _ B6.out)) HBIG.out HCO.out HTH.out HNR.out hl4).mono ?_;rintro e w7 ⟨rfl,hb7⟩;have B7:=lh (HUP.out _ _ B6.out hb7);obtain⟨v0,v1,v2,v3,v4,v5,v6,v7,v8,-⟩:=(HXB.out _ B7.out).all;clear hb7))
             go_ret
             rw[HR.out]
             exact⟨rfl,HWB.out _ B7.out⟩
           ·have b4:betw m.steps 0 400=false:=betw_false f4
            have HR:Hid (checkM p m=3):=lh (by unfold checkM;rw[if_neg (fun e=>e H1.out),if_neg (fun e=>e H2.out),if_neg H3.out,if_neg H4.out,if_neg H5.out,if_neg H6.out,if_neg H7.out,if_neg H8.out,if_pos (pd_false fun e:RangeOk m=>f4 e.1)])
            clear f1 f2 f3 f4 hce
            go_wp2_with (first | (go_at_call 53;refine(withinW _ _ _ _).mono ?_;rintro e w5 ⟨rfl,rfl⟩) | (go_at_call 54;refine(ChoicesW m d (HMB.out _ (HWB.out _ BL.out)) p.length pc pa).mono ?_;rintro e w6 ⟨rfl,hb6⟩;have B6:=lh (HUP.out _ _ BL.out hb6);obtain⟨u0,u1,u2,u3,u4,u5,u6,u7,u8,-⟩:=(HXB.out _ B6.out).all;clear hb6) | (go_at_call 55;refine(LastingW m d (HMB.out _ (HWB.out _ B6.out)) HBIG.out HCO.out HTH.out HNR.out hl4).mono ?_;rintro e w7 ⟨rfl,hb7⟩;have B7:=lh (HUP.out _ _ B6.out hb7);obtain⟨v0,v1,v2,v3,v4,v5,v6,v7,v8,-⟩:=(HXB.out _ B7.out).all;clear hb7))
            go_ret
            rw[HR.out]
            exact⟨rfl,HWB.out _ B7.out⟩
          ·have hpl:pd (Lasting m.ch.reverse m)=false:=pd_false f3
           have HR:Hid (checkM p m=4):=lh (by unfold checkM;rw[if_neg (fun e=>e H1.out),if_neg (fun e=>e H2.out),if_neg H3.out,if_neg H4.out,if_neg H5.out,if_neg H6.out,if_neg H7.out,if_pos hpl])
           clear f1 f2 f3 hce
           go_wp2_with (first | (go_at_call 53;refine(withinW _ _ _ _).mono ?_;rintro e w5 ⟨rfl,rfl⟩) | (go_at_call 54;refine(ChoicesW m d (HMB.out _ (HWB.out _ BL.out)) p.length pc pa).mono ?_;rintro e w6 ⟨rfl,hb6⟩;have B6:=lh (HUP.out _ _ BL.out hb6);obtain⟨u0,u1,u2,u3,u4,u5,u6,u7,u8,-⟩:=(HXB.out _ B6.out).all;clear hb6) | (go_at_call 55;refine(LastingW m d (HMB.out _ (HWB.out _ B6.out)) HBIG.out HCO.out HTH.out HNR.out hl4).mono ?_;rintro e w7 ⟨rfl,hb7⟩;have B7:=lh (HUP.out _ _ B6.out hb7);obtain⟨v0,v1,v2,v3,v4,v5,v6,v7,v8,-⟩:=(HXB.out _ B7.out).all;clear hb7))
           go_ret
           rw[HR.out]
           exact⟨rfl,HWB.out _ B7.out⟩
         ·have hcp:pd (ChoicesOk p.length m.G.length m.H.length m.T.length zeroChi m.ch)=false:=pd_false f2
          have hce:choicesE p.length m=4:=by unfold choicesE;rw[if_neg (by rw[hcp];decide)]
          have hce':(choicesE p.length m != 0)=true:=by rw[hce];rfl
          have HR:Hid (checkM p m=4):=lh (by unfold checkM;rw[if_neg (fun e=>e H1.out),if_neg (fun e=>e H2.out),if_neg H3.out,if_neg H4.out,if_neg H5.out,if_neg H6.out,if_pos hcp])
          have HGE:Hid (choicesE p.length m=4):=lh hce
          clear f1 f2 hce
          go_wp2_with (first | (go_at_call 53;refine(withinW _ _ _ _).mono ?_;rintro e w5 ⟨rfl,rfl⟩) | (go_at_call 54;refine(ChoicesW m d (HMB.out _ (HWB.out _ BL.out)) p.length pc pa).mono ?_;rintro e w6 ⟨rfl,hb6⟩;have B6:=lh (HUP.out _ _ BL.out hb6);obtain⟨u0,u1,u2,u3,u4,u5,u6,u7,u8,-⟩:=(HXB.out _ B6.out).all;clear hb6) | (go_at_call 55;refine(LastingW m d (HMB.out _ (HWB.out _ B6.out)) HBIG.out HCO.out HTH.out HNR.out hl4).mono ?_;rintro e w7 ⟨rfl,hb7⟩;have B7:=lh (HUP.out _ _ B6.out hb7);obtain⟨v0,v1,v2,v3,v4,v5,v6,v7,v8,-⟩:=(HXB.out _ B7.out).all;clear hb7))
          go_ret
          rw[HR.out]
          refine⟨?_,HWB.out _ B6.out⟩
          exact retI HGE.out
        ·have b1:betw m.first 0 (m.G.length:Int)=false:=betw_false f1
         have HR:Hid (checkM p m=4):=lh (by unfold checkM;rw[if_neg (fun e=>e H1.out),if_neg (fun e=>e H2.out),if_neg H3.out,if_neg H4.out,if_neg H5.out,if_pos f1])
         clear f1
         go_wp2_with (go_at_call 53;refine(withinW _ _ _ _).mono ?_;rintro e w5 ⟨rfl,rfl⟩)
         go_ret
         rw[HR.out]
         exact⟨rfl,HWB.out _ BL.out⟩
     ·have hth:thereB m=false:=pd_false e4
      have HR:Hid (checkM p m=5):=lh (by unfold checkM;rw[if_neg (fun e=>e h1),if_neg (fun e=>e h2),if_neg h3,if_pos hth])
      clear e1 e2 h1 h2 e3 e3' h3 e4
      go_enter Try.func22,Try.ntmps22
      go_wp2_with (first | (go_at_call 45;refine(HCL.out _ (HWB.out _ HB0.out)).mono ?_;rintro e w1 ⟨rfl,hb1⟩;have B1:=lh (HUP.out _ _ HB0.out hb1);obtain⟨y0,y1,y2,y3,y4,y5,y6,y7,y8,-⟩:=(HXB.out _ B1.out).all;clear hb1) | (go_at_call 50;refine(HCheckW (HMB.out _ (HWB.out _ B1.out)).h).mono ?_;rintro e w2 ⟨rfl,hb2⟩;have B2:=lh (HUP.out _ _ B1.out hb2);obtain⟨z0,z1,z2,z3,z4,z5,z6,z7,z8,-⟩:=(HXB.out _ B2.out).all;clear hb2) | (go_at_call 51;refine(ThereW m d (HMB.out _ (HWB.out _ B2.out)) HNR.out hl4).mono ?_;rintro e w3 ⟨rfl,hb3⟩;have B3:=lh (HUP.out _ _ B2.out hb3);obtain⟨x0,x1,x2,x3,x4,x5,x6,x7,x8,-⟩:=(HXB.out _ B3.out).all;clear hb3))
      go_ret
      rw[HR.out]
      exact⟨rfl,HWB.out _ B3.out⟩
  ·have t3:((checkH m.H:Int) != 0)=true:=bne0 e2
   have HR:Hid (checkM p m=checkH m.H):=lh (by unfold checkM;rw[if_neg (fun e=>e h1),if_pos e2])
   clear e1 e2 h1
   go_enter Try.func22,Try.ntmps22
   go_wp2_with (first | (go_at_call 45;refine(HCL.out _ (HWB.out _ HB0.out)).mono ?_;rintro e w1 ⟨rfl,hb1⟩;have B1:=lh (HUP.out _ _ HB0.out hb1);obtain⟨y0,y1,y2,y3,y4,y5,y6,y7,y8,-⟩:=(HXB.out _ B1.out).all;clear hb1) | (go_at_call 50;refine(HCheckW (HMB.out _ (HWB.out _ B1.out)).h).mono ?_;rintro e w2 ⟨rfl,hb2⟩;have B2:=lh (HUP.out _ _ B1.out hb2);obtain⟨z0,z1,z2,z3,z4,z5,z6,z7,z8,-⟩:=(HXB.out _ B2.out).all;clear hb2))
   go_ret
   rw[HR.out]
   exact⟨rfl,HWB.out _ B2.out⟩
 ·have t1:((programE p:Int) == 0)=false:=by rw[beq_eq_false_iff_ne];omega
  have t2:((programE p:Int) != 0)=true:=bne0 e1
  have HR:Hid (checkM p m=programE p):=lh (by unfold checkM;rw[if_pos e1])
  clear e1
  go_enter Try.func22,Try.ntmps22
  go_wp2_with (go_at_call 45;refine(HCL.out _ (HWB.out _ HB0.out)).mono ?_;rintro e w1 ⟨rfl,hb1⟩;have B1:=lh (HUP.out _ _ HB0.out hb1);obtain⟨y0,y1,y2,y3,y4,y5,y6,y7,y8,-⟩:=(HXB.out _ B1.out).all;clear hb1)
  go_ret
  rw[HR.out]
  exact⟨rfl,HWB.out _ B1.out⟩
end Go.Proofs.Ytikmgiapjigghab
