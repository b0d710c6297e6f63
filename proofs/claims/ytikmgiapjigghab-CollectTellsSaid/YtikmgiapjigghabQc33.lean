/- Walk: the live cells of a machine. -/
import Derived.Sort.LoopGhostIn
import Derived.BigRegion
import Derived.Test.YtikmgiapjigghabQc20
import Derived.Test.YtikmgiapjigghabQc24
import Derived.Test.YtikmgiapjigghabQc25
import Derived.Test.YtikmgiapjigghabQc26
set_option maxRecDepth 100000
set_option maxHeartbeats 8000000
namespace Go.Proofs.Ytikmgiapjigghab
open Go.RowKit Go.Shelf
attribute [local go_sem] Oper.semAt_some
attribute [local go_sem] mF
theorem Try.infoBool:(Try.prog.info? 4).map (fun i=>(i.zero,i.size,i.bytes))=some (some (.bool false),1,1):=by kernel_rfl
theorem tT(w:World)(n:Nat)(hn:n≤1000000):(Instr.makeSlice 39 (.int .i64 (n:Int)) (.int .i64 (n:Int))).run Try.prog w=.ok (.slice (some ⟨w.heap.size,0,none⟩) n n) (w.alloc (.cells ((List.replicate n false).map Value.bool).toArray 4)):=by
 obtain⟨i0,hi0,hz0,hz1,hz2⟩:=info_parts Try.infoBool;have:=run_make (P:=Try.prog) w 39 4 i0 _ Try.underlying39 hi0 hz0 .i64 .i64 n n (by omega) (Int.le_refl _) (by rw[hz2];omega) (by omega);rw[this,hz1];simp only[Int.toNat_natCast,Nat.mul_one];congr 3;apply Array.ext';show (madeCells #[Value.bool false] n).toList=_;rw[toList_madeCells_one];simp
structure LvW(w U:World)(m:Mac)(b3 b4 g:Nat)(Z:Nat→Prop)(R:Nat→Prop)(s:List Bool×List Nat)(wr:World):Prop where
 nd:gQ wr b3 b4 g Z s
 inv:LvI m.H R s
 m:lvM s≤2*m.H.length
 touch:aA (fun b=>b=g∨b=b4∨¬Z b) U wr
theorem LvW.need{w U:World}{m:Mac}{b3 b4 g:Nat}{Z:Nat→Prop}{R:Nat→Prop}{s:List Bool×List Nat}{wr wr':World}(h:LvW w U m b3 b4 g Z R s wr){x:Nat}(hx:x<m.H.length)(hl:gK m.H R x)(hn:gQ wr' b3 b4 g Z (eU s x))(ht:aA (fun b=>b=g∨b=b4∨¬Z b) wr wr'):LvW w U m b3 b4 g Z R (eU s x) wr' :=
 ⟨hn,h.inv.need hx hl,Nat.le_trans (aV4 (by rw[h.inv.len];exact hx)) h.m,h.touch.trans ht⟩
theorem LvW.left_len{w U:World}{m:Mac}{b3 b4 g:Nat}{Z:Nat→Prop}{R:Nat→Prop}{s:List Bool×List Nat}{wr:World}(h:LvW w U m b3 b4 g Z R s wr):s.2.length≤2*m.H.length:=by
 have:=h.m;unfold lvM at this;omega
theorem aV7(n:Nat):lvM (List.replicate n false,[])≤2*n:=by
 unfold lvM;have:=List.countP_le_length (p:=fun b=>decide (b=false)) (l:=List.replicate n false);rw[List.length_replicate] at this;simp only[List.length_nil];omega
theorem LvI.start(H:List HC)(R:Nat→Prop):LvI H R (List.replicate H.length false,[]) :=
 ⟨by simp,(fun i hi=>by
  rw[List.getElem?_replicate] at hi;split at hi
  ·cases hi
  ·cases hi),(fun i hi=>by cases hi)⟩
theorem LvC.start(H:List HC)(n:Nat)(ex:Nat→Prop):LvC H (List.replicate n false,[]) ex:=fun i hi=>by
 rw[List.getElem?_replicate] at hi;split at hi
 ·cases hi
 ·cases hi
theorem bK2(w:World)(o1 o2 o3 o4 o5:Obj):Below w.heap.size w (((((w.alloc o1).alloc o2).alloc o3).alloc o4).alloc o5)∧(((((w.alloc o1).alloc o2).alloc o3).alloc o4).alloc o5).heap.size=w.heap.size+5∧(((((w.alloc o1).alloc o2).alloc o3).alloc o4).alloc o5).heap[w.heap.size]? = some o1∧(((((w.alloc o1).alloc o2).alloc o3).alloc o4).alloc o5).heap[w.heap.size+1]? = some o2∧(((((w.alloc o1).alloc o2).alloc o3).alloc o4).alloc o5).heap[w.heap.size+1+1]? = some o3∧(((((w.alloc o1).alloc o2).alloc o3).alloc o4).alloc o5).heap[w.heap.size+1+1+1]? = some o4∧(((((w.alloc o1).alloc o2).alloc o3).alloc o4).alloc o5).heap[w.heap.size+1+1+1+1]? = some o5:=by
 have s1:(w.alloc o1).heap.size=w.heap.size+1:=by simp
 have s2:((w.alloc o1).alloc o2).heap.size=w.heap.size+1+1:=by simp
 have s3:(((w.alloc o1).alloc o2).alloc o3).heap.size=w.heap.size+1+1+1:=by simp
 have s4:((((w.alloc o1).alloc o2).alloc o3).alloc o4).heap.size=w.heap.size+1+1+1+1:=by simp
 refine⟨((((((bR _ _).alloc (nR _) _).alloc (by omega) _).alloc (by omega) _).alloc (by omega) _).alloc (by omega) _),by simp,?_,?_,?_,?_,?_⟩
 ·rw[Below.heap_alloc _ _ _ (by omega),Below.heap_alloc _ _ _ (by omega),Below.heap_alloc _ _ _ (by omega),Below.heap_alloc _ _ _ (by omega)];exact World.alloc_heap_new _ _
 ·rw[Below.heap_alloc _ _ _ (by omega),Below.heap_alloc _ _ _ (by omega),Below.heap_alloc _ _ _ (by omega),←s1];exact World.alloc_heap_new _ _
 ·rw[Below.heap_alloc _ _ _ (by omega),Below.heap_alloc _ _ _ (by omega),←s2];exact World.alloc_heap_new _ _
 ·rw[Below.heap_alloc _ _ _ (by omega),←s3];exact World.alloc_heap_new _ _
 ·rw[←s4];exact World.alloc_heap_new _ _
structure LvJ(U2:World)(m:Mac)(b3 b4 g:Nat)(Z:Nat→Prop)(R:Nat→Prop)(c bound:Nat)(pre:List Nat)(s:List Bool×List Nat)(W:World):Prop where
 nd:gQ W b3 b4 g Z s
 inv:LvI m.H R s
 bd:lvM s≤bound
 cl:LvC m.H s (· = c)
 roots:∀i,R i→s.1[i]? = some true
 pre:∀j,j∈pre→s.1[j]? = some true
 touch:aA (fun b=>b=g∨b=b4∨¬Z b) U2 W
theorem LvJ.own{U2:World}{m:Mac}{b3 b4 g:Nat}{Z:Nat→Prop}{R:Nat→Prop}{c bound:Nat}(pre:Nat→List Nat)(hZ:∀b,Z b→b<U2.heap.size):OwnFrom U2.heap.size (fun (i:Nat) W=>∃s,LvJ U2 m b3 b4 g Z R c bound (pre i) s W):=by
 rintro i W W' row ⟨s,h⟩ hg hr;refine⟨s,h.nd.step hg fun r e=>(hr r e).2,h.inv,h.bd,h.cl,h.roots,h.pre,?_⟩;refine h.touch.trans ((aA.grown hg fun k e=>e:aA (fun k=>row=some k) W W').mono fun b _ e=>.inr (.inr fun z=>?_));have:=(hr b e).1;have:=hZ b z;omega
theorem LvJ.need{U2:World}{m:Mac}{b3 b4 g:Nat}{Z:Nat→Prop}{R:Nat→Prop}{c bound:Nat}{pre:List Nat}{s:List Bool×List Nat}{W W':World}(h:LvJ U2 m b3 b4 g Z R c bound pre s W){x:Nat}(hx:x<m.H.length)(hl:gK m.H R x)(hn:gQ W' b3 b4 g Z (eU s x))(ht:aA (fun b=>b=g∨b=b4∨¬Z b) W W'):LvJ U2 m b3 b4 g Z R c bound (pre++[x]) (eU s x) W':=by
 have hx':x<s.1.length:=by rw[h.inv.len];exact hx
 have hm:=lI (s:=s) hx';refine⟨hn,h.inv.need hx hl,Nat.le_trans (aV4 hx') h.bd,h.cl.need hx',fun i hi=>hm.1 _ (h.roots i hi),fun j hj=>?_,h.touch.trans ht⟩;rcases List.mem_append.1 hj with hj|hj
 ·exact hm.1 _ (h.pre j hj)
 ·rw[List.mem_singleton] at hj;subst hj;exact hm.2.1
structure LvX(w U:World)(m:Mac)(R:Nat→Prop)(ds:List Nat)(s:List Bool×List Nat)(wr:World):Prop where
 lv:LvW w U m (w.heap.size+1+1) (w.heap.size+1+1+1) (w.heap.size+1) (fun b=>b<w.heap.size+5∨b∈ds) R s wr
 cl:LvC m.H s fun _=>False
 roots:∀i,R i→s.1[i]? = some true
 nd:ds.Nodup
 marks:∀D,D∈ds→w.heap.size+5≤D∧wr.heap[D]? = some (.deferred (some []))
def aB7(w:World)(l:List Bool)(e:Ending)(w':World):Prop :=
 ∃g,e=.returned (.slice (some ⟨g,0,none⟩) l.length l.length)∧w.heap.size≤g∧w'.heap[g]? = some (.cells (l.map Value.bool).toArray 4 (0,0))∧Below w.heap.size w w'
theorem bJ0(m:Mac)(d:MAd){w:World}{ok:Nat→Prop}(h:bO w ok m d)(hK:dK m.H)(hT:fV m)(hlen:m.H.length≤400000)(hG:m.G.length≤5000)(hQ:m.Q.length≤12) :
 Calls Try.prog 36 #[.agg #[.slice d.h m.H.length d.hn,.slice d.g m.G.length d.gn,.int .i64 m.first,.slice d.c m.ch.length d.cn,.slice d.t m.T.length d.tn,.slice d.q m.Q.length d.qn,.int .i64 m.steps,.int .i64 m.fin,.slice d.a m.ans.length d.an]] w (aB7 w (dU m.H (bX m.G m.Q))):=by
 refine(callsIn_wide (n:=3)).1 ?_;have hro:Fence.wide.round=none:=rfl;have h1:1≤3:=by omega
 have HM:Hid (bO w (fun b=>b<w.heap.size) m d):=lh (h.mono fun b hb _=>hb);have HK:=lh hK;have HT:=lh hT;have hq9:m.Q.length≤9223372036854775807:=by omega
 have hg9:m.G.length≤9223372036854775807:=by omega
 have hh9:m.H.length≤9223372036854775807:=by omega
 clear h hK hT;obtain⟨dh,dg,dc,dt,dq,da,dhn,dgn,dcn,dtn,dqn,dan⟩:=d;simp only;have hmk:=fun u=>tT u m.H.length (by omega)
 refine callsIn_of_wp_marks Try.func36 rfl trivial ?_ hro;simp only[Try.ntmps36,List.size_toArray,List.length_cons,List.length_nil,Nat.reduceAdd,Nat.reduceSub,Array.replicate_succ,Array.replicate_zero,List.push_toArray,List.append_toArray,List.nil_append,List.cons_append];obtain⟨U,hU⟩:∃U,U=((((w.alloc (.cells #[.slice dh m.H.length dhn,.slice dg m.G.length dgn,.int .i64 m.first,.slice dc m.ch.length dcn,.slice dt m.T.length dtn,.slice dq m.Q.length dqn,.int .i64 m.steps,.int .i64 m.fin,.slice da m.ans.length dan] 30)).alloc (.cells (Array.replicate m.H.length (.bool false)) 4)).alloc (.cells #[.slice (some ⟨w.heap.size+1,0,none⟩) m.H.length m.H.length] 39)).alloc (.cells #[.slice none 0 0] 27)).alloc (.cells #[.func (.func 69) #[] #[.pointer (some ⟨w.heap.size+1+1,0,none⟩),.pointer (some ⟨w.heap.size+1+1+1,0,none⟩)]] 98):=⟨_,rfl⟩
 obtain⟨hU0,hUs,hUx,hUg,hU3,hU4,hU5⟩:=bK2 w (.cells #[.slice dh m.H.length dhn,.slice dg m.G.length dgn,.int .i64 m.first,.slice dc m.ch.length dcn,.slice dt m.T.length dtn,.slice dq m.Q.length dqn,.int .i64 m.steps,.int .i64 m.fin,.slice da m.ans.length dan] 30) (.cells (Array.replicate m.H.length (.bool false)) 4) (.cells #[.slice (some ⟨w.heap.size+1,0,none⟩) m.H.length m.H.length] 39) (.cells #[.slice none 0 0] 27) (.cells #[.func (.func 69) #[] #[.pointer (some ⟨w.heap.size+1+1,0,none⟩),.pointer (some ⟨w.heap.size+1+1+1,0,none⟩)]] 98);rw[←hU] at hU0 hUs hUx hUg hU3 hU4 hU5;have HX:Hid (cL U w.heap.size m ⟨dh,dg,dc,dt,dq,da,dhn,dgn,dcn,dtn,dqn,dan⟩):=lh ⟨hUx⟩;have hL0:LvW w U m (w.heap.size+1+1) (w.heap.size+1+1+1) (w.heap.size+1) (fun b=>b<w.heap.size+5) (bX m.G m.Q) (List.replicate m.H.length false,[]) U:=by
  refine⟨⟨?_,?_,⟨none,0,hU4,World.ownsRow_nil _ _ _ _,fun j e=>nomatch e⟩,by omega,by omega,by omega,by omega,by omega,by omega⟩,LvI.start _ _,aV7 _,aA.refl _ _⟩
  ·simp only[List.length_replicate];exact hU3
  ·rw[hUg];simp[List.map_replicate]
 have HL0:=lh hL0;have HU0:=lh hU0;have HUS:=lh hUs;have HU5:=lh hU5;have u0:=HX.out.all;clear hUx hUg hU3 hU4 hU5 hU0 hL0;gi_wp2;rw[←hU];clear hU
 gi_loopw [20] (fun x20 wr=>∃(i:Nat) (s:List Bool×List Nat),i≤m.Q.length∧x20=.int .i64 i∧Hid (LvW w U m (w.heap.size+1+1) (w.heap.size+1+1+1) (w.heap.size+1) (fun b=>b<w.heap.size+5) (bX m.G m.Q) s wr)∧Hid (LvC m.H s fun _=>False)∧Hid (∀j (hj:j<m.Q.length),j<i→s.1[m.Q[j].toNat]? = some true)) (fun x20 _=>m.Q.length-(intOf x20).toNat)
 case atStart=>exact⟨0,_,Nat.zero_le _,rfl,HL0,lh (LvC.start _ _ _),lh fun j _ h=>absurd h (Nat.not_lt_zero j)⟩
 case round =>
  rename World=>wr
  obtain⟨i,s,hi,rfl,HL,HC,HR⟩:=hrel;have HTR:=lh HL.out.touch;have HBW:Hid (Below w.heap.size w wr):=lh (HU0.out.trans (HTR.out.toBelow HU0.out.size fun b e=>by have:=HUS.out;omega));have f5:wr.cell? ⟨w.heap.size+1+1+1+1,0,none⟩=some (.func (.func 69) #[] #[.pointer (some ⟨w.heap.size+1+1,0,none⟩),.pointer (some ⟨w.heap.size+1+1+1,0,none⟩)]):=by
   have h5:=(HTR.out.block _ (gS HU5.out).1 (by omega)).trans HU5.out;simp[World.cell?,h5]
  by_cases hlt:i<m.Q.length
  ·obtain⟨b,off,hdq,hbk,hb,c0⟩:=HM.out.q.at' i hlt
   have hdq':dq=some ⟨b,off,none⟩:=hdq;clear hdq;subst hdq';have y0:=(HBW.out.cell (p:=⟨b,off+i,none⟩) hbk).trans c0;obtain⟨q1,q2⟩:=HT.out.query _ (List.getElem_mem hlt);obtain⟨q,hq⟩:∃q:Nat,m.Q[i]=(q:Int):=⟨m.Q[i].toNat,by omega⟩
   have HQ:=lh hq;have hql:q<m.H.length:=by omega
   have HRT:Hid (gK m.H (bX m.G m.Q) q):=lh (.root (.inl (by rw[←hq];exact List.getElem_mem hlt)));rw[hq] at y0;have hsz:w.heap.size+5≤wr.heap.size:=by have:=HTR.out.size;have:=HUS.out;omega
   have HND:=lh (aV8 HL.out.nd (fun b hb=>by omega) (x:=q) (by rw[HL.out.inv.len];exact hql) (by have:=HL.out.left_len;omega));have HQL:=lh hql;clear q1 q2 hq c0 hsz hql;gi_wp2_with (refine⟨trivial,?_⟩;gi_at_call 69;refine(show CallsIn Fence.wide _ _ _ _ _ _ from callsIn_wide.2 HND.out).mono ?_;rintro e w1 ⟨⟨v,rfl⟩,hn,ht,-⟩;have HN1:=lh hn;have HT1:=lh ht;clear hn ht);go_roundw
   case measure=>simp only[intOf];omega
   case rel =>
    have hm:=lI (s:=s) (x:=q) (by rw[HL.out.inv.len];exact HQL.out);refine⟨i+1,eU s q,by omega,by go_num,lh (HL.out.need HQL.out HRT.out HN1.out HT1.out),lh (HC.out.need (by rw[HL.out.inv.len];exact HQL.out)),lh fun j hj h=>?_⟩;by_cases e:j=i
    ·subst e;rw[HQ.out,Int.toNat_natCast];exact hm.2.1
    ·exact hm.1 _ (HR.out j hj (by omega))
  ·have HRQ:Hid (∀x,x∈m.Q→s.1[x.toNat]? = some true):=lh fun x hx=>by
    obtain⟨j,hj,rfl⟩:=List.getElem_of_mem hx;exact HR.out j hj (by omega)
   obtain⟨x0,x1,x2,x3,x4,x5,x6,x7,x8,-⟩:=(HX.out.keep (HTR.out.block _ HX.out.lt (by have:=HUS.out;omega))).all;clear HR u0;gi_wp2
   gi_loopw [31] (fun x31 wr=>∃(i:Nat) (s:List Bool×List Nat),i≤m.G.length∧x31=.int .i64 i∧Hid (LvW w U m (w.heap.size+1+1) (w.heap.size+1+1+1) (w.heap.size+1) (fun b=>b<w.heap.size+5) (bX m.G m.Q) s wr)∧Hid (LvC m.H s fun _=>False)∧Hid (∀x,x∈m.Q→s.1[x.toNat]? = some true)∧Hid (∀j (hj:j<m.G.length),j<i→s.1[m.G[j].at'.toNat]? = some true)) (fun x31 _=>m.G.length-(intOf x31).toNat)
   case atStart=>exact⟨0,s,Nat.zero_le _,rfl,HL,HC,HRQ,lh fun j _ h=>absurd h (Nat.not_lt_zero j)⟩
   case round =>
    rename World=>wr2
    obtain⟨i2,s2,hi2,rfl,HL2,HC2,HRQ2,HR2⟩:=hrel;have HTR2:=lh HL2.out.touch;have HBW2:Hid (Below w.heap.size w wr2):=lh (HU0.out.trans (HTR2.out.toBelow HU0.out.size fun b e=>by have:=HUS.out;omega));clear x0 x1 x2 x3 x4 x5 x6 x7 x8 f5 HL HC HRQ HTR HBW;have g5:wr2.cell? ⟨w.heap.size+1+1+1+1,0,none⟩=some (.func (.func 69) #[] #[.pointer (some ⟨w.heap.size+1+1,0,none⟩),.pointer (some ⟨w.heap.size+1+1+1,0,none⟩)]):=by
     have h5:=(HTR2.out.block _ (gS HU5.out).1 (by omega)).trans HU5.out;simp[World.cell?,h5]
    have hl5:w.heap.size+1+1+1+1<wr2.heap.size:=nT (gS HU5.out).1 HTR2.out.size;by_cases hlt2:i2<m.G.length
    ·obtain⟨b,off,hdg,hbk,hb,hcs⟩:=HM.out.g.some (by decide) (by omega)
     have hdg':dg=some ⟨b,off,none⟩:=hdg;clear hdg;subst hdg';obtain⟨g0,g1,g2⟩:=fU m.G i2 hlt2;have m0:=(HBW2.out.cell (p:=⟨b,off+i2*3,none⟩) hb).trans (hcs _ _ g0);have m1:wr2.cell? ⟨b,off+i2*3+1,none⟩=_:=(HBW2.out.cell (p:=⟨b,off+(i2*3+1),none⟩) hb).trans (hcs _ _ g1);have m2:wr2.cell? ⟨b,off+i2*3+2,none⟩=_:=(HBW2.out.cell (p:=⟨b,off+(i2*3+2),none⟩) hb).trans (hcs _ _ g2);obtain⟨q1,q2⟩:=HT.out.goals _ (List.getElem_mem hlt2);obtain⟨q,hq⟩:∃q:Nat,m.G[i2].at'=(q:Int):=⟨m.G[i2].at'.toNat,by omega⟩
     have HQ:=lh hq;have hql:q<m.H.length:=by omega
     have HRT:Hid (gK m.H (bX m.G m.Q) q):=lh (.root (.inr ⟨_,List.getElem_mem hlt2,hq⟩));rw[hq] at m0;obtain⟨gc,hgc⟩:∃z,m.G[i2].cut=z:=⟨_,rfl⟩
     obtain⟨gn,hgn⟩:∃z,m.G[i2].next=z:=⟨_,rfl⟩
     rw[hgc] at m1;rw[hgn] at m2;have hsz:w.heap.size+5≤wr2.heap.size:=by have:=HTR2.out.size;have:=HUS.out;omega
     have hba:Below wr2.heap.size wr2 (wr2.alloc (.cells #[.int .i64 (q:Nat),.int .i64 gc,.int .i64 gn] 65)):=(bR _ _).alloc (nR _) _;have HL3:Hid (LvW w U m (w.heap.size+1+1) (w.heap.size+1+1+1) (w.heap.size+1) (fun b=>b<w.heap.size+5) (bX m.G m.Q) s2 (wr2.alloc (.cells #[.int .i64 (q:Nat),.int .i64 gc,.int .i64 gn] 65))):=lh ⟨HL2.out.nd.below hba,HL2.out.inv,HL2.out.m,HL2.out.touch.trans (aA.below hba)⟩;have HND:=lh (aV8 HL3.out.nd (fun b hb=>by simp;omega) (x:=q) (by rw[HL3.out.inv.len];exact hql) (by have:=HL3.out.left_len;omega));have HQL:=lh hql;clear q1 q2 hq g0 g1 g2 hcs hsz hql hba hgc hgn;gi_wp2_with (refine⟨trivial,?_⟩;gi_at_call 69;refine(show CallsIn Fence.wide _ _ _ _ _ _ from callsIn_wide.2 HND.out).mono ?_;rintro e w1 ⟨⟨v,rfl⟩,hn,ht,-⟩;have HN1:=lh hn;have HT1:=lh ht;clear hn ht);go_roundw
     case measure=>simp only[intOf];omega
     case rel =>
      have hm:=lI (s:=s2) (x:=q) (by rw[HL2.out.inv.len];exact HQL.out);refine⟨i2+1,eU s2 q,by omega,by go_num,lh (HL3.out.need HQL.out HRT.out HN1.out HT1.out),lh (HC2.out.need (by rw[HL2.out.inv.len];exact HQL.out)),lh fun x hx=>hm.1 _ (HRQ2.out x hx),lh fun j hj h=>?_⟩;by_cases e:j=i2
      ·subst e;rw[HQ.out,Int.toNat_natCast];exact hm.2.1
      ·exact hm.1 _ (HR2.out j hj (by omega))
    ·have HRA:Hid (∀i,bX m.G m.Q i→s2.1[i]? = some true):=lh fun i hr=>by
      rcases hr with hr|⟨g,hg,he⟩
      ·exact HRQ2.out _ hr
      ·obtain⟨j,hj,rfl⟩:=List.getElem_of_mem hg
       have:=HR2.out j hj (by omega);rw[he,Int.toNat_natCast] at this;exact this
     clear HR2 HRQ2;gi_wp2;clear HBW2 g5 hl5;refine wpIn_loop_ghost_k (fun (fk:Nat) (a':Act) (wr:World)=>∃(v6 v7 v8 v9 v10 v11 v12 v13 v14 v15 v16 v17 v18 v19 v20 v21 v22 v23 v24 v25 v26 v27 v28 v29 v30 v31 v32 v33 v34 v35 v36 v37 v38 v39 v40 v41 v42 v43 v44 v45 v46 v47 v48 v49 v50 v51 v52 v53 v54 v55 v56 v57 v58 v59 v60 v61 v62:Value) (ds:List Nat) (s:List Bool×List Nat),a' = {tmps:=#[.agg #[.slice dh m.H.length dhn,.slice dg m.G.length dgn,.int .i64 m.first,.slice dc m.ch.length dcn,.slice dt m.T.length dtn,.slice dq m.Q.length dqn,.int .i64 m.steps,.int .i64 m.fin,.slice da m.ans.length dan],.pointer (some ⟨w.heap.size,0,none⟩),.slice none 0 0,.pointer (some ⟨w.heap.size+1+1,0,none⟩),.pointer (some ⟨w.heap.size+1+1+1,0,none⟩),.pointer (some ⟨w.heap.size+1+1+1+1,0,none⟩),v6,v7,v8,v9,v10,v11,v12,v13,v14,v15,v16,v17,v18,v19,v20,v21,v22,v23,v24,v25,v26,v27,v28,v29,v30,v31,v32,v33,v34,v35,v36,v37,v38,v39,v40,v41,v42,v43,v44,v45,v46,v47,v48,v49,v50,v51,v52,v53,v54,v55,v56,v57,v58,v59,v60,v61,v62],defers:=marks ds}∧Hid (fk=lvM s)∧Hid (LvX w U m (bX m.G m.Q) ds s wr)) (lvM s2) ?start ?round
     case start=>exact⟨_,_,_,_,_,_,_,_,_,_,_,_,_,_,_,_,_,_,_,_,_,_,_,_,_,_,_,_,_,_,_,_,_,_,_,_,_,_,_,_,_,_,_,_,_,_,_,_,_,_,_,_,_,_,_,_,_,[],s2,rfl,lh rfl,lh ⟨⟨HL2.out.nd.weaken (fun b hb=>hb.elim id fun h=>nomatch h) (.inl (by omega)) (.inl (by omega)) (.inl (by omega)),HL2.out.inv,HL2.out.m,HL2.out.touch.mono fun b _ e=>e.imp id (Or.imp id fun h z=>h (z.elim id fun h=>nomatch h))⟩,HC2.out,HRA.out,List.nodup_nil,fun D h=>nomatch h⟩⟩
     case round =>
      rintro fk a' wr3 ⟨v6,v7,v8,v9,v10,v11,v12,v13,v14,v15,v16,v17,v18,v19,v20,v21,v22,v23,v24,v25,v26,v27,v28,v29,v30,v31,v32,v33,v34,v35,v36,v37,v38,v39,v40,v41,v42,v43,v44,v45,v46,v47,v48,v49,v50,v51,v52,v53,v54,v55,v56,v57,v58,v59,v60,v61,v62,ds,s3,rfl,HF,HLX⟩ J K hJ hK;have HJ:=lh hJ;have HK2:=lh hK;clear hJ hK;have HTR3:=lh HLX.out.lv.touch;have hUS:=HUS.out;have HBW3:Hid (Below w.heap.size w wr3):=lh (HU0.out.trans (HTR3.out.toBelow HU0.out.size fun b e=>by
       rcases e with e|e|e
       ·omega
       ·omega
       ·exact Nat.le_of_not_lt fun h=>e (.inl (by omega))))
      have hlw:w.heap.size+5≤wr3.heap.size:=by have:=HTR3.out.size;omega
      have hfar:∀b,b=w.heap.size∨b=w.heap.size+1+1+1+1→¬(b=w.heap.size+1∨b=w.heap.size+1+1+1∨¬(b<w.heap.size+5∨b∈ds)):=fun b hb e=>by
       rcases e with e|e|e
       ·omega
       ·omega
       ·exact e (.inl (by omega))
      have f5:wr3.cell? ⟨w.heap.size+1+1+1+1,0,none⟩=some (.func (.func 69) #[] #[.pointer (some ⟨w.heap.size+1+1,0,none⟩),.pointer (some ⟨w.heap.size+1+1+1,0,none⟩)]):=by
       have h5:=(HTR3.out.block _ (gS HU5.out).1 (hfar _ (.inr rfl))).trans HU5.out;simp[World.cell?,h5]
      obtain⟨x0,x1,x2,x3,x4,x5,x6,x7,x8,-⟩:=(HX.out.keep (HTR3.out.block _ HX.out.lt (hfar _ (.inl rfl)))).all;obtain⟨o3,l3⟩:=s3;rcases List.eq_nil_or_concat l3 with rfl|⟨l,c,rfl⟩
      ·obtain⟨la,lc,h4,-,-⟩:=HLX.out.lv.nd.c4
       simp only[List.length_nil] at h4;have q4:wr3.cell? ⟨w.heap.size+1+1+1,0,none⟩=some (.slice la 0 lc):=by simp[World.cell?,h4]
       have q3:=HLX.out.lv.nd.all.1;simp only at q3;have HE:Hid (o3=dU m.H (bX m.G m.Q)):=lh (aB2 HLX.out.lv.inv HLX.out.cl HLX.out.roots rfl);clear h4 hfar x1 x2 x3 x4 x5 x6 x7 x8;gi_wp2;refine pS ds _ HLX.out.nd (fun D hD=>(HLX.out.marks D hD).2) fun w' hw'=>?_
       refine⟨.slice (some ⟨w.heap.size+1,0,none⟩) o3.length o3.length,by simp[results,Try.results36,go_sem],?_⟩;rw[←HE.out];refine⟨w.heap.size+1,rfl,by omega,?_,?_⟩
       ·rw[hw'.block _ fun e=>by have:=(HLX.out.marks _ e).1;omega];exact HLX.out.lv.nd.out
       ·exact HBW3.out.trans (hw'.touch.toBelow HBW3.out.size fun b e=>by have:=(HLX.out.marks _ e).1;omega)
      ·obtain⟨gl,cap,q4,hc1,hc2,y0,zf,hnd⟩:=gQ.pop (by have:=HLX.out.lv.nd;rwa [List.concat_eq_append] at this)
       have hinv:=HLX.out.lv.inv;have hcl:=HLX.out.cl;have hmm:=HLX.out.lv.m;rw[List.concat_eq_append] at hinv hcl hmm HF;have hcH:c<m.H.length:=(hinv.left c (by simp)).1;have hcL:gK m.H (bX m.G m.Q) c:=hinv.sound c (hinv.left c (by simp)).2;have HCH:=lh hcH;have HCL:=lh hcL;have hinv2:LvI m.H (bX m.G m.Q) (o3,l):=⟨hinv.len,hinv.sound,fun i hi=>hinv.left i (List.mem_append_left _ hi)⟩
       have hcl2:LvC m.H (o3,l) (· = c):=fun i hi=>by
        rcases hcl i hi with e|e|e
        ·rcases List.mem_append.1 e with e|e
         ·exact .inl e
         ·exact .inr (.inl (by simpa using e))
        ·exact e.elim
        ·exact .inr (.inr e)
       have hbd:lvM (o3,l)+1=lvM (o3,l++[c]):=by unfold lvM;simp only[List.length_append,List.length_singleton];omega
       have HINV:=lh hinv2;have HCL2:=lh hcl2;have HBD:=lh hbd;have HMM:=lh hmm;have HND:=lh hnd;have HFF:Hid (lvM (o3,l)+1=fk):=lh (hbd.trans HF.out.symm);obtain⟨n1,hn1⟩:∃n1,l.length+1=n1:=⟨_,rfl⟩
       rw[hn1] at q4 hc1;have hlm:(n1:Int)-1=(l.length:Int):=by omega
       have h0:(0:Int)<(n1:Int):=by omega
       have hx0:(0:Int)≤(l.length:Int):=by omega
       have hx1:(l.length:Int)<(n1:Int):=by omega
       have hx2:(l.length:Int)≤(cap:Int):=by omega
       have hc3:cap≤9223372036854775807:=by unfold maxLen at hc2;omega
       clear hinv hcl hmm hinv2 hcl2 hbd hnd hn1 hc1 hc2 hcH hcL HF hfar x1 x2 x3 x4 x5 x6 x7 x8;gi_wp2_with (refine⟨trivial,?_⟩;gi_at_call 70;refine(aE0 Fence.wide (3-1) trivial hro _ _ _ _ _).mono ?_;rintro e w' ⟨rfl,rfl⟩);obtain⟨W2,hW2⟩:∃W2,W2=(((wr3.setCell ⟨w.heap.size+1+1+1,0,none⟩ (.slice (some ⟨gl,0,none⟩) l.length cap)).alloc (.cells #[.slice dh m.H.length dhn] 24)).alloc (.cells #[.int .i64 (c:Nat)] 3)):=⟨_,rfl⟩
       rw[←hW2];have hs1:(wr3.setCell ⟨w.heap.size+1+1+1,0,none⟩ (.slice (some ⟨gl,0,none⟩) l.length cap)).heap.size=wr3.heap.size:=by simp
       have hs2:W2.heap.size=wr3.heap.size+2:=by rw[hW2];simp
       have hb12:Below wr3.heap.size (wr3.setCell ⟨w.heap.size+1+1+1,0,none⟩ (.slice (some ⟨gl,0,none⟩) l.length cap)) W2:=by rw[hW2];exact(((bR _ _).alloc (by omega) _).alloc (by simp) _)
       have ht32:aA (fun b=>b=w.heap.size+1+1+1) wr3 W2:=(aA.setCell (M:=fun b=>b=w.heap.size+1+1+1) _ rfl).trans (aA.below (by rw[hs1];exact hb12));have hc0:W2.cell? ⟨wr3.heap.size,0,none⟩=some (.slice dh m.H.length dhn):=by
        rw[hW2];have:=(fD (wr3.setCell ⟨w.heap.size+1+1+1,0,none⟩ (.slice (some ⟨gl,0,none⟩) l.length cap)) (.slice dh m.H.length dhn) 24).1;rw[hs1] at this;exact bZ _ this
       have hc1:W2.cell? ⟨wr3.heap.size+1,0,none⟩=some (.int .i64 (c:Nat)):=by
        rw[hW2];have:=(fD ((wr3.setCell ⟨w.heap.size+1+1+1,0,none⟩ (.slice (some ⟨gl,0,none⟩) l.length cap)).alloc (.cells #[.slice dh m.H.length dhn] 24)) (.int .i64 (c:Nat)) 3).1;simpa using this
       clear hW2;have HS2:=lh hs2;have HT32:=lh ht32;have hmk:∀D,D∈ds→D<wr3.heap.size:=fun D hD=>(gS (HLX.out.marks D hD).2).1
       have hZ2:∀b,(b<w.heap.size+5∨b∈ds)∨b=wr3.heap.size∨b=wr3.heap.size+1→b<W2.heap.size:=fun b hb=>by
        rcases hb with (hb|hb)|hb|hb
        ·omega
        ·have:=hmk b hb;omega
        ·omega
        ·omega
       have HZ2:=lh hZ2;have hN2:gQ W2 (w.heap.size+1+1) (w.heap.size+1+1+1) (w.heap.size+1) (fun b=>(b<w.heap.size+5∨b∈ds)∨b=wr3.heap.size∨b=wr3.heap.size+1) (o3,l):=((HND.out.more (Z':=fun b=>(b<w.heap.size+5∨b∈ds)∨b=wr3.heap.size∨b=wr3.heap.size+1) (fun b hb=>hb.imp id fun h=>by omega) (fun b hb=>.inl hb)).below (by rw[hs1];exact hb12))
       have HJ0:Hid (LvJ W2 m (w.heap.size+1+1) (w.heap.size+1+1+1) (w.heap.size+1) (fun b=>(b<w.heap.size+5∨b∈ds)∨b=wr3.heap.size∨b=wr3.heap.size+1) (bX m.G m.Q) c (lvM (o3,l)) [] (o3,l) W2):=lh ⟨hN2,HINV.out,nR _,HCL2.out,HLX.out.roots,(fun j h=>nomatch h),aA.refl _ _⟩;have hB2:Below w.heap.size w W2:=HBW3.out.trans (ht32.toBelow HBW3.out.size fun b e=>by omega);have HHK:Hid (dV W2 (fun b=>b<w.heap.size∨b=wr3.heap.size+1) m.H dh dhn):=lh ((HM.out.h.keep (aD.below hB2 _)).mono fun b _ hb=>.inl hb);have HF5:Hid (W2.heap[w.heap.size+1+1+1+1]? = some (.cells #[.func (.func 69) #[] #[.pointer (some ⟨w.heap.size+1+1,0,none⟩),.pointer (some ⟨w.heap.size+1+1+1,0,none⟩)]] 98 (0,0))):=lh ((ht32.block _ (by omega) (by omega)).trans ((HTR3.out.block _ (gS HU5.out).1 (fun e=>by
        rcases e with e|e|e
        ·omega
        ·omega
        ·exact e (.inl (by omega)))).trans HU5.out))
       have hb0:wr3.heap.size<W2.heap.size:=by omega
       have hb1:wr3.heap.size+1<W2.heap.size:=by omega
       clear x0 f5 q4 y0 zf hN2 hb12 hs1 ht32 hB2 hmk hZ2;refine pF (n:=3) hro h1 (gf:=95) (lb:=#[.pointer (some ⟨wr3.heap.size,0,none⟩),.pointer (some ⟨wr3.heap.size+1,0,none⟩)]) rfl trivial (enters_of Try.func95 (by kernel_rfl) rfl)
        (encs:=fun k=>#[.int .i64 ((leads m.H c).getD k 0:Nat)]) (Kp:=aD fun b=>b<w.heap.size∨b=wr3.heap.size+1) (N:=(leads m.H c).length) (w0:=W2)
        (aB6 (n:=2) (by omega) hb0 hb1 (.inr rfl) hc0 hc1 HHK.out HCH.out hlen (HK.out c HCH.out))
        (fun {A B C} h k=>h.trans k) (fun W l o o' hl _ _=>⟨(grownBy_putObj' W l o').size,fun b hb hlt=>(grownBy_putObj' W l o').block b hlt (fun e=>by cases e;omega)⟩) (bR _ _) (fun _=>rfl)
        (fun i W=>∃s,LvJ W2 m (w.heap.size+1+1) (w.heap.size+1+1+1) (w.heap.size+1) (fun b=>(b<w.heap.size+5∨b∈ds)∨b=wr3.heap.size∨b=wr3.heap.size+1) (bX m.G m.Q) c (lvM (o3,l)) ((leads m.H c).take i) s W)
        (fun _ _=>False) (LvJ.own (fun i=>(leads m.H c).take i) HZ2.out) (fun _ _ _ _ h _ _=>h) ⟨_,HJ0.out⟩
        (fun i a' _=>a' = {tmps:=#[.agg #[.slice dh m.H.length dhn,.slice dg m.G.length dgn,.int .i64 m.first,.slice dc m.ch.length dcn,.slice dt m.T.length dtn,.slice dq m.Q.length dqn,.int .i64 m.steps,.int .i64 m.fin,.slice da m.ans.length dan],.pointer (some ⟨w.heap.size,0,none⟩),.slice none 0 0,.pointer (some ⟨w.heap.size+1+1,0,none⟩),.pointer (some ⟨w.heap.size+1+1+1,0,none⟩),.pointer (some ⟨w.heap.size+1+1+1+1,0,none⟩),v6,v7,v8,v9,.int .i64 (c:Nat),.int .i64 ((leads m.H c).getD i 0:Nat),v12,v13,v14,v15,v16,v17,v18,v19,v20,v21,v22,v23,v24,v25,v26,v27,v28,v29,v30,v31,v32,v33,v34,v35,v36,v37,v38,v39,.slice (some ⟨gl,0,none⟩) n1 cap,.int .i64 n1,.bool true,.slice (some ⟨gl,0,none⟩) n1 cap,.slice (some ⟨gl,0,none⟩) n1 cap,.int .i64 n1,.int .i64 l.length,.pointer (some ⟨gl,l.length,none⟩),.int .i64 (c:Nat),.slice (some ⟨gl,0,none⟩) n1 cap,.slice (some ⟨gl,0,none⟩) n1 cap,.int .i64 n1,.int .i64 l.length,.slice (some ⟨gl,0,none⟩) l.length cap,.pointer (some ⟨w.heap.size,0,none⟩),.slice dh m.H.length dhn,.int .i64 (c:Nat),.func (.func 95) #[] #[.pointer (some ⟨wr3.heap.size,0,none⟩),.pointer (some ⟨wr3.heap.size+1,0,none⟩)],.int .i64 ((leads m.H c).getD i 0:Nat),v59,v60,v61,v62],defers:=[]}) (fun a' i W W' row h _ _=>h) ?assign ?body ?done ?stop
       case assign =>
        intro lp i W K9 hN hI hK9;clear hN;gi_wp2;exact hK9 _ _ ⟨nR _,fun k o _ ho _=>ho⟩ (aD.below (bR _ _) _) hI rfl
       case body =>
        rintro lp i a' W hN ⟨s,hJ⟩ rfl;have hmem:(leads m.H c).getD i 0∈leads m.H c:=by rw[List.getD_eq_getElem?_getD,List.getElem?_eq_getElem hN];exact List.getElem_mem hN
        have htk:(leads m.H c).take (i+1)=(leads m.H c).take i++[(leads m.H c).getD i 0]:=by rw[List.take_succ_eq_append_getElem hN,List.getD_eq_getElem?_getD,List.getElem?_eq_getElem hN];rfl
        generalize (leads m.H c).getD i 0=x at *;have hxl:x<m.H.length:=iF HK.out c HCH.out x hmem;have HXV:Hid (gK m.H (bX m.G m.Q) x):=lh (.lead HCL.out hmem);have HXL:=lh hxl;have HTK:=lh htk;have HJH:=lh hJ;have hsz:=hJ.touch.size;have f5:W.cell? ⟨w.heap.size+1+1+1+1,0,none⟩=some (.func (.func 69) #[] #[.pointer (some ⟨w.heap.size+1+1,0,none⟩),.pointer (some ⟨w.heap.size+1+1+1,0,none⟩)]):=by
         have h5:=(hJ.touch.block _ (by have:=HS2.out;omega) (fun e=>by
          rcases e with e|e|e
          ·omega
          ·omega
          ·exact e (.inl (.inl (by omega))))).trans HF5.out
         simp[World.cell?,h5]
        have HN9:=lh (aV8 hJ.nd (fun b hb=>nT (HZ2.out b hb) hsz) (x:=x) (by rw[hJ.inv.len];exact hxl) (by have h1:=hJ.bd;have h2:=HBD.out;have h3:=HMM.out;unfold lvM at h1 h2 h3;omega));clear hmem htk hxl hJ hsz;gi_wp2_with (refine⟨trivial,?_⟩;gi_at_call 69;refine(show CallsIn Fence.wide _ _ _ _ _ _ from callsIn_wide.2 HN9.out).mono ?_;rintro e w9 ⟨⟨v,rfl⟩,hn,ht,hk⟩;have HN10:=lh hn;have HT10:=lh ht;have HK10:=lh hk;clear hn ht hk);refine⟨⟨HT10.out.size,fun k o _ ho hoc=>HK10.out k o ho hoc⟩,HT10.out.keeps fun b hb e=>?_,eU s x,?_⟩
        ·rcases e with e|e|e
         ·omega
         ·omega
         ·exact e (hb.elim (fun h=>.inl (.inl (by omega))) fun h=>.inr (.inr h))
        ·rw[HTK.out];exact HJH.out.need HXL.out HXV.out HN10.out HT10.out
       case done =>
        rintro D W hD ⟨s,hJ⟩ hK9;have HJH:=lh hJ;have HKD:=lh hK9;clear hJ hK9;gi_wp2;have hs2:=HS2.out;have hmk:∀D',D'∈ds→D'<wr3.heap.size∧w.heap.size+5≤D':=fun D' hD'=>⟨(gS (HLX.out.marks D' hD').2).1,(HLX.out.marks D' hD').1⟩
        refine HK2.out _ _ ⟨lvM s,by have:=HJH.out.bd;have:=HFF.out;omega,HJ.out _ _ _ ⟨v6,v7,v8,v9,_,_,v12,v13,v14,v15,v16,v17,v18,v19,v20,v21,v22,v23,v24,v25,v26,v27,v28,v29,v30,v31,v32,v33,v34,v35,v36,v37,v38,v39,_,_,_,_,_,_,_,_,_,_,_,_,_,_,_,_,_,_,_,v59,v60,v61,v62,D::ds,s,rfl,lh rfl,lh ⟨⟨?_,HJH.out.inv,?_,?_⟩,?_,HJH.out.roots,?_,?_⟩⟩⟩
        ·exact HJH.out.nd.mark HKD.out rfl (fun b hb=>by
          rcases hb with hb|hb
          ·exact .inl (.inl (.inl hb))
          ·rcases List.mem_cons.1 hb with hb|hb
           ·exact .inr hb
           ·exact .inl (.inl (.inr hb))) (.inl (by omega)) (.inl (by omega)) (.inl (by omega))
        ·have h1:=HJH.out.bd;have h2:=HBD.out;have h3:=HMM.out;omega
        ·have t1:=HLX.out.lv.touch
         have t1s:=t1.size;refine((t1.trans (HT32.out.mono fun b _ e=>.inr (.inl e))).trans (HJH.out.touch.mono fun b _ e=>e.imp id (Or.imp id fun h z=>h (.inl z)))).mono fun b hb e=>e.imp id (Or.imp id fun h z=>?_)
         rcases z with z|z
         ·exact h (.inl z)
         ·rcases List.mem_cons.1 z with z|z
          ·omega
          ·exact h (.inr z)
        ·intro i hi
         rcases HJH.out.cl i hi with e|e|e
         ·exact .inl e
         ·exact .inr (.inr fun j hj=>HJH.out.pre j (by rw[List.take_length];rw[e] at hj;exact hj))
         ·exact .inr (.inr e)
        ·exact List.nodup_cons.2 ⟨fun hm=>by have:=hmk D hm;omega,HLX.out.nd⟩
        ·intro D' hD'
         rcases List.mem_cons.1 hD' with rfl|hD'
         ·exact⟨by omega,HKD.out⟩
         ·have h1:=hmk D' hD'
          refine⟨h1.2,((HJH.out.touch.block D' (by omega) fun e=>?_).trans (HT32.out.block D' h1.1 (by omega))).trans (HLX.out.marks D' hD').2⟩;rcases e with e|e|e
          ·omega
          ·omega
          ·exact e (.inl (.inr hD'))
       case stop =>
        rintro D W hD hf;exact hf.elim
end Go.Proofs.Ytikmgiapjigghab
namespace Go.Proofs.Ytikmgiapjigghab
open Go.RowKit
theorem oT(w:World)(n:Nat)(hn:n*8≤281474976710656):(Instr.makeSlice 27 (.int .i64 (n:Int)) (.int .i64 (n:Int))).run Try.prog w=.ok (.slice (some ⟨w.heap.size,0,none⟩) n n) (w.alloc (.cells ((List.replicate n 0).map fun v:Int=>Value.int .i64 v).toArray 3)):=by
 obtain⟨i0,hi0,hz0,hz1,hz2⟩:=info_parts Try.infoInt;have:=run_make (P:=Try.prog) w 27 3 i0 _ Try.underlying27 hi0 hz0 .i64 .i64 n n (by omega) (Int.le_refl _) (by rw[hz2];omega) (by omega);rw[this,hz1];simp only[Int.toNat_natCast,Nat.mul_one];congr 3;apply Array.ext';show (madeCells #[Value.int .i64 0] n).toList=_;rw[toList_madeCells_one];simp
theorem sF{w:World}{g n:Nat}(f:Nat→Nat)(h:w.heap[g]? = some (.cells ((List.replicate n 0).map fun v:Int=>Value.int .i64 v).toArray 3 (0,0)))(hl:n≤maxLen):(rI (dQ f n 0) (some ⟨g,0,none⟩) n).In w 0:=by
 have e:dQ f n 0=List.replicate n 0:=wR f n;have h2:=aN0 (l:=dQ f n 0) (g:=g) (w:=w) (by rw[e];exact h) (by rw[eC];exact hl);rw[eC] at h2;exact h2
theorem RwS.storeT{w:World}{B:Nat}{vs:Array Value}{ty:TypeId}{d:MAd}{wr:World}{R:List bC}(h:RwS w B vs ty d wr R){i:Nat}{f:Nat→Nat}{n k g c:Nat}(hi:R[i]? = some (rI (dQ f n k) (some ⟨g,0,none⟩) c))(hk:k<n):RwS w B vs ty d (wr.setCell ⟨g,k,none⟩ (.int .i64 (f k:Nat))) (R.set i (rI (dQ f n (k+1)) (some ⟨g,0,none⟩) c)):=by
 have:=h.storeI hi k (f k:Nat);rw[aB0 hk] at this;exact this
theorem aC1{α:Type}(f:α→α){k:Nat}{l:List α}(h:k<l.length)(hf:f l[k]=l[k]):cP f (k+1) l=cP f k l:=by
 rw[←eZ f h,hf];have:=gZ f h;refine List.ext_getElem? fun j=>?_
 rw[List.getElem?_set];by_cases e:k=j
 ·subst e
  rw[if_pos rfl,if_pos (by rw[bN];exact h),List.getElem?_eq_getElem (by rw[bN];exact h),this]
 ·rw[if_neg e]
theorem yZ{L:List HC}{ck:HC}(a:Option Addr)(n c:Nat)(h:n=L.length+1):(⟨69,3,a,n,c,bS L++[.int .i64 ck.k,.int .i64 ck.n,.string ck.name]⟩:bC)=rH (L++[ck]) a c:=by
 subst h;simp[rH,pY,bS]
theorem aN5{L:List Int}{x:Int}(a:Option Addr)(n c:Nat)(h:n=L.length+1):(⟨3,1,a,n,c,(L.map fun x=>Value.int .i64 x)++[.int .i64 x]⟩:bC)=rI (L++[x]) a c:=by
 subst h;simp[rI]
theorem RwS.new{w:World}{B:Nat}{vs:Array Value}{ty:TypeId}{d:MAd}{wr:World}{m:Mac}{A:List ((Option Addr×Nat)×List Tm)}{L:List bC}(h:RwS w B vs ty d wr (eN m d A++L)){i:Nat}(hi6:6≤i){r:bC}(hi:(eN m d A++L)[i]? = some r):∀b,bk r.a=some b→w.heap.size≤b:=by
 intro b hb;rcases h.own i r hi b hb with e|e
 ·exfalso
  have key:∀j s,j<6→(eN m d A++L)[j]? = some s→bk s.a=some b→False:=fun j s hj hs e=>h.bag.ne j i s r (by omega) hs hi b e hb
  simp only[rws,List.mem_cons,List.not_mem_nil,or_false] at e;rcases e with e|e|e|e|e|e
  ·exact key 0 _ (by decide) rfl e.symm
  ·exact key 1 _ (by decide) rfl e.symm
  ·exact key 2 _ (by decide) rfl e.symm
  ·exact key 3 _ (by decide) rfl e.symm
  ·exact key 4 _ (by decide) rfl e.symm
  ·exact key 5 _ (by decide) rfl e.symm
 ·exact e
theorem wZ{stay:List Bool}{H:List HC}(hl:H.length≤400000)(hf:∀i,i<H.length→(hc H i).fits)(hll:stay.length=H.length):∀i,i<(aN (bK stay) stay H).length→(hc (aN (bK stay) stay H) i).fits:=by
 intro i hi;rw[lV hi];have hm:(aN (bK stay) stay H)[i]∈(aN id stay H).map (bK stay):=by rw[oL];exact List.getElem_mem hi
 obtain⟨c,hc1,hc2⟩:=List.mem_map.1 hm;rw[←hc2];have hc3:=lS hc1;obtain⟨j,hj,e⟩:=List.getElem_of_mem hc3;have h1:=hf j hj;rw[lV hj,e] at h1;unfold bK;by_cases hk:c.k=1
 ·rw[if_pos hk]
  have h2:aO stay c.n.toNat≤H.length:=by
   unfold aO;refine Nat.le_trans List.countP_le_length ?_;rw[List.length_take];omega
  exact⟨h1.1,by show I64 (aO stay c.n.toNat:Int);unfold I64;omega,h1.2.2⟩
 ·rw[if_neg hk];exact h1
def iP(s:List Bool)(g:Gl):Gl:={g with at':=(aO s g.at'.toNat:Int)}
def jT(s:List Bool)(x:Int):Int:=(aO s x.toNat:Int)
def oU(s:List Bool)(T:List Int)(c:Chi):Chi:={c with heap:=(aO s c.heap.toNat:Int),trail:=((bM s (T.take c.trail.toNat)).length:Int)}
theorem pT(s:List Bool)(m:Mac):dD s m = {m with H:=aN (bK s) s m.H,G:=m.G.map (iP s),Q:=m.Q.map (jT s),T:=bM s m.T,ch:=m.ch.map (oU s m.T)}:=rfl
theorem aW0{H:List HC}(hC:dK H){c:HC}(hc:c∈H)(hk:c.k=1):∃q:Nat,c.n=(q:Int)∧q<H.length:=by
 obtain⟨i,hi,rfl⟩:=List.getElem_of_mem hc;have h:=bV (hC i hi);rw[lV hi] at h;rcases h with ⟨-,h1,h2,-⟩|⟨h1,-⟩
 ·exact⟨_,(Int.toNat_of_nonneg h1).symm,h2⟩
 ·rw[hk] at h1;exact absurd h1 (by decide)
theorem jU(s:List Bool):∀l:List Int,(bM s l).length≤l.length
 | []=>nR _
 | x::r=>by
  have:=jU s r;simp only[bM,List.length_cons];split
  ·simp only[List.length_cons];omega
  ·omega
theorem bQ3(m:Mac)(d:MAd){w:World}{B o:Nat}{vs:Array Value}{ty:TypeId}{okA:Nat→Prop}(hbx:w.heap[B]? = some (.cells vs ty (0,0)))(hv:BxV vs o m d)(hO:OwM w 0 okA m d)(hoB:∀b,okA b→b≠B)(hne:∀y,y∈rws d→y≠some B)(hK:dZ m.H)(hT:fV m)(hG:m.G.length≤5000)(hQ:m.Q.length≤12)(hTl:m.T.length*8≤140737488355328)(hch:∀c,c∈m.ch→0≤c.heap∧c.heap≤(m.H.length:Int)∧0≤c.trail∧c.trail≤(m.T.length:Int)) :
 Calls Try.prog 37 #[.pointer (some ⟨B,o,none⟩)] w (aN4 w B o vs ty m d okA (dD (dU m.H (bX m.G m.Q)) m)):=by
 obtain⟨A,e1,e2,e3⟩:=hO.a;have HE1:=lh e1;have HE3:=lh e3;have HS0:=lh (RwS.start hbx hO hne e1 e2);have HLV:=lh (bJ0 m d hO.mac hK.cells hT hK.len hG hQ);have HV:=lh hv;have HO:=lh hO;have HOB:=lh hoB;have HK:=lh hK;have HT:=lh hT;have HCH:=lh hch;have hlen:=hK.len;have hc9:m.ch.length≤9223372036854775807:=by have:=(bC.In.cap (r:=rK m.ch d.c d.cn) hO.c);unfold maxLen at this;simp only[rK] at this;omega
 have hll:(dU m.H (bX m.G m.Q)).length=m.H.length:=kD _ _;generalize dU m.H (bX m.G m.Q)=stay at *;clear hbx hv hO hoB hne hK hT hch e1 e2 e3;obtain⟨x0,x1,x2,x3,x4,x5,x6,x7,x8,xf⟩:=HS0.out.all HV.out;have HMK1:=lh (fun u=>oT u (m.H.length+1) (by omega));have HMK2:=lh (fun u=>oT u (m.T.length+1) (by omega));have hmk:=HMK1.out;simp only[Int.natCast_add,show ((1:Nat):Int)=1 from rfl] at hmk;go_enter Try.func37,Try.ntmps37;go_upto_region 3 with (go_at_call 36;refine HLV.out.mono ?_;rintro r w1 ⟨g,rfl,hg,hgc,hb1⟩;have HS1:=lh (HS0.out.add hb1 (bE4 hgc (by unfold maxLen;omega)) (fun b hb=>by have e:g=b:=(by simpa[rB,bk,Value.ownBlock] using hb);omega));clear hg hgc hb1 x0 x1 x2 x3 x4 x5 x6 x7 x8 xf;obtain⟨x0,x1,x2,x3,x4,x5,x6,x7,x8,xf⟩:=HS1.out.all HV.out);refine(show (∀U:World,U=_→Code.wp _ _ _ _ U)→Code.wp _ _ _ _ _ from fun hW=>hW _ rfl) ?_;intro U hU;have HS2:Hid (RwS w B vs ty d U (eN m d A++[rB stay (some ⟨g,0,none⟩) stay.length,rI (dQ (aO stay) (m.H.length+1) 0) (some ⟨w1.heap.size,0,none⟩) (m.H.length+1)])):=lh (by
  exact HS1.out.add (by rw[hU];exact(bR _ _).alloc (nR _) _) (sF _ (by rw[hU,heap_alloc_new];simp[List.map_replicate]) (by unfold maxLen;omega)) (fun b hb=>by have e:w1.heap.size=b:=(by simpa[rI,bk,Value.ownBlock] using hb);omega))
 have HS3:Hid (RwS w B vs ty d U (eN m d A++[rB stay (some ⟨g,0,none⟩) stay.length,rI (dQ (aO stay) (m.H.length+1) 0) (some ⟨w1.heap.size,0,none⟩) (m.H.length+1),rH (aN id (stay.take 0) (m.H.take 0)) none 0])):=lh (HS2.out.add (bR _ _) (r:=rH (aN id (stay.take 0) (m.H.take 0)) none 0) (World.ownsRow_nil _ _ _ _) (fun b hb=>nomatch hb));generalize w1.heap.size=tb at *;clear hU HS1 HS2 HS0 hmk;clear x0 x1 x2 x3 x4 x5 x6 x7 x8 xf;obtain⟨x0,x1,x2,x3,x4,x5,x6,x7,x8,xf⟩:=HS3.out.all HV.out;obtain⟨dh,dg,dc,dt,dq,da,dhn,dgn,dcn,dtn,dqn,dan⟩:=d;simp only at *;go_wp2_with fail
 go_loopw[5,35] (fun v5 v35 wr=>∃(k:Nat) (ca:Option Addr) (cc:Nat),k≤m.H.length∧v5=.slice ca (aO stay k) cc∧v35=.int .i64 k∧Hid (RwS w B vs ty ⟨dh,dg,dc,dt,dq,da,dhn,dgn,dcn,dtn,dqn,dan⟩ wr (eN m ⟨dh,dg,dc,dt,dq,da,dhn,dgn,dcn,dtn,dqn,dan⟩ A++[rB stay (some ⟨g,0,none⟩) stay.length,rI (dQ (aO stay) (m.H.length+1) k) (some ⟨tb,0,none⟩) (m.H.length+1),rH (aN id (stay.take k) (m.H.take k)) ca cc]))) (fun _ v35 _=>m.H.length-(intOf v35).toNat)
 case atStart=>exact⟨0,none,0,Nat.zero_le _,by rw[oO],rfl,HS3⟩
 case round =>
  rename World=>wr
  obtain⟨k,ca,cc,hk,rfl,rfl,HS⟩:=hrel;have hsk:=pP stay k;clear x0 x1 x2 x3 x4 x5 x6 x7 x8 xf;by_cases hlt:k<m.H.length
  ·obtain⟨gh,hgh,zh⟩:=(HS.out.row 0 rfl).blk (show 0<m.H.length by omega)
   have hgh':dh=some ⟨gh,0,none⟩:=hgh;clear hgh;subst hgh';obtain⟨m0,m1,m2⟩:=bJ1 (HS.out.row 0 rfl) hlt;have hks:k<stay.length:=by omega
   have z0:=bI4 (HS.out.row 6 rfl) hks;have zg:=((HS.out.row 6 rfl).lt (b:=g) rfl).2;have zt:=((HS.out.row 7 rfl).lt (b:=tb) rfl).2;have tf:=(HS.out.row 7 rfl).fz rfl;obtain⟨tw,tc⟩:∃v,wr.cell? ⟨tb,k,none⟩=some v:=⟨_,pN (HS.out.row 7 rfl) (j:=k) (by rw[eC];omega)⟩
   have n1:g≠tb:=HS.out.two 6 7 (by decide) rfl rfl rfl rfl;have n2:tb≠g:=n1.symm;have HSU:=lh (oN hks);have HKU:=lh (mL (id:HC→HC) stay m.H k hks hlt);have HKL:=lh (mC (l:=m.H) (k:=k) hll);obtain⟨tv,htv⟩:∃tv,stay[k]=tv:=⟨_,rfl⟩
   rw[htv] at z0 HSU HKU;have hki:((k:Int)<(m.H.length:Int)+1):=by omega
   clear htv hks;have HHL:=lh hlt;generalize hck:m.H[k]=ck at *;clear hck;cases tv with
   | false =>
    go_wp2_with fail;refine⟨?rel,?measure⟩
    case measure=>simp only[intOf];omega
    case rel =>
     have h1:=HSU.out;have h2:=HKU.out;rw[if_neg (by decide)] at h1 h2;rw[List.append_nil] at h2;refine⟨k+1,ca,cc,by omega,by rw[h1];rfl,by go_num,lh ?_⟩;rw[h2];have hlt:=HHL.out;exact(HS.out.storeT (i:=7) rfl (by omega)).below ((bR _ _).alloc (nR _) _)
   | true =>
    obtain⟨i0,hi0,hz0,hz1,hz2⟩:=info_parts Try.infoCell;go_wp2_with (at_builtin;refine aJ _ rfl _ _ 24 rfl 0 69 i0 _ 3 32 Try.underlying24 hi0 hz0 hz1 hz2 rfl (by decide) _ (aO stay k) (bS (aN id (stay.take k) (m.H.take k))) rfl ?a1 (some ⟨wr.heap.size+1,0,none⟩) 1 1 ?e0 [.int .i64 ck.k,.int .i64 ck.n,.string ck.name] rfl rfl ?e1 ?e2 ?e3 ?e4 ?e5 ?_)
    case a1 =>
     have hlt:=HHL.out;have h:=(((HS.out.storeT (i:=7) rfl (show k<m.H.length+1 by omega)).below ((bR _ _).alloc (nR _) (.cells #[.int .i64 ck.k,.int .i64 ck.n,.string ck.name] 69))).below ((bR _ _).alloc (nR _) (.cells #[.int .i64 ck.k,.int .i64 ck.n,.string ck.name] 69))).row 8 rfl;unfold bC.In at h;simp only[rH,HKL.out] at h;exact h
    case e2=>exact⟨rfl,rfl,rfl⟩
    case e3=>unfold maxLen;omega
    case e4=>omega
    intro v8 w8 hown8 hgrow8 hfr8;obtain⟨a8,c8,rfl⟩:=bL hown8;have HN8:=lh (((HS.out.storeT (i:=7) rfl (show k<m.H.length+1 by have:=HHL.out;omega)).below ((bR _ _).alloc (nR _) (.cells #[.int .i64 ck.k,.int .i64 ck.n,.string ck.name] 69))).grow (i:=8) (r:=rH (aN id (stay.take k) (m.H.take k)) ca cc) rfl ((bR _ _).alloc (nR _) _) hown8 hgrow8 hfr8);clear hown8 hgrow8 hfr8;go_wp2_with fail;refine⟨?rel,?measure⟩
    case measure=>simp only[intOf];omega
    case rel =>
     have h1:aO stay (k+1)=aO stay k+1:=HSU.out;have h2:aN id (stay.take (k+1)) (m.H.take (k+1))=aN id (stay.take k) (m.H.take k)++[ck]:=HKU.out;refine⟨k+1,a8,c8,by omega,by rw[h1],by go_num,lh ?_⟩;rw[h2];rw[←yZ a8 (aO stay k+1) c8 (by rw[HKL.out])];exact HN8.out
  ·have hkn:k=m.H.length:=by omega
   subst hkn;have HS4:Hid (RwS w B vs ty ⟨dh,dg,dc,dt,dq,da,dhn,dgn,dcn,dtn,dqn,dan⟩ wr (eN m ⟨dh,dg,dc,dt,dq,da,dhn,dgn,dcn,dtn,dqn,dan⟩ A++[rB stay (some ⟨g,0,none⟩) stay.length,rI (dQ (aO stay) (m.H.length+1) m.H.length) (some ⟨tb,0,none⟩) (m.H.length+1),rH (aN id stay m.H) ca cc])):=lh (by
    have h:=HS.out;rw[List.take_of_length_le (Nat.le_of_eq hll),List.take_of_length_le (nR _)] at h;exact h)
   have HCL:Hid (∀c,c∈aN id stay m.H→c∈m.H):=lh fun c h=>lS h
   have HCN:Hid ((aN id stay m.H).length=aO stay m.H.length):=lh (by
    have h:=mC (k:=m.H.length) hll;rw[List.take_of_length_le (Nat.le_of_eq hll),List.take_of_length_le (nR _)] at h;exact h)
   have HCE:Hid ((aN id stay m.H).map (bK stay)=aN (bK stay) stay m.H):=lh (oL _ _ _);clear HS;generalize aN id stay m.H=CL at *;have hcl:CL.length≤400000:=by rw[HCN.out];omega
   obtain⟨x0,x1,x2,x3,x4,x5,x6,x7,x8,xf⟩:=HS4.out.all HV.out;have zt:=((HS4.out.row 7 rfl).lt (b:=tb) rfl).2;have tf:=(HS4.out.row 7 rfl).fz rfl;obtain⟨tw,tc⟩:∃v,wr.cell? ⟨tb,m.H.length,none⟩=some v:=⟨_,pN (HS4.out.row 7 rfl) (j:=m.H.length) (by rw[eC];omega)⟩
   have HS5:Hid (RwS w B vs ty ⟨dh,dg,dc,dt,dq,da,dhn,dgn,dcn,dtn,dqn,dan⟩ (wr.setCell ⟨tb,m.H.length,none⟩ (.int .i64 (CL.length:Nat))) (eN m ⟨dh,dg,dc,dt,dq,da,dhn,dgn,dcn,dtn,dqn,dan⟩ A++[rB stay (some ⟨g,0,none⟩) stay.length,rI (dQ (aO stay) (m.H.length+1) (m.H.length+1)) (some ⟨tb,0,none⟩) (m.H.length+1),rH (cP (bK stay) 0 CL) ca cc])):=lh (by
    rw[HCN.out,fS];exact HS4.out.storeT (i:=7) rfl (Nat.lt_succ_self _))
   rw[←HCN.out];have hsc:aO stay m.H.length=CL.length:=HCN.out.symm;clear hsk hlt hk hsc HS4;go_wp2_with fail;clear x0 x1 x2 x3 x4 x5 x6 x7 x8 xf zt tf tc tw
   go_loopw[65] (fun v65 wr=>∃k:Nat,k≤CL.length∧v65=.int .i64 k∧Hid (RwS w B vs ty ⟨dh,dg,dc,dt,dq,da,dhn,dgn,dcn,dtn,dqn,dan⟩ wr (eN m ⟨dh,dg,dc,dt,dq,da,dhn,dgn,dcn,dtn,dqn,dan⟩ A++[rB stay (some ⟨g,0,none⟩) stay.length,rI (dQ (aO stay) (m.H.length+1) (m.H.length+1)) (some ⟨tb,0,none⟩) (m.H.length+1),rH (cP (bK stay) k CL) ca cc]))) (fun v65 _=>CL.length-(intOf v65).toNat)
   case atStart=>exact⟨0,Nat.zero_le _,rfl,HS5⟩
   case round =>
    rename World=>wr2
    obtain⟨k,hk,rfl,HS⟩:=hrel;clear HS5;by_cases hlt:k<CL.length
    ·obtain⟨gc,hgc,zc⟩:=(HS.out.row 8 rfl).blk (show 0<(cP (bK stay) k CL).length by rw[bN];omega)
     have hgc':ca=some ⟨gc,0,none⟩:=hgc;clear hgc;subst hgc';obtain⟨m0,m1,m2⟩:=bJ1 (HS.out.row 8 rfl) (j:=k) (by rw[bN];exact hlt);have HFA:=lh (gZ (bK stay) hlt);rw[HFA.out] at m0 m1 m2;have HSU:=lh (eZ (bK stay) hlt);have HSK:=lh (aC1 (bK stay) hlt);have HHL:=lh hlt;have zt:=((HS.out.row 7 rfl).lt (b:=tb) rfl).2;have cf:=(HS.out.row 8 rfl).fz rfl;have n1:tb≠gc:=HS.out.two 7 8 (by decide) rfl rfl rfl rfl;have n2:gc≠tb:=n1.symm;have HCM:=lh (HCL.out _ (List.getElem_mem hlt));have HST:=lh (fun x=>HS.out.storeH (i:=8) rfl (j:=k) (by rw[bN];exact hlt) x);generalize hck:CL[k]=ck at *;by_cases hk1:ck.k=1
     ·obtain⟨q,hq,hql⟩:=aW0 HK.out.cells HCM.out hk1
      rw[hk1] at m0;rw[hq] at m1;have t0:=kL (HS.out.row 7 rfl) (j:=q) (by omega) (by omega);have HQ:=lh hq;have HK1:=lh hk1;have hq1:((q:Int)<(m.H.length:Int)+1):=by omega
      clear hq hk1 hck hql;go_wp2_with fail;refine⟨?rel,?measure⟩
      case measure=>simp only[intOf];omega
      case rel =>
       refine⟨k+1,by omega,by go_num,lh ?_⟩;have h1:=HST.out (aO stay q:Nat);rw[HFA.out] at h1;have h2:bK stay ck = {ck with n:=(aO stay q:Int)}:=by
        unfold bK;rw[if_pos HK1.out,HQ.out,Int.toNat_natCast]
       rw[←h2] at h1;rw[←HSU.out];exact h1.below ((bR _ _).alloc (nR _) _)
     ·have hkb:(ck.k == 1)=false:=by simpa using hk1
      have HK1:=lh hk1;clear hck;go_wp2_with fail;refine⟨?rel,?measure⟩
      case measure=>simp only[intOf];omega
      case rel =>
       refine⟨k+1,by omega,by go_num,lh ?_⟩;rw[HSK.out (by unfold bK;rw[if_neg HK1.out])];exact HS.out.below ((bR _ _).alloc (nR _) _)
    ·have hkn:k=CL.length:=by omega
     subst hkn;have HS6:Hid (RwS w B vs ty ⟨dh,dg,dc,dt,dq,da,dhn,dgn,dcn,dtn,dqn,dan⟩ wr2 (eN {m with G:=cP (iP stay) 0 m.G} ⟨dh,dg,dc,dt,dq,da,dhn,dgn,dcn,dtn,dqn,dan⟩ A++[rB stay (some ⟨g,0,none⟩) stay.length,rI (dQ (aO stay) (m.H.length+1) (m.H.length+1)) (some ⟨tb,0,none⟩) (m.H.length+1),rH (aN (bK stay) stay m.H) ca cc])):=lh (by
      have h:=HS.out;rw[gP,HCE.out] at h;rw[fS];exact h)
     have HKN:Hid ((aN (bK stay) stay m.H).length=CL.length):=lh (by rw[←HCE.out,List.length_map]);obtain⟨x0,x1,x2,x3,x4,x5,x6,x7,x8,xf⟩:=HS6.out.all HV.out;clear HS HCL HCE hlt hk;go_wp2_with fail;clear x0 x1 x2 x3 x4 x5 x6 x7 x8 xf
     go_loopw[88] (fun v88 wr=>∃k:Nat,k≤m.G.length∧v88=.int .i64 k∧Hid (RwS w B vs ty ⟨dh,dg,dc,dt,dq,da,dhn,dgn,dcn,dtn,dqn,dan⟩ wr (eN {m with G:=cP (iP stay) k m.G} ⟨dh,dg,dc,dt,dq,da,dhn,dgn,dcn,dtn,dqn,dan⟩ A++[rB stay (some ⟨g,0,none⟩) stay.length,rI (dQ (aO stay) (m.H.length+1) (m.H.length+1)) (some ⟨tb,0,none⟩) (m.H.length+1),rH (aN (bK stay) stay m.H) ca cc]))) (fun v88 _=>m.G.length-(intOf v88).toNat)
     case atStart=>exact⟨0,Nat.zero_le _,rfl,HS6⟩
     case round =>
      rename World=>wr3
      obtain⟨k,hk,rfl,HS⟩:=hrel;clear HS6;by_cases hlt:k<m.G.length
      ·obtain⟨gg,hgg,zg⟩:=(HS.out.row 1 rfl).blk (show 0<(cP (iP stay) k m.G).length by rw[bN];omega)
       have hgg':dg=some ⟨gg,0,none⟩:=hgg;clear hgg;subst hgg';obtain⟨x0,x1,x2,x3,x4,x5,x6,x7,x8,xf⟩:=HS.out.all HV.out;obtain⟨m0,m1,m2⟩:=bI5 (HS.out.row 1 rfl) (j:=k) (by rw[bN];exact hlt);have HFA:=lh (gZ (iP stay) hlt);have HSU:=lh (eZ (iP stay) hlt);have HST:=lh (fun x=>HS.out.storeG (i:=1) rfl (j:=k) (by rw[bN];exact hlt) x);rw[HFA.out] at m0;obtain⟨q1,q2⟩:=HT.out.goals _ (List.getElem_mem hlt);obtain⟨q,hq⟩:∃q:Nat,m.G[k].at'=(q:Int):=⟨m.G[k].at'.toNat,by omega⟩
       rw[hq] at m0;have t0:=kL (HS.out.row 7 rfl) (j:=q) (by omega) (by omega);have hq1:((q:Int)<(m.H.length:Int)+1):=by omega
       have zt:=((HS.out.row 7 rfl).lt (b:=tb) rfl).2;have cf:=(HS.out.row 1 rfl).fz rfl;have HQ:=lh hq;clear q1 q2 hq m1 m2 x0 x2 x3 x4 x5 x6 x7 x8;go_wp2_with fail
       go_region
       all_goals
        go_wp2_with fail;refine⟨?rel,?measure⟩
        case measure=>simp only[intOf];omega
        case rel =>
         refine⟨k+1,by omega,by go_num,lh ?_⟩;have h1:=HST.out (aO stay q:Nat);rw[HFA.out] at h1;have h2:iP stay m.G[k] = {m.G[k] with at':=(aO stay q:Int)}:=by
          unfold iP;rw[HQ.out,Int.toNat_natCast]
         rw[←h2,HSU.out] at h1;exact h1.below (bP _ 1)
      ·have hkn:k=m.G.length:=by omega
       subst hkn;have HS7:Hid (RwS w B vs ty ⟨dh,dg,dc,dt,dq,da,dhn,dgn,dcn,dtn,dqn,dan⟩ wr3 (eN {m with G:=m.G.map (iP stay),Q:=cP (jT stay) 0 m.Q} ⟨dh,dg,dc,dt,dq,da,dhn,dgn,dcn,dtn,dqn,dan⟩ A++[rB stay (some ⟨g,0,none⟩) stay.length,rI (dQ (aO stay) (m.H.length+1) (m.H.length+1)) (some ⟨tb,0,none⟩) (m.H.length+1),rH (aN (bK stay) stay m.H) ca cc])):=lh (by
        have h:=HS.out;rw[gP] at h;rw[fS];exact h)
       obtain⟨x0,x1,x2,x3,x4,x5,x6,x7,x8,xf⟩:=HS7.out.all HV.out;clear HS hlt hk;go_wp2_with fail;clear x0 x1 x2 x3 x4 x5 x6 x7 x8 xf
       go_loopw[115] (fun v115 wr=>∃k:Nat,k≤m.Q.length∧v115=.int .i64 k∧Hid (RwS w B vs ty ⟨dh,dg,dc,dt,dq,da,dhn,dgn,dcn,dtn,dqn,dan⟩ wr (eN {m with G:=m.G.map (iP stay),Q:=cP (jT stay) k m.Q} ⟨dh,dg,dc,dt,dq,da,dhn,dgn,dcn,dtn,dqn,dan⟩ A++[rB stay (some ⟨g,0,none⟩) stay.length,rI (dQ (aO stay) (m.H.length+1) (m.H.length+1)) (some ⟨tb,0,none⟩) (m.H.length+1),rH (aN (bK stay) stay m.H) ca cc]))) (fun v115 _=>m.Q.length-(intOf v115).toNat)
       case atStart=>exact⟨0,Nat.zero_le _,rfl,HS7⟩
       case round =>
        rename World=>wr4
        obtain⟨k,hk,rfl,HS⟩:=hrel;clear HS7;by_cases hlt:k<m.Q.length
        ·obtain⟨gq,hgq,zq⟩:=(HS.out.row 4 rfl).blk (show 0<(cP (jT stay) k m.Q).length by rw[bN];omega)
         have hgq':dq=some ⟨gq,0,none⟩:=hgq;clear hgq;subst hgq';obtain⟨x0,x1,x2,x3,x4,x5,x6,x7,x8,xf⟩:=HS.out.all HV.out;have m0:=pN (HS.out.row 4 rfl) (j:=k) (by rw[bN];exact hlt);have HFA:=lh (gZ (jT stay) hlt);have HSU:=lh (eZ (jT stay) hlt);have HST:=lh (fun x=>HS.out.storeI (i:=4) rfl k x);rw[HFA.out] at m0;obtain⟨q1,q2⟩:=HT.out.query _ (List.getElem_mem hlt);obtain⟨q,hq⟩:∃q:Nat,m.Q[k]=(q:Int):=⟨m.Q[k].toNat,by omega⟩
         rw[hq] at m0;have t0:=kL (HS.out.row 7 rfl) (j:=q) (by omega) (by omega);have hq1:((q:Int)<(m.H.length:Int)+1):=by omega
         have zt:=((HS.out.row 7 rfl).lt (b:=tb) rfl).2;have cf:=(HS.out.row 4 rfl).fz rfl;have HQ:=lh hq;clear q1 q2 hq x0 x1 x2 x3 x4 x6 x7 x8;go_wp2_with fail
         go_region
         all_goals
          go_wp2_with fail;refine⟨?rel,?measure⟩
          case measure=>simp only[intOf];omega
          case rel =>
           refine⟨k+1,by omega,by go_num,lh ?_⟩;have h1:=HST.out (aO stay q:Nat);have h2:jT stay m.Q[k]=(aO stay q:Int):=by
            unfold jT;rw[HQ.out,Int.toNat_natCast]
           rw[←h2,HSU.out] at h1;rw[h2] at h1;exact h1.below (bP _ 1)
        ·have hkn:k=m.Q.length:=by omega
         subst hkn;have HS8:Hid (RwS w B vs ty ⟨dh,dg,dc,dt,dq,da,dhn,dgn,dcn,dtn,dqn,dan⟩ wr4 (eN {m with G:=m.G.map (iP stay),Q:=m.Q.map (jT stay)} ⟨dh,dg,dc,dt,dq,da,dhn,dgn,dcn,dtn,dqn,dan⟩ A++[rB stay (some ⟨g,0,none⟩) stay.length,rI (dQ (aO stay) (m.H.length+1) (m.H.length+1)) (some ⟨tb,0,none⟩) (m.H.length+1),rH (aN (bK stay) stay m.H) ca cc])):=lh (by
          have h:=HS.out;rw[gP] at h;exact h)
         obtain⟨x0,x1,x2,x3,x4,x5,x6,x7,x8,xf⟩:=HS8.out.all HV.out;clear HS hlt hk;have hmk:=HMK2.out;simp only[Int.natCast_add,show ((1:Nat):Int)=1 from rfl] at hmk;go_upto_region 29 with fail;refine(show (∀U:World,U=_→Code.wp _ _ _ _ U)→Code.wp _ _ _ _ _ from fun hW=>hW _ rfl) ?_;intro U5 hU5;have HS9:Hid (RwS w B vs ty ⟨dh,dg,dc,dt,dq,da,dhn,dgn,dcn,dtn,dqn,dan⟩ U5 (eN {m with G:=m.G.map (iP stay),Q:=m.Q.map (jT stay)} ⟨dh,dg,dc,dt,dq,da,dhn,dgn,dcn,dtn,dqn,dan⟩ A++[rB stay (some ⟨g,0,none⟩) stay.length,rI (dQ (aO stay) (m.H.length+1) (m.H.length+1)) (some ⟨tb,0,none⟩) (m.H.length+1),rH (aN (bK stay) stay m.H) ca cc,rI (dQ (fun j=>(bM stay (m.T.take j)).length) (m.T.length+1) 0) (some ⟨wr4.heap.size,0,none⟩) (m.T.length+1)])):=lh (by
          exact HS8.out.add (by rw[hU5];exact(bR _ _).alloc (nR _) _) (sF _ (by rw[hU5,heap_alloc_new];simp[List.map_replicate]) (by unfold maxLen;omega)) (fun b hb=>by have e:wr4.heap.size=b:=(by simpa[rI,bk,Value.ownBlock] using hb);omega))
         have HSA:Hid (RwS w B vs ty ⟨dh,dg,dc,dt,dq,da,dhn,dgn,dcn,dtn,dqn,dan⟩ U5 (eN {m with G:=m.G.map (iP stay),Q:=m.Q.map (jT stay)} ⟨dh,dg,dc,dt,dq,da,dhn,dgn,dcn,dtn,dqn,dan⟩ A++[rB stay (some ⟨g,0,none⟩) stay.length,rI (dQ (aO stay) (m.H.length+1) (m.H.length+1)) (some ⟨tb,0,none⟩) (m.H.length+1),rH (aN (bK stay) stay m.H) ca cc,rI (dQ (fun j=>(bM stay (m.T.take j)).length) (m.T.length+1) 0) (some ⟨wr4.heap.size,0,none⟩) (m.T.length+1),rI (bM stay (m.T.take 0)) none 0])):=lh (HS9.out.add (bR _ _) (r:=rI (bM stay (m.T.take 0)) none 0) (World.ownsRow_nil _ _ _ _) (fun b hb=>nomatch hb));generalize wr4.heap.size=kb at *;clear hU5 HS8 HS9 hmk;clear x0 x1 x2 x3 x4 x5 x6 x7 x8 xf;obtain⟨x0,x1,x2,x3,x4,x5,x6,x7,x8,xf⟩:=HSA.out.all HV.out;go_wp2_with fail;clear x0 x1 x2 x3 x4 x5 x6 x7 x8 xf;have ht9:m.T.length≤17592186044416:=by omega
         go_loopw[13,147] (fun v13 v147 wr=>∃(k:Nat) (ta:Option Addr) (tc:Nat),k≤m.T.length∧v13=.slice ta (bM stay (m.T.take k)).length tc∧v147=.int .i64 k∧Hid (RwS w B vs ty ⟨dh,dg,dc,dt,dq,da,dhn,dgn,dcn,dtn,dqn,dan⟩ wr (eN {m with G:=m.G.map (iP stay),Q:=m.Q.map (jT stay)} ⟨dh,dg,dc,dt,dq,da,dhn,dgn,dcn,dtn,dqn,dan⟩ A++[rB stay (some ⟨g,0,none⟩) stay.length,rI (dQ (aO stay) (m.H.length+1) (m.H.length+1)) (some ⟨tb,0,none⟩) (m.H.length+1),rH (aN (bK stay) stay m.H) ca cc,rI (dQ (fun j=>(bM stay (m.T.take j)).length) (m.T.length+1) k) (some ⟨kb,0,none⟩) (m.T.length+1),rI (bM stay (m.T.take k)) ta tc]))) (fun _ v147 _=>m.T.length-(intOf v147).toNat)
         case atStart=>exact⟨0,none,0,Nat.zero_le _,rfl,rfl,HSA⟩
         case round =>
          rename World=>wr5
          obtain⟨k,ta,tc,hk,rfl,rfl,HS⟩:=hrel;clear HSA;have hkl:(bM stay (m.T.take k)).length≤k:=by have:=jU stay (m.T.take k);rw[List.length_take] at this;omega
          by_cases hlt:k<m.T.length
          ·obtain⟨gt,hgt,zgt⟩:=(HS.out.row 3 rfl).blk (show 0<m.T.length by omega)
           have hgt':dt=some ⟨gt,0,none⟩:=hgt;clear hgt;subst hgt';have m0:=pN (HS.out.row 3 rfl) hlt;obtain⟨q1,q2⟩:=HT.out.trail _ (List.getElem_mem hlt);obtain⟨q,hq⟩:∃q:Nat,m.T[k]=(q:Int):=⟨m.T[k].toNat,by omega⟩
           have HKU:=lh (oP stay hlt);rw[hq] at m0 HKU;rw[Int.toNat_natCast] at HKU;have hqs:q<stay.length:=by omega
           have t0:=kL (HS.out.row 7 rfl) (j:=q) (by omega) (by omega);have z0:=bI4 (HS.out.row 6 rfl) hqs;have hgd:stay.getD q false=stay[q]:=by rw[List.getD_eq_getElem?_getD,List.getElem?_eq_getElem hqs];rfl
           rw[hgd] at HKU;obtain⟨tv,htv⟩:∃tv,stay[q]=tv:=⟨_,rfl⟩
           rw[htv] at z0 HKU;have zt:=((HS.out.row 7 rfl).lt (b:=tb) rfl).2;have zg:=((HS.out.row 6 rfl).lt (b:=g) rfl).2;have zk:=((HS.out.row 9 rfl).lt (b:=kb) rfl).2;have kf:=(HS.out.row 9 rfl).fz rfl;obtain⟨tw,tc2⟩:∃v,wr5.cell? ⟨kb,k,none⟩=some v:=⟨_,pN (HS.out.row 9 rfl) (j:=k) (by rw[eC];omega)⟩
           have n1:kb≠g:=HS.out.two 9 6 (by decide) rfl rfl rfl rfl;have n2:g≠kb:=n1.symm;have n3:kb≠tb:=HS.out.two 9 7 (by decide) rfl rfl rfl rfl;have n4:tb≠kb:=n3.symm;have hq1:((q:Int)<(m.H.length:Int)+1):=by omega
           have hq2:((q:Int)<(stay.length:Int)):=by omega
           have hk1:((k:Int)<(m.T.length:Int)+1):=by omega
           have HHL:=lh hlt;have HST:=lh (HS.out.storeT (i:=9) rfl (show k<m.T.length+1 by omega));clear htv hqs q1 q2 hq hgd;generalize hkt:bM stay (m.T.take k)=KT at *;clear hkt;cases tv with
           | false =>
            go_wp2_with fail;refine⟨?rel,?measure⟩
            case measure=>simp only[intOf];omega
            case rel =>
             have h2:=HKU.out;rw[if_neg (by decide),List.append_nil] at h2;refine⟨k+1,ta,tc,by omega,by rw[h2],by go_num,lh ?_⟩;rw[h2];exact HST.out
           | true =>
            obtain⟨i0,hi0,hz0,hz1,hz2⟩:=info_parts Try.infoI;go_wp2_with (at_builtin;refine aJ _ rfl _ _ 27 rfl 0 3 i0 _ 1 8 Try.underlying27 hi0 hz0 hz1 hz2 rfl (by decide) _ KT.length (KT.map fun x=>Value.int .i64 x) rfl ?b1 (some ⟨wr5.heap.size,0,none⟩) 1 1 ?f0 [.int .i64 (aO stay q:Nat)] rfl rfl ?f1 ?f2 ?f3 ?f4 ?f5 ?_)
            case b1 =>
             exact(HST.out.below ((bR _ _).alloc (nR _) (.cells #[.int .i64 (aO stay q:Nat)] 3))).row 10 rfl
            case f2=>rfl
            case f3=>unfold maxLen;omega
            case f4=>omega
            intro v8 w8 hown8 hgrow8 hfr8;obtain⟨a8,c8,rfl⟩:=bL hown8;have HN8:=lh (HST.out.grow (i:=10) (r:=rI KT ta tc) rfl ((bR _ _).alloc (nR _) _) hown8 hgrow8 hfr8);clear hown8 hgrow8 hfr8;go_wp2_with fail;refine⟨?rel,?measure⟩
            case measure=>simp only[intOf];omega
            case rel =>
             have h2:bM stay (m.T.take (k+1))=KT++[(aO stay q:Int)]:=HKU.out;refine⟨k+1,a8,c8,by omega,by rw[h2,List.length_append];rfl,by go_num,lh ?_⟩;rw[h2,←aN5 a8 (KT.length+1) c8 rfl];exact HN8.out
          ·have hkn:k=m.T.length:=by omega
           subst hkn;have HS9:Hid (RwS w B vs ty ⟨dh,dg,dc,dt,dq,da,dhn,dgn,dcn,dtn,dqn,dan⟩ wr5 (eN {m with G:=m.G.map (iP stay),Q:=m.Q.map (jT stay)} ⟨dh,dg,dc,dt,dq,da,dhn,dgn,dcn,dtn,dqn,dan⟩ A++[rB stay (some ⟨g,0,none⟩) stay.length,rI (dQ (aO stay) (m.H.length+1) (m.H.length+1)) (some ⟨tb,0,none⟩) (m.H.length+1),rH (aN (bK stay) stay m.H) ca cc,rI (dQ (fun j=>(bM stay (m.T.take j)).length) (m.T.length+1) m.T.length) (some ⟨kb,0,none⟩) (m.T.length+1),rI (bM stay m.T) ta tc])):=lh (by
            have h:=HS.out;rw[List.take_of_length_le (nR _)] at h;exact h)
           rw[List.take_of_length_le (nR _)];rw[List.take_of_length_le (nR _)] at hkl;clear HS;have HSB0:=lh (HS9.out.storeT (i:=9) rfl (Nat.lt_succ_self m.T.length));have HKK:Hid ((bM stay (m.T.take m.T.length)).length=(bM stay m.T).length):=lh (by rw[List.take_of_length_le (nR _)]);obtain⟨tw,tc2⟩:∃v,wr5.cell? ⟨kb,m.T.length,none⟩=some v:=⟨_,pN (HS9.out.row 9 rfl) (j:=m.T.length) (by rw[eC];omega)⟩
           obtain⟨x0,x1,x2,x3,x4,x5,x6,x7,x8,xf⟩:=HS9.out.all HV.out;have zk:=((HS9.out.row 9 rfl).lt (b:=kb) rfl).2;have kf:=(HS9.out.row 9 rfl).fz rfl;have n1:kb≠B:=HS9.out.notB 9 rfl rfl;have n2:B≠kb:=n1.symm;have HSB:Hid (RwS w B vs ty ⟨dh,dg,dc,dt,dq,da,dhn,dgn,dcn,dtn,dqn,dan⟩ (wr5.setCell ⟨kb,m.T.length,none⟩ (.int .i64 ((bM stay m.T).length:Nat))) (eN {m with G:=m.G.map (iP stay),ch:=cP (oU stay m.T) 0 m.ch,Q:=m.Q.map (jT stay)} ⟨dh,dg,dc,dt,dq,da,dhn,dgn,dcn,dtn,dqn,dan⟩ A++[rB stay (some ⟨g,0,none⟩) stay.length,rI (dQ (aO stay) (m.H.length+1) (m.H.length+1)) (some ⟨tb,0,none⟩) (m.H.length+1),rH (aN (bK stay) stay m.H) ca cc,rI (dQ (fun j=>(bM stay (m.T.take j)).length) (m.T.length+1) (m.T.length+1)) (some ⟨kb,0,none⟩) (m.T.length+1),rI (bM stay m.T) ta tc])):=lh (by
            have h:=HSB0.out;simp only[HKK.out] at h;rw[fS];exact h)
           clear HSB0 HS9 hlt hk HKK;go_wp2_with fail;clear x0 x1 x2 x3 x4 x5 x6 x7 x8 xf zk kf tw tc2 n1 n2
           go_loopw[183] (fun v183 wr=>∃k:Nat,k≤m.ch.length∧v183=.int .i64 k∧Hid (RwS w B vs ty ⟨dh,dg,dc,dt,dq,da,dhn,dgn,dcn,dtn,dqn,dan⟩ wr (eN {m with G:=m.G.map (iP stay),ch:=cP (oU stay m.T) k m.ch,Q:=m.Q.map (jT stay)} ⟨dh,dg,dc,dt,dq,da,dhn,dgn,dcn,dtn,dqn,dan⟩ A++[rB stay (some ⟨g,0,none⟩) stay.length,rI (dQ (aO stay) (m.H.length+1) (m.H.length+1)) (some ⟨tb,0,none⟩) (m.H.length+1),rH (aN (bK stay) stay m.H) ca cc,rI (dQ (fun j=>(bM stay (m.T.take j)).length) (m.T.length+1) (m.T.length+1)) (some ⟨kb,0,none⟩) (m.T.length+1),rI (bM stay m.T) ta tc]))) (fun v183 _=>m.ch.length-(intOf v183).toNat)
           case atStart=>exact⟨0,Nat.zero_le _,rfl,HSB⟩
           case round =>
            rename World=>wr6
            obtain⟨k,hk,rfl,HS⟩:=hrel;clear HSB;by_cases hlt:k<m.ch.length
            ·obtain⟨gk,hgk,zgk⟩:=(HS.out.row 2 rfl).blk (show 0<(cP (oU stay m.T) k m.ch).length by rw[bN];omega)
             have hgk':dc=some ⟨gk,0,none⟩:=hgk;clear hgk;subst hgk';obtain⟨x0,x1,x2,x3,x4,x5,x6,x7,x8,xf⟩:=HS.out.all HV.out;obtain⟨m0,m1,m2,m3,m4⟩:=bI6 (HS.out.row 2 rfl) (j:=k) (by rw[bN];exact hlt);have HFA:=lh (gZ (oU stay m.T) hlt);have HSU:=lh (eZ (oU stay m.T) hlt);have HST:=lh (fun x y=>HS.out.storeK (i:=2) rfl (j:=k) (by rw[bN];exact hlt) x y);rw[HFA.out] at m2 m3;obtain⟨c1,c2,c3,c4⟩:=HCH.out _ (List.getElem_mem hlt);obtain⟨hq,hhq⟩:∃q:Nat,m.ch[k].heap=(q:Int):=⟨m.ch[k].heap.toNat,by omega⟩
             obtain⟨tq,htq⟩:∃q:Nat,m.ch[k].trail=(q:Int):=⟨m.ch[k].trail.toNat,by omega⟩
             rw[hhq] at m2;rw[htq] at m3;have t0:=kL (HS.out.row 7 rfl) (j:=hq) (by omega) (by omega);have t1:=kL (HS.out.row 9 rfl) (j:=tq) (by omega) (by omega);have hq1:((hq:Int)<(m.H.length:Int)+1):=by omega
             have hq2:((tq:Int)<(m.T.length:Int)+1):=by omega
             have zt:=((HS.out.row 7 rfl).lt (b:=tb) rfl).2;have zk:=((HS.out.row 9 rfl).lt (b:=kb) rfl).2;have cf:=(HS.out.row 2 rfl).fz rfl;have HHQ:=lh hhq;have HTQ:=lh htq;clear c1 c2 c3 c4 hhq htq m0 m1 m4 x0 x1 x2 x4 x5 x6 x7 x8;generalize hkp:(bM stay (m.T.take tq)).length=kp at *;have HKP:=lh hkp;clear hkp;go_wp2_with fail
             go_region
             all_goals
              go_wp2_with fail;refine⟨?rel,?measure⟩
              case measure=>simp only[intOf];omega
              case rel =>
               refine⟨k+1,by omega,by go_num,lh ?_⟩;have h1:=HST.out (aO stay hq:Nat) (kp:Nat);rw[HFA.out] at h1;have h2:oU stay m.T m.ch[k] = {m.ch[k] with heap:=(aO stay hq:Int),trail:=(kp:Int)}:=by
                unfold oU;rw[HHQ.out,HTQ.out,Int.toNat_natCast,Int.toNat_natCast,HKP.out]
               rw[←h2,HSU.out] at h1;exact h1.below (bP _ 1)
            ·have hkn:k=m.ch.length:=by omega
             subst hkn;obtain⟨x0,x1,x2,x3,x4,x5,x6,x7,x8,xf⟩:=HS.out.all HV.out;have zB:=HS.out.blt;go_wp2_with fail;have hs1:=(HS.out.setB o (.slice ca CL.length cc)).setB (o+4) (.slice ta (bM stay m.T).length tc);have hKH:(dD stay m).H.length=CL.length:=HKN.out;go_ret;refine bE5 (m:=m) (K:=dD stay m) (x1:=rB stay (some ⟨g,0,none⟩) stay.length) HOB.out HE1.out HE3.out rfl (hs1) rfl (gP _ _) rfl (by rw[hKH];rfl) (wZ hlen HO.out.h.fits hll) (HS.out.new (i:=8) (by decide) rfl) (HS.out.new (i:=10) (by decide) rfl) (by rw[hKH];rfl)
end Go.Proofs.Ytikmgiapjigghab
