/- Walks: a heap's Leads, step. -/
import Derived.RangeFuncNested
import Derived.RangeFuncBound
import Derived.RangeFuncCalls
import Derived.RangeFuncLeaves
import Derived.RangeFuncFrom
import Derived.Shelf.Abstract
import Derived.WalkKit
import Derived.OwnWalkIn
import Derived.TacticsInMore
import Derived.LoopNIn
import Derived.LoopIn
import Derived.Deep.RegionHeld3
import Derived.Deep.DeepCutAuto
import Derived.Test.YtikmgiapjigghabQc06
import Derived.Test.YtikmgiapjigghabQc09
import Derived.Test.YtikmgiapjigghabQc10
set_option maxRecDepth 100000
set_option maxHeartbeats 8000000
namespace Go.Proofs.Ytikmgiapjigghab
open Go.RowKit Go.Shelf
attribute [local go_sem] Oper.semAt_some
theorem aR3(F:Fence)(n:Nat)(hF:F.fn 95)(hro:F.round=none)(hn:1≤n)(l B0 B1:Nat)(P:Nat→Prop)(K:List HC)(a:Option Addr)(cap i:Nat)(J Jx:List Nat→World→Prop)
 (hY:∀pre x W,J pre W→pre.length<(leads K i).length→YieldAt F (n-1) Try.prog l #[.int .i64 (x:Nat)] W fun e W' =>
  (e=.returned (.bool true)∧J (pre++[x]) W'∧aD P W W')∨(e=.returned (.bool false)∧Jx (pre++[x]) W'))
 (W:World) (hb1:B1<W.heap.size) (hP1:P B1) (h0:W.cell? ⟨B0,0,none⟩=some (.slice a K.length cap)) (h1:W.cell? ⟨B1,0,none⟩=some (.int .i64 i)) (hH:dV W P K a cap) (hi:i<K.length) (hlen:K.length≤400000) (hc:cD K i=0)
 (hJ:AbidesFrom W.heap.size J) (hJ0:J [] W) :
 CallsIn F n Try.prog 95 #[.func (.yield l) #[] #[],.pointer (some ⟨B0,0,none⟩),.pointer (some ⟨B1,0,none⟩)] W fun e W'=>(∃v,e=.returned v) ∧
  ((∃ys,ys=leads K i∧J ys W')∨(∃pre,pre <+: leads K i∧Jx pre W')):=by
 obtain⟨b,off,rfl,-,hb,c0,c1,c2,-⟩:=hH.at' i hi;have hcl:K.length≤9223372036854775807:=by omega
 have HJA:=lh (fun o=>hJ [] W (W.alloc o) none hJ0 (World.grownBy_alloc W o none) (fun r e=>by cases e));have HY:=lh hY;have HC:=lh hc;have HK1:Hid (∀o,aD P W (W.alloc o)):=lh (fun o=>aD.below ((bR _ _).alloc (nR _) _) P);clear hY hc hJ hJ0;rcases bV HC.out with ⟨hk,hn0,hn1,-⟩|⟨hk,-,hn0,hn4,hn1,-,-⟩
 ·obtain⟨m,hm⟩:∃m:Nat,(hc K i).n=(m:Int):=⟨(hc K i).n.toNat,by omega⟩
  have HL:Hid (leads K i=if (m:Int)=(i:Int) then [] else [m]):=lh (by unfold leads;rw[if_pos hk,hm];simp);rw[hm] at c1;rw[hk] at c0;clear hk hn0 hn1 hm HC;by_cases hmi:m=i
  ·subst hmi
   refine callsIn_of_wp Try.func95 rfl hF ?_ hro;simp only[Try.ntmps95,List.size_toArray,List.length_cons,List.length_nil,Nat.reduceAdd,Nat.reduceSub,Array.replicate_succ,Array.replicate_zero,List.push_toArray,List.append_toArray,List.nil_append,List.cons_append];gi_wp2;refine bodyPost_ret (results_none rfl _ _ _) rfl ?_;exact⟨⟨_,rfl⟩,.inl (by rw[HL.out,if_pos trivial];exact HJA.out _)⟩
  ·have hne:((m:Int) != (i:Int))=true:=by rw[bne_iff_ne];omega
   have HL2:Hid (leads K i = [m]):=lh (by rw[HL.out,if_neg (by omega)]);clear hmi;obtain⟨fn,tmps,assign,body,hy,hR⟩:=HY.out [] m (W.alloc (.cells #[.int .i64 1,.int .i64 m,.string (hc K i).name] 69)) (HJA.out _) (by rw[HL2.out];simp);refine callsIn_of_wp Try.func95 rfl hF ?_ hro;simp only[Try.ntmps95,List.size_toArray,List.length_cons,List.length_nil,Nat.reduceAdd,Nat.reduceSub,Array.replicate_succ,Array.replicate_zero,List.push_toArray,List.append_toArray,List.nil_append,List.cons_append];gi_wp2;refine hR.mono ?_;rintro e W3 (⟨rfl,hJ3,hk3⟩|⟨rfl,hJx3⟩)
   ·gi_wp2
    refine bodyPost_ret (results_none rfl _ _ _) rfl ?_;exact⟨⟨_,rfl⟩,.inl ⟨[]++[m],by rw[HL2.out];rfl,hJ3⟩⟩
   ·gi_wp2
    refine bodyPost_ret (results_none rfl _ _ _) rfl ?_;exact⟨⟨_,rfl⟩,.inr ⟨[]++[m],by rw[HL2.out];exact List.prefix_refl _,hJx3⟩⟩
 ·obtain⟨m,hm⟩:∃m:Nat,(hc K i).n=(m:Int):=⟨(hc K i).n.toNat,by omega⟩
  have HL:Hid (leads K i=(List.range m).map fun j=>i+1+j):=lh (by unfold leads;rw[if_neg (by omega),hm];simp);rw[hm] at c1;rw[hk] at c0;have hm4:m≤4:=by omega
  have him:(i:Int)+(m:Int)<(K.length:Int):=by omega
  clear hk hn0 hn1 hn4 hm HC;refine callsIn_of_wp Try.func95 rfl hF ?_ hro;simp only[Try.ntmps95,List.size_toArray,List.length_cons,List.length_nil,Nat.reduceAdd,Nat.reduceSub,Array.replicate_succ,Array.replicate_zero,List.push_toArray,List.append_toArray,List.nil_append,List.cons_append];gi_wp2
  gi_loopw [23] (fun p wr=>∃j:Nat,j≤m∧p=.int .i64 j∧Hid (J ((List.range j).map fun q=>i+1+q) wr)∧Hid (aD P W wr)) (fun p _=>m-(intOf p).toNat)
  case atStart=>exact⟨0,Nat.zero_le _,rfl,lh (HJA.out _),lh (HK1.out _)⟩
  case round =>
   obtain⟨j,hj,rfl,HJ,HKW⟩:=hrel;have g1:=(HKW.out.cell (p:=⟨B1,0,none⟩) hP1 hb1).trans h1;by_cases hjm:j<m
   ·have HLL:Hid (((List.range j).map fun q=>i+1+q)++[i+1+j]=(List.range (j+1)).map fun q=>i+1+q):=lh (by rw[List.range_succ,List.map_append];rfl)
    have HPX:Hid (((List.range (j+1)).map fun q=>i+1+q) <+: leads K i):=lh (by
     rw[HL.out];obtain⟨d,rfl⟩:∃d,m=j+1+d:=⟨m-(j+1),by omega⟩
     rw[List.range_add (n:=j+1) (m:=d),List.map_append];exact List.prefix_append _ _)
    obtain⟨fn,tmps,assign,body,hy,hR⟩:=HY.out ((List.range j).map fun q=>i+1+q) (i+1+j) wr HJ.out (by rw[HL.out];simpa using hjm);simp only[Int.natCast_add,Int.cast_ofNat_Int] at hy;gi_wp2;refine hR.mono ?_;rintro e W3 (⟨rfl,hJ3,hk3⟩|⟨rfl,hJx3⟩)
    ·have HJ3:=lh hJ3
     have HK3:=lh hk3;clear hJ3 hk3;gi_wp2;go_roundw
     case rel=>exact⟨j+1,by omega,by go_num,by rw[←HLL.out];exact HJ3,lh (HKW.out.trans HK3.out)⟩
     case measure=>simp[intOf];omega
    ·have HJ3:=lh hJx3
     clear hJx3;gi_wp2;refine bodyPost_ret (results_none rfl _ _ _) rfl ?_;exact⟨⟨_,rfl⟩,.inr ⟨_,HPX.out,by rw[←HLL.out];exact HJ3.out⟩⟩
   ·have hjm':j=m:=by omega
    have HJM:Hid (J (leads K i) wr):=lh (by rw[HL.out,←hjm'];exact HJ.out);clear hjm';gi_wp2
    go_end0
    exact⟨⟨_,rfl⟩,.inl ⟨_,rfl,HJM.out⟩⟩
theorem aE0(F:Fence)(n:Nat)(hF:F.fn 70)(hro:F.round=none)(a:Option Addr)(len cap i:Nat)(w:World) :
 CallsIn F n Try.prog 70 #[.slice a len cap,.int .i64 i] w fun e w'=>e=.returned (.func (.func 95) #[] #[.pointer (some ⟨w.heap.size,0,none⟩),.pointer (some ⟨w.heap.size+1,0,none⟩)])∧w'=(w.alloc (.cells #[.slice a len cap] 24)).alloc (.cells #[.int .i64 i] 3):=by
 refine callsIn_of_wp Try.func70 rfl hF ?_ hro;simp only[Try.ntmps70,List.size_toArray,List.length_cons,List.length_nil,Nat.reduceAdd,Nat.reduceSub,Array.replicate_succ,Array.replicate_zero,List.push_toArray,List.append_toArray,List.nil_append,List.cons_append];gi_wp2;go_ret;exact⟨rfl,rfl⟩
theorem wH{W:World}{B:Nat}{v:Value}{t:TypeId}(h:W.heap[B]? = some (.cells #[v] t (0,0))):W.cell? ⟨B,0,none⟩=some v∧W.frozen? ⟨B,0,none⟩=false:=by
 constructor <;> simp[World.cell?,World.frozen?,h]
theorem fD(W:World)(v:Value)(t:TypeId):(W.alloc (.cells #[v] t)).cell? ⟨W.heap.size,0,none⟩=some v∧(W.alloc (.cells #[v] t)).frozen? ⟨W.heap.size,0,none⟩=false :=
 wH (World.alloc_heap_new W _)
theorem bZ{W:World}{a:Addr}{v:Value}(o:Obj)(h:W.cell? a=some v):(W.alloc o).cell? a=some v:=cell_kept h (World.grownBy_alloc W o none) (fun r e=>by cases e)
theorem fT{W:World}{a:Addr}{v:Value}(o:Obj)(h:W.cell? a=some v)(hf:W.frozen? a=false):(W.alloc o).frozen? a=false:=(frozen_kept h (World.grownBy_alloc W o none) (fun r e=>by cases e)).trans hf
theorem kE{K:List HC}{i:Nat}(h:cD K i=0):(leads K i).length≤4:=by
 unfold leads;rcases bV h with ⟨h1,_⟩|⟨h1,_,_,h4,_⟩
 ·rw[if_pos h1];split <;> simp
 ·rw[if_neg (by omega)];simpa using h4
def oF(l:List Nat)(m:Nat):Int:=match l[m]? with|some t=>(t:Int)|none=>-1
theorem bO4{w:World}{ok:Nat→Prop}{K:List HC}{a:Option Addr}{cap:Nat}(h:dV w ok K a cap){i:Nat}(hi:i<K.length)(hlen:K.length≤400000)(hc:cD K i=0)(m:Nat) :
 Calls Try.prog 107 #[.slice a K.length cap,.int .i64 i,.int .i64 m] w fun e w'=>e=.returned (.int .i64 (oF (leads K i) m))∧Below w.heap.size w w':=by
 refine(callsIn_wide (n:=3)).1 ?_;have hro:Fence.wide.round=none:=rfl;have h1:1≤3:=by omega
 have HP:=lh h;have HC:=lh hc;clear h hc;refine callsIn_of_wp_marks Try.func107 rfl trivial ?_ hro;simp only[Try.ntmps107,List.size_toArray,List.length_cons,List.length_nil,Nat.reduceAdd,Nat.reduceSub,Array.replicate_succ,Array.replicate_zero,List.push_toArray,List.append_toArray,List.nil_append,List.cons_append];gi_wp2_with (refine⟨trivial,?_⟩;gi_at_call 70;refine(aE0 Fence.wide (3-1) trivial hro _ _ _ _ _).mono ?_;rintro e w' ⟨rfl,rfl⟩);have c0:=fD w (.int .i64 m) 3;have c1:=fD (w.alloc (.cells #[.int .i64 m] 3)) (.int .i64 0) 3;have c2:=fD ((w.alloc (.cells #[.int .i64 m] 3)).alloc (.cells #[.int .i64 0] 3)) (.int .i64 0) 3;have c3:=fD (((w.alloc (.cells #[.int .i64 m] 3)).alloc (.cells #[.int .i64 0] 3)).alloc (.cells #[.int .i64 0] 3)) (.slice a K.length cap) 24;have c4:=fD ((((w.alloc (.cells #[.int .i64 m] 3)).alloc (.cells #[.int .i64 0] 3)).alloc (.cells #[.int .i64 0] 3)).alloc (.cells #[.slice a K.length cap] 24)) (.int .i64 i) 3;simp only[World.size_alloc] at c1 c2 c3 c4;have hB0:Below w.heap.size w (((((w.alloc (.cells #[.int .i64 m] 3)).alloc (.cells #[.int .i64 0] 3)).alloc (.cells #[.int .i64 0] 3)).alloc (.cells #[.slice a K.length cap] 24)).alloc (.cells #[.int .i64 i] 3)) :=
  (((((Below.refl _ w).alloc (nR _) _).alloc (by simp) _).alloc (by simp;omega) _).alloc (by simp;omega) _).alloc (by simp;omega) _
 have hH0:=(((HP.out.mono (ok':=fun b=>b<w.heap.size) fun b hb _=>hb).below hB0).mono (ok':=fun b=>b<w.heap.size+5∧b≠w.heap.size+1∧b≠w.heap.size+2) fun b _ hb=>⟨by omega,by omega,by omega⟩)
 have hl4:=kE HC.out;refine wpIn_rangeFunc_ownF (S:=fun ys=>ys=leads K i) (Sp:=fun pre=>pre <+: leads K i) (N:=(leads K i).length) (Kp:=aD fun b=>b<w.heap.size+5∧b≠w.heap.size+1∧b≠w.heap.size+2) hro h1 (gf:=95) (lb:=#[.pointer (some ⟨w.heap.size+1+1+1,0,none⟩),.pointer (some ⟨w.heap.size+1+1+1+1,0,none⟩)]) rfl trivial (enters_of Try.func95 (by kernel_rfl) rfl)
  (encs:=fun x:Nat=>#[.int .i64 (x:Int)])
  (fun l J Jx W hW hJ _ hY h0=>aR3 Fence.wide (3-1) trivial hro (by omega) l _ _ _ K a cap i J Jx hY W (by have:=hW.size;simp at this;omega) ⟨by omega,by omega,by omega⟩ ((hW.cell (p:=⟨_,0,none⟩) (by simp)).trans (bZ _ c3.1)) ((hW.cell (p:=⟨_,0,none⟩) (by simp)).trans c4.1) (hH0.below hW) hi hlen HC.out hJ h0)
  (fun {A B C} h k=>h.trans k) (fun W l o o' hl _ _ _=>⟨(grownBy_putObj' W l o').size,fun b hb hlt=>(grownBy_putObj' W l o').block b hlt (fun e=>by cases e;have:=hb.1;simp at hl;omega)⟩) (bR _ _) (fun _=>by rfl)
  (fun pre W=>(pre.length≤m∧W.cell? ⟨w.heap.size,0,none⟩=some (.int .i64 m)∧W.cell? ⟨w.heap.size+1,0,none⟩=some (.int .i64 0)∧W.frozen? ⟨w.heap.size+1,0,none⟩=false∧W.cell? ⟨w.heap.size+1+1,0,none⟩=some (.int .i64 pre.length)∧W.frozen? ⟨w.heap.size+1+1,0,none⟩=false)∧Below w.heap.size w W)
  (fun c pre W=>(c=.ret∧∃ini x,pre=ini++[x]∧ini.length=m∧W.cell? ⟨w.heap.size+1,0,none⟩=some (.int .i64 (x:Nat)))∧Below w.heap.size w W)
  (OwnFrom.and (Own.from (fun s A B row hs hg hr=>⟨hs.1,cell_kept hs.2.1 hg hr,cell_kept hs.2.2.1 hg hr,(frozen_kept hs.2.2.1 hg hr).trans hs.2.2.2.1,cell_kept hs.2.2.2.2.1 hg hr,(frozen_kept hs.2.2.2.2.1 hg hr).trans hs.2.2.2.2.2⟩) _) (ownFrom_below (nR _) (by simp;omega)))
  (fun c=>OwnFrom.and (Own.from (fun s A B row hs hg hr=>by obtain⟨hc,ini,x,e1,e2,e3⟩:=hs;exact⟨hc,ini,x,e1,e2,cell_kept e3 hg hr⟩) _) (ownFrom_below (nR _) (by simp;omega)))
  ⟨⟨Nat.zero_le _,bZ _ (bZ _ (bZ _ (bZ _ c0.1))),bZ _ (bZ _ (bZ _ c1.1)),fT _ (bZ _ (bZ _ c1.1)) (fT _ (bZ _ c1.1) (fT _ c1.1 c1.2)),bZ _ (bZ _ c2.1),fT _ (bZ _ c2.1) (fT _ c2.1 c2.2)⟩,hB0⟩
  (fun x=>{tmps:=#[.slice a K.length cap,.int .i64 i,.int .i64 m,undef,undef,.pointer (some ⟨w.heap.size,0,none⟩),.pointer (some ⟨w.heap.size+1,0,none⟩),.pointer (some ⟨w.heap.size+1+1,0,none⟩),.int .i64 (x:Nat),.slice a K.length cap,.int .i64 i,.func (.func 95) #[] #[.pointer (some ⟨w.heap.size+1+1+1,0,none⟩),.pointer (some ⟨w.heap.size+1+1+1+1,0,none⟩)],.int .i64 (x:Nat),undef,undef,undef,undef,undef,undef],defers:=[]}) ?assign ?body ?done ?stop
 case assign =>
  intro l x W K hK;gi_wp2;exact hK
 case body =>
  rintro l pre x W ⟨⟨hle,q0,q1,f1,q2,f2⟩,hB⟩ hpl;have hp5:(pre.length:Int)<5:=by omega
  by_cases he:pre.length=m
  ·have ht:((pre.length:Int) == (m:Int))=true:=by rw[beq_iff_eq];omega
   have HE:=lh he;clear he;gi_wp2;exact⟨KeepsOthers.setCell _ _ _,⟨rfl,pre,x,rfl,HE.out,World.cell?_setCell_same' _ _ _ (by rw[q1];rfl)⟩,hB.setCell (p:=⟨w.heap.size+1,0,none⟩) (by simp) _⟩
  ·have ht:((pre.length:Int) == (m:Int))=false:=by rw[beq_eq_false_iff_ne];omega
   have HE:Hid (pre.length+1≤m):=lh (by omega);clear he;gi_wp2;refine⟨KeepsOthers.setCell _ _ _,⟨by simp[World.setCell],fun b hb _=>Below.heap_setCell _ _ _ _ (by have:=hb.2.2;simp only;omega)⟩,⟨by rw[List.length_append];exact HE.out,(World.cell?_of_block (w:=W) (Below.heap_setCell _ _ _ _ (by simp only;omega))).trans q0,(World.cell?_of_block (w:=W) (Below.heap_setCell _ _ _ _ (by simp only;omega))).trans q1,by rw[World.frozen?_setCell];exact f1,?_,by rw[World.frozen?_setCell];exact f2⟩,hB.setCell (p:=⟨w.heap.size+1+1,0,none⟩) (by simp only;omega) _⟩;rw[List.length_append];exact World.cell?_setCell_same' _ _ _ (by rw[q2];rfl)
 case done =>
  rintro D ys W hD rfl ⟨⟨hle,_,q1,f1,_,_⟩,hB⟩ hK;have HV:Hid (oF (leads K i) m = -1):=lh (by unfold oF;rw[List.getElem?_eq_none hle]);gi_wp2;have hK':=(KeepsOthers.setCell W ⟨w.heap.size+1,0,none⟩ (.int .i64 (-1))).same D _ hK rfl;refine⟨by simp,.inl ⟨_,_,rfl,run_takeDeferred hK',?_⟩⟩;have hc5:=cell_kept (World.cell?_setCell_same' W ⟨w.heap.size+1,0,none⟩ (.int .i64 (-1)) (by rw[q1];rfl)) (grownBy_putObj' _ D (.deferred none)) (fun r e=>by cases e;exact⟨_,hK',rfl⟩);refine⟨.int .i64 (-1),?_,by rw[HV.out],(hB.setCell (p:=⟨w.heap.size+1,0,none⟩) (by simp) _).trans (belowK_b (w:=w) (nR _) _ D _ _ (by simp at hD;omega) hK' rfl rfl)⟩;simp[results,Try.results107,go_sem,hc5]
 case stop =>
  rintro D c pre W hD hpre ⟨⟨rfl,ini,x,rfl,hini,hcr⟩,hB⟩ hK;have HV:Hid (oF (leads K i) m=(x:Int)):=lh (by
   obtain⟨r,hr⟩:=hpre;unfold oF;rw[←hr,List.append_assoc,List.getElem?_append_right (by omega),hini];simp)
  gi_wp2;refine⟨by simp,.inl ⟨_,_,rfl,run_takeDeferred hK,?_⟩⟩;have hc5:=cell_kept hcr (grownBy_putObj' _ D (.deferred none)) (fun r e=>by cases e;exact⟨_,hK,rfl⟩);refine⟨.int .i64 (x:Nat),?_,by rw[HV.out],hB.trans (belowK_b (w:=w) (nR _) W D _ _ (by simp at hD;omega) hK rfl rfl)⟩;simp[results,Try.results107,go_sem,hc5]
end Go.Proofs.Ytikmgiapjigghab
namespace Go.Proofs.Ytikmgiapjigghab
open Go.RowKit
structure eO(w:World)(b:Nat)(l:List Nat):Prop where
 blk:w.heap[b]? = some (.cells (l.map fun v:Nat=>Value.int .u8 v).toArray 5 (0,0))
theorem eO.get{w:World}{b:Nat}{l:List Nat}(h:eO w b l){i v:Nat}(hi:l[i]? = some v):w.cell? ⟨b,i,none⟩=some (.int .u8 v):=by
 simp[World.cell?,h.blk,hi]
theorem eO.fz{w:World}{b:Nat}{l:List Nat}(h:eO w b l)(o:Nat):w.frozen? ⟨b,o,none⟩=false:=by simp[World.frozen?,h.blk]
theorem eO.lt{w:World}{b:Nat}{l:List Nat}(h:eO w b l):b<w.heap.size:=(gS h.blk).1
theorem eO.keep{w w':World}{b:Nat}{l:List Nat}(h:eO w b l)(hb:w'.heap[b]? = w.heap[b]?):eO w' b l:=⟨hb.trans h.blk⟩
theorem eO.below{w w':World}{b:Nat}{l:List Nat}(h:eO w b l)(hb:Below w.heap.size w w'):eO w' b l:=h.keep (hb.block b h.lt)
theorem eO.set{w:World}{b:Nat}{l:List Nat}(h:eO w b l)(i v:Nat):eO (w.setCell ⟨b,i,none⟩ (.int .u8 v)) b (l.set i v):=by
 refine⟨?_⟩;rw[aB _ _ _ _ h.blk,List.map_set];simp
def jG:List (Nat×Nat)→List Value
 | []=>[]
 | p::r=>.int .i64 (p.1:Nat)::.int .i64 (p.2:Nat)::jG r
theorem iH(l r:List (Nat×Nat)):jG (l++r)=jG l++jG r:=by
 induction l with
 | nil=>rfl
 | cons c l ih=>simp only[List.cons_append,jG,ih]
theorem eE(l:List (Nat×Nat)):(jG l).length=l.length*2:=by
 induction l with
 | nil=>rfl
 | cons c l ih=>simp only[jG,List.length_cons,ih];omega
def nV(w:World)(base:Nat)(v:Value)(S:List (Nat×Nat)):Prop:=w.ownsRow base 154 2 v S.length (jG S.reverse)
theorem nV.top{w:World}{base:Nat}{v:Value}{a k:Nat}{S:List (Nat×Nat)}(h:nV w base v ((a,k)::S)) :
 ∃g cap,v=.slice (some ⟨g,0,none⟩) (S.length+1) cap∧base≤g∧g<w.heap.size∧S.length+1≤cap∧cap≤maxLen∧w.cell? ⟨g,S.length*2,none⟩=some (.int .i64 a)∧w.cell? ⟨g,S.length*2+1,none⟩=some (.int .i64 k)∧(∀o,w.frozen? ⟨g,o,none⟩=false):=by
 obtain⟨g,cap,rfl⟩:=bQ h (by simp);have hl:=h.lt g rfl;have hc:S.length+1≤cap∧cap≤maxLen:=by
  rcases h.2 with ⟨e,_⟩|⟨g',cap',cur,e,_,_,h1,h2,_⟩
  ·cases e
  ·cases e;exact⟨h1,h2⟩
 have hf:jG ((a,k)::S).reverse=jG S.reverse++[.int .i64 (a:Nat),.int .i64 (k:Nat)]:=by rw[List.reverse_cons,iH];rfl
 refine⟨g,cap,rfl,hl.1,hl.2,hc.1,hc.2,?_,?_,fun o=>h.frozenAt o⟩
 ·rw[h.cellAt _ (by rw[List.length_cons];omega),hf,List.getElem?_append_right (by rw[eE,List.length_reverse];omega),eE,List.length_reverse];simp
 ·rw[h.cellAt _ (by rw[List.length_cons];omega),hf,List.getElem?_append_right (by rw[eE,List.length_reverse];omega),eE,List.length_reverse]
  rw[show S.length*2+1-S.length*2=1 by omega];rfl
theorem nV.bump{w:World}{base g cap a k:Nat}{S:List (Nat×Nat)}(h:nV w base (.slice (some ⟨g,0,none⟩) (S.length+1) cap) ((a,k)::S)) :
 nV (w.setCell ⟨g,S.length*2+1,none⟩ (.int .i64 ((k:Int)+1))) base (.slice (some ⟨g,0,none⟩) (S.length+1) cap) ((a,k+1)::S):=by
 have h1:=(World.ownsRow.stored h (S.length*2+1) (.int .i64 ((k:Int)+1))).1;have e:(jG ((a,k)::S).reverse).set (S.length*2+1) (.int .i64 ((k:Int)+1))=jG ((a,k+1)::S).reverse:=by
  rw[List.reverse_cons,iH,List.reverse_cons,iH,List.set_append_right _ _ (by rw[eE,List.length_reverse];omega),eE,List.length_reverse,show S.length*2+1-S.length*2=1 by omega];rfl
 rw[e] at h1;exact h1
theorem nV.pop{w:World}{base g cap:Nat}{p:Nat×Nat}{S:List (Nat×Nat)}(h:nV w base (.slice (some ⟨g,0,none⟩) (S.length+1) cap) (p::S)):nV w base (.slice (some ⟨g,0,none⟩) S.length cap) S:=by
 have h':w.ownsRow base 154 2 (.slice (some ⟨g,0,none⟩) (S.length+1) cap) (S.length+1) (jG (p::S).reverse):=h;obtain⟨_,h2⟩:=h';refine⟨by rw[eE,List.length_reverse],.inr ?_⟩;rcases h2 with ⟨e,_⟩|⟨g',cap',cur,e,h3,h4,h5,h6,h7,h8⟩
 ·cases e
 ·cases e
  refine⟨g,cap,cur,rfl,h3,h4,by omega,h6,h7,?_⟩;have:cur.toList.take (S.length*2)=(cur.toList.take ((S.length+1)*2)).take (S.length*2):=by rw[List.take_take,Nat.min_eq_left (by omega)]
  rw[this,h8,List.reverse_cons,iH,List.take_append_of_le_length (by rw[eE,List.length_reverse];omega),List.take_of_length_le (by rw[eE,List.length_reverse];omega)]
noncomputable def fK(K:List HC):Bool:=@decide (eW K) (Classical.propDecidable _)
theorem iI{K:List HC}(h:eW K):fK K=true:=by unfold fK;exact @decide_eq_true _ (Classical.propDecidable _) h
theorem gM{K:List HC}(h:¬eW K):fK K=false:=by unfold fK;exact @decide_eq_false _ (Classical.propDecidable _) h
theorem Try.infoStop:(Try.prog.info? 154).map (fun i=>(i.zero,i.size,i.bytes))=some (some (.agg #[.int .i64 0,.int .i64 0]),2,16):=by kernel_rfl
theorem Try.infoU8:(Try.prog.info? 5).map (fun i=>(i.zero,i.size,i.bytes))=some (some (.int .u8 0),1,1):=by kernel_rfl
theorem Try.infoInt:(Try.prog.info? 3).map (fun i=>(i.zero,i.size,i.bytes))=some (some (.int .i64 0),1,8):=by kernel_rfl
theorem aJ9(w:World)(n:Nat)(hn:n≤1000000):(Instr.makeSlice 152 (.int .i64 (n:Int)) (.int .i64 (n:Int))).run Try.prog w=.ok (.slice (some ⟨w.heap.size,0,none⟩) n n) (w.alloc (.cells ((List.replicate n 0).map fun v:Nat=>Value.int .u8 v).toArray 5)):=by
 obtain⟨i0,hi0,hz0,hz1,hz2⟩:=info_parts Try.infoU8;have:=run_make (P:=Try.prog) w 152 5 i0 _ Try.underlying152 hi0 hz0 .i64 .i64 n n (by omega) (Int.le_refl _) (by rw[hz2];omega) (by omega);rw[this,hz1];simp only[Int.toNat_natCast,Nat.mul_one];congr 3;apply Array.ext';show (madeCells #[Value.int .u8 0] n).toList=_;rw[toList_madeCells_one];simp
theorem aR4(w:World)(n:Nat)(hn:n≤1000000):(Instr.makeSlice 27 (.int .i64 (n:Int)) (.int .i64 (n:Int))).run Try.prog w=.ok (.slice (some ⟨w.heap.size,0,none⟩) n n) (w.alloc (.cells ((List.replicate n 0).map fun v:Int=>Value.int .i64 v).toArray 3)):=by
 obtain⟨i0,hi0,hz0,hz1,hz2⟩:=info_parts Try.infoInt;have:=run_make (P:=Try.prog) w 27 3 i0 _ Try.underlying27 hi0 hz0 .i64 .i64 n n (by omega) (Int.le_refl _) (by rw[hz2];omega) (by omega);rw[this,hz1];simp only[Int.toNat_natCast,Nat.mul_one];congr 3;apply Array.ext';show (madeCells #[Value.int .i64 0] n).toList=_;rw[toList_madeCells_one];simp
theorem bO5(X:World)(t:Nat){h:Nat}(e:h=X.heap.size):∀ad,some (⟨h,0,none⟩:Addr)=some ad→∀j u,([.int .i64 (t:Nat),.int .i64 0]:List Value)[j]? = some u→(X.alloc (.cells #[.int .i64 (t:Nat),.int .i64 0] 154)).cell? (ad.add j)=some u:=by
 subst e;intro ad had;cases had;have ho:=World.ownsRow_lit (base:=X.heap.size) (e:=154) (size:=2) X #[.int .i64 (t:Nat),.int .i64 0] 1 (nR _) (by unfold maxLen;omega) rfl;exact ho.cells (g:=X.heap.size) rfl
structure rJ(w:World)(K:List HC)(i:Nat)(met:List Nat)(S:List (Nat×Nat))(v:Value)(wr:World):Prop where
 dfs:Dfs (leads K) K.length met S
 bytes:eO wr w.heap.size met
 row:nV wr (w.heap.size+1) v S
 below:Below w.heap.size w wr
 seen:∀j,j≤i→met[j]?≠some 0
theorem rJ.grayLt{w:World}{K:List HC}{i:Nat}{met:List Nat}{p:Nat×Nat}{S:List (Nat×Nat)}{v:Value}{wr:World}(h:rJ w K i met (p::S) v wr):p.1<K.length:=by
 have:=(h.dfs.gray p.1).2 (by simp);rw[←h.dfs.len];exact(List.getElem?_eq_some_iff.1 this).1
theorem nV.other{w:World}{base g cap:Nat}{S:List (Nat×Nat)}{n:Nat}(h:w.ownsRow base 154 2 (.slice (some ⟨g,0,none⟩) n cap) S.length (jG S.reverse)){b:Nat}(hb:g≠b)(o:Nat)(u:Value):(w.setCell ⟨b,o,none⟩ u).ownsRow base 154 2 (.slice (some ⟨g,0,none⟩) n cap) S.length (jG S.reverse) :=
 aC h fun g' hg'=>by
  simp only[Value.ownBlock,Option.some.injEq] at hg';subst hg';exact Below.heap_setCell _ _ _ _ hb
theorem rJ.skip{w:World}{K:List HC}{i:Nat}{met:List Nat}{a k t g cap:Nat}{S:List (Nat×Nat)}{wr w7:World}(h:rJ w K i met ((a,k)::S) (.slice (some ⟨g,0,none⟩) (S.length+1) cap) wr)(hb:Below wr.heap.size wr w7)(hg:w.heap.size+1≤g)
 (ht:(leads K a)[k]? = some t) (hm:met[t]? = some 2):rJ w K i met ((a,k+1)::S) (.slice (some ⟨g,0,none⟩) (S.length+1) cap) (w7.setCell ⟨g,S.length*2+1,none⟩ (.int .i64 ((k:Int)+1))) :=
 ⟨h.dfs.skip ht hm,(h.bytes.below hb).keep (Below.heap_setCell _ _ _ _ (by simp only;omega)),nV.bump (aH h.row hb),(h.below.trans (hb.mono h.below.size)).setCell (by simp only;omega) _,h.seen⟩
theorem rJ.pop{w:World}{K:List HC}{i:Nat}{met:List Nat}{a k g cap:Nat}{S:List (Nat×Nat)}{wr w7:World}(h:rJ w K i met ((a,k)::S) (.slice (some ⟨g,0,none⟩) (S.length+1) cap) wr)(hb:Below wr.heap.size wr w7)(hg:w.heap.size+1≤g)
 (ht:(leads K a)[k]? = none):rJ w K i (met.set a 2) S (.slice (some ⟨g,0,none⟩) S.length cap) ((w7.setCell ⟨g,S.length*2+1,none⟩ (.int .i64 ((k:Int)+1))).setCell ⟨w.heap.size,a,none⟩ (.int .u8 2)):=by
 have hal:a<met.length:=by rw[h.dfs.len];exact h.grayLt
 refine⟨h.dfs.pop ht,((h.bytes.below hb).keep (Below.heap_setCell _ _ _ _ (by simp only;omega))).set a 2,nV.other (nV.pop (nV.bump (aH h.row hb))) (by omega) _ _,((h.below.trans (hb.mono h.below.size)).setCell (by simp only;omega) _).setCell (nR _) _,fun j hj=>?_⟩;rw[gL hal];split
 ·intro e;cases e
 ·exact h.seen j hj
theorem rJ.push{w:World}{K:List HC}{i:Nat}{met:List Nat}{a k t g cap:Nat}{S:List (Nat×Nat)}{v':Value}{wr w7 w9:World}(h:rJ w K i met ((a,k)::S) (.slice (some ⟨g,0,none⟩) (S.length+1) cap) wr)(hb:Below wr.heap.size wr w7)(hg:w.heap.size+1≤g)
 (ht:(leads K a)[k]? = some t) (hm:met[t]? = some 0)
 (ho:w9.ownsRow (w.heap.size+1) 154 2 v' (S.length+1+1) (jG ((a,k+1)::S).reverse++[.int .i64 (t:Nat),.int .i64 0]))
 (hgr:(((w7.setCell ⟨g,S.length*2+1,none⟩ (.int .i64 ((k:Int)+1))).setCell ⟨w.heap.size,t,none⟩ (.int .u8 1)).alloc (.cells #[.int .i64 (t:Nat),.int .i64 0] 154)).grownBy w9 (some g)) :
 rJ w K i (met.set t 1) ((t,0)::(a,k+1)::S) v' w9:=by
 have htl:t<met.length:=(List.getElem?_eq_some_iff.1 hm).1;have hlt:=h.bytes.lt;have hbs:=hb.size;have hB:=((h.bytes.below hb).keep (Below.heap_setCell w7 ⟨g,S.length*2+1,none⟩ (.int .i64 ((k:Int)+1)) w.heap.size (by simp only;omega))).set t 1;have hBl:Below w.heap.size w ((w7.setCell ⟨g,S.length*2+1,none⟩ (.int .i64 ((k:Int)+1))).setCell ⟨w.heap.size,t,none⟩ (.int .u8 1)):=((h.below.trans (hb.mono h.below.size)).setCell (by simp only;omega) _).setCell (nR _) _;have hB2:=hB.below ((bR _ _).alloc (nR _) (.cells #[.int .i64 (t:Nat),.int .i64 0] 154));refine⟨h.dfs.deeper ht hm,hB2.keep (hgr.block _ hB2.lt (fun e=>by cases e;omega)),?_,?_,fun j hj=>?_⟩
 ·show w9.ownsRow _ _ _ _ _ (jG ((t,0)::(a,k+1)::S).reverse)
  rw[List.reverse_cons,iH];exact ho
 ·have hT:aA (fun b=>g=b) _ w9:=aA.grown hgr fun k e=>by cases e;rfl
  exact(hBl.alloc hBl.size _).trans (hT.toBelow (Nat.le_trans hBl.size (by simp)) fun b e=>by omega)
 ·rw[gL htl]
  split
  ·intro e;cases e
  ·exact h.seen j hj
structure PC(w:World)(g o p:Nat)(x y:Value)(u:World):Prop where
 below:Below w.heap.size w u
 c0:u.cell? ⟨g,o,none⟩=some x
 c1:u.cell? ⟨g,p,none⟩=some y
 lt:g<w.heap.size
theorem PC.next{w:World}{g o p:Nat}{x y:Value}{u v:World}(h:PC w g o p x y u)(hb:Below u.heap.size u v):PC w g o p x y v:=by
 have hl:=nT h.lt h.below.size;exact⟨h.below.trans (hb.mono h.below.size),(hb.cell (p:=⟨g,o,none⟩) hl).trans h.c0,(hb.cell (p:=⟨g,p,none⟩) hl).trans h.c1,h.lt⟩
theorem PC.all{w:World}{g o p:Nat}{x y:Value}{u:World}(h:PC w g o p x y u):u.cell? ⟨g,o,none⟩=some x∧u.cell? ⟨g,p,none⟩=some y∧PC w g o p x y u:=⟨h.c0,h.c1,h⟩
theorem PC.of{w:World}{g o p:Nat}{x y:Value}{u:World}(h:u.cell? ⟨g,o,none⟩=some x∧u.cell? ⟨g,p,none⟩=some y∧PC w g o p x y u):PC w g o p x y u:=h.2.2
theorem PC.drew{w:World}{g o p:Nat}{x y:Value}{u:World}(h:PC w g o p x y u):PC w g o p x y u.drew:=h.next ((bR _ _).drew)
theorem dV.from{w w':World}{K:List HC}{a:Option Addr}{cap:Nat}(h:dV w (fun b=>b<w.heap.size) K a cap)(hb:Below w.heap.size w w'):dV w' (fun b=>b<w.heap.size) K a cap:=h.below hb
theorem aR5{w:World}{ok:Nat→Prop}{K:List HC}{a:Option Addr}{cap:Nat}(h:dV w ok K a cap)(hlen:K.length≤400000)(hK:dK K) :
 Calls Try.prog 78 #[.slice a K.length cap] w fun e w'=>e=.returned (.bool (fK K))∧Below w.heap.size w w':=by
 have HP:Hid (dV w (fun b=>b<w.heap.size) K a cap):=lh (h.mono fun b hb _=>hb);have HK:=lh hK;have hmk:=aJ9 w K.length (by omega);clear h hK;go_enter Try.func78,Try.ntmps78;go_wp2_with fail;clear hmk
 go_loopw[13] (fun y wr=>∃(i:Nat) (met:List Nat),i≤K.length∧y=.int .i64 i∧Hid (Dfs (leads K) K.length met [])∧eO wr w.heap.size met∧Below w.heap.size w wr∧Hid (∀j,j<i→met[j]?≠some 0)) (fun y _=>K.length-(intOf y).toNat)
 case atStart =>
  exact⟨0,List.replicate K.length 0,Nat.zero_le _,rfl,lh (Dfs.start _),⟨by
   have e:(List.map (fun v:Nat=>Value.int .u8 v) (List.replicate K.length 0)).toArray=Array.replicate K.length (.int .u8 0):=by simp
   rw[e];exact heap_alloc_new w _⟩,(bR _ _).alloc (nR _) _,lh (fun j hj=>absurd hj (Nat.not_lt_zero j))⟩
 case round =>
  obtain⟨i,met,hi,rfl,HD,hby,hbel,HSN⟩:=hrel;have HBY:=lh hby;have HBEL:=lh hbel;clear hby hbel;by_cases hlt:i<K.length
  ·obtain⟨x,hx⟩:∃x,met[i]? = some x:=⟨met[i]'(by rw[HD.out.len];exact hlt),List.getElem?_eq_getElem _⟩
   have q0:=HBY.out.get hx;have qf:=HBY.out.fz;have HX:=lh hx;clear hx;by_cases hx0:x=0
   ·subst hx0
    have HD1:=lh (HD.out.push HX.out trivial);have hset:=HBY.out.set i 1;have hseen:∀j,j≤i→(met.set i 1)[j]?≠some 0:=fun j hj=>by
     rw[gL (by rw[HD.out.len];exact hlt)];split
     ·intro e;cases e
     ·exact HSN.out j (by omega)
    have hBS:=HBEL.out.setCell (p:=⟨w.heap.size,i,none⟩) (nR _) (.int .u8 1);have hlw:w.heap.size<wr.heap.size:=HBY.out.lt;have hR0:rJ w K i (met.set i 1) [(i,0)] (.slice (some ⟨wr.heap.size,0,none⟩) 1 1) ((wr.setCell ⟨w.heap.size,i,none⟩ (.int .u8 1)).alloc (.cells #[.int .i64 (i:Nat),.int .i64 0] 154)):=by
     have hsz:(wr.setCell ⟨w.heap.size,i,none⟩ (.int .u8 1)).heap.size=wr.heap.size:=by simp[World.setCell]
     have ho:=World.ownsRow_lit (base:=w.heap.size+1) (e:=154) (size:=2) (wr.setCell ⟨w.heap.size,i,none⟩ (.int .u8 1)) #[.int .i64 (i:Nat),.int .i64 0] 1 (by rw[hsz];omega) (by unfold maxLen;omega) rfl;rw[hsz] at ho;exact⟨HD1.out,hset.below ((bR _ _).alloc (nR _) _),ho,hBS.alloc hBS.size _,hseen⟩
    have HR0:=lh hR0;clear hseen hBS hR0 hset HD1;go_wp2_with fail
    go_loopg [5] (fO (leads K) (met.set i 1) [(i,0)]) (fun f y wz=>∃(met2:List Nat) (S:List (Nat×Nat)),Hid (f=fO (leads K) met2 S)∧rJ w K i met2 S y wz)
    case atStart=>exact⟨_,_,lh rfl,HR0.out⟩
    case round =>
     obtain⟨met2,S,HF,hrel2⟩:=hrel;have HRL:=lh hrel2;cases S with
     | nil =>
      obtain⟨a0,c0,rfl⟩:∃a0 c0,u5=.slice a0 0 c0:=by
       rcases hrel2.row.2 with ⟨h1,_⟩|⟨g,cap,cur,h1,_⟩
       ·exact⟨_,_,h1⟩
       ·exact⟨_,_,h1⟩
      clear hrel2;go_wp2_with fail;go_roundw
      case measure=>simp[intOf];omega
      case rel=>exact⟨i+1,met2,by omega,by go_num,lh HRL.out.dfs,HRL.out.bytes,HRL.out.below,lh (fun j hj=>HRL.out.seen j (by omega))⟩
     | cons p S =>
      obtain⟨a',k⟩:=p;have hal:a'<K.length:=HRL.out.grayLt;obtain⟨g,cap',rfl,hg,hgl,hc1,hcm,p0,p1,pf⟩:=hrel2.row.top;have HG:=lh hg;have hcm':cap'≤9223372036854775807:=by unfold maxLen at hcm;omega
      have hk4:k≤4:=by
       have h1:=HRL.out.dfs.bound (a',k) (by simp);have h2:=kE (HK.out a' hal);simp only at h1;omega
      have hST:∀u,Below w.heap.size w u→Calls Try.prog 107 #[.slice a K.length cap,.int .i64 (a':Nat),.int .i64 (k:Nat)] u (fun e u'=>e=.returned (.int .i64 (oF (leads K a') k))∧Below u.heap.size u u'):=fun u hu=>bO4 (HP.out.from hu) hal hlen (HK.out a' hal) k
      have T0:PC wr g (S.length*2) (S.length*2+1) (.int .i64 (a':Nat)) (.int .i64 (k:Nat)) wr:=⟨Below.refl _ _,p0,p1,hgl⟩
      clear hrel2 hcm hg;cases hs:(leads K a')[k]? with
      | none =>
       have HS:=lh hs;have hsv:oF (leads K a') k = -1:=by unfold oF;rw[hs]
       rw[hsv] at hST;have HST:=lh hST;clear hST hsv hs;go_wp2_with fail
       go_region_held3 (fun u=>u.cell? ⟨g,S.length*2,none⟩=some (.int .i64 (a':Nat))∧u.cell? ⟨g,S.length*2+1,none⟩=some (.int .i64 (k:Nat))∧PC wr g (S.length*2) (S.length*2+1) (.int .i64 (a':Nat)) (.int .i64 (k:Nat)) u)
        (first
         | exact PC.all (PC.drew (by assumption))
         | exact PC.all (PC.next (PC.of (by assumption)) hb7))
        (first
         | (go_at_call 107;refine(HST.out _ (HRL.out.below.trans ((PC.of (by assumption)).below.mono HRL.out.below.size))).mono ?_;rintro e w7 ⟨rfl,hb7⟩))
       all_goals
        have HPC:=PC.of (by assumption);have HB7:=lh HPC.below;have e0:=HPC.c0;have e1:=HPC.c1;have ef:=fun o=>(HB7.out.frozen (p:=⟨g,o,none⟩) hgl).trans (pf o)
        have HBK:=lh ((HRL.out.bytes.below HB7.out).keep (Below.heap_setCell _ ⟨g,S.length*2+1,none⟩ (.int .i64 ((k:Int)+1)) w.heap.size (by have:=HG.out;simp only;omega)));have mf:=HBK.out.fz;have m0:=HBK.out.get ((HRL.out.dfs.gray a').2 (by simp));clear HPC;go_wp2_with fail
        go_roundg (fO (leads K) (met2.set a' 2) S)
        case measure=>have:=aC3 HRL.out.dfs;have:=HF.out;omega
        case rel=>exact⟨met2.set a' 2,S,lh rfl,HRL.out.pop HB7.out HG.out HS.out⟩
      | some t =>
       have HS:=lh hs;have htl:t<K.length:=iF HK.out a' hal t (List.mem_of_getElem? hs);have hsv:oF (leads K a') k=(t:Int):=by unfold oF;rw[hs]
       rw[hsv] at hST;have HST:=lh hST;clear hST hsv hs;obtain⟨x2,hm⟩:∃x2,met2[t]? = some x2:=⟨met2[t]'(by rw[HRL.out.dfs.len];exact htl),List.getElem?_eq_getElem _⟩
       have hx2:=HRL.out.dfs.vals t x2 hm;rcases (by omega:x2=0∨x2=1∨x2=2) with rfl|rfl|rfl
       ·have HM:=lh hm
        clear hm hx2;go_wp2_with fail
        go_region_held3 (fun u=>u.cell? ⟨g,S.length*2,none⟩=some (.int .i64 (a':Nat))∧u.cell? ⟨g,S.length*2+1,none⟩=some (.int .i64 (k:Nat))∧PC wr g (S.length*2) (S.length*2+1) (.int .i64 (a':Nat)) (.int .i64 (k:Nat)) u)
         (first
          | exact PC.all (PC.drew (by assumption))
          | exact PC.all (PC.next (PC.of (by assumption)) hb7))
         (first
          | (go_at_call 107;refine(HST.out _ (HRL.out.below.trans ((PC.of (by assumption)).below.mono HRL.out.below.size))).mono ?_;rintro e w7 ⟨rfl,hb7⟩))
        all_goals
         have HPC:=PC.of (by assumption);have HB7:=lh HPC.below;have e0:=HPC.c0;have e1:=HPC.c1;have ef:=fun o=>(HB7.out.frozen (p:=⟨g,o,none⟩) hgl).trans (pf o)
         have HBK:=lh ((HRL.out.bytes.below HB7.out).keep (Below.heap_setCell _ ⟨g,S.length*2+1,none⟩ (.int .i64 ((k:Int)+1)) w.heap.size (by have:=HG.out;simp only;omega)));have mf:=HBK.out.fz;have m0:=HBK.out.get HM.out;have hgw:g≠w.heap.size:=by have:=HG.out;omega
         have HO1:=lh ((nV.other (S:=(a',k+1)::S) (nV.bump (aH HRL.out.row HB7.out)) hgw t (.int .u8 1)).alloc (.cells #[.int .i64 (t:Nat),.int .i64 0] 154));have hwl:w.heap.size+1≤w7.heap.size:=by have:=HB7.out.size;have:=HG.out;omega
         have HS5:Hid (S.length+1≤400000):=lh (by
          have h1:=jH K.length _ HRL.out.dfs.nodup (fun x hx=>by
           have:=(HRL.out.dfs.gray x).2 hx;rw[←HRL.out.dfs.len];exact(List.getElem?_eq_some_iff.1 this).1)
          have:=h1.1;simp only[List.length_map,List.length_cons] at this;omega)
         obtain⟨i0,hi0,hz0',hz1',hz2'⟩:=info_parts Try.infoStop;clear HPC;go_wp2_with (first
          | (at_builtin;have _g:=HO1;refine aJ _ rfl _ _ 155 rfl (w.heap.size+1) 154 i0 _ 2 16 Try.underlying155 hi0 hz0' hz1' hz2' rfl (by decide) _ _ _ rfl HO1.out (some ⟨w7.heap.size,0,none⟩) 1 1 ?d0 [.int .i64 (t:Nat),.int .i64 0] rfl rfl ?d1 ?d2 ?d3 ?d4 ?d5 ?_))
         case d0=>intro h;cases h
         case d1=>exact bO5 _ t (by simp[World.setCell])
         case d2=>intro u hu;simp only[List.mem_cons,List.not_mem_nil,or_false] at hu;rcases hu with rfl|rfl <;> rfl
         case d3=>have:=HS5.out;simp only[List.length_cons];unfold maxLen;omega
         case d4=>have:=HS5.out;simp only[List.length_cons];omega
         case d5=>simp[World.setCell];omega
         ·intro v4 w4 hown4 hgrow4 hfr4
          have HR4:=lh (HRL.out.push HB7.out HG.out HS.out HM.out (by rw[List.reverse_cons];exact hown4) hgrow4);obtain⟨g4,cap4,rfl⟩:=bQ hown4 (by omega);clear hown4 hgrow4 hfr4;go_wp2_with fail
          go_roundg (fO (leads K) (met2.set t 1) ((t,0)::(a',k+1)::S))
          case measure=>have:=tW (S:=S) HS.out HM.out;have:=HF.out;omega
          case rel=>exact⟨met2.set t 1,(t,0)::(a',k+1)::S,lh rfl,HR4.out⟩
       ·have HM:=lh hm
        have HNS:Hid (fK K=false):=lh (gM (fun h=>HRL.out.dfs.circle HS.out hm (h t htl)));clear hm hx2;go_wp2_with fail
        go_region_held3 (fun u=>u.cell? ⟨g,S.length*2,none⟩=some (.int .i64 (a':Nat))∧u.cell? ⟨g,S.length*2+1,none⟩=some (.int .i64 (k:Nat))∧PC wr g (S.length*2) (S.length*2+1) (.int .i64 (a':Nat)) (.int .i64 (k:Nat)) u)
         (first
          | exact PC.all (PC.drew (by assumption))
          | exact PC.all (PC.next (PC.of (by assumption)) hb7))
         (first
          | (go_at_call 107;refine(HST.out _ (HRL.out.below.trans ((PC.of (by assumption)).below.mono HRL.out.below.size))).mono ?_;rintro e w7 ⟨rfl,hb7⟩))
        all_goals
         have HPC:=PC.of (by assumption);have HB7:=lh HPC.below;have e0:=HPC.c0;have e1:=HPC.c1;have ef:=fun o=>(HB7.out.frozen (p:=⟨g,o,none⟩) hgl).trans (pf o)
         have HBK:=lh ((HRL.out.bytes.below HB7.out).keep (Below.heap_setCell _ ⟨g,S.length*2+1,none⟩ (.int .i64 ((k:Int)+1)) w.heap.size (by have:=HG.out;simp only;omega)));have mf:=HBK.out.fz;have m0:=HBK.out.get HM.out;clear HPC;go_wp2_with fail;go_ret;exact⟨by rw[HNS.out];rfl,(HRL.out.below.trans (HB7.out.mono HRL.out.below.size)).setCell (by have:=HG.out;simp only;omega) _⟩
       ·have HM:=lh hm
        clear hm hx2;go_wp2_with fail
        go_region_held3 (fun u=>u.cell? ⟨g,S.length*2,none⟩=some (.int .i64 (a':Nat))∧u.cell? ⟨g,S.length*2+1,none⟩=some (.int .i64 (k:Nat))∧PC wr g (S.length*2) (S.length*2+1) (.int .i64 (a':Nat)) (.int .i64 (k:Nat)) u)
         (first
          | exact PC.all (PC.drew (by assumption))
          | exact PC.all (PC.next (PC.of (by assumption)) hb7))
         (first
          | (go_at_call 107;refine(HST.out _ (HRL.out.below.trans ((PC.of (by assumption)).below.mono HRL.out.below.size))).mono ?_;rintro e w7 ⟨rfl,hb7⟩))
        all_goals
         have HPC:=PC.of (by assumption);have HB7:=lh HPC.below;have e0:=HPC.c0;have e1:=HPC.c1;have ef:=fun o=>(HB7.out.frozen (p:=⟨g,o,none⟩) hgl).trans (pf o)
         have HBK:=lh ((HRL.out.bytes.below HB7.out).keep (Below.heap_setCell _ ⟨g,S.length*2+1,none⟩ (.int .i64 ((k:Int)+1)) w.heap.size (by have:=HG.out;simp only;omega)));have mf:=HBK.out.fz;have m0:=HBK.out.get HM.out;clear HPC;go_wp2_with fail
         go_roundg (fO (leads K) met2 ((a',k+1)::S))
         case measure=>have:=zF (met:=met2) (S:=S) HS.out;have:=HF.out;omega
         case rel=>exact⟨met2,(a',k+1)::S,lh rfl,HRL.out.skip HB7.out HG.out HS.out HM.out⟩
   ·have hx1:((x:Int) != 0)=true:=by rw[bne_iff_ne];omega
    have HX0:=lh hx0;clear hx0;go_wp2_with fail;go_roundw
    case measure=>simp[intOf];omega
    case rel =>
     exact⟨i+1,met,by omega,by go_num,HD,HBY.out,HBEL.out,lh (fun j hj=>by
      by_cases e:j=i
      ·subst e;rw[HX.out];intro h;cases h;exact HX0.out rfl
      ·exact HSN.out j (by omega))⟩
  ·have HT:Hid (fK K=true):=lh (iI (HD.out.all fun j hj=>HSN.out j (by omega)))
   go_wp2_with fail;go_ret;exact⟨by rw[HT.out];rfl,HBEL.out⟩
theorem sI{K:List HC}(h:400000<K.length):cH K=2:=by unfold cH;rw[if_pos h]
theorem sJ{K:List HC}(h:¬400000<K.length)(h2:cX K K.length≠0):cH K=cX K K.length:=by unfold cH;rw[if_neg h,if_pos h2]
theorem xE{K:List HC}(h:¬400000<K.length)(h2:cX K K.length=0)(h3:eW K):cH K=0:=by unfold cH;rw[if_neg h,if_neg (fun e=>e h2),if_pos h3]
theorem oE{K:List HC}(h:¬400000<K.length)(h2:cX K K.length=0)(h3:¬eW K):cH K=4:=by unfold cH;rw[if_neg h,if_neg (fun e=>e h2),if_neg h3]
theorem pW{w:World}{ok:Nat→Prop}{K:List HC}{a:Option Addr}{cap:Nat}(h:dV w ok K a cap) :
 Calls Try.prog 50 #[.slice a K.length cap] w fun e w'=>e=.returned (.int .i64 (cH K:Nat))∧Below w.heap.size w w':=by
 have HP:=lh h;have hcl:K.length≤9223372036854775807:=by have:=h.cap;unfold maxLen at this;omega
 clear h;by_cases hl:400000<K.length
 ·have hl':(400000:Int)<(K.length:Int):=by omega
  have HO:=lh (sI hl);go_enter Try.func50,Try.ntmps50;go_wp2_with fail;go_ret;exact⟨cJ HO.out.symm,Below.refl _ _⟩
 ·have hl':(K.length:Int)≤400000:=by omega
  have hln:K.length≤400000:=by omega
  have HL:=lh hl;clear hl;go_enter Try.func50,Try.ntmps50;go_wp2_with fail
  go_loopw[10] (fun y wr=>∃i:Nat,i≤K.length∧y=.int .i64 i∧Hid (∀j,j<i→cD K j=0)∧Hid (Below w.heap.size w wr)) (fun y _=>K.length-(intOf y).toNat)
  case atStart=>exact⟨0,Nat.zero_le _,rfl,lh (fun j hj=>absurd hj (Nat.not_lt_zero j)),lh (bR _ _)⟩
  case round =>
   obtain⟨i,hi,rfl,HZ,HB⟩:=hrel;by_cases hlt:i<K.length
   ·have HCW:=lh (bO1 (HP.out.below HB.out) hlt hln)
    by_cases hc:cD K i=0
    ·have hc':((cD K i:Int) != 0)=false:=by rw[hc];rfl
     have HC:=lh hc;clear hc;go_wp2_with (go_at_call 77;refine HCW.out.mono ?_;rintro e w1 ⟨rfl,hb1⟩);go_roundw
     case measure=>simp[intOf];omega
     case rel=>exact⟨i+1,by omega,by go_num,lh (fun j hj=>by
      by_cases e:j=i
      ·subst e;exact HC.out
      ·exact HZ.out j (by omega)),lh (HB.out.trans (hb1.mono HB.out.size))⟩
    ·have hc':((cD K i:Int) != 0)=true:=qW hc
     have HO:Hid (cH K=cD K i):=lh (by
      have:=pU K.length i hlt HZ.out hc;rw[sJ HL.out (by rw[this];exact hc),this])
     clear hc;go_wp2_with (go_at_call 77;refine HCW.out.mono ?_;rintro e w1 ⟨rfl,hb1⟩);go_ret;exact⟨cJ HO.out.symm,HB.out.trans (hb1.mono HB.out.size)⟩
   ·have HOK:Hid (dK K):=lh (fun j hj=>HZ.out j (by omega))
    have HF:Hid (cX K K.length=0):=lh (iE _ HOK.out);have HST:=lh (aR5 (HP.out.below HB.out) hln HOK.out);by_cases hs:eW K
    ·have hs':=iI hs
     rw[hs'] at HST;have HO:=lh (xE HL.out HF.out hs);clear hs hs';go_wp2_with (go_at_call 78;refine HST.out.mono ?_;rintro e w1 ⟨rfl,hb1⟩);go_ret;exact⟨cJ HO.out.symm,HB.out.trans (hb1.mono HB.out.size)⟩
    ·have hs':=gM hs
     rw[hs'] at HST;have HO:=lh (oE HL.out HF.out hs);clear hs hs';go_wp2_with (go_at_call 78;refine HST.out.mono ?_;rintro e w1 ⟨rfl,hb1⟩);go_ret;exact⟨cJ HO.out.symm,HB.out.trans (hb1.mono HB.out.size)⟩
theorem dZ.of{K:List HC}(h:cH K=0):dZ K:=by
 obtain⟨a,b,c⟩:=aC8 h;exact⟨a,b,c⟩
def jS(l:List Nat):List Value:=l.map fun v:Nat=>Value.int .i64 v
def BM(bs g:Nat)(tv:Value):Nat→Prop:=fun b=>b=bs∨b=g∨tv.ownBlock=some b
structure BAt(T:TypeId)(w:World)(bs g cap:Nat)(tv:Value)(K:List HC)(Bd:List Nat)(wk:Nat):Prop where
 blk:w.heap[bs]? = some (.cells #[.slice (some ⟨g,0,none⟩) K.length cap,tv,.int .i64 wk] T (0,0))
 row:w.ownsRow 0 69 3 (.slice (some ⟨g,0,none⟩) K.length cap) K.length (bS K)
 fits:∀i,i<K.length→(hc K i).fits
 bd:w.ownsRow 0 3 1 tv Bd.length (jS Bd)
 ne:bs≠g∧tv.ownBlock≠some bs∧tv.ownBlock≠some g
section
variable {T:TypeId} {w w':World} {bs g cap:Nat} {tv:Value} {K:List HC} {Bd:List Nat} {wk:Nat}
theorem BAt.lt(h:BAt T w bs g cap tv K Bd wk):bs<w.heap.size∧g<w.heap.size:=⟨(gS h.blk).1,(h.row.lt g rfl).2⟩
theorem BAt.cells(h:BAt T w bs g cap tv K Bd wk):w.cell? ⟨bs,0,none⟩=some (.slice (some ⟨g,0,none⟩) K.length cap)∧w.cell? ⟨bs,1,none⟩=some tv∧w.cell? ⟨bs,2,none⟩=some (.int .i64 wk)∧(∀o,w.frozen? ⟨bs,o,none⟩=false)∧(∀o,w.frozen? ⟨g,o,none⟩=false) :=
 ⟨by simp[World.cell?,h.blk],by simp[World.cell?,h.blk],by simp[World.cell?,h.blk],fun o=>by simp[World.frozen?,h.blk],fun o=>h.row.frozenAt o⟩
theorem BAt.hp(h:BAt T w bs g cap tv K Bd wk):dV w (fun b=>b=g) K (some ⟨g,0,none⟩) cap:=by
 obtain⟨a,c,e,hp⟩:=dV.of_row (ok:=fun b=>b=g) h.row (fun b hb=>by simp only[Value.ownBlock,Option.some.injEq] at hb;exact hb.symm) h.fits;cases e;exact hp
theorem BAt.keep(h:BAt T w bs g cap tv K Bd wk)(hb:Below w.heap.size w w'):BAt T w' bs g cap tv K Bd wk :=
 ⟨(hb.block bs h.lt.1).trans h.blk,aH h.row hb,h.fits,aH h.bd hb,h.ne⟩
theorem BAt.spent(h:BAt T w bs g cap tv K Bd wk):BAt T (w.setCell ⟨bs,2,none⟩ (.int .i64 ((wk:Int)+1))) bs g cap tv K Bd (wk+1):=by
 refine⟨?_,aC h.row fun g' hg'=>Below.heap_setCell _ _ _ _ ?_,h.fits,aC h.bd fun g' hg'=>Below.heap_setCell _ _ _ _ (fun e=>h.ne.2.1 (by rw[hg',e])),h.ne⟩
 ·rw[aB _ _ _ _ h.blk];rfl
 ·simp only[Value.ownBlock,Option.some.injEq] at hg'
  subst hg';exact fun e=>h.ne.1 e.symm
end
theorem aN8{w:World}{bs g cap:Nat}{tv:Value}{K:List HC}{Bd:List Nat}{wk:Nat}(h:BAt 164 w bs g cap tv K Bd wk)(hwk:wk≤1000000) :
 Calls Try.prog 119 #[.pointer (some ⟨bs,0,none⟩)] w fun e w'=>e=.returned (.bool (decide (wk+1≤4000)))∧BAt 164 w' bs g cap tv K Bd (wk+1)∧aA (BM bs g tv) w w':=by
 obtain⟨c0,c1,c2,cf,-⟩:=h.cells;have f2:=cf 2;have HS:=lh h.spent;have HT:Hid (aA (BM bs g tv) w (w.setCell ⟨bs,2,none⟩ (.int .i64 ((wk:Int)+1)))):=lh (aA.setCell _ (.inl rfl));clear cf h;by_cases hl:wk+1≤4000
 ·have hd:decide (wk+1≤4000)=true:=decide_eq_true hl
  go_enter Try.func119,Try.ntmps119;go_wp2_with fail;go_ret;exact⟨eY (by rw[hd];simp;omega),HS.out,HT.out⟩
 ·have hd:decide (wk+1≤4000)=false:=decide_eq_false hl
  go_enter Try.func119,Try.ntmps119;go_wp2_with fail;go_ret;exact⟨eY (by rw[hd];simp;omega),HS.out,HT.out⟩
def aC7(T:TypeId)(w:World)(bs g cap:Nat)(tv:Value)(K:List HC)(Bd:List Nat)(o:HW)(e:Ending)(w':World):Prop :=
 aA (BM bs g tv) w w' ∧
 match o with
 | .yes f=>e=.returned (.tuple #[.bool true,.int .i64 0])∧BAt T w' bs g cap tv K Bd (4000-f)
 | .no f=>e=.returned (.tuple #[.bool false,.int .i64 0])∧BAt T w' bs g cap tv K Bd (4000-f)
 | .many=>e=.returned (.tuple #[.bool false,.int .i64 2])∧BAt T w' bs g cap tv K Bd 4001
theorem oX{K:List HC}{e n k:Nat}(hn:(hc K e).n=(n:Int))(hk:k<n):(bD K e).drop k=(e+1+k)::(bD K e).drop (k+1):=by
 have hl:(bD K e).length=n:=by unfold bD;rw[hn];simp
 rw[List.drop_eq_getElem_cons (by omega)];congr 1;simp[bD]
theorem aX0{bs g cap:Nat}{tv:Value}{K:List HC}{Bd:List Nat}(hI:dZ K)(v:Nat)(f:Nat):∀(t:Nat) (w:World),f≤4000→BAt 164 w bs g cap tv K Bd (4000-f)→t<K.length →
 Calls Try.prog 125 #[.pointer (some ⟨bs,0,none⟩),.int .i64 v,.int .i64 t] w (aC7 164 w bs g cap tv K Bd (aV K v f [t])):=by
 induction f using Nat.strongRecOn with
 | _ f ih =>
 intro t w hf4 hst ht;have IH:=lh ih;have HI:=lh hI;have HST:=lh hst;clear ih hI hst;go_enter Try.func125,Try.ntmps125;go_wp2_with fail;refine(aN8 HST.out (by omega)).mono ?_;rintro e w1 ⟨rfl,hs1,ht1⟩;cases f with
 | zero =>
  have hd:decide (4000-0+1≤4000)=false:=by decide
  have HW':Hid (aV K v 0 [t]=.many):=lh (by simp[aV]);have HS1:=lh hs1;have HT1:=lh ht1;clear hs1 ht1;rw[hd];go_wp2_with fail
  go_ret2
  rw[HW'.out];exact⟨HT1.out,rfl,HS1.out⟩
 | succ f =>
  have hd:decide (4000-(f+1)+1≤4000)=true:=decide_eq_true (by omega);have hwk:4000-(f+1)+1=4000-f:=by omega
  rw[hd];rw[hwk] at hs1;have HS1:=lh hs1;have HT1:=lh ht1;obtain⟨c0,-,-,-,-⟩:=hs1.cells;obtain⟨m,hm⟩:=fI (HI.out.straight t ht);have hel:=HI.out.end ht;have HWI:Hid (aV K v (f+1) [t]=if (hc K (aG K t)).k=1 then (if aG K t=v then .yes f else .no f) else aV K v f (bD K (aG K t))):=lh (by
   simp only[aV,List.append_nil])
  have HEW:=lh (aK1 hs1.hp HI.out.cells hm ht);clear hs1 ht1 hd hwk hm;generalize aG K t=x at *;obtain⟨b',off',he,-,-,d0,d1,d2,-⟩:=HS1.out.hp.at' x hel.1;injection he with he;injection he with e1 e2;subst e1;subst e2;rw[Nat.zero_add] at d0 d1 d2;have hxl:=hel.1;have hKl:K.length≤9223372036854775807:=by have:=HI.out.len;omega
  have HEL:=lh hel;clear hel;by_cases hk:(hc K x).k=1
  ·rw[hk] at d0
   by_cases hxv:x=v
   ·have HR:Hid (aV K v (f+1) [t]=.yes f):=lh (by rw[HWI.out,if_pos hk,if_pos hxv])
    have hxv':((x:Int) == (v:Int))=true:=by rw[beq_iff_eq];omega
    clear hk hxv;go_wp2_with (go_at_call 85;refine HEW.out.mono ?_;rintro e w2 ⟨rfl,rfl⟩)
    go_ret2
    rw[HR.out];exact⟨HT1.out,rfl,HS1.out⟩
   ·have HR:Hid (aV K v (f+1) [t]=.no f):=lh (by rw[HWI.out,if_pos hk,if_neg hxv])
    have hxv':((x:Int) == (v:Int))=false:=by rw[beq_eq_false_iff_ne];omega
    clear hk hxv;go_wp2_with (go_at_call 85;refine HEW.out.mono ?_;rintro e w2 ⟨rfl,rfl⟩)
    go_ret2
    rw[HR.out];exact⟨HT1.out,rfl,HS1.out⟩
  ·have hk':((hc K x).k == 1)=false:=by simpa using hk
   have HWA:Hid (aV K v (f+1) [t]=aV K v f (bD K x)):=lh (by rw[HWI.out,if_neg hk]);obtain⟨n,hn,hn4,hxn⟩:∃n:Nat,(hc K x).n=(n:Int)∧n≤4∧x+n<K.length:=by
    rcases bV (HI.out.cells x hxl) with ⟨h1,_⟩|⟨_,_,h2,h3,h4,_⟩
    ·exact absurd h1 hk
    ·exact⟨(hc K x).n.toNat,by omega,h3,h4⟩
   have HAD:=lh (fun k hk2=>oX (k:=k) hn hk2);have HAL:Hid ((bD K x).length=n):=lh (by unfold bD;rw[hn];simp);rw[hn] at d1;clear hk hn HWI;go_wp2_with (go_at_call 85;refine HEW.out.mono ?_;rintro e w2 ⟨rfl,rfl⟩)
   go_loopw[40] (fun y wr=>∃k fk,k≤n∧y=.int .i64 (k:Nat)∧fk≤f∧Hid (aV K v f (bD K x)=aV K v fk ((bD K x).drop k))∧BAt 164 wr bs g cap tv K Bd (4000-fk)∧aA (BM bs g tv) w wr) (fun y _=>n-(intOf y).toNat)
   case atStart=>exact⟨0,f,Nat.zero_le _,rfl,nR _,lh rfl,HS1.out,HT1.out⟩
   case round =>
    obtain⟨k,fk,hk,rfl,hfk,HWk,hsk,htk⟩:=hrel;have SK:=lh hsk;have TK:=lh htk;clear hsk htk;by_cases hlt:k<n
    ·have hsplit:aV K v fk ((bD K x).drop k)=(aV K v fk [x+1+k]).then fun f'=>aV K v f' ((bD K x).drop (k+1)):=by
      rw[HAD.out k hlt,←uF,List.singleton_append]
     have HSP:=lh hsplit;have HCL:=lh (IH.out fk (by omega) (x+1+k) wr (by omega) SK.out (by omega));have HLE:=lh (lW K v fk [x+1+k]);have hcast:((x+1+k:Nat):Int)=(x:Int)+1+(k:Int):=by omega
     rw[hcast] at HCL;clear hsplit hcast;generalize aV K v fk [x+1+k]=o at *;go_wp2_with fail;refine HCL.out.mono ?_;intro e w4 hpost;cases o with
     | yes f' =>
      obtain⟨ht4,rfl,hs4⟩:=hpost;have HS4:=lh hs4;have HT4:=lh ht4;have HR:Hid (aV K v f (bD K x)=.yes f'):=lh (by rw[HWk.out,HSP.out];rfl);clear hs4 ht4;go_wp2_with fail
      go_ret2
      rw[HWA.out,HR.out];exact⟨TK.out.trans HT4.out,rfl,HS4.out⟩
     | no f' =>
      obtain⟨ht4,rfl,hs4⟩:=hpost;have HS4:=lh hs4;have HT4:=lh ht4;have HR:Hid (aV K v f (bD K x)=aV K v f' ((bD K x).drop (k+1))):=lh (by rw[HWk.out,HSP.out];rfl);have hf':f'≤fk:=HLE.out.2 f' rfl;clear hs4 ht4;go_wp2_with fail;go_roundw
      case rel=>exact⟨k+1,f',by omega,by go_num,by omega,HR,HS4.out,TK.out.trans HT4.out⟩
      case measure=>simp[intOf];omega
     | many =>
      obtain⟨ht4,rfl,hs4⟩:=hpost;have HS4:=lh hs4;have HT4:=lh ht4;have HR:Hid (aV K v f (bD K x)=.many):=lh (by rw[HWk.out,HSP.out];rfl);clear hs4 ht4;go_wp2_with fail
      go_ret2
      rw[HWA.out,HR.out];exact⟨TK.out.trans HT4.out,rfl,HS4.out⟩
    ·have HR:Hid (aV K v f (bD K x)=.no fk):=lh (by rw[HWk.out,List.drop_eq_nil_of_le (by rw[HAL.out];omega)];cases fk <;> rfl)
     go_wp2_with fail
     go_ret2
     rw[HWA.out,HR.out];exact⟨TK.out,rfl,SK.out⟩
section
variable {T:TypeId} {w:World} {bs g cap:Nat} {tv:Value} {K:List HC} {Bd:List Nat} {wk:Nat}
theorem BAt.put(h:BAt T w bs g cap tv K Bd wk){v t:Nat}(hv:v<K.length)(ht:t<K.length)(hK:K.length≤400000):BAt T (w.setCell ⟨g,v*3+1,none⟩ (.int .i64 t)) bs g cap tv (setN K v t) Bd wk:=by
 have hr:=(World.ownsRow.stored h.row (v*3+1) (.int .i64 t)).1;rw[←uA K v t hv] at hr;refine⟨?_,by rw[aL];exact hr,fun i hi=>?_,aC h.bd fun g' hg'=>Below.heap_setCell _ _ _ _ (fun e=>h.ne.2.2 (by rw[hg',e])),h.ne⟩
 ·rw[Below.heap_setCell _ _ _ _ h.ne.1,aL];exact h.blk
 ·rw[aL] at hi
  rw[dL hv];by_cases e:i=v
  ·rw[if_pos e]
   obtain⟨a,_,c⟩:=h.fits v hv;exact⟨a,(by show I64 (t:Int);unfold I64;omega),c⟩
  ·rw[if_neg e];exact h.fits i hi
theorem BAt.push(h:BAt T w bs g cap tv K Bd wk){v:Nat}{X w3:World}{tv':Value}(hX:Below w.heap.size w X)(ho:w3.ownsRow 0 3 1 tv' (Bd.length+1) (jS Bd++[.int .i64 (v:Nat)]))(hg:X.grownBy w3 tv.ownBlock)(hf:cF X tv tv') :
 (w3.heap[bs]? = some (.cells #[.slice (some ⟨g,0,none⟩) K.length cap,tv,.int .i64 wk] T (0,0))) ∧
 BAt T (w3.setCell ⟨bs,1,none⟩ tv') bs g cap tv' K (Bd++[v]) wk∧aA (BM bs g tv) w (w3.setCell ⟨bs,1,none⟩ tv')∧cF w tv tv':=by
 have hXs:=hX.size;have hF:cF w tv tv':=hf.old hX.size;have hblk:w3.heap[bs]? = some (.cells #[.slice (some ⟨g,0,none⟩) K.length cap,tv,.int .i64 wk] T (0,0)):=(hg.block bs (by have:=h.lt.1;omega) (fun e=>h.ne.2.1 e.symm)).trans ((hX.block bs h.lt.1).trans h.blk);have hn1:tv'.ownBlock≠some bs:=fun e=>by
  rcases hF with e2|e2
  ·exact h.ne.2.1 (e2 ▸ e)
  ·have:=e2 bs e;have:=h.lt.1;omega
 have hn2:tv'.ownBlock≠some g:=fun e=>by
  rcases hF with e2|e2
  ·exact h.ne.2.2 (e2 ▸ e)
  ·have:=e2 g e;have:=h.lt.2;omega
 have hT1:aA (BM bs g tv) w w3:=(aA.below hX).trans (aA.grown hg fun k e=>.inr (.inr e));refine⟨hblk,⟨?_,aC h.row fun g' hg'=>?_,h.fits,?_,⟨h.ne.1,hn1,hn2⟩⟩,hT1.trans (aA.setCell _ (.inl rfl)),hF⟩
 ·rw[aB _ _ _ _ hblk];rfl
 ·simp only[Value.ownBlock,Option.some.injEq] at hg'
  subst hg';rw[Below.heap_setCell _ _ _ _ (fun e=>h.ne.1 e.symm)];exact(hg.block g (by have:=h.lt.2;omega) (fun e=>h.ne.2.2 e.symm)).trans (hX.block g h.lt.2)
 ·rw[List.length_append]
  have:jS (Bd++[v])=jS Bd++[.int .i64 (v:Nat)]:=by simp[jS]
  rw[this];exact aC ho fun g' hg'=>Below.heap_setCell _ _ _ _ (fun e=>hn1 (by rw[hg',e]))
end
def aQ3(T:TypeId)(w:World)(bs g cap:Nat)(tv:Value)(K:List HC)(Bd:List Nat)(v t:Nat)(o:HW)(e:Ending)(w':World):Prop :=
 aA (BM bs g tv) w w' ∧
 match o with
 | .yes f=>e=.returned (.tuple #[.bool false,.int .i64 0])∧BAt T w' bs g cap tv K Bd (4000-f)
 | .no f=>e=.returned (.tuple #[.bool true,.int .i64 0])∧∃tv',cF w tv tv'∧BAt T w' bs g cap tv' (setN K (cM K v t).1 (cM K v t).2) (Bd++[(cM K v t).1]) (4000-f)
 | .many=>e=.returned (.tuple #[.bool false,.int .i64 2])∧BAt T w' bs g cap tv K Bd 4001
theorem aX1{bs g cap:Nat}{tv:Value}{K:List HC}{Bd:List Nat}(hI:dZ K)(v t f:Nat)(w:World)(hf4:f≤4000)(hst:BAt 164 w bs g cap tv K Bd (4000-f))(hv:v<K.length)(ht:t<K.length)(hL:Bd.length≤1000000) :
 Calls Try.prog 120 #[.pointer (some ⟨bs,0,none⟩),.int .i64 v,.int .i64 t] w (aQ3 164 w bs g cap tv K Bd v t (aV K v f [t])):=by
 have HI:=lh hI;have HST:=lh hst;clear hI hst;have hKl:K.length≤400000:=HI.out.len;go_enter Try.func120,Try.ntmps120;go_wp2_with fail;refine(aX0 HI.out v f t w hf4 HST.out ht).mono ?_;intro e w1 hpost;generalize aV K v f [t]=o at *;cases o with
 | yes f' =>
  obtain⟨ht1,rfl,hs1⟩:=hpost;have HS1:=lh hs1;have HT1:=lh ht1;clear hs1 ht1;go_wp2_with fail
  go_ret2
  exact⟨HT1.out,rfl,HS1.out⟩
 | many =>
  obtain⟨ht1,rfl,hs1⟩:=hpost;have HS1:=lh hs1;have HT1:=lh ht1;clear hs1 ht1;go_wp2_with fail
  go_ret2
  exact⟨HT1.out,rfl,HS1.out⟩
 | no f' =>
  obtain⟨ht1,rfl,hs1⟩:=hpost;have HS1:=lh hs1;have HT1:=lh ht1;obtain⟨c0,c1,c2,cf,gf⟩:=hs1.cells;obtain⟨b',off',he,-,-,d0,d1,d2,-⟩:=hs1.hp.at' t ht;injection he with he;injection he with e1 e2;subst e1;subst e2;rw[Nat.zero_add] at d0 d1 d2;obtain⟨b'',off'',he,-,-,p0,p1,p2,-⟩:=hs1.hp.at' v hv;injection he with he;injection he with e1 e2;subst e1;subst e2;rw[Nat.zero_add] at p0 p1 p2;obtain⟨i0,hi,hz0,hz1,hz2⟩:=info_parts Try.infoInt;clear hs1 ht1;by_cases hs:(hc K t).k=1∧v<t
  ·have hk:=hs.1
   have hvt:=hs.2;have HB:Hid (cM K v t=(t,v)):=lh (by unfold cM;rw[if_pos hs]);rw[hk] at d0;clear hs hk;have HP:=lh (HS1.out.put ht hv hKl);obtain⟨x0,x1,x2,xf,-⟩:=HP.out.cells;have HO1:=lh (HP.out.bd.alloc (.cells #[.int .i64 (t:Nat)] 3));have HTP:Hid (aA (BM bs g tv) w (w1.setCell ⟨g,t*3+1,none⟩ (.int .i64 (v:Nat)))):=lh (HT1.out.trans (aA.setCell _ (.inr (.inl rfl))));go_wp2_with (first
    | (at_builtin;have _g:=HO1;refine aR _ rfl _ _ 27 rfl 0 3 i0 _ 1 8 Try.underlying27 hi hz0 hz1 hz2 rfl (by decide) _ _ _ rfl HO1.out ⟨w1.heap.size,0,none⟩ 1 1 [.int .i64 (t:Nat)] rfl rfl ?d1 ?d2 ?d3 ?d4 ?d5 ?_))
   case d1 =>
    have:=dT (w1.setCell ⟨g,t*3+1,none⟩ (.int .i64 (v:Nat))) (.int .i64 (t:Nat)) 3
    rwa [sSz] at this
   case d2=>intro u hu;simp only[List.mem_singleton] at hu;subst hu;rfl
   case d3=>unfold maxLen;omega
   case d4=>omega
   case d5=>exact Nat.zero_le _
   ·intro tv' w3 hown3 hg3 hfr3
    have hp:=HP.out.push ((bR _ _).alloc (nR _) (.cells #[.int .i64 (t:Nat)] 3)) hown3 hg3 hfr3;have HPP:=lh hp.2;obtain⟨g3,cap3,rfl⟩:=bQ hown3 (by omega);have k1:w3.cell? ⟨bs,1,none⟩=some tv:=by simp[World.cell?,hp.1]
    have kf:∀o,w3.frozen? ⟨bs,o,none⟩=false:=fun o=>by simp[World.frozen?,hp.1]
    clear hp hown3 hg3 hfr3;go_wp2_with fail
    go_ret2
    exact⟨HTP.out.trans HPP.out.2.1,rfl,_,by
     rcases HPP.out.2.2 with e|e
     ·exact .inl e
     ·exact .inr fun gg hgg=>by have:=e gg hgg;rw[sSz] at this;have:=HT1.out.size;omega,by rw[HB.out];exact HPP.out.1⟩
  ·have HB:Hid (cM K v t=(v,t)):=lh (by unfold cM;rw[if_neg hs])
   by_cases hk:(hc K t).k=1
   ·have hvt:t≤v:=by
     have:¬v<t:=fun h=>hs ⟨hk,h⟩
     omega
    rw[hk] at d0;clear hs hk;have HP:=lh (HS1.out.put hv ht hKl);obtain⟨x0,x1,x2,xf,-⟩:=HP.out.cells;have HO1:=lh (HP.out.bd.alloc (.cells #[.int .i64 (v:Nat)] 3));have HTP:Hid (aA (BM bs g tv) w (w1.setCell ⟨g,v*3+1,none⟩ (.int .i64 (t:Nat)))):=lh (HT1.out.trans (aA.setCell _ (.inr (.inl rfl))));go_wp2_with (first
     | (at_builtin;have _g:=HO1;refine aR _ rfl _ _ 27 rfl 0 3 i0 _ 1 8 Try.underlying27 hi hz0 hz1 hz2 rfl (by decide) _ _ _ rfl HO1.out ⟨w1.heap.size,0,none⟩ 1 1 [.int .i64 (v:Nat)] rfl rfl ?e1 ?e2 ?e3 ?e4 ?e5 ?_))
    case e1 =>
     have:=dT (w1.setCell ⟨g,v*3+1,none⟩ (.int .i64 (t:Nat))) (.int .i64 (v:Nat)) 3
     rwa [sSz] at this
    case e2=>intro u hu;simp only[List.mem_singleton] at hu;subst hu;rfl
    case e3=>unfold maxLen;omega
    case e4=>omega
    case e5=>exact Nat.zero_le _
    ·intro tv' w3 hown3 hg3 hfr3
     have hp:=HP.out.push ((bR _ _).alloc (nR _) (.cells #[.int .i64 (v:Nat)] 3)) hown3 hg3 hfr3;have HPP:=lh hp.2;obtain⟨g3,cap3,rfl⟩:=bQ hown3 (by omega);have k1:w3.cell? ⟨bs,1,none⟩=some tv:=by simp[World.cell?,hp.1]
     have kf:∀o,w3.frozen? ⟨bs,o,none⟩=false:=fun o=>by simp[World.frozen?,hp.1]
     clear hp hown3 hg3 hfr3;go_wp2_with fail
     go_ret2
     exact⟨HTP.out.trans HPP.out.2.1,rfl,_,by
      rcases HPP.out.2.2 with e|e
      ·exact .inl e
      ·exact .inr fun gg hgg=>by have:=e gg hgg;rw[sSz] at this;have:=HT1.out.size;omega,by rw[HB.out];exact HPP.out.1⟩
   ·have hk':((hc K t).k == 1)=false:=by simpa using hk
    clear hs hk;have HP:=lh (HS1.out.put hv ht hKl);obtain⟨x0,x1,x2,xf,-⟩:=HP.out.cells;have HO1:=lh (HP.out.bd.alloc (.cells #[.int .i64 (v:Nat)] 3));have HTP:Hid (aA (BM bs g tv) w (w1.setCell ⟨g,v*3+1,none⟩ (.int .i64 (t:Nat)))):=lh (HT1.out.trans (aA.setCell _ (.inr (.inl rfl))));go_wp2_with (first
     | (at_builtin;have _g:=HO1;refine aR _ rfl _ _ 27 rfl 0 3 i0 _ 1 8 Try.underlying27 hi hz0 hz1 hz2 rfl (by decide) _ _ _ rfl HO1.out ⟨w1.heap.size,0,none⟩ 1 1 [.int .i64 (v:Nat)] rfl rfl ?f1 ?f2 ?f3 ?f4 ?f5 ?_))
    case f1 =>
     have:=dT (w1.setCell ⟨g,v*3+1,none⟩ (.int .i64 (t:Nat))) (.int .i64 (v:Nat)) 3
     rwa [sSz] at this
    case f2=>intro u hu;simp only[List.mem_singleton] at hu;subst hu;rfl
    case f3=>unfold maxLen;omega
    case f4=>omega
    case f5=>exact Nat.zero_le _
    ·intro tv' w3 hown3 hg3 hfr3
     have hp:=HP.out.push ((bR _ _).alloc (nR _) (.cells #[.int .i64 (v:Nat)] 3)) hown3 hg3 hfr3;have HPP:=lh hp.2;obtain⟨g3,cap3,rfl⟩:=bQ hown3 (by omega);have k1:w3.cell? ⟨bs,1,none⟩=some tv:=by simp[World.cell?,hp.1]
     have kf:∀o,w3.frozen? ⟨bs,o,none⟩=false:=fun o=>by simp[World.frozen?,hp.1]
     clear hp hown3 hg3 hfr3;go_wp2_with fail
     go_ret2
     exact⟨HTP.out.trans HPP.out.2.1,rfl,_,by
      rcases HPP.out.2.2 with e|e
      ·exact .inl e
      ·exact .inr fun gg hgg=>by have:=e gg hgg;rw[sSz] at this;have:=HT1.out.size;omega,by rw[HB.out];exact HPP.out.1⟩
end Go.Proofs.Ytikmgiapjigghab
