/- Walk: a cell is needed. -/
import Derived.Test.YtikmgiapjigghabQc12
import Derived.Test.YtikmgiapjigghabQc16
import Derived.Test.YtikmgiapjigghabQc20
import Derived.Test.YtikmgiapjigghabQc23
import Derived.Test.YtikmgiapjigghabQc24
import Derived.Test.YtikmgiapjigghabQc25
set_option maxRecDepth 100000
set_option maxHeartbeats 8000000
namespace Go.Proofs.Ytikmgiapjigghab
open Go.RowKit
structure gQ(w:World)(b3 b4 g:Nat)(Z:Nat→Prop)(s:List Bool×List Nat):Prop where
 c3:w.heap[b3]? = some (.cells #[.slice (some ⟨g,0,none⟩) s.1.length s.1.length] 39 (0,0))
 out:w.heap[g]? = some (.cells (s.1.map Value.bool).toArray 4 (0,0))
 c4:∃la lc,w.heap[b4]? = some (.cells #[.slice la s.2.length lc] 27 (0,0))∧w.ownsRow 0 3 1 (.slice la s.2.length lc) s.2.length (s.2.map fun x:Nat=>Value.int .i64 (x:Int))∧∀j,(Value.slice la s.2.length lc).ownBlock=some j→¬Z j
 ne:b3≠b4∧b3≠g∧b4≠g∧Z b3∧Z b4∧Z g
theorem gQ.weaken{w:World}{b3 b4 g:Nat}{Z Z':Nat→Prop}{s:List Bool×List Nat}(h:gQ w b3 b4 g Z s)(hz:∀b,Z' b→Z b)(h3:Z' b3)(h4:Z' b4)(hg:Z' g):gQ w b3 b4 g Z' s:=by
 obtain⟨la,lc,c4,hr,hn⟩:=h.c4;exact⟨h.c3,h.out,⟨la,lc,c4,hr,fun j e z=>hn j e (hz j z)⟩,h.ne.1,h.ne.2.1,h.ne.2.2.1,h3,h4,hg⟩
theorem gQ.more{w:World}{b3 b4 g:Nat}{Z:Nat→Prop}{s:List Bool×List Nat}(h:gQ w b3 b4 g Z s){Z':Nat→Prop}(hz:∀b,Z' b→Z b∨w.heap.size≤b)(hz2:∀b,Z b→Z' b):gQ w b3 b4 g Z' s:=by
 obtain⟨la,lc,c4,hr,hn⟩:=h.c4;exact⟨h.c3,h.out,⟨la,lc,c4,hr,fun j e z=>(hz j z).elim (hn j e) fun z=>by have:=(hr.lt j e).2;omega⟩,h.ne.1,h.ne.2.1,h.ne.2.2.1,hz2 _ h.ne.2.2.2.1,hz2 _ h.ne.2.2.2.2.1,hz2 _ h.ne.2.2.2.2.2⟩
theorem gQ.all{w:World}{b3 b4 g:Nat}{Z:Nat→Prop}{s:List Bool×List Nat}(h:gQ w b3 b4 g Z s):w.cell? ⟨b3,0,none⟩=some (.slice (some ⟨g,0,none⟩) s.1.length s.1.length)∧(∀i (hi:i<s.1.length),w.cell? ⟨g,i,none⟩=some (.bool s.1[i]))∧(∀o,w.frozen? ⟨g,o,none⟩=false)∧∀o,w.frozen? ⟨b4,o,none⟩=false:=by
 have h3:=h.c3;have ho:=h.out;obtain⟨la,lc,h4,-,-⟩:=h.c4;refine⟨by simp[World.cell?,h3],fun i hi=>?_,fun o=>by simp[World.frozen?,ho],fun o=>by simp[World.frozen?,h4]⟩;simp[World.cell?,ho,hi]
theorem gQ.keep{w w':World}{b3 b4 g:Nat}{Z:Nat→Prop}{s:List Bool×List Nat}(h:gQ w b3 b4 g Z s)(hb:∀b,b<w.heap.size→w'.heap[b]? = w.heap[b]?):gQ w' b3 b4 g Z s:=by
 obtain⟨la,lc,h4,hr,hn⟩:=h.c4;exact⟨(hb _ (gS h.c3).1).trans h.c3,(hb _ (gS h.out).1).trans h.out,⟨la,lc,(hb _ (gS h4).1).trans h4,aC hr fun g hg=>hb g (hr.lt g hg).2,hn⟩,h.ne⟩
theorem gQ.below{w w':World}{b3 b4 g:Nat}{Z:Nat→Prop}{s:List Bool×List Nat}(h:gQ w b3 b4 g Z s)(hb:Below w.heap.size w w'):gQ w' b3 b4 g Z s:=h.keep hb.block
theorem aB8{w:World}{base:Nat}{e:TypeId}{size:Nat}{v:Value}{n:Nat}{xs:List Value}(h:w.ownsRow base e size v n xs){g:Nat}(hg:v.ownBlock=some g){o:Obj}(ho:w.heap[g]? = some o):o.isCells=true:=by
 rcases h.2 with ⟨h1,h2⟩|⟨g',cap,cur,rfl,h3,h4,r⟩
 ·rw[h1] at hg;simp[Value.ownBlock] at hg
 ·have e:g'=g:=by simpa[Value.ownBlock] using hg
  subst e;rw[h4] at ho;cases ho;rfl
theorem gQ.mark{w:World}{b3 b4 g:Nat}{Z:Nat→Prop}{s:List Bool×List Nat}(h:gQ w b3 b4 g Z s){D:Nat}{o:Obj}(hD:w.heap[D]? = some o)(hc:o.isCells=false){Z':Nat→Prop}(hz:∀b,Z' b→Z b∨b=D)(h3:Z' b3)(h4:Z' b4)(hg:Z' g):gQ w b3 b4 g Z' s:=by
 obtain⟨la,lc,c4,hr,hn⟩:=h.c4;exact⟨h.c3,h.out,⟨la,lc,c4,hr,fun j e z=>(hz j z).elim (hn j e) fun ej=>by
  subst ej;rw[aB8 hr e hD] at hc;cases hc⟩,h.ne.1,h.ne.2.1,h.ne.2.2.1,h3,h4,hg⟩
theorem aV8{w:World}{b3 b4 g:Nat}{Z:Nat→Prop}{s:List Bool×List Nat}(h:gQ w b3 b4 g Z s)(hb:∀b,Z b→b<w.heap.size){x:Nat}(hx:x<s.1.length)(hl2:s.2.length≤1000000) :
 Calls Try.prog 69 #[.int .i64 (x:Nat),.pointer (some ⟨b3,0,none⟩),.pointer (some ⟨b4,0,none⟩)] w fun e w'=>(∃v,e=.returned v)∧gQ w' b3 b4 g Z (eU s x)∧aA (fun b=>b=g∨b=b4∨¬Z b) w w'∧∀(b:Nat) (o:Obj),w.heap[b]? = some o→o.isCells=false→w'.heap[b]? = some o:=by
 have HN:=lh h;have HB:=lh hb;obtain⟨q3,qg,gf,bf⟩:=h.all;obtain⟨la,lc,h4,hr,hnz⟩:=h.c4;have HNZ:=lh hnz;have HR:=lh hr;have H4:=lh h4;have hxi:(x:Int)<(s.1.length:Int):=by omega
 have hx0:(0:Int)≤(x:Int):=by omega
 obtain⟨bv,hbv⟩:∃bv,s.1[x]? = some bv:=⟨s.1[x],List.getElem?_eq_getElem hx⟩
 have y0:w.cell? ⟨g,x,none⟩=some (.bool bv):=by
  rw[List.getElem?_eq_getElem hx] at hbv;injection hbv with hbv;rw[←hbv];exact qg x hx
 have q4:w.cell? ⟨b4,0,none⟩=some (.slice la s.2.length lc):=by simp[World.cell?,h4]
 have HX:=lh hx;clear h hb hr h4 qg hnz;cases bv with
 | true =>
  have HE:Hid (eU s x=s):=lh (by unfold eU;rw[if_pos hbv]);clear hbv;go_enter Try.func69,Try.ntmps69;go_wp2_with fail
  go_end0
  exact⟨⟨_,rfl⟩,by rw[HE.out];exact HN.out,aA.refl _ _,fun b o h _=>h⟩
 | false =>
  have HE:Hid (eU s x=(s.1.set x true,s.2++[x])):=lh (by unfold eU;rw[if_neg (by rw[hbv];decide)]);obtain⟨n3,n4,n5,n6,n7,n8⟩:=HN.out.ne;have hrow:∀j,(Value.slice la s.2.length lc).ownBlock=some j→j≠g∧¬Z j:=fun j e=>⟨fun e2=>HNZ.out j e (by rw[e2];exact n8),HNZ.out j e⟩
  have HO:=lh ((aC HR.out (w':=w.setCell ⟨g,x,none⟩ (.bool true)) fun j e=>Below.heap_setCell _ _ _ _ (hrow j e).1).alloc (.cells #[.int .i64 (x:Int)] 3));have HRW:=lh hrow;have hg4:g≠b4:=fun e=>n5 e.symm
  obtain⟨j0,hj0,hy0,hy1,hy2⟩:=info_parts Try.infoI;clear hbv hrow;go_enter Try.func69,Try.ntmps69;go_wp2_with (at_builtin;have _g:=HO;refine aJ _ rfl _ _ 27 rfl 0 3 j0 _ 1 8 Try.underlying27 hj0 hy0 hy1 hy2 rfl (by decide) _ _ _ rfl HO.out (some ⟨w.heap.size,0,none⟩) 1 1 ?p0 [.int .i64 (x:Int)] rfl rfl ?p1 ?p2 ?p3 ?p4 ?p5 ?_)
  case p0=>intro h;cases h
  case p1=>intro ad had;cases had;have:=dT (w.setCell ⟨g,x,none⟩ (.bool true)) (.int .i64 (x:Int)) 3;simpa using this
  case p2=>intro u hu;simp only[List.mem_singleton] at hu;subst hu;rfl
  case p3=>unfold maxLen;omega
  case p4=>omega
  case p5=>exact Nat.zero_le _
  intro v8 w8 hown8 hgrow8 hfr8;have hl8:∀b,b<w.heap.size→(Value.slice la s.2.length lc).ownBlock≠some b→w8.heap[b]? = (w.setCell ⟨g,x,none⟩ (.bool true)).heap[b]?:=fun b hb hn=>by
   rw[hgrow8.block b (by simp;omega) fun e=>hn e.symm];exact Below.heap_alloc _ _ _ (by simpa using hb)
  have hg8:=hgrow8.size;have hnz8:∀j,v8.ownBlock=some j→¬Z j:=fun j e=>by
   rcases hfr8 with hf|hf
   ·rw[hf] at e;exact(HRW.out j e).2
   ·intro z;have h1:=hf j e;have h2:=HB.out j z;simp at h1;omega
  obtain⟨g8,cap8,rfl⟩:=bQ hown8 (by omega);have hz:w.heap.size≤w8.heap.size:=by simp at hg8;omega
  have hk4:w8.heap[b4]? = some (.cells #[.slice la s.2.length lc] 27 (0,0)):=by
   rw[hl8 b4 (gS H4.out).1 fun e=>(HRW.out b4 e).2 n7,Below.heap_setCell _ _ _ _ hg4.symm];exact H4.out
  have u4:w8.cell? ⟨b4,0,none⟩=some (.slice la s.2.length lc):=by simp[World.cell?,hk4]
  have uf:w8.frozen? ⟨b4,0,none⟩=false:=by simp[World.frozen?,hk4]
  have HK4:=lh hk4;have HL8:=lh hl8;have HO8:=lh hown8;have HZ:=lh hz;have HG8:=lh hgrow8;have HN8:=lh hnz8;clear hl8 hown8 hgrow8 hfr8 hk4 hg8 hz hnz8;go_wp2_with fail
  go_end0
  have r4:=aB w8 b4 0 (.slice (some ⟨g8,0,none⟩) (s.2.length+1) cap8) HK4.out;refine⟨⟨_,rfl⟩,?_,?_,fun b o hb hc=>?_⟩
  ·rw[HE.out]
   refine⟨?_,?_,⟨some ⟨g8,0,none⟩,cap8,?_,?_,?_⟩,HN.out.ne⟩
   ·rw[Below.heap_setCell _ _ _ _ n3,HL8.out b3 (gS HN.out.c3).1 fun e=>(HRW.out b3 e).2 n6,Below.heap_setCell _ _ _ _ n4]
    simp only[List.length_set];exact HN.out.c3
   ·rw[Below.heap_setCell _ _ _ _ hg4,HL8.out g (gS HN.out.out).1 fun e=>(HRW.out g e).1 rfl]
    have:=aB w g x (.bool true) HN.out.out;rw[this];simp[List.map_set]
   ·rw[r4];simp
   ·rw[List.length_append,List.map_append]
    exact aC HO8.out fun j e=>Below.heap_setCell _ _ _ _ fun ej=>HN8.out j e (by rw[show j=b4 from ej];exact n7)
   ·rw[List.length_append];exact HN8.out
  ·refine⟨?_,?_,?_,?_,fun b hb hn=>?_⟩
   ·exact HG8.out.os
   ·exact HG8.out.tape
   ·exact HG8.out.output
   ·have:=HZ.out;simp;omega
   ·have h1:b≠g:=fun e=>hn (.inl e)
    have h2:b≠b4:=fun e=>hn (.inr (.inl e))
    have h3:¬¬Z b:=fun e=>hn (.inr (.inr e))
    rw[Below.heap_setCell _ _ _ _ h2,HL8.out b hb fun e=>h3 (HRW.out b e).2,Below.heap_setCell _ _ _ _ h1]
  ·have h1:b≠g:=fun e=>by subst e;rw[HN.out.out] at hb;cases hb;cases hc
   have h2:b≠b4:=fun e=>by subst e;rw[H4.out] at hb;cases hb;cases hc
   rw[Below.heap_setCell _ _ _ _ h2,HL8.out b (gS hb).1 (fun e=>by rw[aB8 HR.out e hb] at hc;cases hc),Below.heap_setCell _ _ _ _ h1];exact hb
theorem gQ.pop{w:World}{b3 b4 g:Nat}{Z:Nat→Prop}{o:List Bool}{l:List Nat}{c:Nat}(h:gQ w b3 b4 g Z (o,l++[c])) :
 ∃gl cap,w.cell? ⟨b4,0,none⟩=some (.slice (some ⟨gl,0,none⟩) (l.length+1) cap)∧l.length+1≤cap∧cap≤maxLen∧w.cell? ⟨gl,l.length,none⟩=some (.int .i64 (c:Nat))∧w.frozen? ⟨b4,0,none⟩=false ∧
  gQ (w.setCell ⟨b4,0,none⟩ (.slice (some ⟨gl,0,none⟩) l.length cap)) b3 b4 g Z (o,l):=by
 obtain⟨la,lc,h4,hr,hz⟩:=h.c4;simp only[List.length_append,List.length_singleton] at h4 hr hz;obtain⟨gl,cap,hv⟩:=bQ hr (by omega);injection hv with e1 _ e2;subst e1;subst e2;obtain⟨a2,c2,e,hrw⟩:=cZ.of_row (ok:=fun _=>True) hr (by simp) (fun _ _=>trivial);injection e with e1 _ e2;subst e1;subst e2;obtain⟨b',off',he,-,hb',hc'⟩:=hrw.at' l.length (.int .i64 (c:Nat)) (by simp);injection he with he;injection he with f1 f2;subst f1;subst f2;rw[Nat.zero_add] at hc';obtain⟨n3,n4,n5,n6,n7,n8⟩:=h.ne;have hne:gl≠b4:=fun e=>hz gl rfl (by rw[e];exact n7)
 refine⟨gl,lc,by simp[World.cell?,h4],hrw.cap.1,hrw.cap.2.1,hc',by simp[World.frozen?,h4],?_,?_,⟨some ⟨gl,0,none⟩,lc,?_,?_,fun j e=>hz j e⟩,h.ne⟩
 ·rw[Below.heap_setCell _ _ _ _ n3];exact h.c3
 ·rw[Below.heap_setCell _ _ _ _ n5.symm];exact h.out
 ·rw[aB w b4 0 _ h4];simp
 ·have hc:=iD hr (k:=l.length) (by omega)
  rw[Nat.mul_one,List.map_append,List.take_left' (by simp)] at hc;exact aC hc fun j e=>Below.heap_setCell _ _ _ _ fun ej=>by
   have:gl=j:=by simpa[Value.ownBlock] using e
   exact hne (this.trans ej)
theorem gQ.step{w w':World}{b3 b4 g:Nat}{Z:Nat→Prop}{s:List Bool×List Nat}(h:gQ w b3 b4 g Z s){row:Option Nat}(hg:w.grownBy w' row)(hr:∀r,row=some r→∃o:Obj,w.heap[r]? = some o∧o.isCells=false):gQ w' b3 b4 g Z s:=by
 have key:∀(b:Nat) (o:Obj),w.heap[b]? = some o→o.isCells=true→w'.heap[b]? = some o:=fun b o ho hc=>by
  rw[hg.block b (gS ho).1 fun e=>by
   obtain⟨o2,h2,h3⟩:=hr b e.symm;rw[ho] at h2;cases h2;rw[hc] at h3;cases h3]
  exact ho
 obtain⟨la,lc,h4,hrow,hz⟩:=h.c4;refine⟨key _ _ h.c3 rfl,key _ _ h.out rfl,⟨la,lc,key _ _ h4 rfl,aC hrow fun j e=>?_,hz⟩,h.ne⟩;have hl:=(hrow.lt j e).2;obtain⟨o,h1⟩:∃o,w.heap[j]? = some o:=⟨_,Array.getElem?_eq_getElem hl⟩
 rw[h1];refine key j _ h1 ?_;rcases hrow.2 with ⟨h5,h6⟩|⟨g',cap,cur,h5,h6,h7,r⟩
 ·rw[h5] at e;simp[Value.ownBlock] at e
 ·have e2:g'=j:=by rw[h5] at e;simpa[Value.ownBlock] using e
  subst e2;rw[h7] at h1;cases h1;rfl
end Go.Proofs.Ytikmgiapjigghab
namespace Go.Proofs.Ytikmgiapjigghab
open Go.RowKit Go.Shelf
attribute [local go_sem] Oper.semAt_some
theorem aB6{n:Nat}(hn:1≤n){w0:World}{B0 B1:Nat}{ok:Nat→Prop}{K:List HC}{a:Option Addr}{cap i:Nat}(hb0:B0<w0.heap.size)(hb1:B1<w0.heap.size)(hP1:ok B1)(h0':w0.cell? ⟨B0,0,none⟩=some (.slice a K.length cap))(h1':w0.cell? ⟨B1,0,none⟩=some (.int .i64 i))(hH':dV w0 ok K a cap)(hi:i<K.length)(hlen:K.length≤400000)(hc:cD K i=0) :
 aP1 Fence.wide n Try.prog 95 #[.pointer (some ⟨B0,0,none⟩),.pointer (some ⟨B1,0,none⟩)] (fun k=>#[.int .i64 ((leads K i).getD k 0:Nat)]) (aD ok) (leads K i).length w0:=by
 intro lp J Jx W hW hJ hJx hY hJ0;have hro:Fence.wide.round=none:=rfl;have h0:=(hW.cell (p:=⟨B0,0,none⟩) hb0).trans h0';have h1:=(hW.cell (p:=⟨B1,0,none⟩) hb1).trans h1';have hH:=hH'.keep (aD.below hW ok);have hb1':B1<W.heap.size:=nT hb1 hW.size;obtain⟨b,off,rfl,-,hb,c0,c1,c2,-⟩:=hH.at' i hi;have hcl:K.length≤9223372036854775807:=by omega
 have HJA:=lh (fun o=>hJ 0 W (W.alloc o) none hJ0 (World.grownBy_alloc W o none) (fun r e=>by cases e));have HY:=lh hY;have HC:=lh hc;have HK1:Hid (∀o,aD ok W (W.alloc o)):=lh (fun o=>aD.below ((bR _ _).alloc (nR _) _) ok);clear hY hc hJ hJx hJ0 h0' h1' hH' hH hW;rcases bV HC.out with ⟨hk,hn0,hn1,-⟩|⟨hk,-,hn0,hn4,hn1,-,-⟩
 ·obtain⟨m,hm⟩:∃m:Nat,(hc K i).n=(m:Int):=⟨(hc K i).n.toNat,by omega⟩
  have HL:Hid (leads K i=if (m:Int)=(i:Int) then [] else [m]):=lh (by unfold leads;rw[if_pos hk,hm];simp);rw[hm] at c1;rw[hk] at c0;clear hk hn0 hn1 hm HC;by_cases hmi:m=i
  ·subst hmi
   refine callsIn_of_wp Try.func95 rfl trivial ?_ hro;simp only[Try.ntmps95,List.size_toArray,List.length_cons,List.length_nil,Nat.reduceAdd,Nat.reduceSub,Array.replicate_succ,Array.replicate_zero,List.push_toArray,List.append_toArray,List.nil_append,List.cons_append];gi_wp2;refine bodyPost_ret (results_none rfl _ _ _) rfl ?_;exact⟨⟨_,rfl⟩,.inl (by rw[HL.out,if_pos trivial];exact HJA.out _)⟩
  ·have hne:((m:Int) != (i:Int))=true:=by rw[bne_iff_ne];omega
   have HL2:Hid (leads K i = [m]):=lh (by rw[HL.out,if_neg (by omega)]);clear hmi;have hy1:=HY.out 0 (W.alloc (.cells #[.int .i64 1,.int .i64 m,.string (hc K i).name] 69)) (by rw[HL2.out];simp) (HJA.out _);have he0:(leads K i).getD 0 0=m:=by rw[HL2.out];rfl
   dsimp only at hy1;rw[he0] at hy1;clear he0;obtain⟨fn,tmps,assign,body,hy,hR⟩:=hy1;refine callsIn_of_wp Try.func95 rfl trivial ?_ hro;simp only[Try.ntmps95,List.size_toArray,List.length_cons,List.length_nil,Nat.reduceAdd,Nat.reduceSub,Array.replicate_succ,Array.replicate_zero,List.push_toArray,List.append_toArray,List.nil_append,List.cons_append];gi_wp2;refine hR.mono ?_;rintro e W3 (⟨rfl,hJ3,hk3⟩|⟨rfl,hJx3⟩)
   ·gi_wp2
    refine bodyPost_ret (results_none rfl _ _ _) rfl ?_;exact⟨⟨_,rfl⟩,.inl (by rw[HL2.out];exact hJ3)⟩
   ·gi_wp2
    refine bodyPost_ret (results_none rfl _ _ _) rfl ?_;exact⟨⟨_,rfl⟩,.inr hJx3⟩
 ·obtain⟨m,hm⟩:∃m:Nat,(hc K i).n=(m:Int):=⟨(hc K i).n.toNat,by omega⟩
  have HL:Hid (leads K i=(List.range m).map fun j=>i+1+j):=lh (by unfold leads;rw[if_neg (by omega),hm];simp);rw[hm] at c1;rw[hk] at c0;have hm4:m≤4:=by omega
  have him:(i:Int)+(m:Int)<(K.length:Int):=by omega
  clear hk hn0 hn1 hn4 hm HC;refine callsIn_of_wp Try.func95 rfl trivial ?_ hro;simp only[Try.ntmps95,List.size_toArray,List.length_cons,List.length_nil,Nat.reduceAdd,Nat.reduceSub,Array.replicate_succ,Array.replicate_zero,List.push_toArray,List.append_toArray,List.nil_append,List.cons_append];gi_wp2
  gi_loopw [23] (fun p wr=>∃j:Nat,j≤m∧p=.int .i64 j∧Hid (J j wr)∧Hid (aD ok W wr)) (fun p _=>m-(intOf p).toNat)
  case atStart=>exact⟨0,Nat.zero_le _,rfl,lh (HJA.out _),lh (HK1.out _)⟩
  case round =>
   obtain⟨j,hj,rfl,HJ,HKW⟩:=hrel;have g1:=(HKW.out.cell (p:=⟨B1,0,none⟩) hP1 hb1').trans h1;by_cases hjm:j<m
   ·have hy1:=HY.out j wr (by rw[HL.out];simpa using hjm) HJ.out
    have he0:(leads K i).getD j 0=i+1+j:=by rw[HL.out,List.getD_eq_getElem?_getD,List.getElem?_map,List.getElem?_range hjm];rfl
    rw[he0] at hy1;clear he0;obtain⟨fn,tmps,assign,body,hy,hR⟩:=hy1;simp only[Int.natCast_add,Int.cast_ofNat_Int] at hy;gi_wp2;refine hR.mono ?_;rintro e W3 (⟨rfl,hJ3,hk3⟩|⟨rfl,hJx3⟩)
    ·have HJ3:=lh hJ3
     have HK3:=lh hk3;clear hJ3 hk3;gi_wp2;go_roundw
     case rel=>exact⟨j+1,by omega,by go_num,HJ3,lh (HKW.out.trans HK3.out)⟩
     case measure=>simp[intOf];omega
    ·have HJ3:=lh hJx3
     clear hJx3;gi_wp2;refine bodyPost_ret (results_none rfl _ _ _) rfl ?_;exact⟨⟨_,rfl⟩,.inr HJ3.out⟩
   ·have hjm':j=m:=by omega
    have HJM:Hid (J (leads K i).length wr):=lh (by rw[HL.out,List.length_map,List.length_range,←hjm'];exact HJ.out);clear hjm';gi_wp2
    go_end0
    exact⟨⟨_,rfl⟩,.inl HJM.out⟩
end Go.Proofs.Ytikmgiapjigghab
namespace Go.Proofs.Ytikmgiapjigghab
open Go.RowKit
theorem aX.rowH{w w1:World}{Z:Nat→Prop}{R:Nat}{p:List Cl}{pa:Option Addr}{pc:Nat}{m:Mac}{d:MAd}{wk:Nat}(h:aX w Z R p pa pc m d wk)(ht:aA (fun b=>bk d.h=some b) w w1){L:List HC}(hx:eT w1 0 (.slice d.h L.length d.hn) L)(hl:L.length=m.H.length)(hzn:∀b,Z b→b<w.heap.size):aX w1 Z R p pa pc {m with H:=L} d wk∧aA (RM R d) w w1:=by
 obtain⟨h1,-⟩:=h.putH (ht.mono fun b _ e=>.inl e) hx (.inl rfl) hzn;have hR:=h.ne;simp only[rws,List.mem_cons,List.not_mem_nil,or_false,forall_eq_or_imp,forall_eq] at hR;have hb1:w1.heap[R]? = some (.cells (kT pa p.length pc m d wk).toArray 59 (0,0)):=(ht.block R h.lt hR.1).trans h.blk;have hs:∀b,w1.heap[b]? = (w1.setCell ⟨R,1,none⟩ (.slice d.h L.length d.hn)).heap[b]?:=fun b=>by
  by_cases e:b=R
  ·subst e
   rw[aB w1 b 1 _ hb1,hb1,hl];rfl
  ·exact(Below.heap_setCell _ _ _ _ e).symm
 have ht1:aA (fun _=>False) (w1.setCell ⟨R,1,none⟩ (.slice d.h L.length d.hn)) w1:=⟨rfl,rfl,rfl,by simp[World.setCell],fun b _ _=>hs b⟩
 exact⟨h1.keep ht1 fun _ _ e=>e.elim,ht.mono fun b _ e=>.inr (by rw[←e];simp[rws])⟩
theorem bB9{S:MS}(hI:dZ S.H)(h0:S.fin=0)(hf4:S.f≤4000){a b:Nat}(ha:a<S.H.length)(hb:b<S.H.length){T:TypeId}{w w':World}{bs g cap:Nat}{tv:Value}{e:Ending}(h:xJ T w bs g cap tv (dE S.H [] S.f [(a,b)]) e w') :
 ∃(K:List HC) (B:List Nat) (wk:Nat) (ok:Bool) (en:Nat) (tv':Value),e=.returned (.tuple #[.bool ok,.int .i64 (en:Nat)])∧BAt T w' bs g cap tv' K B wk∧cF w tv tv'∧K.length=S.H.length∧B.length≤4000∧(cQ a b S).2=ok∧(en=0∨en=2∧ok=false) ∧
  (cQ a b S).1.mac = {S.mac with H:=K,T:=(S.T++B).map fun x:Nat=>(x:Int),fin:=if en=0 then 0 else 3}∧((cQ a b S).1.fin=0→wk=4000-(cQ a b S).1.f):=by
 obtain⟨-,tv',hfr,hm⟩:=h;have hk:=kQ S.f S.H [] [(a,b)] hI (fun x hx=>by rw[List.mem_singleton] at hx;subst hx;exact⟨ha,hb⟩);have hr:=lX S.f S.H [] [(a,b)] hI (fun x hx=>by rw[List.mem_singleton] at hx;subst hx;exact⟨ha,hb⟩) 4000 (by simp;omega);cases ho:dE S.H [] S.f [(a,b)] with
 | ok K B f =>
  rw[ho] at hm hk hr;obtain⟨rfl,hb⟩:=hm;exact⟨K,B,_,true,0,tv',rfl,hb,hfr,hk.1,hr,by simp only[cQ,ho],.inl rfl,by simp only[cQ,ho,MS.mac,if_true,h0];rfl,fun _=>by simp only[cQ,ho]⟩
 | no K B f =>
  rw[ho] at hm hk hr;obtain⟨rfl,hb⟩:=hm;exact⟨K,B,_,false,0,tv',rfl,hb,hfr,hk.1,hr,by simp only[cQ,ho],.inl rfl,by simp only[cQ,ho,MS.mac,if_true,h0];rfl,fun _=>by simp only[cQ,ho]⟩
 | many K B =>
  rw[ho] at hm hk hr;obtain⟨rfl,hb⟩:=hm;exact⟨K,B,_,false,2,tv',rfl,hb,hfr,hk.1,hr,by simp only[cQ,ho],.inr ⟨rfl,rfl⟩,by simp only[cQ,ho,MS.mac];rw[if_neg (by decide)];rfl,fun e=>by simp only[cQ,ho] at e;cases e⟩
def kF(w:World)(Z:Nat→Prop)(R:Nat)(p:List Cl)(pa:Option Addr)(pc:Nat)(d:MAd)(r:MS×Bool)(e:Ending)(w':World):Prop :=
 e=.returned (.bool r.2)∧aA (RM R d) w w'∧∃d' wk',bB w d d'∧aX w' Z R p pa pc r.1.mac d' wk'∧(r.1.fin=0→wk'=4000-r.1.f)
theorem bC0{w:World}{Z:Nat→Prop}{R:Nat}{p:List Cl}{pa:Option Addr}{pc:Nat}{S:MS}{d:MAd}(h:aX w Z R p pa pc S.mac d (4000-S.f))(hf4:S.f≤4000)(hI:dZ S.H){a b:Nat}(ha:a<S.H.length)(hb:b<S.H.length)(hT:S.T.length≤100000000)(h0:S.fin=0)(hzn:∀b,Z b→b<w.heap.size) :
 Calls Try.prog 89 #[.pointer (some ⟨R,0,none⟩),.int .i64 a,.int .i64 b] w (kF w Z R p pa pc d (cQ a b S)):=by
 obtain⟨c0,c1,c2,c3,c4,c5,c6,c7,c8,c9,c10,cf⟩:=h.cells;have zR:=h.lt;have hrow:w.ownsRow 0 69 3 (.slice d.h S.H.length d.hn) S.H.length (bS S.H):=h.rows.h.row;obtain⟨g,cap,hgv⟩:=bQ hrow (by omega);injection hgv with e1 _ e2;have HD:=lh e1;have hgk:bk d.h=some g:=by rw[e1];rfl
 have hgR:g≠R:=fun e=>h.ne (bk d.h) (by simp[rws]) (by rw[hgk,e])
 have hglt:g<w.heap.size:=h.rows.lt g (by rw[←hgk];simp[rws]);have hc1:w.cell? ⟨R,1,none⟩=some (.slice (some ⟨g,0,none⟩) S.H.length cap):=by rw[←e1,←e2];exact c1
 rw[e1,e2] at hrow;have HE2:=lh e2;have HI:=lh hI;have H0:=lh h0;have HF4:=lh hf4;have HA:=lh ha;have HB:=lh hb;have HGK:=lh hgk;have HTL:=lh hT;have HZN:=lh hzn;have HB1:Hid (Below w.heap.size w (w.alloc (.cells #[.slice (some ⟨g,0,none⟩) S.H.length cap,.slice none 0 0,.int .i64 ((4000-S.f:Nat):Int)] 164)).drew):=lh (((bR _ _).alloc (nR _) _).drew);have HBT:Hid (BAt 164 (w.alloc (.cells #[.slice (some ⟨g,0,none⟩) S.H.length cap,.slice none 0 0,.int .i64 ((4000-S.f:Nat):Int)] 164)).drew w.heap.size g cap (.slice none 0 0) S.H [] (4000-S.f)):=lh ⟨heap_alloc_new w _,aH hrow HB1.out,h.rows.h.fits,World.ownsRow_nil _ _ _ _,by omega,by simp[Value.ownBlock],by simp[Value.ownBlock]⟩;have HS:=lh (bL6 S.f S.H [] (.slice none 0 0) a b _ hf4 HBT.out hI (by simp;omega) ha hb);have HR:=lh h;clear h hrow e1 e2 c1 hI h0 hf4 ha hb hgk hT hzn;go_enter Try.func89,Try.ntmps89;go_wp2_with fail
 go_region
 go_wp2_with (go_at_call 112;refine HS.out.mono ?_;rintro e w2 hp;have HP:=lh hp;obtain⟨K,B,wk2,okb,en,tv,rfl,hbt,hfr,hkl,hbl,hres,hen,hmac,hwk⟩:=bB9 HI.out H0.out HF4.out HA.out HB.out hp;have HBT2:=lh hbt;have HFR:=lh hfr;have HKL:=lh hkl;have HBL:=lh hbl;have HRES:=lh hres;have HEN:=lh hen;have HMAC:=lh hmac;have HWK:=lh hwk;have hT2:aA (fun b=>b=g∨w.heap.size≤b) w w2:=(aA.below HB1.out).trans (hp.1.mono fun b _ e=>e.elim (fun e=>.inr (by omega)) fun e=>e.elim .inl fun e=>by simp[Value.ownBlock] at e);have HT2:=lh hT2;obtain⟨a2,c2',hat,hisn⟩:=dC.of_row (ok:=fun b=>w.heap.size≤b) (l:=B.map fun v:Nat=>(v:Int)) (v:=tv) (by have:=hbt.bd;rw[List.length_map,List.map_map];exact this) (fun b hb=>HFR.out.elim (fun e=>by rw[e] at hb;simp[Value.ownBlock] at hb) fun e=>by have:=e b hb;have:=HB1.out.size;omega);have HIS:=lh hisn;clear hisn;subst hat;obtain⟨x0,x1,x2,-,-⟩:=hbt.cells;rw[List.length_map] at x1;have hR2:=HR.out.rowH (L:=K) (HT2.out.mono fun b hb e=>e.elim (fun e=>by rw[HGK.out,e]) fun e=>by omega) (by rw[HD.out,HE2.out];exact⟨HBT2.out.row,HBT2.out.fits⟩) HKL.out HZN.out;have HR2:=lh hR2.1;have HTM:=lh hR2.2;obtain⟨r0,r1,r2,r3,r4,r5,r6,r7,r8,r9,r10,rf⟩:=hR2.1.cells;clear hR2;clear hbt;clear hp hfr hkl hbl hres hen hmac hwk hT2);have HR3:=lh (HR2.out.putWork wk2).1;have HTK:=lh (HR2.out.putWork wk2).2;have zw2:w.heap.size<w2.heap.size:=HBT2.out.lt.1;have y1:(w2.setCell ⟨R,10,none⟩ (.int .i64 (wk2:Int))).cell? ⟨w.heap.size,1,none⟩=some (.slice a2 B.length c2'):=(HTK.out.cell (p:=⟨w.heap.size,1,none⟩) zw2 fun e=>by have:=HR.out.rmlt _ e;simp at this).trans x1;have HIS3:=lh (HIS.out.keep (HTK.out.keeps fun b hb e=>by have:=HR.out.rmlt _ e;omega));have hTL:=HTL.out;have hBL:=HBL.out;obtain⟨s0,s1,s2,s3,s4,s5,s6,s7,s8,s9,s10,sf⟩:=HR3.out.cells;have hdt:(S.mac.T).length=S.T.length:=by simp[MS.mac]
 simp only[hdt] at s5;have hw23:w2.heap.size≤(w2.setCell ⟨R,10,none⟩ (.int .i64 (wk2:Int))).heap.size:=HTK.out.size;generalize w2.setCell ⟨R,10,none⟩ (.int .i64 (wk2:Int))=w3 at *;have HO1:Hid (w3.drew.ownsRow 0 3 1 (.slice d.t S.T.length d.tn) S.T.length (S.T.map fun x:Nat=>Value.int .i64 (x:Int))):=lh (by
  have h1:=HR3.out.rows.t;have h2:=aH h1 ((Below.refl w3.heap.size w3).drew);simpa[MS.mac,Function.comp_def] using h2)
 have HNW:Hid (∀ad,a2=some ad→∀j u,(jS B)[j]? = some u→w3.drew.cell? (ad.add j)=some u):=lh fun ad had j u hu=>by
  subst had;have:=HIS3.out.rw'.news j u (by simpa[jS,Function.comp_def] using hu);exact this
 have hane:a2=none→B.length=0:=fun e=>by have:=HIS3.out.cap;have h2:=this.2.2 e;have:=this.1;simp at this;omega
 obtain⟨i0,hi0,hz0,hz1,hz2⟩:=info_parts Try.infoInt
 go_region_law ((
  refine eB _ (by rfl) _ _ _ (by rfl) 0 3 i0 _ 1 8 Try.underlying27 hi0 hz0 hz1 hz2 rfl (by decide) (.slice d.t S.T.length d.tn) S.T.length (S.T.map fun x:Nat=>Value.int .i64 (x:Int)) (by rfl) HO1.out a2 B.length c2' hane (jS B) (by rfl) (by simp[jS]) HNW.out (by intro u hu;obtain⟨x,_,rfl⟩:=List.mem_map.1 hu;rfl) (by unfold maxLen;omega) (by omega) (Nat.zero_le _) ?_;intro v4 w4 hown4 hgrow4 hfr4;obtain⟨a4,c4,rfl⟩:=bL hown4;have HOWN4:=lh hown4;have HGR4:=lh hgrow4;have HFR4:=lh hfr4;have hRb:w4.heap[R]? = w3.heap[R]?:=hgrow4.block R HR3.out.lt (fun e=>HR3.out.ne (bk d.t) (by simp[rws]) ((aE d.t S.T.length d.tn).symm.trans e.symm));have z5:w4.cell? ⟨R,5,none⟩=some (.slice d.t S.T.length d.tn):=(World.cell?_of_block hRb).trans s5;have zf:∀o,w4.frozen? ⟨R,o,none⟩=false:=fun o=>by have:=sf o;simpa[World.frozen?,hRb] using this
  clear hown4 hgrow4 hfr4))
 all_goals
  have hLl:((S.T++B).map fun x:Nat=>(x:Int)).length=S.T.length+B.length:=by simp
  have HX4:Hid (aX (w4.setCell ⟨R,5,none⟩ (.slice a4 (S.T.length+B.length) c4)) Z R p pa pc {S.mac with H:=K,T:=(S.T++B).map fun x:Nat=>(x:Int)} {d with t:=a4,tn:=c4} wk2∧aA (RM R d) w3 (w4.setCell ⟨R,5,none⟩ (.slice a4 (S.T.length+B.length) c4))∧bB w3 d {d with t:=a4,tn:=c4}):=lh (by
   have h3:=HR3.out.below ((Below.refl w3.heap.size w3).drew);have ht4:aA (fun b=>bk d.t=some b) w3.drew w4:=aA.grown HGR4.out fun k e=>(aE d.t S.T.length d.tn).symm.trans e
   have hf4:bk a4=bk d.t∨∀b,bk a4=some b→w3.drew.heap.size≤b:=HFR4.out.elim (fun e=>.inl ((aE _ _ _).symm.trans (e.trans (aE _ _ _)))) fun e=>.inr fun b hb=>e b ((aE _ _ _).trans hb)
   obtain⟨q1,-⟩:=h3.putT (L:=(S.T++B).map fun x:Nat=>(x:Int)) (a:=a4) (n:=c4) (ht4.mono fun b _ e=>.inl e) (by rw[hLl];have:=HOWN4.out;simpa[jS,Function.comp_def] using this) hf4 (fun b hb=>by have:=HZN.out b hb;have:=HTM.out.size;have:=HTK.out.size;exact nT (HZN.out b hb) (Nat.le_trans HTM.out.size (Nat.le_trans HTK.out.size (Below.refl w3.heap.size w3).drew.size)));rw[hLl] at q1;have q2:aA (RM R d) w3.drew (w4.setCell ⟨R,5,none⟩ (.slice a4 (S.T.length+B.length) c4)):=(ht4.mono fun b _ e=>.inr (by rw[←e];simp[rws])).trans (aA.setCell _ (.inl rfl));refine⟨q1,(aA.below ((Below.refl w3.heap.size w3).drew)).trans q2,fun b hb=>?_⟩;simp only[rws,List.mem_cons,List.not_mem_nil,or_false] at hb ⊢;rcases hf4 with e|e
   ·rw[e] at hb;exact .inl hb
   ·rcases hb with e1|e1|e1|e1|e1|e1
    ·exact .inl (.inl e1)
    ·exact .inl (.inr (.inl e1))
    ·exact .inl (.inr (.inr (.inl e1)))
    ·exact .inr (e b e1.symm)
    ·exact .inl (.inr (.inr (.inr (.inr (.inl e1)))))
    ·exact .inl (.inr (.inr (.inr (.inr (.inr e1))))))
  have HTW:Hid (aA (RM R d) w (w4.setCell ⟨R,5,none⟩ (.slice a4 (S.T.length+B.length) c4))∧bB w d {d with t:=a4,tn:=c4}):=lh ⟨(HTM.out.trans HTK.out).trans HX4.out.2.1,fun b hb=>(HX4.out.2.2 b hb).imp id fun e=>by have:=HTM.out.size;omega⟩;obtain⟨-,-,-,-,-,-,-,-,j8,-,-,jf⟩:=HX4.out.1.cells;have zR4:=HX4.out.1.lt;clear hLl;generalize w4.setCell ⟨R,5,none⟩ (.slice a4 (S.T.length+B.length) c4)=w5 at *;rcases HEN.out with rfl|⟨rfl,rfl⟩
  ·have HF:Hid (aX w5 Z R p pa pc (cQ a b S).1.mac {d with t:=a4,tn:=c4} wk2):=lh (by
    have e:(cQ a b S).1.mac = {S.mac with H:=K,T:=(S.T++B).map fun x:Nat=>(x:Int)}:=by
     rw[HMAC.out,if_pos rfl];have:=H0.out;simp only[MS.mac,this];rfl
    rw[e];exact HX4.out.1)
   cases okb with
   | true =>
    go_wp2_with fail;go_ret;exact⟨by rw[HRES.out];rfl,HTW.out.1,_,wk2,HTW.out.2,HF.out,HWK.out⟩
   | false =>
    go_wp2_with fail;go_ret;exact⟨by rw[HRES.out];rfl,HTW.out.1,_,wk2,HTW.out.2,HF.out,HWK.out⟩
  ·have HF:Hid (aX (w5.setCell ⟨R,8,none⟩ (.int .i64 3)) Z R p pa pc (cQ a b S).1.mac {d with t:=a4,tn:=c4} wk2∧aA (RM R {d with t:=a4,tn:=c4}) w5 (w5.setCell ⟨R,8,none⟩ (.int .i64 3))):=lh (by
    have e:(cQ a b S).1.mac = {S.mac with H:=K,T:=(S.T++B).map fun x:Nat=>(x:Int),fin:=3}:=by
     rw[HMAC.out,if_neg (by decide)]
    rw[e];exact HX4.out.1.putFin 3)
   go_wp2_with fail;go_ret;exact⟨by rw[HRES.out];rfl,fF HTW.out.1 HTW.out.2 HF.out.2,_,wk2,HTW.out.2,HF.out.1,HWK.out⟩
def pg(S:MS)(V:CV)(l:List Tm)(cut nx i:Nat):List Gn×Nat:=eR cut ((aS S.H V l).2.reverse.take i) (S.G,nx)
theorem aP0(S:MS)(V:CV)(l:List Tm)(cut nx:Nat){i:Nat}(h:i<(aS S.H V l).2.length) :
 pg S V l cut nx (i+1)=((pg S V l cut nx i).1++[⟨(aS S.H V l).2.getD ((aS S.H V l).2.length-1-i) 0,cut,(pg S V l cut nx i).2⟩],(pg S V l cut nx i).1.length+1):=by
 have hr:i<(aS S.H V l).2.reverse.length:=by rw[List.length_reverse];exact h
 unfold pg;rw[List.take_succ_eq_append_getElem hr,qN];simp only[eR,List.getElem_reverse];rw[List.getD_eq_getElem?_getD,List.getElem?_eq_getElem (by omega)];rfl
theorem bB3(S:MS)(V:CV)(l:List Tm)(cut nx:Nat):∀i,i≤(aS S.H V l).2.length→(pg S V l cut nx i).1.length=S.G.length+i:=by
 intro i
 induction i with
 | zero=>intro _;rfl
 | succ i ih=>intro h;rw[aP0 S V l cut nx (by omega)];have:=ih (by omega);simp only[List.length_append,List.length_singleton];omega
theorem bM7(S:MS)(V:CV)(l:List Tm)(cut nx:Nat):pg S V l cut nx (aS S.H V l).2.length=eR cut (aS S.H V l).2.reverse (S.G,nx):=by
 unfold pg;rw[List.take_of_length_le (by rw[List.length_reverse];exact nR _)]
theorem mE{w:World}{base:Nat}{e:TypeId}{size:Nat}{v:Value}{n:Nat}{xs:List Value}(h:w.ownsRow base e size v n xs){g:Nat}(hg:v.ownBlock=some g){o:Obj}(ho:w.heap[g]? = some o):o.isCells=true:=by
 rcases h.2 with ⟨h1,h2⟩|⟨g',cap,cur,rfl,h3,h4,r⟩
 ·rw[h1] at hg;simp[Value.ownBlock] at hg
 ·have e:g'=g:=by simpa[Value.ownBlock] using hg
  subst e;rw[h4] at ho;cases ho;rfl
structure PJ(w0 W:World)(R:Nat)(pa:Option Addr)(np pc:Nat)(m:Mac)(d:MAd)(wk:Nat)(L:List Gl)(f:Int)(a:Option Addr)(n:Nat):Prop where
 blk:W.heap[R]? = some (.cells (kT pa np pc {m with G:=L,first:=f} {d with g:=a,gn:=n} wk).toArray 59 (0,0))
 g:W.ownsRow 0 65 3 (.slice a L.length n) L.length (cE L)
 fr:bk a=bk d.g∨∀b,bk a=some b→w0.heap.size≤b
 t:aA (fun b=>b=R∨bk d.g=some b∨w0.heap.size≤b) w0 W
section
variable {w0 W W':World} {R:Nat} {pa:Option Addr} {np pc:Nat} {m:Mac} {d:MAd} {wk:Nat} {L:List Gl} {f:Int} {a:Option Addr} {n:Nat}
theorem PJ.step(hR:R<w0.heap.size)(h:PJ w0 W R pa np pc m d wk L f a n){row:Option Nat}(hg:W.grownBy W' row)(hr:∀r,row=some r→w0.heap.size≤r∧∃o:Obj,W.heap[r]? = some o∧o.isCells=false):PJ w0 W' R pa np pc m d wk L f a n:=by
 have ht:aA (fun k=>row=some k) W W':=aA.grown hg fun k e=>e
 have hs:=h.t.size;refine⟨?_,aC h.g fun g hg'=>ht.block g (h.g.lt g hg').2 fun e=>?_,h.fr,h.t.trans (ht.mono fun b _ e=>.inr (.inr (hr b e).1))⟩
 ·rw[ht.block R (by omega) fun e=>by have:=(hr R e).1;omega];exact h.blk
 ·obtain⟨-,o,ho,hc⟩:=hr g e
  rw[mE h.g hg' ho] at hc;cases hc
theorem PJ.own{β:Type}(hR:R<w0.heap.size)(q:β→Prop)(L:β→List Gl)(f:β→Int):OwnFrom w0.heap.size (fun (i:β) W=>q i∧∃a n,PJ w0 W R pa np pc m d wk (L i) (f i) a n):=by
 rintro i W W' row ⟨hq,a,n,h⟩ hg hr;exact⟨hq,a,n,h.step hR hg hr⟩
theorem PJ.bkR(hR:R<w0.heap.size)(hg:bk d.g≠some R)(h:PJ w0 W R pa np pc m d wk L f a n):bk a≠some R:=fun e=>by
 rcases h.fr with k|k
 ·exact hg (k.symm.trans e)
 ·have:=k R e;omega
theorem PJ.cells(h:PJ w0 W R pa np pc m d wk L f a n) :
 W.cell? ⟨R,1,none⟩=some (.slice d.h m.H.length d.hn)∧W.cell? ⟨R,2,none⟩=some (.slice a L.length n)∧W.cell? ⟨R,3,none⟩=some (.int .i64 f)∧∀o,W.frozen? ⟨R,o,none⟩=false:=by
 have h':=h.blk;refine⟨?_,?_,?_,fun o=>by simp[World.frozen?,h']⟩
 all_goals simp[World.cell?,h',kT]
theorem PJ.lt(h:PJ w0 W R pa np pc m d wk L f a n):R<W.heap.size:=(gS h.blk).1
theorem PJ.below(h:PJ w0 W R pa np pc m d wk L f a n)(hb:Below W.heap.size W W'):PJ w0 W' R pa np pc m d wk L f a n :=
 ⟨(hb.block R h.lt).trans h.blk,aC h.g fun g hg=>hb.block g (h.g.lt g hg).2,h.fr,h.t.trans ((aA.below hb:aA (fun _=>False) W W').mono fun _ _ e=>e.elim)⟩
theorem PJ.first(hR:R<w0.heap.size)(hg:bk d.g≠some R)(h:PJ w0 W R pa np pc m d wk L f a n)(v:Int):PJ w0 (W.setCell ⟨R,3,none⟩ (.int .i64 v)) R pa np pc m d wk L v a n:=by
 refine⟨?_,aC h.g fun g hg'=>Below.heap_setCell _ _ _ _ fun e=>?_,h.fr,h.t.trans (aA.setCell _ (.inl rfl))⟩
 ·rw[aB W R 3 _ h.blk];rfl
 ·exact h.bkR hR hg ((aE _ _ _).symm.trans (by rw[←(show g=R from e)];exact hg'))
theorem PJ.next(hR:R<w0.heap.size)(hg:bk d.g≠some R)(h:PJ w0 W R pa np pc m d wk L f a n){X w7:World}(hX:Below W.heap.size W X){x:Gl}{a7:Option Addr}{n7:Nat}(ho:w7.ownsRow 0 65 3 (.slice a7 (L.length+1) n7) (L.length+1) (cE L++cE [x]))
 (hgr:X.grownBy w7 (Value.slice a L.length n).ownBlock) (hf:cF X (.slice a L.length n) (.slice a7 (L.length+1) n7)) :
 PJ w0 (w7.setCell ⟨R,2,none⟩ (.slice a7 (L.length+1) n7)) R pa np pc m d wk (L++[x]) f a7 n7∧aA (fun b=>b=R∨bk a=some b) W (w7.setCell ⟨R,2,none⟩ (.slice a7 (L.length+1) n7)):=by
 have haR:=h.bkR hR hg;have hs:=h.t.size;have hsX:=hX.size;have ht:aA (fun b=>bk a=some b) X w7:=aA.grown hgr fun k e=>(aE a L.length n).symm.trans e
 have hb7:w7.heap[R]? = W.heap[R]?:=(ht.block R (nT h.lt hsX) haR).trans (hX.block R h.lt);have hfr:bk a7=bk a∨∀b,bk a7=some b→X.heap.size≤b:=hf.elim (fun e=>.inl ((aE _ _ _).symm.trans (e.trans (aE _ _ _)))) fun e=>.inr fun b hb=>e b ((aE _ _ _).trans hb)
 have hl:(L++[x]).length=L.length+1:=by simp
 have hT:aA (fun b=>b=R∨bk a=some b) W (w7.setCell ⟨R,2,none⟩ (.slice a7 (L.length+1) n7)):=(aA.below hX).trans ((ht.mono fun b _ e=>.inr e).trans (aA.setCell _ (.inl rfl)));refine⟨⟨?_,?_,?_,h.t.trans (hT.mono fun b _ e=>?_)⟩,hT⟩
 ·rw[aB w7 R 2 _ (hb7.trans h.blk)]
  simp[kT]
 ·rw[hl,zO]
  refine aC ho fun g hg'=>Below.heap_setCell _ _ _ _ fun e=>?_
  subst e;have hk:=(aE _ _ _).symm.trans hg';rcases hfr with k|k
  ·exact haR (k.symm.trans hk)
  ·have:=k g hk;have:=h.lt;omega
 ·rcases hfr with k|k
  ·rw[k];exact h.fr
  ·exact .inr fun b hb=>by have:=k b hb;omega
 ·rcases e with e|e
  ·exact .inl e
  ·rcases h.fr with k|k
   ·exact .inr (.inl (k.symm.trans e))
   ·exact .inr (.inr (k b e))
theorem PJ.done{Z:Nat→Prop}{p:List Cl}(h0:aX w0 Z R p pa pc m d wk)(hzn:∀b,Z b→b<w0.heap.size)(h:PJ w0 W R pa p.length pc m d wk L f a n):aX W Z R p pa pc {m with G:=L,first:=f} {d with g:=a,gn:=n} wk:=by
 have hR:=h0.lt;have hg:bk d.g≠some R:=h0.ne _ (by simp[rws]);have haR:=h.bkR hR hg;obtain⟨W1,hW1⟩:∃W1,W1=W.putObj R (.cells (kT pa p.length pc m d wk).toArray 59 (0,0)):=⟨_,rfl⟩
 have hb1:W1.heap[R]? = some (.cells (kT pa p.length pc m d wk).toArray 59 (0,0)):=by rw[hW1];exact World.putObj_heap_same h.lt
 have ho1:∀b,b≠R→W1.heap[b]? = W.heap[b]?:=fun b hb=>by rw[hW1];exact World.putObj_heap_other hb
 have hs1:W1.heap.size=W.heap.size:=by rw[hW1];simp[World.putObj]
 have ht1:aA (fun b=>bk d.g=some b∨Z b) w0 W1:=by
  refine⟨by rw[hW1];exact h.t.os,by rw[hW1];exact h.t.tape,by rw[hW1];exact h.t.output,by rw[hs1];exact h.t.size,fun b hb hn=>?_⟩;by_cases e:b=R
  ·subst e;rw[hb1,h0.blk]
  ·rw[ho1 b e]
   exact h.t.block b hb fun k=>by
    rcases k with k|k|k
    ·exact e k
    ·exact hn (.inl k)
    ·omega
 have hx1:W1.ownsRow 0 65 3 (.slice a L.length n) L.length (cE L):=aC h.g fun g hg'=>ho1 g fun e=>haR ((aE _ _ _).symm.trans (by rw[←e];exact hg'))
 have h2:=((h0.putG ht1 hx1 h.fr hzn).1.putFirst f).1;refine h2.keep (M:=fun _=>False) ⟨by rw[hW1];rfl,by rw[hW1];rfl,by rw[hW1];rfl,by simp[World.setCell,hs1],fun b _ _=>?_⟩ fun _ _ e=>e.elim
 by_cases e:b=R
 ·subst e
  rw[h.blk,aB _ b 3 _ (aB W1 b 2 _ hb1)];simp[kT]
 ·rw[Below.heap_setCell _ _ _ _ e,Below.heap_setCell _ _ _ _ e,ho1 b e]
theorem PJ.start{Z:Nat→Prop}{p:List Cl}(h:aX w0 Z R p pa pc m d wk):PJ w0 w0 R pa p.length pc m d wk m.G m.first d.g d.gn :=
 ⟨h.blk,h.rows.g,.inl rfl,aA.refl _ _⟩
end
theorem aL8(W:World)(x y z:Value)(T:TypeId):∀j u,[x,y,z][j]? = some u→((W.alloc (.cells #[x,y,z] T)).drew).cell? ((⟨W.heap.size,0,none⟩:Addr).add j)=some u:=by
 intro j u h;have hb:((W.alloc (.cells #[x,y,z] T)).drew).heap[W.heap.size]? = some (.cells #[x,y,z] T (0,0)):=heap_alloc_new W _
 match j,h with
 | 0,h=>cases h;rw[show (⟨W.heap.size,0,none⟩:Addr).add 0=⟨W.heap.size,0,none⟩ by simp[Addr.add]];simp only[World.cell?,hb];rfl
 | 1,h=>cases h;rw[show (⟨W.heap.size,0,none⟩:Addr).add 1=⟨W.heap.size,1,none⟩ by simp[Addr.add]];simp only[World.cell?,hb];rfl
 | 2,h=>cases h;rw[show (⟨W.heap.size,0,none⟩:Addr).add 2=⟨W.heap.size,2,none⟩ by simp[Addr.add]];simp only[World.cell?,hb];rfl
 | j+3,h=>simp at h
theorem bB4(l:List Nat)(k:Nat):(l.map (fun x:Nat=>(x:Int))).getD k 0=((l.getD k 0:Nat):Int):=by
 simp only[List.getD_eq_getElem?_getD,List.getElem?_map];cases l[k]? <;> rfl
theorem bG3(S:MS)(V:CV)(l:List Tm)(cut nx:Nat){i:Nat}(h:i<(aS S.H V l).2.length){A:List Int}(hA:A=(aS S.H V l).2.map (fun x:Nat=>(x:Int))) :
 (pg S V l cut nx (i+1)).1.map Gn.gl=(pg S V l cut nx i).1.map Gn.gl++[⟨A.getD (A.length-1-i) 0,(cut:Int),((pg S V l cut nx i).2:Int)⟩]∧((pg S V l cut nx (i+1)).2:Int)=((((pg S V l cut nx i).1.map Gn.gl).length:Nat):Int)+1:=by
 rw[aP0 S V l cut nx h,hA,bB4];simp[Gn.gl]
theorem aS7(l:List Tm)(V:CV)(cut nx:Nat)(S:MS){L:List Gl}{f:Int}(hL:L=(eR cut (aS S.H V l).2.reverse (S.G,nx)).1.map Gn.gl)(hf:f=((eR cut (aS S.H V l).2.reverse (S.G,nx)).2:Int))(h1:(aS S.H V l).1.1.length≤400000)(h2:L.length≤5000) :
 (lB l V cut nx S).mac = {S.mac with H:=(aS S.H V l).1.1,G:=L,first:=f}:=by
 have h3:(eR cut (aS S.H V l).2.reverse (S.G,nx)).1.length≤5000:=by rw[hL,List.length_map] at h2;exact h2
 simp only[lB,MS.mac];rw[if_neg (by omega),hL,hf]
theorem tB{B:Nat}{W V:World}{M:Nat→Prop}(h:aA M W V)(hM:∀b o,M b→W.heap[b]? = some o→o.isCells=true):KeepsFrom B W V :=
 ⟨h.size,fun k o _ ho hc=>(h.block k (gS ho).1 fun e=>by rw[hM k o e ho] at hc;cases hc).trans ho⟩
theorem bP7(a0 a1 a2 a3 a4 a5 a6 a7 a8 v0 v1 v2 v3 v4 v5 v6 v7 v8:Value):((((((((((#[a0,a1,a2,a3,a4,a5,a6,a7,a8]:Array Value).setIfInBounds 0 v0).setIfInBounds 1 v1).setIfInBounds 2 v2).setIfInBounds 3 v3).setIfInBounds 4 v4).setIfInBounds 5 v5).setIfInBounds 6 v6).setIfInBounds 7 v7).setIfInBounds 8 v8) = #[v0,v1,v2,v3,v4,v5,v6,v7,v8]:=by
 simp
theorem aT5{wx:World}{b:Nat}{m:Mac}{d:MAd}{a0 a1 a2 a3 a4 a5 a6 a7 a8:Value}(hz:wx.heap[b]? = some (.cells #[a0,a1,a2,a3,a4,a5,a6,a7,a8] 30 (0,0))) :
 cL (((((((((wx.setCell ⟨b,0,none⟩ (.slice d.h m.H.length d.hn)).setCell ⟨b,1,none⟩ (.slice d.g m.G.length d.gn)).setCell ⟨b,2,none⟩ (.int .i64 m.first)).setCell ⟨b,3,none⟩ (.slice d.c m.ch.length d.cn)).setCell ⟨b,4,none⟩ (.slice d.t m.T.length d.tn)).setCell ⟨b,5,none⟩ (.slice d.q m.Q.length d.qn)).setCell ⟨b,6,none⟩ (.int .i64 m.steps)).setCell ⟨b,7,none⟩ (.int .i64 m.fin)).setCell ⟨b,8,none⟩ (.slice d.a m.ans.length d.an)) b m d
 ∧ aA (fun x=>x=b) wx (((((((((wx.setCell ⟨b,0,none⟩ (.slice d.h m.H.length d.hn)).setCell ⟨b,1,none⟩ (.slice d.g m.G.length d.gn)).setCell ⟨b,2,none⟩ (.int .i64 m.first)).setCell ⟨b,3,none⟩ (.slice d.c m.ch.length d.cn)).setCell ⟨b,4,none⟩ (.slice d.t m.T.length d.tn)).setCell ⟨b,5,none⟩ (.slice d.q m.Q.length d.qn)).setCell ⟨b,6,none⟩ (.int .i64 m.steps)).setCell ⟨b,7,none⟩ (.int .i64 m.fin)).setCell ⟨b,8,none⟩ (.slice d.a m.ans.length d.an)):=by
 have k0:=aB wx b 0 (.slice d.h m.H.length d.hn) hz;have k1:=aB _ b 1 (.slice d.g m.G.length d.gn) k0;have k2:=aB _ b 2 (.int .i64 m.first) k1;have k3:=aB _ b 3 (.slice d.c m.ch.length d.cn) k2;have k4:=aB _ b 4 (.slice d.t m.T.length d.tn) k3;have k5:=aB _ b 5 (.slice d.q m.Q.length d.qn) k4;have k6:=aB _ b 6 (.int .i64 m.steps) k5;have k7:=aB _ b 7 (.int .i64 m.fin) k6;have k8:=aB _ b 8 (.slice d.a m.ans.length d.an) k7;refine⟨⟨k8.trans ?_⟩,?_⟩
 ·rw[bP7];rfl
 ·exact((((((((aA.setCell (M:=fun x=>x=b) (w:=wx) (p:=⟨b,0,none⟩) (.slice d.h m.H.length d.hn) rfl).trans (aA.setCell (p:=⟨b,1,none⟩) (.slice d.g m.G.length d.gn) rfl)).trans (aA.setCell (p:=⟨b,2,none⟩) (.int .i64 m.first) rfl)).trans (aA.setCell (p:=⟨b,3,none⟩) (.slice d.c m.ch.length d.cn) rfl)).trans (aA.setCell (p:=⟨b,4,none⟩) (.slice d.t m.T.length d.tn) rfl)).trans (aA.setCell (p:=⟨b,5,none⟩) (.slice d.q m.Q.length d.qn) rfl)).trans (aA.setCell (p:=⟨b,6,none⟩) (.int .i64 m.steps) rfl)).trans (aA.setCell (p:=⟨b,7,none⟩) (.int .i64 m.fin) rfl)).trans (aA.setCell (p:=⟨b,8,none⟩) (.slice d.a m.ans.length d.an) rfl)
theorem bC9(m:Mac)(d:MAd){w:World}{ok:Nat→Prop}(h:bO w ok m d)(hb:gV m) :
 Calls Try.prog 29 #[.agg #[.slice d.h m.H.length d.hn,.slice d.g m.G.length d.gn,.int .i64 m.first,.slice d.c m.ch.length d.cn,.slice d.t m.T.length d.tn,.slice d.q m.Q.length d.qn,.int .i64 m.steps,.int .i64 m.fin,.slice d.a m.ans.length d.an]] w (zZ w ok m):=by
 have HM:Hid (bO w (fun b=>ok b∧b<w.heap.size) m d):=lh (h.mono fun b hb ho=>⟨ho,hb⟩);have HBIG:=lh hb;clear h hb;obtain⟨dh,dg,dc,dt,dq,da,dhn,dgn,dcn,dtn,dqn,dan⟩:=d;simp only;obtain⟨vT,HVT⟩:∃v,Hid (v=m.T.map fun x=>Value.int .i64 x):=⟨_,lh rfl⟩
 obtain⟨vQ,HVQ⟩:∃v,Hid (v=m.Q.map fun x=>Value.int .i64 x):=⟨_,lh rfl⟩
 have HMT:Hid (cZ w (fun b=>ok b∧b<w.heap.size) 1 m.T.length vT dt dtn):=lh (by rw[HVT.out];exact HM.out.t.rw');have HMQ:Hid (cZ w (fun b=>ok b∧b<w.heap.size) 1 m.Q.length vQ dq dqn):=lh (by rw[HVQ.out];exact HM.out.q.rw');have HI0:Hid (CpI w (((w.alloc (.cells (m.vals ⟨dh,dg,dc,dt,dq,da,dhn,dgn,dcn,dtn,dqn,dan⟩).toArray 30)).alloc (.cells #[.slice none 0 0,.slice none 0 0,.int .i64 0,.slice none 0 0,.slice none 0 0,.slice none 0 0,.int .i64 0,.int .i64 0,.slice none 0 0] 30)).alloc (.cells (m.vals ⟨dh,dg,dc,dt,dq,da,dhn,dgn,dcn,dtn,dqn,dan⟩).toArray 30)) m m ⟨dh,dg,dc,dt,dq,da,dhn,dgn,dcn,dtn,dqn,dan⟩ ⟨dh,dg,dc,dt,dq,da,dhn,dgn,dcn,dtn,dqn,dan⟩ []):=lh (by
  have h2:((w.alloc (.cells (m.vals ⟨dh,dg,dc,dt,dq,da,dhn,dgn,dcn,dtn,dqn,dan⟩).toArray 30)).alloc (.cells #[.slice none 0 0,.slice none 0 0,.int .i64 0,.slice none 0 0,.slice none 0 0,.slice none 0 0,.int .i64 0,.int .i64 0,.slice none 0 0] 30)).heap.size=w.heap.size+1+1:=by simp
  have hz:cL (((w.alloc (.cells (m.vals ⟨dh,dg,dc,dt,dq,da,dhn,dgn,dcn,dtn,dqn,dan⟩).toArray 30)).alloc (.cells #[.slice none 0 0,.slice none 0 0,.int .i64 0,.slice none 0 0,.slice none 0 0,.slice none 0 0,.int .i64 0,.int .i64 0,.slice none 0 0] 30)).alloc (.cells (m.vals ⟨dh,dg,dc,dt,dq,da,dhn,dgn,dcn,dtn,dqn,dan⟩).toArray 30)) (w.heap.size+1+1) m ⟨dh,dg,dc,dt,dq,da,dhn,dgn,dcn,dtn,dqn,dan⟩:=by
   have h1:=cL.made ((w.alloc (.cells (m.vals ⟨dh,dg,dc,dt,dq,da,dhn,dgn,dcn,dtn,dqn,dan⟩).toArray 30)).alloc (.cells #[.slice none 0 0,.slice none 0 0,.int .i64 0,.slice none 0 0,.slice none 0 0,.slice none 0 0,.int .i64 0,.int .i64 0,.slice none 0 0] 30)) m ⟨dh,dg,dc,dt,dq,da,dhn,dgn,dcn,dtn,dqn,dan⟩;rw[h2] at h1;exact h1
  have hz1:(((w.alloc (.cells (m.vals ⟨dh,dg,dc,dt,dq,da,dhn,dgn,dcn,dtn,dqn,dan⟩).toArray 30)).alloc (.cells #[.slice none 0 0,.slice none 0 0,.int .i64 0,.slice none 0 0,.slice none 0 0,.slice none 0 0,.int .i64 0,.int .i64 0,.slice none 0 0] 30)).alloc (.cells (m.vals ⟨dh,dg,dc,dt,dq,da,dhn,dgn,dcn,dtn,dqn,dan⟩).toArray 30)).heap[w.heap.size+1]? = some (.cells #[.slice none 0 0,.slice none 0 0,.int .i64 0,.slice none 0 0,.slice none 0 0,.slice none 0 0,.int .i64 0,.int .i64 0,.slice none 0 0] 30 (0,0)):=by
   have h1:=heap_alloc_new (w.alloc (.cells (m.vals ⟨dh,dg,dc,dt,dq,da,dhn,dgn,dcn,dtn,dqn,dan⟩).toArray 30)) (.cells #[.slice none 0 0,.slice none 0 0,.int .i64 0,.slice none 0 0,.slice none 0 0,.slice none 0 0,.int .i64 0,.int .i64 0,.slice none 0 0] 30);have h3:(w.alloc (.cells (m.vals ⟨dh,dg,dc,dt,dq,da,dhn,dgn,dcn,dtn,dqn,dan⟩).toArray 30)).heap.size=w.heap.size+1:=by simp
   rw[h3] at h1;refine(((bR _ _).alloc (nR _) _).block _ ?_).trans h1;simp
  have hs:cL (((w.alloc (.cells (m.vals ⟨dh,dg,dc,dt,dq,da,dhn,dgn,dcn,dtn,dqn,dan⟩).toArray 30)).alloc (.cells #[.slice none 0 0,.slice none 0 0,.int .i64 0,.slice none 0 0,.slice none 0 0,.slice none 0 0,.int .i64 0,.int .i64 0,.slice none 0 0] 30)).alloc (.cells (m.vals ⟨dh,dg,dc,dt,dq,da,dhn,dgn,dcn,dtn,dqn,dan⟩).toArray 30)) w.heap.size m ⟨dh,dg,dc,dt,dq,da,dhn,dgn,dcn,dtn,dqn,dan⟩:=(cL.made w m _).below (((bR _ _).alloc (nR _) _).alloc (by simp) _);have hbb:Below w.heap.size w (((w.alloc (.cells (m.vals ⟨dh,dg,dc,dt,dq,da,dhn,dgn,dcn,dtn,dqn,dan⟩).toArray 30)).alloc (.cells #[.slice none 0 0,.slice none 0 0,.int .i64 0,.slice none 0 0,.slice none 0 0,.slice none 0 0,.int .i64 0,.int .i64 0,.slice none 0 0] 30)).alloc (.cells (m.vals ⟨dh,dg,dc,dt,dq,da,dhn,dgn,dcn,dtn,dqn,dan⟩).toArray 30)):=(((bR _ _).alloc (nR _) _).alloc (by simp) _).alloc (by simp;omega) _;exact⟨hs,hz,hz1,(fun r hr=>nomatch hr),List.Pairwise.nil,hbb⟩)
 simp only[Mac.vals] at HI0;go_enter Try.func29,Try.ntmps29;go_upto_region 2 with fail;generalize (((w.alloc (.cells #[.slice dh m.H.length dhn,.slice dg m.G.length dgn,.int .i64 m.first,.slice dc m.ch.length dcn,.slice dt m.T.length dtn,.slice dq m.Q.length dqn,.int .i64 m.steps,.int .i64 m.fin,.slice da m.ans.length dan] 30)).alloc (.cells #[.slice none 0 0,.slice none 0 0,.int .i64 0,.slice none 0 0,.slice none 0 0,.slice none 0 0,.int .i64 0,.int .i64 0,.slice none 0 0] 30)).alloc (.cells #[.slice dh m.H.length dhn,.slice dg m.G.length dgn,.int .i64 m.first,.slice dc m.ch.length dcn,.slice dt m.T.length dtn,.slice dq m.Q.length dqn,.int .i64 m.steps,.int .i64 m.fin,.slice da m.ans.length dan] 30))=u0 at *;obtain⟨i0,zc,hi0,hz0,hz1,hz2,hz3⟩:=uK;have HO:Hid ((u0.alloc (.cells #[] 69)).ownsRow u0.heap.size 69 3 (.slice (some ⟨u0.heap.size,0,none⟩) 0 0) 0 []):=lh (World.ownsRow_lit (base:=u0.heap.size) (e:=69) (size:=3) u0 #[] 0 (nR _) (Nat.zero_le _) rfl);have HB0:Hid (Below u0.heap.size u0 (u0.alloc (.cells #[] 69))):=lh ((bR _ _).alloc (nR _) _);have HP:Hid (cZ (u0.alloc (.cells #[] 69)) (fun b=>ok b∧b<w.heap.size) 3 m.H.length (bS m.H) dh dhn):=lh ((HM.out.h.rw').below (HI0.out.below.alloc HI0.out.below.size (.cells #[] 69)));obtain⟨p0,p1,p2,p3,p4,p5,p6,p7,p8,pf⟩:=(HI0.out.src.below HB0.out).all
 try simp only at p0 p1 p3 p4 p5
 go_wp2_with (at_builtin;have _g:=HO;refine aJ _ rfl _ _ 24 rfl u0.heap.size 69 i0 zc 3 32 Try.underlying24 hi0 hz0 hz1 hz2 hz3 (by decide) _ _ _ rfl HO.out dh (m.H.length) dhn ?d00 ((bS m.H)) rfl ?d50 ?d10 ?d60 ?d20 ?d30 ?d40 ?_)
 case d00=>intro e;have h1:=HP.out.cap.1;have h2:=HP.out.cap.2.2 e;exact List.eq_nil_of_length_eq_zero (by omega)
 case d50=>have:=HP.out.len;omega
 case d10=>intro ad had;subst had;exact HP.out.news
 case d60=>exact xG _
 case d20=>have:=HBIG.out.h;unfold maxLen;omega
 case d30=>have:=HBIG.out.h;omega
 intro v w1 hown hgrow hfr;obtain⟨a1,c1,rfl⟩:=bL hown;have HB1:Hid (Below u0.heap.size u0 w1):=lh (HB0.out.grown hgrow HB0.out.size (fun j e=>(HO.out.lt j e).1));have HI1:Hid (CpI w (w1.setCell ⟨w.heap.size+1+1,0,none⟩ (.slice a1 m.H.length c1)) m m ⟨dh,dg,dc,dt,dq,da,dhn,dgn,dcn,dtn,dqn,dan⟩ ⟨a1,dg,dc,dt,dq,da,c1,dgn,dcn,dtn,dqn,dan⟩ [⟨69,3,a1,m.H.length,c1,(bS m.H)⟩]):=lh (HI0.out.step hown HB1.out 0 rfl);obtain⟨q0,q1,q2,q3,q4,q5,q6,q7,q8,qf⟩:=(HI0.out.box.below HB1.out).all
 try simp only at q0 q1 q3 q4 q5 q8
 clear hown hgrow hfr p0 p1 p2 p3 p4 p5 p6 p7 p8 pf;go_upto_region 3 with fail;clear q0 q1 q2 q3 q4 q5 q6 q7 q8 qf HO HB0 HP HB1 HI0 hi0 hz0 hz1 hz2 hz3;generalize w1.setCell ⟨w.heap.size+1+1,0,none⟩ (.slice a1 m.H.length c1)=u1 at *;obtain⟨i0,zc,hi0,hz0,hz1,hz2,hz3⟩:=pB;have HO:Hid ((u1.alloc (.cells #[] 65)).ownsRow u1.heap.size 65 3 (.slice (some ⟨u1.heap.size,0,none⟩) 0 0) 0 []):=lh (World.ownsRow_lit (base:=u1.heap.size) (e:=65) (size:=3) u1 #[] 0 (nR _) (Nat.zero_le _) rfl);have HB0:Hid (Below u1.heap.size u1 (u1.alloc (.cells #[] 65))):=lh ((bR _ _).alloc (nR _) _);have HP:Hid (cZ (u1.alloc (.cells #[] 65)) (fun b=>ok b∧b<w.heap.size) 3 m.G.length (cE m.G) dg dgn):=lh ((HM.out.g).below (HI1.out.below.alloc HI1.out.below.size (.cells #[] 65)));obtain⟨p0,p1,p2,p3,p4,p5,p6,p7,p8,pf⟩:=(HI1.out.src.below HB0.out).all
 try simp only at p0 p1 p3 p4 p5
 go_wp2_with (at_builtin;have _g:=HO;refine aJ _ rfl _ _ 25 rfl u1.heap.size 65 i0 zc 3 24 Try.underlying25 hi0 hz0 hz1 hz2 hz3 (by decide) _ _ _ rfl HO.out dg (m.G.length) dgn ?d01 ((cE m.G)) rfl ?d51 ?d11 ?d61 ?d21 ?d31 ?d41 ?_)
 case d01=>intro e;have h1:=HP.out.cap.1;have h2:=HP.out.cap.2.2 e;exact List.eq_nil_of_length_eq_zero (by omega)
 case d51=>have:=HP.out.len;omega
 case d11=>intro ad had;subst had;exact HP.out.news
 case d61=>exact xO _
 case d21=>have:=HBIG.out.g;unfold maxLen;omega
 case d31=>have:=HBIG.out.g;omega
 intro v w1 hown hgrow hfr;obtain⟨a2,c2,rfl⟩:=bL hown;have HB1:Hid (Below u1.heap.size u1 w1):=lh (HB0.out.grown hgrow HB0.out.size (fun j e=>(HO.out.lt j e).1));have HI2:Hid (CpI w (w1.setCell ⟨w.heap.size+1+1,1,none⟩ (.slice a2 m.G.length c2)) m m ⟨dh,dg,dc,dt,dq,da,dhn,dgn,dcn,dtn,dqn,dan⟩ ⟨a1,a2,dc,dt,dq,da,c1,c2,dcn,dtn,dqn,dan⟩ [⟨69,3,a1,m.H.length,c1,(bS m.H)⟩,⟨65,3,a2,m.G.length,c2,(cE m.G)⟩]):=lh (HI1.out.step hown HB1.out 1 rfl);obtain⟨q0,q1,q2,q3,q4,q5,q6,q7,q8,qf⟩:=(HI1.out.box.below HB1.out).all
 try simp only at q0 q1 q3 q4 q5 q8
 clear hown hgrow hfr p0 p1 p2 p3 p4 p5 p6 p7 p8 pf;go_upto_region 4 with fail;clear q0 q1 q2 q3 q4 q5 q6 q7 q8 qf HO HB0 HP HB1 HI1 hi0 hz0 hz1 hz2 hz3;generalize w1.setCell ⟨w.heap.size+1+1,1,none⟩ (.slice a2 m.G.length c2)=u2 at *;obtain⟨i0,zc,hi0,hz0,hz1,hz2,hz3⟩:=pC;have HO:Hid ((u2.alloc (.cells #[] 67)).ownsRow u2.heap.size 67 5 (.slice (some ⟨u2.heap.size,0,none⟩) 0 0) 0 []):=lh (World.ownsRow_lit (base:=u2.heap.size) (e:=67) (size:=5) u2 #[] 0 (nR _) (Nat.zero_le _) rfl);have HB0:Hid (Below u2.heap.size u2 (u2.alloc (.cells #[] 67))):=lh ((bR _ _).alloc (nR _) _);have HP:Hid (cZ (u2.alloc (.cells #[] 67)) (fun b=>ok b∧b<w.heap.size) 5 m.ch.length (cW m.ch) dc dcn):=lh ((HM.out.c).below (HI2.out.below.alloc HI2.out.below.size (.cells #[] 67)));obtain⟨p0,p1,p2,p3,p4,p5,p6,p7,p8,pf⟩:=(HI2.out.src.below HB0.out).all
 try simp only at p0 p1 p3 p4 p5
 go_wp2_with (at_builtin;have _g:=HO;refine aJ _ rfl _ _ 26 rfl u2.heap.size 67 i0 zc 5 40 Try.underlying26 hi0 hz0 hz1 hz2 hz3 (by decide) _ _ _ rfl HO.out dc (m.ch.length) dcn ?d02 ((cW m.ch)) rfl ?d52 ?d12 ?d62 ?d22 ?d32 ?d42 ?_)
 case d02=>intro e;have h1:=HP.out.cap.1;have h2:=HP.out.cap.2.2 e;exact List.eq_nil_of_length_eq_zero (by omega)
 case d52=>have:=HP.out.len;omega
 case d12=>intro ad had;subst had;exact HP.out.news
 case d62=>exact xP _
 case d22=>have:=HBIG.out.c;unfold maxLen;omega
 case d32=>have:=HBIG.out.c;omega
 intro v w1 hown hgrow hfr;obtain⟨a3,c3,rfl⟩:=bL hown;have HB1:Hid (Below u2.heap.size u2 w1):=lh (HB0.out.grown hgrow HB0.out.size (fun j e=>(HO.out.lt j e).1));have HI3:Hid (CpI w (w1.setCell ⟨w.heap.size+1+1,3,none⟩ (.slice a3 m.ch.length c3)) m m ⟨dh,dg,dc,dt,dq,da,dhn,dgn,dcn,dtn,dqn,dan⟩ ⟨a1,a2,a3,dt,dq,da,c1,c2,c3,dtn,dqn,dan⟩ [⟨69,3,a1,m.H.length,c1,(bS m.H)⟩,⟨65,3,a2,m.G.length,c2,(cE m.G)⟩,⟨67,5,a3,m.ch.length,c3,(cW m.ch)⟩]):=lh (HI2.out.step hown HB1.out 3 rfl);obtain⟨q0,q1,q2,q3,q4,q5,q6,q7,q8,qf⟩:=(HI2.out.box.below HB1.out).all
 try simp only at q0 q1 q3 q4 q5 q8
 clear hown hgrow hfr p0 p1 p2 p3 p4 p5 p6 p7 p8 pf;go_upto_region 5 with fail;clear q0 q1 q2 q3 q4 q5 q6 q7 q8 qf HO HB0 HP HB1 HI2 hi0 hz0 hz1 hz2 hz3;generalize w1.setCell ⟨w.heap.size+1+1,3,none⟩ (.slice a3 m.ch.length c3)=u3 at *;obtain⟨i0,zc,hi0,hz0,hz1,hz2,hz3⟩:=rM;have HO:Hid ((u3.alloc (.cells #[] 3)).ownsRow u3.heap.size 3 1 (.slice (some ⟨u3.heap.size,0,none⟩) 0 0) 0 []):=lh (World.ownsRow_lit (base:=u3.heap.size) (e:=3) (size:=1) u3 #[] 0 (nR _) (Nat.zero_le _) rfl);have HB0:Hid (Below u3.heap.size u3 (u3.alloc (.cells #[] 3))):=lh ((bR _ _).alloc (nR _) _);have HP:Hid (cZ (u3.alloc (.cells #[] 3)) (fun b=>ok b∧b<w.heap.size) 1 m.T.length vT dt dtn):=lh ((HMT.out).below (HI3.out.below.alloc HI3.out.below.size (.cells #[] 3)));obtain⟨p0,p1,p2,p3,p4,p5,p6,p7,p8,pf⟩:=(HI3.out.src.below HB0.out).all
 try simp only at p0 p1 p3 p4 p5
 go_wp2_with (at_builtin;have _g:=HO;refine aJ _ rfl _ _ 27 rfl u3.heap.size 3 i0 zc 1 8 Try.underlying27 hi0 hz0 hz1 hz2 hz3 (by decide) _ _ _ rfl HO.out dt (m.T.length) dtn ?d03 (vT) rfl ?d53 ?d13 ?d63 ?d23 ?d33 ?d43 ?_)
 case d03=>intro e;have h1:=HP.out.cap.1;have h2:=HP.out.cap.2.2 e;exact List.eq_nil_of_length_eq_zero (by omega)
 case d53=>have:=HP.out.len;omega
 case d13=>intro ad had;subst had;exact HP.out.news
 case d63=>exact(by rw[HVT.out];exact qM _)
 case d23=>have:=HBIG.out.t;unfold maxLen;omega
 case d33=>have:=HBIG.out.t;omega
 intro v w1 hown hgrow hfr;obtain⟨a4,c4,rfl⟩:=bL hown;have HB1:Hid (Below u3.heap.size u3 w1):=lh (HB0.out.grown hgrow HB0.out.size (fun j e=>(HO.out.lt j e).1));have HI4:Hid (CpI w (w1.setCell ⟨w.heap.size+1+1,4,none⟩ (.slice a4 m.T.length c4)) m m ⟨dh,dg,dc,dt,dq,da,dhn,dgn,dcn,dtn,dqn,dan⟩ ⟨a1,a2,a3,a4,dq,da,c1,c2,c3,c4,dqn,dan⟩ [⟨69,3,a1,m.H.length,c1,(bS m.H)⟩,⟨65,3,a2,m.G.length,c2,(cE m.G)⟩,⟨67,5,a3,m.ch.length,c3,(cW m.ch)⟩,⟨3,1,a4,m.T.length,c4,vT⟩]):=lh (HI3.out.step hown HB1.out 4 rfl);obtain⟨q0,q1,q2,q3,q4,q5,q6,q7,q8,qf⟩:=(HI3.out.box.below HB1.out).all
 try simp only at q0 q1 q3 q4 q5 q8
 clear hown hgrow hfr p0 p1 p2 p3 p4 p5 p6 p7 p8 pf;go_upto_region 6 with fail;clear q0 q1 q2 q3 q4 q5 q6 q7 q8 qf HO HB0 HP HB1 HI3 hi0 hz0 hz1 hz2 hz3;generalize w1.setCell ⟨w.heap.size+1+1,4,none⟩ (.slice a4 m.T.length c4)=u4 at *;obtain⟨i0,zc,hi0,hz0,hz1,hz2,hz3⟩:=rM;have HO:Hid ((u4.alloc (.cells #[] 3)).ownsRow u4.heap.size 3 1 (.slice (some ⟨u4.heap.size,0,none⟩) 0 0) 0 []):=lh (World.ownsRow_lit (base:=u4.heap.size) (e:=3) (size:=1) u4 #[] 0 (nR _) (Nat.zero_le _) rfl);have HB0:Hid (Below u4.heap.size u4 (u4.alloc (.cells #[] 3))):=lh ((bR _ _).alloc (nR _) _);have HP:Hid (cZ (u4.alloc (.cells #[] 3)) (fun b=>ok b∧b<w.heap.size) 1 m.Q.length vQ dq dqn):=lh ((HMQ.out).below (HI4.out.below.alloc HI4.out.below.size (.cells #[] 3)));obtain⟨p0,p1,p2,p3,p4,p5,p6,p7,p8,pf⟩:=(HI4.out.src.below HB0.out).all
 try simp only at p0 p1 p3 p4 p5
 go_wp2_with (at_builtin;have _g:=HO;refine aJ _ rfl _ _ 27 rfl u4.heap.size 3 i0 zc 1 8 Try.underlying27 hi0 hz0 hz1 hz2 hz3 (by decide) _ _ _ rfl HO.out dq (m.Q.length) dqn ?d04 (vQ) rfl ?d54 ?d14 ?d64 ?d24 ?d34 ?d44 ?_)
 case d04=>intro e;have h1:=HP.out.cap.1;have h2:=HP.out.cap.2.2 e;exact List.eq_nil_of_length_eq_zero (by omega)
 case d54=>have:=HP.out.len;omega
 case d14=>intro ad had;subst had;exact HP.out.news
 case d64=>exact(by rw[HVQ.out];exact qM _)
 case d24=>have:=HBIG.out.q;unfold maxLen;omega
 case d34=>have:=HBIG.out.q;omega
 intro v w1 hown hgrow hfr;obtain⟨a5,c5,rfl⟩:=bL hown;have HB1:Hid (Below u4.heap.size u4 w1):=lh (HB0.out.grown hgrow HB0.out.size (fun j e=>(HO.out.lt j e).1));have HI5:Hid (CpI w (w1.setCell ⟨w.heap.size+1+1,5,none⟩ (.slice a5 m.Q.length c5)) m m ⟨dh,dg,dc,dt,dq,da,dhn,dgn,dcn,dtn,dqn,dan⟩ ⟨a1,a2,a3,a4,a5,da,c1,c2,c3,c4,c5,dan⟩ [⟨69,3,a1,m.H.length,c1,(bS m.H)⟩,⟨65,3,a2,m.G.length,c2,(cE m.G)⟩,⟨67,5,a3,m.ch.length,c3,(cW m.ch)⟩,⟨3,1,a4,m.T.length,c4,vT⟩,⟨3,1,a5,m.Q.length,c5,vQ⟩]):=lh (HI4.out.step hown HB1.out 5 rfl);obtain⟨q0,q1,q2,q3,q4,q5,q6,q7,q8,qf⟩:=(HI4.out.box.below HB1.out).all
 try simp only at q0 q1 q3 q4 q5 q8
 clear hown hgrow hfr p0 p1 p2 p3 p4 p5 p6 p7 p8 pf;go_upto_region 7 with fail;clear q0 q1 q2 q3 q4 q5 q6 q7 q8 qf HO HB0 HP HB1 HI4 hi0 hz0 hz1 hz2 hz3;generalize w1.setCell ⟨w.heap.size+1+1,5,none⟩ (.slice a5 m.Q.length c5)=u5 at *;obtain⟨q0,q1,q2,q3,q4,q5,q6,q7,q8,qf⟩:=HI5.out.box.all;have HC:Hid (CpI w (u5.setCell ⟨w.heap.size+1+1,8,none⟩ (.slice none 0 0)) m {m with ans:=[]} ⟨dh,dg,dc,dt,dq,da,dhn,dgn,dcn,dtn,dqn,dan⟩ ⟨a1,a2,a3,a4,a5,none,c1,c2,c3,c4,c5,0⟩ [⟨69,3,a1,m.H.length,c1,(bS m.H)⟩,⟨65,3,a2,m.G.length,c2,(cE m.G)⟩,⟨67,5,a3,m.ch.length,c3,(cW m.ch)⟩,⟨3,1,a4,m.T.length,c4,vT⟩,⟨3,1,a5,m.Q.length,c5,vQ⟩]):=lh HI5.out.nil;go_upto_region 8 with fail;clear q0 q1 q2 q3 q4 q5 q6 q7 q8 qf HI5;generalize u5.setCell ⟨w.heap.size+1+1,8,none⟩ (.slice none 0 0)=wc at *;have hwc:w.heap.size+3≤wc.heap.size:=HC.out.box.lt;obtain⟨p0,p1,p2,p3,p4,p5,p6,p7,p8,pf⟩:=HC.out.src.all;have han:=HBIG.out.a;go_wp2_with fail
 go_loopw[4] (fun v4 wr=>∃(i:Nat) (A:List ((Option Addr×Nat)×List Tm)) (aa:Option Addr) (ac:Nat),i≤m.ans.length∧v4=.int .i64 i∧Hid (CpA w ok wc wr m ⟨a1,a2,a3,a4,a5,none,c1,c2,c3,c4,c5,0⟩ ((m.ans.take i).map mvA) aa ac A)) (fun v4 _=>m.ans.length-(intOf v4).toNat)
 case atStart=>exact⟨0,[],none,0,Nat.zero_le _,rfl,lh ⟨HC.out.box,World.ownsRow_nil _ _ _ _,by simp,(fun x hx=>nomatch hx),aA.refl _ _⟩⟩
 case round =>
  rename World=>wo
  obtain⟨i,A,aa,ac,hi,rfl,HA⟩:=hrel;have hAl:A.length=i:=by have:=HA.out.len;rw[List.length_map,List.length_take] at this;omega
  have HAL:=lh hAl;have HBW:Hid (Below w.heap.size w wo):=lh (HC.out.below.trans (HA.out.touch.toBelow (by omega) fun b e=>by omega));have HS:Hid (cL wo w.heap.size m ⟨dh,dg,dc,dt,dq,da,dhn,dgn,dcn,dtn,dqn,dan⟩):=lh (HC.out.src.keep (HA.out.touch.block _ HC.out.src.lt (by omega)));obtain⟨s0,s1,s2,s3,s4,s5,s6,s7,s8,sf⟩:=HS.out.all;clear hAl;by_cases hlt:i<m.ans.length
  ·obtain⟨b,off,b1,k1,hda,-,hb,hcl,hts⟩:=HM.out.a.elem i hlt
   have hda':da=some ⟨b,off,none⟩:=hda;clear hda;subst hda';have y0:=(HBW.out.cell (p:=⟨b,off+i,none⟩) hb).trans hcl;obtain⟨hbl,hba⟩:=HBIG.out.each _ (List.getElem_mem hlt);have HTS:=lh hts;have HBA:=lh hba;have HCL0:=lh hcl;have HBB:=lh hb;have HTK:Hid ((m.ans.take (i+1)).map mvA=(m.ans.take i).map mvA++[mvA m.ans[i]]):=lh (by rw[List.take_succ_eq_append_getElem hlt,List.map_append];rfl);clear hcl hts hba hb;generalize m.ans[i]=s at *;go_wp2_with fail
   go_loopw[5,6] (fun v5 v6 wr=>∃(k:Nat) (L:List dS),k≤s.length∧v6=.int .i64 k∧Hid (L.map (·.1)=(s.take k).map (far 0))∧Hid (dA wr wo.heap.size (OkN (fun b=>ok b∧b<w.heap.size) wo) v5 L)∧Hid (Below wo.heap.size wo wr)) (fun _ v6 _=>s.length-(intOf v6).toNat)
   case atStart=>exact⟨0,[],Nat.zero_le _,rfl,lh rfl,lh (dA.nil _ _ _),lh (bR _ _)⟩
   case round =>
    obtain⟨k,L,hk,rfl,HL,HOW,HBZ⟩:=hrel;obtain⟨xa,xc,rfl⟩:=HOW.out.form;have hLl:L.length=k:=by
     have:=congrArg List.length HL.out;rw[List.length_map,List.length_map,List.length_take] at this;omega
    have HLK:=lh hLl;have hwz:=HBZ.out.size;have HBQ:Hid (Below w.heap.size w wr):=lh (HBW.out.trans (HBZ.out.mono HBW.out.size));have y1:=(HBQ.out.cell (p:=⟨b,off+i,none⟩) HBB.out).trans HCL0.out;obtain⟨t0,t1,t2,t3,t4,t5,t6,t7,t8,tf⟩:=(HS.out.below HBZ.out).all;clear hLl;by_cases hlt2:k<s.length
    ·obtain⟨b2,off2,a9,c9,hsa,-,hb2,hc2,ht2⟩:=HTS.out.at k hlt2
     subst hsa;have m0:=(HBQ.out.cell (p:=⟨b2,off2+k*3,none⟩) hb2).trans hc2.var;have m1:=(HBQ.out.cell (p:=⟨b2,off2+k*3+1,none⟩) hb2).trans hc2.name;have m2:=(HBQ.out.cell (p:=⟨b2,off2+k*3+2,none⟩) hb2).trans hc2.args;have HTK2:Hid ((s.take (k+1)).map (far 0)=(s.take k).map (far 0)++[far 0 s[k]]):=lh (by rw[List.take_succ_eq_append_getElem hlt2,List.map_append];rfl);have HCL:Hid (Calls Try.prog 68 #[.agg #[.int .i64 s[k].var,.string s[k].name,.slice a9 s[k].args.length c9],.int .i64 0] wr (oK wr (fun b=>ok b∧b<w.heap.size) (far 0 s[k]))):=lh (
      bO7 (K:=0) s[k] _ (fun b=>ok b∧b<w.heap.size) a9 c9 (fun b hb=>nT hb.2 HBQ.out.size) (HBA.out _ (List.getElem_mem hlt2)) hc2.fits (ht2.keep (aD.below HBQ.out _)) (fun p hp _=>by have:=yG s[k] hc2.fits a9 c9 ht2 p hp;rwa [Int.add_zero]))
     obtain⟨i0,hi0,hz0',hz1',hz2'⟩:=info_parts Try.infoTm;clear hc2 ht2;go_wp2_with (first
      | (go_at_call 68;refine HCL.out.mono ?_;rintro e w1 ⟨a8,c8,rfl,hf3,ht3,hb3⟩;have HB1:=lh hb3;have HO1:=lh ((aH HOW.out.own HB1.out).alloc (.cells #[.int .i64 (far 0 s[k]).var,.string (far 0 s[k]).name,.slice a8 (far 0 s[k]).args.length c8] 71));have HF3:=lh hf3;have HT3:=lh ht3;clear hf3 ht3 hb3)
      | (at_builtin;have _g:=HO1;(refine aJ _ rfl _ _ 78 rfl wo.heap.size 71 i0 _ 3 48 Try.underlying78 hi0 hz0' hz1' hz2' rfl (by decide) _ _ _ rfl HO1.out (some ⟨w1.heap.size,0,none⟩) 1 1 ?dd0 (dX [(far 0 s[k],a8,c8)]) rfl (by rw[eG];rfl) ?dd1 (kU _) ?dd2 ?dd3 ?dd4 ?_)))
     any_goals (first|(intro h;cases h;done)|exact aN6 _ _ a8 c8 rfl|(have:=HLK.out;unfold maxLen;omega)|(have:=HLK.out;omega)|(have:=HB1.out.size;simp only[World.size_alloc];omega))
     intro v4 w4 hown4 hgrow4 hfr4;have HNX:=lh (dA.more (wX:=wr) HOW.out HBZ.out (fun b hb=>nT hb.2 HBW.out.size) (nR _) HB1.out HF3.out HT3.out ((bR _ _).alloc (nR _) _) hown4 hgrow4 hfr4);clear hown4 hgrow4 hfr4;go_wp2_with fail;go_roundw
     case measure=>simp only[intOf];omega
     case rel=>exact⟨k+1,_,by omega,by go_num,lh (by rw[List.map_append,HL.out,HTK2.out];rfl),lh HNX.out.1,lh HNX.out.2⟩
    ·have HLE:Hid ((s.take k).map (far 0)=mvA s):=lh (by rw[List.take_of_length_le (by omega)];rfl)
     have hex:∃l a c,Value.slice xa L.length xc=.slice a l.length c∧l=mvA s∧Ts wr (OkN (fun b=>ok b∧b<w.heap.size) wo) l a c:=by
      obtain⟨a,c,e1,e2⟩:=HOW.out.ret (w:=wo) (nR _);exact⟨L.map (·.1),a,c,e1,HL.out.trans HLE.out,e2⟩
     obtain⟨l,la,lc,hle,hll,hlt3⟩:=hex;have HLT:=lh hlt3;have HLL:=lh hll;rw[hle];obtain⟨i0,zc,hi0,hz0,hz1,hz2,hz3⟩:=zY;have HO1:=lh ((aH HA.out.row HBZ.out).alloc (.cells #[.slice la l.length lc] 78));have hA9:A.length*24≤140737488355328:=by have:=HAL.out;omega
     have g8:wr.cell? ⟨w.heap.size+1+1,8,none⟩=some (.slice aa A.length ac):=by rw[←HA.out.len];exact(HA.out.box.below HBZ.out).all.2.2.2.2.2.2.2.2.1
     clear hle hll hlt3;go_wp2_with (at_builtin;have _g:=HO1;(refine aR _ rfl _ _ 28 rfl wc.heap.size 78 i0 zc 1 24 Try.underlying28 hi0 hz0 hz1 hz2 hz3 (by decide) _ _ _ rfl HO1.out ⟨wr.heap.size,0,none⟩ 1 1 [.slice la l.length lc] rfl rfl ?e1 ?e2 ?e3 ?e4 ?e5 ?_))
     any_goals (first|exact dT _ _ _|(intro u hu;simp only[List.mem_singleton] at hu;subst hu;rfl)|rfl|(have:=HAL.out;unfold maxLen;omega)|(have:=HAL.out;omega)|(have:=HA.out.touch.size;have:=HBZ.out.size;first|omega|(simp only[World.size_alloc];omega)))
     intro av' X3 hown3 hg3 hfr3;obtain⟨aa',ac',rfl⟩:=bL hown3;have HXB:Hid (Below wo.heap.size wo (wr.alloc (.cells #[.slice la l.length lc] 78))):=lh (HBZ.out.trans ((bR _ _).alloc (nR _) _ |>.mono hwz));have HNX:=lh (HA.out.more HXB.out (HLT.out.keep (aD.below ((bR _ _).alloc (nR _) _) _)) hwc hown3 hg3 hfr3);obtain⟨f0,f1,f2,f3,f4,f5,f6,f7,f8,ff⟩:=(HA.out.box.keep (HA.out.kept HXB.out hwc hg3)).all;clear hown3 hg3 hfr3;go_wp2_with fail;go_roundw
     case measure=>simp only[intOf];omega
     case rel=>exact⟨i+1,_,_,_,by omega,by go_num,lh (by rw[HTK.out,←HLL.out];exact HNX.out)⟩
  ·have HE:Hid (m.ans.take i=m.ans):=lh (List.take_of_length_le (by omega))
   have hl:(m.ans.map mvA).length=A.length:=by have:=HA.out.len;rwa [HE.out] at this
   obtain⟨x0,x1,x2,x3,x4,x5,x6,x7,x8',xf⟩:=HA.out.box.all;have x8:wo.cell? ⟨w.heap.size+1+1,8,none⟩=some (.slice aa A.length ac):=by rw[←HA.out.len];exact x8'
   clear x8';have hR:wo.heap[w.heap.size+1]? = some (.cells #[.slice none 0 0,.slice none 0 0,.int .i64 0,.slice none 0 0,.slice none 0 0,.slice none 0 0,.int .i64 0,.int .i64 0,.slice none 0 0] 30 (0,0)):=(HA.out.touch.block _ (by omega) (by omega)).trans HC.out.res;obtain⟨hF,hT⟩:=aT5 (m:={m with ans:=m.ans.map mvA}) (d:=⟨a1,a2,a3,a4,a5,aa,c1,c2,c3,c4,c5,ac⟩) hR;rw[hl] at hF hT;have HF:=lh hF;have HT:=lh hT;obtain⟨e0,e1,e2,e3,e4,e5,e6,e7,e8',-⟩:=hF.all;have HRR:=lh hR;have r0:wo.cell? ⟨w.heap.size+1,0,none⟩=some (.slice none 0 0):=by simp[World.cell?,hR]
   have r1:wo.cell? ⟨w.heap.size+1,1,none⟩=some (.slice none 0 0):=by simp[World.cell?,hR]
   have r2:wo.cell? ⟨w.heap.size+1,2,none⟩=some (.int .i64 0):=by simp[World.cell?,hR]
   have r3:wo.cell? ⟨w.heap.size+1,3,none⟩=some (.slice none 0 0):=by simp[World.cell?,hR]
   have r4:wo.cell? ⟨w.heap.size+1,4,none⟩=some (.slice none 0 0):=by simp[World.cell?,hR]
   have r5:wo.cell? ⟨w.heap.size+1,5,none⟩=some (.slice none 0 0):=by simp[World.cell?,hR]
   have r6:wo.cell? ⟨w.heap.size+1,6,none⟩=some (.int .i64 0):=by simp[World.cell?,hR]
   have r7:wo.cell? ⟨w.heap.size+1,7,none⟩=some (.int .i64 0):=by simp[World.cell?,hR]
   have r8:wo.cell? ⟨w.heap.size+1,8,none⟩=some (.slice none 0 0):=by simp[World.cell?,hR]
   have rf:∀o,wo.frozen? ⟨w.heap.size+1,o,none⟩=false:=fun o=>by simp[World.frozen?,hR]
   clear hR hF hT;rw[hl] at e8';simp only at e0 e1 e2 e3 e4 e5 e6 e7 e8' HF HT;go_wp2_with fail;refine bodyPost_ret (v:=.agg #[.slice a1 m.H.length c1,.slice a2 m.G.length c2,.int .i64 m.first,.slice a3 m.ch.length c3,.slice a4 m.T.length c4,.slice a5 m.Q.length c5,.int .i64 m.steps,.int .i64 m.fin,.slice aa A.length ac]) (by simp[results,Try.results29,go_sem,e0,e1,e2,e3,e4,e5,e6,e7,e8']) rfl ?_;have hA2:=HA.out;rw[HE.out] at hA2;have hC2:=HC.out;rw[HVT.out,HVQ.out] at hC2;obtain⟨z1,z2⟩:=bH4 hC2 hA2 HT.out (fun j hj=>by obtain⟨_,_,_,_,_,_,_,_,hf⟩:=HM.out.h.at' j hj;exact hf);refine⟨_,?_,z1,z2⟩;simp only[Mac.vals];rw[hl]
end Go.Proofs.Ytikmgiapjigghab
namespace Go.Proofs.Ytikmgiapjigghab
open Go.RowKit Go.Shelf
attribute [local go_sem] Oper.semAt_some
def aE8(l:List Int)(i:Nat):Array Value:=#[.int .i64 ((l.length-1-i:Nat):Int),.int .i64 (l.getD (l.length-1-i) 0)]
theorem aE9{n:Nat}(hn:1≤n){w0:World}{B0:Nat}{ok:Nat→Prop}(l:List Int){a:Option Addr}{cap:Nat}(hB:B0<w0.heap.size∧ok B0)(h0:w0.cell? ⟨B0,0,none⟩=some (.slice a l.length cap))(hr:dC w0 ok l a cap) :
 aP1 Fence.wide n Try.prog 114 #[.pointer (some ⟨B0,0,none⟩)] (aE8 l) (aD ok) l.length w0:=by
 intro lp J Jx W hW hJ hJx hY hJ0;have hro:Fence.wide.round=none:=rfl;have hl9:l.length≤9223372036854775807:=by have:=hr.cap;unfold maxLen at this;omega
 have HY:=lh hY;have HR:=lh hr;have HKW:Hid (aD ok w0 W):=lh (aD.below hW ok);have HJ0:=lh hJ0;have c0:=(HKW.out.cell (p:=⟨B0,0,none⟩) hB.2 hB.1).trans h0;clear hY hJ hJx hr hJ0;refine callsIn_of_wp Try.func114 rfl trivial ?_ hro;simp only[Try.ntmps114,List.size_toArray,List.length_cons,List.length_nil,Nat.reduceAdd,Nat.reduceSub,Array.replicate_succ,Array.replicate_zero,List.push_toArray,List.append_toArray,List.nil_append,List.cons_append];gi_wp2
 gi_loopw [3] (fun p wr=>∃j:Nat,j≤l.length∧p=.int .i64 ((l.length:Int)-1-j)∧Hid (J j wr)∧Hid (aD ok W wr)) (fun p _=>(intOf p+1).toNat)
 case atStart=>exact⟨0,Nat.zero_le _,by go_num,HJ0,lh (aD.below (bR _ _) ok)⟩
 case round =>
  obtain⟨j,hj,rfl,HJ,HK⟩:=hrel;have c1:=(HK.out.cell (p:=⟨B0,0,none⟩) hB.2 (nT hB.1 hW.size)).trans c0;by_cases hlt:j<l.length
  ·obtain⟨q,hq,hql⟩:∃q:Nat,q=l.length-1-j∧q<l.length:=⟨l.length-1-j,rfl,by omega⟩
   have hqi:(l.length:Int)-1-(j:Int)=(q:Int):=by omega
   obtain⟨b,off,rfl,hokb,hb,hcs⟩:=HR.out.at' q hql;have hK0:aD ok w0 wr:=HKW.out.trans HK.out;have m0:=(hK0.cell (p:=⟨b,off+q,none⟩) hokb hb).trans hcs;obtain⟨fn,tmps,assign,body,hy,hR⟩:=HY.out j wr hlt HJ.out;have e:aE8 l j = #[.int .i64 (q:Int),.int .i64 l[q]]:=by
    unfold aE8;rw[←hq,List.getD_eq_getElem?_getD,List.getElem?_eq_getElem hql];rfl
   rw[e] at hy;rw[hqi];have HQ:=lh hqi;have hq0:(0:Int)≤(q:Int):=by omega
   clear hK0 hcs hq e hqi;gi_wp2;refine hR.mono ?_;rintro e W3 (⟨rfl,hJ3,hk3⟩|⟨rfl,hJx3⟩)
   ·have HJ3:=lh hJ3
    have HK3:=lh (HK.out.trans hk3);clear hJ3 hk3;gi_wp2;go_roundw
    case rel=>exact⟨j+1,by omega,by have:=HQ.out;go_num,HJ3,HK3⟩
    case measure=>have:=HQ.out;simp only[intOf];omega
   ·have HJ3:=lh hJx3
    clear hJx3;gi_wp2;refine bodyPost_ret (results_none rfl _ _ _) rfl ?_;exact⟨⟨_,rfl⟩,.inr HJ3.out⟩
  ·have hje:j=l.length:=by omega
   have HE:Hid (J l.length wr):=lh (by rw[←hje];exact HJ.out);have hlo:(l.length:Int)-1-(j:Int) = -1:=by omega
   rw[hlo];clear hje;gi_wp2
   go_end0
   exact⟨⟨_,rfl⟩,.inl HE.out⟩
theorem aZ0(F:Fence)(n:Nat)(hF:F.fn 96)(hro:F.round=none)(a:Option Addr)(len cap:Nat)(w:World) :
 CallsIn F n Try.prog 96 #[.slice a len cap] w fun e w'=>e=.returned (.func (.func 114) #[] #[.pointer (some ⟨w.heap.size,0,none⟩)])∧w'=w.alloc (.cells #[.slice a len cap] 27):=by
 refine callsIn_of_wp Try.func96 rfl hF ?_ hro;simp only[Try.ntmps96,List.size_toArray,List.length_cons,List.length_nil,Nat.reduceAdd,Nat.reduceSub,Array.replicate_succ,Array.replicate_zero,List.push_toArray,List.append_toArray,List.nil_append,List.cons_append];gi_wp2;go_ret;exact⟨rfl,rfl⟩
end Go.Proofs.Ytikmgiapjigghab
