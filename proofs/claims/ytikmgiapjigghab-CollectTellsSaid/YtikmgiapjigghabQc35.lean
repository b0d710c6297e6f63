/- Walk: collect.Collect. -/
import Derived.Test.YtikmgiapjigghabQc17
import Derived.Test.YtikmgiapjigghabQc21
import Derived.Test.YtikmgiapjigghabQc34
set_option maxRecDepth 100000
set_option maxHeartbeats 8000000
namespace Go.Proofs.Ytikmgiapjigghab
open Go.RowKit
theorem aB1{p:List Cl}{m:Mac}(h:aM p m=0):∀c,c∈m.ch→0≤c.heap∧c.heap≤(m.H.length:Int)∧0≤c.trail∧c.trail≤(m.T.length:Int):=by
 unfold aM at h;by_cases h1:aY p≠0
 ·rw[if_pos h1] at h;exact absurd h h1
 rw[if_neg h1] at h;by_cases h2:cH m.H≠0
 ·rw[if_pos h2] at h;exact absurd h h2
 rw[if_neg h2] at h;by_cases h3:5000<m.G.length∨12<m.Q.length
 ·rw[if_pos h3] at h;cases h
 rw[if_neg h3] at h;by_cases h4:dW m=false
 ·rw[if_pos h4] at h;cases h
 rw[if_neg h4] at h;by_cases h5:pd (jX m.G)=false
 ·rw[if_pos h5] at h;cases h
 rw[if_neg h5] at h;by_cases h6:¬(0≤m.first∧m.first≤(m.G.length:Int))
 ·rw[if_pos h6] at h;cases h
 rw[if_neg h6] at h;by_cases h7:pd (cC p.length m.G.length m.H.length m.T.length aT m.ch)=false
 ·rw[if_pos h7] at h;cases h
 have h8:cC p.length m.G.length m.H.length m.T.length aT m.ch:=Classical.byContradiction fun e=>h7 (bJ e)
 obtain⟨k1,-⟩:=uV _ _ _ _ _ _ h8;intro c hc;obtain⟨⟨a1,a2,-⟩,a4,a5,-⟩:=k1 c hc;exact⟨a1,a4,a2,a5⟩
theorem aV1(w:World)(b:Nat)(v0 v1 v2 v3 v4 v5 v6 v7 v8:Value):aA (fun x=>x=b) w (((((((((w.setCell ⟨b,0,none⟩ v0).setCell ⟨b,1,none⟩ v1).setCell ⟨b,2,none⟩ v2).setCell ⟨b,3,none⟩ v3).setCell ⟨b,4,none⟩ v4).setCell ⟨b,5,none⟩ v5).setCell ⟨b,6,none⟩ v6).setCell ⟨b,7,none⟩ v7).setCell ⟨b,8,none⟩ v8) :=
 ((((((((aA.setCell (M:=fun x=>x=b) (p:=⟨b,0,none⟩) v0 rfl).trans (aA.setCell (p:=⟨b,1,none⟩) v1 rfl)).trans (aA.setCell (p:=⟨b,2,none⟩) v2 rfl)).trans (aA.setCell (p:=⟨b,3,none⟩) v3 rfl)).trans (aA.setCell (p:=⟨b,4,none⟩) v4 rfl)).trans (aA.setCell (p:=⟨b,5,none⟩) v5 rfl)).trans (aA.setCell (p:=⟨b,6,none⟩) v6 rfl)).trans (aA.setCell (p:=⟨b,7,none⟩) v7 rfl)).trans (aA.setCell (p:=⟨b,8,none⟩) v8 rfl)
def aV2(w:World)(p:List Cl)(m:Mac)(e:Ending)(w':World):Prop :=
 Below w.heap.size w w'∧((aM p m=0∧∃d',e=.returned (.tuple #[.agg ((dD (dU m.H (bX m.G m.Q)) (mX m)).vals d').toArray,.int .i64 ((m.H.length:Int)-(dD (dU m.H (bX m.G m.Q)) (mX m)).H.length),.int .i64 0])∧bO w' (fun _=>True) (dD (dU m.H (bX m.G m.Q)) (mX m)) d')
  ∨ (aM p m≠0∧e=.returned (.tuple #[.agg #[.slice none 0 0,.slice none 0 0,.int .i64 0,.slice none 0 0,.slice none 0 0,.slice none 0 0,.int .i64 0,.int .i64 0,.slice none 0 0],.int .i64 0,.int .i64 (aM p m:Nat)])))
theorem qV(p:List Cl)(m:Mac)(d:MAd){w:World}{ok:Nat→Prop}{pa:Option Addr}{pc:Nat}(hp:Pr w ok p pa pc)(h:bO w ok m d)(hb:gV m) :
 Calls Try.prog 13 #[.slice pa p.length pc,.agg #[.slice d.h m.H.length d.hn,.slice d.g m.G.length d.gn,.int .i64 m.first,.slice d.c m.ch.length d.cn,.slice d.t m.T.length d.tn,.slice d.q m.Q.length d.qn,.int .i64 m.steps,.int .i64 m.fin,.slice d.a m.ans.length d.an]] w (aV2 w p m):=by
 obtain⟨wa,hwa⟩:∃wa,wa=((w.alloc (.cells #[.slice d.h m.H.length d.hn,.slice d.g m.G.length d.gn,.int .i64 m.first,.slice d.c m.ch.length d.cn,.slice d.t m.T.length d.tn,.slice d.q m.Q.length d.qn,.int .i64 m.steps,.int .i64 m.fin,.slice d.a m.ans.length d.an] 30)).alloc (.cells #[.slice none 0 0,.slice none 0 0,.int .i64 0,.slice none 0 0,.slice none 0 0,.slice none 0 0,.int .i64 0,.int .i64 0,.slice none 0 0] 30)):=⟨_,rfl⟩
 have HBA:Hid (Below w.heap.size w wa):=lh (by rw[hwa];exact((bR _ _).alloc (nR _) _).alloc (by simp) _);have HSA:Hid (wa.heap.size=w.heap.size+2):=lh (by rw[hwa];simp);have HXB:Hid (cL wa w.heap.size m d):=lh ⟨by rw[hwa,Below.heap_alloc _ _ _ (by simp)];exact heap_alloc_new w _⟩;have HX2:Hid (wa.heap[w.heap.size+1]? = some (.cells #[.slice none 0 0,.slice none 0 0,.int .i64 0,.slice none 0 0,.slice none 0 0,.slice none 0 0,.int .i64 0,.int .i64 0,.slice none 0 0] 30 (0,0))):=lh (by
  have hs1:(w.alloc (.cells #[.slice d.h m.H.length d.hn,.slice d.g m.G.length d.gn,.int .i64 m.first,.slice d.c m.ch.length d.cn,.slice d.t m.T.length d.tn,.slice d.q m.Q.length d.qn,.int .i64 m.steps,.int .i64 m.fin,.slice d.a m.ans.length d.an] 30)).heap.size=w.heap.size+1:=by simp
  rw[hwa,←hs1];exact heap_alloc_new _ _)
 have HM:Hid (bO w (fun b=>b<w.heap.size) m d):=lh (h.mono fun b hb _=>hb);have HCK:=lh (zL p m d (hp.keep (aD.below HBA.out ok)) (h.keep (aD.below HBA.out ok)) hb);have HOW:=lh (fun u (hu:Below w.heap.size w u)=>bB1 m d (HM.out.keep (aD.below hu _)) hb);have hTl:m.T.length*8≤140737488355328:=hb.t;have HCC:=lh (fun (h0:aM p m=0)=>And.intro (fA h0) (aB1 h0));clear h hb hp;obtain⟨x0,x1,x2,x3,x4,x5,x6,x7,x8,-⟩:=HXB.out.all;go_enter Try.func13,Try.ntmps13;generalize hck:aM p m=ck at *;have HC0:=lh hck;clear hck;go_upto_region 1 with fail;rw[←hwa];clear hwa;rcases Nat.eq_zero_or_pos ck with hz|hpos
 ·have hz':=hz.symm
  clear hz;subst hz';rw[show ((0:Nat):Int)=0 from rfl] at HCK;obtain⟨⟨c1,c2,c3,c4⟩,c5⟩:=HCC.out (by trivial);have HK:=lh c1;have HT:=lh c2;have HCH:=lh c5;have hl:=c1.len;clear c1 c2 c5;go_upto_region 5 with (first
   | (go_at_call 22;refine HCK.out.mono ?_;rintro e w1 ⟨rfl,hb1⟩;have HB1:=lh hb1;obtain⟨y0,y1,y2,y3,y4,y5,y6,y7,y8,-⟩:=(HXB.out.keep (hb1.block _ HXB.out.lt)).all;clear hb1 x0 x1 x2 x3 x4 x5 x6 x7 x8)
   | (go_at_call 23;refine(HOW.out _ (HBA.out.trans (HB1.out.mono HBA.out.size))).mono ?_;rintro r w2 ⟨d2,rfl,hob,hb2⟩;have HOB:=lh hob;have HB2:=lh hb2;clear hob hb2;simp only[Mac.vals]))
  obtain⟨U0,hU0⟩:∃U0,U0=w2.alloc (.cells ((mX m).vals d2).toArray 30):=⟨_,rfl⟩
  have s1:=HB1.out.size;have s2:=HB2.out.size;have s0:=HSA.out;have HO0:Hid (OwM U0 0 (fun b=>b<w2.heap.size∧b≠w.heap.size+1) (mX m) d2):=lh (by
   have hk:=HOB.out;have hbb:Below w2.heap.size w2 U0:=by rw[hU0];exact(bR _ _).alloc (nR _) _
   have h2:OwM w2 0 (fun b=>b<w2.heap.size∧b≠w.heap.size+1) (mX m) d2:=⟨⟨aI hk.h.row (Nat.zero_le _),hk.h.fits⟩,aI hk.g (Nat.zero_le _),aI hk.c (Nat.zero_le _),aI hk.t (Nat.zero_le _),aI hk.q (Nat.zero_le _),(by obtain⟨A,e1,e2,e3⟩:=hk.a;exact⟨A,e1,aI e2 (Nat.zero_le _),fun x hx=>(e3 x hx).mono fun b hb0 hb=>⟨⟨hb0,by have:=hb.1;omega⟩,hb.2⟩⟩),hk.ne⟩
   exact h2.keep hbb.size (fun b hb _=>hbb.block b hb) (fun b _ hb=>hb))
  have HRW:Hid (∀b,some b∈rws d2→w1.heap.size≤b∧b<w2.heap.size):=lh fun b hb=>by
   have hk:=HOB.out;refine⟨?_,hk.lt b hb⟩;simp only[rws,List.mem_cons,List.not_mem_nil,or_false] at hb;obtain⟨A,f1,f2,f3⟩:=hk.a;rcases hb with e|e|e|e|e|e
   ·exact(hk.h.row.lt b ((aE _ _ _).trans e.symm)).1
   ·exact(hk.g.lt b ((aE _ _ _).trans e.symm)).1
   ·exact(hk.c.lt b ((aE _ _ _).trans e.symm)).1
   ·exact(hk.t.lt b ((aE _ _ _).trans e.symm)).1
   ·exact(hk.q.lt b ((aE _ _ _).trans e.symm)).1
   ·exact(f2.lt b ((aE _ _ _).trans e.symm)).1
  have HRAW:=lh (bQ3 (mX m) d2 (w:=U0) (B:=w2.heap.size) (o:=0) (by rw[hU0];exact heap_alloc_new _ _) (aB9 _ _) HO0.out (fun b hb=>by omega) (fun y hy e=>by subst e;have:=(HRW.out _ hy).2;omega) HK.out HT.out c3 c4 hTl HCH.out);have HU0:Hid (Below w2.heap.size w2 U0):=lh (by rw[hU0];exact(bR _ _).alloc (nR _) _);have hgv:w2.alloc (.cells #[.slice d2.h m.H.length d2.hn,.slice d2.g m.G.length d2.gn,.int .i64 m.first,.slice d2.c m.ch.length d2.cn,.slice d2.t m.T.length d2.tn,.slice d2.q m.Q.length d2.qn,.int .i64 m.steps,.int .i64 m.fin,.slice d2.a m.ans.length d2.an] 30)=U0:=by rw[hU0];simp[Mac.vals,mX]
  rw[hgv];clear hgv hU0;go_upto_region 6 with (go_at_call 37;refine HRAW.out.mono ?_;rintro r w3 ⟨ha,hn,ta,tn,rfl,hbx,how,htu,hf1,hf2⟩;have HBX3:=lh hbx;have HOW3:=lh how;have HTU:=lh htu;have HF1:=lh hf1;have HF2:=lh hf2;clear hbx how htu hf1 hf2);have hbx3:cL w3 w2.heap.size {mX m with H:=(dD (dU m.H (bX m.G m.Q)) (mX m)).H,T:=(dD (dU m.H (bX m.G m.Q)) (mX m)).T} {d2 with h:=ha,hn:=hn,t:=ta,tn:=tn}:=⟨HBX3.out⟩
  obtain⟨z0,z1,z2,z3,z4,z5,z6,z7,z8,-⟩:=hbx3.all;have hR:w3.heap[w.heap.size+1]? = some (.cells #[.slice none 0 0,.slice none 0 0,.int .i64 0,.slice none 0 0,.slice none 0 0,.slice none 0 0,.int .i64 0,.int .i64 0,.slice none 0 0] 30 (0,0)):=by
   have hu:=HU0.out.size;rw[HTU.out.block _ (by omega) (fun e=>e.elim (fun e=>by omega) fun e=>by have:=(HRW.out _ e).1;omega),HU0.out.block _ (by omega),HB2.out.block _ (by omega),HB1.out.block _ (by omega)];exact HX2.out
  have r0:w3.cell? ⟨w.heap.size+1,0,none⟩=some (.slice none 0 0):=by simp[World.cell?,hR]
  have r1:w3.cell? ⟨w.heap.size+1,1,none⟩=some (.slice none 0 0):=by simp[World.cell?,hR]
  have r2:w3.cell? ⟨w.heap.size+1,2,none⟩=some (.int .i64 0):=by simp[World.cell?,hR]
  have r3:w3.cell? ⟨w.heap.size+1,3,none⟩=some (.slice none 0 0):=by simp[World.cell?,hR]
  have r4:w3.cell? ⟨w.heap.size+1,4,none⟩=some (.slice none 0 0):=by simp[World.cell?,hR]
  have r5:w3.cell? ⟨w.heap.size+1,5,none⟩=some (.slice none 0 0):=by simp[World.cell?,hR]
  have r6:w3.cell? ⟨w.heap.size+1,6,none⟩=some (.int .i64 0):=by simp[World.cell?,hR]
  have r7:w3.cell? ⟨w.heap.size+1,7,none⟩=some (.int .i64 0):=by simp[World.cell?,hR]
  have r8:w3.cell? ⟨w.heap.size+1,8,none⟩=some (.slice none 0 0):=by simp[World.cell?,hR]
  have rf:∀o,w3.frozen? ⟨w.heap.size+1,o,none⟩=false:=fun o=>by simp[World.frozen?,hR]
  have hfin:∀wz,aA (fun b=>b=w.heap.size+1) w3 wz→Below w.heap.size w wz∧bO wz (fun _=>True) (dD (dU m.H (bX m.G m.Q)) (mX m)) {d2 with h:=ha,hn:=hn,t:=ta,tn:=tn}:=fun wz hz=>by
   have hu:=HU0.out.size;have hrl:∀b,some b∈rws {d2 with h:=ha,hn:=hn,t:=ta,tn:=tn}→w1.heap.size≤b:=fun b hb=>by
    simp only[rws,List.mem_cons,List.not_mem_nil,or_false] at hb;rcases hb with e|e|e|e|e|e
    ·have:=HF1.out b e.symm;omega
    ·exact(HRW.out b (by rw[e];simp[rws])).1
    ·exact(HRW.out b (by rw[e];simp[rws])).1
    ·have:=HF2.out b e.symm;omega
    ·exact(HRW.out b (by rw[e];simp[rws])).1
    ·exact(HRW.out b (by rw[e];simp[rws])).1
   refine⟨?_,(HOW3.out.keep (okA':=fun b=>b<w2.heap.size∧b≠w.heap.size+1) hz.size (fun b hb e=>hz.block b hb fun e2=>?_) fun b _ h=>h).mac⟩
   ·have b1:Below w.heap.size w U0:=((HBA.out.trans (HB1.out.mono (by omega))).trans (HB2.out.mono (by omega))).trans (HU0.out.mono (by omega))
    have b2:Below w.heap.size w w3:=b1.trans (HTU.out.toBelow b1.size fun b e=>e.elim (fun e=>by omega) fun e=>by have:=(HRW.out b e).1;omega);exact b2.trans (hz.toBelow b2.size fun b e=>by omega)
   ·rcases e with e|e
    ·have:=hrl b e;omega
    ·exact e.2 e2
  have HFIN:=lh hfin;clear hR hfin hbx3 HRAW HOW HCK HXB HX2;go_wp2_with fail;refine bodyPost_ret (v:=.tuple #[.agg #[.slice ha (dD (dU m.H (bX m.G m.Q)) (mX m)).H.length hn,.slice d2.g m.G.length d2.gn,.int .i64 m.first,.slice d2.c m.ch.length d2.cn,.slice ta (dD (dU m.H (bX m.G m.Q)) (mX m)).T.length tn,.slice d2.q m.Q.length d2.qn,.int .i64 m.steps,.int .i64 m.fin,.slice d2.a (mX m).ans.length d2.an],.int .i64 ((m.H.length:Int)-(dD (dU m.H (bX m.G m.Q)) (mX m)).H.length),.int .i64 0]) (by simp[results,Try.results13,go_sem,r0,r1,r2,r3,r4,r5,r6,r7,r8];exact⟨⟨rfl,rfl,rfl,rfl,rfl,rfl⟩,rfl⟩) rfl ?_;obtain⟨f1,f2⟩:=HFIN.out _ (aV1 w3 (w.heap.size+1) _ _ _ _ _ _ _ _ _);exact⟨f1,.inl ⟨HC0.out,_,by simp[Mac.vals,pT,mX],f2⟩⟩
 ·have hne:((ck:Int) != 0)=true:=by rw[bne_iff_ne];omega
  go_wp2_with (go_at_call 22;refine HCK.out.mono ?_;rintro e w1 ⟨rfl,hb1⟩;have HB1:=lh hb1;clear hb1;have hR:w1.heap[w.heap.size+1]? = some (.cells #[.slice none 0 0,.slice none 0 0,.int .i64 0,.slice none 0 0,.slice none 0 0,.slice none 0 0,.int .i64 0,.int .i64 0,.slice none 0 0] 30 (0,0)):=(HB1.out.block _ (by have:=HSA.out;omega)).trans HX2.out;have r0:w1.cell? ⟨w.heap.size+1,0,none⟩=some (.slice none 0 0):=(by simp[World.cell?,hR]);have r1:w1.cell? ⟨w.heap.size+1,1,none⟩=some (.slice none 0 0):=(by simp[World.cell?,hR]);have r2:w1.cell? ⟨w.heap.size+1,2,none⟩=some (.int .i64 0):=(by simp[World.cell?,hR]);have r3:w1.cell? ⟨w.heap.size+1,3,none⟩=some (.slice none 0 0):=(by simp[World.cell?,hR]);have r4:w1.cell? ⟨w.heap.size+1,4,none⟩=some (.slice none 0 0):=(by simp[World.cell?,hR]);have r5:w1.cell? ⟨w.heap.size+1,5,none⟩=some (.slice none 0 0):=(by simp[World.cell?,hR]);have r6:w1.cell? ⟨w.heap.size+1,6,none⟩=some (.int .i64 0):=(by simp[World.cell?,hR]);have r7:w1.cell? ⟨w.heap.size+1,7,none⟩=some (.int .i64 0):=(by simp[World.cell?,hR]);have r8:w1.cell? ⟨w.heap.size+1,8,none⟩=some (.slice none 0 0):=(by simp[World.cell?,hR]);have rf:∀o,w1.frozen? ⟨w.heap.size+1,o,none⟩=false:=(fun o=>by simp[World.frozen?,hR]);clear hR);refine bodyPost_ret (v:=.tuple #[.agg #[.slice none 0 0,.slice none 0 0,.int .i64 0,.slice none 0 0,.slice none 0 0,.slice none 0 0,.int .i64 0,.int .i64 0,.slice none 0 0],.int .i64 0,.int .i64 (ck:Nat)]) (by simp[results,Try.results13,go_sem,r0,r1,r2,r3,r4,r5,r6,r7,r8]) rfl ?_;have b1:Below w.heap.size w w1:=HBA.out.trans (HB1.out.mono HBA.out.size);have hs:=b1.size;have ht:=fun v0 v1 v2 v3 v4 v5 v6 v7 v8=>aV1 w1 (w.heap.size+1) v0 v1 v2 v3 v4 v5 v6 v7 v8
  exact⟨b1.trans ((ht _ _ _ _ _ _ _ _ _).toBelow hs fun b e=>by omega),.inr ⟨by rw[HC0.out];omega,by rw[HC0.out]⟩⟩
theorem aW1(w:World)(d:Nat)(a b c a' b' c':Int):(Op.equalIn (d+2) 65 (.agg #[.int .i64 a,.int .i64 b,.int .i64 c]) (.agg #[.int .i64 a',.int .i64 b',.int .i64 c'])).run Try.prog w =
 ((
  (Op.equalIn (d+1) 3 (.int .i64 a) (.int .i64 a')).run Try.prog w).andThen fun x w=>if (!x)=true then .ok false w else
  ((Op.equalIn (d+1) 3 (.int .i64 b) (.int .i64 b')).run Try.prog w).andThen fun x w=>if (!x)=true then .ok false w else
  ((Op.equalIn (d+1) 3 (.int .i64 c) (.int .i64 c')).run Try.prog w).andThen fun x w=>if (!x)=true then .ok false w else .ok true w):=by
 conv=>lhs;unfold Op.equalIn
 go_simp
theorem bK6(w:World)(a b c:Int):(binOp .neq 65 (.agg #[.int .i64 a,.int .i64 b,.int .i64 c]) (.agg #[.int .i64 a,.int .i64 b,.int .i64 c])).run Try.prog w=.ok (.bool false) w:=by
 have h:=aW1 w 9998 a b c a b c;simp only[mO,Result.andThen_ok,beq_self_eq_true,Bool.not_true,Bool.false_eq_true,if_false] at h;have h2:(Op.equal 65 (.agg #[.int .i64 a,.int .i64 b,.int .i64 c]) (.agg #[.int .i64 a,.int .i64 b,.int .i64 c])).run Try.prog w=.ok true w:=h;unfold binOp;simp only[Sem.run_bind,h2,Result.andThen_ok,Sem.run_pure,Bool.not_true]
theorem aW2(w:World)(d:Nat)(a b c e f a' b' c' e' f':Int):(Op.equalIn (d+2) 67 (.agg #[.int .i64 a,.int .i64 b,.int .i64 c,.int .i64 e,.int .i64 f]) (.agg #[.int .i64 a',.int .i64 b',.int .i64 c',.int .i64 e',.int .i64 f'])).run Try.prog w =
 ((
  (Op.equalIn (d+1) 3 (.int .i64 a) (.int .i64 a')).run Try.prog w).andThen fun x w=>if (!x)=true then .ok false w else
  ((Op.equalIn (d+1) 3 (.int .i64 b) (.int .i64 b')).run Try.prog w).andThen fun x w=>if (!x)=true then .ok false w else
  ((Op.equalIn (d+1) 3 (.int .i64 c) (.int .i64 c')).run Try.prog w).andThen fun x w=>if (!x)=true then .ok false w else
  ((Op.equalIn (d+1) 3 (.int .i64 e) (.int .i64 e')).run Try.prog w).andThen fun x w=>if (!x)=true then .ok false w else
  ((Op.equalIn (d+1) 3 (.int .i64 f) (.int .i64 f')).run Try.prog w).andThen fun x w=>if (!x)=true then .ok false w else .ok true w):=by
 conv=>lhs;unfold Op.equalIn
 go_simp
theorem bK7(w:World)(a b c e f:Int):(binOp .neq 67 (.agg #[.int .i64 a,.int .i64 b,.int .i64 c,.int .i64 e,.int .i64 f]) (.agg #[.int .i64 a,.int .i64 b,.int .i64 c,.int .i64 e,.int .i64 f])).run Try.prog w=.ok (.bool false) w:=by
 have h:=aW2 w 9998 a b c e f a b c e f;simp only[mO,Result.andThen_ok,beq_self_eq_true,Bool.not_true,Bool.false_eq_true,if_false] at h;have h2:(Op.equal 67 (.agg #[.int .i64 a,.int .i64 b,.int .i64 c,.int .i64 e,.int .i64 f]) (.agg #[.int .i64 a,.int .i64 b,.int .i64 c,.int .i64 e,.int .i64 f])).run Try.prog w=.ok true w:=h;unfold binOp;simp only[Sem.run_bind,h2,Result.andThen_ok,Sem.run_pure,Bool.not_true]
theorem zA(m:Mac)(d e:MAd){w:World}{ok ok2:Nat→Prop}(h:bO w ok m d)(k:bO w ok2 m e) :
 Calls Try.prog 10 #[.agg #[.slice d.h m.H.length d.hn,.slice d.g m.G.length d.gn,.int .i64 m.first,.slice d.c m.ch.length d.cn,.slice d.t m.T.length d.tn,.slice d.q m.Q.length d.qn,.int .i64 m.steps,.int .i64 m.fin,.slice d.a m.ans.length d.an],
  .agg #[.slice e.h m.H.length e.hn,.slice e.g m.G.length e.gn,.int .i64 m.first,.slice e.c m.ch.length e.cn,.slice e.t m.T.length e.tn,.slice e.q m.Q.length e.qn,.int .i64 m.steps,.int .i64 m.fin,.slice e.a m.ans.length e.an]] w
  fun r w'=>r=.returned (.bool true)∧Below w.heap.size w w':=by
 have HM:=lh h;have HN:=lh k;have hg9:m.G.length≤9223372036854775807:=by have:=h.g.cap;unfold maxLen at this;omega
 have hc9:m.ch.length≤9223372036854775807:=by have:=h.c.cap;unfold maxLen at this;omega
 obtain⟨wa,hwa⟩:∃wa,wa=((w.alloc (.cells #[.slice d.h m.H.length d.hn,.slice d.g m.G.length d.gn,.int .i64 m.first,.slice d.c m.ch.length d.cn,.slice d.t m.T.length d.tn,.slice d.q m.Q.length d.qn,.int .i64 m.steps,.int .i64 m.fin,.slice d.a m.ans.length d.an] 30)).alloc (.cells #[.slice e.h m.H.length e.hn,.slice e.g m.G.length e.gn,.int .i64 m.first,.slice e.c m.ch.length e.cn,.slice e.t m.T.length e.tn,.slice e.q m.Q.length e.qn,.int .i64 m.steps,.int .i64 m.fin,.slice e.a m.ans.length e.an] 30)):=⟨_,rfl⟩
 have HBA:Hid (Below w.heap.size w wa):=lh (by rw[hwa];exact((bR _ _).alloc (nR _) _).alloc (by simp) _);have HX1:Hid (cL wa w.heap.size m d):=lh ⟨by rw[hwa,Below.heap_alloc _ _ _ (by simp)];exact heap_alloc_new w _⟩;have hs1:(w.alloc (.cells #[.slice d.h m.H.length d.hn,.slice d.g m.G.length d.gn,.int .i64 m.first,.slice d.c m.ch.length d.cn,.slice d.t m.T.length d.tn,.slice d.q m.Q.length d.qn,.int .i64 m.steps,.int .i64 m.fin,.slice d.a m.ans.length d.an] 30)).heap.size=w.heap.size+1:=by simp
 have HX2:Hid (cL wa (w.heap.size+1) m e):=lh ⟨by rw[hwa,←hs1];exact heap_alloc_new _ _⟩;have hw0:=HBA.out.size;have HSH:=lh (fun u (hu:Below wa.heap.size wa u)=>(aR2 (HM.out.h.below (HBA.out.trans (hu.mono hw0))) (HN.out.h.below (HBA.out.trans (hu.mono hw0)))).mono (fun r u' h=>(show r=.returned (.bool true)∧Below u.heap.size u u' from ⟨by rw[h.1,sM rfl],h.2⟩)));have HST:=lh (fun u (hu:Below wa.heap.size wa u)=>(xF (HM.out.t.below (HBA.out.trans (hu.mono hw0))) (HN.out.t.below (HBA.out.trans (hu.mono hw0)))).mono (fun r u' h=>(show r=.returned (.bool true)∧Below u.heap.size u u' from ⟨by rw[h.1];simp,h.2⟩)));have HSQ:=lh (fun u (hu:Below wa.heap.size wa u)=>(xF (HM.out.q.below (HBA.out.trans (hu.mono hw0))) (HN.out.q.below (HBA.out.trans (hu.mono hw0)))).mono (fun r u' h=>(show r=.returned (.bool true)∧Below u.heap.size u u' from ⟨by rw[h.1];simp,h.2⟩)));have HSA:=lh (fun u (hu:Below wa.heap.size wa u)=>(aA5 m.ans m.ans u (fun _=>True) d.a e.a d.an e.an ((HM.out.a.keep (aD.below (HBA.out.trans (hu.mono hw0)) ok)).mono fun _ _ _=>trivial) ((HN.out.a.keep (aD.below (HBA.out.trans (hu.mono hw0)) ok2)).mono fun _ _ _=>trivial)).mono (fun r u' h=>(show r=.returned (.bool true)∧Below u.heap.size u u' from ⟨by rw[h.1,yM rfl],h.2⟩)));have HBX:=lh (fun u (hu:Below wa.heap.size wa u)=>And.intro (HX1.out.keep (hu.block _ HX1.out.lt)) (HX2.out.keep (hu.block _ HX2.out.lt)));clear hs1 h k hw0;obtain⟨x0,x1,x2,x3,x4,x5,x6,x7,x8,-⟩:=HX1.out.all;obtain⟨y0,y1,y2,y3,y4,y5,y6,y7,y8,-⟩:=HX2.out.all;go_enter Try.func10,Try.ntmps10;go_wp2_with fail;rw[←hwa];clear hwa;go_wp2_with (first
  | (go_at_call 33;refine(HSH.out _ (bR _ _)).mono ?_;rintro r w1 ⟨rfl,hb1⟩;have HB1:=lh hb1;obtain⟨a0,a1,a2,a3,a4,a5,a6,a7,a8,-⟩:=(HBX.out _ hb1).1.all;obtain⟨b0,b1,b2,b3,b4,b5,b6,b7,b8,-⟩:=(HBX.out _ hb1).2.all;clear hb1 x0 x1 x2 x3 x4 x5 x6 x7 x8 y0 y1 y2 y3 y4 y5 y6 y7 y8)
  | (go_at_call 34;refine(HSQ.out _ HB2.out).mono ?_;rintro r w3 ⟨rfl,hb3⟩;have HB3:Hid (Below wa.heap.size wa w3):=lh (HB2.out.trans (hb3.mono HB2.out.size));obtain⟨x0,x1,x2,x3,x4,x5,x6,x7,x8,-⟩:=(HBX.out _ HB3.out).1.all;obtain⟨y0,y1,y2,y3,y4,y5,y6,y7,y8,-⟩:=(HBX.out _ HB3.out).2.all;clear hb3 a0 a1 a2 a3 a4 a5 a6 a7 a8 b0 b1 b2 b3 b4 b5 b6 b7 b8)
  | (go_at_call 34;refine(HST.out _ HB1.out).mono ?_;rintro r w2 ⟨rfl,hb2⟩;have HB2:Hid (Below wa.heap.size wa w2):=lh (HB1.out.trans (hb2.mono HB1.out.size));clear a0 a1 a2 a3 a4 a5 a6 a7 a8 b0 b1 b2 b3 b4 b5 b6 b7 b8;obtain⟨a0,a1,a2,a3,a4,a5,a6,a7,a8,-⟩:=(HBX.out _ HB2.out).1.all;obtain⟨b0,b1,b2,b3,b4,b5,b6,b7,b8,-⟩:=(HBX.out _ HB2.out).2.all;clear hb2)
  | (go_at_call 11;refine(HSA.out _ HB3.out).mono ?_;rintro r w4 ⟨rfl,hb4⟩;have HB4:Hid (Below wa.heap.size wa w4):=lh (HB3.out.trans (hb4.mono HB3.out.size));clear hb4 x0 x1 x2 x3 x4 x5 x6 x7 x8 y0 y1 y2 y3 y4 y5 y6 y7 y8))
 clear HSH HST HSQ HSA HX1 HX2;clear HB1 HB2 HB3;obtain⟨dh,dg,dc,dt,dq,da,dhn,dgn,dcn,dtn,dqn,dan⟩:=d;obtain⟨eh,eg,ec,et,eq,ea,ehn,egn,ecn,etn,eqn,ean⟩:=e;simp only at *
 go_loopw[5] (fun v5 wr=>∃i:Nat,i≤m.G.length∧v5=.int .i64 i∧Hid (Below wa.heap.size wa wr)) (fun v5 _=>m.G.length-(intOf v5).toNat)
 case atStart=>exact⟨0,Nat.zero_le _,rfl,HB4⟩
 case round =>
  rename World=>wr
  obtain⟨i,hi,rfl,HB⟩:=hrel;clear HB4;have HBW:Hid (Below w.heap.size w wr):=lh (HBA.out.trans (HB.out.mono HBA.out.size));obtain⟨x0,x1,x2,x3,x4,x5,x6,x7,x8,-⟩:=(HBX.out _ HB.out).1.all;obtain⟨y0,y1,y2,y3,y4,y5,y6,y7,y8,-⟩:=(HBX.out _ HB.out).2.all;by_cases hlt:i<m.G.length
  ·obtain⟨b1,o1,hd1,hk1,hb1,hcs1⟩:=HM.out.g.some (by decide) (by omega)
   obtain⟨b2,o2,hd2,hk2,hb2,hcs2⟩:=HN.out.g.some (by decide) (by omega);have hd1':dg=some ⟨b1,o1,none⟩:=hd1;have hd2':eg=some ⟨b2,o2,none⟩:=hd2;clear hd1 hd2;subst hd1' hd2';obtain⟨g0,g1,g2⟩:=fU m.G i hlt;have m0:=(HBW.out.cell (p:=⟨b1,o1+i*3,none⟩) hb1).trans (hcs1 _ _ g0);have m1:wr.cell? ⟨b1,o1+i*3+1,none⟩=_:=(HBW.out.cell (p:=⟨b1,o1+(i*3+1),none⟩) hb1).trans (hcs1 _ _ g1);have m2:wr.cell? ⟨b1,o1+i*3+2,none⟩=_:=(HBW.out.cell (p:=⟨b1,o1+(i*3+2),none⟩) hb1).trans (hcs1 _ _ g2);have n0:=(HBW.out.cell (p:=⟨b2,o2+i*3,none⟩) hb2).trans (hcs2 _ _ g0);have n1:wr.cell? ⟨b2,o2+i*3+1,none⟩=_:=(HBW.out.cell (p:=⟨b2,o2+(i*3+1),none⟩) hb2).trans (hcs2 _ _ g1);have n2:wr.cell? ⟨b2,o2+i*3+2,none⟩=_:=(HBW.out.cell (p:=⟨b2,o2+(i*3+2),none⟩) hb2).trans (hcs2 _ _ g2);clear hcs1 hcs2 hb1 hb2 g0 g1 g2;have DQ:=bP wr;have hq:=fun wz=>bK6 wz m.G[i].at' m.G[i].cut m.G[i].next
   go_wp2_with fail
   go_quiet (fail)
   rename_i nq;have hB:=DQ nq;generalize wr.drewN nq=wq at *;go_wp2_with fail;go_roundw
   case measure=>simp[intOf];omega
   case rel=>exact⟨i+1,by omega,by go_num,lh (HB.out.trans (hB.mono HB.out.size))⟩
  ·go_wp2_with fail
   clear x0 x1 x2 x3 x4 x5 x6 x7 x8 y0 y1 y2 y3 y4 y5 y6 y7 y8 HBW
   go_loopw[6] (fun v6 wr=>∃i:Nat,i≤m.ch.length∧v6=.int .i64 i∧Hid (Below wa.heap.size wa wr)) (fun v6 _=>m.ch.length-(intOf v6).toNat)
   case atStart=>exact⟨0,Nat.zero_le _,rfl,HB⟩
   case round =>
    rename World=>ws
    obtain⟨j,hj,rfl,HC⟩:=hrel;clear HB;have HBW:Hid (Below w.heap.size w ws):=lh (HBA.out.trans (HC.out.mono HBA.out.size));obtain⟨x0,x1,x2,x3,x4,x5,x6,x7,x8,-⟩:=(HBX.out _ HC.out).1.all;obtain⟨y0,y1,y2,y3,y4,y5,y6,y7,y8,-⟩:=(HBX.out _ HC.out).2.all;by_cases hlj:j<m.ch.length
    ·obtain⟨b1,o1,hd1,hk1,hb1,hcs1⟩:=HM.out.c.some (by decide) (by omega)
     obtain⟨b2,o2,hd2,hk2,hb2,hcs2⟩:=HN.out.c.some (by decide) (by omega);have hd1':dc=some ⟨b1,o1,none⟩:=hd1;have hd2':ec=some ⟨b2,o2,none⟩:=hd2;clear hd1 hd2;subst hd1' hd2';obtain⟨g0,g1,g2,g3,g4⟩:=jJ m.ch j hlj;have m0:=(HBW.out.cell (p:=⟨b1,o1+j*5,none⟩) hb1).trans (hcs1 _ _ g0);have m1:ws.cell? ⟨b1,o1+j*5+1,none⟩=_:=(HBW.out.cell (p:=⟨b1,o1+(j*5+1),none⟩) hb1).trans (hcs1 _ _ g1);have m2:ws.cell? ⟨b1,o1+j*5+2,none⟩=_:=(HBW.out.cell (p:=⟨b1,o1+(j*5+2),none⟩) hb1).trans (hcs1 _ _ g2);have m3:ws.cell? ⟨b1,o1+j*5+3,none⟩=_:=(HBW.out.cell (p:=⟨b1,o1+(j*5+3),none⟩) hb1).trans (hcs1 _ _ g3);have m4:ws.cell? ⟨b1,o1+j*5+4,none⟩=_:=(HBW.out.cell (p:=⟨b1,o1+(j*5+4),none⟩) hb1).trans (hcs1 _ _ g4);have n0:=(HBW.out.cell (p:=⟨b2,o2+j*5,none⟩) hb2).trans (hcs2 _ _ g0);have n1:ws.cell? ⟨b2,o2+j*5+1,none⟩=_:=(HBW.out.cell (p:=⟨b2,o2+(j*5+1),none⟩) hb2).trans (hcs2 _ _ g1);have n2:ws.cell? ⟨b2,o2+j*5+2,none⟩=_:=(HBW.out.cell (p:=⟨b2,o2+(j*5+2),none⟩) hb2).trans (hcs2 _ _ g2);have n3:ws.cell? ⟨b2,o2+j*5+3,none⟩=_:=(HBW.out.cell (p:=⟨b2,o2+(j*5+3),none⟩) hb2).trans (hcs2 _ _ g3);have n4:ws.cell? ⟨b2,o2+j*5+4,none⟩=_:=(HBW.out.cell (p:=⟨b2,o2+(j*5+4),none⟩) hb2).trans (hcs2 _ _ g4);clear hcs1 hcs2 hb1 hb2 g0 g1 g2 g3 g4;have DQ:=bP ws;have hq:=fun wz=>bK7 wz m.ch[j].goal m.ch[j].clause m.ch[j].heap m.ch[j].trail m.ch[j].goals
     go_wp2_with fail
     go_quiet (fail)
     rename_i nq;have hB:=DQ nq;generalize ws.drewN nq=wq at *;go_wp2_with fail;go_roundw
     case measure=>simp[intOf];omega
     case rel=>exact⟨j+1,by omega,by go_num,lh (HC.out.trans (hB.mono HC.out.size))⟩
    ·go_wp2_with fail
     go_ret;exact⟨rfl,HBA.out.trans (HC.out.mono HBA.out.size)⟩
end Go.Proofs.Ytikmgiapjigghab
