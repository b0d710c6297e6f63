/- Proved: the statement CollectTellsSaid: whatever program and machine it is handed, 'CollectTells' answers true, and each argument reads behind the call as it read before. No condition. -/
import Derived.Test.YtikmgiapjigghabQc35
import Derived.Test.YtikmgiapjigghabQc37
import Derived.Test.YtikmgiapjigghabQc38
import Derived.Test.YtikmgiapjigghabQc39
set_option maxRecDepth 100000
set_option maxHeartbeats 8000000
namespace Go.Proofs.Ytikmgiapjigghab
open Go.ChangeShapes Go.WideShapes Go.ChangeAt Go.RowKit
structure CtC(p:List Cl)(pa:Option Addr)(pc:Nat)(m:Mac)(d:MAd)(w:World)(L:List Bool)(K:Mac):Prop where
 live:∀u,Below w.heap.size w u→Calls Try.prog 12 #[.slice pa p.length pc,.agg #[.slice d.h m.H.length d.hn,.slice d.g m.G.length d.gn,.int .i64 m.first,.slice d.c m.ch.length d.cn,.slice d.t m.T.length d.tn,.slice d.q m.Q.length d.qn,.int .i64 m.steps,.int .i64 m.fin,.slice d.a m.ans.length d.an]] u fun e w'=>Below u.heap.size u w'∧∃g,e=.returned (.tuple #[.slice (some ⟨g,0,none⟩) m.H.length m.H.length,.int .i64 0])∧w'.heap[g]? = some (.cells (L.map Value.bool).toArray 4 (0,0))
 coll:∀u,Below w.heap.size w u→Calls Try.prog 13 #[.slice pa p.length pc,.agg #[.slice d.h m.H.length d.hn,.slice d.g m.G.length d.gn,.int .i64 m.first,.slice d.c m.ch.length d.cn,.slice d.t m.T.length d.tn,.slice d.q m.Q.length d.qn,.int .i64 m.steps,.int .i64 m.fin,.slice d.a m.ans.length d.an]] u fun e w'=>Below u.heap.size u w'∧∃x:MAd,e=.returned (.tuple #[.agg #[.slice x.h K.H.length x.hn,.slice x.g K.G.length x.gn,.int .i64 K.first,.slice x.c K.ch.length x.cn,.slice x.t K.T.length x.tn,.slice x.q K.Q.length x.qn,.int .i64 K.steps,.int .i64 K.fin,.slice x.a K.ans.length x.an],.int .i64 ((m.H.length:Int)-K.H.length),.int .i64 0])∧bO w' (fun _=>True) K x
 livr:∀u,Below w.heap.size w u→Calls Try.prog 15 #[.agg #[.slice d.h m.H.length d.hn,.slice d.g m.G.length d.gn,.int .i64 m.first,.slice d.c m.ch.length d.cn,.slice d.t m.T.length d.tn,.slice d.q m.Q.length d.qn,.int .i64 m.steps,.int .i64 m.fin,.slice d.a m.ans.length d.an]] u fun e w'=>Below u.heap.size u w'∧∃g,e=.returned (.slice (some ⟨g,0,none⟩) m.H.length m.H.length)∧w'.heap[g]? = some (.cells (L.map Value.bool).toArray 4 (0,0))
 colr:∀u,Below w.heap.size w u→Calls Try.prog 16 #[.agg #[.slice d.h m.H.length d.hn,.slice d.g m.G.length d.gn,.int .i64 m.first,.slice d.c m.ch.length d.cn,.slice d.t m.T.length d.tn,.slice d.q m.Q.length d.qn,.int .i64 m.steps,.int .i64 m.fin,.slice d.a m.ans.length d.an]] u fun e w'=>Below u.heap.size u w'∧∃x:MAd,e=.returned (.tuple #[.agg #[.slice x.h K.H.length x.hn,.slice x.g K.G.length x.gn,.int .i64 K.first,.slice x.c K.ch.length x.cn,.slice x.t K.T.length x.tn,.slice x.q K.Q.length x.qn,.int .i64 K.steps,.int .i64 K.fin,.slice x.a K.ans.length x.an],.int .i64 ((m.H.length:Int)-K.H.length)])∧bO w' (fun _=>True) K x
 len:L.length=m.H.length
 big:m.H.length≤400000
 kl:K.H.length≤m.H.length
theorem bQ2{p:List Cl}{pa:Option Addr}{pc:Nat}{m:Mac}{d:MAd}{w:World}(h1:Pr w (fun b=>b<w.heap.size) p pa pc)(h3:bO w (fun b=>b<w.heap.size) m d)(hb:gV m)(h0:aM p m=0):∃L K,CtC p pa pc m d w L K:=by
 obtain⟨c1,c2,c3,c4⟩:=fA h0;have c5:=aB1 h0;have hll:(dU m.H (bX m.G m.Q)).length=m.H.length:=kD _ _;refine⟨dU m.H (bX m.G m.Q),dD (dU m.H (bX m.G m.Q)) (mX m),fun u hu=>?_,fun u hu=>?_,fun u hu=>?_,fun u hu=>?_,hll,c1.len,?_⟩
 ·refine(qY p m d (h1.keep (aD.below hu _)) (h3.keep (aD.below hu _)) hb).mono fun e w' h=>?_
  obtain⟨k1,k2|k2⟩:=h
  ·obtain⟨-,g,k3,-,k4⟩:=k2
   rw[hll] at k3;exact⟨k1,g,k3,k4⟩
  ·exact absurd h0 k2.1
 ·refine(qV p m d (h1.keep (aD.below hu _)) (h3.keep (aD.below hu _)) hb).mono fun e w' h=>?_
  obtain⟨k1,k2|k2⟩:=h
  ·obtain⟨-,x,k3,k4⟩:=k2
   exact⟨k1,x,k3,k4⟩
  ·exact absurd h0 k2.1
 ·refine(aN1 m d (h3.keep (aD.below hu _)) c1.cells c2 c1.len c3 c4).mono fun e w' h=>?_
  obtain⟨g,k1,-,k2,k3⟩:=h;rw[hll] at k1;exact⟨k3,g,k1,k2⟩
 ·refine(aJ0 m d (h3.keep (aD.below hu _)) hb c1 c2 c3 c4 c5).mono fun e w' h=>?_
  obtain⟨x,k1,k2,k3⟩:=h;exact⟨k3,x,k1,k2⟩
 ·show (aN (bK _) _ m.H).length≤_
  rw[iT _ _ _ hll,←hll];exact List.countP_le_length
theorem wE(p:List Cl)(m:Mac)(d:MAd)(w:World)(pa:Option Addr)(pc:Nat)(h1:Pr w (fun _=>True) p pa pc)(h3:bO w (fun _=>True) m d)(hb:gV m) :
 Calls Try.prog 4 #[.slice pa p.length pc,.agg #[.slice d.h m.H.length d.hn,.slice d.g m.G.length d.gn,.int .i64 m.first,.slice d.c m.ch.length d.cn,.slice d.t m.T.length d.tn,.slice d.q m.Q.length d.qn,.int .i64 m.steps,.int .i64 m.fin,.slice d.a m.ans.length d.an]] w fun e w'=>e=.returned (.bool true)∧Below w.heap.size w w':=by
 have H1:Hid (Pr w (fun b=>b<w.heap.size) p pa pc):=lh (h1.mono fun b hb _=>hb);have H3:Hid (bO w (fun b=>b<w.heap.size) m d):=lh (h3.mono fun b hb _=>hb);obtain⟨ck,hck⟩:∃k,aM p m=k:=⟨_,rfl⟩
 have HRC:Hid (∀u,Below w.heap.size w u→Calls Try.prog 8 #[.slice pa p.length pc,.agg #[.slice d.h m.H.length d.hn,.slice d.g m.G.length d.gn,.int .i64 m.first,.slice d.c m.ch.length d.cn,.slice d.t m.T.length d.tn,.slice d.q m.Q.length d.qn,.int .i64 m.steps,.int .i64 m.fin,.slice d.a m.ans.length d.an]] u fun e w'=>e=.returned (.int .i64 (ck:Nat))∧Below u.heap.size u w'):=lh fun u hu=>by
  have h:=wP p m d (H1.out.keep (aD.below hu _)) (H3.out.keep (aD.below hu _)) hb;rw[hck] at h;exact h
 have HB0:Hid (Below w.heap.size w (w.alloc (.cells (m.vals d).toArray 30))):=lh ((bR _ _).alloc (nR _) _);have HX0:Hid (cL (w.alloc (.cells (m.vals d).toArray 30)) w.heap.size m d):=lh (cL.made w m d);simp only[Mac.vals] at HX0 HB0;by_cases h0:ck=0
 ·obtain⟨L,K,hct⟩:=bQ2 H1.out H3.out hb (hck.trans h0)
  have HCT:=lh hct;have hl:=hct.len;have hbig:=hct.big;have hkl:=hct.kl;subst h0;rw[show ((0:Nat):Int)=0 from rfl] at HRC;clear h1 h3 hb hck hct;go_enter Try.func4,Try.ntmps4;go_upto_region 1 with fail;generalize (w.alloc (.cells #[.slice d.h m.H.length d.hn,.slice d.g m.G.length d.gn,.int .i64 m.first,.slice d.c m.ch.length d.cn,.slice d.t m.T.length d.tn,.slice d.q m.Q.length d.qn,.int .i64 m.steps,.int .i64 m.fin,.slice d.a m.ans.length d.an] 30))=u0 at *;obtain⟨q0,q1,q2,q3,q4,q5,q6,q7,q8,-⟩:=HX0.out.all;go_upto_region 2 with (go_at_call 12;refine(HCT.out.live _ HB0.out).mono ?_;rintro e w1 ⟨hb1,g1,rfl,hg1⟩;have HB1:=lh (HB0.out.trans (hb1.mono HB0.out.size));have HG1:=lh hg1;have HX1:=lh (HX0.out.below hb1);clear hb1 hg1);clear q0 q1 q2 q3 q4 q5 q6 q7 q8 HX0 HB0;obtain⟨q0,q1,q2,q3,q4,q5,q6,q7,q8,-⟩:=HX1.out.all;go_upto_region 3 with (go_at_call 13;refine(HCT.out.coll _ HB1.out).mono ?_;rintro e w2 ⟨hb2,x,rfl,hx2⟩;have HB2:=lh hb2;have HM2:=lh hx2;clear hb2 hx2);have K2:Below w2.heap.size w2 (w2.alloc (.cells #[.slice x.h K.H.length x.hn,.slice x.g K.G.length x.gn,.int .i64 K.first,.slice x.c K.ch.length x.cn,.slice x.t K.T.length x.tn,.slice x.q K.Q.length x.qn,.int .i64 K.steps,.int .i64 K.fin,.slice x.a K.ans.length x.an] 30)):=(bR _ _).alloc (nR _) _;have HB3:=lh (HB1.out.trans ((HB2.out.trans (K2.mono HB2.out.size)).mono HB1.out.size));have HX3:=lh (HX1.out.below (HB2.out.trans (K2.mono HB2.out.size)));have HY3:Hid (cL (w2.alloc (.cells #[.slice x.h K.H.length x.hn,.slice x.g K.G.length x.gn,.int .i64 K.first,.slice x.c K.ch.length x.cn,.slice x.t K.T.length x.tn,.slice x.q K.Q.length x.qn,.int .i64 K.steps,.int .i64 K.fin,.slice x.a K.ans.length x.an] 30)) w2.heap.size K x):=lh (cL.made w2 K x);have HM3:=lh (HM2.out.keep (aD.below K2 _));have HG3:=lh (((HB2.out.trans (K2.mono HB2.out.size)).block g1 (gS HG1.out).1).trans HG1.out);clear K2 q0 q1 q2 q3 q4 q5 q6 q7 q8 HX1 HB1 HB2 HM2 HG1;generalize (w2.alloc (.cells #[.slice x.h K.H.length x.hn,.slice x.g K.G.length x.gn,.int .i64 K.first,.slice x.c K.ch.length x.cn,.slice x.t K.T.length x.tn,.slice x.q K.Q.length x.qn,.int .i64 K.steps,.int .i64 K.fin,.slice x.a K.ans.length x.an] 30))=w3 at *;generalize w2.heap.size=bx at *;obtain⟨q0,q1,q2,q3,q4,q5,q6,q7,q8,-⟩:=HX3.out.all;go_upto_region 4 with (go_at_call 8;refine(HRC.out _ HB3.out).mono ?_;rintro e w4 ⟨rfl,hb4⟩;have HB4:=lh hb4;clear hb4);go_upto_region 8 with (go_at_call 14;refine(nY _).mono ?_;rintro e w5 ⟨rfl,hb5⟩;have HB5:=lh (HB4.out.trans (hb5.mono HB4.out.size));clear hb5);clear q0 q1 q2 q3 q4 q5 q6 q7 q8;have HX5:=lh (HX3.out.below HB5.out);obtain⟨q0,q1,q2,q3,q4,q5,q6,q7,q8,-⟩:=HX5.out.all;go_upto_region 9 with (go_at_call 15;refine(HCT.out.livr _ (HB3.out.trans (HB5.out.mono HB3.out.size))).mono ?_;rintro e w6 ⟨hb6,g2,rfl,hg2⟩;have HB6:=lh (HB5.out.trans (hb6.mono HB5.out.size));have HG2:=lh hg2;clear hb6 hg2);have HG6:=lh ((HB6.out.block g1 (gS HG3.out).1).trans HG3.out);clear q0 q1 q2 q3 q4 q5 q6 q7 q8 HX5 HB5 HB4;go_upto_region 12 with fail
  go_loopw[12] (fun v12 wr=>∃i:Nat,i≤m.H.length∧v12=.int .i64 i∧Hid (Below w6.heap.size w6 wr)) (fun v12 _=>m.H.length-(intOf v12).toNat)
  case atStart=>exact⟨0,Nat.zero_le _,rfl,lh (bR _ _)⟩
  case round =>
   rename World=>wr
   obtain⟨i,hi,rfl,HL⟩:=hrel;by_cases hlt:i<m.H.length
   ·have hiL:i<L.length:=by omega
    have c1:wr.cell? ⟨g1,i,none⟩=some (.bool L[i]):=by
     have h:=(HL.out.block g1 (gS HG6.out).1).trans HG6.out;simp[World.cell?,h,hiL]
    have c2:wr.cell? ⟨g2,i,none⟩=some (.bool L[i]):=by
     have h:=(HL.out.block g2 (gS HG2.out).1).trans HG2.out;simp[World.cell?,h,hiL]
    generalize L[i]=bl at *;have DQ:=bP wr;cases bl with
    | false =>
     go_wp2_with fail
     go_quiet (fail)
     rename_i nq;have hB:=DQ nq;generalize wr.drewN nq=wq at *;go_wp2_with fail;go_roundw
     case measure=>simp[intOf];omega
     case rel=>exact⟨i+1,by omega,by go_num,lh (HL.out.trans (hB.mono HL.out.size))⟩
    | true =>
     go_wp2_with fail
     go_quiet (fail)
     rename_i nq;have hB:=DQ nq;generalize wr.drewN nq=wq at *;go_wp2_with fail;go_roundw
     case measure=>simp[intOf];omega
     case rel=>exact⟨i+1,by omega,by go_num,lh (HL.out.trans (hB.mono HL.out.size))⟩
   ·have HB7:=lh (HB6.out.trans (HL.out.mono HB6.out.size))
    have HX7:=lh (HX3.out.below HB7.out);obtain⟨q0,q1,q2,q3,q4,q5,q6,q7,q8,-⟩:=HX7.out.all;go_upto_region 17 with (go_at_call 16;refine(HCT.out.colr _ (HB3.out.trans (HB7.out.mono HB3.out.size))).mono ?_;rintro e w8 ⟨hb8,y,rfl,hy8⟩;have HB8:=lh (HB7.out.trans (hb8.mono HB7.out.size));have HM8:=lh hy8;clear hb8 hy8);have K9:Below w8.heap.size w8 (w8.alloc (.cells #[.slice y.h K.H.length y.hn,.slice y.g K.G.length y.gn,.int .i64 K.first,.slice y.c K.ch.length y.cn,.slice y.t K.T.length y.tn,.slice y.q K.Q.length y.qn,.int .i64 K.steps,.int .i64 K.fin,.slice y.a K.ans.length y.an] 30)):=(bR _ _).alloc (nR _) _;have HB9:=lh (HB8.out.trans (K9.mono HB8.out.size));have HY9:=lh (HY3.out.below HB9.out);have HZ9:Hid (cL (w8.alloc (.cells #[.slice y.h K.H.length y.hn,.slice y.g K.G.length y.gn,.int .i64 K.first,.slice y.c K.ch.length y.cn,.slice y.t K.T.length y.tn,.slice y.q K.Q.length y.qn,.int .i64 K.steps,.int .i64 K.fin,.slice y.a K.ans.length y.an] 30)) w8.heap.size K y):=lh (cL.made w8 K y);have HSM:=lh (zA K x y (HM3.out.keep (aD.below HB9.out _)) (HM8.out.keep (aD.below K9 _)));clear K9 q0 q1 q2 q3 q4 q5 q6 q7 q8 HX7;generalize (w8.alloc (.cells #[.slice y.h K.H.length y.hn,.slice y.g K.G.length y.gn,.int .i64 K.first,.slice y.c K.ch.length y.cn,.slice y.t K.T.length y.tn,.slice y.q K.Q.length y.qn,.int .i64 K.steps,.int .i64 K.fin,.slice y.a K.ans.length y.an] 30))=w9 at *;generalize w8.heap.size=bz at *;obtain⟨q0,q1,q2,q3,q4,q5,q6,q7,q8,-⟩:=HY9.out.all;obtain⟨r0,r1,r2,r3,r4,r5,r6,r7,r8,-⟩:=HZ9.out.all;go_wp2_with (go_at_call 10;refine HSM.out.mono ?_;rintro e w10 ⟨rfl,hb10⟩;have HB10:=lh (HB9.out.trans (hb10.mono HB9.out.size));clear hb10);go_ret;exact⟨rfl,HB3.out.trans (HB10.out.mono HB3.out.size)⟩
 ·have t0:((ck:Int) != 0)=true:=by rw[bne_iff_ne];omega
  have HLV:Hid (∀u,Below w.heap.size w u→Calls Try.prog 12 #[.slice pa p.length pc,.agg #[.slice d.h m.H.length d.hn,.slice d.g m.G.length d.gn,.int .i64 m.first,.slice d.c m.ch.length d.cn,.slice d.t m.T.length d.tn,.slice d.q m.Q.length d.qn,.int .i64 m.steps,.int .i64 m.fin,.slice d.a m.ans.length d.an]] u fun e w'=>Below u.heap.size u w'∧e=.returned (.tuple #[.slice none 0 0,.int .i64 (ck:Nat)])):=lh fun u hu=>by
   refine(qY p m d (H1.out.keep (aD.below hu _)) (H3.out.keep (aD.below hu _)) hb).mono fun e w' h=>?_
   obtain⟨k1,k2|k2⟩:=h
   ·exact absurd (hck.symm.trans k2.1) h0
   ·rw[hck] at k2;exact⟨k1,k2.2⟩
  have HCL:Hid (∀u,Below w.heap.size w u→Calls Try.prog 13 #[.slice pa p.length pc,.agg #[.slice d.h m.H.length d.hn,.slice d.g m.G.length d.gn,.int .i64 m.first,.slice d.c m.ch.length d.cn,.slice d.t m.T.length d.tn,.slice d.q m.Q.length d.qn,.int .i64 m.steps,.int .i64 m.fin,.slice d.a m.ans.length d.an]] u fun e w'=>Below u.heap.size u w'∧e=.returned (.tuple #[.agg #[.slice none 0 0,.slice none 0 0,.int .i64 0,.slice none 0 0,.slice none 0 0,.slice none 0 0,.int .i64 0,.int .i64 0,.slice none 0 0],.int .i64 0,.int .i64 (ck:Nat)])):=lh fun u hu=>by
   refine(qV p m d (H1.out.keep (aD.below hu _)) (H3.out.keep (aD.below hu _)) hb).mono fun e w' h=>?_
   obtain⟨k1,k2|k2⟩:=h
   ·exact absurd (hck.symm.trans k2.1) h0
   ·rw[hck] at k2;exact⟨k1,k2.2⟩
  clear h1 h3 hb hck h0;go_enter Try.func4,Try.ntmps4;go_upto_region 1 with fail;generalize (w.alloc (.cells #[.slice d.h m.H.length d.hn,.slice d.g m.G.length d.gn,.int .i64 m.first,.slice d.c m.ch.length d.cn,.slice d.t m.T.length d.tn,.slice d.q m.Q.length d.qn,.int .i64 m.steps,.int .i64 m.fin,.slice d.a m.ans.length d.an] 30))=u0 at *;obtain⟨q0,q1,q2,q3,q4,q5,q6,q7,q8,-⟩:=HX0.out.all;go_upto_region 2 with (go_at_call 12;refine(HLV.out _ HB0.out).mono ?_;rintro e w1 ⟨hb1,rfl⟩;have HB1:=lh (HB0.out.trans (hb1.mono HB0.out.size));have HX1:=lh (HX0.out.below hb1);clear hb1);clear q0 q1 q2 q3 q4 q5 q6 q7 q8 HX0 HB0;obtain⟨q0,q1,q2,q3,q4,q5,q6,q7,q8,-⟩:=HX1.out.all;go_upto_region 3 with (go_at_call 13;refine(HCL.out _ HB1.out).mono ?_;rintro e w2 ⟨hb2,rfl⟩;have HB2:=lh hb2;clear hb2);have K2:Below w2.heap.size w2 (w2.alloc (.cells #[.slice none 0 0,.slice none 0 0,.int .i64 0,.slice none 0 0,.slice none 0 0,.slice none 0 0,.int .i64 0,.int .i64 0,.slice none 0 0] 30)):=(bR _ _).alloc (nR _) _;have HB3:=lh (HB1.out.trans ((HB2.out.trans (K2.mono HB2.out.size)).mono HB1.out.size));have HX3:=lh (HX1.out.below (HB2.out.trans (K2.mono HB2.out.size)));have HY3:Hid (cL (w2.alloc (.cells #[.slice none 0 0,.slice none 0 0,.int .i64 0,.slice none 0 0,.slice none 0 0,.slice none 0 0,.int .i64 0,.int .i64 0,.slice none 0 0] 30)) w2.heap.size ⟨[],[],0,[],[],[],0,0,[]⟩ ⟨none,none,none,none,none,none,0,0,0,0,0,0⟩):=lh (cL.made w2 ⟨[],[],0,[],[],[],0,0,[]⟩ ⟨none,none,none,none,none,none,0,0,0,0,0,0⟩);clear K2 q0 q1 q2 q3 q4 q5 q6 q7 q8 HX1 HB1 HB2;generalize (w2.alloc (.cells #[.slice none 0 0,.slice none 0 0,.int .i64 0,.slice none 0 0,.slice none 0 0,.slice none 0 0,.int .i64 0,.int .i64 0,.slice none 0 0] 30))=w3 at *;generalize w2.heap.size=bx at *;obtain⟨q0,q1,q2,q3,q4,q5,q6,q7,q8,-⟩:=HX3.out.all;go_upto_region 4 with (go_at_call 8;refine(HRC.out _ HB3.out).mono ?_;rintro e w4 ⟨rfl,hb4⟩;have HB4:=lh hb4;clear hb4);go_upto_region 7 with (go_at_call 14;refine(nY _).mono ?_;rintro e w5 ⟨rfl,hb5⟩;have HB5:=lh (HB4.out.trans (hb5.mono HB4.out.size));clear hb5);obtain⟨z0,z1,z2,z3,z4,z5,z6,z7,z8,-⟩:=(HY3.out.below HB5.out).all;simp only[List.length_nil] at z0;clear q0 q1 q2 q3 q4 q5 q6 q7 q8 z1 z2 z3 z4 z5 z6 z7 z8;go_wp2_with fail;go_ret;exact⟨rfl,HB3.out.trans (HB5.out.mono HB3.out.size)⟩
theorem nS(os:Os)(started:os.Started)(H:Type)(enc:TypeId×Value→H) :
 ReturnsInHanded {} Try.checked os 4 .any (Rows.collectTellsSpec.pre6 enc Try.prog Try.f4 Rows.collectTellsRow.domain false) (Rows.collectTellsSpec.post enc Try.prog Try.f4 false true false false):=by
 refine returnsInHanded_of_change_sized (C:=Try.checked) Try.own started (by kernel_rfl) Try.func4
  (ChangeSpec.witness6 (enc:=enc) (C:=Try.checked) false ⟨#[],#[.slice none 0 0,.agg #[.slice none 0 0,.slice none 0 0,.int .i64 0,.slice none 0 0,.slice none 0 0,.slice none 0 0,.int .i64 0,.int .i64 0,.slice none 0 0]],[]⟩ 8 (by kernel_rfl) (by kernel_rfl) (by kernel_rfl) (by kernel_rfl)) ?_
 intro W base args ds gs before hval0 hW hcnd hsz0 _;have hval:∀(j:Nat) t v,Try.f4.params[j]? = some t→args[j]? = some v→Value.okWide Try.prog W .any base t v:=hval0;have hsz:(DataW.weightsEach Try.prog (Try.f4.params.toList++Rows.collectTellsSpec.plain.varTypes Try.prog) (ds++gs)).all (·≤reachBytes)=true:=hsz0;have hW':=hW;obtain⟨p,q,hA0,hV,rfl,hfz,hnd⟩:=hW;have hA:DataW.TrodAll enc Try.prog W 0 (fun _=>true) true Try.f4.params.toList args.toList ds p:=hA0;rw[Try.params4] at hA hval hsz;obtain⟨v0,vs0,d0,ds0,p0,q0,hargs,rfl,rfl,h0,r0⟩:=trodAll_cons hA;obtain⟨v2,vs2,d2,ds2,p2,q2,rfl,rfl,rfl,h2,r2⟩:=trodAll_cons r0;obtain⟨rfl,rfl,rfl⟩:=trodAll_nil r2;obtain rfl:args = #[v0,v2]:=by cases args;simp_all
 obtain⟨rfl,rfl⟩:=trodVars_none hV;have lt0:∀x∈p0,x.block<W.heap.size:=by obtain⟨m,hm⟩:=h0;exact DataW.trod_lt m _ _ _ hm
 have lt2:∀x∈p2,x.block<W.heap.size:=by obtain⟨m,hm⟩:=h2;exact DataW.trod_lt m _ _ _ hm
 have k0:=h0;have k2:=h2;obtain⟨s0,n0,c0,rfl⟩:=okWide_slice Try.underlying23 (hval 0 23 v0 rfl rfl);obtain⟨cs2,rfl,hcs2⟩:=okWide_struct Try.underlying30 (hval 1 30 v2 rfl rfl);obtain⟨m0,hm0⟩:=h0;obtain⟨m2,hm2⟩:=h2;have hz2:eJ 30 d2:=fun k hk=>by
  have:=List.all_eq_true.1 hsz k (DataW.weights_mem_each (j:=1) (t:=30) (d:=d2) rfl rfl k hk);simpa using this
 obtain⟨P,a1,cap1,e1,ht1⟩:=bH3 hm0;obtain⟨M,D,e3,ht3,hbig,-⟩:=bA9 hm2 hz2;simp only[Value.cells,List.cons.injEq,and_true,Value.slice.injEq] at e1;obtain⟨rfl,rfl,rfl⟩:=e1;have e4:cs2=(M.vals D).toArray:=by
  have:cs2.toList=M.vals D:=e3;rw[←this]
 subst e4;clear hA0 hval0 hval hsz0;refine(wE P M D W s0 c0 ht1 ht3 hbig).mono fun e W' ⟨he,bel⟩=>?_
 subst he;exact⟨_,rfl,_,_,_,[],_,[],hW',trodAll_mk1 (shut_bool Try.underlying4 _),
  (trodAll_cons_mk (Below.trod Try.laidOut (by kernel_rfl) (of_decide_eq_true (by kernel_rfl)) k0 bel lt0)
   (trodAll_cons_mk (Below.trod Try.laidOut (by kernel_rfl) (of_decide_eq_true (by kernel_rfl)) k2 bel lt2) trodAll_mk0)),rfl,bel.frame _,fun h=>by cases h⟩
theorem collectTells_holds:Rows.CollectTellsSaid :=
 OpenClaim.holds_of_wide 4 Try.f4 rfl rfl rfl rfl rfl rfl rfl ⟨rfl,rfl,rfl,rfl,rfl⟩ rfl rfl rfl rfl rfl (by kernel_rfl) Try.func4 (by kernel_rfl)
  (of_decide_eq_true (by kernel_rfl)) (by unfold Func.isWrapper;first|(rw[if_pos (by decide +kernel)];kernel_rfl)|(rw[if_neg (by decide +kernel)];exact⟨rfl,rfl⟩))
  (fun os started H enc _=>nS os started H enc)
#print axioms collectTells_holds
end Go.Proofs.Ytikmgiapjigghab
