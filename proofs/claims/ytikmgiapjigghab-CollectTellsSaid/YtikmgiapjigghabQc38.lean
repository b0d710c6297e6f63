/- Walk: what the statements on collecting ask first. -/
import Derived.Deep.RegionHeld3
import Derived.Deep.CutRange
import Derived.Test.YtikmgiapjigghabQc35
import Derived.Test.YtikmgiapjigghabQc36
set_option maxRecDepth 100000
set_option maxHeartbeats 8000000
namespace Go.Proofs.Ytikmgiapjigghab
open Go.RowKit
structure bN7(M0 M1:Mac):Prop where
 start:∀(u:World) (a:Addr) (qa:Option Addr),Pr u (fun b=>b<u.heap.size) bI (some a) 2→Ts u (fun _=>True) jQ qa 1→Calls Try.prog 21 #[.slice (some a) 2 2,.slice qa 1 1] u fun e w'=>Below u.heap.size u w'∧∃d,e=.returned (.tuple #[.agg #[.slice d.h M0.H.length d.hn,.slice d.g M0.G.length d.gn,.int .i64 M0.first,.slice d.c M0.ch.length d.cn,.slice d.t M0.T.length d.tn,.slice d.q M0.Q.length d.qn,.int .i64 M0.steps,.int .i64 M0.fin,.slice d.a M0.ans.length d.an],.int .i64 0])∧bO w' (fun _=>True) M0 d
 step:∀(u:World) (a:Addr) (d:MAd) (b2:Nat),Pr u (fun b=>b≠b2) bI (some a) 2→b2<u.heap.size→bO u (fun b=>b≠b2) M0 d→Calls Try.prog 7 #[.slice (some a) 2 2,.agg #[.slice d.h M0.H.length d.hn,.slice d.g M0.G.length d.gn,.int .i64 M0.first,.slice d.c M0.ch.length d.cn,.slice d.t M0.T.length d.tn,.slice d.q M0.Q.length d.qn,.int .i64 M0.steps,.int .i64 M0.fin,.slice d.a M0.ans.length d.an]] u fun e w'=>Below u.heap.size u w'∧∃d,e=.returned (.tuple #[.agg #[.slice d.h M1.H.length d.hn,.slice d.g M1.G.length d.gn,.int .i64 M1.first,.slice d.c M1.ch.length d.cn,.slice d.t M1.T.length d.tn,.slice d.q M1.Q.length d.qn,.int .i64 M1.steps,.int .i64 M1.fin,.slice d.a M1.ans.length d.an],.int .i64 0])∧bO w' (fun b=>b≠b2) M1 d
theorem bN8{S0 S1:MS}(h0:kA jQ 1=S0)(h1:kW bI S0=S1):bN7 S0.mac S1.mac:=by
 have hr0:=xN;rw[h0] at hr0;have hans0:S0.ans = []:=by rw[←h0];rfl
 have hfin0:S0.fin=0:=by rw[←h0];rfl
 refine⟨fun u a qa hpr hq=>?_,fun u a d b2 hpr hb2 hma=>?_⟩
 ·refine(bG8 hpr hq).mono fun e w' h=>?_
  unfold kG at h;rw[if_pos (aR8 0 (by decide)),yN,h0] at h;exact h
 ·have hck:aM bI S0.mac=0:=sT lQ (hr0.mv.core hfin0) hr0.big.2 (by rw[hr0.q];decide) (by rw[hr0.mv.steps];decide) (by rw[hfin0];decide)
  have hbig:gV S0.mac:=hr0.macbig (by decide) rfl fun l hl=>by rw[hans0] at hl;cases hl
  refine(bN0 (Zx:=fun b=>b=b2) (ok:=fun b=>b≠b2) (fun b e=>by have e':b=b2:=e;rw[e'];exact hb2) (fun b h e=>h e) hpr hma hbig (by rw[hans0];rfl) hck (PgI.of lQ) (by decide) (by decide) hr0 (fun _=>by decide)).mono fun e w' h=>?_
  unfold yJ at h;rw[h1] at h;exact h
structure bN9(M1 K:Mac):Prop where
 live:∀(u:World) (a:Addr) (d:MAd) (ok:Nat→Prop),Pr u (fun b=>b<u.heap.size) bI (some a) 2→bO u ok M1 d→Calls Try.prog 12 #[.slice (some a) 2 2,.agg #[.slice d.h M1.H.length d.hn,.slice d.g M1.G.length d.gn,.int .i64 M1.first,.slice d.c M1.ch.length d.cn,.slice d.t M1.T.length d.tn,.slice d.q M1.Q.length d.qn,.int .i64 M1.steps,.int .i64 M1.fin,.slice d.a M1.ans.length d.an]] u fun e w'=>Below u.heap.size u w'∧∃g,e=.returned (.tuple #[.slice (some ⟨g,0,none⟩) M1.H.length M1.H.length,.int .i64 0])
 coll:∀(u:World) (a:Addr) (d:MAd) (ok:Nat→Prop),Pr u (fun b=>b<u.heap.size) bI (some a) 2→bO u ok M1 d→Calls Try.prog 13 #[.slice (some a) 2 2,.agg #[.slice d.h M1.H.length d.hn,.slice d.g M1.G.length d.gn,.int .i64 M1.first,.slice d.c M1.ch.length d.cn,.slice d.t M1.T.length d.tn,.slice d.q M1.Q.length d.qn,.int .i64 M1.steps,.int .i64 M1.fin,.slice d.a M1.ans.length d.an]] u fun e w'=>Below u.heap.size u w'∧∃d':MAd,e=.returned (.tuple #[.agg #[.slice d'.h K.H.length d'.hn,.slice d'.g K.G.length d'.gn,.int .i64 K.first,.slice d'.c K.ch.length d'.cn,.slice d'.t K.T.length d'.tn,.slice d'.q K.Q.length d'.qn,.int .i64 K.steps,.int .i64 K.fin,.slice d'.a K.ans.length d'.an],.int .i64 ((M1.H.length:Int)-K.H.length),.int .i64 0])
 ans:K.ans.length=1
 len:M1.H.length≤400000
 kl:K.H.length≤M1.H.length
theorem bI7{w:World}{b:Nat}(h:w.heap[b]? = some (.cells #[.slice none 0 0,.slice none 0 0,.int .i64 0,.slice none 0 0,.slice none 0 0,.slice none 0 0,.int .i64 0,.int .i64 0,.slice none 0 0] 30 (0,0))):w.cell? ⟨b,0,none⟩=some (.slice none 0 0)∧w.cell? ⟨b,1,none⟩=some (.slice none 0 0)∧w.cell? ⟨b,2,none⟩=some (.int .i64 0)∧w.cell? ⟨b,3,none⟩=some (.slice none 0 0)∧w.cell? ⟨b,4,none⟩=some (.slice none 0 0)∧w.cell? ⟨b,5,none⟩=some (.slice none 0 0)∧w.cell? ⟨b,6,none⟩=some (.int .i64 0)∧w.cell? ⟨b,7,none⟩=some (.int .i64 0)∧w.cell? ⟨b,8,none⟩=some (.slice none 0 0)∧∀o,w.frozen? ⟨b,o,none⟩=false :=
 ⟨by simp[World.cell?,h],by simp[World.cell?,h],by simp[World.cell?,h],by simp[World.cell?,h],by simp[World.cell?,h],by simp[World.cell?,h],by simp[World.cell?,h],by simp[World.cell?,h],by simp[World.cell?,h],fun o=>by simp[World.frozen?,h]⟩
theorem bO0{S0 S1:MS}(h0:kA jQ 1=S0)(h1:kW bI S0=S1):∃K,bN9 S1.mac K:=by
 have hm:=aE4;rw[h0,h1] at hm;have hll:(dU S1.mac.H (bX S1.mac.G S1.mac.Q)).length=S1.mac.H.length:=kD _ _;refine⟨dD (dU S1.mac.H (bX S1.mac.G S1.mac.Q)) (mX S1.mac),fun u a d ok hpr hma=>?_,fun u a d ok hpr hma=>?_,?_,(fA hm.check).1.len,?_⟩
 ·refine(qY bI S1.mac d (hpr.mono fun _ _ _=>trivial) (hma.mono fun _ _ _=>trivial) hm.big).mono fun e w' h=>?_
  obtain⟨hb,h|h⟩:=h
  ·obtain⟨-,g,h2,-⟩:=h
   rw[hll] at h2;exact⟨hb,g,h2⟩
  ·exact absurd hm.check h.1
 ·refine(qV bI S1.mac d (hpr.mono fun _ _ _=>trivial) (hma.mono fun _ _ _=>trivial) hm.big).mono fun e w' h=>?_
  obtain⟨hb,h|h⟩:=h
  ·obtain⟨-,d',h2,-⟩:=h
   exact⟨hb,d',h2⟩
  ·exact absurd hm.check h.1
 ·show ((S1.mac.ans).map mvA).length=1
  rw[List.length_map];show S1.ans.length=1;rw[hm.ans];rfl
 ·show (aN (bK _) _ S1.mac.H).length≤_
  rw[iT _ _ _ hll,←hll];exact List.countP_le_length
theorem nY(w:World):Calls Try.prog 14 #[] w fun e w'=>e=.returned (.bool true)∧Below w.heap.size w w':=by
 obtain⟨M0,M1,K,hbc,hbd⟩:∃M0 M1 K,bN7 M0 M1∧bN9 M1 K:=by
  obtain⟨K,hk⟩:=bO0 rfl rfl;exact⟨_,_,K,bN8 rfl rfl,hk⟩
 have HBC:=lh hbc;have HBD:=lh hbd;clear hbc hbd;go_enter Try.func14,Try.ntmps14;go_wp2_with fail;refine(tH _).mono ?_;rintro e w5 ⟨a5,rfl,hpr5,hb5⟩;have HP5:=lh hpr5;have HB5:=lh hb5;clear hpr5 hb5;go_wp2_with fail;refine(vaW _ _).mono ?_;rintro e w2 ⟨rfl,hb2⟩;go_wp2_with fail;refine(fnW _ _ _ _ _).mono ?_;rintro e w3 ⟨rfl,hb3⟩;have T1:=(vZ (w:=w2) (ok:=fun _=>True) (aQ 1) (Ts.empty _ _) (iO _ _ _ (by decide) (by decide) (by decide)) trivial).keep (aD.below hb3 _);have T2:=vZ (w:=w3) (tP (aQ 1)) T1 (iO _ _ _ (by decide) (by decide) (by decide)) trivial;have K13:=(hb2.alloc hb2.size (.cells #[.int .i64 1,.string ⟨#[]⟩,.slice none 0 0] 71)).trans (hb3.mono (by have:=hb2.size;simp;omega));have K14:=K13.alloc K13.size (.cells #[.int .i64 0,.string ⟨#[112]⟩,.slice (some ⟨w2.heap.size,0,none⟩) 1 1] 71);have B4:=lh K14;have HT2:Hid (Ts (w3.alloc (.cells #[.int .i64 0,.string ⟨#[112]⟩,.slice (some ⟨w2.heap.size,0,none⟩) 1 1] 71)) (fun _=>True) jQ (some ⟨w3.heap.size,0,none⟩) 1):=lh T2;clear hb2 hb3 T1 T2 K13 K14;go_wp2_with fail;generalize (w3.alloc (.cells #[.int .i64 0,.string ⟨#[112]⟩,.slice (some ⟨w2.heap.size,0,none⟩) 1 1] 71))=wa at *;generalize w3.heap.size=bq at *;have HST:=lh (HBC.out.start wa a5 (some ⟨bq,0,none⟩) ((HP5.out.keep (aD.below B4.out _)).mono fun b hb _=>hb) HT2.out);refine HST.out.mono ?_;rintro e w6 ⟨hb6,d6,rfl,hm6⟩;have HM6:=lh hm6;have HB6:Hid (Below w.heap.size w w6):=lh ((HB5.out.trans (B4.out.mono HB5.out.size)).trans (hb6.mono (Nat.le_trans HB5.out.size B4.out.size)));have HN7:=lh (heap_alloc_new w6 (.cells #[.slice d6.h M0.H.length d6.hn,.slice d6.g M0.G.length d6.gn,.int .i64 M0.first,.slice d6.c M0.ch.length d6.cn,.slice d6.t M0.T.length d6.tn,.slice d6.q M0.Q.length d6.qn,.int .i64 M0.steps,.int .i64 M0.fin,.slice d6.a M0.ans.length d6.an] 30));have hB7:Below w6.heap.size w6 (w6.alloc (.cells #[.slice d6.h M0.H.length d6.hn,.slice d6.g M0.G.length d6.gn,.int .i64 M0.first,.slice d6.c M0.ch.length d6.cn,.slice d6.t M0.T.length d6.tn,.slice d6.q M0.Q.length d6.qn,.int .i64 M0.steps,.int .i64 M0.fin,.slice d6.a M0.ans.length d6.an] 30)):=(bR _ _).alloc (nR _) _;have HB7:=lh hB7;clear hb6 hm6 hB7 HST;go_upto_region 2 with fail;generalize w6.alloc (.cells #[.slice d6.h M0.H.length d6.hn,.slice d6.g M0.G.length d6.gn,.int .i64 M0.first,.slice d6.c M0.ch.length d6.cn,.slice d6.t M0.T.length d6.tn,.slice d6.q M0.Q.length d6.qn,.int .i64 M0.steps,.int .i64 M0.fin,.slice d6.a M0.ans.length d6.an] 30)=w7 at *;have HL7:Hid (w6.heap.size<w7.heap.size):=lh (gS HN7.out).1;have HM7:Hid (bO w7 (fun b=>b≠w6.heap.size) M0 d6):=lh ((HM6.out.mono (ok':=fun b=>b≠w6.heap.size) fun b hb _=>by omega).keep (aD.below HB7.out _))
 go_cut[3] from 18 to 23 (fun x3 wx=>∃d7,x3=.int .i64 0∧Hid (wx.heap[w6.heap.size]? = some (.cells #[.slice d7.h M1.H.length d7.hn,.slice d7.g M1.G.length d7.gn,.int .i64 M1.first,.slice d7.c M1.ch.length d7.cn,.slice d7.t M1.T.length d7.tn,.slice d7.q M1.Q.length d7.qn,.int .i64 M1.steps,.int .i64 M1.fin,.slice d7.a M1.ans.length d7.an] 30 (0,0)))∧Hid (bO wx (fun b=>b≠w6.heap.size) M1 d7)∧Hid (Below w6.heap.size w6 wx))
 case first =>
  have HX7:Hid (cL w7 w6.heap.size M0 d6):=lh ⟨HN7.out⟩;have KY:Hid (∀(u v:World) (d7:MAd),Below w7.heap.size w7 u→bO u (fun b=>b≠w6.heap.size) M1 d7→u.heap[w6.heap.size]? = w7.heap[w6.heap.size]?→v=(((((((((u.setCell ⟨w6.heap.size,0,none⟩ (.slice d7.h M1.H.length d7.hn)).setCell ⟨w6.heap.size,1,none⟩ (.slice d7.g M1.G.length d7.gn)).setCell ⟨w6.heap.size,2,none⟩ (.int .i64 M1.first)).setCell ⟨w6.heap.size,3,none⟩ (.slice d7.c M1.ch.length d7.cn)).setCell ⟨w6.heap.size,4,none⟩ (.slice d7.t M1.T.length d7.tn)).setCell ⟨w6.heap.size,5,none⟩ (.slice d7.q M1.Q.length d7.qn)).setCell ⟨w6.heap.size,6,none⟩ (.int .i64 M1.steps)).setCell ⟨w6.heap.size,7,none⟩ (.int .i64 M1.fin)).setCell ⟨w6.heap.size,8,none⟩ (.slice d7.a M1.ans.length d7.an))→v.heap[w6.heap.size]? = some (.cells #[.slice d7.h M1.H.length d7.hn,.slice d7.g M1.G.length d7.gn,.int .i64 M1.first,.slice d7.c M1.ch.length d7.cn,.slice d7.t M1.T.length d7.tn,.slice d7.q M1.Q.length d7.qn,.int .i64 M1.steps,.int .i64 M1.fin,.slice d7.a M1.ans.length d7.an] 30 (0,0))∧bO v (fun b=>b≠w6.heap.size) M1 d7∧Below w6.heap.size w6 v):=lh fun u v d7 hu hm hb hv=>by
   subst hv;obtain⟨z1,z2⟩:=bC2 (hb.trans HN7.out) (.slice d7.h M1.H.length d7.hn) (.slice d7.g M1.G.length d7.gn) (.int .i64 M1.first) (.slice d7.c M1.ch.length d7.cn) (.slice d7.t M1.T.length d7.tn) (.slice d7.q M1.Q.length d7.qn) (.int .i64 M1.steps) (.int .i64 M1.fin) (.slice d7.a M1.ans.length d7.an);have hbu:Below w6.heap.size w6 u:=HB7.out.trans (hu.mono HB7.out.size);exact⟨z1,hm.keep (z2.keeps fun b hb=>hb),hbu.trans (z2.toBelow hbu.size fun b e=>by omega)⟩
  obtain⟨c0,c1,c2,c3,c4,c5,c6,c7,c8,cf⟩:=HX7.out.all
  go_region_with (first
   | (go_at_call 32;refine(tH _).mono ?_;rintro e w8 ⟨a8,rfl,hpr8,hb8⟩;have hb8':Below w7.heap.size w7 w8:=((Below.refl w7.heap.size w7).drew).trans hb8;obtain⟨y0,y1,y2,y3,y4,y5,y6,y7,y8,yf⟩:=(HX7.out.below hb8').all;have HPR8:=lh ((aY8 (aK3 (HX7.out.below hb8')) hpr8).mono fun _ _ h=>h.2);have HB8:=lh hb8';clear hpr8 hb8 hb8')
   | (go_at_call 7;refine(HBC.out.step w8 a8 d6 _ HPR8.out (nT HL7.out HB8.out.size) (HM7.out.keep (aD.below HB8.out _))).mono ?_;rintro e w9 ⟨hb9,d9,rfl,hm9⟩;have hx9:=hb9.block _ (nT HL7.out HB8.out.size);obtain⟨v0,v1,v2,v3,v4,v5,v6,v7,v8,vf⟩:=((HX7.out.below HB8.out).below hb9).all;have HB9:=lh hb9;have HM9:=lh hm9;clear hb9 hm9 hx9))
  all_goals
   go_wp2_with fail;go_meet
   case rel =>
    have hu:Below w7.heap.size w7 w9:=HB8.out.trans (HB9.out.mono HB8.out.size);obtain⟨k1,k2,k3⟩:=KY.out w9 _ d9 hu HM9.out (hu.block _ HL7.out) rfl;exact⟨d9,rfl,lh k1,lh k2,lh k3⟩
 case rest =>
  obtain⟨d7,rfl,HN8,HM8,HB8⟩:=hcut;generalize wc=w8 at *;have HX8:Hid (cL w8 w6.heap.size M1 d7):=lh ⟨HN8.out⟩;have HL8:Hid (w6.heap.size<w8.heap.size):=lh HX8.out.lt;go_upto_region 3 with fail
  go_cut[4,5] from 24 to 29 (fun x4 x5 wx=>∃g,x4=.slice (some ⟨g,0,none⟩) M1.H.length M1.H.length∧x5=.int .i64 0∧Hid (Below w8.heap.size w8 wx))
  case first =>
   obtain⟨c0,c1,c2,c3,c4,c5,c6,c7,c8,cf⟩:=HX8.out.all
   go_region_with (first
    | (go_at_call 32;refine(tH _).mono ?_;rintro e w9 ⟨a9,rfl,hpr9,hb9⟩;have hb9':Below w8.heap.size w8 w9:=((Below.refl w8.heap.size w8).drew).trans hb9;obtain⟨y0,y1,y2,y3,y4,y5,y6,y7,y8,yf⟩:=(HX8.out.below hb9').all;have HPR9:=lh hpr9;have HB9:=lh hb9';clear hpr9 hb9 hb9')
    | (go_at_call 12;refine(HBD.out.live w9 a9 d7 _ HPR9.out (HM8.out.keep (aD.below HB9.out _))).mono ?_;rintro e wb ⟨hbb,g,rfl⟩;have HBB:=lh hbb;clear hbb))
   all_goals
    go_wp2_with fail;go_meet
    case rel=>exact⟨g,rfl,rfl,lh (HB9.out.trans (HBB.out.mono HB9.out.size))⟩
  case rest =>
   obtain⟨g,rfl,rfl,HB9⟩:=hcut;generalize wc=w9 at *;have HX9:Hid (cL w9 w6.heap.size M1 d7):=lh (HX8.out.below HB9.out);have HM9:=lh (HM8.out.keep (aD.below HB9.out _));have hkl:=HBD.out.kl;have hml:=HBD.out.len;go_upto_region 4 with fail
   go_cut[6,7,8] from 30 to 36 (fun x6 x7 x8 wx=>∃(b:Nat) (d':MAd),x6=.pointer (some ⟨b,0,none⟩)∧x7=.int .i64 ((M1.H.length:Int)-K.H.length)∧x8=.int .i64 0∧Hid (cL wx b K d')∧Hid (Below w9.heap.size w9 wx))
   case first =>
    obtain⟨c0,c1,c2,c3,c4,c5,c6,c7,c8,cf⟩:=HX9.out.all;have zl9:w6.heap.size<w9.heap.size:=HX9.out.lt;have KA:Hid (∀(u v:World) (x:MAd),Below w9.heap.size w9 u→v=u.alloc (.cells #[.slice x.h K.H.length x.hn,.slice x.g K.G.length x.gn,.int .i64 K.first,.slice x.c K.ch.length x.cn,.slice x.t K.T.length x.tn,.slice x.q K.Q.length x.qn,.int .i64 K.steps,.int .i64 K.fin,.slice x.a K.ans.length x.an] 30)→cL v u.heap.size K x∧Below w9.heap.size w9 v):=lh fun u v x hu hv=>by
     subst hv;exact⟨⟨heap_alloc_new u _⟩,hu.alloc hu.size _⟩
    have KP:Hid (∀(u v:World) (b:Nat) (x:MAd),Below w9.heap.size w9 u→w9.heap.size≤b→u.heap[b]? = some (.cells #[.slice none 0 0,.slice none 0 0,.int .i64 0,.slice none 0 0,.slice none 0 0,.slice none 0 0,.int .i64 0,.int .i64 0,.slice none 0 0] 30 (0,0))→v=(((((((((u.setCell ⟨b,0,none⟩ (.slice x.h K.H.length x.hn)).setCell ⟨b,1,none⟩ (.slice x.g K.G.length x.gn)).setCell ⟨b,2,none⟩ (.int .i64 K.first)).setCell ⟨b,3,none⟩ (.slice x.c K.ch.length x.cn)).setCell ⟨b,4,none⟩ (.slice x.t K.T.length x.tn)).setCell ⟨b,5,none⟩ (.slice x.q K.Q.length x.qn)).setCell ⟨b,6,none⟩ (.int .i64 K.steps)).setCell ⟨b,7,none⟩ (.int .i64 K.fin)).setCell ⟨b,8,none⟩ (.slice x.a K.ans.length x.an))→cL v b K x∧Below w9.heap.size w9 v):=lh fun u v b x hu hb hz hv=>by
     subst hv;obtain⟨k1,k2⟩:=bC2 hz (.slice x.h K.H.length x.hn) (.slice x.g K.G.length x.gn) (.int .i64 K.first) (.slice x.c K.ch.length x.cn) (.slice x.t K.T.length x.tn) (.slice x.q K.Q.length x.qn) (.int .i64 K.steps) (.int .i64 K.fin) (.slice x.a K.ans.length x.an);exact⟨⟨k1⟩,hu.trans (k2.toBelow hu.size fun c e=>by omega)⟩
    go_region_with (first
     | (go_at_call 32;refine(tH _).mono ?_;rintro e wb ⟨ab,rfl,hprb,hbb⟩;(first
      | (have hbb':Below w9.heap.size w9 wb:=((Below.refl w9.heap.size w9).drew).trans hbb;have HZ:Hid True:=lh trivial;obtain⟨y0,y1,y2,y3,y4,y5,y6,y7,y8,yf⟩:=(HX9.out.below hbb').all;have zlb:w6.heap.size<wb.heap.size:=(HX9.out.below hbb').lt;have HPRB:=lh hprb;have HBB:=lh hbb';clear hprb hbb hbb')
      | (have hbb':Below w9.heap.size w9 wb:=(((Below.refl w9.heap.size w9).alloc (nR _) _).drew).trans (hbb.mono (by simp[World.drew]));have HZ:Hid (wb.heap[w9.heap.size]? = some (.cells #[.slice none 0 0,.slice none 0 0,.int .i64 0,.slice none 0 0,.slice none 0 0,.slice none 0 0,.int .i64 0,.int .i64 0,.slice none 0 0] 30 (0,0))):=lh ((hbb.block w9.heap.size (by simp[World.drew])).trans (heap_alloc_new w9 _));obtain⟨y0,y1,y2,y3,y4,y5,y6,y7,y8,yf⟩:=(HX9.out.below hbb').all;have zlb:w6.heap.size<wb.heap.size:=(HX9.out.below hbb').lt;have HPRB:=lh hprb;have HBB:=lh hbb';clear hprb hbb hbb')))
     | (go_at_call 13;(first
      | (refine(HBD.out.coll wb ab d7 _ HPRB.out (HM9.out.keep (aD.below HBB.out _))).mono ?_;rintro e wd ⟨hbd,d',rfl⟩;have HBE:=lh hbd;(first
       | (obtain⟨z0,z1,z2,z3,z4,z5,z6,z7,z8,zf⟩:=bI7 ((hbd.block _ (gS HZ.out).1).trans HZ.out);clear hbd)
       | (clear hbd)))
      | (refine(HBD.out.coll (wb.alloc (.cells #[.slice none 0 0,.slice none 0 0,.int .i64 0,.slice none 0 0,.slice none 0 0,.slice none 0 0,.int .i64 0,.int .i64 0,.slice none 0 0] 30)) ab d7 _ ((HPRB.out.keep (aD.below ((Below.refl wb.heap.size wb).alloc (nR _) _) _)).mono fun b hb _=>hb) (HM9.out.keep (aD.below (HBB.out.trans (((Below.refl wb.heap.size wb).alloc (nR _) _).mono HBB.out.size)) _))).mono ?_;rintro e wd ⟨hbd,d',rfl⟩;have HBE:Hid (Below wb.heap.size wb wd):=lh (((Below.refl wb.heap.size wb).alloc (nR _) _).trans (hbd.mono (by simp)));have HZ2:Hid (wd.heap[wb.heap.size]? = some (.cells #[.slice none 0 0,.slice none 0 0,.int .i64 0,.slice none 0 0,.slice none 0 0,.slice none 0 0,.int .i64 0,.int .i64 0,.slice none 0 0] 30 (0,0))):=lh ((hbd.block wb.heap.size (by simp)).trans (heap_alloc_new wb _));obtain⟨z0,z1,z2,z3,z4,z5,z6,z7,z8,zf⟩:=bI7 HZ2.out;clear hbd))))
    all_goals
     go_wp2_with fail;go_meet
     case rel =>
      have hbd:=HBB.out.trans (HBE.out.mono HBB.out.size);have hsz:=hbd.size
      (first
       | (obtain⟨k1,k2⟩:=KA.out wd _ d' hbd rfl;with_reducible exact⟨_,d',rfl,rfl,rfl,lh k1,lh k2⟩)
       | (obtain⟨k1,k2⟩:=KP.out wd _ wb.heap.size d' hbd HBB.out.size HZ2.out rfl;with_reducible exact⟨_,d',rfl,rfl,rfl,lh k1,lh k2⟩)
       | (obtain⟨k1,k2⟩:=KP.out wd _ w9.heap.size d' hbd (nR _) ((HBE.out.block _ (gS HZ.out).1).trans HZ.out) rfl;with_reducible exact⟨_,d',rfl,rfl,rfl,lh k1,lh k2⟩))
   case rest =>
    obtain⟨b,d',rfl,rfl,rfl,HK,HBC9⟩:=hcut;generalize wc=wz at *;have HXZ:Hid (cL wz w6.heap.size M1 d7):=lh (HX9.out.below HBC9.out);obtain⟨c0,c1,c2,c3,c4,c5,c6,c7,c8,cf⟩:=HXZ.out.all;obtain⟨k0,k1,k2,k3,k4,k5,k6,k7,k8,kf⟩:=HK.out.all;rw[HBD.out.ans] at k8;have hkl':((K.H.length:Nat):Int)≤(M1.H.length:Nat):=by omega
    go_wp2_with fail;go_ret;have b1:=HB6.out.trans (HB8.out.mono HB6.out.size);have b2:=b1.trans (HB9.out.mono b1.size);exact⟨rfl,b2.trans (HBC9.out.mono b2.size)⟩
end Go.Proofs.Ytikmgiapjigghab
