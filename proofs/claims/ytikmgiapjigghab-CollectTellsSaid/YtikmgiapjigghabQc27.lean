/- Walk: what is wrong with a machine. -/
import Derived.Test.YtikmgiapjigghabQc03
import Derived.Test.YtikmgiapjigghabQc19
import Derived.Test.YtikmgiapjigghabQc20
import Derived.Test.YtikmgiapjigghabQc21
import Derived.Test.YtikmgiapjigghabQc24
import Derived.Test.YtikmgiapjigghabQc25
import Derived.Test.YtikmgiapjigghabQc26
set_option maxRecDepth 100000
set_option maxHeartbeats 8000000
namespace Go.Proofs.Ytikmgiapjigghab
open Go.RowKit
theorem sP{H:List HC}(h:dZ H):lC H:=fun i hi h2=>by
 rcases bV (h.cells i hi) with e|e
 ·rw[e.1] at h2;cases h2
 ·exact⟨e.2.2.1,by have:=e.2.2.2.1;have:=e.2.2.1;omega⟩
theorem zL(p:List Cl)(m:Mac)(d:MAd){w:World}{ok:Nat→Prop}{pa:Option Addr}{pc:Nat}(hp:Pr w ok p pa pc)(h:bO w ok m d)(hb:gV m) :
 Calls Try.prog 22 #[.slice pa p.length pc,.agg #[.slice d.h m.H.length d.hn,.slice d.g m.G.length d.gn,.int .i64 m.first,.slice d.c m.ch.length d.cn,.slice d.t m.T.length d.tn,.slice d.q m.Q.length d.qn,.int .i64 m.steps,.int .i64 m.fin,.slice d.a m.ans.length d.an]] w
  fun e w'=>e=.returned (.int .i64 (aM p m:Nat))∧Below w.heap.size w w':=by
 have hg9:m.G.length≤9223372036854775807:=by have:=h.g.cap;unfold maxLen at this;omega
 have hq9:m.Q.length≤9223372036854775807:=by have:=h.q.cap;unfold maxLen at this;omega
 have HCL:=lh (fun u (hu:Below w.heap.size w u)=>aB4 p u ok pa pc (hp.keep (aD.below hu ok)));have HMB:=lh (fun u (hu:Below w.heap.size w u)=>h.keep (aD.below hu ok));have HXB:Hid (∀u,Below (w.heap.size+1) (w.alloc (.cells (m.vals d).toArray 30)) u→cL u w.heap.size m d):=lh fun u hu=>(cL.made w m d).below (by simpa using hu)
 have HWB:Hid (∀u,Below (w.heap.size+1) (w.alloc (.cells (m.vals d).toArray 30)) u→Below w.heap.size w u):=lh fun u hu=>((bR _ _).alloc (nR _) _).trans (hu.mono (by omega))
 have HB0:Hid (Below (w.heap.size+1) (w.alloc (.cells (m.vals d).toArray 30)) (w.alloc (.cells (m.vals d).toArray 30))):=lh (bR _ _);have HUP:Hid (∀u v,Below (w.heap.size+1) (w.alloc (.cells (m.vals d).toArray 30)) u→Below u.heap.size u v→Below (w.heap.size+1) (w.alloc (.cells (m.vals d).toArray 30)) v):=lh fun u v hu hv=>hu.trans (hv.mono (by have:=hu.size;simp at this;omega))
 have HBIG:=lh hb;clear h hp hb;simp only[Mac.vals] at HXB HWB HB0 HUP;by_cases e1:aY p=0
 ·have h1:=e1
  have t1:((aY p:Int) == 0)=true:=by rw[e1];rfl
  have t2:((aY p:Int) != 0)=false:=by rw[e1];rfl
  by_cases e2:cH m.H=0
  ·have h2:=e2
   have t3:((cH m.H:Int) != 0)=false:=by rw[e2];rfl
   have hI:=dZ.of e2;have hl4:=hI.len;have HNR:=lh (sP hI);clear hI;by_cases e3:5000<m.G.length
   ·have HR:Hid (aM p m=2):=lh (by unfold aM;rw[if_neg (fun e=>e h1),if_neg (fun e=>e h2),if_pos (.inl e3)])
    have t4:(5000:Int)<(m.G.length:Int):=by omega
    clear e1 e2 h1 h2;go_enter Try.func22,Try.ntmps22;go_wp2_with (first|(go_at_call 45;refine(HCL.out _ (HWB.out _ HB0.out)).mono ?_;rintro e w1 ⟨rfl,hb1⟩;have B1:=lh (HUP.out _ _ HB0.out hb1);obtain⟨y0,y1,y2,y3,y4,y5,y6,y7,y8,-⟩:=(HXB.out _ B1.out).all;clear hb1)|(go_at_call 50;refine(pW (HMB.out _ (HWB.out _ B1.out)).h).mono ?_;rintro e w2 ⟨rfl,hb2⟩;have B2:=lh (HUP.out _ _ B1.out hb2);obtain⟨z0,z1,z2,z3,z4,z5,z6,z7,z8,-⟩:=(HXB.out _ B2.out).all;clear hb2));go_ret;rw[HR.out];exact⟨rfl,HWB.out _ B2.out⟩
   ·by_cases e3':12<m.Q.length
    ·have HR:Hid (aM p m=2):=lh (by unfold aM;rw[if_neg (fun e=>e h1),if_neg (fun e=>e h2),if_pos (.inr e3')])
     have t4:¬(5000:Int)<(m.G.length:Int):=by omega
     have t5:(12:Int)<(m.Q.length:Int):=by omega
     clear e1 e2 h1 h2;go_enter Try.func22,Try.ntmps22;go_wp2_with (first|(go_at_call 45;refine(HCL.out _ (HWB.out _ HB0.out)).mono ?_;rintro e w1 ⟨rfl,hb1⟩;have B1:=lh (HUP.out _ _ HB0.out hb1);obtain⟨y0,y1,y2,y3,y4,y5,y6,y7,y8,-⟩:=(HXB.out _ B1.out).all;clear hb1)|(go_at_call 50;refine(pW (HMB.out _ (HWB.out _ B1.out)).h).mono ?_;rintro e w2 ⟨rfl,hb2⟩;have B2:=lh (HUP.out _ _ B1.out hb2);obtain⟨z0,z1,z2,z3,z4,z5,z6,z7,z8,-⟩:=(HXB.out _ B2.out).all;clear hb2));go_ret;rw[HR.out];exact⟨rfl,HWB.out _ B2.out⟩
    ·have h3:¬(5000<m.G.length∨12<m.Q.length):=fun e=>e.elim e3 e3'
     have t4:¬(5000:Int)<(m.G.length:Int):=by omega
     have t5:¬(12:Int)<(m.Q.length:Int):=by omega
     by_cases e4:fV m
     ·have hth:dW m=true:=cK e4
      have h4:¬dW m=false:=by rw[hth];decide
      have HTH:=lh e4;have H1:=lh h1;have H2:=lh h2;have H3:=lh h3;have H4:=lh h4;clear e1 e2 h1 h2 e3 e3' h3 h4 e4;go_enter Try.func22,Try.ntmps22;go_wp2_with (first|(go_at_call 45;refine(HCL.out _ (HWB.out _ HB0.out)).mono ?_;rintro e w1 ⟨rfl,hb1⟩;have B1:=lh (HUP.out _ _ HB0.out hb1);obtain⟨y0,y1,y2,y3,y4,y5,y6,y7,y8,-⟩:=(HXB.out _ B1.out).all;clear hb1)|(go_at_call 50;refine(pW (HMB.out _ (HWB.out _ B1.out)).h).mono ?_;rintro e w2 ⟨rfl,hb2⟩;have B2:=lh (HUP.out _ _ B1.out hb2);obtain⟨z0,z1,z2,z3,z4,z5,z6,z7,z8,-⟩:=(HXB.out _ B2.out).all;clear hb2)|(go_at_call 51;refine(aA1 m d (HMB.out _ (HWB.out _ B2.out)) HNR.out hl4).mono ?_;rintro e w3 ⟨rfl,hb3⟩;have B3:=lh (HUP.out _ _ B2.out hb3);obtain⟨x0,x1,x2,x3,x4,x5,x6,x7,x8,-⟩:=(HXB.out _ B3.out).all;clear hb3))
      go_loopw[37] (fun x37 wr=>∃i:Nat,i≤m.G.length∧x37=.int .i64 i∧Hid (Below (w.heap.size+1) (w.alloc (.cells #[.slice d.h m.H.length d.hn,.slice d.g m.G.length d.gn,.int .i64 m.first,.slice d.c m.ch.length d.cn,.slice d.t m.T.length d.tn,.slice d.q m.Q.length d.qn,.int .i64 m.steps,.int .i64 m.fin,.slice d.a m.ans.length d.an] 30)) wr)∧Hid (∀j (hj:j<m.G.length),j<i→kR m.G j hj)) (fun x37 _=>m.G.length-(intOf x37).toNat)
      case atStart=>exact⟨0,Nat.zero_le _,rfl,B3,lh fun j _ h=>absurd h (Nat.not_lt_zero j)⟩
      case round =>
       obtain⟨i,hi,rfl,BL,HG⟩:=hrel;obtain⟨q0,q1,q2,q3,q4,q5,q6,q7,q8,-⟩:=(HXB.out _ BL.out).all;by_cases hlt:i<m.G.length
       ·by_cases hg:kR m.G i hlt
        ·have hge:lA m.G i=0:=by unfold lA;rw[dif_pos hlt,if_pos hg]
         have hge':(lA m.G i != 0)=false:=by rw[hge];rfl
         have HG2:Hid (∀j (hj:j<m.G.length),j<i+1→kR m.G j hj):=lh fun j hj h=>by
          by_cases e:j=i
          ·subst e;exact hg
          ·exact HG.out j hj (by omega)
         clear hg hge;go_wp2_with (go_at_call 52;refine(bJ4 m d (HMB.out _ (HWB.out _ BL.out)) i hlt).mono ?_;rintro e w4 ⟨rfl,hb4⟩;have B4:=lh (HUP.out _ _ BL.out hb4);clear hb4);go_roundw
         case measure=>simp only[intOf];omega
         case rel=>exact⟨i+1,by omega,by go_num,B4,HG2⟩
        ·have hge:lA m.G i=4:=by unfold lA;rw[dif_pos hlt,if_neg hg]
         have hge':(lA m.G i != 0)=true:=by rw[hge];rfl
         have H5:Hid (pd (jX m.G)=false):=lh (bJ fun e=>hg (e i hlt));have HR:Hid (aM p m=4):=lh (by unfold aM;rw[if_neg (fun e=>e H1.out),if_neg (fun e=>e H2.out),if_neg H3.out,if_neg H4.out,if_pos H5.out]);have HGE:Hid (lA m.G i=4):=lh hge;clear hg hge;go_wp2_with (go_at_call 52;refine(bJ4 m d (HMB.out _ (HWB.out _ BL.out)) i hlt).mono ?_;rintro e w4 ⟨rfl,hb4⟩;have B4:=lh (HUP.out _ _ BL.out hb4);clear hb4);go_ret;rw[HR.out];refine⟨?_,HWB.out _ B4.out⟩;exact bE3 HGE.out
       ·have H5:Hid (¬pd (jX m.G)=false):=lh (by rw[cK (show jX m.G from fun j hj=>HG.out j hj (by omega))];decide)
        by_cases f1:0≤m.first∧m.first≤(m.G.length:Int)
        ·have b1:bY m.first 0 (m.G.length:Int)=true:=cV f1
         have H6:Hid (¬¬(0≤m.first∧m.first≤(m.G.length:Int))):=lh fun e=>e f1
         by_cases f2:cC p.length m.G.length m.H.length m.T.length aT m.ch
         ·have HCO:=lh f2
          have hce:dF p.length m=0:=by unfold dF;rw[if_pos (cK f2)]
          have hce':(dF p.length m != 0)=false:=by rw[hce];rfl
          have H7:Hid (¬pd (cC p.length m.G.length m.H.length m.T.length aT m.ch)=false):=lh (by rw[cK f2];decide);by_cases f3:eP m.ch.reverse m
          ·have hpl:pd (eP m.ch.reverse m)=true:=cK f3
           have H8:Hid (¬pd (eP m.ch.reverse m)=false):=lh (by rw[hpl];decide);by_cases f4:0≤m.steps∧m.steps≤400
           ·have b4:bY m.steps 0 400=true:=cV f4
            by_cases f5:0≤m.fin∧m.fin≤4
            ·have b5:bY m.fin 0 4=true:=cV f5
             have HR:Hid (aM p m=0):=lh (by unfold aM;rw[if_neg (fun e=>e H1.out),if_neg (fun e=>e H2.out),if_neg H3.out,if_neg H4.out,if_neg H5.out,if_neg H6.out,if_neg H7.out,if_neg H8.out,if_neg (by rw[cK (show jY m from ⟨f4,f5⟩)];decide)]);clear f1 f2 f3 f4 f5 hce;go_wp2_with (first|(go_at_call 53;refine(dR _ _ _ _).mono ?_;rintro e w5 ⟨rfl,rfl⟩)|(go_at_call 54;refine(mT m d (HMB.out _ (HWB.out _ BL.out)) p.length pc pa).mono ?_;rintro e w6 ⟨rfl,hb6⟩;have B6:=lh (HUP.out _ _ BL.out hb6);obtain⟨u0,u1,u2,u3,u4,u5,u6,u7,u8,-⟩:=(HXB.out _ B6.out).all;clear hb6)|(go_at_call 55;refine(mY m d (HMB.out _ (HWB.out _ B6.out)) HBIG.out HCO.out HTH.out HNR.out hl4).mono ?_;rintro e w7 ⟨rfl,hb7⟩;have B7:=lh (HUP.out _ _ B6.out hb7);obtain⟨v0,v1,v2,v3,v4,v5,v6,v7,v8,-⟩:=(HXB.out _ B7.out).all;clear hb7));go_ret;rw[HR.out];exact⟨rfl,HWB.out _ B7.out⟩
            ·have b5:bY m.fin 0 4=false:=cA f5
             have HR:Hid (aM p m=3):=lh (by unfold aM;rw[if_neg (fun e=>e H1.out),if_neg (fun e=>e H2.out),if_neg H3.out,if_neg H4.out,if_neg H5.out,if_neg H6.out,if_neg H7.out,if_neg H8.out,if_pos (bJ fun e:jY m=>f5 e.2)]);clear f1 f2 f3 f4 f5 hce;go_wp2_with (first|(go_at_call 53;refine(dR _ _ _ _).mono ?_;rintro e w5 ⟨rfl,rfl⟩)|(go_at_call 54;refine(mT m d (HMB.out _ (HWB.out _ BL.out)) p.length pc pa).mono ?_;rintro e w6 ⟨rfl,hb6⟩;have B6:=lh (HUP.out _ _ BL.out hb6);obtain⟨u0,u1,u2,u3,u4,u5,u6,u7,u8,-⟩:=(HXB.out _ B6.out).all;clear hb6)|(go_at_call 55;refine(mY m d (HMB.out _ (HWB.out _ B6.out)) HBIG.out HCO.out HTH.out HNR.out hl4).mono ?_;rintro e w7 ⟨rfl,hb7⟩;have B7:=lh (HUP.out _ _ B6.out hb7);obtain⟨v0,v1,v2,v3,v4,v5,v6,v7,v8,-⟩:=(HXB.out _ B7.out).all;clear hb7));go_ret;rw[HR.out];exact⟨rfl,HWB.out _ B7.out⟩
           ·have b4:bY m.steps 0 400=false:=cA f4
            have HR:Hid (aM p m=3):=lh (by unfold aM;rw[if_neg (fun e=>e H1.out),if_neg (fun e=>e H2.out),if_neg H3.out,if_neg H4.out,if_neg H5.out,if_neg H6.out,if_neg H7.out,if_neg H8.out,if_pos (bJ fun e:jY m=>f4 e.1)]);clear f1 f2 f3 f4 hce;go_wp2_with (first|(go_at_call 53;refine(dR _ _ _ _).mono ?_;rintro e w5 ⟨rfl,rfl⟩)|(go_at_call 54;refine(mT m d (HMB.out _ (HWB.out _ BL.out)) p.length pc pa).mono ?_;rintro e w6 ⟨rfl,hb6⟩;have B6:=lh (HUP.out _ _ BL.out hb6);obtain⟨u0,u1,u2,u3,u4,u5,u6,u7,u8,-⟩:=(HXB.out _ B6.out).all;clear hb6)|(go_at_call 55;refine(mY m d (HMB.out _ (HWB.out _ B6.out)) HBIG.out HCO.out HTH.out HNR.out hl4).mono ?_;rintro e w7 ⟨rfl,hb7⟩;have B7:=lh (HUP.out _ _ B6.out hb7);obtain⟨v0,v1,v2,v3,v4,v5,v6,v7,v8,-⟩:=(HXB.out _ B7.out).all;clear hb7));go_ret;rw[HR.out];exact⟨rfl,HWB.out _ B7.out⟩
          ·have hpl:pd (eP m.ch.reverse m)=false:=bJ f3
           have HR:Hid (aM p m=4):=lh (by unfold aM;rw[if_neg (fun e=>e H1.out),if_neg (fun e=>e H2.out),if_neg H3.out,if_neg H4.out,if_neg H5.out,if_neg H6.out,if_neg H7.out,if_pos hpl]);clear f1 f2 f3 hce;go_wp2_with (first|(go_at_call 53;refine(dR _ _ _ _).mono ?_;rintro e w5 ⟨rfl,rfl⟩)|(go_at_call 54;refine(mT m d (HMB.out _ (HWB.out _ BL.out)) p.length pc pa).mono ?_;rintro e w6 ⟨rfl,hb6⟩;have B6:=lh (HUP.out _ _ BL.out hb6);obtain⟨u0,u1,u2,u3,u4,u5,u6,u7,u8,-⟩:=(HXB.out _ B6.out).all;clear hb6)|(go_at_call 55;refine(mY m d (HMB.out _ (HWB.out _ B6.out)) HBIG.out HCO.out HTH.out HNR.out hl4).mono ?_;rintro e w7 ⟨rfl,hb7⟩;have B7:=lh (HUP.out _ _ B6.out hb7);obtain⟨v0,v1,v2,v3,v4,v5,v6,v7,v8,-⟩:=(HXB.out _ B7.out).all;clear hb7));go_ret;rw[HR.out];exact⟨rfl,HWB.out _ B7.out⟩
         ·have hcp:pd (cC p.length m.G.length m.H.length m.T.length aT m.ch)=false:=bJ f2
          have hce:dF p.length m=4:=by unfold dF;rw[if_neg (by rw[hcp];decide)]
          have hce':(dF p.length m != 0)=true:=by rw[hce];rfl
          have HR:Hid (aM p m=4):=lh (by unfold aM;rw[if_neg (fun e=>e H1.out),if_neg (fun e=>e H2.out),if_neg H3.out,if_neg H4.out,if_neg H5.out,if_neg H6.out,if_pos hcp]);have HGE:Hid (dF p.length m=4):=lh hce;clear f1 f2 hce;go_wp2_with (first|(go_at_call 53;refine(dR _ _ _ _).mono ?_;rintro e w5 ⟨rfl,rfl⟩)|(go_at_call 54;refine(mT m d (HMB.out _ (HWB.out _ BL.out)) p.length pc pa).mono ?_;rintro e w6 ⟨rfl,hb6⟩;have B6:=lh (HUP.out _ _ BL.out hb6);obtain⟨u0,u1,u2,u3,u4,u5,u6,u7,u8,-⟩:=(HXB.out _ B6.out).all;clear hb6)|(go_at_call 55;refine(mY m d (HMB.out _ (HWB.out _ B6.out)) HBIG.out HCO.out HTH.out HNR.out hl4).mono ?_;rintro e w7 ⟨rfl,hb7⟩;have B7:=lh (HUP.out _ _ B6.out hb7);obtain⟨v0,v1,v2,v3,v4,v5,v6,v7,v8,-⟩:=(HXB.out _ B7.out).all;clear hb7));go_ret;rw[HR.out];refine⟨?_,HWB.out _ B6.out⟩;exact bE3 HGE.out
        ·have b1:bY m.first 0 (m.G.length:Int)=false:=cA f1
         have HR:Hid (aM p m=4):=lh (by unfold aM;rw[if_neg (fun e=>e H1.out),if_neg (fun e=>e H2.out),if_neg H3.out,if_neg H4.out,if_neg H5.out,if_pos f1]);clear f1;go_wp2_with (go_at_call 53;refine(dR _ _ _ _).mono ?_;rintro e w5 ⟨rfl,rfl⟩);go_ret;rw[HR.out];exact⟨rfl,HWB.out _ BL.out⟩
     ·have hth:dW m=false:=bJ e4
      have HR:Hid (aM p m=5):=lh (by unfold aM;rw[if_neg (fun e=>e h1),if_neg (fun e=>e h2),if_neg h3,if_pos hth]);clear e1 e2 h1 h2 e3 e3' h3 e4;go_enter Try.func22,Try.ntmps22;go_wp2_with (first|(go_at_call 45;refine(HCL.out _ (HWB.out _ HB0.out)).mono ?_;rintro e w1 ⟨rfl,hb1⟩;have B1:=lh (HUP.out _ _ HB0.out hb1);obtain⟨y0,y1,y2,y3,y4,y5,y6,y7,y8,-⟩:=(HXB.out _ B1.out).all;clear hb1)|(go_at_call 50;refine(pW (HMB.out _ (HWB.out _ B1.out)).h).mono ?_;rintro e w2 ⟨rfl,hb2⟩;have B2:=lh (HUP.out _ _ B1.out hb2);obtain⟨z0,z1,z2,z3,z4,z5,z6,z7,z8,-⟩:=(HXB.out _ B2.out).all;clear hb2)|(go_at_call 51;refine(aA1 m d (HMB.out _ (HWB.out _ B2.out)) HNR.out hl4).mono ?_;rintro e w3 ⟨rfl,hb3⟩;have B3:=lh (HUP.out _ _ B2.out hb3);obtain⟨x0,x1,x2,x3,x4,x5,x6,x7,x8,-⟩:=(HXB.out _ B3.out).all;clear hb3));go_ret;rw[HR.out];exact⟨rfl,HWB.out _ B3.out⟩
  ·have t3:((cH m.H:Int) != 0)=true:=qW e2
   have HR:Hid (aM p m=cH m.H):=lh (by unfold aM;rw[if_neg (fun e=>e h1),if_pos e2]);clear e1 e2 h1;go_enter Try.func22,Try.ntmps22;go_wp2_with (first|(go_at_call 45;refine(HCL.out _ (HWB.out _ HB0.out)).mono ?_;rintro e w1 ⟨rfl,hb1⟩;have B1:=lh (HUP.out _ _ HB0.out hb1);obtain⟨y0,y1,y2,y3,y4,y5,y6,y7,y8,-⟩:=(HXB.out _ B1.out).all;clear hb1)|(go_at_call 50;refine(pW (HMB.out _ (HWB.out _ B1.out)).h).mono ?_;rintro e w2 ⟨rfl,hb2⟩;have B2:=lh (HUP.out _ _ B1.out hb2);obtain⟨z0,z1,z2,z3,z4,z5,z6,z7,z8,-⟩:=(HXB.out _ B2.out).all;clear hb2));go_ret;rw[HR.out];exact⟨rfl,HWB.out _ B2.out⟩
 ·have t1:((aY p:Int) == 0)=false:=by rw[beq_eq_false_iff_ne];omega
  have t2:((aY p:Int) != 0)=true:=qW e1;have HR:Hid (aM p m=aY p):=lh (by unfold aM;rw[if_pos e1]);clear e1;go_enter Try.func22,Try.ntmps22;go_wp2_with (go_at_call 45;refine(HCL.out _ (HWB.out _ HB0.out)).mono ?_;rintro e w1 ⟨rfl,hb1⟩;have B1:=lh (HUP.out _ _ HB0.out hb1);obtain⟨y0,y1,y2,y3,y4,y5,y6,y7,y8,-⟩:=(HXB.out _ B1.out).all;clear hb1);go_ret;rw[HR.out];exact⟨rfl,HWB.out _ B1.out⟩
section
variable {p:List Cl} {n i:Nat} {S S':MS} {b:Bool}
theorem vG(h:¬i<p.length):dG p n i S=(S,false):=by unfold dG pD;rw[dif_neg h]
theorem vH(h:i<p.length)(hf:¬fG p[i] (fP (hc S.H (aF S n)))):dG p n i S=dG p n (i+1) S:=by
 conv=>lhs;unfold dG pD;rw[dif_pos h,if_neg hf]
 rfl
theorem pG(h:i<p.length)(hf:fG p[i] (fP (hc S.H (aF S n))))(hc':gE p (gn S (n-1)) (aF S n) (fP (hc S.H (aF S n))) (aZ S n) p[i] i S=(S',some b)):dG p n i S=(S',b):=by
 conv=>lhs;unfold dG pD;rw[dif_pos h,if_pos hf,hc']
theorem aG8(h:i<p.length)(hf:fG p[i] (fP (hc S.H (aF S n))))(hc':gE p (gn S (n-1)) (aF S n) (fP (hc S.H (aF S n))) (aZ S n) p[i] i S=(S',none))(h1:S'.H=S.H)(h2:S'.T=S.T)(h3:S'.G=S.G):dG p n i S=dG p n (i+1) S':=by
 conv=>lhs;unfold dG pD;rw[dif_pos h,if_pos hf,hc']
 unfold dG;have e1:gn S' (n-1)=gn S (n-1):=by unfold gn;rw[h3]
 have e2:aF S' n=aF S n:=by unfold aF;rw[e1,h1]
 have e3:aZ S' n=aZ S n:=by unfold aZ;rw[h1,h2,h3]
 rw[e1,e2,e3,h1]
end
structure bG7(p:List Cl)(S:MS)(n:Nat)(gs:List eD)(t:Tm)(x:MS×Bool)(y:PS×Bool):Prop where
 eq:x.2=y.2
 yes:x.2=true→MvS p x.1 y.1∧sQ S x.1
 no:x.2=false→fM p x.1 y.1 n gs t∧x.1.H=S.H∧x.1.T=S.T∧x.1.G=S.G∧x.1.ch=S.ch∧x.1.Q=S.Q∧x.1.steps=S.steps∧x.1.ans=S.ans
theorem qO{p:List Cl}(hp:∀c,c∈p→ClG c){n:Nat}{gs:List eD}{t:Tm}:∀(m i:Nat) (S:MS) (P:PS),p.length-i=m→fM p S P n gs t→(S.H.length+833≤400000∧S.G.length+6≤5000) →
 bG7 p S n gs t (dG p n i S) (dY p gs t i P):=by
 intro m
 induction m with
 | zero =>
  intro i S P hm h _;rw[vG (by omega),pJ (by omega)];exact⟨rfl,(fun e=>by cases e),fun _=>⟨h,rfl,rfl,rfl,rfl,rfl,rfl,rfl⟩⟩
 | succ m ih =>
  intro i S P hm h hroom;have hi:i<p.length:=by omega
  obtain⟨D,Sc,g,r,hG⟩:=h.goal;have ht:t=look P.σ g.1:=by rw[h.t.1,hG.gs];rfl
  obtain⟨hk2,hnm,hnn,-⟩:=(hG.cell ht).2 h.t.2;have hfit:fG p[i] (fP (hc S.H (aF S n)))↔fG p[i] t:=aF4 hnm hnn;by_cases hf:fG p[i] t
  ·have hc1:=uO h (hp _ (List.getElem_mem hi)) i hroom
   obtain⟨⟨S',o⟩,e1⟩:∃x,gE p (gn S (n-1)) (aF S n) (fP (hc S.H (aF S n))) (aZ S n) p[i] i S=x:=⟨_,rfl⟩
   obtain⟨⟨P',o'⟩,e2⟩:∃x,cO p gs t p[i] i P=x:=⟨_,rfl⟩
   rw[e1,e2] at hc1;cases o with
   | some b =>
    cases o' with
    | some b' =>
     obtain⟨rfl,rfl,h1,h2⟩:=hc1;rw[pG hi (hfit.2 hf) e1,gY hi hf e2];exact⟨rfl,fun _=>⟨h1,h2⟩,(fun e=>by cases e)⟩
    | none=>exact hc1.elim
   | none =>
    cases o' with
    | some b'=>exact hc1.elim
    | none =>
     obtain⟨h1,h2,h3,h4,h5,h6,h7,h8⟩:=hc1;rw[aG8 hi (hfit.2 hf) e1 h2 h3 h4,vW hi hf e2];obtain⟨k1,k2,k3⟩:=ih (i+1) S' P' (by omega) h1 (by rw[h2,h4];exact hroom);refine⟨k1,fun e=>?_,fun e=>?_⟩
     ·obtain⟨q1,q2⟩:=k2 e
      exact⟨q1,⟨by rw[←h2];exact q2.heap,by rw[←h4];exact q2.goals,by rw[←h6];exact q2.q,by rw[←h3];exact q2.trail⟩⟩
     ·obtain⟨q1,q2,q3,q4,q5,q6,q7,q8⟩:=k3 e
      exact⟨q1,q2.trans h2,q3.trans h3,q4.trans h4,q5.trans h5,q6.trans h6,q7.trans h7,q8.trans h8⟩
  ·rw[vH hi (fun e=>hf (hfit.1 e)),pK hi hf]
   exact ih (i+1) S P (by omega) h hroom
theorem aG9(S:MS)(c:Cn):(aK S c).H.length≤S.H.length∧(aK S c).G.length≤S.G.length∧(aK S c).T.length≤S.T.length:=by
 unfold aK;simp only[List.length_take,iK];omega
theorem qP{α:Type}{l:List α}{k:Nat}{c:α}(h:l[k]? = some c):(l.take (k+1)).reverse=c::(l.take k).reverse:=by
 obtain⟨h1,h2⟩:=List.getElem?_eq_some_iff.1 h;rw[List.take_succ_eq_append_getElem h1,List.reverse_append,h2];rfl
theorem fM.weak{p:List Cl}{S:MS}{P:PS}{n:Nat}{gs:List eD}{t:Tm}(h:fM p S P n gs t):∃P0,gW p S P0:=by
 obtain⟨D,Sc,hs⟩:=h.sit;exact⟨{P with now:=gs},⟨D,Sc,by rw[h.first];exact hs⟩,h.ch⟩
theorem gW.stop{p:List Cl}{S:MS}{P:PS}(h:gW p S P){S':MS}(h1:S'.H=S.H)(h2:S'.T=S.T)(h3:S'.G=S.G)(h4:S'.Q=S.Q)(h5:S'.ch=S.ch)(h6:S'.first=0):gW p S' {P with now:=[]}:=by
 obtain⟨⟨D,Sc,hs⟩,hc⟩:=h;refine⟨⟨D,Sc,?_⟩,?_⟩
 ·have h0:Sit S 0 P.vars P.σ [] D Sc:=⟨hs.hang,rfl,hs.query,hs.fresh,hs.goals,hs.trail⟩
  rw[h6];exact h0.congr h1 h2 h3 h4
 ·rw[h5];exact hc.congr h1 h2 h3 h4
theorem vI{p:List Cl}{k:Nat}{S S1:MS}{c:Cn}(h:S.ch[k]? = some c)(hS:S1 = {aK {S with ch:=S.ch.take k} c with first:=c.goal,f:=4000})(h2:(hc S1.H (aF S1 c.goal)).k=2) :
 eL p (k+1) S=if (dG p c.goal c.clause S1).2=true then (dG p c.goal c.clause S1).1 else eL p k (dG p c.goal c.clause S1).1:=by
 subst hS;simp only[eL,h];exact if_pos h2
theorem qQ{p:List Cl}(hp:∀c,c∈p→ClG c):∀(k:Nat) (S:MS) (P:PS),ChR p P.vars S (S.ch.take k).reverse (P.ch.take k).reverse→k≤S.ch.length→S.ch.length=P.ch.length→(S.fin=0∧P.fin=0)→(S.steps=P.steps∧S.ans=P.ans)→(∃P0,gW p S P0) →
 (S.H.length+833≤400000∧S.G.length+6≤5000)→MvS p (eL p k S) (fZ p k P)∧sQ S (eL p k S):=by
 intro k
 induction k with
 | zero =>
  intro S P _ _ _ hf hs hw hroom;obtain⟨P0,hw⟩:=hw;simp only[eL,fZ];exact⟨⟨rfl,hs.1,hs.2,(fun e=>by cases e),⟨_,hw.stop rfl rfl rfl rfl rfl rfl⟩⟩,⟨by simp only;omega,by simp only;omega,rfl,by simp only;omega⟩⟩
 | succ k ih =>
  intro S P hch hk hlen hf hs hw hroom;obtain⟨c,hc1⟩:∃c,S.ch[k]? = some c:=⟨_,List.getElem?_eq_getElem (by omega)⟩
  obtain⟨d,hd1⟩:∃d,P.ch[k]? = some d:=⟨_,List.getElem?_eq_getElem (by omega)⟩
  rw[qP hc1,qP hd1] at hch;obtain⟨⟨w,⟨c1,c2⟩,⟨d1,d2⟩,D,Sc,hsit⟩,hch2⟩:=hch;simp only[fZ,hd1];obtain⟨S1,hS1⟩:∃S1:MS,S1 = {aK {S with ch:=S.ch.take k} c with first:=c.goal,f:=4000}:=⟨_,rfl⟩
  obtain⟨P1,hP1⟩:∃P1:PS,P1 = {P with ch:=P.ch.take k,σ:=d.σ,L:=d.L,f:=4000}:=⟨_,rfl⟩
  rw[←hP1];have e1:S1.H=(aK S c).H:=by rw[hS1];rfl
  have e2:S1.T=(aK S c).T:=by rw[hS1];rfl
  have e3:S1.G=(aK S c).G:=by rw[hS1];rfl
  have e4:S1.Q=S.Q:=by rw[hS1];rfl
  have e5:S1.ch=S.ch.take k:=by rw[hS1];rfl
  have hl:=aG9 S c;have hcall:fM p S1 P1 c.goal d.gs (look d.σ (iM d.gs)):=by
   refine⟨⟨D,Sc,?_⟩,?_,by rw[hS1],⟨by rw[hS1,hP1],by rw[hS1];exact nR _⟩,d1,⟨by rw[hP1],d2⟩,⟨by rw[hS1];exact hf.1,by rw[hP1];exact hf.2⟩,⟨by rw[hS1,hP1];exact hs.1,by rw[hS1,hP1];exact hs.2⟩⟩
   ·rw[hP1];exact hsit.congr e1 e2 e3 e4
   ·rw[e5,hP1];exact hch2.congr e1 e2 e3 e4
  have hroom1:S1.H.length+833≤400000∧S1.G.length+6≤5000:=by rw[e1,e3];omega
  obtain⟨D',Sc',g,r,hG⟩:=hcall.goal;have ht:look d.σ (iM d.gs)=look P1.σ g.1:=by rw[hP1,hG.gs];rfl
  have hk2:=((hG.cell ht).2 d2).1;rw[vI hc1 hS1 hk2,c1];have hout:=qO hp _ d.cl S1 P1 rfl hcall hroom1;obtain⟨x,hx⟩:∃x,dG p c.goal d.cl S1=x:=⟨_,rfl⟩
  obtain⟨y,hy⟩:∃y,dY p d.gs (look d.σ (iM d.gs)) d.cl P1=y:=⟨_,rfl⟩
  rw[hx,hy] at hout ⊢;obtain⟨h1,h2,h3⟩:=hout;by_cases hb:x.2=true
  ·rw[if_pos hb,if_pos (by rw[←h1];exact hb)]
   obtain⟨q1,q2⟩:=h2 hb;exact⟨q1,⟨by have:=q2.heap;rw[e1] at this;omega,by have:=q2.goals;rw[e3] at this;omega,q2.q.trans e4,by have:=q2.trail;rw[e2] at this;omega⟩⟩
  ·rw[if_neg hb,if_neg (by rw[←h1];exact hb)]
   obtain⟨q1,q2,q3,q4,q5,q6,q7,q8⟩:=h3 (by simpa using hb);have hll:x.1.ch.length=k:=by rw[q5,e5,List.length_take];omega
   have hle:=q1.ch.len;simp only[List.length_reverse] at hle;obtain⟨r1,r2⟩:=ih x.1 y.1 (q1.ch.take k) (by omega) hle q1.fin q1.same q1.weak (by rw[q2,q4];exact hroom1);refine⟨r1,⟨?_,?_,?_,?_⟩⟩
   ·have:=r2.heap;rw[q2,e1] at this;omega
   ·have:=r2.goals;rw[q4,e3] at this;omega
   ·rw[r2.q,q6,e4]
   ·have:=r2.trail;rw[q3,e2] at this;omega
theorem gW.len{p:List Cl}{S:MS}{P:PS}(h:gW p S P):S.ch.length=P.ch.length:=by have:=h.ch.len;simpa using this
theorem ChR.whole{p:List Cl}{vars:Nat}{S:MS}{ch:List Cn}{dh:List PCh}(h:ChR p vars S ch.reverse dh.reverse):ChR p vars S (ch.take ch.length).reverse (dh.take ch.length).reverse:=h.take _
theorem bC3{p:List Cl}(hp:∀c,c∈p→ClG c){S:MS}{P:PS}(h:gW p S P)(hne:P.now≠[])(hf:S.fin=0∧P.fin=0)(hs:S.steps=P.steps∧S.ans=P.ans)(hroom:S.H.length+833≤400000∧S.G.length+6≤5000) :
 MvS p (eS p S) (lD p P)∧sQ S (eS p S):=by
 obtain⟨D,Sc,hsit⟩:=h.sit;obtain⟨g,r,h1,h2,h3,h4,h5⟩:=hsit.goal hne;have hlen:=h.len;obtain⟨t,ht⟩:∃t,t=look P.σ (iM P.now):=⟨_,rfl⟩
 have htg:t=look P.σ g.1:=by rw[ht,h1];rfl
 obtain⟨k1,k2,-,-,k5,k6⟩:=hsit.hang.look h5;rw[←htg] at k1 k5 k6;have hG:uN S P S.first P.now t D Sc g r:=⟨hsit,h1,h2,h3,h4,h5,k1,k2⟩
 obtain⟨c5,c6⟩:=hG.cell htg;have hg0:sQ S S:=⟨by omega,by omega,rfl,by omega⟩
 have hnow:P.now.tail=r:=by rw[h1];rfl
 have hcut:(P.now.head?.map (·.2)).getD 0=(gn S (S.first-1)).cut:=by rw[h1,h2];rfl
 have hnext:∀(S':MS),S'.H=S.H→S'.T=S.T→S'.G=S.G→S'.Q=S.Q→S'.first=(gn S (S.first-1)).next→Sit S' S'.first P.vars P.σ r D Sc:=fun S' e1 e2 e3 e4 e5=>by
  have h0:Sit S (gn S (S.first-1)).next P.vars P.σ r D Sc:=⟨hsit.hang,h3,hsit.query,hsit.fresh,hsit.goals,hsit.trail⟩
  rw[e5];exact h0.congr e1 e2 e3 e4
 simp only[eS,lD];rw[←ht];by_cases hv:t.var=0
 ·obtain⟨hk,hnm,hnn,harg⟩:=c6 hv
  rw[if_neg (show ¬(hc S.H (aF S S.first)).k=1 by rw[hk];decide),if_neg (show ¬t.var≠0 from fun e=>e hv),hnm,hnn,Int.toNat_natCast];by_cases hm:cG t.name t.args.length=false
  ·rw[if_pos hm,if_pos hm]
   have hcall:fM p {S with steps:=S.steps+1,f:=4000} {P with steps:=P.steps+1,f:=4000} S.first P.now t :=
    ⟨⟨D,Sc,hsit.congr rfl rfl rfl rfl⟩,h.ch.congr rfl rfl rfl rfl,rfl,⟨rfl,nR _⟩,hne,⟨ht,hv⟩,hf,⟨by simp only;rw[hs.1],hs.2⟩⟩
   have hout:=qO hp _ 0 _ _ rfl hcall hroom;obtain⟨x,hx⟩:∃x,dG p S.first 0 {S with steps:=S.steps+1,f:=4000}=x:=⟨_,rfl⟩
   obtain⟨y,hy⟩:∃y,dY p P.now t 0 {P with steps:=P.steps+1,f:=4000}=y:=⟨_,rfl⟩
   rw[hx,hy] at hout ⊢;obtain⟨o1,o2,o3⟩:=hout;by_cases hb:x.2=true
   ·rw[if_pos (.inl hb),if_pos (by rw[←o1];exact hb)]
    obtain⟨q1,q2⟩:=o2 hb;exact⟨q1,⟨q2.heap,q2.goals,q2.q,q2.trail⟩⟩
   ·obtain⟨q1,q2,q3,q4,q5,q6,q7,q8⟩:=o3 (by simpa using hb)
    rw[if_neg (fun e=>e.elim hb fun e=>e q1.fin.1),if_neg (by rw[←o1];exact hb)];have hle:=q1.ch.len;simp only[List.length_reverse] at hle;rw[←hle];obtain⟨r1,r2⟩:=qQ hp x.1.ch.length x.1 y.1 q1.ch.whole (nR _) hle q1.fin q1.same q1.weak (by rw[q2,q4];exact hroom);exact⟨r1,⟨by have:=r2.heap;rw[q2] at this;exact this,by have:=r2.goals;rw[q4] at this;exact this,by rw[r2.q,q6],by have:=r2.trail;rw[q3] at this;exact this⟩⟩
  ·rw[if_neg hm,if_neg hm]
   by_cases n1:t.name=⟨#[33]⟩
   ·rw[if_pos n1,if_pos n1,hcut,hnow]
    have hc0:gW p {S with steps:=S.steps+1,f:=4000,ch:=S.ch.take (gn S (S.first-1)).cut,first:=(gn S (S.first-1)).next} {P with steps:=P.steps+1,f:=4000,ch:=P.ch.take (gn S (S.first-1)).cut,now:=r} :=
     ⟨⟨D,Sc,hnext _ rfl rfl rfl rfl rfl⟩,(h.ch.take _).congr rfl rfl rfl rfl⟩
    exact⟨⟨hf.1.trans hf.2.symm,by simp only;rw[hs.1],hs.2,fun _=>hc0,⟨_,hc0⟩⟩,⟨by simp only;omega,by simp only;omega,rfl,by simp only;omega⟩⟩
   ·rw[if_neg n1,if_neg n1]
    by_cases n2:t.name=⟨#[116,114,117,101]⟩
    ·rw[if_pos n2,if_pos n2,hnow]
     have hc0:gW p {S with steps:=S.steps+1,f:=4000,first:=(gn S (S.first-1)).next} {P with steps:=P.steps+1,f:=4000,now:=r} :=
      ⟨⟨D,Sc,hnext _ rfl rfl rfl rfl rfl⟩,h.ch.congr rfl rfl rfl rfl⟩
     exact⟨⟨hf.1.trans hf.2.symm,by simp only;rw[hs.1],hs.2,fun _=>hc0,⟨_,hc0⟩⟩,⟨by simp only;omega,by simp only;omega,rfl,by simp only;omega⟩⟩
    ·rw[if_neg n2,if_neg n2]
     by_cases n3:t.name=⟨#[102,97,105,108]⟩
     ·rw[if_pos n3,if_pos n3,←hlen]
      have hc0:gW p {S with steps:=S.steps+1,f:=4000} {P with steps:=P.steps+1,f:=4000}:=⟨⟨D,Sc,hsit.congr rfl rfl rfl rfl⟩,h.ch.congr rfl rfl rfl rfl⟩
      obtain⟨r1,r2⟩:=qQ hp S.ch.length {S with steps:=S.steps+1,f:=4000} {P with steps:=P.steps+1,f:=4000} hc0.ch.whole (nR _) hlen hf ⟨by simp only;rw[hs.1],hs.2⟩ ⟨_,hc0⟩ hroom;exact⟨r1,⟨r2.heap,r2.goals,r2.q,r2.trail⟩⟩
     ·rw[if_neg n3,if_neg n3]
      have h2l:t.args.length=2:=rT hm n1 n2 n3;have ha0:t.args.getD 0 default=t.args[0]:=by rw[List.getD_eq_getElem?_getD,List.getElem?_eq_getElem (by omega)];rfl
      have ha1:t.args.getD 1 default=t.args[1]:=by rw[List.getD_eq_getElem?_getD,List.getElem?_eq_getElem (by omega)];rfl
      have hp1:∀x,x∈[((aF S S.first+1,t.args.getD 0 default),(aF S S.first+2,t.args.getD 1 default))]→St S.H D Sc x.1.1 x.1.2∧St S.H D Sc x.2.1 x.2.2:=fun x hx=>by
       rw[List.mem_singleton] at hx;subst hx;refine⟨?_,?_⟩
       ·rw[ha0];exact harg 0 (by omega)
       ·rw[ha1];exact harg 1 (by omega)
      have hms:=xC 4000 S.H P.σ [] P.L _ hsit.hang hp1;have hbk:=kQ 4000 S.H [] [(aF S S.first+1,aF S S.first+2)] hsit.hang.heap (fun x hx=>by
       rw[List.mem_singleton] at hx;subst hx;have:=hp1 _ List.mem_cons_self;exact⟨this.1.lt,this.2.lt⟩)
      have hrm:=lX 4000 S.H [] [(aF S S.first+1,aF S S.first+2)] hsit.hang.heap (fun x hx=>by
       rw[List.mem_singleton] at hx;subst hx;have:=hp1 _ List.mem_cons_self;exact⟨this.1.lt,this.2.lt⟩) 4000 (by simp)
      have hky:=xX 4000 S.H P.σ P.L _ hsit.hang hp1;simp only[List.map_cons,List.map_nil] at hms hky;have hext:∀(K:List HC) (B:List Nat),gH S.H [] K B→∀S':MS,S'.H=K→S'.T=S.T++B→S'.G=S.G→Ext S S'∧∀x,x∈S'.T→x<S'.H.length:=fun K B ⟨b1,b,b2,b3,b4⟩ S' x1 x2 x3=>by
       rw[List.nil_append] at b2;subst b2;refine⟨⟨by rw[x1];omega,⟨B,x2,fun i hi _=>(b3 i hi).2,fun i hl hn=>by rw[x1];exact b4 i hl hn⟩,⟨[],by rw[x3,List.append_nil]⟩⟩,fun x hx=>?_⟩;rw[x2] at hx;rw[x1];rcases List.mem_append.1 hx with hx|hx
       ·have:=hsit.trail x hx;omega
       ·have:=(b3 x hx).1;omega
      obtain⟨x,hx⟩:∃x,cQ (aF S S.first+1) (aF S S.first+2) {S with steps:=S.steps+1,f:=4000}=x:=⟨_,rfl⟩
      rw[hx];cases e1:dE S.H [] 4000 [(aF S S.first+1,aF S S.first+2)] with
      | ok K B f =>
       cases e2:meet P.σ P.L 4000 [(t.args.getD 0 default,t.args.getD 1 default)] with
       | ok σ L f' =>
        rw[e1,e2] at hms;rw[e1] at hbk hrm;rw[e2] at hky;have hrb:B.length≤4000:=hrm;obtain⟨rfl,m1,m2,m3⟩:=hms;obtain rfl:x=({S with H:=K,T:=S.T++B,f:=f,steps:=S.steps+1},true):=by rw[←hx];simp only[cQ,e1]
        simp only[if_true,hnow];have hx:=hext K B hbk {S with H:=K,T:=S.T++B,f:=f,steps:=S.steps+1,first:=(gn S (S.first-1)).next} rfl rfl rfl;have hc0:gW p {S with H:=K,T:=S.T++B,f:=f,steps:=S.steps+1,first:=(gn S (S.first-1)).next} {P with σ:=σ,L:=L,f:=f,now:=r,steps:=P.steps+1}:=by
         refine⟨⟨D,Sc,m1,h3.keep0 m3,fun i hi=>m3 _ _ (hsit.query i hi),fun v hv'=>?_,fun i hi=>?_,hx.2⟩,h.ch.ext hx.1 rfl⟩
         ·obtain⟨f1,f2⟩:=hsit.fresh v hv'
          refine⟨f1,?_⟩;by_cases hz:σ v=none
          ·exact hz
          ·exact absurd (hky v f2 hz) f1
         ·have:=hsit.goals i hi
          exact⟨by simp only;rw[m2];exact this.1,this.2⟩
        exact⟨⟨hf.1.trans hf.2.symm,by simp only;rw[hs.1],hs.2,fun _=>hc0,⟨_,hc0⟩⟩,⟨by simp only;omega,by simp only;omega,rfl,by simp only[List.length_append];omega⟩⟩
       | no σ L f'=>rw[e1,e2] at hms;exact hms.elim
       | many σ L=>rw[e1,e2] at hms;exact hms.elim
      | no K B f =>
       cases e2:meet P.σ P.L 4000 [(t.args.getD 0 default,t.args.getD 1 default)] with
       | no σ L f' =>
        rw[e1,e2] at hms;rw[e1] at hbk;obtain⟨rfl,-,-⟩:=hms;obtain⟨u1,u2,u3⟩:=(hext K B hbk {S with H:=K,T:=S.T++B,f:=f,steps:=S.steps+1} rfl rfl rfl).1.back S.first
        obtain rfl:x=({S with H:=K,T:=S.T++B,f:=f,steps:=S.steps+1},false):=by rw[←hx];simp only[cQ,e1]
        simp only[Bool.false_eq_true,if_false,hnow];have hc0:gW p {aK {S with H:=K,T:=S.T++B,f:=f,steps:=S.steps+1} (aZ S S.first) with first:=(gn S (S.first-1)).next} {P with f:=f,now:=r,steps:=P.steps+1} :=
         ⟨⟨D,Sc,hnext _ u1 u2 u3 rfl rfl⟩,h.ch.congr u1 u2 u3 rfl⟩
        rw[if_neg (show ¬(aK {S with H:=K,T:=S.T++B,f:=f,steps:=S.steps+1} (aZ S S.first)).fin≠0 from fun e=>e hf.1),←hlen];obtain⟨r1,r2⟩:=qQ hp S.ch.length _ _ hc0.ch.whole (nR _) hlen hf ⟨by simp only[aK];rw[hs.1],hs.2⟩ ⟨_,hc0⟩ (by rw[show ({aK {S with H:=K,T:=S.T++B,f:=f,steps:=S.steps+1} (aZ S S.first) with first:=(gn S (S.first-1)).next}:MS).H=S.H from u1,show ({aK {S with H:=K,T:=S.T++B,f:=f,steps:=S.steps+1} (aZ S S.first) with first:=(gn S (S.first-1)).next}:MS).G=S.G from u3];exact hroom);exact⟨r1,⟨by have:=r2.heap;rwa [show ({aK {S with H:=K,T:=S.T++B,f:=f,steps:=S.steps+1} (aZ S S.first) with first:=(gn S (S.first-1)).next}:MS).H=S.H from u1] at this,by have:=r2.goals;rwa [show ({aK {S with H:=K,T:=S.T++B,f:=f,steps:=S.steps+1} (aZ S S.first) with first:=(gn S (S.first-1)).next}:MS).G=S.G from u3] at this,r2.q,by have:=r2.trail;rwa [show ({aK {S with H:=K,T:=S.T++B,f:=f,steps:=S.steps+1} (aZ S S.first) with first:=(gn S (S.first-1)).next}:MS).T=S.T from u2] at this⟩⟩
       | ok σ L f'=>rw[e1,e2] at hms;exact hms.elim
       | many σ L=>rw[e1,e2] at hms;exact hms.elim
      | many K B =>
       cases e2:meet P.σ P.L 4000 [(t.args.getD 0 default,t.args.getD 1 default)] with
       | many σ L =>
        rw[e1] at hbk;obtain⟨u1,u2,u3⟩:=(hext K B hbk {S with H:=K,T:=S.T++B,f:=0,fin:=3,steps:=S.steps+1} rfl rfl rfl).1.back S.first
        obtain rfl:x=({S with H:=K,T:=S.T++B,f:=0,fin:=3,steps:=S.steps+1},false):=by rw[←hx];simp only[cQ,e1]
        simp only[Bool.false_eq_true,if_false,hnow];have hc0:gW p {aK {S with H:=K,T:=S.T++B,f:=0,fin:=3,steps:=S.steps+1} (aZ S S.first) with first:=(gn S (S.first-1)).next} {P with f:=0,fin:=3,now:=r,steps:=P.steps+1} :=
         ⟨⟨D,Sc,hnext _ u1 u2 u3 rfl rfl⟩,h.ch.congr u1 u2 u3 rfl⟩
        rw[if_pos (show (aK {S with H:=K,T:=S.T++B,f:=0,fin:=3,steps:=S.steps+1} (aZ S S.first)).fin≠0 by simp[aK])];exact⟨⟨rfl,by simp only[aK];rw[hs.1],hs.2,(fun e=>by simp[aK] at e),⟨_,hc0⟩⟩,⟨by simp only;rw[u1];omega,by simp only;rw[u3];omega,rfl,by simp only;rw[u2];omega⟩⟩
       | no σ L f'=>rw[e1,e2] at hms;exact hms.elim
       | ok σ L f'=>rw[e1,e2] at hms;exact hms.elim
 ·have hk:=c5 hv
  rw[if_pos hk,if_pos hv];have hc0:gW p {S with steps:=S.steps+1,f:=4000,fin:=4} {P with steps:=P.steps+1,f:=4000,fin:=4}:=⟨⟨D,Sc,hsit.congr rfl rfl rfl rfl⟩,h.ch.congr rfl rfl rfl rfl⟩
  exact⟨⟨rfl,by simp only;rw[hs.1],hs.2,(fun e=>by cases e),⟨_,hc0⟩⟩,⟨by simp only;omega,by simp only;omega,rfl,by simp only;omega⟩⟩
theorem aR7{H:List HC}{σ:Sub}{D:Int→Prop}{Sc:Int→Nat}(h:fL H σ D Sc)(ps:List (Nat×Tm))(hp:Sts H D Sc ps) :
 (shL H 200 (ps.map (·.1))).map (fun x=>(Tm.rens cN [] x.1).1)=(gG σ 200 (ps.map (·.2))).map (fun x=>(Tm.rens cN [] x.1).1):=by
 rw[h.show 200 ps hp];cases hx:gG σ 200 (ps.map (·.2)) with
 | none=>rfl
 | some x =>
  simp only[Option.map_some];congr 1;have hb:=h.bare 200 ps x hp hx;exact bE2 (P:=fun v=>D v∧look σ (aQ v)=aQ v) (g:=gC H Sc) (fun v w hv hw' e=>by
   have hv0:=h.pos v hv.1;have hw0:=h.pos w hw'.1;have hvv:(aQ v).var=v:=rfl;have hww:(aQ w).var=w:=rfl;have:=(h.cls v w hv.1 hw'.1 (by rw[hv.2,hvv];omega) (by rw[hw'.2,hww];omega)).2 (by unfold gC at e;omega);rw[hv.2,hw'.2] at this;exact this) (fun v _=>by unfold gC;omega) x.1 (fun t ht=>(hb t ht).1) (fun t ht p hp' hv=>(hb t ht).2 p hp' hv)
theorem aY0{p:List Cl}(hp:∀c,c∈p→ClG c){S:MS}{P:PS}(h:gW p S P)(hf:S.fin=0∧P.fin=0)(hs:S.steps=P.steps∧S.ans=P.ans){query:Nat}(hq:S.Q.length=query)(ha:S.ans.length+1≤40)(hroom:S.H.length+833≤400000∧S.G.length+6≤5000) :
 MvS p (jK p S) (gA p query P)∧sQ S (jK p S):=by
 obtain⟨D,Sc,hsit⟩:=h.sit;have hlen:=h.len;have hw:∃P0,gW p S P0:=⟨P,h⟩
 have hsay:=aR7 hsit.hang ((List.range query).map fun i=>(S.Q.getD i 0,aQ ((i:Int)+1))) (fun x hx=>by
  obtain⟨i,hi,rfl⟩:=List.mem_map.1 hx;rw[List.mem_range,←hq] at hi;have:=hsit.query i hi;simp only;rw[List.getD_eq_getElem?_getD,List.getElem?_eq_getElem hi];exact this)
 have e1:((List.range query).map fun i=>(S.Q.getD i 0,aQ ((i:Int)+1))).map (·.1)=S.Q:=by
  rw[List.map_map];refine List.ext_getElem (by simp[hq]) fun i h1 h2=>?_
  simp only[List.getElem_map,List.getElem_range,Function.comp];rw[List.getD_eq_getElem?_getD,List.getElem?_eq_getElem h2];rfl
 have e2:((List.range query).map fun i=>(S.Q.getD i 0,aQ ((i:Int)+1))).map (·.2)=dB query:=by rw[List.map_map];rfl
 rw[e1,e2] at hsay;have stop:∀(k:Nat) (A:List (List Tm)),k≠0→MvS p {S with ans:=A,fin:=k} {P with ans:=A,fin:=k}∧sQ S {S with ans:=A,fin:=k}:=fun k A hk=>by
  have hc0:gW p {S with ans:=A,fin:=k} {P with ans:=A,fin:=k}:=⟨⟨D,Sc,hsit.congr rfl rfl rfl rfl⟩,h.ch.congr rfl rfl rfl rfl⟩
  exact⟨⟨rfl,hs.1,rfl,fun e=>absurd e hk,⟨_,hc0⟩⟩,⟨by simp only;omega,by simp only;omega,rfl,by simp only;omega⟩⟩
 unfold jK gA;cases hx:shL S.H 200 S.Q with
 | none =>
  rw[hx] at hsay;cases hy:gG P.σ 200 (dB query) with
  | some y=>rw[hy] at hsay;cases hsay
  | none =>
   have:=stop 3 S.ans (by decide);rw[hs.2] at this;simp only;have e3:({S with fin:=3}:MS) = {S with ans:=P.ans,fin:=3}:=by rw[←hs.2]
   rw[e3];exact this
 | some x =>
  rw[hx] at hsay;cases hy:gG P.σ 200 (dB query) with
  | none=>rw[hy] at hsay;cases hsay
  | some y =>
   rw[hy] at hsay;simp only[Option.map_some,Option.some.injEq] at hsay;simp only;rw[hsay,hs.2];have hal:P.ans.length+1≤40:=by rw[←hs.2];exact ha
   by_cases h40:P.ans.length+1=40
   ·rw[if_pos (by omega),if_pos h40]
    exact stop 1 _ (by decide)
   ·rw[if_neg (by omega),if_neg h40,←hlen]
    have hc0:gW p {S with ans:=P.ans++[(Tm.rens cN [] y.1).1]} {P with ans:=P.ans++[(Tm.rens cN [] y.1).1]}:=⟨⟨D,Sc,hsit.congr rfl rfl rfl rfl⟩,h.ch.congr rfl rfl rfl rfl⟩
    obtain⟨r1,r2⟩:=qQ hp S.ch.length {S with ans:=P.ans++[(Tm.rens cN [] y.1).1]} {P with ans:=P.ans++[(Tm.rens cN [] y.1).1]} hc0.ch.whole (nR _) hlen hf ⟨hs.1,rfl⟩ ⟨_,hc0⟩ hroom;exact⟨r1,⟨r2.heap,r2.goals,r2.q,r2.trail⟩⟩
noncomputable def vF(p:List Cl)(most:Int)(S:MS):MS :=
 if S.first=0 then jK p S else if most≤(S.steps:Int) then {S with fin:=2} else eS p S
theorem Sit.first{S:MS}{n vars:Nat}{σ:Sub}{now:List eD}{D:Int→Prop}{Sc:Int→Nat}(h:Sit S n vars σ now D Sc):n=0↔now = []:=by
 cases now with
 | nil=>exact⟨fun _=>rfl,fun _=>h.go⟩
 | cons g r =>
  obtain⟨x,h1,-⟩:=h.go;exact⟨fun e=>by omega,fun e=>by cases e⟩
theorem bC1{p:List Cl}(hp:∀c,c∈p→ClG c){S:MS}{P:PS}(h:MvS p S P)(h0:P.fin=0){query:Nat}{most:Nat}(hq:S.Q.length=query)(ha:P.ans.length+1≤40)(hm:P.steps≤most)(hroom:S.H.length+833≤400000∧S.G.length+6≤5000) :
 MvS p (vF p most S) (gI p query most P)∧sQ S (vF p most S):=by
 have hc:=h.core (h.fin.trans h0);have hf:S.fin=0∧P.fin=0:=⟨h.fin.trans h0,h0⟩
 obtain⟨D,Sc,hs⟩:=hc.sit;unfold vF gI;by_cases hn:P.now = []
 ·rw[if_pos (hs.first.2 hn),if_pos hn]
  exact aY0 hp hc hf ⟨h.steps,h.ans⟩ hq (by rw[h.ans];exact ha) hroom
 ·rw[if_neg (fun e=>hn (hs.first.1 e)),if_neg hn]
  have hst:=h.steps;by_cases he:(P.steps:Int)=most
  ·rw[if_pos he,if_pos (by rw[hst];omega)]
   have hc0:gW p {S with fin:=2} {P with fin:=2}:=⟨⟨D,Sc,hs.congr rfl rfl rfl rfl⟩,hc.ch.congr rfl rfl rfl rfl⟩
   exact⟨⟨rfl,h.steps,h.ans,(fun e=>by cases e),⟨_,hc0⟩⟩,⟨by simp only;omega,by simp only;omega,rfl,by simp only;omega⟩⟩
  ·rw[if_neg he,if_neg (by rw[hst];omega)]
   exact bC3 hp hc hn hf ⟨h.steps,h.ans⟩ hroom
def left(most:Nat)(P:PS):Nat:=(most-P.steps)+(40-P.ans.length)
def kA(q:List Tm)(g:Nat):MS :=
 lB q (aS [] (fun _=>none) (dB g)).1.2 0 0 {H:=(aS [] (fun _=>none) (dB g)).1.1,G:=[],first:=0,ch:=[],T:=[],Q:=(aS [] (fun _=>none) (dB g)).2,steps:=0,fin:=0,ans:=[],f:=4000}
theorem bA0(t:Tm):WfT t→far 0 t=t:=by
 unfold far;rw[show (fun v:Int=>v+0)=fun v=>v from funext fun v=>Int.add_zero v]
 induction t using Tm.ind with
 | h v n l ih =>
  intro hw;by_cases hv:v=0
  ·subst hv
   rw[Tm.mapv_fn (t:=.mk 0 n l) rfl];have:l.map (Tm.mapv fun v=>v)=l:=by
    conv=>rhs;rw[←List.map_id l]
    exact List.map_congr_left fun x hx=>ih x hx (hw.arg (t:=.mk 0 n l) hx)
   show Tm.mk 0 n _=_;simp only[Tm.args,this]
  ·rw[Tm.mapv_var (t:=.mk v n l) hv]
   exact(hw.isVar (t:=.mk v n l) hv).symm
theorem yA{l:List Tm}(h:∀t,t∈l→WfT t):l.map (far 0)=l:=by
 conv=>rhs;rw[←List.map_id l]
 exact List.map_congr_left fun t ht=>bA0 t (h t ht)
theorem bA1:fL [] (fun _=>none) (fun _=>False) (fun _=>0) :=
 ⟨⟨by simp,fun i hi=>absurd hi (Nat.not_lt_zero _),fun i hi=>absurd hi (Nat.not_lt_zero _)⟩,gF.none,fun _ h=>h.elim,fun _ h=>h.elim,fun _ h=>h.elim,fun _ _ h=>h.elim⟩
theorem aG1{t:Tm}(h:t.checkE=0):kX t:=by
 intro p hp hv;have h0:=(pL h).2;rw[Tm.partsE_eq] at h0;have h1:=tA _ h0 p hp;unfold Tm.partE at h1;obtain⟨v,n,l⟩:=p;simp only[Tm.var,Tm.name,Tm.args] at hv h1 ⊢;subst hv;unfold Go.Proofs.Ytikmgiapjigghab.partE at h1;rw[if_pos rfl] at h1;split at h1
 ·cases h1
 ·split at h1
  ·cases h1
  ·split at h1
   ·cases h1
   ·rename_i a b c
    refine⟨?_,by omega,fun e=>c ⟨beq_iff_eq.2 e.1,e.2⟩⟩;simpa using a
theorem aL5{t:Tm}(h:t.checkE=0):TmG t:=⟨kK h,aG1 h,(pL h).1⟩
theorem bM1{P:List Cl}(h:aY P=0):∀c,c∈P→ClG c:=fun c hc=>by
 obtain⟨h1,h2⟩:=(mA h).2 c hc;exact⟨aL5 h1,fun b hb=>aL5 (jB h2 hb),(mB h2).1⟩
theorem bF8{i:Nat}(h:i<12):TmG (aQ ((i:Int)+1)):=by
 refine⟨aA9 (by omega) (by omega),fun p hp hv=>?_,?_⟩
 ·have:(aQ ((i:Int)+1)).parts = [aQ ((i:Int)+1)]:=by unfold aQ;rw[Tm.parts];rfl
  rw[this,List.mem_singleton] at hp;subst hp;have:((i:Int)+1)=0:=hv;omega
 ·unfold aQ;simp[Tm.size,Tm.sizes]
theorem aO7{H:List HC}{D:Int→Prop}{Sc:Int→Nat}:∀{cs0:List Nat} {ts:List Tm},bG6 H D Sc cs0 ts→cs0.length=ts.length∧∀i (h1:i<cs0.length) (h2:i<ts.length),St H D Sc cs0[i] ts[i]:=by
 intro cs0
 induction cs0 with
 | nil=>intro ts h;cases ts with
  | nil=>exact⟨rfl,fun i h1=>absurd h1 (Nat.not_lt_zero _)⟩
  | cons t ts=>exact h.elim
 | cons a cs0 ih=>intro ts h;cases ts with
  | nil=>exact h.elim
  | cons t ts =>
   obtain⟨h1,h2⟩:=ih h.2;refine⟨by simp[h1],fun i q1 q2=>?_⟩;cases i with
   | zero=>exact h.1
   | succ i=>exact h2 i (by simpa using q1) (by simpa using q2)
theorem aS3(p:List Cl){q:List Tm}(hq:dI q=0){g:Nat}(hg:g≤12) :
 MvS p (kA q g) (eM q)∧(kA q g).H.length≤2142∧(kA q g).G.length≤6∧(kA q g).Q.length=g∧(kA q g).fin=0:=by
 have hvg:∀t,t∈dB g→TmG t:=fun t ht=>by
  unfold dB at ht;obtain⟨i,hi,rfl⟩:=List.mem_map.1 ht;rw[List.mem_range] at hi;exact bF8 (by omega)
 have hvl:(dB g).length=g:=by simp[dB]
 have hql:=(mB hq).1;obtain⟨D1,S1,q1⟩:=vE (σ:=fun _=>none) (k:=0) (Int.le_refl _) (dB g) [] (fun _=>none) (fun _=>False) (fun _=>0) bA1 ⟨(fun v c e=>by cases e),fun v _ _=>⟨fun h=>h,rfl⟩⟩ (fun v w c e=>by cases e) (fun v c e=>by cases e) hvg (by rw[hvl];simp;omega);have l1:=q1.len.2;rw[hvl] at l1;simp only[List.length_nil] at l1;obtain⟨D2,S2,q2⟩:=vE (σ:=fun _=>none) (k:=0) (Int.le_refl _) q _ _ D1 S1 q1.hang q1.rel q1.inj q1.dom (fun t ht=>aL5 (jB hq ht)) (by omega);have l2:=q2.len.2;have st1:=q1.st;rw[yA (fun t ht=>(hvg t ht).fit.wf)] at st1;have st2:=q2.st;rw[yA (fun t ht=>(kK (jB hq ht)).wf)] at st2;obtain⟨s1,s2⟩:=aO7 st1;obtain⟨c1,-⟩:=aO7 st2;rw[hvl] at s1;obtain⟨p1,p2,⟨gg,p3,p4⟩,p5⟩:=aG7 (H:=(aS (aS [] (fun _=>none) (dB g)).1.1 (aS [] (fun _=>none) (dB g)).1.2 q).1.1) (D:=D2) (Sc:=S2) 0 (G:=[]) (nx:=0) (rest:=[]) rfl (nR _) (fun i h=>absurd h (Nat.not_lt_zero _)) _ _ st2;have hGl:(eR 0 (aS (aS [] (fun _=>none) (dB g)).1.1 (aS [] (fun _=>none) (dB g)).1.2 q).2.reverse ([],0)).1.length≤6:=by rw[p3,List.nil_append,p4,c1];exact hql
 have hfin:(kA q g).fin=0:=by
  simp only[kA,lB];rw[if_neg (by omega)]
 have hc0:gW p (kA q g) (eM q):=by
  refine⟨⟨D2,S2,q2.hang,?_,fun i hi=>?_,fun v hv=>?_,p5,fun x hx=>by cases hx⟩,trivial⟩
  ·rw[List.append_nil] at p1;exact p1
  ·have h3:=s2 i hi (by rw[hvl,←s1];exact hi)
   have h4:=q2.keep _ _ h3;have e:(dB g)[i]'(by rw[hvl,←s1];exact hi)=aQ ((i:Int)+1):=by simp[dB]
   rw[e] at h4;exact h4
  ·have hn:(aS (aS [] (fun _=>none) (dB g)).1.1 (aS [] (fun _=>none) (dB g)).1.2 q).1.2 v=none:=by
    cases hz:(aS (aS [] (fun _=>none) (dB g)).1.1 (aS [] (fun _=>none) (dB g)).1.2 q).1.2 v with
    | none=>rfl
    | some k =>
     have h5:=q2.dom _ _ hz;have h6:((12:Nat):Int)<v:=hv;omega
   have:=q2.rel.new v (by have h6:((12:Nat):Int)<v:=hv;omega) hn
   rwa [Int.add_zero] at this
 exact⟨⟨hfin,rfl,rfl,fun _=>hc0,⟨_,hc0⟩⟩,by simp only[kA,lB];omega,hGl,s1,hfin⟩
theorem yB{S:MS}{n vars:Nat}{σ:Sub}{now:List eD}{D:Int→Prop}{Sc:Int→Nat}(h:Sit S n vars σ now D Sc):aO5 S.mac.H S.mac.G S.mac.T S.mac.Q:=by
 refine⟨fun i hi=>?_,fun g hg=>?_,fun x hx=>?_,fun x hx=>?_⟩
 ·rcases bV (h.hang.heap.cells i hi) with ⟨h1,h2,h3,h4⟩|⟨h1,h2,h3,h4,h5,h6⟩
  ·refine⟨fun _=>⟨h2,?_⟩,fun e=>?_⟩
   ·show (hc S.H i).n<(S.H.length:Int)
    omega
   ·have e':(hc S.H i).k=2:=e
    omega
  ·refine⟨fun e=>?_,fun _=>?_⟩
   ·have e':(hc S.H i).k=1:=e
    omega
   ·show (i:Int)+(hc S.H i).n<(S.H.length:Int)
    omega
 ·obtain⟨x,hx,rfl⟩:=List.mem_map.1 hg
  obtain⟨i,hi,rfl⟩:=List.getElem_of_mem hx;have:=(h.goals i hi).1;exact⟨by simp only[Gn.gl];omega,by simp only[Gn.gl,MS.mac];omega⟩
 ·obtain⟨y,hy,rfl⟩:=List.mem_map.1 hx
  have:=h.trail y hy;exact⟨by omega,by simp only[MS.mac];omega⟩
 ·obtain⟨y,hy,rfl⟩:=List.mem_map.1 hx
  obtain⟨i,hi,rfl⟩:=List.getElem_of_mem hy;have:=(h.query i hi).lt;exact⟨by omega,by simp only[MS.mac];omega⟩
theorem sS(top:Nat):∀(l:List Nat) (H:List HC),dM (top:Int) (l.map fun x:Nat=>(x:Int)) H=gN top l H:=by
 intro l
 induction l with
 | nil=>intro H;rfl
 | cons x r ih =>
  intro H;simp only[List.map_cons,dM,gN];rw[←ih];by_cases h:x<top
  ·rw[if_pos h,if_pos (by omega)];rfl
  ·rw[if_neg h,if_neg (by omega)]
theorem bA3(S:MS)(c:Cn):cY S.mac c.chi=(aK S c).mac:=by
 simp only[cY,aK,MS.mac,Cn.chi,Int.toNat_natCast,←List.map_drop,sS,List.map_take]
theorem aG2{p:List Cl}{vars:Nat}:∀{cs:List Cn} {ds:List PCh} {S:MS},ChR p vars S cs ds→eP (cs.map Cn.chi) S.mac:=by
 intro cs
 induction cs with
 | nil=>intro ds S h;trivial
 | cons c cs ih =>
  intro ds S h;cases ds with
  | nil=>exact h.elim
  | cons d ds =>
   obtain⟨⟨-,-,-,D,Sc,hs⟩,h2⟩:=h;simp only[List.map_cons,eP,bA3];exact⟨yB hs,ih h2⟩
theorem zT{np ng nh nt:Nat}{c:Chi}:∀(l:List Chi) (was:Chi),cC np ng nh nt was l→fJ np ng nh nt ((was::l).getLast (List.cons_ne_nil _ _)) c→cC np ng nh nt was (l++[c]):=by
 intro l
 induction l with
 | nil=>intro was _ h;exact⟨h,trivial⟩
 | cons a l ih =>
  intro was h k;refine⟨h.1,ih a h.2 ?_⟩
  rwa [List.getLast_cons (List.cons_ne_nil _ _)] at k
theorem zU{np ng nh nt ng' nh' nt':Nat}(h1:ng≤ng')(h2:nh≤nh')(h3:nt≤nt'):∀(l:List Chi) (was:Chi),cC np ng nh nt was l→cC np ng' nh' nt' was l:=by
 intro l
 induction l with
 | nil=>intro was _;trivial
 | cons a l ih =>
  intro was h;obtain⟨k,h⟩:=h;have g1:=k.goal.2;have g2:=k.heap.2;have g3:=k.trail.2;have g4:=k.goals.2;exact⟨⟨⟨k.goal.1,by omega⟩,k.clause,⟨k.heap.1,by omega⟩,⟨k.trail.1,by omega⟩,⟨k.goals.1,by omega⟩,k.own⟩,ih a h⟩
theorem uY{S:MS}{c:Cn}(w:jP S c):(aK S c).H.length=c.heap∧(aK S c).T.length=c.trail∧(aK S c).G.length=c.goals:=by
 obtain⟨w1,w2,w3⟩:=w;unfold aK;simp only[List.length_take,iK];omega
theorem aG3{p:List Cl}{vars:Nat}:∀{cs:List Cn} {ds:List PCh} {S:MS},ChR p vars S cs ds→cC p.length S.G.length S.H.length S.T.length aT (cs.reverse.map Cn.chi):=by
 intro cs
 induction cs with
 | nil=>intro ds S h;trivial
 | cons c cs ih =>
  intro ds S h;cases ds with
  | nil=>exact h.elim
  | cons d ds =>
   obtain⟨⟨w,⟨c1,c2⟩,⟨d1,-⟩,D,Sc,hs⟩,h2⟩:=h;obtain⟨l1,l2,l3⟩:=uY w;have hi:=ih h2;rw[l1,l2,l3] at hi;obtain⟨w1,w2,w3⟩:=w;rw[List.reverse_cons,List.map_append];refine zT _ _ (zU w3 w1 w2 _ _ hi) ?_;obtain⟨g,r,-,-,-,⟨-,k1,k2,-⟩,-⟩:=hs.goal d1;rw[l3] at k2;have key:∃b:Chi,((aT::cs.reverse.map Cn.chi).getLast (List.cons_ne_nil _ _))=b∧b.heap≤(c.heap:Int)∧b.trail≤(c.trail:Int)∧b.goals≤(c.goals:Int):=by
    cases cs with
    | nil=>exact⟨_,rfl,by simp[aT],by simp[aT],by simp[aT]⟩
    | cons c' cs =>
     cases ds with
     | nil=>exact h2.elim
     | cons d' ds =>
      obtain⟨v1,v2,v3⟩:=h2.1.within;rw[l1] at v1;rw[l2] at v2;rw[l3] at v3;refine⟨c'.chi,?_,by simp only[Cn.chi];omega,by simp only[Cn.chi];omega,by simp only[Cn.chi];omega⟩;rw[List.getLast_cons (by simp)];simp
   obtain⟨b,hb,b1,b2,b3⟩:=key;rw[hb];exact⟨⟨by simp only[Cn.chi];omega,by simp only[Cn.chi];omega⟩,⟨by simp only[Cn.chi];omega,by simp only[Cn.chi];omega⟩,⟨b1,by simp only[Cn.chi];omega⟩,⟨b2,by simp only[Cn.chi];omega⟩,⟨b3,by simp only[Cn.chi];omega⟩,by simp only[Cn.chi];omega⟩
theorem sT{p:List Cl}(hp:aY p=0){S:MS}{P:PS}(h:gW p S P)(hG:S.G.length≤5000)(hQ:S.Q.length≤12)(hs:S.steps≤400)(hf:S.fin≤4):aM p S.mac=0:=by
 obtain⟨⟨D,Sc,hsit⟩,hch⟩:=h;have hfirst:S.first≤S.G.length:=by
  by_cases hn:P.now = []
  ·rw[hsit.first.2 hn];exact Nat.zero_le _
  ·obtain⟨g,r,-,-,-,⟨-,-,k,-⟩,-⟩:=hsit.goal hn
   exact k
 have hH:cH S.mac.H=0:=by
  rw[show S.mac.H=S.H from rfl];unfold cH;rw[if_neg (by have:=hsit.hang.heap.len;omega),iE _ hsit.hang.heap.cells,if_neg (fun e=>e rfl),if_pos hsit.hang.heap.straight]
 have hg:jX S.mac.G:=fun i hi=>by
  have hi':i<S.G.length:=by simpa[MS.mac] using hi
  have e:S.mac.G[i]=(S.G[i]).gl:=by simp[MS.mac]
  rw[e];have:=(hsit.goals i hi').2;exact⟨by simp only[Gn.gl];omega,by simp only[Gn.gl];omega,by simp only[Gn.gl];omega⟩
 have hc:=aG3 hch;rw[List.reverse_reverse] at hc;have hl:=aG2 hch;have e1:S.mac.ch.reverse=S.ch.reverse.map Cn.chi:=by simp only[MS.mac,List.map_reverse]
 have e2:S.mac.G.length=S.G.length:=by simp[MS.mac]
 have e3:S.mac.T.length=S.T.length:=by simp[MS.mac]
 have e4:S.mac.Q.length=S.Q.length:=by simp[MS.mac]
 unfold aM;rw[if_neg (fun e=>e hp),if_neg (fun e=>e hH),e2,e3,e4,if_neg (by omega),if_neg (by unfold dW;rw[cK (yB hsit)];decide),if_neg (by rw[cK hg];decide),
  if_neg (fun e=>e ⟨by simp only[MS.mac];omega,by simp only[MS.mac];omega⟩),if_neg (by rw[cK (show cC p.length S.G.length S.mac.H.length S.T.length aT S.mac.ch from hc)];decide),e1,if_neg (by rw[cK hl];decide),
  if_neg (by rw[cK (show jY S.mac from ⟨⟨by simp only[MS.mac];omega,by simp only[MS.mac];omega⟩,by simp only[MS.mac];omega,by simp only[MS.mac];omega⟩)];decide)]
theorem aM0{w:World}{Z:Nat→Prop}{R:Nat}{p:List Cl}{pa:Option Addr}{pc:Nat}{S:MS}{d:MAd}{wk:Nat}(h:aX w Z R p pa pc S.mac d wk){c:Cn}(hw:jP S c)(hl:S.H.length≤400000) :
 Calls Try.prog 84 #[.pointer (some ⟨R,1,none⟩),.agg #[.int .i64 (c.goal:Int),.int .i64 (c.clause:Int),.int .i64 (c.heap:Int),.int .i64 (c.trail:Int),.int .i64 (c.goals:Int)]] w fun e w' =>
  (∃v,e=.returned v)∧aA (RM R d) w w'∧aX w' Z R p pa pc (aK S c).mac d wk:=by
 obtain⟨l1,l2,l3⟩:=uY hw;obtain⟨w1,w2,w3⟩:=hw;have hne:=h.rows.ne;unfold Nd at hne;simp only[List.pairwise_cons,List.mem_cons,List.not_mem_nil,or_false,forall_eq_or_imp,forall_eq] at hne;obtain⟨⟨hg,hc,ht',hq,ha⟩,-⟩:=hne;have hR:=h.ne;simp only[rws,List.mem_cons,List.not_mem_nil,or_false,forall_eq_or_imp,forall_eq] at hR;obtain⟨rh,rg,rc,rt,rq,ra⟩:=hR;have hmt:S.mac.T.length=S.T.length:=by simp[MS.mac]
 have hmg:S.mac.G.length=S.G.length:=by simp[MS.mac]
 have hU:UAt w R 1 (kT pa p.length pc S.mac d wk).toArray 59 0 S.mac.H S.mac.T S.mac.G.length d.h d.t d.g d.hn d.tn d.gn:=by
  refine⟨h.blk,rfl,rfl,rfl,h.rows.h,?_,fun e=>rh ((aE _ _ _).symm.trans e),?_⟩
  ·obtain⟨a3,c3,e,hr⟩:=dC.of_row (ok:=fun b=>b≠R∧(Value.slice d.h S.mac.H.length d.hn).ownBlock≠some b) h.rows.t (fun b hb=>⟨fun e=>rt ((aE _ _ _).symm.trans (by rw[←e];exact hb)),fun e=>ht' b ((aE _ _ _).symm.trans e) ((aE _ _ _).symm.trans hb)⟩)
   injection e with q1 _ q2;subst q1;subst q2;exact hr
  ·obtain⟨a3,c3,e,hr⟩:=cZ.of_row (ok:=fun _=>True) h.rows.g (dN _) (fun _ _=>trivial)
   injection e with q1 _ q2;subst q1;subst q2;exact⟨hr.cap.1,hr.cap.2.1⟩
 refine(bC4 hU (c:=c.chi) ⟨by simp only[Cn.chi];omega,by simp only[Cn.chi,MS.mac];omega⟩ ⟨by simp only[Cn.chi];omega,by rw[hmt];simp only[Cn.chi];omega⟩ ⟨by simp only[Cn.chi];omega,by rw[hmg];simp only[Cn.chi];omega⟩ (fun x hx=>by
  obtain⟨y,-,rfl⟩:=List.mem_map.1 hx;omega) hl).mono ?_
 rintro e w' ⟨hv,ht,hb,ho⟩;have htR:aA (RM R d) w w':=ht.mono fun b _ e=>by
  rcases e with e|e
  ·exact .inl e
  ·exact .inr (by rw[←(aE _ _ _).symm.trans e];simp[rws])
 have ht2:aA (fun b=>b=R∨bk d.h=some b∨Z b) w w':=ht.mono fun b _ e=>e.elim .inl fun e=>.inr (.inl ((aE _ _ _).symm.trans e))
 have hzz:∀y:Option Addr,bk y∈rws d→∀b,bk y=some b→¬Z b:=fun y hy b hb=>h.zr b (.inr (by rw[←hb];exact hy))
 simp only[Cn.chi,Int.toNat_natCast] at hb ho;have e1:(aK S c).mac.H.length=c.heap:=l1;have e2:(aK S c).mac.T.length=c.trail:=by simp only[MS.mac,List.length_map];exact l2
 have e3:(aK S c).mac.G.length=c.goals:=by simp only[MS.mac,List.length_map];exact l3
 obtain⟨A,q1,q2,q3⟩:=h.rows.a;refine⟨hv,htR,h.turn ?_ ⟨?_,?_,?_,?_,?_,⟨A,q1,?_,fun z hz=>lN ht2 (by simp) (fun b hb=>.inl hb) (q3 z hz)⟩,h.rows.ne⟩ (htR.mono fun b _ e=>.inl e) (fun b hb=>.inl hb) (fun b hb=>h.zr b (.inr hb))⟩
 ·rw[hb]
  simp only[kT,e1,e2,e3];rfl
 ·rw[e1]
  have e4:(dM (c.heap:Int) (S.mac.T.drop c.trail) S.mac.H).take c.heap=(aK S c).mac.H:=by
   simp only[MS.mac,aK,←List.map_drop,sS]
  rw[←e4];exact ho
 ·have hr:=iD (bA ht2 h.rows.g rg (fun b e1 e2=>hg b e2 e1) (hzz _ (by simp[rws]))) (k:=c.goals) (by rw[hmg];exact w3)
  rw[e3];have e4:(aK S c).mac.G=S.mac.G.take c.goals:=by simp only[MS.mac,aK,List.map_take]
  rw[e4,uP];exact hr
 ·exact bA ht2 h.rows.c rc (fun b e1 e2=>hc b e2 e1) (hzz _ (by simp[rws]))
 ·have hr:=iD (bA ht2 h.rows.t rt (fun b e1 e2=>ht' b e2 e1) (hzz _ (by simp[rws]))) (k:=c.trail) (by rw[hmt];exact w2)
  rw[e2];have e4:(aK S c).mac.T=S.mac.T.take c.trail:=by simp only[MS.mac,aK,List.map_take]
  rw[e4,List.map_take];rw[Nat.mul_one] at hr;exact hr
 ·exact bA ht2 h.rows.q rq (fun b e1 e2=>hq b e2 e1) (hzz _ (by simp[rws]))
 ·exact bA ht2 q2 ra (fun b e1 e2=>ha b e2 e1) (hzz _ (by simp[rws]))
def eX(p:List Cl)(q:List Tm)(steps:Int):Nat :=
 if aY p≠0 then aY p else if dI q≠0 then dI q else if 0≤steps∧steps≤400 then 0 else 3
theorem bG5{p:List Cl}{q:List Tm}{steps:Int}{w:World}{ok:Nat→Prop}{pa qa:Option Addr}{pc qc:Nat}(hp:Pr w ok p pa pc)(hq:Ts w ok q qa qc) :
 Calls Try.prog 41 #[.slice pa p.length pc,.slice qa q.length qc,.int .i64 steps] w fun e w'=>e=.returned (.int .i64 (eX p q steps:Nat))∧Below w.heap.size w w':=by
 have HC:=lh (aB4 p w ok pa pc hp);have HQ:Hid (∀u,Below w.heap.size w u→Calls Try.prog 46 #[.slice qa q.length qc] u fun e w'=>e=.returned (.int .i64 (dI q:Nat))∧Below w.heap.size w w'):=lh fun u hu=>(aV5 q u ok qa qc (hq.keep (aD.below hu _))).mono fun e w' h=>⟨h.1,hu.trans (h.2.mono hu.size)⟩
 clear hp hq;by_cases h1:aY p=0
 ·rw[h1] at HC
  by_cases h2:dI q=0
  ·rw[h2] at HQ
   by_cases h3:0≤steps∧steps≤400
   ·have hE:eX p q steps=0:=by unfold eX;rw[if_neg (fun e=>e h1),if_neg (fun e=>e h2),if_pos h3]
    rw[hE];have HB:=lh (cV h3);clear h1 h2 h3 hE;go_enter Try.func41,Try.ntmps41;go_wp2_with (first
     | (go_at_call 45;refine HC.out.mono ?_;rintro e w1 ⟨rfl,hb1⟩;have HB1:=lh hb1;clear hb1)
     | (go_at_call 46;refine(HQ.out _ HB1.out).mono ?_;rintro e w2 ⟨rfl,hb2⟩;have HB2:=lh hb2;clear hb2)
     | (go_at_call 53;refine(dR _ _ _ _).mono ?_;rintro e w3 ⟨rfl,rfl⟩;rw[HB.out]))
    go_ret;exact⟨rfl,HB2.out⟩
   ·have hE:eX p q steps=3:=by unfold eX;rw[if_neg (fun e=>e h1),if_neg (fun e=>e h2),if_neg h3]
    rw[hE];have HB:=lh (cA h3);clear h1 h2 h3 hE;go_enter Try.func41,Try.ntmps41;go_wp2_with (first
     | (go_at_call 45;refine HC.out.mono ?_;rintro e w1 ⟨rfl,hb1⟩;have HB1:=lh hb1;clear hb1)
     | (go_at_call 46;refine(HQ.out _ HB1.out).mono ?_;rintro e w2 ⟨rfl,hb2⟩;have HB2:=lh hb2;clear hb2)
     | (go_at_call 53;refine(dR _ _ _ _).mono ?_;rintro e w3 ⟨rfl,rfl⟩;rw[HB.out]))
    go_ret;exact⟨rfl,HB2.out⟩
  ·have hE:eX p q steps=dI q:=by unfold eX;rw[if_neg (fun e=>e h1),if_pos h2]
   rw[hE];obtain⟨k,hk⟩:∃k,dI q=k:=⟨_,rfl⟩
   rw[hk] at HQ h2 ⊢;have hz:((k:Int) == 0)=false:=by rw[beq_eq_false_iff_ne];omega
   have HB:=lh (rfl:bY steps 0 400=bY steps 0 400);clear h1 hE hk;go_enter Try.func41,Try.ntmps41;go_wp2_with (first
    | (go_at_call 45;refine HC.out.mono ?_;rintro e w1 ⟨rfl,hb1⟩;have HB1:=lh hb1;clear hb1)
    | (go_at_call 46;refine(HQ.out _ HB1.out).mono ?_;rintro e w2 ⟨rfl,hb2⟩;have HB2:=lh hb2;clear hb2)
    | (go_at_call 53;refine(dR _ _ _ _).mono ?_;rintro e w3 ⟨rfl,rfl⟩;rw[HB.out]))
   go_ret;exact⟨rfl,HB2.out⟩
 ·have hE:eX p q steps=aY p:=by unfold eX;rw[if_pos h1]
  rw[hE];obtain⟨k,hk⟩:∃k,aY p=k:=⟨_,rfl⟩
  rw[hk] at HC h1 ⊢;have hz:((k:Int) == 0)=false:=by rw[beq_eq_false_iff_ne];omega
  have HB:=lh (rfl:bY steps 0 400=bY steps 0 400);clear hE hk;go_enter Try.func41,Try.ntmps41;go_wp2_with (first
   | (go_at_call 45;refine HC.out.mono ?_;rintro e w1 ⟨rfl,hb1⟩;have HB1:=lh hb1;clear hb1)
   | (go_at_call 46;refine(HQ.out _ HB1.out).mono ?_;rintro e w2 ⟨rfl,hb2⟩;have HB2:=lh hb2;clear hb2)
   | (go_at_call 53;refine(dR _ _ _ _).mono ?_;rintro e w3 ⟨rfl,rfl⟩;rw[HB.out]))
  go_ret;exact⟨rfl,HB1.out⟩
section
variable {F:Fence} {n:Nat} {P:Program} {ops:Array Oper} {Q:Exit→Act→World→Prop} {md:Region.Mode}
theorem aL9(l:Array Bool)(i j:Nat)(hi:i<l.size):(l.setIfInBounds i true).getD j false=if j=i then true else l.getD j false:=by
 simp only[Array.getD_eq_getD_getElem?,Array.getElem?_setIfInBounds];by_cases h:i=j
 ·subst h;simp[hi]
 ·rw[if_neg h,if_neg (fun e=>h e.symm)]
theorem rP{l:Array Bool}{i:Nat}(h:l.getD i true=false):i<l.size∧l.getD i false=false:=by
 simp only[Array.getD_eq_getD_getElem?] at h ⊢;cases e:l[i]? with
 | none=>rw[e] at h;simp at h
 | some b=>rw[e] at h;simp at h;subst h;exact⟨(gS e).1,by simp⟩
theorem count_set{l:Array Bool}{i:Nat}(h:l.getD i true=false):(l.setIfInBounds i true).toList.count false+1≤l.toList.count false:=by
 obtain⟨h1,h2⟩:=rP h;have h3:l.toList[i]'(by simpa using h1)=false:=by
  simp only[Array.getD_eq_getD_getElem?,Array.getElem?_eq_getElem h1] at h2;simpa using h2
 have h4:0<l.toList.count false:=List.count_pos_iff.2 (by rw[←h3];exact List.getElem_mem _);rw[Array.toList_setIfInBounds,List.count_set (by simpa using h1)];simp only[h3,beq_self_eq_true,if_true,show (true == false)=false from rfl,Bool.false_eq_true,if_false,Nat.add_zero];omega
structure vA(md:Region.Mode)(ops:Array Oper)(vals:Nat→Value)(a0:Act)(WJ:(Nat→Bool)→World→Prop)(L:Nat→Bool)(a:Act)(w:World):Prop where
 closed:∀(j:Nat) (o:Oper),L j=true→ops[j]? = some o→∀e∈o.after,Region.binds md e=true→L e.on=true
 val:∀(j:Nat) (o:Oper) (d:Nat),L j=true→ops[j]? = some o→o.dst=some d→a.tmps.getD d undef=vals j
 other:∀d,(∀(j:Nat) (o:Oper),ops[j]? = some o→o.dst≠some d)→a.tmps.getD d undef=a0.tmps.getD d undef
 size:a.tmps.size=a0.tmps.size
 defers:a.defers=a0.defers
 wj:WJ L w
theorem aA0(hF:∀f,F.fn f){vals:Nat→Value}{a0:Act}{WJ:(Nat→Bool)→World→Prop}
 (hops:∀i o,ops[i]? = some o→(∀y,Region.wanted o y=true)∧(∀c,o.op≠.defer c)∧(∀e∈o.after,e.on<i)∧∀d,o.dst=some d→d<a0.tmps.size∧∀j o',ops[j]? = some o'→o'.dst=some d→j=i)
 (hext:∀L L' w,(∀j,L j=L' j)→WJ L w→WJ L' w)
 (hstep:∀L a w i o,vA md ops vals a0 WJ L a w→ops[i]? = some o→L i=false→(∀e∈o.after,Region.binds md e=true→L e.on=true) →
  ∃w',((execOp a.eval o).run P w=.ok (.value (vals i)) w'∨((execOp a.eval o).run P w=.ok .skip w'∧vals i=undef))∧WJ (fun j=>if j=i then true else L j) w')
 (hdone:∀L a w,vA md ops vals a0 WJ L a w→(∀j,j<ops.size→L j=true)→Q .normal a w) :
 ∀(fuel:Nat) (listed:Array Bool) (a:Act) (w:World),listed.toList.count false≤fuel→vA md ops vals a0 WJ (fun j=>listed.getD j false) a w→(∀j,listed.getD j true=false→j<ops.size)→(∀j,j<ops.size→j<listed.size)→wpAnyIn F n P md ops Q fuel listed a w:=by
 have fin:∀(listed:Array Bool) (a:Act) (w:World),vA md ops vals a0 WJ (fun j=>listed.getD j false) a w→(∀j,j<ops.size→j<listed.size)→Region.ready md ops listed = []→Q .normal a w:=by
  intro listed a w hJ hs hr;refine hdone _ a w hJ ?_;intro j
  induction j using Nat.strongRecOn with
  | _ j ih =>
   intro hj;obtain⟨o,ho⟩:∃o,ops[j]? = some o:=⟨_,Array.getElem?_eq_getElem hj⟩
   by_cases hl:listed.getD j false=true
   ·exact hl
   ·have hjs:=hs j hj
    have h1:listed.getD j true=false:=by
     simp only[Array.getD_eq_getD_getElem?,Array.getElem?_eq_getElem hjs,Option.getD_some] at hl ⊢;simpa using hl
    have:j∈Region.ready md ops listed:=mem_ready.2 ⟨h1,o,ho,fun e he _=>by
     have h2:=(hops j o ho).2.2.1 e he;exact ih e.on h2 (by omega)⟩
    rw[hr] at this;cases this
 intro fuel
 induction fuel with
 | zero =>
  intro listed a w hc hJ hb hs;have hr:Region.ready md ops listed = []:=by
   cases h:Region.ready md ops listed with
   | nil=>rfl
   | cons i r =>
    have hi:i∈Region.ready md ops listed:=by rw[h];exact List.mem_cons_self
    have:=count_set (mem_ready.1 hi).1;omega
  exact⟨hr,fin listed a w hJ hs hr⟩
 | succ fuel ih =>
  intro listed a w hc hJ hb hs;refine⟨fin listed a w hJ hs,fun i hi=>?_⟩;obtain⟨h1,o,ho,hall⟩:=mem_ready.1 hi;obtain⟨his,h1f⟩:=rP h1;obtain⟨o1,o2,o3,o4⟩:=hops i o ho;obtain⟨w',hrun,hw'⟩:=hstep _ a w i o hJ ho h1f hall;have hcn:=count_set h1
  -- what comes behind
  have next:vA md ops vals a0 WJ (fun j=>(listed.setIfInBounds i true).getD j false) (a.put o.dst (vals i)) w':=by
   have hset:∀j,(listed.setIfInBounds i true).getD j false=if j=i then true else listed.getD j false:=fun j=>aL9 listed i j his
   refine⟨fun j oj hj hoj e he hbd=>?_,fun j oj d hj hoj hd=>?_,fun d hd=>?_,?_,?_,hext _ _ _ (fun j=>(hset j).symm) hw'⟩
   ·simp only[hset] at hj ⊢
    by_cases hji:j=i
    ·subst hji
     rw[ho] at hoj;cases hoj;have:=hall e he hbd;split
     ·rfl
     ·exact this
    ·rw[if_neg hji] at hj
     have:=hJ.closed j oj hj hoj e he hbd;split
     ·rfl
     ·exact this
   ·simp only[hset] at hj
    by_cases hji:j=i
    ·subst hji
     rw[ho] at hoj;cases hoj;have hds:=(o4 d hd).1;rw[hd];simp only[Act.put,Array.getD_eq_getD_getElem?,Array.getElem?_setIfInBounds];rw[←hJ.size] at hds;simp[hds]
    ·rw[if_neg hji] at hj
     rw[←hJ.val j oj d hj hoj hd];cases hdo:o.dst with
     | none=>rfl
     | some d' =>
      have:d'≠d:=fun e=>hji ((o4 d' hdo).2 j oj hoj (by rw[hd,e]))
      simp only[Act.put,Array.getD_eq_getD_getElem?,Array.getElem?_setIfInBounds];rw[if_neg this]
   ·rw[←hJ.other d hd]
    cases hdo:o.dst with
    | none=>rfl
    | some d' =>
     have:d'≠d:=fun e=>hd i o ho (by rw[hdo,e])
     simp only[Act.put,Array.getD_eq_getD_getElem?,Array.getElem?_setIfInBounds];rw[if_neg this]
   ·cases hdo:o.dst with
    | none=>exact hJ.size
    | some d'=>simp only[Act.put,Array.size_setIfInBounds];exact hJ.size
   ·cases hdo:o.dst with
    | none=>exact hJ.defers
    | some d'=>exact hJ.defers
  have key:=ih (listed.setIfInBounds i true) _ w' (by omega) next (fun j hj=>hb j (by
   simp only[Array.getD_eq_getD_getElem?,Array.getElem?_setIfInBounds] at hj ⊢;by_cases e:i=j
   ·subst e;simp[his] at hj
   ·rw[if_neg e] at hj;exact hj)) (fun j hj=>by rw[Array.size_setIfInBounds];exact hs j hj)
  unfold wpOpIn;simp only[ho,o1,if_true];refine⟨fun f _=>hF f,?_⟩;rw[Oper.semAt_eq _ _ _ o2];rcases hrun with h|⟨h,hv⟩
  ·rw[h];exact key
  ·rw[h,Oper.uponIn_skip,←hv];exact key
theorem lO{id:Nat}{a0:Act}{w0:World}(hm:P.follows .mixedOrders=true)(hF:∀f,F.fn f){vals:Nat→Value}{WJ:(Nat→Bool)→World→Prop}
 (hops:∀i o,ops[i]? = some o→(∀y,Region.wanted o y=true)∧(∀c,o.op≠.defer c)∧(∀e∈o.after,e.on<i)∧∀d,o.dst=some d→d<a0.tmps.size∧∀j o',ops[j]? = some o'→o'.dst=some d→j=i)
 (hext:∀L L' w,(∀j,L j=L' j)→WJ L w→WJ L' w) (h0:WJ (fun _=>false) w0.drew)
 (hstep:∀L a w i o,vA .any ops vals a0 WJ L a w→ops[i]? = some o→L i=false→(∀e∈o.after,Region.binds .any e=true→L e.on=true) →
  ∃w',((execOp a.eval o).run P w=.ok (.value (vals i)) w'∨((execOp a.eval o).run P w=.ok .skip w'∧vals i=undef))∧WJ (fun j=>if j=i then true else L j) w')
 (hdone:∀L a w,vA .any ops vals a0 WJ L a w→(∀j,j<ops.size→L j=true)→Q .normal a w):(Code.region id ops true).wpIn F n P Q a0 w0:=by
 refine wpIn_region_any hm (aA0 hF hops hext hstep hdone ops.size _ a0 _ ?_ ?_ ?_ ?_)
 ·rw[Array.toList_replicate,List.count_replicate_self];exact nR _
 ·have hf:∀j,(Array.replicate ops.size false).getD j false=false:=fun j=>by
   simp only[Array.getD_eq_getD_getElem?,Array.getElem?_replicate];split <;> rfl
  refine⟨fun j o hj=>?_,fun j o d hj=>?_,fun d _=>rfl,rfl,rfl,hext _ _ _ (fun j=>(hf j).symm) h0⟩
  ·simp only[hf] at hj;cases hj
  ·simp only[hf] at hj;cases hj
 ·intro j hj
  have:=(rP hj).1;simpa using this
 ·intro j hj;simpa using hj
def bP3(ops:Array Oper)(size:Nat):Bool :=
 (List.range ops.size).all fun i=>match ops[i]? with
  | none=>true
  | some o=>o.guard.isNone && (match o.op with|.defer _=>false|_=>true) && o.after.all (fun e=>decide (e.on<i)) && (match o.dst with
   | none=>true
   | some d=>decide (d<size) && (List.range ops.size).all fun j=>match ops[j]? with
    | none=>true
    | some o'=>(match o'.dst with|some d'=>!decide (d'=d)|none=>true) || decide (j=i))
theorem vC{size:Nat}(h:bP3 ops size=true):∀i o,ops[i]? = some o→(∀y,Region.wanted o y=true)∧(∀c,o.op≠.defer c)∧(∀e∈o.after,e.on<i)∧∀d,o.dst=some d→d<size∧∀j o',ops[j]? = some o'→o'.dst=some d→j=i:=by
 intro i o ho;have hi:i<ops.size:=(gS ho).1;have h1:=List.all_eq_true.1 h i (List.mem_range.2 hi);simp only[ho,Bool.and_eq_true] at h1;obtain⟨⟨⟨g1,g2⟩,g3⟩,g4⟩:=h1;refine⟨fun y=>?_,fun c e=>(by rw[e] at g2;cases g2),fun e he=>?_,fun d hd=>?_⟩
 ·unfold Region.wanted
  cases hg:o.guard with
  | none=>rfl
  | some q=>rw[hg] at g1;cases g1
 ·have:=Array.all_eq_true_iff_forall_mem.1 g3 e he
  simpa using this
 ·rw[hd] at g4
  simp only[Bool.and_eq_true,decide_eq_true_eq] at g4;refine⟨g4.1,fun j o' hj hd'=>?_⟩;have hjl:j<ops.size:=(gS hj).1;have h2:=List.all_eq_true.1 g4.2 j (List.mem_range.2 hjl);simp only[hj,hd'] at h2;simpa using h2
theorem vA.at'{vals:Nat→Value}{a0:Act}{WJ:(Nat→Bool)→World→Prop}{L:Nat→Bool}{a:Act}{w:World}(h:vA md ops vals a0 WJ L a w){j d:Nat}{o:Oper}(hl:L j=true)(ho:ops[j]? = some o)(hd:o.dst=some d):a.tmps[d]?.getD undef=vals j:=by
 rw[←Array.getD_eq_getD_getElem?];exact h.val j o d hl ho hd
theorem vA.old{vals:Nat→Value}{a0:Act}{WJ:(Nat→Bool)→World→Prop}{L:Nat→Bool}{a:Act}{w:World}(h:vA md ops vals a0 WJ L a w){d:Nat}(hd:∀(j:Nat) (o:Oper),ops[j]? = some o→o.dst≠some d):a.tmps[d]?.getD undef=a0.tmps[d]?.getD undef:=by
 rw[←Array.getD_eq_getD_getElem?,←Array.getD_eq_getD_getElem?];exact h.other d hd
def bM8(ops:Array Oper)(d:Nat):Bool:=(List.range ops.size).all fun i=>match ops[i]? with
 | none=>true
 | some o=>match o.dst with|some d'=>!decide (d'=d)|none=>true
theorem fB{d:Nat}(h:bM8 ops d=true):∀(j:Nat) (o:Oper),ops[j]? = some o→o.dst≠some d:=by
 intro j o ho e;have:=List.all_eq_true.1 h j (List.mem_range.2 (gS ho).1);simp only[ho,e] at this;simp at this
end
end Go.Proofs.Ytikmgiapjigghab
