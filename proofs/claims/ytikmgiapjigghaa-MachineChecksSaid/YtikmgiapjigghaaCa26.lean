/- Walk: what is wrong with a machine. -/
import Derived.Test.YtikmgiapjigghaaCa03
import Derived.Test.YtikmgiapjigghaaCa12
import Derived.Test.YtikmgiapjigghaaCa16
import Derived.Test.YtikmgiapjigghaaCa22
import Derived.Test.YtikmgiapjigghaaCa23
import Derived.Test.YtikmgiapjigghaaCa25
namespace Go.Proofs.Ytikmgiapjigghaa
open Go.RowKit
theorem near_of_inv{H:List HC}(h:HInv H):NearH H:=fun i hi h2=>by
 rcases cell_right (h.cells i hi) with e | e
 ·rw[e.1] at h2;cases h2
 ·exact⟨e.2.2.1,by have:=e.2.2.2.1;have:=e.2.2.1;omega⟩
set_option maxRecDepth 100000 in
set_option maxHeartbeats 3200000 in
theorem CheckMW(p:List Cl)(m:Mac)(d:MAd){w:World}{ok:Nat→Prop}{pa:Option Addr}{pc:Nat}(hp:Pr w ok p pa pc)(h:MacAt w ok m d)(hb:MacBig m) :
 Calls Try.prog 53 #[.slice pa p.length pc,.agg #[.slice d.h m.H.length d.hn,.slice d.g m.G.length d.gn,.int .i64 m.first,.slice d.c m.ch.length d.cn,.slice d.t m.T.length d.tn,.slice d.q m.Q.length d.qn,.int .i64 m.steps,.int .i64 m.fin,.slice d.a m.ans.length d.an]] w
  fun e w'=>e=.returned (.int .i64 (checkM p m:Nat))∧Below w.heap.size w w':=by
 have hg9:m.G.length≤9223372036854775807:=by have:=h.g.cap;unfold maxLen at this;omega
 have hq9:m.Q.length≤9223372036854775807:=by have:=h.q.cap;unfold maxLen at this;omega
 have HCL:=Lib.hid (fun u (hu:Below w.heap.size w u)=>ClausesW p u ok pa pc (hp.keep (Keeps.below hu ok)))
 have HMB:=Lib.hid (fun u (hu:Below w.heap.size w u)=>h.keep (Keeps.below hu ok))
 have HXB:Hid (∀ u,Below (w.heap.size+1) (w.alloc (.cells (m.vals d).toArray 81)) u→MBox u w.heap.size m d):=Lib.hid fun u hu=>(MBox.made w m d).below (by simpa using hu)
 have HWB:Hid (∀ u,Below (w.heap.size+1) (w.alloc (.cells (m.vals d).toArray 81)) u→Below w.heap.size w u):=Lib.hid fun u hu=>((Below.refl _ _).alloc (Nat.le_refl _) _).trans (hu.mono (by omega))
 have HB0:Hid (Below (w.heap.size+1) (w.alloc (.cells (m.vals d).toArray 81)) (w.alloc (.cells (m.vals d).toArray 81))):=Lib.hid (Below.refl _ _)
 have HUP:Hid (∀ u v,Below (w.heap.size+1) (w.alloc (.cells (m.vals d).toArray 81)) u→Below u.heap.size u v→Below (w.heap.size+1) (w.alloc (.cells (m.vals d).toArray 81)) v):=Lib.hid fun u v hu hv=>hu.trans (hv.mono (by have:=hu.size;simp at this;omega))
 have HBIG:=Lib.hid hb
 clear h hp hb
 simp only[Mac.vals] at HXB HWB HB0 HUP
 by_cases e1:programE p=0
 ·have h1:=e1
  have t1:((programE p:Int) == 0)=true:=by rw[e1];rfl
  have t2:((programE p:Int) != 0)=false:=by rw[e1];rfl
  by_cases e2:checkH m.H=0
  ·have h2:=e2
   have t3:((checkH m.H:Int) != 0)=false:=by rw[e2];rfl
   have hI:=HInv.of e2
   have hl4:=hI.len
   have HNR:=Lib.hid (near_of_inv hI)
   clear hI
   by_cases e3:5000<m.G.length
   ·have HR:Hid (checkM p m=2):=Lib.hid (by unfold checkM;rw[if_neg (fun e=>e h1),if_neg (fun e=>e h2),if_pos (.inl e3)])
    have t4:(5000:Int)<(m.G.length:Int):=by omega
    clear e1 e2 h1 h2
    go_enter Try.func53,Try.ntmps53
    go_wp2_with (first | (go_at_call 19;refine(HCL.out _ (HWB.out _ HB0.out)).mono ?_;rintro e w1 ⟨rfl,hb1⟩;have B1:=Lib.hid (HUP.out _ _ HB0.out hb1);obtain⟨y0,y1,y2,y3,y4,y5,y6,y7,y8,-⟩:=(HXB.out _ B1.out).all;clear hb1) | (go_at_call 34;refine(HCheckW (HMB.out _ (HWB.out _ B1.out)).h).mono ?_;rintro e w2 ⟨rfl,hb2⟩;have B2:=Lib.hid (HUP.out _ _ B1.out hb2);obtain⟨z0,z1,z2,z3,z4,z5,z6,z7,z8,-⟩:=(HXB.out _ B2.out).all;clear hb2))
    go_ret
    rw[HR.out]
    exact⟨rfl,HWB.out _ B2.out⟩
   ·by_cases e3':12<m.Q.length
    ·have HR:Hid (checkM p m=2):=Lib.hid (by unfold checkM;rw[if_neg (fun e=>e h1),if_neg (fun e=>e h2),if_pos (.inr e3')])
     have t4:¬ (5000:Int)<(m.G.length:Int):=by omega
     have t5:(12:Int)<(m.Q.length:Int):=by omega
     clear e1 e2 h1 h2
     go_enter Try.func53,Try.ntmps53
     go_wp2_with (first | (go_at_call 19;refine(HCL.out _ (HWB.out _ HB0.out)).mono ?_;rintro e w1 ⟨rfl,hb1⟩;have B1:=Lib.hid (HUP.out _ _ HB0.out hb1);obtain⟨y0,y1,y2,y3,y4,y5,y6,y7,y8,-⟩:=(HXB.out _ B1.out).all;clear hb1) | (go_at_call 34;refine(HCheckW (HMB.out _ (HWB.out _ B1.out)).h).mono ?_;rintro e w2 ⟨rfl,hb2⟩;have B2:=Lib.hid (HUP.out _ _ B1.out hb2);obtain⟨z0,z1,z2,z3,z4,z5,z6,z7,z8,-⟩:=(HXB.out _ B2.out).all;clear hb2))
     go_ret
     rw[HR.out]
     exact⟨rfl,HWB.out _ B2.out⟩
    ·have h3:¬ (5000<m.G.length∨12<m.Q.length):=fun e=>e.elim e3 e3'
     have t4:¬ (5000:Int)<(m.G.length:Int):=by omega
     have t5:¬ (12:Int)<(m.Q.length:Int):=by omega
     by_cases e4:ThereM m
     ·have hth:thereB m=true:=pd_true e4
      have h4:¬ thereB m=false:=by rw[hth];decide
      have HTH:=Lib.hid e4
      have H1:=Lib.hid h1;have H2:=Lib.hid h2;have H3:=Lib.hid h3;have H4:=Lib.hid h4
      clear e1 e2 h1 h2 e3 e3' h3 h4 e4
      go_enter Try.func53,Try.ntmps53
      go_wp2_with (first | (go_at_call 19;refine(HCL.out _ (HWB.out _ HB0.out)).mono ?_;rintro e w1 ⟨rfl,hb1⟩;have B1:=Lib.hid (HUP.out _ _ HB0.out hb1);obtain⟨y0,y1,y2,y3,y4,y5,y6,y7,y8,-⟩:=(HXB.out _ B1.out).all;clear hb1) | (go_at_call 34;refine(HCheckW (HMB.out _ (HWB.out _ B1.out)).h).mono ?_;rintro e w2 ⟨rfl,hb2⟩;have B2:=Lib.hid (HUP.out _ _ B1.out hb2);obtain⟨z0,z1,z2,z3,z4,z5,z6,z7,z8,-⟩:=(HXB.out _ B2.out).all;clear hb2) | (go_at_call 92;refine(ThereW m d (HMB.out _ (HWB.out _ B2.out)) HNR.out hl4).mono ?_;rintro e w3 ⟨rfl,hb3⟩;have B3:=Lib.hid (HUP.out _ _ B2.out hb3);obtain⟨x0,x1,x2,x3,x4,x5,x6,x7,x8,-⟩:=(HXB.out _ B3.out).all;clear hb3))
      go_loopw[37] (fun x37 wr=>∃ i:Nat,i≤m.G.length∧x37=.int .i64 i∧Hid (Below (w.heap.size+1) (w.alloc (.cells #[.slice d.h m.H.length d.hn,.slice d.g m.G.length d.gn,.int .i64 m.first,.slice d.c m.ch.length d.cn,.slice d.t m.T.length d.tn,.slice d.q m.Q.length d.qn,.int .i64 m.steps,.int .i64 m.fin,.slice d.a m.ans.length d.an] 81)) wr)∧Hid (∀ j (hj:j<m.G.length),j<i→GoalOk m.G j hj)) (fun x37 _=>m.G.length-(intOf x37).toNat)
      case atStart=>exact⟨0,Nat.zero_le _,rfl,B3,Lib.hid fun j _ h=>absurd h (Nat.not_lt_zero j)⟩
      case round =>
       obtain⟨i,hi,rfl,BL,HG⟩:=hrel
       obtain⟨q0,q1,q2,q3,q4,q5,q6,q7,q8,-⟩:=(HXB.out _ BL.out).all
       by_cases hlt:i<m.G.length
       ·by_cases hg:GoalOk m.G i hlt
        ·have hge:goalE m.G i=0:=by unfold goalE;rw[dif_pos hlt,if_pos hg]
         have hge':(goalE m.G i != 0)=false:=by rw[hge];rfl
         have HG2:Hid (∀ j (hj:j<m.G.length),j<i+1→GoalOk m.G j hj):=Lib.hid fun j hj h=>by
          by_cases e:j=i
          ·subst e;exact hg
          ·exact HG.out j hj (by omega)
         clear hg hge
         go_wp2_with (go_at_call 93;refine(GoalW m d (HMB.out _ (HWB.out _ BL.out)) i hlt).mono ?_;rintro e w4 ⟨rfl,hb4⟩;have B4:=Lib.hid (HUP.out _ _ BL.out hb4);clear hb4)
         go_roundw
         case measure=>simp only[intOf];omega
         case rel=>exact⟨i+1,by omega,by go_num,B4,HG2⟩
        ·have hge:goalE m.G i=4:=by unfold goalE;rw[dif_pos hlt,if_neg hg]
         have hge':(goalE m.G i != 0)=true:=by rw[hge];rfl
         have H5:Hid (pd (GoalsOk m.G)=false):=Lib.hid (pd_false fun e=>hg (e i hlt))
         have HR:Hid (checkM p m=4):=Lib.hid (by unfold checkM;rw[if_neg (fun e=>e H1.out),if_neg (fun e=>e H2.out),if_neg H3.out,if_neg H4.out,if_pos H5.out])
         have HGE:Hid (goalE m.G i=4):=Lib.hid hge
         clear hg hge
         go_wp2_with (go_at_call 93;refine(GoalW m d (HMB.out _ (HWB.out _ BL.out)) i hlt).mono ?_;rintro e w4 ⟨rfl,hb4⟩;have B4:=Lib.hid (HUP.out _ _ BL.out hb4);clear hb4)
         go_ret
         rw[HR.out]
         refine⟨?_,HWB.out _ B4.out⟩
         exact retI HGE.out
       ·have H5:Hid (¬ pd (GoalsOk m.G)=false):=Lib.hid (by rw[pd_true (show GoalsOk m.G from fun j hj=>HG.out j hj (by omega))];decide)
        by_cases f1:0≤m.first∧m.first≤(m.G.length:Int)
        ·have b1:betw m.first 0 (m.G.length:Int)=true:=betw_true f1
         have H6:Hid (¬ ¬ (0≤m.first∧m.first≤(m.G.length:Int))):=Lib.hid fun e=>e f1
         by_cases f2:ChoicesOk p.length m.G.length m.H.length m.T.length zeroChi m.ch
         ·have HCO:=Lib.hid f2
          have hce:choicesE p.length m=0:=by unfold choicesE;rw[if_pos (pd_true f2)]
          have hce':(choicesE p.length m != 0)=false:=by rw[hce];rfl
          have H7:Hid (¬ pd (ChoicesOk p.length m.G.length m.H.length m.T.length zeroChi m.ch)=false):=Lib.hid (by rw[pd_true f2];decide)
          by_cases f3:Lasting m.ch.reverse m
          ·have hpl:pd (Lasting m.ch.reverse m)=true:=pd_true f3
           have H8:Hid (¬ pd (Lasting m.ch.reverse m)=false):=Lib.hid (by rw[hpl];decide)
           by_cases f4:0≤m.steps∧m.steps≤400
           ·have b4:betw m.steps 0 400=true:=betw_true f4
            by_cases f5:0≤m.fin∧m.fin≤4
            ·have b5:betw m.fin 0 4=true:=betw_true f5
             have HR:Hid (checkM p m=0):=Lib.hid (by unfold checkM;rw[if_neg (fun e=>e H1.out),if_neg (fun e=>e H2.out),if_neg H3.out,if_neg H4.out,if_neg H5.out,if_neg H6.out,if_neg H7.out,if_neg H8.out,if_neg (by rw[pd_true (show RangeOk m from ⟨f4,f5⟩)];decide)])
             clear f1 f2 f3 f4 f5 hce
             go_wp2_with (first | (go_at_call 94;refine(withinW _ _ _ _).mono ?_;rintro e w5 ⟨rfl,rfl⟩) | (go_at_call 95;refine(ChoicesW m d (HMB.out _ (HWB.out _ BL.out)) p.length pc pa).mono ?_;rintro e w6 ⟨rfl,hb6⟩;have B6:=Lib.hid (HUP.out _ _ BL.out hb6);obtain⟨u0,u1,u2,u3,u4,u5,u6,u7,u8,-⟩:=(HXB.out _ B6.out).all;clear hb6) | (go_at_call 96;refine(LastingW m d (HMB.out _ (HWB.out _ B6.out)) HBIG.out HCO.out HTH.out HNR.out hl4).mono ?_;rintro e w7 ⟨rfl,hb7⟩;have B7:=Lib.hid (HUP.out _ _ B6.out hb7);obtain⟨v0,v1,v2,v3,v4,v5,v6,v7,v8,-⟩:=(HXB.out _ B7.out).all;clear hb7))
             go_ret
             rw[HR.out]
             exact⟨rfl,HWB.out _ B7.out⟩
            ·have b5:betw m.fin 0 4=false:=betw_false f5
             have HR:Hid (checkM p m=3):=Lib.hid (by unfold checkM;rw[if_neg (fun e=>e H1.out),if_neg (fun e=>e H2.out),if_neg H3.out,if_neg H4.out,if_neg H5.out,if_neg H6.out,if_neg H7.out,if_neg H8.out,if_pos (pd_false fun e:RangeOk m=>f5 e.2)])
             clear f1 f2 f3 f4 f5 hce
             go_wp2_with (first | (go_at_call 94;refine(withinW _ _ _ _).mono ?_;rintro e w5 ⟨rfl,rfl⟩) | (go_at_call 95;refine(ChoicesW m d (HMB.out _ (HWB.out _ BL.out)) p.length pc pa).mono ?_;rintro e w6 ⟨rfl,hb6⟩;have B6:=Lib.hid (HUP.out _ _ BL.out hb6);obtain⟨u0,u1,u2,u3,u4,u5,u6,u7,u8,-⟩:=(HXB.out _ B6.out).all;clear hb6) | (go_at_call 96;refine(LastingW m d (HMB.out _ (HWB.out _ B6.out)) HBIG.out HCO.out HTH.out HNR.out hl4).mono ?_;rintro e w7 ⟨rfl,hb7⟩;have B7:=Lib.hid (HUP.out _ _ B6.out hb7);obtain⟨v0,v1,v2,v3,v4,v5,v6,v7,v8,-⟩:=(HXB.out _ B7.out).all;clear hb7))
             go_ret
             rw[HR.out]
             exact⟨rfl,HWB.out _ B7.out⟩
           ·have b4:betw m.steps 0 400=false:=betw_false f4
            have HR:Hid (checkM p m=3):=Lib.hid (by unfold checkM;rw[if_neg (fun e=>e H1.out),if_neg (fun e=>e H2.out),if_neg H3.out,if_neg H4.out,if_neg H5.out,if_neg H6.out,if_neg H7.out,if_neg H8.out,if_pos (pd_false fun e:RangeOk m=>f4 e.1)])
            clear f1 f2 f3 f4 hce
            go_wp2_with (first | (go_at_call 94;refine(withinW _ _ _ _).mono ?_;rintro e w5 ⟨rfl,rfl⟩) | (go_at_call 95;refine(ChoicesW m d (HMB.out _ (HWB.out _ BL.out)) p.length pc pa).mono ?_;rintro e w6 ⟨rfl,hb6⟩;have B6:=Lib.hid (HUP.out _ _ BL.out hb6);obtain⟨u0,u1,u2,u3,u4,u5,u6,u7,u8,-⟩:=(HXB.out _ B6.out).all;clear hb6) | (go_at_call 96;refine(LastingW m d (HMB.out _ (HWB.out _ B6.out)) HBIG.out HCO.out HTH.out HNR.out hl4).mono ?_;rintro e w7 ⟨rfl,hb7⟩;have B7:=Lib.hid (HUP.out _ _ B6.out hb7);obtain⟨v0,v1,v2,v3,v4,v5,v6,v7,v8,-⟩:=(HXB.out _ B7.out).all;clear hb7))
            go_ret
            rw[HR.out]
            exact⟨rfl,HWB.out _ B7.out⟩
          ·have hpl:pd (Lasting m.ch.reverse m)=false:=pd_false f3
           have HR:Hid (checkM p m=4):=Lib.hid (by unfold checkM;rw[if_neg (fun e=>e H1.out),if_neg (fun e=>e H2.out),if_neg H3.out,if_neg H4.out,if_neg H5.out,if_neg H6.out,if_neg H7.out,if_pos hpl])
           clear f1 f2 f3 hce
           go_wp2_with (first | (go_at_call 94;refine(withinW _ _ _ _).mono ?_;rintro e w5 ⟨rfl,rfl⟩) | (go_at_call 95;refine(ChoicesW m d (HMB.out _ (HWB.out _ BL.out)) p.length pc pa).mono ?_;rintro e w6 ⟨rfl,hb6⟩;have B6:=Lib.hid (HUP.out _ _ BL.out hb6);obtain⟨u0,u1,u2,u3,u4,u5,u6,u7,u8,-⟩:=(HXB.out _ B6.out).all;clear hb6) | (go_at_call 96;refine(LastingW m d (HMB.out _ (HWB.out _ B6.out)) HBIG.out HCO.out HTH.out HNR.out hl4).mono ?_;rintro e w7 ⟨rfl,hb7⟩;have B7:=Lib.hid (HUP.out _ _ B6.out hb7);obtain⟨v0,v1,v2,v3,v4,v5,v6,v7,v8,-⟩:=(HXB.out _ B7.out).all;clear hb7))
           go_ret
           rw[HR.out]
           exact⟨rfl,HWB.out _ B7.out⟩
         ·have hcp:pd (ChoicesOk p.length m.G.length m.H.length m.T.length zeroChi m.ch)=false:=pd_false f2
          have hce:choicesE p.length m=4:=by unfold choicesE;rw[if_neg (by rw[hcp];decide)]
          have hce':(choicesE p.length m != 0)=true:=by rw[hce];rfl
          have HR:Hid (checkM p m=4):=Lib.hid (by unfold checkM;rw[if_neg (fun e=>e H1.out),if_neg (fun e=>e H2.out),if_neg H3.out,if_neg H4.out,if_neg H5.out,if_neg H6.out,if_pos hcp])
          have HGE:Hid (choicesE p.length m=4):=Lib.hid hce
          clear f1 f2 hce
          go_wp2_with (first | (go_at_call 94;refine(withinW _ _ _ _).mono ?_;rintro e w5 ⟨rfl,rfl⟩) | (go_at_call 95;refine(ChoicesW m d (HMB.out _ (HWB.out _ BL.out)) p.length pc pa).mono ?_;rintro e w6 ⟨rfl,hb6⟩;have B6:=Lib.hid (HUP.out _ _ BL.out hb6);obtain⟨u0,u1,u2,u3,u4,u5,u6,u7,u8,-⟩:=(HXB.out _ B6.out).all;clear hb6) | (go_at_call 96;refine(LastingW m d (HMB.out _ (HWB.out _ B6.out)) HBIG.out HCO.out HTH.out HNR.out hl4).mono ?_;rintro e w7 ⟨rfl,hb7⟩;have B7:=Lib.hid (HUP.out _ _ B6.out hb7);obtain⟨v0,v1,v2,v3,v4,v5,v6,v7,v8,-⟩:=(HXB.out _ B7.out).all;clear hb7))
          go_ret
          rw[HR.out]
          refine⟨?_,HWB.out _ B6.out⟩
          exact retI HGE.out
        ·have b1:betw m.first 0 (m.G.length:Int)=false:=betw_false f1
         have HR:Hid (checkM p m=4):=Lib.hid (by unfold checkM;rw[if_neg (fun e=>e H1.out),if_neg (fun e=>e H2.out),if_neg H3.out,if_neg H4.out,if_neg H5.out,if_pos f1])
         clear f1
         go_wp2_with (go_at_call 94;refine(withinW _ _ _ _).mono ?_;rintro e w5 ⟨rfl,rfl⟩)
         go_ret
         rw[HR.out]
         exact⟨rfl,HWB.out _ BL.out⟩
     ·have hth:thereB m=false:=pd_false e4
      have HR:Hid (checkM p m=5):=Lib.hid (by unfold checkM;rw[if_neg (fun e=>e h1),if_neg (fun e=>e h2),if_neg h3,if_pos hth])
      clear e1 e2 h1 h2 e3 e3' h3 e4
      go_enter Try.func53,Try.ntmps53
      go_wp2_with (first | (go_at_call 19;refine(HCL.out _ (HWB.out _ HB0.out)).mono ?_;rintro e w1 ⟨rfl,hb1⟩;have B1:=Lib.hid (HUP.out _ _ HB0.out hb1);obtain⟨y0,y1,y2,y3,y4,y5,y6,y7,y8,-⟩:=(HXB.out _ B1.out).all;clear hb1) | (go_at_call 34;refine(HCheckW (HMB.out _ (HWB.out _ B1.out)).h).mono ?_;rintro e w2 ⟨rfl,hb2⟩;have B2:=Lib.hid (HUP.out _ _ B1.out hb2);obtain⟨z0,z1,z2,z3,z4,z5,z6,z7,z8,-⟩:=(HXB.out _ B2.out).all;clear hb2) | (go_at_call 92;refine(ThereW m d (HMB.out _ (HWB.out _ B2.out)) HNR.out hl4).mono ?_;rintro e w3 ⟨rfl,hb3⟩;have B3:=Lib.hid (HUP.out _ _ B2.out hb3);obtain⟨x0,x1,x2,x3,x4,x5,x6,x7,x8,-⟩:=(HXB.out _ B3.out).all;clear hb3))
      go_ret
      rw[HR.out]
      exact⟨rfl,HWB.out _ B3.out⟩
  ·have t3:((checkH m.H:Int) != 0)=true:=bne0 e2
   have HR:Hid (checkM p m=checkH m.H):=Lib.hid (by unfold checkM;rw[if_neg (fun e=>e h1),if_pos e2])
   clear e1 e2 h1
   go_enter Try.func53,Try.ntmps53
   go_wp2_with (first | (go_at_call 19;refine(HCL.out _ (HWB.out _ HB0.out)).mono ?_;rintro e w1 ⟨rfl,hb1⟩;have B1:=Lib.hid (HUP.out _ _ HB0.out hb1);obtain⟨y0,y1,y2,y3,y4,y5,y6,y7,y8,-⟩:=(HXB.out _ B1.out).all;clear hb1) | (go_at_call 34;refine(HCheckW (HMB.out _ (HWB.out _ B1.out)).h).mono ?_;rintro e w2 ⟨rfl,hb2⟩;have B2:=Lib.hid (HUP.out _ _ B1.out hb2);obtain⟨z0,z1,z2,z3,z4,z5,z6,z7,z8,-⟩:=(HXB.out _ B2.out).all;clear hb2))
   go_ret
   rw[HR.out]
   exact⟨rfl,HWB.out _ B2.out⟩
 ·have t1:((programE p:Int) == 0)=false:=by rw[beq_eq_false_iff_ne];omega
  have t2:((programE p:Int) != 0)=true:=bne0 e1
  have HR:Hid (checkM p m=programE p):=Lib.hid (by unfold checkM;rw[if_pos e1])
  clear e1
  go_enter Try.func53,Try.ntmps53
  go_wp2_with (go_at_call 19;refine(HCL.out _ (HWB.out _ HB0.out)).mono ?_;rintro e w1 ⟨rfl,hb1⟩;have B1:=Lib.hid (HUP.out _ _ HB0.out hb1);obtain⟨y0,y1,y2,y3,y4,y5,y6,y7,y8,-⟩:=(HXB.out _ B1.out).all;clear hb1)
  go_ret
  rw[HR.out]
  exact⟨rfl,HWB.out _ B1.out⟩
end Go.Proofs.Ytikmgiapjigghaa

/- Walk: the reference's CheckHeap. -/
namespace Go.Proofs.Ytikmgiapjigghaa
open Go.RowKit
theorem betw_no{n lo hi:Int}(h:¬ (lo≤n∧n≤hi)):betw n lo hi=false:=Bool.eq_false_iff.2 fun e=>h (betw_iff.1 e)
set_option maxRecDepth 100000 in
set_option maxHeartbeats 4000000 in
theorem CheckHeapW{w:World}{ok:Nat→Prop}{K:List HC}{a:Option Addr}{cap:Nat}(h:HpAt w ok K a cap) :
 Calls Try.prog 30 #[.slice a K.length cap] w fun e w'=>e=.returned (.int .i64 (checkH K:Nat))∧Below w.heap.size w w':=by
 have HP:=Lib.hid h
 have hcl:K.length≤9223372036854775807:=by have:=h.cap;unfold maxLen at this;omega
 clear h
 by_cases hl:400000<K.length
 ·have hl':(400000:Int)<(K.length:Int):=by omega
  have HO:=Lib.hid (checkH_many hl)
  go_enter Try.func30,Try.ntmps30
  go_wp2_with fail
  go_ret
  exact⟨retN HO.out.symm,Below.refl _ _⟩
 ·have hl':(K.length:Int)≤400000:=by omega
  have hln:K.length≤400000:=by omega
  have HL:=Lib.hid hl
  clear hl
  go_enter Try.func30,Try.ntmps30
  go_wp2_with fail
  go_loopw[3] (fun y wr=>∃ i:Nat,i≤K.length∧y=.int .i64 i∧Hid (∀ j,j<i→cellE K j=0)∧Hid (Below w.heap.size w wr)) (fun y _=>K.length-(intOf y).toNat)
  case atStart=>exact⟨0,Nat.zero_le _,rfl,Lib.hid (fun j hj=>absurd hj (Nat.not_lt_zero j)),Lib.hid (Below.refl _ _)⟩
  case round =>
   obtain⟨i,hi,rfl,HZ,HB⟩:=hrel
   by_cases hlt:i<K.length
   ·have HX:Hid (∀ c,cellE K i=c→c≠0→checkH K=c):=Lib.hid (fun c h1 h2=>by
     have h3:cellE K i≠0:=by rw[h1];exact h2
     have:=firstCell_at K.length i hlt HZ.out h3
     rw[checkH_cell HL.out (by rw[this];exact h3),this,h1])
    have HY:Hid (cellE K i=0→∀ j,j<i+1→cellE K j=0):=Lib.hid (fun h j hj=>by
     by_cases e:j=i
     ·subst e;exact h
     ·exact HZ.out j (by omega))
    have HPR:=Lib.hid (HP.out.below HB.out)
    obtain⟨b,off,rfl,hokb,hb,c0,c1,c2,hf⟩:=HPR.out.at' i hlt
    have HBX:Hid (Below w.heap.size w (wr.alloc (.cells #[.int .i64 (hc K i).k,.int .i64 (hc K i).n,.string (hc K i).name] 120))):=Lib.hid (HB.out.trans (((Below.refl _ _).alloc (Nat.le_refl _) _).mono HB.out.size))
    have HFN:=Lib.hid hf.2.2
    have HCE1:=Lib.hid (cellE_ref (K:=K) (i:=i))
    have HCE2:=Lib.hid (cellE_fn (K:=K) (i:=i))
    have HCE3:=Lib.hid (cellE_no (K:=K) (i:=i))
    clear hokb hf
    by_cases hk:(hc K i).k=1
    ·by_cases hbt:0≤(hc K i).n∧(hc K i).n≤(K.length:Int)-1
     ·have hbt':betw (hc K i).n 0 ((K.length:Int)-1)=true:=betw_iff.2 hbt
      by_cases hz:(hc K i).name.size=0
      ·have HE:Hid (cellE K i=0):=Lib.hid (by rw[HCE1.out hk,if_neg (by omega),if_neg (fun h=>h hz)])
       have hne:=emptyB _ hz
       rw[hne] at c2 HBX
       rw[hk] at c0 HBX
       clear hz hne hk hbt
       go_wp2_with (first | (go_at_call 61;refine(betweenW _ _ _ _).mono ?_;rintro e w' ⟨rfl,rfl⟩) | (go_at_call 62;refine(IsNameW _ _ HFN.out).mono ?_;rintro e w' ⟨rfl,rfl⟩))
       all_goals
        go_roundw
        case measure=>simp[intOf];omega
        case rel=>exact⟨i+1,by omega,by go_num,Lib.hid (HY.out HE.out),HBX⟩
      ·have HO:Hid (checkH K=1):=Lib.hid (HX.out 1 (by rw[HCE1.out hk,if_neg (by omega),if_pos hz]) (by omega))
       have hne:(hc K i).name.toList.isEmpty=false:=by rw[List.isEmpty_eq_false_iff];exact toList_ne _ hz
       rw[hk] at c0 HBX
       clear hz hk hbt
       go_wp2_with (first | (go_at_call 61;refine(betweenW _ _ _ _).mono ?_;rintro e w' ⟨rfl,rfl⟩) | (go_at_call 62;refine(IsNameW _ _ HFN.out).mono ?_;rintro e w' ⟨rfl,rfl⟩))
       all_goals
        go_ret
        exact⟨retN HO.out.symm,HBX.out⟩
     ·have hbt':betw (hc K i).n 0 ((K.length:Int)-1)=false:=betw_no hbt
      have HO:Hid (checkH K=5):=Lib.hid (HX.out 5 (by rw[HCE1.out hk,if_pos (by omega)]) (by omega))
      rw[hk] at c0 HBX
      clear hk hbt
      go_wp2_with (first | (go_at_call 61;refine(betweenW _ _ _ _).mono ?_;rintro e w' ⟨rfl,rfl⟩) | (go_at_call 62;refine(IsNameW _ _ HFN.out).mono ?_;rintro e w' ⟨rfl,rfl⟩))
      all_goals
       go_ret
       exact⟨retN HO.out.symm,HBX.out⟩
    ·have hk1:((hc K i).k == 1)=false:=by simpa using hk
     by_cases hk2:(hc K i).k=2
     ·have HCB:Hid (cellE K i=blockE K i):=Lib.hid (HCE2.out hk hk2)
      by_cases hn:nameB (hc K i).name=true
      ·by_cases h4:0≤(hc K i).n∧(hc K i).n≤4
       ·have h4':betw (hc K i).n 0 4=true:=betw_iff.2 h4
        by_cases h33:(hc K i).name.toList = [33]
        ·have h33':=is33.2 h33
         by_cases h0:0<(hc K i).n
         ·have HO:Hid (checkH K=1):=Lib.hid (HX.out 1 (by rw[HCB.out,blockE_bad (.inr (.inr (.inr ⟨h33,h0⟩)))]) (by omega))
          rw[hk2] at c0 HBX hk1
          clear hk hk2
          go_wp2_with (first | (go_at_call 61;refine(betweenW _ _ _ _).mono ?_;rintro e w' ⟨rfl,rfl⟩) | (go_at_call 62;refine(IsNameW _ _ HFN.out).mono ?_;rintro e w' ⟨rfl,rfl⟩))
          all_goals
           go_ret
           exact⟨retN HO.out.symm,HBX.out⟩
         ·have hz:(hc K i).n=0:=by omega
          have HE:Hid (cellE K i=0):=Lib.hid (by
           rw[HCB.out]
           exact blockE_ok (by
            rintro (h | h | h | h)
            ·exact h hn
            ·omega
            ·omega
            ·exact h0 h.2) (by omega) (fun q hq=>by rw[hz] at hq;exact absurd hq (Nat.not_lt_zero q)))
          have hi5:(i:Int)≤(K.length:Int)-1:=by omega
          rw[hk2] at c0 HBX hk1
          rw[hz] at c1 HBX h4'
          have HBC:Hid (BoxC (wr.alloc (.cells #[.int .i64 2,.int .i64 0,.string (hc K i).name] 120)) wr.heap.size ⟨2,0,(hc K i).name⟩):=Lib.hid ⟨heap_alloc_new wr _⟩
          clear hk hk2 h4 h0 hz
          go_wp2_with (first | (go_at_call 61;refine(betweenW _ _ _ _).mono ?_;rintro e w' ⟨rfl,rfl⟩) | (go_at_call 62;refine(IsNameW _ _ HFN.out).mono ?_;rintro e w' ⟨rfl,rfl⟩))
          all_goals
           generalize wr.alloc (.cells #[.int .i64 2,.int .i64 0,.string (hc K i).name] 120)=wb at *
           generalize wr=wq at *
           go_loopw[5] (fun y wr=>y=.int .i64 1∧Hid (Below wb.heap.size wb wr)) (fun y _=>0)
           case atStart=>exact⟨rfl,Lib.hid (Below.refl _ _)⟩
           case round =>
            obtain⟨rfl,HBW⟩:=hrel
            have HBR:Hid (Below w.heap.size w wr):=Lib.hid (HBX.out.trans (HBW.out.mono HBX.out.size))
            have g1:=(HBC.out.keep (HBW.out.block _ HBC.out.lt)).c1
            have hlw:wq.heap.size<wr.heap.size:=Nat.lt_of_lt_of_le HBC.out.lt HBW.out.size
            simp only at g1
            go_wp2_with fail
            go_roundw
            case measure=>simp[intOf];omega
            case rel=>exact⟨i+1,by omega,by go_num,Lib.hid (HY.out HE.out),HBR⟩
        ·have h33':=not33.2 h33
         have HG:Hid (¬ (¬ (nameB (hc K i).name=true)∨(hc K i).n<0∨4<(hc K i).n∨((hc K i).name.toList = [33]∧0<(hc K i).n))):=Lib.hid (by
          rintro (h | h | h | h)
          ·exact h hn
          ·omega
          ·omega
          ·exact h33 h.1)
         by_cases h5:(K.length:Int)≤(i:Int)+(hc K i).n
         ·have HO:Hid (checkH K=5):=Lib.hid (HX.out 5 (by rw[HCB.out,blockE_none HG.out h5]) (by omega))
          have h5':(K.length:Int)-1<(i:Int)+(hc K i).n:=by omega
          have hn4:=h4.2
          rw[hk2] at c0 HBX hk1
          clear hk hk2 h5
          go_wp2_with (first | (go_at_call 61;refine(betweenW _ _ _ _).mono ?_;rintro e w' ⟨rfl,rfl⟩) | (go_at_call 62;refine(IsNameW _ _ HFN.out).mono ?_;rintro e w' ⟨rfl,rfl⟩))
          all_goals
           go_ret
           exact⟨retN HO.out.symm,HBX.out⟩
         ·obtain⟨m,hm⟩:∃ m:Nat,(hc K i).n=(m:Int):=⟨(hc K i).n.toNat,by omega⟩
          have HM:=Lib.hid hm
          have hm4:m≤4:=by omega
          have him:(i:Int)+(m:Int)≤(K.length:Int)-1:=by omega
          have himn:i+m<K.length:=by omega
          rw[hk2] at c0 HBX hk1
          rw[hm] at c1 HBX h4'
          have HBC:Hid (BoxC (wr.alloc (.cells #[.int .i64 2,.int .i64 (m:Int),.string (hc K i).name] 120)) wr.heap.size ⟨2,(m:Int),(hc K i).name⟩):=Lib.hid ⟨heap_alloc_new wr _⟩
          have HWW:Hid (Below wr.heap.size wr (wr.alloc (.cells #[.int .i64 2,.int .i64 (m:Int),.string (hc K i).name] 120))):=Lib.hid ((Below.refl _ _).alloc (Nat.le_refl _) _)
          have HWB:=Lib.hid HWW.out.size
          clear hk hk2 h5 h4 hm
          go_wp2_with (first | (go_at_call 61;refine(betweenW _ _ _ _).mono ?_;rintro e w' ⟨rfl,rfl⟩) | (go_at_call 62;refine(IsNameW _ _ HFN.out).mono ?_;rintro e w' ⟨rfl,rfl⟩))
          all_goals
           generalize wr.alloc (.cells #[.int .i64 2,.int .i64 (m:Int),.string (hc K i).name] 120)=wb at *
           generalize wr=wq at *
           go_loopw[5] (fun y wr=>∃ j:Nat,j≤m∧y=.int .i64 ((j:Int)+1)∧Hid (∀ q:Nat,q<j→(hc K (i+1+q)).k=1)∧Hid (Below wb.heap.size wb wr)) (fun y _=>m+1-(intOf y).toNat)
           case atStart=>exact⟨0,Nat.zero_le _,rfl,Lib.hid (fun q h=>absurd h (Nat.not_lt_zero q)),Lib.hid (Below.refl _ _)⟩
           case round =>
            obtain⟨j,hj,rfl,HQ,HBW⟩:=hrel
            have HBR:Hid (Below w.heap.size w wr):=Lib.hid (HBX.out.trans (HBW.out.mono HBX.out.size))
            have g1:=(HBC.out.keep (HBW.out.block _ HBC.out.lt)).c1
            have hlw:wq.heap.size<wr.heap.size:=Nat.lt_of_lt_of_le HBC.out.lt HBW.out.size
            simp only at g1
            by_cases hjm:j<m
            ·obtain⟨b',off',he,-,hb',d0,d1,d2,-⟩:=HPR.out.at' (i+1+j) (by omega)
             injection he with he
             injection he with e1 e2
             subst e1;subst e2
             rw[show off+(i+1+j)*3=off+(i+(j+1))*3 by omega] at d0
             have hbl:=Nat.lt_of_lt_of_le hb' HWB.out
             have g0:=(HBW.out.cell (p:=⟨b,_,none⟩) hbl).trans ((HWW.out.cell (p:=⟨b,_,none⟩) hb').trans d0)
             have e9:(i:Int)+((j:Int)+1)=((i+(j+1):Nat):Int):=by omega
             have hij:(i:Int)+((j:Int)+1)<(K.length:Int):=by omega
             clear d0 d1 d2 hb' hbl e9
             by_cases hkk:(hc K (i+1+j)).k=1
             ·have hk':((hc K (i+1+j)).k != 1)=false:=by rw[hkk];rfl
              have HQ':Hid (∀ q:Nat,q<j+1→(hc K (i+1+q)).k=1):=Lib.hid (fun q hq=>by
               by_cases e:q=j
               ·subst e;exact hkk
               ·exact HQ.out q (by omega))
              clear hkk
              go_wp2_with fail
              go_roundw
              case measure=>simp[intOf];omega
              case rel=>exact⟨j+1,by omega,by go_num,HQ',HBW⟩
             ·have hk':((hc K (i+1+j)).k != 1)=true:=by rw[bne_iff_ne];exact hkk
              have HO:Hid (checkH K=1):=Lib.hid (HX.out 1 (by rw[HCB.out,blockE_kind HG.out (by rw[HM.out];omega) (fun h=>hkk (h j (by rw[HM.out];omega)))]) (by omega))
              clear hkk
              go_wp2_with fail
              go_ret
              exact⟨retN HO.out.symm,HBR.out⟩
            ·have HE:Hid (cellE K i=0):=Lib.hid (by rw[HCB.out];exact blockE_ok HG.out (by rw[HM.out];omega) (fun q hq=>HQ.out q (by rw[HM.out] at hq;omega)))
             go_wp2_with fail
             go_roundw
             case measure=>simp[intOf];omega
             case rel=>exact⟨i+1,by omega,by go_num,Lib.hid (HY.out HE.out),HBR⟩
       ·have h4':betw (hc K i).n 0 4=false:=betw_no h4
        have HO:Hid (checkH K=1):=Lib.hid (HX.out 1 (by rw[HCB.out,blockE_bad ((Int.lt_or_le (hc K i).n 0).elim (fun h=>.inr (.inl h)) (fun h=>.inr (.inr (.inl (by omega)))))]) (by omega))
        rw[hk2] at c0 HBX hk1
        clear hk hk2
        go_wp2_with (first | (go_at_call 61;refine(betweenW _ _ _ _).mono ?_;rintro e w' ⟨rfl,rfl⟩) | (go_at_call 62;refine(IsNameW _ _ HFN.out).mono ?_;rintro e w' ⟨rfl,rfl⟩))
        all_goals
         go_ret
         exact⟨retN HO.out.symm,HBX.out⟩
      ·have hn':nameB (hc K i).name=false:=Bool.eq_false_iff.2 hn
       have HO:Hid (checkH K=1):=Lib.hid (HX.out 1 (by rw[HCB.out,blockE_bad (.inl hn)]) (by omega))
       rw[hk2] at c0 HBX hk1
       clear hk hk2
       go_wp2_with (first | (go_at_call 61;refine(betweenW _ _ _ _).mono ?_;rintro e w' ⟨rfl,rfl⟩) | (go_at_call 62;refine(IsNameW _ _ HFN.out).mono ?_;rintro e w' ⟨rfl,rfl⟩))
       all_goals
        go_ret
        exact⟨retN HO.out.symm,HBX.out⟩
     ·have HO:Hid (checkH K=1):=Lib.hid (HX.out 1 (HCE3.out hk hk2) (by omega))
      have hk2':((hc K i).k == 2)=false:=by simpa using hk2
      clear hk hk2
      go_wp2_with (first | (go_at_call 61;refine(betweenW _ _ _ _).mono ?_;rintro e w' ⟨rfl,rfl⟩) | (go_at_call 62;refine(IsNameW _ _ HFN.out).mono ?_;rintro e w' ⟨rfl,rfl⟩))
      all_goals
       go_ret
       exact⟨retN HO.out.symm,HBX.out⟩
   ·have HOK:Hid (CellsOk K):=Lib.hid (fun j hj=>HZ.out j (by omega))
    have HF:Hid (firstCell K K.length=0):=Lib.hid (firstCell_zero _ HOK.out)
    have HST:=Lib.hid (StraightRefW (HP.out.below HB.out) HOK.out hln)
    by_cases hs:Straight K
    ·have hs':=straightB_true hs
     rw[hs'] at HST
     have HO:=Lib.hid (checkH_ok HL.out HF.out hs)
     clear hs hs'
     go_wp2_with (go_at_call 78;refine HST.out.mono ?_;rintro e w1 ⟨rfl,hb1⟩)
     go_ret
     exact⟨retN HO.out.symm,HB.out.trans (hb1.mono HB.out.size)⟩
    ·have hs':=straightB_false hs
     rw[hs'] at HST
     have HO:=Lib.hid (checkH_circle HL.out HF.out hs)
     clear hs hs'
     go_wp2_with (go_at_call 78;refine HST.out.mono ?_;rintro e w1 ⟨rfl,hb1⟩)
     go_ret
     exact⟨retN HO.out.symm,HB.out.trans (hb1.mono HB.out.size)⟩
end Go.Proofs.Ytikmgiapjigghaa

/- Plain: a term put behind a heap hangs together with the store. -/
namespace Go.Proofs.Ytikmgiapjigghaa
open Go.RowKit
mutual
theorem putT_dom:∀ (t:Tm) (H:List HC) (V:CV) (v:Int) (c:Nat),(putT H V t).1.2 v=some c→V v=some c∨(V v=none∧H.length≤c∧∃ p,p∈t.parts∧p.var≠0∧p.var=v)
 | .mk v n l,H,V,x,c,hx=>by
  unfold putT at hx
  by_cases hv:v≠0
  ·rw[if_pos hv] at hx
   cases h:V v with
   | some d=>rw[h] at hx;exact .inl hx
   | none =>
    rw[h] at hx
    simp only[updV] at hx
    by_cases e:x=v
    ·subst e
     rw[if_pos rfl] at hx
     cases hx
     exact .inr ⟨h,Nat.le_refl _,_,Tm.self_mem _,hv,rfl⟩
    ·rw[if_neg e] at hx;exact .inl hx
  ·rw[if_neg hv] at hx
   rcases putAs_dom l _ V _ x c hx with h | ⟨h1,h2,p,h3,h4⟩
   ·exact .inl h
   ·refine .inr ⟨h1,?_,p,by rw[Tm.parts];exact List.mem_cons_of_mem _ h3,h4⟩
    simp only[List.length_append,List.length_singleton,List.length_replicate] at h2
    omega
theorem putAs_dom:∀ (l:List Tm) (H:List HC) (V:CV) (p:Nat) (v:Int) (c:Nat),(putAs H V p l).2 v=some c→V v=some c∨(V v=none∧H.length≤c∧∃ q,q∈Tm.partss l∧q.var≠0∧q.var=v)
 | [],H,V,p,x,c,hx=>by rw[putAs_nil] at hx;exact .inl hx
 | t::r,H,V,p,x,c,hx=>by
  rw[putAs_cons] at hx
  have hg:=putT_grow t H V
  rcases putAs_dom r _ _ _ x c hx with h | ⟨h1,h2,q,h3,h4⟩
  ·rcases putT_dom t H V x c h with h | ⟨h1,h2,q,h3,h4⟩
   ·exact .inl h
   ·exact .inr ⟨h1,h2,q,by rw[Tm.partss];exact List.mem_append_left _ h3,h4⟩
  ·refine .inr ⟨?_,?_,q,by rw[Tm.partss];exact List.mem_append_right _ h3,h4⟩
   ·cases h:V x with
    | none=>rfl
    | some d=>rw[putT_mono t H V x d h] at h1;cases h1
   ·rw[setN_length] at h2;omega
end
mutual
theorem putT_has:∀ (t:Tm) (H:List HC) (V:CV),WfT t→∀ p,p∈t.parts→p.var≠0→∃ c,(putT H V t).1.2 p.var=some c
 | .mk v n l,H,V,hw,p,hp,hv=>by
  unfold putT
  by_cases h0:v≠0
  ·rw[if_pos h0]
   obtain⟨ha,_⟩:=(hw _ (Tm.self_mem _)).2 h0
   simp only[Tm.args] at ha
   subst ha
   have e:p=.mk v n []:=by simpa[Tm.parts,Tm.partss] using hp
   subst e
   cases h:V v with
   | some d=>exact⟨d,h⟩
   | none=>exact⟨H.length,by show updV V v H.length v=_;simp[updV]⟩
  ·rw[if_neg h0]
   rw[Tm.parts] at hp
   rcases List.mem_cons.1 hp with rfl | hp
   ·exact absurd hv h0
   ·exact putAs_has l _ V _ (fun x hx=>hw.arg (t:=.mk v n l) hx) p hp hv
theorem putAs_has:∀ (l:List Tm) (H:List HC) (V:CV) (q:Nat),(∀ x,x∈l→WfT x)→∀ p,p∈Tm.partss l→p.var≠0→∃ c,(putAs H V q l).2 p.var=some c
 | [],H,V,q,hw,p,hp,hv=>by simp[Tm.partss] at hp
 | t::r,H,V,q,hw,p,hp,hv=>by
  rw[putAs_cons]
  rw[Tm.partss,List.mem_append] at hp
  rcases hp with hp | hp
  ·obtain⟨c,hc⟩:=putT_has t H V (hw t List.mem_cons_self) p hp hv
   exact⟨c,putAs_mono r _ _ _ _ _ hc⟩
  ·exact putAs_has r _ _ _ (fun x hx=>hw x (List.mem_cons_of_mem _ hx)) p hp hv
end
def CInj(V:CV):Prop:=∀ v w c,V v=some c→V w=some c→v=w
mutual
theorem putT_cinj:∀ (t:Tm) (H:List HC) (V:CV),CInj V→(∀ v c,V v=some c→c<H.length)→CInj (putT H V t).1.2∧∀ v c,(putT H V t).1.2 v=some c→c<(putT H V t).1.1.length
 | .mk v n l,H,V,hi,hb=>by
  unfold putT
  by_cases hv:v≠0
  ·rw[if_pos hv]
   cases h:V v with
   | some d=>exact⟨hi,hb⟩
   | none =>
    simp only
    refine⟨fun x y c hx hy=>?_,fun x c hx=>?_⟩
    ·simp only[updV] at hx hy
     by_cases e1:x=v
     ·by_cases e2:y=v
      ·rw[e1,e2]
      ·rw[if_pos e1] at hx;rw[if_neg e2] at hy
       have:=hb y c hy
       cases hx;omega
     ·rw[if_neg e1] at hx
      by_cases e2:y=v
      ·rw[if_pos e2] at hy
       have:=hb x c hx
       cases hy;omega
      ·rw[if_neg e2] at hy;exact hi x y c hx hy
    ·simp only[updV] at hx
     rw[List.length_append,List.length_singleton]
     by_cases e:x=v
     ·rw[if_pos e] at hx;cases hx;omega
     ·rw[if_neg e] at hx;have:=hb x c hx;omega
  ·rw[if_neg hv]
   exact putAs_cinj l _ V _ hi fun x c hx=>by
    have:=hb x c hx
    simp only[List.length_append,List.length_singleton,List.length_replicate];omega
theorem putAs_cinj:∀ (l:List Tm) (H:List HC) (V:CV) (p:Nat),CInj V→(∀ v c,V v=some c→c<H.length)→CInj (putAs H V p l).2∧∀ v c,(putAs H V p l).2 v=some c→c<(putAs H V p l).1.length
 | [],H,V,p,hi,hb=>by rw[putAs_nil];exact⟨hi,hb⟩
 | t::r,H,V,p,hi,hb=>by
  rw[putAs_cons]
  obtain⟨h1,h2⟩:=putT_cinj t H V hi hb
  exact putAs_cinj r _ _ _ h1 fun x c hx=>by rw[setN_length];exact h2 x c hx
end
structure PutH(H:List HC)(σ:Sub)(k:Int)(V:CV)(D:Int→Prop)(S:Int→Nat)(t:Tm)(H':List HC)(V':CV)(c:Nat)(D':Int→Prop)(S':Int→Nat):Prop where
 hang:Hang H' σ D' S'
 rel:VRel σ k V' D' S'
 inj:CInj V'∧∀ v c,V' v=some c→c<H'.length
 st:St H' D' S' c (far k t)
 more:∀ v,D v→D' v∧S' v=S v
 keep:∀ d u,St H D S d u→St H' D' S' d u
 len:H.length≤H'.length
 old:∀ i,i<H.length→hc H' i=hc H i
theorem Rv.varc{O:Nat→Prop}{H:List HC}{Ho:Nat→Prop}{S:Int→Nat}{i:Nat}{t:Tm}(h:Rv O H Ho S i t):∀ v,t=VarT v→v≠0→O (S v)∨hc H (S v)=selfC (S v):=by
 induction h with
 | @var i w h1 h2 h3 h4 h5 =>
  intro v e hv
  injection e with e1
  subst e1
  rw[h4];exact h5
 | ref h1 h2 h3 h4 h5 ih=>exact ih
 | fn h1 h2 h3 h4 h5 ih =>
  intro v e hv
  injection e with e1
  exact absurd e1.symm hv
theorem self_end{H:List HC}{c:Nat}(h:hc H c=selfC c):endH H c=c:=endH_stop fun hr=>hr.2 (by rw[h];rfl)
theorem hang_term{H:List HC}{σ:Sub}{D:Int→Prop}{S:Int→Nat}(h:Hang H σ D S){k:Int}(hk:0≤k){V:CV}(hV:VRel σ k V D S)(hj:CInj V){t:Tm}(hw:WfT t)(hn:NamesOk t)(hp:∀ p,p∈t.parts→p.var≠0→1≤p.var)
 (hlen:(putT H V t).1.1.length≤400000):∃ D' S',PutH H σ k V D S t (putT H V t).1.1 (putT H V t).1.2 (putT H V t).2 D' S':=by
 have hb:∀ v c,V v=some c→c<H.length:=fun v c e=>by obtain⟨_,h2,h3⟩:=hV.old v c e;rw[← h3];exact(h.cell _ h2).2
 have hdom:=putT_dom t H V
 have hmono:=putT_mono t H V
 have hhas:=putT_has t H V hw
 obtain⟨hinj,hbd⟩:=putT_cinj t H V hj hb
 have hput:=putT_okV (fun i=>i<H.length) t H V (fun _=>False) (fun v=>((putT H V t).1.2 v).getD 0) hw (fun i h=>h.elim) (fun v c hc=>by simp only[hc];rfl) (fun v c hc=>by
  obtain⟨h1,_,_⟩:=hV.old v c hc
  have e:(((putT H V t).1.2 v).getD 0)=c:=by rw[hmono v c hc];rfl
  exact⟨by omega,e,.var (hb v c hc) (fun e=>e) (by omega) e (.inl (hb v c hc))⟩)
 have hI:=put_invV h.heap hn hput
 generalize putT H V t=q at *
 obtain⟨⟨H',V'⟩,c⟩:=q
 simp only at *
 have ho:=hput.old
 have hl:=hput.len
 have hnew:∀ x c,V' x=some c→¬ D (x+k)→H.length≤c∧1≤x∧V x=none∧σ (x+k)=none∧hc H' c=selfC c:=fun x c hx hd=>by
  rcases hdom x c hx with e | ⟨e1,e2,p,e3,e4,e5⟩
  ·exact absurd (hV.old x c e).2.1 hd
  ·have h1:1≤x:=by rw[← e5];exact hp p e3 e4
   refine⟨e2,h1,e1,(hV.new x h1 e1).2,?_⟩
   obtain⟨a,b,d⟩:=hput.vok x c hx
   have b':(V' x).getD 0=c:=b
   rcases d.varc x rfl a with f | f
   ·have f':(V' x).getD 0<H.length:=f
    rw[b'] at f';omega
   ·have f':hc H' ((V' x).getD 0)=selfC ((V' x).getD 0):=f
    rw[b'] at f';exact f'
 have hS2:∀ x c,V' x=some c→D (x+k)→S (x+k)=c:=fun x c hx hd=>by
  rcases hdom x c hx with e | ⟨e1,e2,p,e3,e4,e5⟩
  ·exact(hV.old x c e).2.2
  ·exact absurd hd (hV.new x (by rw[← e5];exact hp p e3 e4) e1).1
 have hx1:∀ x c,V' x=some c→1≤x:=fun x c hx=>by
  rcases hdom x c hx with e | ⟨e1,e2,p,e3,e4,e5⟩
  ·exact(hV.old x c e).1
  ·rw[← e5];exact hp p e3 e4
 obtain⟨S',hSo,hSn⟩:∃ S':Int→Nat,(∀ v,D v→S' v=S v)∧∀ x c,V' x=some c→S' (x+k)=c:=by
  refine⟨fun v=>@ite _ (D v) (Classical.propDecidable _) (S v) ((V' (v-k)).getD 0),fun v hv=>if_pos hv,fun x c hx=>?_⟩
  by_cases hd:D (x+k)
  ·exact(if_pos hd).trans (hS2 x c hx hd)
  ·exact(if_neg hd).trans (by rw[show x+k-k=x by omega,hx];rfl)
 have hD:∀ v,D v→(D v∨∃ x c,v=x+k∧V' x=some c)∧S' v=S v∧S v<H.length:=fun v hv=>⟨.inl hv,hSo v hv,(h.cell v hv).2⟩
 have hkeep:∀ d u,St H D S d u→St H' (fun v=>D v∨∃ x c,v=x+k∧V' x=some c) S' d u:=fun d u hs=>hs.old h.heap hl ho hD
 have hI':HInv H':=⟨hlen,hI.1,hI.2⟩
 have hlk:∀ x c,V' x=some c→¬ D (x+k)→look σ (VarT (x+k))=VarT (x+k):=fun x c hx hd=>look_free (hnew x c hx hd).2.2.2.1
 have heo:∀ v,D v→endH H' (S' v)=endH H (S v)∧endH H (S v)<H.length:=fun v hv=>by
  rw[hSo v hv];exact⟨endH_old h.heap ho (h.cell v hv).2,(h.heap.end (h.cell v hv).2).1⟩
 have hen:∀ x c,V' x=some c→¬ D (x+k)→endH H' (S' (x+k))=c:=fun x c hx hd=>by rw[hSn x c hx];exact self_end (hnew x c hx hd).2.2.2.2
 refine⟨fun v=>D v∨∃ x c,v=x+k∧V' x=some c,S',?_⟩
 have hH:Hang H' σ (fun v=>D v∨∃ x c,v=x+k∧V' x=some c) S':=by
  refine⟨hI',h.store,?_,?_,?_,?_⟩
  ·rintro v (hv | ⟨x,c,rfl,hx⟩)
   ·obtain⟨a,b⟩:=h.cell v hv
    exact⟨a,by rw[hSo v hv];omega⟩
   ·have:=hx1 x c hx
    exact⟨by omega,by rw[hSn x c hx];exact hbd x c hx⟩
  ·rintro v hv hne
   by_cases hd:D v
   ·obtain⟨a,b⟩:=h.kind v hd hne
    obtain⟨e1,e2⟩:=heo v hd
    exact⟨by rw[e1,ho _ e2];exact a,.inl b⟩
   ·obtain⟨x,c,rfl,hx⟩:=hv.resolve_left hd
    refine⟨?_,by rw[hlk x c hx hd];exact .inr ⟨x,c,rfl,hx⟩⟩
    rw[hen x c hx hd,(hnew x c hx hd).2.2.2.2];rfl
  ·rintro v hv h0
   by_cases hd:D v
   ·have:=hkeep _ _ (h.fn v hd h0)
    rw[hSo v hd];exact this
   ·obtain⟨x,c,rfl,hx⟩:=hv.resolve_left hd
    rw[hlk x c hx hd] at h0
    have h1:=hx1 x c hx
    have h0':x+k=0:=h0
    omega
  ·rintro v u hv hu h1 h2
   by_cases d1:D v
   ·by_cases d2:D u
    ·rw[(heo v d1).1,(heo u d2).1];exact h.cls v u d1 d2 h1 h2
    ·obtain⟨x,c,rfl,hx⟩:=hu.resolve_left d2
     rw[(heo v d1).1,hen x c hx d2,hlk x c hx d2]
     have a:=(h.kind v d1 h1).2
     have b:=(hnew x c hx d2).1
     have e:=(heo v d1).2
     constructor
     ·intro e'
      have e'':(look σ (VarT v)).var=x+k:=e'
      rw[e''] at a;exact absurd a d2
     ·intro e';omega
   ·obtain⟨x,c,rfl,hx⟩:=hv.resolve_left d1
    by_cases d2:D u
    ·rw[(heo u d2).1,hen x c hx d1,hlk x c hx d1]
     have a:=(h.kind u d2 h2).2
     have b:=(hnew x c hx d1).1
     have e:=(heo u d2).2
     constructor
     ·intro e'
      have e'':x+k=(look σ (VarT u)).var:=e'
      rw[← e''] at a;exact absurd a d1
     ·intro e';omega
    ·obtain⟨y,d,rfl,hy⟩:=hu.resolve_left d2
     rw[hen x c hx d1,hen y d hy d2,hlk x c hx d1,hlk y d hy d2]
     constructor
     ·intro e'
      have e'':x+k=y+k:=e'
      have:x=y:=by omega
      subst this
      rw[hx] at hy;cases hy;rfl
     ·intro e'
      subst e'
      rw[hinj x y c hx hy]
 refine⟨hH,⟨fun v c hc=>⟨hx1 v c hc,.inr ⟨v,c,rfl,hc⟩,hSn v c hc⟩,fun v h1 hc=>?_⟩,⟨hinj,hbd⟩,?_,fun v hv=>⟨.inl hv,hSo v hv⟩,hkeep,hl,ho⟩
 ·have hv:V v=none:=by
   cases e:V v with
   | none=>rfl
   | some d=>rw[hmono v d e] at hc;cases hc
  refine⟨?_,(hV.new v h1 hv).2⟩
  rintro (hd | ⟨x,c,e,hx⟩)
  ·exact(hV.new v h1 hv).1 hd
  ·have:v=x:=by omega
   subst this
   rw[hc] at hx;cases hx
 ·refine hput.rd.st (fun i hi=>hI'.straight i hi) fun p hp' hv=>?_
  obtain⟨c',hc'⟩:=hhas p hp' hv
  have h1:=hp p hp' hv
  exact⟨by omega,.inr ⟨p.var,c',rfl,hc'⟩,by rw[hSn _ _ hc',hc'];rfl⟩
end Go.Proofs.Ytikmgiapjigghaa

/- Plain: a machine and a search that stand alike. -/
namespace Go.Proofs.Ytikmgiapjigghaa
open Go.RowKit
def GoR(H:List HC)(G:List Gn)(D:Int→Prop)(Sc:Int→Nat):List Goal→Nat→Prop
 | [],n=>n=0
 | g::r,n=>∃ x:Gn,1≤n∧G[n-1]? = some x∧x.cut=g.2∧St H D Sc x.at' g.1∧GoR H G D Sc r x.next
theorem GoR.keep{H H':List HC}{G g:List Gn}{D D':Int→Prop}{Sc Sc':Int→Nat}(hst:∀ c t,St H D Sc c t→St H' D' Sc' c t):∀ {now:List Goal} {n:Nat},GoR H G D Sc now n→GoR H' (G++g) D' Sc' now n:=by
 intro now
 induction now with
 | nil=>intro n h;exact h
 | cons a r ih =>
  rintro n ⟨x,h1,h2,h3,h4,h5⟩
  refine⟨x,h1,?_,h3,hst _ _ h4,ih h5⟩
  rw[List.getElem?_append_left (List.getElem?_eq_some_iff.1 h2).1];exact h2
structure Sit(S:MS)(n vars:Nat)(σ:Sub)(now:List Goal)(D:Int→Prop)(Sc:Int→Nat):Prop where
 hang:Hang S.H σ D Sc
 go:GoR S.H S.G D Sc now n
 query:∀ i (h:i<S.Q.length),St S.H D Sc S.Q[i] (VarT ((i:Int)+1))
 fresh:∀ v:Int,(vars:Int)<v→¬ D v∧σ v=none
 goals:∀ i (h:i<S.G.length),S.G[i].at'<S.H.length∧S.G[i].next≤i
 trail:∀ x,x∈S.T→x<S.H.length
theorem Sit.congr{S S':MS}{n vars:Nat}{σ:Sub}{now:List Goal}{D:Int→Prop}{Sc:Int→Nat}(h:Sit S n vars σ now D Sc)(h1:S'.H=S.H)(h2:S'.T=S.T)(h3:S'.G=S.G)(h4:S'.Q=S.Q):Sit S' n vars σ now D Sc:=by
 cases S;cases S'
 simp only at h1 h2 h3 h4
 subst h1 h2 h3 h4
 exact⟨h.hang,h.go,h.query,h.fresh,h.goals,h.trail⟩
theorem Sit.mono{S:MS}{n vars vars':Nat}{σ:Sub}{now:List Goal}{D:Int→Prop}{Sc:Int→Nat}(h:Sit S n vars σ now D Sc)(hv:vars≤vars'):Sit S n vars' σ now D Sc :=
 ⟨h.hang,h.go,h.query,fun v hw=>h.fresh v (by omega),h.goals,h.trail⟩
structure ChX(p:List Cl)(vars:Nat)(S:MS)(c:Cn)(d:PCh):Prop where
 within:Within S c
 cl:c.clause=d.cl∧d.cl<p.length
 ne:d.gs≠[]∧(look d.σ (headT d.gs)).var=0
 sit:∃ D Sc,Sit (undoS S c) c.goal vars d.σ d.gs D Sc
theorem ChX.mono{p:List Cl}{vars vars':Nat}{S:MS}{c:Cn}{d:PCh}(h:ChX p vars S c d)(hv:vars≤vars'):ChX p vars' S c d :=
 ⟨h.within,h.cl,h.ne,by obtain⟨D,Sc,hs⟩:=h.sit;exact⟨D,Sc,hs.mono hv⟩⟩
def ChR(p:List Cl)(vars:Nat):MS→List Cn→List PCh→Prop
 | _,[],[]=>True
 | S,c::cs,d::ds=>ChX p vars S c d∧ChR p vars (undoS S c) cs ds
 | _,[],_::_=>False
 | _,_::_,[]=>False
theorem ChR.len{p:List Cl}{vars:Nat}:∀ {cs:List Cn} {ds:List PCh} {S:MS},ChR p vars S cs ds→cs.length=ds.length:=by
 intro cs
 induction cs with
 | nil=>intro ds S h;cases ds with
  | nil=>rfl
  | cons d ds=>exact h.elim
 | cons c cs ih=>intro ds S h;cases ds with
  | nil=>exact h.elim
  | cons d ds=>simp only[List.length_cons];rw[ih h.2]
theorem ChR.mono{p:List Cl}{vars vars':Nat}(hv:vars≤vars'):∀ {cs:List Cn} {ds:List PCh} {S:MS},ChR p vars S cs ds→ChR p vars' S cs ds:=by
 intro cs
 induction cs with
 | nil=>intro ds S h;cases ds with
  | nil=>exact h
  | cons d ds=>exact h.elim
 | cons c cs ih=>intro ds S h;cases ds with
  | nil=>exact h.elim
  | cons d ds=>exact⟨h.1.mono hv,ih h.2⟩
theorem undoS_congr{S S':MS}(h1:S'.H=S.H)(h2:S'.T=S.T)(h3:S'.G=S.G)(c:Cn):(undoS S' c).H=(undoS S c).H∧(undoS S' c).T=(undoS S c).T∧(undoS S' c).G=(undoS S c).G:=by
 unfold undoS;simp only;rw[h1,h2,h3];exact⟨rfl,rfl,rfl⟩
theorem ChR.congr{p:List Cl}{vars:Nat}:∀ {cs:List Cn} {ds:List PCh} {S S':MS},ChR p vars S cs ds→S'.H=S.H→S'.T=S.T→S'.G=S.G→S'.Q=S.Q→ChR p vars S' cs ds:=by
 intro cs
 induction cs with
 | nil=>intro ds S S' h _ _ _ _;cases ds with
  | nil=>exact h
  | cons d ds=>exact h.elim
 | cons c cs ih=>intro ds S S' h h1 h2 h3 h4;cases ds with
  | nil=>exact h.elim
  | cons d ds =>
   obtain⟨e1,e2,e3⟩:=undoS_congr h1 h2 h3 c
   obtain⟨⟨w1,w2,w3⟩,k2,k3,D,Sc,k4⟩:=h.1
   exact⟨⟨⟨by rw[h1];exact w1,by rw[h2];exact w2,by rw[h3];exact w3⟩,k2,k3,D,Sc,k4.congr e1 e2 e3 h4⟩,ih h.2 e1 e2 e3 h4⟩
theorem Ext.within{S S':MS}(h:Ext S S'){c:Cn}(w:Within S c):Within S' c:=by
 obtain⟨l1,⟨b,e1,_,_⟩,⟨g,f1⟩⟩:=h
 obtain⟨w1,w2,w3⟩:=w
 exact⟨by omega,by rw[e1,List.length_append];omega,by rw[f1,List.length_append];omega⟩
theorem ChR.ext{p:List Cl}{vars:Nat}{cs:List Cn}{ds:List PCh}{S S':MS}(h:ChR p vars S cs ds)(he:Ext S S')(hq:S'.Q=S.Q):ChR p vars S' cs ds:=by
 cases cs with
 | nil=>cases ds with
  | nil=>exact h
  | cons d ds=>exact h.elim
 | cons c cs=>cases ds with
  | nil=>exact h.elim
  | cons d ds =>
   obtain⟨⟨w,k2,k3,D,Sc,k4⟩,h2⟩:=h
   obtain⟨e1,e2,e3⟩:=he.undo w
   exact⟨⟨he.within w,k2,k3,D,Sc,k4.congr e1 e2 e3 hq⟩,h2.congr e1 e2 e3 hq⟩
theorem undo_ext{S:MS}{c:Cn}(w:Within S c):Ext (undoS S c) S:=by
 obtain⟨w1,w2,w3⟩:=w
 have hl:(undoS S c).H.length=c.heap:=by unfold undoS;simp only[List.length_take,unbindN_length];omega
 refine⟨by omega,⟨S.T.drop c.trail,(List.take_append_drop _ _).symm,fun i hi h=>?_,fun i h hn=>?_⟩,⟨S.G.drop c.goals,(List.take_append_drop _ _).symm⟩⟩
 ·rw[hl] at h
  have:=undo_get (T:=S.T) (tr:=c.trail) w1 h
  rw[if_pos hi] at this
  exact this
 ·rw[hl] at h
  have:=undo_get (T:=S.T) (tr:=c.trail) w1 h
  rw[if_neg hn] at this
  exact this.symm
theorem ChR.tail{p:List Cl}{vars:Nat}{c:Cn}{cs:List Cn}{d:PCh}{ds:List PCh}{S:MS}(h:ChR p vars S (c::cs) (d::ds)):ChR p vars S cs ds :=
 h.2.ext (undo_ext h.1.within) rfl
theorem ChR.drop{p:List Cl}{vars:Nat}{S:MS}:∀ (k:Nat) {cs:List Cn} {ds:List PCh},ChR p vars S cs ds→ChR p vars S (cs.drop k) (ds.drop k):=by
 intro k
 induction k with
 | zero=>intro cs ds h;exact h
 | succ k ih =>
  intro cs ds h
  cases cs with
  | nil=>cases ds with
   | nil=>exact h
   | cons d ds=>exact h.elim
  | cons c cs=>cases ds with
   | nil=>exact h.elim
   | cons d ds=>exact ih h.tail
theorem ChR.take{p:List Cl}{vars:Nat}{S:MS}{ch:List Cn}{dh:List PCh}(h:ChR p vars S ch.reverse dh.reverse)(k:Nat):ChR p vars S (ch.take k).reverse (dh.take k).reverse:=by
 have hl:ch.length=dh.length:=by have:=h.len;simpa using this
 rw[List.reverse_take,List.reverse_take,hl]
 exact h.drop _
structure Core(p:List Cl)(S:MS)(P:PS):Prop where
 sit:∃ D Sc,Sit S S.first P.vars P.σ P.now D Sc
 ch:ChR p P.vars S S.ch.reverse P.ch.reverse
structure MvS(p:List Cl)(S:MS)(P:PS):Prop where
 fin:S.fin=P.fin
 steps:S.steps=P.steps
 ans:S.ans=P.ans
 core:S.fin=0→Core p S P
 weak:∃ P0,Core p S P0
structure CallIn(p:List Cl)(S:MS)(P:PS)(n:Nat)(gs:List Goal)(t:Tm):Prop where
 sit:∃ D Sc,Sit S n P.vars P.σ gs D Sc
 ch:ChR p P.vars S S.ch.reverse P.ch.reverse
 first:S.first=n
 work:S.f=P.f∧S.f≤4000
 ne:gs≠[]
 t:t=look P.σ (headT gs)∧t.var=0
 fin:S.fin=0∧P.fin=0
 same:S.steps=P.steps∧S.ans=P.ans
structure TmG(t:Tm):Prop where
 fit:Fit 13 t
 names:NamesOk t
 size:t.size≤60
structure ClG(c:Cl):Prop where
 head:TmG c.head
 body:∀ b,b∈c.body→TmG b
 len:c.body.length≤6
def StsL(H:List HC)(D:Int→Prop)(Sc:Int→Nat):List Nat→List Tm→Prop
 | [],[]=>True
 | a::cs0,t::ts=>St H D Sc a t∧StsL H D Sc cs0 ts
 | [],_::_=>False
 | _::_,[]=>False
structure PutLs(H:List HC)(σ:Sub)(k:Int)(D:Int→Prop)(Sc:Int→Nat)(l:List Tm)(H':List HC)(V':CV)(cs0:List Nat)(D':Int→Prop)(Sc':Int→Nat):Prop where
 hang:Hang H' σ D' Sc'
 rel:VRel σ k V' D' Sc'
 inj:CInj V'
 dom:∀ v c,V' v=some c→v≤12
 st:StsL H' D' Sc' cs0 (l.map (far k))
 keep:∀ d u,St H D Sc d u→St H' D' Sc' d u
 len:H.length≤H'.length∧H'.length≤H.length+119*l.length
 old:∀ i,i<H.length→hc H' i=hc H i
theorem TmG.var{t:Tm}(h:TmG t){p:Tm}(hp:p∈t.parts)(hv:p.var≠0):1≤p.var∧p.var≤12:=by
 have:=fit_parts h.fit hp hv
 omega
theorem putL_sim{σ:Sub}{k:Int}(hk:0≤k):∀ (l:List Tm) (H:List HC) (V:CV) (D:Int→Prop) (Sc:Int→Nat),Hang H σ D Sc→VRel σ k V D Sc→CInj V→(∀ v c,V v=some c→v≤12)→(∀ t,t∈l→TmG t)→H.length+119*l.length≤400000 →
 ∃ D' Sc',PutLs H σ k D Sc l (putL H V l).1.1 (putL H V l).1.2 (putL H V l).2 D' Sc':=by
 intro l
 induction l with
 | nil =>
  intro H V D Sc h hV hj hd _ _
  exact⟨D,Sc,h,hV,hj,hd,trivial,fun _ _ h=>h,⟨Nat.le_refl _,Nat.le_refl _⟩,fun _ _=>rfl⟩
 | cons t r ih =>
  intro H V D Sc h hV hj hd hl hlen
  have ht:=hl t List.mem_cons_self
  have hle:=putT_le t H V
  have hsz:=ht.size
  simp only[List.length_cons] at hlen
  obtain⟨D1,S1,q⟩:=hang_term h hk hV hj ht.fit.wf ht.names (fun p hp hv=>(ht.var hp hv).1) (by omega)
  have hd1:∀ v c,(putT H V t).1.2 v=some c→v≤12:=fun v c e=>by
   rcases putT_dom t H V v c e with e | ⟨_,_,p,e1,e2,e3⟩
   ·exact hd v c e
   ·rw[← e3];exact(ht.var e1 e2).2
  obtain⟨D2,S2,q2⟩:=ih (putT H V t).1.1 (putT H V t).1.2 D1 S1 q.hang q.rel q.inj.1 hd1 (fun x hx=>hl x (List.mem_cons_of_mem _ hx)) (by omega)
  refine⟨D2,S2,q2.hang,q2.rel,q2.inj,q2.dom,⟨q2.keep _ _ q.st,q2.st⟩,fun d u hs=>q2.keep d u (q.keep d u hs),⟨Nat.le_trans q.len q2.len.1,?_⟩,fun i hi=>?_⟩
  ·have:=q2.len.2
   simp only[putL,List.length_cons];omega
  ·have h1:=q2.old i (Nat.lt_of_lt_of_le hi q.len)
   exact h1.trans (q.old i hi)
theorem pushG_append(cut:Nat):∀ (x y:List Nat) (s:List Gn×Nat),pushG cut (x++y) s=pushG cut y (pushG cut x s):=by
 intro x
 induction x with
 | nil=>intro y s;rfl
 | cons a x ih=>intro y s;exact ih y _
theorem push_rel{H:List HC}{D:Int→Prop}{Sc:Int→Nat}(cut:Nat){G:List Gn}{nx:Nat}{rest:List Goal}(hr:GoR H G D Sc rest nx)(hn:nx≤G.length)(hG:∀ i (h:i<G.length),G[i].at'<H.length∧G[i].next≤i):∀ (cs0:List Nat) (ts:List Tm),StsL H D Sc cs0 ts →
 GoR H (pushG cut cs0.reverse (G,nx)).1 D Sc (ts.map (fun t=>(t,cut))++rest) (pushG cut cs0.reverse (G,nx)).2∧(pushG cut cs0.reverse (G,nx)).2≤(pushG cut cs0.reverse (G,nx)).1.length ∧
 (∃ g,(pushG cut cs0.reverse (G,nx)).1=G++g∧g.length=cs0.length)∧∀ i (h:i<(pushG cut cs0.reverse (G,nx)).1.length),(pushG cut cs0.reverse (G,nx)).1[i].at'<H.length∧(pushG cut cs0.reverse (G,nx)).1[i].next≤i:=by
 intro cs0
 induction cs0 with
 | nil =>
  intro ts h
  cases ts with
  | nil=>exact⟨hr,hn,⟨[],by simp[pushG],rfl⟩,hG⟩
  | cons t ts=>exact h.elim
 | cons a cs0 ih =>
  intro ts h
  cases ts with
  | nil=>exact h.elim
  | cons t ts =>
   obtain⟨h1,h2,⟨g,h3,h3'⟩,h4⟩:=ih ts h.2
   rw[List.reverse_cons,pushG_append]
   generalize pushG cut cs0.reverse (G,nx)=s at *
   have e:pushG cut [a] s=(s.1++[⟨a,cut,s.2⟩],s.1.length+1):=rfl
   rw[e]
   simp only
   refine⟨⟨⟨a,cut,s.2⟩,by omega,by simp,rfl,h.1,h1.keep fun _ _ h=>h⟩,by simp,⟨g++[⟨a,cut,s.2⟩],by rw[h3,List.append_assoc],by simp[h3']⟩,fun i hi=>?_⟩
   rw[List.length_append,List.length_singleton] at hi
   by_cases hl:i<s.1.length
   ·rw[List.getElem_append_left hl];exact h4 i hl
   ·have:i=s.1.length:=by omega
    subst this
    rw[List.getElem_append_right (Nat.le_refl _)]
    simp only[Nat.sub_self,List.getElem_cons_zero]
    exact⟨h.1.lt,h2⟩
end Go.Proofs.Ytikmgiapjigghaa

/- Plain: as many cells are bound as there was work, at most. -/
namespace Go.Proofs.Ytikmgiapjigghaa
open Go.RowKit
def BRoom(n:Nat):HOut→Prop
 | .ok _ B _=>B.length≤n
 | .no _ B _=>B.length≤n
 | .many _ B=>B.length≤n
theorem meetH_room:∀ (f:Nat) (K:List HC) (B:List Nat) (ps:List (Nat×Nat)),HInv K→(∀ p,p∈ps→p.1<K.length∧p.2<K.length)→∀ n,B.length+f≤n→BRoom n (meetH K B f ps):=by
 intro f
 induction f using Nat.strongRecOn with
 | _ f ih =>
 intro K B ps hI hp n hn
 cases ps with
 | nil=>rw[meetH_nil];show B.length≤n;omega
 | cons p r =>
  cases f with
  | zero=>rw[meetH_zero];show B.length≤n;omega
  | succ f =>
   have h1:=hI.end (hp p List.mem_cons_self).1
   have h2:=hI.end (hp p List.mem_cons_self).2
   cases hs:pairHStep K B f (endH K p.1) (endH K p.2) with
   | done o =>
    rw[meetH_done _ hs]
    rcases done_pairHStep hs with ⟨f',rfl⟩ | rfl
    ·show B.length≤n;omega
    ·show B.length≤n;omega
   | go K' B' f' m =>
    rw[meetH_go _ hs]
    obtain⟨a,b,c,d⟩:=pairHStep_inv hI h1.1 h1.2 h2.1 h2.2 hs
    have hle:=pairHStep_le hs
    exact ih f' (by omega) K' B' (m++r) a (fun q hq=>by
     rcases List.mem_append.1 hq with hq | hq
     ·rw[b];exact c q hq
     ·rw[b];exact hp q (List.mem_cons_of_mem _ hq)) n (by omega)
end Go.Proofs.Ytikmgiapjigghaa
