/- Proved: the statement MachineRunsSaid: whatever program, query and number of steps it is handed, 'MachineRuns' answers true, and each argument reads behind the call as it read before. No condition. -/
import Derived.Deep.RegionHeld3
import Derived.Test.YtikmgiapjigghabCb21
import Derived.Test.YtikmgiapjigghabCb22
import Derived.Test.YtikmgiapjigghabCb37
namespace Go.Proofs.Ytikmgiapjigghab
open Go.ChangeShapes Go.WideShapes Go.ChangeAt Go.RowKit
theorem ready_solve(p:List Cl)(q:List Tm)(s:Int):readyE p q s=solveE p q s:=by
 have e:(if 0≤s∧s≤400 then 0 else 3)=(if s<0∨400<s then 3 else 0:Nat):=by split <;> split <;> omega
 unfold readyE solveE
 rw[e]
theorem AsAt.below'{w w':World}{ok:Nat→Prop}{l:List (List Tm)}{a:Option Addr}{c:Nat}(h:AsAt w ok l a c)(hb:Below w.heap.size w w'):AsAt w' (fun _=>True) l a c:=(h.mono fun _ _ _=>trivial).keep (Keeps.below hb _)
structure RBoxR(w:World)(b:Nat)(x0 x1 x2:Value):Prop where
 blk:w.heap[b]? = some (.cells #[x0,x1,x2] 50 (0,0))
theorem RBoxR.lt{w:World}{b:Nat}{x0 x1 x2:Value}(h:RBoxR w b x0 x1 x2):b<w.heap.size:=(Array.getElem?_eq_some_iff.1 h.blk).1
theorem RBoxR.keep{w u:World}{b:Nat}{x0 x1 x2:Value}(h:RBoxR w b x0 x1 x2)(hb:u.heap[b]? = w.heap[b]?):RBoxR u b x0 x1 x2:=⟨hb.trans h.blk⟩
theorem RBoxR.below{w u:World}{b:Nat}{x0 x1 x2:Value}(h:RBoxR w b x0 x1 x2)(hb:Below w.heap.size w u):RBoxR u b x0 x1 x2:=h.keep (hb.block b h.lt)
theorem RBoxR.all{w:World}{b:Nat}{x0 x1 x2:Value}(h:RBoxR w b x0 x1 x2):w.cell? ⟨b,0,none⟩=some x0∧w.cell? ⟨b,1,none⟩=some x1∧w.cell? ⟨b,2,none⟩=some x2∧∀ o,w.frozen? ⟨b,o,none⟩=false:=by
 have h':=h.blk
 exact⟨by simp[World.cell?,h'],by simp[World.cell?,h'],by simp[World.cell?,h'],fun o=>by simp[World.frozen?,h']⟩
def LpB(w:World)(bx:Nat)(S:MS)(d:MAd):Prop :=
 w.heap[bx]? = some (.cells #[.slice d.h S.mac.H.length d.hn,.slice d.g S.mac.G.length d.gn,.int .i64 (S.first:Nat),.slice d.c S.mac.ch.length d.cn,.slice d.t S.mac.T.length d.tn,.slice d.q S.mac.Q.length d.qn,.int .i64 (S.steps:Nat),.int .i64 (S.fin:Nat),.slice d.a S.ans.length d.an] 30 (0,0))
theorem LpB.all{w:World}{b:Nat}{S:MS}{d:MAd}(h:LpB w b S d) :
 w.cell? ⟨b,0,none⟩=some (.slice d.h S.mac.H.length d.hn)∧w.cell? ⟨b,1,none⟩=some (.slice d.g S.mac.G.length d.gn)∧w.cell? ⟨b,2,none⟩=some (.int .i64 (S.first:Nat))∧w.cell? ⟨b,3,none⟩=some (.slice d.c S.mac.ch.length d.cn)∧w.cell? ⟨b,4,none⟩=some (.slice d.t S.mac.T.length d.tn) ∧
 w.cell? ⟨b,5,none⟩=some (.slice d.q S.mac.Q.length d.qn)∧w.cell? ⟨b,6,none⟩=some (.int .i64 (S.steps:Nat))∧w.cell? ⟨b,7,none⟩=some (.int .i64 (S.fin:Nat))∧w.cell? ⟨b,8,none⟩=some (.slice d.a S.ans.length d.an)∧∀ o,w.frozen? ⟨b,o,none⟩=false:=by
 unfold LpB at h
 exact⟨by simp[World.cell?,h],by simp[World.cell?,h],by simp[World.cell?,h],by simp[World.cell?,h],by simp[World.cell?,h],by simp[World.cell?,h],by simp[World.cell?,h],by simp[World.cell?,h],by simp[World.cell?,h],fun o=>by simp[World.frozen?,h]⟩
theorem LpB.lt{w:World}{b:Nat}{S:MS}{d:MAd}(h:LpB w b S d):b<w.heap.size:=(Array.getElem?_eq_some_iff.1 h).1
theorem LpB.keep{w u:World}{b:Nat}{S:MS}{d:MAd}(h:LpB w b S d)(hb:u.heap[b]? = w.heap[b]?):LpB u b S d:=hb.trans h
theorem LpB.put{u:World}{b:Nat}{S0 S:MS}{d0:MAd}(h:LpB u b S0 d0)(d:MAd) :
 LpB (((((((((u.setCell ⟨b,0,none⟩ (.slice d.h S.mac.H.length d.hn)).setCell ⟨b,1,none⟩ (.slice d.g S.mac.G.length d.gn)).setCell ⟨b,2,none⟩ (.int .i64 (S.first:Nat))).setCell ⟨b,3,none⟩ (.slice d.c S.mac.ch.length d.cn)).setCell ⟨b,4,none⟩ (.slice d.t S.mac.T.length d.tn)).setCell ⟨b,5,none⟩ (.slice d.q S.mac.Q.length d.qn)).setCell ⟨b,6,none⟩ (.int .i64 (S.steps:Nat))).setCell ⟨b,7,none⟩ (.int .i64 (S.fin:Nat))).setCell ⟨b,8,none⟩ (.slice d.a S.ans.length d.an)) b S d ∧
 Touch (fun x=>x=b) u (((((((((u.setCell ⟨b,0,none⟩ (.slice d.h S.mac.H.length d.hn)).setCell ⟨b,1,none⟩ (.slice d.g S.mac.G.length d.gn)).setCell ⟨b,2,none⟩ (.int .i64 (S.first:Nat))).setCell ⟨b,3,none⟩ (.slice d.c S.mac.ch.length d.cn)).setCell ⟨b,4,none⟩ (.slice d.t S.mac.T.length d.tn)).setCell ⟨b,5,none⟩ (.slice d.q S.mac.Q.length d.qn)).setCell ⟨b,6,none⟩ (.int .i64 (S.steps:Nat))).setCell ⟨b,7,none⟩ (.int .i64 (S.fin:Nat))).setCell ⟨b,8,none⟩ (.slice d.a S.ans.length d.an)) :=
 put9 h _ _ _ _ _ _ _ _ _
structure RnT(w:World)(bx br:Nat)(x8 y0:Value)(w':World):Prop where
 below:Below w.heap.size w w'
 c8:w'.cell? ⟨bx,8,none⟩=some x8
 r0:w'.cell? ⟨br,0,none⟩=some y0
 lb:bx<w.heap.size
 lr:br<w.heap.size
theorem RnT.next{w:World}{bx br:Nat}{x8 y0:Value}{w1 w2:World}(h:RnT w bx br x8 y0 w1)(hb:Below w1.heap.size w1 w2):RnT w bx br x8 y0 w2:=by
 have h1:=Nat.lt_of_lt_of_le h.lb h.below.size
 have h2:=Nat.lt_of_lt_of_le h.lr h.below.size
 exact⟨h.below.trans (hb.mono h.below.size),(hb.cell (p:=⟨bx,_,none⟩) h1).trans h.c8,(hb.cell (p:=⟨br,_,none⟩) h2).trans h.r0,h.lb,h.lr⟩
theorem RnT.all{w:World}{bx br:Nat}{x8 y0:Value}{w1:World}(h:RnT w bx br x8 y0 w1):w1.cell? ⟨bx,8,none⟩=some x8∧w1.cell? ⟨br,0,none⟩=some y0∧RnT w bx br x8 y0 w1:=⟨h.c8,h.r0,h⟩
theorem RnT.of{w:World}{bx br:Nat}{x8 y0:Value}{w1:World}(h:w1.cell? ⟨bx,8,none⟩=some x8∧w1.cell? ⟨br,0,none⟩=some y0∧RnT w bx br x8 y0 w1):RnT w bx br x8 y0 w1:=h.2.2
theorem RnT.drew{w:World}{bx br:Nat}{x8 y0:Value}{w1:World}(h:RnT w bx br x8 y0 w1):RnT w bx br x8 y0 w1.drew:=h.next ((Below.refl _ _).drew)
set_option maxRecDepth 100000 in
set_option maxHeartbeats 4000000 in
theorem MachineRunsW(p:List Cl)(q:List Tm)(steps:Int)(w:World)(pa qa:Option Addr)(pc qc:Nat)(hst:I64 steps)(h1:Pr w (fun _=>True) p pa pc)(h2:Ts w (fun _=>True) q qa qc) :
 Calls Try.prog 6 #[.slice pa p.length pc,.slice qa q.length qc,.int .i64 steps] w fun e w'=>e=.returned (.bool true)∧Below w.heap.size w w':=by
 have HI:=lh hst
 have H1:Hid (Pr w (fun b=>b<w.heap.size) p pa pc):=lh (h1.mono fun b hb _=>hb)
 have H2:Hid (Ts w (fun b=>b<w.heap.size) q qa qc):=lh (h2.mono fun b hb _=>hb)
 have HRN:Hid (∀ u,Below w.heap.size w u→Calls Try.prog 18 #[.slice pa p.length pc,.slice qa q.length qc,.int .i64 steps] u (RunPost u p q steps)):=lh fun u hu=>RunRW (H1.out.keep (Keeps.below hu _)) (H2.out.keep (Keeps.below hu _)) steps
 have HSV:Hid (∀ u,Below w.heap.size w u→Calls Try.prog 19 #[.slice pa p.length pc,.slice qa q.length qc,.int .i64 steps] u (SvPost u (solveR p q steps) (solveE p q steps))):=lh fun u hu=>SolveW p q steps HI.out (w:=u) (ok:=fun b=>b<w.heap.size) (fun b hb=>Nat.lt_of_lt_of_le hb hu.size) (H1.out.keep (Keeps.below hu _)) (H2.out.keep (Keeps.below hu _))
 have HST:Hid (∀ u,Below w.heap.size w u→Calls Try.prog 21 #[.slice pa p.length pc,.slice qa q.length qc] u (StartPost u p q)):=lh fun u hu=>StartRW (H1.out.keep (Keeps.below hu _)) (H2.out.keep (Keeps.below hu _))
 clear h1 h2 hst
 by_cases h0:readyE p q steps=0
 ·obtain⟨hp0,hq0,hs0,hs4⟩:=ready_parts h0
  have hse:solveE p q steps=0:=by rw[← ready_solve];exact h0
  obtain⟨most,rfl⟩:∃ most:Nat,steps=(most:Int):=⟨steps.toNat,by omega⟩
  have hm4:most≤400:=by omega
  have HP0:=lh hp0;have HQ0:=lh hq0;have HM4:=lh hm4
  have hi1:(most:Int)≤400:=hs4
  obtain⟨l,m,n,hl,HR'⟩:∃ l m n,solveR p q (most:Int)=(l,m,n)∧Hid ((solveP p q most).ans=l∧(solveP p q most).fin=m∧(solveP p q most).steps=n):=⟨_,_,_,by unfold solveR;rw[if_pos hse,Int.toNat_natCast],lh ⟨rfl,rfl,rfl⟩⟩
  rw[hl,hse] at HSV
  have HS0:Hid (readyE p q 0=0):=lh (by unfold readyE;rw[if_neg (fun e=>e hp0),if_neg (fun e=>e hq0),if_pos (by decide)])
  have HRP:Hid (∀ u e w',RunPost u p q (most:Int) e w'→Below u.heap.size u w'∧∃ a c,e=.returned (.tuple #[.agg #[.slice a l.length c,.int .i64 (m:Nat),.int .i64 (n:Nat)],.int .i64 0])∧AsAt w' (fun _=>True) l a c):=lh fun u e w' h=>by
   unfold RunPost at h
   rw[if_pos h0,Int.toNat_natCast] at h
   obtain⟨hb,Sf,N,a,c,e1,e2,e3,e4⟩:=h
   obtain⟨f1,f2,f3⟩:=run_found hp0 hq0 hm4 e1 e2
   obtain⟨g1,g2,g3⟩:=HR'.out
   rw[f1,g1] at e4
   rw[f1,f2,f3,g1,g2,g3] at e3
   exact⟨hb,a,c,e3,e4⟩
  have HSP:Hid (∀ u e w',StartPost u p q e w'→Below u.heap.size u w'∧∃ S d,e=.returned (.tuple #[.agg #[.slice d.h S.mac.H.length d.hn,.slice d.g S.mac.G.length d.gn,.int .i64 (S.first:Nat),.slice d.c S.mac.ch.length d.cn,.slice d.t S.mac.T.length d.tn,.slice d.q S.mac.Q.length d.qn,.int .i64 (S.steps:Nat),.int .i64 (S.fin:Nat),.slice d.a S.ans.length d.an],.int .i64 0])∧MacAt w' (fun _=>True) (MS.mac S) d∧RnC p q most S):=lh fun u e w' h=>by
   unfold StartPost at h
   rw[if_pos HS0.out] at h
   obtain⟨hb,d,e1,e2⟩:=h
   exact⟨hb,_,d,e1,e2,RnC.start hq0 hm4⟩
  have HSX:Hid (∀ (u:World) (bx:Nat) (S:MS) (d:MAd),Below w.heap.size w u→w.heap.size≤bx→bx<u.heap.size→MacAt u (fun b=>b≠bx) (MS.mac S) d→RnC p q most S→S.fin=0→(S.first≠0→S.steps<most)→Calls Try.prog 7 #[.slice pa p.length pc,.agg #[.slice d.h S.mac.H.length d.hn,.slice d.g S.mac.G.length d.gn,.int .i64 (S.first:Nat),.slice d.c S.mac.ch.length d.cn,.slice d.t S.mac.T.length d.tn,.slice d.q S.mac.Q.length d.qn,.int .i64 (S.steps:Nat),.int .i64 (S.fin:Nat),.slice d.a S.ans.length d.an]] u fun e w'=>Below u.heap.size u w'∧∃ S2 d2,e=.returned (.tuple #[.agg #[.slice d2.h S2.mac.H.length d2.hn,.slice d2.g S2.mac.G.length d2.gn,.int .i64 (S2.first:Nat),.slice d2.c S2.mac.ch.length d2.cn,.slice d2.t S2.mac.T.length d2.tn,.slice d2.q S2.mac.Q.length d2.qn,.int .i64 (S2.steps:Nat),.int .i64 (S2.fin:Nat),.slice d2.a S2.ans.length d2.an],.int .i64 0])∧MacAt w' (fun b=>b≠bx) (MS.mac S2) d2∧RnC p q most S2):=lh fun u bx S d hu hbw hbx hm hr hf hs=>by
   obtain⟨P,k,hrun,hk⟩:=hr.ex
   have hst:=hrun.mv.steps
   have hq12:(Tm.greats q).toNat≤12:=by have:=query_great hq0;omega
   have h:=StepXW (w:=u) (ok:=fun b=>b≠bx) (Zx:=fun b=>b=bx) (fun b e=>by rw[e];exact hbx) (fun b hb e=>hb e) (p:=p) (pa:=pa) (pc:=pc) ((H1.out.mono (ok':=fun b=>b<w.heap.size) fun _ _ h=>h).keep (Keeps.below hu _) |>.mono fun b _ hb=>by omega) hm (hr.big hq0 hf) hr.mv (hr.check hp0 hq0 hm4 hf) (PgI.of hp0) hm4 hq12 hrun (fun e=>by have:=hs e;omega)
   refine h.mono fun e w' h=>?_
   obtain⟨hb,d2,e1,e2⟩:=h
   exact⟨hb,mone p S,d2,e1,e2,hr.one hp0 hm4 hf hs⟩
  clear h0 hp0 hq0 hse hl
  go_enter Try.func6,Try.ntmps6
  go_upto_region 3 with (first
   | (go_at_call 9;refine(machineBegunW _).mono ?_;rintro e u1 ⟨rfl,hb1⟩;have B1:=lh hb1;clear hb1)
   | (go_at_call 17;refine(solveBegunW _).mono ?_;rintro e u2 ⟨rfl,hb2⟩;have B2:=lh (B1.out.trans (hb2.mono B1.out.size));clear hb2))
  clear B1
  go_upto_region 4 with (go_at_call 18;refine(HRN.out _ B2.out).mono ?_;rintro e u3 hp3;obtain⟨hb3,a1,c1,rfl,has1⟩:=HRP.out _ _ _ hp3;have B3:=lh (B2.out.trans (hb3.mono B2.out.size));have HA1:=lh has1;clear hb3 has1 hp3)
  have K4:Below u3.heap.size u3 (u3.alloc (.cells #[.slice a1 l.length c1,.int .i64 (m:Nat),.int .i64 (n:Nat)] 50)):=(Below.refl _ _).alloc (Nat.le_refl _) _
  have B4:=lh (B3.out.trans (K4.mono B3.out.size))
  have HX4:Hid (RBoxR (u3.alloc (.cells #[.slice a1 l.length c1,.int .i64 (m:Nat),.int .i64 (n:Nat)] 50)) u3.heap.size (.slice a1 l.length c1) (.int .i64 (m:Nat)) (.int .i64 (n:Nat))):=lh ⟨heap_alloc_new _ _⟩
  have HA4:=lh (HA1.out.below' K4)
  clear K4 HA1
  generalize (u3.alloc (.cells #[.slice a1 l.length c1,.int .i64 (m:Nat),.int .i64 (n:Nat)] 50))=u4 at *
  generalize u3.heap.size=b7 at *
  go_upto_region 5 with (go_at_call 19;refine(HSV.out _ B4.out).mono ?_;rintro e u5 ⟨hb5,a2,c2,rfl,has2⟩;have B5:=lh (B4.out.trans (hb5.mono B4.out.size));have HA2:=lh has2;have HX5:=lh (HX4.out.below hb5);have HA5:=lh (HA4.out.below' hb5);clear hb5 has2)
  have K6:Below u5.heap.size u5 (u5.alloc (.cells #[.slice a2 l.length c2,.int .i64 (m:Nat),.int .i64 (n:Nat)] 50)):=(Below.refl _ _).alloc (Nat.le_refl _) _
  have B6:=lh (B5.out.trans (K6.mono B5.out.size))
  have HY6:Hid (RBoxR (u5.alloc (.cells #[.slice a2 l.length c2,.int .i64 (m:Nat),.int .i64 (n:Nat)] 50)) u5.heap.size (.slice a2 l.length c2) (.int .i64 (m:Nat)) (.int .i64 (n:Nat))):=lh ⟨heap_alloc_new _ _⟩
  have HX6:=lh (HX5.out.below K6)
  have HA6:=lh (HA5.out.below' K6)
  have HZ6:=lh (HA2.out.below' K6)
  clear K6 HA2 HA4 HA5 HX4 HX5
  generalize (u5.alloc (.cells #[.slice a2 l.length c2,.int .i64 (m:Nat),.int .i64 (n:Nat)] 50))=u6 at *
  generalize u5.heap.size=b9 at *
  have HSR:=SameResultW (l,m,n) (l,m,n) u6 (fun _=>True) a1 a2 c1 c2 HA6.out HZ6.out
  rw[eqR_true rfl] at HSR
  simp only at HSR
  have HSRH:=lh HSR
  clear HSR
  obtain⟨x0,x1,x2,-⟩:=HX6.out.all
  obtain⟨y0,y1,y2,-⟩:=HY6.out.all
  go_upto_region 9 with (go_at_call 20;refine HSRH.out.mono ?_;rintro e u7 ⟨rfl,hb7⟩;have B7:=lh (B6.out.trans (hb7.mono B6.out.size));have HX7:=lh (HX6.out.below hb7);have HA7:=lh (HA6.out.below' hb7);clear hb7)
  clear x0 x1 x2 y0 y1 y2 HX6 HY6 HA6 HZ6 HSRH
  go_upto_region 10 with (go_at_call 21;refine(HST.out _ B7.out).mono ?_;rintro e u8 hp8;obtain⟨hb8,S0,d0,rfl,hm8,hr8⟩:=HSP.out _ _ _ hp8;have B8:=lh (B7.out.trans (hb8.mono B7.out.size));have HX8:=lh (HX7.out.below hb8);have HA8:=lh ((HA7.out.mono (ok':=fun b=>b<u7.heap.size) fun b hb _=>hb).keep (Keeps.below hb8 _));have HM8:=lh hm8;have HR8:=lh hr8;have HS8:=lh hb8.size;clear hb8 hm8 hr8 hp8)
  clear HX7 HA7
  have K9:Below u8.heap.size u8 (u8.alloc (.cells #[.slice d0.h S0.mac.H.length d0.hn,.slice d0.g S0.mac.G.length d0.gn,.int .i64 (S0.first:Nat),.slice d0.c S0.mac.ch.length d0.cn,.slice d0.t S0.mac.T.length d0.tn,.slice d0.q S0.mac.Q.length d0.qn,.int .i64 (S0.steps:Nat),.int .i64 (S0.fin:Nat),.slice d0.a S0.ans.length d0.an] 30)):=(Below.refl _ _).alloc (Nat.le_refl _) _
  have HL9:Hid (LpB (u8.alloc (.cells #[.slice d0.h S0.mac.H.length d0.hn,.slice d0.g S0.mac.G.length d0.gn,.int .i64 (S0.first:Nat),.slice d0.c S0.mac.ch.length d0.cn,.slice d0.t S0.mac.T.length d0.tn,.slice d0.q S0.mac.Q.length d0.qn,.int .i64 (S0.steps:Nat),.int .i64 (S0.fin:Nat),.slice d0.a S0.ans.length d0.an] 30)) u8.heap.size S0 d0):=lh (heap_alloc_new _ _)
  have B9:=lh (B8.out.trans (K9.mono B8.out.size))
  have HM9:Hid (MacAt (u8.alloc (.cells #[.slice d0.h S0.mac.H.length d0.hn,.slice d0.g S0.mac.G.length d0.gn,.int .i64 (S0.first:Nat),.slice d0.c S0.mac.ch.length d0.cn,.slice d0.t S0.mac.T.length d0.tn,.slice d0.q S0.mac.Q.length d0.qn,.int .i64 (S0.steps:Nat),.int .i64 (S0.fin:Nat),.slice d0.a S0.ans.length d0.an] 30)) (fun b=>b≠u8.heap.size) (MS.mac S0) d0):=lh ((HM8.out.mono (ok':=fun b=>b≠u8.heap.size) fun b hb _=>by omega).keep (Keeps.below K9 _))
  have HX9:=lh (HX8.out.below K9)
  have HB7:Hid (b7≠u8.heap.size):=lh (by have:=HX8.out.lt;omega)
  have HA9:Hid (AsAt (u8.alloc (.cells #[.slice d0.h S0.mac.H.length d0.hn,.slice d0.g S0.mac.G.length d0.gn,.int .i64 (S0.first:Nat),.slice d0.c S0.mac.ch.length d0.cn,.slice d0.t S0.mac.T.length d0.tn,.slice d0.q S0.mac.Q.length d0.qn,.int .i64 (S0.steps:Nat),.int .i64 (S0.fin:Nat),.slice d0.a S0.ans.length d0.an] 30)) (fun b=>b≠u8.heap.size) l a1 c1):=lh ((HA8.out.mono (ok':=fun b=>b≠u8.heap.size) fun b _ hb=>by have:=HS8.out;omega).keep (Keeps.below K9 _))
  have HW8:Hid (w.heap.size≤u8.heap.size):=lh B8.out.size
  clear K9 HM8 HA8 HX8 B8 HS8
  go_wp2_with fail
  generalize (u8.alloc (.cells #[.slice d0.h S0.mac.H.length d0.hn,.slice d0.g S0.mac.G.length d0.gn,.int .i64 (S0.first:Nat),.slice d0.c S0.mac.ch.length d0.cn,.slice d0.t S0.mac.T.length d0.tn,.slice d0.q S0.mac.Q.length d0.qn,.int .i64 (S0.steps:Nat),.int .i64 (S0.fin:Nat),.slice d0.a S0.ans.length d0.an] 30))=u9 at *
  generalize u8.heap.size=bx at *
  go_loopw[8,12] (fun x8 x12 wr=>x8=.int .i64 0∧∃ (i:Nat) (S:MS) (d:MAd),i≤20∧x12=.int .i64 i∧Hid (RnC p q most S)∧Hid (LpB wr bx S d)∧Hid (MacAt wr (fun b=>b≠bx) (MS.mac S) d)∧Hid (Touch (fun b=>b=bx) u9 wr)) (fun _ x12 _=>20-(intOf x12).toNat)
  case atStart=>exact⟨rfl,0,S0,d0,Nat.zero_le _,rfl,HR8,HL9,HM9,lh (Touch.refl _ _)⟩
  case round =>
   rename World=>wr
   obtain⟨rfl,i,S,d,hi,rfl,HR,HL,HM,HT⟩:=hrel
   obtain⟨q0,q1,q2,q3,q4,q5,q6,q7,q8,qf⟩:=HL.out.all
   obtain⟨bb,hbb⟩:∃ bb:Bool,bb=decide (i<20∧S.fin=0∧(S.first≠0→S.steps<most)):=⟨_,rfl⟩
   have HBB:=lh hbb
   clear hbb
   go_upto_region 11 with fail
   go_cut[71] from 50 to 79 (fun v71 wx=>v71=.bool bb∧wx=wr)
   case first =>
    by_cases hlt:i<20
    ·have t0:(i:Int)<20:=by omega
     by_cases hf:S.fin=0
     ·have t1:((S.fin:Int) == 0)=true:=by rw[hf];rfl
      by_cases hfi:S.first=0
      ·have t2:((S.first:Int) == 0)=true:=by rw[hfi];rfl
       have hb:Hid (bb=true):=lh (by rw[HBB.out];exact decide_eq_true ⟨hlt,hf,fun e=>absurd hfi e⟩)
       clear hlt hf hfi
       go_wp2_with fail
       go_meet
       exact⟨by rw[hb.out],rfl⟩
      ·have t2:((S.first:Int) == 0)=false:=by rw[beq_eq_false_iff_ne];omega
       by_cases hs:S.steps<most
       ·have t3:(S.steps:Int)<(most:Int):=by omega
        have hb:Hid (bb=true):=lh (by rw[HBB.out];exact decide_eq_true ⟨hlt,hf,fun _=>hs⟩)
        clear hlt hf hfi hs
        go_wp2_with fail
        go_meet
        exact⟨by rw[hb.out],rfl⟩
       ·have t3:¬ (S.steps:Int)<(most:Int):=by omega
        have hb:Hid (bb=false):=lh (by rw[HBB.out];exact decide_eq_false fun e=>hs (e.2.2 hfi))
        clear hlt hf hfi hs
        go_wp2_with fail
        go_meet
        exact⟨by rw[hb.out],rfl⟩
     ·have t1:((S.fin:Int) == 0)=false:=by rw[beq_eq_false_iff_ne];omega
      have hb:Hid (bb=false):=lh (by rw[HBB.out];exact decide_eq_false fun e=>hf e.2.1)
      clear hlt hf
      go_wp2_with fail
      go_meet
      exact⟨by rw[hb.out],rfl⟩
    ·have t0:¬ (i:Int)<20:=by omega
     have hb:Hid (bb=false):=lh (by rw[HBB.out];exact decide_eq_false fun e=>hlt e.1)
     clear hlt
     go_wp2_with fail
     go_meet
     exact⟨by rw[hb.out],rfl⟩
   case rest =>
   obtain⟨e71,ewx⟩:=hcut
   have ewx2:=ewx.symm
   clear ewx
   subst e71;subst ewx2
   have HBW:=lh (B9.out.trans (HT.out.toBelow B9.out.size fun b e=>by rw[e];exact HW8.out))
   cases bb with
   | true =>
    have hc:=of_decide_eq_true HBB.out.symm
    have HC:=lh hc
    clear hc
    have hlt:i<20:=HC.out.1
    go_wp2_with (go_at_call 7;refine(HSX.out _ _ _ _ HBW.out HW8.out HL.out.lt HM.out HR.out HC.out.2.1 HC.out.2.2).mono ?_;rintro e w9 ⟨hb9,S2,d2,rfl,hm9,hr9⟩;have hl9:LpB w9 bx S d:=HL.out.keep (hb9.block _ HL.out.lt);obtain⟨v0,v1,v2,v3,v4,v5,v6,v7,v8,vf⟩:=hl9.all;have HL9':=lh hl9;have HB9:=lh hb9;have HM9':=lh hm9;have HR9:=lh hr9;clear hb9 hl9 hm9 hr9)
    have hk:=HL9'.out.put (S:=S2) d2
    have HK:=lh hk
    clear hk
    go_roundw
    case measure=>simp only[intOf];omega
    case rel=>exact⟨rfl,i+1,S2,d2,by omega,by go_num,HR9,lh HK.out.1,lh (HM9'.out.keep (HK.out.2.keeps fun b hb=>hb)),lh (HT.out.trans ((Touch.below HB9.out).trans HK.out.2))⟩
   | false =>
    have hpre:S.ans <+: l:=by have h:=HR.out.pre HP0.out HQ0.out HM4.out;rw[HR'.out.1] at h;exact h
    have HEND:Hid (S.fin≠0→l=S.ans∧m=S.fin∧n=S.steps):=lh fun h=>by
     obtain⟨f1,f2,f3⟩:=HR.out.done HP0.out HQ0.out HM4.out h
     obtain⟨g1,g2,g3⟩:=HR'.out
     exact⟨g1.symm.trans f1.symm,g2.symm.trans f2.symm,g3.symm.trans f3.symm⟩
    have HAS:Hid (AsAt wr (fun b=>b≠bx) S.ans d.a d.an):=lh HM.out.a
    have HAL:Hid (AsAt wr (fun b=>b≠bx) l a1 c1):=lh (HA9.out.keep (HT.out.keeps fun b hb=>hb))
    have HXE:Hid (RBoxR wr b7 (.slice a1 l.length c1) (.int .i64 (m:Nat)) (.int .i64 (n:Nat))):=lh (HX9.out.keep (HT.out.block _ HX9.out.lt HB7.out))
    have hll:S.ans.length≤l.length:=hpre.length_le
    have hc1:l.length≤c1∧c1≤9223372036854775807:=by have:=HAL.out.room;unfold maxLen at this;omega
    have hc2:S.ans.length≤9223372036854775807:=by omega
    have HT9:=lh (HAL.out.take hll (cap':=c1) (by omega) (Nat.le_refl _) HAL.out.room.2.2)
    have HCA:Hid (∀ u,Below wr.heap.size wr u→Calls Try.prog 11 #[.slice d.a S.ans.length d.an,.slice a1 S.ans.length c1] u fun e w'=>e=.returned (.bool true)∧Below u.heap.size u w'):=lh (fun u hu=>by
     have h:=SameAnswersW S.ans (l.take S.ans.length) u (fun _=>True) d.a a1 d.an c1 ((HAS.out.mono fun _ _ _=>trivial).keep (Keeps.below hu _)) ((HT9.out.mono fun _ _ _=>trivial).keep (Keeps.below hu _))
     rw[eqAs_true (List.prefix_iff_eq_take.1 hpre),List.length_take,Nat.min_eq_left hll] at h
     exact h)
    obtain⟨r0,r1,r2,-⟩:=HXE.out.all
    have T0H:=lh (show RnT wr bx b7 (.slice d.a S.ans.length d.an) (.slice a1 l.length c1) wr from ⟨Below.refl _ _,q8,r0,HL.out.lt,HXE.out.lt⟩)
    have hb0:(0:Int)≤(S.ans.length:Int):=by omega
    have hb1:(S.ans.length:Int)≤(c1:Int):=by omega
    have hb2:(S.ans.length:Int)≤(l.length:Int):=by omega
    have hb3:¬ (l.length:Int)<(S.ans.length:Int):=by omega
    clear hpre hll hc1 q0 q1 q2 q3 q4 q5 q6 q7 qf r1 r2
    go_upto_region 14 with fail
    have T0:=T0H.out
    clear T0H
    go_region_held3 (fun w'=>w'.cell? ⟨bx,8,none⟩=some (.slice d.a S.ans.length d.an)∧w'.cell? ⟨b7,0,none⟩=some (.slice a1 l.length c1)∧RnT wr bx b7 (.slice d.a S.ans.length d.an) (.slice a1 l.length c1) w')
     (first | exact RnT.all (RnT.drew (by assumption)) | exact RnT.all (RnT.next (RnT.of (by assumption)) hb))
     (first
      | (go_at_call 11;(with_reducible refine(HCA.out _ (RnT.of (by assumption)).below).mono ?_);rintro e w' ⟨rfl,hb⟩))
    all_goals
     have HBF:=lh (RnT.of (by assumption)).below
     obtain⟨q0,q1,q2,q3,q4,q5,q6,q7,q8',qf⟩:=(HL.out.keep (HBF.out.block _ HL.out.lt)).all
     obtain⟨r0',r1,r2,-⟩:=(HXE.out.keep (HBF.out.block _ HXE.out.lt)).all
     by_cases hf:S.fin=0
     ·have t1:((S.fin:Int) == 0)=true:=by rw[hf];rfl
      clear hf
      go_wp2_with fail
      go_ret
      exact⟨rfl,HBW.out.trans (HBF.out.mono HBW.out.size)⟩
     ·obtain⟨rfl,rfl,rfl⟩:=HEND.out hf
      have t1:((S.fin:Int) == 0)=false:=by rw[beq_eq_false_iff_ne];omega
      clear hf
      go_wp2_with fail
      go_ret
      exact⟨rfl,HBW.out.trans (HBF.out.mono HBW.out.size)⟩
 ·have hse:solveE p q steps≠0:=by rw[← ready_solve];exact h0
  have hsr:=solveR_err hse
  rw[hsr,← ready_solve] at HSV
  have HRP:Hid (∀ u e w',RunPost u p q steps e w'→Below u.heap.size u w'∧e=.returned (.tuple #[.agg #[.slice none 0 0,.int .i64 0,.int .i64 0],.int .i64 (readyE p q steps:Nat)])):=lh fun u e w' h=>by
   unfold RunPost at h
   rw[if_neg h0] at h
   exact h
  have t0:((readyE p q steps:Int) != 0)=true:=by rw[bne_iff_ne];omega
  clear h0 hse hsr HST
  generalize readyE p q steps=k at *
  go_enter Try.func6,Try.ntmps6
  go_upto_region 4 with (first
   | (go_at_call 9;refine(machineBegunW _).mono ?_;rintro e u1 ⟨rfl,hb1⟩;have B1:=lh hb1;clear hb1)
   | (go_at_call 17;refine(solveBegunW _).mono ?_;rintro e u2 ⟨rfl,hb2⟩;have B2:=lh (B1.out.trans (hb2.mono B1.out.size));clear hb2)
   | (go_at_call 18;refine(HRN.out _ B2.out).mono ?_;rintro e u3 hp3;obtain⟨hb3,rfl⟩:=HRP.out _ _ _ hp3;have B3:=lh (B2.out.trans (hb3.mono B2.out.size));clear hb3 hp3))
  have K4:Below u3.heap.size u3 (u3.alloc (.cells #[.slice none 0 0,.int .i64 0,.int .i64 0] 50)):=(Below.refl _ _).alloc (Nat.le_refl _) _
  have B4:=lh (B3.out.trans (K4.mono B3.out.size))
  have HX4:Hid (RBoxR (u3.alloc (.cells #[.slice none 0 0,.int .i64 0,.int .i64 0] 50)) u3.heap.size (.slice none 0 0) (.int .i64 0) (.int .i64 0)):=lh ⟨heap_alloc_new _ _⟩
  clear K4
  generalize (u3.alloc (.cells #[.slice none 0 0,.int .i64 0,.int .i64 0] 50))=u4 at *
  generalize u3.heap.size=b7 at *
  go_upto_region 5 with (go_at_call 19;refine(HSV.out _ B4.out).mono ?_;rintro e u5 ⟨hb5,a2,c2,rfl,has2⟩;have B5:=lh (B4.out.trans (hb5.mono B4.out.size));have HA2:=lh has2;have HX5:=lh (HX4.out.below hb5);clear hb5 has2)
  have K6:Below u5.heap.size u5 (u5.alloc (.cells #[.slice a2 0 c2,.int .i64 0,.int .i64 0] 50)):=(Below.refl _ _).alloc (Nat.le_refl _) _
  have B6:=lh (B5.out.trans (K6.mono B5.out.size))
  have HY6:Hid (RBoxR (u5.alloc (.cells #[.slice a2 0 c2,.int .i64 0,.int .i64 0] 50)) u5.heap.size (.slice a2 0 c2) (.int .i64 0) (.int .i64 0)):=lh ⟨heap_alloc_new _ _⟩
  have HX6:=lh (HX5.out.below K6)
  have HZ6:=lh (HA2.out.below' K6)
  clear K6 HA2 HX4 HX5
  generalize (u5.alloc (.cells #[.slice a2 0 c2,.int .i64 0,.int .i64 0] 50))=u6 at *
  generalize u5.heap.size=b9 at *
  have HSR:=SameResultW ([],0,0) ([],0,0) u6 (fun _=>True) none a2 0 c2 (AsAt.none _ _) HZ6.out
  rw[eqR_true rfl] at HSR
  simp only at HSR
  have HSRH:=lh HSR
  clear HSR
  obtain⟨x0,x1,x2,-⟩:=HX6.out.all
  obtain⟨y0,y1,y2,-⟩:=HY6.out.all
  go_wp2_with (go_at_call 20;refine HSRH.out.mono ?_;rintro e u7 ⟨rfl,hb7⟩;have B7:=lh (B6.out.trans (hb7.mono B6.out.size));clear hb7)
  go_ret
  exact⟨rfl,B7.out⟩
set_option maxRecDepth 100000 in
theorem machineRuns_lifted(os:Os)(started:os.Started)(H:Type)(enc:TypeId×Value→H) :
 ReturnsInHanded {} Try.checked os 6 .any (Rows.machineRunsSpec.pre6 enc Try.prog Try.f6 Rows.machineRunsRow.domain false) (Rows.machineRunsSpec.post enc Try.prog Try.f6 false true false false):=by
 refine returnsInHanded_of_change (C:=Try.checked) Try.own started (by kernel_rfl) Try.func6
  (ChangeSpec.witness6 (enc:=enc) (C:=Try.checked) false ⟨#[],#[.slice none 0 0,.slice none 0 0,.int .i64 0],[]⟩ 8 (by kernel_rfl) (by kernel_rfl) (by kernel_rfl) (by kernel_rfl)) ?_
 intro W base args ds gs before hval0 hW hcnd _
 have hval:∀ (j:Nat) t v,Try.f6.params[j]? = some t→args[j]? = some v→Value.okWide Try.prog W .any base t v:=hval0
 have hW':=hW
 obtain⟨p,q,hA0,hV,rfl,hfz,hnd⟩:=hW
 have hA:DataW.TrodAll enc Try.prog W 0 (fun _=>true) true Try.f6.params.toList args.toList ds p:=hA0
 rw[Try.params6] at hA hval
 obtain⟨v0,vs0,d0,ds0,p0,q0,hargs,rfl,rfl,h0,r0⟩:=trodAll_cons hA
 obtain⟨v1,vs1,d1,ds1,p1,q1,rfl,rfl,rfl,h1,r1⟩:=trodAll_cons r0
 obtain⟨v2,vs2,d2,ds2,p2,q2,rfl,rfl,rfl,h2,r2⟩:=trodAll_cons r1
 obtain⟨rfl,rfl,rfl⟩:=trodAll_nil r2
 obtain rfl:args = #[v0,v1,v2]:=by cases args;simp_all
 obtain⟨rfl,rfl⟩:=trodVars_none hV
 have lt0:∀ x∈p0,x.block<W.heap.size:=by obtain⟨m,hm⟩:=h0;exact DataW.trod_lt m _ _ _ hm
 have lt1:∀ x∈p1,x.block<W.heap.size:=by obtain⟨m,hm⟩:=h1;exact DataW.trod_lt m _ _ _ hm
 have lt2:∀ x∈p2,x.block<W.heap.size:=by obtain⟨m,hm⟩:=h2;exact DataW.trod_lt m _ _ _ hm
 have k0:=h0;have k1:=h1;have k2:=h2
 obtain⟨s0,n0,c0,rfl⟩:=okWide_slice Try.underlying23 (hval 0 23 v0 rfl rfl)
 obtain⟨s1,n1,c1,rfl⟩:=okWide_slice Try.underlying48 (hval 1 48 v1 rfl rfl)
 obtain⟨x2,rfl⟩:=okWide_int Try.underlying3 (hval 2 3 v2 rfl rfl)
 obtain⟨m0,hm0⟩:=h0
 obtain⟨m1,hm1⟩:=h1
 obtain⟨m2,hm2⟩:=h2
 obtain⟨y2,e2',_,hy2⟩:=DataW.trod_int Try.underlying3 hm2
 simp only[Value.cells,List.cons.injEq,and_true,Value.int.injEq,true_and] at e2'
 have hx2:I64 x2:=by rw[e2'];exact wf_i64 hy2
 obtain⟨P,a1,cap1,e1,ht1⟩:=trod_pr hm0
 obtain⟨Q,a2,cap2,e2,ht2⟩:=trod_ts _ _ _ hm1
 simp only[Value.cells,List.cons.injEq,and_true,Value.slice.injEq] at e1 e2
 obtain⟨rfl,rfl,rfl⟩:=e1
 obtain⟨rfl,rfl,rfl⟩:=e2
 clear hA0 hval0 hval
 refine(MachineRunsW P Q x2 W s0 s1 c0 c1 hx2 ht1 ht2).mono fun e W' ⟨he,bel⟩=>?_
 subst he
 exact⟨_,rfl,_,_,_,[],_,[],hW',trodAll_mk1 (shut_bool Try.underlying4 _),
  (trodAll_cons_mk (Below.trod Try.laidOut (by kernel_rfl) (of_decide_eq_true (by kernel_rfl)) k0 bel lt0)
   (trodAll_cons_mk (Below.trod Try.laidOut (by kernel_rfl) (of_decide_eq_true (by kernel_rfl)) k1 bel lt1)
    (trodAll_cons_mk (Below.trod Try.laidOut (by kernel_rfl) (of_decide_eq_true (by kernel_rfl)) k2 bel lt2) trodAll_mk0))),rfl,bel.frame _,fun h=>by cases h⟩
theorem machineRuns_holds:Rows.MachineRunsSaid :=
 OpenClaim.holds_of_wide 6 Try.f6 rfl rfl rfl rfl rfl rfl rfl ⟨rfl,rfl,rfl,rfl,rfl⟩ rfl rfl rfl rfl rfl (by kernel_rfl) Try.func6 (by kernel_rfl)
  (of_decide_eq_true (by kernel_rfl)) (by unfold Func.isWrapper;first | (rw[if_pos (by decide +kernel)];kernel_rfl) | (rw[if_neg (by decide +kernel)];exact⟨rfl,rfl⟩))
  (fun os started H enc _=>machineRuns_lifted os started H enc)
#print axioms machineRuns_holds
end Go.Proofs.Ytikmgiapjigghab
