/- Proved: the statement MachineChecksSaid: whatever program, query and machine it is handed, 'MachineChecks' answers true, and each argument reads behind the call as it read before. No condition. -/
import Derived.Test.YtikmgiapjigghaaCa27
import Derived.Test.YtikmgiapjigghaaCa28
import Derived.Test.YtikmgiapjigghaaCa30
import Derived.Test.YtikmgiapjigghaaCa37
namespace Go.Proofs.Ytikmgiapjigghaa
open Go.ChangeShapes Go.WideShapes Go.ChangeAt Go.RowKit
theorem ready_solve(p:List Cl)(q:List Tm)(s:Int):readyE p q s=solveX p q s:=by
 have e:(if 0≤s∧s≤400 then 0 else 3)=(if s<0∨400<s then 3 else 0:Nat):=by split <;> split <;> omega
 unfold readyE solveX
 rw[e]
structure StC(p:List Cl)(M:Mac):Prop where
 steps:M.steps=0
 fin:M.fin=0
 ch:M.ch = []
 ans:M.ans = []
 check:checkM p M=0
 big:MacBig M
theorem start_c{p:List Cl}{q:List Tm}(h:readyE p q 0=0):StC p (mnew q (Tm.greats q).toNat).mac:=by
 obtain⟨h1,h2,-⟩:=ready_parts h
 have hr:=start_run p h2 (most:=400) (Nat.le_refl _)
 have hg:(Tm.greats q).toNat≤12:=by have:=query_great h2;omega
 generalize mnew q (Tm.greats q).toNat=S at *
 have hf:S.fin=0:=hr.mv.fin
 have hs:S.steps=0:=hr.mv.steps
 have ha:S.ans = []:=hr.mv.ans
 have hco:=hr.mv.core hf
 have hch:S.ch = []:=by
  have h:=hco.len
  exact List.eq_nil_of_length_eq_zero (by rw[h];rfl)
 refine⟨by show ((S.steps:Nat):Int)=0;rw[hs];rfl,by show ((S.fin:Nat):Int)=0;rw[hf];rfl,by show S.ch.map _ = [];rw[hch];rfl,ha,?_,?_⟩
 ·exact core_checks h1 hco hr.big.2 (by rw[hr.q];exact hg) (by rw[hs];decide) (by rw[hf];decide)
 ·exact hr.macbig hg rfl fun l hl=>by rw[ha] at hl;cases hl
structure McT(w:World)(b:Nat)(m:Mac)(d:MAd)(w':World):Prop where
 below:Below w.heap.size w w'
 box:MBox w' b m d
theorem McT.next{w:World}{b:Nat}{m:Mac}{d:MAd}{w1 w2:World}(h:McT w b m d w1)(hb:Below w1.heap.size w1 w2):McT w b m d w2:=⟨h.below.trans (hb.mono h.below.size),h.box.below hb⟩
theorem McT.drew{w:World}{b:Nat}{m:Mac}{d:MAd}{w1:World}(h:McT w b m d w1):McT w b m d w1.drew:=h.next ((Below.refl _ _).drew)
def McA(w:World)(b:Nat)(m:Mac)(dh dg dc dt dq da:Option Addr)(dhn dgn dcn dtn dqn dan:Nat)(w':World):Prop :=
 w'.cell? ⟨b,0,none⟩=some (.slice dh m.H.length dhn)∧w'.cell? ⟨b,1,none⟩=some (.slice dg m.G.length dgn)∧w'.cell? ⟨b,2,none⟩=some (.int .i64 m.first)∧w'.cell? ⟨b,3,none⟩=some (.slice dc m.ch.length dcn)∧w'.cell? ⟨b,4,none⟩=some (.slice dt m.T.length dtn) ∧
 w'.cell? ⟨b,5,none⟩=some (.slice dq m.Q.length dqn)∧w'.cell? ⟨b,6,none⟩=some (.int .i64 m.steps)∧w'.cell? ⟨b,7,none⟩=some (.int .i64 m.fin)∧w'.cell? ⟨b,8,none⟩=some (.slice da m.ans.length dan)∧McT w b m ⟨dh,dg,dc,dt,dq,da,dhn,dgn,dcn,dtn,dqn,dan⟩ w'
theorem McT.all{w:World}{b:Nat}{m:Mac}{dh dg dc dt dq da:Option Addr}{dhn dgn dcn dtn dqn dan:Nat}{w':World}(h:McT w b m ⟨dh,dg,dc,dt,dq,da,dhn,dgn,dcn,dtn,dqn,dan⟩ w'):McA w b m dh dg dc dt dq da dhn dgn dcn dtn dqn dan w':=by
 obtain⟨q0,q1,q2,q3,q4,q5,q6,q7,q8,-⟩:=h.box.all
 exact⟨q0,q1,q2,q3,q4,q5,q6,q7,q8,h⟩
theorem McA.of{w:World}{b:Nat}{m:Mac}{dh dg dc dt dq da:Option Addr}{dhn dgn dcn dtn dqn dan:Nat}{w':World}(h:w'.cell? ⟨b,0,none⟩=some (.slice dh m.H.length dhn)∧w'.cell? ⟨b,1,none⟩=some (.slice dg m.G.length dgn)∧w'.cell? ⟨b,2,none⟩=some (.int .i64 m.first)∧w'.cell? ⟨b,3,none⟩=some (.slice dc m.ch.length dcn)∧w'.cell? ⟨b,4,none⟩=some (.slice dt m.T.length dtn) ∧
 w'.cell? ⟨b,5,none⟩=some (.slice dq m.Q.length dqn)∧w'.cell? ⟨b,6,none⟩=some (.int .i64 m.steps)∧w'.cell? ⟨b,7,none⟩=some (.int .i64 m.fin)∧w'.cell? ⟨b,8,none⟩=some (.slice da m.ans.length dan)∧McT w b m ⟨dh,dg,dc,dt,dq,da,dhn,dgn,dcn,dtn,dqn,dan⟩ w'):McT w b m ⟨dh,dg,dc,dt,dq,da,dhn,dgn,dcn,dtn,dqn,dan⟩ w':=h.2.2.2.2.2.2.2.2.2
set_option maxRecDepth 100000 in
set_option maxHeartbeats 4000000 in
theorem MachineChecksW(p:List Cl)(q:List Tm)(m:Mac)(d:MAd)(w:World)(pa qa:Option Addr)(pc qc:Nat)(h1:Pr w (fun _=>True) p pa pc)(h2:Ts w (fun _=>True) q qa qc)(h3:MacAt w (fun _=>True) m d)(hb:MacBig m) :
 Calls Try.prog 12 #[.slice pa p.length pc,.slice qa q.length qc,.agg #[.slice d.h m.H.length d.hn,.slice d.g m.G.length d.gn,.int .i64 m.first,.slice d.c m.ch.length d.cn,.slice d.t m.T.length d.tn,.slice d.q m.Q.length d.qn,.int .i64 m.steps,.int .i64 m.fin,.slice d.a m.ans.length d.an]] w fun e w'=>e=.returned (.bool true)∧Below w.heap.size w w':=by
 have H1:Hid (Pr w (fun b=>b<w.heap.size) p pa pc):=Lib.hid (h1.mono fun b hb _=>hb)
 have H2:Hid (Ts w (fun b=>b<w.heap.size) q qa qc):=Lib.hid (h2.mono fun b hb _=>hb)
 have H3:Hid (MacAt w (fun b=>b<w.heap.size) m d):=Lib.hid (h3.mono fun b hb _=>hb)
 obtain⟨ck,hck⟩:∃ k,checkM p m=k:=⟨_,rfl⟩
 have HCK:Hid (∀ u,Below w.heap.size w u→Calls Try.prog 53 #[.slice pa p.length pc,.agg #[.slice d.h m.H.length d.hn,.slice d.g m.G.length d.gn,.int .i64 m.first,.slice d.c m.ch.length d.cn,.slice d.t m.T.length d.tn,.slice d.q m.Q.length d.qn,.int .i64 m.steps,.int .i64 m.fin,.slice d.a m.ans.length d.an]] u fun e w'=>e=.returned (.int .i64 (ck:Nat))∧Below u.heap.size u w'):=Lib.hid fun u hu=>by
  have h:=CheckMW p m d (H1.out.keep (Keeps.below hu _)) (H3.out.keep (Keeps.below hu _)) hb
  rw[hck] at h;exact h
 have HRC:Hid (∀ u,Below w.heap.size w u→Calls Try.prog 54 #[.slice pa p.length pc,.agg #[.slice d.h m.H.length d.hn,.slice d.g m.G.length d.gn,.int .i64 m.first,.slice d.c m.ch.length d.cn,.slice d.t m.T.length d.tn,.slice d.q m.Q.length d.qn,.int .i64 m.steps,.int .i64 m.fin,.slice d.a m.ans.length d.an]] u fun e w'=>e=.returned (.int .i64 (ck:Nat))∧Below u.heap.size u w'):=Lib.hid fun u hu=>by
  have h:=CheckMachineW p m d (H1.out.keep (Keeps.below hu _)) (H3.out.keep (Keeps.below hu _)) hb
  rw[hck] at h;exact h
 have HST:Hid (∀ u,Below w.heap.size w u→Calls Try.prog 51 #[.slice pa p.length pc,.slice qa q.length qc] u (StartPost u p q)):=Lib.hid fun u hu=>StartRW (H1.out.keep (Keeps.below hu _)) (H2.out.keep (Keeps.below hu _))
 have HCS:Hid (∀ u,Below w.heap.size w u→Calls Try.prog 43 #[.slice pa p.length pc,.slice qa q.length qc,.int .i64 0] u fun e w'=>e=.returned (.int .i64 (readyE p q 0:Nat))∧Below u.heap.size u w'):=Lib.hid fun u hu=>by
  rw[ready_solve]
  exact CheckSolveXW p q 0 (by unfold I64;decide) ((H1.out.keep (Keeps.below hu _)).mono fun _ _ _=>trivial) ((H2.out.keep (Keeps.below hu _)).mono fun _ _ _=>trivial)
 have HRM:Hid (∀ u M D,Below w.heap.size w u→MacAt u (fun _=>True) M D→StC p M→Calls Try.prog 54 #[.slice pa p.length pc,.agg #[.slice D.h M.H.length D.hn,.slice D.g M.G.length D.gn,.int .i64 M.first,.slice D.c M.ch.length D.cn,.slice D.t M.T.length D.tn,.slice D.q M.Q.length D.qn,.int .i64 M.steps,.int .i64 M.fin,.slice D.a M.ans.length D.an]] u fun e w'=>e=.returned (.int .i64 0)∧Below u.heap.size u w'):=Lib.hid fun u M D hu hm hc=>by
  have h:=CheckMachineW p M D (ok:=fun _=>True) ((H1.out.keep (Keeps.below hu _)).mono fun _ _ _=>trivial) hm hc.big
  rw[hc.check] at h;exact h
 have HS0:Hid (∀ u e w',StartPost u p q e w'→readyE p q 0=0→Below u.heap.size u w'∧∃ H G f T Q D,e=.returned (.tuple #[.agg #[.slice D.h (List.length (α:=HC) H) D.hn,.slice D.g (List.length (α:=Gl) G) D.gn,.int .i64 f,.slice D.c 0 D.cn,.slice D.t (List.length (α:=Int) T) D.tn,.slice D.q (List.length (α:=Int) Q) D.qn,.int .i64 0,.int .i64 0,.slice D.a 0 D.an],.int .i64 0])∧MacAt w' (fun _=>True) ⟨H,G,f,[],T,Q,0,0,[]⟩ D∧StC p ⟨H,G,f,[],T,Q,0,0,[]⟩):=Lib.hid fun u e w' h h0=>by
  unfold StartPost at h
  rw[if_pos h0] at h
  obtain⟨hb,D,he,hm⟩:=h
  have hc:=start_c h0
  generalize (mnew q (Tm.greats q).toNat).mac=M at *
  obtain⟨H,G,f,ch,T,Q,st,fi,an⟩:=M
  have e1:=hc.steps;have e2:=hc.fin;have e3:=hc.ch;have e4:=hc.ans
  simp only at e1 e2 e3 e4
  subst e1;subst e2;subst e3;subst e4
  exact⟨hb,H,G,f,T,Q,D,he,hm,hc⟩
 have HS1:Hid (∀ u e w',StartPost u p q e w'→readyE p q 0≠0→Below u.heap.size u w'∧e=.returned (.tuple #[.agg #[.slice none 0 0,.slice none 0 0,.int .i64 0,.slice none 0 0,.slice none 0 0,.slice none 0 0,.int .i64 0,.int .i64 0,.slice none 0 0],.int .i64 (readyE p q 0:Nat)])):=Lib.hid fun u e w' h h0=>by
  unfold StartPost at h
  rw[if_neg h0] at h
  exact h
 have HB0:Hid (Below w.heap.size w (w.alloc (.cells (m.vals d).toArray 81))):=Lib.hid ((Below.refl _ _).alloc (Nat.le_refl _) _)
 have HX0:Hid (MBox (w.alloc (.cells (m.vals d).toArray 81)) w.heap.size m d):=Lib.hid (MBox.made w m d)
 clear h1 h2 h3 hb hck
 obtain⟨dh,dg,dc,dt,dq,da,dhn,dgn,dcn,dtn,dqn,dan⟩:=d
 simp only[Mac.vals] at HX0 HB0
 simp only at HCK HRC ⊢
 go_enter Try.func12,Try.ntmps12
 go_upto_region 1 with fail
 generalize (w.alloc (.cells #[.slice dh m.H.length dhn,.slice dg m.G.length dgn,.int .i64 m.first,.slice dc m.ch.length dcn,.slice dt m.T.length dtn,.slice dq m.Q.length dqn,.int .i64 m.steps,.int .i64 m.fin,.slice da m.ans.length dan] 81))=u0 at *
 by_cases h0:readyE p q 0=0
 ·have HR0:=Lib.hid h0
  rw[h0] at HCS
  clear h0
  go_upto_region 2 with (go_at_call 51;refine(HST.out _ HB0.out).mono ?_;rintro e w1 hp1;obtain⟨hb1,H,G,f,T,Q,D,rfl,hm1,hc1⟩:=HS0.out _ _ _ hp1 HR0.out;have HB1:=Lib.hid hb1;have HM1:=Lib.hid hm1;have HC1:=Lib.hid hc1;clear hp1 hb1 hm1 hc1)
  obtain⟨xh,xg,xc,xt,xq,xa,xhn,xgn,xcn,xtn,xqn,xan⟩:=D
  simp only
  have K2:Below w1.heap.size w1 (w1.alloc (.cells #[.slice xh H.length xhn,.slice xg G.length xgn,.int .i64 f,.slice xc 0 xcn,.slice xt T.length xtn,.slice xq Q.length xqn,.int .i64 0,.int .i64 0,.slice xa 0 xan] 81)):=(Below.refl _ _).alloc (Nat.le_refl _) _
  have HB2:=Lib.hid (HB0.out.trans ((HB1.out.trans (K2.mono HB1.out.size)).mono HB0.out.size))
  have HX2:=Lib.hid (HX0.out.below (HB1.out.trans (K2.mono HB1.out.size)))
  have HY2:Hid (MBox (w1.alloc (.cells #[.slice xh H.length xhn,.slice xg G.length xgn,.int .i64 f,.slice xc 0 xcn,.slice xt T.length xtn,.slice xq Q.length xqn,.int .i64 0,.int .i64 0,.slice xa 0 xan] 81)) w1.heap.size ⟨H,G,f,[],T,Q,0,0,[]⟩ ⟨xh,xg,xc,xt,xq,xa,xhn,xgn,xcn,xtn,xqn,xan⟩):=Lib.hid (MBox.made w1 ⟨H,G,f,[],T,Q,0,0,[]⟩ ⟨xh,xg,xc,xt,xq,xa,xhn,xgn,xcn,xtn,xqn,xan⟩)
  have HM2:=Lib.hid (HM1.out.keep (Keeps.below K2 _))
  clear K2 HM1 HB1 HX0 HST
  generalize (w1.alloc (.cells #[.slice xh H.length xhn,.slice xg G.length xgn,.int .i64 f,.slice xc 0 xcn,.slice xt T.length xtn,.slice xq Q.length xqn,.int .i64 0,.int .i64 0,.slice xa 0 xan] 81))=u2 at *
  generalize w1.heap.size=bx at *
  go_upto_region 3 with (go_at_call 43;refine(HCS.out _ HB2.out).mono ?_;rintro e w3 ⟨rfl,hb3⟩;have HB3:=Lib.hid hb3;clear hb3)
  have HB3':=Lib.hid (HB2.out.trans (HB3.out.mono HB2.out.size))
  have HY3:=Lib.hid (HY2.out.below HB3.out)
  have HM3:=Lib.hid ((HM2.out.mono (ok':=fun b=>b<u2.heap.size) fun b hb _=>hb).keep (Keeps.below HB3.out _))
  have T0:McT w3 w.heap.size m ⟨dh,dg,dc,dt,dq,da,dhn,dgn,dcn,dtn,dqn,dan⟩ w3:=⟨Below.refl _ _,HX2.out.below HB3.out⟩
  have T1:=T0.all
  unfold McA at T1
  obtain⟨q0,q1,q2,q3,q4,q5,q6,q7,q8,-⟩:=T1
  have HCK3:Hid (∀ u,Below w3.heap.size w3 u→Calls Try.prog 53 #[.slice pa p.length pc,.agg #[.slice dh m.H.length dhn,.slice dg m.G.length dgn,.int .i64 m.first,.slice dc m.ch.length dcn,.slice dt m.T.length dtn,.slice dq m.Q.length dqn,.int .i64 m.steps,.int .i64 m.fin,.slice da m.ans.length dan]] u fun e w'=>e=.returned (.int .i64 (ck:Nat))∧Below u.heap.size u w'):=Lib.hid fun u hu=>HCK.out u (HB3'.out.trans (hu.mono HB3'.out.size))
  have HRC3:Hid (∀ u,Below w3.heap.size w3 u→Calls Try.prog 54 #[.slice pa p.length pc,.agg #[.slice dh m.H.length dhn,.slice dg m.G.length dgn,.int .i64 m.first,.slice dc m.ch.length dcn,.slice dt m.T.length dtn,.slice dq m.Q.length dqn,.int .i64 m.steps,.int .i64 m.fin,.slice da m.ans.length dan]] u fun e w'=>e=.returned (.int .i64 (ck:Nat))∧Below u.heap.size u w'):=Lib.hid fun u hu=>HRC.out u (HB3'.out.trans (hu.mono HB3'.out.size))
  clear HCK HRC HCS HS0 HS1 HX2 HY2 HM2 HB2 HB3
  go_region_held3 (fun w'=>w'.cell? ⟨w.heap.size,0,none⟩=some (.slice dh m.H.length dhn)∧w'.cell? ⟨w.heap.size,1,none⟩=some (.slice dg m.G.length dgn)∧w'.cell? ⟨w.heap.size,2,none⟩=some (.int .i64 m.first)∧w'.cell? ⟨w.heap.size,3,none⟩=some (.slice dc m.ch.length dcn)∧w'.cell? ⟨w.heap.size,4,none⟩=some (.slice dt m.T.length dtn) ∧
   w'.cell? ⟨w.heap.size,5,none⟩=some (.slice dq m.Q.length dqn)∧w'.cell? ⟨w.heap.size,6,none⟩=some (.int .i64 m.steps)∧w'.cell? ⟨w.heap.size,7,none⟩=some (.int .i64 m.fin)∧w'.cell? ⟨w.heap.size,8,none⟩=some (.slice da m.ans.length dan)∧McT w3 w.heap.size m ⟨dh,dg,dc,dt,dq,da,dhn,dgn,dcn,dtn,dqn,dan⟩ w')
   (first | exact McT.all (McT.drew (by assumption)) | exact McT.all (McT.next (McA.of (by assumption)) hb))
   (first
    | (go_at_call 52;(with_reducible refine(machineBegunW _).mono ?_);rintro e w' ⟨rfl,hb⟩)
    | (go_at_call 53;(with_reducible refine(HCK3.out _ (McA.of (by assumption)).below).mono ?_);rintro e w' ⟨rfl,hb⟩)
    | (go_at_call 54;(with_reducible refine(HRC3.out _ (McA.of (by assumption)).below).mono ?_);rintro e w' ⟨rfl,hb⟩))
  all_goals
   have HBF:=Lib.hid (McA.of (by assumption)).below
   obtain⟨z0,z1,z2,z3,z4,z5,z6,z7,z8,-⟩:=(HY3.out.below HBF.out).all
   simp only[List.length_nil] at z3 z8
   have HBE:=Lib.hid (HB3'.out.trans (HBF.out.mono HB3'.out.size))
   have HRX:=Lib.hid (HRM.out _ _ _ HBE.out ((HM3.out.mono (ok':=fun _=>True) fun _ _ _=>trivial).keep (Keeps.below ((HBF.out).mono (Nat.le_refl _)) _)) HC1.out)
   simp only[List.length_nil] at HRX
   go_wp2_with (go_at_call 54;refine HRX.out.mono ?_;rintro e w9 ⟨rfl,hb9⟩;have HB9:=Lib.hid hb9;obtain⟨z0,z1,z2,z3,z4,z5,z6,z7,z8,-⟩:=((HY3.out.below HBF.out).below hb9).all;simp only[List.length_nil] at z3 z8;clear hb9)
   go_ret
   exact⟨rfl,HBE.out.trans (HB9.out.mono HBE.out.size)⟩
 ·have HR0:=Lib.hid h0
  have t0:((readyE p q 0:Int) != 0)=true:=by rw[bne_iff_ne];omega
  clear h0
  go_upto_region 2 with (go_at_call 51;refine(HST.out _ HB0.out).mono ?_;rintro e w1 hp1;obtain⟨hb1,rfl⟩:=HS1.out _ _ _ hp1 HR0.out;have HB1:=Lib.hid hb1;clear hp1 hb1)
  have K2:Below w1.heap.size w1 (w1.alloc (.cells #[.slice none 0 0,.slice none 0 0,.int .i64 0,.slice none 0 0,.slice none 0 0,.slice none 0 0,.int .i64 0,.int .i64 0,.slice none 0 0] 81)):=(Below.refl _ _).alloc (Nat.le_refl _) _
  have HB2:=Lib.hid (HB0.out.trans ((HB1.out.trans (K2.mono HB1.out.size)).mono HB0.out.size))
  have HX2:=Lib.hid (HX0.out.below (HB1.out.trans (K2.mono HB1.out.size)))
  have HY2:Hid (MBox (w1.alloc (.cells #[.slice none 0 0,.slice none 0 0,.int .i64 0,.slice none 0 0,.slice none 0 0,.slice none 0 0,.int .i64 0,.int .i64 0,.slice none 0 0] 81)) w1.heap.size ⟨[],[],0,[],[],[],0,0,[]⟩ ⟨none,none,none,none,none,none,0,0,0,0,0,0⟩):=Lib.hid (MBox.made w1 ⟨[],[],0,[],[],[],0,0,[]⟩ ⟨none,none,none,none,none,none,0,0,0,0,0,0⟩)
  clear K2 HB1 HX0 HST
  generalize (w1.alloc (.cells #[.slice none 0 0,.slice none 0 0,.int .i64 0,.slice none 0 0,.slice none 0 0,.slice none 0 0,.int .i64 0,.int .i64 0,.slice none 0 0] 81))=u2 at *
  generalize w1.heap.size=bx at *
  go_upto_region 3 with (go_at_call 43;refine(HCS.out _ HB2.out).mono ?_;rintro e w3 ⟨rfl,hb3⟩;have HB3:=Lib.hid hb3;clear hb3)
  have HB3':=Lib.hid (HB2.out.trans (HB3.out.mono HB2.out.size))
  have HY3:=Lib.hid (HY2.out.below HB3.out)
  have T0:McT w3 w.heap.size m ⟨dh,dg,dc,dt,dq,da,dhn,dgn,dcn,dtn,dqn,dan⟩ w3:=⟨Below.refl _ _,HX2.out.below HB3.out⟩
  have T1:=T0.all
  unfold McA at T1
  obtain⟨q0,q1,q2,q3,q4,q5,q6,q7,q8,-⟩:=T1
  have HCK3:Hid (∀ u,Below w3.heap.size w3 u→Calls Try.prog 53 #[.slice pa p.length pc,.agg #[.slice dh m.H.length dhn,.slice dg m.G.length dgn,.int .i64 m.first,.slice dc m.ch.length dcn,.slice dt m.T.length dtn,.slice dq m.Q.length dqn,.int .i64 m.steps,.int .i64 m.fin,.slice da m.ans.length dan]] u fun e w'=>e=.returned (.int .i64 (ck:Nat))∧Below u.heap.size u w'):=Lib.hid fun u hu=>HCK.out u (HB3'.out.trans (hu.mono HB3'.out.size))
  have HRC3:Hid (∀ u,Below w3.heap.size w3 u→Calls Try.prog 54 #[.slice pa p.length pc,.agg #[.slice dh m.H.length dhn,.slice dg m.G.length dgn,.int .i64 m.first,.slice dc m.ch.length dcn,.slice dt m.T.length dtn,.slice dq m.Q.length dqn,.int .i64 m.steps,.int .i64 m.fin,.slice da m.ans.length dan]] u fun e w'=>e=.returned (.int .i64 (ck:Nat))∧Below u.heap.size u w'):=Lib.hid fun u hu=>HRC.out u (HB3'.out.trans (hu.mono HB3'.out.size))
  clear HCK HRC HCS HS0 HS1 HX2 HY2 HB2 HB3
  go_region_held3 (fun w'=>w'.cell? ⟨w.heap.size,0,none⟩=some (.slice dh m.H.length dhn)∧w'.cell? ⟨w.heap.size,1,none⟩=some (.slice dg m.G.length dgn)∧w'.cell? ⟨w.heap.size,2,none⟩=some (.int .i64 m.first)∧w'.cell? ⟨w.heap.size,3,none⟩=some (.slice dc m.ch.length dcn)∧w'.cell? ⟨w.heap.size,4,none⟩=some (.slice dt m.T.length dtn) ∧
   w'.cell? ⟨w.heap.size,5,none⟩=some (.slice dq m.Q.length dqn)∧w'.cell? ⟨w.heap.size,6,none⟩=some (.int .i64 m.steps)∧w'.cell? ⟨w.heap.size,7,none⟩=some (.int .i64 m.fin)∧w'.cell? ⟨w.heap.size,8,none⟩=some (.slice da m.ans.length dan)∧McT w3 w.heap.size m ⟨dh,dg,dc,dt,dq,da,dhn,dgn,dcn,dtn,dqn,dan⟩ w')
   (first | exact McT.all (McT.drew (by assumption)) | exact McT.all (McT.next (McA.of (by assumption)) hb))
   (first
    | (go_at_call 52;(with_reducible refine(machineBegunW _).mono ?_);rintro e w' ⟨rfl,hb⟩)
    | (go_at_call 53;(with_reducible refine(HCK3.out _ (McA.of (by assumption)).below).mono ?_);rintro e w' ⟨rfl,hb⟩)
    | (go_at_call 54;(with_reducible refine(HRC3.out _ (McA.of (by assumption)).below).mono ?_);rintro e w' ⟨rfl,hb⟩))
  all_goals
   have HBF:=Lib.hid (McA.of (by assumption)).below
   obtain⟨z0,z1,z2,z3,z4,z5,z6,z7,z8,-⟩:=(HY3.out.below HBF.out).all
   simp only[List.length_nil] at z0 z1 z3 z4 z5 z8
   have HBE:=Lib.hid (HB3'.out.trans (HBF.out.mono HB3'.out.size))
   go_wp2_with fail
   go_ret
   exact⟨rfl,HBE.out⟩
set_option maxRecDepth 100000 in
theorem machineChecks_lifted(os:Os)(started:os.Started)(H:Type)(enc:TypeId×Value→H) :
 ReturnsInHanded {} Try.checked os 12 .any (Rows.machineChecksSpec.pre6 enc Try.prog Try.f12 Rows.machineChecksRow.domain false) (Rows.machineChecksSpec.post enc Try.prog Try.f12 false true false false):=by
 refine returnsInHanded_of_change_sized (C:=Try.checked) Try.own started (by kernel_rfl) Try.func12
  (ChangeSpec.witness6 (enc:=enc) (C:=Try.checked) false ⟨#[],#[.slice none 0 0,.slice none 0 0,.agg #[.slice none 0 0,.slice none 0 0,.int .i64 0,.slice none 0 0,.slice none 0 0,.slice none 0 0,.int .i64 0,.int .i64 0,.slice none 0 0]],[]⟩ 8 (by kernel_rfl) (by kernel_rfl) (by kernel_rfl) (by kernel_rfl)) ?_
 intro W base args ds gs before hval0 hW hcnd hsz0 _
 have hval:∀ (j:Nat) t v,Try.f12.params[j]? = some t→args[j]? = some v→Value.okWide Try.prog W .any base t v:=hval0
 have hsz:(DataW.weightsEach Try.prog (Try.f12.params.toList++Rows.machineChecksSpec.plain.varTypes Try.prog) (ds++gs)).all (·≤reachBytes)=true:=hsz0
 have hW':=hW
 obtain⟨p,q,hA0,hV,rfl,hfz,hnd⟩:=hW
 have hA:DataW.TrodAll enc Try.prog W 0 (fun _=>true) true Try.f12.params.toList args.toList ds p:=hA0
 rw[Try.params12] at hA hval hsz
 obtain⟨v0,vs0,d0,ds0,p0,q0,hargs,rfl,rfl,h0,r0⟩:=trodAll_cons hA
 obtain⟨v1,vs1,d1,ds1,p1,q1,rfl,rfl,rfl,h1,r1⟩:=trodAll_cons r0
 obtain⟨v2,vs2,d2,ds2,p2,q2,rfl,rfl,rfl,h2,r2⟩:=trodAll_cons r1
 obtain⟨rfl,rfl,rfl⟩:=trodAll_nil r2
 obtain rfl:args = #[v0,v1,v2]:=by cases args;simp_all
 obtain⟨rfl,rfl⟩:=trodVars_none hV
 have lt0:∀ x∈p0,x.block<W.heap.size:=by obtain⟨m,hm⟩:=h0;exact DataW.trod_lt m _ _ _ hm
 have lt1:∀ x∈p1,x.block<W.heap.size:=by obtain⟨m,hm⟩:=h1;exact DataW.trod_lt m _ _ _ hm
 have lt2:∀ x∈p2,x.block<W.heap.size:=by obtain⟨m,hm⟩:=h2;exact DataW.trod_lt m _ _ _ hm
 have k0:=h0;have k1:=h1;have k2:=h2
 obtain⟨s0,n0,c0,rfl⟩:=okWide_slice Try.underlying26 (hval 0 26 v0 rfl rfl)
 obtain⟨s1,n1,c1,rfl⟩:=okWide_slice Try.underlying22 (hval 1 22 v1 rfl rfl)
 obtain⟨cs2,rfl,hcs2⟩:=okWide_struct Try.underlying81 (hval 2 81 v2 rfl rfl)
 obtain⟨m0,hm0⟩:=h0
 obtain⟨m1,hm1⟩:=h1
 obtain⟨m2,hm2⟩:=h2
 have hz2:ReachD 81 d2:=fun k hk=>by
  have:=List.all_eq_true.1 hsz k (DataW.weights_mem_each (j:=2) (t:=81) (d:=d2) rfl rfl k hk)
  simpa using this
 obtain⟨P,a1,cap1,e1,ht1⟩:=trod_pr hm0
 obtain⟨Q,a2,cap2,e2,ht2⟩:=trod_ts _ _ _ hm1
 obtain⟨M,D,e3,ht3,hbig,-⟩:=trod_mac hm2 hz2
 simp only[Value.cells,List.cons.injEq,and_true,Value.slice.injEq] at e1 e2
 obtain⟨rfl,rfl,rfl⟩:=e1
 obtain⟨rfl,rfl,rfl⟩:=e2
 have e4:cs2=(M.vals D).toArray:=by
  have:cs2.toList=M.vals D:=e3
  rw[← this]
 subst e4
 clear hA0 hval0 hval hsz0
 refine(MachineChecksW P Q M D W s0 s1 c0 c1 ht1 ht2 ht3 hbig).mono fun e W' ⟨he,bel⟩=>?_
 subst he
 exact⟨_,rfl,_,_,_,[],_,[],hW',trodAll_mk1 (shut_bool Try.underlying4 _),
  (trodAll_cons_mk (Below.trod Try.laidOut (by kernel_rfl) (of_decide_eq_true (by kernel_rfl)) k0 bel lt0)
   (trodAll_cons_mk (Below.trod Try.laidOut (by kernel_rfl) (of_decide_eq_true (by kernel_rfl)) k1 bel lt1)
    (trodAll_cons_mk (Below.trod Try.laidOut (by kernel_rfl) (of_decide_eq_true (by kernel_rfl)) k2 bel lt2) trodAll_mk0))),rfl,bel.frame _,fun h=>by cases h⟩
theorem machineChecks_holds:Rows.MachineChecksSaid :=
 OpenClaim.holds_of_wide 12 Try.f12 rfl rfl rfl rfl rfl rfl rfl ⟨rfl,rfl,rfl,rfl,rfl⟩ rfl rfl rfl rfl rfl (by kernel_rfl) Try.func12 (by kernel_rfl)
  (of_decide_eq_true (by kernel_rfl)) (by unfold Func.isWrapper;first | (rw[if_pos (by decide +kernel)];kernel_rfl) | (rw[if_neg (by decide +kernel)];exact⟨rfl,rfl⟩))
  (fun os started H enc _=>machineChecks_lifted os started H enc)
#print axioms machineChecks_holds
end Go.Proofs.Ytikmgiapjigghaa
