/- Walk: the searcher takes a goal. -/
import Derived.Deep.CutBlock
import Derived.Test.YtikmgiapjigghabCb15
import Derived.Test.YtikmgiapjigghabCb18
import Derived.Test.YtikmgiapjigghabCb19
namespace Go.Proofs.Ytikmgiapjigghab
open Go.RowKit
def TkMid(w:World)(br bs bm:Nat)(tv cv av:Value)(pa:Option Addr)(pc:Nat)(p:List Cl)(query:Nat)(S:PS)(b:Bool)(wx:World):Prop :=
 ∃ (S':PS) (tv' cv':Value) (np':Option Addr) (wk':Nat),Touch (SM br bs bm tv cv av) w wx∧Fresh w tv tv'∧Fresh w cv cv'∧SAt wx br bs bm tv' cv' av np' pa pc p query S' wk' ∧
  ((b=true∨S'.fin≠0)→ptake p S=S')∧(b=false→S'.fin=0→ptake p S=pback p S'.ch.length S'∧BInv p S'∧S'.vars+12*potC p.length S'.ch≤1000000∧S'.steps≤400)
theorem ptake_wrong{p:List Cl}{S:PS}{t:Tm}(ht:look S.σ (headT S.now)=t)(h:t.var≠0):ptake p S = { S with steps:=S.steps+1,f:=4000,fin:=4 }:=by
 subst ht;simp only[ptake];rw[if_pos h]
theorem ptake_call{p:List Cl}{S:PS}{t:Tm}(ht:look S.σ (headT S.now)=t)(h:t.var=0)(hm:meansB t.name t.args.length=false){r:PS×Bool}(hr:pcall p S.now t 0 { S with steps:=S.steps+1,f:=4000 }=r) :
 ptake p S=if r.2=true then r.1 else pback p r.1.ch.length r.1:=by
 subst ht;simp only[ptake];rw[if_neg (show ¬ (look S.σ (headT S.now)).var≠0 from fun e=>e h),if_pos hm,hr]
theorem ptake_cut{p:List Cl}{S:PS}{t:Tm}(ht:look S.σ (headT S.now)=t)(h:t.var=0)(hm:meansB t.name t.args.length=true)(h1:t.name=⟨#[33]⟩) :
 ptake p S = { S with steps:=S.steps+1,f:=4000,ch:=S.ch.take ((S.now.head?.map (·.2)).getD 0),now:=S.now.tail }:=by
 subst ht;simp only[ptake];rw[if_neg (show ¬ (look S.σ (headT S.now)).var≠0 from fun e=>e h),if_neg (by rw[hm];decide),if_pos h1]
theorem ptake_true{p:List Cl}{S:PS}{t:Tm}(ht:look S.σ (headT S.now)=t)(h:t.var=0)(hm:meansB t.name t.args.length=true)(h1:t.name≠⟨#[33]⟩)(h2:t.name=⟨#[116,114,117,101]⟩) :
 ptake p S = { S with steps:=S.steps+1,f:=4000,now:=S.now.tail }:=by
 subst ht;simp only[ptake];rw[if_neg (show ¬ (look S.σ (headT S.now)).var≠0 from fun e=>e h),if_neg (by rw[hm];decide),if_neg h1,if_pos h2]
theorem ptake_fail{p:List Cl}{S:PS}{t:Tm}(ht:look S.σ (headT S.now)=t)(h:t.var=0)(hm:meansB t.name t.args.length=true)(h1:t.name≠⟨#[33]⟩)(h2:t.name≠⟨#[116,114,117,101]⟩)(h3:t.name=⟨#[102,97,105,108]⟩) :
 ptake p S=pback p S.ch.length { S with steps:=S.steps+1,f:=4000 }:=by
 subst ht;simp only[ptake];rw[if_neg (show ¬ (look S.σ (headT S.now)).var≠0 from fun e=>e h),if_neg (by rw[hm];decide),if_neg h1,if_neg h2,if_pos h3]
noncomputable def eqOut(p:List Cl)(S:PS):MOut→PS
 | .ok σ L f=>{ S with steps:=S.steps+1,σ:=σ,L:=L,f:=f,now:=S.now.tail }
 | .no _ _ f=>pback p S.ch.length { S with steps:=S.steps+1,f:=f,now:=S.now.tail }
 | .many _ _=>{ S with steps:=S.steps+1,f:=0,fin:=3,now:=S.now.tail }
theorem ptake_eq{p:List Cl}{S:PS}{t:Tm}(ht:look S.σ (headT S.now)=t)(h:t.var=0)(hm:meansB t.name t.args.length=true)(h1:t.name≠⟨#[33]⟩)(h2:t.name≠⟨#[116,114,117,101]⟩)(h3:t.name≠⟨#[102,97,105,108]⟩){x y:Tm}(hxy:t.args = [x,y])
 {o:MOut} (ho:meet S.σ S.L 4000 [(x,y)]=o) :
 ptake p S=eqOut p S o:=by
 have ho':meet S.σ S.L 4000 [(t.args.getD 0 default,t.args.getD 1 default)]=o:=by rw[hxy];exact ho
 subst ht;simp only[ptake];rw[if_neg (show ¬ (look S.σ (headT S.now)).var≠0 from fun e=>e h),if_neg (by rw[hm];decide),if_neg h1,if_neg h2,if_neg h3,ho']
 cases o <;> rfl
theorem bytes_of{n:ByteArray}{l:List UInt8}(h:n.toList=l):n=⟨l.toArray⟩:=by
 cases n with
 | mk d =>
  have:d.toList=l:=by rw[← h,ByteArray.toList_eq]
  rw[← this]
theorem bytes_ne{n:ByteArray}{l:List UInt8}(h:(n.toList == l)=false):n≠⟨l.toArray⟩:=fun e=>by
 rw[beq_eq_false_iff_ne] at h
 exact h (by rw[e,ByteArray.toList_eq])
theorem row_cap{w:World}{base:Nat}{e:TypeId}{size:Nat}{v:Value}{n:Nat}{xs:List Value}(h:w.ownsRow base e size v n xs):∃ a c,v=.slice a n c∧n≤c∧c≤9223372036854775807:=by
 obtain⟨_,h2⟩:=h
 rcases h2 with ⟨rfl,rfl⟩ | ⟨g,cap,cur,rfl,_,_,h3,h4,_,_⟩
 ·exact⟨none,0,rfl,Nat.le_refl _,by omega⟩
 ·exact⟨_,cap,rfl,h3,by unfold maxLen at h4;omega⟩
theorem meet_undo{p:List Cl}{S:PS}(hP:PInv p S){x y:Tm}(hx:Fit (S.vars+1) x)(hy:Fit (S.vars+1) y)(hv:S.vars≤1000000)(hst:S.steps≤400){σ:Sub}{L:List Int}(hmo:(∃ f,meet S.σ S.L 4000 [(x,y)]=.no σ L f)∨meet S.σ S.L 4000 [(x,y)]=.many σ L)(hii:SInv σ) :
 TrailOk σ L∧(∀ z,z∈L→I64 z)∧S.L.length≤L.length∧L.length≤1000000∧undo σ L S.L.length=S.σ∧L.take S.L.length=S.L:=by
 have hw2:∀ q∈[(x,y)],Fit (S.vars+1) q.1∧Fit (S.vars+1) q.2:=fun q hq=>by rw[List.mem_singleton] at hq;subst hq;exact⟨hx,hy⟩
 have hg:=meet_grow 4000 S.σ S.L [(x,y)] hP.sinv (fun q hq=>⟨(hw2 q hq).1.wf,(hw2 q hq).2.wf⟩)
 have hk:=meet_keyB (n:=S.vars+1) 4000 S.σ S.L [(x,y)] hP.sinv (fun v u e=>(hP.dom v u e).1) hw2
 have hG:Grow S.σ S.L σ L∧L.length≤S.L.length+4000∧∀ z,z∈L→z∈S.L∨z.toNat<S.vars+1:=by
  rcases hmo with ⟨f,h⟩ | h
  ·rw[h] at hg hk
   exact⟨hg.1,by have:=hg.2;omega,hk⟩
  ·rw[h] at hg hk
   exact⟨hg.1,by have:=hg.2;omega,hk⟩
 obtain⟨h1,h2,h3⟩:=hG
 have hT:=h1.ok hP.trail
 refine⟨hT,fun z hz=>?_,h1.back.2.2,by have:=hP.len;omega,h1.back.1,h1.back.2.1⟩
 obtain⟨u,hu⟩:=Option.ne_none_iff_exists'.1 (hT.2 z hz)
 have h4:=(hii.each z u hu).1
 have h5:z.toNat<S.vars+1:=by
  rcases h3 z hz with h5 | h5
  ·obtain⟨u2,hu2⟩:=Option.ne_none_iff_exists'.1 (hP.trail.2 z h5)
   exact(hP.dom z u2 hu2).2
  ·exact h5
 unfold I64;omega
set_option maxRecDepth 100000 in
set_option maxHeartbeats 4000000 in
theorem TakeW{p:List Cl}(hp:POk p)(hsz:∀ c,c∈p→c.head.size≤100000∧∀ b,b∈c.body→b.size≤100000){w:World}{br bs bm:Nat}{tv cv av:Value}{np pa:Option Addr}{pc:Nat}{query:Nat}{S:PS}{wk:Nat}(h:SAt w br bs bm tv cv av np pa pc p query S wk)
 (hi:RInv p S) (h30:p.length≤30) (h0:S.fin=0) (hne:S.now≠[]) (hst:S.steps<400) :
 Calls Try.prog 76 #[.pointer (some ⟨br,0,none⟩)] w (BkPost w br bs bm tv cv av pa pc p query (ptake p S)):=by
 obtain⟨ta,tc,htv,hLl⟩:=row_form h.st.trail
 subst htv
 obtain⟨ca,cc,hcv,hcc,hcm⟩:∃ ca cc,cv=.slice ca S.ch.length cc∧S.ch.length≤cc∧cc≤9223372036854775807:=by
  obtain⟨Q,hQ,hr,_⟩:=h.ch
  obtain⟨ca,cc,e1,e2,e3⟩:=row_cap hr
  have:Q.length=S.ch.length:=by rw[← hQ,List.length_map]
  exact⟨ca,cc,by rw[e1,this],by omega,e3⟩
 subst hcv
 obtain⟨hP,-⟩:=hi.core h0
 have hpot:=hi.pot
 have hci:=hP.call hne
 obtain⟨g0,rest,hnow⟩:∃ g0 rest,S.now=g0::rest:=by
  cases hc:S.now with
  | nil=>exact absurd hc hne
  | cons a r=>exact⟨a,r,rfl⟩
 have hgat:=h.now
 rw[hnow] at hgat
 cases hgat with
 | cons gb t0 cut a0 c0 r0 _ hgb hgok hgf hgt hgr =>
 obtain⟨t,ht⟩:∃ t,look S.σ (headT S.now)=t:=⟨_,rfl⟩
 have ht0:headT S.now=t0:=by rw[hnow];rfl
 obtain⟨ln,hln⟩:=look_spec hci.sinv.rank.ends t0
 have hln':LookN S.σ ln t0 t:=by rw[← ht,ht0];exact hln
 have HLN:=lh hln'
 -- the world behind the first two lines
 have hs1:=h.setSteps (S.steps+1)
 have hs2:=(hs1.setWork 0).1
 have ht1:Touch (SM br bs bm (.slice ta S.L.length tc) (.slice ca S.ch.length cc) av) w (w.setCell ⟨br,8,none⟩ (.int .i64 ((S.steps+1:Nat):Int))):=(Touch.setCell (M:=fun b=>b=br) _ rfl).mono fun b _ e=>.inl e
 have htz:=ht1.trans (hs1.setWork 0).2
 have e1:((S.steps+1:Nat):Int)=(S.steps:Int)+1:=by omega
 rw[e1] at hs1 hs2 htz
 have HS2:Hid (SAt ((w.setCell ⟨br,8,none⟩ (.int .i64 ((S.steps:Int)+1))).setCell ⟨bs,2,none⟩ (.int .i64 0)) br bs bm (.slice ta S.L.length tc) (.slice ca S.ch.length cc) av (some ⟨gb,0,none⟩) pa pc p query { S with steps:=S.steps+1,f:=4000 } 0):=lh (hs2.plain rfl rfl rfl rfl rfl rfl rfl rfl)
 have HTZ:Hid (Touch (SM br bs bm (.slice ta S.L.length tc) (.slice ca S.ch.length cc) av) w ((w.setCell ⟨br,8,none⟩ (.int .i64 ((S.steps:Int)+1))).setCell ⟨bs,2,none⟩ (.int .i64 0))):=lh htz
 have HOZ:=lh (okS_step htz (Fresh.self _ (.slice ta S.L.length tc)) (Fresh.self _ (.slice ca S.ch.length cc)) (Fresh.self _ av))
 obtain⟨q0,q1,q2,q3,q4,q5,q6,q7,q8,qf⟩:=h.cells
 obtain⟨s0',s1',s2',sf'⟩:=hs1.st.cells
 obtain⟨u0,u1,u2,u3,u4,u5,u6,u7,u8,uf⟩:=hs1.cells
 obtain⟨z0,z1,z2,z3,z4,z5,z6,z7,z8,zf⟩:=hs2.cells
 obtain⟨s0,s1,s2,sf⟩:=hs2.st.cells
 have hgbz:=(htz.block gb hgok.1 hgok.2).trans hgb
 have lgb:gb<((w.setCell ⟨br,8,none⟩ (.int .i64 ((S.steps:Int)+1))).setCell ⟨bs,2,none⟩ (.int .i64 0)).heap.size:=(Array.getElem?_eq_some_iff.1 hgbz).1
 have HGB:=lh hgbz
 have HGOK:=lh (HOZ.out.2 gb hgok)
 have HGF:=lh hgf
 have HGT:=lh ((hgt.keep HOZ.out.1).mono fun b _=>HOZ.out.2 b)
 have HGR:=lh ((hgr.keep HOZ.out.1).mono fun b _=>HOZ.out.2 b)
 have HP:=lh hp;have HSZ:=lh hsz;have HPI:=lh hP;have HCI:=lh hci;have HPOT:=lh hpot;have H0:=lh h0;have HNOW:=lh hnow;have HTT:=lh ht;have HST:=lh hst;have H30:=lh h30;have HNE:=lh hne
 have hsteps:S.steps<400:=hst
 have hl0:=H0.out
 clear h hp hsz hi h30 h0 hne hst hP hpot hci hnow hln hln' ht ht0 hs1 hs2 ht1 htz hgb hgok hgf hgt hgr hgbz e1
 go_enter Try.func76,Try.ntmps76
 go_upto_region 3 with fail
 generalize hwz:((w.setCell ⟨br,8,none⟩ (.int .i64 ((S.steps:Int)+1))).setCell ⟨bs,2,none⟩ (.int .i64 0))=wz at *
 clear hwz q0 q1 q2 q3 q4 q5 q6 q7 q8 qf s0' s1' s2' sf' u0 u1 u2 u3 u4 u5 u6 u7 u8 uf
 have hgb:=HGB.out
 have k0:wz.cell? ⟨gb,0,none⟩=some (.int .i64 t0.var):=by simp[World.cell?,hgb]
 have k1:wz.cell? ⟨gb,1,none⟩=some (.string t0.name):=by simp[World.cell?,hgb]
 have k2:wz.cell? ⟨gb,2,none⟩=some (.slice a0 t0.args.length c0):=by simp[World.cell?,hgb]
 clear hgb
 have HLW:Hid (∀ u,Below wz.heap.size wz u→Calls Try.prog 102 #[.pointer (some ⟨bs,0,none⟩),.agg #[.int .i64 t0.var,.string t0.name,.slice a0 t0.args.length c0]] u (fun e w'=>∃ a1 c1,e=.returned (.agg #[.int .i64 t.var,.string t.name,.slice a1 t.args.length c1])∧t.fits∧Ts w' (OkS wz br bs bm (.slice ta S.L.length tc) (.slice ca S.ch.length cc) av) t.args a1 c1∧Below wz.heap.size wz w'∧∀ b x0 x1 x2,Box3 u b x0 x1 x2→Box3 w' b x0 x1 x2)):=lh (fun u hu=>by
  refine(LookW (HS2.out.st.keep hu) HLN.out HGF.out (HGT.out.keep (Keeps.below hu _))).mono ?_
  rintro e w' ⟨a1,c1,he,hf,hts,hb⟩
  exact⟨a1,c1,he,hf,hts,hu.trans (hb.mono hu.size),fun b x0 x1 x2 hx=>hx.below hb⟩)
 go_cut[3] (fun v3 wx=>∃ b3 a1 c1,v3=.pointer (some ⟨b3,0,none⟩)∧wz.heap.size≤b3∧Box3 wx b3 (.int .i64 t.var) (.string t.name) (.slice a1 t.args.length c1)∧Below wz.heap.size wz wx∧t.fits∧Ts wx (OkS wz br bs bm (.slice ta S.L.length tc) (.slice ca S.ch.length cc) av) t.args a1 c1)
 case first =>
  have lbr3:=HS2.out.lt
  have lbs3:=HS2.out.st.lt
  go_region_with (first
   | (go_at_call 102;refine(HLW.out _ (by with_reducible exact(Below.refl _ _).drew)).mono ?_;rintro e w1 ⟨a1,c1,rfl,hf1,ht1,hb1,hbx⟩;have HF1:=lh hf1;have HT1:=lh ht1;have HB1:=lh hb1;clear hf1 ht1 hb1 hbx)
   | (go_at_call 102;refine(HLW.out _ (by with_reducible exact((Below.refl _ _).alloc (Nat.le_refl _) _).drew)).mono ?_;rintro e w1 ⟨a1,c1,rfl,hf1,ht1,hb1,hbx⟩;have HF1:=lh hf1;have HT1:=lh ht1;have HB1:=lh hb1;have hz:=hbx _ _ _ _ ((Box3.made wz (.int .i64 0) (.string ⟨#[]⟩) (.slice none 0 0)).below (Below.refl _ _).drew);have HZ:=lh hz;obtain⟨y0,y1,y2,yf⟩:=hz.all;have yl:=hz.lt;clear hz hf1 ht1 hb1 hbx))
  all_goals
   go_wp2_with fail
   go_meet
   first
    | exact⟨_,a1,c1,rfl,HB1.out.size,Box3.made _ _ _ _,HB1.out.alloc HB1.out.size _,HF1.out,HT1.out.keep (Keeps.below ((Below.refl _ _).alloc (Nat.le_refl _) _) _)⟩
    | exact⟨_,a1,c1,rfl,Nat.le_refl _,HZ.out.put _ _ _,below_put HB1.out (Nat.le_refl _) _ _ _,HF1.out,HT1.out.keep ((touch_put _ _ _ _ _).keeps fun b hb e=>by have:=hb.1;omega)⟩
 case rest =>
  obtain⟨b3,a1,c1,rfl,hb3,hx3,hbx,hf1,ht1⟩:=hcut
  have HX3:=lh hx3;have HF3:=lh hf1
  have HSA:=lh (HS2.out.below hbx)
  have hMO:∀ b,b<wc.heap.size→OkS wz br bs bm (.slice ta S.L.length tc) (.slice ca S.ch.length cc) av b→OkS wc br bs bm (.slice ta S.L.length tc) (.slice ca S.ch.length cc) av b:=fun b _ hb=>⟨Nat.lt_of_lt_of_le hb.1 hbx.size,hb.2⟩
  have HT3:=lh (ht1.mono hMO)
  have HGRA:=lh ((HGR.out.keep (Keeps.below hbx _)).mono hMO)
  have hgb:=(hbx.block gb lgb).trans HGB.out
  have HGA:Hid (GAt wc (OkS wc br bs bm (.slice ta S.L.length tc) (.slice ca S.ch.length cc) av) (some ⟨gb,0,none⟩) S.now):=lh (by
   rw[HNOW.out]
   exact .cons gb t0 cut a0 c0 r0 rest hgb (hMO gb (Nat.lt_of_lt_of_le lgb hbx.size) HGOK.out) HGF.out ((HGT.out.keep (Keeps.below hbx _)).mono hMO) HGRA.out)
  have HTA:=lh (HTZ.out.trans (Touch.below hbx))
  have hsz0:w.heap.size≤wc.heap.size:=HTA.out.size
  have lb3:b3<wc.heap.size:=hx3.lt
  have HN3:Hid (∀ b,SM br bs bm (.slice ta S.L.length tc) (.slice ca S.ch.length cc) av b→b≠b3):=lh (fun b e=>by have:=SM_lt HS2.out e;omega)
  have k3:wc.cell? ⟨gb,3,none⟩=some (.int .i64 cut):=by simp[World.cell?,hgb]
  have k4:wc.cell? ⟨gb,4,none⟩=some (.pointer r0):=by simp[World.cell?,hgb]
  have HGBA:=lh hgb
  have lgb2:gb<wc.heap.size:=Nat.lt_of_lt_of_le lgb hbx.size
  have HGNM:Hid (¬ SM br bs bm (.slice ta S.L.length tc) (.slice ca S.ch.length cc) av gb):=lh HGOK.out.2
  clear hx3 hbx hf1 ht1 hMO hgb k0 k1 k2 z0 z1 z2 z3 z4 z5 z6 z7 z8 zf s0 s1 s2 sf HLW HS2 HTZ HOZ HGB HGOK HGT HGR
  generalize wc=wa at *
  obtain⟨q0,q1,q2,q3,q4,q5,q6,q7,q8,qf⟩:=HSA.out.cells
  obtain⟨s0,s1,s2,sf⟩:=HSA.out.st.cells
  obtain⟨x0,x1,x2,xf⟩:=HX3.out.all
  have hgbr:gb≠br:=fun e=>HGNM.out (.inl e)
  have hgbr2:br≠gb:=fun e=>HGNM.out (.inl e.symm)
  go_upto_block 0 with fail
  go_cut[4] (fun v4 wx=>∃ b,v4=.bool b∧TkMid w br bs bm (.slice ta S.L.length tc) (.slice ca S.ch.length cc) av pa pc p query S b wx)
  case first =>
   by_cases hv:t.var=0
   ·have hv1:(t.var != 0)=false:=by rw[hv];rfl
    have HV:Hid (t.var=0):=lh hv
    clear hv
    by_cases hm:meansB t.name t.args.length=false
    ·--BEGIN CALL
     have hMW:∀ u,Calls Try.prog 86 #[.agg #[.int .i64 t.var,.string t.name,.slice a1 t.args.length c1]] u fun e w'=>e=.returned (.bool false)∧Below u.heap.size u w':=fun u=>by
      have:=MeansW t.var t.name a1 t.args.length c1 u
      rw[hm] at this;exact this
     have HMW:=lh hMW
     obtain⟨r,hr⟩:∃ r,pcall p S.now t 0 { S with steps:=S.steps+1,f:=4000 }=r:=⟨_,rfl⟩
     have hci:CInv p S.now t { S with steps:=S.steps+1,f:=4000 }:=HTT.out ▸ HCI.out
     have hinv:=call_inv HP.out p.length 0 { S with steps:=S.steps+1,f:=4000 } (by omega) (Nat.zero_le _) hci
     have HPT:=lh (ptake_call HTT.out HV.out hm hr)
     have HCL:Hid (∀ u,Below wa.heap.size wa u→Calls Try.prog 103 #[.pointer (some ⟨br,0,none⟩),.pointer (some ⟨gb,0,none⟩),.int .i64 0] u (ClPost u br bs bm (.slice ta S.L.length tc) (.slice ca S.ch.length cc) av pa pc p query r)):=lh (fun u hu=>by
      have hc:=CallW (S:={ S with steps:=S.steps+1,f:=4000 }) HP.out HSZ.out (HSA.out.below hu) ((HGA.out.keep (Keeps.below hu _)).mono (fun b _ hb=>(⟨Nat.lt_of_lt_of_le hb.1 hu.size,hb.2⟩:OkS u br bs bm (.slice ta S.L.length tc) (.slice ca S.ch.length cc) av b))) (t:=t) HTT.out hci H0.out (i:=0) (Nat.zero_le _) (by have:=HPOT.out;have:=H30.out;simp only;omega) (by simp only;omega)
      rw[hr] at hc;exact hc)
     rw[hr] at hinv
     have HINV:=lh hinv
     obtain⟨r1,b⟩:=r
     clear hMW hinv hr hci hm
     go_wp2_with (first
      | (go_at_call 86;refine(HMW.out _).mono ?_;rintro e wM ⟨rfl,hbM⟩;have HBM:=lh hbM;clear hbM)
      | (go_at_call 103;refine(HCL.out _ HBM.out).mono ?_;rintro e wk ⟨rfl,htk,tvk,cvk,npk,wkk,hfk,hgk,hsk⟩;have HTK:=lh htk;have HFK:=lh hfk;have HGK:=lh hgk;have HSK:=lh hsk;clear htk hfk hgk hsk))
     go_meet
     refine⟨b,rfl,r1,tvk,cvk,npk,wkk,(HTA.out.trans (Touch.below HBM.out)).trans HTK.out,HFK.out.old (Nat.le_trans hsz0 HBM.out.size),HGK.out.old (Nat.le_trans hsz0 HBM.out.size),HSK.out,fun e=>?_,fun e h=>?_⟩
     ·rw[HPT.out]
      cases b with
      | true=>rfl
      | false =>
       rcases HINV.out.2.2.2.2.2 with h | h
       ·exact absurd (h.trans H0.out) (e.resolve_left (by decide))
       ·cases h.2
     ·subst e
      rw[HPT.out]
      exact⟨rfl,(HINV.out.1.2 rfl).toB,by have:=HINV.out.2.1;have:=HPOT.out;have:=H30.out;omega,by have:=HINV.out.2.2.2.1;omega⟩
    ·have HM:Hid (meansB t.name t.args.length=true):=lh (by simpa using hm)
     have HMW:Hid (∀ u,Calls Try.prog 86 #[.agg #[.int .i64 t.var,.string t.name,.slice a1 t.args.length c1]] u fun e w'=>e=.returned (.bool true)∧Below u.heap.size u w'):=lh (fun u=>by
      have:=MeansW t.var t.name a1 t.args.length c1 u
      rw[HM.out] at this;exact this)
     clear hm
     have HFA:Hid (∀ u,Below wa.heap.size wa u→u.cell? ⟨br,4,none⟩=some (.slice ca S.ch.length cc)∧u.cell? ⟨br,1,none⟩=some (.pointer (some ⟨bs,0,none⟩))∧(∀ o,u.frozen? ⟨br,o,none⟩=false)∧u.cell? ⟨gb,3,none⟩=some (.int .i64 cut)∧u.cell? ⟨gb,4,none⟩=some (.pointer r0)∧u.cell? ⟨b3,0,none⟩=some (.int .i64 t.var)∧u.cell? ⟨b3,1,none⟩=some (.string t.name)∧u.cell? ⟨b3,2,none⟩=some (.slice a1 t.args.length c1)∧u.cell? ⟨bs,1,none⟩=some (.slice ta S.L.length tc)∧u.cell? ⟨br,5,none⟩=some (.pointer (some ⟨gb,0,none⟩))):=lh (fun u hu=>by
      obtain⟨r0',r1',r2',r3',r4',r5',r6',r7',r8',rf'⟩:=(HSA.out.below hu).cells
      obtain⟨s0',s1',s2',sf'⟩:=(HSA.out.below hu).st.cells
      obtain⟨x0',x1',x2',xf'⟩:=(HX3.out.below hu).all
      exact⟨r4',r1',rf',(hu.cell (p:=⟨gb,3,none⟩) lgb2).trans k3,(hu.cell (p:=⟨gb,4,none⟩) lgb2).trans k4,x0',x1',x2',s1',r5'⟩)
     have HTL:Hid (S.now.tail=rest):=lh (by rw[HNOW.out];rfl)
     have HB1:Hid (∀ f now,BInv p { S with steps:=S.steps+1,f:=f,now:=now }):=lh (fun f now=>HPI.out.toB1)
     -- the goals behind the first one
     have HNX:Hid (∀ (u:World) (tv' cv':Value) (np':Option Addr) (S':PS) (wk':Nat),SAt u br bs bm tv' cv' av np' pa pc p query S' wk'→Touch (SM br bs bm (.slice ta S.L.length tc) (.slice ca S.ch.length cc) av) wa u→Fresh wa (.slice ta S.L.length tc) tv'→Fresh wa (.slice ca S.ch.length cc) cv'→SAt (u.setCell ⟨br,5,none⟩ (.pointer r0)) br bs bm tv' cv' av r0 pa pc p query { S' with now:=S.now.tail } wk'∧Touch (SM br bs bm (.slice ta S.L.length tc) (.slice ca S.ch.length cc) av) w (u.setCell ⟨br,5,none⟩ (.pointer r0))∧Fresh w (.slice ta S.L.length tc) tv'∧Fresh w (.slice ca S.ch.length cc) cv'):=lh (fun u tv' cv' np' S' wk' h1 h2 h3 h4=>by
      have hO:=okS_step h2 h3 h4 (Fresh.self _ av)
      rw[HTL.out]
      exact⟨h1.setNow ((HGRA.out.keep hO.1).mono fun b _=>hO.2 b),HTA.out.trans (h2.trans ((Touch.setCell (M:=fun b=>b=br) _ rfl).mono fun b _ e=>.inl e)),h3.old hsz0,h4.old hsz0⟩)
     rcases name_kinds t.name with ⟨k,h1⟩ | ⟨k,h1,h2⟩ | ⟨k,h1,h2,h3⟩ | ⟨k,h1,h2,h3,h4⟩ | ⟨k,h1,h2,h3,h4⟩
     ·--BEGIN CUT
      have HPT:=lh (ptake_cut (p:=p) HTT.out HV.out HM.out (bytes_of k))
      have hcut:(S.now.head?.map (·.2)).getD 0=cut:=by rw[HNOW.out];rfl
      rw[hcut] at HPT
      clear k hcut
      by_cases hcl:S.ch.length<cut
      ·have hcl1:(S.ch.length:Int)<(cut:Int):=by omega
       have HCT:Hid (S.ch.take cut=S.ch.take S.ch.length):=lh (by rw[List.take_length,List.take_of_length_le (by omega)])
       clear hcl
       go_wp2_with (go_at_call 86;refine(HMW.out _).mono ?_;rintro e wM ⟨rfl,hbM⟩;have HBM:=lh hbM;obtain⟨j1,j2,j3,j4,j5,j6,j7,j8,j9,j10⟩:=HFA.out _ hbM;clear hbM)
       go_region
       all_goals
        go_wp2_with fail
        go_meet
        obtain⟨hcs,hct,hcf⟩:=(HSA.out.below HBM.out).cut (k:=S.ch.length) (Nat.le_refl _)
        obtain⟨n1,n2,n3,n4⟩:=HNX.out _ _ _ _ _ _ (hcs.below ((Below.refl _ _).drew)) (((Touch.below HBM.out).trans hct).trans (Touch.below ((Below.refl _ _).drew))) (Fresh.self _ _) (.inl (cutV_own _ _))
        exact⟨true,rfl,_,_,_,_,_,n2,n3,n4,n1,fun _=>by rw[HPT.out,HCT.out],fun e=>by cases e⟩
      ·have hcl1:¬ (S.ch.length:Int)<(cut:Int):=by omega
       have hcl2:(cut:Int)≤(cc:Int):=by omega
       have HCL:Hid (cut≤S.ch.length):=lh (by omega)
       go_wp2_with (go_at_call 86;refine(HMW.out _).mono ?_;rintro e wM ⟨rfl,hbM⟩;have HBM:=lh hbM;obtain⟨j1,j2,j3,j4,j5,j6,j7,j8,j9,j10⟩:=HFA.out _ hbM;clear hbM)
       go_region
       all_goals
        go_wp2_with fail
        go_meet
        obtain⟨hcs,hct,hcf⟩:=(HSA.out.below HBM.out).cut (k:=cut) HCL.out
        obtain⟨n1,n2,n3,n4⟩:=HNX.out _ _ _ _ _ _ (hcs.below ((Below.refl _ _).drew)) (((Touch.below HBM.out).trans hct).trans (Touch.below ((Below.refl _ _).drew))) (Fresh.self _ _) (.inl (cutV_own _ _))
        exact⟨true,rfl,_,_,_,_,_,n2,n3,n4,n1,fun _=>HPT.out,fun e=>by cases e⟩
     ·--BEGIN TRUE
      have HPT:=lh (ptake_true (p:=p) HTT.out HV.out HM.out (bytes_ne h1) (bytes_of k))
      clear k
      go_wp2_with (go_at_call 86;refine(HMW.out _).mono ?_;rintro e wM ⟨rfl,hbM⟩;have HBM:=lh hbM;obtain⟨j1,j2,j3,j4,j5,j6,j7,j8,j9,j10⟩:=HFA.out _ hbM;clear hbM)
      go_meet
      obtain⟨n1,n2,n3,n4⟩:=HNX.out _ _ _ _ _ _ (HSA.out.below HBM.out) (Touch.below HBM.out) (Fresh.self _ _) (Fresh.self _ _)
      exact⟨true,rfl,_,_,_,_,_,n2,n3,n4,n1,fun _=>HPT.out,fun e=>by cases e⟩
     ·--BEGIN FAIL
      have HPT:=lh (ptake_fail (p:=p) HTT.out HV.out HM.out (bytes_ne h1) (bytes_ne h2) (bytes_of k))
      clear k
      go_wp2_with (go_at_call 86;refine(HMW.out _).mono ?_;rintro e wM ⟨rfl,hbM⟩;have HBM:=lh hbM;obtain⟨j1,j2,j3,j4,j5,j6,j7,j8,j9,j10⟩:=HFA.out _ hbM;clear hbM)
      go_meet
      refine⟨false,rfl,_,_,_,_,_,HTA.out.trans (Touch.below HBM.out),Fresh.self _ _,Fresh.self _ _,HSA.out.below HBM.out,fun e=>?_,fun _ _=>⟨HPT.out,HB1.out 4000 S.now,by have:=HPOT.out;simp only;omega,by simp only;omega⟩⟩
      exact absurd H0.out (e.resolve_left (by decide))
     ·--BEGIN EQ
      have hl2:=means_two (t:=t) (by rw[HM.out];decide) (bytes_ne h1) (bytes_ne h2) (bytes_ne h3)
      obtain⟨x,y,hxy⟩:∃ x y,t.args = [x,y]:=by
       match hA:t.args,hl2 with
       | [x,y],_=>exact⟨x,y,rfl⟩
      obtain⟨mo,hmo⟩:∃ mo,meet S.σ S.L 4000 [(x,y)]=mo:=⟨_,rfl⟩
      have HPT:=lh (ptake_eq (p:=p) HTT.out HV.out HM.out (bytes_ne h1) (bytes_ne h2) (bytes_ne h3) hxy hmo)
      have hfa:∀ z,z∈t.args→Fit (S.vars+1) z:=fun z hz=>by
       have hf:Fit (S.vars+1) t:=by rw[← HTT.out];exact HCI.out.t
       exact hf.arg hz
      have hfx:=hfa x (by rw[hxy];simp)
      have hfy:=hfa y (by rw[hxy];simp)
      have hts:=HT3.out
      rw[hxy] at hts
      obtain⟨b5,off5,a5,c5,ha5,hok5,hb5,hc5,ht5⟩:=hts.at 0 (by simp)
      obtain⟨b6,off6,a6,c6,ha6,hok6,hb6,hc6,ht6⟩:=hts.at 1 (by simp)
      subst ha5
      simp only[Option.some.injEq,Addr.mk.injEq,and_true] at ha6
      obtain⟨rfl,rfl⟩:=ha6
      have hx3:Cells3 wa b5 off5 x a5 c5:=by simpa using hc5
      have hy3:Cells3 wa b5 (off5+3) y a6 c6:=by simpa using hc6
      have p0:=hx3.var;have p1:=hx3.name;have p2:=hx3.args
      have p3:=hy3.var;have p4:=hy3.name;have p5:=hy3.args
      have HT5:Hid (Ts wa (OkS wa br bs bm (.slice ta S.L.length tc) (.slice ca S.ch.length cc) av) x.args a5 c5):=lh (by simpa using ht5)
      have HT6:Hid (Ts wa (OkS wa br bs bm (.slice ta S.L.length tc) (.slice ca S.ch.length cc) av) y.args a6 c6):=lh (by simpa using ht6)
      have hSMW:∀ u,Below wa.heap.size wa u→Calls Try.prog 104 #[.pointer (some ⟨br,0,none⟩),.agg #[.int .i64 x.var,.string x.name,.slice a5 x.args.length c5],.agg #[.int .i64 y.var,.string y.name,.slice a6 y.args.length c6]] u (SmPost wa br bs bm (.slice ta S.L.length tc) (.slice ca S.ch.length cc) av (some ⟨gb,0,none⟩) pa pc p query { S with steps:=S.steps+1,f:=4000 } (meet S.σ S.L 4000 [(x,y)])):=fun u hu =>
       (SameSW (S:={ S with steps:=S.steps+1,f:=4000 }) (HSA.out.below hu) (Nat.le_refl _) HPI.out.sinv (by have:=HPI.out.len;simp only;omega) hx3.fits hy3.fits ((HT5.out.keep (Keeps.below hu _)).mono fun b _ hb=>⟨Nat.lt_of_lt_of_le hb.1 hu.size,hb.2⟩) ((HT6.out.keep (Keeps.below hu _)).mono fun b _ hb=>⟨Nat.lt_of_lt_of_le hb.1 hu.size,hb.2⟩) hfx.wf hfy.wf).mono fun e w' hp=>hp.up hu
      have HMB0:=lh (fun (σ:Sub) (L:List Int)=>meet_undo HPI.out hfx hfy (by have:=HPOT.out;omega) (by omega) (σ:=σ) (L:=L))
      rw[hmo] at hSMW HMB0
      have HSMW:=lh hSMW
      have x2':wa.cell? ⟨b3,2,none⟩=some (.slice (some ⟨b5,off5,none⟩) 2 c1):=by rw[x2,hl2]
      have HFA2:Hid (∀ u,Below wa.heap.size wa u→u.cell? ⟨b3,2,none⟩=some (.slice (some ⟨b5,off5,none⟩) 2 c1)):=lh (fun u hu=>(hu.cell (p:=⟨b3,2,none⟩) lb3).trans x2')
      rw[hl2] at HFA HMW x2
      clear hSMW hx3 hy3 hc5 hc6 ht5 ht6 hts hfx hfy hfa hok5 hok6 hb6 hmo x2' hxy k
      cases mo with
      | ok σ2 L2 f2 =>
       go_wp2_with (go_at_call 86;refine(HMW.out _).mono ?_;rintro e wM ⟨rfl,hbM⟩;have HBM:=lh hbM;obtain⟨j1,j2,j3,j4,j5,j6,j7,j8,j9,j10⟩:=HFA.out _ hbM;have m0:=(hbM.cell (p:=⟨b5,off5,none⟩) hb5).trans p0;have m1:=(hbM.cell (p:=⟨b5,off5+1,none⟩) hb5).trans p1;have m2:=(hbM.cell (p:=⟨b5,off5+2,none⟩) hb5).trans p2;have m3:=(hbM.cell (p:=⟨b5,off5+3,none⟩) hb5).trans p3;have m4:=(hbM.cell (p:=⟨b5,off5+4,none⟩) hb5).trans p4;have m5:=(hbM.cell (p:=⟨b5,off5+5,none⟩) hb5).trans p5;clear hbM)
       go_region_with (go_at_call 104;refine(HSMW.out _ (by with_reducible exact HBM.out.drew)).mono ?_;rintro e wS ⟨htS,tvS,hfS,he,hsS,hiS⟩;subst he;have HTS:=lh htS;have HFS:=lh hfS;have HSS:=lh hsS;have HIS:=lh hiS;have hgS:=(htS.block gb lgb2 HGNM.out).trans HGBA.out;have w4:wS.cell? ⟨gb,4,none⟩=some (.pointer r0):=(by simp[World.cell?,hgS]);obtain⟨v0,v1,v2,v3,v4,v5,v6,v7,v8,vf⟩:=hsS.cells;clear htS hfS hsS hiS hgS)
       all_goals
        go_wp2_with fail
        go_meet
        obtain⟨n1,n2,n3,n4⟩:=HNX.out _ _ _ _ _ _ HSS.out HTS.out HFS.out (Fresh.self _ _)
        exact⟨true,rfl,_,_,_,_,_,n2,n3,n4,n1,fun _=>HPT.out,fun e=>by cases e⟩
      | no σ2 L2 f2 =>
       go_wp2_with (go_at_call 86;refine(HMW.out _).mono ?_;rintro e wM ⟨rfl,hbM⟩;have HBM:=lh hbM;obtain⟨j1,j2,j3,j4,j5,j6,j7,j8,j9,j10⟩:=HFA.out _ hbM;have m0:=(hbM.cell (p:=⟨b5,off5,none⟩) hb5).trans p0;have m1:=(hbM.cell (p:=⟨b5,off5+1,none⟩) hb5).trans p1;have m2:=(hbM.cell (p:=⟨b5,off5+2,none⟩) hb5).trans p2;have m3:=(hbM.cell (p:=⟨b5,off5+3,none⟩) hb5).trans p3;have m4:=(hbM.cell (p:=⟨b5,off5+4,none⟩) hb5).trans p4;have m5:=(hbM.cell (p:=⟨b5,off5+5,none⟩) hb5).trans p5;clear hbM)
       go_region_with (go_at_call 104;refine(HSMW.out _ (by with_reducible exact HBM.out.drew)).mono ?_;rintro e wS ⟨htS,tvS,hfS,he,hsS,hiS⟩;subst he;have HTS:=lh htS;have HFS:=lh hfS;have HSS:=lh hsS;have HIS:=lh hiS;have hgS:=(htS.block gb lgb2 HGNM.out).trans HGBA.out;have w4:wS.cell? ⟨gb,4,none⟩=some (.pointer r0):=(by simp[World.cell?,hgS]);obtain⟨v0,v1,v2,v3,v4,v5,v6,v7,v8,vf⟩:=hsS.cells;clear htS hfS hsS hiS hgS)
       all_goals
        have HMB:=lh (HMB0.out σ2 L2 (.inl ⟨_,rfl⟩) HIS.out)
        have HUW:=lh (UndoW HSS.out.st HMB.out.1 HMB.out.2.1 HMB.out.2.2.1 HMB.out.2.2.2.1)
        go_wp2_with (go_at_call 105;refine HUW.out.mono ?_;rintro e wu ⟨⟨uv,rfl⟩,htu,hsu⟩;have hfu:Fresh wS tvS (cutV tvS S.L.length):=.inl (cutV_own _ _);rw[HMB.out.2.2.2.2.1,HMB.out.2.2.2.2.2] at hsu;have HSU:=lh (HSS.out.store htu hfu hsu);have HTU:=lh (touch_next HTS.out HFS.out (Fresh.self _ _) (Fresh.self _ _) (htu.mono fun b _ e=>.inr (.inl e):Touch (SM br bs bm tvS (.slice ca S.ch.length cc) av) wS wu));have HFU:=lh (HFS.out.trans hfu HTS.out.size);have hgU:=(HTU.out.block gb lgb2 HGNM.out).trans HGBA.out;have w5:wu.cell? ⟨gb,4,none⟩=some (.pointer r0):=(by simp[World.cell?,hgU]);obtain⟨u0,u1,u2,u3,u4,u5,u6,u7,u8,uf⟩:=HSU.out.cells;clear htu hsu hfu hgU)
        go_meet
        obtain⟨n1,n2,n3,n4⟩:=HNX.out _ _ _ _ _ _ HSU.out HTU.out HFU.out (Fresh.self _ _)
        refine⟨false,rfl,_,_,_,_,_,n2,n3,n4,n1,fun e=>?_,fun _ _=>⟨HPT.out,HB1.out f2 S.now.tail,by have:=HPOT.out;simp only;omega,by simp only;omega⟩⟩
        exact absurd H0.out (e.resolve_left (by decide))
      | many σ2 L2 =>
       go_wp2_with (go_at_call 86;refine(HMW.out _).mono ?_;rintro e wM ⟨rfl,hbM⟩;have HBM:=lh hbM;obtain⟨j1,j2,j3,j4,j5,j6,j7,j8,j9,j10⟩:=HFA.out _ hbM;have m0:=(hbM.cell (p:=⟨b5,off5,none⟩) hb5).trans p0;have m1:=(hbM.cell (p:=⟨b5,off5+1,none⟩) hb5).trans p1;have m2:=(hbM.cell (p:=⟨b5,off5+2,none⟩) hb5).trans p2;have m3:=(hbM.cell (p:=⟨b5,off5+3,none⟩) hb5).trans p3;have m4:=(hbM.cell (p:=⟨b5,off5+4,none⟩) hb5).trans p4;have m5:=(hbM.cell (p:=⟨b5,off5+5,none⟩) hb5).trans p5;clear hbM)
       go_region_with (go_at_call 104;refine(HSMW.out _ (by with_reducible exact HBM.out.drew)).mono ?_;rintro e wS ⟨htS,tvS,hfS,he,hsS,hiS⟩;subst he;have HTS:=lh htS;have HFS:=lh hfS;have HSS:=lh hsS;have HIS:=lh hiS;have hgS:=(htS.block gb lgb2 HGNM.out).trans HGBA.out;have w4:wS.cell? ⟨gb,4,none⟩=some (.pointer r0):=(by simp[World.cell?,hgS]);obtain⟨v0,v1,v2,v3,v4,v5,v6,v7,v8,vf⟩:=hsS.cells;clear htS hfS hsS hiS hgS)
       all_goals
        have HMB:=lh (HMB0.out σ2 L2 (.inr rfl) HIS.out)
        have HUW:=lh (UndoW HSS.out.st HMB.out.1 HMB.out.2.1 HMB.out.2.2.1 HMB.out.2.2.2.1)
        go_wp2_with (go_at_call 105;refine HUW.out.mono ?_;rintro e wu ⟨⟨uv,rfl⟩,htu,hsu⟩;have hfu:Fresh wS tvS (cutV tvS S.L.length):=.inl (cutV_own _ _);rw[HMB.out.2.2.2.2.1,HMB.out.2.2.2.2.2] at hsu;have HSU:=lh (HSS.out.store htu hfu hsu);have HTU:=lh (touch_next HTS.out HFS.out (Fresh.self _ _) (Fresh.self _ _) (htu.mono fun b _ e=>.inr (.inl e):Touch (SM br bs bm tvS (.slice ca S.ch.length cc) av) wS wu));have HFU:=lh (HFS.out.trans hfu HTS.out.size);have hgU:=(HTU.out.block gb lgb2 HGNM.out).trans HGBA.out;have w5:wu.cell? ⟨gb,4,none⟩=some (.pointer r0):=(by simp[World.cell?,hgU]);obtain⟨u0,u1,u2,u3,u4,u5,u6,u7,u8,uf⟩:=HSU.out.cells;clear htu hsu hfu hgU)
        go_meet
        obtain⟨n1,n2,n3,n4⟩:=HNX.out _ _ _ _ _ _ HSU.out HTU.out HFU.out (Fresh.self _ _)
        refine⟨false,rfl,_,_,_,_,_,n2,n3,n4,n1,fun e=>HPT.out,fun _ h=>?_⟩
        cases h
     ·exact absurd (HM.out.symm.trans (means_no k.1 k.2.1 k.2.2.1 k.2.2.2)) (by decide)
   ·--BEGIN WRONG
    have hv1:(t.var != 0)=true:=by rw[bne_iff_ne];exact hv
    have HPT:=lh (ptake_wrong (p:=p) HTT.out hv)
    have HSW:=lh (HSA.out.setFin 4)
    have HTW:Hid (Touch (SM br bs bm (.slice ta S.L.length tc) (.slice ca S.ch.length cc) av) wa (wa.setCell ⟨br,7,none⟩ (.int .i64 (4:Nat)))):=lh ((Touch.setCell (M:=fun b=>b=br) _ rfl).mono fun b _ e=>.inl e)
    clear hv
    go_wp2_with fail
    go_meet
    exact⟨true,rfl,_,_,_,_,_,HTA.out.trans HTW.out,Fresh.self _ _,Fresh.self _ _,HSW.out,fun _=>HPT.out,fun e=>by cases e⟩
  case rest =>
   obtain⟨b,rfl,S',tv',cv',np',wk',ht',hf',hg',hs',he1,he2⟩:=hcut
   have HT:=lh ht';have HF:=lh hf';have HG:=lh hg';have HS:=lh hs';have HE1:=lh he1;have HE2:=lh he2
   clear ht' hf' hg' he1 he2 q0 q1 q2 q3 q4 q5 q6 q7 q8 qf s0 s1 s2 sf x0 x1 x2 xf k3 k4
   obtain⟨q0,q1,q2,q3,q4,q5,q6,q7,q8,qf⟩:=hs'.cells
   clear hs'
   cases b with
   | true =>
    go_wp2_with fail
    refine bodyPost_ret (v:=.tuple #[]) (by simp[results,Try.results76,go_sem]) rfl ?_
    rw[HE1.out (.inl (by first | rfl | trivial))]
    exact⟨⟨_,rfl⟩,HT.out,tv',cv',np',wk',HF.out,HG.out,HS.out⟩
   | false =>
    by_cases hfin:S'.fin=0
    ·obtain⟨e1,e2,e3,e4⟩:=HE2.out (by first | rfl | trivial) hfin
     have hq7:((S'.fin:Int) == 0)=true:=by rw[hfin];rfl
     have HBK:=lh (BackW HP.out HSZ.out HS.out e2 hfin e3 e4)
     go_wp2_with (go_at_call 101;refine HBK.out.mono ?_;rintro e wb ⟨⟨vb,rfl⟩,htb,tvb,cvb,npb,wkb,hfb,hgb,hsb⟩;have HTB:=lh htb;have HFB:=lh hfb;have HGB:=lh hgb;have HSB:=lh hsb;clear htb hfb hgb hsb)
     refine bodyPost_ret (v:=.tuple #[]) (by simp[results,Try.results76,go_sem]) rfl ?_
     rw[e1]
     exact⟨⟨_,rfl⟩,touch_next HT.out HF.out HG.out (Fresh.self _ _) HTB.out,tvb,cvb,npb,wkb,HF.out.trans HFB.out HT.out.size,HG.out.trans HGB.out HT.out.size,HSB.out⟩
    ·have hq7:((S'.fin:Int) == 0)=false:=by rw[beq_eq_false_iff_ne];omega
     have HE:=lh (HE1.out (.inr hfin))
     clear hfin
     go_wp2_with fail
     refine bodyPost_ret (v:=.tuple #[]) (by simp[results,Try.results76,go_sem]) rfl ?_
     rw[HE.out]
     exact⟨⟨_,rfl⟩,HT.out,tv',cv',np',wk',HF.out,HG.out,HS.out⟩
def AnPost(w:World)(br bs bm:Nat)(tv cv av:Value)(pa:Option Addr)(pc:Nat)(p:List Cl)(query:Nat)(S':PS)(e:Ending)(w':World):Prop :=
 (∃ v,e=.returned v)∧Touch (SM br bs bm tv cv av) w w'∧∃ (tv' cv' av':Value) (np':Option Addr) (wk':Nat),Fresh w tv tv'∧Fresh w cv cv'∧Fresh w av av'∧SAt w' br bs bm tv' cv' av' np' pa pc p query S' wk'
theorem varsL_succ(n:Nat):varsL (n+1)=varsL n++[VarT ((n:Int)+1)]:=by simp[varsL,List.range_succ]
theorem varsL_take(n m:Nat)(h:n≤m):(varsL m).take n=varsL n:=by
 unfold varsL
 rw[← List.map_take,List.take_range,Nat.min_eq_left h]
theorem Try.infoAn1:(Try.prog.info? 78).map (fun i=>(i.size,i.bytes))=some (1,24):=by kernel_rfl
theorem Try.infoAn2:((Try.prog.info? 78).bind (fun i=>i.zero)).map (fun z=>z.cells.size)=some 1:=by kernel_rfl
theorem infoAn:∃ i z,Try.prog.info? 78=some i∧i.zero=some z∧i.size=1∧i.bytes=24∧z.cells.size=1:=by
 have h1:=Try.infoAn1;have h2:=Try.infoAn2
 obtain⟨i,hi,h3⟩:=Option.map_eq_some_iff.1 h1
 obtain⟨z,hz,h4⟩:=Option.map_eq_some_iff.1 h2
 rw[hi,Option.bind_some] at hz
 simp only[Prod.mk.injEq] at h3
 exact⟨i,z,hi,hz,h3.1,h3.2,h4⟩
theorem make_mapN(w:World):(Instr.makeMap 114 none).run Try.prog w=.ok (.map (some w.heap.size)) (w.alloc (.map #[] 0)):=by kernel_rfl
set_option maxRecDepth 100000 in
set_option maxHeartbeats 4000000 in
theorem AnswerW{p:List Cl}(hp:POk p)(hsz:∀ c,c∈p→c.head.size≤100000∧∀ b,b∈c.body→b.size≤100000){w:World}{br bs bm:Nat}{tv cv av:Value}{np pa:Option Addr}{pc:Nat}{query:Nat}{S:PS}{wk:Nat}(h:SAt w br bs bm tv cv av np pa pc p query S wk)
 (hi:RInv p S) (h0:S.fin=0) (hq:query≤12) :
 Calls Try.prog 75 #[.pointer (some ⟨br,0,none⟩)] w (AnPost w br bs bm tv cv av pa pc p query (pansw p query S)):=by
 obtain⟨hP,hA40⟩:=hi.core h0
 have hpot:=hi.pot
 have hst:=hi.steps
 obtain⟨q0,q1,q2,q3,q4,q5,q6,q7,q8,qf⟩:=h.cells
 have H:=lh h;have HP:=lh hp;have HSZ:=lh hsz;have HPI:=lh hP;have HPOT:=lh hpot;have H0:=lh h0;have HST:=lh hst;have H40:=lh hA40
 have hmk:=make_mapN w
 clear h hp hsz hi h0 hP hpot hst hA40
 go_enter Try.func75,Try.ntmps75
 go_wp2_with fail
 -- LOOP
 have hW1:Below w.heap.size w (((w.alloc (.map #[] 0)).alloc (.cells #[.map (some w.heap.size)] 114)).alloc (.cells #[.int .i64 200] 3)):=(((Below.refl _ _).alloc (Nat.le_refl _) _).alloc (by simp) _).alloc (by simp;omega) _
 have hszb:(((w.alloc (.map #[] 0)).alloc (.cells #[.map (some w.heap.size)] 114)).alloc (.cells #[.int .i64 200] 3)).heap.size=w.heap.size+3:=by simp
 have hNB:NmI (w.heap.size+1) w.heap.size (((w.alloc (.map #[] 0)).alloc (.cells #[.map (some w.heap.size)] 114)).alloc (.cells #[.int .i64 200] 3)) []:=by
  refine⟨?_,?_,by omega⟩
  ·rw[Below.heap_alloc _ _ _ (by simp)]
   have:=heap_alloc_new (w.alloc (.map #[] 0)) (.cells #[.map (some w.heap.size)] 114)
   simpa using this
  ·have h1:=IMap.made (P:=Try.prog) (kt:=3) w
   have e:nameG []=fun _=>none:=by funext x;simp[nameG]
   rw[e]
   exact h1.kept ((Below.heap_alloc _ _ _ (by simp;omega)).trans (Below.heap_alloc _ _ _ (by simp)))
 have hBL:(((w.alloc (.map #[] 0)).alloc (.cells #[.map (some w.heap.size)] 114)).alloc (.cells #[.int .i64 200] 3)).heap[w.heap.size+2]? = some (.cells #[.int .i64 200] 3 (0,0)):=by
  have:=heap_alloc_new ((w.alloc (.map #[] 0)).alloc (.cells #[.map (some w.heap.size)] 114)) (.cells #[.int .i64 200] 3)
  simpa using this
 have HW1:=lh hW1;have HNB:=lh hNB;have HBL:=lh hBL;have HSZB:=lh hszb
 clear hW1 hNB hBL hszb q0 q1 q2 q3 q4 q5 q6 q7 q8 qf hmk
 generalize (((w.alloc (.map #[] 0)).alloc (.cells #[.map (some w.heap.size)] 114)).alloc (.cells #[.int .i64 200] 3))=wb at *
 obtain⟨M,hM⟩:∃ M:Nat→Prop,M=fun b=>b=w.heap.size+1∨b=w.heap.size∨b=w.heap.size+2:=⟨_,rfl⟩
 have HMM:Hid (∀ b,M b↔(b=w.heap.size+1∨b=w.heap.size∨b=w.heap.size+2)):=lh (fun b=>by rw[hM])
 have HMlt:Hid (∀ b,M b→b<wb.heap.size∧w.heap.size≤b):=lh (fun b hb=>by have:=(HMM.out b).1 hb;have:=HSZB.out;omega)
 clear hM
 go_loopw[4,5] (fun y4 y5 wr=>∃ (n:Nat) (L:List TmAt) (Ls:List Tm) (r:Nat) (s':List Int),n≤query∧y5=.int .i64 ((n:Int)+1)∧Hid (thrL S.σ 200 (varsL n)=some (Ls,r))∧Hid (L.map (·.1)=(Tm.rens numV [] Ls).1∧s'=(Tm.rens numV [] Ls).2)∧Hid (OwnTs wr wb.heap.size (OkN (OkS w br bs bm tv cv av) wb) y4 L)∧Hid (NmI (w.heap.size+1) w.heap.size wr s')∧Hid (wr.heap[w.heap.size+2]? = some (.cells #[.int .i64 r] 3 (0,0)))∧Hid (Touch M wb wr)) (fun _ y5 _=>13-(intOf y5).toNat)
 case atStart=>exact⟨0,[],[],200,[],Nat.zero_le _,rfl,lh (by simp[varsL,thrL_nil]),lh ⟨rfl,rfl⟩,lh (OwnTs.nil _ _ _),HNB,HBL,lh (Touch.refl _ _)⟩
 case round =>
  obtain⟨n,L,Ls,r,s',hn,rfl,HTH,HLL,HOW,HNM,HBR,HTR⟩:=hrel
  obtain⟨xa,xc,rfl⟩:=HOW.out.form
  have HBE:Hid (Below w.heap.size w wr):=lh (HW1.out.trans (HTR.out.toBelow HW1.out.size fun b hb=>(HMlt.out b hb).2))
  have HSR:=lh (H.out.below HBE.out)
  obtain⟨q0,q1,q2,q3,q4,q5,q6,q7,q8,qf⟩:=HSR.out.cells
  have HLl:Hid (L.length=n∧n+r≤200∧s'.length+r≤200):=lh (by
   have h1:=(thrL_le _ _ _ HTH.out).2
   have h2:=thrL_room _ _ _ HTH.out
   have h3:=congrArg List.length HLL.out.1
   have h5:=thrL_sizeN _ _ _ HTH.out
   have h6:=rensN_len Ls []
   rw[← HLL.out.2] at h6
   rw[List.length_map,Tm.rens_length] at h3
   have h7:(varsL n).length=n:=by simp[varsL]
   rw[h7] at h1 h2
   simp only[List.length_nil] at h1 h2 h5 h6;omega)
  have hszr:wb.heap.size≤wr.heap.size:=HTR.out.size
  by_cases hlt:n<query
  ·have hlt1:(n:Int)+1≤(query:Int):=by omega
   have hn0:(0:Int)≤(n:Int):=by omega
   have hn12:(n:Int)≤12:=by omega
   have HCL:Hid (Calls Try.prog 99 #[.pointer (some ⟨bs,0,none⟩),.agg #[.int .i64 ((n:Int)+1),.string ⟨#[]⟩,.slice none 0 0],.pointer (some ⟨w.heap.size+2,0,none⟩),.func (.func 100) #[] #[.pointer (some ⟨w.heap.size+1,0,none⟩)]] wr
    (ThrPost wr (OkS w br bs bm tv cv av) (w.heap.size+2) (fun b=>b=w.heap.size+1∨b=w.heap.size) numV (NmI (w.heap.size+1) w.heap.size) s' (thrL S.σ r [VarT ((n:Int)+1)]))):=lh (by
    have hnM:∀ b,w.heap.size≤b→¬ StM bs bm tv b∧¬ OkS w br bs bm tv cv av b:=fun b hb=>⟨fun e=>by have:=SM_lt H.out (.inr (.inl e));omega,fun e=>by have:=e.1;omega⟩
    exact ThroughNW (Inv:=NmI (w.heap.size+1) w.heap.size) (Md:=fun b=>b=w.heap.size+1∨b=w.heap.size) nameW (fun w w' s=>NmI.keep w w' s) HPI.out.sinv.rank.ends r s' (VarT ((n:Int)+1)) none 0 wr (by have:=HLl.out;omega) (H.out.st.keep HBE.out) HNM.out HBR.out (hnM _ (by omega)) (fun b hb=>⟨by have:=HSZB.out;omega,(hnM b (by omega)).1,(hnM b (by omega)).2,by omega⟩) ⟨(by show I64 ((n:Int)+1);unfold I64;omega),Nat.zero_le _⟩ (Ts.empty' _ _))
   have HSP:Hid (thrL S.σ 200 (varsL (n+1))=(thrL S.σ r [VarT ((n:Int)+1)]).map fun z=>(Ls++z.1,z.2)):=lh (by rw[varsL_succ,thrL_append,HTH.out];rfl)
   have HSQ:Hid (thrL S.σ r [VarT ((n:Int)+1)]=none→thrL S.σ 200 (varsL query)=none):=lh (fun hn=>by
    rw[← List.take_append_drop (n+1) (varsL query),varsL_take _ _ (by omega),thrL_append,HSP.out,hn];rfl)
   have HMT:Hid (∀ b,ThrM (w.heap.size+2) (fun b=>b=w.heap.size+1∨b=w.heap.size) b→M b):=lh (fun b hb=>(HMM.out b).2 (by
    rcases hb with e | e | e
    ·exact .inr (.inr e)
    ·exact .inl e
    ·exact .inr (.inl e)))
   generalize thrL S.σ r [VarT ((n:Int)+1)]=o at *
   cases o with
   | none =>
    have HQ:=lh (HSQ.out rfl)
    clear HSQ HSP
    go_wp2_with (go_at_call 99;refine HCL.out.mono ?_;rintro e w3 ⟨ht3,rfl,-⟩;have HT3:=lh (ht3.mono fun b _ hb=>HMT.out b hb:Touch M wr w3);have HB3:=lh (HBE.out.trans ((ht3.mono fun b _ hb=>HMT.out b hb:Touch M wr w3).toBelow HBE.out.size fun b hb=>(HMlt.out b hb).2));obtain⟨r0,r1,r2,r3,r4,r5,r6,r7,r8,rf⟩:=(H.out.below HB3.out).cells;have lbr3:=(H.out.below HB3.out).lt;clear ht3)
    refine bodyPost_ret (v:=.tuple #[]) (by simp[results,Try.results75,go_sem]) rfl ?_
    have hs4:=((H.out.below HB3.out).setFin 3).below ((Below.refl _ _).alloc (Nat.le_refl _) (.cells #[.int .i64 0,.string ⟨#[]⟩,.slice none 0 0] 71))
    have ht4:Touch (SM br bs bm tv cv av) w3 (w3.setCell ⟨br,7,none⟩ (.int .i64 3)):=(Touch.setCell (M:=fun b=>b=br) _ rfl).mono fun b _ e=>.inl e
    have he:pansw p query S = { S with fin:=3 }:=by simp only[pansw];rw[HQ.out]
    rw[he]
    exact⟨⟨_,rfl⟩,((Touch.below HB3.out).trans ht4).trans (Touch.below ((Below.refl _ _).alloc (Nat.le_refl _) _)),tv,cv,av,np,wk,Fresh.self _ _,Fresh.self _ _,Fresh.self _ _,hs4⟩
   | some z =>
    obtain⟨u1,u2⟩:=z
    have HNT:Hid (thrL S.σ 200 (varsL (n+1))=some (Ls++u1,u2)):=lh HSP.out
    clear HSQ HSP
    obtain⟨i0,hi0,hz0',hz1',hz2'⟩:=info_parts Try.infoTm
    have hqb:L.length≤1000:=by have:=HLl.out;omega
    go_wp2_with (first
     | (go_at_call 99;refine HCL.out.mono ?_;rintro e w3 ⟨ht3,T,a3,c3,hTT,rfl,hf3,hts3,hi3,hb3⟩;have HT3:=lh (ht3.mono fun b _ hb=>HMT.out b hb:Touch M wr w3);have HB3:=lh (HBE.out.trans ((ht3.mono fun b _ hb=>HMT.out b hb:Touch M wr w3).toBelow HBE.out.size fun b hb=>(HMlt.out b hb).2));have HO1:=lh (((ownsRow_block HOW.out.own (fun gg hg=>ht3.block gg (HOW.out.block hg).2 (fun e=>by have:=(HMlt.out _ (HMT.out _ e)).1;have:=(HOW.out.block hg).1;omega))).alloc (.cells #[.int .i64 T.var,.string T.name,.slice a3 T.args.length c3] 71)).alloc (.cells #[.int .i64 T.var,.string T.name,.slice a3 T.args.length c3] 71));have HF3:=lh hf3;have HTS3:=lh hts3;have HI3:=lh hi3;have HB9:=lh hb3;have HTT:=lh hTT;have hsz3:wr.heap.size≤w3.heap.size:=ht3.size;clear ht3 hf3 hts3 hi3 hb3 hTT)
     | (at_builtin;have _g:=HO1;(refine wpList_append_opt _ rfl _ _ 78 rfl wb.heap.size 71 i0 _ 3 48 Try.underlying78 hi0 hz0' hz1' hz2' rfl (by decide) _ _ _ rfl HO1.out (some ⟨w3.heap.size+1,0,none⟩) 1 1 ?d0 (flat [(T,a3,c3)]) rfl (by rw[flat_length];rfl) ?d1 (flat_one _) ?d2 ?d3 ?d4 ?_)))
    any_goals (first | (intro h;cases h;done) | exact news3 _ T a3 c3 (by simp) | (unfold maxLen;omega) | omega | (simp only[aSz];omega))
    intro v4 w4 hown4 hgrow4 hfr4
    have BX4:Below w3.heap.size w3 ((w3.alloc (.cells #[.int .i64 T.var,.string T.name,.slice a3 T.args.length c3] 71)).alloc (.cells #[.int .i64 T.var,.string T.name,.slice a3 T.args.length c3] 71)):=((Below.refl _ _).alloc (Nat.le_refl _) _).alloc (by simp only[aSz];omega) _
    have HNX:=lh (HOW.out.moreM HTR.out (fun b hb=>⟨by have:=hb.1;have:=HSZB.out;omega,fun e=>by have:=(HMlt.out b e).2;have:=hb.1;omega⟩) (fun b hb=>(HMlt.out b hb).1) (Nat.le_refl _) HT3.out HF3.out HTS3.out BX4 hown4 hgrow4 hfr4)
    have HKM:Hid (∀ b,M b→w4.heap[b]? = w3.heap[b]?):=lh (fun b hb=>by
     have h1:=(HMlt.out b hb).1
     rw[hgrow4.block b (by have:=BX4.size;omega) (fun e=>by have:=(HOW.out.block (g:=b) e.symm).1;omega),BX4.block b (by omega)])
    have HS4:Hid (w3.heap.size≤w4.heap.size):=lh (Nat.le_trans BX4.size hgrow4.size)
    clear hown4 hgrow4 hfr4 BX4
    go_wp2_with fail
    go_roundw
    case measure=>simp[intOf];omega
    case rel =>
     exact⟨n+1,L++[(T,a3,c3)],Ls++u1,u2,(Tm.rens numV s' u1).2,by omega,by go_num,HNT,lh ⟨by rw[List.map_append,Tm.rens_append,HLL.out.1,← HLL.out.2,HTT.out];rfl,by rw[Tm.rens_append,← HLL.out.2]⟩,lh HNX.out.1,
      lh (NmI.keep _ _ _ HI3.out (fun b hb=>HKM.out b ((HMM.out b).2 (by rcases hb with e | e;exact .inl e;exact .inr (.inl e)))) HS4.out),lh ((HKM.out _ ((HMM.out _).2 (.inr (.inr rfl)))).trans HB9.out),lh HNX.out.2⟩
  ·-- TELL
   have HTA:Hid (thrL S.σ 200 (varsL query)=some (Ls,r)):=lh (by
    have:=HTH.out
    rwa [show n=query by omega] at this)
   have hex:∃ l a c,Value.slice xa L.length xc=.slice a l.length c∧l=(Tm.rens numV [] Ls).1∧Ts wr (OkS wr br bs bm tv cv av) l a c:=by
    obtain⟨a,c,e1,e2⟩:=HOW.out.ret (w:=wb) (Nat.le_refl _)
    refine⟨L.map (·.1),a,c,e1,HLL.out.1,e2.mono fun b hb hk=>⟨hb,fun e=>?_⟩⟩
    rcases hk with hk | hk
    ·exact hk.2 e
    ·have:=SM_lt H.out e;have:=HSZB.out;omega
   obtain⟨l,la,lc,hle,hll,hlt2⟩:=hex
   have HLT:=lh hlt2
   rw[hle]
   obtain⟨A,hA,hrow,hAt⟩:=HSR.out.ans
   obtain⟨aa,ac,hav,hac,hacm⟩:=row_cap hrow
   have hAl:A.length=S.ans.length:=by rw[← hA,List.length_map]
   rw[hAl] at hav hac
   have HA:=lh hA;have HROW:=lh hrow;have HAT:=lh hAt;have HAL:=lh hAl
   subst hav
   have hA4:A.length≤40:=by have:=H40.out;omega
   have hown:=lh (HROW.out.alloc (.cells #[.slice la l.length lc] 78))
   obtain⟨i0,zc,hi0,hz0,hz1,hz2,hz3⟩:=infoAn
   have HPA:Hid (∀ S',S' = { S with ans:=S.ans++[l] }→(S.ans.length+1=40→pansw p query S = { S' with fin:=1 })∧(S.ans.length+1≠40→pansw p query S=pback p S'.ch.length S')):=lh (fun S' hS'=>by
    subst hS'
    constructor
    ·intro h;simp only[pansw];rw[HTA.out];simp only;rw[if_pos h,← hll]
    ·intro h;simp only[pansw];rw[HTA.out];simp only;rw[if_neg h,← hll])
   have hge:(query:Int)<(n:Int)+1:=by omega
   clear hA hrow hAt hac hle hAl hlt2 hlt hll
   go_wp2_with (at_builtin;(refine wpList_append_fresh _ rfl _ _ 28 rfl 0 78 i0 zc 1 24 Try.underlying28 hi0 hz0 hz1 hz2 hz3 (by decide) _ _ _ rfl hown.out ⟨wr.heap.size,0,none⟩ 1 1 [.slice la l.length lc] rfl rfl ?c1 ?c2 ?c3 ?c4 ?c5 ?_))
   any_goals (first | exact one_cell _ _ _ | (intro u hu;simp only[List.mem_singleton] at hu;subst hu;rfl) | rfl | (unfold maxLen;omega) | omega)
   intro av' X3 hown3 hg3 hfr3
   obtain⟨g3,cap3,rfl⟩:=own_shape hown3 (by omega)
   have hp:=HSR.out.tell HA.out HAT.out HLT.out hown3 hg3 hfr3
   have HPL:=lh hp
   have hbk:X3.heap[br]? = wr.heap[br]?:=(hg3.block br (by have:=HSR.out.lt;simp;omega) (fun e=>HSR.out.sep.ra e.symm)).trans (Below.heap_alloc _ _ _ HSR.out.lt)
   have y6:X3.cell? ⟨br,6,none⟩=some (.slice aa S.ans.length ac):=by simp[World.cell?,hbk,HSR.out.blk]
   have yf:∀ o,X3.frozen? ⟨br,o,none⟩=false:=fun o=>by simp[World.frozen?,hbk,HSR.out.blk]
   obtain⟨y0,y1,y2,y3,y4,y5,yy6,y7,y8,yyf⟩:=hp.1.cells
   clear hp hown3 hg3 hfr3 hown hbk yy6 yyf
   have HTW:Hid (Touch (SM br bs bm tv cv (.slice aa S.ans.length ac)) w (X3.setCell ⟨br,6,none⟩ (.slice (some ⟨g3,0,none⟩) (A.length+1) cap3))∧Fresh w (.slice aa S.ans.length ac) (.slice (some ⟨g3,0,none⟩) (A.length+1) cap3)):=lh ⟨(Touch.below HBE.out).trans HPL.out.2.1,HPL.out.2.2.old HBE.out.size⟩
   by_cases h40:S.ans.length+1=40
   ·have hx1:((A.length:Int)+1 == 40)=true:=by rw[beq_iff_eq];have:=HAL.out;omega
    have hx2:(((A.length+1:Nat):Int) == 40)=true:=by rw[beq_iff_eq];have:=HAL.out;omega
    have HE:=lh ((HPA.out _ rfl).1 h40)
    clear h40
    go_wp2_with fail
    refine bodyPost_ret (v:=.tuple #[]) (by simp[results,Try.results75,go_sem]) rfl ?_
    rw[HE.out]
    exact⟨⟨_,rfl⟩,HTW.out.1.trans ((Touch.setCell (M:=fun b=>b=br) _ rfl).mono fun b _ e=>.inl e),tv,cv,_,np,wk,Fresh.self _ _,Fresh.self _ _,HTW.out.2,HPL.out.1.setFin 1⟩
   ·have hx1:((A.length:Int)+1 == 40)=false:=by rw[beq_eq_false_iff_ne];have:=HAL.out;omega
    have hx2:(((A.length+1:Nat):Int) == 40)=false:=by rw[beq_eq_false_iff_ne];have:=HAL.out;omega
    have HE:=lh ((HPA.out _ rfl).2 h40)
    clear h40
    have HBK:=lh (BackW HP.out HSZ.out HPL.out.1 (⟨HPI.out.sinv,HPI.out.dom,HPI.out.trail,HPI.out.snap,HPI.out.mono,HPI.out.len,HPI.out.base⟩:BInv p { S with ans:=S.ans++[l] }) H0.out (by have:=HPOT.out;simp only;omega) HST.out)
    go_wp2_with (go_at_call 101;refine HBK.out.mono ?_;rintro e wk2 ⟨⟨vb,rfl⟩,htb,tvb,cvb,npb,wkb,hfb,hgb,hsb⟩;have HTB:=lh htb;have HFB:=lh hfb;have HGB:=lh hgb;have HSB:=lh hsb;clear htb hfb hgb hsb)
    refine bodyPost_ret (v:=.tuple #[]) (by simp[results,Try.results75,go_sem]) rfl ?_
    rw[HE.out]
    exact⟨⟨_,rfl⟩,touch_next HTW.out.1 (Fresh.self _ _) (Fresh.self _ _) HTW.out.2 HTB.out,tvb,cvb,_,npb,wkb,HFB.out.old HTW.out.1.size,HGB.out.old HTW.out.1.size,HTW.out.2,HSB.out⟩
theorem GAt.nil_iff{w:World}{ok:Nat→Prop}{np:Option Addr}{l:List Goal}(h:GAt w ok np l):(l = []∧np=none)∨(l≠[]∧∃ b,np=some ⟨b,0,none⟩):=by
 cases h with
 | nil=>exact .inl ⟨rfl,rfl⟩
 | cons b t cut a c r l h1 h2 h3 h4 h5=>exact .inr ⟨by simp,b,rfl⟩
set_option maxRecDepth 100000 in
set_option maxHeartbeats 4000000 in
theorem RunW{p:List Cl}(hp:POk p)(hsz:∀ c,c∈p→c.head.size≤100000∧∀ b,b∈c.body→b.size≤100000)(h30:p.length≤30){w:World}{br bs bm:Nat}{tv cv av:Value}{np pa:Option Addr}{pc:Nat}{query:Nat}(hq:query≤12){S:PS}{wk:Nat}(h:SAt w br bs bm tv cv av np pa pc p query S wk)
 (hi:RInv p S) {most:Nat} (hm:most≤400) (hst:S.steps≤most) {n:Nat} (hn:S.fin=0→(most-S.steps)+(40-S.ans.length)<n) :
 Calls Try.prog 49 #[.pointer (some ⟨br,0,none⟩),.int .i64 most] w (AnPost w br bs bm tv cv av pa pc p query (prun p query most n S)):=by
 have H:=lh h;have HP:=lh hp;have HSZ:=lh hsz;have HI:=lh hi;have H30:=lh h30;have HQ:=lh hq;have HM:=lh hm;have HST:=lh hst;have HN:=lh hn
 clear h hp hsz hi h30 hq hm hst hn
 go_enter Try.func49,Try.ntmps49
 go_wp2_with fail
 go_loopg [] n (fun k wr=>∃ (S':PS) (tvj cvj avj:Value) (npj:Option Addr) (wkj:Nat),Hid (SAt wr br bs bm tvj cvj avj npj pa pc p query S' wkj)∧Hid (Touch (SM br bs bm tv cv av) w wr)∧Hid (Fresh w tv tvj∧Fresh w cv cvj∧Fresh w av avj)∧Hid (RInv p S')∧Hid (S'.steps≤most)∧Hid (prun p query most k S'=prun p query most n S)∧Hid (S'.fin=0→(most-S'.steps)+(40-S'.ans.length)<k))
 case atStart=>exact⟨S,tv,cv,av,np,wk,H,lh (Touch.refl _ _),lh ⟨Fresh.self _ _,Fresh.self _ _,Fresh.self _ _⟩,HI,HST,lh rfl,HN⟩
 case round =>
  obtain⟨S',tvj,cvj,avj,npj,wkj,HSJ,HTJ,HFJ,HIJ,HSTJ,HEJ,HNJ⟩:=hrel
  obtain⟨q0,q1,q2,q3,q4,q5,q6,q7,q8,qf⟩:=HSJ.out.cells
  by_cases hfin:S'.fin=0
  ·have HFIN:=lh hfin
   have hq7:((S'.fin:Int) == 0)=true:=by rw[hfin];rfl
   obtain⟨k,hk⟩:∃ k,gk=k+1:=⟨gk-1,by have:=HNJ.out hfin;omega⟩
   have HGK:=lh hk
   clear hk
   have HE1:Hid (prun p query most k (pstep p query most S')=prun p query most n S):=lh (by
    have h1:=HEJ.out
    rw[HGK.out] at h1
    have h2:prun p query most (k+1) S'=prun p query most k (pstep p query most S'):=by conv=>lhs;unfold prun;rw[if_pos HFIN.out]
    exact h2.symm.trans h1)
   have hinv:=step_inv HP.out H30.out query HM.out HIJ.out hfin HSTJ.out
   have HV:Hid (RInv p (pstep p query most S')∧(pstep p query most S').steps≤most∧((pstep p query most S').fin=0→(most-(pstep p query most S').steps)+(40-(pstep p query most S').ans.length)<k)):=lh ⟨hinv.1,hinv.2.1,fun e=>by have h1:=hinv.2.2 e;have h2:=HNJ.out HFIN.out;rw[HGK.out] at h2;omega⟩
   clear hinv hfin
   have HKM:Hid (k<gk):=lh (by rw[HGK.out];omega)
   rcases HSJ.out.now.nil_iff with ⟨hnow,rfl⟩ | ⟨hnow,gb,rfl⟩
   ·have HPS:Hid (pstep p query most S'=pansw p query S'):=lh (by unfold pstep;rw[if_pos hnow])
    rw[HPS.out] at HE1 HV
    clear hnow
    have HAN:=lh (AnswerW HP.out HSZ.out HSJ.out HIJ.out HFIN.out HQ.out)
    go_wp2_with (go_at_call 75;refine HAN.out.mono ?_;rintro e wb ⟨⟨vb,rfl⟩,htb,tvb,cvb,avb,npb,wkb,hfb,hgb,hab,hsb⟩;have HTB:=lh htb;have HFB:=lh hfb;have HGB:=lh hgb;have HAB:=lh hab;have HSB:=lh hsb;clear htb hfb hgb hab hsb)
    go_roundg k
    case measure=>exact HKM.out
    case rel=>exact⟨_,tvb,cvb,avb,npb,wkb,HSB,lh (touch_next HTJ.out HFJ.out.1 HFJ.out.2.1 HFJ.out.2.2 HTB.out),lh ⟨HFJ.out.1.trans HFB.out HTJ.out.size,HFJ.out.2.1.trans HGB.out HTJ.out.size,HFJ.out.2.2.trans HAB.out HTJ.out.size⟩,lh HV.out.1,lh HV.out.2.1,HE1,lh HV.out.2.2⟩
   ·by_cases hms:S'.steps=most
    ·have HPS:Hid (pstep p query most S' = { S' with fin:=2 }):=lh (by unfold pstep;rw[if_neg hnow,if_pos (by omega)])
     rw[HPS.out] at HE1 HV
     have hq8:((S'.steps:Int) == (most:Int))=true:=by rw[beq_iff_eq];omega
     clear hnow hms
     go_wp2_with fail
     go_roundg k
     case measure=>exact HKM.out
     case rel=>exact⟨_,tvj,cvj,avj,_,wkj,lh (HSJ.out.setFin 2),lh (touch_next HTJ.out HFJ.out.1 HFJ.out.2.1 HFJ.out.2.2 ((Touch.setCell (M:=fun b=>b=br) _ rfl).mono fun b _ e=>.inl e)),HFJ,lh HV.out.1,lh HV.out.2.1,HE1,lh HV.out.2.2⟩
    ·have HPS:Hid (pstep p query most S'=ptake p S'):=lh (by unfold pstep;rw[if_neg hnow,if_neg (by omega)])
     rw[HPS.out] at HE1 HV
     have hq8:((S'.steps:Int) == (most:Int))=false:=by rw[beq_eq_false_iff_ne];omega
     have HTW:=lh (TakeW HP.out HSZ.out HSJ.out HIJ.out H30.out HFIN.out hnow (by have:=HSTJ.out;have:=HM.out;omega))
     clear hnow hms
     go_wp2_with (go_at_call 76;refine HTW.out.mono ?_;rintro e wb ⟨⟨vb,rfl⟩,htb,tvb,cvb,npb,wkb,hfb,hgb,hsb⟩;have HTB:=lh htb;have HFB:=lh hfb;have HGB:=lh hgb;have HSB:=lh hsb;clear htb hfb hgb hsb)
     go_roundg k
     case measure=>exact HKM.out
     case rel=>exact⟨_,tvb,cvb,avj,npb,wkb,HSB,lh (touch_next HTJ.out HFJ.out.1 HFJ.out.2.1 HFJ.out.2.2 HTB.out),lh ⟨HFJ.out.1.trans HFB.out HTJ.out.size,HFJ.out.2.1.trans HGB.out HTJ.out.size,HFJ.out.2.2⟩,lh HV.out.1,lh HV.out.2.1,HE1,lh HV.out.2.2⟩
  ·have hq7:((S'.fin:Int) == 0)=false:=by rw[beq_eq_false_iff_ne];omega
   have HE1:Hid (prun p query most n S=S'):=lh (by rw[← HEJ.out];exact prun_end gk hfin)
   clear hfin
   go_wp2_with fail
   refine bodyPost_ret (v:=.tuple #[]) (by simp[results,Try.results49,go_sem]) rfl ?_
   rw[HE1.out]
   exact⟨⟨_,rfl⟩,HTJ.out,tvj,cvj,avj,npj,wkj,HFJ.out.1,HFJ.out.2.1,HFJ.out.2.2,HSJ.out⟩
end Go.Proofs.Ytikmgiapjigghab
