/- Walk: the searcher's call. -/
import Derived.StillTailTactics
import Derived.Test.YtikmgiapjigghabCb16
namespace Go.Proofs.Ytikmgiapjigghab
open Go.RowKit
set_option maxRecDepth 100000 in
set_option maxHeartbeats 40000000 in
theorem CallW{p:List Cl}(hp:POk p)(hsz:∀ c,c∈p→c.head.size≤100000∧∀ b,b∈c.body→b.size≤100000){w:World}{br bs bm:Nat}{tv cv av:Value}{np pa:Option Addr}{pc:Nat}{query:Nat}{S:PS}(h:SAt w br bs bm tv cv av np pa pc p query S (4000-S.f))
 {gp:Option Addr} {gs:List Goal} (hg:GAt w (OkS w br bs bm tv cv av) gp gs) {t:Tm} (hlk:look S.σ (headT gs)=t) (hci:CInv p gs t S) (h0:S.fin=0) {i:Nat} (hi:i≤p.length) (hpot:S.vars+12*potC p.length S.ch+12*(p.length-i)≤1000000) (hst:S.steps≤400) :
 Calls Try.prog 103 #[.pointer (some ⟨br,0,none⟩),.pointer gp,.int .i64 i] w (ClPost w br bs bm tv cv av pa pc p query (pcall p gs t i S)):=by
 obtain⟨g0,rest,rfl⟩:∃ g0 rest,gs=g0::rest:=by
  cases gs with
  | nil=>exact absurd rfl hci.gs.1
  | cons a r=>exact⟨a,r,rfl⟩
 obtain⟨ta,tc,htv,hLl⟩:=row_form h.st.trail
 subst htv
 obtain⟨Q,hQ,hQr,hQg⟩:=h.ch
 obtain⟨ca,cc,hcv,hCl⟩:=row_form hQr
 have hQl:Q.length=S.ch.length:=by rw[← hQ,List.length_map]
 rw[hQl] at hcv hCl
 subst hcv
 cases hg with
 | cons gb t0 cut a0 c0 r0 _ hgb hgok hgf hgt hgr =>
 obtain⟨q0,q1,q2,q3,q4,q5,q6,q7,q8,qf⟩:=h.cells
 obtain⟨s0,s1,s2,sf⟩:=h.st.cells
 have k0:w.cell? ⟨gb,0,none⟩=some (.int .i64 t0.var):=by simp[World.cell?,hgb]
 have k1:w.cell? ⟨gb,1,none⟩=some (.string t0.name):=by simp[World.cell?,hgb]
 have k2:w.cell? ⟨gb,2,none⟩=some (.slice a0 t0.args.length c0):=by simp[World.cell?,hgb]
 have H:=lh h;have HP:=lh hp;have HSZ:=lh hsz;have HGB:=lh hgb;have HGOK:=lh hgok;have HGF:=lh hgf;have HGT:=lh hgt;have HGR:=lh hgr;have HCI:=lh hci;have HPOT:=lh hpot;have H0:=lh h0;have HST:=lh hst
 obtain⟨ln,hln⟩:=look_spec hci.sinv.rank.ends t0
 have hlk':look S.σ t0=t:=hlk
 rw[hlk'] at hln
 have HLN:=lh hln
 have HLW:Hid (∀ u,Below w.heap.size w u→Calls Try.prog 102 #[.pointer (some ⟨bs,0,none⟩),.agg #[.int .i64 t0.var,.string t0.name,.slice a0 t0.args.length c0]] u (fun e w'=>∃ a1 c1,e=.returned (.agg #[.int .i64 t.var,.string t.name,.slice a1 t.args.length c1])∧t.fits∧Ts w' (OkS w br bs bm (.slice ta S.L.length tc) (.slice ca S.ch.length cc) av) t.args a1 c1∧Below w.heap.size w w'∧∀ b x0 x1 x2,Box3 u b x0 x1 x2→Box3 w' b x0 x1 x2)):=lh (fun u hu=>by
  refine(LookW (H.out.st.keep hu) HLN.out HGF.out (HGT.out.keep (Keeps.below hu _))).mono ?_
  rintro e w' ⟨a1,c1,he,hf,hts,hb⟩
  exact⟨a1,c1,he,hf,hts,hu.trans (hb.mono hu.size),fun b x0 x1 x2 hx=>hx.below hb⟩)
 have lgb:gb<w.heap.size:=(Array.getElem?_eq_some_iff.1 hgb).1
 have lbr:=h.lt
 have lbs:=h.st.lt
 have hpl:p.length≤9223372036854775807:=by have:=h.prog.room;unfold maxLen at this;omega
 clear h hp hsz hgb hgok hgf hgt hgr hci hpot h0 hlk hlk' hln hQ hQr hQg hQl hst
 go_enter Try.func103,Try.ntmps103
 go_upto_region 1 with fail
 go_cut[7] (fun v7 wx=>∃ b7 a1 c1,v7=.pointer (some ⟨b7,0,none⟩)∧w.heap.size≤b7∧Box3 wx b7 (.int .i64 t.var) (.string t.name) (.slice a1 t.args.length c1)∧Below w.heap.size w wx∧t.fits∧Ts wx (OkS w br bs bm (.slice ta S.L.length tc) (.slice ca S.ch.length cc) av) t.args a1 c1)
 case first =>
  try clear H0;try clear HB1;try clear HB2;try clear HB3;try clear HBK;try clear HBM;try clear HBN;try clear HBQ;try clear HBX;try clear HCB;try clear HCBC;try clear HCBD;try clear HCBE;try clear HCE;try clear HCI;try clear HCJ;try clear HCN;try clear HDN;try clear HF1;try clear HF7;try clear HFA;try clear HFC;try clear HFJ;try clear HFM;try clear HFN;try clear HFP;try clear HFR;try clear HFU;try clear HG0;try clear HGB;try clear HGB';try clear HGF;try clear HGK;try clear HGO';try clear HGOK;try clear HGR;try clear HGRE;try clear HGT;try clear HGT';try clear HGX;try clear HHF;try clear HII;try clear HKB;try clear HLN;try clear HLNX;try clear HLT;try clear HML;try clear HMO;try clear HMV;try clear HN2;try clear HN7;try clear HNF;try clear HNN;try clear HNX;try clear HNY;try clear HOD;try clear HOE;try clear HOF;try clear HOK;try clear HOKZ;try clear HOX;try clear HP;try clear HPC;try clear HPJ;try clear HPOT;try clear HPR;try clear HPS;try clear HQ;try clear HQ1;try clear HQ2;try clear HQ3;try clear HQL;try clear HQL2;try clear HSC;try clear HSD;try clear HSE;try clear HSF;try clear HSMW;try clear HSMX;try clear HSR;try clear HST;try clear HST2;try clear HSU;try clear HSZ;try clear HSZW;try clear HT1;try clear HT7;try clear HT7';try clear HT7Z;try clear HTALL;try clear HTB;try clear HTBD;try clear HTBE;try clear HTBY;try clear HTBZ;try clear HTD;try clear HTE;try clear HTF;try clear HTH;try clear HTHZ;try clear HTM;try clear HTMM;try clear HTR;try clear HTU;try clear HTW;try clear HTWZ;try clear HTZ;try clear HUW;try clear HX7;try clear HX7';try clear HXC;try clear HXZ;try clear HZ;try clear HZK
  go_region_with (first
   | (go_at_call 102;refine(HLW.out _ (by with_reducible exact(Below.refl _ _).drew)).mono ?_;rintro e w1 ⟨a1,c1,rfl,hf1,ht1,hb1,hbx⟩;have HF1:=lh hf1;have HT1:=lh ht1;have HB1:=lh hb1;clear hf1 ht1 hb1 hbx)
   | (go_at_call 102;refine(HLW.out _ (by with_reducible exact((Below.refl _ _).alloc (Nat.le_refl _) _).drew)).mono ?_;rintro e w1 ⟨a1,c1,rfl,hf1,ht1,hb1,hbx⟩;have HF1:=lh hf1;have HT1:=lh ht1;have HB1:=lh hb1;have hz:=hbx _ _ _ _ ((Box3.made w (.int .i64 0) (.string ⟨#[]⟩) (.slice none 0 0)).below (Below.refl _ _).drew);have HZ:=lh hz;obtain⟨z0,z1,z2,zf⟩:=hz.all;have zl:=hz.lt;clear hz hf1 ht1 hb1 hbx))
  all_goals
   go_wp2_with fail
   go_meet
   first
    | exact⟨_,a1,c1,rfl,HB1.out.size,Box3.made _ _ _ _,HB1.out.alloc HB1.out.size _,HF1.out,HT1.out.keep (Keeps.below ((Below.refl _ _).alloc (Nat.le_refl _) _) _)⟩
    | exact⟨_,a1,c1,rfl,Nat.le_refl _,HZ.out.put _ _ _,below_put HB1.out (Nat.le_refl _) _ _ _,HF1.out,HT1.out.keep ((touch_put _ _ _ _ _).keeps fun b hb e=>by have:=hb.1;omega)⟩
 case rest =>
  obtain⟨b7,a1,c1,rfl,hb7,hx7,hbx,hf1,ht1⟩:=hcut
  have HX7:=lh hx7;have HBX:=lh hbx;have HF7:=lh hf1
  have HQ:=lh (H.out.below hbx)
  have HMO:∀ b,b<wc.heap.size→OkS w br bs bm (.slice ta S.L.length tc) (.slice ca S.ch.length cc) av b→OkS wc br bs bm (.slice ta S.L.length tc) (.slice ca S.ch.length cc) av b:=fun b _ hb=>⟨Nat.lt_of_lt_of_le hb.1 hbx.size,hb.2⟩
  have HT7:=lh (ht1.mono HMO)
  have HG0:=lh ((HGR.out.keep (Keeps.below hbx _)).mono HMO)
  have hgbx:=(hbx.block gb lgb).trans HGB.out
  have HGB':=lh hgbx
  have HGT':=lh ((HGT.out.keep (Keeps.below hbx _)).mono HMO)
  have HGO':Hid (OkS wc br bs bm (.slice ta S.L.length tc) (.slice ca S.ch.length cc) av gb):=lh (HMO gb (Nat.lt_of_lt_of_le lgb hbx.size) HGOK.out)
  have l7:b7<wc.heap.size:=hx7.lt
  have hsz0:w.heap.size≤wc.heap.size:=hbx.size
  clear hx7 hbx hf1 ht1 HMO hgbx q0 q1 q2 q3 q4 q5 q6 q7 q8 qf s0 s1 s2 sf k0 k1 k2 HLW HLN
  have HN7:Hid (∀ b,SM br bs bm (.slice ta S.L.length tc) (.slice ca S.ch.length cc) av b→b<w.heap.size):=lh (fun b hb=>SM_lt H.out hb)
  generalize wc=wq at *
  obtain⟨q0,q1,q2,q3,q4,q5,q6,q7,q8,qf⟩:=HQ.out.cells
  obtain⟨s0,s1,s2,sf⟩:=HQ.out.st.cells
  obtain⟨x0,x1,x2,xf⟩:=HX7.out.all
  have HNX:Hid (∀ u,Below wq.heap.size wq u→∀ j,j≤p.length→Calls Try.prog 111 #[.slice pa p.length pc,.string t.name,.int .i64 t.args.length,.int .i64 j] u (fun e w'=>e=.returned (.int .i64 (nextF p t j:Nat))∧Below wq.heap.size wq w')):=lh (fun u hu j hj=>(NextW (HQ.out.prog.keep (Keeps.below hu _)) t j hj).mono fun e w' ⟨he,hb⟩=>⟨he,hu.trans (hb.mono hu.size)⟩)
  have hta:t.args.length≤9223372036854775807:=by have:=HT7.out.cap;unfold maxLen at this;omega
  go_upto_region 3 with fail
  go_cut[9] (fun v9 wx=>v9=.int .i64 (nextF p t i:Nat)∧Below wq.heap.size wq wx)
  case first =>
   try clear H0;try clear HB1;try clear HB2;try clear HB3;try clear HBK;try clear HBM;try clear HBN;try clear HBQ;try clear HBX;try clear HCB;try clear HCBC;try clear HCBD;try clear HCBE;try clear HCE;try clear HCI;try clear HCJ;try clear HCN;try clear HDN;try clear HF1;try clear HF7;try clear HFA;try clear HFC;try clear HFJ;try clear HFM;try clear HFN;try clear HFP;try clear HFR;try clear HFU;try clear HG0;try clear HGB;try clear HGB';try clear HGF;try clear HGK;try clear HGO';try clear HGOK;try clear HGR;try clear HGRE;try clear HGT;try clear HGT';try clear HGX;try clear HHF;try clear HII;try clear HKB;try clear HLN;try clear HLNX;try clear HLT;try clear HLW;try clear HML;try clear HMO;try clear HMV;try clear HN2;try clear HN7;try clear HNF;try clear HNN;try clear HNY;try clear HOD;try clear HOE;try clear HOF;try clear HOK;try clear HOKZ;try clear HOX;try clear HP;try clear HPC;try clear HPJ;try clear HPOT;try clear HPR;try clear HPS;try clear HQ;try clear HQ1;try clear HQ2;try clear HQ3;try clear HQL;try clear HQL2;try clear HSC;try clear HSD;try clear HSE;try clear HSF;try clear HSMW;try clear HSMX;try clear HSR;try clear HST;try clear HST2;try clear HSU;try clear HSZ;try clear HSZW;try clear HT1;try clear HT7;try clear HT7';try clear HT7Z;try clear HTALL;try clear HTB;try clear HTBD;try clear HTBE;try clear HTBY;try clear HTBZ;try clear HTD;try clear HTE;try clear HTF;try clear HTH;try clear HTHZ;try clear HTM;try clear HTMM;try clear HTR;try clear HTU;try clear HTW;try clear HTWZ;try clear HTZ;try clear HUW;try clear HX7;try clear HX7';try clear HXC;try clear HXZ;try clear HZ;try clear HZK
   go_still_tail 10,(by kernel_rfl)
   change wpList _ _ _ _ _ wq.drew
   go_wp2_with (go_at_call 111;refine(HNX.out _ (by with_reducible exact(Below.refl _ _).drew) i hi).mono ?_;rintro e w2 ⟨rfl,hb2⟩;have HB2:=lh hb2;clear hb2)
   all_goals
    go_wp2_with fail
    go_meet
    exact⟨rfl,HB2.out⟩
  case rest =>
   obtain⟨rfl,hb3⟩:=hcut
   have HB3:=lh hb3
   clear hb3 q0 q1 q2 q3 q4 q5 q6 q7 q8 qf s0 s1 s2 sf x0 x1 x2 xf
   have hnx:=nextF_ge p t (p.length-i) i rfl
   go_wp2_with fail
   go_loopg [9] (p.length-nextF p t i) (fun gk v9 wr=>∃ (j f v:Nat) (tvj:Value),Hid (gk=p.length-j)∧j≤p.length∧v9=.int .i64 j∧Hid (∀ hj:j<p.length,FitC p[j] t)∧Hid (SAt wr br bs bm tvj (.slice ca S.ch.length cc) av np pa pc p query { S with f:=f,vars:=v } (4000-f))∧Hid (Touch (SM br bs bm (.slice ta S.L.length tc) (.slice ca S.ch.length cc) av) wq wr)∧Hid (Fresh wq (.slice ta S.L.length tc) tvj)∧Hid (pcall p ((t0,cut)::rest) t j { S with f:=f,vars:=v }=pcall p ((t0,cut)::rest) t i S)∧Hid (CInv p ((t0,cut)::rest) t { S with f:=f,vars:=v })∧Hid (v+12*potC p.length S.ch+12*(p.length-j)≤1000000))
   case atStart =>
    exact⟨nextF p t i,S.f,S.vars,.slice ta S.L.length tc,lh rfl,hnx.2 hi,rfl,lh (fun hj=>nextF_is p t (p.length-i) i rfl hj),lh (HQ.out.below HB3.out),lh (Touch.below HB3.out),lh (Fresh.self _ _),lh (pcall_next (p.length-i) i rfl).symm,HCI,lh (by have:=HPOT.out;omega)⟩
   case round =>
    obtain⟨j,f,v,tvj,HGK,hj,rfl,HFJ,HSR,HTR,HFR,HPC,HCJ,HPJ⟩:=hrel
    have HOK:Hid (Keeps (OkS wq br bs bm (.slice ta S.L.length tc) (.slice ca S.ch.length cc) av) wq wr∧∀ b,OkS wq br bs bm (.slice ta S.L.length tc) (.slice ca S.ch.length cc) av b→OkS wr br bs bm tvj (.slice ca S.ch.length cc) av b):=lh (okS_step HTR.out HFR.out (Fresh.self _ _) (Fresh.self _ _))
    have HT7':=lh ((HT7.out.keep HOK.out.1).mono fun b _=>HOK.out.2 b)
    have hx7:=HX7.out.keep (HTR.out.block _ l7 (fun e=>by have:=HN7.out _ e;omega))
    have HX7':=lh hx7
    obtain⟨x0,x1,x2,xf⟩:=hx7.all
    obtain⟨q0,q1,q2,q3,q4,q5,q6,q7,q8,qf⟩:=HSR.out.cells
    have hv9:v≤1000000:=by have:=HPJ.out;omega
    clear hx7
    by_cases hlt:j<p.length
    ·obtain⟨bp,off,a2,a3,c2,c3,hpa,hokp,hbp,hc3,hc4,ht3,ht4⟩:=HSR.out.prog.elem j hlt
     subst hpa
     have p0:=hc3.var;have p1:=hc3.name;have p2:=hc3.args;have p3:=hc4
     have HHF:=lh hc3.fits;have HTH:=lh ht3;have HTB:=lh ht4
     have hj0:(0:Int)≤(j:Int):=by omega
     have hj1:(j:Int)<(p.length:Int):=by omega
     have lbr':=HSR.out.lt
     clear hc3 hc4 ht3 ht4
     go_upto_region 9 with fail
     have e12:((v+12:Nat):Int)=(v:Int)+12:=by omega
     have hsv:=HSR.out.setVars (v+12)
     rw[e12] at hsv
     have hs0:(wr.setCell ⟨br,2,none⟩ (.int .i64 ((v:Int)+12))).heap.size=wr.heap.size:=by simp[World.setCell]
     have bb1:Below (wr.setCell ⟨br,2,none⟩ (.int .i64 ((v:Int)+12))).heap.size (wr.setCell ⟨br,2,none⟩ (.int .i64 ((v:Int)+12))) ((wr.setCell ⟨br,2,none⟩ (.int .i64 ((v:Int)+12))).alloc (.cells #[.int .i64 p[j].head.var,.string p[j].head.name,.slice a2 p[j].head.args.length c2,.slice a3 p[j].body.length c3] 106)):=(Below.refl _ _).alloc (Nat.le_refl _) _
     have HSZW:=lh (hsv.below bb1)
     have HTZ:Hid (Touch (fun b=>b=br) wr ((wr.setCell ⟨br,2,none⟩ (.int .i64 ((v:Int)+12))).alloc (.cells #[.int .i64 p[j].head.var,.string p[j].head.name,.slice a2 p[j].head.args.length c2,.slice a3 p[j].body.length c3] 106))):=lh ((Touch.setCell (M:=fun b=>b=br) _ rfl).trans (Touch.below bb1))
     have HCB:Hid (((wr.setCell ⟨br,2,none⟩ (.int .i64 ((v:Int)+12))).alloc (.cells #[.int .i64 p[j].head.var,.string p[j].head.name,.slice a2 p[j].head.args.length c2,.slice a3 p[j].body.length c3] 106)).heap[wr.heap.size]? = some (.cells #[.int .i64 p[j].head.var,.string p[j].head.name,.slice a2 p[j].head.args.length c2,.slice a3 p[j].body.length c3] 106 (0,0))):=lh (by rw[← hs0];exact heap_alloc_new _ _)
     have hsw:((wr.setCell ⟨br,2,none⟩ (.int .i64 ((v:Int)+12))).alloc (.cells #[.int .i64 p[j].head.var,.string p[j].head.name,.slice a2 p[j].head.args.length c2,.slice a3 p[j].body.length c3] 106)).heap.size=wr.heap.size+1:=by simp[World.setCell]
     have hbr7:b7≠br:=by omega
     clear hsv hs0 bb1 e12 x0 x1 x2 xf q0 q1 q2 q3 q4 q5 q6 q7 q8 qf p0 p1 p2 p3
     generalize ((wr.setCell ⟨br,2,none⟩ (.int .i64 ((v:Int)+12))).alloc (.cells #[.int .i64 p[j].head.var,.string p[j].head.name,.slice a2 p[j].head.args.length c2,.slice a3 p[j].body.length c3] 106))=wz at *
     have HZK:Hid (Keeps (OkS wr br bs bm tvj (.slice ca S.ch.length cc) av) wr wz∧∀ b,OkS wr br bs bm tvj (.slice ca S.ch.length cc) av b→OkS wz br bs bm tvj (.slice ca S.ch.length cc) av b):=lh (okS_step (HTZ.out.mono fun b _ e=>.inl e) (Fresh.self _ _) (Fresh.self _ _) (Fresh.self _ _))
     have hx7:=HX7'.out.keep (HTZ.out.block _ HX7'.out.lt hbr7)
     obtain⟨x0,x1,x2,xf⟩:=hx7.all
     have HXZ:=lh hx7
     have hcb:=HCB.out
     have y0:wz.cell? ⟨wr.heap.size,0,none⟩=some (.int .i64 p[j].head.var):=by simp[World.cell?,hcb]
     have y1:wz.cell? ⟨wr.heap.size,1,none⟩=some (.string p[j].head.name):=by simp[World.cell?,hcb]
     have y2:wz.cell? ⟨wr.heap.size,2,none⟩=some (.slice a2 p[j].head.args.length c2):=by simp[World.cell?,hcb]
     have HTHZ:=lh ((HTH.out.keep HZK.out.1).mono fun b _=>HZK.out.2 b)
     have HTBZ:=lh ((HTB.out.keep HZK.out.1).mono fun b _=>HZK.out.2 b)
     have HT7Z:=lh ((HT7'.out.keep HZK.out.1).mono fun b _=>HZK.out.2 b)
     have hfp:=HP.out p[j] (List.getElem_mem hlt)
     have HFP:=lh hfp
     have HMV:Hid (∀ u,Below wz.heap.size wz u→Calls Try.prog 60 #[.agg #[.int .i64 p[j].head.var,.string p[j].head.name,.slice a2 p[j].head.args.length c2],.int .i64 (v:Int)] u (fun e w'=>∃ a c,e=.returned (.agg #[.int .i64 (far (v:Int) p[j].head).var,.string (far (v:Int) p[j].head).name,.slice a (far (v:Int) p[j].head).args.length c])∧(far (v:Int) p[j].head).fits∧Ts w' (OkS w' br bs bm tvj (.slice ca S.ch.length cc) av) (far (v:Int) p[j].head).args a c∧Below wz.heap.size wz w')):=lh (fun u hu=>by
      refine(MovedW (K:=(v:Int)) p[j].head u (OkS wz br bs bm tvj (.slice ca S.ch.length cc) av) a2 c2 (fun b hb=>Nat.lt_of_lt_of_le hb.1 hu.size) (HSZ.out p[j] (List.getElem_mem hlt)).1 HHF.out (HTHZ.out.keep (Keeps.below hu _)) (fun q hq hv=>by have:=fit_parts hfp.1 hq hv;unfold I64;omega)).mono ?_
      rintro e w' ⟨a,c,he,hf,hts,hb⟩
      have hbz:=hu.trans (hb.mono hu.size)
      refine⟨a,c,he,hf,hts.mono fun b hb' hk=>⟨hb',?_⟩,hbz⟩
      rcases hk with hk | hk
      ·exact hk.2
      ·exact fun e=>by have:=SM_lt HSZW.out e;have:=hu.size;omega)
     have HSMW:Hid (∀ u a c,Below wz.heap.size wz u→(far (v:Int) p[j].head).fits→Ts u (OkS u br bs bm tvj (.slice ca S.ch.length cc) av) (far (v:Int) p[j].head).args a c→Calls Try.prog 104 #[.pointer (some ⟨br,0,none⟩),.agg #[.int .i64 (far (v:Int) p[j].head).var,.string (far (v:Int) p[j].head).name,.slice a (far (v:Int) p[j].head).args.length c],.agg #[.int .i64 t.var,.string t.name,.slice a1 t.args.length c1]] u (SmPost wz br bs bm tvj (.slice ca S.ch.length cc) av np (some ⟨bp,off,none⟩) pc p query { S with f:=f,vars:=v+12 } (meet S.σ S.L f [(far (v:Int) p[j].head,t)]))):=lh (fun u a c hu hf hts=>by
      have hb:=HCJ.out
      refine(SameSW (S:={ S with f:=f,vars:=v+12 }) (HSZW.out.below hu) hb.f hb.sinv (by have:=hb.len;have:=hb.f;have:=HST.out;simp only at *;omega) hf HF7.out hts ((HT7Z.out.keep (Keeps.below hu _)).mono fun b hb' hk=>⟨hb',hk.2⟩) (far_fitP (n:=v) hfp.1).wf hb.t.wf).mono fun e w' hp=>hp.up hu)
     clear hcb hfp hx7
     go_cut[86] (fun v86 wx=>∃ b:Bool,v86=.bool b∧SmPost wz br bs bm tvj (.slice ca S.ch.length cc) av np (some ⟨bp,off,none⟩) pc p query { S with f:=f,vars:=v+12 } (meet S.σ S.L f [(far (v:Int) p[j].head,t)]) (.returned (.bool b)) wx)
     case first =>
      try clear H0;try clear HB1;try clear HB2;try clear HB3;try clear HBK;try clear HBM;try clear HBN;try clear HBQ;try clear HBX;try clear HCB;try clear HCBC;try clear HCBD;try clear HCBE;try clear HCE;try clear HCI;try clear HCJ;try clear HCN;try clear HDN;try clear HF1;try clear HF7;try clear HFA;try clear HFC;try clear HFJ;try clear HFM;try clear HFN;try clear HFP;try clear HFR;try clear HFU;try clear HG0;try clear HGB;try clear HGB';try clear HGF;try clear HGK;try clear HGO';try clear HGOK;try clear HGR;try clear HGRE;try clear HGT;try clear HGT';try clear HGX;try clear HHF;try clear HII;try clear HKB;try clear HLN;try clear HLNX;try clear HLT;try clear HLW;try clear HML;try clear HMO;try clear HN2;try clear HN7;try clear HNF;try clear HNN;try clear HNX;try clear HNY;try clear HOD;try clear HOE;try clear HOF;try clear HOK;try clear HOKZ;try clear HOX;try clear HP;try clear HPC;try clear HPJ;try clear HPOT;try clear HPR;try clear HPS;try clear HQ;try clear HQ1;try clear HQ2;try clear HQ3;try clear HQL;try clear HQL2;try clear HSC;try clear HSD;try clear HSE;try clear HSF;try clear HSMX;try clear HSR;try clear HST;try clear HST2;try clear HSU;try clear HSZ;try clear HSZW;try clear HT1;try clear HT7;try clear HT7';try clear HT7Z;try clear HTALL;try clear HTB;try clear HTBD;try clear HTBE;try clear HTBY;try clear HTBZ;try clear HTD;try clear HTE;try clear HTF;try clear HTH;try clear HTHZ;try clear HTM;try clear HTMM;try clear HTR;try clear HTU;try clear HTW;try clear HTWZ;try clear HTZ;try clear HUW;try clear HX7;try clear HX7';try clear HXC;try clear HZ;try clear HZK
      go_region_with (first
       | (go_at_call 60;refine(HMV.out _ (by with_reducible exact(Below.refl _ _).drew)).mono ?_;rintro e wM ⟨aM,cM,rfl,hfM,htM,hbM⟩;have HFM:=lh hfM;have HTM:=lh htM;have HBM:=lh hbM;obtain⟨m0,m1,m2,mf⟩:=(HXZ.out.below hbM).all;clear hfM htM hbM)
       | (go_at_call 104;refine(HSMW.out _ _ _ HBM.out HFM.out HTM.out).mono ?_;rintro e wS hpS;obtain⟨bS,rfl⟩:=hpS.form;have HPS:=lh hpS;clear hpS))
      all_goals
       go_wp2_with fail
       go_meet
       exact⟨bS,rfl,HPS.out⟩
     case rest =>
      obtain⟨bS,rfl,hps⟩:=hcut
      obtain⟨mo,hmo⟩:∃ mo,meet S.σ S.L f [(far (v:Int) p[j].head,t)]=mo:=⟨_,rfl⟩
      rw[hmo] at hps
      have HMO:=lh hmo
      have HTWZ:Hid (Touch (SM br bs bm (.slice ta S.L.length tc) (.slice ca S.ch.length cc) av) wq wz):=lh (HTR.out.trans (HTZ.out.mono fun b _ e=>.inl e))
      obtain⟨htw,tvn,hfn,hm⟩:=hps
      have HTW:Hid (Touch (SM br bs bm tvj (.slice ca S.ch.length cc) av) wz wc):=lh htw
      have HFN:Hid (Fresh wz tvj tvn):=lh hfn
      have hcb:=(htw.block wr.heap.size (by omega) (fun e=>by have:=SM_lt HSR.out e;omega)).trans HCB.out
      have hx7:=HXZ.out.keep (htw.block _ HXZ.out.lt (fun e=>by
       have h1:=SM_lt HSR.out e
       rcases e with e | (e | e | e) | e | e
       ·omega
       ·have:=HN7.out _ (.inr (.inl (.inl e)));omega
       ·have:=HN7.out _ (.inr (.inl (.inr (.inl e))));omega
       ·rcases fresh_or HFR.out e with e | e
        ·have:=HN7.out _ (.inr (.inl (.inr (.inr e))));omega
        ·omega
       ·have:=HN7.out _ (.inr (.inr (.inl e)));omega
       ·have:=HN7.out _ (.inr (.inr (.inr e)));omega))
      have HOKZ:Hid (Keeps (OkS wz br bs bm tvj (.slice ca S.ch.length cc) av) wz wc∧∀ b,OkS wz br bs bm tvj (.slice ca S.ch.length cc) av b→OkS wc br bs bm tvn (.slice ca S.ch.length cc) av b):=lh (okS_step htw hfn (Fresh.self _ _) (Fresh.self _ _))
      have HCBC:=lh hcb;have HXC:=lh hx7
      clear htw hfn hcb hx7 hmo x0 x1 x2 xf y0 y1 y2 HMV HSMW
      have HGR:=lh (meet_grow f S.σ S.L [(far (v:Int) p[j].head,t)] HCJ.out.sinv (fun q hq=>by rw[List.mem_singleton] at hq;subst hq;exact⟨(far_fitP (n:=v) HFP.out.1).wf,HCJ.out.t.wf⟩))
      have HKB:=lh (meet_keyB (n:=v+12+1) f S.σ S.L [(far (v:Int) p[j].head,t)] HCJ.out.sinv (fun x u e=>(HCJ.out.dom x u e).1.mono (by simp only;omega)) (fun q hq=>by rw[List.mem_singleton] at hq;subst hq;exact⟨far_fitP (n:=v) HFP.out.1,HCJ.out.t.mono (by simp only;omega)⟩))
      rw[HMO.out] at HGR HKB
      cases mo with
      | ok σ' L' f' =>
       obtain⟨he,hs,hii⟩:=hm
       simp only[Ending.returned.injEq,Value.bool.injEq] at he
       subst he
       have HTALL:Hid (Touch (SM br bs bm (.slice ta S.L.length tc) (.slice ca S.ch.length cc) av) wq wc∧Fresh wq (.slice ta S.L.length tc) tvn):=lh ⟨touch_next HTWZ.out HFR.out (Fresh.self _ _) (Fresh.self _ _) HTW.out,HFR.out.trans HFN.out HTWZ.out.size⟩
       have HSC:=lh hs
       have HCN:Hid (¬ SM br bs bm tvn (.slice ca S.ch.length cc) av wr.heap.size):=lh (fun e=>by
        have h1:=fun b (hb:SM br bs bm tvj (.slice ca S.ch.length cc) av b)=>SM_lt HSR.out hb
        rcases e with e | (e | e | e) | e | e
        ·have:=h1 br (.inl rfl);omega
        ·have:=h1 bs (.inr (.inl (.inl rfl)));omega
        ·have:=h1 bm (.inr (.inl (.inr (.inl rfl))));omega
        ·rcases fresh_or HFN.out e with e | e
         ·have:=h1 _ (.inr (.inl (.inr (.inr e))));omega
         ·omega
        ·have:=h1 _ (.inr (.inr (.inl e)));omega
        ·have:=h1 _ (.inr (.inr (.inr e)));omega)
       have HTBY:=lh ((HTBZ.out.keep HOKZ.out.1).mono fun b _=>HOKZ.out.2 b)
       have HQL:Hid (S.ch.length≤1000000):=lh (by
        have:=potC_len (m:=p.length) (ch:=S.ch) fun c hc=>(HCJ.out.snap c hc).2.2.1
        have:=HPOT.out;omega)
       clear hs hii HGR HKB
       clear HTWZ HTR HFR HTW HFN HOKZ HZK HSZW HTZ HCB HXZ HT7Z HTHZ HTBZ HTB HTH
       have hsqw:wq.heap.size≤wc.heap.size:=HTALL.out.1.size
       generalize wc=wy at *
       obtain⟨q0,q1,q2,q3,q4,q5,q6,q7,q8,qf⟩:=HSC.out.cells
       obtain⟨x0,x1,x2,xf⟩:=HXC.out.all
       have e1:((j+1:Nat):Int)=(j:Int)+1:=by omega
       have HNY:Hid (∀ u,Below wy.heap.size wy u→Calls Try.prog 111 #[.slice (some ⟨bp,off,none⟩) p.length pc,.string t.name,.int .i64 t.args.length,.int .i64 ((j:Int)+1)] u (fun e w'=>e=.returned (.int .i64 (nextF p t (j+1):Nat))∧Below wy.heap.size wy w')):=lh (fun u hu=>by
        have h:=NextW (HSC.out.prog.keep (Keeps.below hu _)) t (j+1) hlt
        rw[e1] at h
        exact h.mono fun e w' ⟨he,hb⟩=>⟨he,hu.trans (hb.mono hu.size)⟩)
       clear e1
       go_upto_region 11 with fail
       go_cut[13] (fun v13 wx=>v13=.int .i64 (nextF p t (j+1):Nat)∧Below wy.heap.size wy wx)
       case first =>
        try clear H0;try clear HB1;try clear HB2;try clear HB3;try clear HBK;try clear HBM;try clear HBN;try clear HBQ;try clear HBX;try clear HCB;try clear HCBC;try clear HCBD;try clear HCBE;try clear HCE;try clear HCI;try clear HCJ;try clear HCN;try clear HDN;try clear HF1;try clear HF7;try clear HFA;try clear HFC;try clear HFJ;try clear HFM;try clear HFN;try clear HFP;try clear HFR;try clear HFU;try clear HG0;try clear HGB;try clear HGB';try clear HGF;try clear HGK;try clear HGO';try clear HGOK;try clear HGR;try clear HGRE;try clear HGT;try clear HGT';try clear HGX;try clear HHF;try clear HII;try clear HKB;try clear HLN;try clear HLNX;try clear HLT;try clear HLW;try clear HML;try clear HMO;try clear HMV;try clear HN2;try clear HN7;try clear HNF;try clear HNN;try clear HNX;try clear HOD;try clear HOE;try clear HOF;try clear HOK;try clear HOKZ;try clear HOX;try clear HP;try clear HPC;try clear HPJ;try clear HPOT;try clear HPR;try clear HPS;try clear HQ;try clear HQ1;try clear HQ2;try clear HQ3;try clear HQL;try clear HQL2;try clear HSC;try clear HSD;try clear HSE;try clear HSF;try clear HSMW;try clear HSMX;try clear HSR;try clear HST;try clear HST2;try clear HSU;try clear HSZ;try clear HSZW;try clear HT1;try clear HT7;try clear HT7';try clear HT7Z;try clear HTALL;try clear HTB;try clear HTBD;try clear HTBE;try clear HTBY;try clear HTBZ;try clear HTD;try clear HTE;try clear HTF;try clear HTH;try clear HTHZ;try clear HTM;try clear HTMM;try clear HTR;try clear HTU;try clear HTW;try clear HTWZ;try clear HTZ;try clear HUW;try clear HX7;try clear HX7';try clear HXC;try clear HXZ;try clear HZ;try clear HZK
        have hja:(j:Int)+1≤9223372036854775807:=by omega
        try clear hq2;try clear hta;try clear hlt;try clear hj;try clear hv9;try clear hb7;try clear l7;try clear lgb;try clear lbs;try clear lbr;try clear hsz0;try clear hsqw;try clear hsw;try clear hbr7;try clear hbp;try clear lbr';try clear hnx;try clear hj1;try clear hpl;try clear hblen;try clear hsyc;try clear hsde;try clear hm;try clear lcb;try clear lbx;try clear hq;try clear hk;try clear hc3;try clear hc4;try clear ht3;try clear ht4;try clear hQb;try clear hi;try clear hLl;try clear hCl
        go_still_tail 11,(by kernel_rfl)
        change wpList _ _ _ _ _ wy.drew
        go_wp2_with (go_at_call 111;refine(HNY.out _ (by with_reducible exact(Below.refl _ _).drew)).mono ?_;rintro e wn ⟨rfl,hbn⟩;have HBN:=lh hbn;clear hbn)
        all_goals
         go_wp2_with fail
         go_meet
         exact⟨rfl,HBN.out⟩
       case rest =>
        obtain⟨rfl,hbn⟩:=hcut
        have HBN:=lh hbn
        have HSD:=lh (HSC.out.below hbn)
        have HCBD:=lh ((hbn.block _ (Array.getElem?_eq_some_iff.1 HCBC.out).1).trans HCBC.out)
        have HTD:=lh (HTALL.out.1.trans (Touch.below hbn))
        have hsyc:wy.heap.size≤wc.heap.size:=hbn.size
        clear hbn q0 q1 q2 q3 q4 q5 q6 q7 q8 qf x0 x1 x2 xf HNY HXC HCBC
        have HNF:Hid (j+1≤nextF p t (j+1)):=lh (nextF_ge p t (p.length-(j+1)) (j+1) rfl).1
        have HOD:Hid (Keeps (OkS wq br bs bm (.slice ta S.L.length tc) (.slice ca S.ch.length cc) av) wq wc∧∀ b,OkS wq br bs bm (.slice ta S.L.length tc) (.slice ca S.ch.length cc) av b→OkS wc br bs bm tvn (.slice ca S.ch.length cc) av b):=lh (okS_step HTD.out HTALL.out.2 (Fresh.self _ _) (Fresh.self _ _))
        have HGX:=lh (((GAt.cons gb t0 cut a0 c0 r0 rest HGB'.out HGO'.out HGF.out HGT'.out HG0.out).keep HOD.out.1).mono fun b _=>HOD.out.2 b)
        have HTBD:Hid (Ts wc (OkS wc br bs bm tvn (.slice ca S.ch.length cc) av) p[j].body a3 c3):=lh ((HTBY.out.keep (Keeps.below HBN.out _)).mono fun b _ hb=>⟨Nat.lt_of_lt_of_le hb.1 hsyc,hb.2⟩)
        obtain⟨nn,hnn⟩:∃ nn,nextF p t (j+1)=nn:=⟨_,rfl⟩
        have HNN:=lh hnn
        rw[hnn] at HNF ⊢
        clear hnn
        generalize wc=wd at *
        obtain⟨q0,q1,q2,q3,q4,q5,q6,q7,q8,qf⟩:=HSD.out.cells
        go_upto_if 110 with fail
        go_cut[] (fun wx=>∃ cvn,Fresh wd (.slice ca S.ch.length cc) cvn∧Touch (SM br bs bm tvn (.slice ca S.ch.length cc) av) wd wx∧SAt wx br bs bm tvn cvn av np (some ⟨bp,off,none⟩) pc p query { S with f:=f',vars:=v+12,σ:=σ',L:=L',ch:=if nn<p.length then S.ch++[⟨(t0,cut)::rest,nn,S.σ,S.L⟩] else S.ch } (4000-f'))
        case first =>
         by_cases hn:nn<p.length
         ·have hn1:(nn:Int)<(p.length:Int):=by omega
          obtain⟨Q,hQ,hrow,hgs⟩:=HSD.out.ch
          have hQl:Q.length=S.ch.length:=by rw[← hQ,List.length_map]
          have HQ1:=lh hQ;have HQ2:=lh hrow;have HQ3:=lh hgs
          have hQb:Q.length≤1000000:=by have:=HQL.out;omega
          clear hQ hrow hgs hQl
          have hown:=lh (HQ2.out.alloc (.cells #[.pointer (some ⟨gb,0,none⟩),.int .i64 nn,.int .i64 S.L.length] 168))
          obtain⟨i0,zc,hi,hz0,hz1,hz2,hz3⟩:=infoCh
          go_wp2_with (at_builtin;refine wpList_append_fresh _ rfl _ _ 92 rfl 0 168 i0 zc 3 24 Try.underlying92 hi hz0 hz1 hz2 hz3 (by decide) _ _ _ rfl hown.out ⟨wd.heap.size,0,none⟩ 1 1 [.pointer (some ⟨gb,0,none⟩),.int .i64 nn,.int .i64 S.L.length] rfl rfl ?c1 ?c2 ?c3 ?c4 ?c5 ?_)
          any_goals (first | exact three_cells _ _ _ _ _ | exact⟨rfl,rfl,rfl⟩ | (unfold maxLen;omega) | omega)
          ·intro cv' X3 hown3 hg3 hfr3
           obtain⟨g3,cap3,rfl⟩:=own_shape hown3 (by omega)
           have hp:=HSD.out.push (c:=⟨(t0,cut)::rest,nn,S.σ,S.L⟩) HQ1.out HQ3.out HGX.out hown3 hg3 hfr3
           have HP:=lh hp
           have hbk:X3.heap[br]? = wd.heap[br]?:=(hg3.block br (by have:=HSD.out.lt;simp;omega) (fun e=>HSD.out.sep.rc e.symm)).trans (Below.heap_alloc _ _ _ HSD.out.lt)
           have y4:X3.cell? ⟨br,4,none⟩=some (.slice ca S.ch.length cc):=by simp[World.cell?,hbk,HSD.out.blk]
           have yf:∀ o,X3.frozen? ⟨br,o,none⟩=false:=fun o=>by simp[World.frozen?,hbk,HSD.out.blk]
           clear hp hown3 hg3 hfr3 hown hbk
           go_wp2_with fail
           go_meet
           exact⟨_,HP.out.2.2,HP.out.2.1,by rw[if_pos hn];exact HP.out.1.plain rfl rfl rfl rfl rfl rfl rfl rfl⟩
         ·have hn1:(p.length:Int)≤(nn:Int):=by omega
          go_wp2_with fail
          go_meet
          exact⟨_,Fresh.self _ _,Touch.refl _ _,by rw[if_neg hn];exact HSD.out.plain rfl rfl rfl rfl rfl rfl rfl rfl⟩
        case rest =>
         obtain⟨cvn,hfc,htc,hsc⟩:=hcut
         have HTE:=lh (touch_next HTD.out HTALL.out.2 (Fresh.self _ _) (Fresh.self _ _) htc)
         have HFC:Hid (Fresh wq (.slice ca S.ch.length cc) cvn):=lh (hfc.old (by omega))
         have HSE:=lh hsc
         have hsde:wd.heap.size≤wc.heap.size:=htc.size
         have HOE:Hid (Keeps (OkS wq br bs bm (.slice ta S.L.length tc) (.slice ca S.ch.length cc) av) wq wc∧∀ b,OkS wq br bs bm (.slice ta S.L.length tc) (.slice ca S.ch.length cc) av b→OkS wc br bs bm tvn cvn av b):=lh (okS_step HTE.out HTALL.out.2 HFC.out (Fresh.self _ _))
         have HOF:=okS_step htc (Fresh.self wd tvn) hfc (Fresh.self wd av)
         have HTBE:=lh ((HTBD.out.keep HOF.1).mono fun b _=>HOF.2 b)
         have HGRE:=lh ((HG0.out.keep HOE.out.1).mono fun b _=>HOE.out.2 b)
         have hgbe:=(HTE.out.block gb HGO'.out.1 HGO'.out.2).trans HGB'.out
         have hcbe:=(htc.block wr.heap.size (Array.getElem?_eq_some_iff.1 HCBD.out).1 HCN.out).trans HCBD.out
         have HCBE:=lh hcbe
         have k4:wc.cell? ⟨gb,4,none⟩=some (.pointer r0):=by simp[World.cell?,hgbe]
         have y3:wc.cell? ⟨wr.heap.size,3,none⟩=some (.slice a3 p[j].body.length c3):=by simp[World.cell?,hcbe]
         have HCE:Hid (¬ SM br bs bm tvn cvn av wr.heap.size):=lh (fun e=>by
          rcases e with e | e | e | e
          ·exact HCN.out (.inl e)
          ·exact HCN.out (.inr (.inl e))
          ·rcases fresh_or hfc e with e | e
           ·exact HCN.out (.inr (.inr (.inl e)))
           ·have:=(Array.getElem?_eq_some_iff.1 HCBD.out).1;omega
          ·exact HCN.out (.inr (.inr (.inr e))))
         have hblen:p[j].body.length≤9223372036854775807:=by have:=HTBE.out.cap;unfold maxLen at this;omega
         have HSF:=lh (HSE.out.setNow HGRE.out)
         have HTF:Hid (Touch (SM br bs bm tvn cvn av) wc (wc.setCell ⟨br,5,none⟩ (.pointer r0))):=lh ((Touch.setCell (M:=fun b=>b=br) _ rfl).mono fun b _ e=>.inl e)
         clear hfc htc hsc HOF hgbe hcbe q0 q1 q2 q3 q4 q5 q6 q7 q8 qf HCBD HTBD HTBY HGX HOD HSC HSD HNF
         have HDN:Hid (∀ S':PS,S' = { S with f:=f',vars:=v+12,σ:=σ',L:=L',ch:=if nn<p.length then S.ch++[⟨(t0,cut)::rest,nn,S.σ,S.L⟩] else S.ch,now:=bodyG (v:Int) S.ch.length p[j].body++rest }→pcall p ((t0,cut)::rest) t i S=(S',true)):=lh (fun S' hS'=>by
          rw[← HPC.out]
          refine pcall_done hlt (HFJ.out hlt) ?_
          unfold pclause;simp only;rw[HMO.out,HNN.out,hS'];rfl)
         clear HMO HNN HPC
         generalize wc=we at *
         obtain⟨q0,q1,q2,q3,q4,q5,q6,q7,q8,qf⟩:=HSE.out.cells
         go_wp2_with fail
         obtain⟨wo,rfl⟩:∃ x,x=wr:=⟨_,rfl⟩
         go_loopg [14] p[j].body.length (fun m v14 wx=>∃ (npm:Option Addr),m≤p[j].body.length∧v14=.int .i64 ((m:Int)-1)∧Hid (Touch (SM br bs bm tvn cvn av) we wx)∧Hid (SAt wx br bs bm tvn cvn av npm (some ⟨bp,off,none⟩) pc p query { S with f:=f',vars:=v+12,σ:=σ',L:=L',ch:=if nn<p.length then S.ch++[⟨(t0,cut)::rest,nn,S.σ,S.L⟩] else S.ch,now:=bodyG (v:Int) S.ch.length (p[j].body.drop m)++rest } (4000-f')))
         case atStart=>exact⟨r0,Nat.le_refl _,rfl,HTF,lh (by rw[List.drop_length];exact HSF.out)⟩
         case round =>
          obtain⟨npm,hm,rfl,HTM,HSMX⟩:=hrel
          have hcx:=(HTM.out.block wo.heap.size (Array.getElem?_eq_some_iff.1 HCBE.out).1 HCE.out).trans HCBE.out
          have y3:wr.cell? ⟨wo.heap.size,3,none⟩=some (.slice a3 p[j].body.length c3):=by simp[World.cell?,hcx]
          clear hcx q0 q1 q2 q3 q4 q5 q6 q7 q8 qf
          obtain⟨q0,q1,q2,q3,q4,q5,q6,q7,q8,qf⟩:=HSMX.out.cells
          cases gk with
          | zero =>
           go_wp2_with fail
           go_ret
           rw[HDN.out _ rfl]
           exact⟨rfl,(Touch.below HBX.out).trans (touch_next HTE.out HTALL.out.2 HFC.out (Fresh.self _ _) HTM.out),tvn,cvn,npm,4000-f',HTALL.out.2.old HBX.out.size,HFC.out.old HBX.out.size,HSMX.out⟩
          | succ q =>
           have e:(((q+1:Nat):Int)-1)=(q:Int):=by omega
           rw[e]
           have hq:q<p[j].body.length:=hm
           have hq1:(q:Int)<(p[j].body.length:Int):=by omega
           have HOX:=okS_step HTM.out (Fresh.self we tvn) (Fresh.self we cvn) (Fresh.self we av)
           obtain⟨b5,off5,a5,c5,ha5,hok5,hb5,hc5,ht5⟩:=((HTBE.out.keep HOX.1).mono fun b _=>HOX.2 b).at q hq
           subst ha5
           have p0:=hc5.var;have p1:=hc5.name;have p2:=hc5.args
           have HMV:Hid (∀ u,Below wr.heap.size wr u→Calls Try.prog 60 #[.agg #[.int .i64 p[j].body[q].var,.string p[j].body[q].name,.slice a5 p[j].body[q].args.length c5],.int .i64 (v:Int)] u (fun e w'=>∃ a c,e=.returned (.agg #[.int .i64 (far (v:Int) p[j].body[q]).var,.string (far (v:Int) p[j].body[q]).name,.slice a (far (v:Int) p[j].body[q]).args.length c])∧(far (v:Int) p[j].body[q]).fits∧Ts w' (OkS w' br bs bm tvn cvn av) (far (v:Int) p[j].body[q]).args a c∧Below wr.heap.size wr w')):=lh (fun u hu=>by
            refine(MovedW (K:=(v:Int)) p[j].body[q] u (OkS wr br bs bm tvn cvn av) a5 c5 (fun b hb=>Nat.lt_of_lt_of_le hb.1 hu.size) ((HSZ.out p[j] (List.getElem_mem hlt)).2 _ (List.getElem_mem hq)) hc5.fits (ht5.keep (Keeps.below hu _)) (fun q hq hv=>by have:=fit_parts (HFP.out.2 _ (List.getElem_mem _)) hq hv;unfold I64;omega)).mono ?_
            rintro e w' ⟨a,c,he,hf,hts,hb⟩
            have hbz:=hu.trans (hb.mono hu.size)
            refine⟨a,c,he,hf,hts.mono fun b hb' hk=>⟨hb',?_⟩,hbz⟩
            rcases hk with hk | hk
            ·exact hk.2
            ·exact fun e=>by have:=SM_lt HSMX.out e;have:=hu.size;omega)
           have lbx:=HSMX.out.lt
           have lcb:wo.heap.size<wr.heap.size:=by have:=(Array.getElem?_eq_some_iff.1 HCBE.out).1;have:=HTM.out.size;omega
           have HFA:Hid (∀ u,Below wr.heap.size wr u→u.cell? ⟨br,5,none⟩=some (.pointer npm)∧(∀ o,u.frozen? ⟨br,o,none⟩=false)∧u.cell? ⟨wo.heap.size,3,none⟩=some (.slice (some ⟨b5,off5,none⟩) p[j].body.length c3)∧u.cell? ⟨b5,off5+q*3,none⟩=some (.int .i64 p[j].body[q].var)∧u.cell? ⟨b5,off5+q*3+1,none⟩=some (.string p[j].body[q].name)∧u.cell? ⟨b5,off5+q*3+2,none⟩=some (.slice a5 p[j].body[q].args.length c5)):=lh (fun u hu=>by
            obtain⟨r0',r1',r2',r3',r4',r5',r6',r7',r8',rf'⟩:=(HSMX.out.below hu).cells
            exact⟨r5',rf',(hu.cell (p:=⟨wo.heap.size,3,none⟩) lcb).trans y3,(hu.cell (p:=⟨b5,off5+q*3,none⟩) hb5).trans p0,(hu.cell (p:=⟨b5,off5+q*3+1,none⟩) hb5).trans p1,(hu.cell (p:=⟨b5,off5+q*3+2,none⟩) hb5).trans p2⟩)
           clear hc5 ht5 HOX e hok5 p0 p1 p2 y3
           obtain⟨bq,hbq⟩:∃ b,p[j].body[q]=b:=⟨_,rfl⟩
           rw[hbq] at HMV HFA
           have HBQ:=lh hbq;have HQL2:=lh hq;have HML:=lh hm
           clear hbq
           obtain⟨bn,hbn⟩:∃ b,p[j].body.length=b:=⟨_,rfl⟩
           rw[hbn] at HFA hq1
           clear hbn
           obtain⟨w5,wf,w3,w0,w1,w2⟩:=HFA.out _ (Below.refl _ _)
           try clear H0;try clear HB1;try clear HB2;try clear HB3;try clear HBK;try clear HBM;try clear HBN;try clear HBX;try clear HCB;try clear HCBC;try clear HCBD;try clear HCBE;try clear HCE;try clear HCI;try clear HCJ;try clear HCN;try clear HDN;try clear HF1;try clear HF7;try clear HFC;try clear HFJ;try clear HFM;try clear HFN;try clear HFP;try clear HFR;try clear HFU;try clear HG0;try clear HGB;try clear HGB';try clear HGF;try clear HGK;try clear HGO';try clear HGOK;try clear HGR;try clear HGRE;try clear HGT;try clear HGT';try clear HGX;try clear HHF;try clear HII;try clear HKB;try clear HLN;try clear HLNX;try clear HLT;try clear HLW;try clear HMO;try clear HN2;try clear HN7;try clear HNF;try clear HNN;try clear HNX;try clear HNY;try clear HOD;try clear HOE;try clear HOF;try clear HOK;try clear HOKZ;try clear HOX;try clear HP;try clear HPC;try clear HPJ;try clear HPOT;try clear HPR;try clear HPS;try clear HQ;try clear HQ1;try clear HQ2;try clear HQ3;try clear HQL;try clear HSC;try clear HSD;try clear HSE;try clear HSF;try clear HSMW;try clear HSR;try clear HST;try clear HST2;try clear HSU;try clear HSZ;try clear HSZW;try clear HT1;try clear HT7;try clear HT7';try clear HT7Z;try clear HTALL;try clear HTB;try clear HTBD;try clear HTBE;try clear HTBY;try clear HTBZ;try clear HTD;try clear HTE;try clear HTF;try clear HTH;try clear HTHZ;try clear HTMM;try clear HTR;try clear HTU;try clear HTW;try clear HTWZ;try clear HTZ;try clear HUW;try clear HX7;try clear HX7';try clear HXC;try clear HXZ;try clear HZ;try clear HZK
           have hq0:(0:Int)≤(q:Int):=by omega
           try clear hq2;try clear hta;try clear hlt;try clear hj;try clear hv9;try clear hb7;try clear l7;try clear lgb;try clear lbs;try clear lbr;try clear hsz0;try clear hsqw;try clear hsw;try clear hbr7;try clear hbp;try clear lbr';try clear hnx;try clear hj1;try clear hpl;try clear hblen;try clear hsyc;try clear hsde;try clear hm;try clear lcb;try clear hq;try clear hk;try clear hc3;try clear hc4;try clear ht3;try clear ht4;try clear hQb;try clear hi;try clear hLl;try clear hCl
           go_wp2_with fail
           go_region_with (go_at_call 60;refine(HMV.out _ (by with_reducible exact(Below.refl _ _).drew)).mono ?_;rintro e wM ⟨aM,cM,rfl,hfM,htM,hbM⟩;have HFM:=lh hfM;have HTMM:=lh htM;obtain⟨r5',rf',y3',p0',p1',p2'⟩:=HFA.out _ hbM;have lbM:br<wM.heap.size:=(Nat.lt_of_lt_of_le lbx hbM.size);have HBM:=lh hbM;clear hfM htM hbM)
           all_goals
            go_wp2_with fail
            obtain rfl:=HBQ.out
            have HST:Hid (SAt ((wM.setCell ⟨br,5,none⟩ (.pointer (some ⟨wM.heap.size,0,none⟩))).alloc (.cells #[.int .i64 (far (v:Int) p[j].body[q]).var,.string (far (v:Int) p[j].body[q]).name,.slice aM (far (v:Int) p[j].body[q]).args.length cM,.int .i64 S.ch.length,.pointer npm] 97)) br bs bm tvn cvn av (some ⟨wM.heap.size,0,none⟩) (some ⟨bp,off,none⟩) pc p query { S with f:=f',vars:=v+12,σ:=σ',L:=L',ch:=if nn<p.length then S.ch++[⟨(t0,cut)::rest,nn,S.σ,S.L⟩] else S.ch,now:=bodyG (v:Int) S.ch.length (p[j].body.drop q)++rest } (4000-f')):=lh (by
             rw[alloc_set wM (HSMX.out.below HBM.out).lt]
             have hBa:Below wM.heap.size wM (wM.alloc (.cells #[.int .i64 (far (v:Int) p[j].body[q]).var,.string (far (v:Int) p[j].body[q]).name,.slice aM (far (v:Int) p[j].body[q]).args.length cM,.int .i64 S.ch.length,.pointer npm] 97)):=(Below.refl _ _).alloc (Nat.le_refl _) _
             have h1:=(HSMX.out.below HBM.out).below hBa
             have hl:=fun b (hb:SM br bs bm tvn cvn av b)=>SM_lt (HSMX.out.below HBM.out) hb
             have h2:=h1.setNow (np':=some ⟨wM.heap.size,0,none⟩) (l:=(far (v:Int) p[j].body[q],S.ch.length)::(bodyG (v:Int) S.ch.length (p[j].body.drop (q+1))++rest)) (.cons _ _ _ aM cM npm _ (heap_alloc_new _ _) ⟨by simp,fun e=>by have:=hl _ e;omega⟩ HFM.out ((HTMM.out.keep (Keeps.below hBa _)).mono fun b _ hb=>⟨Nat.lt_of_lt_of_le hb.1 hBa.size,hb.2⟩) h1.now)
             rw[List.drop_eq_getElem_cons HQL2.out]
             exact h2)
            go_roundg q
            case measure=>omega
            case rel=>exact⟨_,by have:=HML.out;omega,rfl,lh ((HTM.out.trans (Touch.below HBM.out)).trans (((Touch.setCell (M:=fun b=>b=br) _ rfl).mono fun b _ e=>.inl e).trans (Touch.below ((Below.refl _ _).alloc (Nat.le_refl _) _)))),HST⟩
      | no σ' L' f' =>
       obtain⟨he,hs,hii⟩:=hm
       simp only[Ending.returned.injEq,Value.bool.injEq] at he
       subst he
       have HSC:=lh hs;have HII:=lh hii
       clear hs hii
       have hbk:=HGR.out.1.back
       have HBK:=lh hbk
       have HUW:=lh (UndoW HSC.out.st (HGR.out.1.ok HCJ.out.trail) (fun x hx=>by
        have h1:=(HGR.out.1.ok HCJ.out.trail).2 x hx
        obtain⟨u,hu⟩:=Option.ne_none_iff_exists'.1 h1
        have h2:=(HII.out.each x u hu).1
        have h3:=HKB.out x hx
        have h4:x.toNat<v+12+1:=by
         rcases h3 with h3 | h3
         ·obtain⟨u2,hu2⟩:=Option.ne_none_iff_exists'.1 (HCJ.out.trail.2 x h3)
          have:=(HCJ.out.dom x u2 hu2).2
          simp only at this;omega
         ·exact h3
        unfold I64;omega) hbk.2.2 (by have:=HGR.out.2;have:=HCJ.out.len;have:=HCJ.out.f;have:=HST.out;simp only at *;omega))
       obtain⟨q0,q1,q2,q3,q4,q5,q6,q7,q8,qf⟩:=HSC.out.cells
       clear hbk
       go_wp2_with (go_at_call 105;refine HUW.out.mono ?_;rintro e wu ⟨⟨uv,rfl⟩,htu,hsu⟩;have hfu:Fresh wc tvn (cutV tvn S.L.length):=.inl (cutV_own _ _);rw[HBK.out.1,HBK.out.2.1] at hsu;have HSU:=lh (HSC.out.store htu hfu hsu);have HTU:Hid (Touch (SM br bs bm tvn (.slice ca S.ch.length cc) av) wc wu):=lh (htu.mono fun b _ e=>.inr (.inl e));have HFU:=lh hfu;obtain⟨u0,u1,u2,u3,u4,u5,u6,u7,u8,uf⟩:=HSU.out.cells;replace u7:wu.cell? ⟨br,7,none⟩=some (.int .i64 0):=(by rw[u7];simp only[H0.out];rfl);clear htu hsu hfu)
       have HTALL:Hid (Touch (SM br bs bm (.slice ta S.L.length tc) (.slice ca S.ch.length cc) av) wq wu∧Fresh wq (.slice ta S.L.length tc) (cutV tvn S.L.length)):=lh ⟨touch_next (touch_next HTWZ.out HFR.out (Fresh.self _ _) (Fresh.self _ _) HTW.out) (HFR.out.trans HFN.out HTWZ.out.size) (Fresh.self _ _) (Fresh.self _ _) HTU.out,(HFR.out.trans HFN.out HTWZ.out.size).trans HFU.out (Nat.le_trans HTWZ.out.size HTW.out.size)⟩
       have HPR:Hid (pcall p ((t0,cut)::rest) t (j+1) { S with f:=f',vars:=v+12 }=pcall p ((t0,cut)::rest) t i S):=lh (by
        rw[← HPC.out]
        refine(pcall_go hlt (HFJ.out hlt) ?_).symm
        unfold pclause;simp only;rw[HMO.out])
       have hxu:=HXC.out.keep (HTU.out.block _ HXC.out.lt (fun e=>by
        rcases e with e | (e | e | e) | e | e
        ·have:=HN7.out _ (.inl e);omega
        ·have:=HN7.out _ (.inr (.inl (.inl e)));omega
        ·have:=HN7.out _ (.inr (.inl (.inr (.inl e))));omega
        ·rcases fresh_or (HFR.out.trans HFN.out HTWZ.out.size) e with e | e
         ·have:=HN7.out _ (.inr (.inl (.inr (.inr e))));omega
         ·omega
        ·have:=HN7.out _ (.inr (.inr (.inl e)));omega
        ·have:=HN7.out _ (.inr (.inr (.inr e)));omega))
       obtain⟨x0,x1,x2,xf⟩:=hxu.all
       have hn2:=nextF_ge p t (p.length-(j+1)) (j+1) rfl
       have HN2:=lh hn2
       have e1:((j+1:Nat):Int)=(j:Int)+1:=by omega
       have HNY:Hid (∀ u,Below wu.heap.size wu u→Calls Try.prog 111 #[.slice (some ⟨bp,off,none⟩) p.length pc,.string t.name,.int .i64 t.args.length,.int .i64 ((j:Int)+1)] u (fun e w'=>e=.returned (.int .i64 (nextF p t (j+1):Nat))∧Below wu.heap.size wu w')):=lh (fun u hu=>by
        have h:=NextW (HSU.out.prog.keep (Keeps.below hu _)) t (j+1) hlt
        rw[e1] at h
        exact h.mono fun e w' ⟨he,hb⟩=>⟨he,hu.trans (hb.mono hu.size)⟩)
       have HCN:Hid (CInv p ((t0,cut)::rest) t { S with f:=f',vars:=v+12 }):=lh (HCJ.out.more (f:=f') (by
        obtain⟨⟨N,hN,_⟩,h2⟩:=HGR.out
        have:=HCJ.out.f
        rw[hN,List.length_append] at h2
        simp only at this;omega))
       clear hxu hn2 e1
       try clear H0;try clear HB1;try clear HB2;try clear HB3;try clear HBK;try clear HBM;try clear HBN;try clear HBQ;try clear HBX;try clear HCB;try clear HCBC;try clear HCBD;try clear HCBE;try clear HCE;try clear HCI;try clear HCJ;try clear HDN;try clear HF1;try clear HF7;try clear HFA;try clear HFC;try clear HFJ;try clear HFM;try clear HFN;try clear HFP;try clear HFR;try clear HFU;try clear HG0;try clear HGB;try clear HGB';try clear HGF;try clear HGO';try clear HGOK;try clear HGR;try clear HGRE;try clear HGT;try clear HGT';try clear HGX;try clear HHF;try clear HII;try clear HKB;try clear HLN;try clear HLNX;try clear HLT;try clear HLW;try clear HML;try clear HMO;try clear HMV;try clear HN7;try clear HNF;try clear HNN;try clear HNX;try clear HOD;try clear HOE;try clear HOF;try clear HOK;try clear HOKZ;try clear HOX;try clear HP;try clear HPC;try clear HPOT;try clear HPS;try clear HQ;try clear HQ1;try clear HQ2;try clear HQ3;try clear HQL;try clear HQL2;try clear HSC;try clear HSD;try clear HSE;try clear HSF;try clear HSMW;try clear HSMX;try clear HSR;try clear HST;try clear HST2;try clear HSZ;try clear HSZW;try clear HT1;try clear HT7;try clear HT7';try clear HT7Z;try clear HTB;try clear HTBD;try clear HTBE;try clear HTBY;try clear HTBZ;try clear HTD;try clear HTE;try clear HTF;try clear HTH;try clear HTHZ;try clear HTM;try clear HTMM;try clear HTR;try clear HTU;try clear HTW;try clear HTWZ;try clear HTZ;try clear HUW;try clear HX7;try clear HX7';try clear HXC;try clear HXZ;try clear HZ;try clear HZK
       have HLT:=lh hlt;have hja:(j:Int)+1≤9223372036854775807:=(by omega)
       try clear hq2;try clear hta;try clear hlt;try clear hj;try clear hv9;try clear hb7;try clear l7;try clear lgb;try clear lbs;try clear lbr;try clear hsz0;try clear hsqw;try clear hsw;try clear hbr7;try clear hbp;try clear lbr';try clear hnx;try clear hj1;try clear hpl;try clear hblen;try clear hsyc;try clear hsde;try clear hm;try clear lcb;try clear lbx;try clear hq;try clear hk;try clear hc3;try clear hc4;try clear ht3;try clear ht4;try clear hQb;try clear hi;try clear hLl;try clear hCl
       go_still_tail 11,(by kernel_rfl)
       change wpList _ _ _ _ _ wu.drew
       go_wp2_with (go_at_call 111;refine(HNY.out _ (by with_reducible exact(Below.refl _ _).drew)).mono ?_;rintro e wn ⟨rfl,hbn⟩;have HBN:=lh hbn;clear hbn)
       all_goals
        go_wp2_with fail
        go_roundg (p.length-nextF p t (j+1))
        case measure=>have:=HN2.out.1;have:=HLT.out;have:=HGK.out;omega
        case rel=>exact⟨nextF p t (j+1),f',v+12,cutV tvn S.L.length,lh rfl,HN2.out.2 (by have:=HLT.out;omega),rfl,lh (fun hj=>nextF_is p t (p.length-(j+1)) (j+1) rfl hj),lh (HSU.out.below HBN.out),lh (HTALL.out.1.trans (Touch.below HBN.out)),lh HTALL.out.2,lh (by rw[← HPR.out];exact(pcall_next (p.length-(j+1)) (j+1) rfl).symm),HCN,lh (by have:=HPJ.out;have:=HN2.out.1;have:=HLT.out;omega)⟩
      | many σ' L' =>
       obtain⟨he,hs,hii⟩:=hm
       simp only[Ending.returned.injEq,Value.bool.injEq] at he
       subst he
       have HSC:=lh hs;have HII:=lh hii
       clear hs hii
       have hbk:=HGR.out.1.back
       have HBK:=lh hbk
       have HUW:=lh (UndoW HSC.out.st (HGR.out.1.ok HCJ.out.trail) (fun x hx=>by
        have h1:=(HGR.out.1.ok HCJ.out.trail).2 x hx
        obtain⟨u,hu⟩:=Option.ne_none_iff_exists'.1 h1
        have h2:=(HII.out.each x u hu).1
        have h3:=HKB.out x hx
        have h4:x.toNat<v+12+1:=by
         rcases h3 with h3 | h3
         ·obtain⟨u2,hu2⟩:=Option.ne_none_iff_exists'.1 (HCJ.out.trail.2 x h3)
          have:=(HCJ.out.dom x u2 hu2).2
          simp only at this;omega
         ·exact h3
        unfold I64;omega) hbk.2.2 (by have:=HGR.out.2;have:=HCJ.out.len;have:=HCJ.out.f;have:=HST.out;simp only at *;omega))
       obtain⟨q0,q1,q2,q3,q4,q5,q6,q7,q8,qf⟩:=HSC.out.cells
       clear hbk
       go_wp2_with (go_at_call 105;refine HUW.out.mono ?_;rintro e wu ⟨⟨uv,rfl⟩,htu,hsu⟩;have hfu:Fresh wc tvn (cutV tvn S.L.length):=.inl (cutV_own _ _);rw[HBK.out.1,HBK.out.2.1] at hsu;have HSU:=lh (HSC.out.store htu hfu hsu);have HTU:Hid (Touch (SM br bs bm tvn (.slice ca S.ch.length cc) av) wc wu):=lh (htu.mono fun b _ e=>.inr (.inl e));have HFU:=lh hfu;obtain⟨u0,u1,u2,u3,u4,u5,u6,u7,u8,uf⟩:=HSU.out.cells;clear htu hsu hfu)
       have HTALL:Hid (Touch (SM br bs bm (.slice ta S.L.length tc) (.slice ca S.ch.length cc) av) wq wu∧Fresh wq (.slice ta S.L.length tc) (cutV tvn S.L.length)):=lh ⟨touch_next (touch_next HTWZ.out HFR.out (Fresh.self _ _) (Fresh.self _ _) HTW.out) (HFR.out.trans HFN.out HTWZ.out.size) (Fresh.self _ _) (Fresh.self _ _) HTU.out,(HFR.out.trans HFN.out HTWZ.out.size).trans HFU.out (Nat.le_trans HTWZ.out.size HTW.out.size)⟩
       have HPR:Hid (pcall p ((t0,cut)::rest) t i S=({ S with f:=0,vars:=v+12,fin:=3 },true)):=lh (by
        rw[← HPC.out]
        refine pcall_done hlt (HFJ.out hlt) ?_
        unfold pclause;simp only;rw[HMO.out])
       go_ret
       rw[HPR.out]
       exact⟨rfl,(Touch.below HBX.out).trans HTALL.out.1,cutV tvn S.L.length,.slice ca S.ch.length cc,np,4001,HTALL.out.2.old HBX.out.size,Fresh.self _ _,HSU.out⟩
    ·have HST2:Hid (pcall p ((t0,cut)::rest) t i S=({ S with f:=f,vars:=v },false)):=lh (by rw[← HPC.out];exact pcall_stop hlt)
     go_wp2_with fail
     go_ret
     rw[HST2.out]
     exact⟨rfl,(Touch.below HBX.out).trans HTR.out,tvj,.slice ca S.ch.length cc,np,4000-f,HFR.out.old HBX.out.size,Fresh.self _ _,HSR.out⟩
def BkPost(w:World)(br bs bm:Nat)(tv cv av:Value)(pa:Option Addr)(pc:Nat)(p:List Cl)(query:Nat)(S':PS)(e:Ending)(w':World):Prop :=
 (∃ v,e=.returned v)∧Touch (SM br bs bm tv cv av) w w'∧∃ (tv' cv':Value) (np':Option Addr) (wk':Nat),Fresh w tv tv'∧Fresh w cv cv'∧SAt w' br bs bm tv' cv' av np' pa pc p query S' wk'
theorem trail_i64{p:List Cl}{S:PS}(h:BInv p S)(hv:S.vars≤1000000)(hI:∀ x u,S.σ x=some u→1≤x):∀ x,x∈S.L→I64 x:=fun x hx=>by
 obtain⟨u,hu⟩:=Option.ne_none_iff_exists'.1 (h.trail.2 x hx)
 have h1:=(h.dom x u hu).2
 have h2:=hI x u hu
 unfold I64;omega
theorem back_step{p:List Cl}(hp:POk p){S:PS}(h:BInv p S)(h0:S.fin=0){n:Nat}(hn:n<S.ch.length){r:PS×Bool}(hr:pcall p S.ch[n].gs (look S.ch[n].σ (headT S.ch[n].gs)) S.ch[n].cl { S with ch:=S.ch.take n,σ:=S.ch[n].σ,L:=S.ch[n].L,f:=4000 }=r)(h2:r.2=false) :
 n=r.1.ch.length∧BInv p r.1∧r.1.fin=0∧r.1.vars+12*potC p.length r.1.ch≤S.vars+12*potC p.length S.ch∧r.1.steps=S.steps:=by
 have hc:=h.call hn
 have hcl:=(h.snap S.ch[n] (List.getElem_mem hn)).2.2.1
 have hpot:=potC_at (m:=p.length) hn
 have hch:=pcall_ch (p:=p) (gs:=S.ch[n].gs) (s:=look S.ch[n].σ (headT S.ch[n].gs)) (p.length-S.ch[n].cl) S.ch[n].cl { S with ch:=S.ch.take n,σ:=S.ch[n].σ,L:=S.ch[n].L,f:=4000 } rfl
 obtain⟨⟨a1,a2⟩,b,c,d,e,f⟩:=call_inv hp (p.length-S.ch[n].cl) S.ch[n].cl { S with ch:=S.ch.take n,σ:=S.ch[n].σ,L:=S.ch[n].L,f:=4000 } rfl (by omega) hc
 rw[hr] at a2 b c d e f hch
 simp only at a2 b c d e f hch
 have hl:n=r.1.ch.length:=by rw[hch h2,List.length_take];omega
 have hf:r.1.fin=0:=f.elim (fun e=>e.trans h0) fun e=>by rw[h2] at e;cases e.2
 exact⟨hl,(a2 h2).toB,hf,by omega,d⟩
set_option maxRecDepth 100000 in
set_option maxHeartbeats 4000000 in
theorem BackW{p:List Cl}(hp:POk p)(hsz:∀ c,c∈p→c.head.size≤100000∧∀ b,b∈c.body→b.size≤100000){w:World}{br bs bm:Nat}{tv cv av:Value}{np pa:Option Addr}{pc:Nat}{query:Nat}{S:PS}{wk:Nat}(h:SAt w br bs bm tv cv av np pa pc p query S wk)
 (hb:BInv p S) (h0:S.fin=0) (hpot:S.vars+12*potC p.length S.ch≤1000000) (hst:S.steps≤400) :
 Calls Try.prog 101 #[.pointer (some ⟨br,0,none⟩)] w (BkPost w br bs bm tv cv av pa pc p query (pback p S.ch.length S)):=by
 have H:=lh h;have HP:=lh hp;have HSZ:=lh hsz;have HB:=lh hb;have H0:=lh h0;have HPOT:=lh hpot;have HST:=lh hst
 clear h hp hsz hb h0 hpot hst
 go_enter Try.func101,Try.ntmps101
 go_wp2_with fail
 go_loopg [] S.ch.length (fun k wr=>∃ (S':PS) (tvj cvj:Value) (npj:Option Addr) (wkj:Nat),k=S'.ch.length∧Hid (SAt wr br bs bm tvj cvj av npj pa pc p query S' wkj)∧Hid (Touch (SM br bs bm tv cv av) w wr)∧Hid (Fresh w tv tvj∧Fresh w cv cvj)∧Hid (BInv p S')∧Hid (pback p S'.ch.length S'=pback p S.ch.length S)∧Hid (S'.fin=0∧S'.vars+12*potC p.length S'.ch≤1000000∧S'.steps≤400))
 case atStart=>exact⟨S,tv,cv,np,wk,rfl,H,lh (Touch.refl _ _),lh ⟨Fresh.self _ _,Fresh.self _ _⟩,HB,lh rfl,lh ⟨H0.out,HPOT.out,HST.out⟩⟩
 case round =>
  obtain⟨S',tvj,cvj,npj,wkj,hk,HSJ,HTJ,HFJ,HBJ,HEJ,HNJ⟩:=hrel
  obtain⟨q0,q1,q2,q3,q4,q5,q6,q7,q8,qf⟩:=HSJ.out.cells
  obtain⟨s0,s1,s2,sf⟩:=HSJ.out.st.cells
  cases gk with
  | zero =>
   obtain⟨ca,cc,rfl,-⟩:∃ ca cc,cvj=.slice ca 0 cc∧True:=by
    obtain⟨Q,hQ,hr,_⟩:=HSJ.out.ch
    obtain⟨ca,cc,e,_⟩:=row_form hr
    have:Q.length=0:=by rw[← List.length_map (f:=(·.2)),hQ];exact hk.symm
    exact⟨ca,cc,by rw[e,this],trivial⟩
   have HE1:Hid (pback p S.ch.length S = { S' with fin:=1 }):=lh (by rw[← HEJ.out,← hk];rfl)
   clear hk
   have HS1:=lh (HSJ.out.setFin 1)
   have HT1:Hid (Touch (SM br bs bm tvj (.slice ca 0 cc) av) wr (wr.setCell ⟨br,7,none⟩ (.int .i64 (1:Nat)))):=lh ((Touch.setCell (M:=fun b=>b=br) _ rfl).mono fun b _ e=>.inl e)
   go_wp2_with fail
   refine bodyPost_ret (v:=.tuple #[]) (by simp[results,Try.results101,go_sem]) rfl ?_
   rw[HE1.out]
   exact⟨⟨_,rfl⟩,touch_next HTJ.out HFJ.out.1 HFJ.out.2 (Fresh.self _ _) HT1.out,tvj,.slice ca 0 cc,npj,wkj,HFJ.out.1,HFJ.out.2,HS1.out⟩
  | succ n =>
   have hn:n<S'.ch.length:=by omega
   obtain⟨g,cap,gp,rfl,hcap1,hcap2,hgl,hgf,g0,g1,g2,hgat⟩:=HSJ.out.last hn
   have HGAT:=lh hgat
   clear hgat
   have HCI:=lh (HBJ.out.call hn)
   have HSN:=lh (HBJ.out.snap S'.ch[n] (List.getElem_mem hn))
   have HPB:Hid (∀ r,pcall p S'.ch[n].gs (look S'.ch[n].σ (headT S'.ch[n].gs)) S'.ch[n].cl { S' with ch:=S'.ch.take n,σ:=S'.ch[n].σ,L:=S'.ch[n].L,f:=4000 }=r→pback p S.ch.length S=if r.2=true then r.1 else pback p n r.1):=lh (fun r hr=>by
    rw[← HEJ.out,← hk]
    simp only[pback]
    rw[List.getElem?_eq_getElem hn]
    simp only
    rw[hr])
   have hm64:S'.ch.length≤9223372036854775807:=by unfold maxLen at hcap2;omega
   have hsub:((S'.ch.length:Int)-1)=(n:Int):=by omega
   clear hk
   have hnn:(n:Int)<(S'.ch.length:Int):=by omega
   have hn0:(0:Int)≤(n:Int):=by omega
   have hcapi:(n:Int)≤(cap:Int):=by omega
   have hlp:(0:Int)<(S'.ch.length:Int):=by omega
   have lbr:=HSJ.out.lt
   go_upto_region 1 with fail
   go_cut[2] (fun v2 wx=>∃ b2,v2=.pointer (some ⟨b2,0,none⟩)∧wr.heap.size≤b2∧wx.heap[b2]? = some (.cells #[.pointer gp,.int .i64 S'.ch[n].cl,.int .i64 S'.ch[n].L.length] 168 (0,0))∧Below wr.heap.size wr wx)
   case first =>
    go_region
    all_goals
     go_wp2_with fail
     go_meet
     exact⟨_,rfl,Nat.le_refl _,heap_alloc_new _ _,((Below.refl _ _).drew).alloc (Nat.le_refl _) _⟩
   case rest =>
    obtain⟨b2,rfl,hb2,hbx,hbl⟩:=hcut
    have HSA:=lh (HSJ.out.below hbl)
    have HBX:=lh hbx
    have HGA:=lh ((HGAT.out.keep (Keeps.below hbl _)).mono fun b _ hb=>(⟨Nat.lt_of_lt_of_le hb.1 hbl.size,hb.2⟩:OkS wc br bs bm tvj (.slice (some ⟨g,0,none⟩) S'.ch.length cap) av b))
    have HTA:Hid (Touch (SM br bs bm tvj (.slice (some ⟨g,0,none⟩) S'.ch.length cap) av) wr wc):=lh (Touch.below hbl)
    have lb2:b2<wc.heap.size:=(Array.getElem?_eq_some_iff.1 hbx).1
    have HN2:Hid (¬ SM br bs bm tvj (.slice (some ⟨g,0,none⟩) S'.ch.length cap) av b2):=lh (fun e=>by have:=SM_lt HSJ.out e;omega)
    clear hbx hbl q0 q1 q2 q3 q4 q5 q6 q7 q8 qf s0 s1 s2 sf g0 g1 g2 hgf
    generalize wc=wa at *
    obtain⟨q0,q1,q2,q3,q4,q5,q6,q7,q8,qf⟩:=HSA.out.cells
    go_upto_region 2 with fail
    go_cut[] (fun wx=>∃ u,Below wa.heap.size wa u∧wx=u.setCell ⟨br,4,none⟩ (.slice (some ⟨g,0,none⟩) n cap))
    case first =>
     go_region
     all_goals
      go_wp2_with fail
      go_meet
      exact⟨_,(Below.refl _ _).drew,rfl⟩
    case rest =>
     obtain⟨u,hu,rfl⟩:=hcut
     obtain⟨hcs,hct,hcf⟩:=(HSA.out.below hu).cut (k:=n) (by omega)
     have hcv:cutV (.slice (some ⟨g,0,none⟩) S'.ch.length cap) n=.slice (some ⟨g,0,none⟩) n cap:=rfl
     rw[hcv] at hcs hct hcf
     have HSB:Hid (SAt (u.setCell ⟨br,4,none⟩ (.slice (some ⟨g,0,none⟩) n cap)) br bs bm tvj (.slice (some ⟨g,0,none⟩) n cap) av npj pa pc p query { S' with ch:=S'.ch.take n } wkj):=lh hcs
     have HTB:Hid (Touch (SM br bs bm tvj (.slice (some ⟨g,0,none⟩) S'.ch.length cap) av) wr (u.setCell ⟨br,4,none⟩ (.slice (some ⟨g,0,none⟩) n cap))):=lh ((HTA.out.trans (Touch.below hu)).trans hct)
     have HFB:Hid (Fresh wr (.slice (some ⟨g,0,none⟩) S'.ch.length cap) (.slice (some ⟨g,0,none⟩) n cap)):=lh (.inl rfl)
     have hta:=(Touch.below (M:=SM br bs bm tvj (.slice (some ⟨g,0,none⟩) S'.ch.length cap) av) hu).trans hct
     have hbx:=(hta.block b2 lb2 HN2.out).trans HBX.out
     have HBY:=lh hbx
     have HOB:=okS_step hta (Fresh.self _ tvj) (show Fresh wa (.slice (some ⟨g,0,none⟩) S'.ch.length cap) (.slice (some ⟨g,0,none⟩) n cap) from .inl rfl) (Fresh.self _ av)
     have HGB:=lh ((HGA.out.keep HOB.1).mono fun b _=>HOB.2 b)
     have lb3:b2<(u.setCell ⟨br,4,none⟩ (.slice (some ⟨g,0,none⟩) n cap)).heap.size:=(Array.getElem?_eq_some_iff.1 hbx).1
     clear hu hcs hct hcf hcv hta hbx HOB q0 q1 q2 q3 q4 q5 q6 q7 q8 qf
     generalize u.setCell ⟨br,4,none⟩ (.slice (some ⟨g,0,none⟩) n cap)=wb at *
     obtain⟨q0,q1,q2,q3,q4,q5,q6,q7,q8,qf⟩:=HSB.out.cells
     have hby:=HBY.out
     have y0:wb.cell? ⟨b2,0,none⟩=some (.pointer gp):=by simp[World.cell?,hby]
     have y1:wb.cell? ⟨b2,1,none⟩=some (.int .i64 S'.ch[n].cl):=by simp[World.cell?,hby]
     have y2:wb.cell? ⟨b2,2,none⟩=some (.int .i64 S'.ch[n].L.length):=by simp[World.cell?,hby]
     have HUW:Hid (∀ u,Below wb.heap.size wb u→Calls Try.prog 105 #[.pointer (some ⟨bs,0,none⟩),.int .i64 S'.ch[n].L.length] u (fun e w'=>(∃ v,e=.returned v)∧Touch (StM bs bm tvj) wb w'∧StAt w' (OkS wb br bs bm tvj (.slice (some ⟨g,0,none⟩) n cap) av) bs bm (cutV tvj S'.ch[n].L.length) S'.ch[n].σ S'.ch[n].L wkj)):=lh (fun u hu=>by
      have hs:=HSN.out.1
      refine(UndoW (HSB.out.st.keep hu) HBJ.out.trail (show ∀ x,x∈S'.L→I64 x from trail_i64 HBJ.out (by have:=HNJ.out.2.1;omega) (fun x u e=>(HBJ.out.sinv.each x u e).1)) hs.2.1 (by have:=HBJ.out.len;have:=HNJ.out.2.2;simp only;omega)).mono ?_
      rintro e w' ⟨h1,h2,h3⟩
      rw[← hs.1,hs.2.2] at h3
      exact⟨h1,(Touch.below hu).trans h2,h3⟩)
     clear hby
     go_upto_region 3 with fail
     go_cut[] (fun wx=>Touch (StM bs bm tvj) wb wx∧StAt wx (OkS wb br bs bm tvj (.slice (some ⟨g,0,none⟩) n cap) av) bs bm (cutV tvj S'.ch[n].L.length) S'.ch[n].σ S'.ch[n].L wkj)
     case first =>
      go_region_with (go_at_call 105;refine(HUW.out _ (by with_reducible exact(Below.refl _ _).drew)).mono ?_;rintro e wu ⟨⟨uv,rfl⟩,htu,hsu⟩)
      all_goals
       go_wp2_with fail
       go_meet
       exact⟨htu,hsu⟩
     case rest =>
      obtain⟨htu,hsu⟩:=hcut
      have hfu:Fresh wb tvj (cutV tvj S'.ch[n].L.length):=.inl (cutV_own _ _)
      have hsc:=HSB.out.store htu hfu hsu
      have htc:Touch (SM br bs bm tvj (.slice (some ⟨g,0,none⟩) n cap) av) wb wc:=htu.mono fun b _ e=>.inr (.inl e)
      have HSC:=lh hsc
      have HTC:=lh (touch_next HTB.out (Fresh.self _ _) HFB.out (Fresh.self _ _) htc)
      have HFC:Hid (Fresh wr tvj (cutV tvj S'.ch[n].L.length)):=lh (.inl (cutV_own _ _))
      obtain⟨hsd,htd⟩:=hsc.setWork 0
      have HSD:=lh hsd;have HTD:=lh htd
      have hsw:(wc.setCell ⟨bs,2,none⟩ (.int .i64 (0:Nat))).heap.size=wc.heap.size:=by simp[World.setCell]
      have hOC:=okS_step htc hfu (Fresh.self _ (.slice (some ⟨g,0,none⟩) n cap)) (Fresh.self _ av)
      have hOD:=okS_step htd (Fresh.self _ (cutV tvj S'.ch[n].L.length)) (Fresh.self _ (.slice (some ⟨g,0,none⟩) n cap)) (Fresh.self _ av)
      have HGD:=lh ((((HGB.out.keep hOC.1).mono fun b _=>hOC.2 b).keep hOD.1).mono fun b _=>hOD.2 b)
      have HN3:¬ SM br bs bm tvj (.slice (some ⟨g,0,none⟩) n cap) av b2:=fun e=>HN2.out (by
       rcases e with e | e | e | e
       ·exact .inl e
       ·exact .inr (.inl e)
       ·exact .inr (.inr (.inl e))
       ·exact .inr (.inr (.inr e)))
      have HN4:¬ SM br bs bm (cutV tvj S'.ch[n].L.length) (.slice (some ⟨g,0,none⟩) n cap) av b2:=fun e=>HN3 (by
       rcases e with e | (e | e | e) | e | e
       ·exact .inl e
       ·exact .inr (.inl (.inl e))
       ·exact .inr (.inl (.inr (.inl e)))
       ·exact .inr (.inl (.inr (.inr (by rw[cutV_own] at e;exact e))))
       ·exact .inr (.inr (.inl e))
       ·exact .inr (.inr (.inr e)))
      have hbc:=(htc.block b2 lb3 HN3).trans HBY.out
      have hbd:=(htd.block b2 (Array.getElem?_eq_some_iff.1 hbc).1 HN4).trans hbc
      have z0:(wc.setCell ⟨bs,2,none⟩ (.int .i64 0)).cell? ⟨b2,0,none⟩=some (.pointer gp):=by
       have e:(wc.setCell ⟨bs,2,none⟩ (.int .i64 0)).heap[b2]? = _:=hbd
       simp only[World.cell?,e];rfl
      have z1:(wc.setCell ⟨bs,2,none⟩ (.int .i64 0)).cell? ⟨b2,1,none⟩=some (.int .i64 S'.ch[n].cl):=by
       have e:(wc.setCell ⟨bs,2,none⟩ (.int .i64 0)).heap[b2]? = _:=hbd
       simp only[World.cell?,e];rfl
      obtain⟨r0,hr⟩:∃ r0,pcall p S'.ch[n].gs (look S'.ch[n].σ (headT S'.ch[n].gs)) S'.ch[n].cl { S' with ch:=S'.ch.take n,σ:=S'.ch[n].σ,L:=S'.ch[n].L,f:=4000 }=r0:=⟨_,rfl⟩
      have HCW:=CallW (S:={ S' with ch:=S'.ch.take n,σ:=S'.ch[n].σ,L:=S'.ch[n].L,f:=4000 }) HP.out HSZ.out (HSD.out.plain rfl rfl rfl rfl rfl rfl rfl rfl) HGD.out (t:=look S'.ch[n].σ (headT S'.ch[n].gs)) rfl HCI.out HNJ.out.1 (i:=S'.ch[n].cl) (by have:=HSN.out.2.2.1;omega) (by have:=potC_at (m:=p.length) hn;have:=HNJ.out.2.1;simp only;omega) HNJ.out.2.2
      rw[hr] at HCW
      have HCW':=lh HCW
      have HPR:=lh (HPB.out _ hr)
      have HBS:=lh (back_step HP.out HBJ.out HNJ.out.1 hn hr)
      obtain⟨q0,q1,q2,q3,q4,q5,q6,q7,q8,qf⟩:=hsc.cells
      obtain⟨s0,s1,s2,sf⟩:=hsc.st.cells
      clear hsu htu hfu hsc htc hsd htd hOC hOD HN3 HN4 hbc hbd HCW hr HUW HPB y0 y1 y2
      obtain⟨r1,b⟩:=r0
      cases b with
      | true =>
       go_wp2_with (go_at_call 103;refine HCW'.out.mono ?_;rintro e wk ⟨rfl,htk,tvk,cvk,npk,wkk,hfk,hgk,hsk⟩;have HTK:=lh htk;have HFK:=lh hfk;have HGK:=lh hgk;have HSK:=lh hsk;clear htk hfk hgk hsk)
       have HTZ:Hid (Touch (SM br bs bm tv cv av) w wk∧Fresh w tv tvk∧Fresh w cv cvk):=lh (by
        have t1:=touch_next HTC.out HFC.out HFB.out (Fresh.self _ _) HTD.out
        have t2:=touch_next t1 HFC.out HFB.out (Fresh.self _ _) HTK.out
        have hz:wr.heap.size≤(wc.setCell ⟨bs,2,none⟩ (.int .i64 (0:Nat))).heap.size:=t1.size
        have f1:=HFC.out.trans HFK.out hz
        have f2:=HFB.out.trans HGK.out hz
        exact⟨touch_next HTJ.out HFJ.out.1 HFJ.out.2 (Fresh.self _ _) t2,HFJ.out.1.trans f1 HTJ.out.size,HFJ.out.2.trans f2 HTJ.out.size⟩)
       refine bodyPost_ret (v:=.tuple #[]) (by simp[results,Try.results101,go_sem]) rfl ?_
       rw[show pback p S.ch.length S=r1 from HPR.out.trans (if_pos (by first | rfl | trivial))]
       exact⟨⟨_,rfl⟩,HTZ.out.1,tvk,cvk,npk,wkk,HTZ.out.2.1,HTZ.out.2.2,HSK.out⟩
      | false =>
       go_wp2_with (go_at_call 103;refine HCW'.out.mono ?_;rintro e wk ⟨rfl,htk,tvk,cvk,npk,wkk,hfk,hgk,hsk⟩;have HTK:=lh htk;have HFK:=lh hfk;have HGK:=lh hgk;have HSK:=lh hsk;clear htk hfk hgk hsk)
       have HTZ:Hid (Touch (SM br bs bm tv cv av) w wk∧Fresh w tv tvk∧Fresh w cv cvk):=lh (by
        have t1:=touch_next HTC.out HFC.out HFB.out (Fresh.self _ _) HTD.out
        have t2:=touch_next t1 HFC.out HFB.out (Fresh.self _ _) HTK.out
        have hz:wr.heap.size≤(wc.setCell ⟨bs,2,none⟩ (.int .i64 (0:Nat))).heap.size:=t1.size
        have f1:=HFC.out.trans HFK.out hz
        have f2:=HFB.out.trans HGK.out hz
        exact⟨touch_next HTJ.out HFJ.out.1 HFJ.out.2 (Fresh.self _ _) t2,HFJ.out.1.trans f1 HTJ.out.size,HFJ.out.2.trans f2 HTJ.out.size⟩)
       obtain⟨h1,h2,h3,h4,h5⟩:=HBS.out (by first | rfl | trivial)
       have e9:pback p S.ch.length S=pback p n r1:=HPR.out.trans (if_neg (by first | decide | simp))
       go_roundg n
       case measure=>omega
       case rel=>exact⟨r1,tvk,cvk,npk,wkk,h1,HSK,lh HTZ.out.1,lh ⟨HTZ.out.2.1,HTZ.out.2.2⟩,lh h2,lh (by rw[e9,← h1]),lh ⟨h3,by have:=HNJ.out.2.1;omega,by rw[h5];exact HNJ.out.2.2⟩⟩
end Go.Proofs.Ytikmgiapjigghab
