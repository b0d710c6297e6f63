/- Walk: the runner calls a goal. -/
import Derived.StillTailTactics
import Derived.Deep.CutRange
import Derived.Deep.LoopGhost
import Derived.Test.YtikmgiapjigghabQc17
import Derived.Test.YtikmgiapjigghabQc27
import Derived.Test.YtikmgiapjigghabQc28
set_option maxRecDepth 100000
set_option maxHeartbeats 8000000
namespace Go.Proofs.Ytikmgiapjigghab
open Go.RowKit Go.Shelf
structure bF5(w:World)(Z:Nat→Prop)(R:Nat)(p:List Cl)(pa:Option Addr)(pc:Nat)(S:MS)(d:MAd)(P:PS)(n:Nat)(gs:List eD)(t:Tm):Prop where
 rn:aX w Z R p pa pc S.mac d (4000-S.f)
 ci:fM p S P n gs t
 cl:∀c,c∈p→ClG c
 room:S.H.length+833≤400000∧S.G.length+6≤5000
 tr:S.T.length≤100000000
 ch:S.ch.length≤100000000
 zn:∀b,Z b→b<w.heap.size
theorem aZ1{w:World}{Z:Nat→Prop}{R:Nat}{p:List Cl}{pa:Option Addr}{pc:Nat}{S:MS}{d:MAd}{P:PS}{n:Nat}{gs:List eD}{t:Tm}(h:bF5 w Z R p pa pc S d P n gs t){i:Nat}(hi:i≤p.length) :
 Calls Try.prog 87 #[.pointer (some ⟨R,0,none⟩),.int .i64 n,.int .i64 i] w (kF w Z R p pa pc d (dG p n i S)):=by
 obtain⟨c0,c1,c2,c3,c4,c5,c6,c7,c8,c9,c10,cf⟩:=h.rn.cells;have zR:=h.rn.lt;obtain⟨D,Sc,g,r,hG⟩:=h.ci.goal;have htl:t=look P.σ g.1:=by rw[h.ci.t.1,hG.gs];rfl
 obtain⟨hk2,hnm,hnn,-⟩:=(hG.cell htl).2 h.ci.t.2;obtain⟨k1,k2,k3,k4⟩:=hG.num;have hI:=hG.sit.hang.heap;obtain⟨k,hk⟩:=fI (hI.straight _ k4);obtain⟨q,rfl⟩:∃q,n=q+1:=⟨n-1,by omega⟩
 obtain⟨hel,-⟩:=hI.end k4;have hq:q<S.mac.G.length:=by simp[MS.mac];omega
 obtain⟨ah,ch,e,hp⟩:=dV.of_row (ok:=fun _=>True) h.rn.rows.h.row (fun _ _=>trivial) h.rn.rows.h.fits;injection e with e1 _ e2;have e1':ah=d.h:=e1.symm;have e2':ch=d.hn:=e2.symm;subst e1';subst e2';obtain⟨ag,cg,e,hg⟩:=cZ.of_row (ok:=fun _=>True) h.rn.rows.g (dN _) (fun _ _=>trivial);injection e with e1 _ e2;have e1':ag=d.g:=e1.symm;have e2':cg=d.gn:=e2.symm;subst e1';subst e2';obtain⟨b,off,hbg,-,zb,hcs⟩:=hg.some (by decide) (by omega);rw[hbg] at c2;obtain⟨g0,g1,g2⟩:=fU S.mac.G q hq;have hgq:S.mac.G[q]=(gn S q).gl:=by
  have hq':q<S.G.length:=by simpa[MS.mac] using hq
  simp only[MS.mac,List.getElem_map,gn];rw[List.getD_eq_getElem?_getD,List.getElem?_eq_getElem hq'];rfl
 rw[hgq] at g0 g1 g2;have m0:=hcs _ _ g0;have m1:=hcs _ _ g1;have m2:=hcs _ _ g2;simp only[Gn.gl] at m0 m1 m2;rw[←Nat.add_assoc] at m1 m2;obtain⟨hgm,hgl⟩:S.mac.G.length=S.G.length∧S.mac.G.length≤9223372036854775807:=⟨by simp[MS.mac],by have:=hg.cap;unfold maxLen at this;omega⟩
 obtain⟨b2,off2,hbh,-,zb2,h0,h1,h2,-⟩:=hp.at' (aF S (q+1)) hel;rw[hbh] at c1;have HBH:=lh hbh;have hl9:S.mac.H.length≤9223372036854775807:=by have:=hp.cap;unfold maxLen at this;omega
 obtain⟨e0,he0⟩:∃e0,e0=aF S (q+1):=⟨_,rfl⟩
 have hE0:aG S.H (gn S q).at'=e0:=he0.symm;have hel:aF S (q+1)<S.H.length:=hel;rw[←he0] at h0 h1 h2 hel hk2 hnm hnn;have hSm:S.mac.H=S.H:=rfl;rw[hSm] at h0 h1 h2 hl9;rw[hk2] at h0;rw[hnn] at h1;rw[hnm] at h2;have hH:=lh h;have HG:=lh hG;have HP:=lh hp;have HK:=lh hk;have HGM:=lh hgm;have HI:=lh hI;have HE0:=lh he0;have HK4:=lh k4;have HNF:Hid (∀i,bE p (fP (hc S.H (aF S (q+1)))) i=bE p t i):=lh fun i=>by rw[←he0];exact uM hnm hnn i
 have HFC:Hid (∀c,fG c (fP (hc S.H (aF S (q+1))))↔fG c t):=lh fun c=>by rw[←he0];exact aF4 hnm hnn
 clear h hG hp hk hgm hg hcs g0 g1 g2 hgq hI he0 hbh hbg hk2 hnm hnn htl k1 k2 k3 k4;have hB0:Below w.heap.size w (w.alloc (.cells #[.int .i64 ((gn S q).at':Int),.int .i64 ((gn S q).cut:Int),.int .i64 ((gn S q).next:Int)] 65)):=(bR _ _).alloc (nR _) _;have y1:=(hB0.cell (p:=⟨R,1,none⟩) zR).trans c1;have hN0:=heap_alloc_new w (.cells #[.int .i64 ((gn S q).at':Int),.int .i64 ((gn S q).cut:Int),.int .i64 ((gn S q).next:Int)] 65);have HB0:=lh hB0;have HN0:=lh hN0;clear hB0 hN0;go_enter Try.func87,Try.ntmps87;go_upto_region 2 with fail;generalize hX:w.alloc (.cells #[.int .i64 ((gn S q).at':Int),.int .i64 ((gn S q).cut:Int),.int .i64 ((gn S q).next:Int)] 65)=X at *;have y7:X.cell? ⟨w.heap.size,0,none⟩=some (.int .i64 ((gn S q).at':Int)):=by simp[World.cell?,HN0.out]
 have HEW:Hid (Calls Try.prog 85 #[.slice (some ⟨b2,off2,none⟩) S.H.length d.hn,.int .i64 ((gn S q).at':Nat)] X.drew fun e w'=>e=.returned (.int .i64 (e0:Nat))∧w'=X.drew):=lh (by
  have:=(aK1 (HP.out.below HB0.out.drew) HI.out.cells HK.out HK4.out).mono (R':=fun e w'=>e=.returned (.int .i64 (e0:Nat))∧w'=X.drew) fun _ _ h=>⟨by rw[h.1];rw[show aG S.H (gn S (q+1-1)).at'=e0 from hE0],h.2.symm⟩
  rw[HBH.out] at this;exact this)
 go_still_tail 7,(by kernel_rfl)
 change wpList _ _ _ _ _ (World.drew _);go_upto_region 3 with (go_at_call 85;refine HEW.out.mono ?_;rintro e w2 ⟨rfl,rfl⟩);have hBY:Below w.heap.size w X.drew:=HB0.out.drew;have hNY:X.drew.heap[w.heap.size]? = _:=HN0.out;clear HEW y1 y7 HN0 HB0;generalize X.drew=Y at *;have HBY:=lh hBY;have HNY:=lh hNY;have HRY:=lh (hH.out.rn.below hBY);have y1:=(hBY.cell (p:=⟨R,1,none⟩) zR).trans c1;have d0:=(hBY.cell (p:=⟨b2,off2+e0*3,none⟩) zb2).trans h0;have d1:=(hBY.cell (p:=⟨b2,off2+e0*3+1,none⟩) zb2).trans h1;have d2:=(hBY.cell (p:=⟨b2,off2+e0*3+2,none⟩) zb2).trans h2;have HZ7:Hid (w.heap.size<Y.heap.size):=lh (gS hNY).1;have HMW:Hid (∀u,Below Y.heap.size Y u→Calls Try.prog 88 #[.pointer (some ⟨R,0,none⟩),.int .i64 ((q+1:Nat):Int),.int .i64 0] u fun e w'=>e=.returned (.agg #[.int .i64 ((q:Int)+1),.int .i64 0,.int .i64 S.H.length,.int .i64 S.T.length,.int .i64 S.G.length])∧Below u.heap.size u w'):=lh fun u hu=>by
  have h1:=bJ6 (HRY.out.below hu) ((q+1:Nat):Int) 0;have e1:S.mac.T.length=S.T.length:=by simp[MS.mac]
  have e2:S.mac.G.length=S.G.length:=by simp[MS.mac]
  rw[e1,e2] at h1;exact h1
 clear hBY hNY h0 h1 h2;go_upto_region 5 with (go_at_call 88;refine(HMW.out _ ((bR _ _).alloc (nR _) _)).mono ?_;rintro e w3 ⟨rfl,hb3⟩;have HB3:=lh hb3;clear hb3);have hBu:Below Y.heap.size Y (Y.alloc (.cells #[.int .i64 2,.int .i64 t.args.length,.string t.name] 69)):=(bR _ _).alloc (nR _) _;have hB3:Below Y.heap.size Y w3:=hBu.trans (HB3.out.mono hBu.size);have hB5:Below Y.heap.size Y (w3.alloc (.cells #[.int .i64 ((q:Int)+1),.int .i64 0,.int .i64 S.H.length,.int .i64 S.T.length,.int .i64 S.G.length] 67)):=hB3.alloc hB3.size _;have hN9:w3.heap[Y.heap.size]? = some (.cells #[.int .i64 2,.int .i64 t.args.length,.string t.name] 69 (0,0)):=(HB3.out.block _ (by simp)).trans (heap_alloc_new _ _);have hL9:Y.heap.size<w3.heap.size:=(gS hN9).1;have hN9':=(Below.heap_alloc w3 (.cells #[.int .i64 ((q:Int)+1),.int .i64 0,.int .i64 S.H.length,.int .i64 S.T.length,.int .i64 S.G.length] 67) _ hL9).trans hN9;have hN10:=heap_alloc_new w3 (.cells #[.int .i64 ((q:Int)+1),.int .i64 0,.int .i64 S.H.length,.int .i64 S.T.length,.int .i64 S.G.length] 67);have hN7:=(hB5.block _ HZ7.out).trans HNY.out;have HR5':Hid (aX (w3.alloc (.cells #[.int .i64 ((q:Int)+1),.int .i64 0,.int .i64 S.H.length,.int .i64 S.T.length,.int .i64 S.G.length] 67)) (fun x=>Z x∨x=w3.heap.size) R p pa pc S.mac d (4000-S.f)):=lh (((HRY.out.below hB3).zmono fun x hx e=>e.elim id fun e=>by omega).below ((bR _ _).alloc (nR _) _));clear hBu hB3 hN9 HB3 HNY HMW d0 d1 d2 y1;generalize hW5:w3.alloc (.cells #[.int .i64 ((q:Int)+1),.int .i64 0,.int .i64 S.H.length,.int .i64 S.T.length,.int .i64 S.G.length] 67)=W5 at *;clear hW5;have HR5:=lh HR5'.out;have HB5:Hid (Below w.heap.size w W5):=lh (HBY.out.trans (hB5.mono HBY.out.size));have HN7:=lh hN7;have HN9:=lh hN9';have HN10:=lh hN10;have y0:=(HB5.out.cell (p:=⟨R,0,none⟩) zR).trans c0;have y91:W5.cell? ⟨Y.heap.size,1,none⟩=some (.int .i64 t.args.length):=by simp[World.cell?,hN9']
 have y92:W5.cell? ⟨Y.heap.size,2,none⟩=some (.string t.name):=by simp[World.cell?,hN9']
 have HNX:Hid (Calls Try.prog 111 #[.slice pa p.length pc,.string t.name,.int .i64 t.args.length,.int .i64 i] W5.drew fun e w'=>e=.returned (.int .i64 (bE p t i:Nat))∧Below W5.heap.size W5 w'):=lh ((bJ8 (HR5.out.below ((bR _ _).drew)).prog t i hi).mono fun e w' h=>⟨h.1,(Below.refl W5.heap.size W5).drew.trans h.2⟩);have HZ:Hid (w.heap.size≤Y.heap.size∧w.heap.size<w3.heap.size):=lh ⟨Nat.le_of_lt HZ7.out,by have:=HZ7.out;omega⟩;generalize Y.heap.size=b9 at *;generalize w3.heap.size=b10 at *;clear hN7 hN9' hN10 HRY HBY hB5 hL9 HZ7
 go_still_tail 9,(by kernel_rfl)
 change wpList _ _ _ _ _ (World.drew _);go_wp2_with (go_at_call 111;refine HNX.out.mono ?_;rintro e wl ⟨rfl,hbl⟩;have HBL:=lh hbl;clear hbl);have HL7:Hid (wl.heap[w.heap.size]? = _):=lh ((HBL.out.block _ (gS HN7.out).1).trans HN7.out);have HL9:Hid (wl.heap[b9]? = _):=lh ((HBL.out.block _ (gS HN9.out).1).trans HN9.out);have HL10:Hid (wl.heap[b10]? = _):=lh ((HBL.out.block _ (gS HN10.out).1).trans HN10.out);have HLW:Hid (Below w.heap.size w wl):=lh (HB5.out.trans (HBL.out.mono HB5.out.size));have HLN:Hid (∀x,x=w.heap.size∨x=b9∨x=b10→w.heap.size≤x∧x<wl.heap.size∧¬RM R d x):=lh (by
  have h7:=(gS HL7.out).1;have h9:=(gS HL9.out).1;have h10:=(gS HL10.out).1;have hz:=HZ.out;have hr:=hH.out.rn.rmlt;rintro x (e|e|e)
  ·exact⟨by omega,by omega,fun k=>by have:=hr _ k;omega⟩
  ·exact⟨by omega,by omega,fun k=>by have:=hr _ k;omega⟩
  ·exact⟨by omega,by omega,fun k=>by have:=hr _ k;omega⟩)
 have HI0:Hid (CaI wl wl (fun x=>Z x∨x=b10) R p pa pc S d d (q+1) i gs t S.f (bE p t i)):=lh ⟨HR5.out.below HBL.out,bB.refl _ _,aA.refl _ _,⟨P,hH.out.ci⟩,by
  have:=uI (p:=p) (n:=q+1) (S:=S) _ i rfl;rw[HNF.out] at this;exact this,fun h hj=>aI4 p t _ i rfl h⟩
 have HZN:Hid (∀x,(Z x∨x=b10)→x<wl.heap.size):=lh fun x hx=>hx.elim (fun e=>by have:=hH.out.zn x e;have:=HLW.out.size;omega) fun e=>(HLN.out x (.inr (.inr e))).2.1
 have HNW:Hid (∀(u:World) (ok:Nat→Prop) (k:Nat),k≤p.length→Pr u ok p pa pc→Calls Try.prog 111 #[.slice pa p.length pc,.string t.name,.int .i64 t.args.length,.int .i64 k] u fun e w'=>e=.returned (.int .i64 (bE p t k:Nat))∧Below u.heap.size u w'):=lh fun u ok k hk hp=>bJ8 hp t k hk
 have hpl:p.length≤9223372036854775807:=by have:=hH.out.rn.prog.room;unfold maxLen at this;omega
 clear HNX HR5 HB5 HN7 HN9 HN10 y0 y91 y92 HBL c0 c1 c2 c3 c4 c5 c6 c7 c8 c9 c10 cf m0 m1 m2 HP HK HI HG HK4
 go_loopw[11] (fun x11 wr=>∃(f j:Nat) (d':MAd),j≤p.length∧x11=.int .i64 (j:Int)∧Hid (CaI wl wr (fun x=>Z x∨x=b10) R p pa pc S d d' (q+1) i gs t f j)) (fun x11 _=>p.length-(intOf x11).toNat)
 case atStart=>exact⟨S.f,bE p t i,d,(vV p t _ i rfl).2 hi,rfl,HI0⟩
 case round =>
  obtain⟨f,j,d2,hj,rfl,HC⟩:=hrel;obtain⟨c0,c1,c2,c3,c4,c5,c6,c7,c8,c9,c10,cf⟩:=HC.out.rn.cells;have zr:=HC.out.rn.lt;by_cases hlt:j<p.length
  ·obtain⟨K1,V1,a,r,hr,hcf⟩:=HC.out.clause hH.out.cl hH.out.room hH.out.ci.fin.1 hH.out.ci.first hlt (HNF.out _) (HFC.out _)
   have HR:=lh hr;have HF:=lh hcf;obtain⟨b3,off3,a1,a2,q1,q2,hpa,hokb,hbs,hc3,hc4,ht1,ht2⟩:=HC.out.rn.prog.elem j hlt;have hBm:Below wr.heap.size wr (wr.alloc (.map #[] 0)):=(bR _ _).alloc (nR _) _;have z0:=(hBm.cell (p:=⟨R,0,none⟩) zr).trans c0;have z1:=(hBm.cell (p:=⟨R,1,none⟩) zr).trans c1;have zf:∀o,(wr.alloc (.map #[] 0)).frozen? ⟨R,o,none⟩=false:=fun o=>by have:=cf o;have hb:=hBm.block R zr;simpa[World.frozen?,hb] using this
   have m0:=(hBm.cell (p:=⟨b3,off3+j*4,none⟩) hbs).trans hc3.var;have m1:=(hBm.cell (p:=⟨b3,off3+j*4+1,none⟩) hbs).trans hc3.name;have m2:=(hBm.cell (p:=⟨b3,off3+j*4+2,none⟩) hbs).trans hc3.args;rw[hpa] at c0 z0;have HPA:=lh hpa;have HRM:Hid (aX (wr.alloc (.map #[] 0)) (fun x=>(Z x∨x=b10)∨x=wr.heap.size) R p pa pc S.mac d2 (4000-f)):=lh ((HC.out.rn.zmono fun x hx e=>e.elim id fun e=>by omega).below hBm);have HVM:Hid (VAt (wr.alloc (.map #[] 0)) wr.heap.size 0 (fun _=>none)):=lh (iV.made wr);have HBM:=lh hBm;have HSM:Hid (wr.heap.size<(wr.alloc (.map #[] 0)).heap.size):=lh (by simp);have hcl:=hH.out.cl p[j] (List.getElem_mem hlt);have hfit:=hc3.fits;have HCL:Hid (Calls Try.prog 71 #[.slice d2.h S.H.length d2.hn,.agg #[.int .i64 p[j].head.var,.string p[j].head.name,.slice a1 p[j].head.args.length q1],.map (some wr.heap.size)] (wr.alloc (.map #[] 0)).drew (tF (wr.alloc (.map #[] 0)).drew 0 (.slice d2.h S.H.length d2.hn) wr.heap.size ((K1,V1),a))):=lh (by
    have hB:Below (wr.alloc (.map #[] 0)).heap.size (wr.alloc (.map #[] 0)) (wr.alloc (.map #[] 0)).drew:=(bR _ _).drew;have hoq:Ts (wr.alloc (.map #[] 0)).drew (fun b=>(¬RM R d2 b∧¬(Z b∨b=b10))∧b<wr.heap.size) p[j].head.args a1 q1:=((ht1.mono (ok':=fun b=>(¬RM R d2 b∧¬(Z b∨b=b10))∧b<wr.heap.size) fun b hb h=>⟨h,hb⟩).keep (aD.below (hBm.trans (hB.mono hBm.size)) _))
    rw[←HF.out.head.eq];exact bL4 p[j].head _ _ a1 q1 0 wr.heap.size 0 (.slice d2.h S.H.length d2.hn) S.H _ hfit hoq (fun b hb=>⟨by have:=HSM.out;have:=hB.size;omega,fun e=>hb.1.1 (.inr (by rw[←(aE _ _ _).symm.trans e];simp[rws])),by omega⟩) (HRM.out.rows.h.below hB) (HVM.out.keep (hB.block _ HSM.out)) (Nat.zero_le _) (fun e=>HRM.out.zr wr.heap.size (.inr (by rw[←(aE _ _ _).symm.trans e];simp[rws])) (.inr rfl)) (Nat.zero_le _) (by have:=hcl.head.size;have:=hH.out.room;omega) (fun v c e=>nomatch e))
   have hmm:=@run_makeMap Try.prog;have hlti:(j:Int)<(p.length:Int):=by omega
   clear hr hcf hc3 hc4 ht1 ht2 hBm hpa hcl hfit;go_upto_region 10 with fail;generalize hbm:wr.heap.size=bm at *;generalize hwm:wr.alloc (.map #[] 0)=wm at *;have HWM:Hid (aA (RM R d) wl wm∧Below wr.heap.size wr wm):=lh ⟨HC.out.t.trans (aA.below (by rw[hbm];exact HBM.out)),by rw[hbm];exact HBM.out⟩
   go_cut[13] from 73 to 94 (fun x13 wx=>∃d5:MAd,x13=.int .i64 (a:Nat)∧Hid (aR9 wm wx (fun x=>Z x∨x=b10) R p pa pc S.mac d2 d5 (4000-f) bm K1 V1))
   case first =>
    go_wp2_with fail
    go_region_law (first
     | (
      go_simp
      go_at_call 71
      refine HCL.out.mono ?_;rintro e w1 ⟨v5,n5,rfl,hH5,hV5,hn5,hf5,ht5⟩;obtain⟨a5,c5,rfl⟩:=hH5.form;have hbR:w1.heap[R]? = wm.heap[R]?:=ht5.block R HRM.out.lt (fun e=>e.elim (fun e=>HRM.out.ne (bk d2.h) (by simp[rws]) ((aE _ _ _).symm.trans e)) fun e=>HRM.out.zr R (.inl rfl) (.inr e));have yf:∀o,w1.frozen? ⟨R,o,none⟩=false:=fun o=>by have:=zf o;simpa[World.frozen?,hbR] using this
      have y1:w1.cell? ⟨R,1,none⟩=some (.slice d2.h S.mac.H.length d2.hn):=(World.cell?_of_block hbR).trans z1;have H5:=lh (And.intro hH5 (And.intro hV5 (And.intro hn5 (And.intro hf5 ht5))));clear hH5 hV5 hn5 hf5 ht5 hbR))
    all_goals
     go_wp2_with fail;go_meet
     case rel=>exact⟨_,rfl,lh (aR9.of HRM.out (fun x hx=>by have:=HZN.out x hx;have:=HWM.out.1.size;omega) HSM.out ((bR _ _).drew) H5.out.1 H5.out.2.1 H5.out.2.2.1 H5.out.2.2.2.1 H5.out.2.2.2.2)⟩
   case rest =>
    obtain⟨d5,rfl,HPR⟩:=hcut;have HZ5:Hid (∀x,((Z x∨x=b10)∨x=bm)→x<wc.heap.size):=lh fun x hx=>nT (hx.elim (fun e=>nT (HZN.out x e) HWM.out.1.size) fun e=>by rw[e];exact HSM.out) HPR.out.t.size
    have HRS:Hid (Calls Try.prog 89 #[.pointer (some ⟨R,0,none⟩),.int .i64 (a:Nat),.int .i64 (e0:Nat)] wc (kF wc (fun x=>(Z x∨x=b10)∨x=bm) R p pa pc d5 r)):=lh (by
     have:=bC0 (S:={S with f:=f,H:=K1}) (a:=a) (b:=aF S (q+1)) HPR.out.rn HF.out.f4 HF.out.head.heap HF.out.head.lt.1 HF.out.head.lt.2 hH.out.tr hH.out.ci.fin.1 HZ5.out;rw[HR.out,←HE0.out] at this;exact this)
    have HBX:Hid (∀x,x=w.heap.size∨x=b9∨x=b10→wc.heap[x]? = wl.heap[x]?∧x<wc.heap.size∧¬RM R d5 x∧x≠bm):=lh (by
     intro x hx;obtain⟨h1,h2,h3⟩:=HLN.out x hx;have h4:x<wm.heap.size:=nT h2 HWM.out.1.size;have h5:=HC.out.fr.notR h2 h3;have h6:x≠bm:=by have:=HC.out.t.size;omega
     refine⟨(HPR.out.t.block x h4 fun e=>e.elim h5 h6).trans (HWM.out.1.block x h2 h3),nT h4 HPR.out.t.size,HPR.out.fr.notR h4 h5,h6⟩)
    have HTC:Hid (aA (RM R d) wl wc∧bB wl d d5):=lh ⟨⟨HPR.out.t.os.trans HWM.out.1.os,HPR.out.t.tape.trans HWM.out.1.tape,HPR.out.t.output.trans HWM.out.1.output,Nat.le_trans HWM.out.1.size HPR.out.t.size,fun x hx hn=>(HPR.out.t.block x (nT hx HWM.out.1.size) fun e=>e.elim (HC.out.fr.notR hx hn) fun e=>by have:=HC.out.t.size;omega).trans (HWM.out.1.block x hx hn)⟩,HC.out.fr.trans (fun b hb=>(HPR.out.fr b hb).imp id fun e=>Nat.le_trans HWM.out.2.size e) HC.out.t.size⟩;have hjc:((j+1:Nat):Int)=(j:Int)+1:=by omega
    obtain⟨S2,okb⟩:=r;cases okb with
    | false =>
     have zRc:=HPR.out.rn.lt;clear c0 c1 c2 c3 c4 c5 c6 c7 c8 c9 c10 cf z0 z1 zf m0 m1 m2 HCL HVM hmm;go_upto_region 19 with (go_at_call 89;refine HRS.out.mono ?_;rintro e w2 ⟨he,ht2,d6,wk6,hfr6,hrn6,hwk6⟩;have he':e=.returned (.bool false):=he;subst he';have HT2:=lh ht2;have HFR6:=lh hfr6;have HRN6:=lh hrn6;have HWK6:=lh hwk6;clear ht2 hfr6 hrn6 hwk6 he);have HT6:Hid (aA (RM R d) wl w2∧bB wl d d6):=lh ⟨fF HTC.out.1 HTC.out.2 HT2.out,HTC.out.2.trans HFR6.out HTC.out.1.size⟩;have hx9:w2.heap[b9]? = _:=(HT6.out.1.block b9 (HLN.out b9 (.inr (.inl rfl))).2.1 (HLN.out b9 (.inr (.inl rfl))).2.2).trans HL9.out;have hx10:w2.heap[b10]? = _:=(HT6.out.1.block b10 (HLN.out b10 (.inr (.inr rfl))).2.1 (HLN.out b10 (.inr (.inr rfl))).2.2).trans HL10.out;have HN9:Hid (b9<w2.heap.size∧¬RM R d6 b9):=lh ⟨(gS hx9).1,HT6.out.2.notR (HLN.out b9 (.inr (.inl rfl))).2.1 (HLN.out b9 (.inr (.inl rfl))).2.2⟩;have HX9:=lh hx9;have k0:w2.cell? ⟨b10,0,none⟩=some (.int .i64 ((q:Int)+1)):=by simp[World.cell?,hx10]
     have k1:w2.cell? ⟨b10,1,none⟩=some (.int .i64 0):=by simp[World.cell?,hx10]
     have k2:w2.cell? ⟨b10,2,none⟩=some (.int .i64 S.H.length):=by simp[World.cell?,hx10]
     have k3:w2.cell? ⟨b10,3,none⟩=some (.int .i64 S.T.length):=by simp[World.cell?,hx10]
     have k4:w2.cell? ⟨b10,4,none⟩=some (.int .i64 S.G.length):=by simp[World.cell?,hx10]
     have zR2:=HRN6.out.lt;have HUW:Hid (Calls Try.prog 84 #[.pointer (some ⟨R,1,none⟩),.agg #[.int .i64 ((q:Int)+1),.int .i64 0,.int .i64 S.H.length,.int .i64 S.T.length,.int .i64 S.G.length]] w2.drew fun e w'=>(∃v,e=.returned v)∧aA (RM R d6) w2 w'∧aX w' (fun x=>(Z x∨x=b10)∨x=bm) R p pa pc (aK S2 (aZ S (q+1))).mac d6 wk6):=lh (by
      have h1:=aM0 (S:=S2) (HRN6.out.below ((bR _ _).drew)) HF.out.within (by have h1:=HF.out.keep.len;have h2:=HF.out.head.len.2;have h3:=hH.out.room;simp only at h1 h2;omega);have e1:((aZ S (q+1)).goal:Int)=(q:Int)+1:=by simp[aZ]
      rw[e1] at h1;exact h1.mono fun e w' h=>⟨h.1,(aA.below ((bR _ _).drew)).trans h.2.1,h.2.2⟩)
     clear hx9 hx10;by_cases hz:S2.fin=0
     ·obtain⟨he2,hci2,hme2⟩:=HF.out.no rfl hz
      have HWK:Hid (wk6=4000-S2.f):=lh (HWK6.out hz);have hfz:(aK S2 (aZ S (q+1))).mac.fin=0:=by simp only[aK,MS.mac,hz];rfl
      have HE2:=lh he2;have HCI2:=lh hci2;have HME2:=lh hme2;clear he2 hci2 hme2 hz
      go_still_tail 4,(by kernel_rfl)
      change wpList _ _ _ _ _ (World.drew _);go_upto_region 7 with (go_at_call 84;refine HUW.out.mono ?_;rintro e w4 ⟨⟨uv,rfl⟩,ht4,hrn4⟩;obtain⟨x0,x1,x2,x3,x4,x5,x6,x7,x8,x9,x10,xf⟩:=hrn4.cells;rw[hfz] at x8;have HT4:=lh ht4;have HRN4:=lh hrn4;have zR4:=hrn4.lt;clear ht4 hrn4);have hx9:=(HT4.out.block b9 HN9.out.1 HN9.out.2).trans HX9.out;have y91:w4.cell? ⟨b9,1,none⟩=some (.int .i64 t.args.length):=by simp[World.cell?,hx9]
      have y92:w4.cell? ⟨b9,2,none⟩=some (.string t.name):=by simp[World.cell?,hx9]
      have HNY:Hid (Calls Try.prog 111 #[.slice pa p.length pc,.string t.name,.int .i64 t.args.length,.int .i64 ((j:Int)+1)] w4.drew fun e w'=>e=.returned (.int .i64 (bE p t (j+1):Nat))∧Below w4.heap.size w4 w'):=lh (by
       rw[←hjc];exact(HNW.out w4.drew _ (j+1) (by omega) (HRN4.out.below ((bR _ _).drew)).prog).mono fun e w' h=>⟨h.1,(Below.refl w4.heap.size w4).drew.trans h.2⟩)
      clear hx9 k0 k1 k2 k3 k4 x1 x2 x3 x4 x5 x6 x7 x8 x9 x10 xf
      go_still_tail 10,(by kernel_rfl)
      change wpList _ _ _ _ _ (World.drew _);go_wp2_with (go_at_call 111;refine HNY.out.mono ?_;rintro e w5 ⟨rfl,hb5⟩;have HB5:=lh hb5;clear hb5);have hge:=vV p t _ (j+1) rfl;go_roundw
      case measure=>simp only[intOf];omega
      case rel =>
       refine⟨S2.f,bE p t (j+1),d6,hge.2 (by omega),rfl,lh ⟨?_,HT6.out.2,(fF HT6.out.1 HT6.out.2 HT4.out).trans (aA.below HB5.out),HCI2.out,?_,fun h hj=>aI4 p t _ (j+1) rfl h⟩⟩
       ·have h1:=(HRN4.out.below HB5.out).zmono (Z':=fun x=>Z x∨x=b10) fun x _ hx=>.inl hx
        rw[HE2.out,HWK.out] at h1;exact h1
       ·rw[HME2.out]
        have h1:=uI (p:=p) (n:=q+1) (S:={S with f:=S2.f}) _ (j+1) rfl;have h2:=HNF.out (j+1);rw[h1];exact congrArg (fun k=>dG p (q+1) k {S with f:=S2.f}) h2
     ·have HME2:=lh (HF.out.many rfl hz)
      have hfz:(aK S2 (aZ S (q+1))).mac.fin≠0:=by simp only[aK,MS.mac];omega
      have HZ:=lh hz;clear hz
      go_still_tail 4,(by kernel_rfl)
      change wpList _ _ _ _ _ (World.drew _);go_wp2_with (go_at_call 84;refine HUW.out.mono ?_;rintro e w4 ⟨⟨uv,rfl⟩,ht4,hrn4⟩;obtain⟨x0,x1,x2,x3,x4,x5,x6,x7,x8,x9,x10,xf⟩:=hrn4.cells;have HT4:=lh ht4;have HRN4:=lh hrn4;have zR4:=hrn4.lt;clear ht4 hrn4);go_ret;exact⟨by rw[HME2.out];rfl,(aA.below HLW.out).trans (fF HT6.out.1 HT6.out.2 HT4.out),d6,wk6,fun x hx=>(HT6.out.2 x hx).imp id fun e=>Nat.le_trans HLW.out.size e,by rw[HME2.out];exact HRN4.out.zmono fun x _ hx=>.inl (.inl hx),fun e=>by rw[HME2.out] at e;exact absurd e HZ.out⟩
    | true =>
     have hchl:S2.mac.ch.length=S.ch.length:=by have:=HF.out.keep.ch;simp only[MS.mac,List.length_map] at *;rw[this]
     have zRc:=HPR.out.rn.lt;clear c0 c1 c2 c3 c4 c5 c6 c7 c8 c9 c10 cf z0 z1 zf m0 m1 m2 HCL HVM hmm;go_upto_region 13 with (go_at_call 89;refine HRS.out.mono ?_;rintro e w2 ⟨he,ht2,d6,wk6,hfr6,hrn6,hwk6⟩;have he':e=.returned (.bool true):=he;subst he';obtain⟨x0,x1,x2,x3,x4,x5,x6,x7,x8,x9,x10,xf⟩:=hrn6.cells;rw[hchl] at x4;have HT2:=lh ht2;have HFR6:=lh hfr6;have HRN6:=lh hrn6;have HWK6:=lh hwk6;clear ht2 hfr6 hrn6 hwk6 he);have zR2:=HRN6.out.lt;have hx9:w2.heap[b9]? = _:=(HT2.out.block b9 (HBX.out b9 (.inr (.inl rfl))).2.1 (HBX.out b9 (.inr (.inl rfl))).2.2.1).trans ((HBX.out b9 (.inr (.inl rfl))).1.trans HL9.out);have y91:w2.cell? ⟨b9,1,none⟩=some (.int .i64 t.args.length):=by simp[World.cell?,hx9]
     have y92:w2.cell? ⟨b9,2,none⟩=some (.string t.name):=by simp[World.cell?,hx9]
     have HNY:Hid (Calls Try.prog 111 #[.slice pa p.length pc,.string t.name,.int .i64 t.args.length,.int .i64 ((j:Int)+1)] w2.drew fun e w'=>e=.returned (.int .i64 (bE p t (j+1):Nat))∧Below w2.heap.size w2 w'):=lh (by
      rw[←hjc];exact(HNW.out w2.drew _ (j+1) (by omega) (HRN6.out.below ((bR _ _).drew)).prog).mono fun e w' h=>⟨h.1,(Below.refl w2.heap.size w2).drew.trans h.2⟩)
     clear hx9
     go_still_tail 10,(by kernel_rfl)
     change wpList _ _ _ _ _ (World.drew _)
     go_upto_if 122 with (go_at_call 111;refine HNY.out.mono ?_;rintro e w3 ⟨rfl,hb3⟩;have x0':=(hb3.cell (p:=⟨R,0,none⟩) zR2).trans x0;have HB3:=lh hb3;clear hb3)
     have hx10:w2.heap[b10]? = _:=(HT2.out.block b10 (HBX.out b10 (.inr (.inr rfl))).2.1 (HBX.out b10 (.inr (.inr rfl))).2.2.1).trans ((HBX.out b10 (.inr (.inr rfl))).1.trans HL10.out);have hx7:w2.heap[w.heap.size]? = _:=(HT2.out.block _ (HBX.out _ (.inl rfl)).2.1 (HBX.out _ (.inl rfl)).2.2.1).trans ((HBX.out _ (.inl rfl)).1.trans HL7.out);have hl10:b10<w2.heap.size:=(gS hx10).1;have hl7:w.heap.size<w2.heap.size:=(gS hx7).1;have HX10:=lh ((HB3.out.block _ hl10).trans hx10);have HX7:=lh ((HB3.out.block _ hl7).trans hx7);have HRN3:=lh (HRN6.out.below HB3.out);have HZ3:Hid (∀x,((Z x∨x=b10)∨x=bm)→x<w3.heap.size):=lh fun x hx=>nT (HZ5.out x hx) (Nat.le_trans HT2.out.size HB3.out.size)
     have HN10:Hid (¬RM R d6 b10∧¬RM R d6 w.heap.size):=lh ⟨HFR6.out.notR (HBX.out b10 (.inr (.inr rfl))).2.1 (HBX.out b10 (.inr (.inr rfl))).2.2.1,HFR6.out.notR (HBX.out _ (.inl rfl)).2.1 (HBX.out _ (.inl rfl)).2.2.1⟩;have hf2:S2.fin=0:=HF.out.keep.fin rfl;have HF2:=lh hf2;have HWK:Hid (wk6=4000-S2.f):=lh (HWK6.out hf2);clear hx10 hx7 y91 y92 x0 x1 x2 x3 x4 x5 x6 x7 x8 x9 x10 xf hf2 HNY;obtain⟨nn,hnn⟩:∃nn,bE p t (j+1)=nn:=⟨_,rfl⟩
     have HNN:=lh hnn;rw[hnn];clear hnn
     go_cut[] (fun wx=>∃d7:MAd,Hid (aX wx (fun x=>(Z x∨x=b10)∨x=bm) R p pa pc ({S2 with ch:=if nn<p.length then S.ch++[{aZ S (q+1) with clause:=nn}] else S.ch}:MS).mac d7 (4000-S2.f))∧Hid (bB w3 d6 d7)∧Hid (aA (fun x=>RM R d6 x∨x=b10) w3 wx))
     case first =>
      by_cases hnx:nn<p.length
      ·have hn1:(nn:Int)<(p.length:Int):=by omega
       have hx10:=HX10.out;have e0:w3.cell? ⟨b10,1,none⟩=some (.int .i64 0):=by simp[World.cell?,hx10]
       have ef:∀o,w3.frozen? ⟨b10,o,none⟩=false:=fun o=>by simp[World.frozen?,hx10]
       have hs4b:(w3.setCell ⟨b10,1,none⟩ (.int .i64 (nn:Nat))).heap[b10]? = some (.cells #[.int .i64 ((q:Int)+1),.int .i64 (nn:Nat),.int .i64 S.H.length,.int .i64 S.T.length,.int .i64 S.G.length] 67 (0,0)):=by rw[aB w3 b10 1 _ hx10];rfl
       have hTs:aA (fun x=>x=b10) w3 (w3.setCell ⟨b10,1,none⟩ (.int .i64 (nn:Nat))):=aA.setCell _ rfl;have HRS4:=lh (HRN3.out.keep hTs fun x _ e=>.inl (.inr e));have HTS4:=lh hTs;go_upto_region 16 with fail;generalize w3.setCell ⟨b10,1,none⟩ (.int .i64 (nn:Nat))=s4 at *;clear e0 ef hx10 hTs;obtain⟨x0,x1,x2,x3,x4,x5,x6,x7,x8,x9,x10,xf⟩:=HRS4.out.cells;rw[hchl] at x4;have zR4:=HRS4.out.lt;have k0:s4.cell? ⟨b10,0,none⟩=some (.int .i64 ((q:Int)+1)):=by simp[World.cell?,hs4b]
       have k1:s4.cell? ⟨b10,1,none⟩=some (.int .i64 (nn:Nat)):=by simp[World.cell?,hs4b]
       have k2:s4.cell? ⟨b10,2,none⟩=some (.int .i64 S.H.length):=by simp[World.cell?,hs4b]
       have k3:s4.cell? ⟨b10,3,none⟩=some (.int .i64 S.T.length):=by simp[World.cell?,hs4b]
       have k4:s4.cell? ⟨b10,4,none⟩=some (.int .i64 S.G.length):=by simp[World.cell?,hs4b]
       have HO1:Hid (∀u,Below s4.heap.size s4 u→u.ownsRow 0 67 5 (.slice d6.c S.ch.length d6.cn) S.ch.length (cW S2.mac.ch)):=lh fun u hu=>by
        have:=aH HRS4.out.rows.c hu;rw[hchl] at this;exact this
       have hcb:=hH.out.ch;obtain⟨i0,zc,hi0,hz0,hz1,hz2,hz3⟩:=pC;have HB4:Hid (Below s4.heap.size s4 (s4.alloc (.cells #[.int .i64 ((q:Int)+1),.int .i64 (nn:Nat),.int .i64 S.H.length,.int .i64 S.T.length,.int .i64 S.G.length] 67)).drew):=lh (((bR _ _).alloc (nR _) _).drew);clear hs4b
       go_region_law ((
        refine eB _ (by rfl) _ _ _ (by rfl) 0 67 i0 zc 5 40 Try.underlying26 hi0 hz0 hz1 hz2 hz3 (by decide) (.slice d6.c S.ch.length d6.cn) S.ch.length (cW S2.mac.ch) (by rfl) (HO1.out _ HB4.out) (some ⟨s4.heap.size,0,none⟩) 1 1 (fun e=>nomatch e) [.int .i64 ((q:Int)+1),.int .i64 (nn:Nat),.int .i64 S.H.length,.int .i64 S.T.length,.int .i64 S.G.length] (by rfl) rfl (fun ad had=>by injection had with had;subst had;exact aK5 s4 _ _ _ _ _ _) (fun u hu=>by simp only[List.mem_cons,List.not_mem_nil,or_false] at hu;rcases hu with rfl|rfl|rfl|rfl|rfl <;> rfl) (by unfold maxLen;omega) (by omega) (Nat.zero_le _) ?_;intro v5 w5 hown5 hgrow5 hfr5;obtain⟨a5,c5,rfl⟩:=bL hown5;have HOWN5:=lh hown5;have HGR5:=lh hgrow5;have HFR5:=lh hfr5;have hRb:w5.heap[R]? = s4.heap[R]?:=(hgrow5.block R (nT zR4 HB4.out.size) (fun e=>HRS4.out.ne (bk d6.c) (by simp[rws]) ((aE d6.c S.ch.length d6.cn).symm.trans e.symm))).trans (HB4.out.block R zR4);have z5:w5.cell? ⟨R,4,none⟩=some (.slice d6.c S.ch.length d6.cn):=(World.cell?_of_block hRb).trans x4;have zf:∀o,w5.frozen? ⟨R,o,none⟩=false:=fun o=>by have:=xf o;simpa[World.frozen?,hRb] using this
        clear hown5 hgrow5 hfr5))
       all_goals
        go_wp2_with fail;go_meet
        case rel =>
         have h5:=HRS4.out.pushC HB4.out (c:=(⟨(q:Int)+1,(nn:Nat),S.H.length,S.T.length,S.G.length⟩:Chi)) (n:=S.ch.length) hchl HOWN5.out HGR5.out HFR5.out (fun x hx=>nT (HZ3.out x hx) HTS4.out.size);refine⟨_,lh ?_,lh (fun x hx=>(h5.2.2 x hx).imp id fun e=>Nat.le_trans HTS4.out.size e),lh ((HTS4.out.mono fun x _ e=>.inr e).trans (h5.2.1.mono fun x _ e=>.inl e))⟩;rw[if_pos hnx];have h6:=h5.1;rw[HWK.out] at h6;have hch:S2.ch=S.ch:=HF.out.keep.ch;have e6:({S2 with ch:=S.ch++[{aZ S (q+1) with clause:=nn}]}:MS).mac = {S2.mac with ch:=S2.mac.ch++[⟨(q:Int)+1,(nn:Nat),S.H.length,S.T.length,S.G.length⟩]}:=by
          simp only[MS.mac,hch,List.map_append,List.map_cons,List.map_nil,Cn.chi,aZ];rfl
         rw[e6];exact h6
      ·have hn1:(p.length:Int)≤(nn:Int):=by omega
       go_wp2_with fail;go_meet
       case rel =>
        refine⟨d6,lh ?_,lh (bB.refl _ _),lh (aA.refl _ _)⟩;rw[if_neg hnx];have:=HRN3.out;rw[HWK.out] at this;have hch:S2.ch=S.ch:=HF.out.keep.ch;rw[←hch];exact this
     case rest =>
      obtain⟨d7,HR7,HF7,HT7⟩:=hcut;obtain⟨x0,x1,x2,x3,x4,x5,x6,x7,x8,x9,x10,xf⟩:=HR7.out.cells;rw[HPA.out] at x0;have zR7:=HR7.out.lt;obtain⟨b4,off4,a4,a5,q4,q5,hpa4,hokb4,hbs4,hc43,hc44,ht41,ht42⟩:=HR7.out.prog.elem j hlt;rw[HPA.out] at hpa4;injection hpa4 with hpa4;injection hpa4 with e1 e2 _;subst e1;subst e2;have hb7:w.heap.size≠b10:=by have:=HZ.out;omega
      have hbm10:bm≠b10:=by have:=(HLN.out b10 (.inr (.inr rfl))).2.1;have:=HC.out.t.size;omega
      have hx7:=(HT7.out.block _ (gS HX7.out).1 (fun e=>e.elim HN10.out.2 hb7)).trans HX7.out;have y7:wc.cell? ⟨w.heap.size,2,none⟩=some (.int .i64 ((gn S q).next:Nat)):=by simp[World.cell?,hx7]
      have hz7:w.heap.size<wc.heap.size:=(gS hx7).1;have HPW:Hid (Calls Try.prog 72 #[.pointer (some ⟨R,0,none⟩),.slice a5 p[j].body.length q5,.map (some bm),.int .i64 (S.ch.length:Nat),.int .i64 ((gn S q).next:Nat)] wc.drew fun e w'=>(∃v,e=.returned v)∧aA (fun b=>RM R d7 b∨b=bm) wc w'∧∃d',bB wc d7 d'∧aX w' (fun x=>(Z x∨x=b10)∨x=bm) R p pa pc (lB p[j].body V1 S.ch.length (gn S q).next {S2 with ch:=if nn<p.length then S.ch++[{aZ S (q+1) with clause:=nn}] else S.ch}).mac d' (4000-S2.f)):=lh (by
       obtain⟨n5,hv5,hn5⟩:=HPR.out.v;have hcl:=hH.out.cl p[j] (List.getElem_mem hlt);have hk:=HF.out.keep.len;have hkG:S2.G=S.G:=HF.out.keep.G;have hlen:=HF.out.head.len.2;have hroom:=hH.out.room;have hbl:=hcl.len;simp only at hk hlen;have hv:VAt wc.drew bm n5 V1:=((hv5.keep (HT2.out.block bm hv5.lt fun e=>HPR.out.rn.zr bm e (.inr rfl))).keep (HB3.out.block bm (nT hv5.lt HT2.out.size))).keep (HT7.out.block bm (nT hv5.lt (Nat.le_trans HT2.out.size HB3.out.size)) fun e=>e.elim (fun e=>HRN6.out.zr bm e (.inr rfl)) hbm10);have h1:=bB2 (S:={S2 with ch:=if nn<p.length then S.ch++[{aZ S (q+1) with clause:=nn}] else S.ch}) (l:=p[j].body) (la:=a5) (lc:=q5) (bm:=bm) (n:=n5) (V:=V1) (cut:=S.ch.length) (nx:=(gn S q).next) (okq:=fun b=>¬RM R d7 b∧¬((Z b∨b=b10)∨b=bm)) (HR7.out.below ((bR _ _).drew)) (fun x hx=>nT (HZ3.out x hx) HT7.out.size) (ht42.keep (aD.below ((bR _ _).drew) _)) (fun b hb=>⟨hb.1,fun e=>hb.2 (.inr e)⟩) hv (by simp only;omega) (.inr rfl) HF.out.head.vb (fun b hb=>(hcl.body b hb).size) (by simp only;omega) (by simp only;rw[hkG];omega) HF2.out;exact h1.mono fun e w' h=>⟨h.1,(aA.below ((bR _ _).drew)).trans h.2.1,h.2.2⟩)
      have HYES:Hid (dG p (q+1) i S=(lB p[j].body V1 S.ch.length (gn S q).next {S2 with ch:=if nn<p.length then S.ch++[{aZ S (q+1) with clause:=nn}] else S.ch},true)):=lh (by
       have:=HF.out.yes rfl;rw[HNN.out] at this;exact this)
      clear hc43 ht41 ht42 hx7;go_upto_region 17 with fail
      go_still_tail 13,(by kernel_rfl)
      change wpList _ _ _ _ _ (World.drew _);go_wp2_with (go_at_call 72;refine HPW.out.mono ?_;rintro e w8 ⟨⟨uv,rfl⟩,ht8,d8,hf8,hr8⟩;have HT8:=lh ht8;have HF8:=lh hf8;have HR8:=lh hr8;clear ht8 hf8 hr8);go_ret;have t1:=fF HTC.out.1 HTC.out.2 HT2.out;have f6:bB wl d d6:=HTC.out.2.trans HFR6.out HTC.out.1.size;have s1:=HLW.out.size;have s2:=t1.size;have s3:=HB3.out.size;have s4:=HT7.out.size;have u2:aA (RM R d) w w2:=(aA.below HLW.out).trans t1;have g6:bB w d d6:=fun x hx=>(f6 x hx).imp id fun e=>by omega
      have u3:aA (RM R d) w w3:=u2.trans (aA.mono (aA.below (M:=fun _=>False) (by exact HB3.out)) fun _ _ e=>e.elim);have u7:=aF0 u3 g6 HT7.out fun b hb e=>e.elim id fun e=>by have:=HZ.out;omega
      have g7:bB w d d7:=g6.trans HF7.out (by omega);have u8:=aF0 u7 g7 HT8.out fun b hb e=>e.elim id fun e=>by have:=HC.out.t.size;omega
      have g8:bB w d d8:=g7.trans HF8.out (by omega);exact⟨by rw[HYES.out];rfl,u8,d8,4000-S2.f,g8,by rw[HYES.out];exact HR8.out.zmono fun x _ hx=>.inl (.inl hx),fun _=>by rw[HYES.out];rfl⟩
  ·have HE:Hid (dG p (q+1) i S=({S with f:=f},false)):=lh (HC.out.eq.trans (vG hlt))
   have hlti:(p.length:Int)≤(j:Int):=by omega
   go_wp2_with fail;go_ret;exact⟨by rw[HE.out];rfl,(aA.below HLW.out).trans HC.out.t,d2,4000-f,fun b hb=>(HC.out.fr b hb).imp id fun e=>Nat.le_trans HLW.out.size e,by rw[HE.out];exact HC.out.rn.zmono fun x _ hx=>.inl hx,fun _=>by rw[HE.out]⟩
def aE3(w:World)(Z:Nat→Prop)(R:Nat)(p:List Cl)(pa:Option Addr)(pc:Nat)(d:MAd)(S':MS)(e:Ending)(w':World):Prop :=
 (∃v,e=.returned v)∧aA (RM R d) w w'∧∃d' wk',bB w d d'∧aX w' Z R p pa pc S'.mac d' wk'
theorem bL7(S:MS){n:Nat}(hn:1≤n∧n≤S.G.length):(S.mac.G.getD (n-1) ⟨0,0,0⟩).at'=((gn S (n-1)).at':Int):=by
 have h:n-1<S.G.length:=by omega
 simp only[MS.mac,gn,List.getD_eq_getElem?_getD,List.getElem?_map,List.getElem?_eq_getElem h,Option.map_some,Option.getD_some];rfl
theorem aY5{w:World}{Z:Nat→Prop}{R:Nat}{p:List Cl}{pa:Option Addr}{pc:Nat}{S:MS}{d:MAd}{wk:Nat}{P:PS}(h:aX w Z R p pa pc S.mac d wk)(hp:∀c,c∈p→ClG c)(hb:BkI p S P)(hzn:∀b,Z b→b<w.heap.size) :
 Calls Try.prog 90 #[.pointer (some ⟨R,0,none⟩)] w (aE3 w Z R p pa pc d (eL p S.ch.length S)):=by
 have H:=lh h;have HP:=lh hp;have HB:=lh hb;have HZN:=lh hzn;clear h hp hb hzn;go_enter Try.func90,Try.ntmps90;go_wp2_with fail
 go_loopg [] S.ch.length (fun k wr=>∃(S':MS) (P':PS) (d':MAd) (wk':Nat),k=S'.ch.length∧Hid (aX wr Z R p pa pc S'.mac d' wk')∧Hid (aA (RM R d) w wr∧bB w d d')∧Hid (BkI p S' P')∧Hid (eL p S'.ch.length S'=eL p S.ch.length S))
 case atStart=>exact⟨S,P,d,wk,rfl,H,lh ⟨aA.refl _ _,bB.refl _ _⟩,HB,lh rfl⟩
 case round =>
  obtain⟨S',P',d',wk',hk,HRN,HT,HBK,HE⟩:=hrel;obtain⟨c0,c1,c2,c3,c4,c5,c6,c7,c8,c9,c10,cf⟩:=HRN.out.cells;have zR:=HRN.out.lt;have hcl:S'.mac.ch.length=S'.ch.length:=by simp[MS.mac]
  cases gk with
  | zero =>
   rw[hcl,←hk] at c4;have HE1:Hid (eL p S.ch.length S = {S' with first:=0,fin:=1}):=lh (by rw[←HE.out,←hk];rfl);have HS1:Hid (aX ((wr.setCell ⟨R,3,none⟩ (.int .i64 0)).setCell ⟨R,8,none⟩ (.int .i64 1)) Z R p pa pc ({S' with first:=0,fin:=1}:MS).mac d' wk'∧aA (RM R d') wr ((wr.setCell ⟨R,3,none⟩ (.int .i64 0)).setCell ⟨R,8,none⟩ (.int .i64 1))):=lh (by
    obtain⟨r1,t1⟩:=HRN.out.putFirst 0;obtain⟨r2,t2⟩:=r1.putFin 1;exact⟨r2,t1.trans t2⟩)
   clear hk hcl;go_wp2_with fail;refine bodyPost_ret (v:=.tuple #[]) (by simp[results,Try.results90,go_sem]) rfl ?_;rw[HE1.out];exact⟨⟨_,rfl⟩,fF HT.out.1 HT.out.2 HS1.out.2,d',wk',HT.out.2,HS1.out.1⟩
  | succ n =>
   obtain⟨c,S1,hone⟩:=aY4 HP.out HBK.out hk.symm;have HO:=lh hone;have hrow:=HRN.out.rows.c;obtain⟨g,cap,hgv⟩:=bQ hrow (by rw[hcl];omega);injection hgv with e1 _ e2;obtain⟨ag,cg,e,hg⟩:=cZ.of_row (ok:=fun _=>True) hrow (eQ _) (fun _ _=>trivial);injection e with e3 _ e4;subst e3;subst e4;obtain⟨b,off,hbg,-,zb,hcs⟩:=hg.some (by decide) (by rw[hcl];omega);rw[e1] at hbg;injection hbg with hbg;injection hbg with hb1 hb2 _;subst hb1;subst hb2;have hcn:S'.mac.ch[n]'(by rw[hcl];omega)=c.chi:=by
    have:=hone.at';obtain⟨h1,h2⟩:=List.getElem?_eq_some_iff.1 this;simp only[MS.mac,List.getElem_map,h2]
   obtain⟨g0,g1,g2,g3,g4⟩:=jJ S'.mac.ch n (by rw[hcl];omega);rw[hcn] at g0 g1 g2 g3 g4;have m0:=hcs _ _ g0;have m1:=hcs _ _ g1;have m2:=hcs _ _ g2;have m3:=hcs _ _ g3;have m4:=hcs _ _ g4;simp only[Cn.chi,Nat.zero_add] at m0 m1 m2 m3 m4;rw[hcl,e1] at c4;have hm64:S'.ch.length≤9223372036854775807:=by have:=hg.cap;rw[hcl] at this;unfold maxLen at this;omega
   have hcapn:n≤d'.cn:=by have:=hg.cap.1;rw[hcl] at this;omega
   have hsub:((S'.ch.length:Int)-1)=(n:Int):=by omega
   have HROW:=lh hrow;have HE1:=lh e1;have HK:=lh hk;have hnn:(n:Int)<(S'.ch.length:Int):=by omega
   have hn0:(0:Int)≤(n:Int):=by omega
   have hcapi:(n:Int)≤(d'.cn:Int):=by omega
   have hlp:(0:Int)<(S'.ch.length:Int):=by omega
   have hwn:IntKind.i64.wrap (n:Int)=(n:Int):=by rw[IntKind.wrap_i64];omega
   clear hone hrow e1 e2 hg hcs hcn g0 g1 g2 g3 g4 hcl hk;go_upto_region 1 with fail
   go_cut[2] (fun v2 wx=>∃b2,v2=.pointer (some ⟨b2,0,none⟩)∧wr.heap.size≤b2∧Hid (wx.heap[b2]? = some (.cells #[.int .i64 (c.goal:Nat),.int .i64 (c.clause:Nat),.int .i64 (c.heap:Nat),.int .i64 (c.trail:Nat),.int .i64 (c.goals:Nat)] 67 (0,0)))∧Hid (Below wr.heap.size wr wx))
   case first =>
    go_region
    all_goals
     go_wp2_with fail;go_meet;exact⟨_,rfl,nR _,lh (heap_alloc_new _ _),lh (((bR _ _).drew).alloc (nR _) _)⟩
   case rest =>
   obtain⟨b2,rfl,hb2,HN2,HBX⟩:=hcut;generalize wc=X at *;go_upto_region 2 with fail;have HRX:=lh (HRN.out.below HBX.out);have y4:=(HBX.out.cell (p:=⟨R,4,none⟩) zR).trans c4;have zX:=HRX.out.lt;have yf:∀o,X.frozen? ⟨R,o,none⟩=false:=HRX.out.cells.2.2.2.2.2.2.2.2.2.2.2;clear c0 c1 c2 c3 c4 c5 c6 c7 c8 c9 c10 cf m0 m1 m2 m3 m4
   go_still_tail 17,(by kernel_rfl)
   change wpList _ _ _ _ _ (World.drew _);go_upto_region 3 with fail;have HRB:Hid (aX (X.setCell ⟨R,4,none⟩ (.slice (some ⟨g,0,none⟩) n d'.cn)).drew Z R p pa pc ({S' with ch:=S'.ch.take n}:MS).mac d' wk'∧aA (RM R d') wr (X.setCell ⟨R,4,none⟩ (.slice (some ⟨g,0,none⟩) n d'.cn)).drew):=lh (by
    have hrowX:=aH HROW.out HBX.out;have hl:S'.mac.ch.length=S'.ch.length:=by simp[MS.mac]
    have hl2:(S'.mac.ch.take n).length=n:=by rw[List.length_take];omega
    have hc2:=iD hrowX (k:=n) (by omega);rw[←uQ] at hc2;obtain⟨q1,-⟩:=HRX.out.putch (w1:=X) (aA.refl _ _) (L:=S'.mac.ch.take n) (a:=d'.c) (n:=d'.cn) (by rw[hl2];exact hc2) (.inl rfl) (fun x hx=>nT (HZN.out x hx) (Nat.le_trans HT.out.1.size HBX.out.size));rw[hl2,HE1.out] at q1;have e6:({S' with ch:=S'.ch.take n}:MS).mac = {S'.mac with ch:=S'.mac.ch.take n}:=by simp only[MS.mac,List.map_take]
    rw[e6];refine⟨?_,((aA.below HBX.out).trans (aA.setCell _ (.inl rfl))).trans (aA.below ((bR _ _).drew))⟩;have e7:({d' with c:=some ⟨g,0,none⟩,cn:=d'.cn}:MAd)=d':=by rw[←HE1.out]
    rw[e7] at q1;exact q1.below ((bR _ _).drew))
   have hx2:(X.setCell ⟨R,4,none⟩ (.slice (some ⟨g,0,none⟩) n d'.cn)).drew.heap[b2]? = _:=(Below.heap_setCell X ⟨R,4,none⟩ (.slice (some ⟨g,0,none⟩) n d'.cn) b2 (by show b2≠R;omega)).trans HN2.out;generalize (X.setCell ⟨R,4,none⟩ (.slice (some ⟨g,0,none⟩) n d'.cn)).drew=wb at *;have HNB:Hid (b2<wb.heap.size∧¬RM R d' b2):=lh ⟨(gS hx2).1,fun e=>by have:=HRN.out.rmlt b2 e;omega⟩;have k0:wb.cell? ⟨b2,0,none⟩=some (.int .i64 (c.goal:Nat)):=by simp[World.cell?,hx2]
   have k1:wb.cell? ⟨b2,1,none⟩=some (.int .i64 (c.clause:Nat)):=by simp[World.cell?,hx2]
   have k2:wb.cell? ⟨b2,2,none⟩=some (.int .i64 (c.heap:Nat)):=by simp[World.cell?,hx2]
   have k3:wb.cell? ⟨b2,3,none⟩=some (.int .i64 (c.trail:Nat)):=by simp[World.cell?,hx2]
   have k4:wb.cell? ⟨b2,4,none⟩=some (.int .i64 (c.goals:Nat)):=by simp[World.cell?,hx2]
   have HX2:=lh hx2;have zRb:=HRB.out.1.lt;have HUW:Hid (Calls Try.prog 84 #[.pointer (some ⟨R,1,none⟩),.agg #[.int .i64 (c.goal:Nat),.int .i64 (c.clause:Nat),.int .i64 (c.heap:Nat),.int .i64 (c.trail:Nat),.int .i64 (c.goals:Nat)]] wb.drew fun e w'=>(∃v,e=.returned v)∧aA (RM R d') wb w'∧aX w' Z R p pa pc (aK {S' with ch:=S'.ch.take n} c).mac d' wk'):=lh (by
    have h1:=aM0 (S:={S' with ch:=S'.ch.take n}) (c:=c) (HRB.out.1.below ((bR _ _).drew)) HO.out.within (by have:=HBK.out.room;simp only;omega);exact h1.mono fun e w' h=>⟨h.1,(aA.below ((bR _ _).drew)).trans h.2.1,h.2.2⟩)
   clear hx2 y4 yf zX HRX HBX HN2 HROW HE1
   go_still_tail 4,(by kernel_rfl)
   change wpList _ _ _ _ _ (World.drew _);go_upto_region 6 with fail;refine HUW.out.mono ?_;rintro e w3 ⟨⟨uv,rfl⟩,ht3,hr3⟩;have zR3:=hr3.lt;have hx3:=(ht3.block b2 HNB.out.1 HNB.out.2).trans HX2.out;have j0:w3.cell? ⟨b2,0,none⟩=some (.int .i64 (c.goal:Nat)):=by simp[World.cell?,hx3]
   obtain⟨x0,x1,x2,x3,x4,x5,x6,x7,x8,x9,x10,xf⟩:=hr3.cells;have HT3:=lh ht3;have HR3:=lh hr3;clear ht3 hr3;go_upto_region 6 with fail;have HRZ:Hid (aX ((w3.setCell ⟨R,3,none⟩ (.int .i64 (c.goal:Nat))).setCell ⟨R,10,none⟩ (.int .i64 0)) Z R p pa pc S1.mac d' (4000-S1.f)∧aA (RM R d') wr ((w3.setCell ⟨R,3,none⟩ (.int .i64 (c.goal:Nat))).setCell ⟨R,10,none⟩ (.int .i64 0))):=lh (by
    obtain⟨r1,t1⟩:=HR3.out.putFirst (c.goal:Nat);obtain⟨r2,t2⟩:=r1.putWork 0;have e:=HO.out.is;refine⟨?_,((HRB.out.2.trans HT3.out).trans t1).trans t2⟩;rw[e];exact r2)
   have hxz:((w3.setCell ⟨R,3,none⟩ (.int .i64 (c.goal:Nat))).setCell ⟨R,10,none⟩ (.int .i64 0)).heap[b2]? = _:=((Below.heap_setCell _ ⟨R,10,none⟩ _ b2 (by show b2≠R;omega)).trans (Below.heap_setCell _ ⟨R,3,none⟩ _ b2 (by show b2≠R;omega))).trans hx3;clear x0 x1 x2 x3 x4 x5 x6 x7 x8 x9 x10 xf j0 k0 k1 k2 k3 k4 hx3 HUW;generalize (w3.setCell ⟨R,3,none⟩ (.int .i64 (c.goal:Nat))).setCell ⟨R,10,none⟩ (.int .i64 0)=wz at *;have j0:wz.cell? ⟨b2,0,none⟩=some (.int .i64 (c.goal:Nat)):=by simp[World.cell?,hxz]
   have j1:wz.cell? ⟨b2,1,none⟩=some (.int .i64 (c.clause:Nat)):=by simp[World.cell?,hxz]
   have zb2:b2<wz.heap.size:=(gS hxz).1;have HCB:Hid (Calls Try.prog 113 #[.pointer (some ⟨R,0,none⟩),.int .i64 (c.goal:Nat)] wz fun e w'=>e=.returned (.bool true)∧Below wz.heap.size wz w'):=lh (by
    have hn:=HO.out.num;have h1:=aS8 HRZ.out.1 HO.out.heap (n:=c.goal) ⟨hn.1,by rw[show S1.mac.G.length=S1.G.length by simp[MS.mac]];exact hn.2.1⟩ (bL7 S1 ⟨hn.1,hn.2.1⟩) hn.2.2;rw[decide_eq_true (show (hc S1.mac.H (aG S1.mac.H (gn S1 (c.goal-1)).at')).k=2 from HO.out.fn)] at h1;exact h1)
   obtain⟨r,hr⟩:∃r,dG p c.goal c.clause S1=r:=⟨_,rfl⟩
   have HCW:Hid (∀u,Below wz.heap.size wz u→Calls Try.prog 87 #[.pointer (some ⟨R,0,none⟩),.int .i64 (c.goal:Nat),.int .i64 (c.clause:Nat)] u (kF u Z R p pa pc d' r)):=lh fun u hu=>by
    obtain⟨P1,gs1,t1,hci⟩:=HO.out.call;rw[←hr];exact aZ1 (P:=P1) (gs:=gs1) (t:=t1) ⟨HRZ.out.1.below hu,hci,HP.out,HO.out.room,HO.out.tr,HO.out.chb,fun x hx=>nT (HZN.out x hx) (Nat.le_trans HT.out.1.size (Nat.le_trans HRZ.out.2.size hu.size))⟩ HO.out.cl
   have HEQ:Hid (eL p S.ch.length S=if r.2=true then r.1 else eL p n r.1):=lh (by
    have h1:=HO.out.eq;rw[hr] at h1;rw[←HE.out,←HK.out];exact h1)
   have HNX:Hid (r.2=false→(∃P2,BkI p r.1 P2)∧r.1.ch.length=n):=lh (by
    have h1:=HO.out.next;rw[hr] at h1;exact h1)
   clear hr hxz;obtain⟨S2,okb⟩:=r;cases okb with
   | true =>
    go_wp2_with (first
     | (go_at_call 113;refine HCB.out.mono ?_;rintro e w4 ⟨rfl,hb4⟩;have l0:=(hb4.cell (p:=⟨b2,0,none⟩) zb2).trans j0;have l1:=(hb4.cell (p:=⟨b2,1,none⟩) zb2).trans j1;have HB4:=lh hb4;clear hb4)
     | (go_at_call 87;refine(HCW.out _ HB4.out).mono ?_;rintro e w5 ⟨he,ht5,d5,wk5,hf5,hr5,-⟩;have he':e=.returned (.bool true):=he;subst he';have HT5:=lh ht5;have HF5:=lh hf5;have HR5:=lh hr5;clear ht5 hf5 hr5 he))
    refine bodyPost_ret (v:=.tuple #[]) (by simp[results,Try.results90,go_sem]) rfl ?_;rw[show eL p S.ch.length S=S2 from HEQ.out.trans (if_pos (by first|rfl|trivial))];have t4:aA (RM R d') wr w5:=(HRZ.out.2.trans (aA.below HB4.out)).trans HT5.out;exact⟨⟨_,rfl⟩,fF HT.out.1 HT.out.2 t4,d5,wk5,HT.out.2.trans (fun x hx=>(HF5.out x hx).imp id fun e=>by have:=HRZ.out.2.size;have:=HB4.out.size;omega) HT.out.1.size,HR5.out⟩
   | false =>
    obtain⟨⟨P2,hbk2⟩,hch2⟩:=HNX.out rfl;have HBK2:=lh hbk2;have HCH2:=lh hch2;clear hbk2 hch2;go_wp2_with (first
     | (go_at_call 113;refine HCB.out.mono ?_;rintro e w4 ⟨rfl,hb4⟩;have l0:=(hb4.cell (p:=⟨b2,0,none⟩) zb2).trans j0;have l1:=(hb4.cell (p:=⟨b2,1,none⟩) zb2).trans j1;have HB4:=lh hb4;clear hb4)
     | (go_at_call 87;refine(HCW.out _ HB4.out).mono ?_;rintro e w5 ⟨he,ht5,d5,wk5,hf5,hr5,-⟩;have he':e=.returned (.bool false):=he;subst he';have HT5:=lh ht5;have HF5:=lh hf5;have HR5:=lh hr5;clear ht5 hf5 hr5 he))
    have e9:eL p S.ch.length S=eL p n S2:=HEQ.out.trans (if_neg (by first|decide|simp));have t4:aA (RM R d') wr w5:=(HRZ.out.2.trans (aA.below HB4.out)).trans HT5.out
    go_roundg n
    case measure=>omega
    case rel =>
     exact⟨S2,P2,d5,wk5,HCH2.out.symm,HR5,lh ⟨fF HT.out.1 HT.out.2 t4,HT.out.2.trans (fun x hx=>(HF5.out x hx).imp id fun e=>by have:=HRZ.out.2.size;have:=HB4.out.size;omega) HT.out.1.size⟩,HBK2,lh (by rw[e9,←HCH2.out])⟩
end Go.Proofs.Ytikmgiapjigghab
namespace Go.Proofs.Ytikmgiapjigghab
open Go.RowKit
structure AnC(wb:World)(bl:Nat)(Cb:Nat→Prop)(L:List dS)(x:Value)(C:Nat→Prop)(wr:World):Prop where
 own:dA wr wb.heap.size (fun b=>wb.heap.size≤b∧¬C b) x L
 xo:∀g,x.ownBlock=some g→¬C g
 touch:aA (fun b=>Cb b∨b=bl) wb wr
 col:∀b,b<wb.heap.size→(C b↔Cb b)
 old:∀b,C b→b<wr.heap.size
 lt:bl<wb.heap.size
theorem AnC.start{wb:World}{bl:Nat}{Cb:Nat→Prop}(ho:∀b,Cb b→b<wb.heap.size)(hl:bl<wb.heap.size):AnC wb bl Cb [] (.slice none 0 0) Cb wb :=
 ⟨dA.nil _ _ _,(fun _ hg=>nomatch hg),aA.refl _ _,fun _ _=>Iff.rfl,ho,hl⟩
theorem AnC.form{wb wr:World}{bl:Nat}{Cb C:Nat→Prop}{L:List dS}{x:Value}(h:AnC wb bl Cb L x C wr):∃a cap,x=.slice a L.length cap:=by
 rcases h.own.own.2 with ⟨h1,h2⟩|⟨g,cap,cur,h1,_⟩
 ·exact⟨none,0,by rw[h1,h2]⟩
 ·exact⟨_,_,h1⟩
theorem AnC.next{wb wr w1 X2 w2:World}{bl:Nat}{Cb C C1:Nat→Prop}{L:List dS}{x x':Value}(h:AnC wb bl Cb L x C wr)
 (hb:aA (fun b=>C b∨b=bl) wr w1) (hc1:∀b,b<wr.heap.size→(C1 b↔C b)) (ho1:∀b,C1 b→b<w1.heap.size) {t:Tm} {a:Option Addr} {c:Nat} (hf:t.fits) (ht:Ts w1 (fun b=>wr.heap.size≤b∧¬C1 b) t.args a c) (hX2:Below w1.heap.size w1 X2)
 (ho:w2.ownsRow wb.heap.size 71 3 x' (L.length+1) (dX L++dX [(t,a,c)])) (hg:X2.grownBy w2 x.ownBlock) (hfr:cF X2 x x') :
 AnC wb bl Cb (L++[(t,a,c)]) x' C1 w2:=by
 have hxb:∀g,x.ownBlock=some g→wb.heap.size≤g∧g<wr.heap.size:=fun g hg=>h.own.block hg
 have hbl:bl<wb.heap.size:=h.lt;have hW:aA (fun b=>C b∨b=bl) wr X2:=hb.trans (aA.below hX2);have hE:bW X2 (nB x (fun b=>wb.heap.size≤b∧¬C1 b)) [(t,a,c)]:=by
  refine bW.one hf ((ht.keep (aD.below hX2 _)).mono fun b _ hk=>?_);exact⟨⟨by have:=h.touch.size;omega,hk.2⟩,fun e=>by have:=(hxb b e).2;omega⟩
 have hOW:dA X2 wb.heap.size (fun b=>wb.heap.size≤b∧¬C1 b) x L:=by
  refine⟨aC h.own.own fun g hg'=>hW.block g (hxb g hg').2 fun hm=>?_,?_⟩
  ·rcases hm with hm|hm
   ·exact h.xo g hg' hm
   ·have:=(hxb g hg').1;omega
  ·have h1:bW wr (fun b=>nB x (fun b=>wb.heap.size≤b∧¬C b) b∧b<wr.heap.size) L:=h.own.each.mono fun b hb h=>⟨h,hb⟩
   exact(h1.keep (hW.keeps fun b hb hm=>by
    rcases hm with hm|hm
    ·exact hb.1.1.2 hm
    ·have:=hb.1.1.1;omega)).mono fun b _ hb=>⟨⟨hb.1.1.1,fun e=>hb.1.1.2 ((hc1 b hb.2).1 e)⟩,hb.1.2⟩
 have h2:dA w2 wb.heap.size (fun b=>wb.heap.size≤b∧¬C1 b) x' (L++[(t,a,c)]):=hOW.append hE (by simpa using ho) hg hfr;have hT2:aA (fun b=>(C b∨b=bl)∨x.ownBlock=some b) wr w2:=(hW.mono fun _ _ e=>.inl e).trans (aA.grown hg fun k e=>.inr e);refine⟨h2,?_,?_,?_,?_,hbl⟩
 ·intro g hg' e
  rcases hfr with e2|e2
  ·rw[e2] at hg'
   exact h.xo g hg' ((hc1 g (hxb g hg').2).1 e)
  ·have:=e2 g hg';have:=ho1 g e;have:=hX2.size;omega
 ·refine⟨hT2.os.trans h.touch.os,hT2.tape.trans h.touch.tape,hT2.output.trans h.touch.output,Nat.le_trans h.touch.size hT2.size,fun b hb' hn=>?_⟩
  refine(hT2.block b (nT hb' h.touch.size) ?_).trans (h.touch.block b hb' hn);rintro ((e|e)|e)
  ·exact hn (.inl ((h.col b hb').1 e))
  ·exact hn (.inr e)
  ·have:=(hxb b e).1;omega
 ·intro b hb'
  exact(hc1 b (by have:=h.touch.size;omega)).trans (h.col b hb')
 ·intro b e
  have:=ho1 b e;have:=hX2.size;have:=hg.size;omega
theorem AnC.done{wb wr:World}{bl:Nat}{Cb C:Nat→Prop}{L:List dS}{x:Value}(h:AnC wb bl Cb L x C wr):∃a cap,x=.slice a (L.map (·.1)).length cap∧Ts wr (fun b=>wb.heap.size≤b) (L.map (·.1)) a cap :=
 uC h.own.own (fun _ hb=>(h.own.block hb).1) (h.own.each.mono fun _ _ hk=>hk.1.1)
theorem AnC.row3{wb wr w3:World}{bl:Nat}{Cb C:Nat→Prop}{L:List dS}{x:Value}(h:AnC wb bl Cb L x C wr)(ht:aA (fun b=>C b∨b=bl) wr w3):w3.ownsRow wb.heap.size 71 3 x L.length (dX L) :=
 aC h.own.own fun g hg=>ht.block g (h.own.block hg).2 fun e=>e.elim (h.xo g hg) fun e=>by have:=(h.own.block hg).1;have:=h.lt;omega
theorem AnC.step{wb wr w1 X2 w2:World}{bl nb:Nat}{Cb C C1:Nat→Prop}{L:List dS}{x x':Value}(h:AnC wb bl Cb L x C wr)
 (hb:aA (fun b=>C b∨b=bl) wr w1) (hc1:∀b,b<wr.heap.size→(C1 b↔C b)) {s:List Int} {mv cv:Value} (hn:iG w1 nb C1 s mv cv) {t:Tm} {a:Option Addr} {c:Nat} (hf:t.fits) (ht:Ts w1 (fun b=>wr.heap.size≤b∧¬C1 b) t.args a c) (hX2:Below w1.heap.size w1 X2)
 (ho:w2.ownsRow wb.heap.size 71 3 x' (L.length+1) (dX L++dX [(t,a,c)])) (hg:X2.grownBy w2 x.ownBlock) (hfr:cF X2 x x') :
 AnC wb bl Cb (L++[(t,a,c)]) x' C1 w2∧iG w2 nb C1 s mv cv∧w2.heap[bl]? = w1.heap[bl]?:=by
 have hxb:∀g,x.ownBlock=some g→wb.heap.size≤g∧g<wr.heap.size:=fun g hg=>h.own.block hg
 have hl:=h.lt;have hs:=h.touch.size;refine⟨h.next hb hc1 hn.old hf ht hX2 ho hg hfr,hn.keep (Nat.le_trans hX2.size hg.size) fun b hc=>?_,?_⟩
 ·have hb1:=hn.old b hc
  refine(hg.block b (nT hb1 hX2.size) fun e=>?_).trans (hX2.block b hb1);exact h.xo b e.symm ((hc1 b (hxb b e.symm).2).1 hc)
 ·have hb1:bl<w1.heap.size:=by have:=hb.size;omega
  exact(hg.block bl (nT hb1 hX2.size) fun e=>by have:=(hxb bl e.symm).1;omega).trans (hX2.block bl hb1)
theorem aX.pushA{w X w5:World}{Z:Nat→Prop}{R:Nat}{p:List Cl}{pa:Option Addr}{pc:Nat}{m:Mac}{d:MAd}{wk:Nat}(h:aX w Z R p pa pc m d wk)(hX:Below w.heap.size w X){l:List Tm}{la:Option Addr}{lc:Nat}{B:Nat}(hts:Ts w (fun b=>B≤b) l la lc)(hB:R<B∧(∀b,Z b→b<B)∧∀b,some b∈rws d→b<B){a5:Option Addr}{c5:Nat}
 {A:List ((Option Addr×Nat)×List Tm)} (hA:A.map (·.2)=m.ans) (hown:w5.ownsRow 0 78 1 (.slice a5 (m.ans.length+1) c5) (m.ans.length+1) (iC A++[.slice la l.length lc])) (hg:X.grownBy w5 (Value.slice d.a m.ans.length d.an).ownBlock) (hf:cF X (.slice d.a m.ans.length d.an) (.slice a5 (m.ans.length+1) c5))
 (hAt:∀x,x∈A→Ts w (fun b=>(b≠R∧¬Z b)∧∀y,y∈rws d→y≠some b) x.2 x.1.1 x.1.2) (hzn:∀b,Z b→b<w.heap.size) :
 aX (w5.setCell ⟨R,9,none⟩ (.slice a5 (m.ans.length+1) c5)) Z R p pa pc {m with ans:=m.ans++[l]} {d with a:=a5,an:=c5} wk∧aA (RM R d) w (w5.setCell ⟨R,9,none⟩ (.slice a5 (m.ans.length+1) c5))∧bB w d {d with a:=a5,an:=c5}:=by
 have hs:=hX.size;have ht4:aA (fun b=>bk d.a=some b) X w5:=aA.grown hg fun k e=>(aE d.a m.ans.length d.an).symm.trans e
 have hf4:bk a5=bk d.a∨∀b,bk a5=some b→w.heap.size≤b:=hf.elim (fun e=>.inl ((aE _ _ _).symm.trans (e.trans (aE _ _ _)))) fun e=>.inr fun b hb=>by have:=e b ((aE _ _ _).trans hb);omega
 have hAl:A.length=m.ans.length:=by rw[←hA,List.length_map]
 have hne:=h.rows.ne;unfold Nd at hne;simp only[List.pairwise_cons,List.mem_cons,List.not_mem_nil,or_false,forall_eq_or_imp,forall_eq] at hne;obtain⟨⟨hg',hc,ht',hq,ha⟩,⟨gc,gt,gq,ga⟩,⟨ct,cq,ca⟩,⟨tq,ta⟩,qa,-⟩:=hne;have hR:=h.ne;simp only[rws,List.mem_cons,List.not_mem_nil,or_false,forall_eq_or_imp,forall_eq] at hR;obtain⟨rh,rg,rc,rt,rq,ra⟩:=hR;have htw:aA (fun b=>b=R∨bk d.a=some b∨Z b) w (w5.setCell ⟨R,9,none⟩ (.slice a5 (m.ans.length+1) c5)):=((aA.below hX).trans (ht4.mono fun b _ e=>.inr (.inl e))).trans (aA.setCell _ (.inl rfl));have htR:aA (RM R d) w (w5.setCell ⟨R,9,none⟩ (.slice a5 (m.ans.length+1) c5)):=((aA.below hX).trans (ht4.mono fun b _ e=>.inr (by rw[←e];simp[rws]))).trans (aA.setCell _ (.inl rfl));have hzz:∀y:Option Addr,bk y∈rws d→∀b,bk y=some b→¬Z b:=fun y hy b hb=>h.zr b (.inr (by rw[←hb];exact hy))
 have hfr:∀b,some b∈rws {d with a:=a5,an:=c5}→some b∈rws d∨w.heap.size≤b:=fun b hb=>by
  simp only[rws,List.mem_cons,List.not_mem_nil,or_false] at hb ⊢;rcases hf4 with e|e
  ·rw[e] at hb;exact .inl hb
  ·rcases hb with e1|e1|e1|e1|e1|e1
   ·exact .inl (.inl e1)
   ·exact .inl (.inr (.inl e1))
   ·exact .inl (.inr (.inr (.inl e1)))
   ·exact .inl (.inr (.inr (.inr (.inl e1))))
   ·exact .inl (.inr (.inr (.inr (.inr (.inl e1)))))
   ·exact .inr (e b e1.symm)
 have hzd:∀b,some b∈rws {d with a:=a5,an:=c5}→¬Z b:=fun b hb e=>by
  simp only[rws,List.mem_cons,List.not_mem_nil,or_false] at hb;rcases hb with e1|e1|e1|e1|e1|e1
  ·exact hzz d.h (by simp[rws]) b e1.symm e
  ·exact hzz d.g (by simp[rws]) b e1.symm e
  ·exact hzz d.c (by simp[rws]) b e1.symm e
  ·exact hzz d.t (by simp[rws]) b e1.symm e
  ·exact hzz d.q (by simp[rws]) b e1.symm e
  ·rcases hf4 with k|k
   ·exact hzz d.a (by simp[rws]) b (k.symm.trans e1.symm) e
   ·have:=k b e1.symm;have:=hzn b e;omega
 have hnew:∀y:Option Addr,bk y∈rws d→(∀b,bk y=some b→bk d.a≠some b)→∀b,bk y=some b→bk a5≠some b:=fun y hy hd b hb e=>by
  rcases hf4 with k|k
  ·exact hd b hb (k.symm.trans e)
  ·have:=k b e;have:=h.rows.lt b (by rw[←hb];exact hy);omega
 have haR:bk a5≠some R:=fun e=>by
  rcases hf4 with k|k
  ·exact ra (k.symm.trans e)
  ·have:=k R e;have:=h.lt;omega
 have hxo:∀b,b≠R→(w5.setCell ⟨R,9,none⟩ (.slice a5 (m.ans.length+1) c5)).heap[b]? = w5.heap[b]?:=fun b hb=>Below.heap_setCell _ _ _ _ hb
 refine⟨h.turn ?_ ⟨?_,?_,?_,?_,?_,⟨A++[((la,lc),l)],by rw[List.map_append,hA];rfl,?_,fun x hx=>?_⟩,?_⟩ (htR.mono fun b _ e=>.inl e) hfr hzd,htR,hfr⟩
 ·have hb:w5.heap[R]? = some (.cells (kT pa p.length pc m d wk).toArray 59 (0,0)):=((hg.block R (nT h.lt hs) (fun e=>ra ((aE d.a m.ans.length d.an).symm.trans e.symm))).trans (hX.block R h.lt)).trans h.blk
  rw[aB w5 R 9 _ hb];simp only[kT,List.length_append,List.length_singleton];rfl
 ·exact⟨bA htw h.rows.h.row rh (fun b e1 e2=>ha b e1 e2) (hzz _ (by simp[rws])),h.rows.h.fits⟩
 ·exact bA htw h.rows.g rg (fun b e1 e2=>ga b e1 e2) (hzz _ (by simp[rws]))
 ·exact bA htw h.rows.c rc (fun b e1 e2=>ca b e1 e2) (hzz _ (by simp[rws]))
 ·exact bA htw h.rows.t rt (fun b e1 e2=>ta b e1 e2) (hzz _ (by simp[rws]))
 ·exact bA htw h.rows.q rq (fun b e1 e2=>qa b e1 e2) (hzz _ (by simp[rws]))
 ·have h1:=aC hown fun g hg2=>hxo g fun e=>haR ((aE _ _ _).symm.trans (by rw[←e];exact hg2))
  simp only[List.length_append,List.length_singleton,hAl];have e2:iC (A++[((la,lc),l)])=iC A++[.slice la l.length lc]:=by simp[iC]
  rw[e2];exact h1
 ·have key:Ts w (fun b=>((b≠R∧¬Z b)∧∀y,y∈rws d→y≠some b)∧b<w.heap.size) x.2 x.1.1 x.1.2:=by
   rcases List.mem_append.1 hx with hx|hx
   ·exact(hAt x hx).mono fun b hb h=>⟨h,hb⟩
   ·rw[List.mem_singleton] at hx
    subst hx;exact hts.mono fun b hb h=>⟨⟨⟨by omega,fun e=>by have:=hB.2.1 b e;omega⟩,fun y hy e=>by rw[e] at hy;have:=hB.2.2 b hy;omega⟩,hb⟩
  refine(key.keep (htR.keeps fun b hb e=>?_)).mono fun b _ hb=>⟨hb.1.1,fun y hy e=>?_⟩
  ·rcases e with e|e
   ·exact hb.1.1.1 e
   ·exact hb.1.2 _ e rfl
  ·subst e
   rcases hfr b hy with e|e
   ·exact hb.1.2 _ e rfl
   ·omega
 ·unfold Nd
  simp only[List.pairwise_cons,List.mem_cons,List.not_mem_nil,or_false,forall_eq_or_imp,forall_eq];exact⟨⟨hg',hc,ht',hq,hnew d.h (by simp[rws]) ha⟩,⟨gc,gt,gq,hnew d.g (by simp[rws]) ga⟩,⟨ct,cq,hnew d.c (by simp[rws]) ca⟩,⟨tq,hnew d.t (by simp[rws]) ta⟩,hnew d.q (by simp[rws]) qa,fun _ h=>h.elim,List.Pairwise.nil⟩
end Go.Proofs.Ytikmgiapjigghab
namespace Go.Proofs.Ytikmgiapjigghab
open Go.RowKit Go.Shelf
structure AwI(p:List Cl)(S:MS)(P:PS):Prop where
 core:gW p S P
 fin:S.fin=0∧P.fin=0
 same:S.steps=P.steps∧S.ans=P.ans
 room:S.H.length+833≤400000∧S.G.length+6≤5000
 tr:S.T.length≤100000000
 chb:S.ch.length≤100000000
 qb:S.Q.length≤12
 ab:S.ans.length≤1000
theorem AwI.more{p:List Cl}{S:MS}{P:PS}(h:AwI p S P)(a:List Tm):BkI p {S with ans:=S.ans++[a]} {P with ans:=S.ans++[a]}:=by
 obtain⟨D,Sc,hsit⟩:=h.core.sit;have hc:gW p {S with ans:=S.ans++[a]} {P with ans:=S.ans++[a]}:=⟨⟨D,Sc,hsit.congr rfl rfl rfl rfl⟩,h.core.ch.congr rfl rfl rfl rfl⟩
 exact⟨hc.ch,h.fin,⟨h.same.1,rfl⟩,⟨_,hc⟩,h.room,h.tr,h.chb⟩
theorem aY1{H:List HC}{Q:List Nat}{i:Nat}(hi:i<Q.length){X:List Tm}{left:Nat}(h:shL H 200 (Q.take i)=some (X,left)) :
 (shL H left [Q[i]]=none→shL H 200 Q=none)∧∀x,shL H left [Q[i]]=some x→shL H 200 (Q.take (i+1))=some (X++x.1,x.2):=by
 refine⟨fun hn=>?_,fun x hx=>?_⟩
 ·have e:Q=Q.take i++([Q[i]]++Q.drop (i+1)):=by
   rw[List.singleton_append,←List.drop_eq_getElem_cons hi,List.take_append_drop]
  rw[e,kM,h];simp only[Option.bind_some];rw[kM,hn];rfl
 ·rw[List.take_succ_eq_append_getElem hi,kM,h]
  simp only[Option.bind_some,hx,Option.map_some]
theorem rens_append(X Y:List Tm):∀s,(Tm.rens cN s (X++Y)).1=(Tm.rens cN s X).1++(Tm.rens cN (Tm.rens cN s X).2 Y).1∧(Tm.rens cN s (X++Y)).2=(Tm.rens cN (Tm.rens cN s X).2 Y).2:=by
 induction X with
 | nil=>intro s;simp[Tm.rens]
 | cons t X ih =>
  intro s;simp only[List.cons_append,Tm.rens];obtain⟨h1,h2⟩:=ih (Tm.ren cN s t).2;exact⟨by rw[h1],h2⟩
theorem aY2{w:World}{Z:Nat→Prop}{R:Nat}{p:List Cl}{pa:Option Addr}{pc:Nat}{S:MS}{d:MAd}{wk':Nat}{P:PS}(h:aX w Z R p pa pc S.mac d wk')(hp:∀c,c∈p→ClG c)(hk:AwI p S P)(hzn:∀b,Z b→b<w.heap.size) :
 Calls Try.prog 62 #[.pointer (some ⟨R,0,none⟩)] w (aE3 w Z R p pa pc d (jK p S)):=by
 obtain⟨D,Sc,hsit⟩:=hk.core.sit;have hI:=hsit.hang.heap;have hql:∀i (hi:i<S.Q.length),S.Q[i]<S.H.length:=fun i hi=>(hsit.query i hi).lt
 obtain⟨aq,cq,e,hq⟩:=dC.of_row (ok:=fun b=>b<w.heap.size) (l:=S.mac.Q) (v:=.slice d.q S.mac.Q.length d.qn) h.rows.q (fun b hb=>(h.rows.q.lt b hb).2);injection e with e1 _ e2;have e1':aq=d.q:=e1.symm;have e2':cq=d.qn:=e2.symm;subst e1';subst e2';obtain⟨ah,ch,e,hph⟩:=dV.of_row (ok:=fun b=>b<w.heap.size) h.rows.h.row (fun b hb=>(h.rows.h.row.lt b hb).2) h.rows.h.fits;injection e with e1 _ e2;have e1':ah=d.h:=e1.symm;have e2':ch=d.hn:=e2.symm;subst e1';subst e2';have hQl:S.mac.Q.length=S.Q.length:=by simp[MS.mac]
 have hQ:=lh (show ∀i (hi:i<S.Q.length),∃b off,d.q=some ⟨b,off,none⟩∧b<w.heap.size∧w.cell? ⟨b,off+i,none⟩=some (.int .i64 (S.Q[i]:Nat)) from fun i hi=>by
  obtain⟨b,off,h1,-,h2,h3⟩:=hq.at' i (by rw[hQl];exact hi);refine⟨b,off,h1,h2,?_⟩;rw[h3];simp only[MS.mac,List.getElem_map])
 have hq9:S.Q.length≤9223372036854775807:=by have:=hk.qb;omega
 have B2:Below w.heap.size w ((w.alloc (.cells #[.map none,.slice none 0 0] 137)).alloc (.cells #[.int .i64 200] 3)):=((bR _ _).alloc (nR _) _).alloc (by simp only[aSz];omega) _;obtain⟨c0,c1,c2,c3,c4,c5,c6,c7,c8,c9,c10,cf⟩:=(h.below B2).cells;have zR2:=(h.below B2).lt;rw[hQl] at c6;have hsz:(w.alloc (.cells #[.map none,.slice none 0 0] 137)).heap.size=w.heap.size+1:=by simp only[aSz]
 have hN:=(iG.made w).below ((bR _ _).alloc (nR _) (.cells #[.int .i64 200] 3));have hbl:((w.alloc (.cells #[.map none,.slice none 0 0] 137)).alloc (.cells #[.int .i64 200] 3)).heap[w.heap.size+1]? = some (.cells #[.int .i64 ((200:Nat):Int)] 3 (0,0)):=by
  rw[←hsz];exact heap_alloc_new _ _
 have hz2:((w.alloc (.cells #[.map none,.slice none 0 0] 137)).alloc (.cells #[.int .i64 200] 3)).heap.size=w.heap.size+2:=by simp only[aSz]
 have hH:=lh h;have HP:=lh hp;have HK:=lh hk;have HZN:=lh hzn;have HI:=lh hI;have HQL:=lh hql;have HPH:=lh hph;have HB2:=lh B2;have HN:=lh hN;have HBL:=lh hbl;have HZ2:=lh hz2;clear h hp hk hzn hI hql hph hq B2 hN hbl hz2 hsz hQl;go_enter Try.func62,Try.ntmps62;go_wp2_with fail;generalize (w.alloc (.cells #[.map none,.slice none 0 0] 137)).alloc (.cells #[.int .i64 200] 3)=W2 at *;have HA0:Hid (AnC W2 (w.heap.size+1) (fun b=>b=w.heap.size) [] (.slice none 0 0) (fun b=>b=w.heap.size) W2):=lh (AnC.start (fun b hb=>by have:=HZ2.out;omega) (by have:=HZ2.out;omega))
 go_loopw[4,17] (fun x4 x17 wr=>∃(i:Nat) (L:List dS) (X:List Tm) (left:Nat) (C:Nat→Prop) (mv cv:Value),i≤S.Q.length∧x17=.int .i64 i∧Hid (AnC W2 (w.heap.size+1) (fun b=>b=w.heap.size) L x4 C wr)∧Hid (iG wr w.heap.size C (Tm.rens cN [] X).2 mv cv)∧Hid (wr.heap[w.heap.size+1]? = some (.cells #[.int .i64 (left:Nat)] 3 (0,0)))∧Hid (shL S.H 200 (S.Q.take i)=some (X,left)∧L.map (·.1)=(Tm.rens cN [] X).1)) (fun _ x17 _=>S.Q.length-(intOf x17).toNat)
 case atStart=>exact⟨0,[],[],200,_,_,_,Nat.zero_le _,rfl,HA0,HN,HBL,lh ⟨by rw[List.take_zero,kY],rfl⟩⟩
 case round =>
  clear HA0;obtain⟨i,L,X,left,C,mv,cv,hi,rfl,HA,HNM,HBX,HSH⟩:=hrel;have hBW:Below w.heap.size w wr:=HB2.out.trans (HA.out.touch.toBelow HB2.out.size (fun b e=>e.elim (fun e=>by omega) fun e=>by omega));have HBW:=lh hBW;clear c0 c1 c2 c3 c4 c5 c6 c7 c8 c9 c10 cf;obtain⟨c0,c1,c2,c3,c4,c5,c6,c7,c8,c9,c10,cf⟩:=(hH.out.below hBW).cells;have zR:=(hH.out.below hBW).lt;have hc0:∀b,b<w.heap.size→¬C b:=fun b hb e=>by have:=(HA.out.col b (by have:=HZ2.out;omega)).1 e;omega
  have hcb:¬C (w.heap.size+1):=fun e=>by have:=(HA.out.col _ (by have:=HZ2.out;omega)).1 e;omega
  clear hBW;by_cases hlt:i<S.Q.length
  ·obtain⟨b,off,hda,hb,hqc⟩:=hQ.out i hlt
   have m0:=(HBW.out.cell (p:=⟨b,off+i,none⟩) hb).trans hqc;have HSW:=lh (bO2 HI.out.cells HI.out.straight HI.out.len left (Tm.rens cN [] X).2 C mv cv S.Q[i] wr (by
    have h1:=aD7 _ _ _ HSH.out.1;have h2:=aD9 X [];simp only[List.length_nil] at h1 h2;omega) (HQL.out i hlt) (HPH.out.below HBW.out) HNM.out HBX.out ⟨by omega,hcb⟩ (fun b hb=>⟨by have:=HBW.out.size;omega,hc0 b hb⟩))
   obtain⟨n1,n2⟩:=aY1 hlt HSH.out.1;have HN1:=lh n1;have HN2:=lh n2;rw[hda] at *;clear n1 n2 hqc;obtain⟨o,ho⟩:∃o,shL S.H left [S.Q[i]]=o:=⟨_,rfl⟩
   rw[ho] at HSW HN1 HN2;clear ho;cases o with
   | none =>
    have HE:Hid (jK p S = {S with fin:=3}):=lh (by unfold jK;rw[HN1.out rfl]);clear HN1 HN2;go_wp2_with (go_at_call 91;refine HSW.out.mono ?_;rintro e w3 ⟨ht3,C3,mv3,cv3,s3,hc3,hn3,rfl,k3,hb3⟩;have hbw3:Below w.heap.size w w3:=HBW.out.trans (ht3.toBelow HBW.out.size (fun b e=>e.elim (fun e=>Nat.le_of_not_lt fun hb=>hc0 b hb e) fun e=>by omega));have HB3:=lh hbw3;obtain⟨x0,x1,x2,x3,x4,x5,x6,x7,x8,x9,x10,xf⟩:=(hH.out.below hbw3).cells;have zR3:=(hH.out.below hbw3).lt;clear ht3 hc3 hn3 hb3 hbw3);obtain⟨u1,u2⟩:=(hH.out.below HB3.out).putFin 3;have hbT:Below (w3.setCell ⟨R,8,none⟩ (.int .i64 3)).heap.size (w3.setCell ⟨R,8,none⟩ (.int .i64 3)) ((w3.setCell ⟨R,8,none⟩ (.int .i64 3)).alloc (.cells #[.int .i64 0,.string ⟨#[]⟩,.slice none 0 0] 71)):=(bR _ _).alloc (nR _) _;refine bodyPost_ret (v:=.tuple #[]) (by simp[results,Try.results62,go_sem]) rfl ?_;rw[HE.out];exact⟨⟨_,rfl⟩,((aA.below HB3.out).trans u2).trans (aA.below hbT),d,_,bB.refl _ _,u1.below hbT⟩
   | some z =>
    obtain⟨i0,hi0,hz0',hz1',hz2'⟩:=info_parts Try.infoTm;obtain⟨xa,xc,hxv⟩:=HA.out.form;subst hxv;have hLl:L.length=i:=by
     have h1:=congrArg List.length HSH.out.2;have h2:=(tX _ _ _ HSH.out.1).2;rw[List.length_map] at h1;have h3:∀(l:List Tm) s,(Tm.rens cN s l).1.length=l.length:=by
      intro l
      induction l with
      | nil=>intro s;rfl
      | cons t l ih=>intro s;simp only[Tm.rens,List.length_cons,ih]
     rw[h3,h2,List.length_take] at h1;omega
    have HLL:=lh hLl;clear hLl;have hqb:=HK.out.qb;go_wp2_with (first
     | (go_at_call 91;refine HSW.out.mono ?_;rintro e w3 ⟨ht3,C3,mv3,cv3,s3,hc3,hn3,T,a3,c3',hTT,rfl,hf3,hts3,hs3,hb3⟩;have HT3:=lh ht3;have HC3:=lh hc3;have HN3:=lh hn3;have HTT:=lh hTT;have HF3:=lh hf3;have HTS3:=lh hts3;have HS3:=lh hs3;have HB3:=lh hb3;have HO1:=lh (((HA.out.row3 ht3).alloc (.cells #[.int .i64 T.var,.string T.name,.slice a3 T.args.length c3'] 71)).alloc (.cells #[.int .i64 T.var,.string T.name,.slice a3 T.args.length c3'] 71));clear ht3 hc3 hn3 hTT hf3 hts3 hs3 hb3)
     | (at_builtin;have _g:=HO1;(refine aJ _ rfl _ _ 78 rfl W2.heap.size 71 i0 _ 3 48 Try.underlying78 hi0 hz0' hz1' hz2' rfl (by decide) _ _ _ rfl HO1.out (some ⟨w3.heap.size+1,0,none⟩) 1 1 ?d0 (dX [(T,a3,c3')]) rfl (by rw[eG];rfl) ?d1 (kU _) ?d2 ?d3 ?d4 ?_)))
    any_goals (first|(intro h;cases h;done)|exact aN6 (w3.alloc (.cells #[.int .i64 T.var,.string T.name,.slice a3 T.args.length c3'] 71)) _ a3 c3' (by simp only[aSz])|(have:=HLL.out;unfold maxLen;omega)|(have:=HLL.out;omega)|(have:=HA.out.touch.size;have:=HT3.out.size;simp only[World.size_alloc];omega))
    intro v4 w4 hown4 hgrow4 hfr4;have HNX:=lh (HA.out.step HT3.out HC3.out HN3.out HF3.out HTS3.out (((bR _ _).alloc (nR _) (.cells #[.int .i64 T.var,.string T.name,.slice a3 T.args.length c3'] 71)).alloc (by simp only[aSz];omega) (.cells #[.int .i64 T.var,.string T.name,.slice a3 T.args.length c3'] 71)) hown4 hgrow4 hfr4);clear hown4 hgrow4 hfr4;go_wp2_with fail;go_roundw
    case measure=>simp only[intOf];omega
    case rel =>
     have hra:=rens_append X z.1 [];refine⟨i+1,L++[(T,a3,c3')],X++z.1,z.2,C3,mv3,cv3,by omega,by go_num,lh HNX.out.1,lh ?_,lh ?_,lh ⟨HN2.out z rfl,?_⟩⟩
     ·rw[hra.2,←HS3.out];exact HNX.out.2.1
     ·rw[HNX.out.2.2];exact HB3.out
     ·rw[List.map_append,HSH.out.2,hra.1,HTT.out];rfl
  ·
   obtain rfl:i=S.Q.length:=by omega
   have hsh:=HSH.out;rw[List.take_length] at hsh;obtain⟨oa,oc,hxv,hts⟩:=HA.out.done;subst hxv;obtain⟨l,hl⟩:∃l,L.map (·.1)=l:=⟨_,rfl⟩
   rw[hl] at hts hsh ⊢;have HEQ:Hid (jK p S=if 40≤S.ans.length+1 then {S with ans:=S.ans++[l],fin:=1} else eL p S.ch.length {S with ans:=S.ans++[l]}):=lh (by unfold jK;rw[hsh.1,hsh.2]);have HTS:=lh hts;have hans:S.mac.ans=S.ans:=rfl;rw[hans] at c9;obtain⟨A,hA1,hA2,hA3⟩:=(hH.out.below HBW.out).rows.a;rw[hans] at hA1 hA2;have hAl:A.length=S.ans.length:=by rw[←hA1,List.length_map]
   rw[hAl] at hA2;have hab:=HK.out.ab;have HA1:=lh hA1;have HA3:=lh hA3;have HO1:=lh (hA2.alloc (.cells #[.slice oa l.length oc] 78));obtain⟨i0,zc,hi0,hz0,hz1,hz2,hz3⟩:=zY;have hlt':¬(S.Q.length:Int)<(S.Q.length:Int):=by omega
   clear hsh hts hl hlt hA1 hA2 hA3 hAl hi HA;go_wp2_with (at_builtin;have _g:=HO1;(refine aR _ rfl _ _ 28 rfl 0 78 i0 zc 1 24 Try.underlying28 hi0 hz0 hz1 hz2 hz3 (by decide) _ _ _ rfl HO1.out ⟨wr.heap.size,0,none⟩ 1 1 [.slice oa l.length oc] rfl rfl ?e1 ?e2 ?e3 ?e4 ?e5 ?_))
   any_goals (first|exact dT _ _ _|(intro u hu;simp only[List.mem_singleton] at hu;subst hu;rfl)|rfl|(unfold maxLen;omega)|omega|(simp only[World.size_alloc];omega))
   intro av' X3 hown3 hg3 hfr3;obtain⟨a5,c5',rfl⟩:=bL hown3;have hRw:=hH.out.below HBW.out;have hX1:Below wr.heap.size wr (wr.alloc (.cells #[.slice oa l.length oc] 78)):=(bR _ _).alloc (nR _) _;have hrb:X3.heap[R]? = wr.heap[R]?:=(hg3.block R (nT zR hX1.size) (fun e=>hRw.ne (bk d.a) (by simp[rws]) ((aE d.a S.ans.length d.an).symm.trans e.symm))).trans (hX1.block R zR);have z9:X3.cell? ⟨R,9,none⟩=some (.slice d.a S.ans.length d.an):=(World.cell?_of_block hrb).trans c9;have zf:∀o,X3.frozen? ⟨R,o,none⟩=false:=fun o=>by have:=cf o;simpa[World.frozen?,hrb] using this
   have hw2:w.heap.size≤W2.heap.size:=HB2.out.size;have hpu:=hRw.pushA hX1 HTS.out ⟨nT hH.out.lt hw2,fun b hb=>nT (HZN.out b hb) hw2,fun b hb=>nT (hH.out.rows.lt b hb) hw2⟩ (A:=A) HA1.out hown3 hg3 hfr3 HA3.out (fun b hb=>nT (HZN.out b hb) HBW.out.size);simp only[hans] at hpu;have HPU:=lh hpu;clear hRw hX1 hrb hown3 hg3 hfr3 hpu c0 c1 c2 c3 c4 c5 c6 c7 c8 c9 c10 cf hc0 hcb hw2;go_upto_region 12 with fail;generalize X3.setCell ⟨R,9,none⟩ (.slice a5 (S.ans.length+1) c5')=wk at *;have HRK:Hid (aX wk Z R p pa pc ({S with ans:=S.ans++[l]}:MS).mac {d with a:=a5,an:=c5'} wk'):=lh HPU.out.1;have HTK:Hid (aA (RM R d) w wk∧bB w d {d with a:=a5,an:=c5'}):=lh ⟨(aA.below HBW.out).trans HPU.out.2.1,fun b hb=>(HPU.out.2.2 b hb).imp id fun e=>Nat.le_trans HBW.out.size e⟩;clear HPU;obtain⟨x0,x1,x2,x3,x4,x5,x6,x7,x8,x9,x10,xf⟩:=HRK.out.cells;have zRK:=HRK.out.lt;have hal:({S with ans:=S.ans++[l]}:MS).mac.ans.length=S.ans.length+1:=by simp[MS.mac]
   rw[hal] at x9;clear hal z9 zf;by_cases h40:40≤S.ans.length+1
   ·have h41:(40:Int)≤(S.ans.length:Int)+1:=by omega
    have HE:Hid (jK p S = {S with ans:=S.ans++[l],fin:=1}):=lh (HEQ.out.trans (if_pos h40));have HS1:=lh (HRK.out.putFin 1);clear h40;go_wp2_with fail;refine bodyPost_ret (v:=.tuple #[]) (by simp[results,Try.results62,go_sem]) rfl ?_;rw[HE.out];exact⟨⟨_,rfl⟩,fF HTK.out.1 HTK.out.2 HS1.out.2,_,_,HTK.out.2,HS1.out.1⟩
   ·have h41:¬(40:Int)≤(S.ans.length:Int)+1:=by omega
    have HE:Hid (jK p S=eL p S.ch.length {S with ans:=S.ans++[l]}):=lh (HEQ.out.trans (if_neg h40));have HBK:=lh (aY5 (S:={S with ans:=S.ans++[l]}) HRK.out HP.out (HK.out.more l) (fun b hb=>nT (HZN.out b hb) HTK.out.1.size));clear h40;go_wp2_with (go_at_call 90;refine HBK.out.mono ?_;rintro e w9 ⟨⟨uv,rfl⟩,ht9,d9,wk9,hf9,hr9⟩;have HT9:=lh ht9;have HF9:=lh hf9;have HR9:=lh hr9;clear ht9 hf9 hr9);refine bodyPost_ret (v:=.tuple #[]) (by simp[results,Try.results62,go_sem]) rfl ?_;rw[HE.out];exact⟨⟨_,rfl⟩,fF HTK.out.1 HTK.out.2 HT9.out,d9,wk9,HTK.out.2.trans HF9.out HTK.out.1.size,HR9.out⟩
end Go.Proofs.Ytikmgiapjigghab
