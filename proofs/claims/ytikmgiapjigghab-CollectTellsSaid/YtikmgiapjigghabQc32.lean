/- Walk: the runner takes a goal. -/
import Derived.StillTailTactics
import Derived.Deep.CutBlock
import Derived.Test.YtikmgiapjigghabQc21
import Derived.Test.YtikmgiapjigghabQc27
import Derived.Test.YtikmgiapjigghabQc29
import Derived.Test.YtikmgiapjigghabQc30
import Derived.Test.YtikmgiapjigghabQc31
set_option maxRecDepth 100000
set_option maxHeartbeats 8000000
namespace Go.Proofs.Ytikmgiapjigghab
open Go.RowKit Go.Shelf
theorem aM6(n:Nat)(hn:n≤1000000):∃o,∀w:World,(Instr.makeSlice 48 (.int .i64 (n:Int)) (.int .i64 (n:Int))).run Try.prog w=.ok (.slice (some ⟨w.heap.size,0,none⟩) n n) (w.alloc o):=by
 obtain⟨i0,hi0,hz0,hz1,hz2⟩:=info_parts Try.infoTm;have key:=fun w:World=>run_make (P:=Try.prog) w 48 71 i0 _ Try.underlying48 hi0 hz0 .i64 .i64 n n (by omega) (Int.le_refl _) (by rw[hz2];omega) (by omega)
 simp only[Int.toNat_natCast] at key;exact⟨_,key⟩
theorem aX.hcell{w:World}{Z:Nat→Prop}{R:Nat}{p:List Cl}{pa:Option Addr}{pc:Nat}{m:Mac}{d:MAd}{wk:Nat}(h:aX w Z R p pa pc m d wk){i:Nat}(hi:i<m.H.length){b2 off2:Nat}(hd:d.h=some ⟨b2,off2,none⟩) :
 w.cell? ⟨b2,off2+i*3,none⟩=some (.int .i64 (hc m.H i).k)∧w.cell? ⟨b2,off2+i*3+1,none⟩=some (.int .i64 (hc m.H i).n)∧w.cell? ⟨b2,off2+i*3+2,none⟩=some (.string (hc m.H i).name)∧b2<w.heap.size:=by
 obtain⟨ah,ch,e,hph⟩:=dV.of_row (ok:=fun _=>True) h.rows.h.row (fun _ _=>trivial) h.rows.h.fits;injection e with e1 _ e2;have e1':ah=d.h:=e1.symm;have e2':ch=d.hn:=e2.symm;subst e1';subst e2';obtain⟨b,off,hbh,-,zb2,h0,h1,h2,-⟩:=hph.at' i hi;rw[hd] at hbh;injection hbh with hbh;injection hbh with q1 q2 _;subst q1;subst q2;exact⟨h0,h1,h2,zb2⟩
theorem aM7{n:ByteArray}{l:List UInt8}(h:n.toList=l):n=⟨l.toArray⟩:=by
 cases n with
 | mk d =>
  have:d.toList=l:=by rw[←h,ByteArray.toList_eq]
  rw[←this]
theorem lY{n:ByteArray}{l:List UInt8}(h:(n.toList == l)=false):n≠⟨l.toArray⟩:=fun e=>by
 rw[beq_eq_false_iff_ne] at h;exact h (by rw[e,ByteArray.toList_eq])
theorem aX.cutC{w:World}{Z:Nat→Prop}{R:Nat}{p:List Cl}{pa:Option Addr}{pc:Nat}{S:MS}{d:MAd}{wk:Nat}(h:aX w Z R p pa pc S.mac d wk){k:Nat}(hk:k≤S.ch.length)(hzn:∀b,Z b→b<w.heap.size) :
 aX (w.setCell ⟨R,4,none⟩ (.slice d.c k d.cn)) Z R p pa pc ({S with ch:=S.ch.take k}:MS).mac d wk∧aA (RM R d) w (w.setCell ⟨R,4,none⟩ (.slice d.c k d.cn)):=by
 have hl:S.mac.ch.length=S.ch.length:=by simp[MS.mac]
 have hl2:(S.mac.ch.take k).length=k:=by rw[List.length_take];omega
 have hc2:=iD h.rows.c (k:=k) (by omega);rw[←uQ] at hc2;obtain⟨q1,-⟩:=h.putch (w1:=w) (aA.refl _ _) (L:=S.mac.ch.take k) (a:=d.c) (n:=d.cn) (by rw[hl2];exact hc2) (.inl rfl) hzn;rw[hl2] at q1;have e6:({S with ch:=S.ch.take k}:MS).mac = {S.mac with ch:=S.mac.ch.take k}:=by simp only[MS.mac,List.map_take]
 rw[e6];exact⟨q1,aA.setCell _ (.inl rfl)⟩
def TkM(p:List Cl)(S S2:MS)(b:Bool):Prop :=
 eS p S=(if b=true∨S2.fin≠0 then S2 else eL p S2.ch.length S2)∧(b=false→S2.fin=0→∃P2,BkI p S2 P2)
theorem TkM.yes{p:List Cl}{S S2:MS}(h:eS p S=S2):TkM p S S2 true:=⟨h.trans (if_pos (.inl rfl)).symm,fun e=>nomatch e⟩
theorem bN1{w:World}{Z:Nat→Prop}{R:Nat}{p:List Cl}{pa:Option Addr}{pc:Nat}{S:MS}{d:MAd}{wk:Nat}{P:PS}(h:aX w Z R p pa pc S.mac d wk)(hp:∀c,c∈p→ClG c)(hk:TkI p S P)(hst:S.steps≤1000000)(hzn:∀b,Z b→b<w.heap.size) :
 Calls Try.prog 61 #[.pointer (some ⟨R,0,none⟩)] w (aE3 w Z R p pa pc d (eS p S)):=by
 obtain⟨t,hF⟩:=aM1 hk;obtain⟨c0,c1,c2,c3,c4,c5,c6,c7,c8,c9,c10,cf⟩:=h.cells;have zR:=h.lt;obtain⟨n1,n2,n3⟩:=hF.num;obtain⟨kk,hkk⟩:=fI (hF.heap.straight _ n3);obtain⟨q,hq1⟩:∃q,S.first=q+1:=⟨S.first-1,by omega⟩
 have hgq0:S.first-1=q:=by omega
 have hq:q<S.mac.G.length:=by simp[MS.mac];omega
 obtain⟨ah,ch,e,hph⟩:=dV.of_row (ok:=fun _=>True) h.rows.h.row (fun _ _=>trivial) h.rows.h.fits;injection e with e1 _ e2;have e1':ah=d.h:=e1.symm;have e2':ch=d.hn:=e2.symm;subst e1';subst e2';obtain⟨ag,cg,e,hg⟩:=cZ.of_row (ok:=fun _=>True) h.rows.g (dN _) (fun _ _=>trivial);injection e with e1 _ e2;have e1':ag=d.g:=e1.symm;have e2':cg=d.gn:=e2.symm;subst e1';subst e2';obtain⟨b,off,hbg,-,zb,hcs⟩:=hg.some (by decide) (by omega);rw[hbg] at c2;obtain⟨g0,g1,g2⟩:=fU S.mac.G q hq;have hgq:S.mac.G[q]=(gn S q).gl:=by
  have hq':q<S.G.length:=by simpa[MS.mac] using hq
  simp only[MS.mac,List.getElem_map,gn];rw[List.getD_eq_getElem?_getD,List.getElem?_eq_getElem hq'];rfl
 rw[hgq] at g0 g1 g2;have m0:=hcs _ _ g0;have m1:=hcs _ _ g1;have m2:=hcs _ _ g2;simp only[Gn.gl] at m0 m1 m2;rw[←Nat.add_assoc] at m1 m2;obtain⟨hgm,hgl⟩:S.mac.G.length=S.G.length∧S.mac.G.length≤9223372036854775807:=⟨by simp[MS.mac],by have:=hg.cap;unfold maxLen at this;omega⟩
 have hel:aF S S.first<S.H.length:=hF.lt
 obtain⟨b2,off2,hbh,-,zb2,h0,h1,h2,-⟩:=hph.at' (aF S S.first) hel;rw[hbh] at c1;have HBH:=lh hbh;have hl9:S.H.length≤9223372036854775807:=by have:=hph.cap;unfold maxLen at this;have e:S.mac.H=S.H:=rfl;rw[e] at this;omega
 obtain⟨e0,he0⟩:∃e0,e0=aF S S.first:=⟨_,rfl⟩
 have hE0:aG S.H (gn S q).at'=e0:=by rw[he0];unfold aF;rw[hgq0]
 rw[←he0] at h0 h1 h2 hel;have hSm:S.mac.H=S.H:=rfl;rw[hSm] at h0 h1 h2;rw[hgq0] at hkk n3;have hc3:S.mac.first=(q:Int)+1:=by simp only[MS.mac,hq1];omega
 rw[hc3] at c3;have hc7:S.mac.steps=(S.steps:Int):=rfl;rw[hc7] at c7;have hH:=lh h;have HP:=lh hp;have HPH:=lh hph;have HKK:=lh hkk;have HGM:=lh hgm;have HE0:=lh he0;have HN3:=lh n3;have HF:=lh hF;have HTK:=lh hk;have HZN:=lh hzn;have HQ1:=lh hq1;have HQ0:=lh hgq0;clear h hp hph hkk hgm hg hcs g0 g1 g2 hgq he0 hbh hbg n3 hF hk hzn hc3 hc7 n1 n2 hq1 hgq0;have hB0:Below w.heap.size w (w.alloc (.cells #[.int .i64 ((gn S q).at':Int),.int .i64 ((gn S q).cut:Int),.int .i64 ((gn S q).next:Int)] 65)):=(bR _ _).alloc (nR _) _;have y7:=(hB0.cell (p:=⟨R,7,none⟩) zR).trans c7;have y10:=(hB0.cell (p:=⟨R,10,none⟩) zR).trans c10;have yf:∀o,(w.alloc (.cells #[.int .i64 ((gn S q).at':Int),.int .i64 ((gn S q).cut:Int),.int .i64 ((gn S q).next:Int)] 65)).frozen? ⟨R,o,none⟩=false:=(hH.out.below hB0).cells.2.2.2.2.2.2.2.2.2.2.2;have HR3:Hid (aX (((w.setCell ⟨R,7,none⟩ (.int .i64 ((S.steps:Int)+1))).setCell ⟨R,10,none⟩ (.int .i64 0)).alloc (.cells #[.int .i64 ((gn S q).at':Int),.int .i64 ((gn S q).cut:Int),.int .i64 ((gn S q).next:Int)] 65)) Z R p pa pc ({S with steps:=S.steps+1,f:=4000}:MS).mac d (4000-4000)∧aA (RM R d) w (((w.setCell ⟨R,7,none⟩ (.int .i64 ((S.steps:Int)+1))).setCell ⟨R,10,none⟩ (.int .i64 0)).alloc (.cells #[.int .i64 ((gn S q).at':Int),.int .i64 ((gn S q).cut:Int),.int .i64 ((gn S q).next:Int)] 65))):=lh (by
  obtain⟨r1,t1⟩:=hH.out.putSteps ((S.steps:Int)+1);obtain⟨r2,t2⟩:=r1.putWork 0;refine⟨?_,(t1.trans t2).trans (aA.below ((bR _ _).alloc (nR _) _))⟩;have e:({S with steps:=S.steps+1,f:=4000}:MS).mac = {S.mac with steps:=(S.steps:Int)+1}:=by simp only[MS.mac];congr 1
  rw[e];exact r2.below ((bR _ _).alloc (nR _) _))
 have hsz:((w.setCell ⟨R,7,none⟩ (.int .i64 ((S.steps:Int)+1))).setCell ⟨R,10,none⟩ (.int .i64 0)).heap.size=w.heap.size:=by simp[World.setCell]
 have hN3:=heap_alloc_new ((w.setCell ⟨R,7,none⟩ (.int .i64 ((S.steps:Int)+1))).setCell ⟨R,10,none⟩ (.int .i64 0)) (.cells #[.int .i64 ((gn S q).at':Int),.int .i64 ((gn S q).cut:Int),.int .i64 ((gn S q).next:Int)] 65);rw[hsz] at hN3;have HN3b:=lh hN3;clear hB0 hN3 hsz;go_enter Try.func61,Try.ntmps61;go_upto_region 4 with fail;generalize hX:((w.setCell ⟨R,7,none⟩ (.int .i64 ((S.steps:Int)+1))).setCell ⟨R,10,none⟩ (.int .i64 0)).alloc (.cells #[.int .i64 ((gn S q).at':Int),.int .i64 ((gn S q).cut:Int),.int .i64 ((gn S q).next:Int)] 65)=X at *;clear hX y7 y10 yf;have y1:X.cell? ⟨R,1,none⟩=some (.slice (some ⟨b2,off2,none⟩) S.H.length d.hn):=by have:=HR3.out.1.cells.2.1;rw[HBH.out] at this;exact this
 have y7:X.cell? ⟨w.heap.size,0,none⟩=some (.int .i64 ((gn S q).at':Int)):=by simp[World.cell?,HN3b.out]
 have zX:w.heap.size<X.heap.size:=(gS HN3b.out).1;have zRX:=HR3.out.1.lt;have HEW:Hid (Calls Try.prog 85 #[.slice (some ⟨b2,off2,none⟩) S.H.length d.hn,.int .i64 ((gn S q).at':Nat)] X.drew fun e w'=>e=.returned (.int .i64 (e0:Nat))∧w'=X.drew):=lh (by
  obtain⟨ah,ch,e,hph⟩:=dV.of_row (ok:=fun _=>True) (HR3.out.1.below ((bR _ _).drew)).rows.h.row (fun _ _=>trivial) (HR3.out.1.below ((bR _ _).drew)).rows.h.fits;injection e with e1 _ e2;have e1':ah=d.h:=e1.symm;have e2':ch=d.hn:=e2.symm;subst e1';subst e2';have:=(aK1 hph HF.out.heap.cells HKK.out HN3.out).mono (R':=fun e w'=>e=.returned (.int .i64 (e0:Nat))∧w'=X.drew) fun _ _ h=>⟨by rw[h.1];rw[hE0],h.2.symm⟩
  rw[HBH.out] at this;exact this)
 go_still_tail 7,(by kernel_rfl)
 change wpList _ _ _ _ _ (World.drew _);go_upto_region 5 with (go_at_call 85;refine HEW.out.mono ?_;rintro e w2 ⟨rfl,rfl⟩);have hNY:X.drew.heap[w.heap.size]? = _:=HN3b.out;have HRY:Hid (aX X.drew Z R p pa pc ({S with steps:=S.steps+1,f:=4000}:MS).mac d (4000-4000)∧aA (RM R d) w X.drew):=lh ⟨HR3.out.1.below ((bR _ _).drew),HR3.out.2.trans (aA.below ((bR _ _).drew))⟩;clear HEW y1 y7 HN3b HR3 zX zRX h0 h1 h2 c0 c1 c2 c3 c4 c5 c6 c7 c8 c9 c10 cf m0 m1 m2;generalize X.drew=Y at *;have HNY:=lh hNY;have zY7:w.heap.size<Y.heap.size:=(gS hNY).1;clear hNY;have y1:Y.cell? ⟨R,1,none⟩=some (.slice (some ⟨b2,off2,none⟩) S.H.length d.hn):=by have:=HRY.out.1.cells.2.1;rw[HBH.out] at this;exact this
 obtain⟨d0',d1',d2',zbY⟩:=HRY.out.1.hcell (i:=e0) hel HBH.out;have d0:Y.cell? ⟨b2,off2+e0*3,none⟩=some (.int .i64 (hc S.H e0).k):=d0';have d1:Y.cell? ⟨b2,off2+e0*3+1,none⟩=some (.int .i64 (hc S.H e0).n):=d1';have d2:Y.cell? ⟨b2,off2+e0*3+2,none⟩=some (.string (hc S.H e0).name):=d2';clear d0' d1' d2';have zRY:=HRY.out.1.lt;have HB5:Hid (Below Y.heap.size Y (Y.alloc (.cells #[.int .i64 (hc S.H e0).k,.int .i64 (hc S.H e0).n,.string (hc S.H e0).name] 69))):=lh ((bR _ _).alloc (nR _) _);have HN5:Hid ((Y.alloc (.cells #[.int .i64 (hc S.H e0).k,.int .i64 (hc S.H e0).n,.string (hc S.H e0).name] 69)).heap[Y.heap.size]? = _):=lh (heap_alloc_new _ _)
 go_upto_block 0 with fail
 generalize hW5:Y.alloc (.cells #[.int .i64 (hc S.H e0).k,.int .i64 (hc S.H e0).n,.string (hc S.H e0).name] 69)=W5 at *;clear hW5 y1 d0 d1 d2;have HN7:Hid (W5.heap[w.heap.size]? = _):=lh ((HB5.out.block _ zY7).trans HNY.out);have HR5:Hid (aX W5 Z R p pa pc ({S with steps:=S.steps+1,f:=4000}:MS).mac d (4000-4000)∧aA (RM R d) w W5):=lh ⟨HRY.out.1.below HB5.out,HRY.out.2.trans (aA.below HB5.out)⟩;have HNE:Hid (w.heap.size≤Y.heap.size∧w.heap.size<W5.heap.size∧Y.heap.size<W5.heap.size∧w.heap.size≠Y.heap.size):=lh ⟨Nat.le_of_lt zY7,(gS HN7.out).1,(gS HN5.out).1,by omega⟩;generalize Y.heap.size=b5 at *;clear HRY HB5 HNY zbY zRY zY7
 go_cut[6] (fun x6 wx=>∃(S2:MS) (d2:MAd) (wk2:Nat) (b:Bool),x6=.bool b∧Hid (aX wx Z R p pa pc S2.mac d2 wk2)∧Hid (aA (RM R d) w wx∧bB w d d2)∧Hid (TkM p S S2 b))
 case first =>
  have hx5:=HN5.out;have hx7:=HN7.out;have f0:W5.cell? ⟨b5,0,none⟩=some (.int .i64 (hc S.H e0).k):=by simp[World.cell?,hx5]
  have f1:W5.cell? ⟨b5,1,none⟩=some (.int .i64 (hc S.H e0).n):=by simp[World.cell?,hx5]
  have f2:W5.cell? ⟨b5,2,none⟩=some (.string (hc S.H e0).name):=by simp[World.cell?,hx5]
  have g1:W5.cell? ⟨w.heap.size,1,none⟩=some (.int .i64 ((gn S q).cut:Int)):=by simp[World.cell?,hx7]
  have g2:W5.cell? ⟨w.heap.size,2,none⟩=some (.int .i64 ((gn S q).next:Int)):=by simp[World.cell?,hx7]
  clear hx5 hx7;have zR5:=HR5.out.1.lt;obtain⟨n7,n71,n5,n57⟩:=HNE.out;by_cases hv:t.var=0
  ·obtain⟨q1,q2,q3⟩:=HF.out.fn hv
   rw[←HE0.out] at q1 q2 q3;rw[q1] at f0;rw[q2] at f2;rw[q3] at f1;have hal:t.args.length≤4:=by
    have:=(HF.out.heap.cells e0 hel)
    rcases bV this with e|e
    ·rw[q1] at e;omega
    ·have:=e.2;rw[q3] at this;omega
   have HV:=lh hv;have HMW:Hid (∀u,Below W5.heap.size W5 u→∀a,Calls Try.prog 86 #[.agg #[.int .i64 0,.string t.name,.slice a t.args.length t.args.length]] u fun e w'=>e=.returned (.bool (cG t.name t.args.length))∧Below W5.heap.size W5 w'):=lh fun u hu a=>(aI8 0 t.name a t.args.length t.args.length u).mono fun e w' h=>⟨h.1,hu.trans (h.2.mono hu.size)⟩
   obtain⟨mo,hmo⟩:=aM6 t.args.length (by omega);rw[HE0.out] at q1 q2 q3;have Q1:=lh q1;have Q2:=lh q2;have Q3:=lh q3;clear q1 q2 q3 hv;go_upto_region 14 with fail
   go_cut[80] (fun x80 wx=>x80=.bool (!(cG t.name t.args.length))∧Hid (Below W5.heap.size W5 wx))
   case first =>
    go_region_with (go_at_call 86;refine(HMW.out _ (by first|exact((bR _ _).alloc (nR _) _).drew|exact((bR _ _).drew).alloc (nR _) _) _).mono ?_;rintro e wM ⟨rfl,hbM⟩;have HBM:=lh hbM;clear hbM)
    all_goals
     go_wp2_with fail;go_meet;exact⟨rfl,HBM⟩
   case rest =>
   obtain⟨rfl,HBM⟩:=hcut;have HBW5:Hid (Below W5.heap.size W5 wc):=HBM;obtain⟨x0,x1,x2,x3,x4,x5,x6,x7,x8,x9,x10,xf⟩:=(HR5.out.1.below HBM.out).cells;have zRM:=(HR5.out.1.below HBM.out).lt;have p2:=(HBM.out.cell (p:=⟨b5,2,none⟩) n5).trans f2;have r1:=(HBM.out.cell (p:=⟨w.heap.size,1,none⟩) n71).trans g1;have r2:=(HBM.out.cell (p:=⟨w.heap.size,2,none⟩) n71).trans g2;have HRM:=lh (HR5.out.1.below HBM.out);have HTM5:Hid (aA (RM R d) w wc):=lh (HR5.out.2.trans (aA.below HBM.out));clear f0 f1 f2 g1 g2 hmo HMW;generalize wc=wM at *;by_cases hm:cG t.name t.args.length=false
   ·
    have HM:=lh hm;obtain⟨r,hr⟩:∃r,dG p S.first 0 {S with steps:=S.steps+1,f:=4000}=r:=⟨_,rfl⟩
    have HCW:Hid (∀u,Below W5.heap.size W5 u→Calls Try.prog 87 #[.pointer (some ⟨R,0,none⟩),.int .i64 ((q:Int)+1),.int .i64 0] u (kF u Z R p pa pc d r)):=lh fun u hu=>by
     have h1:=aZ1 (S:={S with steps:=S.steps+1,f:=4000}) (n:=S.first) (gs:=P.now) (t:=t) (i:=0) ⟨HR5.out.1.below hu,HF.out.call HV.out,HP.out,HTK.out.room,HTK.out.tr,HTK.out.chb,fun x hx=>nT (HZN.out x hx) (Nat.le_trans HR5.out.2.size hu.size)⟩ (Nat.zero_le _);rw[hr] at h1;have e:(S.first:Int)=(q:Int)+1:=by rw[HQ1.out];omega
     rw[e] at h1;exact h1
    have HTM:Hid (TkM p S r.1 r.2):=lh ⟨aM2 Q1.out Q2.out Q3.out hm hr,fun h2 _=>bH1 HP.out HTK.out HF.out HV.out hr h2⟩;rw[hm];clear hr hm;obtain⟨S2,okb⟩:=r;go_wp2_with (go_at_call 87;refine(HCW.out _ HBM.out).mono ?_;rintro e w6 ⟨he,ht6,d6,wk6,hf6,hr6,-⟩;have he':e=.returned (.bool okb):=he;subst he';have HT6:=lh ht6;have HF6:=lh hf6;have HR6:=lh hr6;clear ht6 hf6 hr6 he);go_meet
    case rel =>
     have t1:=HR5.out.2.trans (aA.below HBM.out);exact⟨S2,d6,wk6,okb,rfl,HR6,lh ⟨t1.trans HT6.out,fun x hx=>(HF6.out x hx).imp id fun e=>Nat.le_trans t1.size e⟩,HTM⟩
   ·have hm':cG t.name t.args.length=true:=by simpa using hm
    have HM:=lh hm';have HNXT:Hid ((gn S (S.first-1)).next=(gn S q).next∧(gn S (S.first-1)).cut=(gn S q).cut):=lh (by rw[HQ0.out];exact⟨rfl,rfl⟩);rw[hm'];clear hm hm';rcases oR t.name with ⟨k,h1⟩|⟨k,h1,h2⟩|⟨k,h1,h2,h3⟩|⟨k,h1,h2,h3,h4⟩|⟨k,h1,h2,h3,h4⟩
    ·
     have HPT:Hid (eS p S = {S with steps:=S.steps+1,f:=4000,ch:=S.ch.take (gn S q).cut,first:=(gn S q).next}):=lh (by rw[←HNXT.out.1,←HNXT.out.2];exact aT1 Q1.out Q2.out Q3.out HM.out (aM7 k));have hchl:({S with steps:=S.steps+1,f:=4000}:MS).mac.ch.length=S.ch.length:=by simp[MS.mac]
     rw[hchl] at x4;have hcn:S.ch.length≤d.cn∧d.cn≤9223372036854775807:=by
      obtain⟨ac,cc,e,hr⟩:=cZ.of_row (ok:=fun _=>True) HRM.out.rows.c (eQ _) (fun _ _=>trivial);injection e with _ _ e2;have h1:=hr.cap;rw[hchl,←e2] at h1;unfold maxLen at h1;omega
     have hzm:∀x,Z x→x<wM.heap.size:=fun x hx=>nT (HZN.out x hx) HTM5.out.size
     have HCN:=lh hcn;have HZM:=lh hzm;have hc9:d.cn≤9223372036854775807:=hcn.2;clear x0 x1 x2 x5 x6 x7 x8 x9 x10 hchl hzm;by_cases hcl:S.ch.length<(gn S q).cut
     ·have hcl1:(S.ch.length:Int)<((gn S q).cut:Int):=by omega
      have hcl2:(S.ch.length:Int)≤(d.cn:Int):=by omega
      have HCT:Hid (S.ch.take (gn S q).cut=S.ch.take S.ch.length):=lh (by rw[List.take_length,List.take_of_length_le (by omega)]);have HCC:=lh (HRM.out.cutC (S:={S with steps:=S.steps+1,f:=4000}) (k:=S.ch.length) (nR _) HZM.out);clear hcl hcn;go_wp2_with fail
      go_still_tail 19,(by kernel_rfl)
      change wpList _ _ _ _ _ (World.drew _);go_upto_region 18 with fail;have HCD:Hid (aX (wM.setCell ⟨R,4,none⟩ (.slice d.c S.ch.length d.cn)).drew Z R p pa pc ({S with steps:=S.steps+1,f:=4000,ch:=S.ch.take S.ch.length}:MS).mac d (4000-4000)∧aA (RM R d) wM (wM.setCell ⟨R,4,none⟩ (.slice d.c S.ch.length d.cn)).drew):=lh ⟨HCC.out.1.below ((bR _ _).drew),HCC.out.2.trans (aA.below ((bR _ _).drew))⟩;have r2':(wM.setCell ⟨R,4,none⟩ (.slice d.c S.ch.length d.cn)).drew.cell? ⟨w.heap.size,2,none⟩=some (.int .i64 ((gn S q).next:Int)):=(World.cell?_setCell_other (w:=wM) (a:=⟨R,4,none⟩) (b:=⟨w.heap.size,2,none⟩) (v:=_) (by intro e;injection e with e1;omega)).trans r2;clear HCC x3 x4 xf r2;generalize (wM.setCell ⟨R,4,none⟩ (.slice d.c S.ch.length d.cn)).drew=wK at *;obtain⟨x0,x1,x2,x3,x4,x5,x6,x7,x8,x9,x10,xf⟩:=HCD.out.1.cells;have zRK:=HCD.out.1.lt;go_wp2_with fail;go_meet
      case rel =>
       obtain⟨u1,u2⟩:=HCD.out.1.putFirst ((gn S q).next:Nat);have t3:=(HTM5.out.trans HCD.out.2).trans u2;rw[←HCT.out] at u1;exact⟨_,d,4000-4000,true,rfl,lh u1,lh ⟨t3,bB.refl _ _⟩,lh (TkM.yes HPT.out)⟩
     ·have hcl1:¬(S.ch.length:Int)<((gn S q).cut:Int):=by omega
      have hcl2:((gn S q).cut:Int)≤(d.cn:Int):=by omega
      have hcl3:((gn S q).cut:Int)≤(S.ch.length:Int):=by omega
      have hcl4:(gn S q).cut≤S.ch.length:=by omega
      have hcl5:(gn S q).cut≤d.cn:=by omega
      have hcl6:min ((gn S q).cut:Int) (S.ch.length:Int)=((gn S q).cut:Int):=by omega
      have HCC:=lh (HRM.out.cutC (S:={S with steps:=S.steps+1,f:=4000}) (k:=(gn S q).cut) (show (gn S q).cut≤S.ch.length by omega) HZM.out);clear hcl hcn;go_wp2_with fail
      go_region
      go_upto_region 18 with fail;have HCD:Hid (aX (wM.setCell ⟨R,4,none⟩ (.slice d.c (gn S q).cut d.cn)).drew Z R p pa pc ({S with steps:=S.steps+1,f:=4000,ch:=S.ch.take (gn S q).cut}:MS).mac d (4000-4000)∧aA (RM R d) wM (wM.setCell ⟨R,4,none⟩ (.slice d.c (gn S q).cut d.cn)).drew):=lh ⟨HCC.out.1.below ((bR _ _).drew),HCC.out.2.trans (aA.below ((bR _ _).drew))⟩;have r2':(wM.setCell ⟨R,4,none⟩ (.slice d.c (gn S q).cut d.cn)).drew.cell? ⟨w.heap.size,2,none⟩=some (.int .i64 ((gn S q).next:Int)):=(World.cell?_setCell_other (w:=wM) (a:=⟨R,4,none⟩) (b:=⟨w.heap.size,2,none⟩) (v:=_) (by intro e;injection e with e1;omega)).trans r2;clear HCC x3 x4 xf r2;generalize (wM.setCell ⟨R,4,none⟩ (.slice d.c (gn S q).cut d.cn)).drew=wK at *;obtain⟨x0,x1,x2,x3,x4,x5,x6,x7,x8,x9,x10,xf⟩:=HCD.out.1.cells;have zRK:=HCD.out.1.lt;go_wp2_with fail;go_meet
      case rel =>
       obtain⟨u1,u2⟩:=HCD.out.1.putFirst ((gn S q).next:Nat);have t3:=(HTM5.out.trans HCD.out.2).trans u2;exact⟨_,d,4000-4000,true,rfl,lh u1,lh ⟨t3,bB.refl _ _⟩,lh (TkM.yes HPT.out)⟩
    ·
     have HPT:Hid (eS p S = {S with steps:=S.steps+1,f:=4000,first:=(gn S q).next}):=lh (by rw[←HNXT.out.1];exact aM3 Q1.out Q2.out Q3.out HM.out (lY h1) (aM7 k));go_wp2_with fail;go_meet
     case rel =>
      obtain⟨u1,u2⟩:=HRM.out.putFirst ((gn S q).next:Nat);have t1:=HTM5.out;exact⟨{S with steps:=S.steps+1,f:=4000,first:=(gn S q).next},d,_,true,rfl,lh u1,lh ⟨t1.trans u2,bB.refl _ _⟩,lh ⟨by rw[HPT.out];exact(if_pos (.inl rfl)).symm,fun e=>nomatch e⟩⟩
    ·
     have HPT:=lh (aM4 (p:=p) Q1.out Q2.out Q3.out HM.out (lY h1) (lY h2) (aM7 k));go_wp2_with fail;go_meet
     case rel=>exact⟨{S with steps:=S.steps+1,f:=4000},d,_,false,rfl,HRM,lh ⟨HTM5.out,bB.refl _ _⟩,lh ⟨HPT.out.trans (if_neg (fun e=>e.elim (fun e=>nomatch e) fun e=>e HTK.out.fin.1)).symm,fun _ _=>⟨_,HF.out.start⟩⟩⟩
    ·
     have hl2:=rT (t:=t) (by rw[HM.out];decide) (lY h1) (lY h2) (lY h3);have ha1:e0+1<S.H.length:=by have:=HF.out.args HV.out 0 (by omega);rw[←HE0.out] at this;omega
     have ha2:e0+2<S.H.length:=by have:=HF.out.args HV.out 1 (by omega);rw[←HE0.out] at this;omega
     obtain⟨r,hr⟩:∃r,cQ (e0+1) (e0+2) {S with steps:=S.steps+1,f:=4000}=r:=⟨_,rfl⟩
     have HPT:=lh (aM5 (p:=p) Q1.out Q2.out Q3.out HM.out (lY h1) (lY h2) (lY h3) (r:=r) (by rw[←HE0.out];exact hr));rw[HNXT.out.1] at HPT;have HKP:Hid (qE {S with steps:=S.steps+1,f:=4000} r):=lh (by rw[←hr];exact pA (S:={S with steps:=S.steps+1,f:=4000}) HF.out.heap HTK.out.fin.1 (nR _) ha1 ha2);have HWI:Hid (jP r.1 (aZ S S.first)):=lh (by rw[←hr];exact aH1 HF.out.heap HTK.out.fin.1 ha1 ha2);have HNO:Hid (r.2=false→r.1.fin=0→∃P2,BkI p {aK r.1 (aZ S S.first) with first:=(gn S q).next} P2):=lh fun h2 h0=>by
      have:=bH0 HTK.out ha1 ha2 hr h2 h0;rw[HNXT.out.1] at this;exact this
     have hzm:∀x,Z x→x<wM.heap.size:=fun x hx=>nT (HZN.out x hx) HTM5.out.size
     have HSW:Hid (∀u,Below wM.heap.size wM u→Calls Try.prog 89 #[.pointer (some ⟨R,0,none⟩),.int .i64 ((e0:Int)+1),.int .i64 ((e0:Int)+2)] u (kF u Z R p pa pc d r)):=lh fun u hu=>by
      have h1:=bC0 (S:={S with steps:=S.steps+1,f:=4000}) (a:=e0+1) (b:=e0+2) (HRM.out.below hu) (nR _) HF.out.heap ha1 ha2 HTK.out.tr HTK.out.fin.1 (fun x hx=>nT (hzm x hx) hu.size);rw[hr] at h1;exact h1
     have HMK:Hid (Calls Try.prog 88 #[.pointer (some ⟨R,0,none⟩),.int .i64 ((q:Int)+1),.int .i64 0] wM fun e w'=>e=.returned (.agg #[.int .i64 ((q:Int)+1),.int .i64 0,.int .i64 S.H.length,.int .i64 S.T.length,.int .i64 S.G.length])∧Below wM.heap.size wM w'):=lh (by
      have h1:=bJ6 HRM.out ((q:Int)+1) 0;have e1:({S with steps:=S.steps+1,f:=4000}:MS).mac.T.length=S.T.length:=by simp[MS.mac]
      have e2:({S with steps:=S.steps+1,f:=4000}:MS).mac.G.length=S.G.length:=by simp[MS.mac]
      rw[e1,e2] at h1;exact h1)
     clear hr hzm hl2;go_wp2_with (go_at_call 88;refine HMK.out.mono ?_;rintro e w3 ⟨rfl,hb3⟩;have HB3:=lh hb3;clear hb3);have hB7:Below wM.heap.size wM (w3.alloc (.cells #[.int .i64 ((q:Int)+1),.int .i64 0,.int .i64 S.H.length,.int .i64 S.T.length,.int .i64 S.G.length] 67)):=HB3.out.alloc HB3.out.size _;have HB7:=lh hB7;have HN8:=lh (heap_alloc_new w3 (.cells #[.int .i64 ((q:Int)+1),.int .i64 0,.int .i64 S.H.length,.int .i64 S.T.length,.int .i64 S.G.length] 67));have r2':=(hB7.cell (p:=⟨w.heap.size,2,none⟩) (nT n71 HBM.out.size)).trans r2;have HW3:Hid (wM.heap.size≤w3.heap.size):=lh HB3.out.size;clear hB7;generalize w3.alloc (.cells #[.int .i64 ((q:Int)+1),.int .i64 0,.int .i64 S.H.length,.int .i64 S.T.length,.int .i64 S.G.length] 67)=W7 at *;generalize w3.heap.size=b7 at *;have HR7:=lh (HRM.out.below HB7.out);have HT7:Hid (aA (RM R d) w W7):=lh (HTM5.out.trans (aA.below HB7.out));have HL7:Hid (b7<W7.heap.size∧¬RM R d b7∧w.heap.size<W7.heap.size∧¬RM R d w.heap.size):=lh ⟨(gS HN8.out).1,(fun e=>by have:=HRM.out.rmlt _ e;have:=HW3.out;omega),nT (nT n71 HBM.out.size) HB7.out.size,fun e=>by have:=hH.out.rmlt _ e;omega⟩;obtain⟨S2,okb⟩:=r;cases okb with
     | true =>
      refine(HSW.out _ HB7.out).mono ?_;rintro e w6 ⟨he,ht6,d6,wk6,hf6,hr6,-⟩;have he':e=.returned (.bool true):=he;subst he';have y2:=(ht6.cell (p:=⟨w.heap.size,2,none⟩) HL7.out.2.2.1 HL7.out.2.2.2).trans r2';obtain⟨x0,x1,x2,x3,x4,x5,x6,x7,x8,x9,x10,xf⟩:=hr6.cells;have zR6:=hr6.lt;have z6:=nT HL7.out.2.2.1 ht6.size;have HT6:=lh ht6;have HF6:=lh hf6;have HR6:=lh hr6;clear ht6 hf6 hr6 he;go_wp2_with fail;go_meet
      case rel =>
       obtain⟨u1,u2⟩:=HR6.out.putFirst ((gn S q).next:Nat);have t6:=HT7.out.trans HT6.out;have g6:bB w d d6:=fun x hx=>(HF6.out x hx).imp id fun e=>Nat.le_trans HT7.out.size e
       exact⟨{S2 with first:=(gn S q).next},d6,wk6,true,rfl,lh u1,lh ⟨fF t6 g6 u2,g6⟩,lh ⟨HPT.out.trans ((if_pos (by first|rfl|trivial)).trans (if_pos (.inl (by first|rfl|trivial))).symm),fun e=>nomatch e⟩⟩
     | false =>
      refine(HSW.out _ HB7.out).mono ?_;rintro e w6 ⟨he,ht6,d6,wk6,hf6,hr6,-⟩;have he':e=.returned (.bool false):=he;subst he';have HT6:=lh ht6;have HF6:=lh hf6;have HR6:=lh hr6;clear ht6 hf6 hr6 he;go_wp2_with fail;have hx8:=(HT6.out.block b7 HL7.out.1 HL7.out.2.1).trans HN8.out;have HY2:Hid (w6.cell? ⟨w.heap.size,2,none⟩=some (.int .i64 ((gn S q).next:Int))):=lh ((HT6.out.cell (p:=⟨w.heap.size,2,none⟩) HL7.out.2.2.1 HL7.out.2.2.2).trans r2');have HL6:Hid (¬RM R d6 w.heap.size∧w.heap.size<w6.heap.size):=lh ⟨HF6.out.notR HL7.out.2.2.1 HL7.out.2.2.2,nT HL7.out.2.2.1 HT6.out.size⟩;have k0:w6.cell? ⟨b7,0,none⟩=some (.int .i64 ((q:Int)+1)):=by simp[World.cell?,hx8]
      have k1:w6.cell? ⟨b7,1,none⟩=some (.int .i64 0):=by simp[World.cell?,hx8]
      have k2:w6.cell? ⟨b7,2,none⟩=some (.int .i64 S.H.length):=by simp[World.cell?,hx8]
      have k3:w6.cell? ⟨b7,3,none⟩=some (.int .i64 S.T.length):=by simp[World.cell?,hx8]
      have k4:w6.cell? ⟨b7,4,none⟩=some (.int .i64 S.G.length):=by simp[World.cell?,hx8]
      have zR6:=HR6.out.lt;have HUW:Hid (Calls Try.prog 84 #[.pointer (some ⟨R,1,none⟩),.agg #[.int .i64 ((q:Int)+1),.int .i64 0,.int .i64 S.H.length,.int .i64 S.T.length,.int .i64 S.G.length]] w6.drew fun e w'=>(∃v,e=.returned v)∧aA (RM R d6) w6 w'∧aX w' Z R p pa pc (aK S2 (aZ S S.first)).mac d6 wk6):=lh (by
       have h1:=aM0 (S:=S2) (HR6.out.below ((bR _ _).drew)) HWI.out (by have h1:=HKP.out.len;have h3:=HTK.out.room;simp only at h1;omega);have e1:((aZ S S.first).goal:Int)=(q:Int)+1:=by simp only[aZ];rw[HQ1.out];omega
       rw[e1] at h1;exact h1.mono fun e w' h=>⟨h.1,(aA.below ((bR _ _).drew)).trans h.2.1,h.2.2⟩)
      clear hx8
      go_still_tail 4,(by kernel_rfl)
      change wpList _ _ _ _ _ (World.drew _);go_wp2_with fail;refine HUW.out.mono ?_;rintro e w8 ⟨⟨uv,rfl⟩,ht8,hr8⟩;have y2:=(ht8.cell (p:=⟨w.heap.size,2,none⟩) HL6.out.2 HL6.out.1).trans HY2.out;obtain⟨x0,x1,x2,x3,x4,x5,x6,x7,x8,x9,x10,xf⟩:=hr8.cells;have zR8:=hr8.lt;have z8:=nT HL6.out.2 ht8.size;have HT8:=lh ht8;have HR8:=lh hr8;clear ht8 hr8 k0 k1 k2 k3 k4;go_wp2_with fail;go_meet
      case rel =>
       obtain⟨u1,u2⟩:=HR8.out.putFirst ((gn S q).next:Nat);have t6:=HT7.out.trans HT6.out;have g6:bB w d d6:=fun x hx=>(HF6.out x hx).imp id fun e=>Nat.le_trans HT7.out.size e
       exact⟨{aK S2 (aZ S S.first) with first:=(gn S q).next},d6,wk6,false,rfl,lh u1,lh ⟨fF (fF t6 g6 HT8.out) g6 u2,g6⟩,lh ⟨HPT.out.trans ((if_neg (by first|decide|simp)).trans (by
        by_cases hz:({aK S2 (aZ S S.first) with first:=(gn S q).next}:MS).fin≠0
        ·rw[if_pos hz,if_pos (.inr hz)]
        ·rw[if_neg hz,if_neg (fun e=>e.elim (fun e=>nomatch e) hz)])),fun _ h0=>HNO.out (by first|rfl|trivial) h0⟩⟩
    ·exact absurd (HM.out.symm.trans (tR k.1 k.2.1 k.2.2.1 k.2.2.2)) (by decide)
  ·
   have hk1:=HF.out.var hv;have HPT:=lh (aT0 (p:=p) hk1);rw[←HE0.out] at hk1;rw[hk1] at f0;have HS1:=lh (HR5.out.1.putFin 4);obtain⟨x0,x1,x2,x3,x4,x5,x6,x7,x8,x9,x10,xf⟩:=HR5.out.1.cells;clear hv hk1;go_wp2_with fail;refine bodyPost_ret (v:=.tuple #[]) (by simp[results,Try.results61,go_sem]) rfl ?_;rw[HPT.out];exact⟨⟨_,rfl⟩,HR5.out.2.trans HS1.out.2,d,_,bB.refl _ _,HS1.out.1⟩
 case rest =>
  obtain⟨S2,d2,wk2,b,rfl,HR2,HT2,HM⟩:=hcut;have x8:=HR2.out.cells.2.2.2.2.2.2.2.2.1;have zR2:=HR2.out.lt;have hHM:=HM.out;unfold TkM at hHM;have HM1:=lh hHM.1;have HM2:=lh hHM.2;clear hHM HM;cases b with
  | true =>
   go_wp2_with fail;refine bodyPost_ret (v:=.tuple #[]) (by simp[results,Try.results61,go_sem]) rfl ?_;rw[show eS p S=S2 from HM1.out.trans (if_pos (.inl (by first|rfl|trivial)))];exact⟨⟨_,rfl⟩,HT2.out.1,d2,wk2,HT2.out.2,HR2.out⟩
  | false =>
   by_cases hz:S2.fin=0
   ·rw[show S2.mac.fin=0 by simp only[MS.mac,hz];rfl] at x8
    obtain⟨P2,hbk⟩:=HM2.out (by first|rfl|trivial) hz;have HBW:=lh (aY5 HR2.out HP.out hbk (fun x hx=>nT (HZN.out x hx) HT2.out.1.size));have HEQ:Hid (eS p S=eL p S2.ch.length S2):=lh (HM1.out.trans (if_neg (fun e=>e.elim (by simp) fun e=>e hz)));clear hz hbk;go_wp2_with (go_at_call 90;refine HBW.out.mono ?_;rintro e w9 ⟨⟨uv,rfl⟩,ht9,d9,wk9,hf9,hr9⟩;have HT9:=lh ht9;have HF9:=lh hf9;have HR9:=lh hr9;clear ht9 hf9 hr9);refine bodyPost_ret (v:=.tuple #[]) (by simp[results,Try.results61,go_sem]) rfl ?_;rw[HEQ.out];exact⟨⟨_,rfl⟩,fF HT2.out.1 HT2.out.2 HT9.out,d9,wk9,HT2.out.2.trans HF9.out HT2.out.1.size,HR9.out⟩
   ·have hz2:¬S2.mac.fin=0:=by simp only[MS.mac];omega
    have HEQ:Hid (eS p S=S2):=lh (HM1.out.trans (if_pos (.inr hz)));have hz3:(S2.mac.fin == 0)=false:=by rw[beq_eq_false_iff_ne];exact hz2
    clear hz;go_wp2_with fail;refine bodyPost_ret (v:=.tuple #[]) (by simp[results,Try.results61,go_sem]) rfl ?_;rw[HEQ.out];exact⟨⟨_,rfl⟩,HT2.out.1,d2,wk2,HT2.out.2,HR2.out⟩
theorem bM9{w:World}{Z:Nat→Prop}{R:Nat}{p:List Cl}{pa:Option Addr}{pc:Nat}{S:MS}{d:MAd}{wk:Nat}{P:PS}{query most:Nat}(h:aX w Z R p pa pc S.mac d wk)(hp:PgI p)(hmost:most≤400)(hq:query≤12)(hr:fW p query most S P)(hs:S.first≠0→P.steps<most)(hzn:∀b,Z b→b<w.heap.size) :
 Calls Try.prog 24 #[.pointer (some ⟨R,0,none⟩)] w (aE3 w Z R p pa pc d (kW p S)):=by
 obtain⟨c0,c1,c2,c3,c4,c5,c6,c7,c8,c9,c10,cf⟩:=h.cells;have zR:=h.lt;have H:=lh h;have HP:=lh hp;have HM:=lh hmost;have HQ:=lh hq;have HR:=lh hr;have HS:=lh hs;have HZN:=lh hzn;clear h hp hmost hq hr hs hzn;have c3':w.cell? ⟨R,3,none⟩=some (.int .i64 (S.first:Nat)):=c3;have c8':w.cell? ⟨R,8,none⟩=some (.int .i64 (S.fin:Nat)):=c8;clear c0 c1 c2 c3 c4 c5 c6 c7 c8 c9 c10;go_enter Try.func24,Try.ntmps24;go_upto_region 0 with fail
 go_cut[15] (fun x15 wx=>x15=.bool (decide (S.fin=0∧S.first≠0))∧wx=w)
 case first =>
  by_cases h0:S.fin=0
  ·by_cases hf:S.first=0
   ·have HD:Hid (decide (S.fin=0∧S.first≠0)=false):=lh (decide_eq_false (fun e=>e.2 hf))
    rw[h0] at c8';rw[hf] at c3';clear h0 hf;go_wp2_with fail;go_meet;exact⟨by rw[HD.out],rfl⟩
   ·have HD:Hid (decide (S.fin=0∧S.first≠0)=true):=lh (decide_eq_true ⟨h0,hf⟩)
    rw[h0] at c8';have hf2:((S.first:Int) != 0)=true:=by rw[bne_iff_ne];omega
    clear h0 hf;go_wp2_with fail;go_meet;exact⟨by rw[HD.out],rfl⟩
  ·have HD:Hid (decide (S.fin=0∧S.first≠0)=false):=lh (decide_eq_false (fun e=>h0 e.1))
   have hf2:((S.fin:Int) == 0)=false:=by rw[beq_eq_false_iff_ne];omega
   clear h0;go_wp2_with fail;go_meet;exact⟨by rw[HD.out],rfl⟩
 case rest =>
  obtain⟨rfl,hw⟩:=hcut;have hw':=hw.symm;subst hw';clear hw
  go_upto_if 15 with fail
  go_cut[] (fun wx=>∃(S1:MS) (d1:MAd) (wk1:Nat) (P1:PS),Hid (aX wx Z R p pa pc S1.mac d1 wk1)∧Hid (aA (RM R d) w wx∧bB w d d1)∧Hid (fW p query most S1 P1)∧Hid (kW p S=lP p 41 S1))
  case first =>
   by_cases hf:S.fin=0∧S.first≠0
   ·rw[decide_eq_true hf]
    have h0:P.fin=0:=HR.out.mv.fin.symm.trans hf.1;obtain⟨k1,-⟩:=HR.out.take HP.out HM.out h0 hf.2 (HS.out hf.2);have HTK:=lh (bN1 H.out HP.out.cl (HR.out.tk h0 hf.2) (by have:=HR.out.mv.steps;have:=HR.out.st;have:=HM.out;omega) HZN.out);have HE:Hid (kW p S=lP p 41 (eS p S)):=lh (by unfold kW;rw[if_pos hf]);have HK1:=lh k1;clear hf h0 k1;go_wp2_with (go_at_call 61;refine HTK.out.mono ?_;rintro e w6 ⟨⟨uv,rfl⟩,ht6,d6,wk6,hf6,hr6⟩;have HT6:=lh ht6;have HF6:=lh hf6;have HR6:=lh hr6;clear ht6 hf6 hr6);go_meet;exact⟨_,d6,wk6,_,HR6,lh ⟨HT6.out,HF6.out⟩,HK1,HE⟩
   ·rw[decide_eq_false hf]
    have HE:Hid (kW p S=lP p 41 S):=lh (by unfold kW;rw[if_neg hf]);clear hf;go_wp2_with fail;go_meet;exact⟨_,d,wk,_,H,lh ⟨aA.refl _ _,bB.refl _ _⟩,HR,HE⟩
  case rest =>
   obtain⟨S1,d1,wk1,P1,HR1,HT1,HI1,HE1⟩:=hcut;go_wp2_with fail
   go_loopg [] 41 (fun k wr=>∃(S':MS) (P':PS) (d':MAd) (wk':Nat),Hid (aX wr Z R p pa pc S'.mac d' wk')∧Hid (aA (RM R d) w wr∧bB w d d')∧Hid (fW p query most S' P')∧Hid (lP p k S'=kW p S)∧Hid (40-P'.ans.length<k∨P'.fin≠0))
   case atStart=>exact⟨S1,P1,d1,wk1,HR1,HT1,HI1,lh HE1.out.symm,lh (.inl (by omega))⟩
   case round =>
    obtain⟨S',P',d',wk',HRR,HRT,HRI,HRE,HRN⟩:=hrel;obtain⟨c0,c1,c2,c3,c4,c5,c6,c7,c8,c9,c10,cf2⟩:=HRR.out.cells;have zR2:=HRR.out.lt;have x3:wr.cell? ⟨R,3,none⟩=some (.int .i64 (S'.first:Nat)):=c3;have x8:wr.cell? ⟨R,8,none⟩=some (.int .i64 (S'.fin:Nat)):=c8;clear c0 c1 c2 c3 c4 c5 c6 c7 c8 c9 c10;by_cases hf:S'.fin=0∧S'.first=0
    ·have h0:P'.fin=0:=HRI.out.mv.fin.symm.trans hf.1
     cases gk with
     | zero=>exact absurd HRN.out (fun e=>e.elim (by omega) fun e=>e h0)
     | succ k =>
      obtain⟨k1,k2⟩:=HRI.out.answ HP.out HM.out h0 hf.2;have hst:(gA p query P').steps=P'.steps:=(vX HP.out.ok query HRI.out.inv h0).2.1;have HNN:Hid (40-(gA p query P').ans.length<k∨(gA p query P').fin≠0):=lh (by
       by_cases h1:(gA p query P').fin=0
       ·left
        have:=k2 h1;unfold left at this;have h40:=(HRI.out.inv.core h0).2;rw[hst] at this;have h3:=HRN.out.resolve_right (fun e=>e h0);omega
       ·exact .inr h1)
      have HAW:=lh (aY2 HRR.out HP.out.cl (HRI.out.aw HQ.out h0) (fun b hb=>nT (HZN.out b hb) HRT.out.1.size));have HE:Hid (lP p k (jK p S')=kW p S):=lh (by
       have:=HRE.out;unfold lP at this;rw[if_pos hf] at this;exact this)
      have HK1:=lh k1;rw[hf.1] at x8;rw[hf.2] at x3;clear hf h0 k1 k2 hst;go_wp2_with (go_at_call 62;refine HAW.out.mono ?_;rintro e w6 ⟨⟨uv,rfl⟩,ht6,d6,wk6,hf6,hr6⟩;have HT6:=lh ht6;have HF6:=lh hf6;have HR6:=lh hr6;clear ht6 hf6 hr6)
      go_roundg k
      case measure=>omega
      case rel=>exact⟨jK p S',gA p query P',d6,wk6,HR6,lh ⟨fF HRT.out.1 HRT.out.2 HT6.out,HRT.out.2.trans HF6.out HRT.out.1.size⟩,HK1,HE,HNN⟩
    ·have HE:Hid (kW p S=S'):=lh (by
      rw[←HRE.out];cases gk with
      | zero=>rfl
      | succ k=>unfold lP;rw[if_neg hf])
     by_cases h0:S'.fin=0
     ·have h1:S'.first≠0:=fun e=>hf ⟨h0,e⟩
      have hf2:((S'.first:Int) == 0)=false:=by rw[beq_eq_false_iff_ne];omega
      rw[h0] at x8;clear hf h0 h1;go_wp2_with fail;refine bodyPost_ret (v:=.tuple #[]) (by simp[results,Try.results24,go_sem]) rfl ?_;rw[HE.out];exact⟨⟨_,rfl⟩,HRT.out.1,d',wk',HRT.out.2,HRR.out⟩
     ·have hf2:((S'.fin:Int) == 0)=false:=by rw[beq_eq_false_iff_ne];omega
      clear hf h0;go_wp2_with fail;refine bodyPost_ret (v:=.tuple #[]) (by simp[results,Try.results24,go_sem]) rfl ?_;rw[HE.out];exact⟨⟨_,rfl⟩,HRT.out.1,d',wk',HRT.out.2,HRR.out⟩

theorem aX.macG{w:World}{Z:Nat→Prop}{R:Nat}{p:List Cl}{pa:Option Addr}{pc:Nat}{m:Mac}{d:MAd}{wk:Nat}(h:aX w Z R p pa pc m d wk){ok:Nat→Prop}(hok:∀b,some b∈rws d→ok b)(hA:m.ans = []∨∀b,b≠R∧¬Z b→ok b):bO w ok m d:=by
 obtain⟨dh,dg,dc,dt,dq,da,dhn,dgn,dcn,dtn,dqn,dan⟩:=d;obtain⟨A,e1,e2,e3⟩:=h.rows.a;refine⟨?_,?_,?_,?_,?_,?_⟩
 ·obtain⟨a,c,e,hr⟩:=dV.of_row (ok:=ok) h.rows.h.row (fun b hb=>hok b (by rw[←(aE _ _ _).symm.trans hb];simp[rws])) h.rows.h.fits
  injection e with q1 _ q2;have q1':a=dh:=q1.symm;have q2':c=dhn:=q2.symm;subst q1';subst q2';exact hr
 ·obtain⟨a,c,e,hr⟩:=cZ.of_row (ok:=ok) h.rows.g (dN _) (fun b hb=>hok b (by rw[←(aE _ _ _).symm.trans hb];simp[rws]))
  injection e with q1 _ q2;have q1':a=dg:=q1.symm;have q2':c=dgn:=q2.symm;subst q1';subst q2';exact hr
 ·obtain⟨a,c,e,hr⟩:=cZ.of_row (ok:=ok) h.rows.c (eQ _) (fun b hb=>hok b (by rw[←(aE _ _ _).symm.trans hb];simp[rws]))
  injection e with q1 _ q2;have q1':a=dc:=q1.symm;have q2':c=dcn:=q2.symm;subst q1';subst q2';exact hr
 ·obtain⟨a,c,e,hr⟩:=dC.of_row (ok:=ok) h.rows.t (fun b hb=>hok b (by rw[←(aE _ _ _).symm.trans hb];simp[rws]))
  injection e with q1 _ q2;have q1':a=dt:=q1.symm;have q2':c=dtn:=q2.symm;subst q1';subst q2';exact hr
 ·obtain⟨a,c,e,hr⟩:=dC.of_row (ok:=ok) h.rows.q (fun b hb=>hok b (by rw[←(aE _ _ _).symm.trans hb];simp[rws]))
  injection e with q1 _ q2;have q1':a=dq:=q1.symm;have q2':c=dqn:=q2.symm;subst q1';subst q2';exact hr
 ·obtain⟨a,c,e,hr⟩:=lF.of_row (ok:=ok) e2 (fun b hb=>hok b (by rw[←(aE _ _ _).symm.trans hb];simp[rws])) (fun x hx=>hA.elim (fun e=>by rw[e] at e1;rw[List.map_eq_nil_iff.1 e1] at hx;cases hx) fun hA=>(e3 x hx).mono fun b _ hb=>hA b hb.1)
  have hl:A.length=m.ans.length:=by rw[←e1,List.length_map]
  injection e with q1 _ q2;have q1':a=da:=q1.symm;have q2':c=dan:=q2.symm;subst q1';subst q2';rw[e1] at hr;exact hr
def kG(w:World)(p:List Cl)(q:List Tm)(e:Ending)(w':World):Prop :=
 Below w.heap.size w w' ∧
 if eX p q 0=0 then ∃d,e=.returned (.tuple #[.agg ((kA q (Tm.greats q).toNat).mac.vals d).toArray,.int .i64 0])∧bO w' (fun _=>True) (kA q (Tm.greats q).toNat).mac d
 else e=.returned (.tuple #[.agg #[.slice none 0 0,.slice none 0 0,.int .i64 0,.slice none 0 0,.slice none 0 0,.slice none 0 0,.int .i64 0,.int .i64 0,.slice none 0 0],.int .i64 (eX p q 0:Nat)])
theorem aH0{p:List Cl}{q:List Tm}{s:Int}(h:eX p q s=0):aY p=0∧dI q=0∧0≤s∧s≤400:=by
 unfold eX at h;by_cases h1:aY p=0
 ·rw[if_neg (fun e=>e h1)] at h
  by_cases h2:dI q=0
  ·rw[if_neg (fun e=>e h2)] at h
   by_cases h3:0≤s∧s≤400
   ·exact⟨h1,h2,h3⟩
   ·rw[if_neg h3] at h;cases h
  ·rw[if_pos h2] at h;exact absurd h h2
 ·rw[if_pos h1] at h;exact absurd h h1
theorem bC2{u:World}{b:Nat}{o0 o1 o2 o3 o4 o5 o6 o7 o8:Value}{e:TypeId}(h:u.heap[b]? = some (.cells #[o0,o1,o2,o3,o4,o5,o6,o7,o8] e (0,0)))(v0 v1 v2 v3 v4 v5 v6 v7 v8:Value) :
 (((((((((u.setCell ⟨b,0,none⟩ v0).setCell ⟨b,1,none⟩ v1).setCell ⟨b,2,none⟩ v2).setCell ⟨b,3,none⟩ v3).setCell ⟨b,4,none⟩ v4).setCell ⟨b,5,none⟩ v5).setCell ⟨b,6,none⟩ v6).setCell ⟨b,7,none⟩ v7).setCell ⟨b,8,none⟩ v8).heap[b]? = some (.cells #[v0,v1,v2,v3,v4,v5,v6,v7,v8] e (0,0))∧aA (fun x=>x=b) u (((((((((u.setCell ⟨b,0,none⟩ v0).setCell ⟨b,1,none⟩ v1).setCell ⟨b,2,none⟩ v2).setCell ⟨b,3,none⟩ v3).setCell ⟨b,4,none⟩ v4).setCell ⟨b,5,none⟩ v5).setCell ⟨b,6,none⟩ v6).setCell ⟨b,7,none⟩ v7).setCell ⟨b,8,none⟩ v8):=by
 have k0:(u.setCell ⟨b,0,none⟩ v0).heap[b]? = some (.cells #[v0,o1,o2,o3,o4,o5,o6,o7,o8] e (0,0)):=aB _ b 0 v0 h;have k1:((u.setCell ⟨b,0,none⟩ v0).setCell ⟨b,1,none⟩ v1).heap[b]? = some (.cells #[v0,v1,o2,o3,o4,o5,o6,o7,o8] e (0,0)):=aB _ b 1 v1 k0;have k2:(((u.setCell ⟨b,0,none⟩ v0).setCell ⟨b,1,none⟩ v1).setCell ⟨b,2,none⟩ v2).heap[b]? = some (.cells #[v0,v1,v2,o3,o4,o5,o6,o7,o8] e (0,0)):=aB _ b 2 v2 k1;have k3:((((u.setCell ⟨b,0,none⟩ v0).setCell ⟨b,1,none⟩ v1).setCell ⟨b,2,none⟩ v2).setCell ⟨b,3,none⟩ v3).heap[b]? = some (.cells #[v0,v1,v2,v3,o4,o5,o6,o7,o8] e (0,0)):=aB _ b 3 v3 k2;have k4:(((((u.setCell ⟨b,0,none⟩ v0).setCell ⟨b,1,none⟩ v1).setCell ⟨b,2,none⟩ v2).setCell ⟨b,3,none⟩ v3).setCell ⟨b,4,none⟩ v4).heap[b]? = some (.cells #[v0,v1,v2,v3,v4,o5,o6,o7,o8] e (0,0)):=aB _ b 4 v4 k3;have k5:((((((u.setCell ⟨b,0,none⟩ v0).setCell ⟨b,1,none⟩ v1).setCell ⟨b,2,none⟩ v2).setCell ⟨b,3,none⟩ v3).setCell ⟨b,4,none⟩ v4).setCell ⟨b,5,none⟩ v5).heap[b]? = some (.cells #[v0,v1,v2,v3,v4,v5,o6,o7,o8] e (0,0)):=aB _ b 5 v5 k4;have k6:(((((((u.setCell ⟨b,0,none⟩ v0).setCell ⟨b,1,none⟩ v1).setCell ⟨b,2,none⟩ v2).setCell ⟨b,3,none⟩ v3).setCell ⟨b,4,none⟩ v4).setCell ⟨b,5,none⟩ v5).setCell ⟨b,6,none⟩ v6).heap[b]? = some (.cells #[v0,v1,v2,v3,v4,v5,v6,o7,o8] e (0,0)):=aB _ b 6 v6 k5;have k7:((((((((u.setCell ⟨b,0,none⟩ v0).setCell ⟨b,1,none⟩ v1).setCell ⟨b,2,none⟩ v2).setCell ⟨b,3,none⟩ v3).setCell ⟨b,4,none⟩ v4).setCell ⟨b,5,none⟩ v5).setCell ⟨b,6,none⟩ v6).setCell ⟨b,7,none⟩ v7).heap[b]? = some (.cells #[v0,v1,v2,v3,v4,v5,v6,v7,o8] e (0,0)):=aB _ b 7 v7 k6;have k8:(((((((((u.setCell ⟨b,0,none⟩ v0).setCell ⟨b,1,none⟩ v1).setCell ⟨b,2,none⟩ v2).setCell ⟨b,3,none⟩ v3).setCell ⟨b,4,none⟩ v4).setCell ⟨b,5,none⟩ v5).setCell ⟨b,6,none⟩ v6).setCell ⟨b,7,none⟩ v7).setCell ⟨b,8,none⟩ v8).heap[b]? = some (.cells #[v0,v1,v2,v3,v4,v5,v6,v7,v8] e (0,0)):=aB _ b 8 v8 k7;refine⟨k8,((((((((aA.setCell (M:=fun x=>x=b) _ rfl).trans (aA.setCell _ rfl)).trans (aA.setCell _ rfl)).trans (aA.setCell _ rfl)).trans (aA.setCell _ rfl)).trans (aA.setCell _ rfl)).trans (aA.setCell _ rfl)).trans (aA.setCell _ rfl)).trans (aA.setCell _ rfl)⟩
theorem bG8{w:World}{okp okq:Nat→Prop}{p:List Cl}{pa:Option Addr}{pc:Nat}(hp:Pr w okp p pa pc){q:List Tm}{qa:Option Addr}{qc:Nat}(hq:Ts w okq q qa qc) :
 Calls Try.prog 21 #[.slice pa p.length pc,.slice qa q.length qc] w (kG w p q):=by
 have B1:Below w.heap.size w (w.alloc (.cells #[.slice none 0 0,.slice none 0 0,.int .i64 0,.slice none 0 0,.slice none 0 0,.slice none 0 0,.int .i64 0,.int .i64 0,.slice none 0 0] 30)):=(bR _ _).alloc (nR _) _;have HRW:=lh (bG5 (steps:=0) (ok:=fun _=>True) ((hp.mono fun _ _ _=>trivial).keep (aD.below B1 _)) ((hq.mono fun _ _ _=>trivial).keep (aD.below B1 _)));have HB1:=lh B1;have HN1:=lh (heap_alloc_new w (.cells #[.slice none 0 0,.slice none 0 0,.int .i64 0,.slice none 0 0,.slice none 0 0,.slice none 0 0,.int .i64 0,.int .i64 0,.slice none 0 0] 30));have HP:=lh hp;have HQ:=lh hq;clear hp hq B1;go_enter Try.func21,Try.ntmps21;by_cases h0:eX p q 0=0
 ·obtain⟨hp0,hq0,-⟩:=aH0 h0
  have HE:Hid (kG w p q=fun e w'=>Below w.heap.size w w'∧∃d,e=.returned (.tuple #[.agg ((kA q (Tm.greats q).toNat).mac.vals d).toArray,.int .i64 0])∧bO w' (fun _=>True) (kA q (Tm.greats q).toNat).mac d):=lh (by funext e w';unfold kG;rw[if_pos h0]);have hg0:=Tm.greats_pos q;have hg12:=sX hq0;have HNW:Hid (∀u,Below w.heap.size w u→Calls Try.prog 42 #[.slice pa p.length pc,.slice qa q.length qc] u (bA2 u p pa pc (kA q (Tm.greats q).toNat))):=lh fun u hu =>
   bO8 (HP.out.keep (aD.below hu _)) (HQ.out.keep (aD.below hu _)) (g:=(Tm.greats q).toNat) (by omega) (by omega) (fun t ht=>(pL (jB hq0 ht)).1) (mB hq0).1
  rw[h0] at HRW;clear h0 hp0 hq0 hg0 hg12;go_wp2_with (first
   | (go_at_call 41;refine HRW.out.mono ?_;rintro e w2 ⟨rfl,hb2⟩;have hx:=(hb2.block _ (gS HN1.out).1).trans HN1.out;have s0:w2.cell? ⟨w.heap.size,0,none⟩=some (.slice none 0 0):=(by simp[World.cell?,hx]);have s1:w2.cell? ⟨w.heap.size,1,none⟩=some (.slice none 0 0):=(by simp[World.cell?,hx]);have s2:w2.cell? ⟨w.heap.size,2,none⟩=some (.int .i64 0):=(by simp[World.cell?,hx]);have s3:w2.cell? ⟨w.heap.size,3,none⟩=some (.slice none 0 0):=(by simp[World.cell?,hx]);have s4:w2.cell? ⟨w.heap.size,4,none⟩=some (.slice none 0 0):=(by simp[World.cell?,hx]);have s5:w2.cell? ⟨w.heap.size,5,none⟩=some (.slice none 0 0):=(by simp[World.cell?,hx]);have s6:w2.cell? ⟨w.heap.size,6,none⟩=some (.int .i64 0):=(by simp[World.cell?,hx]);have s7:w2.cell? ⟨w.heap.size,7,none⟩=some (.int .i64 0):=(by simp[World.cell?,hx]);have s8:w2.cell? ⟨w.heap.size,8,none⟩=some (.slice none 0 0):=(by simp[World.cell?,hx]);have sf:∀o,w2.frozen? ⟨w.heap.size,o,none⟩=false:=(fun o=>by simp[World.frozen?,hx]);have HB2:=lh hb2;have HX2:=lh hx;clear hb2 hx;have HB2':=lh (HB1.out.trans (HB2.out.mono HB1.out.size)))
   | (go_at_call 42;refine(HNW.out _ HB2'.out).mono ?_;rintro e w3 ⟨d3,rfl,hr3,hb3,hf3⟩;have hx3:=(hb3.block _ (gS HX2.out).1).trans HX2.out;obtain⟨M,hM⟩:∃M,(kA q (Tm.greats q).toNat).mac=M:=⟨_,rfl⟩;rw[hM] at hr3;obtain⟨x0,x1,x2,x3,x4,x5,x6,x7,x8,x9,x10,xf⟩:=hr3.cells;have zR3:=hr3.lt;have t0:w3.cell? ⟨w.heap.size,0,none⟩=some (.slice none 0 0):=(by simp[World.cell?,hx3]);have t1:w3.cell? ⟨w.heap.size,1,none⟩=some (.slice none 0 0):=(by simp[World.cell?,hx3]);have t2:w3.cell? ⟨w.heap.size,2,none⟩=some (.int .i64 0):=(by simp[World.cell?,hx3]);have t3:w3.cell? ⟨w.heap.size,3,none⟩=some (.slice none 0 0):=(by simp[World.cell?,hx3]);have t4:w3.cell? ⟨w.heap.size,4,none⟩=some (.slice none 0 0):=(by simp[World.cell?,hx3]);have t5:w3.cell? ⟨w.heap.size,5,none⟩=some (.slice none 0 0):=(by simp[World.cell?,hx3]);have t6:w3.cell? ⟨w.heap.size,6,none⟩=some (.int .i64 0):=(by simp[World.cell?,hx3]);have t7:w3.cell? ⟨w.heap.size,7,none⟩=some (.int .i64 0):=(by simp[World.cell?,hx3]);have t8:w3.cell? ⟨w.heap.size,8,none⟩=some (.slice none 0 0):=(by simp[World.cell?,hx3]);have tf:∀o,w3.frozen? ⟨w.heap.size,o,none⟩=false:=(fun o=>by simp[World.frozen?,hx3]);have HM:=lh hM;have HR3:=lh hr3;have HB3:=lh hb3;have HX3:=lh hx3;have HF3:=lh hf3;clear hM hr3 hb3 hf3 hx3))
  obtain⟨hz1,hz2⟩:=bC2 HX3.out (.slice d3.h M.H.length d3.hn) (.slice d3.g M.G.length d3.gn) (.int .i64 M.first) (.slice d3.c M.ch.length d3.cn) (.slice d3.t M.T.length d3.tn) (.slice d3.q M.Q.length d3.qn) (.int .i64 M.steps) (.int .i64 M.fin) (.slice d3.a M.ans.length d3.an);have hbw3:Below w.heap.size w w3:=HB2'.out.trans (HB3.out.mono HB2'.out.size);have hbz:Below w.heap.size w (((((((((w3.setCell ⟨w.heap.size,0,none⟩ (.slice d3.h M.H.length d3.hn)).setCell ⟨w.heap.size,1,none⟩ (.slice d3.g M.G.length d3.gn)).setCell ⟨w.heap.size,2,none⟩ (.int .i64 M.first)).setCell ⟨w.heap.size,3,none⟩ (.slice d3.c M.ch.length d3.cn)).setCell ⟨w.heap.size,4,none⟩ (.slice d3.t M.T.length d3.tn)).setCell ⟨w.heap.size,5,none⟩ (.slice d3.q M.Q.length d3.qn)).setCell ⟨w.heap.size,6,none⟩ (.int .i64 M.steps)).setCell ⟨w.heap.size,7,none⟩ (.int .i64 M.fin)).setCell ⟨w.heap.size,8,none⟩ (.slice d3.a M.ans.length d3.an)):=hbw3.trans (hz2.toBelow hbw3.size fun b e=>by omega);have hw2:w.heap.size<w2.heap.size:=(gS HX2.out).1;have HMZ:=lh (((HR3.out.macG (ok:=fun b=>b≠w.heap.size) (fun b hb=>by have:=HF3.out b hb;omega) (.inl (by rw[←HM.out];rfl))).keep (hz2.keeps fun b hb=>hb)).mono fun _ _ _=>trivial);generalize (((((((((w3.setCell ⟨w.heap.size,0,none⟩ (.slice d3.h M.H.length d3.hn)).setCell ⟨w.heap.size,1,none⟩ (.slice d3.g M.G.length d3.gn)).setCell ⟨w.heap.size,2,none⟩ (.int .i64 M.first)).setCell ⟨w.heap.size,3,none⟩ (.slice d3.c M.ch.length d3.cn)).setCell ⟨w.heap.size,4,none⟩ (.slice d3.t M.T.length d3.tn)).setCell ⟨w.heap.size,5,none⟩ (.slice d3.q M.Q.length d3.qn)).setCell ⟨w.heap.size,6,none⟩ (.int .i64 M.steps)).setCell ⟨w.heap.size,7,none⟩ (.int .i64 M.fin)).setCell ⟨w.heap.size,8,none⟩ (.slice d3.a M.ans.length d3.an))=z at *;have y0:z.cell? ⟨w.heap.size,0,none⟩=some (.slice d3.h M.H.length d3.hn):=by simp[World.cell?,hz1]
  have y1:z.cell? ⟨w.heap.size,1,none⟩=some (.slice d3.g M.G.length d3.gn):=by simp[World.cell?,hz1]
  have y2:z.cell? ⟨w.heap.size,2,none⟩=some (.int .i64 M.first):=by simp[World.cell?,hz1]
  have y3:z.cell? ⟨w.heap.size,3,none⟩=some (.slice d3.c M.ch.length d3.cn):=by simp[World.cell?,hz1]
  have y4:z.cell? ⟨w.heap.size,4,none⟩=some (.slice d3.t M.T.length d3.tn):=by simp[World.cell?,hz1]
  have y5:z.cell? ⟨w.heap.size,5,none⟩=some (.slice d3.q M.Q.length d3.qn):=by simp[World.cell?,hz1]
  have y6:z.cell? ⟨w.heap.size,6,none⟩=some (.int .i64 M.steps):=by simp[World.cell?,hz1]
  have y7:z.cell? ⟨w.heap.size,7,none⟩=some (.int .i64 M.fin):=by simp[World.cell?,hz1]
  have y8:z.cell? ⟨w.heap.size,8,none⟩=some (.slice d3.a M.ans.length d3.an):=by simp[World.cell?,hz1]
  refine bodyPost_ret (v:=.tuple #[.agg #[.slice d3.h M.H.length d3.hn,.slice d3.g M.G.length d3.gn,.int .i64 M.first,.slice d3.c M.ch.length d3.cn,.slice d3.t M.T.length d3.tn,.slice d3.q M.Q.length d3.qn,.int .i64 M.steps,.int .i64 M.fin,.slice d3.a M.ans.length d3.an],.int .i64 0]) (by simp[results,Try.results21,go_sem,y0,y1,y2,y3,y4,y5,y6,y7,y8]) rfl ?_;rw[HE.out,HM.out];exact⟨hbz,d3,rfl,HMZ.out⟩
 ·have hne:((eX p q 0:Nat):Int)≠0:=by omega
  have hne2:(((eX p q 0:Nat):Int) != 0)=true:=by rw[bne_iff_ne];exact hne
  have HE:Hid (kG w p q=fun e w'=>Below w.heap.size w w'∧e=.returned (.tuple #[.agg #[.slice none 0 0,.slice none 0 0,.int .i64 0,.slice none 0 0,.slice none 0 0,.slice none 0 0,.int .i64 0,.int .i64 0,.slice none 0 0],.int .i64 (eX p q 0:Nat)])):=lh (by funext e w';unfold kG;rw[if_neg h0]);clear h0;go_wp2_with (go_at_call 41;refine HRW.out.mono ?_;rintro e w2 ⟨rfl,hb2⟩;have hx:=(hb2.block _ (gS HN1.out).1).trans HN1.out;have s0:w2.cell? ⟨w.heap.size,0,none⟩=some (.slice none 0 0):=(by simp[World.cell?,hx]);have s1:w2.cell? ⟨w.heap.size,1,none⟩=some (.slice none 0 0):=(by simp[World.cell?,hx]);have s2:w2.cell? ⟨w.heap.size,2,none⟩=some (.int .i64 0):=(by simp[World.cell?,hx]);have s3:w2.cell? ⟨w.heap.size,3,none⟩=some (.slice none 0 0):=(by simp[World.cell?,hx]);have s4:w2.cell? ⟨w.heap.size,4,none⟩=some (.slice none 0 0):=(by simp[World.cell?,hx]);have s5:w2.cell? ⟨w.heap.size,5,none⟩=some (.slice none 0 0):=(by simp[World.cell?,hx]);have s6:w2.cell? ⟨w.heap.size,6,none⟩=some (.int .i64 0):=(by simp[World.cell?,hx]);have s7:w2.cell? ⟨w.heap.size,7,none⟩=some (.int .i64 0):=(by simp[World.cell?,hx]);have s8:w2.cell? ⟨w.heap.size,8,none⟩=some (.slice none 0 0):=(by simp[World.cell?,hx]);have sf:∀o,w2.frozen? ⟨w.heap.size,o,none⟩=false:=(fun o=>by simp[World.frozen?,hx]);have HB2:=lh hb2;have HX2:=lh hx;clear hb2 hx);obtain⟨hz1,hz2⟩:=bC2 HX2.out (.slice none 0 0) (.slice none 0 0) (.int .i64 0) (.slice none 0 0) (.slice none 0 0) (.slice none 0 0) (.int .i64 0) (.int .i64 0) (.slice none 0 0);have hbz:Below w.heap.size w (((((((((w2.setCell ⟨w.heap.size,0,none⟩ (.slice none 0 0)).setCell ⟨w.heap.size,1,none⟩ (.slice none 0 0)).setCell ⟨w.heap.size,2,none⟩ (.int .i64 0)).setCell ⟨w.heap.size,3,none⟩ (.slice none 0 0)).setCell ⟨w.heap.size,4,none⟩ (.slice none 0 0)).setCell ⟨w.heap.size,5,none⟩ (.slice none 0 0)).setCell ⟨w.heap.size,6,none⟩ (.int .i64 0)).setCell ⟨w.heap.size,7,none⟩ (.int .i64 0)).setCell ⟨w.heap.size,8,none⟩ (.slice none 0 0)):=(HB1.out.trans (HB2.out.mono HB1.out.size)).trans (hz2.toBelow (HB1.out.trans (HB2.out.mono HB1.out.size)).size fun b e=>by omega);generalize (((((((((w2.setCell ⟨w.heap.size,0,none⟩ (.slice none 0 0)).setCell ⟨w.heap.size,1,none⟩ (.slice none 0 0)).setCell ⟨w.heap.size,2,none⟩ (.int .i64 0)).setCell ⟨w.heap.size,3,none⟩ (.slice none 0 0)).setCell ⟨w.heap.size,4,none⟩ (.slice none 0 0)).setCell ⟨w.heap.size,5,none⟩ (.slice none 0 0)).setCell ⟨w.heap.size,6,none⟩ (.int .i64 0)).setCell ⟨w.heap.size,7,none⟩ (.int .i64 0)).setCell ⟨w.heap.size,8,none⟩ (.slice none 0 0))=z at *;have y0:z.cell? ⟨w.heap.size,0,none⟩=some (.slice none 0 0):=by simp[World.cell?,hz1]
  have y1:z.cell? ⟨w.heap.size,1,none⟩=some (.slice none 0 0):=by simp[World.cell?,hz1]
  have y2:z.cell? ⟨w.heap.size,2,none⟩=some (.int .i64 0):=by simp[World.cell?,hz1]
  have y3:z.cell? ⟨w.heap.size,3,none⟩=some (.slice none 0 0):=by simp[World.cell?,hz1]
  have y4:z.cell? ⟨w.heap.size,4,none⟩=some (.slice none 0 0):=by simp[World.cell?,hz1]
  have y5:z.cell? ⟨w.heap.size,5,none⟩=some (.slice none 0 0):=by simp[World.cell?,hz1]
  have y6:z.cell? ⟨w.heap.size,6,none⟩=some (.int .i64 0):=by simp[World.cell?,hz1]
  have y7:z.cell? ⟨w.heap.size,7,none⟩=some (.int .i64 0):=by simp[World.cell?,hz1]
  have y8:z.cell? ⟨w.heap.size,8,none⟩=some (.slice none 0 0):=by simp[World.cell?,hz1]
  refine bodyPost_ret (v:=.tuple #[.agg #[.slice none 0 0,.slice none 0 0,.int .i64 0,.slice none 0 0,.slice none 0 0,.slice none 0 0,.int .i64 0,.int .i64 0,.slice none 0 0],.int .i64 (eX p q 0:Nat)]) (by simp[results,Try.results21,go_sem,y0,y1,y2,y3,y4,y5,y6,y7,y8]) rfl ?_;rw[HE.out];exact⟨hbz,rfl⟩
theorem PgI.of{p:List Cl}(h:aY p=0):PgI p:=⟨bM1 h,bN6 h,(mA h).1⟩
theorem aS9(p:List Cl){q:List Tm}(hq:dI q=0){most:Nat}(hm:most≤400):fW p (Tm.greats q).toNat most (kA q (Tm.greats q).toNat) (eM q):=by
 have hg:(Tm.greats q).toNat≤12:=by have:=sX hq;omega
 obtain⟨h1,h2,h3,h4,h5⟩:=aS3 p hq hg;have hl:left most (eM q)≤440:=by simp[left,eM];omega
 have ht:(kA q (Tm.greats q).toNat).T.length=0:=rfl;refine⟨h1,aU6 p hq,h4,Nat.zero_le _,⟨by omega,by omega⟩,fun _=>⟨by omega,by omega,by omega⟩⟩
theorem aX.made{w u:World}{okp okA:Nat→Prop}{p:List Cl}{pa:Option Addr}{pc:Nat}{m:Mac}{d:MAd}{B:Nat}(hp:Pr u okp p pa pc)(hok:∀b,okp b→b<B)(ho:OwM u B okA m d)(hw:w=u.alloc (.cells (kT pa p.length pc m d 0).toArray 59)){Z:Nat→Prop}(hZ:∀b,Z b→b<B)(hz:∀b,okp b→¬Z b)(hA:∀b,okA b→¬Z b)(hB:B≤u.heap.size):aX w Z u.heap.size p pa pc m d 0:=by
 have hb:Below u.heap.size u w:=by rw[hw];exact(bR _ _).alloc (nR _) _
 have hr:=ho.lt;have hlo:∀b,some b∈rws d→B≤b:=fun b hb=>by
  obtain⟨A,e1,e2,e3⟩:=ho.a;simp only[rws,List.mem_cons,List.not_mem_nil,or_false] at hb;rcases hb with e|e|e|e|e|e
  ·exact(ho.h.row.lt b ((aE _ _ _).trans e.symm)).1
  ·exact(ho.g.lt b ((aE _ _ _).trans e.symm)).1
  ·exact(ho.c.lt b ((aE _ _ _).trans e.symm)).1
  ·exact(ho.t.lt b ((aE _ _ _).trans e.symm)).1
  ·exact(ho.q.lt b ((aE _ _ _).trans e.symm)).1
  ·exact(e2.lt b ((aE _ _ _).trans e.symm)).1
 obtain⟨A,e1,e2,e3⟩:=ho.a;refine⟨by rw[hw];exact heap_alloc_new u _,⟨⟨aI (aH ho.h.row hb) (Nat.zero_le _),ho.h.fits⟩,aI (aH ho.g hb) (Nat.zero_le _),aI (aH ho.c hb) (Nat.zero_le _),aI (aH ho.t hb) (Nat.zero_le _),aI (aH ho.q hb) (Nat.zero_le _),⟨A,e1,aI (aH e2 hb) (Nat.zero_le _),fun x hx=>?_⟩,ho.ne⟩,fun y hy e=>?_,?_,fun b hb2 e=>?_⟩
 ·exact(((e3 x hx).mono fun b hb2 h=>⟨h,hb2⟩).keep (aD.below hb (fun b=>(okA b∧∀y,y∈[bk d.h,bk d.g,bk d.c,bk d.t,bk d.q,bk d.a]→y≠some b)∧b<u.heap.size))).mono fun b _ h=>⟨⟨by have:=h.2;omega,hA b h.1.1⟩,h.1.2⟩
 ·subst e;have:=hr _ hy;omega
 ·refine((hp.mono (ok':=fun b=>okp b∧b<u.heap.size) fun b hb h=>⟨h,hb⟩).keep (aD.below hb _)).mono fun b _ h=>⟨fun e=>?_,hz b h.1⟩
  have h1:=hok b h.1;exact e.elim (fun e=>by omega) fun e=>by have:=hlo b e;omega
 ·have h1:=hZ b e
  exact hb2.elim (fun e=>by omega) fun e=>by have:=hlo b e;omega
def yJ(w:World)(Zx:Nat→Prop)(p:List Cl)(S:MS)(e:Ending)(w':World):Prop :=
 Below w.heap.size w w'∧∃d,e=.returned (.tuple #[.agg ((kW p S).mac.vals d).toArray,.int .i64 0])∧bO w' (fun b=>¬Zx b) (kW p S).mac d
theorem bN0{w:World}{ok Zx:Nat→Prop}(hzx:∀b,Zx b→b<w.heap.size)(hokz:∀b,ok b→¬Zx b){p:List Cl}{pa:Option Addr}{pc:Nat}(hp:Pr w ok p pa pc){S:MS}{d:MAd}(h:bO w ok S.mac d)(hbig:gV S.mac)(hmv:S.ans.map mvA=S.ans)(hck:aM p S.mac=0){P:PS}{query most:Nat}(hpg:PgI p)(hmost:most≤400)(hq:query≤12)(hr:fW p query most S P)(hs:S.first≠0→P.steps<most) :
 Calls Try.prog 7 #[.slice pa p.length pc,.agg #[.slice d.h S.mac.H.length d.hn,.slice d.g S.mac.G.length d.gn,.int .i64 S.mac.first,.slice d.c S.mac.ch.length d.cn,.slice d.t S.mac.T.length d.tn,.slice d.q S.mac.Q.length d.qn,.int .i64 S.mac.steps,.int .i64 S.mac.fin,.slice d.a S.mac.ans.length d.an]] w (yJ w Zx p S):=by
 have hsz:(w.alloc (.cells #[.slice d.h S.mac.H.length d.hn,.slice d.g S.mac.G.length d.gn,.int .i64 S.mac.first,.slice d.c S.mac.ch.length d.cn,.slice d.t S.mac.T.length d.tn,.slice d.q S.mac.Q.length d.qn,.int .i64 S.mac.steps,.int .i64 S.mac.fin,.slice d.a S.mac.ans.length d.an] 30)).heap.size=w.heap.size+1:=by simp
 have B2:Below w.heap.size w ((w.alloc (.cells #[.slice d.h S.mac.H.length d.hn,.slice d.g S.mac.G.length d.gn,.int .i64 S.mac.first,.slice d.c S.mac.ch.length d.cn,.slice d.t S.mac.T.length d.tn,.slice d.q S.mac.Q.length d.qn,.int .i64 S.mac.steps,.int .i64 S.mac.fin,.slice d.a S.mac.ans.length d.an] 30)).alloc (.cells #[.slice none 0 0,.slice none 0 0,.int .i64 0,.slice none 0 0,.slice none 0 0,.slice none 0 0,.int .i64 0,.int .i64 0,.slice none 0 0] 30)):=((bR _ _).alloc (nR _) _).alloc (by simp) _;have hN1:((w.alloc (.cells #[.slice d.h S.mac.H.length d.hn,.slice d.g S.mac.G.length d.gn,.int .i64 S.mac.first,.slice d.c S.mac.ch.length d.cn,.slice d.t S.mac.T.length d.tn,.slice d.q S.mac.Q.length d.qn,.int .i64 S.mac.steps,.int .i64 S.mac.fin,.slice d.a S.mac.ans.length d.an] 30)).alloc (.cells #[.slice none 0 0,.slice none 0 0,.int .i64 0,.slice none 0 0,.slice none 0 0,.slice none 0 0,.int .i64 0,.int .i64 0,.slice none 0 0] 30)).heap[w.heap.size]? = some (.cells #[.slice d.h S.mac.H.length d.hn,.slice d.g S.mac.G.length d.gn,.int .i64 S.mac.first,.slice d.c S.mac.ch.length d.cn,.slice d.t S.mac.T.length d.tn,.slice d.q S.mac.Q.length d.qn,.int .i64 S.mac.steps,.int .i64 S.mac.fin,.slice d.a S.mac.ans.length d.an] 30 (0,0)):=(Below.heap_alloc _ _ _ (by simp)).trans (heap_alloc_new w _);have hN2:((w.alloc (.cells #[.slice d.h S.mac.H.length d.hn,.slice d.g S.mac.G.length d.gn,.int .i64 S.mac.first,.slice d.c S.mac.ch.length d.cn,.slice d.t S.mac.T.length d.tn,.slice d.q S.mac.Q.length d.qn,.int .i64 S.mac.steps,.int .i64 S.mac.fin,.slice d.a S.mac.ans.length d.an] 30)).alloc (.cells #[.slice none 0 0,.slice none 0 0,.int .i64 0,.slice none 0 0,.slice none 0 0,.slice none 0 0,.int .i64 0,.int .i64 0,.slice none 0 0] 30)).heap[w.heap.size+1]? = some (.cells #[.slice none 0 0,.slice none 0 0,.int .i64 0,.slice none 0 0,.slice none 0 0,.slice none 0 0,.int .i64 0,.int .i64 0,.slice none 0 0] 30 (0,0)):=by rw[←hsz];exact heap_alloc_new _ _
 have HP:Hid (Pr w (fun b=>b<w.heap.size∧¬Zx b) p pa pc):=lh (hp.mono fun b hb h=>⟨hb,hokz b h⟩);have HM:Hid (bO w (fun b=>b<w.heap.size∧¬Zx b) S.mac d):=lh (h.mono fun b hb h=>⟨hb,hokz b h⟩);have HZX:=lh hzx;have HCK:Hid (∀u,Below w.heap.size w u→Calls Try.prog 22 #[.slice pa p.length pc,.agg #[.slice d.h S.mac.H.length d.hn,.slice d.g S.mac.G.length d.gn,.int .i64 S.mac.first,.slice d.c S.mac.ch.length d.cn,.slice d.t S.mac.T.length d.tn,.slice d.q S.mac.Q.length d.qn,.int .i64 S.mac.steps,.int .i64 S.mac.fin,.slice d.a S.mac.ans.length d.an]] u fun e w'=>e=.returned (.int .i64 0)∧Below u.heap.size u w'):=lh fun u hu=>by
  have h1:=zL p S.mac d (HP.out.keep (aD.below hu _)) (HM.out.keep (aD.below hu _)) hbig;rw[hck] at h1;exact h1
 have HOW:Hid (∀u,Below w.heap.size w u→Calls Try.prog 23 #[.agg #[.slice d.h S.mac.H.length d.hn,.slice d.g S.mac.G.length d.gn,.int .i64 S.mac.first,.slice d.c S.mac.ch.length d.cn,.slice d.t S.mac.T.length d.tn,.slice d.q S.mac.Q.length d.qn,.int .i64 S.mac.steps,.int .i64 S.mac.fin,.slice d.a S.mac.ans.length d.an]] u (zZ u (fun b=>b<w.heap.size∧¬Zx b) S.mac)):=lh fun u hu=>bB1 S.mac d (HM.out.keep (aD.below hu _)) hbig
 have HMV:Hid ({S.mac with ans:=S.mac.ans.map mvA}=S.mac):=lh (by have:S.mac.ans.map mvA=S.mac.ans:=hmv;rw[this]);have HST:Hid (∀(u:World) (R:Nat) (d:MAd),w.heap.size+1<u.heap.size→aX u (fun b=>b=w.heap.size+1∨Zx b) R p pa pc S.mac d 0→Calls Try.prog 24 #[.pointer (some ⟨R,0,none⟩)] u (aE3 u (fun b=>b=w.heap.size+1∨Zx b) R p pa pc d (kW p S))):=lh fun u R d hu hr2=>bM9 hr2 hpg hmost hq hr hs (fun b e=>e.elim (fun e=>by omega) fun e=>by have:=hzx b e;omega)
 have HB2:=lh B2;have HN1:=lh hN1;have HN2:=lh hN2;have x1c:((w.alloc (.cells #[.slice d.h S.mac.H.length d.hn,.slice d.g S.mac.G.length d.gn,.int .i64 S.mac.first,.slice d.c S.mac.ch.length d.cn,.slice d.t S.mac.T.length d.tn,.slice d.q S.mac.Q.length d.qn,.int .i64 S.mac.steps,.int .i64 S.mac.fin,.slice d.a S.mac.ans.length d.an] 30)).alloc (.cells #[.slice none 0 0,.slice none 0 0,.int .i64 0,.slice none 0 0,.slice none 0 0,.slice none 0 0,.int .i64 0,.int .i64 0,.slice none 0 0] 30)).cell? ⟨w.heap.size,0,none⟩=some (.slice d.h S.mac.H.length d.hn):=by simp[World.cell?,hN1]
 clear hzx hokz hp h hbig hmv hck hr hs hsz B2 hN1 hN2 x1c;go_enter Try.func7,Try.ntmps7;have HX:Hid (cL ((w.alloc (.cells #[.slice d.h S.mac.H.length d.hn,.slice d.g S.mac.G.length d.gn,.int .i64 S.mac.first,.slice d.c S.mac.ch.length d.cn,.slice d.t S.mac.T.length d.tn,.slice d.q S.mac.Q.length d.qn,.int .i64 S.mac.steps,.int .i64 S.mac.fin,.slice d.a S.mac.ans.length d.an] 30)).alloc (.cells #[.slice none 0 0,.slice none 0 0,.int .i64 0,.slice none 0 0,.slice none 0 0,.slice none 0 0,.int .i64 0,.int .i64 0,.slice none 0 0] 30)) w.heap.size S.mac d):=lh ⟨HN1.out⟩;go_upto_region 1 with fail;generalize ((w.alloc (.cells #[.slice d.h S.mac.H.length d.hn,.slice d.g S.mac.G.length d.gn,.int .i64 S.mac.first,.slice d.c S.mac.ch.length d.cn,.slice d.t S.mac.T.length d.tn,.slice d.q S.mac.Q.length d.qn,.int .i64 S.mac.steps,.int .i64 S.mac.fin,.slice d.a S.mac.ans.length d.an] 30)).alloc (.cells #[.slice none 0 0,.slice none 0 0,.int .i64 0,.slice none 0 0,.slice none 0 0,.slice none 0 0,.int .i64 0,.int .i64 0,.slice none 0 0] 30))=wa at *;obtain⟨x0,x1,x2,x3,x4,x5,x6,x7,x8,xf⟩:=HX.out.all;go_upto_region 4 with (go_at_call 22;refine(HCK.out _ HB2.out).mono ?_;rintro e w3 ⟨rfl,hb3⟩;obtain⟨y0,y1,y2,y3,y4,y5,y6,y7,y8,yf⟩:=(HX.out.below hb3).all;have HB3:=lh hb3;clear hb3);clear x0 x1 x2 x3 x4 x5 x6 x7 x8 xf;have HB3':=lh (HB2.out.trans (HB3.out.mono HB2.out.size));have HN3:=lh ((HB3.out.block _ (gS HN2.out).1).trans HN2.out);have hl3:w.heap.size+1<w3.heap.size:=(gS HN3.out).1;go_upto_region 5 with (go_at_call 23;refine(HOW.out _ HB3'.out).mono ?_;rintro e w4 ⟨d4,he,ho4,hb4⟩;rw[HMV.out] at he ho4;have he2:e=.returned (.agg #[.slice d4.h S.mac.H.length d4.hn,.slice d4.g S.mac.G.length d4.gn,.int .i64 S.mac.first,.slice d4.c S.mac.ch.length d4.cn,.slice d4.t S.mac.T.length d4.tn,.slice d4.q S.mac.Q.length d4.qn,.int .i64 S.mac.steps,.int .i64 S.mac.fin,.slice d4.a S.mac.ans.length d4.an]):=he;subst he2;have HO4:=lh ho4;have HB4:=lh hb4;clear he ho4 hb4);have HB4':=lh (HB3'.out.trans (HB4.out.mono HB3'.out.size));have HR5:=lh (aX.made (w:=w4.alloc (.cells #[.slice pa p.length pc,.slice d4.h S.mac.H.length d4.hn,.slice d4.g S.mac.G.length d4.gn,.int .i64 S.mac.first,.slice d4.c S.mac.ch.length d4.cn,.slice d4.t S.mac.T.length d4.tn,.slice d4.q S.mac.Q.length d4.qn,.int .i64 S.mac.steps,.int .i64 S.mac.fin,.slice d4.a S.mac.ans.length d4.an,.int .i64 0] 59)) (okp:=fun b=>b<w.heap.size∧¬Zx b) (HP.out.keep (aD.below HB4'.out _)) (B:=w3.heap.size) (fun b hb=>by have:=HB3'.out.size;have:=hb.1;omega) HO4.out rfl (Z:=fun b=>b=w.heap.size+1∨Zx b) (fun b hb=>hb.elim (fun e=>by omega) fun e=>by have:=HZX.out b e;omega) (fun b hb e=>e.elim (fun e=>by have:=hb.1;omega) hb.2) (fun b hb e=>e.elim (fun e=>hb.elim (fun h=>by have:=h.1.1;omega) fun h=>by omega) fun e=>hb.elim (fun h=>h.1.2 e) fun h=>by have:=HZX.out b e;omega) HB4.out.size);have hBr:Below w4.heap.size w4 (w4.alloc (.cells #[.slice pa p.length pc,.slice d4.h S.mac.H.length d4.hn,.slice d4.g S.mac.G.length d4.gn,.int .i64 S.mac.first,.slice d4.c S.mac.ch.length d4.cn,.slice d4.t S.mac.T.length d4.tn,.slice d4.q S.mac.Q.length d4.qn,.int .i64 S.mac.steps,.int .i64 S.mac.fin,.slice d4.a S.mac.ans.length d4.an,.int .i64 0] 59)):=(bR _ _).alloc (nR _) _;have HB5':=lh (HB4'.out.trans (hBr.mono HB4'.out.size));have HN5:=lh ((hBr.block _ (nT hl3 HB4.out.size)).trans ((HB4.out.block _ hl3).trans HN3.out));have HLO:Hid (∀b,RM w4.heap.size d4 b→w3.heap.size≤b):=lh (by
  intro b hb;obtain⟨A,e1,e2,e3⟩:=HO4.out.a;have hs4:=HB4.out.size;rcases hb with e|hb
  ·omega
  ·simp only[rws,List.mem_cons,List.not_mem_nil,or_false] at hb
   rcases hb with e|e|e|e|e|e
   ·exact(HO4.out.h.row.lt b ((aE _ _ _).trans e.symm)).1
   ·exact(HO4.out.g.lt b ((aE _ _ _).trans e.symm)).1
   ·exact(HO4.out.c.lt b ((aE _ _ _).trans e.symm)).1
   ·exact(HO4.out.t.lt b ((aE _ _ _).trans e.symm)).1
   ·exact(HO4.out.q.lt b ((aE _ _ _).trans e.symm)).1
   ·exact(e2.lt b ((aE _ _ _).trans e.symm)).1)
 clear hBr y0 y1 y2 y3 y4 y5 y6 y7 y8 yf;generalize w4.alloc (.cells #[.slice pa p.length pc,.slice d4.h S.mac.H.length d4.hn,.slice d4.g S.mac.G.length d4.gn,.int .i64 S.mac.first,.slice d4.c S.mac.ch.length d4.cn,.slice d4.t S.mac.T.length d4.tn,.slice d4.q S.mac.Q.length d4.qn,.int .i64 S.mac.steps,.int .i64 S.mac.fin,.slice d4.a S.mac.ans.length d4.an,.int .i64 0] 59)=w5 at *;go_upto_region 6 with (go_at_call 24;refine(HST.out _ _ _ (gS HN5.out).1 HR5.out).mono ?_;rintro e w6 ⟨⟨uv,rfl⟩,ht6,d6,wk6,hf6,hr6⟩;have HT6:=lh ht6;have HF6:=lh hf6;have HR6:=lh hr6;clear ht6 hf6 hr6);have hx6:=(HT6.out.block _ (gS HN5.out).1 (fun e=>by have:=HLO.out _ e;omega)).trans HN5.out;have t0:w6.cell? ⟨w.heap.size+1,0,none⟩=some (.slice none 0 0):=(by simp[World.cell?,hx6])
 have t1:w6.cell? ⟨w.heap.size+1,1,none⟩=some (.slice none 0 0):=(by simp[World.cell?,hx6])
 have t2:w6.cell? ⟨w.heap.size+1,2,none⟩=some (.int .i64 0):=(by simp[World.cell?,hx6])
 have t3:w6.cell? ⟨w.heap.size+1,3,none⟩=some (.slice none 0 0):=(by simp[World.cell?,hx6])
 have t4:w6.cell? ⟨w.heap.size+1,4,none⟩=some (.slice none 0 0):=(by simp[World.cell?,hx6])
 have t5:w6.cell? ⟨w.heap.size+1,5,none⟩=some (.slice none 0 0):=(by simp[World.cell?,hx6])
 have t6:w6.cell? ⟨w.heap.size+1,6,none⟩=some (.int .i64 0):=(by simp[World.cell?,hx6])
 have t7:w6.cell? ⟨w.heap.size+1,7,none⟩=some (.int .i64 0):=(by simp[World.cell?,hx6])
 have t8:w6.cell? ⟨w.heap.size+1,8,none⟩=some (.slice none 0 0):=(by simp[World.cell?,hx6])
 have tf:∀o,w6.frozen? ⟨w.heap.size+1,o,none⟩=false:=fun o=>by simp[World.frozen?,hx6]
 obtain⟨M,hM⟩:∃M,(kW p S).mac=M:=⟨_,rfl⟩
 have HMM:=lh hM;rw[hM] at HR6;obtain⟨x0,x1,x2,x3,x4,x5,x6,x7,x8,x9,x10,xf⟩:=HR6.out.cells;have zR6:=HR6.out.lt;have zx6:w.heap.size+1<w6.heap.size:=(gS hx6).1;have hne6:w.heap.size+1≠w4.heap.size:=by have:=HB4.out.size;omega
 have HX6:=lh hx6;clear hx6 hM;go_wp2_with fail;obtain⟨hz1,hz2⟩:=bC2 HX6.out (.slice d6.h M.H.length d6.hn) (.slice d6.g M.G.length d6.gn) (.int .i64 M.first) (.slice d6.c M.ch.length d6.cn) (.slice d6.t M.T.length d6.tn) (.slice d6.q M.Q.length d6.qn) (.int .i64 M.steps) (.int .i64 M.fin) (.slice d6.a M.ans.length d6.an);have hbw6:Below w.heap.size w w6:=HB5'.out.trans (HT6.out.toBelow HB5'.out.size fun b e=>by have:=HLO.out b e;have:=HB3'.out.size;omega);have hbz:Below w.heap.size w (((((((((w6.setCell ⟨(w.heap.size+1),0,none⟩ (.slice d6.h M.H.length d6.hn)).setCell ⟨(w.heap.size+1),1,none⟩ (.slice d6.g M.G.length d6.gn)).setCell ⟨(w.heap.size+1),2,none⟩ (.int .i64 M.first)).setCell ⟨(w.heap.size+1),3,none⟩ (.slice d6.c M.ch.length d6.cn)).setCell ⟨(w.heap.size+1),4,none⟩ (.slice d6.t M.T.length d6.tn)).setCell ⟨(w.heap.size+1),5,none⟩ (.slice d6.q M.Q.length d6.qn)).setCell ⟨(w.heap.size+1),6,none⟩ (.int .i64 M.steps)).setCell ⟨(w.heap.size+1),7,none⟩ (.int .i64 M.fin)).setCell ⟨(w.heap.size+1),8,none⟩ (.slice d6.a M.ans.length d6.an)):=hbw6.trans (hz2.toBelow hbw6.size fun b e=>by omega);have hr7:=HR6.out.keep hz2 fun b _ e=>.inl e
 have hma:=hr7.macG (ok:=fun b=>¬Zx b) (fun b hb e=>hr7.zr b (.inr hb) (.inr e)) (.inr fun b hb e=>hb.2 (.inr e));generalize (((((((((w6.setCell ⟨(w.heap.size+1),0,none⟩ (.slice d6.h M.H.length d6.hn)).setCell ⟨(w.heap.size+1),1,none⟩ (.slice d6.g M.G.length d6.gn)).setCell ⟨(w.heap.size+1),2,none⟩ (.int .i64 M.first)).setCell ⟨(w.heap.size+1),3,none⟩ (.slice d6.c M.ch.length d6.cn)).setCell ⟨(w.heap.size+1),4,none⟩ (.slice d6.t M.T.length d6.tn)).setCell ⟨(w.heap.size+1),5,none⟩ (.slice d6.q M.Q.length d6.qn)).setCell ⟨(w.heap.size+1),6,none⟩ (.int .i64 M.steps)).setCell ⟨(w.heap.size+1),7,none⟩ (.int .i64 M.fin)).setCell ⟨(w.heap.size+1),8,none⟩ (.slice d6.a M.ans.length d6.an))=z at *;have y0:z.cell? ⟨w.heap.size+1,0,none⟩=some (.slice d6.h M.H.length d6.hn):=by simp[World.cell?,hz1]
 have y1:z.cell? ⟨w.heap.size+1,1,none⟩=some (.slice d6.g M.G.length d6.gn):=by simp[World.cell?,hz1]
 have y2:z.cell? ⟨w.heap.size+1,2,none⟩=some (.int .i64 M.first):=by simp[World.cell?,hz1]
 have y3:z.cell? ⟨w.heap.size+1,3,none⟩=some (.slice d6.c M.ch.length d6.cn):=by simp[World.cell?,hz1]
 have y4:z.cell? ⟨w.heap.size+1,4,none⟩=some (.slice d6.t M.T.length d6.tn):=by simp[World.cell?,hz1]
 have y5:z.cell? ⟨w.heap.size+1,5,none⟩=some (.slice d6.q M.Q.length d6.qn):=by simp[World.cell?,hz1]
 have y6:z.cell? ⟨w.heap.size+1,6,none⟩=some (.int .i64 M.steps):=by simp[World.cell?,hz1]
 have y7:z.cell? ⟨w.heap.size+1,7,none⟩=some (.int .i64 M.fin):=by simp[World.cell?,hz1]
 have y8:z.cell? ⟨w.heap.size+1,8,none⟩=some (.slice d6.a M.ans.length d6.an):=by simp[World.cell?,hz1]
 refine bodyPost_ret (v:=.tuple #[.agg #[.slice d6.h M.H.length d6.hn,.slice d6.g M.G.length d6.gn,.int .i64 M.first,.slice d6.c M.ch.length d6.cn,.slice d6.t M.T.length d6.tn,.slice d6.q M.Q.length d6.qn,.int .i64 M.steps,.int .i64 M.fin,.slice d6.a M.ans.length d6.an],.int .i64 0]) (by simp[results,Try.results7,go_sem,y0,y1,y2,y3,y4,y5,y6,y7,y8]) rfl ?_;refine⟨hbz,d6,?_,?_⟩
 ·rw[HMM.out];rfl
 ·rw[HMM.out];exact hma
end Go.Proofs.Ytikmgiapjigghab
