/- Walks: the reference's check of a program; the greatest variable. -/
import Derived.Deep.RegionWith
import Derived.Test.YtikmgiapjigghabQc03
set_option maxRecDepth 100000
set_option maxHeartbeats 8000000
namespace Go.Proofs.Ytikmgiapjigghab
open Go.RowKit
theorem wD(P:List Cl)(w:World)(ok:Nat→Prop)(hok:∀b,w.heap.size≤b→ok b)(a:Option Addr)(cap:Nat)(hrd:Pr w ok P a cap) :
 Calls Try.prog 25 #[.slice a P.length cap] w fun e w'=>e=.returned (.int .i64 (aY P:Nat))∧Below w.heap.size w w':=by
 have HRD:=lh hrd;have HOK:=lh hok;have hcap:=hrd.room;have hcl:P.length≤9223372036854775807:=by unfold maxLen at hcap;omega
 clear hcap hrd hok;by_cases h6:30<P.length
 ·have H:=lh (nZ h6)
  go_enter Try.func25,Try.ntmps25;go_wp2_with fail;go_ret;exact⟨cJ H.out.symm,Below.refl _ _⟩
 ·go_enter Try.func25,Try.ntmps25
  go_wp2_with fail
  go_loopw[3] (fun i wr=>∃k:Nat,k≤P.length∧i=.int .i64 k∧tS P k∧Below w.heap.size w wr) (fun i _=>P.length-(intOf i).toNat)
  case atStart=>exact⟨0,Nat.zero_le _,rfl,fun j hj h=>by omega,Below.refl _ _⟩
  case round =>
   obtain⟨k,hk,rfl,HZ,hbr⟩:=hrel;by_cases hlt:k<P.length
   ·obtain⟨b,off,a1,a2,c1,c2,rfl,hokb,hbs,hc3,hc4,ht1,ht2⟩:=HRD.out.elem k hlt
    have hcv:=(hbr.cell (p:=⟨b,off+k*4,none⟩) hbs).trans hc3.var;have hcn:=(hbr.cell (p:=⟨b,off+k*4+1,none⟩) hbs).trans hc3.name;have hca:=(hbr.cell (p:=⟨b,off+k*4+2,none⟩) hbs).trans hc3.args;have hcb:=(hbr.cell (p:=⟨b,off+k*4+3,none⟩) hbs).trans hc4;have HC3:=lh hc3.fits;clear hc3 hc4;have hbw:b<wr.heap.size:=nT hbs hbr.size;have hk1:aD ok w (wr.alloc (.cells #[.int .i64 P[k].head.var,.string P[k].head.name,.slice a1 P[k].head.args.length c1] 71)):=(aD.below hbr ok).trans (aD.below ((bR _ _).alloc (nR _) _) ok);have B1:=lh (hbr.alloc hbr.size (.cells #[.int .i64 P[k].head.var,.string P[k].head.name,.slice a1 P[k].head.args.length c1] 71));have HO1:Hid (∀b,wr.heap.size≤b→ok b):=lh fun b hb=>HOK.out b (Nat.le_trans hbr.size hb)
    rcases lG P[k] with ⟨k1,H⟩|⟨k1,k2,H⟩|⟨k1,k2,k3,H⟩|⟨k1,k2,k3,H⟩
    ·have HR:=lh ((jE h6 k hlt HZ (by rw[H];exact k1)).trans H);clear H
     have k1':=qW k1;go_wp2_with fail;refine(gO P[k].head _ ok (fun b hb=>HO1.out b (by simp at hb;omega)) a1 c1 HC3.out (ht1.keep hk1)).mono ?_;rintro e w1 ⟨rfl,hb⟩;obtain⟨hc,hf⟩:=eA hb;go_wp2_with fail;go_ret;exact⟨cJ HR.out.symm,B1.out.trans (hb.mono (by have:=hbr.size;simp;omega))⟩
    ·have HR:=lh ((jE h6 k hlt HZ (by rw[H];decide)).trans H);clear H
     have k2':(P[k].head.var != 0)=true:=by rw[bne_iff_ne];exact k2
     clear k2;go_wp2_with fail;refine(gO P[k].head _ ok (fun b hb=>HO1.out b (by simp at hb;omega)) a1 c1 HC3.out (ht1.keep hk1)).mono ?_;rintro e w1 ⟨rfl,hb⟩;obtain⟨hc,hf⟩:=eA hb;go_wp2_with fail;go_ret;exact⟨cJ HR.out.symm,B1.out.trans (hb.mono (by have:=hbr.size;simp;omega))⟩
    ·have HR:=lh ((jE h6 k hlt HZ (by rw[H];decide)).trans H);clear H
     have k2':(P[k].head.var != 0)=false:=by rw[k2];rfl
     clear k2;go_wp2_with fail;refine(gO P[k].head _ ok (fun b hb=>HO1.out b (by simp at hb;omega)) a1 c1 HC3.out (ht1.keep hk1)).mono ?_;rintro e w1 ⟨rfl,hb⟩;obtain⟨hc,hf⟩:=eA hb;go_wp2_with fail;refine(oS _ _ _).mono ?_;rintro e w2 ⟨rfl,rfl⟩;go_wp2_with fail;go_ret;exact⟨cJ HR.out.symm,B1.out.trans (hb.mono (by have:=hbr.size;simp;omega))⟩
    ·have k2':(P[k].head.var != 0)=false:=by rw[k2];rfl
     clear k2;have HE:=lh H;clear H;by_cases hz:dI P[k].body=0
     ·have HZ':=lh (HZ.next hlt (HE.out.trans hz))
      go_wp2_with fail;refine(gO P[k].head _ ok (fun b hb=>HO1.out b (by simp at hb;omega)) a1 c1 HC3.out (ht1.keep hk1)).mono ?_;rintro e w1 ⟨rfl,hb⟩;obtain⟨hc,hf⟩:=eA hb;go_wp2_with fail;refine(oS _ _ _).mono ?_;rintro e w2 ⟨rfl,rfl⟩;have hs1:wr.heap.size<w1.heap.size:=by have:=hb.size;simp at this;omega
      go_wp2_with fail;refine(sE P[k].body _ ok (fun b hb=>HO1.out b (by omega)) a2 c2 (ht2.keep (hk1.trans (aD.below hb ok)))).mono ?_;rintro e w3 ⟨rfl,hb3⟩;go_wp2_with fail;go_roundw
      case rel=>exact⟨k+1,by omega,by go_num,HZ'.out,(B1.out.trans (hb.mono (by have:=hbr.size;simp;omega))).trans (hb3.mono (by have:=hbr.size;omega))⟩
      case measure=>simp[intOf];omega
     ·have HR:=lh ((jE h6 k hlt HZ (by rw[HE.out];exact hz)).trans HE.out)
      have hz':=qW hz;go_wp2_with fail;refine(gO P[k].head _ ok (fun b hb=>HO1.out b (by simp at hb;omega)) a1 c1 HC3.out (ht1.keep hk1)).mono ?_;rintro e w1 ⟨rfl,hb⟩;obtain⟨hc,hf⟩:=eA hb;go_wp2_with fail;refine(oS _ _ _).mono ?_;rintro e w2 ⟨rfl,rfl⟩;have hs1:wr.heap.size<w1.heap.size:=by have:=hb.size;simp at this;omega
      go_wp2_with fail;refine(sE P[k].body _ ok (fun b hb=>HO1.out b (by omega)) a2 c2 (ht2.keep (hk1.trans (aD.below hb ok)))).mono ?_;rintro e w3 ⟨rfl,hb3⟩;go_wp2_with fail;go_ret;exact⟨cJ HR.out.symm,(B1.out.trans (hb.mono (by have:=hbr.size;simp;omega))).trans (hb3.mono (by have:=hbr.size;omega))⟩
   ·have HR:=lh (oA h6 (fun j hj=>HZ j hj (by omega)))
    go_wp2_with fail;go_ret;exact⟨cJ HR.out.symm,hbr⟩
def yY(n:Int)(l:List Tm):Int:=l.foldl (fun n t=>max n t.var) n
theorem aB5(n:Int)(l r:List Tm):yY n (l++r)=yY (yY n l) r:=by unfold yY;rw[List.foldl_append]
mutual
def Tm.great:Tm→Int
 | .mk v _ l=>max v (Tm.greats l)
def Tm.greats:List Tm→Int
 | []=>0
 | t::r=>max t.great (Tm.greats r)
end
theorem Tm.greats_pos(l:List Tm):0≤Tm.greats l:=by
 induction l with
 | nil=>exact Int.le_refl _
 | cons t l ih=>rw[Tm.greats];omega
theorem Tm.greats_append(l r:List Tm):Tm.greats (l++r)=max (Tm.greats l) (Tm.greats r):=by
 induction l with
 | nil=>rw[List.nil_append,Tm.greats];have:=Tm.greats_pos r;omega
 | cons t l ih=>rw[List.cons_append,Tm.greats,Tm.greats,ih];omega
theorem Tm.greats_take_succ(l:List Tm)(k:Nat)(h:k<l.length):Tm.greats (l.take (k+1))=max (Tm.greats (l.take k)) (max l[k].var (Tm.greats l[k].args)):=by
 rw[List.take_succ_eq_append_getElem h,Tm.greats_append];have:=Tm.greats_pos (l.take k);cases h2:l[k] with
 | mk v n a=>simp only[Tm.greats,Tm.great,Tm.var,Tm.args];have:=Tm.greats_pos a;omega
theorem Tm.greats_eq(l:List Tm):∀n:Int,0≤n→yY n (Tm.partss l)=max n (Tm.greats l):=by
 refine Tm.rec_1 (motive_1:=fun t=>∀n:Int,0≤n→yY n t.parts=max n t.great) (motive_2:=fun l=>∀n:Int,0≤n→yY n (Tm.partss l)=max n (Tm.greats l)) ?_ ?_ ?_ l
 ·intro v s l ih n hn
  rw[Tm.parts];show yY (max n v) (Tm.partss l)=_;rw[ih _ (by omega),Tm.great];omega
 ·intro n hn;rw[Tm.partss,Tm.greats];show n=_;omega
 ·intro t r h1 h2 n hn
  rw[Tm.partss,aB5,h1 n hn,h2 _ (by omega),Tm.greats];omega
def lT(l:List Tm):Prop:=∀(w:World) (ok:Nat→Prop) (a:Option Addr) (cap:Nat),Ts w ok l a cap →
 Calls Try.prog 48 #[.slice a l.length cap] w fun e w'=>e=.returned (.int .i64 (Tm.greats l))∧Below w.heap.size w w'
theorem pR(l:List Tm)(ih:∀t,t∈l→lT t.args):lT l:=by
 intro w ok a cap hrd;have IH:=lh ih;clear ih;have HRD:=lh hrd;have hcap:=hrd.cap;have hcl:l.length≤9223372036854775807:=by unfold maxLen at hcap;omega
 clear hcap hrd;go_enter Try.func48,Try.ntmps48;go_wp2_with fail
 go_loopw[3,8] (fun x i wr=>∃(k:Nat) (g:Int),k≤l.length∧i=.int .i64 k∧x=.int .i64 g∧Hid (g=Tm.greats (l.take k))∧Below w.heap.size w wr) (fun _ i _=>l.length-(intOf i).toNat)
 case atStart=>exact⟨0,0,Nat.zero_le _,rfl,rfl,lh rfl,Below.refl _ _⟩
 case round =>
  obtain⟨k,g,hk,rfl,rfl,HG,hbr⟩:=hrel;by_cases hlt:k<l.length
  ·obtain⟨b,off,a',cap',rfl,hokb,hbs,hc3,ht⟩:=HRD.out.at k hlt
   have hcv:=(hbr.cell (p:=⟨b,off+k*3,none⟩) hbs).trans hc3.var;have hcn:=(hbr.cell (p:=⟨b,off+k*3+1,none⟩) hbs).trans hc3.name;have hca:=(hbr.cell (p:=⟨b,off+k*3+2,none⟩) hbs).trans hc3.args;have hmem:l[k]∈l:=List.getElem_mem hlt;clear hc3;go_wp2_with fail
   go_region_with (go_at_call 48;refine(IH.out _ hmem _ ok a' cap' ?_).mono ?_;exact ht.keep ((aD.below hbr ok).trans (aD.below (((bR _ _).alloc (nR _) _).drew) ok));rintro e w' ⟨rfl,hb'⟩;obtain⟨hc',hf'⟩:=eA hb')
   all_goals
    go_wp2_with fail;go_roundw
    case rel=>exact⟨k+1,_,by omega,by go_num,rfl,lh (by rw[HG.out,Tm.greats_take_succ l k hlt];omega),((hbr.alloc hbr.size _).drew).trans (hb'.mono (by have:=hbr.size;simp;omega))⟩
    case measure=>simp[intOf];omega
  ·go_wp2_with fail
   go_ret;exact⟨bE3 (by rw[HG.out,List.take_of_length_le (by omega)]),hbr⟩
theorem aQ1(l:List Tm):lT l:=by
 have h:∀t:Tm,lT t.args:=fun t=>by
  induction t using Tm.ind with
  | h v n l ih=>exact pR l ih
 exact pR l fun t _=>h t
noncomputable def tU(l l2:List Tm):Bool:=@decide (l=l2) (Classical.propDecidable _)
noncomputable def eqT(t u:Tm):Bool:=@decide (t=u) (Classical.propDecidable _)
theorem xA{l l2:List Tm}(h:l=l2):tU l l2=true:=by unfold tU;exact @decide_eq_true _ (Classical.propDecidable _) h
theorem oV{l l2:List Tm}(h:l≠l2):tU l l2=false:=by unfold tU;exact @decide_eq_false _ (Classical.propDecidable _) h
theorem aW3{l l2:Tm}(h:l=l2):eqT l l2=true:=by unfold eqT;exact @decide_eq_true _ (Classical.propDecidable _) h
theorem qZ{l l2:Tm}(h:l≠l2):eqT l l2=false:=by unfold eqT;exact @decide_eq_false _ (Classical.propDecidable _) h
theorem aW4{l l2:List Tm}:tU l l2=true↔l=l2:=by unfold tU;exact @decide_eq_true_iff _ (Classical.propDecidable _)
theorem bE6{l l2:Tm}:eqT l l2=true↔l=l2:=by unfold eqT;exact @decide_eq_true_iff _ (Classical.propDecidable _)
theorem Tm.ext'{t u:Tm}(h1:t.var=u.var)(h2:t.name=u.name)(h3:t.args=u.args):t=u:=by
 cases t;cases u;simp only[Tm.var,Tm.name,Tm.args] at h1 h2 h3;rw[h1,h2,h3]
def jF(l:List Tm):Prop:=∀(l2:List Tm) (w:World) (ok:Nat→Prop) (a1 a2:Option Addr) (c1 c2:Nat),Ts w ok l a1 c1→Ts w ok l2 a2 c2 →
 Calls Try.prog 35 #[.slice a1 l.length c1,.slice a2 l2.length c2] w fun e w'=>e=.returned (.bool (tU l l2))∧Below w.heap.size w w'
theorem aJ1(t:Tm)(h:jF t.args)(u:Tm)(w:World)(ok:Nat→Prop)(a1 a2:Option Addr)(c1 c2:Nat)(h1:Ts w ok t.args a1 c1)(h2:Ts w ok u.args a2 c2) :
 Calls Try.prog 40 #[.agg #[.int .i64 t.var,.string t.name,.slice a1 t.args.length c1],.agg #[.int .i64 u.var,.string u.name,.slice a2 u.args.length c2]] w fun e w'=>e=.returned (.bool (eqT t u))∧Below w.heap.size w w':=by
 have H:=lh h;have H1:=lh h1;have H2:=lh h2;clear h h1 h2;have B0:Below w.heap.size w ((w.alloc (.cells #[.int .i64 t.var,.string t.name,.slice a1 t.args.length c1] 71)).alloc (.cells #[.int .i64 u.var,.string u.name,.slice a2 u.args.length c2] 71)):=((bR _ _).alloc (nR _) _).alloc (by simp) _;have HB0:=lh B0;clear B0;by_cases hv:t.var=u.var
 ·have hv':(t.var == u.var)=true:=by rw[hv];simp
  have HV:=lh hv;clear hv;by_cases hn:t.name.toList=u.name.toList
  ·have HN:Hid (t.name=u.name):=lh (by
    rw[ByteArray.toList_eq,ByteArray.toList_eq] at hn;exact ByteArray.ext (Array.toList_inj.1 hn))
   have HE:Hid (eqT t u=tU t.args u.args):=lh (by
    rw[Bool.eq_iff_iff,bE6,aW4];exact⟨fun e=>by rw[e],fun e=>Tm.ext' HV.out HN.out e⟩)
   have HC:=lh (H.out u.args _ ok a1 a2 c1 c2 (H1.out.keep (aD.below HB0.out ok)) (H2.out.keep (aD.below HB0.out ok)));have hn':(t.name.toList == u.name.toList)=true:=by rw[hn];simp
   go_enter Try.func40,Try.ntmps40;go_wp2_with fail;refine HC.out.mono ?_;rintro e w1 ⟨rfl,hb⟩;go_wp2_with fail;go_ret;exact⟨eY (by rw[HE.out]),HB0.out.trans (hb.mono (by simp;omega))⟩
  ·have HE:Hid (eqT t u=false):=lh (qZ (fun e=>hn (by rw[e])))
   have hn':(t.name.toList == u.name.toList)=false:=mN hn;go_enter Try.func40,Try.ntmps40;go_wp2_with fail;go_ret;exact⟨eY (by rw[HE.out]),HB0.out⟩
 ·have hv':(t.var == u.var)=false:=beq_eq_false_iff_ne.2 hv
  have HE:Hid (eqT t u=false):=lh (qZ (fun e=>hv (by rw[e])));clear hv;go_enter Try.func40,Try.ntmps40;go_wp2_with fail;go_ret;exact⟨eY (by rw[HE.out]),HB0.out⟩
theorem oB(l:List Tm)(ih:∀t,t∈l→jF t.args):jF l:=by
 intro l2 w ok a1 a2 c1 c2 h1 h2;have IH:=lh ih;have H1:=lh h1;have H2:=lh h2;have hc1:l.length≤9223372036854775807:=by have:=h1.cap;unfold maxLen at this;omega
 have hc2:l2.length≤9223372036854775807:=by have:=h2.cap;unfold maxLen at this;omega
 clear ih h1 h2;by_cases hl:l.length=l2.length
 ·have hl':((l.length:Int) != (l2.length:Int))=false:=by rw[hl];simp
  have HL:=lh hl;clear hl;go_enter Try.func35,Try.ntmps35;go_wp2_with fail
  go_loopw[5] (fun i wr=>∃k:Nat,k≤l.length∧i=.int .i64 k∧Hid (l.take k=l2.take k)∧Below w.heap.size w wr) (fun i _=>l.length-(intOf i).toNat)
  case atStart=>exact⟨0,Nat.zero_le _,rfl,lh (by simp),Below.refl _ _⟩
  case round =>
   obtain⟨k,hk,rfl,HE,hbr⟩:=hrel;by_cases hlt:k<l.length
   ·have hlt2:k<l2.length:=by rw[←HL.out];exact hlt
    obtain⟨g1,o1,d1,e1,rfl,hok1,hs1,hq1,ht1⟩:=H1.out.at k hlt;obtain⟨g2,o2,d2,e2,rfl,hok2,hs2,hq2,ht2⟩:=H2.out.at k hlt2;have m0:=(hbr.cell (p:=⟨g1,o1+k*3,none⟩) hs1).trans hq1.var;have m1:=(hbr.cell (p:=⟨g1,o1+k*3+1,none⟩) hs1).trans hq1.name;have m2:=(hbr.cell (p:=⟨g1,o1+k*3+2,none⟩) hs1).trans hq1.args;have n0:=(hbr.cell (p:=⟨g2,o2+k*3,none⟩) hs2).trans hq2.var;have n1:=(hbr.cell (p:=⟨g2,o2+k*3+1,none⟩) hs2).trans hq2.name;have n2:=(hbr.cell (p:=⟨g2,o2+k*3+2,none⟩) hs2).trans hq2.args;have hmem:l[k]∈l:=List.getElem_mem hlt;have HC:=lh (aJ1 l[k] (IH.out _ hmem) l2[k] wr.drew ok d1 d2 e1 e2 (ht1.keep (aD.below hbr.drew ok)) (ht2.keep (aD.below hbr.drew ok)));clear hq1 hq2 ht1 ht2;by_cases heq:l[k]=l2[k]
    ·have ht:=aW3 heq
     have HE':Hid (l.take (k+1)=l2.take (k+1)):=lh (by rw[List.take_succ_eq_append_getElem hlt,List.take_succ_eq_append_getElem hlt2,HE.out,heq]);clear heq;go_wp2_with fail
     go_region_with (go_at_call 40;refine HC.out.mono ?_;rintro e w1 ⟨rfl,hb⟩)
     all_goals
      go_wp2_with fail;go_roundw
      case rel=>exact⟨k+1,by omega,by go_num,HE'.out,hbr.drew.trans (hb.mono hbr.size)⟩
      case measure=>simp[intOf];omega
    ·have ht:=qZ heq
     have HR:Hid (tU l l2=false):=lh (oV (fun e=>heq (by simp[e])));clear heq;go_wp2_with fail
     go_region_with (go_at_call 40;refine HC.out.mono ?_;rintro e w1 ⟨rfl,hb⟩)
     all_goals
      go_wp2_with fail;go_ret;exact⟨eY (by rw[HR.out]),hbr.drew.trans (hb.mono hbr.size)⟩
   ·have HR:Hid (tU l l2=true):=lh (xA (by
     have:=HE.out
     rwa [List.take_of_length_le (by omega),List.take_of_length_le (by rw[←HL.out];omega)] at this))
    go_wp2_with fail;go_ret;exact⟨eY (by rw[HR.out]),hbr⟩
 ·have hl':((l.length:Int) != (l2.length:Int))=true:=by rw[bne_iff_ne];omega
  have HR:Hid (tU l l2=false):=lh (oV (fun e=>hl (by rw[e])));clear hl;go_enter Try.func35,Try.ntmps35;go_wp2_with fail;go_ret;exact⟨eY (by rw[HR.out]),Below.refl _ _⟩
theorem aJ2(l:List Tm):jF l:=by
 have h:∀t:Tm,jF t.args:=fun t=>by
  induction t using Tm.ind with
  | h v n l ih=>exact oB l ih
 exact oB l fun t _=>h t
end Go.Proofs.Ytikmgiapjigghab
