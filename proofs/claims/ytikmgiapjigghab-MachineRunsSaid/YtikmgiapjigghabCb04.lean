/- Walks: the reference's check of a program; the greatest variable. -/
import Derived.Deep.RegionWith
import Derived.Test.YtikmgiapjigghabCb03
namespace Go.Proofs.Ytikmgiapjigghab
open Go.RowKit
def vmax(n:Int)(l:List Tm):Int:=l.foldl (fun n t=>max n t.var) n
theorem vmax_append(n:Int)(l r:List Tm):vmax n (l++r)=vmax (vmax n l) r:=by unfold vmax;rw[List.foldl_append]
mutual
def Tm.great:Tm→Int
 | .mk v _ l=>max v (Tm.greats l)
def Tm.greats:List Tm→Int
 | []=>0
 | t::r=>max t.great (Tm.greats r)
end
theorem Tm.greats_pos(l:List Tm):0≤Tm.greats l:=by
 induction l with
 | nil=>exact Int.le_refl _
 | cons t l ih=>rw[Tm.greats];omega
theorem Tm.greats_append(l r:List Tm):Tm.greats (l++r)=max (Tm.greats l) (Tm.greats r):=by
 induction l with
 | nil=>rw[List.nil_append,Tm.greats];have:=Tm.greats_pos r;omega
 | cons t l ih=>rw[List.cons_append,Tm.greats,Tm.greats,ih];omega
theorem Tm.greats_take_succ(l:List Tm)(k:Nat)(h:k<l.length):Tm.greats (l.take (k+1))=max (Tm.greats (l.take k)) (max l[k].var (Tm.greats l[k].args)):=by
 rw[List.take_succ_eq_append_getElem h,Tm.greats_append]
 have:=Tm.greats_pos (l.take k)
 cases h2:l[k] with
 | mk v n a=>simp only[Tm.greats,Tm.great,Tm.var,Tm.args];have:=Tm.greats_pos a;omega
theorem Tm.greats_eq(l:List Tm):∀ n:Int,0≤n→vmax n (Tm.partss l)=max n (Tm.greats l):=by
 refine Tm.rec_1 (motive_1:=fun t=>∀ n:Int,0≤n→vmax n t.parts=max n t.great) (motive_2:=fun l=>∀ n:Int,0≤n→vmax n (Tm.partss l)=max n (Tm.greats l)) ?_ ?_ ?_ l
 ·intro v s l ih n hn
  rw[Tm.parts]
  show vmax (max n v) (Tm.partss l)=_
  rw[ih _ (by omega),Tm.great];omega
 ·intro n hn;rw[Tm.partss,Tm.greats];show n=_;omega
 ·intro t r h1 h2 n hn
  rw[Tm.partss,vmax_append,h1 n hn,h2 _ (by omega),Tm.greats];omega
def GreatestAt(l:List Tm):Prop:=∀ (w:World) (ok:Nat→Prop) (a:Option Addr) (cap:Nat),Ts w ok l a cap →
 Calls Try.prog 48 #[.slice a l.length cap] w fun e w'=>e=.returned (.int .i64 (Tm.greats l))∧Below w.heap.size w w'
set_option maxRecDepth 100000 in
set_option maxHeartbeats 400000 in
theorem GreatestStep(l:List Tm)(ih:∀ t,t∈l→GreatestAt t.args):GreatestAt l:=by
 intro w ok a cap hrd
 have IH:=lh ih;clear ih
 have HRD:=lh hrd
 have hcap:=hrd.cap
 have hcl:l.length≤9223372036854775807:=by unfold maxLen at hcap;omega
 clear hcap hrd
 go_enter Try.func48,Try.ntmps48
 go_wp2_with fail
 go_loopw[3,8] (fun x i wr=>∃ (k:Nat) (g:Int),k≤l.length∧i=.int .i64 k∧x=.int .i64 g∧Hid (g=Tm.greats (l.take k))∧Below w.heap.size w wr) (fun _ i _=>l.length-(intOf i).toNat)
 case atStart=>exact⟨0,0,Nat.zero_le _,rfl,rfl,lh rfl,Below.refl _ _⟩
 case round =>
  obtain⟨k,g,hk,rfl,rfl,HG,hbr⟩:=hrel
  by_cases hlt:k<l.length
  ·obtain⟨b,off,a',cap',rfl,hokb,hbs,hc3,ht⟩:=HRD.out.at k hlt
   have hcv:=(hbr.cell (p:=⟨b,off+k*3,none⟩) hbs).trans hc3.var
   have hcn:=(hbr.cell (p:=⟨b,off+k*3+1,none⟩) hbs).trans hc3.name
   have hca:=(hbr.cell (p:=⟨b,off+k*3+2,none⟩) hbs).trans hc3.args
   have hmem:l[k]∈l:=List.getElem_mem hlt
   clear hc3
   go_wp2_with fail
   go_region_with (go_at_call 48;refine(IH.out _ hmem _ ok a' cap' ?_).mono ?_;exact ht.keep ((Keeps.below hbr ok).trans (Keeps.below (((Below.refl _ _).alloc (Nat.le_refl _) _).drew) ok));rintro e w' ⟨rfl,hb'⟩;obtain⟨hc',hf'⟩:=bcell hb')
   all_goals
    go_wp2_with fail
    go_roundw
    case rel=>exact⟨k+1,_,by omega,by go_num,rfl,lh (by rw[HG.out,Tm.greats_take_succ l k hlt];omega),((hbr.alloc hbr.size _).drew).trans (hb'.mono (by have:=hbr.size;simp;omega))⟩
    case measure=>simp[intOf];omega
  ·go_wp2_with fail
   go_ret
   exact⟨retI (by rw[HG.out,List.take_of_length_le (by omega)]),hbr⟩
theorem GreatestW(l:List Tm):GreatestAt l:=by
 have h:∀ t:Tm,GreatestAt t.args:=fun t=>by
  induction t using Tm.ind with
  | h v n l ih=>exact GreatestStep l ih
 exact GreatestStep l fun t _=>h t
noncomputable def eqTs(l l2:List Tm):Bool:=@decide (l=l2) (Classical.propDecidable _)
noncomputable def eqT(t u:Tm):Bool:=@decide (t=u) (Classical.propDecidable _)
theorem eqTs_true{l l2:List Tm}(h:l=l2):eqTs l l2=true:=by unfold eqTs;exact @decide_eq_true _ (Classical.propDecidable _) h
theorem eqTs_false{l l2:List Tm}(h:l≠l2):eqTs l l2=false:=by unfold eqTs;exact @decide_eq_false _ (Classical.propDecidable _) h
theorem eqT_true{l l2:Tm}(h:l=l2):eqT l l2=true:=by unfold eqT;exact @decide_eq_true _ (Classical.propDecidable _) h
theorem eqT_false{l l2:Tm}(h:l≠l2):eqT l l2=false:=by unfold eqT;exact @decide_eq_false _ (Classical.propDecidable _) h
theorem eqTs_iff{l l2:List Tm}:eqTs l l2=true↔l=l2:=by unfold eqTs;exact @decide_eq_true_iff _ (Classical.propDecidable _)
theorem eqT_iff{l l2:Tm}:eqT l l2=true↔l=l2:=by unfold eqT;exact @decide_eq_true_iff _ (Classical.propDecidable _)
theorem Tm.ext'{t u:Tm}(h1:t.var=u.var)(h2:t.name=u.name)(h3:t.args=u.args):t=u:=by
 cases t;cases u;simp only[Tm.var,Tm.name,Tm.args] at h1 h2 h3;rw[h1,h2,h3]
def SameTermsAt(l:List Tm):Prop:=∀ (l2:List Tm) (w:World) (ok:Nat→Prop) (a1 a2:Option Addr) (c1 c2:Nat),Ts w ok l a1 c1→Ts w ok l2 a2 c2 →
 Calls Try.prog 35 #[.slice a1 l.length c1,.slice a2 l2.length c2] w fun e w'=>e=.returned (.bool (eqTs l l2))∧Below w.heap.size w w'
set_option maxRecDepth 100000 in
set_option maxHeartbeats 1000000 in
theorem SameTermOf(t:Tm)(h:SameTermsAt t.args)(u:Tm)(w:World)(ok:Nat→Prop)(a1 a2:Option Addr)(c1 c2:Nat)(h1:Ts w ok t.args a1 c1)(h2:Ts w ok u.args a2 c2) :
 Calls Try.prog 40 #[.agg #[.int .i64 t.var,.string t.name,.slice a1 t.args.length c1],.agg #[.int .i64 u.var,.string u.name,.slice a2 u.args.length c2]] w fun e w'=>e=.returned (.bool (eqT t u))∧Below w.heap.size w w':=by
 have H:=lh h;have H1:=lh h1;have H2:=lh h2
 clear h h1 h2
 have B0:Below w.heap.size w ((w.alloc (.cells #[.int .i64 t.var,.string t.name,.slice a1 t.args.length c1] 71)).alloc (.cells #[.int .i64 u.var,.string u.name,.slice a2 u.args.length c2] 71)):=((Below.refl _ _).alloc (Nat.le_refl _) _).alloc (by simp) _
 have HB0:=lh B0
 clear B0
 by_cases hv:t.var=u.var
 ·have hv':(t.var == u.var)=true:=by rw[hv];simp
  have HV:=lh hv
  clear hv
  by_cases hn:t.name.toList=u.name.toList
  ·have HN:Hid (t.name=u.name):=lh (by
    rw[ByteArray.toList_eq,ByteArray.toList_eq] at hn
    exact ByteArray.ext (Array.toList_inj.1 hn))
   have HE:Hid (eqT t u=eqTs t.args u.args):=lh (by
    rw[Bool.eq_iff_iff,eqT_iff,eqTs_iff]
    exact⟨fun e=>by rw[e],fun e=>Tm.ext' HV.out HN.out e⟩)
   have HC:=lh (H.out u.args _ ok a1 a2 c1 c2 (H1.out.keep (Keeps.below HB0.out ok)) (H2.out.keep (Keeps.below HB0.out ok)))
   have hn':(t.name.toList == u.name.toList)=true:=by rw[hn];simp
   go_enter Try.func40,Try.ntmps40
   go_wp2_with fail
   refine HC.out.mono ?_
   rintro e w1 ⟨rfl,hb⟩
   go_wp2_with fail
   go_ret
   exact⟨retB (by rw[HE.out]),HB0.out.trans (hb.mono (by simp;omega))⟩
  ·have HE:Hid (eqT t u=false):=lh (eqT_false (fun e=>hn (by rw[e])))
   have hn':(t.name.toList == u.name.toList)=false:=beqF hn
   go_enter Try.func40,Try.ntmps40
   go_wp2_with fail
   go_ret
   exact⟨retB (by rw[HE.out]),HB0.out⟩
 ·have hv':(t.var == u.var)=false:=beq_eq_false_iff_ne.2 hv
  have HE:Hid (eqT t u=false):=lh (eqT_false (fun e=>hv (by rw[e])))
  clear hv
  go_enter Try.func40,Try.ntmps40
  go_wp2_with fail
  go_ret
  exact⟨retB (by rw[HE.out]),HB0.out⟩
set_option maxRecDepth 100000 in
set_option maxHeartbeats 1000000 in
theorem SameTermsStep(l:List Tm)(ih:∀ t,t∈l→SameTermsAt t.args):SameTermsAt l:=by
 intro l2 w ok a1 a2 c1 c2 h1 h2
 have IH:=lh ih;have H1:=lh h1;have H2:=lh h2
 have hc1:l.length≤9223372036854775807:=by have:=h1.cap;unfold maxLen at this;omega
 have hc2:l2.length≤9223372036854775807:=by have:=h2.cap;unfold maxLen at this;omega
 clear ih h1 h2
 by_cases hl:l.length=l2.length
 ·have hl':((l.length:Int) != (l2.length:Int))=false:=by rw[hl];simp
  have HL:=lh hl
  clear hl
  go_enter Try.func35,Try.ntmps35
  go_wp2_with fail
  go_loopw[5] (fun i wr=>∃ k:Nat,k≤l.length∧i=.int .i64 k∧Hid (l.take k=l2.take k)∧Below w.heap.size w wr) (fun i _=>l.length-(intOf i).toNat)
  case atStart=>exact⟨0,Nat.zero_le _,rfl,lh (by simp),Below.refl _ _⟩
  case round =>
   obtain⟨k,hk,rfl,HE,hbr⟩:=hrel
   by_cases hlt:k<l.length
   ·have hlt2:k<l2.length:=by rw[← HL.out];exact hlt
    obtain⟨g1,o1,d1,e1,rfl,hok1,hs1,hq1,ht1⟩:=H1.out.at k hlt
    obtain⟨g2,o2,d2,e2,rfl,hok2,hs2,hq2,ht2⟩:=H2.out.at k hlt2
    have m0:=(hbr.cell (p:=⟨g1,o1+k*3,none⟩) hs1).trans hq1.var
    have m1:=(hbr.cell (p:=⟨g1,o1+k*3+1,none⟩) hs1).trans hq1.name
    have m2:=(hbr.cell (p:=⟨g1,o1+k*3+2,none⟩) hs1).trans hq1.args
    have n0:=(hbr.cell (p:=⟨g2,o2+k*3,none⟩) hs2).trans hq2.var
    have n1:=(hbr.cell (p:=⟨g2,o2+k*3+1,none⟩) hs2).trans hq2.name
    have n2:=(hbr.cell (p:=⟨g2,o2+k*3+2,none⟩) hs2).trans hq2.args
    have hmem:l[k]∈l:=List.getElem_mem hlt
    have HC:=lh (SameTermOf l[k] (IH.out _ hmem) l2[k] wr.drew ok d1 d2 e1 e2 (ht1.keep (Keeps.below hbr.drew ok)) (ht2.keep (Keeps.below hbr.drew ok)))
    clear hq1 hq2 ht1 ht2
    by_cases heq:l[k]=l2[k]
    ·have ht:=eqT_true heq
     have HE':Hid (l.take (k+1)=l2.take (k+1)):=lh (by rw[List.take_succ_eq_append_getElem hlt,List.take_succ_eq_append_getElem hlt2,HE.out,heq])
     clear heq
     go_wp2_with fail
     go_region_with (go_at_call 40;refine HC.out.mono ?_;rintro e w1 ⟨rfl,hb⟩)
     all_goals
      go_wp2_with fail
      go_roundw
      case rel=>exact⟨k+1,by omega,by go_num,HE'.out,hbr.drew.trans (hb.mono hbr.size)⟩
      case measure=>simp[intOf];omega
    ·have ht:=eqT_false heq
     have HR:Hid (eqTs l l2=false):=lh (eqTs_false (fun e=>heq (by simp[e])))
     clear heq
     go_wp2_with fail
     go_region_with (go_at_call 40;refine HC.out.mono ?_;rintro e w1 ⟨rfl,hb⟩)
     all_goals
      go_wp2_with fail
      go_ret
      exact⟨retB (by rw[HR.out]),hbr.drew.trans (hb.mono hbr.size)⟩
   ·have HR:Hid (eqTs l l2=true):=lh (eqTs_true (by
     have:=HE.out
     rwa [List.take_of_length_le (by omega),List.take_of_length_le (by rw[← HL.out];omega)] at this))
    go_wp2_with fail
    go_ret
    exact⟨retB (by rw[HR.out]),hbr⟩
 ·have hl':((l.length:Int) != (l2.length:Int))=true:=by rw[bne_iff_ne];omega
  have HR:Hid (eqTs l l2=false):=lh (eqTs_false (fun e=>hl (by rw[e])))
  clear hl
  go_enter Try.func35,Try.ntmps35
  go_wp2_with fail
  go_ret
  exact⟨retB (by rw[HR.out]),Below.refl _ _⟩
theorem SameTermsW(l:List Tm):SameTermsAt l:=by
 have h:∀ t:Tm,SameTermsAt t.args:=fun t=>by
  induction t using Tm.ind with
  | h v n l ih=>exact SameTermsStep l ih
 exact SameTermsStep l fun t _=>h t
end Go.Proofs.Ytikmgiapjigghab
