/- Walks: the reference's check of a program; the greatest variable. -/
import Derived.Deep.RegionWith
import Derived.Test.YtikmgiapjigghaaCa03
namespace Go.Proofs.Ytikmgiapjigghaa
open Go.RowKit
set_option maxRecDepth 100000 in
set_option maxHeartbeats 1000000 in
theorem CheckProgramW(P:List Cl)(w:World)(ok:Nat→Prop)(hok:∀ b,w.heap.size≤b→ok b)(a:Option Addr)(cap:Nat)(hrd:Pr w ok P a cap) :
 Calls Try.prog 20 #[.slice a P.length cap] w fun e w'=>e=.returned (.int .i64 (programE P:Nat))∧Below w.heap.size w w':=by
 have HRD:=Lib.hid hrd
 have HOK:=Lib.hid hok
 have hcap:=hrd.room
 have hcl:P.length≤9223372036854775807:=by unfold maxLen at hcap;omega
 clear hcap hrd hok
 by_cases h6:30<P.length
 ·have H:=Lib.hid (programE_many h6)
  go_enter Try.func20,Try.ntmps20
  go_wp2_with fail
  go_ret
  exact⟨retN H.out.symm,Below.refl _ _⟩
 ·go_enter Try.func20,Try.ntmps20
  go_wp2_with fail
  go_loopw[3] (fun i wr=>∃ k:Nat,k≤P.length∧i=.int .i64 k∧ZeroCl P k∧Below w.heap.size w wr) (fun i _=>P.length-(intOf i).toNat)
  case atStart=>exact⟨0,Nat.zero_le _,rfl,fun j hj h=>by omega,Below.refl _ _⟩
  case round =>
   obtain⟨k,hk,rfl,HZ,hbr⟩:=hrel
   by_cases hlt:k<P.length
   ·obtain⟨b,off,a1,a2,c1,c2,rfl,hokb,hbs,hc3,hc4,ht1,ht2⟩:=HRD.out.elem k hlt
    have hcv:=(hbr.cell (p:=⟨b,off+k*4,none⟩) hbs).trans hc3.var
    have hcn:=(hbr.cell (p:=⟨b,off+k*4+1,none⟩) hbs).trans hc3.name
    have hca:=(hbr.cell (p:=⟨b,off+k*4+2,none⟩) hbs).trans hc3.args
    have hcb:=(hbr.cell (p:=⟨b,off+k*4+3,none⟩) hbs).trans hc4
    have HC3:=Lib.hid hc3.fits
    clear hc3 hc4
    have hbw:b<wr.heap.size:=Nat.lt_of_lt_of_le hbs hbr.size
    have hk1:Keeps ok w (wr.alloc (.cells #[.int .i64 P[k].head.var,.string P[k].head.name,.slice a1 P[k].head.args.length c1] 24)):=(Keeps.below hbr ok).trans (Keeps.below ((Below.refl _ _).alloc (Nat.le_refl _) _) ok)
    have B1:=Lib.hid (hbr.alloc hbr.size (.cells #[.int .i64 P[k].head.var,.string P[k].head.name,.slice a1 P[k].head.args.length c1] 24))
    have HO1:Hid (∀ b,wr.heap.size≤b→ok b):=Lib.hid fun b hb=>HOK.out b (Nat.le_trans hbr.size hb)
    rcases clauseE_cases P[k] with ⟨k1,H⟩ | ⟨k1,k2,H⟩ | ⟨k1,k2,k3,H⟩ | ⟨k1,k2,k3,H⟩
    ·have HR:=Lib.hid ((programE_at h6 k hlt HZ (by rw[H];exact k1)).trans H);clear H
     have k1':=bne0 k1
     go_wp2_with fail
     refine(CheckTermW P[k].head _ ok (fun b hb=>HO1.out b (by simp at hb;omega)) a1 c1 HC3.out (ht1.keep hk1)).mono ?_
     rintro e w1 ⟨rfl,hb⟩;obtain⟨hc,hf⟩:=bcell hb
     go_wp2_with fail
     go_ret
     exact⟨retN HR.out.symm,B1.out.trans (hb.mono (by have:=hbr.size;simp;omega))⟩
    ·have HR:=Lib.hid ((programE_at h6 k hlt HZ (by rw[H];decide)).trans H);clear H
     have k2':(P[k].head.var != 0)=true:=by rw[bne_iff_ne];exact k2
     clear k2
     go_wp2_with fail
     refine(CheckTermW P[k].head _ ok (fun b hb=>HO1.out b (by simp at hb;omega)) a1 c1 HC3.out (ht1.keep hk1)).mono ?_
     rintro e w1 ⟨rfl,hb⟩;obtain⟨hc,hf⟩:=bcell hb
     go_wp2_with fail
     go_ret
     exact⟨retN HR.out.symm,B1.out.trans (hb.mono (by have:=hbr.size;simp;omega))⟩
    ·have HR:=Lib.hid ((programE_at h6 k hlt HZ (by rw[H];decide)).trans H);clear H
     have k2':(P[k].head.var != 0)=false:=by rw[k2];rfl
     clear k2
     go_wp2_with fail
     refine(CheckTermW P[k].head _ ok (fun b hb=>HO1.out b (by simp at hb;omega)) a1 c1 HC3.out (ht1.keep hk1)).mono ?_
     rintro e w1 ⟨rfl,hb⟩;obtain⟨hc,hf⟩:=bcell hb
     go_wp2_with fail
     refine(IsBuiltinW _ _ _).mono ?_
     rintro e w2 ⟨rfl,rfl⟩
     go_wp2_with fail
     go_ret
     exact⟨retN HR.out.symm,B1.out.trans (hb.mono (by have:=hbr.size;simp;omega))⟩
    ·have k2':(P[k].head.var != 0)=false:=by rw[k2];rfl
     clear k2
     have HE:=Lib.hid H
     clear H
     by_cases hz:queryE P[k].body=0
     ·have HZ':=Lib.hid (HZ.next hlt (HE.out.trans hz))
      go_wp2_with fail
      refine(CheckTermW P[k].head _ ok (fun b hb=>HO1.out b (by simp at hb;omega)) a1 c1 HC3.out (ht1.keep hk1)).mono ?_
      rintro e w1 ⟨rfl,hb⟩;obtain⟨hc,hf⟩:=bcell hb
      go_wp2_with fail
      refine(IsBuiltinW _ _ _).mono ?_
      rintro e w2 ⟨rfl,rfl⟩
      have hs1:wr.heap.size<w1.heap.size:=by have:=hb.size;simp at this;omega
      go_wp2_with fail
      refine(CheckQueryW P[k].body _ ok (fun b hb=>HO1.out b (by omega)) a2 c2 (ht2.keep (hk1.trans (Keeps.below hb ok)))).mono ?_
      rintro e w3 ⟨rfl,hb3⟩
      go_wp2_with fail
      go_roundw
      case rel=>exact⟨k+1,by omega,by go_num,HZ'.out,(B1.out.trans (hb.mono (by have:=hbr.size;simp;omega))).trans (hb3.mono (by have:=hbr.size;omega))⟩
      case measure=>simp[intOf];omega
     ·have HR:=Lib.hid ((programE_at h6 k hlt HZ (by rw[HE.out];exact hz)).trans HE.out)
      have hz':=bne0 hz
      go_wp2_with fail
      refine(CheckTermW P[k].head _ ok (fun b hb=>HO1.out b (by simp at hb;omega)) a1 c1 HC3.out (ht1.keep hk1)).mono ?_
      rintro e w1 ⟨rfl,hb⟩;obtain⟨hc,hf⟩:=bcell hb
      go_wp2_with fail
      refine(IsBuiltinW _ _ _).mono ?_
      rintro e w2 ⟨rfl,rfl⟩
      have hs1:wr.heap.size<w1.heap.size:=by have:=hb.size;simp at this;omega
      go_wp2_with fail
      refine(CheckQueryW P[k].body _ ok (fun b hb=>HO1.out b (by omega)) a2 c2 (ht2.keep (hk1.trans (Keeps.below hb ok)))).mono ?_
      rintro e w3 ⟨rfl,hb3⟩
      go_wp2_with fail
      go_ret
      exact⟨retN HR.out.symm,(B1.out.trans (hb.mono (by have:=hbr.size;simp;omega))).trans (hb3.mono (by have:=hbr.size;omega))⟩
   ·have HR:=Lib.hid (programE_none h6 (fun j hj=>HZ j hj (by omega)))
    go_wp2_with fail
    go_ret
    exact⟨retN HR.out.symm,hbr⟩
def vmax(n:Int)(l:List Tm):Int:=l.foldl (fun n t=>max n t.var) n
theorem vmax_append(n:Int)(l r:List Tm):vmax n (l++r)=vmax (vmax n l) r:=by unfold vmax;rw[List.foldl_append]
mutual
def Tm.great:Tm→Int
 | .mk v _ l=>max v (Tm.greats l)
def Tm.greats:List Tm→Int
 | []=>0
 | t::r=>max t.great (Tm.greats r)
end
theorem Tm.greats_pos(l:List Tm):0≤Tm.greats l:=by
 induction l with
 | nil=>exact Int.le_refl _
 | cons t l ih=>rw[Tm.greats];omega
theorem Tm.greats_append(l r:List Tm):Tm.greats (l++r)=max (Tm.greats l) (Tm.greats r):=by
 induction l with
 | nil=>rw[List.nil_append,Tm.greats];have:=Tm.greats_pos r;omega
 | cons t l ih=>rw[List.cons_append,Tm.greats,Tm.greats,ih];omega
theorem Tm.greats_take_succ(l:List Tm)(k:Nat)(h:k<l.length):Tm.greats (l.take (k+1))=max (Tm.greats (l.take k)) (max l[k].var (Tm.greats l[k].args)):=by
 rw[List.take_succ_eq_append_getElem h,Tm.greats_append]
 have:=Tm.greats_pos (l.take k)
 cases h2:l[k] with
 | mk v n a=>simp only[Tm.greats,Tm.great,Tm.var,Tm.args];have:=Tm.greats_pos a;omega
theorem Tm.greats_eq(l:List Tm):∀ n:Int,0≤n→vmax n (Tm.partss l)=max n (Tm.greats l):=by
 refine Tm.rec_1 (motive_1:=fun t=>∀ n:Int,0≤n→vmax n t.parts=max n t.great) (motive_2:=fun l=>∀ n:Int,0≤n→vmax n (Tm.partss l)=max n (Tm.greats l)) ?_ ?_ ?_ l
 ·intro v s l ih n hn
  rw[Tm.parts]
  show vmax (max n v) (Tm.partss l)=_
  rw[ih _ (by omega),Tm.great];omega
 ·intro n hn;rw[Tm.partss,Tm.greats];show n=_;omega
 ·intro t r h1 h2 n hn
  rw[Tm.partss,vmax_append,h1 n hn,h2 _ (by omega),Tm.greats];omega
def GreatestAt(l:List Tm):Prop:=∀ (w:World) (ok:Nat→Prop) (a:Option Addr) (cap:Nat),Ts w ok l a cap →
 Calls Try.prog 55 #[.slice a l.length cap] w fun e w'=>e=.returned (.int .i64 (Tm.greats l))∧Below w.heap.size w w'
set_option maxRecDepth 100000 in
set_option maxHeartbeats 400000 in
theorem GreatestStep(l:List Tm)(ih:∀ t,t∈l→GreatestAt t.args):GreatestAt l:=by
 intro w ok a cap hrd
 have IH:=Lib.hid ih;clear ih
 have HRD:=Lib.hid hrd
 have hcap:=hrd.cap
 have hcl:l.length≤9223372036854775807:=by unfold maxLen at hcap;omega
 clear hcap hrd
 go_enter Try.func55,Try.ntmps55
 go_wp2_with fail
 go_loopw[3,8] (fun x i wr=>∃ (k:Nat) (g:Int),k≤l.length∧i=.int .i64 k∧x=.int .i64 g∧Hid (g=Tm.greats (l.take k))∧Below w.heap.size w wr) (fun _ i _=>l.length-(intOf i).toNat)
 case atStart=>exact⟨0,0,Nat.zero_le _,rfl,rfl,Lib.hid rfl,Below.refl _ _⟩
 case round =>
  obtain⟨k,g,hk,rfl,rfl,HG,hbr⟩:=hrel
  by_cases hlt:k<l.length
  ·obtain⟨b,off,a',cap',rfl,hokb,hbs,hc3,ht⟩:=HRD.out.at k hlt
   have hcv:=(hbr.cell (p:=⟨b,off+k*3,none⟩) hbs).trans hc3.var
   have hcn:=(hbr.cell (p:=⟨b,off+k*3+1,none⟩) hbs).trans hc3.name
   have hca:=(hbr.cell (p:=⟨b,off+k*3+2,none⟩) hbs).trans hc3.args
   have hmem:l[k]∈l:=List.getElem_mem hlt
   clear hc3
   go_wp2_with fail
   go_region_with (go_at_call 55;refine(IH.out _ hmem _ ok a' cap' ?_).mono ?_;exact ht.keep ((Keeps.below hbr ok).trans (Keeps.below (((Below.refl _ _).alloc (Nat.le_refl _) _).drew) ok));rintro e w' ⟨rfl,hb'⟩;obtain⟨hc',hf'⟩:=bcell hb')
   all_goals
    go_wp2_with fail
    go_roundw
    case rel=>exact⟨k+1,_,by omega,by go_num,rfl,Lib.hid (by rw[HG.out,Tm.greats_take_succ l k hlt];omega),((hbr.alloc hbr.size _).drew).trans (hb'.mono (by have:=hbr.size;simp;omega))⟩
    case measure=>simp[intOf];omega
  ·go_wp2_with fail
   go_ret
   exact⟨retI (by rw[HG.out,List.take_of_length_le (by omega)]),hbr⟩
theorem GreatestW(l:List Tm):GreatestAt l:=by
 have h:∀ t:Tm,GreatestAt t.args:=fun t=>by
  induction t using Tm.ind with
  | h v n l ih=>exact GreatestStep l ih
 exact GreatestStep l fun t _=>h t
end Go.Proofs.Ytikmgiapjigghaa

/- Walks: are two terms the same, are two lists of terms. -/
namespace Go.Proofs.Ytikmgiapjigghaa
open Go.RowKit
theorem Tm.ext'{t u:Tm}(h1:t.var=u.var)(h2:t.name=u.name)(h3:t.args=u.args):t=u:=by
 cases t;cases u;simp only[Tm.var,Tm.name,Tm.args] at h1 h2 h3;rw[h1,h2,h3]
end Go.Proofs.Ytikmgiapjigghaa
