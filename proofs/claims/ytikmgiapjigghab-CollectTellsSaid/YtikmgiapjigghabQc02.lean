/- Walk: the parts of a term, each ahead of its arguments. -/
import Derived.WalkSpells
import Derived.Lib.Hide
import Derived.WalkLawsBesides
import Derived.Test.YtikmgiapjigghabQc01
set_option maxRecDepth 100000
set_option maxHeartbeats 8000000
namespace Go.Proofs.Ytikmgiapjigghab
open Go.RowKit
mutual
def Tm.parts:Tm→List Tm
 | .mk v n l=>.mk v n l::Tm.partss l
def Tm.partss:List Tm→List Tm
 | []=>[]
 | t::r=>t.parts++Tm.partss r
end
theorem Tm.partss_append(l r:List Tm):Tm.partss (l++r)=Tm.partss l++Tm.partss r:=by
 induction l with
 | nil=>simp[Tm.partss]
 | cons a l ih=>simp only[List.cons_append,Tm.partss,ih,List.append_assoc]
theorem Tm.partss_take_succ(l:List Tm)(k:Nat)(h:k<l.length):Tm.partss (l.take (k+1))=Tm.partss (l.take k)++l[k].parts:=by
 rw[List.take_succ_eq_append_getElem h,Tm.partss_append];simp[Tm.partss]
theorem Tm.parts_length(t:Tm):t.parts.length=t.size:=by
 refine Tm.rec (motive_1:=fun t=>t.parts.length=t.size) (motive_2:=fun l=>(Tm.partss l).length=Tm.sizes l) ?_ ?_ ?_ t
 ·intro v n l ih;simp only[Tm.parts,Tm.size,List.length_cons,ih];omega
 ·rfl
 ·intro a r h1 h2;simp only[Tm.partss,Tm.sizes,List.length_append,h1,h2]
theorem Tm.partss_length(l:List Tm):(Tm.partss l).length=Tm.sizes l:=by
 induction l with
 | nil=>rfl
 | cons a l ih=>simp only[Tm.partss,Tm.sizes,List.length_append,ih,Tm.parts_length]
theorem Tm.size_le_sizes(l:List Tm)(k:Nat)(h:k<l.length):Tm.sizes (l.take k)+l[k].size≤Tm.sizes l:=by
 rw[←Tm.sizes_take_succ l k h];exact Tm.sizes_take_le l _
theorem Try.infoTm:(Try.prog.info? 71).map (fun i=>(i.zero,i.size,i.bytes))=some (some (.agg #[.int .i64 0,.string ByteArray.empty,.slice none 0 0]),3,48):=by kernel_rfl
structure fX(w:World)(ok:Nat→Prop)(v:Int)(n:ByteArray)(l:List Tm)(a:Option Addr)(cap:Nat)(k:Nat)(L:List dS)(x:Value)(wr:World):Prop where
 list:L.map (·.1)=.mk v n l::Tm.partss (l.take k)
 own:dA wr (w.heap.size+1) ok x L
 box:wr.cell? ⟨w.heap.size,2,none⟩=some (.slice a l.length cap)
 below:Below w.heap.size w wr
 size:w.heap.size+1<wr.heap.size
theorem fX.start{w:World}{ok:Nat→Prop}{v:Int}{n:ByteArray}{l:List Tm}{a:Option Addr}{cap:Nat}(hf:(Tm.mk v n l).fits)(h:Ts w ok l a cap) :
 fX w ok v n l a cap 0 [(.mk v n l,a,cap)] (.slice (some ⟨w.heap.size+1,0,none⟩) 1 1) ((w.alloc (.cells #[.int .i64 v,.string n,.slice a l.length cap] 71)).alloc (.cells #[.int .i64 v,.string n,.slice a l.length cap] 71)):=by
 have hb:Below w.heap.size w ((w.alloc (.cells #[.int .i64 v,.string n,.slice a l.length cap] 71)).alloc (.cells #[.int .i64 v,.string n,.slice a l.length cap] 71)) :=
  ((bR _ _).alloc (nR _) _).alloc (by simp) _
 refine⟨by simp[Tm.partss],⟨?_,?_⟩,?_,hb,by simp⟩
 ·have:=World.ownsRow_lit (base:=w.heap.size+1) (e:=71) (size:=3) (w.alloc (.cells #[.int .i64 v,.string n,.slice a l.length cap] 71)) #[.int .i64 v,.string n,.slice a l.length cap] 1 (by simp) (by unfold maxLen;omega) rfl
  simpa[dX,Tm.var,Tm.name,Tm.args] using this
 ·refine(bW.mono (fun b hb hk=>?_) (bW.one hf h)).keep (aD.below hb _)
  refine⟨hk,fun e=>?_⟩;simp only[Value.ownBlock,Option.some.injEq] at e;omega
 ·simp[World.cell?,World.alloc,-World.alloc_eq,Array.getElem?_push]
theorem Tm.size_arg{v:Int}{n:ByteArray}{l:List Tm}{m:Nat}(h:(Tm.mk v n l).size≤m)(k:Nat)(hk:k<l.length):l[k].size≤m:=by
 have:=Tm.size_le_sizes l k hk;simp only[Tm.size] at h;omega
theorem fX.bound{w:World}{ok:Nat→Prop}{v:Int}{n:ByteArray}{l:List Tm}{a:Option Addr}{cap k:Nat}{L:List dS}{x:Value}{wr:World}(h:fX w ok v n l a cap k L x wr){m:Nat}(hm:(Tm.mk v n l).size≤m)(hk:k<l.length) :
 L.length+l[k].parts.length≤m:=by
 have h1:L.length=(L.map (·.1)).length:=by simp
 have:=Tm.size_le_sizes l k hk;simp only[Tm.size] at hm;rw[h1,h.list];simp only[List.length_cons,Tm.parts_length,Tm.partss_length];omega
theorem fX.next{w:World}{ok:Nat→Prop}{v:Int}{n:ByteArray}{l:List Tm}{a:Option Addr}{cap k:Nat}{L L2:List dS}{x x':Value}{wr w1 w2:World}(h:fX w ok v n l a cap k L x wr)(hk:k<l.length)
 (hL2:L2.map (·.1)=l[k].parts) (hE2:bW w1 (nB x ok) L2) (hb:Below wr.heap.size wr w1) (ho:w2.ownsRow (w.heap.size+1) 71 3 x' (L.length+l[k].parts.length) (dX L++dX L2)) (hg:w1.grownBy w2 x.ownBlock) (hf:cF w1 x x') :
 fX w ok v n l a cap (k+1) (L++L2) x' w2:=by
 have hbl:∀g,x.ownBlock=some g→w.heap.size+1≤g:=fun g hg=>(h.own.block hg).1
 refine⟨?_,(h.own.below hb).append hE2 ?_ hg hf,?_,(h.below.trans (hb.mono h.below.size)).grown hg (Nat.le_trans h.below.size hb.size) (fun g hg=>by have:=hbl g hg;omega),?_⟩
 ·rw[List.map_append,h.list,hL2,Tm.partss_take_succ l k hk];rfl
 ·have:L2.length=l[k].parts.length:=by rw[←hL2,List.length_map]
  rw[this];exact ho
 ·exact hg.cell ((hb.cell (p:=⟨w.heap.size,2,none⟩) (by have:=h.size;simp;omega)).trans h.box) (fun e=>by have:=hbl _ e.symm;simp at this;omega)
 ·have:=h.size;have:=hb.size;have:=hg.size;omega
theorem fX.finish{w:World}{ok:Nat→Prop}{v:Int}{n:ByteArray}{l:List Tm}{a:Option Addr}{cap k:Nat}{L:List dS}{x:Value}{wr:World}(h:fX w ok v n l a cap k L x wr)(hok:∀b,w.heap.size≤b→ok b)(hk:l.length≤k) :
 bJ7 w ok (Tm.mk v n l).parts (.returned x) wr:=by
 obtain⟨a',cap',rfl,ht⟩:=h.own.done (fun b hb=>hok b (by omega));have e:L.map (·.1)=(Tm.mk v n l).parts:=by rw[h.list,List.take_of_length_le hk];simp only[Tm.parts]
 rw[e] at ht ⊢;exact⟨a',cap',rfl,ht,h.below⟩
theorem bC8(t:Tm):∀(w:World) (ok:Nat→Prop) (a:Option Addr) (cap:Nat),t.size≤100000→(∀b,w.heap.size≤b→ok b)→t.fits→Ts w ok t.args a cap →
 Calls Try.prog 94 #[.agg #[.int .i64 t.var,.string t.name,.slice a t.args.length cap]] w (bJ7 w ok t.parts):=by
 induction t using Tm.ind with
 | h v n l ih =>
  intro w ok a cap hsz hok hfit hrd;have IH:=lh ih;clear ih;simp only[Tm.var,Tm.name,Tm.args] at hrd ⊢;have HRD:=lh hrd;have hcap:=hrd.cap;have hcl:l.length≤9223372036854775807:=by unfold maxLen at hcap;omega
  have HSZ:=lh hsz;have HFIT:=lh hfit;clear hcap hrd hsz hfit;go_enter Try.func94,Try.ntmps94;go_wp2_with fail
  go_loopw[3,4] (fun x3 x4 wr=>∃(k:Nat) (L:List dS),k≤l.length∧x4=.int .i64 k∧fX w ok v n l a cap k L x3 wr) (fun _ i _=>l.length-(intOf i).toNat)
  case atStart=>exact⟨0,[(.mk v n l,a,cap)],Nat.zero_le _,rfl,fX.start HFIT.out HRD.out⟩
  case round =>
   obtain⟨k,L,hk,rfl,hrel⟩:=hrel;have hbox:=hrel.box;by_cases hlt:k<l.length
   ·obtain⟨b,off,a',cap',rfl,hokb,hbs,hc,ht⟩:=HRD.out.at k hlt
    have hcv:=(hrel.below.cell (p:=⟨b,off+k*3,none⟩) hbs).trans hc.var;have hcn:=(hrel.below.cell (p:=⟨b,off+k*3+1,none⟩) hbs).trans hc.name;have hca:=(hrel.below.cell (p:=⟨b,off+k*3+2,none⟩) hbs).trans hc.args;have hmem:l[k]∈l:=List.getElem_mem hlt;have HC:=lh hc;clear hc;go_wp2_with fail;refine(IH.out _ hmem _ (nB u3 ok) a' cap' (Tm.size_arg HSZ.out k hlt) (hrel.own.newok (fun b hb=>hok b (Nat.le_trans hrel.below.size hb))) HC.out.fits ((ht.mono (hrel.own.old (by omega))).keep (aD.below hrel.below _))).mono ?_;rintro e w' ⟨a2,cap2,rfl,hts,hb'⟩;obtain⟨ad,rfl⟩:∃ad,a2=some ad:=hts.some (by rw[Tm.parts_length];exact Tm.size_pos _);obtain⟨L2,hL2,hE2,hc2⟩:=hts.open;obtain⟨i0,hi,hz0,hz1,hz2⟩:=info_parts Try.infoTm;have hlen:L2.length=l[k].parts.length:=by rw[←hL2,List.length_map]
    have HLEN:=lh hlen;have hown:=aH hrel.own.own hb';have hrel2:=hrel.size;have hbnd:=hrel.bound HSZ.out hlt;clear hlen;go_wp2_with (at_builtin;refine aR _ rfl _ _ 48 rfl (w.heap.size+1) 71 i0 _ 3 48 Try.underlying48 hi hz0 hz1 hz2 rfl (by decide) _ _ _ rfl hown ad _ cap2 (dX L2) rfl (by rw[eG,HLEN.out]) (hc2 ad rfl) (kU L2) ?c3 ?c4 ?c5 ?_)
    ·unfold maxLen;omega
    ·omega
    ·have:=hb'.size;omega
    ·intro v' w1 hown1 hgrow hfr
     have hnext:=lh (hrel.next hlt hL2 hE2 hb' hown1 hgrow hfr);go_wp2_with fail;go_roundw
     case rel=>exact⟨k+1,_,by omega,by go_num,hnext.out⟩
     case measure=>simp[intOf];omega
   ·go_wp2_with fail
    go_ret;exact hrel.finish hok (by omega)
theorem vU(l:List Tm)(k m s:Nat)(v:Int)(n:ByteArray)(h:s=min (1+Tm.sizes (l.take k)) (m+1))(hb:m<s):s=min (Tm.mk v n l).size (m+1):=by
 have:=Tm.sizes_take_le l k;simp only[Tm.size];omega
theorem aI3(l:List Tm)(k m s:Nat)(v:Int)(n:ByteArray)(h:s=min (1+Tm.sizes (l.take k)) (m+1))(hb:l.length≤k):s=min (Tm.mk v n l).size (m+1):=by
 rw[List.take_of_length_le hb] at h;simp only[Tm.size];omega
theorem bJ9(t:Tm):∀(m:Int) (w:World) (ok:Nat→Prop) (a:Option Addr) (cap:Nat),0≤m→m≤1000→Ts w ok t.args a cap →
 Calls Try.prog 97 #[.agg #[.int .i64 t.var,.string t.name,.slice a t.args.length cap],.int .i64 m] w fun e w'=>e=.returned (.int .i64 (min t.size (m.toNat+1):Nat))∧Below w.heap.size w w':=by
 induction t using Tm.ind with
 | h v n l ih =>
  intro m w ok a cap hm0 hm hrd;obtain⟨m,rfl⟩:=Int.eq_ofNat_of_zero_le hm0;have IH:=lh ih;clear ih;simp only[Tm.var,Tm.name,Tm.args] at hrd ⊢;have HRD:=lh hrd;have hcap:=hrd.cap;have hcl:l.length≤9223372036854775807:=by unfold maxLen at hcap;omega
  clear hcap hrd;go_enter Try.func97,Try.ntmps97;go_wp2_with fail
  go_loopw[5,11] (fun x i wr=>∃(k s:Nat),k≤l.length∧i=.int .i64 k∧x=.int .i64 s∧1≤s∧s≤m+1∧Hid (s=min (1+Tm.sizes (l.take k)) (m+1))∧Below w.heap.size w wr∧w.heap.size<wr.heap.size) (fun _ i _=>l.length-(intOf i).toNat)
  case atStart=>exact⟨0,1,Nat.zero_le _,rfl,rfl,by omega,by omega,lh (by simp[Tm.sizes]),(bR _ _).alloc (nR _) _,by simp⟩
  case round =>
   obtain⟨k,s,hk,rfl,rfl,hs1,hs2,HS,hb,hsz⟩:=hrel;by_cases hlt:k<l.length
   ·obtain⟨b,off,a',cap',rfl,hok,hbs,hc,ht⟩:=HRD.out.at k hlt
    have hcv:=(hb.cell (p:=⟨b,off+k*3,none⟩) hbs).trans hc.var;have hcn:=(hb.cell (p:=⟨b,off+k*3+1,none⟩) hbs).trans hc.name;have hca:=(hb.cell (p:=⟨b,off+k*3+2,none⟩) hbs).trans hc.args;have hmem:l[k]∈l:=List.getElem_mem hlt;clear hc;by_cases hbr:m<s
    ·go_wp2_with fail
     go_ret;refine⟨?_,hb.alloc (Nat.le_of_lt hsz) _⟩;exact cJ (vU l k m s v n HS.out hbr)
    ·go_wp2_with fail
     refine(IH.out _ hmem _ _ ok a' cap' (by omega) (by omega) (ht.keep ((aD.below hb ok).trans (aD.below ((bR _ _).alloc (nR _) _) ok)))).mono ?_;rintro e w' ⟨rfl,hb'⟩;go_wp2_with fail;go_roundw
     case rel=>exact⟨k+1,s+min l[k].size (m-s+1),by omega,by go_num,by go_num,by omega,by omega,lh (by rw[HS.out,Tm.sizes_take_succ l k hlt];rw[HS.out] at hbr;omega),(hb.alloc (Nat.le_of_lt hsz) _).trans (hb'.mono (by simp;omega)),by have:=hb'.size;simp at this;omega⟩
     case measure=>simp[intOf];omega
   ·go_wp2_with fail
    go_ret;refine⟨?_,hb⟩;exact cJ (aI3 l k m s v n HS.out (by omega))
theorem aP7(t:Tm):∀(m:Int) (w:World) (ok:Nat→Prop) (a:Option Addr) (cap:Nat),0≤m→m≤1000→Ts w ok t.args a cap →
 Calls Try.prog 93 #[.agg #[.int .i64 t.var,.string t.name,.slice a t.args.length cap],.int .i64 m] w fun e w'=>e=.returned (.int .i64 (min t.size (m.toNat+1):Nat))∧Below w.heap.size w w':=by
 induction t using Tm.ind with
 | h v n l ih =>
  intro m w ok a cap hm0 hm hrd;obtain⟨m,rfl⟩:=Int.eq_ofNat_of_zero_le hm0;have IH:=lh ih;clear ih;simp only[Tm.var,Tm.name,Tm.args] at hrd ⊢;have HRD:=lh hrd;have hcap:=hrd.cap;have hcl:l.length≤9223372036854775807:=by unfold maxLen at hcap;omega
  clear hcap hrd;go_enter Try.func93,Try.ntmps93;go_wp2_with fail
  go_loopw[5,6] (fun x i wr=>∃(k s:Nat),k≤l.length∧i=.int .i64 k∧x=.int .i64 s∧1≤s∧s≤m+1∧Hid (s=min (1+Tm.sizes (l.take k)) (m+1))∧Below w.heap.size w wr∧w.heap.size<wr.heap.size∧wr.cell? ⟨w.heap.size,2,none⟩=some (.slice a l.length cap)) (fun _ i _=>l.length-(intOf i).toNat)
  case atStart=>exact⟨0,1,Nat.zero_le _,rfl,rfl,by omega,by omega,lh (by simp[Tm.sizes]),(bR _ _).alloc (nR _) _,by simp,by simp[World.cell?,World.alloc,-World.alloc_eq]⟩
  case round =>
   obtain⟨k,s,hk,rfl,rfl,hs1,hs2,HS,hb,hsz,hbox⟩:=hrel;by_cases hlt:k<l.length
   ·obtain⟨b,off,a',cap',rfl,hok,hbs,hc,ht⟩:=HRD.out.at k hlt
    have hcv:=(hb.cell (p:=⟨b,off+k*3,none⟩) hbs).trans hc.var;have hcn:=(hb.cell (p:=⟨b,off+k*3+1,none⟩) hbs).trans hc.name;have hca:=(hb.cell (p:=⟨b,off+k*3+2,none⟩) hbs).trans hc.args;have hmem:l[k]∈l:=List.getElem_mem hlt;clear hc;by_cases hbr:m<s
    ·go_wp2_with fail
     go_ret;exact⟨cJ (vU l k m s v n HS.out hbr),hb⟩
    ·go_wp2_with fail
     refine(IH.out _ hmem _ _ ok a' cap' (by omega) (by omega) (ht.keep (aD.below hb ok))).mono ?_;rintro e w' ⟨rfl,hb'⟩;have hbox':=(hb'.cell (p:=⟨w.heap.size,2,none⟩) (by simp;omega)).trans hbox;go_wp2_with fail;go_roundw
     case rel=>exact⟨k+1,s+min l[k].size (m-s+1),by omega,by go_num,by go_num,by omega,by omega,lh (by rw[HS.out,Tm.sizes_take_succ l k hlt];rw[HS.out] at hbr;omega),hb.trans (hb'.mono (by omega)),by have:=hb'.size;omega,hbox'⟩
     case measure=>simp[intOf];omega
   ·go_wp2_with fail
    all_goals (go_ret;exact⟨cJ (aI3 l k m s v n HS.out (by omega)),hb⟩)
end Go.Proofs.Ytikmgiapjigghab
