/- Walk: the reference's LiveOf. -/
import Derived.Test.YtikmgiapjigghabQc26
import Derived.Test.YtikmgiapjigghabQc27
import Derived.Test.YtikmgiapjigghabQc33
set_option maxRecDepth 100000
set_option maxHeartbeats 8000000
namespace Go.Proofs.Ytikmgiapjigghab
open Go.RowKit
structure LoS(U:World)(g:Nat)(H:List HC)(R:Nat→Prop)(o0 out:List Bool)(ch:Bool)(wr:World):Prop where
 ob:wr.heap[g]? = some (.cells (out.map Value.bool).toArray 4 (0,0))
 len:out.length=H.length
 sound:∀i:Nat,out[i]? = some true→gK H R i
 more:∀i:Nat,o0[i]? = some true→out[i]? = some true
 chg:ch=true→out.countP (· = false)<o0.countP (· = false)
 same:ch=false→out=o0
 touch:aA (fun b=>b=g) U wr
theorem fR{l:List Bool}{x i:Nat}(hx:x<l.length):(l.set x true)[i]? = some true↔i=x∨l[i]? = some true:=by
 rw[List.getElem?_set];by_cases e:x=i
 ·rw[if_pos e,if_pos (by omega)];simp[e]
 ·rw[if_neg e]
  exact⟨.inr,fun h=>h.elim (fun h=>absurd h.symm e) id⟩
theorem LoS.cells{U:World}{g:Nat}{H:List HC}{R:Nat→Prop}{o0 out:List Bool}{ch:Bool}{wr:World}(h:LoS U g H R o0 out ch wr):(∀i (hi:i<out.length),wr.cell? ⟨g,i,none⟩=some (.bool out[i]))∧∀o,wr.frozen? ⟨g,o,none⟩=false:=by
 have ho:=h.ob;exact⟨fun i hi=>by simp[World.cell?,ho,hi],fun o=>by simp[World.frozen?,ho]⟩
theorem LoS.set{U:World}{g:Nat}{H:List HC}{R:Nat→Prop}{o0 out:List Bool}{ch:Bool}{wr:World}(h:LoS U g H R o0 out ch wr){x:Nat}(hx:x<H.length)(hl:gK H R x)(hn:out[x]?≠some true):LoS U g H R o0 (out.set x true) true (wr.setCell ⟨g,x,none⟩ (.bool true)):=by
 have hx':x<out.length:=by rw[h.len];exact hx
 refine⟨?_,by simp[h.len],fun i hi=>?_,fun i hi=>(fR hx').2 (.inr (h.more i hi)),fun _=>?_,(fun e=>by cases e),h.touch.trans (aA.setCell _ rfl)⟩
 ·rw[aB wr g x _ h.ob];simp[List.map_set]
 ·rcases (fR hx').1 hi with rfl|hi
  ·exact hl
  ·exact h.sound i hi
 ·have h1:=tM hx' hn
  cases ch with
  | true=>have:=h.chg rfl;omega
  | false=>have:=h.same rfl;rw[this] at h1 ⊢;omega
theorem LoS.keep{U:World}{g:Nat}{H:List HC}{R:Nat→Prop}{o0 out:List Bool}{ch:Bool}{wr wr':World}(h:LoS U g H R o0 out ch wr)(hb:Below wr.heap.size wr wr'):LoS U g H R o0 out ch wr' :=
 ⟨(hb.block g (gS h.ob).1).trans h.ob,h.len,h.sound,h.more,h.chg,h.same,h.touch.trans (aA.below hb)⟩
structure LoR(U:World)(g:Nat)(H:List HC)(R:Nat→Prop)(out:List Bool)(wr:World):Prop where
 ob:wr.heap[g]? = some (.cells (out.map Value.bool).toArray 4 (0,0))
 len:out.length=H.length
 sound:∀i:Nat,out[i]? = some true→gK H R i
 touch:aA (fun b=>b=g) U wr
theorem LoR.cells{U:World}{g:Nat}{H:List HC}{R:Nat→Prop}{out:List Bool}{wr:World}(h:LoR U g H R out wr):(∀i (hi:i<out.length),wr.cell? ⟨g,i,none⟩=some (.bool out[i]))∧∀o,wr.frozen? ⟨g,o,none⟩=false:=by
 have ho:=h.ob;exact⟨fun i hi=>by simp[World.cell?,ho,hi],fun o=>by simp[World.frozen?,ho]⟩
theorem LoR.set{U:World}{g:Nat}{H:List HC}{R:Nat→Prop}{out:List Bool}{wr:World}(h:LoR U g H R out wr){x:Nat}(hx:x<H.length)(hl:gK H R x):LoR U g H R (out.set x true) (wr.setCell ⟨g,x,none⟩ (.bool true)):=by
 have hx':x<out.length:=by rw[h.len];exact hx
 refine⟨?_,by simp[h.len],fun i hi=>?_,h.touch.trans (aA.setCell _ rfl)⟩
 ·rw[aB wr g x _ h.ob];simp[List.map_set]
 ·rcases (fR hx').1 hi with rfl|hi
  ·exact hl
  ·exact h.sound i hi
theorem LoR.end'{U:World}{g:Nat}{H:List HC}{R:Nat→Prop}{out:List Bool}{wr:World}(h:LoR U g H R out wr)(hr:∀i,R i→out[i]? = some true)(hc:∀j,out[j]? = some true→∀k,k∈leads H j→out[k]? = some true):out=dU H R :=
 aB2 (s:=(out,[])) ⟨h.len,h.sound,fun _ hi=>nomatch hi⟩ (fun i hi=>.inr (.inr (hc i hi))) hr rfl
theorem LoR.pass{U:World}{g:Nat}{H:List HC}{R:Nat→Prop}{out:List Bool}{wr:World}(h:LoR U g H R out wr):LoS U g H R out out false wr:=⟨h.ob,h.len,h.sound,fun _ h=>h,(fun e=>by cases e),fun _=>rfl,h.touch⟩
theorem LoS.passed{U:World}{g:Nat}{H:List HC}{R:Nat→Prop}{o0 out:List Bool}{ch:Bool}{wr:World}(h:LoS U g H R o0 out ch wr):LoR U g H R out wr:=⟨h.ob,h.len,h.sound,h.touch⟩
def bI9(H:List HC)(ch:Bool)(out:List Bool)(i:Nat):Prop:=ch=false→∀j,j<i→out[j]? = some true→∀k,k∈leads H j→out[k]? = some true
theorem aN1(m:Mac)(d:MAd){w:World}{ok:Nat→Prop}(h:bO w ok m d)(hK:dK m.H)(hT:fV m)(hlen:m.H.length≤400000)(hG:m.G.length≤5000)(hQ:m.Q.length≤12) :
 Calls Try.prog 15 #[.agg #[.slice d.h m.H.length d.hn,.slice d.g m.G.length d.gn,.int .i64 m.first,.slice d.c m.ch.length d.cn,.slice d.t m.T.length d.tn,.slice d.q m.Q.length d.qn,.int .i64 m.steps,.int .i64 m.fin,.slice d.a m.ans.length d.an]] w (aB7 w (dU m.H (bX m.G m.Q))):=by
 have HM:Hid (bO w (fun b=>b<w.heap.size) m d):=lh (h.mono fun b hb _=>hb);have HK:=lh hK;have HT:=lh hT;have hq9:m.Q.length≤9223372036854775807:=by omega
 have hg9:m.G.length≤9223372036854775807:=by omega
 have hh9:m.H.length≤9223372036854775807:=by omega
 clear h hK hT;obtain⟨dh,dg,dc,dt,dq,da,dhn,dgn,dcn,dtn,dqn,dan⟩:=d;simp only;have hmk:=fun u=>tT u m.H.length (by omega)
 obtain⟨U,hU⟩:∃U,U=((w.alloc (.cells #[.slice dh m.H.length dhn,.slice dg m.G.length dgn,.int .i64 m.first,.slice dc m.ch.length dcn,.slice dt m.T.length dtn,.slice dq m.Q.length dqn,.int .i64 m.steps,.int .i64 m.fin,.slice da m.ans.length dan] 30)).alloc (.cells (Array.replicate m.H.length (.bool false)) 4)):=⟨_,rfl⟩
 have hs1:(w.alloc (.cells #[.slice dh m.H.length dhn,.slice dg m.G.length dgn,.int .i64 m.first,.slice dc m.ch.length dcn,.slice dt m.T.length dtn,.slice dq m.Q.length dqn,.int .i64 m.steps,.int .i64 m.fin,.slice da m.ans.length dan] 30)).heap.size=w.heap.size+1:=by simp
 have HU0:Hid (Below w.heap.size w U):=lh (by rw[hU];exact((bR _ _).alloc (nR _) _).alloc (by omega) _);have HUS:Hid (U.heap.size=w.heap.size+2):=lh (by rw[hU];simp);have HX:Hid (cL U w.heap.size m ⟨dh,dg,dc,dt,dq,da,dhn,dgn,dcn,dtn,dqn,dan⟩):=lh ⟨by rw[hU,Below.heap_alloc _ _ _ (by omega)];exact World.alloc_heap_new _ _⟩;have HR0:Hid (LoR U (w.heap.size+1) m.H (bX m.G m.Q) (List.replicate m.H.length false) U):=lh ⟨by rw[hU,←hs1,World.alloc_heap_new];simp[List.map_replicate],by simp,(LvI.start m.H _).sound,aA.refl _ _⟩;clear hs1;go_enter Try.func15,Try.ntmps15;go_wp2_with fail;rw[←hU];clear hU
 go_loopw[4] (fun x4 wr=>∃(i:Nat) (out:List Bool),i≤m.Q.length∧x4=.int .i64 i∧Hid (LoR U (w.heap.size+1) m.H (bX m.G m.Q) out wr)∧Hid (∀j (hj:j<m.Q.length),j<i→out[m.Q[j].toNat]? = some true)) (fun x4 _=>m.Q.length-(intOf x4).toNat)
 case atStart=>exact⟨0,_,Nat.zero_le _,rfl,HR0,lh fun j _ h=>absurd h (Nat.not_lt_zero j)⟩
 case round =>
  rename World=>wr
  obtain⟨i,out,hi,rfl,HL,HR⟩:=hrel;have HTR:=lh HL.out.touch;have HBW:Hid (Below w.heap.size w wr):=lh (HU0.out.trans (HTR.out.toBelow HU0.out.size fun b e=>by omega));obtain⟨x0,x1,x2,x3,x4,x5,x6,x7,x8,-⟩:=(HX.out.keep (HTR.out.block _ HX.out.lt (by omega))).all;by_cases hlt:i<m.Q.length
  ·obtain⟨b,off,hdq,hbk,hb,c0⟩:=HM.out.q.at' i hlt
   have hdq':dq=some ⟨b,off,none⟩:=hdq;clear hdq;subst hdq';have y0:=(HBW.out.cell (p:=⟨b,off+i,none⟩) hbk).trans c0;obtain⟨q1,q2⟩:=HT.out.query _ (List.getElem_mem hlt);obtain⟨q,hq⟩:∃q:Nat,m.Q[i]=(q:Int):=⟨m.Q[i].toNat,by omega⟩
   have HQ:=lh hq;have hql:q<m.H.length:=by omega
   have HRT:Hid (gK m.H (bX m.G m.Q) q):=lh (.root (.inl (by rw[←hq];exact List.getElem_mem hlt)));rw[hq] at y0;have HQL:=lh hql;have hol:q<out.length:=by rw[HL.out.len];exact hql
   obtain⟨tv,z0⟩:∃v,wr.cell? ⟨w.heap.size+1,q,none⟩=some v:=⟨_,HL.out.cells.1 q hol⟩
   have z1:=HL.out.cells.2 q;clear q1 q2 hq c0 hol;go_wp2_with fail;refine⟨?rel,?measure⟩
   case measure=>simp only[intOf];omega
   case rel =>
    have hx:q<out.length:=by rw[HL.out.len];exact HQL.out
    refine⟨i+1,out.set q true,by omega,by go_num,lh (HL.out.set HQL.out HRT.out),lh fun j hj h=>?_⟩;by_cases e:j=i
    ·subst e;rw[HQ.out,Int.toNat_natCast];exact(fR hx).2 (.inl rfl)
    ·exact(fR hx).2 (.inr (HR.out j hj (by omega)))
  ·have HRQ:Hid (∀x,x∈m.Q→out[x.toNat]? = some true):=lh fun x hx=>by
    obtain⟨j,hj,rfl⟩:=List.getElem_of_mem hx;exact HR.out j hj (by omega)
   clear HR;go_wp2_with fail
   go_loopw[5] (fun x5 wr=>∃(i:Nat) (out:List Bool),i≤m.G.length∧x5=.int .i64 i∧Hid (LoR U (w.heap.size+1) m.H (bX m.G m.Q) out wr)∧Hid (∀x,x∈m.Q→out[x.toNat]? = some true)∧Hid (∀j (hj:j<m.G.length),j<i→out[m.G[j].at'.toNat]? = some true)) (fun x5 _=>m.G.length-(intOf x5).toNat)
   case atStart=>exact⟨0,_,Nat.zero_le _,rfl,HL,HRQ,lh fun j _ h=>absurd h (Nat.not_lt_zero j)⟩
   case round =>
    rename World=>wr2
    obtain⟨i2,out2,hi2,rfl,HL2,HRQ2,HR2⟩:=hrel;have HTR2:=lh HL2.out.touch;have HBW2:Hid (Below w.heap.size w wr2):=lh (HU0.out.trans (HTR2.out.toBelow HU0.out.size fun b e=>by omega));clear x0 x1 x2 x3 x4 x5 x6 x7 x8 HL HRQ HTR HBW;obtain⟨x0,x1,x2,x3,x4,x5,x6,x7,x8,-⟩:=(HX.out.keep (HTR2.out.block _ HX.out.lt (by omega))).all;by_cases hlt2:i2<m.G.length
    ·obtain⟨b,off,hdg,hbk,hb,hcs⟩:=HM.out.g.some (by decide) (by omega)
     have hdg':dg=some ⟨b,off,none⟩:=hdg;clear hdg;subst hdg';obtain⟨g0,g1,g2⟩:=fU m.G i2 hlt2;have m0:=(HBW2.out.cell (p:=⟨b,off+i2*3,none⟩) hb).trans (hcs _ _ g0);obtain⟨q1,q2⟩:=HT.out.goals _ (List.getElem_mem hlt2);obtain⟨q,hq⟩:∃q:Nat,m.G[i2].at'=(q:Int):=⟨m.G[i2].at'.toNat,by omega⟩
     have HQ:=lh hq;have hql:q<m.H.length:=by omega
     have HRT:Hid (gK m.H (bX m.G m.Q) q):=lh (.root (.inr ⟨_,List.getElem_mem hlt2,hq⟩));rw[hq] at m0;have HQL:=lh hql;have hol:q<out2.length:=by rw[HL2.out.len];exact hql
     obtain⟨tv,z0⟩:∃v,wr2.cell? ⟨w.heap.size+1,q,none⟩=some v:=⟨_,HL2.out.cells.1 q hol⟩
     have z1:=HL2.out.cells.2 q;clear q1 q2 hq hol g0 g1 g2 hcs;go_wp2_with fail;refine⟨?rel,?measure⟩
     case measure=>simp only[intOf];omega
     case rel =>
      have hx:q<out2.length:=by rw[HL2.out.len];exact HQL.out
      refine⟨i2+1,out2.set q true,by omega,by go_num,lh (HL2.out.set HQL.out HRT.out),lh fun x h=>(fR hx).2 (.inr (HRQ2.out x h)),lh fun j hj h=>?_⟩;by_cases e:j=i2
      ·subst e;rw[HQ.out,Int.toNat_natCast];exact(fR hx).2 (.inl rfl)
      ·exact(fR hx).2 (.inr (HR2.out j hj (by omega)))
    ·have HRA:Hid (∀i,bX m.G m.Q i→out2[i]? = some true):=lh fun i hr=>by
      rcases hr with hr|⟨g,hg,he⟩
      ·exact HRQ2.out _ hr
      ·obtain⟨j,hj,rfl⟩:=List.getElem_of_mem hg
       have:=HR2.out j hj (by omega);rw[he,Int.toNat_natCast] at this;exact this
     clear HR2 HRQ2;go_wp2_with fail;clear x0 x1 x2 x3 x4 x5 x6 x7 x8
     go_loopg [6] (2*out2.countP (· = false)+1) (fun gk x6 wr=>∃(ch:Bool) (out:List Bool),Hid (gk=2*out.countP (· = false)+(if ch=true then 1 else 0))∧x6=.bool ch∧Hid (LoR U (w.heap.size+1) m.H (bX m.G m.Q) out wr)∧Hid (∀i,bX m.G m.Q i→out[i]? = some true)∧Hid (bI9 m.H ch out m.H.length))
     case atStart=>exact⟨true,out2,lh rfl,rfl,HL2,HRA,lh fun e=>by cases e⟩
     case round =>
      rename World=>wr3
      obtain⟨ch,o3,HG,rfl,HL3,HR3,HS3⟩:=hrel;clear HL2 HRA HTR2 HBW2;cases ch with
      | false =>
       have HLL:Hid (o3=dU m.H (bX m.G m.Q)):=lh (HL3.out.end' HR3.out fun j hj k hk=>HS3.out rfl j (by have:=(List.getElem?_eq_some_iff.1 hj).1;have:=HL3.out.len;omega) hj k hk);go_wp2_with fail;go_ret;refine⟨w.heap.size+1,?_,by omega,?_,?_⟩
       ·rw[kD];rfl
       ·rw[←HLL.out];exact HL3.out.ob
       ·exact HU0.out.trans (HL3.out.touch.toBelow HU0.out.size fun b e=>by omega)
      | true =>
       have HLS:Hid (LoS U (w.heap.size+1) m.H (bX m.G m.Q) o3 o3 false wr3):=lh HL3.out.pass;clear HL3 HS3;go_wp2_with fail
       go_loopw[6,7] (fun x6 x7 wr=>∃(ch:Bool) (i:Nat) (out:List Bool),i≤m.H.length∧x6=.bool ch∧x7=.int .i64 i∧Hid (LoS U (w.heap.size+1) m.H (bX m.G m.Q) o3 out ch wr)∧Hid (bI9 m.H ch out i)) (fun _ x7 _=>m.H.length-(intOf x7).toNat)
       case atStart=>exact⟨false,0,o3,Nat.zero_le _,rfl,rfl,HLS,lh fun _ j h=>absurd h (Nat.not_lt_zero j)⟩
       case round =>
        rename World=>wr4
        obtain⟨ch,i4,o4,hi4,rfl,rfl,HL4,HS4⟩:=hrel;clear HLS;have HTR4:=lh HL4.out.touch;have HBW4:Hid (Below w.heap.size w wr4):=lh (HU0.out.trans (HTR4.out.toBelow HU0.out.size fun b e=>by omega));obtain⟨x0,x1,x2,x3,x4,x5,x6,x7,x8,-⟩:=(HX.out.keep (HTR4.out.block _ HX.out.lt (by omega))).all;by_cases hlt4:i4<m.H.length
        ·have hol:i4<o4.length:=by rw[HL4.out.len];exact hlt4
         have z0:=HL4.out.cells.1 i4 hol;have HOA:Hid (o4[i4]? = some o4[i4]):=lh (List.getElem?_eq_getElem hol);obtain⟨tv,htv⟩:∃tv,o4[i4]=tv:=⟨_,rfl⟩
         rw[htv] at z0 HOA;clear htv;cases tv with
         | false =>
          go_wp2_with fail;refine⟨?rel,?measure⟩
          case measure=>simp only[intOf];omega
          case rel =>
           refine⟨ch,i4+1,o4,by omega,rfl,by go_num,HL4,lh fun hc j hj hjt=>?_⟩;by_cases e:j=i4
           ·subst e;rw[HOA.out] at hjt;cases hjt
           ·exact HS4.out hc j (by omega) hjt
         | true =>
          have HLD:=lh (aD0 (HM.out.h.below HBW4.out) HK.out hlen hlt4);have HLT:=lh (fun j hj=>iF HK.out i4 hlt4 j hj);have HL5:=lh (kE (HK.out i4 hlt4));go_wp2_with (go_at_call 38;refine HLD.out.mono ?_;rintro e w1 ⟨hb1,al,cl,rfl,hia⟩;have HIA:=lh hia;have HB1:=lh hb1;clear hia hb1);have HLB:Hid (LoS U (w.heap.size+1) m.H (bX m.G m.Q) o3 o4 ch w1):=lh (HL4.out.keep HB1.out);have hUS:=HUS.out;have hw4:w.heap.size+2≤wr4.heap.size:=by have:=HTR4.out.size;omega
          generalize hLL:leads m.H i4=LL at *;have HLQ:=lh hLL;clear hLL;obtain⟨okL,hokL⟩:∃okL:Nat→Prop,okL=(fun b=>wr4.heap.size≤b):=⟨_,rfl⟩
          have HOK:Hid (∀b,okL b→w.heap.size+2≤b):=lh fun b hb=>by rw[hokL] at hb;exact Nat.le_trans hw4 hb
          rw[←hokL] at HIA;have hl5:=HL5.out;clear x0 x1 x2 x3 x4 x5 x6 x7 x8 hokL hw4 hUS HL5 HLD HBW4 HTR4 z0 hol
          go_loopw[6,9] (fun x6 x9 wz=>∃(c5:Bool) (k:Nat) (out:List Bool),k≤LL.length∧x6=.bool c5∧x9=.int .i64 k∧Hid (LoS U (w.heap.size+1) m.H (bX m.G m.Q) o3 out c5 wz)∧Hid (dC wz okL (LL.map fun v:Nat=>(v:Int)) al cl)∧Hid (∀j:Nat,o4[j]? = some true→out[j]? = some true)∧Hid (c5=false→ch=false∧out=o4)∧Hid (∀j (hj:j<LL.length),j<k→out[LL[j]]? = some true)) (fun _ x9 _=>LL.length-(intOf x9).toNat)
          case atStart=>exact⟨ch,0,o4,Nat.zero_le _,rfl,rfl,HLB,HIA,lh fun _ h=>h,lh fun h=>⟨h,rfl⟩,lh fun j _ h=>absurd h (Nat.not_lt_zero j)⟩
          case round =>
           rename World=>wr5
           obtain⟨c5,k,o5,hk,rfl,rfl,HL6,HIL,HMO,HCE,HPR⟩:=hrel;clear HLB HIA;by_cases hkl:k<LL.length
           ·obtain⟨bl,ol,hal,hokl,hbl,hcl1⟩:=HIL.out.at' k (by simpa using hkl)
            subst hal;have htn:LL[k]<m.H.length:=HLT.out _ (List.getElem_mem hkl);obtain⟨t,ht⟩:∃t,LL[k]=t:=⟨_,rfl⟩
            simp only[List.getElem_map] at hcl1;rw[ht] at hcl1 htn;have HT5:=lh ht;have HTM:Hid (t∈leads m.H i4):=lh (by rw[HLQ.out,←ht];exact List.getElem_mem hkl);have hot:t<o5.length:=by rw[HL6.out.len];exact htn
            have z0:=HL6.out.cells.1 t hot;have z1:=HL6.out.cells.2 t;have HTN:=lh htn;have HOT:Hid (o5[t]? = some o5[t]):=lh (List.getElem?_eq_getElem hot);obtain⟨tv,htv⟩:∃tv,o5[t]=tv:=⟨_,rfl⟩
            rw[htv] at z0 HOT;have HKL:=lh hokl;clear htv ht hokl;cases tv with
            | true =>
             go_wp2_with fail;refine⟨?rel,?measure⟩
             case measure=>simp only[intOf];omega
             case rel =>
              refine⟨c5,k+1,o5,by omega,rfl,by go_num,HL6,HIL,HMO,HCE,lh fun j hj h=>?_⟩;by_cases e:j=k
              ·subst e;rw[HT5.out];exact HOT.out
              ·exact HPR.out j hj (by omega)
            | false =>
             go_wp2_with fail;refine⟨?rel,?measure⟩
             case measure=>simp only[intOf];omega
             case rel =>
              have hx:t<o5.length:=by rw[HL6.out.len];exact HTN.out
              refine⟨true,k+1,o5.set t true,by omega,rfl,by go_num,lh (HL6.out.set HTN.out (.lead (HL4.out.sound i4 HOA.out) HTM.out) (by rw[HOT.out];exact fun h=>nomatch h)),lh (HIL.out.keep ⟨by simp[World.setCell],fun b hb _=>Below.heap_setCell _ _ _ _ (by have:=HOK.out b hb;show b≠w.heap.size+1;omega)⟩),lh fun j hj=>(fR hx).2 (.inr (HMO.out j hj)),lh (fun h=>nomatch h),lh fun j hj h=>?_⟩;by_cases e:j=k
              ·subst e;rw[HT5.out];exact(fR hx).2 (.inl rfl)
              ·exact(fR hx).2 (.inr (HPR.out j hj (by omega)))
           ·--BEGIN E5
            go_wp2_with fail;refine⟨?rel,?measure⟩
            case measure=>simp only[intOf];omega
            case rel =>
             refine⟨c5,i4+1,o5,by omega,rfl,by go_num,HL6,lh fun hc j hj hjt x hx=>?_⟩;obtain⟨hch,he⟩:=HCE.out hc;by_cases e:j=i4
             ·subst e
              rw[HLQ.out] at hx;obtain⟨n,hn,rfl⟩:=List.getElem_of_mem hx;exact HPR.out n hn (by omega)
             ·rw[he] at hjt ⊢
              exact HS4.out hch j (by omega) hjt x hx
        ·--BEGIN E4
         go_wp2_with fail
         go_roundg (2*o4.countP (· = false)+(if ch=true then 1 else 0))
         case measure =>
          have hg:=HG.out;simp only[if_true] at hg;cases ch with
          | true=>have:=HL4.out.chg rfl;simp only[if_true];omega
          | false=>have:=HL4.out.same rfl;rw[this];simp only[Bool.false_eq_true,if_false];omega
         case rel =>
          refine⟨ch,o4,lh rfl,rfl,lh HL4.out.passed,lh fun i hi=>HL4.out.more i (HR3.out i hi),lh fun hc j hj=>HS4.out hc j (by omega)⟩
theorem bK1(l:List Bool){w:World}{g n:Nat}(hb:w.heap[g]? = some (.cells (l.map Value.bool).toArray 4 (0,0)))(hn:n≤l.length)(hl:l.length≤400000) :
 Calls Try.prog 39 #[.slice (some ⟨g,0,none⟩) l.length l.length,.int .i64 (n:Nat)] w (fun e w'=>e=.returned (.int .i64 (aO l n:Nat))∧w'=w):=by
 have HB:=lh hb;have hn9:n≤400000:=by omega
 clear hb;go_enter Try.func39,Try.ntmps39;go_wp2_with fail
 go_loopw[5,6] (fun x5 x6 wr=>∃k:Nat,k≤n∧x5=.int .i64 (aO l k:Nat)∧x6=.int .i64 k∧wr=w) (fun _ x6 _=>n-(intOf x6).toNat)
 case atStart=>exact⟨0,Nat.zero_le _,by rw[oO];rfl,rfl,rfl⟩
 case round =>
  rename World=>wr
  obtain⟨k,hk,rfl,rfl,hwr⟩:=hrel;have hwr':=hwr.symm;clear hwr;subst hwr';have hsl:=pP l k;by_cases hlt:k<n
  ·have hkl:k<l.length:=by omega
   have HS:=lh (oN hkl);have z0:w.cell? ⟨g,k,none⟩=some (.bool l[k]):=by
    have:=HB.out;simp[World.cell?,this,hkl]
   obtain⟨tv,htv⟩:∃tv,l[k]=tv:=⟨_,rfl⟩
   rw[htv] at z0 HS;clear htv;generalize aO l k=sk at *;cases tv with
   | true =>
    go_wp2_with fail;refine⟨?rel,?measure⟩
    case measure=>simp only[intOf];omega
    case rel =>
     have h:=HS.out;rw[if_pos rfl] at h;exact⟨k+1,by omega,by rw[h];go_num,by go_num,trivial⟩
   | false =>
    go_wp2_with fail;refine⟨?rel,?measure⟩
    case measure=>simp only[intOf];omega
    case rel =>
     have h:=HS.out;rw[if_neg (by decide)] at h;exact⟨k+1,by omega,by rw[h];go_num,by go_num,trivial⟩
  ·have:k=n:=by omega
   subst this;go_wp2_with fail;go_ret;exact⟨rfl,rfl⟩
theorem aB9(M:Mac)(D:MAd):BxV (M.vals D).toArray 0 M D:=⟨rfl,rfl,rfl,rfl,rfl,rfl,rfl,rfl,rfl⟩
theorem RwS.all0{w:World}{B:Nat}{ty:TypeId}{d:MAd}{wr:World}{R:List bC}{M:Mac}{D:MAd}(h:RwS w B (M.vals D).toArray ty d wr R) :
 wr.cell? ⟨B,0,none⟩=some (.slice D.h M.H.length D.hn)∧wr.cell? ⟨B,1,none⟩=some (.slice D.g M.G.length D.gn)∧wr.cell? ⟨B,2,none⟩=some (.int .i64 M.first)∧wr.cell? ⟨B,3,none⟩=some (.slice D.c M.ch.length D.cn)∧wr.cell? ⟨B,4,none⟩=some (.slice D.t M.T.length D.tn) ∧
 wr.cell? ⟨B,5,none⟩=some (.slice D.q M.Q.length D.qn)∧wr.cell? ⟨B,6,none⟩=some (.int .i64 M.steps)∧wr.cell? ⟨B,7,none⟩=some (.int .i64 M.fin)∧wr.cell? ⟨B,8,none⟩=some (.slice D.a M.ans.length D.an)∧∀i,wr.frozen? ⟨B,i,none⟩=false:=by
 have:=h.all (aB9 M D);simp only[Nat.zero_add] at this;exact this
structure CoR(w:World)(m:Mac)(d:MAd)(g:Nat)(stay:List Bool)(wr:World):Prop where
 below:Below w.heap.size w wr
 src:cL wr w.heap.size m d
 stay:wr.heap[g]? = some (.cells (stay.map Value.bool).toArray 4 (0,0))
 res:wr.heap[w.heap.size+1]? = some (.cells #[.slice none 0 0,.slice none 0 0,.int .i64 0,.slice none 0 0,.slice none 0 0,.slice none 0 0,.int .i64 0,.int .i64 0,.slice none 0 0] 30 (0,0))
theorem CoR.cells{w:World}{m:Mac}{d:MAd}{g:Nat}{stay:List Bool}{wr:World}(h:CoR w m d g stay wr):(∀i (hi:i<stay.length),wr.cell? ⟨g,i,none⟩=some (.bool stay[i])):=by
 have ho:=h.stay;exact fun i hi=>by simp[World.cell?,ho,hi]
theorem CoR.keep{w:World}{m:Mac}{d:MAd}{g:Nat}{stay:List Bool}{U0 wr:World}(h:CoR w m d g stay U0){B:Nat}{vs:Array Value}{ty:TypeId}{d2:MAd}{R:List bC}(hr:RwS U0 B vs ty d2 wr R)(hw:w.heap.size+2≤g)(hg:g<B)(hd:∀b,some b∈rws d2→g<b):CoR w m d g stay wr:=by
 have hgl:g<U0.heap.size:=(gS h.stay).1;have key:∀b,b≤g→wr.heap[b]? = U0.heap[b]?:=fun b hb=>hr.touch.block b (by omega) fun e=>by
  rcases e with e|e|e
  ·omega
  ·have:=hd b e;omega
  ·omega
 refine⟨h.below.trans (hr.touch.toBelow h.below.size fun b e=>?_),h.src.keep (key _ (by omega)),(key _ (nR _)).trans h.stay,(key _ (by omega)).trans h.res⟩;rcases e with e|e|e
 ·omega
 ·have:=hd b e;omega
 ·have:=h.below.size;omega
theorem aV9{f:Nat→Nat}(n:Nat)(h:f 0=0):dQ f n 1=List.replicate n 0:=by
 rw[←wR f n];refine List.map_congr_left fun j _=>?_
 by_cases e:j<1
 ·have:j=0:=by omega
  subst this;rw[if_pos e,h];rfl
 ·rw[if_neg e,if_neg (Nat.not_lt_zero j)]
theorem aI9{w:World}{g n:Nat}(f:Nat→Nat)(hf:f 0=0)(h:w.heap[g]? = some (.cells ((List.replicate n 0).map fun v:Int=>Value.int .i64 v).toArray 3 (0,0)))(hl:n≤maxLen):(rI (dQ f n 1) (some ⟨g,0,none⟩) n).In w 0:=by
 have e:dQ f n 1=List.replicate n 0:=aV9 n hf;have h2:=aN0 (l:=dQ f n 1) (g:=g) (w:=w) (by rw[e];exact h) (by rw[eC];exact hl);rw[eC] at h2;exact h2
theorem wY(M:Mac)(D:MAd)(L:List HC)(a:Option Addr)(c n:Nat)(hn:L.length=n):(M.vals D).toArray.setIfInBounds 0 (.slice a n c)=(({M with H:=L}:Mac).vals {D with h:=a,hn:=c}).toArray:=by subst hn;rfl
theorem aQ2(M:Mac)(D:MAd)(L:List Int)(a:Option Addr)(c n:Nat)(hn:L.length=n):(M.vals D).toArray.setIfInBounds 4 (.slice a n c)=(({M with T:=L}:Mac).vals {D with t:=a,tn:=c}).toArray:=by subst hn;rfl
def bK3(w:World)(m:Mac)(K:Mac)(e:Ending)(w':World):Prop :=
 ∃d',e=.returned (.tuple #[.agg (K.vals d').toArray,.int .i64 ((m.H.length:Int)-K.H.length)])∧bO w' (fun _=>True) K d'∧Below w.heap.size w w'
theorem bK4{wz:World}{d2:MAd}{m1:Mac}{A:List ((Option Addr×Nat)×List Tm)}{x1:bC}{ya ta:Option Addr}{yn tn:Nat}{K:Mac}(h:Bag wz (eN m1 d2 A++[x1,rH K.H ya yn,rI K.T ta tn]))(g1:m1.G=K.G)(g2:m1.ch=K.ch)(g3:m1.Q=K.Q)(hf:∀i,i<K.H.length→(hc K.H i).fits)(hA:A.map (·.2)=K.ans)(e3:∀x,x∈A→Ts wz (fun _=>True) x.2 x.1.1 x.1.2) :
 bO wz (fun _=>True) K ⟨ya,d2.g,d2.c,ta,d2.q,d2.a,yn,d2.gn,d2.cn,tn,d2.qn,d2.an⟩:=by
 have r1:=h.rows 1 _ rfl;have r2:=h.rows 2 _ rfl;have r4:=h.rows 4 _ rfl;have r5:=h.rows 5 _ rfl;have r7:=h.rows 7 _ rfl;have r8:=h.rows 8 _ rfl;unfold bC.In at r1 r2 r4 r5 r7 r8;simp only[rG,rK,rI,rA,rH] at r1 r2 r4 r5 r7 r8;rw[g1] at r1;rw[g2] at r2;rw[g3] at r4;refine⟨?_,?_,?_,?_,?_,?_⟩
 ·obtain⟨a,c,e,hr⟩:=dV.of_row (ok:=fun _=>True) r7 (fun _ _=>trivial) hf
  injection e with q1 _ q2;subst q1;subst q2;exact hr
 ·obtain⟨a,c,e,hr⟩:=cZ.of_row (ok:=fun _=>True) r1 (dN _) (fun _ _=>trivial)
  injection e with q1 _ q2;subst q1;subst q2;exact hr
 ·obtain⟨a,c,e,hr⟩:=cZ.of_row (ok:=fun _=>True) r2 (eQ _) (fun _ _=>trivial)
  injection e with q1 _ q2;subst q1;subst q2;exact hr
 ·obtain⟨a,c,e,hr⟩:=dC.of_row (ok:=fun _=>True) r8 (fun _ _=>trivial)
  injection e with q1 _ q2;subst q1;subst q2;exact hr
 ·obtain⟨a,c,e,hr⟩:=dC.of_row (ok:=fun _=>True) r4 (fun _ _=>trivial)
  injection e with q1 _ q2;subst q1;subst q2;exact hr
 ·obtain⟨a,c,e,hr⟩:=lF.of_row (ok:=fun _=>True) r5 (fun _ _=>trivial) e3
  injection e with q1 _ q2;subst q1;subst q2;rw[hA] at hr;exact hr
theorem bK5{w:World}{m:Mac}{d:MAd}{g:Nat}{stay:List Bool}{U0 w6 wz:World}{B:Nat}{vs:Array Value}{ty:TypeId}{d2:MAd}{m1:Mac}{A:List ((Option Addr×Nat)×List Tm)}{x1:bC}{ya ta:Option Addr}{yn tn:Nat}{K:Mac}(hs:RwS U0 B vs ty d2 w6 (eN m1 d2 A++[x1,rH K.H ya yn,rI K.T ta tn]))(hc:CoR w m d g stay w6)(ht:aA (fun b=>b=w.heap.size+1) w6 wz)(hg:w.heap.size+2≤g∧g<B)(hdw:∀b,some b∈rws d2→g<b)(hu:g<U0.heap.size)
 (g1:m1.G=K.G) (g2:m1.ch=K.ch) (g3:m1.Q=K.Q) (hf:∀i,i<K.H.length→(Go.Proofs.Ytikmgiapjigghab.hc K.H i).fits) (hA:A.map (·.2)=K.ans) (e3:∀x,x∈A→Ts U0 (fun b=>(b<B∧b≠w.heap.size+1)∧∀y,y∈[bk d2.h,bk d2.g,bk d2.c,bk d2.t,bk d2.q,bk d2.a]→y≠some b) x.2 x.1.1 x.1.2) :
 bO wz (fun _=>True) K ⟨ya,d2.g,d2.c,ta,d2.q,d2.a,yn,d2.gn,d2.cn,tn,d2.qn,d2.an⟩∧Below w.heap.size w wz:=by
 refine⟨bK4 (hs.bag.keep ht fun i r hi b hb e=>?_) g1 g2 g3 hf hA fun x hx=>?_,hc.below.trans (ht.toBelow hc.below.size fun b e=>by omega)⟩
 ·rcases hs.own i r hi b hb with k|k
  ·have:=hdw b k;omega
  ·omega
 ·have h1:=(e3 x hx).mono (ok':=fun b=>((b<B∧b≠w.heap.size+1)∧∀y,y∈[bk d2.h,bk d2.g,bk d2.c,bk d2.t,bk d2.q,bk d2.a]→y≠some b)∧b<U0.heap.size) fun b hb h=>⟨h,hb⟩
  have t2:aA (fun b=>(b=B∨some b∈rws d2∨U0.heap.size≤b)∨b=w.heap.size+1) U0 wz:=(hs.touch.mono fun b _ e=>.inl e).trans (ht.mono fun b _ e=>.inr e);refine(h1.keep (t2.keeps fun b hb e=>?_)).mono fun b _ _=>trivial
  rcases e with (e|e|e)|e
  ·have:=hb.1.1;omega
  ·exact hb.1.2 _ e rfl
  ·have:=hb.2;omega
  ·have:=hb.1.1;omega
def mX(m:Mac):Mac:={m with ans:=m.ans.map mvA}
theorem aJ0(m:Mac)(d:MAd){w:World}{ok:Nat→Prop}(h:bO w ok m d)(hb:gV m)(hK:dZ m.H)(hT:fV m)(hG:m.G.length≤5000)(hQ:m.Q.length≤12)(hch:∀c,c∈m.ch→0≤c.heap∧c.heap≤(m.H.length:Int)∧0≤c.trail∧c.trail≤(m.T.length:Int)) :
 Calls Try.prog 16 #[.agg #[.slice d.h m.H.length d.hn,.slice d.g m.G.length d.gn,.int .i64 m.first,.slice d.c m.ch.length d.cn,.slice d.t m.T.length d.tn,.slice d.q m.Q.length d.qn,.int .i64 m.steps,.int .i64 m.fin,.slice d.a m.ans.length d.an]] w (bK3 w m (dD (dU m.H (bX m.G m.Q)) (mX m))):=by
 have HM:Hid (bO w (fun b=>b<w.heap.size) m d):=lh (h.mono fun b hb _=>hb);have hTl:m.T.length*8≤140737488355328:=hb.t;have hcc:m.ch.length*40≤140737488355328:=hb.c;have hc9:m.ch.length≤3518437208884:=by omega
 have HMF:Hid (∀i,i<m.H.length→(hc m.H i).fits):=lh fun i hi=>by obtain⟨_,_,_,_,_,_,_,_,hf⟩:=HM.out.h.at' i hi;exact hf
 obtain⟨wa,hwa⟩:∃wa,wa=((w.alloc (.cells #[.slice d.h m.H.length d.hn,.slice d.g m.G.length d.gn,.int .i64 m.first,.slice d.c m.ch.length d.cn,.slice d.t m.T.length d.tn,.slice d.q m.Q.length d.qn,.int .i64 m.steps,.int .i64 m.fin,.slice d.a m.ans.length d.an] 30)).alloc (.cells #[.slice none 0 0,.slice none 0 0,.int .i64 0,.slice none 0 0,.slice none 0 0,.slice none 0 0,.int .i64 0,.int .i64 0,.slice none 0 0] 30)):=⟨_,rfl⟩
 have HBA:Hid (Below w.heap.size w wa):=lh (by rw[hwa];exact((bR _ _).alloc (nR _) _).alloc (by simp) _);have HSA:Hid (wa.heap.size=w.heap.size+2):=lh (by rw[hwa];simp);have HX1:Hid (cL wa w.heap.size m d):=lh ⟨by rw[hwa,Below.heap_alloc _ _ _ (by simp)];exact heap_alloc_new w _⟩;have HX2:Hid (wa.heap[w.heap.size+1]? = some (.cells #[.slice none 0 0,.slice none 0 0,.int .i64 0,.slice none 0 0,.slice none 0 0,.slice none 0 0,.int .i64 0,.int .i64 0,.slice none 0 0] 30 (0,0))):=lh (by
  have hs1:(w.alloc (.cells #[.slice d.h m.H.length d.hn,.slice d.g m.G.length d.gn,.int .i64 m.first,.slice d.c m.ch.length d.cn,.slice d.t m.T.length d.tn,.slice d.q m.Q.length d.qn,.int .i64 m.steps,.int .i64 m.fin,.slice d.a m.ans.length d.an] 30)).heap.size=w.heap.size+1:=by simp
  rw[hwa,←hs1];exact heap_alloc_new _ _)
 have hl:=hK.len;have HLV:=lh (aN1 m d (h.keep (aD.below HBA.out ok)) hK.cells hT hl hG hQ);have HCP:=lh (fun u (hu:Below w.heap.size w u)=>bC9 m d (HM.out.keep (aD.below hu _)) hb);have HBX:=lh (fun u (hu:Below wa.heap.size wa u)=>(HX1.out.keep (hu.block _ HX1.out.lt)));have hll:(dU m.H (bX m.G m.Q)).length=m.H.length:=kD _ _;generalize dU m.H (bX m.G m.Q)=stay at *;obtain⟨x0,x1,x2,x3,x4,x5,x6,x7,x8,-⟩:=HX1.out.all;have HK:=lh hK;have HT:=lh hT;have HCH:=lh hch;clear h hb hK hT hch hcc;have hmk:=fun u=>oT u (m.H.length+1) (by omega)
 simp only[Int.natCast_add,show ((1:Nat):Int)=1 from rfl] at hmk;go_enter Try.func16,Try.ntmps16;go_upto_region 1 with fail;rw[←hwa];clear hwa;go_upto_region 4 with (first
  | (go_at_call 15;refine HLV.out.mono ?_;rintro r w1 ⟨g,rfl,hg,hgc,hb1⟩;have HG1:=lh hg;have HGC:=lh hgc;have HB1:=lh hb1;obtain⟨a0,a1,a2,a3,a4,a5,a6,a7,a8,-⟩:=(HBX.out _ hb1).all;clear hg hgc hb1 x0 x1 x2 x3 x4 x5 x6 x7 x8)
  | (go_at_call 29;refine(HCP.out _ (HBA.out.trans (HB1.out.mono HBA.out.size))).mono ?_;rintro r w2 ⟨d2,rfl,hob,hb2⟩;have HOB:=lh hob;have HB2:=lh hb2;clear hob hb2;simp only[Mac.vals]))
 refine(show (∀U:World,U=_→Code.wp _ _ _ _ U)→Code.wp _ _ _ _ _ from fun hW=>hW _ rfl) ?_;intro U hU;obtain⟨U0,hU0⟩:∃U0,U0=w2.alloc (.cells ((mX m).vals d2).toArray 30):=⟨_,rfl⟩
 have HO0:Hid (OwM U0 0 (fun b=>b<w2.heap.size∧b≠w.heap.size+1) (mX m) d2):=lh (by
  have hk:=HOB.out;have hbb:Below w2.heap.size w2 U0:=by rw[hU0];exact(bR _ _).alloc (nR _) _
  have s1:=HB1.out.size;have s0:=HSA.out;have h2:OwM w2 0 (fun b=>b<w2.heap.size∧b≠w.heap.size+1) (mX m) d2:=⟨⟨aI hk.h.row (Nat.zero_le _),hk.h.fits⟩,aI hk.g (Nat.zero_le _),aI hk.c (Nat.zero_le _),aI hk.t (Nat.zero_le _),aI hk.q (Nat.zero_le _),(by obtain⟨A,e1,e2,e3⟩:=hk.a;exact⟨A,e1,aI e2 (Nat.zero_le _),fun x hx=>(e3 x hx).mono fun b hb0 hb=>⟨⟨hb0,by have:=hb.1;omega⟩,hb.2⟩⟩),hk.ne⟩
  exact h2.keep hbb.size (fun b hb _=>hbb.block b hb) (fun b _ hb=>hb))
 obtain⟨A,e1,e2,e3⟩:=HO0.out.a;have HE1:=lh e1;have HE3:=lh e3;have HRW:Hid (∀b,some b∈rws d2→w1.heap.size≤b∧b<w2.heap.size):=lh fun b hb=>by
  have hk:=HOB.out;refine⟨?_,hk.lt b hb⟩;simp only[rws,List.mem_cons,List.not_mem_nil,or_false] at hb;obtain⟨A,f1,f2,f3⟩:=hk.a;rcases hb with e|e|e|e|e|e
  ·exact(hk.h.row.lt b ((aE _ _ _).trans e.symm)).1
  ·exact(hk.g.lt b ((aE _ _ _).trans e.symm)).1
  ·exact(hk.c.lt b ((aE _ _ _).trans e.symm)).1
  ·exact(hk.t.lt b ((aE _ _ _).trans e.symm)).1
  ·exact(hk.q.lt b ((aE _ _ _).trans e.symm)).1
  ·exact(f2.lt b ((aE _ _ _).trans e.symm)).1
 have HS0:Hid (RwS U0 w2.heap.size ((mX m).vals d2).toArray 30 d2 U0 (eN (mX m) d2 A)):=lh (RwS.start (by rw[hU0];exact heap_alloc_new _ _) HO0.out (fun y hy e=>by subst e;have:=(HRW.out _ hy).2;omega) e1 e2);have HC0:Hid (CoR w m d g stay U0):=lh (by
  have hbb:Below w2.heap.size w2 U0:=by rw[hU0];exact(bR _ _).alloc (nR _) _
  have s1:=HB1.out.size;have s2:=HB2.out.size;have s0:=HSA.out;have hgl:g<w1.heap.size:=(gS HGC.out).1;have b1:Below wa.heap.size wa U0:=(HB1.out.trans (HB2.out.mono s1)).trans (hbb.mono (by omega));refine⟨HBA.out.trans (b1.mono (by omega)),HX1.out.keep (b1.block _ HX1.out.lt),?_,?_⟩
  ·rw[hbb.block g (by omega),HB2.out.block g hgl];exact HGC.out
  ·rw[b1.block _ (by omega)];exact HX2.out)
 have HRD:Hid (∀(vs:Array Value) (wr:World) (R:List bC),RwS U0 w2.heap.size vs 30 d2 wr R→CoR w m d g stay wr):=lh fun vs wr R hr=>by
  have hgl:g<w1.heap.size:=(gS HGC.out).1;have s2:=HB2.out.size;have s0:=HSA.out;have hg1:=HG1.out;exact HC0.out.keep hr (by omega) (by omega) fun b hb=>by have:=(HRW.out b hb).1;omega
 have hu0s:(w2.alloc (.cells ((mX m).vals d2).toArray 30)).heap.size=w2.heap.size+1:=by simp
 have HS1:Hid (RwS U0 w2.heap.size ((mX m).vals d2).toArray 30 d2 U (eN (mX m) d2 A++[rI (dQ (aO stay) (m.H.length+1) 1) (some ⟨w2.heap.size+1,0,none⟩) (m.H.length+1)])):=lh (by
  have e0:U=U0.alloc (.cells (Array.replicate (m.H.length+1) (.int .i64 0)) 3):=by rw[hU,hU0];simp[Mac.vals,mX]
  have e4:U0.heap.size=w2.heap.size+1:=by rw[hU0];exact hu0s
  exact HS0.out.add (by rw[e0];exact(bR _ _).alloc (nR _) _) (aI9 _ (oO _) (by rw[e0,←e4,heap_alloc_new];simp[List.map_replicate]) (by unfold maxLen;omega)) (fun b hb=>by have e:w2.heap.size+1=b:=(by simpa[rI,bk,Value.ownBlock] using hb);omega))
 have HGB:Hid (w.heap.size+2≤g∧g<w2.heap.size):=lh (by
  have hgl:g<w1.heap.size:=(gS HGC.out).1;have s2:=HB2.out.size;have s0:=HSA.out;have hg1:=HG1.out;omega)
 have HDW:Hid (∀b,some b∈rws d2→g<b):=lh fun b hb=>by
  have hgl:g<w1.heap.size:=(gS HGC.out).1;have:=(HRW.out b hb).1;omega
 have HU0S:Hid (g<U0.heap.size):=lh (by have h2:=HGB.out;rw[hU0,hu0s];omega);clear hU hU0 hu0s HOB HB2 HRW HS0 HC0 HLV HCP HBX hmk e1 e2 e3 HX1 HX2 HO0
 try clear a0 a1 a2 a3 a4 a5 a6 a7 a8
 generalize w2.heap.size=B at *;generalize htb:B+1=tb at *;clear htb;obtain⟨xh,xg,xc,xt,xq,xa,xhn,xgn,xcn,xtn,xqn,xan⟩:=d2;go_wp2_with fail
 go_loopw[7] (fun v7 wr=>∃k:Nat,k≤m.H.length∧v7=.int .i64 ((k:Int)+1)∧Hid (RwS U0 B ((mX m).vals ⟨xh,xg,xc,xt,xq,xa,xhn,xgn,xcn,xtn,xqn,xan⟩).toArray 30 ⟨xh,xg,xc,xt,xq,xa,xhn,xgn,xcn,xtn,xqn,xan⟩ wr (eN (mX m) ⟨xh,xg,xc,xt,xq,xa,xhn,xgn,xcn,xtn,xqn,xan⟩ A++[rI (dQ (aO stay) (m.H.length+1) (k+1)) (some ⟨tb,0,none⟩) (m.H.length+1)]))) (fun v7 _=>m.H.length+1-(intOf v7).toNat)
 case atStart=>exact⟨0,Nat.zero_le _,rfl,HS1⟩
 case round =>
  rename World=>wr
  obtain⟨k,hk,rfl,HS⟩:=hrel;clear HS1;have HCO:=lh (HRD.out _ _ _ HS.out);by_cases hlt:k<m.H.length
  ·have hks:k<stay.length:=by omega
   have z0:=HCO.out.cells k hks;have t0:=kL (HS.out.row 6 rfl) (j:=k) (by omega) (by omega);obtain⟨tw,tc⟩:∃v,wr.cell? ⟨tb,k+1,none⟩=some v:=⟨_,pN (HS.out.row 6 rfl) (j:=k+1) (by rw[eC];omega)⟩
   have tf:=(HS.out.row 6 rfl).fz rfl;have HSU:=lh (oN hks);have HST:=lh (HS.out.storeT (i:=6) rfl (show k+1<m.H.length+1 by omega));have HSI:=lh (fun x=>HS.out.storeI (i:=6) rfl (k+1) x);obtain⟨tv,htv⟩:∃tv,stay[k]=tv:=⟨_,rfl⟩
   rw[htv] at z0 HSU;have hsk:=pP stay k;have HHL:=lh hlt;clear htv hks;cases tv with
   | false =>
    go_wp2_with fail;refine⟨?rel,?measure⟩
    case measure=>simp only[intOf];omega
    case rel =>
     have h1:aO stay (k+1)=aO stay k+0:=HSU.out;refine⟨k+1,by omega,by go_num,lh ?_⟩;have h2:=HST.out;rw[h1] at h2;exact h2
   | true =>
    go_wp2_with fail;refine⟨?rel,?measure⟩
    case measure=>simp only[intOf];omega
    case rel =>
     have h1:aO stay (k+1)=aO stay k+1:=HSU.out;refine⟨k+1,by omega,by go_num,lh ?_⟩;have h2:=(HSI.out (aO stay k:Nat)).storeI (i:=6) rfl (k+1) ((aO stay k:Int)+1);rw[zC,zC] at h2;have h3:dQ (aO stay) (m.H.length+1) (k+1+1)=(dQ (aO stay) (m.H.length+1) (k+1)).set (k+1) ((aO stay k:Int)+1):=by
      have hlt:=HHL.out;rw[←aB0 (show k+1<m.H.length+1 by omega),h1];rfl
     rw[h3];exact h2
  ·have hkn:k=m.H.length:=by omega
   subst hkn;obtain⟨x0,x1,x2,x3,x4,x5,x6,x7,x8,xf⟩:=HS.out.all0;have zB:=HS.out.blt;have HS2:Hid (RwS U0 B (({mX m with H:=aN (bK stay) (stay.take 0) (m.H.take 0)}:Mac).vals ⟨none,xg,xc,xt,xq,xa,0,xgn,xcn,xtn,xqn,xan⟩).toArray 30 ⟨xh,xg,xc,xt,xq,xa,xhn,xgn,xcn,xtn,xqn,xan⟩ (wr.setCell ⟨B,0,none⟩ (.slice none 0 0)) (eN (mX m) ⟨xh,xg,xc,xt,xq,xa,xhn,xgn,xcn,xtn,xqn,xan⟩ A++[rI (dQ (aO stay) (m.H.length+1) (m.H.length+1)) (some ⟨tb,0,none⟩) (m.H.length+1),rH (aN (bK stay) (stay.take 0) (m.H.take 0)) none 0])):=lh (by
    have h1:=(HS.out.setB 0 (.slice none 0 0)).add (bR _ _) (r:=rH (aN (bK stay) (stay.take 0) (m.H.take 0)) none 0) (World.ownsRow_nil _ _ _ _) (fun b hb=>nomatch hb);exact h1)
   clear HS HCO hlt hk;go_wp2_with fail;clear x0 x1 x2 x3 x4 x5 x6 x7 x8 xf zB
   go_loopw[8] (fun v8 wr=>∃(k:Nat) (ya:Option Addr) (yn:Nat),k≤m.H.length∧v8=.int .i64 k∧Hid (RwS U0 B (({mX m with H:=aN (bK stay) (stay.take k) (m.H.take k)}:Mac).vals ⟨ya,xg,xc,xt,xq,xa,yn,xgn,xcn,xtn,xqn,xan⟩).toArray 30 ⟨xh,xg,xc,xt,xq,xa,xhn,xgn,xcn,xtn,xqn,xan⟩ wr (eN (mX m) ⟨xh,xg,xc,xt,xq,xa,xhn,xgn,xcn,xtn,xqn,xan⟩ A++[rI (dQ (aO stay) (m.H.length+1) (m.H.length+1)) (some ⟨tb,0,none⟩) (m.H.length+1),rH (aN (bK stay) (stay.take k) (m.H.take k)) ya yn]))) (fun v8 _=>m.H.length-(intOf v8).toNat)
   case atStart=>exact⟨0,none,0,Nat.zero_le _,rfl,HS2⟩
   case round =>
    rename World=>wr2
    obtain⟨k,ya,yn,hk,rfl,HS⟩:=hrel;clear HS2;have HCO:=lh (HRD.out _ _ _ HS.out);obtain⟨s0,s1,s2,s3,s4,s5,s6,s7,s8,sf⟩:=HCO.out.src.all;by_cases hlt:k<m.H.length
    ·have hks:k<stay.length:=by omega
     have z0:=HCO.out.cells k hks;have HKU:=lh (mL (bK stay) stay m.H k hks hlt);have HHL:=lh hlt;obtain⟨tv,htv⟩:∃tv,stay[k]=tv:=⟨_,rfl⟩
     rw[htv] at z0 HKU;clear htv;cases tv with
     | false =>
      go_wp2_with fail;refine⟨?rel,?measure⟩
      case measure=>simp only[intOf];omega
      case rel =>
       have h1:=HKU.out;rw[if_neg (by decide),List.append_nil] at h1;refine⟨k+1,ya,yn,by omega,by go_num,lh ?_⟩;rw[h1];exact HS.out
     | true =>
      obtain⟨b,off,hdh,hbk,hb,c0,c1,c2,hfit⟩:=HM.out.h.at' k hlt;rw[hdh] at s0;have y0:=(HCO.out.below.cell (p:=⟨b,off+k*3,none⟩) hb).trans c0;have y1:=(HCO.out.below.cell (p:=⟨b,off+k*3+1,none⟩) hb).trans c1;have y2:=(HCO.out.below.cell (p:=⟨b,off+k*3+2,none⟩) hb).trans c2;have zb:b<wr2.heap.size:=nT hb HCO.out.below.size;obtain⟨x0,x1,x2,x3,x4,x5,x6,x7,x8,xf⟩:=HS.out.all0;have zB:=HS.out.blt;have hcg:=lV hlt;rw[hcg] at y0 y1 y2;have HCM:=lh (List.getElem_mem hlt);have hyl:(aN (bK stay) (stay.take k) (m.H.take k)).length≤k:=by
       rw[iT _ _ _ (by simp[hll])];exact pP stay k
      generalize m.H[k]=ck at *;clear c0 c1 c2 hfit hcg hdh hks;generalize aN (bK stay) (stay.take k) (m.H.take k)=YL at *;by_cases hk1:ck.k=1
      ·obtain⟨q,hq,hql⟩:=aW0 HK.out.cells HCM.out hk1
       have t0:=kL (HS.out.row 6 rfl) (j:=q) (by omega) (by omega);have zt:=((HS.out.row 6 rfl).lt (b:=tb) rfl).2;have HQ:=lh hq;have HK1:=lh hk1;rw[hk1] at y0;rw[hq] at y1;have hq1:((q:Int)<(m.H.length:Int)+1):=by omega
       clear hq hk1 hql;obtain⟨i0,hi0,hz0,hz1,hz2⟩:=info_parts Try.infoCell;go_wp2_with (at_builtin;refine aJ _ rfl _ _ 24 rfl 0 69 i0 _ 3 32 Try.underlying24 hi0 hz0 hz1 hz2 rfl (by decide) _ YL.length (bS YL) rfl ?a1 (some ⟨wr2.heap.size+1,0,none⟩) 1 1 ?e0 [.int .i64 1,.int .i64 (aO stay q:Nat),.string ck.name] rfl rfl ?e1 ?e2 ?e3 ?e4 ?e5 ?_)
       case a1=>exact((HS.out.below ((bR _ _).alloc (nR _) (.cells #[.int .i64 1,.int .i64 (aO stay q:Nat),.string ck.name] 69))).below ((bR _ _).alloc (nR _) (.cells #[.int .i64 1,.int .i64 (aO stay q:Nat),.string ck.name] 69))).row 7 rfl
       case e2=>exact⟨rfl,rfl,rfl⟩
       case e3=>unfold maxLen;omega
       case e4=>omega
       intro v8 w8 hown8 hgrow8 hfr8;obtain⟨a8,c8,rfl⟩:=bL hown8;have HN8:=lh ((HS.out.below ((bR _ _).alloc (nR _) (.cells #[.int .i64 1,.int .i64 (aO stay q:Nat),.string ck.name] 69))).grow (i:=7) (r:=rH YL ya yn) rfl ((bR _ _).alloc (nR _) _) hown8 hgrow8 hfr8);clear hown8 hgrow8 hfr8 x0 x1 x2 x3 x4 x5 x6 x7 x8 xf;obtain⟨x0,x1,x2,x3,x4,x5,x6,x7,x8,xf⟩:=HN8.out.all0;have zB8:=HN8.out.blt;go_wp2_with fail;refine⟨?rel,?measure⟩
       case measure=>simp only[intOf];omega
       case rel =>
        have h1:aN (bK stay) (stay.take (k+1)) (m.H.take (k+1))=YL++[bK stay ck]:=HKU.out;have h3:=HN8.out.setB 0 (.slice a8 (YL.length+1) c8);rw[wY _ _ (YL++[(⟨1,(aO stay q:Int),ck.name⟩:HC)]) a8 c8 _ (by simp)] at h3;refine⟨k+1,a8,c8,by omega,by go_num,lh ?_⟩;rw[h1,show bK stay ck=(⟨1,(aO stay q:Int),ck.name⟩:HC) from by unfold bK;rw[if_pos HK1.out,HQ.out,Int.toNat_natCast,HK1.out],←yZ a8 (YL.length+1) c8 rfl];exact h3
      ·have hkb:(ck.k == 1)=false:=by simpa using hk1
       have HK1:=lh hk1;obtain⟨i0,hi0,hz0,hz1,hz2⟩:=info_parts Try.infoCell;go_wp2_with (at_builtin;refine aJ _ rfl _ _ 24 rfl 0 69 i0 _ 3 32 Try.underlying24 hi0 hz0 hz1 hz2 rfl (by decide) _ YL.length (bS YL) rfl ?b1 (some ⟨wr2.heap.size+1,0,none⟩) 1 1 ?f0 [.int .i64 ck.k,.int .i64 ck.n,.string ck.name] rfl rfl ?f1 ?f2 ?f3 ?f4 ?f5 ?_)
       case b1=>exact((HS.out.below ((bR _ _).alloc (nR _) (.cells #[.int .i64 ck.k,.int .i64 ck.n,.string ck.name] 69))).below ((bR _ _).alloc (nR _) (.cells #[.int .i64 ck.k,.int .i64 ck.n,.string ck.name] 69))).row 7 rfl
       case f2=>exact⟨rfl,rfl,rfl⟩
       case f3=>unfold maxLen;omega
       case f4=>omega
       intro v8 w8 hown8 hgrow8 hfr8;obtain⟨a8,c8,rfl⟩:=bL hown8;have HN8:=lh ((HS.out.below ((bR _ _).alloc (nR _) (.cells #[.int .i64 ck.k,.int .i64 ck.n,.string ck.name] 69))).grow (i:=7) (r:=rH YL ya yn) rfl ((bR _ _).alloc (nR _) _) hown8 hgrow8 hfr8);clear hown8 hgrow8 hfr8 x0 x1 x2 x3 x4 x5 x6 x7 x8 xf;obtain⟨x0,x1,x2,x3,x4,x5,x6,x7,x8,xf⟩:=HN8.out.all0;have zB8:=HN8.out.blt;go_wp2_with fail;refine⟨?rel,?measure⟩
       case measure=>simp only[intOf];omega
       case rel =>
        have h1:aN (bK stay) (stay.take (k+1)) (m.H.take (k+1))=YL++[bK stay ck]:=HKU.out;have h3:=HN8.out.setB 0 (.slice a8 (YL.length+1) c8);rw[wY _ _ (YL++[ck]) a8 c8 _ (by simp)] at h3;refine⟨k+1,a8,c8,by omega,by go_num,lh ?_⟩;rw[h1,show bK stay ck=ck from by unfold bK;rw[if_neg HK1.out],←yZ a8 (YL.length+1) c8 rfl];exact h3
    ·have hkn:k=m.H.length:=by omega
     subst hkn;obtain⟨x0,x1,x2,x3,x4,x5,x6,x7,x8,xf⟩:=HS.out.all0;have zB:=HS.out.blt;have HS3:Hid (RwS U0 B (({mX m with H:=aN (bK stay) stay m.H,T:=bM stay (m.T.take 0)}:Mac).vals ⟨ya,xg,xc,none,xq,xa,yn,xgn,xcn,0,xqn,xan⟩).toArray 30 ⟨xh,xg,xc,xt,xq,xa,xhn,xgn,xcn,xtn,xqn,xan⟩ (wr2.setCell ⟨B,4,none⟩ (.slice none 0 0)) (eN (mX m) ⟨xh,xg,xc,xt,xq,xa,xhn,xgn,xcn,xtn,xqn,xan⟩ A++[rI (dQ (aO stay) (m.H.length+1) (m.H.length+1)) (some ⟨tb,0,none⟩) (m.H.length+1),rH (aN (bK stay) stay m.H) ya yn,rI (bM stay (m.T.take 0)) none 0])):=lh (by
      have h0:=HS.out;rw[List.take_of_length_le (Nat.le_of_eq hll),List.take_of_length_le (nR _)] at h0;have h1:=(h0.setB 4 (.slice none 0 0)).add (bR _ _) (r:=rI (bM stay (m.T.take 0)) none 0) (World.ownsRow_nil _ _ _ _) (fun b hb=>nomatch hb);exact h1)
     clear HS HCO hlt hk;go_wp2_with fail;clear x0 x1 x2 x3 x4 x5 x6 x7 x8 xf zB s0 s1 s2 s3 s4 s5 s6 s7 s8 sf;have ht9:m.T.length≤17592186044416:=by omega
     go_loopw[10] (fun v10 wr=>∃(k:Nat) (ta:Option Addr) (tn:Nat),k≤m.T.length∧v10=.int .i64 k∧Hid (RwS U0 B (({mX m with H:=aN (bK stay) stay m.H,T:=bM stay (m.T.take k)}:Mac).vals ⟨ya,xg,xc,ta,xq,xa,yn,xgn,xcn,tn,xqn,xan⟩).toArray 30 ⟨xh,xg,xc,xt,xq,xa,xhn,xgn,xcn,xtn,xqn,xan⟩ wr (eN (mX m) ⟨xh,xg,xc,xt,xq,xa,xhn,xgn,xcn,xtn,xqn,xan⟩ A++[rI (dQ (aO stay) (m.H.length+1) (m.H.length+1)) (some ⟨tb,0,none⟩) (m.H.length+1),rH (aN (bK stay) stay m.H) ya yn,rI (bM stay (m.T.take k)) ta tn]))) (fun v10 _=>m.T.length-(intOf v10).toNat)
     case atStart=>exact⟨0,none,0,Nat.zero_le _,rfl,HS3⟩
     case round =>
      rename World=>wr3
      obtain⟨k,ta,tn,hk,rfl,HS⟩:=hrel;clear HS3;have HCO:=lh (HRD.out _ _ _ HS.out);obtain⟨s0,s1,s2,s3,s4,s5,s6,s7,s8,sf⟩:=HCO.out.src.all;have hkl:(bM stay (m.T.take k)).length≤k:=by have:=jU stay (m.T.take k);rw[List.length_take] at this;omega
      by_cases hlt:k<m.T.length
      ·obtain⟨b,off,hdt,hbk,hb,c0⟩:=HM.out.t.at' k hlt
       rw[hdt] at s4;have y0:=(HCO.out.below.cell (p:=⟨b,off+k,none⟩) hb).trans c0;have zb:b<wr3.heap.size:=nT hb HCO.out.below.size;obtain⟨q1,q2⟩:=HT.out.trail _ (List.getElem_mem hlt);obtain⟨q,hq⟩:∃q:Nat,m.T[k]=(q:Int):=⟨m.T[k].toNat,by omega⟩
       have HKU:=lh (oP stay hlt);rw[hq] at y0 HKU;rw[Int.toNat_natCast] at HKU;have hqs:q<stay.length:=by omega
       have t0:=kL (HS.out.row 6 rfl) (j:=q) (by omega) (by omega);have z0:=HCO.out.cells q hqs;have hgd:stay.getD q false=stay[q]:=by rw[List.getD_eq_getElem?_getD,List.getElem?_eq_getElem hqs];rfl
       rw[hgd] at HKU;obtain⟨tv,htv⟩:∃tv,stay[q]=tv:=⟨_,rfl⟩
       rw[htv] at z0 HKU;have zt:=((HS.out.row 6 rfl).lt (b:=tb) rfl).2;have hq1:((q:Int)<(m.H.length:Int)+1):=by omega
       have hq2:((q:Int)<(m.H.length:Int)):=by omega
       obtain⟨x0,x1,x2,x3,x4,x5,x6,x7,x8,xf⟩:=HS.out.all0;have zB:=HS.out.blt;have zw:w.heap.size<wr3.heap.size:=HCO.out.src.lt;clear htv hqs q1 q2 hq hgd c0 hdt;generalize bM stay (m.T.take k)=KT at *;cases tv with
       | false =>
        go_wp2_with fail;refine⟨?rel,?measure⟩
        case measure=>simp only[intOf];omega
        case rel =>
         have h2:bM stay (m.T.take (k+1))=KT++[]:=HKU.out;rw[List.append_nil] at h2;refine⟨k+1,ta,tn,by omega,by go_num,lh ?_⟩;rw[h2];exact HS.out
       | true =>
        obtain⟨j0,hj0,hy0,hy1,hy2⟩:=info_parts Try.infoI;have BXX:Below wr3.heap.size wr3 ((wr3.alloc (.cells #[.int .i64 (aO stay q:Nat)] 3)).drew):=((bR _ _).alloc (nR _) _).drew;have HBX:=lh BXX;have HROW:Hid (((wr3.alloc (.cells #[.int .i64 (aO stay q:Nat)] 3)).drew).ownsRow 0 3 1 (.slice ta KT.length tn) KT.length (KT.map fun x=>Value.int .i64 x)):=lh ((HS.out.below BXX).row 8 rfl);clear BXX x0 x1 x2 x3 x5 x6 x7 x8 s0 s1 s2 s3 s5 s6 s7 s8 sf;have x4':wr3.cell? ⟨B,4,none⟩=some (.slice ta KT.length tn):=x4;clear x4;go_wp2_with fail
        go_region_law (first
         | (
          refine eB _ (by rfl) _ _ _ (by rfl) 0 3 j0 _ 1 8 Try.underlying27 hj0 hy0 hy1 hy2 rfl (by decide) (.slice ta KT.length tn) KT.length (KT.map fun x=>Value.int .i64 x) (by rfl) HROW.out (some ⟨wr3.heap.size,0,none⟩) 1 1 (by intro h;cases h) [.int .i64 (aO stay q:Nat)] (by rfl) rfl (by intro ad had;cases had;exact dT wr3 _ _) (by intro u hu;simp only[List.mem_singleton] at hu;subst hu;rfl) (by unfold maxLen;omega) (by omega) (Nat.zero_le _) ?_;intro v9 w9 hown9 hg9 hf9;obtain⟨a9,c9,rfl⟩:=bL hown9;have HN9:=lh (HS.out.grow (i:=8) (r:=rI KT ta tn) rfl HBX.out hown9 hg9 hf9);obtain⟨-,-,-,-,e4,-,-,-,-,ef⟩:=HN9.out.all0;have e4':w9.cell? ⟨B,4,none⟩=some (.slice ta KT.length tn):=e4;clear hown9 hg9 hf9 e4))
        all_goals
         go_wp2_with fail;refine⟨?rel,?measure⟩
         case measure=>simp only[intOf];omega
         case rel =>
          have h2:bM stay (m.T.take (k+1))=KT++[(aO stay q:Int)]:=HKU.out;have h3:=HN9.out.setB 4 (.slice a9 (KT.length+1) c9);rw[aQ2 _ _ (KT++[(aO stay q:Int)]) a9 c9 _ (by simp)] at h3;refine⟨k+1,a9,c9,by omega,by go_num,lh ?_⟩;rw[h2,←aN5 a9 (KT.length+1) c9 rfl];exact h3
      ·have hkn:k=m.T.length:=by omega
       subst hkn;have HS4:Hid (RwS U0 B (({mX m with H:=aN (bK stay) stay m.H,T:=bM stay m.T}:Mac).vals ⟨ya,xg,xc,ta,xq,xa,yn,xgn,xcn,tn,xqn,xan⟩).toArray 30 ⟨xh,xg,xc,xt,xq,xa,xhn,xgn,xcn,xtn,xqn,xan⟩ wr3 (eN {mX m with G:=cP (iP stay) 0 m.G} ⟨xh,xg,xc,xt,xq,xa,xhn,xgn,xcn,xtn,xqn,xan⟩ A++[rI (dQ (aO stay) (m.H.length+1) (m.H.length+1)) (some ⟨tb,0,none⟩) (m.H.length+1),rH (aN (bK stay) stay m.H) ya yn,rI (bM stay m.T) ta tn])):=lh (by
        have h0:=HS.out;rw[List.take_of_length_le (nR _)] at h0;rw[fS];exact h0)
       clear HS HCO hlt hk hkl;go_wp2_with fail;clear s0 s1 s2 s3 s4 s5 s6 s7 s8 sf
       go_loopw[11] (fun v11 wr=>∃k:Nat,k≤m.G.length∧v11=.int .i64 k∧Hid (RwS U0 B (({mX m with H:=aN (bK stay) stay m.H,T:=bM stay m.T}:Mac).vals ⟨ya,xg,xc,ta,xq,xa,yn,xgn,xcn,tn,xqn,xan⟩).toArray 30 ⟨xh,xg,xc,xt,xq,xa,xhn,xgn,xcn,xtn,xqn,xan⟩ wr (eN {mX m with G:=cP (iP stay) k m.G} ⟨xh,xg,xc,xt,xq,xa,xhn,xgn,xcn,xtn,xqn,xan⟩ A++[rI (dQ (aO stay) (m.H.length+1) (m.H.length+1)) (some ⟨tb,0,none⟩) (m.H.length+1),rH (aN (bK stay) stay m.H) ya yn,rI (bM stay m.T) ta tn]))) (fun v11 _=>m.G.length-(intOf v11).toNat)
       case atStart=>exact⟨0,Nat.zero_le _,rfl,HS4⟩
       case round =>
        rename World=>wr4
        obtain⟨k,hk,rfl,HS⟩:=hrel;clear HS4;obtain⟨x0,x1,x2,x3,x4,x5,x6,x7,x8,xf⟩:=HS.out.all0;have x1':wr4.cell? ⟨B,1,none⟩=some (.slice xg m.G.length xgn):=x1;clear x0 x1 x2 x3 x4 x5 x6 x7 x8;by_cases hlt:k<m.G.length
        ·obtain⟨gg,hgg,zg⟩:=(HS.out.row 1 rfl).blk (show 0<(cP (iP stay) k m.G).length by rw[bN];omega)
         have hgg':xg=some ⟨gg,0,none⟩:=hgg;clear hgg;subst hgg';obtain⟨m0,m1,m2⟩:=bI5 (HS.out.row 1 rfl) (j:=k) (by rw[bN];exact hlt);have HFA:=lh (gZ (iP stay) hlt);have HSU:=lh (eZ (iP stay) hlt);have HST:=lh (fun x=>HS.out.storeG (i:=1) rfl (j:=k) (by rw[bN];exact hlt) x);rw[HFA.out] at m0;obtain⟨q1,q2⟩:=HT.out.goals _ (List.getElem_mem hlt);obtain⟨q,hq⟩:∃q:Nat,m.G[k].at'=(q:Int):=⟨m.G[k].at'.toNat,by omega⟩
         rw[hq] at m0;have t0:=kL (HS.out.row 6 rfl) (j:=q) (by omega) (by omega);have hq1:((q:Int)<(m.H.length:Int)+1):=by omega
         have zt:=((HS.out.row 6 rfl).lt (b:=tb) rfl).2;have cf:=(HS.out.row 1 rfl).fz rfl;have HQ:=lh hq;clear q1 q2 hq m1 m2;go_wp2_with fail
         go_region
         all_goals
          go_wp2_with fail;refine⟨?rel,?measure⟩
          case measure=>simp only[intOf];omega
          case rel =>
           refine⟨k+1,by omega,by go_num,lh ?_⟩;have h1:=HST.out (aO stay q:Nat);rw[HFA.out] at h1;have h2:iP stay m.G[k] = {m.G[k] with at':=(aO stay q:Int)}:=by
            unfold iP;rw[HQ.out,Int.toNat_natCast]
           rw[←h2,HSU.out] at h1;exact h1.below (bP _ 1)
        ·have hkn:k=m.G.length:=by omega
         subst hkn;have HS5:Hid (RwS U0 B (({mX m with H:=aN (bK stay) stay m.H,T:=bM stay m.T}:Mac).vals ⟨ya,xg,xc,ta,xq,xa,yn,xgn,xcn,tn,xqn,xan⟩).toArray 30 ⟨xh,xg,xc,xt,xq,xa,xhn,xgn,xcn,xtn,xqn,xan⟩ wr4 (eN {mX m with G:=m.G.map (iP stay),Q:=cP (jT stay) 0 m.Q} ⟨xh,xg,xc,xt,xq,xa,xhn,xgn,xcn,xtn,xqn,xan⟩ A++[rI (dQ (aO stay) (m.H.length+1) (m.H.length+1)) (some ⟨tb,0,none⟩) (m.H.length+1),rH (aN (bK stay) stay m.H) ya yn,rI (bM stay m.T) ta tn])):=lh (by
          have h0:=HS.out;rw[gP] at h0;rw[fS];exact h0)
         clear HS hlt hk;go_wp2_with fail;clear x1' xf
         go_loopw[12] (fun v12 wr=>∃k:Nat,k≤m.Q.length∧v12=.int .i64 k∧Hid (RwS U0 B (({mX m with H:=aN (bK stay) stay m.H,T:=bM stay m.T}:Mac).vals ⟨ya,xg,xc,ta,xq,xa,yn,xgn,xcn,tn,xqn,xan⟩).toArray 30 ⟨xh,xg,xc,xt,xq,xa,xhn,xgn,xcn,xtn,xqn,xan⟩ wr (eN {mX m with G:=m.G.map (iP stay),Q:=cP (jT stay) k m.Q} ⟨xh,xg,xc,xt,xq,xa,xhn,xgn,xcn,xtn,xqn,xan⟩ A++[rI (dQ (aO stay) (m.H.length+1) (m.H.length+1)) (some ⟨tb,0,none⟩) (m.H.length+1),rH (aN (bK stay) stay m.H) ya yn,rI (bM stay m.T) ta tn]))) (fun v12 _=>m.Q.length-(intOf v12).toNat)
         case atStart=>exact⟨0,Nat.zero_le _,rfl,HS5⟩
         case round =>
          rename World=>wr5
          obtain⟨k,hk,rfl,HS⟩:=hrel;clear HS5;obtain⟨x0,x1,x2,x3,x4,x5,x6,x7,x8,xf⟩:=HS.out.all0;have x5':wr5.cell? ⟨B,5,none⟩=some (.slice xq m.Q.length xqn):=x5;clear x0 x1 x2 x3 x4 x5 x6 x7 x8;by_cases hlt:k<m.Q.length
          ·obtain⟨gq,hgq,zq⟩:=(HS.out.row 4 rfl).blk (show 0<(cP (jT stay) k m.Q).length by rw[bN];omega)
           have hgq':xq=some ⟨gq,0,none⟩:=hgq;clear hgq;subst hgq';have m0:=pN (HS.out.row 4 rfl) (j:=k) (by rw[bN];exact hlt);have HFA:=lh (gZ (jT stay) hlt);have HSU:=lh (eZ (jT stay) hlt);have HST:=lh (fun x=>HS.out.storeI (i:=4) rfl k x);rw[HFA.out] at m0;obtain⟨q1,q2⟩:=HT.out.query _ (List.getElem_mem hlt);obtain⟨q,hq⟩:∃q:Nat,m.Q[k]=(q:Int):=⟨m.Q[k].toNat,by omega⟩
           rw[hq] at m0;have t0:=kL (HS.out.row 6 rfl) (j:=q) (by omega) (by omega);have hq1:((q:Int)<(m.H.length:Int)+1):=by omega
           have zt:=((HS.out.row 6 rfl).lt (b:=tb) rfl).2;have cf:=(HS.out.row 4 rfl).fz rfl;have HQ:=lh hq;clear q1 q2 hq;go_wp2_with fail
           go_region
           all_goals
            go_wp2_with fail;refine⟨?rel,?measure⟩
            case measure=>simp only[intOf];omega
            case rel =>
             refine⟨k+1,by omega,by go_num,lh ?_⟩;have h1:=HST.out (aO stay q:Nat);have h2:jT stay m.Q[k]=(aO stay q:Int):=by
              unfold jT;rw[HQ.out,Int.toNat_natCast]
             rw[←h2,HSU.out] at h1;rw[h2] at h1;exact h1.below (bP _ 1)
          ·have hkn:k=m.Q.length:=by omega
           subst hkn;have HS6:Hid (RwS U0 B (({mX m with H:=aN (bK stay) stay m.H,T:=bM stay m.T}:Mac).vals ⟨ya,xg,xc,ta,xq,xa,yn,xgn,xcn,tn,xqn,xan⟩).toArray 30 ⟨xh,xg,xc,xt,xq,xa,xhn,xgn,xcn,xtn,xqn,xan⟩ wr5 (eN {mX m with G:=m.G.map (iP stay),Q:=m.Q.map (jT stay),ch:=cP (oU stay m.T) 0 m.ch} ⟨xh,xg,xc,xt,xq,xa,xhn,xgn,xcn,xtn,xqn,xan⟩ A++[rI (dQ (aO stay) (m.H.length+1) (m.H.length+1)) (some ⟨tb,0,none⟩) (m.H.length+1),rH (aN (bK stay) stay m.H) ya yn,rI (bM stay m.T) ta tn])):=lh (by
            have h0:=HS.out;rw[gP] at h0;rw[fS];exact h0)
           clear HS hlt hk;go_wp2_with fail;clear x5' xf
           go_loopw[13] (fun v13 wr=>∃k:Nat,k≤m.ch.length∧v13=.int .i64 k∧Hid (RwS U0 B (({mX m with H:=aN (bK stay) stay m.H,T:=bM stay m.T}:Mac).vals ⟨ya,xg,xc,ta,xq,xa,yn,xgn,xcn,tn,xqn,xan⟩).toArray 30 ⟨xh,xg,xc,xt,xq,xa,xhn,xgn,xcn,xtn,xqn,xan⟩ wr (eN {mX m with G:=m.G.map (iP stay),Q:=m.Q.map (jT stay),ch:=cP (oU stay m.T) k m.ch} ⟨xh,xg,xc,xt,xq,xa,xhn,xgn,xcn,xtn,xqn,xan⟩ A++[rI (dQ (aO stay) (m.H.length+1) (m.H.length+1)) (some ⟨tb,0,none⟩) (m.H.length+1),rH (aN (bK stay) stay m.H) ya yn,rI (bM stay m.T) ta tn]))) (fun v13 _=>m.ch.length-(intOf v13).toNat)
           case atStart=>exact⟨0,Nat.zero_le _,rfl,HS6⟩
           case round =>
            rename World=>wr6
            obtain⟨k,hk,rfl,HS⟩:=hrel;clear HS6;have HCO:=lh (HRD.out _ _ _ HS.out);obtain⟨s0,s1,s2,s3,s4,s5,s6,s7,s8,sf⟩:=HCO.out.src.all;obtain⟨x0,x1,x2,x3,x4,x5,x6,x7,x8,xf⟩:=HS.out.all0;have x3':wr6.cell? ⟨B,3,none⟩=some (.slice xc m.ch.length xcn):=x3;clear x0 x1 x2 x3 x4 x5 x6 x7 x8 s0 s1 s2 s5 s6 s7 s8;by_cases hlt:k<m.ch.length
            ·obtain⟨gk,hgk,zgk⟩:=(HS.out.row 2 rfl).blk (show 0<(cP (oU stay m.T) k m.ch).length by rw[bN];omega)
             have hgk':xc=some ⟨gk,0,none⟩:=hgk;clear hgk;subst hgk';obtain⟨b,off,hdc,hbk,hb,hcs⟩:=HM.out.c.some (by decide) (by omega);rw[hdc] at s3;obtain⟨g0,g1,g2,g3,g4⟩:=jJ m.ch k hlt;have y0:=(HCO.out.below.cell (p:=⟨b,off+k*5,none⟩) hb).trans (hcs _ _ g0);have y1:wr6.cell? ⟨b,off+k*5+1,none⟩=_:=(HCO.out.below.cell (p:=⟨b,off+(k*5+1),none⟩) hb).trans (hcs _ _ g1);have y2:wr6.cell? ⟨b,off+k*5+2,none⟩=_:=(HCO.out.below.cell (p:=⟨b,off+(k*5+2),none⟩) hb).trans (hcs _ _ g2);have y3:wr6.cell? ⟨b,off+k*5+3,none⟩=_:=(HCO.out.below.cell (p:=⟨b,off+(k*5+3),none⟩) hb).trans (hcs _ _ g3);have y4:wr6.cell? ⟨b,off+k*5+4,none⟩=_:=(HCO.out.below.cell (p:=⟨b,off+(k*5+4),none⟩) hb).trans (hcs _ _ g4);have HST:=lh (fun wr7 (hwr:Below wr6.heap.size wr6 wr7) x y=>(HS.out.below hwr).storeK (i:=2) rfl (j:=k) (by rw[bN];exact hlt) x y);have HFA:=lh (gZ (oU stay m.T) hlt);have HSU:=lh (eZ (oU stay m.T) hlt);obtain⟨c1,c2,c3,c4⟩:=HCH.out _ (List.getElem_mem hlt);obtain⟨hq,hhq⟩:∃q:Nat,m.ch[k].heap=(q:Int):=⟨m.ch[k].heap.toNat,by omega⟩
             obtain⟨tq,htq⟩:∃q:Nat,m.ch[k].trail=(q:Int):=⟨m.ch[k].trail.toNat,by omega⟩
             rw[hhq] at y2;rw[htq] at y3;have htq2:tq≤m.T.length:=by omega
             have hhq2:hq≤m.H.length:=by omega
             have HHQ:=lh hhq;have HTQ:=lh htq;clear hcs g0 g1 g2 g3 g4 c1 c2 c3 c4 hhq htq hdc;generalize hck:m.ch[k]=ck at *;clear hck;have zb:b<wr6.heap.size:=nT hb HCO.out.below.size;have zB:=HS.out.blt;obtain⟨W7,hW7⟩:∃W7,W7=wr6.alloc (.cells #[.int .i64 ck.goal,.int .i64 ck.clause,.int .i64 (hq:Nat),.int .i64 (tq:Nat),.int .i64 ck.goals] 67):=⟨_,rfl⟩
             have HB7:Hid (Below wr6.heap.size wr6 W7):=lh (by rw[hW7];exact(bR _ _).alloc (nR _) _);have HC7:Hid (mS W7 wr6.heap.size ⟨ck.goal,ck.clause,hq,tq,ck.goals⟩):=lh ⟨by rw[hW7];exact heap_alloc_new _ _⟩;go_upto_region 39 with fail;rw[←hW7];have HS7:=lh (HS.out.below HB7.out);have HCO7:=lh (HRD.out _ _ _ HS7.out);clear hW7 HS HCO s3 s4 sf x3' xf y0 y1 y2 y3 y4 zb zB;obtain⟨s0,s1,s2,s3,s4,s5,s6,s7,s8,sf⟩:=HCO7.out.src.all;obtain⟨k0,k1,k2,k3,k4,-⟩:=HC7.out.all;have k3':W7.cell? ⟨wr6.heap.size,3,none⟩=some (.int .i64 (tq:Nat)):=k3;have k2':W7.cell? ⟨wr6.heap.size,2,none⟩=some (.int .i64 (hq:Nat)):=k2;clear k0 k1 k2 k3 k4 s0 s1 s2 s3 s5 s6 s7 s8 sf
             go_loopw[15,16] (fun v15 v16 wr=>∃j:Nat,j≤tq∧v15=.int .i64 ((bM stay (m.T.take j)).length:Nat)∧v16=.int .i64 j∧wr=W7) (fun _ v16 _=>tq-(intOf v16).toNat)
             case atStart=>exact⟨0,Nat.zero_le _,rfl,rfl,rfl⟩
             case round =>
              rename World=>wr7
              obtain⟨j,hj,rfl,rfl,hwr⟩:=hrel;have hwr':=hwr.symm;clear hwr;subst hwr';have hkl:(bM stay (m.T.take j)).length≤j:=by have:=jU stay (m.T.take j);rw[List.length_take] at this;omega
              by_cases hjt:j<tq
              ·have hjT:j<m.T.length:=by omega
               obtain⟨b,off,hdt,hbk,hb,c0⟩:=HM.out.t.at' j hjT;rw[hdt] at s4;have y0:=(HCO7.out.below.cell (p:=⟨b,off+j,none⟩) hb).trans c0;obtain⟨q1,q2⟩:=HT.out.trail _ (List.getElem_mem hjT);obtain⟨q,hq'⟩:∃q:Nat,m.T[j]=(q:Int):=⟨m.T[j].toNat,by omega⟩
               have HKU:=lh (oP stay hjT);rw[hq'] at y0 HKU;rw[Int.toNat_natCast] at HKU;have hqs:q<stay.length:=by omega
               have z0:=HCO7.out.cells q hqs;have hgd:stay.getD q false=stay[q]:=by rw[List.getD_eq_getElem?_getD,List.getElem?_eq_getElem hqs];rfl
               rw[hgd] at HKU;obtain⟨tv,htv⟩:∃tv,stay[q]=tv:=⟨_,rfl⟩
               rw[htv] at z0 HKU;have hq2:((q:Int)<(m.H.length:Int)):=by omega
               clear htv hqs q1 q2 hq' hgd c0 hdt k2';generalize bM stay (m.T.take j)=KT at *;have hkt:KT.length≤17592186044416:=by omega
               cases tv with
               | false =>
                go_wp2_with fail;refine⟨?rel,?measure⟩
                case measure=>simp only[intOf];omega
                case rel =>
                 have h2:bM stay (m.T.take (j+1))=KT++[]:=HKU.out;rw[List.append_nil] at h2;exact⟨j+1,by omega,by rw[h2],by go_num,trivial⟩
               | true =>
                go_wp2_with fail;refine⟨?rel,?measure⟩
                case measure=>simp only[intOf];omega
                case rel =>
                 have h2:bM stay (m.T.take (j+1))=KT++[(aO stay q:Int)]:=HKU.out;exact⟨j+1,by omega,by rw[h2,List.length_append];go_num,by go_num,trivial⟩
              ·have hjn:j=tq:=by omega
               subst hjn;have hkl2:(bM stay (m.T.take j)).length≤17592186044416:=by omega
               have HKR:Hid (oU stay m.T ck = {ck with heap:=(aO stay hq:Int),trail:=((bM stay (m.T.take j)).length:Int)}):=lh (by
                unfold oU;rw[HHQ.out,HTQ.out,Int.toNat_natCast,Int.toNat_natCast])
               have HBW:=lh (fun u (hu:u.heap[g]? = some (.cells (stay.map Value.bool).toArray 4 (0,0)))=>bK1 stay (w:=u) (g:=g) (n:=hq) hu (by omega) (by omega));have HSTY:=lh HCO7.out.stay;obtain⟨x0,x1,x2,x3,x4,x5,x6,x7,x8,xf⟩:=HS7.out.all0;have x3':W7.cell? ⟨B,3,none⟩=some (.slice (some ⟨gk,0,none⟩) m.ch.length xcn):=x3;have cf:=(HS7.out.row 2 rfl).fz rfl;have HST7:=lh (fun x y=>HST.out W7 HB7.out x y);obtain⟨m0,m1,m2,m3,m4⟩:=bI6 (HS7.out.row 2 rfl) (j:=k) (by rw[bN];exact hlt);have hgB:gk<W7.heap.size:=((HS7.out.row 2 rfl).lt (b:=gk) rfl).2;clear x0 x1 x2 x3 x4 x5 x6 x7 x8 m0 m1 m4 hj s4;generalize hkt:bM stay (m.T.take j)=KT at *;clear hkt;rw[hll] at HBW;go_wp2_with fail
               go_region_with (go_at_call 39;refine(HBW.out _ (by exact HSTY.out)).mono ?_;rintro e w' ⟨rfl,rfl⟩)
               all_goals
                go_wp2_with fail;refine⟨?rel,?measure⟩
                case measure=>simp only[intOf];omega
                case rel =>
                 refine⟨k+1,by omega,by go_num,lh ?_⟩;have h1:=HST7.out (aO stay hq:Nat) (KT.length:Nat);rw[HFA.out,←HKR.out,HSU.out] at h1;exact h1.below (bP _ 1)
            ·have hkn:k=m.ch.length:=by omega
             subst hkn;obtain⟨s0,s1,s2,s3,s4,s5,s6,s7,s8,sf⟩:=HCO.out.src.all;obtain⟨x0,x1,x2,x3,x4,x5,x6,x7,x8,xf⟩:=HS.out.all0;have hR:=HCO.out.res;have r0:wr6.cell? ⟨w.heap.size+1,0,none⟩=some (.slice none 0 0):=by simp[World.cell?,hR]
             have r1:wr6.cell? ⟨w.heap.size+1,1,none⟩=some (.slice none 0 0):=by simp[World.cell?,hR]
             have r2:wr6.cell? ⟨w.heap.size+1,2,none⟩=some (.int .i64 0):=by simp[World.cell?,hR]
             have r3:wr6.cell? ⟨w.heap.size+1,3,none⟩=some (.slice none 0 0):=by simp[World.cell?,hR]
             have r4:wr6.cell? ⟨w.heap.size+1,4,none⟩=some (.slice none 0 0):=by simp[World.cell?,hR]
             have r5:wr6.cell? ⟨w.heap.size+1,5,none⟩=some (.slice none 0 0):=by simp[World.cell?,hR]
             have r6:wr6.cell? ⟨w.heap.size+1,6,none⟩=some (.int .i64 0):=by simp[World.cell?,hR]
             have r7:wr6.cell? ⟨w.heap.size+1,7,none⟩=some (.int .i64 0):=by simp[World.cell?,hR]
             have r8:wr6.cell? ⟨w.heap.size+1,8,none⟩=some (.slice none 0 0):=by simp[World.cell?,hR]
             have rf:∀o,wr6.frozen? ⟨w.heap.size+1,o,none⟩=false:=fun o=>by simp[World.frozen?,hR]
             have n1:B≠w.heap.size+1:=by have:=HGB.out;omega
             have n2:w.heap.size+1≠B:=n1.symm;have hKL:(aN (bK stay) stay m.H).length≤m.H.length:=by
              rw[iT _ _ _ hll,←hll];exact List.countP_le_length
             clear hR hlt hk;go_wp2_with fail
             go_region
             all_goals
              go_wp2_with fail;refine bodyPost_ret (v:=.tuple #[.agg #[.slice ya (aN (bK stay) stay m.H).length yn,.slice xg (mX m).G.length xgn,.int .i64 (mX m).first,.slice xc m.ch.length xcn,.slice ta (bM stay m.T).length tn,.slice xq (mX m).Q.length xqn,.int .i64 (mX m).steps,.int .i64 (mX m).fin,.slice xa (mX m).ans.length xan],.int .i64 ((m.H.length:Int)-(aN (bK stay) stay m.H).length)]) (by simp[results,Try.results16,go_sem,r0,r1,r2,r3,r4,r5,r6,r7,r8]) rfl ?_;refine⟨⟨ya,xg,xc,ta,xq,xa,yn,xgn,xcn,tn,xqn,xan⟩,by simp[Mac.vals,pT,mX],bK5 (K:=dD stay (mX m)) HS.out HCO.out ((((((((((aA.setCell (M:=fun b=>b=w.heap.size+1) _ rfl).trans (aA.setCell _ rfl)).trans (aA.setCell _ rfl)).trans (aA.setCell _ rfl)).trans (aA.setCell _ rfl)).trans (aA.setCell _ rfl)).trans (aA.setCell _ rfl)).trans (aA.setCell _ rfl)).trans (aA.setCell _ rfl)).trans (aA.below ((bR _ _).drew))) HGB.out HDW.out HU0S.out rfl (gP _ _) rfl (wZ hl HMF.out hll) HE1.out HE3.out⟩
theorem fA{p:List Cl}{m:Mac}(h:aM p m=0):dZ m.H∧fV m∧m.G.length≤5000∧m.Q.length≤12:=by
 unfold aM at h;by_cases h1:aY p≠0
 ·rw[if_pos h1] at h;exact absurd h h1
 rw[if_neg h1] at h;by_cases h2:cH m.H≠0
 ·rw[if_pos h2] at h;exact absurd h h2
 rw[if_neg h2] at h;by_cases h3:5000<m.G.length∨12<m.Q.length
 ·rw[if_pos h3] at h;cases h
 rw[if_neg h3] at h;by_cases h4:dW m=false
 ·rw[if_pos h4] at h;cases h
 refine⟨dZ.of (Decidable.not_not.1 h2),?_,by omega,by omega⟩;exact Classical.byContradiction fun e=>h4 (bJ e)
def yV(w:World)(p:List Cl)(m:Mac)(e:Ending)(w':World):Prop :=
 Below w.heap.size w w'∧((aM p m=0∧∃g,e=.returned (.tuple #[.slice (some ⟨g,0,none⟩) (dU m.H (bX m.G m.Q)).length (dU m.H (bX m.G m.Q)).length,.int .i64 0])∧w.heap.size≤g∧w'.heap[g]? = some (.cells ((dU m.H (bX m.G m.Q)).map Value.bool).toArray 4 (0,0)))
  ∨ (aM p m≠0∧e=.returned (.tuple #[.slice none 0 0,.int .i64 (aM p m:Nat)])))
theorem qY(p:List Cl)(m:Mac)(d:MAd){w:World}{ok:Nat→Prop}{pa:Option Addr}{pc:Nat}(hp:Pr w ok p pa pc)(h:bO w ok m d)(hb:gV m) :
 Calls Try.prog 12 #[.slice pa p.length pc,.agg #[.slice d.h m.H.length d.hn,.slice d.g m.G.length d.gn,.int .i64 m.first,.slice d.c m.ch.length d.cn,.slice d.t m.T.length d.tn,.slice d.q m.Q.length d.qn,.int .i64 m.steps,.int .i64 m.fin,.slice d.a m.ans.length d.an]] w (yV w p m):=by
 obtain⟨wa,hwa⟩:∃wa,wa=w.alloc (.cells #[.slice d.h m.H.length d.hn,.slice d.g m.G.length d.gn,.int .i64 m.first,.slice d.c m.ch.length d.cn,.slice d.t m.T.length d.tn,.slice d.q m.Q.length d.qn,.int .i64 m.steps,.int .i64 m.fin,.slice d.a m.ans.length d.an] 30):=⟨_,rfl⟩
 have HBA:Hid (Below w.heap.size w wa):=lh (by rw[hwa];exact(bR _ _).alloc (nR _) _);have HXB:Hid (cL wa w.heap.size m d):=lh ⟨by rw[hwa];exact heap_alloc_new w _⟩;have HCK:=lh (zL p m d (hp.keep (aD.below HBA.out ok)) (h.keep (aD.below HBA.out ok)) hb);have HLV:=lh (fun u (hu:Below w.heap.size w u) (h0:aM p m=0)=>bJ0 m d (h.keep (aD.below hu ok)) (fA h0).1.cells (fA h0).2.1 (fA h0).1.len (fA h0).2.2.1 (fA h0).2.2.2);clear h hb hp;obtain⟨x0,x1,x2,x3,x4,x5,x6,x7,x8,-⟩:=HXB.out.all;go_enter Try.func12,Try.ntmps12;generalize hck:aM p m=ck at *;have HC0:=lh hck;clear hck;go_wp2_with fail;rw[←hwa];clear hwa;rcases Nat.eq_zero_or_pos ck with hz|hpos
 ·have hz':=hz.symm
  clear hz;subst hz';rw[show ((0:Nat):Int)=0 from rfl] at HCK;go_wp2_with (first|(go_at_call 22;refine HCK.out.mono ?_;rintro e w1 ⟨rfl,hb1⟩;have HB1:=lh hb1;obtain⟨y0,y1,y2,y3,y4,y5,y6,y7,y8,-⟩:=(HXB.out.keep (hb1.block _ HXB.out.lt)).all;clear hb1 x0 x1 x2 x3 x4 x5 x6 x7 x8)|(go_at_call 36;go_loud (refine(HLV.out _ (HBA.out.trans (HB1.out.mono HBA.out.size)) (by trivial)).mono ?_;rintro e w2 ⟨g,rfl,hg,hcs,hb2⟩;have HG:=lh hg;have HCS:=lh hcs;have HB2:=lh hb2;clear hg hcs hb2)));refine bodyPost_ret (v:=.tuple #[.slice (some ⟨g,0,none⟩) (dU m.H (bX m.G m.Q)).length (dU m.H (bX m.G m.Q)).length,.int .i64 0]) (by simp[results,Try.results12,go_sem]) rfl ?_;have hs1:=HB1.out.size;have hs0:=HBA.out.size;refine⟨(HBA.out.trans (HB1.out.mono hs0)).trans (HB2.out.mono (by omega)),.inl ⟨HC0.out,g,rfl,by have:=HG.out;omega,HCS.out⟩⟩
 ·have hne:((ck:Int) != 0)=true:=by rw[bne_iff_ne];omega
  go_wp2_with (go_at_call 22;refine HCK.out.mono ?_;rintro e w1 ⟨rfl,hb1⟩;have HB1:=lh hb1;clear hb1);refine bodyPost_ret (v:=.tuple #[.slice none 0 0,.int .i64 (ck:Nat)]) (by simp[results,Try.results12,go_sem]) rfl ?_;exact⟨HBA.out.trans (HB1.out.mono HBA.out.size),.inr ⟨by rw[HC0.out];omega,by rw[HC0.out]⟩⟩
end Go.Proofs.Ytikmgiapjigghab
