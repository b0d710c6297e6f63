/- Walk: the reference's AllThere. -/
import Derived.Deep.RegionHeld3
import Derived.Deep.CutRange
import Derived.Deep.DeepAppendWide
import Derived.BigRegion
import Derived.Test.YtikmgiapjigghabQc09
import Derived.Test.YtikmgiapjigghabQc19
import Derived.Test.YtikmgiapjigghabQc20
import Derived.Test.YtikmgiapjigghabQc23
import Derived.Test.YtikmgiapjigghabQc27
import Derived.Test.YtikmgiapjigghabQc29
set_option maxRecDepth 100000
set_option maxHeartbeats 8000000
namespace Go.Proofs.Ytikmgiapjigghab
open Go.RowKit
section
variable {P:Program} (w:World)
theorem nW(base:Nat)(t ty e:TypeId)(i:TypeInfo)(z:Value)(size bytes:Nat)(ht:P.underlying t=some (.slice e))(hi:P.info? e=some i)(hz:i.zero=some z)
 (hsize:i.size=size) (hby:i.bytes=bytes) (hzs:z.cells.size=size) (hsz:0<size)
 (v:Value) (n:Nat) (xs:List Value) (hown:w.ownsRow base e size v n xs)
 (ao:Option Addr) (m c:Nat) (hao:ao=none→m=0) (news:List Value) (hl:news.length=m*size) (hnews:∀ad,ao=some ad→∀j u,news[j]? = some u→w.cell? (ad.add j)=some u) (h1:∀u∈news,u.oneCell'=true)
 (h63:n+m≤maxLen) (hbytes:((n+m)+(n+m) / 4+192)*bytes≤281474976710656) (hbase:base≤w.heap.size) :
 ∃v' w',(Builtin.append_ #[t,t] ty #[v,.slice ao m c]).run P w=.ok v' w'∧w'.ownsRow base e size v' (n+m) (xs++news)∧w.grownBy w' v.ownBlock:=by
 cases ao with
 | some ad =>
  obtain⟨v',w',h1,h2,h3,-⟩:=run_append_own_wide w base t ty e i z size bytes ht hi hz hsize hby hzs hsz v n xs hown ad m c news hl (hnews ad rfl) h1 h63 hbytes hbase;exact⟨v',w',h1,h2,h3⟩
 | none =>
  have hm:=hao rfl;subst hm;have hx:news = []:=List.eq_nil_of_length_eq_zero (by simpa using hl);subst hx;refine⟨v,w,?_,by simpa using hown,pM _ _⟩;have hsrc:Src P i.size t (.slice none 0 c) 0 [] w:=Src.ofNil (w:=w) ht c;rcases hown.2 with ⟨rfl,_⟩|⟨g,cap,cur,rfl,_,_,hnc,_⟩
  ·exact run_append_nothing w t t ty e i ht hi none 0 0 (nR _) _ hsrc
  ·exact run_append_nothing w t t ty e i ht hi _ n cap hnc _ hsrc
theorem nC{ops:Array Oper}{o:Oper}{a:Act}{K:Act→World→Prop}{Q:Exit→Act→World→Prop}{E:Prop}(hgd:o.guard=none)(s x:Operand)(t:TypeId)
 (ho:o.op=.call {callee:=.builtin .append,args:=#[s,x],argTypes:=#[t,t]})
 (base:Nat) (e:TypeId) (i:TypeInfo) (z:Value) (size bytes:Nat) (ht:P.underlying t=some (.slice e)) (hi:P.info? e=some i) (hz:i.zero=some z)
 (hsize:i.size=size) (hby:i.bytes=bytes) (hzs:z.cells.size=size) (hsz:0<size)
 (v:Value) (n:Nat) (xs:List Value) (hs:a.eval s=v) (hown:w.ownsRow base e size v n xs)
 (ao:Option Addr) (m c:Nat) (hao:ao=none→m=0) (news:List Value) (hx:a.eval x=.slice ao m c) (hl:news.length=m*size) (hnews:∀ad,ao=some ad→∀j u,news[j]? = some u→w.cell? (ad.add j)=some u) (h1:∀u∈news,u.oneCell'=true)
 (h63:n+m≤maxLen) (hbytes:((n+m)+(n+m) / 4+192)*bytes≤281474976710656) (hbase:base≤w.heap.size)
 (h:∀v' w',w'.ownsRow base e size v' (n+m) (xs++news)→w.grownBy w' v.ownBlock→K (a.put o.dst v') w') :
 if Region.wanted o (yielded ops a.tmps)=true then Oper.wp P o a w K Q else E:=by
 have hw:Region.wanted o (yielded ops a.tmps)=true:=by simp[Region.wanted,hgd]
 rw[if_pos hw];obtain⟨v',w',hr,h2,h3⟩:=nW (P:=P) w base t o.type e i z size bytes ht hi hz hsize hby hzs hsz v n xs hown ao m c hao news hl hnews h1 h63 hbytes hbase;unfold Oper.wp execOp;simp only[ho,resolve,invoke,builtin,Sem.run_bind,Sem.run_pure,Result.andThen_ok,List.map_toArray,List.map_cons,List.map_nil,hs,hx,hr];exact h v' w' h2 h3
end
theorem rQ(m:Mac)(d:MAd){w:World}{ok:Nat→Prop}(h:bO w ok m d)(hN:lC m.H)(hlen:m.H.length≤400000)(hT:m.T.length≤17592186044416)(hQ:m.Q.length≤12) :
 Calls Try.prog 27 #[.agg #[.slice d.h m.H.length d.hn,.slice d.g m.G.length d.gn,.int .i64 m.first,.slice d.c m.ch.length d.cn,.slice d.t m.T.length d.tn,.slice d.q m.Q.length d.qn,.int .i64 m.steps,.int .i64 m.fin,.slice d.a m.ans.length d.an]] w
  fun e w'=>e=.returned (.bool (dW m))∧Below w.heap.size w w':=by
 obtain⟨dh,dg,dc,dt,dq,da,dhn,dgn,dcn,dtn,dqn,dan⟩:=d;simp only;have HM:Hid (bO w (fun b=>b<w.heap.size) m ⟨dh,dg,dc,dt,dq,da,dhn,dgn,dcn,dtn,dqn,dan⟩):=lh (h.mono fun b hb _=>hb);have HNR:=lh hN;have hn9:m.H.length≤9223372036854775807:=by omega
 have hg9:m.G.length≤9223372036854775807:=by have:=h.g.cap;unfold maxLen at this;omega
 have B1:Below w.heap.size w (w.alloc (.cells (m.vals ⟨dh,dg,dc,dt,dq,da,dhn,dgn,dcn,dtn,dqn,dan⟩).toArray 30)):=(bR _ _).alloc (nR _) _;have HB1:=lh B1;have HX:Hid (cL (w.alloc (.cells (m.vals ⟨dh,dg,dc,dt,dq,da,dhn,dgn,dcn,dtn,dqn,dan⟩).toArray 30)) w.heap.size m ⟨dh,dg,dc,dt,dq,da,dhn,dgn,dcn,dtn,dqn,dan⟩):=lh (cL.made _ _ _);have hx0:=HX.out.all.1;clear h hN B1;simp only[Mac.vals] at HX HB1 hx0;have hlast:((m.H.length:Int)-1)=(m.H.length:Int)-1:=rfl;go_enter Try.func27,Try.ntmps27;go_wp2_with fail;generalize (w.alloc (.cells #[.slice dh m.H.length dhn,.slice dg m.G.length dgn,.int .i64 m.first,.slice dc m.ch.length dcn,.slice dt m.T.length dtn,.slice dq m.Q.length dqn,.int .i64 m.steps,.int .i64 m.fin,.slice da m.ans.length dan] 30))=wb at *;clear hx0
 go_loopw[4] (fun x4 wr=>∃i:Nat,i≤m.H.length∧x4=.int .i64 i∧Hid (Below wb.heap.size wb wr)∧Hid (∀j,j<i→kP m.H j)) (fun x4 _=>m.H.length-(intOf x4).toNat)
 case atStart=>exact⟨0,Nat.zero_le _,rfl,lh (bR _ _),lh fun j h=>absurd h (Nat.not_lt_zero j)⟩
 case round =>
  obtain⟨i,hi,rfl,HB2,HI⟩:=hrel;obtain⟨x0,x1,x2,x3,x4,x5,x6,x7,x8,xf⟩:=(HX.out.below HB2.out).all;have HB3:Hid (Below w.heap.size w wr):=lh (HB1.out.trans (HB2.out.mono HB1.out.size));by_cases hlt:i<m.H.length
  ·obtain⟨b,off,hda,hokb,hb,c0,c1,c2,hf⟩:=HM.out.h.at' i hlt
   have hda':dh=some ⟨b,off,none⟩:=hda;clear hda;subst hda';have m0:=(HB3.out.cell (p:=⟨b,off+i*3,none⟩) hb).trans c0;have m1:=(HB3.out.cell (p:=⟨b,off+i*3+1,none⟩) hb).trans c1;clear c0 c1 c2 hf hokb;have HNR2:=HNR.out i hlt;have hcb:(m.H.length:Int)≤400000:=by omega
   by_cases hk1:(hc m.H i).k=1
   ·rw[hk1] at m0
    have hk2:((1:Int) == 2)=false:=by decide
    have hbe:=qR m.H.length (hc m.H i).n;by_cases hin:InH m.H.length (hc m.H i).n
    ·rw[decide_eq_true hin] at hbe
     have HBE:=lh hbe;have HI2:Hid (∀j,j<i+1→kP m.H j):=lh fun j hj=>by
      rcases Nat.lt_succ_iff_lt_or_eq.1 hj with h|h
      ·exact HI.out j h
      ·subst h;exact⟨fun _=>hin,fun e=>by omega⟩
     clear hbe hin;go_wp2_with (go_at_call 28;refine(aP _ _ _ _).mono ?_;rintro e w1 ⟨rfl,rfl⟩;rw[HBE.out]);go_roundw
     case measure=>simp only[intOf];omega
     case rel=>exact⟨i+1,by omega,by go_num,HB2,HI2⟩
    ·rw[decide_eq_false hin] at hbe
     have HBE:=lh hbe;have HNO:Hid (dW m=false):=lh (bJ fun h=>hin ((h.cells i hlt).1 hk1));clear hbe hin;go_wp2_with (go_at_call 28;refine(aP _ _ _ _).mono ?_;rintro e w1 ⟨rfl,rfl⟩;rw[HBE.out]);go_ret;exact⟨by rw[HNO.out];rfl,HB3.out⟩
   ·have hk1':((hc m.H i).k == 1)=false:=by rw[beq_eq_false_iff_ne];exact hk1
    by_cases hk2:(hc m.H i).k=2
    ·rw[hk2] at m0
     have hk12:((2:Int) == 1)=false:=by decide
     obtain⟨n1,n2⟩:=HNR2 hk2;by_cases hin:(i:Int)+(hc m.H i).n<(m.H.length:Int)
     ·have HI2:Hid (∀j,j<i+1→kP m.H j):=lh fun j hj=>by
       rcases Nat.lt_succ_iff_lt_or_eq.1 hj with h|h
       ·exact HI.out j h
       ·subst h;exact⟨fun e=>by omega,fun _=>hin⟩
      go_wp2_with fail;go_roundw
      case measure=>simp only[intOf];omega
      case rel=>exact⟨i+1,by omega,by go_num,HB2,HI2⟩
     ·have HNO:Hid (dW m=false):=lh (bJ fun h=>hin ((h.cells i hlt).2 hk2))
      go_wp2_with fail;go_ret;exact⟨by rw[HNO.out];rfl,HB3.out⟩
    ·have hk2':((hc m.H i).k == 2)=false:=by rw[beq_eq_false_iff_ne];exact hk2
     have HI2:Hid (∀j,j<i+1→kP m.H j):=lh fun j hj=>by
      rcases Nat.lt_succ_iff_lt_or_eq.1 hj with h|h
      ·exact HI.out j h
      ·subst h;exact⟨fun e=>absurd e hk1,fun e=>absurd e hk2⟩
     clear hk1 hk2;go_wp2_with fail;go_roundw
     case measure=>simp only[intOf];omega
     case rel=>exact⟨i+1,by omega,by go_num,HB2,HI2⟩
  ·have HC:Hid (∀j,j<m.H.length→kP m.H j):=lh fun j hj=>HI.out j (by omega)
   clear HI;go_wp2_with fail;generalize wr=wy at *
   go_loopw[5] (fun x5 wr=>∃i:Nat,i≤m.G.length∧x5=.int .i64 i∧Hid (Below wb.heap.size wb wr)∧Hid (∀j (hj:j<m.G.length),j<i→InH m.H.length m.G[j].at')) (fun x5 _=>m.G.length-(intOf x5).toNat)
   case atStart=>exact⟨0,Nat.zero_le _,rfl,HB2,lh fun j _ h=>absurd h (Nat.not_lt_zero j)⟩
   case round =>
    obtain⟨i2,hi2,rfl,HB2',HI⟩:=hrel;obtain⟨x0,x1,x2,x3,x4,x5,x6,x7,x8,xf⟩:=(HX.out.below HB2'.out).all;have HB3':Hid (Below w.heap.size w wr):=lh (HB1.out.trans (HB2'.out.mono HB1.out.size));by_cases hlt2:i2<m.G.length
    ·obtain⟨b,off,hda,-,hb,hcs⟩:=HM.out.g.some (by decide) (by omega)
     have hda':dg=some ⟨b,off,none⟩:=hda;clear hda;subst hda';obtain⟨g0,-,-⟩:=fU m.G i2 hlt2;have m0:=(HB3'.out.cell (p:=⟨b,off+i2*3,none⟩) hb).trans (hcs _ _ g0);clear hcs g0;have hbe:=qR m.H.length m.G[i2].at';by_cases hin:InH m.H.length m.G[i2].at'
     ·rw[decide_eq_true hin] at hbe
      have HBE:=lh hbe;have HI2:Hid (∀j (hj:j<m.G.length),j<i2+1→InH m.H.length m.G[j].at'):=lh fun j hj hj2=>by
       rcases Nat.lt_succ_iff_lt_or_eq.1 hj2 with h|h
       ·exact HI.out j hj h
       ·subst h;exact hin
      clear hbe hin;go_wp2_with (go_at_call 28;refine(aP _ _ _ _).mono ?_;rintro e w1 ⟨rfl,rfl⟩;rw[HBE.out]);go_roundw
      case measure=>simp only[intOf];omega
      case rel=>exact⟨i2+1,by omega,by go_num,HB2',HI2⟩
     ·rw[decide_eq_false hin] at hbe
      have HBE:=lh hbe;have HNO:Hid (dW m=false):=lh (bJ fun h=>hin (h.goals _ (List.getElem_mem hlt2)));clear hbe hin;go_wp2_with (go_at_call 28;refine(aP _ _ _ _).mono ?_;rintro e w1 ⟨rfl,rfl⟩;rw[HBE.out]);go_ret;exact⟨by rw[HNO.out];rfl,HB3'.out⟩
    ·have HG:Hid (∀g,g∈m.G→InH m.H.length g.at'):=lh fun g hg=>by
      obtain⟨j,hj,rfl⟩:=List.mem_iff_getElem.1 hg;exact HI.out j hj (by omega)
     clear HI;have HTT:=lh HM.out.t;have HQQ:=lh HM.out.q;have hane:dt=none→m.T.length=0:=fun e=>by have:=HTT.out.cap;have h2:=this.2.2 e;have:=this.1;omega
     have haneq:dq=none→m.Q.length=0:=fun e=>by have:=HQQ.out.cap;have h2:=this.2.2 e;have:=this.1;omega
     have HO0:Hid ((wr.alloc (.cells #[] 3)).drew.ownsRow wr.heap.size 3 1 (.slice (some ⟨wr.heap.size,0,none⟩) 0 0) 0 []):=lh (by
      have:=World.ownsRow_lit (base:=wr.heap.size) (e:=3) (size:=1) wr #[] 0 (nR _) (Nat.zero_le _) rfl;exact this)
     have HNT:Hid (∀u,Below wr.heap.size wr u→∀ad,dt=some ad→∀j v,(m.T.map fun x=>Value.int .i64 x)[j]? = some v→u.cell? (ad.add j)=some v):=lh fun u hu ad had j v hv=>by
      subst had;exact(((HTT.out.keep (aD.below HB3'.out _)).keep (aD.below hu _)).rw'.news j v hv)
     have HNQ:Hid (∀u,Below wr.heap.size wr u→∀ad,dq=some ad→∀j v,(m.Q.map fun x=>Value.int .i64 x)[j]? = some v→u.cell? (ad.add j)=some v):=lh fun u hu ad had j v hv=>by
      subst had;exact(((HQQ.out.keep (aD.below HB3'.out _)).keep (aD.below hu _)).rw'.news j v hv)
     obtain⟨i0,hi0,hz0,hz1,hz2⟩:=info_parts Try.infoInt;have hone:∀(l:List Int),∀u∈l.map (fun x=>Value.int .i64 x),u.oneCell'=true:=fun l u hu=>by obtain⟨x,_,rfl⟩:=List.mem_map.1 hu;rfl
     have KH:Hid (∀u,Below wr.heap.size wr u→(fun u=>u.cell? ⟨w.heap.size,4,none⟩=some (.slice dt m.T.length dtn)∧u.cell? ⟨w.heap.size,5,none⟩=some (.slice dq m.Q.length dqn)) u):=lh fun u hu=>by
      obtain⟨x0,x1,x2,x3,x4,x5,x6,x7,x8,xf⟩:=((HX.out.below HB2'.out).below hu).all;exact⟨x4,x5⟩
     go_upto_region 12 with fail;clear x0 x1 x2 x3 x4 x5 x6 x7 x8 xf
     go_cut[6] (fun x6 wx=>∃a6 c6,x6=.slice a6 (m.T++m.Q).length c6∧Hid (dC wx (fun _=>True) (m.T++m.Q) a6 c6)∧Hid (Below wr.heap.size wr wx))
     case first =>
      go_region_held3 (fun u=>u.cell? ⟨w.heap.size,4,none⟩=some (.slice dt m.T.length dtn)∧u.cell? ⟨w.heap.size,5,none⟩=some (.slice dq m.Q.length dqn))
       (first|assumption|exact KH.out _ (bR _ _).drew|exact KH.out _ ((bR _ _).alloc (nR _) _).drew|exact KH.out _ hbl1.drew|exact KH.out _ hbl1|exact KH.out _ hbl2.drew|exact KH.out _ hbl2)
       (first
       | (
        refine eB _ (by rfl) _ _ _ (by rfl) wr.heap.size 3 i0 _ 1 8 Try.underlying27 hi0 hz0 hz1 hz2 rfl (by decide) (.slice (some ⟨wr.heap.size,0,none⟩) 0 0) 0 [] (by rfl) HO0.out dt m.T.length dtn hane (m.T.map fun x=>Value.int .i64 x) (by rfl) (by simp) (HNT.out _ (((bR _ _).alloc (nR _) _).drew)) (hone _) (by unfold maxLen;omega) (by omega) (by simp) ?_;intro v1 w4 hown1 hgrow1 hfr1;have hbl1:Below wr.heap.size wr w4:=(((bR _ _).alloc (nR _) _).drew).grown hgrow1 (by simp) (fun g hg=>by simp only[Value.ownBlock,Option.some.injEq] at hg;omega);rw[Nat.zero_add,List.nil_append] at hown1)
       | (
        refine nC _ (by rfl) _ _ _ (by rfl) wr.heap.size 3 i0 _ 1 8 Try.underlying27 hi0 hz0 hz1 hz2 rfl (by decide) v1 m.T.length (m.T.map fun x=>Value.int .i64 x) (by rfl) (by first|exact hown1|exact aH hown1 (bR _ _).drew) dq m.Q.length dqn haneq (m.Q.map fun x=>Value.int .i64 x) (by rfl) (by simp) (HNQ.out _ (by first|exact hbl1|exact hbl1.drew)) (hone _) (by unfold maxLen;omega) (by omega) (by have:=hbl1.size;omega) ?_;intro v2 w5 hown2 hgrow2;have hbl2:Below wr.heap.size wr w5:=hbl1.grown hgrow2 (by have:=hbl1.size;omega) (fun g hg=>by have:=(hown1.lt g hg).1;omega)))
      all_goals
       have hrow:w5.ownsRow wr.heap.size 3 1 v2 (m.T++m.Q).length ((m.T++m.Q).map fun x=>Value.int .i64 x):=by
        rw[List.length_append,List.map_append];exact hown2
       obtain⟨a6,c6,rfl,hia⟩:=dC.of_row (ok:=fun _=>True) hrow (fun _ _=>trivial);have HIA:=lh hia;have HBL2:=lh hbl2;clear hrow hown1 hown2 hia hbl1 hbl2 hgrow1 hgrow2 hfr1;go_wp2_with fail;go_meet;exact⟨a6,c6,by rw[List.length_append],HIA,HBL2⟩
     case rest =>
      obtain⟨a6,c6,rfl,HIA,HBL2⟩:=hcut;have hl9:(m.T++m.Q).length≤9223372036854775807:=by rw[List.length_append];omega
      have HB4:Hid (Below w.heap.size w wc):=lh (HB3'.out.trans (HBL2.out.mono HB3'.out.size));clear KH HNT HNQ HO0;generalize hl:m.T++m.Q=l at *;have HL:=lh hl;clear hl;go_wp2_with fail
      go_loopw[7] (fun x7 wr=>∃i:Nat,i≤l.length∧x7=.int .i64 i∧Hid (Below wc.heap.size wc wr)∧Hid (∀j (hj:j<l.length),j<i→InH m.H.length l[j])) (fun x7 _=>l.length-(intOf x7).toNat)
      case atStart=>exact⟨0,Nat.zero_le _,rfl,lh (bR _ _),lh fun j _ h=>absurd h (Nat.not_lt_zero j)⟩
      case round =>
       obtain⟨i3,hi3,rfl,HB5,HI⟩:=hrel;by_cases hlt3:i3<l.length
       ·obtain⟨b,off,hda,-,hb,c0⟩:=HIA.out.at' i3 hlt3
        subst hda;have m0:=(HB5.out.cell (p:=⟨b,off+i3,none⟩) hb).trans c0;clear c0;have hbe:=qR m.H.length l[i3];by_cases hin:InH m.H.length l[i3]
        ·rw[decide_eq_true hin] at hbe
         have HBE:=lh hbe;have HI2:Hid (∀j (hj:j<l.length),j<i3+1→InH m.H.length l[j]):=lh fun j hj hj2=>by
          rcases Nat.lt_succ_iff_lt_or_eq.1 hj2 with h|h
          ·exact HI.out j hj h
          ·subst h;exact hin
         clear hbe hin;go_wp2_with (go_at_call 28;refine(aP _ _ _ _).mono ?_;rintro e w1 ⟨rfl,rfl⟩;rw[HBE.out]);go_roundw
         case measure=>simp only[intOf];omega
         case rel=>exact⟨i3+1,by omega,by go_num,HB5,HI2⟩
        ·rw[decide_eq_false hin] at hbe
         have HBE:=lh hbe;have HNO:Hid (dW m=false):=lh (bJ fun h=>hin (by
          have hm:l[i3]∈m.T++m.Q:=by rw[HL.out];exact List.getElem_mem hlt3
          rcases List.mem_append.1 hm with e|e
          ·exact h.trail _ e
          ·exact h.query _ e))
         clear hbe hin;go_wp2_with (go_at_call 28;refine(aP _ _ _ _).mono ?_;rintro e w1 ⟨rfl,rfl⟩;rw[HBE.out]);go_ret;exact⟨by rw[HNO.out];rfl,HB4.out.trans (HB5.out.mono HB4.out.size)⟩
       ·have HYES:Hid (dW m=true):=lh (cK ⟨HC.out,HG.out,fun x hx=>by
         have hm:x∈l:=by rw[←HL.out];exact List.mem_append_left _ hx
         obtain⟨j,hj,rfl⟩:=List.mem_iff_getElem.1 hm;exact HI.out j hj (by omega),fun x hx=>by
         have hm:x∈l:=by rw[←HL.out];exact List.mem_append_right _ hx
         obtain⟨j,hj,rfl⟩:=List.mem_iff_getElem.1 hm;exact HI.out j hj (by omega)⟩)
        clear HI;go_wp2_with fail;go_ret;exact⟨by rw[HYES.out];rfl,HB4.out.trans (HB5.out.mono HB4.out.size)⟩
theorem aH8(m:Mac)(c:Chi):(cY m c).H.length≤m.H.length∧(cY m c).T.length≤m.T.length:=by
 constructor
 ·simp only[cY,List.length_take,dH];omega
 ·simp only[cY,List.length_take];omega
theorem wP(p:List Cl)(m:Mac)(d:MAd){w:World}{ok:Nat→Prop}{pa:Option Addr}{pc:Nat}(hp:Pr w ok p pa pc)(h:bO w ok m d)(hb:gV m) :
 Calls Try.prog 8 #[.slice pa p.length pc,.agg #[.slice d.h m.H.length d.hn,.slice d.g m.G.length d.gn,.int .i64 m.first,.slice d.c m.ch.length d.cn,.slice d.t m.T.length d.tn,.slice d.q m.Q.length d.qn,.int .i64 m.steps,.int .i64 m.fin,.slice d.a m.ans.length d.an]] w
  fun e w'=>e=.returned (.int .i64 (aM p m:Nat))∧Below w.heap.size w w':=by
 have hg9:m.G.length≤9223372036854775807:=by have:=h.g.cap;unfold maxLen at this;omega
 have hq9:m.Q.length≤9223372036854775807:=by have:=h.q.cap;unfold maxLen at this;omega
 have hc9:m.ch.length≤9223372036854775807:=by have:=h.c.cap;unfold maxLen at this;omega
 have ht9:m.T.length≤9223372036854775807:=by have:=h.t.cap;unfold maxLen at this;omega
 have hp9:p.length≤9223372036854775807:=by have:=hp.room;unfold maxLen at this;omega
 have ht4:m.T.length≤17592186044416:=by have:=hb.t;omega
 have HCL:Hid (∀u,Below w.heap.size w u→Calls Try.prog 25 #[.slice pa p.length pc] u fun e w'=>e=.returned (.int .i64 (aY p:Nat))∧Below u.heap.size u w'):=lh (fun u hu=>wD p u (fun _=>True) (fun _ _=>trivial) pa pc ((hp.mono fun _ _ _=>trivial).keep (aD.below hu _)));have HMB:=lh (fun u (hu:Below w.heap.size w u)=>(h.mono (ok':=fun b=>b<w.heap.size) fun b hb _=>hb).keep (aD.below hu _));have HM:Hid (bO w (fun b=>b<w.heap.size) m d):=lh (h.mono fun b hb _=>hb);have HXB:Hid (∀u,Below (w.heap.size+1) (w.alloc (.cells (m.vals d).toArray 30)) u→cL u w.heap.size m d):=lh fun u hu=>(cL.made w m d).below (by simpa using hu)
 have HWB:Hid (∀u,Below (w.heap.size+1) (w.alloc (.cells (m.vals d).toArray 30)) u→Below w.heap.size w u):=lh fun u hu=>((bR _ _).alloc (nR _) _).trans (hu.mono (by omega))
 have HB0:Hid (Below (w.heap.size+1) (w.alloc (.cells (m.vals d).toArray 30)) (w.alloc (.cells (m.vals d).toArray 30))):=lh (bR _ _);have HUP:Hid (∀u v,Below (w.heap.size+1) (w.alloc (.cells (m.vals d).toArray 30)) u→Below u.heap.size u v→Below (w.heap.size+1) (w.alloc (.cells (m.vals d).toArray 30)) v):=lh fun u v hu hv=>hu.trans (hv.mono (by have:=hu.size;simp at this;omega))
 have HBIG:=lh hb;clear h hp hb;obtain⟨dh,dg,dc,dt,dq,da,dhn,dgn,dcn,dtn,dqn,dan⟩:=d;simp only[Mac.vals] at HXB HWB HB0 HUP;simp only;by_cases e1:aY p=0
 ·have h1:=e1
  have t1:((aY p:Int) == 0)=true:=by rw[e1];rfl
  have t2:((aY p:Int) != 0)=false:=by rw[e1];rfl
  by_cases e2:cH m.H=0
  ·have h2:=e2
   have t3:((cH m.H:Int) != 0)=false:=by rw[e2];rfl
   have hI:=dZ.of e2;have hl4:=hI.len;have HNR:=lh (sP hI);clear hI;by_cases e3:5000<m.G.length
   as_aux_lemma =>
    ·have HR:Hid (aM p m=2):=lh (by unfold aM;rw[if_neg (fun e=>e h1),if_neg (fun e=>e h2),if_pos (.inl e3)])
     have t4:(5000:Int)<(m.G.length:Int):=by omega
     clear e1 e2 h1 h2;go_enter Try.func8,Try.ntmps8;go_wp2_with (first|(go_at_call 25;refine(HCL.out _ (HWB.out _ HB0.out)).mono ?_;rintro e w1 ⟨rfl,hb1⟩;have B1:=lh (HUP.out _ _ HB0.out hb1);obtain⟨y0,y1,y2,y3,y4,y5,y6,y7,y8,-⟩:=(HXB.out _ B1.out).all;clear hb1)|(go_at_call 26;refine(kN (HMB.out _ (HWB.out _ B1.out)).h).mono ?_;rintro e w2 ⟨rfl,hb2⟩;have B2:=lh (HUP.out _ _ B1.out hb2);obtain⟨z0,z1,z2,z3,z4,z5,z6,z7,z8,-⟩:=(HXB.out _ B2.out).all;clear hb2));go_ret;rw[HR.out];exact⟨rfl,HWB.out _ B2.out⟩
   ·by_cases e3':12<m.Q.length
    as_aux_lemma =>
     ·have HR:Hid (aM p m=2):=lh (by unfold aM;rw[if_neg (fun e=>e h1),if_neg (fun e=>e h2),if_pos (.inr e3')])
      have t4:¬(5000:Int)<(m.G.length:Int):=by omega
      have t5:(12:Int)<(m.Q.length:Int):=by omega
      clear e1 e2 h1 h2;go_enter Try.func8,Try.ntmps8;go_wp2_with (first|(go_at_call 25;refine(HCL.out _ (HWB.out _ HB0.out)).mono ?_;rintro e w1 ⟨rfl,hb1⟩;have B1:=lh (HUP.out _ _ HB0.out hb1);obtain⟨y0,y1,y2,y3,y4,y5,y6,y7,y8,-⟩:=(HXB.out _ B1.out).all;clear hb1)|(go_at_call 26;refine(kN (HMB.out _ (HWB.out _ B1.out)).h).mono ?_;rintro e w2 ⟨rfl,hb2⟩;have B2:=lh (HUP.out _ _ B1.out hb2);obtain⟨z0,z1,z2,z3,z4,z5,z6,z7,z8,-⟩:=(HXB.out _ B2.out).all;clear hb2));go_ret;rw[HR.out];exact⟨rfl,HWB.out _ B2.out⟩
    ·have h3:¬(5000<m.G.length∨12<m.Q.length):=fun e=>e.elim e3 e3'
     have t4:¬(5000:Int)<(m.G.length:Int):=by omega
     have t5:¬(12:Int)<(m.Q.length:Int):=by omega
     have hQ12:m.Q.length≤12:=by omega
     by_cases e4:fV m
     ·have hth:dW m=true:=cK e4
      have h4:¬dW m=false:=by rw[hth];decide
      have HTH:=lh e4;have HTB:=lh hth;have H1:=lh h1;have H2:=lh h2;have H3:=lh h3;have H4:=lh h4;clear e1 e2 h1 h2 e3 e3' h3 h4 e4 hth;go_enter Try.func8,Try.ntmps8;go_wp2_with (first|(go_at_call 25;refine(HCL.out _ (HWB.out _ HB0.out)).mono ?_;rintro e w1 ⟨rfl,hb1⟩;have B1:=lh (HUP.out _ _ HB0.out hb1);obtain⟨y0,y1,y2,y3,y4,y5,y6,y7,y8,-⟩:=(HXB.out _ B1.out).all;clear hb1)|(go_at_call 26;refine(kN (HMB.out _ (HWB.out _ B1.out)).h).mono ?_;rintro e w2 ⟨rfl,hb2⟩;have B2:=lh (HUP.out _ _ B1.out hb2);obtain⟨z0,z1,z2,z3,z4,z5,z6,z7,z8,-⟩:=(HXB.out _ B2.out).all;clear hb2)|(go_at_call 27;refine(rQ m ⟨dh,dg,dc,dt,dq,da,dhn,dgn,dcn,dtn,dqn,dan⟩ (HMB.out _ (HWB.out _ B2.out)) HNR.out hl4 ht4 hQ12).mono ?_;rintro e w3 ⟨rfl,hb3⟩;rw[HTB.out];have B3:=lh (HUP.out _ _ B2.out hb3);obtain⟨x0,x1,x2,x3,x4,x5,x6,x7,x8,-⟩:=(HXB.out _ B3.out).all;clear hb3))
      go_loopw[6] (fun x6 wr=>∃i:Nat,i≤m.G.length∧x6=.int .i64 i∧Hid (Below (w.heap.size+1) (w.alloc (.cells #[.slice dh m.H.length dhn,.slice dg m.G.length dgn,.int .i64 m.first,.slice dc m.ch.length dcn,.slice dt m.T.length dtn,.slice dq m.Q.length dqn,.int .i64 m.steps,.int .i64 m.fin,.slice da m.ans.length dan] 30)) wr)∧Hid (∀j (hj:j<m.G.length),j<i→kR m.G j hj)) (fun x6 _=>m.G.length-(intOf x6).toNat)
      case atStart=>exact⟨0,Nat.zero_le _,rfl,B3,lh fun j _ h=>absurd h (Nat.not_lt_zero j)⟩
      case round =>
       obtain⟨i,hi,rfl,BL,HG⟩:=hrel;obtain⟨q0,q1,q2,q3,q4,q5,q6,q7,q8,-⟩:=(HXB.out _ BL.out).all;by_cases hlt:i<m.G.length
       as_aux_lemma =>
        ·obtain⟨b,off,hda,-,hbl,hcs⟩:=HM.out.g.some (by decide) (by omega)
         have hda':dg=some ⟨b,off,none⟩:=hda;clear hda;subst hda';obtain⟨-,g1,g2⟩:=fU m.G i hlt;have HBW:=lh (HWB.out _ BL.out);have m1:wr.cell? ⟨b,off+i*3+1,none⟩=_:=(HBW.out.cell (p:=⟨b,off+(i*3+1),none⟩) hbl).trans (hcs _ _ g1);have m2:wr.cell? ⟨b,off+i*3+2,none⟩=_:=(HBW.out.cell (p:=⟨b,off+(i*3+2),none⟩) hbl).trans (hcs _ _ g2);clear hcs g1 g2;have HNG:Hid (¬kR m.G i hlt→aM p m=4):=lh fun hg=>by
          have H5:pd (jX m.G)=false:=bJ fun e=>hg (e i hlt)
          unfold aM;rw[if_neg (fun e=>e H1.out),if_neg (fun e=>e H2.out),if_neg H3.out,if_neg H4.out,if_pos H5]
         by_cases hnx:0≤m.G[i].next∧m.G[i].next≤(i:Int)
         ·have b1:bY m.G[i].next 0 (i:Int)=true:=cV hnx
          by_cases hct:m.G[i].cut<0
          ·have HR:Hid (aM p m=4):=lh (HNG.out fun e=>by have:=e.2.2;omega)
           clear hnx;go_wp2_with (go_at_call 28;refine(aP _ _ _ _).mono ?_;rintro e w5 ⟨rfl,rfl⟩);go_ret;rw[HR.out];exact⟨rfl,HBW.out⟩
          ·have HG2:Hid (∀j (hj:j<m.G.length),j<i+1→kR m.G j hj):=lh fun j hj h=>by
            by_cases e:j=i
            ·subst e;exact⟨hnx.1,hnx.2,by omega⟩
            ·exact HG.out j hj (by omega)
           clear hnx;go_wp2_with (go_at_call 28;refine(aP _ _ _ _).mono ?_;rintro e w5 ⟨rfl,rfl⟩);go_roundw
           case measure=>simp only[intOf];omega
           case rel=>exact⟨i+1,by omega,by go_num,BL,HG2⟩
         ·have b1:bY m.G[i].next 0 (i:Int)=false:=cA hnx
          have HR:Hid (aM p m=4):=lh (HNG.out fun e=>hnx ⟨e.1,e.2.1⟩);clear hnx;go_wp2_with (go_at_call 28;refine(aP _ _ _ _).mono ?_;rintro e w5 ⟨rfl,rfl⟩);go_ret;rw[HR.out];exact⟨rfl,HBW.out⟩
       ·have H5:Hid (¬pd (jX m.G)=false):=lh (by rw[cK (show jX m.G from fun j hj=>HG.out j hj (by omega))];decide)
        clear HG;by_cases f1:0≤m.first∧m.first≤(m.G.length:Int)
        ·have b1:bY m.first 0 (m.G.length:Int)=true:=cV f1
         have H6:Hid (¬¬(0≤m.first∧m.first≤(m.G.length:Int))):=lh fun e=>e f1
         clear f1;go_wp2_with (go_at_call 28;refine(aP _ _ _ _).mono ?_;rintro e w5 ⟨rfl,rfl⟩);have HBS:Hid (Below (w.heap.size+1) (w.alloc (.cells #[.slice dh m.H.length dhn,.slice dg m.G.length dgn,.int .i64 m.first,.slice dc m.ch.length dcn,.slice dt m.T.length dtn,.slice dq m.Q.length dqn,.int .i64 m.steps,.int .i64 m.fin,.slice da m.ans.length dan] 30)) wr):=BL;clear q0 q1 q2 q3 q4 q5 q6 q7 q8
         rename World=>wg
         go_loopw[7,8,9,10] (fun x7 x8 x9 x10 wr=>∃i:Nat,i≤m.ch.length∧x10=.int .i64 i∧x7=.int .i64 (jI m.ch i).heap∧x8=.int .i64 (jI m.ch i).trail∧x9=.int .i64 (jI m.ch i).goals∧Hid (Below (w.heap.size+1) (w.alloc (.cells #[.slice dh m.H.length dhn,.slice dg m.G.length dgn,.int .i64 m.first,.slice dc m.ch.length dcn,.slice dt m.T.length dtn,.slice dq m.Q.length dqn,.int .i64 m.steps,.int .i64 m.fin,.slice da m.ans.length dan] 30)) wr)∧Hid (∀j (hj:j<m.ch.length),j<i→fJ p.length m.G.length m.H.length m.T.length (jI m.ch j) m.ch[j])) (fun _ _ _ x10 _=>m.ch.length-(intOf x10).toNat)
         case atStart=>exact⟨0,Nat.zero_le _,rfl,rfl,rfl,rfl,HBS,lh fun j _ h=>absurd h (Nat.not_lt_zero j)⟩
         case round =>
          obtain⟨i,hi,rfl,rfl,rfl,rfl,BL2,HI⟩:=hrel;obtain⟨q0,q1,q2,q3,q4,q5,q6,q7,q8,-⟩:=(HXB.out _ BL2.out).all;by_cases hlt:i<m.ch.length
          as_aux_lemma =>
           ·obtain⟨b,off,hda,-,hbl,hcs⟩:=HM.out.c.some (by decide) (by omega)
            have hda':dc=some ⟨b,off,none⟩:=hda;clear hda;subst hda';have HBW:=lh (HWB.out _ BL2.out);obtain⟨g0,g1,g2,g3,g4⟩:=jJ m.ch i hlt;have c0:=(HBW.out.cell (p:=⟨b,off+i*5,none⟩) hbl).trans (hcs _ _ g0);have c1:wr.cell? ⟨b,off+i*5+1,none⟩=_:=(HBW.out.cell (p:=⟨b,off+(i*5+1),none⟩) hbl).trans (hcs _ _ g1);have c2:wr.cell? ⟨b,off+i*5+2,none⟩=_:=(HBW.out.cell (p:=⟨b,off+(i*5+2),none⟩) hbl).trans (hcs _ _ g2);have c3:wr.cell? ⟨b,off+i*5+3,none⟩=_:=(HBW.out.cell (p:=⟨b,off+(i*5+3),none⟩) hbl).trans (hcs _ _ g3);have c4:wr.cell? ⟨b,off+i*5+4,none⟩=_:=(HBW.out.cell (p:=⟨b,off+(i*5+4),none⟩) hbl).trans (hcs _ _ g4);clear hcs g0 g1 g2 g3 g4;have HPN:=lh (uJ m.ch i hlt);have HBAD:Hid (¬fJ p.length m.G.length m.H.length m.T.length (jI m.ch i) m.ch[i]→aM p m=4):=lh fun hg=>by
             have H7:pd (cC p.length m.G.length m.H.length m.T.length aT m.ch)=false:=bJ fun e=>hg ((jC _ _ _ _ _ _).1 e i hlt)
             unfold aM;rw[if_neg (fun e=>e H1.out),if_neg (fun e=>e H2.out),if_neg H3.out,if_neg H4.out,if_neg H5.out,if_neg H6.out,if_pos H7]
            have HOK:Hid (fJ p.length m.G.length m.H.length m.T.length (jI m.ch i) m.ch[i]→∀j (hj:j<m.ch.length),j<i+1→fJ p.length m.G.length m.H.length m.T.length (jI m.ch j) m.ch[j]):=lh fun hg j hj h=>by
             by_cases e:j=i
             ·subst e;exact hg
             ·exact HI.out j hj (by omega)
            clear HI;generalize m.ch[i]=c at *;generalize jI m.ch i=was at *;have HBC:Hid (Below wr.heap.size wr (wr.alloc (.cells #[.int .i64 c.goal,.int .i64 c.clause,.int .i64 c.heap,.int .i64 c.trail,.int .i64 c.goals] 67))):=lh ((bR _ _).alloc (nR _) _);have HBX:=lh (HUP.out _ _ BL2.out HBC.out);obtain⟨y0,y1,y2,y3,y4,y5,y6,y7,y8,-⟩:=(HXB.out _ HBX.out).all;by_cases r1:1≤c.goal∧c.goal≤(m.G.length:Int)
            ·have b1:bY c.goal 1 (m.G.length:Int)=true:=cV r1
             by_cases r2:0≤c.clause∧c.clause≤(p.length:Int)
             ·have b2:bY c.clause 0 (p.length:Int)=true:=cV r2
              by_cases r3:was.heap≤c.heap∧c.heap≤(m.H.length:Int)
              ·have b3:bY c.heap was.heap (m.H.length:Int)=true:=cV r3
               by_cases r4:was.trail≤c.trail∧c.trail≤(m.T.length:Int)
               ·have b4:bY c.trail was.trail (m.T.length:Int)=true:=cV r4
                by_cases r5:was.goals≤c.goals∧c.goals≤(m.G.length:Int)
                ·have b5:bY c.goals was.goals (m.G.length:Int)=true:=cV r5
                 by_cases r6:c.goals<c.goal
                 ·have HR:Hid (aM p m=4):=lh (HBAD.out fun e=>by have:=e.own;omega)
                  clear r1 r2 r3 r4 r5;go_wp2_with (go_at_call 28;refine(aP _ _ _ _).mono ?_;rintro e w5 ⟨rfl,rfl⟩);go_ret;rw[HR.out];exact⟨rfl,HWB.out _ HBX.out⟩
                 ·have HOK2:=lh (HOK.out ⟨r1,r2,r3,r4,r5,by omega⟩)
                  clear r1 r2 r3 r4 r5;go_upto_region 24 with (go_at_call 28;refine(aP _ _ _ _).mono ?_;rintro e w5 ⟨rfl,rfl⟩)
                  go_region
                  go_wp2_with fail;go_roundw
                  case measure=>simp only[intOf];omega
                  case rel=>exact⟨i+1,by omega,by go_num,by rw[HPN.out],by rw[HPN.out],by rw[HPN.out],lh (HUP.out _ _ HBX.out (bR _ _).drew),HOK2⟩
                ·have b5:bY c.goals was.goals (m.G.length:Int)=false:=cA r5
                 have HR:Hid (aM p m=4):=lh (HBAD.out fun e=>r5 e.goals);clear r1 r2 r3 r4 r5;go_wp2_with (go_at_call 28;refine(aP _ _ _ _).mono ?_;rintro e w5 ⟨rfl,rfl⟩);go_ret;rw[HR.out];exact⟨rfl,HWB.out _ HBX.out⟩
               ·have b4:bY c.trail was.trail (m.T.length:Int)=false:=cA r4
                have HR:Hid (aM p m=4):=lh (HBAD.out fun e=>r4 e.trail);clear r1 r2 r3 r4;go_wp2_with (go_at_call 28;refine(aP _ _ _ _).mono ?_;rintro e w5 ⟨rfl,rfl⟩);go_ret;rw[HR.out];exact⟨rfl,HWB.out _ HBX.out⟩
              ·have b3:bY c.heap was.heap (m.H.length:Int)=false:=cA r3
               have HR:Hid (aM p m=4):=lh (HBAD.out fun e=>r3 e.heap);clear r1 r2 r3;go_wp2_with (go_at_call 28;refine(aP _ _ _ _).mono ?_;rintro e w5 ⟨rfl,rfl⟩);go_ret;rw[HR.out];exact⟨rfl,HWB.out _ HBX.out⟩
             ·have b2:bY c.clause 0 (p.length:Int)=false:=cA r2
              have HR:Hid (aM p m=4):=lh (HBAD.out fun e=>r2 e.clause);clear r1 r2;go_wp2_with (go_at_call 28;refine(aP _ _ _ _).mono ?_;rintro e w5 ⟨rfl,rfl⟩);go_ret;rw[HR.out];exact⟨rfl,HWB.out _ HBX.out⟩
            ·have b1:bY c.goal 1 (m.G.length:Int)=false:=cA r1
             have HR:Hid (aM p m=4):=lh (HBAD.out fun e=>r1 e.goal);clear r1;go_wp2_with (go_at_call 28;refine(aP _ _ _ _).mono ?_;rintro e w5 ⟨rfl,rfl⟩);go_ret;rw[HR.out];exact⟨rfl,HWB.out _ HBX.out⟩
          ·have hco:cC p.length m.G.length m.H.length m.T.length aT m.ch:=(jC _ _ _ _ _ _).2 fun j hj=>HI.out j hj (by omega)
           have HCO:=lh hco;have H7:Hid (¬pd (cC p.length m.G.length m.H.length m.T.length aT m.ch)=false):=lh (by rw[cK hco];decide);clear HI hco
           rename World=>wcp
           clear y0 y1 y2 y3 y4 y5 y6 y7 y8 z0 z1 z2 z3 z4 z5 z6 z7 z8 x0 x1 x2 x3 x4 x5 x6 x7 x8 t1 t2 t3 t4 t5 b1;have HWR:=lh (HWB.out _ BL2.out);have HCP:=lh (bC9 m ⟨dh,dg,dc,dt,dq,da,dhn,dgn,dcn,dtn,dqn,dan⟩ (HMB.out _ HWR.out) HBIG.out);simp only at HCP;go_upto_region 26 with (go_at_call 29;refine HCP.out.mono ?_;rintro e w1 ⟨⟨eh,eg,ec,et,eq,ea,ehn,egn,ecn,etn,eqn,ean⟩,rfl,hO,hb1⟩;have HO:=lh hO;have HB1:=lh hb1;clear hO hb1;simp only[Mac.vals]);obtain⟨m1,hm1⟩:∃m1:Mac,m1 = {m with ans:=m.ans.map mvA}:=⟨_,rfl⟩
           rw[←hm1] at HO;have hmH:m1.H=m.H:=by rw[hm1]
           have hmG:m1.G=m.G:=by rw[hm1]
           have hmT:m1.T=m.T:=by rw[hm1]
           have hmQ:m1.Q=m.Q:=by rw[hm1]
           have hmC:m1.ch=m.ch:=by rw[hm1]
           obtain⟨d1,hd1⟩:∃d1:MAd,d1=⟨eh,eg,ec,et,eq,ea,ehn,egn,ecn,etn,eqn,ean⟩:=⟨_,rfl⟩
           rw[←hd1] at HO;obtain⟨V0,hV0,hVb⟩:∃V0,V0=w1.alloc (.cells #[.slice eh m.H.length ehn,.slice eg m.G.length egn,.int .i64 m.first,.slice ec m.ch.length ecn,.slice et m.T.length etn,.slice eq m.Q.length eqn,.int .i64 m.steps,.int .i64 m.fin,.slice ea m.ans.length ean] 30)∧cL V0 w1.heap.size m1 d1:=⟨_,rfl,by
            have:=cL.made w1 m1 d1;rw[hd1,hm1] at this ⊢;simpa only[Mac.vals,List.length_map] using this⟩
           have hVs:V0.heap.size=w1.heap.size+1:=by rw[hV0];simp
           have hVt:Below w1.heap.size w1 V0:=by rw[hV0];exact(bR _ _).alloc (nR _) _
           rw[←hV0];clear hV0;have hs0:=HWR.out.size;have hs1:=HB1.out.size;have hdh:eh=d1.h:=by rw[hd1]
           have LBC:Hid (bD1 V0 w1.heap.size wcp.heap.size m1 d1):=lh (HO.out.lasC (nR _) (by omega) hs1 hVt);have HL0:Hid (jZ V0 w1.heap.size wcp.heap.size m1 d1 (eK m1 (m.ch.reverse.take 0)) V0):=lh ⟨hVb,HO.out.h.keep fun g hg=>hVt.block g (HO.out.h.row.lt g hg).2,aA.refl _ _⟩;have HB3:Hid (∀u,aA (fun b=>b=w1.heap.size∨bk d1.h=some b∨V0.heap.size≤b) V0 u→Below (w.heap.size+1) (w.alloc (.cells #[.slice dh m.H.length dhn,.slice dg m.G.length dgn,.int .i64 m.first,.slice dc m.ch.length dcn,.slice dt m.T.length dtn,.slice dq m.Q.length dqn,.int .i64 m.steps,.int .i64 m.fin,.slice da m.ans.length dan] 30)) u):=lh fun u hu=>by
            refine HUP.out _ _ BL2.out (HB1.out.trans ?_);refine(hVt.mono hs1).trans (hu.toBelow (by omega) fun b e=>?_);rcases e with e|e|e
            ·omega
            ·exact(LBC.out.fits b e).1
            ·omega
           have HHK:=HCO.out;rw[←hmH,←hmG,←hmT,←hmC] at HHK;have HBO:=lh (fun i hi=>aO6 HHK i hi);have HBN:=lh (fun i (hi:i<m1.ch.length)=>xY hi);have HNR2:Hid (∀l,lC (eK m1 l).H):=lh fun l=>uX l m1 (by rw[hmH];exact HNR.out)
           have HTX:Hid (∀x,x∈m1.T→0≤x):=lh fun x hx=>(HTH.out.trail x (by rw[←hmT];exact hx)).1
           have HLI:Hid (eP m.ch.reverse m↔∀i,i<m1.ch.length→fV (eK m1 (m1.ch.reverse.take (i+1)))):=lh (by
            rw[sR,hmC,List.length_reverse];refine forall_congr' fun i=>forall_congr' fun _=>?_
            have e:=xZ (m.ans.map mvA) (m.ch.reverse.take (i+1)) m;rw[hm1,e];exact Iff.rfl)
           rw[hmC] at HBO HBN HLI;have HmQ:=lh hmQ;have HmT:=lh hmT;have HmH:=lh hmH;have HD1:=lh hd1;have HVS:=lh hVs;have HS1:=lh hs1;have HS0:=lh hs0;clear HHK hmH hmG hmT hmQ hmC hm1 hd1 hdh hVb hVt hVs hs0 hs1 q0 q1 q2 q3 q4 q5 q6 q7 q8 HO;obtain⟨z0,z1,z2,z3,z4,z5,z6,z7,z8,-⟩:=(HXB.out _ (HB3.out _ (aA.refl _ _))).all
           go_cut[3,12,13] from 16 (fun v3 v12 v13 wx=>v3=.pointer (some ⟨w.heap.size,0,none⟩)∧v12=.pointer (some ⟨w1.heap.size,0,none⟩)∧v13=.int .i64 ((m.ch.length:Int)-1)∧wx=V0)
           case first =>
            go_wp2_with fail;go_meet;exact⟨rfl,rfl,rfl,rfl⟩
           case rest =>
           obtain⟨e3,e12,e13,ewx⟩:=hcut;have ewx2:=ewx.symm;clear ewx;subst e3;subst e12;subst e13;subst ewx2;go_wp2_with fail
           go_loopw[13] (fun x13 wr=>∃k i:Nat,i+k=m.ch.length∧x13=.int .i64 ((k:Int)-1)∧Hid (jZ V0 w1.heap.size wcp.heap.size m1 d1 (eK m1 (m.ch.reverse.take i)) wr)∧Hid (∀j,j<i→fV (eK m1 (m.ch.reverse.take (j+1))))) (fun x13 _=>(intOf x13+1).toNat)
           case atStart=>exact⟨m.ch.length,0,by omega,rfl,HL0,lh fun j h=>absurd h (Nat.not_lt_zero j)⟩
           case round =>
            rename World=>wr
            obtain⟨k,i,hki,rfl,HL,HT⟩:=hrel;have BL3:Hid (Below (w.heap.size+1) (w.alloc (.cells #[.slice dh m.H.length dhn,.slice dg m.G.length dgn,.int .i64 m.first,.slice dc m.ch.length dcn,.slice dt m.T.length dtn,.slice dq m.Q.length dqn,.int .i64 m.steps,.int .i64 m.fin,.slice da m.ans.length dan] 30)) wr):=lh (HB3.out _ HL.out.keep);obtain⟨q0,q1,q2,q3,q4,q5,q6,q7,q8,-⟩:=(HXB.out _ BL3.out).all;cases k with
            | zero =>
             as_aux_lemma =>
              have H8:Hid (¬pd (eP m.ch.reverse m)=false):=lh (by rw[cK (HLI.out.2 fun j hj=>HT.out j (by omega))];decide);have hm1:((0:Nat):Int)-1 = -1:=rfl;rw[hm1];by_cases s1:0≤m.steps∧m.steps≤400
              ·have b1:bY m.steps 0 400=true:=cV s1
               by_cases s2:0≤m.fin∧m.fin≤4
               ·have b2:bY m.fin 0 4=true:=cV s2
                have HR:Hid (aM p m=0):=lh (by
                 have H9:¬pd (jY m)=false:=by rw[cK (show jY m from ⟨s1,s2⟩)];decide
                 unfold aM;rw[if_neg (fun e=>e H1.out),if_neg (fun e=>e H2.out),if_neg H3.out,if_neg H4.out,if_neg H5.out,if_neg H6.out,if_neg H7.out,if_neg H8.out,if_neg H9])
                clear s1 s2;go_wp2_with (go_at_call 28;refine(aP _ _ _ _).mono ?_;rintro e w5 ⟨rfl,rfl⟩);go_ret;rw[HR.out];exact⟨rfl,HWB.out _ BL3.out⟩
               ·have b2:bY m.fin 0 4=false:=cA s2
                have HR:Hid (aM p m=3):=lh (by
                 have H9:pd (jY m)=false:=bJ fun e=>s2 e.2
                 unfold aM;rw[if_neg (fun e=>e H1.out),if_neg (fun e=>e H2.out),if_neg H3.out,if_neg H4.out,if_neg H5.out,if_neg H6.out,if_neg H7.out,if_neg H8.out,if_pos H9])
                clear s1 s2;go_wp2_with (go_at_call 28;refine(aP _ _ _ _).mono ?_;rintro e w5 ⟨rfl,rfl⟩);go_ret;rw[HR.out];exact⟨rfl,HWB.out _ BL3.out⟩
              ·have b1:bY m.steps 0 400=false:=cA s1
               have HR:Hid (aM p m=3):=lh (by
                have H9:pd (jY m)=false:=bJ fun e=>s1 e.1
                unfold aM;rw[if_neg (fun e=>e H1.out),if_neg (fun e=>e H2.out),if_neg H3.out,if_neg H4.out,if_neg H5.out,if_neg H6.out,if_neg H7.out,if_neg H8.out,if_pos H9])
               clear s1;go_wp2_with (go_at_call 28;refine(aP _ _ _ _).mono ?_;rintro e w5 ⟨rfl,rfl⟩);go_ret;rw[HR.out];exact⟨rfl,HWB.out _ BL3.out⟩
            | succ n =>
             have hx13:((n+1:Nat):Int)-1=(n:Int):=by omega
             rw[hx13];clear hx13;have hn:n<m.ch.length:=by omega
             have hge:(0:Int)≤(n:Int):=by omega
             obtain⟨b,off,hda,-,hbl,hcs⟩:=HM.out.c.some (by decide) (by omega);have hda':dc=some ⟨b,off,none⟩:=hda;clear hda;subst hda';have HBW:=lh (HWB.out _ BL3.out);obtain⟨g0,g1,g2,g3,g4⟩:=jJ m.ch n hn;have c0:=(HBW.out.cell (p:=⟨b,off+n*5,none⟩) hbl).trans (hcs _ _ g0);have c1:wr.cell? ⟨b,off+n*5+1,none⟩=_:=(HBW.out.cell (p:=⟨b,off+(n*5+1),none⟩) hbl).trans (hcs _ _ g1);have c2:wr.cell? ⟨b,off+n*5+2,none⟩=_:=(HBW.out.cell (p:=⟨b,off+(n*5+2),none⟩) hbl).trans (hcs _ _ g2);have c3:wr.cell? ⟨b,off+n*5+3,none⟩=_:=(HBW.out.cell (p:=⟨b,off+(n*5+3),none⟩) hbl).trans (hcs _ _ g3);have c4:wr.cell? ⟨b,off+n*5+4,none⟩=_:=(HBW.out.cell (p:=⟨b,off+(n*5+4),none⟩) hbl).trans (hcs _ _ g4);clear hcs g0 g1 g2 g3 g4;obtain⟨hu,hcan⟩:=HBO.out i (by omega);obtain⟨hnx,hmem⟩:=HBN.out i (by omega);have hcg:m.ch.getD (m.ch.length-1-i) aT=m.ch[n]:=by
              rw[show m.ch.length-1-i=n by omega,List.getD_eq_getElem?_getD,List.getElem?_eq_getElem hn];rfl
             rw[hcg] at hnx hmem;clear hcg;obtain⟨bH,bT,bG⟩:=hcan _ hmem;have hlen':(eK m1 (m.ch.reverse.take i)).H.length≤400000:=by have:=hu.h;rw[HmH.out] at this;omega
             have hxs:∀x,x∈(eK m1 (m.ch.reverse.take i)).T→0≤x:=fun x hx=>by
              obtain⟨k,-,e⟩:=hu.t;rw[e] at hx;exact HTX.out x (List.mem_of_mem_take hx)
             have hT17:(eK m1 (m.ch.reverse.take i)).T.length≤17592186044416:=by
              obtain⟨k,-,e⟩:=hu.t;rw[e,HmT.out,List.length_take];omega
             have hQ12':(eK m1 (m.ch.reverse.take i)).Q.length≤12:=by rw[hu.q,HmQ.out];exact hQ12
             have hnr:=HNR2.out (m.ch.reverse.take i);have hsn:=uW m1 (m.ch.reverse.take i) m.ch[n];rw[←hnx] at hsn;have HLIN:=lh (fun h:¬fV (eK m1 (m.ch.reverse.take (i+1)))=>fun hL=>h (HLI.out.1 hL i (by omega)));clear hnx hmem hcan;generalize m.ch[n]=c at *;rw[hsn] at HLIN;generalize hmi:eK m1 (m.ch.reverse.take i)=mi at *;have HBA:Hid (Below wr.heap.size wr (wr.alloc (.cells #[.int .i64 c.goal,.int .i64 c.clause,.int .i64 c.heap,.int .i64 c.trail,.int .i64 c.goals] 67))):=lh ((bR _ _).alloc (nR _) _);have HL1:Hid (jZ V0 w1.heap.size wcp.heap.size m1 d1 mi (wr.alloc (.cells #[.int .i64 c.goal,.int .i64 c.clause,.int .i64 c.heap,.int .i64 c.trail,.int .i64 c.goals] 67))):=lh (HL.out.touchC LBC.out (aA.below HBA.out));have HCB:Hid (mS (wr.alloc (.cells #[.int .i64 c.goal,.int .i64 c.clause,.int .i64 c.heap,.int .i64 c.trail,.int .i64 c.goals] 67)) wr.heap.size c):=lh ⟨heap_alloc_new wr _⟩;have HVW:=lh HL.out.keep.size;have HU:=lh hu;have HBD:=lh (And.intro bH (And.intro bT bG));have HSN:=lh hsn;have HNRI:=lh hnr;have HXS:=lh hxs;have hT9:mi.T.length≤9223372036854775807:=by omega
             have hH9:mi.H.length≤9223372036854775807:=by omega
             have hct:0≤c.trail:=bT.1;have hHK:=lh hlen';have hTK:=lh hT17;have hQK:=lh hQ12';clear hu bH bG hsn hnr hxs hmi hlen' hT17 hQ12' HL;go_wp2_with fail;generalize wr.alloc (.cells #[.int .i64 c.goal,.int .i64 c.clause,.int .i64 c.heap,.int .i64 c.trail,.int .i64 c.goals] 67)=W1 at *;obtain⟨ct,hct'⟩:∃ct:Nat,c.trail=(ct:Int):=⟨c.trail.toNat,by omega⟩
             have HCT:Hid (c.trail.toNat=ct):=lh (by omega);have hcl:ct≤mi.T.length:=by have:=bT.2;omega
             have HCT':=lh hct';rw[hct'];clear q0 q1 q2 q3 q4 q5 q6 q7 q8 c0 c1 c2 c3 c4 bT hct hct';have HUA:=lh (HL1.out.uatC LBC.out HU.out)
             go_loopw[15] (fun x15 wr=>∃k:Nat,ct≤k∧k≤mi.T.length∧x15=.int .i64 k∧Hid (eT wr wcp.heap.size (.slice d1.h mi.H.length d1.hn) (dM c.heap ((mi.T.drop ct).take (k-ct)) mi.H))∧Hid (aA (fun b=>(Value.slice d1.h mi.H.length d1.hn).ownBlock=some b) W1 wr)) (fun x15 _=>mi.T.length-(intOf x15).toNat)
             case atStart=>exact⟨ct,nR _,hcl,rfl,lh (by rw[Nat.sub_self,List.take_zero];exact HUA.out.own),lh (aA.refl _ _)⟩
             case round =>
              rename World=>wi
              obtain⟨k,hk0,hk,rfl,HO,HT2⟩:=hrel;have hXB:=HL1.out.box.keep (HT2.out.block _ HL1.out.box.lt HUA.out.ne);have zc:(Value.slice d1.h mi.H.length d1.hn).ownBlock≠some wr.heap.size:=fun e=>by
               have h1:=LBC.out.fits _ ((aE _ _ _).symm.trans e);have:=HVW.out;omega
              have hCB:=HCB.out.keep (HT2.out.block _ HCB.out.lt zc);obtain⟨k0,k1,k2,k3,k4,-⟩:=hCB.all;obtain⟨x0,x1,x2,x3,x4,x5,x6,x7,x8,xf⟩:=hXB.all;have HCB2:=lh hCB;have HXB2:=lh hXB;clear hXB hCB zc;by_cases hlt:k<mi.T.length
              ·obtain⟨b,off,hta,hokb,hb,m0⟩:=HUA.out.tr.at' k hlt
               have y0:wi.cell? ⟨b,off+k,none⟩=some (.int .i64 mi.T[k]):=(HT2.out.cell (p:=⟨b,off+k,none⟩) hb hokb.2).trans m0;rw[hta] at x4;have hxn:=HXS.out _ (List.getElem_mem hlt);have HSN2:Hid (dM c.heap ((mi.T.drop ct).take (k+1-ct)) mi.H=if mi.T[k]<c.heap then (dM c.heap ((mi.T.drop ct).take (k-ct)) mi.H).set mi.T[k].toNat ⟨1,mi.T[k],⟨#[]⟩⟩ else dM c.heap ((mi.T.drop ct).take (k-ct)) mi.H):=lh (by
                have h1:k-ct<(mi.T.drop ct).length:=by rw[List.length_drop];omega
                have h2:(mi.T.drop ct)[k-ct]=mi.T[k]:=by rw[List.getElem_drop];congr 1;omega
                rw[show k+1-ct=(k-ct)+1 by omega,List.take_succ_eq_append_getElem h1,sU,h2])
               have hul:=dH c.heap ((mi.T.drop ct).take (k-ct)) mi.H;by_cases hc:mi.T[k]<c.heap
               as_aux_lemma =>
                ·obtain⟨p',hp⟩:∃p:Nat,mi.T[k]=(p:Int):=⟨mi.T[k].toNat,by omega⟩
                 rw[hp,if_pos (by omega),Int.toNat_natCast] at HSN2;rw[hp] at y0 hc;have hpl:p'<mi.H.length:=by have:=HBD.out.1.2;omega
                 have hrow:=HO.out.row;rw[hul] at hrow;obtain⟨g,cap,hgv⟩:=bQ hrow (by omega);injection hgv with e1 _ e2;have HO2:=HO.out;rw[e1,e2] at HO2;have hrow2:=hrow;rw[e1,e2] at hrow2;rw[e1,e2] at x0;have HO3:=lh (HO2.unb (p:=p') (x:=(p':Int)) hul.symm (by omega) (by unfold I64;omega));obtain⟨a2,c2',e,hpp⟩:=dV.of_row (ok:=fun _=>True) HO2.row (fun _ _=>trivial) HO2.fits;injection e with f1 _ f2;subst f1;subst f2;obtain⟨b',off',he,-,zg,d0,d1',d2,-⟩:=hpp.at' p' (by omega);injection he with he;injection he with f1 f2;subst f1;subst f2;rw[Nat.zero_add] at d0 d1' d2;have gf:∀o,wi.frozen? ⟨g,o,none⟩=false:=fun o=>hrow2.frozenAt o
                 rw[←HSN2.out,←e1,←e2] at HO3;have hog:(Value.slice d1.h mi.H.length d1.hn).ownBlock=some g:=by rw[e1];rfl
                 have HT3:=lh (((HT2.out.trans (aA.setCell (p:=⟨g,p'*3,none⟩) (.int .i64 1) hog)).trans (aA.setCell (p:=⟨g,p'*3+1,none⟩) (.int .i64 (p':Int)) hog)).trans (aA.setCell (p:=⟨g,p'*3+2,none⟩) (.string ⟨#[]⟩) hog));have p0:(0:Int)≤(p':Int):=by omega
                 have p1:(p':Int)<(mi.H.length:Int):=by omega
                 clear hxn hul HSN2 hpp hrow hrow2 HO2 hp e1 e2 hog;go_upto_region 33 with fail
                 go_region
                 go_upto_region 34 with fail
                 go_region
                 go_wp2_with fail;go_roundw
                 case measure=>simp only[intOf];omega
                 case rel=>exact⟨k+1,by omega,by omega,by go_num,lh (HO3.out.below ((bR _ _).drew.drew)),lh (HT3.out.trans (aA.below ((bR _ _).drew.drew)))⟩
               as_aux_lemma =>
                ·have HO2:Hid (eT wi wcp.heap.size (.slice d1.h mi.H.length d1.hn) (dM c.heap ((mi.T.drop ct).take (k+1-ct)) mi.H)):=lh (by rw[HSN2.out,if_neg hc];exact HO.out)
                 clear hxn hul HSN2;go_upto_region 33 with fail
                 go_region
                 go_wp2_with fail;go_roundw
                 case measure=>simp only[intOf];omega
                 case rel=>exact⟨k+1,by omega,by omega,by go_num,lh (HO2.out.below ((bR _ _).drew)),lh (HT2.out.trans (aA.below ((bR _ _).drew)))⟩
              ·have hkl:k=mi.T.length:=by omega
               have HB9:=lh HBD.out;obtain⟨bH,bT,bG⟩:=HBD.out;have HO9:Hid (eT wi wcp.heap.size (.slice d1.h mi.H.length d1.hn) (dM c.heap (mi.T.drop c.trail.toNat) mi.H)):=lh (by
                have h:=HO.out;rw[List.take_of_length_le (by rw[List.length_drop];omega),←HCT.out] at h;exact h)
               have hh0:=bH.1;have hh1:c.heap≤(d1.hn:Int):=by
                obtain⟨a2,c2,e,hpp⟩:=dV.of_row (ok:=fun _=>True) HO9.out.row (fun _ _=>trivial) HO9.out.fits;injection e with _ _ e2;have:=hpp.cap;rw[dH] at this;have:=bH.2;omega
               have ht1:(ct:Int)≤(d1.tn:Int):=by have:=HUA.out.tr.cap;omega
               have ht0:(0:Int)≤(ct:Int):=by omega
               have hg0:=bG.1;have hg1:c.goals≤(d1.gn:Int):=by have:=HUA.out.gc;omega
               rw[HCT'.out] at k3;have HND:Hid (nN W1 w1.heap.size 0 (mi.vals d1).toArray 30 wcp.heap.size mi.H mi.T d1.h d1.t d1.g d1.hn d1.tn d1.gn c (.returned (.tuple #[])) (((wi.setCell ⟨w1.heap.size,0,none⟩ (.slice d1.h c.heap.toNat d1.hn)).setCell ⟨w1.heap.size,4,none⟩ (.slice d1.t ct d1.tn)).setCell ⟨w1.heap.size,1,none⟩ (.slice d1.g c.goals.toNat d1.gn))):=lh (by
                have h:=aT8 HUA.out bH HO9.out HT2.out;rw[HCT.out] at h;exact h)
               have hL2:=(HL1.out.undo bH bT bG HND.out).1;have HL2:=lh hL2;have hne1:wr.heap.size≠w1.heap.size:=by have:=HVW.out;have:=HVS.out;omega
               have hne2:w1.heap.size≠wr.heap.size:=fun e=>hne1 e.symm
               clear bH bT bG hL2 HO HO9 hkl hcl;go_upto_region 35 with fail
               go_region
               have HL3:=lh (HL2.out.touchC LBC.out (aA.below ((bR _ _).drew)));clear HND HL2 k0 k1 k2 k3 k4 x0 x1 x2 x3 x4 x5 x6 x7 x8 xf HT2 HCB2 HXB2;generalize (((wi.setCell ⟨w1.heap.size,0,none⟩ (.slice d1.h c.heap.toNat d1.hn)).setCell ⟨w1.heap.size,4,none⟩ (.slice d1.t ct d1.tn)).setCell ⟨w1.heap.size,1,none⟩ (.slice d1.g c.goals.toNat d1.gn)).drew=u9 at *
               as_aux_lemma =>
                have BL9:=lh (HB3.out _ HL3.out.keep);obtain⟨y0,y1,y2,y3,y4,y5,y6,y7,y8,-⟩:=HL3.out.box.all;have HAT:=lh (rQ (cY mi c) d1 (HL3.out.macC LBC.out (HU.out.undo c)) (nM HNRI.out c) (Nat.le_trans (aH8 mi c).1 hHK.out) (Nat.le_trans (aH8 mi c).2 hTK.out) hQK.out);clear HUA HBD HNRI HXS HCT HCT' HB9 HCB HL1 hne1 hne2 hh0 hh1 ht0 ht1 hg0 hg1;generalize cY mi c=mj at *;by_cases hth:fV (mj)
                ·have HTB2:Hid (dW (mj)=true):=lh (cK hth)
                 have HTT:=lh hth;clear hth;go_wp2_with (go_at_call 27;refine HAT.out.mono ?_;rintro e w5 ⟨rfl,hb5⟩;rw[HTB2.out];have HB5:=lh hb5;clear hb5);go_roundw
                 case measure=>simp only[intOf];omega
                 case rel =>
                  refine⟨n,i+1,by omega,rfl,lh ?_,lh fun j hj=>?_⟩
                  ·rw[HSN.out];exact HL3.out.touchC LBC.out (aA.below HB5.out)
                  ·by_cases e:j=i
                   ·subst e;rw[HSN.out];exact HTT.out
                   ·exact HT.out j (by omega)
                ·have HTB2:Hid (dW (mj)=false):=lh (bJ hth)
                 have HR:Hid (aM p m=4):=lh (by
                  have H8:pd (eP m.ch.reverse m)=false:=bJ (HLIN.out hth);unfold aM;rw[if_neg (fun e=>e H1.out),if_neg (fun e=>e H2.out),if_neg H3.out,if_neg H4.out,if_neg H5.out,if_neg H6.out,if_neg H7.out,if_pos H8])
                 clear hth;go_wp2_with (go_at_call 27;refine HAT.out.mono ?_;rintro e w5 ⟨rfl,hb5⟩;rw[HTB2.out];have HB5:=lh hb5;clear hb5);go_ret;rw[HR.out];exact⟨rfl,HWB.out _ (HUP.out _ _ BL9.out HB5.out)⟩
        as_aux_lemma =>
         ·have b1:bY m.first 0 (m.G.length:Int)=false:=cA f1
          have HR:Hid (aM p m=4):=lh (by unfold aM;rw[if_neg (fun e=>e H1.out),if_neg (fun e=>e H2.out),if_neg H3.out,if_neg H4.out,if_neg H5.out,if_pos f1]);clear f1;go_wp2_with (go_at_call 28;refine(aP _ _ _ _).mono ?_;rintro e w5 ⟨rfl,rfl⟩);go_ret;rw[HR.out];exact⟨rfl,HWB.out _ BL.out⟩
     as_aux_lemma =>
      ·have hth:dW m=false:=bJ e4
       have HR:Hid (aM p m=5):=lh (by unfold aM;rw[if_neg (fun e=>e h1),if_neg (fun e=>e h2),if_neg h3,if_pos hth]);have HTB:=lh hth;clear e1 e2 h1 h2 e3 e3' h3 e4 hth;go_enter Try.func8,Try.ntmps8;go_wp2_with (first|(go_at_call 25;refine(HCL.out _ (HWB.out _ HB0.out)).mono ?_;rintro e w1 ⟨rfl,hb1⟩;have B1:=lh (HUP.out _ _ HB0.out hb1);obtain⟨y0,y1,y2,y3,y4,y5,y6,y7,y8,-⟩:=(HXB.out _ B1.out).all;clear hb1)|(go_at_call 26;refine(kN (HMB.out _ (HWB.out _ B1.out)).h).mono ?_;rintro e w2 ⟨rfl,hb2⟩;have B2:=lh (HUP.out _ _ B1.out hb2);obtain⟨z0,z1,z2,z3,z4,z5,z6,z7,z8,-⟩:=(HXB.out _ B2.out).all;clear hb2)|(go_at_call 27;refine(rQ m ⟨dh,dg,dc,dt,dq,da,dhn,dgn,dcn,dtn,dqn,dan⟩ (HMB.out _ (HWB.out _ B2.out)) HNR.out hl4 ht4 hQ12).mono ?_;rintro e w3 ⟨rfl,hb3⟩;rw[HTB.out];have B3:=lh (HUP.out _ _ B2.out hb3);obtain⟨x0,x1,x2,x3,x4,x5,x6,x7,x8,-⟩:=(HXB.out _ B3.out).all;clear hb3));go_ret;rw[HR.out];exact⟨rfl,HWB.out _ B3.out⟩
  as_aux_lemma =>
   ·have t3:((cH m.H:Int) != 0)=true:=qW e2
    have HR:Hid (aM p m=cH m.H):=lh (by unfold aM;rw[if_neg (fun e=>e h1),if_pos e2]);clear e1 e2 h1;go_enter Try.func8,Try.ntmps8;go_wp2_with (first|(go_at_call 25;refine(HCL.out _ (HWB.out _ HB0.out)).mono ?_;rintro e w1 ⟨rfl,hb1⟩;have B1:=lh (HUP.out _ _ HB0.out hb1);obtain⟨y0,y1,y2,y3,y4,y5,y6,y7,y8,-⟩:=(HXB.out _ B1.out).all;clear hb1)|(go_at_call 26;refine(kN (HMB.out _ (HWB.out _ B1.out)).h).mono ?_;rintro e w2 ⟨rfl,hb2⟩;have B2:=lh (HUP.out _ _ B1.out hb2);obtain⟨z0,z1,z2,z3,z4,z5,z6,z7,z8,-⟩:=(HXB.out _ B2.out).all;clear hb2));go_ret;rw[HR.out];exact⟨rfl,HWB.out _ B2.out⟩
 as_aux_lemma =>
  ·have t1:((aY p:Int) == 0)=false:=by rw[beq_eq_false_iff_ne];omega
   have t2:((aY p:Int) != 0)=true:=qW e1;have HR:Hid (aM p m=aY p):=lh (by unfold aM;rw[if_pos e1]);clear e1;go_enter Try.func8,Try.ntmps8;go_wp2_with (go_at_call 25;refine(HCL.out _ (HWB.out _ HB0.out)).mono ?_;rintro e w1 ⟨rfl,hb1⟩;have B1:=lh (HUP.out _ _ HB0.out hb1);obtain⟨y0,y1,y2,y3,y4,y5,y6,y7,y8,-⟩:=(HXB.out _ B1.out).all;clear hb1);go_ret;rw[HR.out];exact⟨rfl,HWB.out _ B1.out⟩
end Go.Proofs.Ytikmgiapjigghab
