/- Walk: the runner tells an answer. -/
import Derived.StillTailTactics
import Derived.Test.YtikmgiapjigghabCb32
namespace Go.Proofs.Ytikmgiapjigghab
open Go.RowKit Go.Shelf
structure AwI(p:List Cl)(S:MS)(P:PS):Prop where
 core:Core p S P
 fin:S.fin=0∧P.fin=0
 same:S.steps=P.steps∧S.ans=P.ans
 room:S.H.length+833≤400000∧S.G.length+6≤5000
 tr:S.T.length≤100000000
 chb:S.ch.length≤100000000
 qb:S.Q.length≤12
 ab:S.ans.length≤1000
theorem AwI.more{p:List Cl}{S:MS}{P:PS}(h:AwI p S P)(a:List Tm):BkI p { S with ans:=S.ans++[a] } { P with ans:=S.ans++[a] }:=by
 obtain⟨D,Sc,hsit⟩:=h.core.sit
 have hc:Core p { S with ans:=S.ans++[a] } { P with ans:=S.ans++[a] }:=⟨⟨D,Sc,hsit.congr rfl rfl rfl rfl⟩,h.core.ch.congr rfl rfl rfl rfl⟩
 exact⟨hc.ch,h.fin,⟨h.same.1,rfl⟩,⟨_,hc⟩,h.room,h.tr,h.chb⟩
theorem shL_next{H:List HC}{Q:List Nat}{i:Nat}(hi:i<Q.length){X:List Tm}{left:Nat}(h:shL H 200 (Q.take i)=some (X,left)) :
 (shL H left [Q[i]]=none→shL H 200 Q=none)∧∀ x,shL H left [Q[i]]=some x→shL H 200 (Q.take (i+1))=some (X++x.1,x.2):=by
 refine⟨fun hn=>?_,fun x hx=>?_⟩
 ·have e:Q=Q.take i++([Q[i]]++Q.drop (i+1)):=by
   rw[List.singleton_append,← List.drop_eq_getElem_cons hi,List.take_append_drop]
  rw[e,shL_append,h]
  simp only[Option.bind_some]
  rw[shL_append,hn]
  rfl
 ·rw[List.take_succ_eq_append_getElem hi,shL_append,h]
  simp only[Option.bind_some,hx,Option.map_some]
theorem rens_append(X Y:List Tm):∀ s,(Tm.rens numV s (X++Y)).1=(Tm.rens numV s X).1++(Tm.rens numV (Tm.rens numV s X).2 Y).1∧(Tm.rens numV s (X++Y)).2=(Tm.rens numV (Tm.rens numV s X).2 Y).2:=by
 induction X with
 | nil=>intro s;simp[Tm.rens]
 | cons t X ih =>
  intro s
  simp only[List.cons_append,Tm.rens]
  obtain⟨h1,h2⟩:=ih (Tm.ren numV s t).2
  exact⟨by rw[h1],h2⟩
set_option maxRecDepth 100000 in
set_option maxHeartbeats 4000000 in
theorem AnswerRW{w:World}{Z:Nat→Prop}{R:Nat}{p:List Cl}{pa:Option Addr}{pc:Nat}{S:MS}{d:MAd}{wk':Nat}{P:PS}(h:RnAt w Z R p pa pc S.mac d wk')(hp:∀ c,c∈p→ClG c)(hk:AwI p S P)(hzn:∀ b,Z b→b<w.heap.size) :
 Calls Try.prog 62 #[.pointer (some ⟨R,0,none⟩)] w (RTurn w Z R p pa pc d (mansw p S)):=by
 obtain⟨D,Sc,hsit⟩:=hk.core.sit
 have hI:=hsit.hang.heap
 have hql:∀ i (hi:i<S.Q.length),S.Q[i]<S.H.length:=fun i hi=>(hsit.query i hi).lt
 obtain⟨aq,cq,e,hq⟩:=IsAt.of_row (ok:=fun b=>b<w.heap.size) (l:=S.mac.Q) (v:=.slice d.q S.mac.Q.length d.qn) h.rows.q (fun b hb=>(h.rows.q.lt b hb).2)
 injection e with e1 _ e2
 have e1':aq=d.q:=e1.symm
 have e2':cq=d.qn:=e2.symm
 subst e1';subst e2'
 obtain⟨ah,ch,e,hph⟩:=HpAt.of_row (ok:=fun b=>b<w.heap.size) h.rows.h.row (fun b hb=>(h.rows.h.row.lt b hb).2) h.rows.h.fits
 injection e with e1 _ e2
 have e1':ah=d.h:=e1.symm
 have e2':ch=d.hn:=e2.symm
 subst e1';subst e2'
 have hQl:S.mac.Q.length=S.Q.length:=by simp[MS.mac]
 have hQ:=lh (show ∀ i (hi:i<S.Q.length),∃ b off,d.q=some ⟨b,off,none⟩∧b<w.heap.size∧w.cell? ⟨b,off+i,none⟩=some (.int .i64 (S.Q[i]:Nat)) from fun i hi=>by
  obtain⟨b,off,h1,-,h2,h3⟩:=hq.at' i (by rw[hQl];exact hi)
  refine⟨b,off,h1,h2,?_⟩
  rw[h3]
  simp only[MS.mac,List.getElem_map])
 have hq9:S.Q.length≤9223372036854775807:=by have:=hk.qb;omega
 have B2:Below w.heap.size w ((w.alloc (.cells #[.map none,.slice none 0 0] 137)).alloc (.cells #[.int .i64 200] 3)):=((Below.refl _ _).alloc (Nat.le_refl _) _).alloc (by simp only[aSz];omega) _
 obtain⟨c0,c1,c2,c3,c4,c5,c6,c7,c8,c9,c10,cf⟩:=(h.below B2).cells
 have zR2:=(h.below B2).lt
 rw[hQl] at c6
 have hsz:(w.alloc (.cells #[.map none,.slice none 0 0] 137)).heap.size=w.heap.size+1:=by simp only[aSz]
 have hN:=(NmAt.made w).below ((Below.refl _ _).alloc (Nat.le_refl _) (.cells #[.int .i64 200] 3))
 have hbl:((w.alloc (.cells #[.map none,.slice none 0 0] 137)).alloc (.cells #[.int .i64 200] 3)).heap[w.heap.size+1]? = some (.cells #[.int .i64 ((200:Nat):Int)] 3 (0,0)):=by
  rw[← hsz];exact heap_alloc_new _ _
 have hz2:((w.alloc (.cells #[.map none,.slice none 0 0] 137)).alloc (.cells #[.int .i64 200] 3)).heap.size=w.heap.size+2:=by simp only[aSz]
 have hH:=lh h;have HP:=lh hp;have HK:=lh hk;have HZN:=lh hzn;have HI:=lh hI;have HQL:=lh hql;have HPH:=lh hph;have HB2:=lh B2;have HN:=lh hN;have HBL:=lh hbl;have HZ2:=lh hz2
 clear h hp hk hzn hI hql hph hq B2 hN hbl hz2 hsz hQl
 go_enter Try.func62,Try.ntmps62
 go_wp2_with fail
 generalize (w.alloc (.cells #[.map none,.slice none 0 0] 137)).alloc (.cells #[.int .i64 200] 3)=W2 at *
 have HA0:Hid (AnC W2 (w.heap.size+1) (fun b=>b=w.heap.size) [] (.slice none 0 0) (fun b=>b=w.heap.size) W2):=lh (AnC.start (fun b hb=>by have:=HZ2.out;omega) (by have:=HZ2.out;omega))
 go_loopw[4,17] (fun x4 x17 wr=>∃ (i:Nat) (L:List TmAt) (X:List Tm) (left:Nat) (C:Nat→Prop) (mv cv:Value),i≤S.Q.length∧x17=.int .i64 i∧Hid (AnC W2 (w.heap.size+1) (fun b=>b=w.heap.size) L x4 C wr)∧Hid (NmAt wr w.heap.size C (Tm.rens numV [] X).2 mv cv)∧Hid (wr.heap[w.heap.size+1]? = some (.cells #[.int .i64 (left:Nat)] 3 (0,0)))∧Hid (shL S.H 200 (S.Q.take i)=some (X,left)∧L.map (·.1)=(Tm.rens numV [] X).1)) (fun _ x17 _=>S.Q.length-(intOf x17).toNat)
 case atStart=>exact⟨0,[],[],200,_,_,_,Nat.zero_le _,rfl,HA0,HN,HBL,lh ⟨by rw[List.take_zero,shL_nil],rfl⟩⟩
 case round =>
  clear HA0
  obtain⟨i,L,X,left,C,mv,cv,hi,rfl,HA,HNM,HBX,HSH⟩:=hrel
  have hBW:Below w.heap.size w wr:=HB2.out.trans (HA.out.touch.toBelow HB2.out.size (fun b e=>e.elim (fun e=>by omega) fun e=>by omega))
  have HBW:=lh hBW
  clear c0 c1 c2 c3 c4 c5 c6 c7 c8 c9 c10 cf
  obtain⟨c0,c1,c2,c3,c4,c5,c6,c7,c8,c9,c10,cf⟩:=(hH.out.below hBW).cells
  have zR:=(hH.out.below hBW).lt
  have hc0:∀ b,b<w.heap.size→¬ C b:=fun b hb e=>by have:=(HA.out.col b (by have:=HZ2.out;omega)).1 e;omega
  have hcb:¬ C (w.heap.size+1):=fun e=>by have:=(HA.out.col _ (by have:=HZ2.out;omega)).1 e;omega
  clear hBW
  by_cases hlt:i<S.Q.length
  ·obtain⟨b,off,hda,hb,hqc⟩:=hQ.out i hlt
   have m0:=(HBW.out.cell (p:=⟨b,off+i,none⟩) hb).trans hqc
   have HSW:=lh (ShowW HI.out.cells HI.out.straight HI.out.len left (Tm.rens numV [] X).2 C mv cv S.Q[i] wr (by
    have h1:=shL_size _ _ _ HSH.out.1
    have h2:=rens_len X []
    simp only[List.length_nil] at h1 h2;omega) (HQL.out i hlt) (HPH.out.below HBW.out) HNM.out HBX.out ⟨by omega,hcb⟩ (fun b hb=>⟨by have:=HBW.out.size;omega,hc0 b hb⟩))
   obtain⟨n1,n2⟩:=shL_next hlt HSH.out.1
   have HN1:=lh n1;have HN2:=lh n2
   rw[hda] at *
   clear n1 n2 hqc
   obtain⟨o,ho⟩:∃ o,shL S.H left [S.Q[i]]=o:=⟨_,rfl⟩
   rw[ho] at HSW HN1 HN2
   clear ho
   cases o with
   | none =>
    have HE:Hid (mansw p S = { S with fin:=3 }):=lh (by unfold mansw;rw[HN1.out rfl])
    clear HN1 HN2
    go_wp2_with (go_at_call 91;refine HSW.out.mono ?_;rintro e w3 ⟨ht3,C3,mv3,cv3,s3,hc3,hn3,rfl,k3,hb3⟩;have hbw3:Below w.heap.size w w3:=HBW.out.trans (ht3.toBelow HBW.out.size (fun b e=>e.elim (fun e=>Nat.le_of_not_lt fun hb=>hc0 b hb e) fun e=>by omega));have HB3:=lh hbw3;obtain⟨x0,x1,x2,x3,x4,x5,x6,x7,x8,x9,x10,xf⟩:=(hH.out.below hbw3).cells;have zR3:=(hH.out.below hbw3).lt;clear ht3 hc3 hn3 hb3 hbw3)
    obtain⟨u1,u2⟩:=(hH.out.below HB3.out).putFin 3
    have hbT:Below (w3.setCell ⟨R,8,none⟩ (.int .i64 3)).heap.size (w3.setCell ⟨R,8,none⟩ (.int .i64 3)) ((w3.setCell ⟨R,8,none⟩ (.int .i64 3)).alloc (.cells #[.int .i64 0,.string ⟨#[]⟩,.slice none 0 0] 71)):=(Below.refl _ _).alloc (Nat.le_refl _) _
    refine bodyPost_ret (v:=.tuple #[]) (by simp[results,Try.results62,go_sem]) rfl ?_
    rw[HE.out]
    exact⟨⟨_,rfl⟩,((Touch.below HB3.out).trans u2).trans (Touch.below hbT),d,_,FreshD.refl _ _,u1.below hbT⟩
   | some z =>
    obtain⟨i0,hi0,hz0',hz1',hz2'⟩:=info_parts Try.infoTm
    obtain⟨xa,xc,hxv⟩:=HA.out.form
    subst hxv
    have hLl:L.length=i:=by
     have h1:=congrArg List.length HSH.out.2
     have h2:=(shL_le _ _ _ HSH.out.1).2
     rw[List.length_map] at h1
     have h3:∀ (l:List Tm) s,(Tm.rens numV s l).1.length=l.length:=by
      intro l
      induction l with
      | nil=>intro s;rfl
      | cons t l ih=>intro s;simp only[Tm.rens,List.length_cons,ih]
     rw[h3,h2,List.length_take] at h1
     omega
    have HLL:=lh hLl
    clear hLl
    have hqb:=HK.out.qb
    go_wp2_with (first
     | (go_at_call 91;refine HSW.out.mono ?_;rintro e w3 ⟨ht3,C3,mv3,cv3,s3,hc3,hn3,T,a3,c3',hTT,rfl,hf3,hts3,hs3,hb3⟩;have HT3:=lh ht3;have HC3:=lh hc3;have HN3:=lh hn3;have HTT:=lh hTT;have HF3:=lh hf3;have HTS3:=lh hts3;have HS3:=lh hs3;have HB3:=lh hb3;have HO1:=lh (((HA.out.row3 ht3).alloc (.cells #[.int .i64 T.var,.string T.name,.slice a3 T.args.length c3'] 71)).alloc (.cells #[.int .i64 T.var,.string T.name,.slice a3 T.args.length c3'] 71));clear ht3 hc3 hn3 hTT hf3 hts3 hs3 hb3)
     | (at_builtin;have _g:=HO1;(refine wpList_append_opt _ rfl _ _ 78 rfl W2.heap.size 71 i0 _ 3 48 Try.underlying78 hi0 hz0' hz1' hz2' rfl (by decide) _ _ _ rfl HO1.out (some ⟨w3.heap.size+1,0,none⟩) 1 1 ?d0 (flat [(T,a3,c3')]) rfl (by rw[flat_length];rfl) ?d1 (flat_one _) ?d2 ?d3 ?d4 ?_)))
    any_goals (first | (intro h;cases h;done) | exact news3 (w3.alloc (.cells #[.int .i64 T.var,.string T.name,.slice a3 T.args.length c3'] 71)) _ a3 c3' (by simp only[aSz]) | (have:=HLL.out;unfold maxLen;omega) | (have:=HLL.out;omega) | (have:=HA.out.touch.size;have:=HT3.out.size;simp only[World.size_alloc];omega))
    intro v4 w4 hown4 hgrow4 hfr4
    have HNX:=lh (HA.out.step HT3.out HC3.out HN3.out HF3.out HTS3.out (((Below.refl _ _).alloc (Nat.le_refl _) (.cells #[.int .i64 T.var,.string T.name,.slice a3 T.args.length c3'] 71)).alloc (by simp only[aSz];omega) (.cells #[.int .i64 T.var,.string T.name,.slice a3 T.args.length c3'] 71)) hown4 hgrow4 hfr4)
    clear hown4 hgrow4 hfr4
    go_wp2_with fail
    go_roundw
    case measure=>simp only[intOf];omega
    case rel =>
     have hra:=rens_append X z.1 []
     refine⟨i+1,L++[(T,a3,c3')],X++z.1,z.2,C3,mv3,cv3,by omega,by go_num,lh HNX.out.1,lh ?_,lh ?_,lh ⟨HN2.out z rfl,?_⟩⟩
     ·rw[hra.2,← HS3.out];exact HNX.out.2.1
     ·rw[HNX.out.2.2];exact HB3.out
     ·rw[List.map_append,HSH.out.2,hra.1,HTT.out];rfl
  ·
   obtain rfl:i=S.Q.length:=by omega
   have hsh:=HSH.out
   rw[List.take_length] at hsh
   obtain⟨oa,oc,hxv,hts⟩:=HA.out.done
   subst hxv
   obtain⟨l,hl⟩:∃ l,L.map (·.1)=l:=⟨_,rfl⟩
   rw[hl] at hts hsh ⊢
   have HEQ:Hid (mansw p S=if 40≤S.ans.length+1 then { S with ans:=S.ans++[l],fin:=1 } else mback p S.ch.length { S with ans:=S.ans++[l] }):=lh (by unfold mansw;rw[hsh.1,hsh.2])
   have HTS:=lh hts
   have hans:S.mac.ans=S.ans:=rfl
   rw[hans] at c9
   obtain⟨A,hA1,hA2,hA3⟩:=(hH.out.below HBW.out).rows.a
   rw[hans] at hA1 hA2
   have hAl:A.length=S.ans.length:=by rw[← hA1,List.length_map]
   rw[hAl] at hA2
   have hab:=HK.out.ab
   have HA1:=lh hA1;have HA3:=lh hA3
   have HO1:=lh (hA2.alloc (.cells #[.slice oa l.length oc] 78))
   obtain⟨i0,zc,hi0,hz0,hz1,hz2,hz3⟩:=infoAnM
   have hlt':¬ (S.Q.length:Int)<(S.Q.length:Int):=by omega
   clear hsh hts hl hlt hA1 hA2 hA3 hAl hi HA
   go_wp2_with (at_builtin;have _g:=HO1;(refine wpList_append_fresh _ rfl _ _ 28 rfl 0 78 i0 zc 1 24 Try.underlying28 hi0 hz0 hz1 hz2 hz3 (by decide) _ _ _ rfl HO1.out ⟨wr.heap.size,0,none⟩ 1 1 [.slice oa l.length oc] rfl rfl ?e1 ?e2 ?e3 ?e4 ?e5 ?_))
   any_goals (first | exact one_cell _ _ _ | (intro u hu;simp only[List.mem_singleton] at hu;subst hu;rfl) | rfl | (unfold maxLen;omega) | omega | (simp only[World.size_alloc];omega))
   intro av' X3 hown3 hg3 hfr3
   obtain⟨a5,c5',rfl⟩:=ownsRow_form hown3
   have hRw:=hH.out.below HBW.out
   have hX1:Below wr.heap.size wr (wr.alloc (.cells #[.slice oa l.length oc] 78)):=(Below.refl _ _).alloc (Nat.le_refl _) _
   have hrb:X3.heap[R]? = wr.heap[R]?:=(hg3.block R (Nat.lt_of_lt_of_le zR hX1.size) (fun e=>hRw.ne (bk d.a) (by simp[rws]) ((bk_own d.a S.ans.length d.an).symm.trans e.symm))).trans (hX1.block R zR)
   have z9:X3.cell? ⟨R,9,none⟩=some (.slice d.a S.ans.length d.an):=(World.cell?_of_block hrb).trans c9
   have zf:∀ o,X3.frozen? ⟨R,o,none⟩=false:=fun o=>by have:=cf o;simpa[World.frozen?,hrb] using this
   have hw2:w.heap.size≤W2.heap.size:=HB2.out.size
   have hpu:=hRw.pushA hX1 HTS.out ⟨Nat.lt_of_lt_of_le hH.out.lt hw2,fun b hb=>Nat.lt_of_lt_of_le (HZN.out b hb) hw2,fun b hb=>Nat.lt_of_lt_of_le (hH.out.rows.lt b hb) hw2⟩ (A:=A) HA1.out hown3 hg3 hfr3 HA3.out (fun b hb=>Nat.lt_of_lt_of_le (HZN.out b hb) HBW.out.size)
   simp only[hans] at hpu
   have HPU:=lh hpu
   clear hRw hX1 hrb hown3 hg3 hfr3 hpu c0 c1 c2 c3 c4 c5 c6 c7 c8 c9 c10 cf hc0 hcb hw2
   go_upto_region 12 with fail
   generalize X3.setCell ⟨R,9,none⟩ (.slice a5 (S.ans.length+1) c5')=wk at *
   have HRK:Hid (RnAt wk Z R p pa pc ({ S with ans:=S.ans++[l] }:MS).mac { d with a:=a5,an:=c5' } wk'):=lh HPU.out.1
   have HTK:Hid (Touch (RM R d) w wk∧FreshD w d { d with a:=a5,an:=c5' }):=lh ⟨(Touch.below HBW.out).trans HPU.out.2.1,fun b hb=>(HPU.out.2.2 b hb).imp id fun e=>Nat.le_trans HBW.out.size e⟩
   clear HPU
   obtain⟨x0,x1,x2,x3,x4,x5,x6,x7,x8,x9,x10,xf⟩:=HRK.out.cells
   have zRK:=HRK.out.lt
   have hal:({ S with ans:=S.ans++[l] }:MS).mac.ans.length=S.ans.length+1:=by simp[MS.mac]
   rw[hal] at x9
   clear hal z9 zf
   by_cases h40:40≤S.ans.length+1
   ·have h41:(40:Int)≤(S.ans.length:Int)+1:=by omega
    have HE:Hid (mansw p S = { S with ans:=S.ans++[l],fin:=1 }):=lh (HEQ.out.trans (if_pos h40))
    have HS1:=lh (HRK.out.putFin 1)
    clear h40
    go_wp2_with fail
    refine bodyPost_ret (v:=.tuple #[]) (by simp[results,Try.results62,go_sem]) rfl ?_
    rw[HE.out]
    exact⟨⟨_,rfl⟩,rm_next HTK.out.1 HTK.out.2 HS1.out.2,_,_,HTK.out.2,HS1.out.1⟩
   ·have h41:¬ (40:Int)≤(S.ans.length:Int)+1:=by omega
    have HE:Hid (mansw p S=mback p S.ch.length { S with ans:=S.ans++[l] }):=lh (HEQ.out.trans (if_neg h40))
    have HBK:=lh (BackRW (S:={ S with ans:=S.ans++[l] }) HRK.out HP.out (HK.out.more l) (fun b hb=>Nat.lt_of_lt_of_le (HZN.out b hb) HTK.out.1.size))
    clear h40
    go_wp2_with (go_at_call 90;refine HBK.out.mono ?_;rintro e w9 ⟨⟨uv,rfl⟩,ht9,d9,wk9,hf9,hr9⟩;have HT9:=lh ht9;have HF9:=lh hf9;have HR9:=lh hr9;clear ht9 hf9 hr9)
    refine bodyPost_ret (v:=.tuple #[]) (by simp[results,Try.results62,go_sem]) rfl ?_
    rw[HE.out]
    exact⟨⟨_,rfl⟩,rm_next HTK.out.1 HTK.out.2 HT9.out,d9,wk9,HTK.out.2.trans HF9.out HTK.out.1.size,HR9.out⟩
end Go.Proofs.Ytikmgiapjigghab
