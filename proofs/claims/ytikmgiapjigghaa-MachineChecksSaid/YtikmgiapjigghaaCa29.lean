/- Walk: the runner makes two cells the same. -/
import Derived.Test.YtikmgiapjigghaaCa20
import Derived.Test.YtikmgiapjigghaaCa26
import Derived.Test.YtikmgiapjigghaaCa28
namespace Go.Proofs.Ytikmgiapjigghaa
open Go.RowKit
theorem RnAt.rowH{w w1:World}{Z:Nat→Prop}{R:Nat}{p:List Cl}{pa:Option Addr}{pc:Nat}{m:Mac}{d:MAd}{wk:Nat}(h:RnAt w Z R p pa pc m d wk)(ht:Touch (fun b=>bk d.h=some b) w w1){L:List HC}(hx:HOwn w1 0 (.slice d.h L.length d.hn) L)(hl:L.length=m.H.length)(hzn:∀ b,Z b→b<w.heap.size):RnAt w1 Z R p pa pc { m with H:=L } d wk∧Touch (RM R d) w w1:=by
 obtain⟨h1,-⟩:=h.putH (ht.mono fun b _ e=>.inl e) hx (.inl rfl) hzn
 have hR:=h.ne
 simp only[rws,List.mem_cons,List.not_mem_nil,or_false,forall_eq_or_imp,forall_eq] at hR
 have hb1:w1.heap[R]? = some (.cells (rvals pa p.length pc m d wk).toArray 148 (0,0)):=(ht.block R h.lt hR.1).trans h.blk
 have hs:∀ b,w1.heap[b]? = (w1.setCell ⟨R,1,none⟩ (.slice d.h L.length d.hn)).heap[b]?:=fun b=>by
  by_cases e:b=R
  ·subst e
   rw[heap_setCell_at w1 b 1 _ hb1,hb1,hl];rfl
  ·exact(Below.heap_setCell _ _ _ _ e).symm
 have ht1:Touch (fun _=>False) (w1.setCell ⟨R,1,none⟩ (.slice d.h L.length d.hn)) w1:=⟨rfl,rfl,rfl,by simp[World.setCell],fun b _ _=>hs b⟩
 exact⟨h1.keep ht1 fun _ _ e=>e.elim,ht.mono fun b _ e=>.inr (by rw[← e];simp[rws])⟩
theorem msame_is{S:MS}(hI:HInv S.H)(h0:S.fin=0)(hf4:S.f≤4000){a b:Nat}(ha:a<S.H.length)(hb:b<S.H.length){T:TypeId}{w w':World}{bs g cap:Nat}{tv:Value}{e:Ending}(h:BSamePost T w bs g cap tv (meetH S.H [] S.f [(a,b)]) e w') :
 ∃ (K:List HC) (B:List Nat) (wk:Nat) (ok:Bool) (en:Nat) (tv':Value),e=.returned (.tuple #[.bool ok,.int .i64 (en:Nat)])∧BAt T w' bs g cap tv' K B wk∧Fresh w tv tv'∧K.length=S.H.length∧B.length≤4000∧(msame a b S).2=ok∧(en=0∨en=2∧ok=false) ∧
  (msame a b S).1.mac = { S.mac with H:=K,T:=(S.T++B).map fun x:Nat=>(x:Int),fin:=if en=0 then 0 else 3 }∧((msame a b S).1.fin=0→wk=4000-(msame a b S).1.f):=by
 obtain⟨-,tv',hfr,hm⟩:=h
 have hk:=keep_meetH S.f S.H [] [(a,b)] hI (fun x hx=>by rw[List.mem_singleton] at hx;subst hx;exact⟨ha,hb⟩)
 have hr:=meetH_room S.f S.H [] [(a,b)] hI (fun x hx=>by rw[List.mem_singleton] at hx;subst hx;exact⟨ha,hb⟩) 4000 (by simp;omega)
 cases ho:meetH S.H [] S.f [(a,b)] with
 | ok K B f =>
  rw[ho] at hm hk hr
  obtain⟨rfl,hb⟩:=hm
  exact⟨K,B,_,true,0,tv',rfl,hb,hfr,hk.1,hr,by simp only[msame,ho],.inl rfl,by simp only[msame,ho,MS.mac,if_true,h0];rfl,fun _=>by simp only[msame,ho]⟩
 | no K B f =>
  rw[ho] at hm hk hr
  obtain⟨rfl,hb⟩:=hm
  exact⟨K,B,_,false,0,tv',rfl,hb,hfr,hk.1,hr,by simp only[msame,ho],.inl rfl,by simp only[msame,ho,MS.mac,if_true,h0];rfl,fun _=>by simp only[msame,ho]⟩
 | many K B =>
  rw[ho] at hm hk hr
  obtain⟨rfl,hb⟩:=hm
  exact⟨K,B,_,false,2,tv',rfl,hb,hfr,hk.1,hr,by simp only[msame,ho],.inr ⟨rfl,rfl⟩,by simp only[msame,ho,MS.mac];rw[if_neg (by decide)];rfl,fun e=>by simp only[msame,ho] at e;cases e⟩
def RSamePost(w:World)(Z:Nat→Prop)(R:Nat)(p:List Cl)(pa:Option Addr)(pc:Nat)(d:MAd)(r:MS×Bool)(e:Ending)(w':World):Prop :=
 e=.returned (.bool r.2)∧Touch (RM R d) w w'∧∃ d' wk',FreshD w d d'∧RnAt w' Z R p pa pc r.1.mac d' wk'∧(r.1.fin=0→wk'=4000-r.1.f)
set_option maxRecDepth 100000 in
set_option maxHeartbeats 3200000 in
theorem RSameW{w:World}{Z:Nat→Prop}{R:Nat}{p:List Cl}{pa:Option Addr}{pc:Nat}{S:MS}{d:MAd}(h:RnAt w Z R p pa pc S.mac d (4000-S.f))(hf4:S.f≤4000)(hI:HInv S.H){a b:Nat}(ha:a<S.H.length)(hb:b<S.H.length)(hT:S.T.length≤100000000)(h0:S.fin=0)(hzn:∀ b,Z b→b<w.heap.size) :
 Calls Try.prog 156 #[.pointer (some ⟨R,0,none⟩),.int .i64 a,.int .i64 b] w (RSamePost w Z R p pa pc d (msame a b S)):=by
 obtain⟨c0,c1,c2,c3,c4,c5,c6,c7,c8,c9,c10,cf⟩:=h.cells
 have zR:=h.lt
 have hrow:w.ownsRow 0 120 3 (.slice d.h S.H.length d.hn) S.H.length (flatH S.H):=h.rows.h.row
 obtain⟨g,cap,hgv⟩:=own_shape hrow (by omega)
 injection hgv with e1 _ e2
 have HD:=Lib.hid e1
 have hgk:bk d.h=some g:=by rw[e1];rfl
 have hgR:g≠R:=fun e=>h.ne (bk d.h) (by simp[rws]) (by rw[hgk,e])
 have hglt:g<w.heap.size:=h.rows.lt g (by rw[← hgk];simp[rws])
 have hc1:w.cell? ⟨R,1,none⟩=some (.slice (some ⟨g,0,none⟩) S.H.length cap):=by rw[← e1,← e2];exact c1
 rw[e1,e2] at hrow
 have HE2:=Lib.hid e2
 have HI:=Lib.hid hI;have H0:=Lib.hid h0;have HF4:=Lib.hid hf4;have HA:=Lib.hid ha;have HB:=Lib.hid hb;have HGK:=Lib.hid hgk;have HTL:=Lib.hid hT;have HZN:=Lib.hid hzn
 have HB1:Hid (Below w.heap.size w (w.alloc (.cells #[.slice (some ⟨g,0,none⟩) S.H.length cap,.slice none 0 0,.int .i64 ((4000-S.f:Nat):Int)] 128)).drew):=Lib.hid (((Below.refl _ _).alloc (Nat.le_refl _) _).drew)
 have HBT:Hid (BAt 128 (w.alloc (.cells #[.slice (some ⟨g,0,none⟩) S.H.length cap,.slice none 0 0,.int .i64 ((4000-S.f:Nat):Int)] 128)).drew w.heap.size g cap (.slice none 0 0) S.H [] (4000-S.f)):=Lib.hid ⟨heap_alloc_new w _,ownsRow_below hrow HB1.out,h.rows.h.fits,World.ownsRow_nil _ _ _ _,by omega,by simp[Value.ownBlock],by simp[Value.ownBlock]⟩
 have HS:=Lib.hid (bsameW S.f S.H [] (.slice none 0 0) a b _ hf4 HBT.out hI (by simp;omega) ha hb)
 have HR:=Lib.hid h
 clear h hrow e1 e2 c1 hI h0 hf4 ha hb hgk hT hzn
 go_enter Try.func156,Try.ntmps156
 go_wp2_with fail
 go_region
 go_wp2_with (go_at_call 82;refine HS.out.mono ?_;rintro e w2 hp;have HP:=Lib.hid hp;obtain⟨K,B,wk2,okb,en,tv,rfl,hbt,hfr,hkl,hbl,hres,hen,hmac,hwk⟩:=msame_is HI.out H0.out HF4.out HA.out HB.out hp;have HBT2:=Lib.hid hbt;have HFR:=Lib.hid hfr;have HKL:=Lib.hid hkl;have HBL:=Lib.hid hbl;have HRES:=Lib.hid hres;have HEN:=Lib.hid hen;have HMAC:=Lib.hid hmac;have HWK:=Lib.hid hwk;have hT2:Touch (fun b=>b=g∨w.heap.size≤b) w w2:=(Touch.below HB1.out).trans (hp.1.mono fun b _ e=>e.elim (fun e=>.inr (by omega)) fun e=>e.elim .inl fun e=>by simp[Value.ownBlock] at e);have HT2:=Lib.hid hT2;obtain⟨a2,c2',hat,hisn⟩:=IsAt.of_row (ok:=fun b=>w.heap.size≤b) (l:=B.map fun v:Nat=>(v:Int)) (v:=tv) (by have:=hbt.bd;rw[List.length_map,List.map_map];exact this) (fun b hb=>HFR.out.elim (fun e=>by rw[e] at hb;simp[Value.ownBlock] at hb) fun e=>by have:=e b hb;have:=HB1.out.size;omega);have HIS:=Lib.hid hisn;clear hisn;subst hat;obtain⟨x0,x1,x2,-,-⟩:=hbt.cells;rw[List.length_map] at x1;have hR2:=HR.out.rowH (L:=K) (HT2.out.mono fun b hb e=>e.elim (fun e=>by rw[HGK.out,e]) fun e=>by omega) (by rw[HD.out,HE2.out];exact⟨HBT2.out.row,HBT2.out.fits⟩) HKL.out HZN.out;have HR2:=Lib.hid hR2.1;have HTM:=Lib.hid hR2.2;obtain⟨r0,r1,r2,r3,r4,r5,r6,r7,r8,r9,r10,rf⟩:=hR2.1.cells;clear hR2;clear hbt;clear hp hfr hkl hbl hres hen hmac hwk hT2)
 have HR3:=Lib.hid (HR2.out.putWork wk2).1
 have HTK:=Lib.hid (HR2.out.putWork wk2).2
 have zw2:w.heap.size<w2.heap.size:=HBT2.out.lt.1
 have y1:(w2.setCell ⟨R,10,none⟩ (.int .i64 (wk2:Int))).cell? ⟨w.heap.size,1,none⟩=some (.slice a2 B.length c2'):=(HTK.out.cell (p:=⟨w.heap.size,1,none⟩) zw2 fun e=>by have:=HR.out.rmlt _ e;simp at this).trans x1
 have HIS3:=Lib.hid (HIS.out.keep (HTK.out.keeps fun b hb e=>by have:=HR.out.rmlt _ e;omega))
 have hTL:=HTL.out
 have hBL:=HBL.out
 obtain⟨s0,s1,s2,s3,s4,s5,s6,s7,s8,s9,s10,sf⟩:=HR3.out.cells
 have hdt:(S.mac.T).length=S.T.length:=by simp[MS.mac]
 simp only[hdt] at s5
 have hw23:w2.heap.size≤(w2.setCell ⟨R,10,none⟩ (.int .i64 (wk2:Int))).heap.size:=HTK.out.size
 generalize w2.setCell ⟨R,10,none⟩ (.int .i64 (wk2:Int))=w3 at *
 have HO1:Hid (w3.drew.ownsRow 0 3 1 (.slice d.t S.T.length d.tn) S.T.length (S.T.map fun x:Nat=>Value.int .i64 (x:Int))):=Lib.hid (by
  have h1:=HR3.out.rows.t
  have h2:=ownsRow_below h1 ((Below.refl w3.heap.size w3).drew)
  simpa[MS.mac,Function.comp_def] using h2)
 have HNW:Hid (∀ ad,a2=some ad→∀ j u,(flatN B)[j]? = some u→w3.drew.cell? (ad.add j)=some u):=Lib.hid fun ad had j u hu=>by
  subst had
  have:=HIS3.out.rw'.news j u (by simpa[flatN,Function.comp_def] using hu)
  exact this
 have hane:a2=none→B.length=0:=fun e=>by have:=HIS3.out.cap;have h2:=this.2.2 e;have:=this.1;simp at this;omega
 obtain⟨i0,hi0,hz0,hz1,hz2⟩:=info_parts Try.infoInt
 go_region_law ((
  refine step_append_opt _ (by rfl) _ _ _ (by rfl) 0 3 i0 _ 1 8 Try.underlying44 hi0 hz0 hz1 hz2 rfl (by decide) (.slice d.t S.T.length d.tn) S.T.length (S.T.map fun x:Nat=>Value.int .i64 (x:Int)) (by rfl) HO1.out a2 B.length c2' hane (flatN B) (by rfl) (by simp[flatN]) HNW.out (by intro u hu;obtain⟨x,_,rfl⟩:=List.mem_map.1 hu;rfl) (by unfold maxLen;omega) (by omega) (Nat.zero_le _) ?_
  intro v4 w4 hown4 hgrow4 hfr4
  obtain⟨a4,c4,rfl⟩:=ownsRow_form hown4
  have HOWN4:=Lib.hid hown4;have HGR4:=Lib.hid hgrow4;have HFR4:=Lib.hid hfr4
  have hRb:w4.heap[R]? = w3.heap[R]?:=hgrow4.block R HR3.out.lt (fun e=>HR3.out.ne (bk d.t) (by simp[rws]) ((bk_own d.t S.T.length d.tn).symm.trans e.symm))
  have z5:w4.cell? ⟨R,5,none⟩=some (.slice d.t S.T.length d.tn):=(World.cell?_of_block hRb).trans s5
  have zf:∀ o,w4.frozen? ⟨R,o,none⟩=false:=fun o=>by have:=sf o;simpa[World.frozen?,hRb] using this
  clear hown4 hgrow4 hfr4))
 all_goals
  have hLl:((S.T++B).map fun x:Nat=>(x:Int)).length=S.T.length+B.length:=by simp
  have HX4:Hid (RnAt (w4.setCell ⟨R,5,none⟩ (.slice a4 (S.T.length+B.length) c4)) Z R p pa pc { S.mac with H:=K,T:=(S.T++B).map fun x:Nat=>(x:Int) } { d with t:=a4,tn:=c4 } wk2∧Touch (RM R d) w3 (w4.setCell ⟨R,5,none⟩ (.slice a4 (S.T.length+B.length) c4))∧FreshD w3 d { d with t:=a4,tn:=c4 }):=Lib.hid (by
   have h3:=HR3.out.below ((Below.refl w3.heap.size w3).drew)
   have ht4:Touch (fun b=>bk d.t=some b) w3.drew w4:=Touch.grown HGR4.out fun k e=>(bk_own d.t S.T.length d.tn).symm.trans e
   have hf4:bk a4=bk d.t∨∀ b,bk a4=some b→w3.drew.heap.size≤b:=HFR4.out.elim (fun e=>.inl ((bk_own _ _ _).symm.trans (e.trans (bk_own _ _ _)))) fun e=>.inr fun b hb=>e b ((bk_own _ _ _).trans hb)
   obtain⟨q1,-⟩:=h3.putT (L:=(S.T++B).map fun x:Nat=>(x:Int)) (a:=a4) (n:=c4) (ht4.mono fun b _ e=>.inl e) (by rw[hLl];have:=HOWN4.out;simpa[flatN,Function.comp_def] using this) hf4 (fun b hb=>by have:=HZN.out b hb;have:=HTM.out.size;have:=HTK.out.size;exact Nat.lt_of_lt_of_le (HZN.out b hb) (Nat.le_trans HTM.out.size (Nat.le_trans HTK.out.size (Below.refl w3.heap.size w3).drew.size)))
   rw[hLl] at q1
   have q2:Touch (RM R d) w3.drew (w4.setCell ⟨R,5,none⟩ (.slice a4 (S.T.length+B.length) c4)):=(ht4.mono fun b _ e=>.inr (by rw[← e];simp[rws])).trans (Touch.setCell _ (.inl rfl))
   refine⟨q1,(Touch.below ((Below.refl w3.heap.size w3).drew)).trans q2,fun b hb=>?_⟩
   simp only[rws,List.mem_cons,List.not_mem_nil,or_false] at hb ⊢
   rcases hf4 with e | e
   ·rw[e] at hb;exact .inl hb
   ·rcases hb with e1 | e1 | e1 | e1 | e1 | e1
    ·exact .inl (.inl e1)
    ·exact .inl (.inr (.inl e1))
    ·exact .inl (.inr (.inr (.inl e1)))
    ·exact .inr (e b e1.symm)
    ·exact .inl (.inr (.inr (.inr (.inr (.inl e1)))))
    ·exact .inl (.inr (.inr (.inr (.inr (.inr e1))))))
  have HTW:Hid (Touch (RM R d) w (w4.setCell ⟨R,5,none⟩ (.slice a4 (S.T.length+B.length) c4))∧FreshD w d { d with t:=a4,tn:=c4 }):=Lib.hid ⟨(HTM.out.trans HTK.out).trans HX4.out.2.1,fun b hb=>(HX4.out.2.2 b hb).imp id fun e=>by have:=HTM.out.size;omega⟩
  obtain⟨-,-,-,-,-,-,-,-,j8,-,-,jf⟩:=HX4.out.1.cells
  have zR4:=HX4.out.1.lt
  clear hLl
  generalize w4.setCell ⟨R,5,none⟩ (.slice a4 (S.T.length+B.length) c4)=w5 at *
  rcases HEN.out with rfl | ⟨rfl,rfl⟩
  ·have HF:Hid (RnAt w5 Z R p pa pc (msame a b S).1.mac { d with t:=a4,tn:=c4 } wk2):=Lib.hid (by
    have e:(msame a b S).1.mac = { S.mac with H:=K,T:=(S.T++B).map fun x:Nat=>(x:Int) }:=by
     rw[HMAC.out,if_pos rfl]
     have:=H0.out
     simp only[MS.mac,this];rfl
    rw[e];exact HX4.out.1)
   cases okb with
   | true =>
    go_wp2_with fail
    go_ret
    exact⟨by rw[HRES.out];rfl,HTW.out.1,_,wk2,HTW.out.2,HF.out,HWK.out⟩
   | false =>
    go_wp2_with fail
    go_ret
    exact⟨by rw[HRES.out];rfl,HTW.out.1,_,wk2,HTW.out.2,HF.out,HWK.out⟩
  ·have HF:Hid (RnAt (w5.setCell ⟨R,8,none⟩ (.int .i64 3)) Z R p pa pc (msame a b S).1.mac { d with t:=a4,tn:=c4 } wk2∧Touch (RM R { d with t:=a4,tn:=c4 }) w5 (w5.setCell ⟨R,8,none⟩ (.int .i64 3))):=Lib.hid (by
    have e:(msame a b S).1.mac = { S.mac with H:=K,T:=(S.T++B).map fun x:Nat=>(x:Int),fin:=3 }:=by
     rw[HMAC.out,if_neg (by decide)]
    rw[e];exact HX4.out.1.putFin 3)
   go_wp2_with fail
   go_ret
   exact⟨by rw[HRES.out];rfl,rm_next HTW.out.1 HTW.out.2 HF.out.2,_,wk2,HTW.out.2,HF.out.1,HWK.out⟩
end Go.Proofs.Ytikmgiapjigghaa

/- Goals pushed, one by one: what lies there while they are. -/
namespace Go.Proofs.Ytikmgiapjigghaa
open Go.RowKit
def pg(S:MS)(V:CV)(l:List Tm)(cut nx i:Nat):List Gn×Nat:=pushG cut ((putL S.H V l).2.reverse.take i) (S.G,nx)
theorem pg_succ(S:MS)(V:CV)(l:List Tm)(cut nx:Nat){i:Nat}(h:i<(putL S.H V l).2.length) :
 pg S V l cut nx (i+1)=((pg S V l cut nx i).1++[⟨(putL S.H V l).2.getD ((putL S.H V l).2.length-1-i) 0,cut,(pg S V l cut nx i).2⟩],(pg S V l cut nx i).1.length+1):=by
 have hr:i<(putL S.H V l).2.reverse.length:=by rw[List.length_reverse];exact h
 unfold pg
 rw[List.take_succ_eq_append_getElem hr,pushG_append]
 simp only[pushG,List.getElem_reverse]
 rw[List.getD_eq_getElem?_getD,List.getElem?_eq_getElem (by omega)]
 rfl
theorem pg_len(S:MS)(V:CV)(l:List Tm)(cut nx:Nat):∀ i,i≤(putL S.H V l).2.length→(pg S V l cut nx i).1.length=S.G.length+i:=by
 intro i
 induction i with
 | zero=>intro _;rfl
 | succ i ih=>intro h;rw[pg_succ S V l cut nx (by omega)];have:=ih (by omega);simp only[List.length_append,List.length_singleton];omega
theorem pg_all(S:MS)(V:CV)(l:List Tm)(cut nx:Nat):pg S V l cut nx (putL S.H V l).2.length=pushG cut (putL S.H V l).2.reverse (S.G,nx):=by
 unfold pg
 rw[List.take_of_length_le (by rw[List.length_reverse];exact Nat.le_refl _)]
theorem ownsRow_isCells{w:World}{base:Nat}{e:TypeId}{size:Nat}{v:Value}{n:Nat}{xs:List Value}(h:w.ownsRow base e size v n xs){g:Nat}(hg:v.ownBlock=some g){o:Obj}(ho:w.heap[g]? = some o):o.isCells=true:=by
 rcases h.2 with ⟨h1,h2⟩ | ⟨g',cap,cur,rfl,h3,h4,r⟩
 ·rw[h1] at hg;simp[Value.ownBlock] at hg
 ·have e:g'=g:=by simpa[Value.ownBlock] using hg
  subst e
  rw[h4] at ho
  cases ho
  rfl
structure PJ(w0 W:World)(R:Nat)(pa:Option Addr)(np pc:Nat)(m:Mac)(d:MAd)(wk:Nat)(L:List Gl)(f:Int)(a:Option Addr)(n:Nat):Prop where
 blk:W.heap[R]? = some (.cells (rvals pa np pc { m with G:=L,first:=f } { d with g:=a,gn:=n } wk).toArray 148 (0,0))
 g:W.ownsRow 0 155 3 (.slice a L.length n) L.length (flatG L)
 fr:bk a=bk d.g∨∀ b,bk a=some b→w0.heap.size≤b
 t:Touch (fun b=>b=R∨bk d.g=some b∨w0.heap.size≤b) w0 W
section
variable {w0 W W':World} {R:Nat} {pa:Option Addr} {np pc:Nat} {m:Mac} {d:MAd} {wk:Nat} {L:List Gl} {f:Int} {a:Option Addr} {n:Nat}
theorem PJ.step(hR:R<w0.heap.size)(h:PJ w0 W R pa np pc m d wk L f a n){row:Option Nat}(hg:W.grownBy W' row)(hr:∀ r,row=some r→w0.heap.size≤r∧∃ o:Obj,W.heap[r]? = some o∧o.isCells=false):PJ w0 W' R pa np pc m d wk L f a n:=by
 have ht:Touch (fun k=>row=some k) W W':=Touch.grown hg fun k e=>e
 have hs:=h.t.size
 refine⟨?_,ownsRow_block h.g fun g hg'=>ht.block g (h.g.lt g hg').2 fun e=>?_,h.fr,h.t.trans (ht.mono fun b _ e=>.inr (.inr (hr b e).1))⟩
 ·rw[ht.block R (by omega) fun e=>by have:=(hr R e).1;omega];exact h.blk
 ·obtain⟨-,o,ho,hc⟩:=hr g e
  rw[ownsRow_isCells h.g hg' ho] at hc
  cases hc
theorem PJ.own{β:Type}(hR:R<w0.heap.size)(q:β→Prop)(L:β→List Gl)(f:β→Int):OwnFrom w0.heap.size (fun (i:β) W=>q i∧∃ a n,PJ w0 W R pa np pc m d wk (L i) (f i) a n):=by
 rintro i W W' row ⟨hq,a,n,h⟩ hg hr
 exact⟨hq,a,n,h.step hR hg hr⟩
theorem PJ.bkR(hR:R<w0.heap.size)(hg:bk d.g≠some R)(h:PJ w0 W R pa np pc m d wk L f a n):bk a≠some R:=fun e=>by
 rcases h.fr with k | k
 ·exact hg (k.symm.trans e)
 ·have:=k R e;omega
theorem PJ.cells(h:PJ w0 W R pa np pc m d wk L f a n) :
 W.cell? ⟨R,1,none⟩=some (.slice d.h m.H.length d.hn)∧W.cell? ⟨R,2,none⟩=some (.slice a L.length n)∧W.cell? ⟨R,3,none⟩=some (.int .i64 f)∧∀ o,W.frozen? ⟨R,o,none⟩=false:=by
 have h':=h.blk
 refine⟨?_,?_,?_,fun o=>by simp[World.frozen?,h']⟩
 all_goals simp[World.cell?,h',rvals]
theorem PJ.lt(h:PJ w0 W R pa np pc m d wk L f a n):R<W.heap.size:=(Array.getElem?_eq_some_iff.1 h.blk).1
theorem PJ.below(h:PJ w0 W R pa np pc m d wk L f a n)(hb:Below W.heap.size W W'):PJ w0 W' R pa np pc m d wk L f a n :=
 ⟨(hb.block R h.lt).trans h.blk,ownsRow_block h.g fun g hg=>hb.block g (h.g.lt g hg).2,h.fr,h.t.trans ((Touch.below hb:Touch (fun _=>False) W W').mono fun _ _ e=>e.elim)⟩
theorem PJ.first(hR:R<w0.heap.size)(hg:bk d.g≠some R)(h:PJ w0 W R pa np pc m d wk L f a n)(v:Int):PJ w0 (W.setCell ⟨R,3,none⟩ (.int .i64 v)) R pa np pc m d wk L v a n:=by
 refine⟨?_,ownsRow_block h.g fun g hg'=>Below.heap_setCell _ _ _ _ fun e=>?_,h.fr,h.t.trans (Touch.setCell _ (.inl rfl))⟩
 ·rw[heap_setCell_at W R 3 _ h.blk];rfl
 ·exact h.bkR hR hg ((bk_own _ _ _).symm.trans (by rw[← (show g=R from e)];exact hg'))
theorem PJ.next(hR:R<w0.heap.size)(hg:bk d.g≠some R)(h:PJ w0 W R pa np pc m d wk L f a n){X w7:World}(hX:Below W.heap.size W X){x:Gl}{a7:Option Addr}{n7:Nat}(ho:w7.ownsRow 0 155 3 (.slice a7 (L.length+1) n7) (L.length+1) (flatG L++flatG [x]))
 (hgr:X.grownBy w7 (Value.slice a L.length n).ownBlock) (hf:Fresh X (.slice a L.length n) (.slice a7 (L.length+1) n7)) :
 PJ w0 (w7.setCell ⟨R,2,none⟩ (.slice a7 (L.length+1) n7)) R pa np pc m d wk (L++[x]) f a7 n7∧Touch (fun b=>b=R∨bk a=some b) W (w7.setCell ⟨R,2,none⟩ (.slice a7 (L.length+1) n7)):=by
 have haR:=h.bkR hR hg
 have hs:=h.t.size
 have hsX:=hX.size
 have ht:Touch (fun b=>bk a=some b) X w7:=Touch.grown hgr fun k e=>(bk_own a L.length n).symm.trans e
 have hb7:w7.heap[R]? = W.heap[R]?:=(ht.block R (Nat.lt_of_lt_of_le h.lt hsX) haR).trans (hX.block R h.lt)
 have hfr:bk a7=bk a∨∀ b,bk a7=some b→X.heap.size≤b:=hf.elim (fun e=>.inl ((bk_own _ _ _).symm.trans (e.trans (bk_own _ _ _)))) fun e=>.inr fun b hb=>e b ((bk_own _ _ _).trans hb)
 have hl:(L++[x]).length=L.length+1:=by simp
 have hT:Touch (fun b=>b=R∨bk a=some b) W (w7.setCell ⟨R,2,none⟩ (.slice a7 (L.length+1) n7)):=(Touch.below hX).trans ((ht.mono fun b _ e=>.inr e).trans (Touch.setCell _ (.inl rfl)))
 refine⟨⟨?_,?_,?_,h.t.trans (hT.mono fun b _ e=>?_)⟩,hT⟩
 ·rw[heap_setCell_at w7 R 2 _ (hb7.trans h.blk)]
  simp[rvals]
 ·rw[hl,flatG_append]
  refine ownsRow_block ho fun g hg'=>Below.heap_setCell _ _ _ _ fun e=>?_
  subst e
  have hk:=(bk_own _ _ _).symm.trans hg'
  rcases hfr with k | k
  ·exact haR (k.symm.trans hk)
  ·have:=k g hk;have:=h.lt;omega
 ·rcases hfr with k | k
  ·rw[k];exact h.fr
  ·exact .inr fun b hb=>by have:=k b hb;omega
 ·rcases e with e | e
  ·exact .inl e
  ·rcases h.fr with k | k
   ·exact .inr (.inl (k.symm.trans e))
   ·exact .inr (.inr (k b e))
theorem PJ.done{Z:Nat→Prop}{p:List Cl}(h0:RnAt w0 Z R p pa pc m d wk)(hzn:∀ b,Z b→b<w0.heap.size)(h:PJ w0 W R pa p.length pc m d wk L f a n):RnAt W Z R p pa pc { m with G:=L,first:=f } { d with g:=a,gn:=n } wk:=by
 have hR:=h0.lt
 have hg:bk d.g≠some R:=h0.ne _ (by simp[rws])
 have haR:=h.bkR hR hg
 obtain⟨W1,hW1⟩:∃ W1,W1=W.putObj R (.cells (rvals pa p.length pc m d wk).toArray 148 (0,0)):=⟨_,rfl⟩
 have hb1:W1.heap[R]? = some (.cells (rvals pa p.length pc m d wk).toArray 148 (0,0)):=by rw[hW1];exact World.putObj_heap_same h.lt
 have ho1:∀ b,b≠R→W1.heap[b]? = W.heap[b]?:=fun b hb=>by rw[hW1];exact World.putObj_heap_other hb
 have hs1:W1.heap.size=W.heap.size:=by rw[hW1];simp[World.putObj]
 have ht1:Touch (fun b=>bk d.g=some b∨Z b) w0 W1:=by
  refine⟨by rw[hW1];exact h.t.os,by rw[hW1];exact h.t.tape,by rw[hW1];exact h.t.output,by rw[hs1];exact h.t.size,fun b hb hn=>?_⟩
  by_cases e:b=R
  ·subst e;rw[hb1,h0.blk]
  ·rw[ho1 b e]
   exact h.t.block b hb fun k=>by
    rcases k with k | k | k
    ·exact e k
    ·exact hn (.inl k)
    ·omega
 have hx1:W1.ownsRow 0 155 3 (.slice a L.length n) L.length (flatG L):=ownsRow_block h.g fun g hg'=>ho1 g fun e=>haR ((bk_own _ _ _).symm.trans (by rw[← e];exact hg'))
 have h2:=((h0.putG ht1 hx1 h.fr hzn).1.putFirst f).1
 refine h2.keep (M:=fun _=>False) ⟨by rw[hW1];rfl,by rw[hW1];rfl,by rw[hW1];rfl,by simp[World.setCell,hs1],fun b _ _=>?_⟩ fun _ _ e=>e.elim
 by_cases e:b=R
 ·subst e
  rw[h.blk,heap_setCell_at _ b 3 _ (heap_setCell_at W1 b 2 _ hb1)]
  simp[rvals]
 ·rw[Below.heap_setCell _ _ _ _ e,Below.heap_setCell _ _ _ _ e,ho1 b e]
theorem PJ.start{Z:Nat→Prop}{p:List Cl}(h:RnAt w0 Z R p pa pc m d wk):PJ w0 w0 R pa p.length pc m d wk m.G m.first d.g d.gn :=
 ⟨h.blk,h.rows.g,.inl rfl,Touch.refl _ _⟩
end
theorem new_cells3(W:World)(x y z:Value)(T:TypeId):∀ j u,[x,y,z][j]? = some u→((W.alloc (.cells #[x,y,z] T)).drew).cell? ((⟨W.heap.size,0,none⟩:Addr).add j)=some u:=by
 intro j u h
 have hb:((W.alloc (.cells #[x,y,z] T)).drew).heap[W.heap.size]? = some (.cells #[x,y,z] T (0,0)):=heap_alloc_new W _
 match j,h with
 | 0,h=>cases h;rw[show (⟨W.heap.size,0,none⟩:Addr).add 0=⟨W.heap.size,0,none⟩ by simp[Addr.add]];simp only[World.cell?,hb];rfl
 | 1,h=>cases h;rw[show (⟨W.heap.size,0,none⟩:Addr).add 1=⟨W.heap.size,1,none⟩ by simp[Addr.add]];simp only[World.cell?,hb];rfl
 | 2,h=>cases h;rw[show (⟨W.heap.size,0,none⟩:Addr).add 2=⟨W.heap.size,2,none⟩ by simp[Addr.add]];simp only[World.cell?,hb];rfl
 | j+3,h=>simp at h
theorem getD_coe(l:List Nat)(k:Nat):(l.map (fun x:Nat=>(x:Int))).getD k 0=((l.getD k 0:Nat):Int):=by
 simp only[List.getD_eq_getElem?_getD,List.getElem?_map]
 cases l[k]? <;> rfl
theorem pg_next(S:MS)(V:CV)(l:List Tm)(cut nx:Nat){i:Nat}(h:i<(putL S.H V l).2.length){A:List Int}(hA:A=(putL S.H V l).2.map (fun x:Nat=>(x:Int))) :
 (pg S V l cut nx (i+1)).1.map Gn.gl=(pg S V l cut nx i).1.map Gn.gl++[⟨A.getD (A.length-1-i) 0,(cut:Int),((pg S V l cut nx i).2:Int)⟩]∧((pg S V l cut nx (i+1)).2:Int)=((((pg S V l cut nx i).1.map Gn.gl).length:Nat):Int)+1:=by
 rw[pg_succ S V l cut nx h,hA,getD_coe]
 simp[Gn.gl]
theorem mpush_mac(l:List Tm)(V:CV)(cut nx:Nat)(S:MS){L:List Gl}{f:Int}(hL:L=(pushG cut (putL S.H V l).2.reverse (S.G,nx)).1.map Gn.gl)(hf:f=((pushG cut (putL S.H V l).2.reverse (S.G,nx)).2:Int))(h1:(putL S.H V l).1.1.length≤400000)(h2:L.length≤5000) :
 (mpush l V cut nx S).mac = { S.mac with H:=(putL S.H V l).1.1,G:=L,first:=f }:=by
 have h3:(pushG cut (putL S.H V l).2.reverse (S.G,nx)).1.length≤5000:=by rw[hL,List.length_map] at h2;exact h2
 simp only[mpush,MS.mac]
 rw[if_neg (by omega),hL,hf]
theorem keepsFrom_cells{B:Nat}{W V:World}{M:Nat→Prop}(h:Touch M W V)(hM:∀ b o,M b→W.heap[b]? = some o→o.isCells=true):KeepsFrom B W V :=
 ⟨h.size,fun k o _ ho hc=>(h.block k (Array.getElem?_eq_some_iff.1 ho).1 fun e=>by rw[hM k o e ho] at hc;cases hc).trans ho⟩
end Go.Proofs.Ytikmgiapjigghaa

/- A region that draws its order, told by what each operation yields: inside a round of a range over a function too. -/
namespace Go.Proofs.Ytikmgiapjigghaa
open Go.RowKit
section
variable {F:Fence} {n:Nat} {P:Program} {ops:Array Oper} {Q:Exit→Act→World→Prop} {md:Region.Mode}
theorem listed_set(l:Array Bool)(i j:Nat)(hi:i<l.size):(l.setIfInBounds i true).getD j false=if j=i then true else l.getD j false:=by
 simp only[Array.getD_eq_getD_getElem?,Array.getElem?_setIfInBounds]
 by_cases h:i=j
 ·subst h;simp[hi]
 ·rw[if_neg h,if_neg (fun e=>h e.symm)]
theorem listed_in{l:Array Bool}{i:Nat}(h:l.getD i true=false):i<l.size∧l.getD i false=false:=by
 simp only[Array.getD_eq_getD_getElem?] at h ⊢
 cases e:l[i]? with
 | none=>rw[e] at h;simp at h
 | some b=>rw[e] at h;simp at h;subst h;exact⟨(Array.getElem?_eq_some_iff.1 e).1,by simp⟩
theorem count_set{l:Array Bool}{i:Nat}(h:l.getD i true=false):(l.setIfInBounds i true).toList.count false+1≤l.toList.count false:=by
 obtain⟨h1,h2⟩:=listed_in h
 have h3:l.toList[i]'(by simpa using h1)=false:=by
  simp only[Array.getD_eq_getD_getElem?,Array.getElem?_eq_getElem h1] at h2
  simpa using h2
 have h4:0<l.toList.count false:=List.count_pos_iff.2 (by rw[← h3];exact List.getElem_mem _)
 rw[Array.toList_setIfInBounds,List.count_set (by simpa using h1)]
 simp only[h3,beq_self_eq_true,if_true,show (true == false)=false from rfl,Bool.false_eq_true,if_false,Nat.add_zero]
 omega
structure RegJ(md:Region.Mode)(ops:Array Oper)(vals:Nat→Value)(a0:Act)(WJ:(Nat→Bool)→World→Prop)(L:Nat→Bool)(a:Act)(w:World):Prop where
 closed:∀ (j:Nat) (o:Oper),L j=true→ops[j]? = some o→∀ e∈o.after,Region.binds md e=true→L e.on=true
 val:∀ (j:Nat) (o:Oper) (d:Nat),L j=true→ops[j]? = some o→o.dst=some d→a.tmps.getD d undef=vals j
 other:∀ d,(∀ (j:Nat) (o:Oper),ops[j]? = some o→o.dst≠some d)→a.tmps.getD d undef=a0.tmps.getD d undef
 size:a.tmps.size=a0.tmps.size
 defers:a.defers=a0.defers
 wj:WJ L w
theorem wpAnyIn_vals(hF:∀ f,F.fn f){vals:Nat→Value}{a0:Act}{WJ:(Nat→Bool)→World→Prop}
 (hops:∀ i o,ops[i]? = some o→(∀ y,Region.wanted o y=true)∧(∀ c,o.op≠.defer c)∧(∀ e∈o.after,e.on<i)∧∀ d,o.dst=some d→d<a0.tmps.size∧∀ j o',ops[j]? = some o'→o'.dst=some d→j=i)
 (hext:∀ L L' w,(∀ j,L j=L' j)→WJ L w→WJ L' w)
 (hstep:∀ L a w i o,RegJ md ops vals a0 WJ L a w→ops[i]? = some o→L i=false→(∀ e∈o.after,Region.binds md e=true→L e.on=true) →
  ∃ w',((execOp a.eval o).run P w=.ok (.value (vals i)) w'∨((execOp a.eval o).run P w=.ok .skip w'∧vals i=undef))∧WJ (fun j=>if j=i then true else L j) w')
 (hdone:∀ L a w,RegJ md ops vals a0 WJ L a w→(∀ j,j<ops.size→L j=true)→Q .normal a w) :
 ∀ (fuel:Nat) (listed:Array Bool) (a:Act) (w:World),listed.toList.count false≤fuel→RegJ md ops vals a0 WJ (fun j=>listed.getD j false) a w→(∀ j,listed.getD j true=false→j<ops.size)→(∀ j,j<ops.size→j<listed.size)→wpAnyIn F n P md ops Q fuel listed a w:=by
 have fin:∀ (listed:Array Bool) (a:Act) (w:World),RegJ md ops vals a0 WJ (fun j=>listed.getD j false) a w→(∀ j,j<ops.size→j<listed.size)→Region.ready md ops listed = []→Q .normal a w:=by
  intro listed a w hJ hs hr
  refine hdone _ a w hJ ?_
  intro j
  induction j using Nat.strongRecOn with
  | _ j ih =>
   intro hj
   obtain⟨o,ho⟩:∃ o,ops[j]? = some o:=⟨_,Array.getElem?_eq_getElem hj⟩
   by_cases hl:listed.getD j false=true
   ·exact hl
   ·have hjs:=hs j hj
    have h1:listed.getD j true=false:=by
     simp only[Array.getD_eq_getD_getElem?,Array.getElem?_eq_getElem hjs,Option.getD_some] at hl ⊢
     simpa using hl
    have:j∈Region.ready md ops listed:=mem_ready.2 ⟨h1,o,ho,fun e he _=>by
     have h2:=(hops j o ho).2.2.1 e he
     exact ih e.on h2 (by omega)⟩
    rw[hr] at this
    cases this
 intro fuel
 induction fuel with
 | zero =>
  intro listed a w hc hJ hb hs
  have hr:Region.ready md ops listed = []:=by
   cases h:Region.ready md ops listed with
   | nil=>rfl
   | cons i r =>
    have hi:i∈Region.ready md ops listed:=by rw[h];exact List.mem_cons_self
    have:=count_set (mem_ready.1 hi).1
    omega
  exact⟨hr,fin listed a w hJ hs hr⟩
 | succ fuel ih =>
  intro listed a w hc hJ hb hs
  refine⟨fin listed a w hJ hs,fun i hi=>?_⟩
  obtain⟨h1,o,ho,hall⟩:=mem_ready.1 hi
  obtain⟨his,h1f⟩:=listed_in h1
  obtain⟨o1,o2,o3,o4⟩:=hops i o ho
  obtain⟨w',hrun,hw'⟩:=hstep _ a w i o hJ ho h1f hall
  have hcn:=count_set h1
  -- what comes behind
  have next:RegJ md ops vals a0 WJ (fun j=>(listed.setIfInBounds i true).getD j false) (a.put o.dst (vals i)) w':=by
   have hset:∀ j,(listed.setIfInBounds i true).getD j false=if j=i then true else listed.getD j false:=fun j=>listed_set listed i j his
   refine⟨fun j oj hj hoj e he hbd=>?_,fun j oj d hj hoj hd=>?_,fun d hd=>?_,?_,?_,hext _ _ _ (fun j=>(hset j).symm) hw'⟩
   ·simp only[hset] at hj ⊢
    by_cases hji:j=i
    ·subst hji
     rw[ho] at hoj;cases hoj
     have:=hall e he hbd
     split
     ·rfl
     ·exact this
    ·rw[if_neg hji] at hj
     have:=hJ.closed j oj hj hoj e he hbd
     split
     ·rfl
     ·exact this
   ·simp only[hset] at hj
    by_cases hji:j=i
    ·subst hji
     rw[ho] at hoj;cases hoj
     have hds:=(o4 d hd).1
     rw[hd]
     simp only[Act.put,Array.getD_eq_getD_getElem?,Array.getElem?_setIfInBounds]
     rw[← hJ.size] at hds
     simp[hds]
    ·rw[if_neg hji] at hj
     rw[← hJ.val j oj d hj hoj hd]
     cases hdo:o.dst with
     | none=>rfl
     | some d' =>
      have:d'≠d:=fun e=>hji ((o4 d' hdo).2 j oj hoj (by rw[hd,e]))
      simp only[Act.put,Array.getD_eq_getD_getElem?,Array.getElem?_setIfInBounds]
      rw[if_neg this]
   ·rw[← hJ.other d hd]
    cases hdo:o.dst with
    | none=>rfl
    | some d' =>
     have:d'≠d:=fun e=>hd i o ho (by rw[hdo,e])
     simp only[Act.put,Array.getD_eq_getD_getElem?,Array.getElem?_setIfInBounds]
     rw[if_neg this]
   ·cases hdo:o.dst with
    | none=>exact hJ.size
    | some d'=>simp only[Act.put,Array.size_setIfInBounds];exact hJ.size
   ·cases hdo:o.dst with
    | none=>exact hJ.defers
    | some d'=>exact hJ.defers
  have key:=ih (listed.setIfInBounds i true) _ w' (by omega) next (fun j hj=>hb j (by
   simp only[Array.getD_eq_getD_getElem?,Array.getElem?_setIfInBounds] at hj ⊢
   by_cases e:i=j
   ·subst e;simp[his] at hj
   ·rw[if_neg e] at hj;exact hj)) (fun j hj=>by rw[Array.size_setIfInBounds];exact hs j hj)
  unfold wpOpIn
  simp only[ho,o1,if_true]
  refine⟨fun f _=>hF f,?_⟩
  rw[Oper.semAt_eq _ _ _ o2]
  rcases hrun with h | ⟨h,hv⟩
  ·rw[h];exact key
  ·rw[h,Oper.uponIn_skip,← hv];exact key
theorem wpIn_region_vals{id:Nat}{a0:Act}{w0:World}(hm:P.follows .mixedOrders=true)(hF:∀ f,F.fn f){vals:Nat→Value}{WJ:(Nat→Bool)→World→Prop}
 (hops:∀ i o,ops[i]? = some o→(∀ y,Region.wanted o y=true)∧(∀ c,o.op≠.defer c)∧(∀ e∈o.after,e.on<i)∧∀ d,o.dst=some d→d<a0.tmps.size∧∀ j o',ops[j]? = some o'→o'.dst=some d→j=i)
 (hext:∀ L L' w,(∀ j,L j=L' j)→WJ L w→WJ L' w) (h0:WJ (fun _=>false) w0.drew)
 (hstep:∀ L a w i o,RegJ .any ops vals a0 WJ L a w→ops[i]? = some o→L i=false→(∀ e∈o.after,Region.binds .any e=true→L e.on=true) →
  ∃ w',((execOp a.eval o).run P w=.ok (.value (vals i)) w'∨((execOp a.eval o).run P w=.ok .skip w'∧vals i=undef))∧WJ (fun j=>if j=i then true else L j) w')
 (hdone:∀ L a w,RegJ .any ops vals a0 WJ L a w→(∀ j,j<ops.size→L j=true)→Q .normal a w):(Code.region id ops true).wpIn F n P Q a0 w0:=by
 refine wpIn_region_any hm (wpAnyIn_vals hF hops hext hstep hdone ops.size _ a0 _ ?_ ?_ ?_ ?_)
 ·rw[Array.toList_replicate,List.count_replicate_self];exact Nat.le_refl _
 ·have hf:∀ j,(Array.replicate ops.size false).getD j false=false:=fun j=>by
   simp only[Array.getD_eq_getD_getElem?,Array.getElem?_replicate]
   split <;> rfl
  refine⟨fun j o hj=>?_,fun j o d hj=>?_,fun d _=>rfl,rfl,rfl,hext _ _ _ (fun j=>(hf j).symm) h0⟩
  ·simp only[hf] at hj;cases hj
  ·simp only[hf] at hj;cases hj
 ·intro j hj
  have:=(listed_in hj).1
  simpa using this
 ·intro j hj;simpa using hj
def opsOk(ops:Array Oper)(size:Nat):Bool :=
 (List.range ops.size).all fun i=>match ops[i]? with
  | none=>true
  | some o=>o.guard.isNone && (match o.op with | .defer _=>false | _=>true) && o.after.all (fun e=>decide (e.on<i)) && (match o.dst with
   | none=>true
   | some d=>decide (d<size) && (List.range ops.size).all fun j=>match ops[j]? with
    | none=>true
    | some o'=>(match o'.dst with | some d'=>!decide (d'=d) | none=>true) || decide (j=i))
theorem opsOk_spec{size:Nat}(h:opsOk ops size=true):∀ i o,ops[i]? = some o→(∀ y,Region.wanted o y=true)∧(∀ c,o.op≠.defer c)∧(∀ e∈o.after,e.on<i)∧∀ d,o.dst=some d→d<size∧∀ j o',ops[j]? = some o'→o'.dst=some d→j=i:=by
 intro i o ho
 have hi:i<ops.size:=(Array.getElem?_eq_some_iff.1 ho).1
 have h1:=List.all_eq_true.1 h i (List.mem_range.2 hi)
 simp only[ho,Bool.and_eq_true] at h1
 obtain⟨⟨⟨g1,g2⟩,g3⟩,g4⟩:=h1
 refine⟨fun y=>?_,fun c e=>(by rw[e] at g2;cases g2),fun e he=>?_,fun d hd=>?_⟩
 ·unfold Region.wanted
  cases hg:o.guard with
  | none=>rfl
  | some q=>rw[hg] at g1;cases g1
 ·have:=Array.all_eq_true_iff_forall_mem.1 g3 e he
  simpa using this
 ·rw[hd] at g4
  simp only[Bool.and_eq_true,decide_eq_true_eq] at g4
  refine⟨g4.1,fun j o' hj hd'=>?_⟩
  have hjl:j<ops.size:=(Array.getElem?_eq_some_iff.1 hj).1
  have h2:=List.all_eq_true.1 g4.2 j (List.mem_range.2 hjl)
  simp only[hj,hd'] at h2
  simpa using h2
theorem RegJ.at'{vals:Nat→Value}{a0:Act}{WJ:(Nat→Bool)→World→Prop}{L:Nat→Bool}{a:Act}{w:World}(h:RegJ md ops vals a0 WJ L a w){j d:Nat}{o:Oper}(hl:L j=true)(ho:ops[j]? = some o)(hd:o.dst=some d):a.tmps[d]?.getD undef=vals j:=by
 rw[← Array.getD_eq_getD_getElem?];exact h.val j o d hl ho hd
theorem RegJ.old{vals:Nat→Value}{a0:Act}{WJ:(Nat→Bool)→World→Prop}{L:Nat→Bool}{a:Act}{w:World}(h:RegJ md ops vals a0 WJ L a w){d:Nat}(hd:∀ (j:Nat) (o:Oper),ops[j]? = some o→o.dst≠some d):a.tmps[d]?.getD undef=a0.tmps[d]?.getD undef:=by
 rw[← Array.getD_eq_getD_getElem?,← Array.getD_eq_getD_getElem?];exact h.other d hd
def freeOf(ops:Array Oper)(d:Nat):Bool:=(List.range ops.size).all fun i=>match ops[i]? with
 | none=>true
 | some o=>match o.dst with | some d'=>!decide (d'=d) | none=>true
theorem freeOf_spec{d:Nat}(h:freeOf ops d=true):∀ (j:Nat) (o:Oper),ops[j]? = some o→o.dst≠some d:=by
 intro j o ho e
 have:=List.all_eq_true.1 h j (List.mem_range.2 (Array.getElem?_eq_some_iff.1 ho).1)
 simp only[ho,e] at this
 simp at this
end
end Go.Proofs.Ytikmgiapjigghaa
