/- Walk: the runner pushes goals. -/
import Derived.Deep.CutRange
import Derived.Test.YtikmgiapjigghabQc17
import Derived.Test.YtikmgiapjigghabQc19
import Derived.Test.YtikmgiapjigghabQc26
import Derived.Test.YtikmgiapjigghabQc27
set_option maxRecDepth 100000
set_option maxHeartbeats 8000000
namespace Go.Proofs.Ytikmgiapjigghab
open Go.RowKit Go.Shelf
attribute [local go_sem] Oper.semAt_some
def apS(t:Array TypeId)(ty:TypeId)(a:Array Value):Sem Value:=Builtin.append_ t ty a
theorem bM6(t:Array TypeId)(ty:TypeId)(a:Array Value):Builtin.append_ t ty a=apS t ty a:=rfl
attribute [local go_sem ↓] bM6
theorem yH(t:Tm):∀(l:List Tm) (H:List HC) (V:CV),aS H V (l++[t])=((putT (aS H V l).1.1 (aS H V l).1.2 t).1,(aS H V l).2++[(putT (aS H V l).1.1 (aS H V l).1.2 t).2]):=by
 intro l
 induction l with
 | nil=>intro H V;rfl
 | cons a l ih=>intro H V;simp only[List.cons_append,aS,ih]
theorem pE:∀(l:List Tm) (H:List HC) (V:CV),(aS H V l).2.length=l.length:=by
 intro l
 induction l with
 | nil=>intro H V;rfl
 | cons t l ih=>intro H V;simp only[aS,List.length_cons];rw[ih]
def aO9(Q:Exit→Act→World→Prop):Exit→Act→World→Prop
 | .panic _,_,_=>False
 | .normal,a,w=>Q .normal a w
 | .ret,a,w=>Q .ret a w
 | .exit id,a,w=>Q (.exit id) a w
 | .goto l,a,w=>Q (.goto l) a w
 | .outgrown,a,w=>Q .outgrown a w
theorem aL7{Q:Exit→Act→World→Prop}:∀{e:Exit} {a:Act} {w:World},aO9 Q e a w→Q e a w
 | .panic _,_,_,h=>h.elim
 | .normal,_,_,h=>h
 | .ret,_,_,h=>h
 | .exit _,_,_,h=>h
 | .goto _,_,_,h=>h
 | .outgrown,_,_,h=>h
structure PuI(w wr:World)(Z:Nat→Prop)(R:Nat)(p:List Cl)(pa:Option Addr)(pc:Nat)(S:MS)(d:MAd)(wk bm:Nat)(cut:Int)(V:CV)(l:List Tm)(a2:Option Addr)(c2:Nat)(d2:MAd):Prop where
 rn:aX wr (fun b=>Z b∨bk a2=some b) R p pa pc {S.mac with H:=(aS S.H V l).1.1} d2 wk
 fr:bB w d d2
 v:∃n,VAt wr bm n (aS S.H V l).1.2∧n≤(aS S.H V l).1.1.length
 at':wr.ownsRow (w.heap.size+2) 3 1 (.slice a2 l.length c2) l.length (jS (aS S.H V l).2)
 b1:wr.heap[w.heap.size]? = some (.cells #[.pointer (some ⟨R,0,none⟩)] 56 (0,0))
 b2:wr.heap[w.heap.size+1]? = some (.cells #[.int .i64 cut] 3 (0,0))
 bx:¬RM R d2 w.heap.size∧¬RM R d2 (w.heap.size+1)
 t:aA (fun b=>RM R d b∨b=bm) w wr
 len:(aS S.H V l).1.1.length≤S.H.length+119*l.length
 vb:VB (aS S.H V l).1.2 1000000
theorem PuI.next{w wr u w1 X w7:World}{Z:Nat→Prop}{R:Nat}{p:List Cl}{pa:Option Addr}{pc:Nat}{S:MS}{d:MAd}{wk bm:Nat}{cut:Int}{V:CV}{l:List Tm}{a2:Option Addr}{c2:Nat}{d2:MAd}(h:PuI w wr Z R p pa pc S d wk bm cut V l a2 c2 d2)
 (hzn:∀b,Z b→b<w.heap.size) (hzb:Z bm) (hR:R<w.heap.size) {t:Tm} (ht60:t.size≤60) (hlen:S.H.length+119*(l.length+1)≤400000) (hu:Below wr.heap.size wr u) {L5:List HC} {V5:CV} {k5 n5:Nat} (hput:putT (aS S.H V l).1.1 (aS S.H V l).1.2 t=((L5,V5),k5)) {a5:Option Addr} {c5:Nat}
 (hH:eT w1 0 (.slice a5 L5.length c5) L5) (hV:VAt w1 bm n5 V5) (hn:n5≤L5.length) (hf:cF u (.slice d2.h (aS S.H V l).1.1.length d2.hn) (.slice a5 L5.length c5)) (ht:aA (oY (.slice d2.h (aS S.H V l).1.1.length d2.hn) bm) u w1)
 (hX:Below (w1.setCell ⟨R,1,none⟩ (.slice a5 L5.length c5)).heap.size (w1.setCell ⟨R,1,none⟩ (.slice a5 L5.length c5)) X) {a7:Option Addr} {c7:Nat} (ho:w7.ownsRow (w.heap.size+2) 3 1 (.slice a7 (l.length+1) c7) (l.length+1) (jS (aS S.H V l).2++[.int .i64 (k5:Int)]))
 (hg:X.grownBy w7 (Value.slice a2 l.length c2).ownBlock) (hf7:cF X (.slice a2 l.length c2) (.slice a7 (l.length+1) c7)):PuI w w7 Z R p pa pc S d wk bm cut V (l++[t]) a7 c7 {d2 with h:=a5,hn:=c5}:=by
 have hsn:=yH t l S.H V;rw[hput] at hsn;have hcl:=pE l S.H V;have hs0:=h.t.size;have hsu:=hu.size;have hs1:=ht.size;have hsX:=hX.size;have hs7:=hg.size;have hle:=kZ t (aS S.H V l).1.1 (aS S.H V l).1.2;have hbd:=qA t (aS S.H V l).1.1 (aS S.H V l).1.2 1000000 h.vb (by have:=h.len;omega);rw[hput] at hle hbd;simp only at hle hbd;have hlen2:=h.len;have hru:=h.rn.below hu;have hat:∀b,bk a2=some b→w.heap.size+2≤b∧b<wr.heap.size:=fun b hb=>h.at'.lt b ((aE _ _ _).trans hb)
 -- the row of the heap
 have ht1:aA (fun b=>bk d2.h=some b∨(Z b∨bk a2=some b)) u w1:=ht.mono fun b _ e=>e.elim (fun e=>.inl ((aE _ _ _).symm.trans e)) fun e=>.inr (.inl (by rw[e];exact hzb))
 have hf1:bk a5=bk d2.h∨∀b,bk a5=some b→u.heap.size≤b:=hf.elim (fun e=>.inl ((aE _ _ _).symm.trans (e.trans (aE _ _ _)))) fun e=>.inr fun b hb=>e b ((aE _ _ _).trans hb)
 obtain⟨r6,-⟩:=hru.putH ht1 hH hf1 (fun b hb=>hb.elim (fun e=>by have:=hzn b e;omega) fun e=>by have:=hat b e;omega);have hs6:(w1.setCell ⟨R,1,none⟩ (.slice a5 L5.length c5)).heap.size=w1.heap.size:=by simp[World.setCell]
 have hfr5:∀b,some b∈rws {d2 with h:=a5,hn:=c5}→some b∈rws d2∨u.heap.size≤b:=fun b hb=>by
  simp only[rws,List.mem_cons,List.not_mem_nil,or_false] at hb ⊢;rcases hf1 with e|e
  ·rw[e] at hb;exact .inl hb
  ·rcases hb with e1|e1|e1|e1|e1|e1
   ·exact .inr (e b e1.symm)
   ·exact .inl (.inr (.inl e1))
   ·exact .inl (.inr (.inr (.inl e1)))
   ·exact .inl (.inr (.inr (.inr (.inl e1))))
   ·exact .inl (.inr (.inr (.inr (.inr (.inl e1)))))
   ·exact .inl (.inr (.inr (.inr (.inr (.inr e1)))))
 have hnot:∀b,b<wr.heap.size→¬RM R d2 b→¬RM R {d2 with h:=a5,hn:=c5} b:=fun b hb hn e=>by
  rcases e with e|e
  ·exact hn (.inl e)
  ·rcases hfr5 b e with e|e
   ·exact hn (.inr e)
   ·omega
 -- the row of cells
 have hgt:aA (fun b=>bk a2=some b) X w7:=aA.grown hg fun k e=>(aE a2 l.length c2).symm.trans e
 have hf2:bk a7=bk a2∨∀b,bk a7=some b→X.heap.size≤b:=hf7.elim (fun e=>.inl ((aE _ _ _).symm.trans (e.trans (aE _ _ _)))) fun e=>.inr fun b hb=>e b ((aE _ _ _).trans hb)
 have r7:aX w7 (fun b=>Z b∨bk a7=some b) R p pa pc {S.mac with H:=L5} {d2 with h:=a5,hn:=c5} wk:=by
  have rX:=r6.below hX;have rX2:aX X (fun b=>Z b∨bk a2=some b∨bk a7=some b) R p pa pc {S.mac with H:=L5} {d2 with h:=a5,hn:=c5} wk:=rX.zmono fun b hb e=>by
   rcases e with e|e|e
   ·exact .inl e
   ·exact .inr e
   ·rcases hf2 with k|k
    ·exact .inr (k.symm.trans e)
    ·have:=k b e;omega
  exact(rX2.keep hgt fun b _ e=>.inr (.inl e)).zmono fun b _ e=>e.elim .inl fun e=>.inr (.inr e)
 have hW:aA (fun b=>bk d2.h=some b∨b=bm∨b=R) wr (w1.setCell ⟨R,1,none⟩ (.slice a5 L5.length c5)):=(aA.below hu).trans ((ht.mono fun b _ e=>e.elim (fun e=>.inl ((aE _ _ _).symm.trans e)) fun e=>.inr (.inl e)).trans (aA.setCell _ (.inr (.inr rfl))));have hW7:aA (fun b=>bk d2.h=some b∨b=bm∨b=R∨bk a2=some b) wr w7:=((hW.mono fun b _ e=>e.elim .inl fun e=>.inr (e.elim .inl fun e=>.inr (.inl e))).trans (aA.below hX)).trans (hgt.mono fun b _ e=>.inr (.inr (.inr e)));have hbmw:=hzn bm hzb;have hbox:∀b,w.heap.size≤b→b<w.heap.size+2→¬RM R d2 b→b<wr.heap.size→w7.heap[b]? = wr.heap[b]?:=fun b h1 h2 hn hl=>hW7.block b hl fun e=>by
  rcases e with e|e|e|e
  ·exact hn (.inr (by rw[←e];simp[rws]))
  ·omega
  ·omega
  ·have:=hat b e;omega
 have zb1:w.heap.size<wr.heap.size:=(gS h.b1).1;have zb2:w.heap.size+1<wr.heap.size:=(gS h.b2).1;have hbm1:bk a2≠some bm:=fun e=>by have:=hat bm e;omega
 refine⟨by rw[hsn];exact r7,fun b hb=>?_,⟨n5,by rw[hsn];exact(hV.keep (Below.heap_setCell _ _ _ _ (fun e=>h.rn.zr R (.inl rfl) (.inl (by have e':bm=R:=e;rw[←e'];exact hzb))))).keep ((hgt.block bm (by omega) hbm1).trans (hX.block bm (by omega))),by rw[hsn];exact hn⟩,?_,?_,?_,⟨hnot _ zb1 h.bx.1,hnot _ zb2 h.bx.2⟩,?_,?_,by rw[hsn];exact hbd.2⟩
 ·rcases hfr5 b hb with e|e
  ·exact h.fr b e
  ·exact .inr (by omega)
 ·rw[hsn,List.length_append,List.length_singleton]
  have:=ho;simpa[jS] using this
 ·rw[hbox _ (nR _) (by omega) h.bx.1 zb1];exact h.b1
 ·rw[hbox _ (by omega) (by omega) h.bx.2 zb2];exact h.b2
 ·refine⟨hW7.os.trans h.t.os,hW7.tape.trans h.t.tape,hW7.output.trans h.t.output,Nat.le_trans hs0 hW7.size,fun b hb hn=>(hW7.block b (nT hb hs0) fun e=>?_).trans (h.t.block b hb hn)⟩
  rcases e with e|e|e|e
  ·rcases h.fr b (by rw[←e];simp[rws]) with e|e
   ·exact hn (.inl (.inr e))
   ·omega
  ·exact hn (.inr e)
  ·exact hn (.inl (.inl e))
  ·have:=hat b e;omega
 ·rw[hsn,List.length_append,List.length_singleton]
  show L5.length≤_;omega
theorem PuI.at6{w wr u w1:World}{Z:Nat→Prop}{R:Nat}{p:List Cl}{pa:Option Addr}{pc:Nat}{S:MS}{d:MAd}{wk bm:Nat}{cut:Int}{V:CV}{l:List Tm}{a2:Option Addr}{c2:Nat}{d2:MAd}(h:PuI w wr Z R p pa pc S d wk bm cut V l a2 c2 d2)
 (hzn:∀b,Z b→b<w.heap.size) (hzb:Z bm) (hR:R<w.heap.size) (hu:Below wr.heap.size wr u) (ht:aA (oY (.slice d2.h (aS S.H V l).1.1.length d2.hn) bm) u w1) (v:Value):(w1.setCell ⟨R,1,none⟩ v).ownsRow (w.heap.size+2) 3 1 (.slice a2 l.length c2) l.length (jS (aS S.H V l).2):=by
 refine aC h.at' fun g hg=>?_
 have hgl:=h.at'.lt g hg;have hgk:=(aE a2 l.length c2).symm.trans hg;have hbm:=hzn bm hzb;rw[Below.heap_setCell _ _ _ _ (show g≠R by omega),ht.block g (nT hgl.2 hu.size) fun e=>?_,hu.block g hgl.2];rcases e with e|e
 ·exact h.rn.zr g (.inr (by rw[←(aE _ _ _).symm.trans e];simp[rws])) (.inr hgk)
 ·omega
theorem bB.notR{w:World}{R:Nat}{d d2:MAd}(h:bB w d d2){b:Nat}(hb:b<w.heap.size)(hn:¬RM R d b):¬RM R d2 b:=fun e=>by
 rcases e with e|e
 ·exact hn (.inl e)
 ·rcases h b e with e|e
  ·exact hn (.inr e)
  ·omega
theorem bB2{w:World}{Z:Nat→Prop}{R:Nat}{p:List Cl}{pa:Option Addr}{pc:Nat}{S:MS}{d:MAd}{wk:Nat}(h:aX w Z R p pa pc S.mac d wk)(hzn:∀b,Z b→b<w.heap.size){l:List Tm}{la:Option Addr}{lc bm n:Nat}{V:CV}{cut nx:Nat}{okq:Nat→Prop}(hts:Ts w okq l la lc)(hok:∀b,okq b→¬RM R d b∧b≠bm)
 (hV:VAt w bm n V) (hn:n≤S.H.length) (hzb:Z bm) (hvb:VB V 1000000) (hsz:∀t,t∈l→t.size≤60) (hlen:S.H.length+119*l.length≤400000) (hG:S.G.length+l.length≤5000) (h0:S.fin=0) :
 Calls Try.prog 72 #[.pointer (some ⟨R,0,none⟩),.slice la l.length lc,.map (some bm),.int .i64 (cut:Int),.int .i64 (nx:Int)] w fun e w'=>(∃v,e=.returned v)∧aA (fun b=>RM R d b∨b=bm) w w'∧∃d',bB w d d'∧aX w' Z R p pa pc (lB l V cut nx S).mac d' wk:=by
 refine(callsIn_wide (n:=3)).1 ?_;have hro:Fence.wide.round=none:=rfl;have h1:1≤3:=by omega
 have zR:=h.lt;have zbm:=hzn bm hzb;have hl9:l.length≤5000:=by omega
 have HZN:=lh hzn;have HTS:=lh hts;have HOK:=lh hok;have HZB:=lh hzb;have HSZ:=lh hsz;have HLEN:=lh hlen;have HGL:=lh hG;have H0:=lh h0;have HP0:Hid (PuI w ((w.alloc (.cells #[.pointer (some ⟨R,0,none⟩)] 56)).alloc (.cells #[.int .i64 (cut:Int)] 3)) Z R p pa pc S d wk bm (cut:Int) V [] none 0 d):=lh (by
  have hB:Below w.heap.size w ((w.alloc (.cells #[.pointer (some ⟨R,0,none⟩)] 56)).alloc (.cells #[.int .i64 (cut:Int)] 3)):=((bR _ _).alloc (nR _) _).alloc (by simp) _;have hs1:(w.alloc (.cells #[.pointer (some ⟨R,0,none⟩)] 56)).heap.size=w.heap.size+1:=by simp
  have hrm:∀b,w.heap.size≤b→¬RM R d b:=fun b hb e=>by have:=h.rmlt b e;omega
  refine⟨(h.below hB).zmono fun b _ e=>e.elim id fun e=>by simp[bk,Value.ownBlock] at e,bB.refl _ _,⟨n,hV.kept (hB.block bm zbm),hn⟩,World.ownsRow_nil _ _ _ _,?_,?_,⟨hrm _ (nR _),hrm _ (by omega)⟩,aA.below hB,by simp[aS],hvb⟩
  ·rw[Below.heap_alloc _ _ _ (by simp)];exact heap_alloc_new w _
  ·rw[←hs1];exact heap_alloc_new _ _)
 clear h hzn hts hok hzb hvb hsz hlen hG h0 hV hn;refine callsIn_of_wp_marks Try.func72 rfl trivial ?_ hro;simp only[Try.ntmps72,List.size_toArray,List.length_cons,List.length_nil,Nat.reduceAdd,Nat.reduceSub,Array.replicate_succ,Array.replicate_zero,List.push_toArray,List.append_toArray,List.nil_append,List.cons_append];refine wpIn_wide.2 ?_;refine wp_mono (Q:=aO9 _) ?_ (fun _ _ _ h=>aL7 h);go_wp2_with fail
 go_loopw[10,18] (fun x10 x18 wr=>∃(i:Nat) (a2:Option Addr) (c2:Nat) (d2:MAd),i≤l.length∧x18=.int .i64 i∧x10=.slice a2 i c2∧Hid (PuI w wr Z R p pa pc S d wk bm (cut:Int) V (l.take i) a2 c2 d2)) (fun _ x18 _=>l.length-(intOf x18).toNat)
 case atStart=>exact⟨0,none,0,d,Nat.zero_le _,rfl,rfl,HP0⟩
 case round =>
  obtain⟨i0,la2,lc2,d2,hi,rfl,rfl,HP⟩:=hrel;have htl:(l.take i0).length=i0:=by rw[List.length_take];omega
  obtain⟨c0,c1,c2,c3,c4,c5,c6,c7,c8,c9,c10,cf⟩:=HP.out.rn.cells;have z0:=HP.out.rn.lt;have e0:wr.cell? ⟨w.heap.size,0,none⟩=some (.pointer (some ⟨R,0,none⟩)):=by simp[World.cell?,HP.out.b1]
  have e1:wr.cell? ⟨w.heap.size+1,0,none⟩=some (.int .i64 (cut:Int)):=by simp[World.cell?,HP.out.b2]
  have z1:w.heap.size<wr.heap.size:=(gS HP.out.b1).1;have z2:w.heap.size+1<wr.heap.size:=(gS HP.out.b2).1;have HTL:=lh htl;clear htl;by_cases hlt:i0<l.length
  ·obtain⟨b,off,a',cap',hla,hokb,hbs,hc,ht⟩:=HTS.out.at i0 hlt
   subst hla;have hbq:=HOK.out b hokb;have m0:wr.cell? ⟨b,off+i0*3,none⟩=_:=(HP.out.t.cell (p:=⟨b,off+i0*3,none⟩) hbs (fun e=>e.elim hbq.1 hbq.2)).trans hc.var;have m1:wr.cell? ⟨b,off+i0*3+1,none⟩=_:=(HP.out.t.cell (p:=⟨b,off+i0*3+1,none⟩) hbs (fun e=>e.elim hbq.1 hbq.2)).trans hc.name;have m2:wr.cell? ⟨b,off+i0*3+2,none⟩=_:=(HP.out.t.cell (p:=⟨b,off+i0*3+2,none⟩) hbs (fun e=>e.elim hbq.1 hbq.2)).trans hc.args;have hp:=HP.out;simp only at c1;obtain⟨nv,hv1,hv2⟩:=hp.v;have hfit:=hc.fits;have hms:(l[i0]).size≤60:=HSZ.out _ (List.getElem_mem hlt);have hL6:(aS S.H V (l.take i0)).1.1.length+2*(l[i0]).size≤1000000:=by have:=hp.len;have:=HTL.out;have:=HLEN.out;rw[HTL.out] at *;omega
   have HCL:Hid (∀X,Calls Try.prog 71 #[.slice d2.h (aS S.H V (l.take i0)).1.1.length d2.hn,.agg #[.int .i64 l[i0].var,.string l[i0].name,.slice a' l[i0].args.length cap'],.map (some bm)] (wr.alloc X).drew (tF (wr.alloc X).drew 0 (.slice d2.h (aS S.H V (l.take i0)).1.1.length d2.hn) bm (putT (aS S.H V (l.take i0)).1.1 (aS S.H V (l.take i0)).1.2 l[i0]))):=lh fun X=>by
    have hB:Below wr.heap.size wr (wr.alloc X).drew:=((bR _ _).alloc (nR _) X).drew;have hoq:Ts (wr.alloc X).drew (fun b=>okq b∧b<w.heap.size) l[i0].args a' cap':=(((ht.mono (ok':=fun b=>okq b∧b<w.heap.size) fun b hb h=>⟨h,hb⟩).keep (hp.t.keeps fun b hb e=>e.elim (HOK.out b hb.1).1 (HOK.out b hb.1).2))).keep (aD.below hB _);exact bL4 l[i0] _ (fun b=>okq b∧b<w.heap.size) a' cap' 0 bm nv _ _ _ hfit hoq (fun b hb=>⟨by have:=hB.size;have:=hp.t.size;omega,fun e=>hp.fr.notR hb.2 (HOK.out b hb.1).1 (.inr (by rw[←(aE _ _ _).symm.trans e];simp[rws])),(HOK.out b hb.1).2⟩) (hp.rn.rows.h.below hB) (hv1.keep (hB.block bm hv1.lt)) hv2 (fun e=>hp.rn.zr bm (.inr (by rw[←(aE _ _ _).symm.trans e];simp[rws])) (.inl HZB.out)) (Nat.zero_le _) hL6 hp.vb
   have hRn:∀v:Nat,oY (.slice d2.h (aS S.H V (l.take i0)).1.1.length d2.hn) bm v→v≠R:=fun v hv e=>by
    subst e;rcases hv with e|e
    ·exact hp.rn.ne (bk d2.h) (by simp[rws]) ((aE _ _ _).symm.trans e)
    ·exact hp.rn.zr v (.inl rfl) (.inl (by rw[e];exact HZB.out))
   have HRN:=lh hRn;have HRA:Hid (∀X,(wr.alloc X).drew.heap[R]? = wr.heap[R]?):=lh fun X=>(((bR _ _).alloc (nR _) X).drew).block R z0
   have HRS:Hid (∀X,R<(wr.alloc X).drew.heap.size):=lh fun X=>nT z0 (((Below.refl wr.heap.size wr).alloc (nR _) X).drew).size
   clear hp hv1 hv2 hc ht hfit hms hL6 hbq hRn;have HBX:Hid (¬oY (.slice d2.h (aS S.H V (l.take i0)).1.1.length d2.hn) bm w.heap.size):=lh fun e=>e.elim (fun e=>HP.out.bx.1 (.inr (by rw[←(aE _ _ _).symm.trans e];simp[rws]))) fun e=>by omega
   have HCX:Hid (∀X,(wr.alloc X).drew.cell? ⟨w.heap.size,0,none⟩=some (.pointer (some ⟨R,0,none⟩))):=lh fun X=>((((Below.refl wr.heap.size wr).alloc (nR _) X).drew).cell (p:=⟨w.heap.size,0,none⟩) z1).trans e0
   have HSX:Hid (∀X,wr.heap.size≤(wr.alloc X).drew.heap.size):=lh fun X=>(((Below.refl wr.heap.size wr).alloc (nR _) X).drew).size
   have HBW:Hid (∀X,Below wr.heap.size wr (wr.alloc X).drew):=lh fun X=>((Below.refl wr.heap.size wr).alloc (nR _) X).drew
   go_upto_region 6 with fail
   go_cut[13] from 19 to 41 (fun x13 wx=>∃(u w1:World) (a5:Option Addr) (c5 n5:Nat),x13=.int .i64 ((putT (aS S.H V (l.take i0)).1.1 (aS S.H V (l.take i0)).1.2 l[i0]).2:Nat)∧wx=w1.setCell ⟨R,1,none⟩ (.slice a5 (putT (aS S.H V (l.take i0)).1.1 (aS S.H V (l.take i0)).1.2 l[i0]).1.1.length c5)∧Below wr.heap.size wr u ∧
    eT w1 0 (.slice a5 (putT (aS S.H V (l.take i0)).1.1 (aS S.H V (l.take i0)).1.2 l[i0]).1.1.length c5) (putT (aS S.H V (l.take i0)).1.1 (aS S.H V (l.take i0)).1.2 l[i0]).1.1∧VAt w1 bm n5 (putT (aS S.H V (l.take i0)).1.1 (aS S.H V (l.take i0)).1.2 l[i0]).1.2∧n5≤(putT (aS S.H V (l.take i0)).1.1 (aS S.H V (l.take i0)).1.2 l[i0]).1.1.length ∧
    cF u (.slice d2.h (aS S.H V (l.take i0)).1.1.length d2.hn) (.slice a5 (putT (aS S.H V (l.take i0)).1.1 (aS S.H V (l.take i0)).1.2 l[i0]).1.1.length c5)∧aA (oY (.slice d2.h (aS S.H V (l.take i0)).1.1.length d2.hn) bm) u w1)
   case first =>
    go_wp2_with fail
    go_region_law (first
     | (
      go_simp
      go_at_call 71
      refine(HCL.out _).mono ?_;rintro e w1 ⟨v5,n5,rfl,hH5,hV5,hn5,hf5,ht5⟩;obtain⟨a5,c5,rfl⟩:=hH5.form;have hbR:w1.heap[R]? = wr.heap[R]?:=(ht5.block R (HRS.out _) (fun e=>HRN.out _ e rfl)).trans (HRA.out _);have y1:w1.cell? ⟨R,1,none⟩=some (.slice d2.h (aS S.H V (l.take i0)).1.1.length d2.hn):=(World.cell?_of_block hbR).trans c1;have yf:∀o,w1.frozen? ⟨R,o,none⟩=false:=fun o=>by have:=cf o;simpa[World.frozen?,hbR] using this
      have y0:w1.cell? ⟨w.heap.size,0,none⟩=some (.pointer (some ⟨R,0,none⟩)):=(ht5.cell (p:=⟨w.heap.size,0,none⟩) (nT z1 (HSX.out _)) HBX.out).trans (HCX.out _);have H5:=lh (And.intro hH5 (And.intro hV5 (And.intro hn5 (And.intro hf5 ht5))));clear hH5 hV5 hn5 hf5 ht5 hbR))
    all_goals
     go_wp2_with fail;go_meet
     case rel=>exact⟨_,_,_,_,_,rfl,rfl,HBW.out _,H5.out⟩
   case rest =>
    obtain⟨u,w1,a5,c5,n5,rfl,rfl,hu,hH5,hV5,hn5,hf5,ht5⟩:=hcut;obtain⟨q5,hput⟩:∃q5,putT (aS S.H V (l.take i0)).1.1 (aS S.H V (l.take i0)).1.2 l[i0]=q5:=⟨_,rfl⟩
    rw[hput] at hH5 hV5 hn5 hf5 ⊢;obtain⟨⟨L5,V5⟩,k5⟩:=q5;simp only at hH5 hV5 hn5 hf5 ⊢;have HPUT:=lh hput;have HU:=lh hu;have HH5:=lh hH5;have HV5:=lh hV5;have HN5:=lh hn5;have HF5:=lh hf5;have HT5:=lh ht5;have hRw:Hid (R<w.heap.size):=lh zR;have hat:=HP.out.at6 HZN.out HZB.out zR hu ht5 (.slice a5 L5.length c5);have htl:=HTL.out;rw[htl] at hat;have HO1:=lh (hat.alloc (.cells #[.int .i64 (k5:Int)] 3));have hsz6:w.heap.size+2≤(w1.setCell ⟨R,1,none⟩ (.slice a5 L5.length c5)).heap.size:=by have:=hu.size;have:=ht5.size;simp[World.setCell];omega
    obtain⟨i1,hi1,hz0,hz1,hz2⟩:=info_parts Try.infoInt;clear hput hu hH5 hV5 hn5 hf5 ht5 hat htl;generalize hw6:w1.setCell ⟨R,1,none⟩ (.slice a5 L5.length c5)=w6 at *;have HW6:=lh hw6;clear hw6;go_wp2_with (at_builtin;have _g:=HO1;refine aR _ rfl _ _ 27 rfl (w.heap.size+2) 3 i1 _ 1 8 Try.underlying27 hi1 hz0 hz1 hz2 rfl (by decide) _ _ _ rfl HO1.out ⟨w6.heap.size,0,none⟩ 1 1 [.int .i64 (k5:Int)] rfl rfl ?d1 ?d2 ?d3 ?d4 ?d5 ?_)
    any_goals (first|exact dT _ _ _|(intro u hu;simp only[List.mem_singleton] at hu;subst hu;rfl)|rfl|(unfold maxLen;omega)|omega|(simp only[World.size_alloc];omega))
    intro v7 w7 hown7 hgrow7 hfr7;obtain⟨a7,c7,rfl⟩:=bL hown7;have HTK:Hid (l.take (i0+1)=l.take i0++[l[i0]]):=lh (List.take_succ_eq_append_getElem hlt);have HNX:Hid (PuI w w7 Z R p pa pc S d wk bm (cut:Int) V (l.take (i0+1)) a7 c7 {d2 with h:=a5,hn:=c5}):=lh (by
     rw[HTK.out];refine HP.out.next HZN.out HZB.out hRw.out (HSZ.out _ (List.getElem_mem hlt)) (by rw[HTL.out];have:=HLEN.out;omega) HU.out HPUT.out HH5.out HV5.out HN5.out HF5.out HT5.out (X:=w6.alloc (.cells #[.int .i64 (k5:Int)] 3)) (by rw[HW6.out];exact(bR _ _).alloc (nR _) _) ?_ ?_ ?_
     ·rw[HTL.out];exact hown7
     ·rw[HTL.out];exact hgrow7
     ·rw[HTL.out];exact hfr7)
    clear hown7 hgrow7 hfr7;go_wp2_with fail;go_roundw
    case measure=>simp only[intOf];omega
    case rel=>exact⟨i0+1,a7,c7,_,by omega,by go_num,rfl,HNX⟩
  ·obtain rfl:i0=l.length:=by omega
   have hP:=HP.out;rw[List.take_length] at hP;clear HP hi hlt;have hcl:=pE l S.H V;obtain⟨A,hA⟩:∃A:List Int,A=(aS S.H V l).2.map (fun x:Nat=>(x:Int)):=⟨_,rfl⟩
   have hAl:A.length=l.length:=by rw[hA,List.length_map,hcl]
   have hl9':l.length≤9223372036854775807:=by omega
   obtain⟨w0,hw0⟩:∃w0,w0=(wr.setCell ⟨R,3,none⟩ (.int .i64 (nx:Int))).alloc (.cells #[.slice la2 l.length lc2] 27):=⟨_,rfl⟩
   have hRf:=hP.rn.putFirst (nx:Int);have hsf:(wr.setCell ⟨R,3,none⟩ (.int .i64 (nx:Int))).heap.size=wr.heap.size:=by simp[World.setCell]
   have hBf:Below wr.heap.size (wr.setCell ⟨R,3,none⟩ (.int .i64 (nx:Int))) w0:=by rw[hw0,←hsf];exact(bR _ _).alloc (nR _) _
   have hR0:aX w0 (fun b=>Z b∨bk la2=some b) R p pa pc {S.mac with H:=(aS S.H V l).1.1,first:=(nx:Int)} d2 wk:=hRf.1.below (by rw[hsf];exact hBf);have hs0:w0.heap.size=wr.heap.size+1:=by rw[hw0];simp[World.setCell]
   have hTw:aA (RM R d2) wr w0:=hRf.2.trans (aA.below (by rw[hsf];exact hBf));have hAt:dC w0 (fun b=>b=wr.heap.size∨bk la2=some b) A la2 lc2:=by
    have h1:wr.ownsRow (w.heap.size+2) 3 1 (.slice la2 l.length lc2) A.length (jS (aS S.H V l).2):=by rw[hAl];exact hP.at'
    have e1:jS (aS S.H V l).2=A.map (fun x=>Value.int .i64 x):=by rw[hA,List.map_map];rfl
    rw[e1] at h1;obtain⟨a3,c3,e,hr⟩:=dC.of_row (ok:=fun b=>bk la2=some b) h1 (fun b hb=>(aE _ _ _).symm.trans hb);injection e with q1 _ q2;subst q1;subst q2;exact(hr.keep (hTw.keeps fun b hb e=>hP.rn.zr b e (.inr hb))).mono fun b _ hb=>.inr hb
   have hB0:w0.cell? ⟨wr.heap.size,0,none⟩=some (.slice la2 A.length lc2):=by rw[hAl,hw0,←hsf];exact(fD _ _ _).1
   have hzx:∀b,bk la2=some b→b<wr.heap.size:=fun b hb=>(hP.at'.lt b ((aE _ _ _).trans hb)).2
   have hRlt:R<w0.heap.size:=by omega
   have hgR:bk d2.g≠some R:=hP.rn.ne _ (by simp[rws]);have HP2:=lh hP;have HR0:=lh hR0;have HTW:=lh hTw;have HAT:=lh hAt;have HA:=lh hA;have HCL:=lh hcl;have HAL:=lh hAl;have HS0:=lh hs0;have HB0:=lh hB0;have HZX:=lh hzx;have HGR:=lh hgR;have HRL:=lh hRlt;clear hP hR0 hTw hAt hA hcl hAl hs0 hB0 hzx hgR hRlt hRf hBf hsf HTL;have HW0:=lh hw0;clear hw0;go_wp2_with (go_at_call 96;refine(callsIn_wide.1 (aZ0 Fence.wide 3 trivial hro _ _ _ _)).mono ?_;rintro e w' ⟨rfl,rfl⟩);refine(wpIn_wide (n:=3)).1 ?_;gi_wp2;rw[←HW0.out];refine pF (n:=3) hro h1 (gf:=114) (lb:=#[.pointer (some ⟨wr.heap.size,0,none⟩)]) ?ev trivial (enters_of Try.func114 (by kernel_rfl) rfl)
    (encs:=aE8 A) (Kp:=aD fun b=>b=wr.heap.size∨bk la2=some b) (N:=A.length) (w0:=w0)
    (aE9 (by omega) A (B0:=wr.heap.size) ⟨by have:=HS0.out;omega,.inl rfl⟩ HB0.out HAT.out) (fun {A B C} h k=>h.trans k) ?kb (bR _ _) (fun _=>rfl)
    (fun i W=>True∧∃a n,PJ w0 W R pa p.length pc {S.mac with H:=(aS S.H V l).1.1,first:=(nx:Int)} d2 wk ((pg S V l cut nx i).1.map Gn.gl) ((pg S V l cut nx i).2:Int) a n)
    (fun _ W=>False) (PJ.own HRL.out (fun _=>True) _ _) (fun _ _ _ _ h=>h.elim) ⟨trivial,_,_,PJ.start HR0.out⟩
    (fun i a' W=>a' = {tmps:=#[.pointer (some ⟨R,0,none⟩),.slice la l.length lc,.map (some bm),.int .i64 (cut:Int),.int .i64 (nx:Int),.pointer (some ⟨w.heap.size,0,none⟩),undef,undef,.pointer (some ⟨w.heap.size+1,0,none⟩),undef,.slice la2 l.length lc2,undef,u12,u13,undef,.int .i64 (A.getD (A.length-1-i) 0),.slice la l.length lc,.int .i64 l.length,.int .i64 l.length,.bool false,u20,u21,u22,u23,u24,u25,u26,u27,u28,u29,u30,u31,u32,u33,u34,u35,u36,u37,u38,u39,u40,u41,.pointer (some ⟨R,0,none⟩),.int .i64 (nx:Int),.pointer (some ⟨R,0,none⟩),.pointer (some ⟨R,1,none⟩),.pointer (some ⟨R,3,none⟩),.slice la2 l.length lc2,.func (.func 114) #[] #[.pointer (some ⟨wr.heap.size,0,none⟩)],.int .i64 ((A.length-1-i:Nat):Int),.int .i64 (A.getD (A.length-1-i) 0),undef,undef,undef,undef,undef,undef,undef,undef,undef,undef,undef,undef,undef,undef,undef,undef,undef,undef,undef,undef,undef,undef,undef,undef,undef,undef,undef,undef,undef,undef,undef,undef,undef,undef,undef,undef,undef,undef,undef,undef,undef,undef,undef,undef,undef,undef,undef,undef,undef],defers:=[]}) ?ax ?assign ?body ?done ?stop
   case ev=>rfl
   case kb =>
    intro W k o o' hk ho _;refine⟨by simp[World.putObj],fun b hb hl=>World.putObj_heap_other ?_⟩;have:=HS0.out;rcases hb with e|e
    ·omega
    ·have:=HZX.out b e;omega
   case ax=>exact fun _ _ _ _ _ h _ _=>h
   case assign =>
    intro l i W K hN hI hK;simp only[aE8];gi_wp2;exact hK _ _ (KeepsFrom.refl _ _) (aD.below (bR _ _) _) hI rfl
   case stop=>intro D W _ h _;exact h.elim
   case body =>
    rintro lp i a' W hN ⟨-,a,n,hJ⟩ rfl;obtain⟨L,hL⟩:∃L,L=(pg S V l cut nx i).1.map Gn.gl:=⟨_,rfl⟩
    obtain⟨f,hf⟩:∃f:Int,f=((pg S V l cut nx i).2:Int):=⟨_,rfl⟩
    obtain⟨x,hx⟩:∃x:Int,x=A.getD (A.length-1-i) 0:=⟨_,rfl⟩
    rw[←hL,←hf] at hJ;rw[←hx];have hLl:L.length≤5000:=by
     have h1:=bB3 S V l cut nx i (by have:=HAL.out;have:=HCL.out;omega);have h2:=HAL.out;have h3:=HGL.out;rw[hL,List.length_map,h1];omega
    obtain⟨k1,k2,k3,kf⟩:=hJ.cells;have zRW:=hJ.lt;have hsW:=hJ.t.size;have hnb:∀b,b<w0.heap.size→¬RM R d2 b→¬(b=R∨bk d2.g=some b∨w0.heap.size≤b):=fun b hb hn e=>by
     rcases e with e|e|e
     ·exact hn (.inl e)
     ·exact hn (.inr (by rw[←e];simp[rws]))
     ·omega
    have zw0:w.heap.size<w0.heap.size∧w.heap.size+1<w0.heap.size:=by have:=HS0.out;omega
    have f0:W.cell? ⟨w.heap.size,0,none⟩=some (.pointer (some ⟨R,0,none⟩)):=(hJ.t.cell (p:=⟨w.heap.size,0,none⟩) zw0.1 (hnb _ zw0.1 HP2.out.bx.1)).trans ((HTW.out.cell (p:=⟨w.heap.size,0,none⟩) z1 HP2.out.bx.1).trans e0);have f1:W.cell? ⟨w.heap.size+1,0,none⟩=some (.int .i64 (cut:Int)):=(hJ.t.cell (p:=⟨w.heap.size+1,0,none⟩) zw0.2 (hnb _ zw0.2 HP2.out.bx.2)).trans ((HTW.out.cell (p:=⟨w.heap.size+1,0,none⟩) z2 HP2.out.bx.2).trans e1);have hX:Below W.heap.size W ((W.alloc (.cells #[.int .i64 x,.int .i64 (cut:Int),.int .i64 f] 65)).drew):=((bR _ _).alloc (nR _) _).drew;obtain⟨gi,gz,hgi,hgz,hgs,hgb,hgzs⟩:=pB;obtain⟨v7,w7,hrun,hown,hgrow,hfr⟩:=iX (P:=Try.prog) ((W.alloc (.cells #[.int .i64 x,.int .i64 (cut:Int),.int .i64 f] 65)).drew) 0 25 25 65 gi gz 3 24 Try.underlying25 hgi hgz hgs hgb hgzs (by decide) (.slice a L.length n) L.length (cE L) (aH hJ.g hX) ⟨W.heap.size,0,none⟩ 1 1 [.int .i64 x,.int .i64 (cut:Int),.int .i64 f] rfl (aL8 W _ _ _ _) (by intro u hu;simp at hu;rcases hu with rfl|rfl|rfl <;> rfl) (by unfold maxLen;omega) (by omega) (Nat.zero_le _);obtain⟨a7,n7,rfl⟩:=bL hown;have hrun':(apS #[25,25] 25 #[.slice a L.length n,.slice (some ⟨W.heap.size,0,none⟩) 1 1]).run Try.prog ((W.alloc (.cells #[.int .i64 x,.int .i64 (cut:Int),.int .i64 f] 65)).drew)=.ok (.slice a7 (L.length+1) n7) w7:=hrun;have hN2:=hJ.next HRL.out HGR.out hX (x:=⟨x,(cut:Int),f⟩) hown hgrow hfr;have hbk:=hJ.bkR HRL.out HGR.out;have hT7:aA (fun b=>bk a=some b) W w7:=(aA.below hX).trans (aA.grown hgrow fun k e=>(aE a L.length n).symm.trans e);have hsW:w0.heap.size≤W.heap.size:=hJ.t.size;have hab:∀b,b<w0.heap.size→¬RM R d2 b→bk a≠some b:=fun b hb hn e=>by
     rcases hJ.fr with k|k
     ·exact hn (.inr (by rw[←k.symm.trans e];simp[rws]))
     ·have:=k b e;omega
    have y0:w7.cell? ⟨w.heap.size,0,none⟩=some (.pointer (some ⟨R,0,none⟩)):=(hT7.cell (p:=⟨w.heap.size,0,none⟩) (nT zw0.1 hsW) (hab _ zw0.1 HP2.out.bx.1)).trans f0;have y2:w7.cell? ⟨R,2,none⟩=some (.slice a L.length n):=(hT7.cell (p:=⟨R,2,none⟩) zRW hbk).trans k2;have hbR:w7.heap[R]? = W.heap[R]?:=hT7.block R zRW hbk;have yf:∀o,w7.frozen? ⟨R,o,none⟩=false:=fun o=>by have:=kf o;simpa[World.frozen?,hbR] using this
    have y1:w7.cell? ⟨w.heap.size+1,0,none⟩=some (.int .i64 (cut:Int)):=(hT7.cell (p:=⟨w.heap.size+1,0,none⟩) (nT zw0.2 hsW) (hab _ zw0.2 HP2.out.bx.2)).trans f1;have y3:w7.cell? ⟨R,3,none⟩=some (.int .i64 f):=(hT7.cell (p:=⟨R,3,none⟩) zRW hbk).trans k3;have HXB:=lh hX;have HSW:=lh (show w.heap.size+1<W.heap.size by omega);have y1:w7.cell? ⟨w.heap.size+1,0,none⟩=some (.int .i64 (cut:Int)):=(hT7.cell (p:=⟨w.heap.size+1,0,none⟩) (nT zw0.2 hsW) (hab _ zw0.2 HP2.out.bx.2)).trans f1;have y3:w7.cell? ⟨R,3,none⟩=some (.int .i64 f):=(hT7.cell (p:=⟨R,3,none⟩) zRW hbk).trans k3;have HXB:=lh hX;have HSW:=lh (show w.heap.size+1<W.heap.size by omega);have y1:w7.cell? ⟨w.heap.size+1,0,none⟩=some (.int .i64 (cut:Int)):=(hT7.cell (p:=⟨w.heap.size+1,0,none⟩) (nT zw0.2 hsW) (hab _ zw0.2 HP2.out.bx.2)).trans f1;have y3:w7.cell? ⟨R,3,none⟩=some (.int .i64 f):=(hT7.cell (p:=⟨R,3,none⟩) zRW hbk).trans k3;have HXB:=lh hX;have HSW:=lh (show w.heap.size+1<W.heap.size by omega);have y1:w7.cell? ⟨w.heap.size+1,0,none⟩=some (.int .i64 (cut:Int)):=(hT7.cell (p:=⟨w.heap.size+1,0,none⟩) (nT zw0.2 hsW) (hab _ zw0.2 HP2.out.bx.2)).trans f1;have y3:w7.cell? ⟨R,3,none⟩=some (.int .i64 f):=(hT7.cell (p:=⟨R,3,none⟩) zRW hbk).trans k3;have HXB:=lh hX;have HSW:=lh (show w.heap.size+1<W.heap.size by omega);have y1:w7.cell? ⟨w.heap.size+1,0,none⟩=some (.int .i64 (cut:Int)):=(hT7.cell (p:=⟨w.heap.size+1,0,none⟩) (nT zw0.2 hsW) (hab _ zw0.2 HP2.out.bx.2)).trans f1;have y3:w7.cell? ⟨R,3,none⟩=some (.int .i64 f):=(hT7.cell (p:=⟨R,3,none⟩) zRW hbk).trans k3;have HXB:=lh hX;have HSW:=lh (show w.heap.size+1<W.heap.size by omega);have HJ:=lh hJ;have HN2:=lh hN2;have HL:=lh hL;have HF:=lh hf;have HX:=lh hx;have HNB:=lh hnb;have HAB:=lh hab;clear hJ hN2 hL hf hx hrun hown hgrow hfr hX hgi hgz hgs hgb hgzs hbk hT7 hnb hab hbR;have hbox:∀s,(s=W.drew∨s=(W.alloc (.cells #[.int .i64 x,.int .i64 (cut:Int),.int .i64 f] 65)).drew∨s=w7∨s=w7.setCell ⟨R,2,none⟩ (.slice a7 (L.length+1) n7))→s.cell? ⟨w.heap.size,0,none⟩=some (.pointer (some ⟨R,0,none⟩))∧s.cell? ⟨w.heap.size+1,0,none⟩=some (.int .i64 (cut:Int))∧s.cell? ⟨R,3,none⟩=some (.int .i64 f):=by
     rintro s (rfl|rfl|rfl|rfl)
     ·exact⟨f0,f1,k3⟩
     ·exact⟨(HXB.out.cell (p:=⟨w.heap.size,0,none⟩) (by have:=HSW.out;show w.heap.size<_;omega)).trans f0,(HXB.out.cell (p:=⟨w.heap.size+1,0,none⟩) (by have:=HSW.out;show w.heap.size+1<_;omega)).trans f1,(HXB.out.cell (p:=⟨R,3,none⟩) zRW).trans k3⟩
     ·exact⟨y0,y1,y3⟩
     ·refine⟨?_,?_,?_⟩
      ·exact(World.cell?_setCell_other (w:=w7) (a:=⟨R,2,none⟩) (b:=⟨w.heap.size,0,none⟩) (v:=_) (by intro e;injection e with e1;omega)).trans y0
      ·exact(World.cell?_setCell_other (w:=w7) (a:=⟨R,2,none⟩) (b:=⟨w.heap.size+1,0,none⟩) (v:=_) (by intro e;injection e with e1;omega)).trans y1
      ·exact(World.cell?_setCell_other (w:=w7) (a:=⟨R,2,none⟩) (b:=⟨R,3,none⟩) (v:=_) (by intro e;injection e with e1 e2;omega)).trans y3
    have hst:∀(L1:Nat→Bool) s,(s=if L1 19 then w7.setCell ⟨R,2,none⟩ (.slice a7 (L.length+1) n7) else if L1 15 then w7 else if L1 14 then (W.alloc (.cells #[.int .i64 x,.int .i64 (cut:Int),.int .i64 f] 65)).drew else W.drew)→(s=W.drew∨s=(W.alloc (.cells #[.int .i64 x,.int .i64 (cut:Int),.int .i64 f] 65)).drew∨s=w7∨s=w7.setCell ⟨R,2,none⟩ (.slice a7 (L.length+1) n7)):=by
     intro L1 s h;cases h1:L1 19 <;> cases h2:L1 15 <;> cases h3:L1 14 <;> simp[h1,h2,h3] at h <;> simp[h]
    have hrow:∀(L1:Nat→Bool) s,(s=if L1 19 then w7.setCell ⟨R,2,none⟩ (.slice a7 (L.length+1) n7) else if L1 15 then w7 else if L1 14 then (W.alloc (.cells #[.int .i64 x,.int .i64 (cut:Int),.int .i64 f] 65)).drew else W.drew)→L1 19=false→s.cell? ⟨R,2,none⟩=some (.slice a L.length n):=by
     intro L1 s h h1;cases h2:L1 15 <;> cases h3:L1 14 <;> simp only[h1,h2,h3] at h <;> rw[show s=_ from h]
     ·exact k2
     ·exact(HXB.out.cell (p:=⟨R,2,none⟩) zRW).trans k2
     ·exact y2
     ·exact y2
    gi_wp2;refine lO (by kernel_rfl) (fun _=>trivial) (vals:=fun k=>([.pointer (some ⟨R,0,none⟩),.pointer (some ⟨R,0,none⟩),.pointer (some ⟨R,0,none⟩),.pointer (some ⟨R,1,none⟩),.pointer (some ⟨R,2,none⟩),.slice a L.length n,.int .i64 x,.int .i64 (cut:Int),.pointer (some ⟨R,0,none⟩),.pointer (some ⟨R,0,none⟩),.pointer (some ⟨R,1,none⟩),.pointer (some ⟨R,3,none⟩),.int .i64 f,.agg #[.int .i64 x,.int .i64 (cut:Int),.int .i64 f],.slice (some ⟨W.heap.size,0,none⟩) 1 1,.slice a7 (L.length+1) n7,.pointer (some ⟨R,0,none⟩),.pointer (some ⟨R,1,none⟩),.pointer (some ⟨R,2,none⟩),undef]:List Value).getD k undef) (WJ:=fun L1 s=>s=if L1 19 then w7.setCell ⟨R,2,none⟩ (.slice a7 (L.length+1) n7) else if L1 15 then w7 else if L1 14 then (W.alloc (.cells #[.int .i64 x,.int .i64 (cut:Int),.int .i64 f] 65)).drew else W.drew) (vC (by kernel_rfl)) ?hext rfl ?hstep ?hdone
    case hext=>intro L1 L2 s h hs;simp only[←h];exact hs
    case hstep =>
     intro L1 a1 w1 i o hJ1 ho hl hdep;have hi20:i<20:=(gS ho).1;rcases (show i=0∨i=1∨i=2∨i=3∨i=4∨i=5∨i=6∨i=7∨i=8∨i=9∨i=10∨i=11∨i=12∨i=13∨i=14∨i=15∨i=16∨i=17∨i=18∨i=19 by omega) with rfl|rfl|rfl|rfl|rfl|rfl|rfl|rfl|rfl|rfl|rfl|rfl|rfl|rfl|rfl|rfl|rfl|rfl|rfl|rfl
     ·obtain rfl:=Option.some.inj ho
      have u5:a1.tmps[5]?.getD undef=.pointer (some ⟨w.heap.size,0,none⟩):=hJ1.old (fB (by kernel_rfl));have rr:=hbox w1 (hst L1 w1 hJ1.wj);refine⟨w1,.inl ?_,by have:=hJ1.wj;simpa using this⟩;simp[go_sem,u5,rr]
     ·obtain rfl:=Option.some.inj ho
      have u5:a1.tmps[5]?.getD undef=.pointer (some ⟨w.heap.size,0,none⟩):=hJ1.old (fB (by kernel_rfl));have rr:=hbox w1 (hst L1 w1 hJ1.wj);refine⟨w1,.inl ?_,by have:=hJ1.wj;simpa using this⟩;simp[go_sem,u5,rr]
     ·obtain rfl:=Option.some.inj ho
      have d1:=hdep ⟨1,.data⟩ (by simp) rfl;have v1:a1.tmps[52]?.getD undef=.pointer (some ⟨R,0,none⟩):=hJ1.at' d1 rfl rfl;refine⟨w1,.inl ?_,by have:=hJ1.wj;simpa using this⟩;simp[go_sem,v1]
     ·obtain rfl:=Option.some.inj ho
      have d2:=hdep ⟨2,.data⟩ (by simp) rfl;have v2:a1.tmps[53]?.getD undef=.pointer (some ⟨R,0,none⟩):=hJ1.at' d2 rfl rfl;refine⟨w1,.inl ?_,by have:=hJ1.wj;simpa using this⟩;simp[go_sem,v2]
     ·obtain rfl:=Option.some.inj ho
      have d3:=hdep ⟨3,.data⟩ (by simp) rfl;have v3:a1.tmps[54]?.getD undef=.pointer (some ⟨R,1,none⟩):=hJ1.at' d3 rfl rfl;refine⟨w1,.inl ?_,by have:=hJ1.wj;simpa using this⟩;simp[go_sem,v3]
     ·obtain rfl:=Option.some.inj ho
      have d4:=hdep ⟨4,.data⟩ (by simp) rfl;have v4:a1.tmps[55]?.getD undef=.pointer (some ⟨R,2,none⟩):=hJ1.at' d4 rfl rfl;have h19:L1 19=false:=by
       cases h:L1 19 with
       | false=>rfl
       | true =>
        have q1:=hJ1.closed 19 _ h rfl ⟨15,.data⟩ (by simp) rfl;have q2:=hJ1.closed 15 _ q1 rfl ⟨5,.data⟩ (by simp) rfl;rw[hl] at q2;cases q2
      have rr:=hrow L1 w1 hJ1.wj h19;refine⟨w1,.inl ?_,by have:=hJ1.wj;simpa using this⟩;simp[go_sem,v4,rr]
     ·obtain rfl:=Option.some.inj ho
      have u15:a1.tmps[15]?.getD undef=.int .i64 x:=hJ1.old (fB (by kernel_rfl));refine⟨w1,.inl ?_,by have:=hJ1.wj;simpa using this⟩;simp[go_sem,u15]
     ·obtain rfl:=Option.some.inj ho
      have u8:a1.tmps[8]?.getD undef=.pointer (some ⟨w.heap.size+1,0,none⟩):=hJ1.old (fB (by kernel_rfl));have rr:=hbox w1 (hst L1 w1 hJ1.wj);refine⟨w1,.inl ?_,by have:=hJ1.wj;simpa using this⟩;simp[go_sem,u8,rr]
     ·obtain rfl:=Option.some.inj ho
      have u5:a1.tmps[5]?.getD undef=.pointer (some ⟨w.heap.size,0,none⟩):=hJ1.old (fB (by kernel_rfl));have rr:=hbox w1 (hst L1 w1 hJ1.wj);refine⟨w1,.inl ?_,by have:=hJ1.wj;simpa using this⟩;simp[go_sem,u5,rr]
     ·obtain rfl:=Option.some.inj ho
      have d8:=hdep ⟨8,.data⟩ (by simp) rfl;have v8:a1.tmps[59]?.getD undef=.pointer (some ⟨R,0,none⟩):=hJ1.at' d8 rfl rfl;refine⟨w1,.inl ?_,by have:=hJ1.wj;simpa using this⟩;simp[go_sem,v8]
     ·obtain rfl:=Option.some.inj ho
      have d9:=hdep ⟨9,.data⟩ (by simp) rfl;have v9:a1.tmps[60]?.getD undef=.pointer (some ⟨R,0,none⟩):=hJ1.at' d9 rfl rfl;refine⟨w1,.inl ?_,by have:=hJ1.wj;simpa using this⟩;simp[go_sem,v9]
     ·obtain rfl:=Option.some.inj ho
      have d10:=hdep ⟨10,.data⟩ (by simp) rfl;have v10:a1.tmps[61]?.getD undef=.pointer (some ⟨R,1,none⟩):=hJ1.at' d10 rfl rfl;refine⟨w1,.inl ?_,by have:=hJ1.wj;simpa using this⟩;simp[go_sem,v10]
     ·obtain rfl:=Option.some.inj ho
      have d11:=hdep ⟨11,.data⟩ (by simp) rfl;have v11:a1.tmps[62]?.getD undef=.pointer (some ⟨R,3,none⟩):=hJ1.at' d11 rfl rfl;have rr:=hbox w1 (hst L1 w1 hJ1.wj);refine⟨w1,.inl ?_,by have:=hJ1.wj;simpa using this⟩;simp[go_sem,v11,rr]
     ·obtain rfl:=Option.some.inj ho
      have d6:=hdep ⟨6,.data⟩ (by simp) rfl;have v6:a1.tmps[57]?.getD undef=.int .i64 x:=hJ1.at' d6 rfl rfl;have d7:=hdep ⟨7,.data⟩ (by simp) rfl;have v7:a1.tmps[58]?.getD undef=.int .i64 (cut:Int):=hJ1.at' d7 rfl rfl;have d12:=hdep ⟨12,.data⟩ (by simp) rfl;have v12:a1.tmps[63]?.getD undef=.int .i64 f:=hJ1.at' d12 rfl rfl;refine⟨w1,.inl ?_,by have:=hJ1.wj;simpa using this⟩;simp[go_sem,v6,v7,v12]
     ·obtain rfl:=Option.some.inj ho
      have d13:=hdep ⟨13,.data⟩ (by simp) rfl;have v13:a1.tmps[64]?.getD undef=.agg #[.int .i64 x,.int .i64 (cut:Int),.int .i64 f]:=hJ1.at' d13 rfl rfl;have h15:L1 15=false:=by
       cases h:L1 15 with
       | false=>rfl
       | true=>have q1:=hJ1.closed 15 _ h rfl ⟨14,.data⟩ (by simp) rfl;rw[hl] at q1;cases q1
      have h19:L1 19=false:=by
       cases h:L1 19 with
       | false=>rfl
       | true=>have q1:=hJ1.closed 19 _ h rfl ⟨15,.data⟩ (by simp) rfl;rw[h15] at q1;cases q1
      have hw1:w1=W.drew:=by have:=hJ1.wj;simp only[h19,h15,hl] at this;exact this
      subst hw1;refine⟨_,.inl ?_,by simp[h15,h19];rfl⟩;simp[go_sem,v13]
     ·obtain rfl:=Option.some.inj ho
      have d5:=hdep ⟨5,.data⟩ (by simp) rfl;have v5:a1.tmps[56]?.getD undef=.slice a L.length n:=hJ1.at' d5 rfl rfl;have d14:=hdep ⟨14,.data⟩ (by simp) rfl;have v14:a1.tmps[65]?.getD undef=.slice (some ⟨W.heap.size,0,none⟩) 1 1:=hJ1.at' d14 rfl rfl;have h19:L1 19=false:=by
       cases h:L1 19 with
       | false=>rfl
       | true=>have q1:=hJ1.closed 19 _ h rfl ⟨15,.data⟩ (by simp) rfl;rw[hl] at q1;cases q1
      have hw1:w1=(W.alloc (.cells #[.int .i64 x,.int .i64 (cut:Int),.int .i64 f] 65)).drew:=by have:=hJ1.wj;simp only[h19,hl,d14] at this;exact this
      refine⟨w7,.inl ?_,by simp[h19]⟩;simp[go_sem,v5,v14];rw[hw1,hrun'];rfl
     ·obtain rfl:=Option.some.inj ho
      have d0:=hdep ⟨0,.data⟩ (by simp) rfl;have v0:a1.tmps[51]?.getD undef=.pointer (some ⟨R,0,none⟩):=hJ1.at' d0 rfl rfl;refine⟨w1,.inl ?_,by have:=hJ1.wj;simpa using this⟩;simp[go_sem,v0]
     ·obtain rfl:=Option.some.inj ho
      have d16:=hdep ⟨16,.data⟩ (by simp) rfl;have v16:a1.tmps[67]?.getD undef=.pointer (some ⟨R,0,none⟩):=hJ1.at' d16 rfl rfl;refine⟨w1,.inl ?_,by have:=hJ1.wj;simpa using this⟩;simp[go_sem,v16]
     ·obtain rfl:=Option.some.inj ho
      have d17:=hdep ⟨17,.data⟩ (by simp) rfl;have v17:a1.tmps[68]?.getD undef=.pointer (some ⟨R,1,none⟩):=hJ1.at' d17 rfl rfl;refine⟨w1,.inl ?_,by have:=hJ1.wj;simpa using this⟩;simp[go_sem,v17]
     ·obtain rfl:=Option.some.inj ho
      have d18:=hdep ⟨18,.data⟩ (by simp) rfl;have v18:a1.tmps[69]?.getD undef=.pointer (some ⟨R,2,none⟩):=hJ1.at' d18 rfl rfl;have d15:=hdep ⟨15,.data⟩ (by simp) rfl;have v15:a1.tmps[66]?.getD undef=.slice a7 (L.length+1) n7:=hJ1.at' d15 rfl rfl;have hw1:=hJ1.wj;simp only[hl,d15] at hw1;have hw2:w1=w7:=hw1;subst hw2;refine⟨_,.inr ⟨?_,rfl⟩,by simp;rfl⟩;simp[go_sem,v18,v15,y2,yf]
    case hdone =>
     intro L1 a1 w1 hJ1 hall;have hw1:w1=w7.setCell ⟨R,2,none⟩ (.slice a7 (L.length+1) n7):=by have:=hJ1.wj;simp only[hall 19 (by decide)] at this;exact this
     have q5:a1.tmps[5]?.getD undef=.pointer (some ⟨w.heap.size,0,none⟩):=hJ1.old (fB (by kernel_rfl));have qs:a1.tmps.size=100:=hJ1.size;have g0:=(hbox _ (.inr (.inr (.inr rfl)))).1;have hPJ2:=HN2.out.1;have hT2:=HN2.out.2;obtain⟨-,j2,j3,jf⟩:=hPJ2.cells;rw[List.length_append,List.length_singleton] at j2;have HP2J:=lh hPJ2;have HT2:=lh hT2;have HQ5:=lh q5;have HQS:=lh qs;have hl7:(L.length:Int)+1≤9223372036854775807:=by omega
     clear hbox hst hrow hPJ2 hT2 hall hJ1;generalize w7.setCell ⟨R,2,none⟩ (.slice a7 (L.length+1) n7)=W2 at *;subst hw1;gi_wp2;refine lO (by kernel_rfl) (fun _=>trivial) (vals:=fun k=>([.pointer (some ⟨R,0,none⟩),.pointer (some ⟨R,0,none⟩),.pointer (some ⟨R,0,none⟩),.pointer (some ⟨R,1,none⟩),.pointer (some ⟨R,2,none⟩),.slice a7 (L.length+1) n7,.int .i64 ((L.length:Int)+1),.pointer (some ⟨R,0,none⟩),.pointer (some ⟨R,1,none⟩),.pointer (some ⟨R,3,none⟩),undef]:List Value).getD k undef) (WJ:=fun L1 s=>s=if L1 10 then w1.drew.setCell ⟨R,3,none⟩ (.int .i64 ((L.length:Int)+1)) else w1.drew) (vC (by rw[qs];kernel_rfl)) ?hext2 rfl ?hstep2 ?hdone2
     case hext2=>intro L1 L2 s h hs;simp only[←h];exact hs
     case hstep2 =>
      intro L2 a2 w2 i o hJ2 ho hl hdep;have hi20:i<11:=(gS ho).1;rcases (show i=0∨i=1∨i=2∨i=3∨i=4∨i=5∨i=6∨i=7∨i=8∨i=9∨i=10 by omega) with rfl|rfl|rfl|rfl|rfl|rfl|rfl|rfl|rfl|rfl|rfl
      ·obtain rfl:=Option.some.inj ho
       have u5:a2.tmps[5]?.getD undef=.pointer (some ⟨w.heap.size,0,none⟩):=(hJ2.old (fB (by kernel_rfl))).trans q5;have hs1:w2=w1.drew:=by
        cases h:L2 10 with
        | false=>have:=hJ2.wj;simp only[h] at this;exact this
        | true =>
         have z9:=hJ2.closed 10 _ h rfl ⟨9,.data⟩ (by simp) rfl;have z8:=hJ2.closed 9 _ z9 rfl ⟨8,.data⟩ (by simp) rfl;have z7:=hJ2.closed 8 _ z8 rfl ⟨7,.data⟩ (by simp) rfl;have z0:=hJ2.closed 7 _ z7 rfl ⟨0,.data⟩ (by simp) rfl;rw[hl] at z0;cases z0
       have rr:w2.cell? ⟨w.heap.size,0,none⟩=some (.pointer (some ⟨R,0,none⟩)):=by rw[hs1];exact g0
       refine⟨w2,.inl ?_,by have:=hJ2.wj;simpa using this⟩;simp[go_sem,u5,rr]
      ·obtain rfl:=Option.some.inj ho
       have u5:a2.tmps[5]?.getD undef=.pointer (some ⟨w.heap.size,0,none⟩):=(hJ2.old (fB (by kernel_rfl))).trans q5;have hs1:w2=w1.drew:=by
        cases h:L2 10 with
        | false=>have:=hJ2.wj;simp only[h] at this;exact this
        | true =>
         have z6:=hJ2.closed 10 _ h rfl ⟨6,.data⟩ (by simp) rfl;have z5:=hJ2.closed 6 _ z6 rfl ⟨5,.data⟩ (by simp) rfl;have z4:=hJ2.closed 5 _ z5 rfl ⟨4,.data⟩ (by simp) rfl;have z3:=hJ2.closed 4 _ z4 rfl ⟨3,.data⟩ (by simp) rfl;have z2:=hJ2.closed 3 _ z3 rfl ⟨2,.data⟩ (by simp) rfl;have z1:=hJ2.closed 2 _ z2 rfl ⟨1,.data⟩ (by simp) rfl;rw[hl] at z1;cases z1
       have rr:w2.cell? ⟨w.heap.size,0,none⟩=some (.pointer (some ⟨R,0,none⟩)):=by rw[hs1];exact g0
       refine⟨w2,.inl ?_,by have:=hJ2.wj;simpa using this⟩;simp[go_sem,u5,rr]
      ·obtain rfl:=Option.some.inj ho
       have d1:=hdep ⟨1,.data⟩ (by simp) rfl;have v1:a2.tmps[71]?.getD undef=.pointer (some ⟨R,0,none⟩):=hJ2.at' d1 rfl rfl;refine⟨w2,.inl ?_,by have:=hJ2.wj;simpa using this⟩;simp[go_sem,v1]
      ·obtain rfl:=Option.some.inj ho
       have d2:=hdep ⟨2,.data⟩ (by simp) rfl;have v2:a2.tmps[72]?.getD undef=.pointer (some ⟨R,0,none⟩):=hJ2.at' d2 rfl rfl;refine⟨w2,.inl ?_,by have:=hJ2.wj;simpa using this⟩;simp[go_sem,v2]
      ·obtain rfl:=Option.some.inj ho
       have d3:=hdep ⟨3,.data⟩ (by simp) rfl;have v3:a2.tmps[73]?.getD undef=.pointer (some ⟨R,1,none⟩):=hJ2.at' d3 rfl rfl;refine⟨w2,.inl ?_,by have:=hJ2.wj;simpa using this⟩;simp[go_sem,v3]
      ·obtain rfl:=Option.some.inj ho
       have d4:=hdep ⟨4,.data⟩ (by simp) rfl;have v4:a2.tmps[74]?.getD undef=.pointer (some ⟨R,2,none⟩):=hJ2.at' d4 rfl rfl;have hs1:w2=w1.drew:=by
        cases h:L2 10 with
        | false=>have:=hJ2.wj;simp only[h] at this;exact this
        | true =>
         have z6:=hJ2.closed 10 _ h rfl ⟨6,.data⟩ (by simp) rfl;have z5:=hJ2.closed 6 _ z6 rfl ⟨5,.data⟩ (by simp) rfl;rw[hl] at z5;cases z5
       have rr:w2.cell? ⟨R,2,none⟩=some (.slice a7 (L.length+1) n7):=by rw[hs1];exact j2
       refine⟨w2,.inl ?_,by have:=hJ2.wj;simpa using this⟩;simp[go_sem,v4,rr]
      ·obtain rfl:=Option.some.inj ho
       have d5:=hdep ⟨5,.data⟩ (by simp) rfl;have v5:a2.tmps[75]?.getD undef=.slice a7 (L.length+1) n7:=hJ2.at' d5 rfl rfl;refine⟨w2,.inl ?_,by have:=hJ2.wj;simpa using this⟩;simp[go_sem,v5]
      ·obtain rfl:=Option.some.inj ho
       have d0:=hdep ⟨0,.data⟩ (by simp) rfl;have v0:a2.tmps[70]?.getD undef=.pointer (some ⟨R,0,none⟩):=hJ2.at' d0 rfl rfl;refine⟨w2,.inl ?_,by have:=hJ2.wj;simpa using this⟩;simp[go_sem,v0]
      ·obtain rfl:=Option.some.inj ho
       have d7:=hdep ⟨7,.data⟩ (by simp) rfl;have v7:a2.tmps[77]?.getD undef=.pointer (some ⟨R,0,none⟩):=hJ2.at' d7 rfl rfl;refine⟨w2,.inl ?_,by have:=hJ2.wj;simpa using this⟩;simp[go_sem,v7]
      ·obtain rfl:=Option.some.inj ho
       have d8:=hdep ⟨8,.data⟩ (by simp) rfl;have v8:a2.tmps[78]?.getD undef=.pointer (some ⟨R,1,none⟩):=hJ2.at' d8 rfl rfl;refine⟨w2,.inl ?_,by have:=hJ2.wj;simpa using this⟩;simp[go_sem,v8]
      ·obtain rfl:=Option.some.inj ho
       have d9:=hdep ⟨9,.data⟩ (by simp) rfl;have v9:a2.tmps[79]?.getD undef=.pointer (some ⟨R,3,none⟩):=hJ2.at' d9 rfl rfl;have d6:=hdep ⟨6,.data⟩ (by simp) rfl;have v6:a2.tmps[76]?.getD undef=.int .i64 ((L.length:Int)+1):=hJ2.at' d6 rfl rfl;have hs1:w2=w1.drew:=by have:=hJ2.wj;simp only[hl] at this;exact this
       subst hs1;refine⟨_,.inr ⟨?_,rfl⟩,by simp;rfl⟩;simp[go_sem,v9,v6,j3,jf]
     case hdone2 =>
      intro L2 a2 w2 hJ2 hall;have hw2:w2=w1.drew.setCell ⟨R,3,none⟩ (.int .i64 ((L.length:Int)+1)):=by have:=hJ2.wj;simp only[hall 10 (by decide)] at this;exact this
      subst hw2;clear hJ2 hall;have hTV:aA (fun b=>b=R∨bk a=some b) W (w1.drew.setCell ⟨R,3,none⟩ (.int .i64 ((L.length:Int)+1))):=(HT2.out.trans (aA.below ((bR _ _).drew))).trans (aA.setCell _ (.inl rfl));have hPN:=(HP2J.out.below ((Below.refl w1.heap.size w1).drew)).first HRL.out HGR.out ((L.length:Int)+1)
      have hpn:=bG3 S V l cut nx (i:=i) (by have:=HAL.out;have:=HCL.out;omega) HA.out;rw[←HX.out,←HF.out,←HL.out] at hpn;have HTV:=lh hTV;have HPN:=lh hPN;have HPG:=lh hpn;clear hTV hPN hpn;gi_wp2;refine⟨tB HTV.out fun b o e ho=>?_,HTV.out.keeps fun b hb e=>?_,a7,n7,?_⟩
      ·rcases e with e|e
       ·subst e;rw[HJ.out.blk] at ho;cases ho;rfl
       ·exact mE HJ.out.g ((aE _ _ _).trans e) ho
      ·have hs0:=HS0.out
       have zRw:R<wr.heap.size:=HP2.out.rn.lt;have hrl:=HP2.out.rn.rmlt;rcases hb with hb|hb
       ·rcases e with e|e
        ·omega
        ·rcases HJ.out.fr with k|k
         ·have:=hrl b (.inr (by rw[←k.symm.trans e];simp[rws]));omega
         ·have:=k b e;omega
       ·rcases e with e|e
        ·subst e;exact HP2.out.rn.zr b (.inl rfl) (.inr hb)
        ·rcases HJ.out.fr with k|k
         ·exact HP2.out.rn.zr b (.inr (by rw[←k.symm.trans e];simp[rws])) (.inr hb)
         ·have:=k b e;have:=HZX.out b hb;omega
      ·rw[HPG.out.1,HPG.out.2];exact HPN.out
   case done =>
    rintro D W hD ⟨-,a,n,hJ⟩ hK;obtain⟨L,hL⟩:∃L,L=(pg S V l cut nx A.length).1.map Gn.gl:=⟨_,rfl⟩
    obtain⟨f,hf⟩:∃f:Int,f=((pg S V l cut nx A.length).2:Int):=⟨_,rfl⟩
    rw[←hL,←hf] at hJ;have hAc:A.length=(aS S.H V l).2.length:=by have:=HAL.out;have:=HCL.out;omega
    have hLl:L.length≤5000:=by
     have h1:=bB3 S V l cut nx A.length (by omega);have h2:=HAL.out;have h3:=HGL.out;rw[hL,List.length_map,h1];omega
    have hLc:L=(eR cut (aS S.H V l).2.reverse (S.G,nx)).1.map Gn.gl∧f=((eR cut (aS S.H V l).2.reverse (S.G,nx)).2:Int):=by
     rw[hL,hf,hAc,bM7];exact⟨rfl,rfl⟩
    have hHl:(aS S.H V l).1.1.length≤400000:=by have:=HP2.out.len;have:=HLEN.out;omega
    have hsW:=hJ.t.size;have hS0:=HS0.out;have zs:w.heap.size+1<wr.heap.size:=z2;have hJ':=hJ.step HRL.out (W':=W.putObj D (.deferred none)) (row:=some D) (grownBy_putObj' W D (.deferred none)) (fun r e=>by cases e;exact⟨hD,_,hK,rfl⟩);have hRD:aX (W.putObj D (.deferred none)) Z R p pa pc {S.mac with H:=(aS S.H V l).1.1,first:=f,G:=L} {d2 with g:=a,gn:=n} wk :=
     (hJ'.done HR0.out (fun b hb=>by
      rcases hb with hb|hb
      ·have:=HZN.out b hb;omega
      ·have:=HZX.out b hb;omega)).zmono fun b _ e=>.inl e
    have hRW:aX W (fun b=>Z b∨bk la2=some b) R p pa pc {S.mac with H:=(aS S.H V l).1.1,first:=f,G:=L} {d2 with g:=a,gn:=n} wk :=
     hJ.done HR0.out (fun b hb=>by
      rcases hb with hb|hb
      ·have:=HZN.out b hb;omega
      ·have:=HZX.out b hb;omega)
    have hnb:∀b,b<w0.heap.size→¬RM R d2 b→¬(b=R∨bk d2.g=some b∨w0.heap.size≤b):=fun b hb hn e=>by
     rcases e with e|e|e
     ·exact hn (.inl e)
     ·exact hn (.inr (by rw[←e];simp[rws]))
     ·omega
    have zw0:w.heap.size<w0.heap.size:=by omega
    have f0:W.cell? ⟨w.heap.size,0,none⟩=some (.pointer (some ⟨R,0,none⟩)):=(hJ.t.cell (p:=⟨w.heap.size,0,none⟩) zw0 (hnb _ zw0 HP2.out.bx.1)).trans ((HTW.out.cell (p:=⟨w.heap.size,0,none⟩) z1 HP2.out.bx.1).trans e0);obtain⟨-,k1,k2,-,-,-,-,-,-,-,-,-⟩:=hRW.cells;simp only at k1 k2;have hfd:bB w d {d2 with g:=a,gn:=n}:=fun b hb=>by
     simp only[rws,List.mem_cons,List.not_mem_nil,or_false] at hb;have hfr:=HP2.out.fr b;simp only[rws,List.mem_cons,List.not_mem_nil,or_false] at hfr ⊢;rcases hb with e1|e1|e1|e1|e1|e1
     ·exact hfr (.inl e1)
     ·rcases hJ.fr with k|k
      ·exact hfr (.inr (.inl (e1.trans k)))
      ·have:=k b e1.symm;exact .inr (by omega)
     ·exact hfr (.inr (.inr (.inl e1)))
     ·exact hfr (.inr (.inr (.inr (.inl e1))))
     ·exact hfr (.inr (.inr (.inr (.inr (.inl e1)))))
     ·exact hfr (.inr (.inr (.inr (.inr (.inr e1)))))
    have hTo:aA (fun b=>RM R d b∨b=bm) w (W.putObj D (.deferred none)):=by
     have h1:aA (fun b=>RM R d2 b∨w0.heap.size≤b) wr (W.putObj D (.deferred none)):=(HTW.out.mono fun b _ e=>.inl e).trans (hJ'.t.mono fun b _ e=>by
      rcases e with e|e|e
      ·exact .inl (.inl e)
      ·exact .inl (.inr (by rw[←e];simp[rws]))
      ·exact .inr e)
     have h0:=HP2.out.t;refine⟨h1.os.trans h0.os,h1.tape.trans h0.tape,h1.output.trans h0.output,Nat.le_trans h0.size h1.size,fun b hb hn=>(h1.block b (nT hb h0.size) fun e=>?_).trans (h0.block b hb hn)⟩;rcases e with e|e
     ·exact HP2.out.fr.notR hb (fun k=>hn (.inl k)) e
     ·have:=h0.size;omega
    have HRW:=lh hRD;have HFD:=lh hfd;have HTO:=lh hTo;have HLC:=lh hLc;clear hJ hJ' hRW hRD hfd hTo hLc hL hf hAc hnb;go_wp2_with fail;refine(show bodyPostM Fence.wide 3 _ _ _ Exit.normal _ W from ⟨by simp,.inl ⟨_,_,rfl,run_takeDeferred hK,?_⟩⟩);have hrow:(lB l V cut nx S).mac = {S.mac with H:=(aS S.H V l).1.1,first:=f,G:=L}:=aS7 l V cut nx S HLC.out.1 HLC.out.2 hHl hLl;refine⟨.tuple #[],by simp[results,Try.results72,go_sem],⟨_,rfl⟩,HTO.out,_,HFD.out,?_⟩;rw[hrow];exact HRW.out
end Go.Proofs.Ytikmgiapjigghab
namespace Go.Proofs.Ytikmgiapjigghab
open Go.RowKit
theorem uI{p:List Cl}{n:Nat}{S:MS}:∀(m i:Nat),p.length-i=m→dG p n i S=dG p n (bE p (fP (hc S.H (aF S n))) i) S:=by
 intro m
 induction m with
 | zero=>intro i hm;rw[gX (by omega)]
 | succ m ih =>
  intro i hm;have hi:i<p.length:=by omega
  by_cases hf:fG p[i] (fP (hc S.H (aF S n)))
  ·rw[iY hi hf]
  ·rw[iZ hi hf,vH hi hf];exact ih (i+1) (by omega)
theorem aK4{p:List Cl}{g:Gn}{at':Nat}{t:Tm}{was:Cn}{c:Cl}{i:Nat}{S:MS}{K1:List HC}{V1:CV}{a:Nat}(hz:putT S.H (fun _=>none) c.head=((K1,V1),a)) :
 gE p g at' t was c i S=if (cQ a at' {S with H:=K1}).2=true then
  (lB c.body V1 S.ch.length g.next {(cQ a at' {S with H:=K1}).1 with ch:=if bE p t (i+1)<p.length then S.ch++[{was with clause:=bE p t (i+1)}] else S.ch},some true)
  else if (cQ a at' {S with H:=K1}).1.fin≠0 then (aK (cQ a at' {S with H:=K1}).1 was,some true) else (aK (cQ a at' {S with H:=K1}).1 was,none):=by
 simp only[gE,hz]
structure qE(S:MS)(r:MS×Bool):Prop where
 len:r.1.H.length=S.H.length
 G:r.1.G=S.G
 ch:r.1.ch=S.ch
 first:r.1.first=S.first
 Q:r.1.Q=S.Q
 steps:r.1.steps=S.steps
 ans:r.1.ans=S.ans
 T:S.T.length≤r.1.T.length∧r.1.T.length≤S.T.length+4000
 fin:r.2=true→r.1.fin=0
 f:r.2=true→r.1.f≤S.f
 no:r.2=false→r.1.fin=0∨r.1.fin=3
 heap:dZ r.1.H
theorem pA{S:MS}(hI:dZ S.H)(h0:S.fin=0)(hf4:S.f≤4000){a b:Nat}(ha:a<S.H.length)(hb:b<S.H.length):qE S (cQ a b S):=by
 have hp:∀p,p∈[(a,b)]→p.1<S.H.length∧p.2<S.H.length:=fun x hx=>by rw[List.mem_singleton] at hx;subst hx;exact⟨ha,hb⟩
 have hk:=kQ S.f S.H [] [(a,b)] hI hp;have hr:=lX S.f S.H [] [(a,b)] hI hp 4000 (by simp;omega);have hv:=uE S.f S.H [] [(a,b)] hI hp;cases ho:dE S.H [] S.f [(a,b)] with
 | ok K B f =>
  rw[ho] at hk hr hv;have hl:B.length≤4000:=hr;simp only[cQ,ho];exact⟨hk.1,rfl,rfl,rfl,rfl,rfl,rfl,by simp only[List.length_append];omega,fun _=>h0,fun _=>hv.2.2.2,(fun e=>nomatch e),hv.1⟩
 | no K B f =>
  rw[ho] at hk hr hv;have hl:B.length≤4000:=hr;simp only[cQ,ho];exact⟨hk.1,rfl,rfl,rfl,rfl,rfl,rfl,by simp only[List.length_append];omega,(fun e=>nomatch e),(fun e=>nomatch e),fun _=>.inl h0,hv.1⟩
 | many K B =>
  rw[ho] at hk hr hv;have hl:B.length≤4000:=hr;simp only[cQ,ho];exact⟨hk.1,rfl,rfl,rfl,rfl,rfl,rfl,by simp only[List.length_append];omega,(fun e=>nomatch e),(fun e=>nomatch e),fun _=>.inr rfl,hv.1⟩
theorem MS.only_f{S S':MS}(h1:S'.H=S.H)(h2:S'.T=S.T)(h3:S'.G=S.G)(h4:S'.ch=S.ch)(h5:S'.Q=S.Q)(h6:S'.steps=S.steps)(h7:S'.ans=S.ans)(h8:S'.first=S.first)(h9:S'.fin=S.fin):S' = {S with f:=S'.f}:=by
 cases S;cases S';simp only at h1 h2 h3 h4 h5 h6 h7 h8 h9;subst h1;subst h2;subst h3;subst h4;subst h5;subst h6;subst h7;subst h8;subst h9;rfl
structure aO4(S:MS)(n:Nat)(c:Cl)(K1:List HC)(V1:CV)(a:Nat):Prop where
 eq:putT S.H (fun _=>none) c.head=((K1,V1),a)
 heap:dZ K1
 lt:a<K1.length∧aF S n<K1.length
 len:S.H.length≤K1.length∧K1.length≤S.H.length+119
 vb:VB V1 1000000
theorem fM.head{p:List Cl}{S:MS}{P:PS}{n:Nat}{gs:List eD}{t:Tm}(h:fM p S P n gs t){c:Cl}(hC:ClG c)(hroom:S.H.length+833≤400000):∃K1 V1 a,aO4 S n c K1 V1 a:=by
 obtain⟨D,Sc,g,r,hG⟩:=h.goal;obtain⟨hs,hgs,hcut,hgo,hnum,hat,hst,hlt⟩:=hG;have hV0:aL4 P.σ P.vars (fun _=>none) D Sc:=⟨(fun v c e=>nomatch e),fun v h1 _=>hs.fresh _ (by omega)⟩
 have hj0:wL (fun _=>none):=fun v w c e=>nomatch e
 have hle:=kZ c.head S.H (fun _=>none);have hsz:=hC.head.size;have hvb:=qA c.head S.H (fun _=>none) 1000000 (fun v c e=>nomatch e) (by omega);obtain⟨D1,S1,q⟩:=rN hs.hang (Int.natCast_nonneg P.vars) hV0 hj0 hC.head.fit.wf hC.head.names (fun x hx hv=>(hC.head.var hx hv).1) (by omega);obtain⟨⟨⟨K1,V1⟩,a⟩,hz⟩:∃Z,putT S.H (fun _=>none) c.head=Z:=⟨_,rfl⟩
 rw[hz] at q hle hvb;simp only at q hle hvb;have hl:=q.len;exact⟨K1,V1,a,hz,q.hang.heap,⟨q.st.lt,(q.keep _ _ hst).lt⟩,⟨by omega,by omega⟩,hvb.2⟩
theorem aK5(w:World)(x y z u v:Value)(e:TypeId):∀j t,[x,y,z,u,v][j]? = some t→(w.alloc (.cells #[x,y,z,u,v] e)).cell? ((⟨w.heap.size,0,none⟩:Addr).add j)=some t:=by
 intro j t hu;have hj:j<5:=by simpa using (List.getElem?_eq_some_iff.1 hu).1
 rcases (by omega:j=0∨j=1∨j=2∨j=3∨j=4) with rfl|rfl|rfl|rfl|rfl
 all_goals
  simp at hu;subst hu;simp[Addr.add,World.cell?,World.alloc,-World.alloc_eq]
theorem aF0{w w1 w2:World}{R:Nat}{d d1:MAd}(h:aA (RM R d) w w1)(hf:bB w d d1){M:Nat→Prop}(k:aA M w1 w2)(hM:∀b,b<w.heap.size→M b→RM R d1 b):aA (RM R d) w w2:=by
 refine⟨k.os.trans h.os,k.tape.trans h.tape,k.output.trans h.output,Nat.le_trans h.size k.size,fun b hb hn=>(k.block b (nT hb h.size) fun e=>?_).trans (h.block b hb hn)⟩;exact hf.notR hb hn (hM b hb e)
structure CaI(w wr:World)(Z:Nat→Prop)(R:Nat)(p:List Cl)(pa:Option Addr)(pc:Nat)(S:MS)(d d':MAd)(n i:Nat)(gs:List eD)(tm:Tm)(f j:Nat):Prop where
 rn:aX wr Z R p pa pc S.mac d' (4000-f)
 fr:bB w d d'
 t:aA (RM R d) w wr
 ci:∃P,fM p {S with f:=f} P n gs tm
 eq:dG p n i S=dG p n j {S with f:=f}
 fit:j<p.length→∀hj:j<p.length,fG p[j] tm
structure ClF(p:List Cl)(S:MS)(n i f j:Nat)(gs:List eD)(tm:Tm)(c:Cl)(K1:List HC)(V1:CV)(a:Nat)(r:MS×Bool):Prop where
 head:aO4 {S with f:=f} n c K1 V1 a
 keep:qE {S with f:=f,H:=K1} r
 f4:f≤4000
 yes:r.2=true→dG p n i S=(lB c.body V1 S.ch.length (gn S (n-1)).next {r.1 with ch:=if bE p tm (j+1)<p.length then S.ch++[{aZ S n with clause:=bE p tm (j+1)}] else S.ch},true)
 many:r.2=false→r.1.fin≠0→dG p n i S=(aK r.1 (aZ S n),true)
 no:r.2=false→r.1.fin=0→aK r.1 (aZ S n) = {S with f:=r.1.f}∧(∃P,fM p {S with f:=r.1.f} P n gs tm)∧dG p n i S=dG p n (j+1) {S with f:=r.1.f}
 within:jP r.1 (aZ S n)
theorem CaI.clause{w wr:World}{Z:Nat→Prop}{R:Nat}{p:List Cl}{pa:Option Addr}{pc:Nat}{S:MS}{d d':MAd}{n i:Nat}{gs:List eD}{tm:Tm}{f j:Nat}(h:CaI w wr Z R p pa pc S d d' n i gs tm f j)(hp:∀c,c∈p→ClG c)(hroom:S.H.length+833≤400000∧S.G.length+6≤5000)(h0:S.fin=0)(hfirst:S.first=n)(hj:j<p.length)
 (hnf:bE p (fP (hc S.H (aF S n))) (j+1)=bE p tm (j+1)) (hfc:fG p[j] (fP (hc S.H (aF S n)))↔fG p[j] tm):∃K1 V1 a r,cQ a (aF S n) {S with f:=f,H:=K1}=r∧ClF p S n i f j gs tm p[j] K1 V1 a r:=by
 obtain⟨P,hci⟩:=h.ci;have hcl:=hp p[j] (List.getElem_mem hj);obtain⟨K1,V1,a,hh⟩:=hci.head hcl hroom.1;have hco:=uO hci hcl j hroom;have hme:=aK4 (p:=p) (g:=gn {S with f:=f} (n-1)) (at':=aF {S with f:=f} n) (t:=fP (hc S.H (aF {S with f:=f} n))) (was:=aZ {S with f:=f} n) (i:=j) hh.eq;rw[hme] at hco;obtain⟨r,hr⟩:∃r,cQ a (aF S n) {S with f:=f,H:=K1}=r:=⟨_,rfl⟩
 have hk:qE {S with f:=f,H:=K1} r:=by rw[←hr];exact pA (S:={S with f:=f,H:=K1}) hh.heap h0 hci.work.2 hh.lt.1 hh.lt.2
 have hfit:fG p[j] (fP (hc S.H (aF S n))):=hfc.2 (h.fit hj hj);have hr':cQ a (aF {S with f:=f} n) {{S with f:=f} with H:=K1}=r:=hr;rw[hr'] at hme hco;have hnf':bE p (fP (hc S.H (aF {S with f:=f} n))) (j+1)=bE p tm (j+1):=hnf;rw[hnf'] at hme hco;refine⟨K1,V1,a,r,hr,hh,hk,hci.work.2,fun hy=>?_,fun hn hz=>?_,fun hn hz=>?_,⟨?_,?_,?_⟩⟩
 ·rw[if_pos hy] at hme
  rw[h.eq];exact pG hj hfit hme
 ·rw[if_neg (by rw[hn];decide),if_pos hz] at hme
  rw[h.eq];exact pG hj hfit hme
 ·rw[if_neg (by rw[hn];decide),if_neg (fun e=>e hz)] at hme hco
  revert hco
  cases hpc:cO p gs tm p[j] j P with
  | mk P' o' =>
   cases o' with
   | some b=>intro hco;exact hco.elim
   | none =>
    rintro ⟨q1,q2,q3,q4,q5,q6,q7,q8⟩;have he:aK r.1 (aZ S n) = {S with f:=r.1.f}:=MS.only_f (S:=S) (S':=aK r.1 (aZ S n)) q2 q3 q4 q5 q6 q7 q8 (q1.first.trans hfirst.symm) (q1.fin.1.trans h0.symm);refine⟨he,⟨P',?_⟩,?_⟩
    ·rw[←he];exact q1
    ·rw[h.eq,←he]
     exact aG8 hj hfit hme q2 q3 q4
 ·have:=hh.len.1;have:=hk.len;simp only[aZ] at *;omega
 ·exact hk.T.1
 ·have:=hk.G;simp only[aZ] at *;rw[this];exact nR _
structure aR9(w wx:World)(Z:Nat→Prop)(R:Nat)(p:List Cl)(pa:Option Addr)(pc:Nat)(m:Mac)(d d':MAd)(wk bm:Nat)(K1:List HC)(V1:CV):Prop where
 rn:aX wx (fun b=>Z b∨b=bm) R p pa pc {m with H:=K1} d' wk
 fr:bB w d d'
 t:aA (fun b=>RM R d b∨b=bm) w wx
 v:∃n,VAt wx bm n V1∧n≤K1.length
theorem aR9.of{w u w1:World}{Z:Nat→Prop}{R:Nat}{p:List Cl}{pa:Option Addr}{pc:Nat}{m:Mac}{d:MAd}{wk bm:Nat}(h:aX w (fun b=>Z b∨b=bm) R p pa pc m d wk)(hzn:∀b,Z b→b<w.heap.size)(hbm:bm<w.heap.size)(hu:Below w.heap.size w u)
 {K1:List HC} {V1:CV} {a5:Option Addr} {c5 n5:Nat} (hH:eT w1 0 (.slice a5 K1.length c5) K1) (hV:VAt w1 bm n5 V1) (hn:n5≤K1.length) (hf:cF u (.slice d.h m.H.length d.hn) (.slice a5 K1.length c5)) (ht:aA (oY (.slice d.h m.H.length d.hn) bm) u w1) :
 aR9 w (w1.setCell ⟨R,1,none⟩ (.slice a5 K1.length c5)) Z R p pa pc m d {d with h:=a5,hn:=c5} wk bm K1 V1:=by
 have hs:=hu.size;have hru:=h.below hu;have ht1:aA (fun b=>bk d.h=some b∨(Z b∨b=bm)) u w1:=ht.mono fun b _ e=>e.elim (fun e=>.inl ((aE _ _ _).symm.trans e)) fun e=>.inr (.inr e)
 have hf1:bk a5=bk d.h∨∀b,bk a5=some b→u.heap.size≤b:=hf.elim (fun e=>.inl ((aE _ _ _).symm.trans (e.trans (aE _ _ _)))) fun e=>.inr fun b hb=>e b ((aE _ _ _).trans hb)
 obtain⟨r6,-⟩:=hru.putH ht1 hH hf1 (fun b hb=>hb.elim (fun e=>by have:=hzn b e;omega) fun e=>by omega);have hR:bm≠R:=fun e=>h.zr R (.inl rfl) (.inr e.symm)
 refine⟨r6,fun b hb=>?_,?_,⟨n5,hV.keep (Below.heap_setCell _ _ _ _ hR),hn⟩⟩
 ·simp only[rws,List.mem_cons,List.not_mem_nil,or_false] at hb ⊢
  rcases hf1 with e|e
  ·rw[e] at hb;exact .inl hb
  ·rcases hb with e1|e1|e1|e1|e1|e1
   ·exact .inr (by have:=e b e1.symm;omega)
   ·exact .inl (.inr (.inl e1))
   ·exact .inl (.inr (.inr (.inl e1)))
   ·exact .inl (.inr (.inr (.inr (.inl e1))))
   ·exact .inl (.inr (.inr (.inr (.inr (.inl e1)))))
   ·exact .inl (.inr (.inr (.inr (.inr (.inr e1)))))
 ·refine((aA.below hu).trans (ht.mono fun b _ e=>e.elim (fun e=>.inl (.inr ?_)) fun e=>.inr e)).trans (aA.setCell _ (.inl (.inl rfl)))
  rw[←(aE _ _ _).symm.trans e];simp[rws]
theorem aX.pushC{w X w5:World}{Z:Nat→Prop}{R:Nat}{p:List Cl}{pa:Option Addr}{pc:Nat}{m:Mac}{d:MAd}{wk:Nat}(h:aX w Z R p pa pc m d wk)(hX:Below w.heap.size w X){c:Chi}{n:Nat}(hn:m.ch.length=n){a5:Option Addr}{c5:Nat}
 (hown:w5.ownsRow 0 67 5 (.slice a5 (n+1) c5) (n+1) (cW m.ch++[.int .i64 c.goal,.int .i64 c.clause,.int .i64 c.heap,.int .i64 c.trail,.int .i64 c.goals])) (hg:X.grownBy w5 (Value.slice d.c n d.cn).ownBlock) (hf:cF X (.slice d.c n d.cn) (.slice a5 (n+1) c5)) (hzn:∀b,Z b→b<w.heap.size) :
 aX (w5.setCell ⟨R,4,none⟩ (.slice a5 (n+1) c5)) Z R p pa pc {m with ch:=m.ch++[c]} {d with c:=a5,cn:=c5} wk∧aA (RM R d) w (w5.setCell ⟨R,4,none⟩ (.slice a5 (n+1) c5))∧bB w d {d with c:=a5,cn:=c5}:=by
 subst hn;have h3:=h.below hX;have hs:=hX.size;have ht4:aA (fun b=>bk d.c=some b) X w5:=aA.grown hg fun k e=>(aE d.c m.ch.length d.cn).symm.trans e
 have hf4:bk a5=bk d.c∨∀b,bk a5=some b→X.heap.size≤b:=hf.elim (fun e=>.inl ((aE _ _ _).symm.trans (e.trans (aE _ _ _)))) fun e=>.inr fun b hb=>e b ((aE _ _ _).trans hb)
 have hLl:(m.ch++[c]).length=m.ch.length+1:=by simp
 obtain⟨q1,-⟩:=h3.putch (L:=m.ch++[c]) (a:=a5) (n:=c5) (ht4.mono fun b _ e=>.inl e) (by rw[hLl,zP];exact hown) hf4 (fun b hb=>nT (hzn b hb) hs);rw[hLl] at q1;refine⟨q1,(aA.below hX).trans ((ht4.mono fun b _ e=>.inr (by rw[←e];simp[rws])).trans (aA.setCell _ (.inl rfl))),fun b hb=>?_⟩;simp only[rws,List.mem_cons,List.not_mem_nil,or_false] at hb ⊢;rcases hf4 with e|e
 ·rw[e] at hb;exact .inl hb
 ·rcases hb with e1|e1|e1|e1|e1|e1
  ·exact .inl (.inl e1)
  ·exact .inl (.inr (.inl e1))
  ·exact .inr (by have:=e b e1.symm;omega)
  ·exact .inl (.inr (.inr (.inr (.inl e1))))
  ·exact .inl (.inr (.inr (.inr (.inr (.inl e1)))))
  ·exact .inl (.inr (.inr (.inr (.inr (.inr e1)))))
structure BkI(p:List Cl)(S:MS)(P:PS):Prop where
 ch:ChR p P.vars S S.ch.reverse P.ch.reverse
 fin:S.fin=0∧P.fin=0
 same:S.steps=P.steps∧S.ans=P.ans
 weak:∃P0,gW p S P0
 room:S.H.length+833≤400000∧S.G.length+6≤5000
 tr:S.T.length≤100000000
 chb:S.ch.length≤100000000
structure bF3(p:List Cl)(S:MS)(k:Nat)(c:Cn)(S1:MS):Prop where
 at':S.ch[k]? = some c
 within:jP S c
 is:S1 = {aK {S with ch:=S.ch.take k} c with first:=c.goal,f:=4000}
 call:∃P1 gs t,fM p S1 P1 c.goal gs t
 fn:(hc S1.H (aF S1 c.goal)).k=2
 num:1≤c.goal∧c.goal≤S1.G.length∧(gn S1 (c.goal-1)).at'<S1.H.length
 heap:dZ S1.H
 cl:c.clause≤p.length
 room:S1.H.length+833≤400000∧S1.G.length+6≤5000
 tr:S1.T.length≤100000000
 chb:S1.ch.length≤100000000
 eq:eL p (k+1) S=if (dG p c.goal c.clause S1).2=true then (dG p c.goal c.clause S1).1 else eL p k (dG p c.goal c.clause S1).1
 next:(dG p c.goal c.clause S1).2=false→(∃P2,BkI p (dG p c.goal c.clause S1).1 P2)∧(dG p c.goal c.clause S1).1.ch.length=k
theorem aY4{p:List Cl}(hp:∀c,c∈p→ClG c){k:Nat}{S:MS}{P:PS}(h:BkI p S P)(hk:S.ch.length=k+1):∃c S1,bF3 p S k c S1:=by
 obtain⟨hch,hf,hs,hw,hroom,htr,hchb⟩:=h;have hlen:=hch.len;simp only[List.length_reverse] at hlen;obtain⟨c,hc1⟩:∃c,S.ch[k]? = some c:=⟨_,List.getElem?_eq_getElem (by omega)⟩
 obtain⟨d,hd1⟩:∃d,P.ch[k]? = some d:=⟨_,List.getElem?_eq_getElem (by omega)⟩
 have hS:S.ch=S.ch.take (k+1):=by rw[←hk,List.take_length]
 have hP:P.ch=P.ch.take (k+1):=by rw[←hk,hlen,List.take_length]
 rw[hS,hP,qP hc1,qP hd1] at hch;obtain⟨⟨w,⟨c1,c2⟩,⟨d1,d2⟩,D,Sc,hsit⟩,hch2⟩:=hch;obtain⟨S1,hS1⟩:∃S1:MS,S1 = {aK {S with ch:=S.ch.take k} c with first:=c.goal,f:=4000}:=⟨_,rfl⟩
 obtain⟨P1,hP1⟩:∃P1:PS,P1 = {P with ch:=P.ch.take k,σ:=d.σ,L:=d.L,f:=4000}:=⟨_,rfl⟩
 have e1:S1.H=(aK S c).H:=by rw[hS1];rfl
 have e2:S1.T=(aK S c).T:=by rw[hS1];rfl
 have e3:S1.G=(aK S c).G:=by rw[hS1];rfl
 have e4:S1.Q=S.Q:=by rw[hS1];rfl
 have e5:S1.ch=S.ch.take k:=by rw[hS1];rfl
 have hl:=aG9 S c;have hcall:fM p S1 P1 c.goal d.gs (look d.σ (iM d.gs)):=by
  refine⟨⟨D,Sc,?_⟩,?_,by rw[hS1],⟨by rw[hS1,hP1],by rw[hS1];exact nR _⟩,d1,⟨by rw[hP1],d2⟩,⟨by rw[hS1];exact hf.1,by rw[hP1];exact hf.2⟩,⟨by rw[hS1,hP1];exact hs.1,by rw[hS1,hP1];exact hs.2⟩⟩
  ·rw[hP1];exact hsit.congr e1 e2 e3 e4
  ·rw[e5,hP1];exact hch2.congr e1 e2 e3 e4
 have hroom1:S1.H.length+833≤400000∧S1.G.length+6≤5000:=by rw[e1,e3];omega
 obtain⟨D',Sc',g,r,hG⟩:=hcall.goal;have ht:look d.σ (iM d.gs)=look P1.σ g.1:=by rw[hP1,hG.gs];rfl
 have hk2:=((hG.cell ht).2 d2).1;have hnum:=hG.num;have htr1:S1.T.length≤100000000:=by rw[e2];omega
 have hchl:S1.ch.length=k:=by rw[e5,List.length_take];omega
 refine⟨c,S1,hc1,w,hS1,⟨P1,_,_,hcall⟩,hk2,⟨hnum.2.1,hnum.2.2.1,hnum.2.2.2⟩,hG.sit.hang.heap,by rw[c1];omega,hroom1,htr1,by omega,vI hc1 hS1 hk2,fun hno=>?_⟩;have hout:=qO hp _ d.cl S1 P1 rfl hcall hroom1;rw[←c1] at hout;obtain⟨h1,h2,h3⟩:=hout;obtain⟨q1,q2,q3,q4,q5,q6,q7,q8⟩:=h3 hno;exact⟨⟨_,⟨q1.ch,q1.fin,q1.same,q1.weak,by rw[q2,q4];exact hroom1,by rw[q3];exact htr1,by rw[q5];omega⟩⟩,by rw[q5];exact hchl⟩
end Go.Proofs.Ytikmgiapjigghab
