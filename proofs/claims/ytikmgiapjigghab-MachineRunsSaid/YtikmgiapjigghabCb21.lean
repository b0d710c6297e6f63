/- Walk: Solve. -/
import Derived.Test.YtikmgiapjigghabCb15
import Derived.Test.YtikmgiapjigghabCb16
import Derived.Test.YtikmgiapjigghabCb18
import Derived.Test.YtikmgiapjigghabCb20
namespace Go.Proofs.Ytikmgiapjigghab
open Go.RowKit
def solveE(p:List Cl)(q:List Tm)(steps:Int):Nat :=
 if programE p≠0 then programE p else if queryE q≠0 then queryE q else if steps<0∨400<steps then 3 else 0
noncomputable def solveR(p:List Cl)(q:List Tm)(steps:Int):List (List Tm)×Nat×Nat :=
 if solveE p q steps=0 then ((solveP p q steps.toNat).ans,(solveP p q steps.toNat).fin,(solveP p q steps.toNat).steps) else ([],0,0)
theorem ts_avoid{w:World}{ok:Nat→Prop}{b6:Nat}(hb:∀ o s,w.cell? ⟨b6,o,none⟩≠some (Value.string s)){l:List Tm}{a:Option Addr}{c:Nat}(h:Ts w ok l a c):Ts w (fun b=>ok b∧b≠b6) l a c:=by
 induction h with
 | mk l a cap hcap x hc hr ih =>
  exact .mk l a cap hcap x (fun i hi=>by
   obtain⟨b,off,h1,h2,h3,h4⟩:=hc i hi
   exact⟨b,off,h1,⟨h2,fun e=>hb _ _ (e ▸ h4.name)⟩,h3,h4⟩) ih
def SvPost(w:World)(r:List (List Tm)×Nat×Nat)(n:Nat)(e:Ending)(w':World):Prop :=
 Below w.heap.size w w'∧∃ a c,e=.returned (.tuple #[.agg #[.slice a r.1.length c,.int .i64 r.2.1,.int .i64 r.2.2],.int .i64 n])∧AsAt w' (fun b=>b<w'.heap.size) r.1 a c
theorem solveR_err{p:List Cl}{q:List Tm}{steps:Int}(h:solveE p q steps≠0):solveR p q steps=([],0,0):=by unfold solveR;rw[if_neg h]
theorem AsAt.none(w:World)(ok:Nat→Prop):AsAt w ok [] .none 0:=⟨⟨Nat.le_refl _,Nat.zero_le _,fun _=>rfl⟩,fun i hi=>by cases hi⟩
theorem SAt.made{w w4:World}{ok:Nat→Prop}(hok:∀ b,ok b→b<w.heap.size){bs bm:Nat}(hbs:w.heap.size≤bs)(hbm:w.heap.size≤bm)(hB:Below w.heap.size w w4)(hst:StAt w4 ok bs bm (.slice none 0 0) (fun _=>none) [] 0){p:List Cl}{pa:Option Addr}{pc:Nat}(hp:Pr w ok p pa pc)(query:Nat)(q:List Tm) :
 SAt (w4.alloc (.cells #[.slice pa p.length pc,.pointer (some ⟨bs,0,none⟩),.int .i64 12,.int .i64 query,.slice none 0 0,.pointer none,.slice none 0 0,.int .i64 0,.int .i64 0] 95)) w4.heap.size bs bm (.slice none 0 0) (.slice none 0 0) (.slice none 0 0) none pa pc p query { startP q with now:=[] } 0:=by
 have hBA:Below w4.heap.size w4 (w4.alloc (.cells #[.slice pa p.length pc,.pointer (some ⟨bs,0,none⟩),.int .i64 12,.int .i64 query,.slice none 0 0,.pointer none,.slice none 0 0,.int .i64 0,.int .i64 0] 95)):=(Below.refl _ _).alloc (Nat.le_refl _) _
 have hn:∀ b,(Value.slice none 0 0).ownBlock≠some b:=fun b e=>by simp[Value.ownBlock] at e
 have hlt:bs<w4.heap.size∧bm<w4.heap.size:=⟨hst.lt,hst.blocks.1⟩
 have hk:∀ b,b<(w4.alloc (.cells #[.slice pa p.length pc,.pointer (some ⟨bs,0,none⟩),.int .i64 12,.int .i64 query,.slice none 0 0,.pointer none,.slice none 0 0,.int .i64 0,.int .i64 0] 95)).heap.size→ok b→OkS (w4.alloc (.cells #[.slice pa p.length pc,.pointer (some ⟨bs,0,none⟩),.int .i64 12,.int .i64 query,.slice none 0 0,.pointer none,.slice none 0 0,.int .i64 0,.int .i64 0] 95)) w4.heap.size bs bm (.slice none 0 0) (.slice none 0 0) (.slice none 0 0) b:=fun b h1 h2=>⟨h1,fun e=>by
  have:=hok b h2
  have:=hB.size
  rcases e with e | (e | e | e) | e | e
  ·omega
  ·omega
  ·omega
  ·exact hn _ e
  ·exact hn _ e
  ·exact hn _ e⟩
 refine⟨heap_alloc_new _ _,(hst.keep hBA).okmono hk fun b=>OkS.st,((hp.keep (Keeps.below hB _)).keep (Keeps.below hBA _)).mono hk,.nil,⟨[],rfl,World.ownsRow_nil _ _ _ _,fun q hq=>by cases hq⟩,⟨[],rfl,World.ownsRow_nil _ _ _ _,fun q hq=>by cases hq⟩,?_⟩
 exact⟨by omega,by omega,hn _,hn _,hn _,⟨hn _,hn _,fun g e=>absurd e (hn _)⟩,⟨hn _,hn _,fun g e=>absurd e (hn _)⟩,fun g e=>absurd e (hn _)⟩
def Box3R(w:World)(b:Nat):Prop:=w.heap[b]? = some (.cells #[.slice none 0 0,.int .i64 0,.int .i64 0] 50 (0,0))
theorem Box3R.below{w u:World}{b:Nat}(h:Box3R w b)(hb:Below w.heap.size w u):Box3R u b:=(hb.block b (Array.getElem?_eq_some_iff.1 h).1).trans h
theorem Box3R.all{w:World}{b:Nat}(h:Box3R w b):w.cell? ⟨b,0,none⟩=some (.slice none 0 0)∧w.cell? ⟨b,1,none⟩=some (.int .i64 0)∧w.cell? ⟨b,2,none⟩=some (.int .i64 0)∧∀ o,w.frozen? ⟨b,o,none⟩=false:=by
 unfold Box3R at h
 exact⟨by simp[World.cell?,h],by simp[World.cell?,h],by simp[World.cell?,h],fun o=>by simp[World.frozen?,h]⟩
set_option maxRecDepth 100000 in
set_option maxHeartbeats 4000000 in
theorem SolveErrW(p:List Cl)(q:List Tm)(steps:Int)(hst:I64 steps){w:World}{ok:Nat→Prop}{pa qa:Option Addr}{pc qc:Nat}(hp:Pr w ok p pa pc)(hq:Ts w ok q qa qc)(hz:solveE p q steps≠0) :
 Calls Try.prog 19 #[.slice pa p.length pc,.slice qa q.length qc,.int .i64 steps] w (SvPost w (solveR p q steps) (solveE p q steps)):=by
 have hpl:p.length≤9223372036854775807:=by have:=hp.room;unfold maxLen at this;omega
 have hql:q.length≤9223372036854775807:=by have:=hq.cap;unfold maxLen at this;omega
 have hB0:Below w.heap.size w (w.alloc (.cells #[.slice none 0 0,.int .i64 0,.int .i64 0] 50)):=(Below.refl _ _).alloc (Nat.le_refl _) _
 have HB0:=lh hB0
 have HX0:Hid (Box3R (w.alloc (.cells #[.slice none 0 0,.int .i64 0,.int .i64 0] 50)) w.heap.size):=lh (heap_alloc_new _ _)
 have HP:=lh (hp.keep (Keeps.below hB0 ok));have HQ:=lh (hq.keep (Keeps.below hB0 ok));have HST:=lh hst
 rw[solveR_err hz]
 have HZ:=lh hz
 have hi1:-9223372036854775808≤steps∧steps≤9223372036854775807:=by unfold I64 at hst;omega
 clear hp hq hst hB0 hz
 go_enter Try.func19,Try.ntmps19
 go_upto_region 1 with fail
 generalize (w.alloc (.cells #[.slice none 0 0,.int .i64 0,.int .i64 0] 50))=W0 at *
 have HC:Hid (∀ u,Below W0.heap.size W0 u→Calls Try.prog 45 #[.slice pa p.length pc] u fun e w'=>e=.returned (.int .i64 (programE p:Nat))∧Below W0.heap.size W0 w'):=lh (fun u hu=>(ClausesW p u ok pa pc (HP.out.keep (Keeps.below hu _))).mono fun e w' h=>⟨h.1,hu.trans (h.2.mono hu.size)⟩)
 have HQY:Hid (∀ u,Below W0.heap.size W0 u→Calls Try.prog 46 #[.slice qa q.length qc] u fun e w'=>e=.returned (.int .i64 (queryE q:Nat))∧Below W0.heap.size W0 w'):=lh (fun u hu=>(QueryW q u ok qa qc (HQ.out.keep (Keeps.below hu _))).mono fun e w' h=>⟨h.1,hu.trans (h.2.mono hu.size)⟩)
 have HBR:Hid (Below W0.heap.size W0 W0):=lh (Below.refl _ _)
 have HEND:Hid (∀ (n:Nat) (u:World),Below W0.heap.size W0 u→n=solveE p q steps→SvPost w ([],0,0) (solveE p q steps) (.returned (.tuple #[.agg #[.slice none 0 0,.int .i64 0,.int .i64 0],.int .i64 n])) (((u.setCell ⟨w.heap.size,0,none⟩ (.slice none 0 0)).setCell ⟨w.heap.size,1,none⟩ (.int .i64 0)).setCell ⟨w.heap.size,2,none⟩ (.int .i64 0))):=lh (fun n u hu hn=>by
  subst hn
  exact⟨below_put (HB0.out.trans (hu.mono HB0.out.size)) (Nat.le_refl _) _ _ _,none,0,rfl,AsAt.none _ _⟩)
 by_cases hp0:programE p=0
 ·by_cases hq0:queryE q=0
  ·have hs:steps<0∨400<steps:=by
    have hz:=HZ.out
    unfold solveE at hz
    rw[if_neg (fun h=>h hp0),if_neg (fun h=>h hq0)] at hz
    by_cases h:steps<0∨400<steps
    ·exact h
    ·rw[if_neg h] at hz;exact absurd rfl hz
   have hE:3=solveE p q steps:=by unfold solveE;rw[if_neg (fun h=>h hp0),if_neg (fun h=>h hq0),if_pos hs]
   have HE:=lh hE
   rw[hp0] at HC
   rw[hq0] at HQY
   clear hE hp0 hq0
   rcases hs with hs | hs
   ·go_wp2_with (first
     | (go_at_call 45;refine(HC.out _ HBR.out).mono ?_;rintro e w1 ⟨rfl,hb1⟩;have HB1:=lh hb1;clear hb1)
     | (go_at_call 46;refine(HQY.out _ HB1.out).mono ?_;rintro e w2 ⟨rfl,hb2⟩;have HB2:=lh hb2;obtain⟨x0,x1,x2,xf⟩:=(HX0.out.below hb2).all;clear hb2))
    refine bodyPost_ret (v:=.tuple #[.agg #[.slice none 0 0,.int .i64 0,.int .i64 0],.int .i64 3]) (by simp[results,Try.results19,go_sem,x0,x1,x2]) rfl ?_
    exact HEND.out 3 _ HB2.out HE.out
   ·have hs0:¬ steps<0:=by omega
    go_wp2_with (first
     | (go_at_call 45;refine(HC.out _ HBR.out).mono ?_;rintro e w1 ⟨rfl,hb1⟩;have HB1:=lh hb1;clear hb1)
     | (go_at_call 46;refine(HQY.out _ HB1.out).mono ?_;rintro e w2 ⟨rfl,hb2⟩;have HB2:=lh hb2;obtain⟨x0,x1,x2,xf⟩:=(HX0.out.below hb2).all;clear hb2))
    refine bodyPost_ret (v:=.tuple #[.agg #[.slice none 0 0,.int .i64 0,.int .i64 0],.int .i64 3]) (by simp[results,Try.results19,go_sem,x0,x1,x2]) rfl ?_
    exact HEND.out 3 _ HB2.out HE.out
  ·have hE:queryE q=solveE p q steps:=by unfold solveE;rw[if_neg (fun h=>h hp0),if_pos hq0]
   have HE:=lh hE
   rw[hp0] at HC
   obtain⟨n,hn⟩:∃ n,queryE q=n:=⟨_,rfl⟩
   rw[hn] at HQY hq0 HE
   have e1:((n:Int) == 0)=false:=by rw[beq_eq_false_iff_ne];omega
   have e2:((n:Int) != 0)=true:=by rw[bne_iff_ne];omega
   clear hE hp0 hn
   go_wp2_with (first
    | (go_at_call 45;refine(HC.out _ HBR.out).mono ?_;rintro e w1 ⟨rfl,hb1⟩;have HB1:=lh hb1;clear hb1)
    | (go_at_call 46;refine(HQY.out _ HB1.out).mono ?_;rintro e w2 ⟨rfl,hb2⟩;have HB2:=lh hb2;obtain⟨x0,x1,x2,xf⟩:=(HX0.out.below hb2).all;clear hb2))
   refine bodyPost_ret (v:=.tuple #[.agg #[.slice none 0 0,.int .i64 0,.int .i64 0],.int .i64 n]) (by simp[results,Try.results19,go_sem,x0,x1,x2]) rfl ?_
   exact HEND.out n _ HB2.out HE.out
 ·have hE:programE p=solveE p q steps:=by unfold solveE;rw[if_pos hp0]
  have HE:=lh hE
  obtain⟨n,hn⟩:∃ n,programE p=n:=⟨_,rfl⟩
  rw[hn] at HC hp0 HE
  have e1:((n:Int) == 0)=false:=by rw[beq_eq_false_iff_ne];omega
  have e2:((n:Int) != 0)=true:=by rw[bne_iff_ne];omega
  clear hE hn HQY
  go_wp2_with (go_at_call 45;refine(HC.out _ HBR.out).mono ?_;rintro e w2 ⟨rfl,hb2⟩;have HB2:=lh hb2;obtain⟨x0,x1,x2,xf⟩:=(HX0.out.below hb2).all;clear hb2)
  refine bodyPost_ret (v:=.tuple #[.agg #[.slice none 0 0,.int .i64 0,.int .i64 0],.int .i64 n]) (by simp[results,Try.results19,go_sem,x0,x1,x2]) rfl ?_
  exact HEND.out n _ HB2.out HE.out
set_option maxRecDepth 100000 in
set_option maxHeartbeats 4000000 in
theorem SolveW(p:List Cl)(q:List Tm)(steps:Int)(hst:I64 steps){w:World}{ok:Nat→Prop}(hok:∀ b,ok b→b<w.heap.size){pa qa:Option Addr}{pc qc:Nat}(hp:Pr w ok p pa pc)(hq:Ts w ok q qa qc) :
 Calls Try.prog 19 #[.slice pa p.length pc,.slice qa q.length qc,.int .i64 steps] w (SvPost w (solveR p q steps) (solveE p q steps)):=by
 have hpl:p.length≤9223372036854775807:=by have:=hp.room;unfold maxLen at this;omega
 have hql:q.length≤9223372036854775807:=by have:=hq.cap;unfold maxLen at this;omega
 have hB0:Below w.heap.size w (w.alloc (.cells #[.slice none 0 0,.int .i64 0,.int .i64 0] 50)):=(Below.refl _ _).alloc (Nat.le_refl _) _
 have HB0:=lh hB0
 have HX0:Hid ((w.alloc (.cells #[.slice none 0 0,.int .i64 0,.int .i64 0] 50)).heap[w.heap.size]? = some (.cells #[.slice none 0 0,.int .i64 0,.int .i64 0] 50 (0,0))):=lh (heap_alloc_new _ _)
 have HP:=lh (hp.keep (Keeps.below hB0 ok));have HQ:=lh (hq.keep (Keeps.below hB0 ok));have HST:=lh hst
 have HPP:=lh hp;have HQQ:=lh hq
 have HOK:Hid (∀ b,ok b→b<(w.alloc (.cells #[.slice none 0 0,.int .i64 0,.int .i64 0] 50)).heap.size):=lh (fun b hb=>Nat.lt_of_lt_of_le (hok b hb) hB0.size)
 have HSZ0:Hid ((w.alloc (.cells #[.slice none 0 0,.int .i64 0,.int .i64 0] 50)).heap.size=w.heap.size+1):=lh (by simp)
 clear hp hq hok hst hB0
 have x00:(w.alloc (.cells #[.slice none 0 0,.int .i64 0,.int .i64 0] 50)).cell? ⟨w.heap.size,0,none⟩=some (.slice none 0 0):=by have h:=HX0.out;simp only[World.cell?,h];rfl
 have x01:(w.alloc (.cells #[.slice none 0 0,.int .i64 0,.int .i64 0] 50)).cell? ⟨w.heap.size,1,none⟩=some (.int .i64 0):=by have h:=HX0.out;simp only[World.cell?,h];rfl
 have x02:(w.alloc (.cells #[.slice none 0 0,.int .i64 0,.int .i64 0] 50)).cell? ⟨w.heap.size,2,none⟩=some (.int .i64 0):=by have h:=HX0.out;simp only[World.cell?,h];rfl
 by_cases hz:solveE p q steps=0
 ·have hp0:programE p=0:=by
   unfold solveE at hz
   by_cases h:programE p=0
   ·exact h
   ·rw[if_pos h] at hz;exact absurd hz h
  have hq0:queryE q=0:=by
   unfold solveE at hz
   rw[if_neg (fun h=>h hp0)] at hz
   by_cases h:queryE q=0
   ·exact h
   ·rw[if_pos h] at hz;exact absurd hz h
  have hs0:0≤steps∧steps≤400:=by
   unfold solveE at hz
   rw[if_neg (fun h=>h hp0),if_neg (fun h=>h hq0)] at hz
   by_cases h:steps<0∨400<steps
   ·rw[if_pos h] at hz;cases hz
   ·omega
  obtain⟨most,rfl⟩:∃ m:Nat,steps=(m:Int):=⟨steps.toNat,by omega⟩
  have HP0:=lh hp0;have HQ0:=lh hq0;have HS0:Hid (most≤400):=lh (by omega)
  have HR:Hid (solveR p q most=((solveP p q most).ans,(solveP p q most).fin,(solveP p q most).steps)):=lh (by unfold solveR;rw[if_pos hz];rfl)
  have HZ:=lh hz
  have h1:=hs0.1;have h2:=hs0.2
  obtain⟨gq,hgq⟩:∃ g:Nat,(Tm.greats q).toNat=g:=⟨_,rfl⟩
  have hgi:Tm.greats q=(gq:Int):=by rw[← hgq];have:=Tm.greats_pos q;omega
  have HG12:Hid (gq≤12):=lh (by have:=query_great hq0;omega)
  have HGQ:=lh hgq
  have HGI:=lh hgi
  clear hp0 hq0 hs0 hz hgq hgi x00 x01 x02
  go_enter Try.func19,Try.ntmps19
  go_upto_region 1 with fail
  generalize (w.alloc (.cells #[.slice none 0 0,.int .i64 0,.int .i64 0] 50))=W0 at *
  have HC:Hid (∀ u,Below W0.heap.size W0 u→Calls Try.prog 45 #[.slice pa p.length pc] u fun e w'=>e=.returned (.int .i64 0)∧Below W0.heap.size W0 w'):=lh (fun u hu=>(ClausesW p u ok pa pc (HP.out.keep (Keeps.below hu _))).mono fun e w' h=>⟨by rw[h.1,HP0.out];rfl,hu.trans (h.2.mono hu.size)⟩)
  have HQY:Hid (∀ u,Below W0.heap.size W0 u→Calls Try.prog 46 #[.slice qa q.length qc] u fun e w'=>e=.returned (.int .i64 0)∧Below W0.heap.size W0 w'):=lh (fun u hu=>(QueryW q u ok qa qc (HQ.out.keep (Keeps.below hu _))).mono fun e w' h=>⟨by rw[h.1,HQ0.out];rfl,hu.trans (h.2.mono hu.size)⟩)
  have HGR:Hid (∀ u,Below W0.heap.size W0 u→Calls Try.prog 48 #[.slice qa q.length qc] u fun e w'=>e=.returned (.int .i64 (gq:Nat))∧Below u.heap.size u w'):=lh (fun u hu=>by
   have:=GreatestW q u ok qa qc (HQ.out.keep (Keeps.below hu _))
   rw[HGI.out] at this;exact this)
  have HBR:Hid (Below W0.heap.size W0 W0):=lh (Below.refl _ _)
  go_wp2_with (first
   | (go_at_call 45;refine(HC.out _ HBR.out).mono ?_;rintro e w1 ⟨rfl,hb1⟩;have HB1:=lh hb1;clear hb1)
   | (go_at_call 46;refine(HQY.out _ HB1.out).mono ?_;rintro e w2 ⟨rfl,hb2⟩;have HB2:=lh hb2;clear hb2)
   | (go_at_call 47;refine(NewW w2 ok (fun b hb=>by have:=HOK.out b hb;have:=HB2.out.size;omega)).mono ?_;rintro e w3 ⟨rfl,hst3,hb3⟩;have HS3:=lh hst3;have HB3:=lh (HB2.out.trans (hb3.mono HB2.out.size));clear hst3 hb3)
   | (go_at_call 48;refine(HGR.out _ HB3.out).mono ?_;rintro e w4 ⟨rfl,hb4⟩;have HS4:=lh (HS3.out.keep hb4);have HB4:=lh (HB3.out.trans (hb4.mono HB3.out.size));clear hb4))
  have HSV:=lh (SAt.made HOK.out (bs:=w2.heap.size+1) (bm:=w2.heap.size) (by have:=HB2.out.size;omega) HB2.out.size HB4.out HS4.out HP.out gq q)
  have HB5:Hid (Below W0.heap.size W0 (w4.alloc (.cells #[.slice pa p.length pc,.pointer (some ⟨w2.heap.size+1,0,none⟩),.int .i64 12,.int .i64 gq,.slice none 0 0,.pointer none,.slice none 0 0,.int .i64 0,.int .i64 0] 95))):=lh (HB4.out.alloc HB4.out.size _)
  have HSB:Hid (W0.heap.size≤w2.heap.size∧w2.heap.size+1<w4.heap.size):=lh ⟨HB2.out.size,HS4.out.lt⟩
  have HSM:Hid (∀ b,SM w4.heap.size (w2.heap.size+1) w2.heap.size (.slice none 0 0) (.slice none 0 0) (.slice none 0 0) b→W0.heap.size≤b):=lh (fun b e=>by
   have:=HSB.out
   rcases e with e | (e | e | e) | e | e
   ·omega
   ·omega
   ·omega
   ·simp[Value.ownBlock] at e
   ·simp[Value.ownBlock] at e
   ·simp[Value.ownBlock] at e)
  have HQ5:=lh (HQ.out.keep (Keeps.below HB5.out ok))
  have HOKS:Hid (∀ b,ok b→OkS (w4.alloc (.cells #[.slice pa p.length pc,.pointer (some ⟨w2.heap.size+1,0,none⟩),.int .i64 12,.int .i64 gq,.slice none 0 0,.pointer none,.slice none 0 0,.int .i64 0,.int .i64 0] 95)) w4.heap.size (w2.heap.size+1) w2.heap.size (.slice none 0 0) (.slice none 0 0) (.slice none 0 0) b):=lh (fun b hb=>⟨Nat.lt_of_lt_of_le (HOK.out b hb) HB5.out.size,fun e=>by have:=HSM.out b e;have:=HOK.out b hb;omega⟩)
  generalize (w4.alloc (.cells #[.slice pa p.length pc,.pointer (some ⟨w2.heap.size+1,0,none⟩),.int .i64 12,.int .i64 gq,.slice none 0 0,.pointer none,.slice none 0 0,.int .i64 0,.int .i64 0] 95))=w5 at *
  generalize w2.heap.size+1=bs at *
  generalize w2.heap.size=bm at *
  generalize w4.heap.size=br at *
  have HTQ:Hid (Ts w5 (OkS w5 br bs bm (.slice none 0 0) (.slice none 0 0) (.slice none 0 0)) q qa qc):=lh (HQ5.out.mono fun b _ hb=>HOKS.out b hb)
  have HQFIT:Hid (∀ t,t∈q→t.fits):=lh (fun t ht=>by
   obtain⟨i,hi,rfl⟩:=List.getElem_of_mem ht
   obtain⟨b,off,a',cap',_,_,_,hc,_⟩:=HQ.out.at i hi
   exact hc.fits)
  clear HQ5 HOKS
  go_loopg [10] q.length (fun m v10 wr=>∃ (npm:Option Addr),m≤q.length∧v10=.int .i64 ((m:Int)-1)∧Hid (Touch (SM br bs bm (.slice none 0 0) (.slice none 0 0) (.slice none 0 0)) w5 wr)∧Hid (SAt wr br bs bm (.slice none 0 0) (.slice none 0 0) (.slice none 0 0) npm pa pc p gq { startP q with now:=(q.drop m).map fun t=>(t,0) } 0))
  case atStart=>exact⟨none,Nat.le_refl _,rfl,lh (Touch.refl _ _),lh (by rw[List.drop_length];exact HSV.out)⟩
  case round =>
   obtain⟨npm,hm,rfl,HTM,HSMX⟩:=hrel
   obtain⟨q0,q1,q2,q3,q4,q5,q6,q7,q8,qf⟩:=HSMX.out.cells
   cases gk with
   | zero =>
    clear hm
    have HRW:=lh (RunW (pok_of HP0.out) (psize_of HP0.out) (program_zero HP0.out).1 HG12.out (HSMX.out.plain (S':=startP q) rfl rfl rfl rfl rfl rfl rfl rfl) (start_inv p HQ0.out) HS0.out (Nat.zero_le _) (n:=442) (fun _=>by simp[startP];have:=HS0.out;omega))
    have hx6:=(HTM.out.block w.heap.size (by have:=HB5.out.size;have:=HSZ0.out;omega) (fun e=>by have:=HSM.out _ e;have:=HSZ0.out;omega)).trans ((HB5.out.block w.heap.size (by have:=HSZ0.out;omega)).trans HX0.out)
    have HX6:=lh hx6
    have lb6:w.heap.size<wr.heap.size:=(Array.getElem?_eq_some_iff.1 hx6).1
    have HN6:Hid (¬ SM br bs bm (.slice none 0 0) (.slice none 0 0) (.slice none 0 0) w.heap.size):=lh (fun e=>by have:=HSM.out _ e;have:=HSZ0.out;omega)
    clear hx6
    go_wp2_with (go_at_call 49;refine HRW.out.mono ?_;rintro e wz ⟨⟨vz,rfl⟩,htz,tvz,cvz,avz,npz,wkz,hfz,hgz,haz,hsz⟩;obtain⟨A,hA,hrow,hAt⟩:=hsz.ans;obtain⟨aa,ac,hav,-,-⟩:=row_cap hrow;subst hav;have HTZ:=lh htz;have HFA:=lh haz;have HSZ:=lh hsz;have HA1:=lh hA;have HA2:=lh hrow;have HA3:=lh hAt;have hx7:=(htz.block w.heap.size lb6 HN6.out).trans HX6.out;have HX7:=lh hx7;have x0:wz.cell? ⟨w.heap.size,0,none⟩=some (.slice none 0 0):=(by simp[World.cell?,hx7]);have x1:wz.cell? ⟨w.heap.size,1,none⟩=some (.int .i64 0):=(by simp[World.cell?,hx7]);have x2:wz.cell? ⟨w.heap.size,2,none⟩=some (.int .i64 0):=(by simp[World.cell?,hx7]);have xf:∀ o,wz.frozen? ⟨w.heap.size,o,none⟩=false:=(fun o=>by simp[World.frozen?,hx7]);obtain⟨z0,z1,z2,z3,z4,z5,z6,z7,z8,zf⟩:=hsz.cells;have lbz:=hsz.lt;clear htz haz hsz hfz hgz hx7 hA hrow hAt)
    have HLZ:Hid (wr.heap.size≤wz.heap.size):=lh HTZ.out.size
    have TP:=touch_put wz w.heap.size (.slice aa A.length ac) (.int .i64 ((prun p gq most 442 (startP q)).fin:Nat)) (.int .i64 ((prun p gq most 442 (startP q)).steps:Nat))
    have hbw:Below w.heap.size w wz:=HB0.out.trans ((HB5.out.trans (((HTM.out.trans HTZ.out).toBelow HB5.out.size HSM.out).mono (Nat.le_refl _))).mono HB0.out.size)
    have hstr:∀ o s,wz.cell? ⟨w.heap.size,o,none⟩≠some (Value.string s):=fun o s e=>by
     have h:=HX7.out
     simp only[World.cell?,h] at e
     rcases o with _ | _ | _ | o
     ·cases e
     ·cases e
     ·cases e
     ·simp at e
    have hown:∀ b,(Value.slice aa A.length ac).ownBlock=some b→b<wz.heap.size∧b≠w.heap.size:=fun b hb=>by
     refine⟨(HA2.out.lt b hb).2,fun e=>?_⟩
     rcases HFA.out with h | h
     ·rw[h] at hb;simp[Value.ownBlock] at hb
     ·have:=h b hb;omega
    obtain⟨la,lc,hle,has⟩:=AsAt.of_row (ok:=fun b=>b<wz.heap.size∧b≠w.heap.size) HA2.out hown (fun x hx=>(ts_avoid hstr (HA3.out x hx)).mono fun b _ hb=>⟨hb.1.1,hb.2⟩)
    have hRA:solveR p q most=(A.map (·.2),(prun p gq most 442 (startP q)).fin,(prun p gq most 442 (startP q)).steps):=by
     rw[HR.out,HA1.out];unfold solveP;rw[HGQ.out]
    rw[hRA,HZ.out]
    have has2:=(has.keep (TP.keeps fun b hb e=>hb.2 e)).mono (ok':=fun b=>b<(((wz.setCell ⟨w.heap.size,0,none⟩ (.slice aa A.length ac)).setCell ⟨w.heap.size,1,none⟩ (.int .i64 ((prun p gq most 442 (startP q)).fin:Nat))).setCell ⟨w.heap.size,2,none⟩ (.int .i64 ((prun p gq most 442 (startP q)).steps:Nat))).heap.size) fun b h _=>h
    have hbf:=below_put hbw (Nat.le_refl _) (.slice aa A.length ac) (.int .i64 ((prun p gq most 442 (startP q)).fin:Nat)) (.int .i64 ((prun p gq most 442 (startP q)).steps:Nat))
    have lb7:w.heap.size<wz.heap.size:=by have:=HLZ.out;omega
    rw[hle]
    rw[hle] at has2 hbf
    exact bodyPost_ret (v:=.tuple #[.agg #[.slice la (A.map (·.2)).length lc,.int .i64 ((prun p gq most 442 (startP q)).fin:Nat),.int .i64 ((prun p gq most 442 (startP q)).steps:Nat)],.int .i64 0]) (by simp[results,Try.results19,go_sem,x0,x1,x2]) rfl ⟨hbf,la,lc,rfl,has2⟩
   | succ m =>
    have hmq:m<q.length:=hm
    have e:(((m+1:Nat):Int)-1)=(m:Int):=by omega
    rw[e]
    have hm1:(m:Int)<(q.length:Int):=by omega
    have HOX:=okS_step HTM.out (Fresh.self w5 (.slice none 0 0)) (Fresh.self w5 (.slice none 0 0)) (Fresh.self w5 (.slice none 0 0))
    obtain⟨b5,off5,a5,c5,ha5,hok5,hb5,hc5,ht5⟩:=((HTQ.out.keep HOX.1).mono fun b _=>HOX.2 b).at m hmq
    subst ha5
    have p0:=hc5.var;have p1:=hc5.name;have p2:=hc5.args
    obtain⟨tq,htq⟩:∃ t,q[m]=t:=⟨_,rfl⟩
    have HTM5:=lh ht5;have HFT:=lh hc5.fits
    rw[htq] at p0 p1 p2 HTM5 HFT
    have HTQM:=lh htq
    have hbne:b5≠br:=fun e=>hok5.2 (.inl e)
    have lbr:=HSMX.out.lt
    clear hc5 ht5 HOX e hok5 htq hm
    go_wp2_with fail
    go_region
    all_goals
     go_wp2_with fail
     have HST2:Hid (SAt (((wr.setCell ⟨br,5,none⟩ (.pointer (some ⟨wr.heap.size,0,none⟩))).alloc (.cells #[.int .i64 tq.var,.string tq.name,.slice a5 tq.args.length c5,.int .i64 0,.pointer npm] 97)).drew) br bs bm (.slice none 0 0) (.slice none 0 0) (.slice none 0 0) (some ⟨wr.heap.size,0,none⟩) pa pc p gq { startP q with now:=(q.drop m).map fun t=>(t,0) } 0):=lh (by
      rw[alloc_set wr lbr]
      have hBa:Below wr.heap.size wr (wr.alloc (.cells #[.int .i64 tq.var,.string tq.name,.slice a5 tq.args.length c5,.int .i64 0,.pointer npm] 97)):=(Below.refl _ _).alloc (Nat.le_refl _) _
      have h1:=HSMX.out.below hBa
      have hl:=fun b (hb:SM br bs bm (.slice none 0 0) (.slice none 0 0) (.slice none 0 0) b)=>SM_lt HSMX.out hb
      have h2:=h1.setNow (np':=some ⟨wr.heap.size,0,none⟩) (l:=(tq,0)::(q.drop (m+1)).map fun t=>(t,0)) (.cons _ _ _ a5 c5 npm _ (heap_alloc_new _ _) ⟨by simp,fun e=>by have:=hl _ e;omega⟩ HFT.out ((HTM5.out.keep (Keeps.below hBa _)).mono fun b _ hb=>⟨Nat.lt_of_lt_of_le hb.1 hBa.size,hb.2⟩) h1.now)
      rw[List.drop_eq_getElem_cons hmq,HTQM.out]
      exact h2.below ((Below.refl _ _).drew))
     have HTT2:Hid (Touch (SM br bs bm (.slice none 0 0) (.slice none 0 0) (.slice none 0 0)) w5 (((wr.setCell ⟨br,5,none⟩ (.pointer (some ⟨wr.heap.size,0,none⟩))).alloc (.cells #[.int .i64 tq.var,.string tq.name,.slice a5 tq.args.length c5,.int .i64 0,.pointer npm] 97)).drew)):=lh ((HTM.out.trans ((Touch.setCell (M:=fun b=>b=br) _ rfl).mono fun b _ e=>.inl e)).trans (Touch.below (((Below.refl _ _).alloc (Nat.le_refl _) _).drew)))
     go_roundg m
     case measure=>omega
     case rel=>exact⟨_,by omega,rfl,HTT2,HST2⟩
 ·exact SolveErrW p q steps HST.out HPP.out HQQ.out hz
theorem begun_solveE:solveE sampleL askL 10=0:=by
 unfold solveE
 rw[if_neg (fun h=>h sample_ok),if_neg (fun h=>h ask_ok),if_neg (by omega)]
theorem begun_solveR:solveR sampleL askL 10=([[tmA],[tmB]],1,2):=by
 unfold solveR
 rw[if_pos begun_solveE]
 rw[show (10:Int).toNat=10 from rfl,begun_solve]
 rfl
structure SbT(w:World)(b:Nat)(g o g2 o2:Nat)(x0 x1:Value)(y0 y1 y2:Value)(w':World):Prop where
 below:Below w.heap.size w w'
 c0:w'.cell? ⟨b,0,none⟩=some x0
 c1:w'.cell? ⟨b,1,none⟩=some (.int .i64 1)
 c2:w'.cell? ⟨b,2,none⟩=some (.int .i64 2)
 a1:w'.cell? ⟨g,o+1,none⟩=some x1
 t0:w'.cell? ⟨g2,o2,none⟩=some y0
 t1:w'.cell? ⟨g2,o2+1,none⟩=some y1
 t2:w'.cell? ⟨g2,o2+2,none⟩=some y2
 lt:b<w'.heap.size∧g<w'.heap.size∧g2<w'.heap.size
theorem SbT.next{w:World}{b g o g2 o2:Nat}{x0 x1 y0 y1 y2:Value}{w1 w2:World}(h:SbT w b g o g2 o2 x0 x1 y0 y1 y2 w1)(hb:Below w1.heap.size w1 w2):SbT w b g o g2 o2 x0 x1 y0 y1 y2 w2:=by
 obtain⟨l1,l2,l3⟩:=h.lt
 have hs:=hb.size
 exact⟨h.below.trans (hb.mono h.below.size),(hb.cell (p:=⟨b,_,none⟩) l1).trans h.c0,(hb.cell (p:=⟨b,_,none⟩) l1).trans h.c1,(hb.cell (p:=⟨b,_,none⟩) l1).trans h.c2,(hb.cell (p:=⟨g,_,none⟩) l2).trans h.a1,(hb.cell (p:=⟨g2,_,none⟩) l3).trans h.t0,(hb.cell (p:=⟨g2,_,none⟩) l3).trans h.t1,(hb.cell (p:=⟨g2,_,none⟩) l3).trans h.t2,by omega,by omega,by omega⟩
theorem SbT.all{w:World}{b g o g2 o2:Nat}{x0 x1 y0 y1 y2:Value}{w':World}(h:SbT w b g o g2 o2 x0 x1 y0 y1 y2 w') :
 w'.cell? ⟨b,0,none⟩=some x0∧w'.cell? ⟨b,1,none⟩=some (.int .i64 1)∧w'.cell? ⟨b,2,none⟩=some (.int .i64 2)∧w'.cell? ⟨g,o+1,none⟩=some x1∧w'.cell? ⟨g2,o2,none⟩=some y0∧w'.cell? ⟨g2,o2+1,none⟩=some y1∧w'.cell? ⟨g2,o2+2,none⟩=some y2∧SbT w b g o g2 o2 x0 x1 y0 y1 y2 w' :=
 ⟨h.c0,h.c1,h.c2,h.a1,h.t0,h.t1,h.t2,h⟩
theorem SbT.of{w:World}{b g o g2 o2:Nat}{x0 x1 y0 y1 y2:Value}{w':World}(h:w'.cell? ⟨b,0,none⟩=some x0∧w'.cell? ⟨b,1,none⟩=some (.int .i64 1)∧w'.cell? ⟨b,2,none⟩=some (.int .i64 2)∧w'.cell? ⟨g,o+1,none⟩=some x1∧w'.cell? ⟨g2,o2,none⟩=some y0∧w'.cell? ⟨g2,o2+1,none⟩=some y1∧w'.cell? ⟨g2,o2+2,none⟩=some y2∧SbT w b g o g2 o2 x0 x1 y0 y1 y2 w'):SbT w b g o g2 o2 x0 x1 y0 y1 y2 w':=h.2.2.2.2.2.2.2
theorem SbT.drew{w:World}{b g o g2 o2:Nat}{x0 x1 y0 y1 y2:Value}{w1:World}(h:SbT w b g o g2 o2 x0 x1 y0 y1 y2 w1):SbT w b g o g2 o2 x0 x1 y0 y1 y2 w1.drew:=h.next ((Below.refl _ _).drew)
set_option maxRecDepth 100000 in
set_option maxHeartbeats 2000000 in
theorem solveBegunW(w:World):Calls Try.prog 17 #[] w fun e w'=>e=.returned (.bool true)∧Below w.heap.size w w':=by
 go_enter Try.func17,Try.ntmps17
 go_wp2_with fail
 refine(sampleW _).mono ?_
 rintro e w1 ⟨pa,rfl,hpr,hb1⟩
 have HPR:=lh hpr;have B1:=lh hb1
 clear hpr hb1
 go_wp2_with fail
 refine(vaW _ _).mono ?_
 rintro e w2 ⟨rfl,hb2⟩
 go_wp2_with fail
 refine(fnW _ _ _ _ _).mono ?_
 rintro e w3 ⟨rfl,hb3⟩
 have T1:=(ts_lit (w:=w2) (ok:=fun _=>True) (VarT 1) (Ts.empty _ _) (fits_lit _ _ _ (by decide) (by decide) (by decide)) trivial).keep (Keeps.below hb3 _)
 have T2:=ts_lit (w:=w3) (tP (VarT 1)) T1 (fits_lit _ _ _ (by decide) (by decide) (by decide)) trivial
 have K13:=(hb2.alloc hb2.size (.cells #[.int .i64 1,.string ⟨#[]⟩,.slice none 0 0] 71)).trans (hb3.mono (by have:=hb2.size;simp;omega))
 have K14:=K13.alloc K13.size (.cells #[.int .i64 0,.string ⟨#[112]⟩,.slice (some ⟨w2.heap.size,0,none⟩) 1 1] 71)
 have B4:=lh (B1.out.trans (K14.mono B1.out.size))
 have HP4:=(HPR.out.keep (Keeps.below K14 _)).mono fun b _ hb=>Nat.lt_of_lt_of_le hb K14.size
 have HSV:=lh (SolveW sampleL askL 10 (by unfold I64;omega) (w:=(w3.alloc (.cells #[.int .i64 0,.string ⟨#[112]⟩,.slice (some ⟨w2.heap.size,0,none⟩) 1 1] 71))) (fun b hb=>hb) HP4 (T2.mono fun b hb _=>hb))
 rw[begun_solveE,begun_solveR] at HSV
 clear HPR B1 hb2 hb3 T1 T2 K13 K14 HP4
 go_wp2_with fail
 refine HSV.out.mono ?_
 rintro e w5 ⟨hb5,a,c,rfl,has⟩
 have B5:=lh (B4.out.trans (hb5.mono B4.out.size))
 obtain⟨g,o,a1,c1,ha,-,hg,hc,hts⟩:=has.elem 1 (by simp)
 subst ha
 obtain⟨g2,o2,a3,c3,ha2,-,hg2,hq,hts2⟩:=hts.at 0 (by simp)
 subst ha2
 have HT:=lh hts2
 simp only[List.getElem_cons_succ,List.getElem_cons_zero] at hc hq hts2 HT
 have T0:SbT w5 w5.heap.size g o g2 o2 (.slice (some ⟨g,o,none⟩) 2 c) (.slice (some ⟨g2,o2,none⟩) 1 c1) (.int .i64 0) (.string ⟨#[98]⟩) (.slice a3 0 c3) (w5.alloc (.cells #[.slice (some ⟨g,o,none⟩) 2 c,.int .i64 1,.int .i64 2] 50)):=by
  have hbl:=fun (b x:Nat) (h:b<w5.heap.size)=>(Below.refl w5.heap.size w5 |>.alloc (Nat.le_refl _) (.cells #[.slice (some ⟨g,o,none⟩) 2 c,.int .i64 1,.int .i64 2] 50)).cell (p:=⟨b,x,none⟩) h
  have e0:o2+0*3=o2:=by omega
  have h0:=hq.var;have h1:=hq.name;have h2:=hq.args
  rw[e0] at h0 h1 h2
  refine⟨(Below.refl _ _).alloc (Nat.le_refl _) _,?_,?_,?_,(hbl g _ hg).trans hc,(hbl g2 _ hg2).trans h0,(hbl g2 _ hg2).trans h1,(hbl g2 _ hg2).trans h2,by simp,by simp;omega,by simp;omega⟩
  all_goals simp[World.cell?,World.alloc,-World.alloc_eq]
 have C1:Hid (∀ w':World,SbT w5 w5.heap.size g o g2 o2 (.slice (some ⟨g,o,none⟩) 2 c) (.slice (some ⟨g2,o2,none⟩) 1 c1) (.int .i64 0) (.string ⟨#[98]⟩) (.slice a3 0 c3) w'→Calls Try.prog 40 #[.agg #[.int .i64 0,.string ⟨#[98]⟩,.slice a3 0 c3],.agg #[.int .i64 0,.string ⟨#[98]⟩,.slice none 0 0]] w' fun e w''=>e=.returned (.bool true)∧Below w'.heap.size w' w''):=lh fun w' h=>by
  have:=SameTermOf tmB (SameTermsW _) tmB w' (fun _=>True) a3 none c3 0 ((HT.out.mono fun _ _ _=>trivial).keep (Keeps.below h.below _)) (Ts.empty' _ _)
  rw[eqT_true rfl] at this
  exact this
 have T0H:=lh T0
 clear hb5 has hc hts hg hq hg2 hts2 HT HSV T0
 go_wp2_with fail
 have T0:=T0H.out
 clear T0H
 go_region_held3 (fun w'=>w'.cell? ⟨w5.heap.size,0,none⟩=some (.slice (some ⟨g,o,none⟩) 2 c)∧w'.cell? ⟨w5.heap.size,1,none⟩=some (.int .i64 1)∧w'.cell? ⟨w5.heap.size,2,none⟩=some (.int .i64 2)∧w'.cell? ⟨g,o+1,none⟩=some (.slice (some ⟨g2,o2,none⟩) 1 c1)∧w'.cell? ⟨g2,o2,none⟩=some (.int .i64 0)∧w'.cell? ⟨g2,o2+1,none⟩=some (.string ⟨#[98]⟩)∧w'.cell? ⟨g2,o2+2,none⟩=some (.slice a3 0 c3)∧SbT w5 w5.heap.size g o g2 o2 (.slice (some ⟨g,o,none⟩) 2 c) (.slice (some ⟨g2,o2,none⟩) 1 c1) (.int .i64 0) (.string ⟨#[98]⟩) (.slice a3 0 c3) w')
  (first | exact SbT.all (SbT.drew (by assumption)) | exact SbT.all (SbT.next (SbT.of (by assumption)) hb))
  (first
   | (go_at_call 30;refine(fnW _ _ _ _ _).mono ?_;rintro e w' ⟨rfl,hb⟩)
   | (go_at_call 40;(with_reducible refine(C1.out _ (SbT.of (by assumption))).mono ?_);rintro e w' ⟨rfl,hb⟩))
 all_goals
  have HB:=lh (SbT.of (by assumption)).below
  go_wp2_with fail
  go_ret
  exact⟨rfl,B5.out.trans (HB.out.mono B5.out.size)⟩
end Go.Proofs.Ytikmgiapjigghab
