/- Plain: a search begins; what a program and a query that are right are. -/
import Derived.Test.YtikmgiapjigghabQc04
import Derived.Test.YtikmgiapjigghabQc10
import Derived.Test.YtikmgiapjigghabQc18
import Derived.Test.YtikmgiapjigghabQc19
set_option maxRecDepth 100000
set_option maxHeartbeats 8000000
namespace Go.Proofs.Ytikmgiapjigghab
open Go.RowKit
theorem mA{P:List Cl}(h:aY P=0):P.length≤30∧∀c,c∈P→c.head.checkE=0∧dI c.body=0:=by
 unfold aY at h;by_cases h6:30<P.length
 ·rw[if_pos h6] at h;cases h
 ·rw[if_neg h6] at h
  refine⟨by omega,fun c hc=>?_⟩;obtain⟨k,hk,rfl⟩:=List.getElem_of_mem hc;have h1:=sY h k (by simpa using hk);rw[List.getElem_map] at h1;rcases lG P[k] with ⟨a,b⟩|⟨a,b,c⟩|⟨a,b,c,d⟩|⟨a,b,c,d⟩
  ·exact absurd (b.symm.trans h1) a
  ·rw[c] at h1;cases h1
  ·rw[d] at h1;cases h1
  ·exact⟨a,d.symm.trans h1⟩
theorem jB{q:List Tm}(h:dI q=0){t:Tm}(ht:t∈q):t.checkE=0:=by
 obtain⟨k,hk,rfl⟩:=List.getElem_of_mem ht;exact(mB h).2 k hk
theorem bN6{P:List Cl}(h:aY P=0):POk P:=fun c hc=>by
 obtain⟨h1,h2⟩:=(mA h).2 c hc;exact⟨kK h1,fun b hb=>kK (jB h2 hb)⟩
theorem aU5{n:Int}(hn:0≤n)(l:List Tm)(h:∀t,t∈l→∀p,p∈t.parts→p.var≤n):Tm.greats l≤n:=by
 have key:∀(r:List Tm) (m:Int),m≤n→(∀p,p∈r→p.var≤n)→yY m r≤n:=by
  intro r
  induction r with
  | nil=>intro m hm _;exact hm
  | cons a r ih=>intro m hm hr;exact ih (max m a.var) (by have:=hr a List.mem_cons_self;omega) fun p hp=>hr p (List.mem_cons_of_mem _ hp)
 have h1:=Tm.greats_eq l 0 (Int.le_refl _);have h2:=key (Tm.partss l) 0 hn fun p hp=>by
  obtain⟨x,hx,hp⟩:=jA l p hp;exact h x hx p hp
 rw[h1] at h2;omega
theorem sX{q:List Tm}(h:dI q=0):Tm.greats q≤12:=aU5 (by decide) q fun t ht p hp=>by
 have hf:=kK (jB h ht);by_cases hv:p.var=0
 ·omega
 ·have:=yS hf hp hv;omega
def eM(q:List Tm):PS:={σ:=fun _=>none,L:=[],f:=4000,vars:=12,ch:=[],now:=q.map fun t=>(t,0),ans:=[],fin:=0,steps:=0}
theorem aU6(p:List Cl){q:List Tm}(h:dI q=0):aA6 p (eM q):=by
 refine⟨fun _=>⟨⟨gF.none,(fun v u e=>by cases e),⟨List.nodup_nil,(fun x hx=>by cases hx)⟩,fun g hg=>?_,(fun c hc=>by cases hc),List.Pairwise.nil,Nat.zero_le _,nR _⟩,by simp[eM]⟩,Nat.zero_le _,by simp[eM,lZ],Nat.zero_le _⟩;obtain⟨t,ht,rfl⟩:=List.mem_map.1 hg;exact kK (jB h ht)

section
variable {w w':World} {br bs bm:Nat} {tv cv av:Value} {np pa:Option Addr} {pc:Nat} {p:List Cl} {query:Nat} {S S':PS} {wk:Nat}
end
section
variable {w w':World} {br bs bm:Nat} {tv cv av:Value} {np pa:Option Addr} {pc:Nat} {p:List Cl} {query:Nat} {S S':PS} {wk:Nat}
end
theorem bD6{m:Nat}:∀{ch:List PCh},(∀c,c∈ch→c.cl<m)→ch.length≤lZ m ch:=by
 intro ch
 induction ch with
 | nil=>intro _;exact Nat.zero_le _
 | cons c r ih =>
  intro h;have h1:=h c List.mem_cons_self;have h2:=ih fun c hc=>h c (List.mem_cons_of_mem _ hc)
  simp only[lZ,List.map_cons,List.sum_cons,List.length_cons] at h2 ⊢;omega
def tmB:Tm:=.mk 0 ⟨#[98]⟩ []
def tP(x:Tm):Tm:=.mk 0 ⟨#[112]⟩ [x]
def tEq(x y:Tm):Tm:=.mk 0 ⟨#[101,113]⟩ [x,y]
def bI:List Cl:=[⟨tP tmA,[]⟩,⟨tP (aQ 1),[tEq (aQ 1) tmB]⟩]
def jQ:List Tm:=[tP (aQ 1)]
theorem lQ:aY bI=0:=by decide +kernel
theorem bD3:dI jQ=0:=by decide +kernel
theorem yN:(Tm.greats jQ).toNat=1:=by decide +kernel
def mI:Sub:=fun _=>none
def bD4:Sub:=upd mI 1 tmA
def bD5:Sub:=upd mI 25 (aQ 1)
theorem aU0{σ:Sub}{v:Int}{t:Tm}(h:t.var=0)(ha:t.args = [])(f:Nat):within σ v (f+1) [t]=.no f:=by
 simp only[within];rw[jD h];rw[h,ha];simp[within]
theorem vP{σ:Sub}{L:List Int}{f:Nat}{x y:Tm}:meet σ L (f+1) [(tP x,tP y)]=meet σ L f [(x,y)]:=by
 have h:aW σ L f (look σ (tP x)) (look σ (tP y))=.go σ L f [(x,y)]:=by
  rw[jD (t:=tP x) rfl,jD (t:=tP y) rfl,oH rfl rfl (by intro h;rcases h with h|h;exact h rfl;exact h rfl)];rfl
 rw[kC [] h];rfl
theorem bN2:meet mI [] 4000 [(tP tmA,tP (aQ 1))]=.ok bD4 [1] 3997:=by
 rw[show (4000:Nat)=3999+1 from rfl,vP,show (3999:Nat)=3998+1 from rfl];have h:aW mI [] 3998 (look mI tmA) (look mI (aQ 1))=.go bD4 [1] 3997 []:=by
  rw[jD (t:=tmA) rfl,iB (t:=aQ 1) rfl,uS rfl (by decide)];unfold cB;rw[show (aQ 1).var=1 from rfl,show (3998:Nat)=3997+1 from rfl,aU0 (t:=tmA) rfl rfl];rfl
 rw[kC [] h];exact jM _ _ _
theorem bN3:meet mI [] 4000 [(tP (aQ 25),tP (aQ 1))]=.ok bD5 [25] 3997:=by
 rw[show (4000:Nat)=3999+1 from rfl,vP,show (3999:Nat)=3998+1 from rfl];have h:aW mI [] 3998 (look mI (aQ 25)) (look mI (aQ 1))=.go bD5 [25] 3997 []:=by
  rw[iB (t:=aQ 25) rfl,iB (t:=aQ 1) rfl,uR (by decide) (by decide)];unfold cB;rw[show (aQ 25).var=25 from rfl,show (3998:Nat)=3997+1 from rfl,aL0 (v:=25) (t:=aQ 1) (by decide) rfl (by decide) 3997];rfl
 rw[kC [] h];exact jM _ _ _
theorem bH6{σ:Sub}{t:Tm}(h:look σ (aQ 1)=t)(hv:t.var=0)(ha:t.args = []):gG σ 200 [aQ 1]=some ([.mk 0 t.name []],199):=by
 rw[show (200:Nat)=199+1 from rfl,aA8 (by rw[h];exact hv),h,ha,nD];simp only[Option.bind_some,nD];rfl
theorem bH7:look bD4 (aQ 1)=tmA:=tI (n:=1) ⟨by decide,tmA,rfl,rfl,.inl rfl⟩
def gsA:List eD:=[(tP (aQ 1),0)]
def iR:PS:={σ:=bD4,L:=[1],f:=3997,vars:=24,ch:=[⟨gsA,1,mI,[]⟩],now:=[],ans:=[],fin:=0,steps:=1}
def vR:PS:={σ:=bD5,L:=[25],f:=3997,vars:=36,ch:=[],now:=[(tEq (aQ 25) tmB,0)],ans:=[[tmA]],fin:=0,steps:=1}
theorem bP8:gI bI 1 10 (eM jQ)=iR:=by
 unfold gI;rw[if_neg (by intro h;cases h),if_neg (show ¬((eM jQ).steps:Int)=10 by decide)];simp only[lD];have hl:look (eM jQ).σ (iM (eM jQ).now)=tP (aQ 1):=jD (t:=tP (aQ 1)) rfl;rw[hl,if_neg (show ¬(tP (aQ 1)).var≠0 from fun h=>h rfl),if_pos (by decide +kernel)];have h0:(0:Nat)<bI.length:=by decide
 have hf:fG bI[0] (tP (aQ 1)):=⟨rfl,rfl⟩
 have hn:bE bI (tP (aQ 1)) 1=1:=iY (p:=bI) (i:=1) (by decide) ⟨rfl,rfl⟩;have hc:cO bI (eM jQ).now (tP (aQ 1)) bI[0] 0 {eM jQ with steps:=(eM jQ).steps+1,f:=4000}=(iR,some true):=by
  unfold cO;have hm:meet (eM jQ).σ (eM jQ).L 4000 [(far ((eM jQ).vars:Int) (bI[0]).head,tP (aQ 1))]=.ok bD4 [1] 3997:=bN2;simp only[hm,hn];rfl
 rw[gY h0 hf hc];rfl
theorem bP9:gI bI 1 10 iR=vR:=by
 unfold gI;rw[if_pos (show iR.now = [] from rfl)];simp only[gA];have ht:gG iR.σ 200 (dB 1)=some ([tmA],199):=bH6 bH7 rfl rfl;rw[ht];have hr:(Tm.rens cN [] [tmA]).1 = [tmA]:=rfl;simp only[hr];rw[if_neg (by decide)];show fZ bI 1 {iR with ans:=[[tmA]]}=vR;simp only[fZ];have e:({iR with ans:=[[tmA]]}:PS).ch[0]? = some ⟨gsA,1,mI,[]⟩:=rfl;rw[e];simp only;have hl:look mI (iM gsA)=tP (aQ 1):=jD (t:=tP (aQ 1)) rfl;rw[hl];have hn:bE bI (tP (aQ 1)) 2=2:=gX (p:=bI) (by decide);have hc:cO bI gsA (tP (aQ 1)) bI[1] 1 {iR with ans:=[[tmA]],ch:=[],σ:=mI,L:=[],f:=4000}=(vR,some true):=by
  unfold cO;have hm:meet mI [] 4000 [(far ((24:Nat):Int) (bI[1]).head,tP (aQ 1))]=.ok bD5 [25] 3997:=bN3;have hm':meet mI [] 4000 [(far (iR.vars:Int) (bI[1]).head,tP (aQ 1))]=.ok bD5 [25] 3997:=hm;simp only[hm',hn];rfl
 have hp:=gY (p:=bI) (gs:=gsA) (t:=tP (aQ 1)) (i:=1) (S:={iR with ans:=[[tmA]],ch:=[],σ:=mI,L:=[],f:=4000}) (by decide) ⟨rfl,rfl⟩ hc;have hp':dY bI gsA (tP (aQ 1)) 1 {σ:=mI,L:=[],f:=4000,vars:=iR.vars,ch:=List.take 0 iR.ch,now:=iR.now,ans:=[[tmA]],fin:=iR.fin,steps:=iR.steps}=(vR,true):=hp;rw[hp'];rfl
theorem bI0{w:World}{ok:Nat→Prop}(c d:Cl){a1 a2 a3 a4:Option Addr}{c1 c2 c3 c4:Nat}(h1:Ts w ok c.head.args a1 c1)(h2:Ts w ok c.body a2 c2)(h3:Ts w ok d.head.args a3 c3)(h4:Ts w ok d.body a4 c4)(hf:c.head.fits)(hg:d.head.fits)(hok:ok w.heap.size) :
 Pr (w.alloc (.cells #[.int .i64 c.head.var,.string c.head.name,.slice a1 c.head.args.length c1,.slice a2 c.body.length c2,.int .i64 d.head.var,.string d.head.name,.slice a3 d.head.args.length c3,.slice a4 d.body.length c4] 106)) ok [c,d] (some ⟨w.heap.size,0,none⟩) 2:=by
 have hk:aD ok w (w.alloc (.cells #[.int .i64 c.head.var,.string c.head.name,.slice a1 c.head.args.length c1,.slice a2 c.body.length c2,.int .i64 d.head.var,.string d.head.name,.slice a3 d.head.args.length c3,.slice a4 d.body.length c4] 106)):=aD.below ((bR _ _).alloc (nR _) _) ok;refine⟨⟨nR _,by unfold maxLen;omega,fun h=>by cases h⟩,fun i hi=>?_⟩;rcases (by simp at hi;omega:i=0∨i=1) with rfl|rfl
 ·refine⟨w.heap.size,0,a1,a2,c1,c2,rfl,hok,by simp,jR.mk ?_ ?_ ?_ hf,?_,h1.keep hk,h2.keep hk⟩
  all_goals simp[World.cell?,World.alloc,-World.alloc_eq]
 ·refine⟨w.heap.size,0,a3,a4,c3,c4,rfl,hok,by simp,jR.mk ?_ ?_ ?_ hg,?_,h3.keep hk,h4.keep hk⟩
  all_goals simp[World.cell?,World.alloc,-World.alloc_eq]
def bI1(w:World)(e:Ending)(w':World):Prop:=∃a,e=.returned (.slice (some a) 2 2)∧Pr w' (fun b=>b<w'.heap.size) bI (some a) 2∧Below w.heap.size w w'
theorem tH(w:World):Calls Try.prog 32 #[] w (bI1 w):=by
 go_enter Try.func32,Try.ntmps32;go_wp2_with fail;refine(fnW _ _ _ _ _).mono ?_;rintro e w1 ⟨rfl,hb1⟩;go_wp2_with fail;refine(fnW _ _ _ _ _).mono ?_;rintro e w2 ⟨rfl,hb2⟩;have T1:=(vZ (w:=w1) (ok:=fun _=>True) tmA (Ts.empty _ _) (iO _ _ _ (by decide) (by decide) (by decide)) trivial).keep (aD.below hb2 _);have T1H:=lh T1;have B2:=lh ((hb1.alloc hb1.size (.cells #[.int .i64 0,.string ⟨#[97]⟩,.slice none 0 0] 71)).trans (hb2.mono (by have:=hb1.size;simp;omega)));clear hb1 hb2 T1;go_wp2_with fail;refine(vaW _ _).mono ?_;rintro e w3 ⟨rfl,hb3⟩;go_wp2_with fail;refine(fnW _ _ _ _ _).mono ?_;rintro e w4 ⟨rfl,hb4⟩;have T2:=(vZ (w:=w3) (ok:=fun _=>True) (aQ 1) (Ts.empty _ _) (iO _ _ _ (by decide) (by decide) (by decide)) trivial).keep (aD.below hb4 _);have T2H:=lh T2;have K34:=((hb3.alloc hb3.size (.cells #[.int .i64 1,.string ⟨#[]⟩,.slice none 0 0] 71)).trans (hb4.mono (by have:=hb3.size;simp;omega)))
 have T1H4:=lh (T1H.out.keep (aD.below K34 _));have B4:=lh (B2.out.trans (K34.mono B2.out.size));clear hb3 hb4 T2 K34 B2 T1H;go_wp2_with fail;refine(vaW _ _).mono ?_;rintro e w5 ⟨rfl,hb5⟩;go_wp2_with fail;refine(fnW _ _ _ _ _).mono ?_;rintro e w6 ⟨rfl,hb6⟩;have K46:=hb5.trans (hb6.mono hb5.size);have T1H6:=lh (T1H4.out.keep (aD.below K46 _));have T2H6:=lh (T2H.out.keep (aD.below K46 _));have B6:=lh (B4.out.trans (K46.mono B4.out.size));clear hb5 hb6 K46 T1H4 T2H B4;go_wp2_with fail;refine(fnW _ _ _ _ _).mono ?_;rintro e w7 ⟨rfl,hb7⟩;have T3:=(bI3 (w:=w6) (ok:=fun _=>True) (aQ 1) tmB (Ts.empty _ _) (Ts.empty _ _) (iO _ _ _ (by decide) (by decide) (by decide)) (iO _ _ _ (by decide) (by decide) (by decide)) trivial).keep (aD.below hb7 _);have K67:=((Below.refl w6.heap.size w6).alloc (nR _) (.cells #[.int .i64 1,.string ⟨#[]⟩,.slice none 0 0,.int .i64 0,.string ⟨#[98]⟩,.slice none 0 0] 71)).trans (hb7.mono (by simp));have T1H7:=T1H6.out.keep (aD.below K67 _);have T2H7:=T2H6.out.keep (aD.below K67 _);have B7:=lh (B6.out.trans (K67.mono B6.out.size));have T4:=vZ (w:=w7) (tEq (aQ 1) tmB) T3 (iO _ _ _ (by decide) (by decide) (by decide)) trivial;have K78:=(Below.refl w7.heap.size w7).alloc (nR _) (.cells #[.int .i64 0,.string ⟨#[101,113]⟩,.slice (some ⟨w6.heap.size,0,none⟩) 2 2] 71);have TP:=bI0 (⟨tP tmA,[]⟩:Cl) (⟨tP (aQ 1),[tEq (aQ 1) tmB]⟩:Cl) (T1H7.keep (aD.below K78 _)) (Ts.empty _ _) (T2H7.keep (aD.below K78 _)) T4 (iO _ _ _ (by decide) (by decide) (by decide)) (iO _ _ _ (by decide) (by decide) (by decide)) trivial;have hsz:(w7.alloc (.cells #[.int .i64 0,.string ⟨#[101,113]⟩,.slice (some ⟨w6.heap.size,0,none⟩) 2 2] 71)).heap.size=w7.heap.size+1:=by simp
 have TPH:=lh TP;have BE:=lh ((B7.out.trans (K78.mono B7.out.size)).alloc (by have:=B7.out.size;rw[hsz];omega) (.cells #[.int .i64 0,.string ⟨#[112]⟩,.slice (some ⟨w1.heap.size,0,none⟩) 1 1,.slice none 0 0,.int .i64 0,.string ⟨#[112]⟩,.slice (some ⟨w3.heap.size,0,none⟩) 1 1,.slice (some ⟨w7.heap.size,0,none⟩) 1 1] 106));have HS:=lh hsz;clear hb7 K67 K78 T1H7 T2H7 T3 T4 TP B7 hsz;go_wp2_with fail;go_ret;rw[HS.out] at TPH;exact⟨_,rfl,TPH.out.mono fun b hb _=>hb,BE.out⟩
noncomputable def aI1(l l2:List (List Tm)):Bool:=@decide (l=l2) (Classical.propDecidable _)
theorem yM{l l2:List (List Tm)}(h:l=l2):aI1 l l2=true:=by unfold aI1;exact @decide_eq_true _ (Classical.propDecidable _) h
theorem vO{l l2:List (List Tm)}(h:l≠l2):aI1 l l2=false:=by unfold aI1;exact @decide_eq_false _ (Classical.propDecidable _) h
theorem lF.at{w:World}{ok:Nat→Prop}{l:List (List Tm)}{a:Option Addr}{cap:Nat}(h:lF w ok l a cap)(i:Nat)(hi:i<l.length) :
 ∃(b off:Nat) (a1:Option Addr) (c1:Nat),a=some ⟨b,off,none⟩∧ok b∧b<w.heap.size∧w.cell? ⟨b,off+i,none⟩=some (.slice a1 l[i].length c1)∧Ts w ok l[i] a1 c1:=h.elem i hi
theorem aA5(l l2:List (List Tm))(w:World)(ok:Nat→Prop)(a1 a2:Option Addr)(c1 c2:Nat)(h1:lF w ok l a1 c1)(h2:lF w ok l2 a2 c2) :
 Calls Try.prog 11 #[.slice a1 l.length c1,.slice a2 l2.length c2] w fun e w'=>e=.returned (.bool (aI1 l l2))∧Below w.heap.size w w':=by
 have H1:=lh h1;have H2:=lh h2;have hc1:l.length≤9223372036854775807:=by have:=h1.room;unfold maxLen at this;omega
 have hc2:l2.length≤9223372036854775807:=by have:=h2.room;unfold maxLen at this;omega
 clear h1 h2;by_cases hl:l.length=l2.length
 ·have hl':((l.length:Int) != (l2.length:Int))=false:=by rw[hl];simp
  have HL:=lh hl;clear hl;go_enter Try.func11,Try.ntmps11;go_wp2_with fail
  go_loopw[5] (fun i wr=>∃k:Nat,k≤l.length∧i=.int .i64 k∧Hid (l.take k=l2.take k)∧Below w.heap.size w wr) (fun i _=>l.length-(intOf i).toNat)
  case atStart=>exact⟨0,Nat.zero_le _,rfl,lh (by simp),Below.refl _ _⟩
  case round =>
   obtain⟨k,hk,rfl,HE,hbr⟩:=hrel;by_cases hlt:k<l.length
   ·have hlt2:k<l2.length:=by rw[←HL.out];exact hlt
    obtain⟨g1,o1,d1,e1,rfl,hok1,hs1,hq1,ht1⟩:=H1.out.at k hlt;obtain⟨g2,o2,d2,e2,rfl,hok2,hs2,hq2,ht2⟩:=H2.out.at k hlt2;have m0:=(hbr.cell (p:=⟨g1,o1+k,none⟩) hs1).trans hq1;have n0:=(hbr.cell (p:=⟨g2,o2+k,none⟩) hs2).trans hq2;have HC:=lh (aJ2 l[k] l2[k] wr.drew ok d1 d2 e1 e2 (ht1.keep (aD.below hbr.drew ok)) (ht2.keep (aD.below hbr.drew ok)));clear hq1 hq2 ht1 ht2;by_cases heq:l[k]=l2[k]
    ·have ht:=xA heq
     have HE':Hid (l.take (k+1)=l2.take (k+1)):=lh (by rw[List.take_succ_eq_append_getElem hlt,List.take_succ_eq_append_getElem hlt2,HE.out,heq]);clear heq;go_wp2_with fail
     go_region_with (go_at_call 35;refine HC.out.mono ?_;rintro e w1 ⟨rfl,hb⟩)
     all_goals
      go_wp2_with fail;go_roundw
      case rel=>exact⟨k+1,by omega,by go_num,HE'.out,hbr.drew.trans (hb.mono hbr.size)⟩
      case measure=>simp[intOf];omega
    ·have ht:=oV heq
     have HR:Hid (aI1 l l2=false):=lh (vO (fun e=>heq (by simp[e])));clear heq;go_wp2_with fail
     go_region_with (go_at_call 35;refine HC.out.mono ?_;rintro e w1 ⟨rfl,hb⟩)
     all_goals
      go_wp2_with fail;go_ret;exact⟨eY (by rw[HR.out]),hbr.drew.trans (hb.mono hbr.size)⟩
   ·have HR:Hid (aI1 l l2=true):=lh (yM (by
     have:=HE.out
     rwa [List.take_of_length_le (by omega),List.take_of_length_le (by rw[←HL.out];omega)] at this))
    go_wp2_with fail;go_ret;exact⟨eY (by rw[HR.out]),hbr⟩
 ·have hl':((l.length:Int) != (l2.length:Int))=true:=by rw[bne_iff_ne];omega
  have HR:Hid (aI1 l l2=false):=lh (vO (fun e=>hl (by rw[e])));clear hl;go_enter Try.func11,Try.ntmps11;go_wp2_with fail;go_ret;exact⟨eY (by rw[HR.out]),Below.refl _ _⟩
end Go.Proofs.Ytikmgiapjigghab
