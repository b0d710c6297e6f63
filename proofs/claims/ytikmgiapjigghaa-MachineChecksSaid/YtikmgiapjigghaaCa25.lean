/- Walk: is all there, gone back to each choice? -/
import Derived.Test.YtikmgiapjigghaaCa12
import Derived.Test.YtikmgiapjigghaaCa20
import Derived.Test.YtikmgiapjigghaaCa23
import Derived.Test.YtikmgiapjigghaaCa24
namespace Go.Proofs.Ytikmgiapjigghaa
open Go.RowKit Go.Shelf
attribute [local go_sem] Oper.semAt_some
theorem IsAt.take{w:World}{ok:Nat→Prop}{l:List Int}{a:Option Addr}{cap:Nat}(h:IsAt w ok l a cap)(k:Nat):IsAt w ok (l.take k) a cap :=
 ⟨⟨by rw[List.length_take];have:=h.cap.1;omega,h.cap.2.1,h.cap.2.2⟩,fun i hi=>by
  rw[List.length_take] at hi
  obtain⟨b,off,h1,h2,h3,h4⟩:=h.at' i (by omega)
  exact⟨b,off,h1,h2,h3,by rw[List.getElem_take];exact h4⟩⟩
theorem RwAt.takeG{w:World}{ok:Nat→Prop}{l:List Gl}{a:Option Addr}{cap:Nat}(h:RwAt w ok 3 l.length (flatG l) a cap)(k:Nat):RwAt w ok 3 (l.take k).length (flatG (l.take k)) a cap :=
 ⟨⟨by rw[List.length_take];have:=h.cap.1;omega,h.cap.2.1,h.cap.2.2⟩,flatG_length _,fun j u hu=>by
  rw[flatG_take] at hu
  have hj:j<((flatG l).take (k*3)).length:=(List.getElem?_eq_some_iff.1 hu).1
  rw[List.length_take] at hj
  rw[List.getElem?_take_of_lt (by omega)] at hu
  exact h.at' j u hu⟩
structure LasB(V0:World)(B base:Nat)(m:Mac)(d:MAd):Prop where
 lt:B<base∧base≤V0.heap.size
 fits:∀ b,bk d.h=some b→base≤b∧b<V0.heap.size
 g:RwAt V0 (fun b=>b<V0.heap.size∧b≠B∧bk d.h≠some b) 3 m.G.length (flatG m.G) d.g d.gn
 c:RwAt V0 (fun b=>b<V0.heap.size∧b≠B∧bk d.h≠some b) 5 m.ch.length (flatK m.ch) d.c d.cn
 t:IsAt V0 (fun b=>b<V0.heap.size∧b≠B∧bk d.h≠some b) m.T d.t d.tn
 q:IsAt V0 (fun b=>b<V0.heap.size∧b≠B∧bk d.h≠some b) m.Q d.q d.qn
 a:AsAt V0 (fun b=>b<V0.heap.size∧b≠B∧bk d.h≠some b) m.ans d.a d.an
theorem OwM.lasB{w1 V0:World}{B base:Nat}{okA:Nat→Prop}{m:Mac}{d:MAd}(h:OwM w1 base okA m d)(hA:∀ b,okA b→b≠B)(hB:B<base)(hb:base≤w1.heap.size)(ht:Touch (fun b=>b=B) w1 V0):LasB V0 B base m d:=by
 have hs:=ht.size
 have hn:=h.ne
 unfold Nd at hn
 simp only[List.pairwise_cons,List.mem_cons,List.not_mem_nil,or_false,forall_eq_or_imp,forall_eq] at hn
 obtain⟨⟨n1,n2,n3,n4,n5⟩,-⟩:=hn
 have hk:Keeps (fun b=>b<w1.heap.size∧b≠B∧bk d.h≠some b) w1 V0:=ht.keeps fun b hb=>hb.2.1
 have key:∀ {e:TypeId} {k n n' c:Nat} {a:Option Addr} {vs:List Value},w1.ownsRow base e k (.slice a n c) n' vs→(∀ b,bk d.h=some b→bk a≠some b)→∀ b,(Value.slice a n c).ownBlock=some b→b<w1.heap.size∧b≠B∧bk d.h≠some b:=fun hr hne b hb =>
  ⟨(hr.lt b hb).2,fun e=>by have:=(hr.lt b hb).1;omega,fun e=>hne b e ((bk_own _ _ _).symm.trans hb)⟩
 refine⟨⟨hB,by omega⟩,fun b hb=>?_,?_,?_,?_,?_,?_⟩
 ·have:=h.h.row.lt b ((bk_own _ _ _).trans hb);omega
 ·obtain⟨a,c,e,hr⟩:=RwAt.of_row (ok:=fun b=>b<w1.heap.size∧b≠B∧bk d.h≠some b) h.g (flatG_length _) (key h.g n1)
  injection e with e1 _ e2
  subst e1;subst e2
  exact(hr.keep hk).mono fun b _ hb=>⟨by omega,hb.2⟩
 ·obtain⟨a,c,e,hr⟩:=RwAt.of_row (ok:=fun b=>b<w1.heap.size∧b≠B∧bk d.h≠some b) h.c (flatK_length _) (key h.c n2)
  injection e with e1 _ e2
  subst e1;subst e2
  exact(hr.keep hk).mono fun b _ hb=>⟨by omega,hb.2⟩
 ·obtain⟨a,c,e,hr⟩:=IsAt.of_row (ok:=fun b=>b<w1.heap.size∧b≠B∧bk d.h≠some b) h.t (key h.t n3)
  injection e with e1 _ e2
  subst e1;subst e2
  exact(hr.keep hk).mono fun b _ hb=>⟨by omega,hb.2⟩
 ·obtain⟨a,c,e,hr⟩:=IsAt.of_row (ok:=fun b=>b<w1.heap.size∧b≠B∧bk d.h≠some b) h.q (key h.q n4)
  injection e with e1 _ e2
  subst e1;subst e2
  exact(hr.keep hk).mono fun b _ hb=>⟨by omega,hb.2⟩
 ·obtain⟨A,e1,e2,e3⟩:=h.a
  obtain⟨a,c,e,hr⟩:=AsAt.of_row (ok:=fun b=>b<w1.heap.size∧b≠B∧bk d.h≠some b) e2 (key e2 n5) fun x hx=>(e3 x hx).mono fun b hb h=>⟨hb,hA b h.1,fun e=>h.2 _ List.mem_cons_self e⟩
  rw[e1] at e hr
  injection e with f1 _ f2
  subst f1;subst f2
  exact(hr.keep hk).mono fun b _ hb=>⟨by omega,hb.2⟩
structure LasI(V0:World)(B base:Nat)(m:Mac)(d:MAd)(mi:Mac)(W:World):Prop where
 box:MBox W B mi d
 own:HOwn W base (.slice d.h mi.H.length d.hn) mi.H
 keep:Touch (fun b=>b=B∨bk d.h=some b∨V0.heap.size≤b) V0 W
theorem LasI.touch{V0 W W':World}{B base:Nat}{m:Mac}{d:MAd}{mi:Mac}(h:LasI V0 B base m d mi W)(hb:LasB V0 B base m d)(ht:Touch (fun b=>V0.heap.size≤b) W W'):LasI V0 B base m d mi W':=by
 have h0:=hb.lt
 refine⟨h.box.keep (ht.block B h.box.lt (by omega)),h.own.keep fun g hg=>?_,h.keep.trans (ht.mono fun b _ e=>.inr (.inr e))⟩
 have hg':=hb.fits g ((bk_own _ _ _).symm.trans hg)
 exact ht.block g (by have:=h.keep.size;omega) (by omega)
theorem LasI.mac{V0 W:World}{B base:Nat}{m:Mac}{d:MAd}{mi:Mac}(h:LasI V0 B base m d mi W)(hb:LasB V0 B base m d)(hu:UndoIs m mi):MacAt W (fun _=>True) mi d:=by
 have hk:Keeps (fun b=>b<V0.heap.size∧b≠B∧bk d.h≠some b) V0 W:=h.keep.keeps fun b hb e=>by
  rcases e with e | e | e
  ·exact hb.2.1 e
  ·exact hb.2.2 e
  ·omega
 obtain⟨kg,hg1,hg2⟩:=hu.g
 obtain⟨kt,ht1,ht2⟩:=hu.t
 refine⟨?_,?_,?_,?_,?_,?_⟩
 ·obtain⟨a,c,e,hr⟩:=HpAt.of_row (ok:=fun _=>True) h.own.row (fun _ _=>trivial) h.own.fits
  injection e with e1 _ e2
  subst e1;subst e2
  exact hr
 ·rw[hg2];exact((hb.g.keep hk).takeG kg).mono fun _ _ _=>trivial
 ·rw[hu.c];exact(hb.c.keep hk).mono fun _ _ _=>trivial
 ·rw[ht2];exact((hb.t.keep hk).take kt).mono fun _ _ _=>trivial
 ·rw[hu.q];exact(hb.q.keep hk).mono fun _ _ _=>trivial
 ·rw[hu.a];exact(hb.a.keep hk).mono fun _ _ _=>trivial
theorem LasI.uat{V0 W:World}{B base:Nat}{m:Mac}{d:MAd}{mi:Mac}(h:LasI V0 B base m d mi W)(hb:LasB V0 B base m d)(hu:UndoIs m mi):UAt W B 0 (mi.vals d).toArray 81 base mi.H mi.T mi.G.length d.h d.t d.g d.hn d.tn d.gn:=by
 have hk:Keeps (fun b=>b<V0.heap.size∧b≠B∧bk d.h≠some b) V0 W:=h.keep.keeps fun b hb e=>by
  rcases e with e | e | e
  ·exact hb.2.1 e
  ·exact hb.2.2 e
  ·omega
 obtain⟨kg,hg1,hg2⟩:=hu.g
 obtain⟨kt,ht1,ht2⟩:=hu.t
 refine⟨h.box.blk,rfl,rfl,rfl,h.own,?_,fun e=>?_,?_⟩
 ·rw[ht2];exact((hb.t.keep hk).take kt).mono fun b _ hb=>⟨hb.2.1,fun e=>hb.2.2 ((bk_own _ _ _).symm.trans e)⟩
 ·have:=hb.fits B ((bk_own _ _ _).symm.trans e);have:=hb.lt;omega
 ·have:=hb.g.cap;rw[hg2,List.length_take];omega
theorem LasI.undo{V0 W W':World}{B base:Nat}{m:Mac}{d:MAd}{mi:Mac}(h:LasI V0 B base m d mi W){c:Chi}(hH:0≤c.heap∧c.heap≤(mi.H.length:Int))(hT:0≤c.trail∧c.trail≤(mi.T.length:Int))(hG:0≤c.goals∧c.goals≤(mi.G.length:Int)){e:Ending}
 (hp:UndoMPost W B 0 (mi.vals d).toArray 81 base mi.H mi.T d.h d.t d.g d.hn d.tn d.gn c e W'):LasI V0 B base m d (undoM mi c) W'∧Touch (fun b=>b=B∨bk d.h=some b) W W':=by
 obtain⟨-,h2,h3,h4⟩:=hp
 have l1:(undoM mi c).H.length=c.heap.toNat:=by simp only[undoM,List.length_take,unbind_length];omega
 have l2:(undoM mi c).T.length=c.trail.toNat:=by simp only[undoM,List.length_take];omega
 have l3:(undoM mi c).G.length=c.goals.toNat:=by simp only[undoM,List.length_take];omega
 have ht:Touch (fun b=>b=B∨bk d.h=some b) W W':=h2.mono fun b _ e=>e.imp id fun e=>(bk_own _ _ _).symm.trans e
 refine⟨⟨⟨?_⟩,?_,h.keep.trans (ht.mono fun b _ e=>e.elim .inl fun e=>.inr (.inl e))⟩,ht⟩
 ·rw[h3]
  simp only[Mac.vals,l1,l2,l3]
  rfl
 ·rw[l1];exact h4
set_option maxHeartbeats 1000000 in
theorem MBox.put{w:World}{b:Nat}{m0:Mac}{d0:MAd}(h:MBox w b m0 d0)(m:Mac)(d:MAd):MBox (((((((((w.setCell ⟨b,0,none⟩ (.slice d.h m.H.length d.hn)).setCell ⟨b,1,none⟩ (.slice d.g m.G.length d.gn)).setCell ⟨b,2,none⟩ (.int .i64 m.first)).setCell ⟨b,3,none⟩ (.slice d.c m.ch.length d.cn)).setCell ⟨b,4,none⟩ (.slice d.t m.T.length d.tn)).setCell ⟨b,5,none⟩ (.slice d.q m.Q.length d.qn)).setCell ⟨b,6,none⟩ (.int .i64 m.steps)).setCell ⟨b,7,none⟩ (.int .i64 m.fin)).setCell ⟨b,8,none⟩ (.slice d.a m.ans.length d.an)) b m d∧Touch (fun x=>x=b) w (((((((((w.setCell ⟨b,0,none⟩ (.slice d.h m.H.length d.hn)).setCell ⟨b,1,none⟩ (.slice d.g m.G.length d.gn)).setCell ⟨b,2,none⟩ (.int .i64 m.first)).setCell ⟨b,3,none⟩ (.slice d.c m.ch.length d.cn)).setCell ⟨b,4,none⟩ (.slice d.t m.T.length d.tn)).setCell ⟨b,5,none⟩ (.slice d.q m.Q.length d.qn)).setCell ⟨b,6,none⟩ (.int .i64 m.steps)).setCell ⟨b,7,none⟩ (.int .i64 m.fin)).setCell ⟨b,8,none⟩ (.slice d.a m.ans.length d.an)):=by
 refine⟨⟨?_⟩,?_⟩
 ·skip
  have k0:=heap_setCell_at w b 0 (.slice d.h m.H.length d.hn) h.blk
  have k1:=heap_setCell_at _ b 1 (.slice d.g m.G.length d.gn) k0
  have k2:=heap_setCell_at _ b 2 (.int .i64 m.first) k1
  have k3:=heap_setCell_at _ b 3 (.slice d.c m.ch.length d.cn) k2
  have k4:=heap_setCell_at _ b 4 (.slice d.t m.T.length d.tn) k3
  have k5:=heap_setCell_at _ b 5 (.slice d.q m.Q.length d.qn) k4
  have k6:=heap_setCell_at _ b 6 (.int .i64 m.steps) k5
  have k7:=heap_setCell_at _ b 7 (.int .i64 m.fin) k6
  have k8:=heap_setCell_at _ b 8 (.slice d.a m.ans.length d.an) k7
  rw[k8]
  simp[Mac.vals]
 ·exact(((((((((Touch.setCell (M:=fun x=>x=b) (w:=w) (p:=⟨b,0,none⟩) (.slice d.h m.H.length d.hn) rfl).trans (Touch.setCell (M:=fun x=>x=b) (p:=⟨b,1,none⟩) (.slice d.g m.G.length d.gn) rfl)).trans (Touch.setCell (M:=fun x=>x=b) (p:=⟨b,2,none⟩) (.int .i64 m.first) rfl)).trans (Touch.setCell (M:=fun x=>x=b) (p:=⟨b,3,none⟩) (.slice d.c m.ch.length d.cn) rfl)).trans (Touch.setCell (M:=fun x=>x=b) (p:=⟨b,4,none⟩) (.slice d.t m.T.length d.tn) rfl)).trans (Touch.setCell (M:=fun x=>x=b) (p:=⟨b,5,none⟩) (.slice d.q m.Q.length d.qn) rfl)).trans (Touch.setCell (M:=fun x=>x=b) (p:=⟨b,6,none⟩) (.int .i64 m.steps) rfl)).trans (Touch.setCell (M:=fun x=>x=b) (p:=⟨b,7,none⟩) (.int .i64 m.fin) rfl)).trans (Touch.setCell (M:=fun x=>x=b) (p:=⟨b,8,none⟩) (.slice d.a m.ans.length d.an) rfl))
theorem near_set{H:List HC}(h:NearH H)(p:Nat)(x:Int):NearH (H.set p ⟨1,x,⟨#[]⟩⟩):=fun i hi=>by
 rw[List.length_set] at hi
 by_cases hp:p<H.length
 ·rw[hc_set H p i _ hp]
  by_cases e:i=p
  ·rw[if_pos e];intro h2;cases h2
  ·rw[if_neg e];exact h i hi
 ·rw[List.set_eq_of_length_le (by omega)];exact h i hi
theorem near_unbind(top:Int):∀ (l:List Int) (H:List HC),NearH H→NearH (unbind top l H):=by
 intro l
 induction l with
 | nil=>intro H h;exact h
 | cons x r ih =>
  intro H h
  simp only[unbind]
  refine ih _ ?_
  split
  ·exact near_set h _ _
  ·exact h
theorem near_undo{mi:Mac}(h:NearH mi.H)(c:Chi):NearH (undoM mi c).H:=fun i hi=>by
 have hi':=hi
 simp only[undoM,List.length_take] at hi'
 have e:hc (undoM mi c).H i=hc (unbind c.heap (mi.T.drop c.trail.toNat) mi.H) i:=hc_take (by omega)
 rw[e]
 exact near_unbind _ _ _ h i (by omega)
theorem near_undoI:∀ (l:List Chi) (mi:Mac),NearH mi.H→NearH (undoI mi l).H:=by
 intro l
 induction l with
 | nil=>intro mi h;exact h
 | cons c r ih=>intro mi h;exact ih (undoM mi c) (near_undo h c)
theorem undoI_ans(X:List (List Tm)):∀ (l:List Chi) (m:Mac),undoI { m with ans:=X } l = { undoI m l with ans:=X }:=by
 intro l
 induction l with
 | nil=>intro m;rfl
 | cons c r ih=>intro m;exact ih (undoM m c)
theorem keepsFrom_touch{B:Nat}{W V:World}(h:Touch (fun b=>b<B) W V):KeepsFrom B W V :=
 ⟨h.size,fun k o hk ho _=>(h.block k (Array.getElem?_eq_some_iff.1 ho).1 (by omega)).trans ho⟩
theorem ownFrom_touch{β:Type}{B:Nat}{I:β→World→Prop}(h:∀ s W W',I s W→Touch (fun b=>B≤b) W W'→I s W'):OwnFrom B I:=fun s W W' _ hs hg hr =>
 h s W W' hs (Touch.grown hg fun k e=>(hr k e).1)
set_option maxRecDepth 100000 in
set_option maxHeartbeats 400000 in
theorem back_in(F:Fence)(n:Nat)(hF:F.fn 125)(hro:F.round=none)(a:Option Addr)(len cap:Nat)(w:World) :
 CallsIn F n Try.prog 125 #[.slice a len cap] w fun e w'=>e=.returned (.func (.func 148) #[] #[.pointer (some ⟨w.heap.size,0,none⟩)])∧w'=w.alloc (.cells #[.slice a len cap] 79):=by
 refine callsIn_of_wp Try.func125 rfl hF ?_ hro
 simp only[Try.ntmps125,List.size_toArray,List.length_cons,List.length_nil,Nat.reduceAdd,Nat.reduceSub,Array.replicate_succ,Array.replicate_zero,List.push_toArray,List.append_toArray,List.nil_append,List.cons_append]
 gi_wp2
 go_ret
 exact⟨rfl,rfl⟩
set_option maxRecDepth 100000 in
set_option maxHeartbeats 3200000 in
theorem LastingW(m:Mac)(d:MAd){w:World}{ok:Nat→Prop}(h:MacAt w ok m d)(hb:MacBig m){np:Nat}(hc:ChoicesOk np m.G.length m.H.length m.T.length zeroChi m.ch)(hT:ThereM m)(hN:NearH m.H)(hlen:m.H.length≤400000) :
 Calls Try.prog 96 #[.agg #[.slice d.h m.H.length d.hn,.slice d.g m.G.length d.gn,.int .i64 m.first,.slice d.c m.ch.length d.cn,.slice d.t m.T.length d.tn,.slice d.q m.Q.length d.qn,.int .i64 m.steps,.int .i64 m.fin,.slice d.a m.ans.length d.an]] w
  fun e w'=>e=.returned (.bool (pd (Lasting m.ch.reverse m)))∧Below w.heap.size w w':=by
 refine(callsIn_wide (n:=3)).1 ?_
 have hro:Fence.wide.round=none:=rfl
 have h1:1≤3:=by omega
 have HOWN:=Lib.hid (fun X Y=>OwnMW m d ((h.mono (ok':=fun b=>b<w.heap.size) fun b hb _=>hb).keep (Keeps.below (((Below.refl w.heap.size w).alloc (Nat.le_refl _) X).alloc (by simp) Y) _)) hb)
 have HX:Hid (MBox ((w.alloc (.cells (m.vals d).toArray 81)).alloc (.cells #[.bool false] 4)) w.heap.size m d):=Lib.hid ((MBox.made w m d).below ((Below.refl _ _).alloc (Nat.le_refl _) _))
 have HB0:Hid (Below w.heap.size w ((w.alloc (.cells (m.vals d).toArray 81)).alloc (.cells #[.bool false] 4))):=Lib.hid (((Below.refl _ _).alloc (Nat.le_refl _) _).alloc (by simp) _)
 have HR0:Hid (((w.alloc (.cells (m.vals d).toArray 81)).alloc (.cells #[.bool false] 4)).heap[w.heap.size+1]? = some (.cells #[.bool false] 4 (0,0))):=Lib.hid (by
  have hsz:(w.alloc (.cells (m.vals d).toArray 81)).heap.size=w.heap.size+1:=by simp
  rw[← hsz];exact heap_alloc_new _ _)
 have HC:=Lib.hid hc;have HT:=Lib.hid hT;have HN:=Lib.hid hN
 clear h hb hc hT hN
 simp only[Mac.vals] at HX HB0 HR0
 refine callsIn_of_wp_marks Try.func96 rfl trivial ?_ hro
 simp only[Try.ntmps96,List.size_toArray,List.length_cons,List.length_nil,Nat.reduceAdd,Nat.reduceSub,Array.replicate_succ,Array.replicate_zero,List.push_toArray,List.append_toArray,List.nil_append,List.cons_append]
 gi_wp2_with (first
  | (refine⟨trivial,?_⟩;gi_at_call 117;refine(callsIn_wide.2 (HOWN.out _ _)).mono ?_;rintro e w1 ⟨d1,rfl,hO,hb1⟩;have HO:=Lib.hid hO;have HB1:=Lib.hid hb1;have HX1:=Lib.hid (HX.out.below hb1);obtain⟨y0,y1,y2,y3,y4,y5,y6,y7,y8,yf⟩:=HX1.out.all;clear hO hb1;simp only[Mac.vals])
  | (refine⟨trivial,?_⟩;gi_at_call 125;refine(back_in Fence.wide _ trivial hro _ _ _ _).mono ?_;rintro e w' ⟨rfl,rfl⟩))
 obtain⟨m1,hm1⟩:∃ m1:Mac,m1 = { m with ans:=m.ans.map mvA }:=⟨_,rfl⟩
 rw[← hm1] at HO
 have hmH:m1.H=m.H:=by rw[hm1]
 have hmG:m1.G=m.G:=by rw[hm1]
 have hmT:m1.T=m.T:=by rw[hm1]
 have hmQ:m1.Q=m.Q:=by rw[hm1]
 have hmC:m1.ch=m.ch:=by rw[hm1]
 obtain⟨X,hXb,hXt,hX⟩:∃ X,MBox X w.heap.size m1 d1∧Touch (fun x=>x=w.heap.size) w1 X∧X=(((((((((w1.setCell ⟨w.heap.size,0,none⟩ (.slice d1.h m.H.length d1.hn)).setCell ⟨w.heap.size,1,none⟩ (.slice d1.g m.G.length d1.gn)).setCell ⟨w.heap.size,2,none⟩ (.int .i64 m.first)).setCell ⟨w.heap.size,3,none⟩ (.slice d1.c m.ch.length d1.cn)).setCell ⟨w.heap.size,4,none⟩ (.slice d1.t m.T.length d1.tn)).setCell ⟨w.heap.size,5,none⟩ (.slice d1.q m.Q.length d1.qn)).setCell ⟨w.heap.size,6,none⟩ (.int .i64 m.steps)).setCell ⟨w.heap.size,7,none⟩ (.int .i64 m.fin)).setCell ⟨w.heap.size,8,none⟩ (.slice d1.a m.ans.length d1.an)):=⟨_,(HX1.out.put m1 d1).1,(HX1.out.put m1 d1).2,by subst hm1;simp only[List.length_map]⟩
 rw[← hX]
 have hXs:X.heap.size=w1.heap.size:=by rw[hX];simp
 have hbase:((w.alloc (.cells (m.vals d).toArray 81)).alloc (.cells #[.bool false] 4)).heap.size=w.heap.size+2:=by simp
 simp only[Mac.vals] at hbase
 clear hX
 obtain⟨V0,hV0⟩:∃ V0,V0=X.alloc (.cells #[.slice d1.c m.ch.length d1.cn] 79):=⟨_,rfl⟩
 have hs1:=HB1.out.size
 have hVs:V0.heap.size=w1.heap.size+1:=by rw[hV0];simp[hXs]
 have hVt:Touch (fun x=>x=w.heap.size) w1 V0:=by rw[hV0];exact hXt.trans (Touch.below ((Below.refl _ _).alloc (Nat.le_refl _) _))
 have hVc:V0.cell? ⟨w1.heap.size,0,none⟩=some (.slice d1.c m.ch.length d1.cn):=by
  rw[hV0,← hXs];exact(cell_new_s X _ _).1
 have hVb:MBox V0 w.heap.size m1 d1:=by rw[hV0];exact hXb.below ((Below.refl _ _).alloc (Nat.le_refl _) _)
 rw[← hV0]
 clear hV0
 have LB:LasB V0 w.heap.size (w.heap.size+2) m1 d1:=by
  have hO:=HO.out
  rw[hbase] at hO
  refine hO.lasB (fun b hb e=>?_) (by omega) (by rw[← hbase];exact hs1) hVt
  subst e
  rcases hb with hb | hb
  ·exact absurd hb.1 (Nat.lt_irrefl _)
  ·omega
 have hL0:LasI V0 w.heap.size (w.heap.size+2) m1 d1 m1 V0:=by
  refine⟨hVb,?_,Touch.refl _ _⟩
  have hO:=HO.out.h
  rw[hbase] at hO
  exact hO.keep fun g hg=>hVt.block g (hO.row.lt g hg).2 (by have:=(hO.row.lt g hg).1;omega)
 have LBH:=Lib.hid LB
 have hVr:V0.heap[w.heap.size+1]? = some (.cells #[.bool false] 4 (0,0)):=by
  rw[hVt.block _ (by rw[hbase] at hs1;omega) (by omega),HB1.out.block _ (by rw[hbase];omega)]
  exact HR0.out
 have hVw:Below w.heap.size w V0:=((HB0.out).trans (HB1.out.mono (by rw[hbase];omega))).trans (hVt.toBelow (by rw[hbase] at hs1;omega) fun b e=>by omega)
 have hne1:∀ b,bk d1.h=some b→w.heap.size+2≤b∧b<V0.heap.size:=LB.fits
 have hHK:=HC.out
 rw[← hmH,← hmG,← hmT,← hmC] at hHK
 have HBO:=Lib.hid (fun i hi=>back_ok hHK i hi)
 have HBN:=Lib.hid (fun i (hi:i<m1.ch.length)=>back_next hi)
 have HNR:Hid (∀ l,NearH (undoI m1 l).H):=Lib.hid fun l=>near_undoI l m1 (by rw[hmH];exact HN.out)
 have HTX:Hid (∀ x,x∈m1.T→0≤x):=Lib.hid fun x hx=>(HT.out.trail x (by rw[← hmT];exact hx)).1
 have HLI:Hid (Lasting m.ch.reverse m↔∀ i,i<m1.ch.length→ThereM (undoI m1 (m1.ch.reverse.take (i+1)))):=Lib.hid (by
  rw[lasting_iff,hmC,List.length_reverse]
  refine forall_congr' fun i=>forall_congr' fun _=>?_
  have e:=undoI_ans (m.ans.map mvA) (m.ch.reverse.take (i+1)) m
  rw[hm1,e]
  exact Iff.rfl)
 have hLc:=LB.c
 have hfit:∀ b,bk d1.h=some b→b<w1.heap.size:=fun b hb=>(HO.out.h.row.lt b ((bk_own _ _ _).trans hb)).2
 rw[hmC] at hLc HBO HBN HLI
 refine wpIn_turns (n:=3) hro h1 (gf:=148) (lb:=#[.pointer (some ⟨w1.heap.size,0,none⟩)]) rfl trivial (enters_of Try.func148 (by kernel_rfl) rfl)
  (encs:=backK m.ch) (Kp:=Keeps fun b=>b<V0.heap.size∧b≠w.heap.size∧bk d1.h≠some b) (N:=m.ch.length) (w0:=V0)
  (backK_turns (n:=2) (by omega) m.ch ⟨by omega,by omega,by omega,fun e=>by have:=hfit _ e;omega⟩ hVc hLc)
  (fun {A B C} h k=>h.trans k) (fun W l o o' hl _ _=>⟨(grownBy_putObj' W l o').size,fun b hb hlt=>(grownBy_putObj' W l o').block b hlt (fun e=>by cases e;have:=hb.1;omega)⟩) (Below.refl _ _) (fun _=>rfl)
  (fun i W=>LasI V0 w.heap.size (w.heap.size+2) m1 d1 (undoI m1 (m.ch.reverse.take i)) W∧∀ j,j<i→ThereM (undoI m1 (m.ch.reverse.take (j+1))))
  (fun _ W=>W.heap[w.heap.size+1]? = some (.cells #[.bool false] 4 (0,0))∧¬ Lasting m.ch.reverse m∧Below w.heap.size w W)
  (ownFrom_touch fun i W W' h ht=>⟨h.1.touch LBH.out ht,h.2⟩)
  (ownFrom_touch fun _ W W' h ht=>⟨(ht.block _ (Array.getElem?_eq_some_iff.1 h.1).1 (by omega)).trans h.1,h.2.1,h.2.2.trans (ht.toBelow h.2.2.size fun b e=>by have:=hVw.size;omega)⟩)
  ⟨hL0,fun j h=>absurd h (Nat.not_lt_zero j)⟩
  (fun i a' W=>∃ bc,a' = { tmps:=#[.agg #[.slice d.h m.H.length d.hn,.slice d.g m.G.length d.gn,.int .i64 m.first,.slice d.c m.ch.length d.cn,.slice d.t m.T.length d.tn,.slice d.q m.Q.length d.qn,.int .i64 m.steps,.int .i64 m.fin,.slice d.a m.ans.length d.an],.pointer (some ⟨w.heap.size,0,none⟩),.pointer (some ⟨w.heap.size+1,0,none⟩),undef,.pointer (some ⟨bc,0,none⟩),.agg #[.slice d.h m.H.length d.hn,.slice d.g m.G.length d.gn,.int .i64 m.first,.slice d.c m.ch.length d.cn,.slice d.t m.T.length d.tn,.slice d.q m.Q.length d.qn,.int .i64 m.steps,.int .i64 m.fin,.slice d.a m.ans.length d.an],.agg #[.slice d1.h m.H.length d1.hn,.slice d1.g m.G.length d1.gn,.int .i64 m.first,.slice d1.c m.ch.length d1.cn,.slice d1.t m.T.length d1.tn,.slice d1.q m.Q.length d1.qn,.int .i64 m.steps,.int .i64 m.fin,.slice d1.a m.ans.length d1.an],.pointer (some ⟨w.heap.size,3,none⟩),.slice d1.c m.ch.length d1.cn,.func (.func 148) #[] #[.pointer (some ⟨w1.heap.size,0,none⟩)],.int .i64 ((m.ch.length-1-i:Nat):Int),chiV (m.ch.getD (m.ch.length-1-i) zeroChi),undef,undef,undef,undef,undef],defers:=[] }∧CBox W bc (m.ch.getD (m.ch.length-1-i) zeroChi)∧V0.heap.size≤bc)
  (fun a' i W W' row ⟨bc,e1,e2,e3⟩ hg hr=>⟨bc,e1,e2.keep (hg.block bc e2.lt (fun e=>by obtain⟨_,o,ho,hc⟩:=hr bc e.symm;rw[e2.blk] at ho;cases ho;cases hc)),e3⟩) ?assign ?body ?done ?stop
 case assign =>
  intro l i W K hN hI hK
  simp only[backK,chiV]
  gi_wp2
  have hB:Below W.heap.size W (W.alloc (.cells #[.int .i64 (m.ch.getD (m.ch.length-1-i) zeroChi).goal,.int .i64 (m.ch.getD (m.ch.length-1-i) zeroChi).clause,.int .i64 (m.ch.getD (m.ch.length-1-i) zeroChi).heap,.int .i64 (m.ch.getD (m.ch.length-1-i) zeroChi).trail,.int .i64 (m.ch.getD (m.ch.length-1-i) zeroChi).goals] 157)):=(Below.refl _ _).alloc (Nat.le_refl _) _
  exact hK _ _ ((KeepsOthers.alloc W _).from _) (Keeps.below hB _) ⟨hI.1.touch LBH.out (Touch.below hB),hI.2⟩ ⟨W.heap.size,rfl,⟨heap_alloc_new W _⟩,hI.1.keep.size⟩
 case body =>
  rintro l i a' W hN ⟨hI1,hI2⟩ ⟨bc,rfl,hcb,hbc⟩
  obtain⟨hu,hcan⟩:=HBO.out i (Nat.le_of_lt hN)
  obtain⟨hnx,hmem⟩:=HBN.out i hN
  obtain⟨bH,bT,bG⟩:=hcan _ hmem
  have hlen':(undoI m1 (m.ch.reverse.take i)).H.length≤400000:=by have:=hu.h;rw[hmH] at this;omega
  have hxs:∀ x,x∈(undoI m1 (m.ch.reverse.take i)).T→0≤x:=fun x hx=>by
   obtain⟨k,-,e⟩:=hu.t
   rw[e] at hx
   exact HTX.out x (List.mem_of_mem_take hx)
  have hnr:=HNR.out (m.ch.reverse.take i)
  have hsn:=undoI_snoc m1 (m.ch.reverse.take i) (m.ch.getD (m.ch.length-1-i) zeroChi)
  rw[← hnx] at hsn
  obtain⟨k0,k1,k2,k3,k4,-⟩:=hcb.all
  simp only[chiV]
  have HLIN:=Lib.hid (fun h:¬ ThereM (undoI m1 (m.ch.reverse.take (i+1)))=>fun hL=>h (HLI.out.1 hL i hN))
  clear hnx hmem hcan
  generalize m.ch.getD (m.ch.length-1-i) zeroChi=c at *
  rw[hsn] at HLIN
  generalize hmi:undoI m1 (m.ch.reverse.take i)=mi at *
  have HU:=Lib.hid (UndoMW (hI1.uat LBH.out hu) bH bT bG hxs hlen')
  have HI1:=Lib.hid hI1;have HI2:=Lib.hid hI2;have HUI:=Lib.hid hu;have HBD:=Lib.hid (And.intro bH (And.intro bT bG));have HSN:=Lib.hid hsn;have HNRI:=Lib.hid hnr
  have zB:w.heap.size<W.heap.size:=hI1.box.lt
  clear hI1 hI2 hu bH bT bG hsn hnr hxs hmi hcb
  have hl2:(undoM mi c).H.length≤400000:=by simp only[undoM,List.length_take,unbind_length];omega
  by_cases hth:ThereM (undoM mi c)
  ·have HTB:Hid (thereB (undoM mi c)=true):=Lib.hid (pd_true hth)
   have HTT:=Lib.hid hth
   clear hth
   gi_wp2_with (first
    | (refine⟨trivial,?_⟩;gi_at_call 126;refine(show CallsIn Fence.wide _ _ _ _ _ _ from callsIn_wide.2 HU.out).mono ?_;rintro e w2 hp;obtain⟨hL2,hT2⟩:=HI1.out.undo HBD.out.1 HBD.out.2.1 HBD.out.2.2 hp;obtain⟨⟨v,rfl⟩,-⟩:=hp;have HL2:=Lib.hid hL2;have HT2:=Lib.hid hT2;obtain⟨y0,y1,y2,y3,y4,y5,y6,y7,y8,-⟩:=hL2.box.all;clear hL2 hT2)
    | (refine⟨trivial,?_⟩;gi_at_call 92;refine(show CallsIn Fence.wide _ _ _ _ _ _ from callsIn_wide.2 (ThereW (undoM mi c) d1 (HL2.out.mac LBH.out (HUI.out.undo c)) (near_undo HNRI.out c) hl2)).mono ?_;rintro e w3 ⟨rfl,hb3⟩;rw[HTB.out];have HB3:=Lib.hid hb3;clear hb3))
   have hT3:Touch (fun b=>b=w.heap.size∨bk d1.h=some b) W w3:=HT2.out.trans (Touch.below HB3.out)
   refine⟨keepsFrom_touch (hT3.mono fun b _ e=>?_),hT3.keeps fun b hb e=>?_,?_,fun j hj=>?_⟩
   ·rcases e with e | e
    ·omega
    ·exact(hne1 b e).2
   ·rcases e with e | e
    ·exact hb.2.1 e
    ·exact hb.2.2 e
   ·rw[HSN.out]
    exact HL2.out.touch LBH.out (Touch.below HB3.out)
   ·by_cases e:j=i
    ·subst e;rw[HSN.out];exact HTT.out
    ·exact HI2.out j (by omega)
  ·have HTB:Hid (thereB (undoM mi c)=false):=Lib.hid (pd_false hth)
   have HTT:=Lib.hid (HLIN.out hth)
   clear hth
   gi_wp2_with (first
    | (refine⟨trivial,?_⟩;gi_at_call 126;refine(show CallsIn Fence.wide _ _ _ _ _ _ from callsIn_wide.2 HU.out).mono ?_;rintro e w2 hp;obtain⟨hL2,hT2⟩:=HI1.out.undo HBD.out.1 HBD.out.2.1 HBD.out.2.2 hp;obtain⟨⟨v,rfl⟩,-⟩:=hp;have HL2:=Lib.hid hL2;have HT2:=Lib.hid hT2;obtain⟨y0,y1,y2,y3,y4,y5,y6,y7,y8,-⟩:=hL2.box.all;clear hL2 hT2)
    | (
     refine⟨trivial,?_⟩;gi_at_call 92;refine(show CallsIn Fence.wide _ _ _ _ _ _ from callsIn_wide.2 (ThereW (undoM mi c) d1 (HL2.out.mac LBH.out (HUI.out.undo c)) (near_undo HNRI.out c) hl2)).mono ?_;rintro e w3 ⟨rfl,hb3⟩;rw[HTB.out];have HB3:=Lib.hid hb3;have hR3:w3.heap[w.heap.size+1]? = some (.cells #[.bool false] 4 (0,0)):=(hb3.block _ (by have:=HL2.out.keep.size;omega)).trans ((HL2.out.keep.block _ (by omega) (by rintro (e | e | e);omega;have:=(hne1 _ e).1;omega;omega)).trans hVr);have HR3:=Lib.hid hR3;have rc:w3.cell? ⟨w.heap.size+1,0,none⟩=some (.bool false):=by simp[World.cell?,hR3]
     have rf:w3.frozen? ⟨w.heap.size+1,0,none⟩=false:=by simp[World.frozen?,hR3]
     clear hb3 hR3))
   have hT3:Touch (fun b=>b=w.heap.size∨bk d1.h=some b) W w3:=HT2.out.trans (Touch.below HB3.out)
   have hT4:Touch (fun b=>b<V0.heap.size) W (w3.setCell ⟨w.heap.size+1,0,none⟩ (.bool false)):=(hT3.mono fun b _ e=>by
    rcases e with e | e
    ·omega
    ·exact(hne1 b e).2).trans (Touch.setCell _ (by show w.heap.size+1<_;omega))
   refine⟨keepsFrom_touch hT4,?_,HTT.out,?_⟩
   ·rw[heap_setCell_at _ _ _ _ HR3.out];rfl
   ·have hK0:=HI1.out.keep
    have h5:Touch (fun b=>w.heap.size≤b) V0 (w3.setCell ⟨w.heap.size+1,0,none⟩ (.bool false)):=((hK0.mono fun b _ e=>by
     rcases e with e | e | e
     ·omega
     ·have:=(hne1 b e).1;omega
     ·omega).trans (hT3.mono fun b _ e=>by
     rcases e with e | e
     ·omega
     ·have:=(hne1 b e).1;omega)).trans (Touch.setCell _ (by show w.heap.size≤w.heap.size+1;omega))
    exact hVw.trans (h5.toBelow hVw.size fun b e=>e)
 case done =>
  rintro D W hD ⟨hI1,hI2⟩ hK
  have HL:Hid (pd (Lasting m.ch.reverse m)=true):=Lib.hid (pd_true (HLI.out.2 fun i hi=>hI2 i hi))
  have hR3:W.heap[w.heap.size+1]? = some (.cells #[.bool false] 4 (0,0)):=(hI1.keep.block _ (by omega) (by rintro (e | e | e);omega;have:=(hne1 _ e).1;omega;omega)).trans hVr
  have rc:W.cell? ⟨w.heap.size+1,0,none⟩=some (.bool false):=by simp[World.cell?,hR3]
  have rf:W.frozen? ⟨w.heap.size+1,0,none⟩=false:=by simp[World.frozen?,hR3]
  have hBW:Below w.heap.size w W:=hVw.trans (hI1.keep.toBelow hVw.size fun b e=>by
   rcases e with e | e | e
   ·omega
   ·have:=(hne1 b e).1;omega
   ·have:=hVw.size;omega)
  have HBW:=Lib.hid hBW
  clear hI1 hI2 hR3 hBW
  gi_wp2
  have hK':=(KeepsOthers.setCell W ⟨w.heap.size+1,0,none⟩ (.bool true)).same D _ hK rfl
  refine⟨by simp,.inl ⟨_,_,rfl,run_takeDeferred hK',?_⟩⟩
  have hc5:=cell_kept (World.cell?_setCell_same' W ⟨w.heap.size+1,0,none⟩ (.bool true) (by rw[rc];rfl)) (grownBy_putObj' _ D (.deferred none)) (fun r e=>by cases e;exact⟨_,hK',rfl⟩)
  refine⟨.bool true,?_,by rw[HL.out],(HBW.out.setCell (p:=⟨w.heap.size+1,0,none⟩) (by simp) _).trans (belowK_b (w:=w) (Nat.le_refl _) _ D _ _ (by have:=hVw.size;omega) hK' rfl rfl)⟩
  simp[results,Try.results96,go_sem,hc5]
 case stop =>
  rintro D W hD ⟨hR3,hL,hBW⟩ hK
  have HL:Hid (pd (Lasting m.ch.reverse m)=false):=Lib.hid (pd_false hL)
  have rc:W.cell? ⟨w.heap.size+1,0,none⟩=some (.bool false):=by simp[World.cell?,hR3]
  have HBW:=Lib.hid hBW
  clear hL hR3 hBW
  gi_wp2
  refine⟨by simp,.inl ⟨_,_,rfl,run_takeDeferred hK,?_⟩⟩
  have hc5:=cell_kept rc (grownBy_putObj' _ D (.deferred none)) (fun r e=>by cases e;exact⟨_,hK,rfl⟩)
  refine⟨.bool false,?_,by rw[HL.out],HBW.out.trans (belowK_b (w:=w) (Nat.le_refl _) W D _ _ (by have:=hVw.size;omega) hK rfl rfl)⟩
  simp[results,Try.results96,go_sem,hc5]
end Go.Proofs.Ytikmgiapjigghaa

/- Walk: the reference's CopyMachine. (Written by gen_rcw.py.) -/
namespace Go.Proofs.Ytikmgiapjigghaa
open Go.RowKit
theorem fill9(a0 a1 a2 a3 a4 a5 a6 a7 a8 v0 v1 v2 v3 v4 v5 v6 v7 v8:Value):((((((((((#[a0,a1,a2,a3,a4,a5,a6,a7,a8]:Array Value).setIfInBounds 0 v0).setIfInBounds 1 v1).setIfInBounds 2 v2).setIfInBounds 3 v3).setIfInBounds 4 v4).setIfInBounds 5 v5).setIfInBounds 6 v6).setIfInBounds 7 v7).setIfInBounds 8 v8) = #[v0,v1,v2,v3,v4,v5,v6,v7,v8]:=by
 simp
theorem mbox_fill{wx:World}{b:Nat}{m:Mac}{d:MAd}{a0 a1 a2 a3 a4 a5 a6 a7 a8:Value}(hz:wx.heap[b]? = some (.cells #[a0,a1,a2,a3,a4,a5,a6,a7,a8] 81 (0,0))) :
 MBox (((((((((wx.setCell ⟨b,0,none⟩ (.slice d.h m.H.length d.hn)).setCell ⟨b,1,none⟩ (.slice d.g m.G.length d.gn)).setCell ⟨b,2,none⟩ (.int .i64 m.first)).setCell ⟨b,3,none⟩ (.slice d.c m.ch.length d.cn)).setCell ⟨b,4,none⟩ (.slice d.t m.T.length d.tn)).setCell ⟨b,5,none⟩ (.slice d.q m.Q.length d.qn)).setCell ⟨b,6,none⟩ (.int .i64 m.steps)).setCell ⟨b,7,none⟩ (.int .i64 m.fin)).setCell ⟨b,8,none⟩ (.slice d.a m.ans.length d.an)) b m d
 ∧ Touch (fun x=>x=b) wx (((((((((wx.setCell ⟨b,0,none⟩ (.slice d.h m.H.length d.hn)).setCell ⟨b,1,none⟩ (.slice d.g m.G.length d.gn)).setCell ⟨b,2,none⟩ (.int .i64 m.first)).setCell ⟨b,3,none⟩ (.slice d.c m.ch.length d.cn)).setCell ⟨b,4,none⟩ (.slice d.t m.T.length d.tn)).setCell ⟨b,5,none⟩ (.slice d.q m.Q.length d.qn)).setCell ⟨b,6,none⟩ (.int .i64 m.steps)).setCell ⟨b,7,none⟩ (.int .i64 m.fin)).setCell ⟨b,8,none⟩ (.slice d.a m.ans.length d.an)):=by
 have k0:=heap_setCell_at wx b 0 (.slice d.h m.H.length d.hn) hz
 have k1:=heap_setCell_at _ b 1 (.slice d.g m.G.length d.gn) k0
 have k2:=heap_setCell_at _ b 2 (.int .i64 m.first) k1
 have k3:=heap_setCell_at _ b 3 (.slice d.c m.ch.length d.cn) k2
 have k4:=heap_setCell_at _ b 4 (.slice d.t m.T.length d.tn) k3
 have k5:=heap_setCell_at _ b 5 (.slice d.q m.Q.length d.qn) k4
 have k6:=heap_setCell_at _ b 6 (.int .i64 m.steps) k5
 have k7:=heap_setCell_at _ b 7 (.int .i64 m.fin) k6
 have k8:=heap_setCell_at _ b 8 (.slice d.a m.ans.length d.an) k7
 refine⟨⟨k8.trans ?_⟩,?_⟩
 ·rw[fill9];rfl
 ·exact((((((((Touch.setCell (M:=fun x=>x=b) (w:=wx) (p:=⟨b,0,none⟩) (.slice d.h m.H.length d.hn) rfl).trans (Touch.setCell (p:=⟨b,1,none⟩) (.slice d.g m.G.length d.gn) rfl)).trans (Touch.setCell (p:=⟨b,2,none⟩) (.int .i64 m.first) rfl)).trans (Touch.setCell (p:=⟨b,3,none⟩) (.slice d.c m.ch.length d.cn) rfl)).trans (Touch.setCell (p:=⟨b,4,none⟩) (.slice d.t m.T.length d.tn) rfl)).trans (Touch.setCell (p:=⟨b,5,none⟩) (.slice d.q m.Q.length d.qn) rfl)).trans (Touch.setCell (p:=⟨b,6,none⟩) (.int .i64 m.steps) rfl)).trans (Touch.setCell (p:=⟨b,7,none⟩) (.int .i64 m.fin) rfl)).trans (Touch.setCell (p:=⟨b,8,none⟩) (.slice d.a m.ans.length d.an) rfl)
set_option maxRecDepth 100000 in
set_option maxHeartbeats 3200000 in
theorem CopyMW(m:Mac)(d:MAd){w:World}{ok:Nat→Prop}(h:MacAt w ok m d)(hb:MacBig m) :
 Calls Try.prog 98 #[.agg #[.slice d.h m.H.length d.hn,.slice d.g m.G.length d.gn,.int .i64 m.first,.slice d.c m.ch.length d.cn,.slice d.t m.T.length d.tn,.slice d.q m.Q.length d.qn,.int .i64 m.steps,.int .i64 m.fin,.slice d.a m.ans.length d.an]] w (OwnPost w ok m):=by
 have HM:Hid (MacAt w (fun b=>ok b∧b<w.heap.size) m d):=Lib.hid (h.mono fun b hb ho=>⟨ho,hb⟩)
 have HBIG:=Lib.hid hb
 clear h hb
 obtain⟨dh,dg,dc,dt,dq,da,dhn,dgn,dcn,dtn,dqn,dan⟩:=d
 simp only
 obtain⟨vT,HVT⟩:∃ v,Hid (v=m.T.map fun x=>Value.int .i64 x):=⟨_,Lib.hid rfl⟩
 obtain⟨vQ,HVQ⟩:∃ v,Hid (v=m.Q.map fun x=>Value.int .i64 x):=⟨_,Lib.hid rfl⟩
 have HMT:Hid (RwAt w (fun b=>ok b∧b<w.heap.size) 1 m.T.length vT dt dtn):=Lib.hid (by rw[HVT.out];exact HM.out.t.rw')
 have HMQ:Hid (RwAt w (fun b=>ok b∧b<w.heap.size) 1 m.Q.length vQ dq dqn):=Lib.hid (by rw[HVQ.out];exact HM.out.q.rw')
 have HI0:Hid (CpI w (((w.alloc (.cells (m.vals ⟨dh,dg,dc,dt,dq,da,dhn,dgn,dcn,dtn,dqn,dan⟩).toArray 81)).alloc (.cells #[.slice none 0 0,.slice none 0 0,.int .i64 0,.slice none 0 0,.slice none 0 0,.slice none 0 0,.int .i64 0,.int .i64 0,.slice none 0 0] 81)).alloc (.cells (m.vals ⟨dh,dg,dc,dt,dq,da,dhn,dgn,dcn,dtn,dqn,dan⟩).toArray 81)) m m ⟨dh,dg,dc,dt,dq,da,dhn,dgn,dcn,dtn,dqn,dan⟩ ⟨dh,dg,dc,dt,dq,da,dhn,dgn,dcn,dtn,dqn,dan⟩ []):=Lib.hid (by
  have h2:((w.alloc (.cells (m.vals ⟨dh,dg,dc,dt,dq,da,dhn,dgn,dcn,dtn,dqn,dan⟩).toArray 81)).alloc (.cells #[.slice none 0 0,.slice none 0 0,.int .i64 0,.slice none 0 0,.slice none 0 0,.slice none 0 0,.int .i64 0,.int .i64 0,.slice none 0 0] 81)).heap.size=w.heap.size+1+1:=by simp
  have hz:MBox (((w.alloc (.cells (m.vals ⟨dh,dg,dc,dt,dq,da,dhn,dgn,dcn,dtn,dqn,dan⟩).toArray 81)).alloc (.cells #[.slice none 0 0,.slice none 0 0,.int .i64 0,.slice none 0 0,.slice none 0 0,.slice none 0 0,.int .i64 0,.int .i64 0,.slice none 0 0] 81)).alloc (.cells (m.vals ⟨dh,dg,dc,dt,dq,da,dhn,dgn,dcn,dtn,dqn,dan⟩).toArray 81)) (w.heap.size+1+1) m ⟨dh,dg,dc,dt,dq,da,dhn,dgn,dcn,dtn,dqn,dan⟩:=by
   have h1:=MBox.made ((w.alloc (.cells (m.vals ⟨dh,dg,dc,dt,dq,da,dhn,dgn,dcn,dtn,dqn,dan⟩).toArray 81)).alloc (.cells #[.slice none 0 0,.slice none 0 0,.int .i64 0,.slice none 0 0,.slice none 0 0,.slice none 0 0,.int .i64 0,.int .i64 0,.slice none 0 0] 81)) m ⟨dh,dg,dc,dt,dq,da,dhn,dgn,dcn,dtn,dqn,dan⟩
   rw[h2] at h1
   exact h1
  have hz1:(((w.alloc (.cells (m.vals ⟨dh,dg,dc,dt,dq,da,dhn,dgn,dcn,dtn,dqn,dan⟩).toArray 81)).alloc (.cells #[.slice none 0 0,.slice none 0 0,.int .i64 0,.slice none 0 0,.slice none 0 0,.slice none 0 0,.int .i64 0,.int .i64 0,.slice none 0 0] 81)).alloc (.cells (m.vals ⟨dh,dg,dc,dt,dq,da,dhn,dgn,dcn,dtn,dqn,dan⟩).toArray 81)).heap[w.heap.size+1]? = some (.cells #[.slice none 0 0,.slice none 0 0,.int .i64 0,.slice none 0 0,.slice none 0 0,.slice none 0 0,.int .i64 0,.int .i64 0,.slice none 0 0] 81 (0,0)):=by
   have h1:=heap_alloc_new (w.alloc (.cells (m.vals ⟨dh,dg,dc,dt,dq,da,dhn,dgn,dcn,dtn,dqn,dan⟩).toArray 81)) (.cells #[.slice none 0 0,.slice none 0 0,.int .i64 0,.slice none 0 0,.slice none 0 0,.slice none 0 0,.int .i64 0,.int .i64 0,.slice none 0 0] 81)
   have h3:(w.alloc (.cells (m.vals ⟨dh,dg,dc,dt,dq,da,dhn,dgn,dcn,dtn,dqn,dan⟩).toArray 81)).heap.size=w.heap.size+1:=by simp
   rw[h3] at h1
   refine(((Below.refl _ _).alloc (Nat.le_refl _) _).block _ ?_).trans h1
   simp
  have hs:MBox (((w.alloc (.cells (m.vals ⟨dh,dg,dc,dt,dq,da,dhn,dgn,dcn,dtn,dqn,dan⟩).toArray 81)).alloc (.cells #[.slice none 0 0,.slice none 0 0,.int .i64 0,.slice none 0 0,.slice none 0 0,.slice none 0 0,.int .i64 0,.int .i64 0,.slice none 0 0] 81)).alloc (.cells (m.vals ⟨dh,dg,dc,dt,dq,da,dhn,dgn,dcn,dtn,dqn,dan⟩).toArray 81)) w.heap.size m ⟨dh,dg,dc,dt,dq,da,dhn,dgn,dcn,dtn,dqn,dan⟩:=(MBox.made w m _).below (((Below.refl _ _).alloc (Nat.le_refl _) _).alloc (by simp) _)
  have hbb:Below w.heap.size w (((w.alloc (.cells (m.vals ⟨dh,dg,dc,dt,dq,da,dhn,dgn,dcn,dtn,dqn,dan⟩).toArray 81)).alloc (.cells #[.slice none 0 0,.slice none 0 0,.int .i64 0,.slice none 0 0,.slice none 0 0,.slice none 0 0,.int .i64 0,.int .i64 0,.slice none 0 0] 81)).alloc (.cells (m.vals ⟨dh,dg,dc,dt,dq,da,dhn,dgn,dcn,dtn,dqn,dan⟩).toArray 81)):=(((Below.refl _ _).alloc (Nat.le_refl _) _).alloc (by simp) _).alloc (by simp;omega) _
  exact⟨hs,hz,hz1,(fun r hr=>nomatch hr),List.Pairwise.nil,hbb⟩)
 simp only[Mac.vals] at HI0
 go_enter Try.func98,Try.ntmps98
 go_upto_region 2 with fail
 generalize (((w.alloc (.cells #[.slice dh m.H.length dhn,.slice dg m.G.length dgn,.int .i64 m.first,.slice dc m.ch.length dcn,.slice dt m.T.length dtn,.slice dq m.Q.length dqn,.int .i64 m.steps,.int .i64 m.fin,.slice da m.ans.length dan] 81)).alloc (.cells #[.slice none 0 0,.slice none 0 0,.int .i64 0,.slice none 0 0,.slice none 0 0,.slice none 0 0,.int .i64 0,.int .i64 0,.slice none 0 0] 81)).alloc (.cells #[.slice dh m.H.length dhn,.slice dg m.G.length dgn,.int .i64 m.first,.slice dc m.ch.length dcn,.slice dt m.T.length dtn,.slice dq m.Q.length dqn,.int .i64 m.steps,.int .i64 m.fin,.slice da m.ans.length dan] 81))=u0 at *
 obtain⟨i0,zc,hi0,hz0,hz1,hz2,hz3⟩:=infoZCells
 have HO:Hid ((u0.alloc (.cells #[] 120)).ownsRow u0.heap.size 120 3 (.slice (some ⟨u0.heap.size,0,none⟩) 0 0) 0 []):=Lib.hid (World.ownsRow_lit (base:=u0.heap.size) (e:=120) (size:=3) u0 #[] 0 (Nat.le_refl _) (Nat.zero_le _) rfl)
 have HB0:Hid (Below u0.heap.size u0 (u0.alloc (.cells #[] 120))):=Lib.hid ((Below.refl _ _).alloc (Nat.le_refl _) _)
 have HP:Hid (RwAt (u0.alloc (.cells #[] 120)) (fun b=>ok b∧b<w.heap.size) 3 m.H.length (flatH m.H) dh dhn):=Lib.hid ((HM.out.h.rw').below (HI0.out.below.alloc HI0.out.below.size (.cells #[] 120)))
 obtain⟨p0,p1,p2,p3,p4,p5,p6,p7,p8,pf⟩:=(HI0.out.src.below HB0.out).all
 try simp only at p0 p1 p3 p4 p5
 go_wp2_with (at_builtin;have _g:=HO;refine wpList_append_opt _ rfl _ _ 42 rfl u0.heap.size 120 i0 zc 3 32 Try.underlying42 hi0 hz0 hz1 hz2 hz3 (by decide) _ _ _ rfl HO.out dh (m.H.length) dhn ?d00 ((flatH m.H)) rfl ?d50 ?d10 ?d60 ?d20 ?d30 ?d40 ?_)
 case d00=>intro e;have h1:=HP.out.cap.1;have h2:=HP.out.cap.2.2 e;exact List.eq_nil_of_length_eq_zero (by omega)
 case d50=>have:=HP.out.len;omega
 case d10=>intro ad had;subst had;exact HP.out.news
 case d60=>exact flatH_one _
 case d20=>have:=HBIG.out.h;unfold maxLen;omega
 case d30=>have:=HBIG.out.h;omega
 intro v w1 hown hgrow hfr
 obtain⟨a1,c1,rfl⟩:=ownsRow_form hown
 have HB1:Hid (Below u0.heap.size u0 w1):=Lib.hid (HB0.out.grown hgrow HB0.out.size (fun j e=>(HO.out.lt j e).1))
 have HI1:Hid (CpI w (w1.setCell ⟨w.heap.size+1+1,0,none⟩ (.slice a1 m.H.length c1)) m m ⟨dh,dg,dc,dt,dq,da,dhn,dgn,dcn,dtn,dqn,dan⟩ ⟨a1,dg,dc,dt,dq,da,c1,dgn,dcn,dtn,dqn,dan⟩ [⟨120,3,a1,m.H.length,c1,(flatH m.H)⟩]):=Lib.hid (HI0.out.step hown HB1.out 0 rfl)
 obtain⟨q0,q1,q2,q3,q4,q5,q6,q7,q8,qf⟩:=(HI0.out.box.below HB1.out).all
 try simp only at q0 q1 q3 q4 q5 q8
 clear hown hgrow hfr p0 p1 p2 p3 p4 p5 p6 p7 p8 pf
 go_upto_region 3 with fail
 clear q0 q1 q2 q3 q4 q5 q6 q7 q8 qf HO HB0 HP HB1 HI0 hi0 hz0 hz1 hz2 hz3
 generalize w1.setCell ⟨w.heap.size+1+1,0,none⟩ (.slice a1 m.H.length c1)=u1 at *
 obtain⟨i0,zc,hi0,hz0,hz1,hz2,hz3⟩:=infoZGoals
 have HO:Hid ((u1.alloc (.cells #[] 155)).ownsRow u1.heap.size 155 3 (.slice (some ⟨u1.heap.size,0,none⟩) 0 0) 0 []):=Lib.hid (World.ownsRow_lit (base:=u1.heap.size) (e:=155) (size:=3) u1 #[] 0 (Nat.le_refl _) (Nat.zero_le _) rfl)
 have HB0:Hid (Below u1.heap.size u1 (u1.alloc (.cells #[] 155))):=Lib.hid ((Below.refl _ _).alloc (Nat.le_refl _) _)
 have HP:Hid (RwAt (u1.alloc (.cells #[] 155)) (fun b=>ok b∧b<w.heap.size) 3 m.G.length (flatG m.G) dg dgn):=Lib.hid ((HM.out.g).below (HI1.out.below.alloc HI1.out.below.size (.cells #[] 155)))
 obtain⟨p0,p1,p2,p3,p4,p5,p6,p7,p8,pf⟩:=(HI1.out.src.below HB0.out).all
 try simp only at p0 p1 p3 p4 p5
 go_wp2_with (at_builtin;have _g:=HO;refine wpList_append_opt _ rfl _ _ 78 rfl u1.heap.size 155 i0 zc 3 24 Try.underlying78 hi0 hz0 hz1 hz2 hz3 (by decide) _ _ _ rfl HO.out dg (m.G.length) dgn ?d01 ((flatG m.G)) rfl ?d51 ?d11 ?d61 ?d21 ?d31 ?d41 ?_)
 case d01=>intro e;have h1:=HP.out.cap.1;have h2:=HP.out.cap.2.2 e;exact List.eq_nil_of_length_eq_zero (by omega)
 case d51=>have:=HP.out.len;omega
 case d11=>intro ad had;subst had;exact HP.out.news
 case d61=>exact flatG_one _
 case d21=>have:=HBIG.out.g;unfold maxLen;omega
 case d31=>have:=HBIG.out.g;omega
 intro v w1 hown hgrow hfr
 obtain⟨a2,c2,rfl⟩:=ownsRow_form hown
 have HB1:Hid (Below u1.heap.size u1 w1):=Lib.hid (HB0.out.grown hgrow HB0.out.size (fun j e=>(HO.out.lt j e).1))
 have HI2:Hid (CpI w (w1.setCell ⟨w.heap.size+1+1,1,none⟩ (.slice a2 m.G.length c2)) m m ⟨dh,dg,dc,dt,dq,da,dhn,dgn,dcn,dtn,dqn,dan⟩ ⟨a1,a2,dc,dt,dq,da,c1,c2,dcn,dtn,dqn,dan⟩ [⟨120,3,a1,m.H.length,c1,(flatH m.H)⟩,⟨155,3,a2,m.G.length,c2,(flatG m.G)⟩]):=Lib.hid (HI1.out.step hown HB1.out 1 rfl)
 obtain⟨q0,q1,q2,q3,q4,q5,q6,q7,q8,qf⟩:=(HI1.out.box.below HB1.out).all
 try simp only at q0 q1 q3 q4 q5 q8
 clear hown hgrow hfr p0 p1 p2 p3 p4 p5 p6 p7 p8 pf
 go_upto_region 4 with fail
 clear q0 q1 q2 q3 q4 q5 q6 q7 q8 qf HO HB0 HP HB1 HI1 hi0 hz0 hz1 hz2 hz3
 generalize w1.setCell ⟨w.heap.size+1+1,1,none⟩ (.slice a2 m.G.length c2)=u2 at *
 obtain⟨i0,zc,hi0,hz0,hz1,hz2,hz3⟩:=infoZChois
 have HO:Hid ((u2.alloc (.cells #[] 157)).ownsRow u2.heap.size 157 5 (.slice (some ⟨u2.heap.size,0,none⟩) 0 0) 0 []):=Lib.hid (World.ownsRow_lit (base:=u2.heap.size) (e:=157) (size:=5) u2 #[] 0 (Nat.le_refl _) (Nat.zero_le _) rfl)
 have HB0:Hid (Below u2.heap.size u2 (u2.alloc (.cells #[] 157))):=Lib.hid ((Below.refl _ _).alloc (Nat.le_refl _) _)
 have HP:Hid (RwAt (u2.alloc (.cells #[] 157)) (fun b=>ok b∧b<w.heap.size) 5 m.ch.length (flatK m.ch) dc dcn):=Lib.hid ((HM.out.c).below (HI2.out.below.alloc HI2.out.below.size (.cells #[] 157)))
 obtain⟨p0,p1,p2,p3,p4,p5,p6,p7,p8,pf⟩:=(HI2.out.src.below HB0.out).all
 try simp only at p0 p1 p3 p4 p5
 go_wp2_with (at_builtin;have _g:=HO;refine wpList_append_opt _ rfl _ _ 79 rfl u2.heap.size 157 i0 zc 5 40 Try.underlying79 hi0 hz0 hz1 hz2 hz3 (by decide) _ _ _ rfl HO.out dc (m.ch.length) dcn ?d02 ((flatK m.ch)) rfl ?d52 ?d12 ?d62 ?d22 ?d32 ?d42 ?_)
 case d02=>intro e;have h1:=HP.out.cap.1;have h2:=HP.out.cap.2.2 e;exact List.eq_nil_of_length_eq_zero (by omega)
 case d52=>have:=HP.out.len;omega
 case d12=>intro ad had;subst had;exact HP.out.news
 case d62=>exact flatK_one _
 case d22=>have:=HBIG.out.c;unfold maxLen;omega
 case d32=>have:=HBIG.out.c;omega
 intro v w1 hown hgrow hfr
 obtain⟨a3,c3,rfl⟩:=ownsRow_form hown
 have HB1:Hid (Below u2.heap.size u2 w1):=Lib.hid (HB0.out.grown hgrow HB0.out.size (fun j e=>(HO.out.lt j e).1))
 have HI3:Hid (CpI w (w1.setCell ⟨w.heap.size+1+1,3,none⟩ (.slice a3 m.ch.length c3)) m m ⟨dh,dg,dc,dt,dq,da,dhn,dgn,dcn,dtn,dqn,dan⟩ ⟨a1,a2,a3,dt,dq,da,c1,c2,c3,dtn,dqn,dan⟩ [⟨120,3,a1,m.H.length,c1,(flatH m.H)⟩,⟨155,3,a2,m.G.length,c2,(flatG m.G)⟩,⟨157,5,a3,m.ch.length,c3,(flatK m.ch)⟩]):=Lib.hid (HI2.out.step hown HB1.out 3 rfl)
 obtain⟨q0,q1,q2,q3,q4,q5,q6,q7,q8,qf⟩:=(HI2.out.box.below HB1.out).all
 try simp only at q0 q1 q3 q4 q5 q8
 clear hown hgrow hfr p0 p1 p2 p3 p4 p5 p6 p7 p8 pf
 go_upto_region 5 with fail
 clear q0 q1 q2 q3 q4 q5 q6 q7 q8 qf HO HB0 HP HB1 HI2 hi0 hz0 hz1 hz2 hz3
 generalize w1.setCell ⟨w.heap.size+1+1,3,none⟩ (.slice a3 m.ch.length c3)=u3 at *
 obtain⟨i0,zc,hi0,hz0,hz1,hz2,hz3⟩:=infoZInts
 have HO:Hid ((u3.alloc (.cells #[] 3)).ownsRow u3.heap.size 3 1 (.slice (some ⟨u3.heap.size,0,none⟩) 0 0) 0 []):=Lib.hid (World.ownsRow_lit (base:=u3.heap.size) (e:=3) (size:=1) u3 #[] 0 (Nat.le_refl _) (Nat.zero_le _) rfl)
 have HB0:Hid (Below u3.heap.size u3 (u3.alloc (.cells #[] 3))):=Lib.hid ((Below.refl _ _).alloc (Nat.le_refl _) _)
 have HP:Hid (RwAt (u3.alloc (.cells #[] 3)) (fun b=>ok b∧b<w.heap.size) 1 m.T.length vT dt dtn):=Lib.hid ((HMT.out).below (HI3.out.below.alloc HI3.out.below.size (.cells #[] 3)))
 obtain⟨p0,p1,p2,p3,p4,p5,p6,p7,p8,pf⟩:=(HI3.out.src.below HB0.out).all
 try simp only at p0 p1 p3 p4 p5
 go_wp2_with (at_builtin;have _g:=HO;refine wpList_append_opt _ rfl _ _ 44 rfl u3.heap.size 3 i0 zc 1 8 Try.underlying44 hi0 hz0 hz1 hz2 hz3 (by decide) _ _ _ rfl HO.out dt (m.T.length) dtn ?d03 (vT) rfl ?d53 ?d13 ?d63 ?d23 ?d33 ?d43 ?_)
 case d03=>intro e;have h1:=HP.out.cap.1;have h2:=HP.out.cap.2.2 e;exact List.eq_nil_of_length_eq_zero (by omega)
 case d53=>have:=HP.out.len;omega
 case d13=>intro ad had;subst had;exact HP.out.news
 case d63=>exact(by rw[HVT.out];exact ints_one _)
 case d23=>have:=HBIG.out.t;unfold maxLen;omega
 case d33=>have:=HBIG.out.t;omega
 intro v w1 hown hgrow hfr
 obtain⟨a4,c4,rfl⟩:=ownsRow_form hown
 have HB1:Hid (Below u3.heap.size u3 w1):=Lib.hid (HB0.out.grown hgrow HB0.out.size (fun j e=>(HO.out.lt j e).1))
 have HI4:Hid (CpI w (w1.setCell ⟨w.heap.size+1+1,4,none⟩ (.slice a4 m.T.length c4)) m m ⟨dh,dg,dc,dt,dq,da,dhn,dgn,dcn,dtn,dqn,dan⟩ ⟨a1,a2,a3,a4,dq,da,c1,c2,c3,c4,dqn,dan⟩ [⟨120,3,a1,m.H.length,c1,(flatH m.H)⟩,⟨155,3,a2,m.G.length,c2,(flatG m.G)⟩,⟨157,5,a3,m.ch.length,c3,(flatK m.ch)⟩,⟨3,1,a4,m.T.length,c4,vT⟩]):=Lib.hid (HI3.out.step hown HB1.out 4 rfl)
 obtain⟨q0,q1,q2,q3,q4,q5,q6,q7,q8,qf⟩:=(HI3.out.box.below HB1.out).all
 try simp only at q0 q1 q3 q4 q5 q8
 clear hown hgrow hfr p0 p1 p2 p3 p4 p5 p6 p7 p8 pf
 go_upto_region 6 with fail
 clear q0 q1 q2 q3 q4 q5 q6 q7 q8 qf HO HB0 HP HB1 HI3 hi0 hz0 hz1 hz2 hz3
 generalize w1.setCell ⟨w.heap.size+1+1,4,none⟩ (.slice a4 m.T.length c4)=u4 at *
 obtain⟨i0,zc,hi0,hz0,hz1,hz2,hz3⟩:=infoZInts
 have HO:Hid ((u4.alloc (.cells #[] 3)).ownsRow u4.heap.size 3 1 (.slice (some ⟨u4.heap.size,0,none⟩) 0 0) 0 []):=Lib.hid (World.ownsRow_lit (base:=u4.heap.size) (e:=3) (size:=1) u4 #[] 0 (Nat.le_refl _) (Nat.zero_le _) rfl)
 have HB0:Hid (Below u4.heap.size u4 (u4.alloc (.cells #[] 3))):=Lib.hid ((Below.refl _ _).alloc (Nat.le_refl _) _)
 have HP:Hid (RwAt (u4.alloc (.cells #[] 3)) (fun b=>ok b∧b<w.heap.size) 1 m.Q.length vQ dq dqn):=Lib.hid ((HMQ.out).below (HI4.out.below.alloc HI4.out.below.size (.cells #[] 3)))
 obtain⟨p0,p1,p2,p3,p4,p5,p6,p7,p8,pf⟩:=(HI4.out.src.below HB0.out).all
 try simp only at p0 p1 p3 p4 p5
 go_wp2_with (at_builtin;have _g:=HO;refine wpList_append_opt _ rfl _ _ 44 rfl u4.heap.size 3 i0 zc 1 8 Try.underlying44 hi0 hz0 hz1 hz2 hz3 (by decide) _ _ _ rfl HO.out dq (m.Q.length) dqn ?d04 (vQ) rfl ?d54 ?d14 ?d64 ?d24 ?d34 ?d44 ?_)
 case d04=>intro e;have h1:=HP.out.cap.1;have h2:=HP.out.cap.2.2 e;exact List.eq_nil_of_length_eq_zero (by omega)
 case d54=>have:=HP.out.len;omega
 case d14=>intro ad had;subst had;exact HP.out.news
 case d64=>exact(by rw[HVQ.out];exact ints_one _)
 case d24=>have:=HBIG.out.q;unfold maxLen;omega
 case d34=>have:=HBIG.out.q;omega
 intro v w1 hown hgrow hfr
 obtain⟨a5,c5,rfl⟩:=ownsRow_form hown
 have HB1:Hid (Below u4.heap.size u4 w1):=Lib.hid (HB0.out.grown hgrow HB0.out.size (fun j e=>(HO.out.lt j e).1))
 have HI5:Hid (CpI w (w1.setCell ⟨w.heap.size+1+1,5,none⟩ (.slice a5 m.Q.length c5)) m m ⟨dh,dg,dc,dt,dq,da,dhn,dgn,dcn,dtn,dqn,dan⟩ ⟨a1,a2,a3,a4,a5,da,c1,c2,c3,c4,c5,dan⟩ [⟨120,3,a1,m.H.length,c1,(flatH m.H)⟩,⟨155,3,a2,m.G.length,c2,(flatG m.G)⟩,⟨157,5,a3,m.ch.length,c3,(flatK m.ch)⟩,⟨3,1,a4,m.T.length,c4,vT⟩,⟨3,1,a5,m.Q.length,c5,vQ⟩]):=Lib.hid (HI4.out.step hown HB1.out 5 rfl)
 obtain⟨q0,q1,q2,q3,q4,q5,q6,q7,q8,qf⟩:=(HI4.out.box.below HB1.out).all
 try simp only at q0 q1 q3 q4 q5 q8
 clear hown hgrow hfr p0 p1 p2 p3 p4 p5 p6 p7 p8 pf
 go_upto_region 7 with fail
 clear q0 q1 q2 q3 q4 q5 q6 q7 q8 qf HO HB0 HP HB1 HI4 hi0 hz0 hz1 hz2 hz3
 generalize w1.setCell ⟨w.heap.size+1+1,5,none⟩ (.slice a5 m.Q.length c5)=u5 at *
 obtain⟨q0,q1,q2,q3,q4,q5,q6,q7,q8,qf⟩:=HI5.out.box.all
 have HC:Hid (CpI w (u5.setCell ⟨w.heap.size+1+1,8,none⟩ (.slice none 0 0)) m { m with ans:=[] } ⟨dh,dg,dc,dt,dq,da,dhn,dgn,dcn,dtn,dqn,dan⟩ ⟨a1,a2,a3,a4,a5,none,c1,c2,c3,c4,c5,0⟩ [⟨120,3,a1,m.H.length,c1,(flatH m.H)⟩,⟨155,3,a2,m.G.length,c2,(flatG m.G)⟩,⟨157,5,a3,m.ch.length,c3,(flatK m.ch)⟩,⟨3,1,a4,m.T.length,c4,vT⟩,⟨3,1,a5,m.Q.length,c5,vQ⟩]):=Lib.hid HI5.out.nil
 go_upto_region 8 with fail
 clear q0 q1 q2 q3 q4 q5 q6 q7 q8 qf HI5
 generalize u5.setCell ⟨w.heap.size+1+1,8,none⟩ (.slice none 0 0)=wc at *
 have hwc:w.heap.size+3≤wc.heap.size:=HC.out.box.lt
 obtain⟨p0,p1,p2,p3,p4,p5,p6,p7,p8,pf⟩:=HC.out.src.all
 have han:=HBIG.out.a
 go_wp2_with fail
 go_loopw[4] (fun v4 wr=>∃ (i:Nat) (A:List ((Option Addr×Nat)×List Tm)) (aa:Option Addr) (ac:Nat),i≤m.ans.length∧v4=.int .i64 i∧Hid (CpA w ok wc wr m ⟨a1,a2,a3,a4,a5,none,c1,c2,c3,c4,c5,0⟩ ((m.ans.take i).map mvA) aa ac A)) (fun v4 _=>m.ans.length-(intOf v4).toNat)
 case atStart=>exact⟨0,[],none,0,Nat.zero_le _,rfl,Lib.hid ⟨HC.out.box,World.ownsRow_nil _ _ _ _,by simp,(fun x hx=>nomatch hx),Touch.refl _ _⟩⟩
 case round =>
  rename World=>wo
  obtain⟨i,A,aa,ac,hi,rfl,HA⟩:=hrel
  have hAl:A.length=i:=by have:=HA.out.len;rw[List.length_map,List.length_take] at this;omega
  have HAL:=Lib.hid hAl
  have HBW:Hid (Below w.heap.size w wo):=Lib.hid (HC.out.below.trans (HA.out.touch.toBelow (by omega) fun b e=>by omega))
  have HS:Hid (MBox wo w.heap.size m ⟨dh,dg,dc,dt,dq,da,dhn,dgn,dcn,dtn,dqn,dan⟩):=Lib.hid (HC.out.src.keep (HA.out.touch.block _ HC.out.src.lt (by omega)))
  obtain⟨s0,s1,s2,s3,s4,s5,s6,s7,s8,sf⟩:=HS.out.all
  clear hAl
  by_cases hlt:i<m.ans.length
  ·obtain⟨b,off,b1,k1,hda,-,hb,hcl,hts⟩:=HM.out.a.elem i hlt
   have hda':da=some ⟨b,off,none⟩:=hda
   clear hda
   subst hda'
   have y0:=(HBW.out.cell (p:=⟨b,off+i,none⟩) hb).trans hcl
   obtain⟨hbl,hba⟩:=HBIG.out.each _ (List.getElem_mem hlt)
   have HTS:=Lib.hid hts;have HBA:=Lib.hid hba;have HCL0:=Lib.hid hcl;have HBB:=Lib.hid hb
   have HTK:Hid ((m.ans.take (i+1)).map mvA=(m.ans.take i).map mvA++[mvA m.ans[i]]):=Lib.hid (by rw[List.take_succ_eq_append_getElem hlt,List.map_append];rfl)
   clear hcl hts hba hb
   generalize m.ans[i]=s at *
   go_wp2_with fail
   go_loopw[5,6] (fun v5 v6 wr=>∃ (k:Nat) (L:List TmAt),k≤s.length∧v6=.int .i64 k∧Hid (L.map (·.1)=(s.take k).map (far 0))∧Hid (OwnTs wr wo.heap.size (OkN (fun b=>ok b∧b<w.heap.size) wo) v5 L)∧Hid (Below wo.heap.size wo wr)) (fun _ v6 _=>s.length-(intOf v6).toNat)
   case atStart=>exact⟨0,[],Nat.zero_le _,rfl,Lib.hid rfl,Lib.hid (OwnTs.nil _ _ _),Lib.hid (Below.refl _ _)⟩
   case round =>
    obtain⟨k,L,hk,rfl,HL,HOW,HBZ⟩:=hrel
    obtain⟨xa,xc,rfl⟩:=HOW.out.form
    have hLl:L.length=k:=by
     have:=congrArg List.length HL.out
     rw[List.length_map,List.length_map,List.length_take] at this;omega
    have HLK:=Lib.hid hLl
    have hwz:=HBZ.out.size
    have HBQ:Hid (Below w.heap.size w wr):=Lib.hid (HBW.out.trans (HBZ.out.mono HBW.out.size))
    have y1:=(HBQ.out.cell (p:=⟨b,off+i,none⟩) HBB.out).trans HCL0.out
    obtain⟨t0,t1,t2,t3,t4,t5,t6,t7,t8,tf⟩:=(HS.out.below HBZ.out).all
    clear hLl
    by_cases hlt2:k<s.length
    ·obtain⟨b2,off2,a9,c9,hsa,-,hb2,hc2,ht2⟩:=HTS.out.at k hlt2
     subst hsa
     have m0:=(HBQ.out.cell (p:=⟨b2,off2+k*3,none⟩) hb2).trans hc2.var
     have m1:=(HBQ.out.cell (p:=⟨b2,off2+k*3+1,none⟩) hb2).trans hc2.name
     have m2:=(HBQ.out.cell (p:=⟨b2,off2+k*3+2,none⟩) hb2).trans hc2.args
     have HTK2:Hid ((s.take (k+1)).map (far 0)=(s.take k).map (far 0)++[far 0 s[k]]):=Lib.hid (by rw[List.take_succ_eq_append_getElem hlt2,List.map_append];rfl)
     have HCL:Hid (Calls Try.prog 127 #[.agg #[.int .i64 s[k].var,.string s[k].name,.slice a9 s[k].args.length c9],.int .i64 0] wr (RetNew wr (fun b=>ok b∧b<w.heap.size) (far 0 s[k]))):=Lib.hid (
      FarBW (K:=0) s[k] _ (fun b=>ok b∧b<w.heap.size) a9 c9 (fun b hb=>Nat.lt_of_lt_of_le hb.2 HBQ.out.size) (HBA.out _ (List.getElem_mem hlt2)) hc2.fits (ht2.keep (Keeps.below HBQ.out _)) (fun p hp _=>by have:=parts_i64 s[k] hc2.fits a9 c9 ht2 p hp;rwa [Int.add_zero]))
     obtain⟨i0,hi0,hz0',hz1',hz2'⟩:=info_parts Try.infoTm
     clear hc2 ht2
     go_wp2_with (first
      | (go_at_call 127;refine HCL.out.mono ?_;rintro e w1 ⟨a8,c8,rfl,hf3,ht3,hb3⟩;have HB1:=Lib.hid hb3;have HO1:=Lib.hid ((ownsRow_below HOW.out.own HB1.out).alloc (.cells #[.int .i64 (far 0 s[k]).var,.string (far 0 s[k]).name,.slice a8 (far 0 s[k]).args.length c8] 24));have HF3:=Lib.hid hf3;have HT3:=Lib.hid ht3;clear hf3 ht3 hb3)
      | (at_builtin;have _g:=HO1;(refine wpList_append_opt _ rfl _ _ 146 rfl wo.heap.size 24 i0 _ 3 48 Try.underlying146 hi0 hz0' hz1' hz2' rfl (by decide) _ _ _ rfl HO1.out (some ⟨w1.heap.size,0,none⟩) 1 1 ?dd0 (flat [(far 0 s[k],a8,c8)]) rfl (by rw[flat_length];rfl) ?dd1 (flat_one _) ?dd2 ?dd3 ?dd4 ?_)))
     any_goals (first | (intro h;cases h;done) | exact news3 _ _ a8 c8 rfl | (have:=HLK.out;unfold maxLen;omega) | (have:=HLK.out;omega) | (have:=HB1.out.size;simp only[World.size_alloc];omega))
     intro v4 w4 hown4 hgrow4 hfr4
     have HNX:=Lib.hid (OwnTs.more (wX:=wr) HOW.out HBZ.out (fun b hb=>Nat.lt_of_lt_of_le hb.2 HBW.out.size) (Nat.le_refl _) HB1.out HF3.out HT3.out ((Below.refl _ _).alloc (Nat.le_refl _) _) hown4 hgrow4 hfr4)
     clear hown4 hgrow4 hfr4
     go_wp2_with fail
     go_roundw
     case measure=>simp only[intOf];omega
     case rel=>exact⟨k+1,_,by omega,by go_num,Lib.hid (by rw[List.map_append,HL.out,HTK2.out];rfl),Lib.hid HNX.out.1,Lib.hid HNX.out.2⟩
    ·have HLE:Hid ((s.take k).map (far 0)=mvA s):=Lib.hid (by rw[List.take_of_length_le (by omega)];rfl)
     have hex:∃ l a c,Value.slice xa L.length xc=.slice a l.length c∧l=mvA s∧Ts wr (OkN (fun b=>ok b∧b<w.heap.size) wo) l a c:=by
      obtain⟨a,c,e1,e2⟩:=HOW.out.ret (w:=wo) (Nat.le_refl _)
      exact⟨L.map (·.1),a,c,e1,HL.out.trans HLE.out,e2⟩
     obtain⟨l,la,lc,hle,hll,hlt3⟩:=hex
     have HLT:=Lib.hid hlt3;have HLL:=Lib.hid hll
     rw[hle]
     obtain⟨i0,zc,hi0,hz0,hz1,hz2,hz3⟩:=infoAnM
     have HO1:=Lib.hid ((ownsRow_below HA.out.row HBZ.out).alloc (.cells #[.slice la l.length lc] 146))
     have hA9:A.length*24≤140737488355328:=by have:=HAL.out;omega
     have g8:wr.cell? ⟨w.heap.size+1+1,8,none⟩=some (.slice aa A.length ac):=by rw[← HA.out.len];exact(HA.out.box.below HBZ.out).all.2.2.2.2.2.2.2.2.1
     clear hle hll hlt3
     go_wp2_with (at_builtin;have _g:=HO1;(refine wpList_append_fresh _ rfl _ _ 64 rfl wc.heap.size 146 i0 zc 1 24 Try.underlying64 hi0 hz0 hz1 hz2 hz3 (by decide) _ _ _ rfl HO1.out ⟨wr.heap.size,0,none⟩ 1 1 [.slice la l.length lc] rfl rfl ?e1 ?e2 ?e3 ?e4 ?e5 ?_))
     any_goals (first | exact one_cell _ _ _ | (intro u hu;simp only[List.mem_singleton] at hu;subst hu;rfl) | rfl | (have:=HAL.out;unfold maxLen;omega) | (have:=HAL.out;omega) | (have:=HA.out.touch.size;have:=HBZ.out.size;first | omega | (simp only[World.size_alloc];omega)))
     intro av' X3 hown3 hg3 hfr3
     obtain⟨aa',ac',rfl⟩:=ownsRow_form hown3
     have HXB:Hid (Below wo.heap.size wo (wr.alloc (.cells #[.slice la l.length lc] 146))):=Lib.hid (HBZ.out.trans ((Below.refl _ _).alloc (Nat.le_refl _) _ |>.mono hwz))
     have HNX:=Lib.hid (HA.out.more HXB.out (HLT.out.keep (Keeps.below ((Below.refl _ _).alloc (Nat.le_refl _) _) _)) hwc hown3 hg3 hfr3)
     obtain⟨f0,f1,f2,f3,f4,f5,f6,f7,f8,ff⟩:=(HA.out.box.keep (HA.out.kept HXB.out hwc hg3)).all
     clear hown3 hg3 hfr3
     go_wp2_with fail
     go_roundw
     case measure=>simp only[intOf];omega
     case rel=>exact⟨i+1,_,_,_,by omega,by go_num,Lib.hid (by rw[HTK.out,← HLL.out];exact HNX.out)⟩
  ·have HE:Hid (m.ans.take i=m.ans):=Lib.hid (List.take_of_length_le (by omega))
   have hl:(m.ans.map mvA).length=A.length:=by have:=HA.out.len;rwa [HE.out] at this
   obtain⟨x0,x1,x2,x3,x4,x5,x6,x7,x8',xf⟩:=HA.out.box.all
   have x8:wo.cell? ⟨w.heap.size+1+1,8,none⟩=some (.slice aa A.length ac):=by rw[← HA.out.len];exact x8'
   clear x8'
   have hR:wo.heap[w.heap.size+1]? = some (.cells #[.slice none 0 0,.slice none 0 0,.int .i64 0,.slice none 0 0,.slice none 0 0,.slice none 0 0,.int .i64 0,.int .i64 0,.slice none 0 0] 81 (0,0)):=(HA.out.touch.block _ (by omega) (by omega)).trans HC.out.res
   obtain⟨hF,hT⟩:=mbox_fill (m:={ m with ans:=m.ans.map mvA }) (d:=⟨a1,a2,a3,a4,a5,aa,c1,c2,c3,c4,c5,ac⟩) hR
   rw[hl] at hF hT
   have HF:=Lib.hid hF;have HT:=Lib.hid hT
   obtain⟨e0,e1,e2,e3,e4,e5,e6,e7,e8',-⟩:=hF.all
   have HRR:=Lib.hid hR
   have r0:wo.cell? ⟨w.heap.size+1,0,none⟩=some (.slice none 0 0):=by simp[World.cell?,hR]
   have r1:wo.cell? ⟨w.heap.size+1,1,none⟩=some (.slice none 0 0):=by simp[World.cell?,hR]
   have r2:wo.cell? ⟨w.heap.size+1,2,none⟩=some (.int .i64 0):=by simp[World.cell?,hR]
   have r3:wo.cell? ⟨w.heap.size+1,3,none⟩=some (.slice none 0 0):=by simp[World.cell?,hR]
   have r4:wo.cell? ⟨w.heap.size+1,4,none⟩=some (.slice none 0 0):=by simp[World.cell?,hR]
   have r5:wo.cell? ⟨w.heap.size+1,5,none⟩=some (.slice none 0 0):=by simp[World.cell?,hR]
   have r6:wo.cell? ⟨w.heap.size+1,6,none⟩=some (.int .i64 0):=by simp[World.cell?,hR]
   have r7:wo.cell? ⟨w.heap.size+1,7,none⟩=some (.int .i64 0):=by simp[World.cell?,hR]
   have r8:wo.cell? ⟨w.heap.size+1,8,none⟩=some (.slice none 0 0):=by simp[World.cell?,hR]
   have rf:∀ o,wo.frozen? ⟨w.heap.size+1,o,none⟩=false:=fun o=>by simp[World.frozen?,hR]
   clear hR hF hT
   rw[hl] at e8'
   simp only at e0 e1 e2 e3 e4 e5 e6 e7 e8' HF HT
   go_wp2_with fail
   refine bodyPost_ret (v:=.agg #[.slice a1 m.H.length c1,.slice a2 m.G.length c2,.int .i64 m.first,.slice a3 m.ch.length c3,.slice a4 m.T.length c4,.slice a5 m.Q.length c5,.int .i64 m.steps,.int .i64 m.fin,.slice aa A.length ac]) (by simp[results,Try.results98,go_sem,e0,e1,e2,e3,e4,e5,e6,e7,e8']) rfl ?_
   have hA2:=HA.out
   rw[HE.out] at hA2
   have hC2:=HC.out
   rw[HVT.out,HVQ.out] at hC2
   obtain⟨z1,z2⟩:=cp_done hC2 hA2 HT.out (fun j hj=>by obtain⟨_,_,_,_,_,_,_,_,hf⟩:=HM.out.h.at' j hj;exact hf)
   refine⟨_,?_,z1,z2⟩
   simp only[Mac.vals]
   rw[hl]
end Go.Proofs.Ytikmgiapjigghaa

/- A copied machine that is gone back, by hand. -/
namespace Go.Proofs.Ytikmgiapjigghaa
open Go.RowKit
structure LasC(V0:World)(B base:Nat)(m:Mac)(d:MAd):Prop where
 lt:B<V0.heap.size∧base≤V0.heap.size
 ne:∀ b,bk d.h=some b→b≠B
 fits:∀ b,bk d.h=some b→base≤b∧b<V0.heap.size
 g:RwAt V0 (fun b=>b<V0.heap.size∧b≠B∧bk d.h≠some b) 3 m.G.length (flatG m.G) d.g d.gn
 c:RwAt V0 (fun b=>b<V0.heap.size∧b≠B∧bk d.h≠some b) 5 m.ch.length (flatK m.ch) d.c d.cn
 t:IsAt V0 (fun b=>b<V0.heap.size∧b≠B∧bk d.h≠some b) m.T d.t d.tn
 q:IsAt V0 (fun b=>b<V0.heap.size∧b≠B∧bk d.h≠some b) m.Q d.q d.qn
 a:AsAt V0 (fun b=>b<V0.heap.size∧b≠B∧bk d.h≠some b) m.ans d.a d.an
theorem OwM.lasC{w1 V0:World}{B base:Nat}{okA:Nat→Prop}{m:Mac}{d:MAd}(h:OwM w1 base okA m d)(hB:w1.heap.size≤B)(hBV:B<V0.heap.size)(hb:base≤w1.heap.size)(ht:Below w1.heap.size w1 V0):LasC V0 B base m d:=by
 have hs:=ht.size
 have hn:=h.ne
 unfold Nd at hn
 simp only[List.pairwise_cons,List.mem_cons,List.not_mem_nil,or_false,forall_eq_or_imp,forall_eq] at hn
 obtain⟨⟨n1,n2,n3,n4,n5⟩,-⟩:=hn
 have hk:Keeps (fun b=>b<w1.heap.size∧b≠B∧bk d.h≠some b) w1 V0:=Keeps.below ht _
 have key:∀ {e:TypeId} {k n n' c:Nat} {a:Option Addr} {vs:List Value},w1.ownsRow base e k (.slice a n c) n' vs→(∀ b,bk d.h=some b→bk a≠some b)→∀ b,(Value.slice a n c).ownBlock=some b→b<w1.heap.size∧b≠B∧bk d.h≠some b:=fun hr hne b hb =>
  ⟨(hr.lt b hb).2,fun e=>by have:=(hr.lt b hb).2;omega,fun e=>hne b e ((bk_own _ _ _).symm.trans hb)⟩
 refine⟨⟨hBV,by omega⟩,fun b hb=>?_,fun b hb=>?_,?_,?_,?_,?_,?_⟩
 ·have:=h.h.row.lt b ((bk_own _ _ _).trans hb);omega
 ·have:=h.h.row.lt b ((bk_own _ _ _).trans hb);omega
 ·obtain⟨a,c,e,hr⟩:=RwAt.of_row (ok:=fun b=>b<w1.heap.size∧b≠B∧bk d.h≠some b) h.g (flatG_length _) (key h.g n1)
  injection e with e1 _ e2
  subst e1;subst e2
  exact(hr.keep hk).mono fun b _ hb=>⟨by omega,hb.2⟩
 ·obtain⟨a,c,e,hr⟩:=RwAt.of_row (ok:=fun b=>b<w1.heap.size∧b≠B∧bk d.h≠some b) h.c (flatK_length _) (key h.c n2)
  injection e with e1 _ e2
  subst e1;subst e2
  exact(hr.keep hk).mono fun b _ hb=>⟨by omega,hb.2⟩
 ·obtain⟨a,c,e,hr⟩:=IsAt.of_row (ok:=fun b=>b<w1.heap.size∧b≠B∧bk d.h≠some b) h.t (key h.t n3)
  injection e with e1 _ e2
  subst e1;subst e2
  exact(hr.keep hk).mono fun b _ hb=>⟨by omega,hb.2⟩
 ·obtain⟨a,c,e,hr⟩:=IsAt.of_row (ok:=fun b=>b<w1.heap.size∧b≠B∧bk d.h≠some b) h.q (key h.q n4)
  injection e with e1 _ e2
  subst e1;subst e2
  exact(hr.keep hk).mono fun b _ hb=>⟨by omega,hb.2⟩
 ·obtain⟨A,e1,e2,e3⟩:=h.a
  obtain⟨a,c,e,hr⟩:=AsAt.of_row (ok:=fun b=>b<w1.heap.size∧b≠B∧bk d.h≠some b) e2 (key e2 n5) fun x hx=>(e3 x hx).mono fun b hb h=>⟨hb,by omega,fun e=>h.2 _ List.mem_cons_self e⟩
  rw[e1] at e hr
  injection e with f1 _ f2
  subst f1;subst f2
  exact(hr.keep hk).mono fun b _ hb=>⟨by omega,hb.2⟩
theorem LasI.touchC{V0 W W':World}{B base:Nat}{m:Mac}{d:MAd}{mi:Mac}(h:LasI V0 B base m d mi W)(hb:LasC V0 B base m d)(ht:Touch (fun b=>V0.heap.size≤b) W W'):LasI V0 B base m d mi W':=by
 have h0:=hb.lt
 refine⟨h.box.keep (ht.block B h.box.lt (by omega)),h.own.keep fun g hg=>?_,h.keep.trans (ht.mono fun b _ e=>.inr (.inr e))⟩
 have hg':=hb.fits g ((bk_own _ _ _).symm.trans hg)
 exact ht.block g (by have:=h.keep.size;omega) (by omega)
theorem LasI.keepsC{V0 W:World}{B base:Nat}{m:Mac}{d:MAd}{mi:Mac}(h:LasI V0 B base m d mi W):Keeps (fun b=>b<V0.heap.size∧b≠B∧bk d.h≠some b) V0 W:=h.keep.keeps fun b hb e=>by
 rcases e with e | e | e
 ·exact hb.2.1 e
 ·exact hb.2.2 e
 ·omega
theorem LasI.macC{V0 W:World}{B base:Nat}{m:Mac}{d:MAd}{mi:Mac}(h:LasI V0 B base m d mi W)(hb:LasC V0 B base m d)(hu:UndoIs m mi):MacAt W (fun _=>True) mi d:=by
 have hk:=h.keepsC
 obtain⟨kg,hg1,hg2⟩:=hu.g
 obtain⟨kt,ht1,ht2⟩:=hu.t
 refine⟨?_,?_,?_,?_,?_,?_⟩
 ·obtain⟨a,c,e,hr⟩:=HpAt.of_row (ok:=fun _=>True) h.own.row (fun _ _=>trivial) h.own.fits
  injection e with e1 _ e2
  subst e1;subst e2
  exact hr
 ·rw[hg2];exact((hb.g.keep hk).takeG kg).mono fun _ _ _=>trivial
 ·rw[hu.c];exact(hb.c.keep hk).mono fun _ _ _=>trivial
 ·rw[ht2];exact((hb.t.keep hk).take kt).mono fun _ _ _=>trivial
 ·rw[hu.q];exact(hb.q.keep hk).mono fun _ _ _=>trivial
 ·rw[hu.a];exact(hb.a.keep hk).mono fun _ _ _=>trivial
theorem LasI.uatC{V0 W:World}{B base:Nat}{m:Mac}{d:MAd}{mi:Mac}(h:LasI V0 B base m d mi W)(hb:LasC V0 B base m d)(hu:UndoIs m mi):UAt W B 0 (mi.vals d).toArray 81 base mi.H mi.T mi.G.length d.h d.t d.g d.hn d.tn d.gn:=by
 have hk:=h.keepsC
 obtain⟨kg,hg1,hg2⟩:=hu.g
 obtain⟨kt,ht1,ht2⟩:=hu.t
 refine⟨h.box.blk,rfl,rfl,rfl,h.own,?_,fun e=>hb.ne B ((bk_own _ _ _).symm.trans e) rfl,?_⟩
 ·rw[ht2];exact((hb.t.keep hk).take kt).mono fun b _ hb=>⟨hb.2.1,fun e=>hb.2.2 ((bk_own _ _ _).symm.trans e)⟩
 ·have:=hb.g.cap;rw[hg2,List.length_take];omega
theorem undo_made{W wr:World}{B:Nat}{vs:Array Value}{ty:TypeId}{base:Nat}{H:List HC}{T:List Int}{nG:Nat}{ha ta ga:Option Addr}{hn tn gn:Nat}(hU:UAt W B 0 vs ty base H T nG ha ta ga hn tn gn){c:Chi}
 (hH:0≤c.heap∧c.heap≤(H.length:Int)) (HO:HOwn wr base (.slice ha H.length hn) (unbind c.heap (T.drop c.trail.toNat) H)) (HT:Touch (fun b=>(Value.slice ha H.length hn).ownBlock=some b) W wr) :
 UndoMPost W B 0 vs ty base H T ha ta ga hn tn gn c (.returned (.tuple #[])) (((wr.setCell ⟨B,0,none⟩ (.slice ha c.heap.toNat hn)).setCell ⟨B,4,none⟩ (.slice ta c.trail.toNat tn)).setCell ⟨B,1,none⟩ (.slice ga c.goals.toNat gn)):=by
 have zB:B<W.heap.size:=(Array.getElem?_eq_some_iff.1 hU.blk).1
 have hkB:wr.heap[B]? = some (.cells vs ty (0,0)):=(HT.block B zB hU.ne).trans hU.blk
 have z1:=heap_setCell_at wr B 0 (.slice ha c.heap.toNat hn) hkB
 have z2:=heap_setCell_at _ B 4 (.slice ta c.trail.toNat tn) z1
 have z3:=heap_setCell_at _ B 1 (.slice ga c.goals.toNat gn) z2
 have hcut:=HO.cut (k:=c.heap.toNat) (by rw[unbind_length];omega)
 have hown:HOwn (((wr.setCell ⟨B,0,none⟩ (.slice ha c.heap.toNat hn)).setCell ⟨B,4,none⟩ (.slice ta c.trail.toNat tn)).setCell ⟨B,1,none⟩ (.slice ga c.goals.toNat gn)) base (.slice ha c.heap.toNat hn) ((unbind c.heap (T.drop c.trail.toNat) H).take c.heap.toNat):=hcut.keep fun g hg=>by
  have hgB:g≠B:=fun e=>hU.ne (by
   cases ha with
   | none=>cases hg
   | some a=>rw[← e];exact hg)
  rw[Below.heap_setCell _ _ _ _ hgB,Below.heap_setCell _ _ _ _ hgB,Below.heap_setCell _ _ _ _ hgB]
 have hto:Touch (fun b=>b=B∨(Value.slice ha H.length hn).ownBlock=some b) W (((wr.setCell ⟨B,0,none⟩ (.slice ha c.heap.toNat hn)).setCell ⟨B,4,none⟩ (.slice ta c.trail.toNat tn)).setCell ⟨B,1,none⟩ (.slice ga c.goals.toNat gn)) :=
  (((HT.mono fun b _ e=>.inr e).trans (Touch.setCell _ (.inl rfl))).trans (Touch.setCell _ (.inl rfl))).trans (Touch.setCell _ (.inl rfl))
 exact⟨⟨_,rfl⟩,hto,z3,hown⟩
end Go.Proofs.Ytikmgiapjigghaa
