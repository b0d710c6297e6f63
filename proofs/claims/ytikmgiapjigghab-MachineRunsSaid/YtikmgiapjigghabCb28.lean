/- Walk: a machine of one's own: its first rows. -/
import Derived.Deep.CutRange
import Derived.Test.YtikmgiapjigghabCb12
import Derived.Test.YtikmgiapjigghabCb16
import Derived.Test.YtikmgiapjigghabCb27
namespace Go.Proofs.Ytikmgiapjigghab
open Go.RowKit
theorem ownsRow_form{w:World}{base:Nat}{e:TypeId}{size:Nat}{v:Value}{n:Nat}{xs:List Value}(h:w.ownsRow base e size v n xs):∃ a c,v=.slice a n c:=by
 rcases h.2 with ⟨h1,h2⟩ | ⟨g,cap,cur,h1,_⟩
 ·exact⟨none,0,by rw[h1,h2]⟩
 ·exact⟨_,_,h1⟩
theorem HpAt.rw'{w:World}{ok:Nat→Prop}{H:List HC}{a:Option Addr}{cap:Nat}(h:HpAt w ok H a cap):RwAt w ok 3 H.length (flatH H) a cap:=by
 refine⟨h.cap,flatH_length H,fun j u hu=>?_⟩
 have hl:j<(flatH H).length:=(List.getElem?_eq_some_iff.1 hu).1
 rw[flatH_length] at hl
 have hi:j / 3<H.length:=by omega
 obtain⟨b,off,e,hok,hb,-⟩:=h.at' (j / 3) hi
 subst e
 refine⟨b,off,rfl,hok,hb,?_⟩
 have:=h.news j u hu
 rw[addr_add] at this
 exact this
theorem IsAt.rw'{w:World}{ok:Nat→Prop}{l:List Int}{a:Option Addr}{cap:Nat}(h:IsAt w ok l a cap):RwAt w ok 1 l.length (l.map fun x=>Value.int .i64 x) a cap:=by
 refine⟨h.cap,by simp,fun j u hu=>?_⟩
 have hl:j<l.length:=by have:=(List.getElem?_eq_some_iff.1 hu).1;simpa using this
 obtain⟨b,off,e,hok,hb,hc⟩:=h.at' j hl
 refine⟨b,off,e,hok,hb,?_⟩
 rw[List.getElem?_map,List.getElem?_eq_getElem hl] at hu
 simp only[Option.map_some,Option.some.injEq] at hu
 rw[hc,hu]
theorem ints_one(l:List Int):∀ u∈l.map (fun x=>Value.int .i64 x),u.oneCell'=true:=by
 intro u hu
 obtain⟨x,_,rfl⟩:=List.mem_map.1 hu
 rfl
structure MacBig(m:Mac):Prop where
 h:m.H.length*32≤140737488355328
 g:m.G.length*24≤140737488355328
 c:m.ch.length*40≤140737488355328
 t:m.T.length*8≤140737488355328
 q:m.Q.length*8≤140737488355328
 a:m.ans.length*24≤140737488355328
 each:∀ l,l∈m.ans→l.length*48≤140737488355328∧∀ t,t∈l→ArgB t
def MakesRow(f:Nat)(e:TypeId)(k:Nat)(a:Value)(n:Nat)(vs:List Value)(w:World):Prop :=
 ∀ u,Below w.heap.size w u→Calls Try.prog f #[a] u fun e' w'=>(∃ a c,e'=.returned (.slice a n c)∧w'.ownsRow u.heap.size e k (.slice a n c) n vs)∧Below u.heap.size u w'
theorem MakesRow.of{f:Nat}{e:TypeId}{k:Nat}{a:Value}{n:Nat}{vs:List Value}{w:World}(h:∀ u,Below w.heap.size w u→Calls Try.prog f #[a] u fun e' w'=>(∃ v,e'=.returned v∧w'.ownsRow u.heap.size e k v n vs)∧Below u.heap.size u w'):MakesRow f e k a n vs w:=fun u hu =>
 (h u hu).mono fun e' w' ⟨⟨v,h1,h2⟩,h3⟩=>by
  obtain⟨a,c,rfl⟩:=ownsRow_form h2
  exact⟨⟨a,c,h1,h2⟩,h3⟩
def bk(a:Option Addr):Option Nat:=(Value.slice a 0 0).ownBlock
theorem bk_own(a:Option Addr)(n c:Nat):(Value.slice a n c).ownBlock=bk a:=by cases a <;> rfl
def Nd(l:List (Option Nat)):Prop:=l.Pairwise fun x y=>∀ b,x=some b→y≠some b
theorem Nd.up{l:List (Option Nat×Nat×Nat)}(h1:∀ x,x∈l→∀ b,x.1=some b→x.2.1≤b∧b<x.2.2)(h2:l.Pairwise fun x y=>x.2.2≤y.2.1):Nd (l.map (·.1)):=by
 unfold Nd
 rw[List.pairwise_map]
 refine List.Pairwise.imp_of_mem (fun {x y} hx hy h b e1 e2=>?_) h2
 have:=h1 x hx b e1
 have:=h1 y hy b e2
 omega
structure Own1(w wx:World)(m:Mac)(d d':MAd):Prop where
 box:MBox wx w.heap.size m { d with h:=d'.h,g:=d'.g,c:=d'.c,hn:=d'.hn,gn:=d'.gn,cn:=d'.cn }
 res:wx.heap[w.heap.size+1]? = some (.cells #[.slice none 0 0,.slice none 0 0,.int .i64 0,.slice none 0 0,.slice none 0 0,.slice none 0 0,.int .i64 0,.int .i64 0,.slice none 0 0] 30 (0,0))
 h:wx.ownsRow (w.heap.size+2) 69 3 (.slice d'.h m.H.length d'.hn) m.H.length (flatH m.H)
 g:wx.ownsRow (w.heap.size+2) 65 3 (.slice d'.g m.G.length d'.gn) m.G.length (flatG m.G)
 c:wx.ownsRow (w.heap.size+2) 67 5 (.slice d'.c m.ch.length d'.cn) m.ch.length (flatK m.ch)
 ne:Nd [bk d'.h,bk d'.g,bk d'.c]
 below:Below w.heap.size w wx
theorem ownsRow_base{w:World}{base base':Nat}{e:TypeId}{size:Nat}{v:Value}{n:Nat}{xs:List Value}(h:w.ownsRow base e size v n xs)(hb:base'≤base):w.ownsRow base' e size v n xs :=
 ⟨h.1,h.2.imp id fun ⟨g,c,cur,e1,e2,e3⟩=>⟨g,c,cur,e1,Nat.le_trans hb e2,e3⟩⟩
theorem own1_made{w u w1 w2 w3:World}{m:Mac}{d:MAd}(hu:Below w.heap.size w u)(hus:u.heap.size=w.heap.size+2)(hx:MBox u w.heap.size m d)(hz:u.heap[w.heap.size+1]? = some (.cells #[.slice none 0 0,.slice none 0 0,.int .i64 0,.slice none 0 0,.slice none 0 0,.slice none 0 0,.int .i64 0,.int .i64 0,.slice none 0 0] 30 (0,0))){a1 a2 a3:Option Addr}{c1 c2 c3:Nat}
 (ho1:w1.ownsRow u.heap.size 69 3 (.slice a1 m.H.length c1) m.H.length (flatH m.H)) (hb1:Below u.heap.size u w1)
 (ho2:w2.ownsRow w1.heap.size 65 3 (.slice a2 m.G.length c2) m.G.length (flatG m.G)) (hb2:Below w1.heap.size w1 w2)
 (ho3:w3.ownsRow w2.heap.size 67 5 (.slice a3 m.ch.length c3) m.ch.length (flatK m.ch)) (hb3:Below w2.heap.size w2 w3) :
 Own1 w (((w3.setCell ⟨w.heap.size,0,none⟩ (.slice a1 m.H.length c1)).setCell ⟨w.heap.size,1,none⟩ (.slice a2 m.G.length c2)).setCell ⟨w.heap.size,3,none⟩ (.slice a3 m.ch.length c3)) m d ⟨a1,a2,a3,none,none,none,c1,c2,c3,0,0,0⟩:=by
 have s1:=hb1.size;have s2:=hb2.size;have s3:=hb3.size
 have hB3:Below u.heap.size u w3:=(hb1.trans (hb2.mono s1)).trans (hb3.mono (Nat.le_trans s1 s2))
 have hx3:=(hx.below hB3).blk
 have k1:=heap_setCell_at w3 w.heap.size 0 (.slice a1 m.H.length c1) hx3
 have k2:=heap_setCell_at _ w.heap.size 1 (.slice a2 m.G.length c2) k1
 have k3:=heap_setCell_at _ w.heap.size 3 (.slice a3 m.ch.length c3) k2
 have hne:∀ b,b≠w.heap.size→(((w3.setCell ⟨w.heap.size,0,none⟩ (.slice a1 m.H.length c1)).setCell ⟨w.heap.size,1,none⟩ (.slice a2 m.G.length c2)).setCell ⟨w.heap.size,3,none⟩ (.slice a3 m.ch.length c3)).heap[b]? = w3.heap[b]?:=fun b hb=>by
  rw[Below.heap_setCell _ _ _ _ hb,Below.heap_setCell _ _ _ _ hb,Below.heap_setCell _ _ _ _ hb]
 have g1:∀ b,(Value.slice a1 m.H.length c1).ownBlock=some b→u.heap.size≤b∧b<w1.heap.size:=fun b hb=>ho1.lt b hb
 have g2:∀ b,(Value.slice a2 m.G.length c2).ownBlock=some b→w1.heap.size≤b∧b<w2.heap.size:=fun b hb=>ho2.lt b hb
 have g3:∀ b,(Value.slice a3 m.ch.length c3).ownBlock=some b→w2.heap.size≤b∧b<w3.heap.size:=fun b hb=>ho3.lt b hb
 refine⟨⟨k3⟩,?_,?_,?_,?_,?_,?_⟩
 ·rw[hne _ (by omega),hB3.block _ (by omega)];exact hz
 ·exact ownsRow_base (ownsRow_block (ownsRow_below (ownsRow_below ho1 hb2) hb3) fun g hg=>hne g (by have:=g1 g hg;omega)) (by omega)
 ·exact ownsRow_base (ownsRow_block (ownsRow_below ho2 hb3) fun g hg=>hne g (by have:=g2 g hg;omega)) (by omega)
 ·exact ownsRow_base (ownsRow_block ho3 fun g hg=>hne g (by have:=g3 g hg;omega)) (by omega)
 ·exact Nd.up (l:=[(bk a1,u.heap.size,w1.heap.size),(bk a2,w1.heap.size,w2.heap.size),(bk a3,w2.heap.size,w3.heap.size)]) (by
   intro x hx b hb
   simp only[List.mem_cons,List.not_mem_nil,or_false] at hx
   rcases hx with rfl | rfl | rfl
   ·exact g1 b ((bk_own _ _ _).trans hb)
   ·exact g2 b ((bk_own _ _ _).trans hb)
   ·exact g3 b ((bk_own _ _ _).trans hb)) (by simp[List.pairwise_cons];omega)
 ·have ht:Touch (fun b=>b=w.heap.size) w3 _:=((Touch.setCell (M:=fun b=>b=w.heap.size) (w:=w3) (p:=⟨w.heap.size,0,none⟩) (.slice a1 m.H.length c1) rfl).trans (Touch.setCell (M:=fun b=>b=w.heap.size) (p:=⟨w.heap.size,1,none⟩) (.slice a2 m.G.length c2) rfl)).trans (Touch.setCell (M:=fun b=>b=w.heap.size) (p:=⟨w.heap.size,3,none⟩) (.slice a3 m.ch.length c3) rfl)
  exact(hu.trans (hB3.mono (by omega))).trans (ht.toBelow (by omega) fun b e=>by omega)
theorem Try.infoAnM1:(Try.prog.info? 78).map (fun i=>(i.size,i.bytes))=some (1,24):=by kernel_rfl
theorem Try.infoAnM2:((Try.prog.info? 78).bind (fun i=>i.zero)).map (fun z=>z.cells.size)=some 1:=by kernel_rfl
theorem infoAnM:∃ i z,Try.prog.info? 78=some i∧i.zero=some z∧i.size=1∧i.bytes=24∧z.cells.size=1:=by
 have h1:=Try.infoAnM1;have h2:=Try.infoAnM2
 obtain⟨i,hi,h3⟩:=Option.map_eq_some_iff.1 h1
 obtain⟨z,hz,h4⟩:=Option.map_eq_some_iff.1 h2
 rw[hi,Option.bind_some] at hz
 simp only[Prod.mk.injEq] at h3
 exact⟨i,z,hi,hz,h3.1,h3.2,h4⟩
theorem parts_i64{w:World}{ok:Nat→Prop}(t:Tm):t.fits→∀ (a:Option Addr) (cap:Nat),Ts w ok t.args a cap→∀ p,p∈t.parts→I64 p.var:=by
 induction t using Tm.ind with
 | h v n l ih =>
  intro hf a cap ht p hp
  rw[Tm.parts] at hp
  rcases List.mem_cons.1 hp with rfl | hp
  ·exact hf.1
  ·obtain⟨x,hx,hp⟩:=partss_sub _ _ hp
   obtain⟨k,hk,rfl⟩:=List.getElem_of_mem hx
   obtain⟨b,off,a',cap',_,_,_,hc,h2⟩:=Ts.at (l:=l) ht k hk
   exact ih _ (List.getElem_mem hk) hc.fits a' cap' h2 p hp
def mvA(l:List Tm):List Tm:=l.map (far 0)
structure AnsRel(w:World)(ok:Nat→Prop)(wb wr:World)(l:List (List Tm))(v:Value)(A:List ((Option Addr×Nat)×List Tm)):Prop where
 row:wr.ownsRow wb.heap.size 78 1 v A.length (flatA A)
 eq:A.map (·.2)=l
 each:∀ x,x∈A→Ts wr (fun b=>((ok b∧b<w.heap.size)∨wb.heap.size≤b)∧v.ownBlock≠some b) x.2 x.1.1 x.1.2
 below:Below wb.heap.size wb wr
theorem AnsRel.more{w:World}{ok:Nat→Prop}{wb wr X w':World}{l:List (List Tm)}{v v':Value}{A:List ((Option Addr×Nat)×List Tm)}(h:AnsRel w ok wb wr l v A)(hX:Below wr.heap.size wr X){r:List Tm}{a:Option Addr}{c:Nat}(ht:Ts X (OkN (fun b=>ok b∧b<w.heap.size) wr) r a c)(hw:w.heap.size≤wb.heap.size)
 (ho:w'.ownsRow wb.heap.size 78 1 v' (A.length+1) (flatA A++[.slice a r.length c])) (hg:X.grownBy w' v.ownBlock) (hf:Fresh X v v'):AnsRel w ok wb w' (l++[r]) v' (A++[((a,c),r)]):=by
 have hlt:∀ b,v.ownBlock=some b→wb.heap.size≤b∧b<wr.heap.size:=fun b hb=>h.row.lt b hb
 have hs:=h.below.size
 have key:∀ {r:List Tm} {a:Option Addr} {c:Nat},Ts X (fun b=>((ok b∧b<w.heap.size)∨wb.heap.size≤b)∧v.ownBlock≠some b) r a c→Ts w' (fun b=>((ok b∧b<w.heap.size)∨wb.heap.size≤b)∧v'.ownBlock≠some b) r a c:=fun {r a c} ht=>by
  have h1:Ts X (fun b=>(((ok b∧b<w.heap.size)∨wb.heap.size≤b)∧v.ownBlock≠some b)∧b<X.heap.size) r a c:=ht.mono fun b hb h=>⟨h,hb⟩
  have h2:Keeps (fun b=>(((ok b∧b<w.heap.size)∨wb.heap.size≤b)∧v.ownBlock≠some b)∧b<X.heap.size) X w':=⟨hg.size,fun b hb hs=>hg.block b hs (fun e=>hb.1.2 e.symm)⟩
  refine(h1.keep h2).mono fun b _ hb=>⟨hb.1.1,?_⟩
  rcases hf with hf | hf
  ·rw[hf];exact hb.1.2
  ·intro e;have:=hf b e;omega
 refine⟨by rw[List.length_append];simpa[flatA] using ho,by rw[List.map_append,h.eq];rfl,fun x hx=>?_,(h.below.trans (hX.mono hs)).grown hg (Nat.le_trans hs hX.size) (fun k hk=>(hlt k hk).1)⟩
 rcases List.mem_append.1 hx with hx | hx
 ·exact key ((h.each x hx).keep (Keeps.below hX _))
 ·rw[List.mem_singleton] at hx
  subst hx
  refine key (ht.mono fun b _ hb=>?_)
  rcases hb with hb | hb
  ·exact⟨.inl hb,fun e=>by have:=hlt b e;omega⟩
  ·exact⟨.inr (by omega),fun e=>by have:=hlt b e;omega⟩
structure Own2(w wx:World)(m:Mac)(d d':MAd):Prop where
 box:MBox wx w.heap.size m { d' with a:=d.a,an:=d.an }
 res:wx.heap[w.heap.size+1]? = some (.cells #[.slice none 0 0,.slice none 0 0,.int .i64 0,.slice none 0 0,.slice none 0 0,.slice none 0 0,.int .i64 0,.int .i64 0,.slice none 0 0] 30 (0,0))
 h:wx.ownsRow (w.heap.size+2) 69 3 (.slice d'.h m.H.length d'.hn) m.H.length (flatH m.H)
 g:wx.ownsRow (w.heap.size+2) 65 3 (.slice d'.g m.G.length d'.gn) m.G.length (flatG m.G)
 c:wx.ownsRow (w.heap.size+2) 67 5 (.slice d'.c m.ch.length d'.cn) m.ch.length (flatK m.ch)
 t:wx.ownsRow (w.heap.size+2) 3 1 (.slice d'.t m.T.length d'.tn) m.T.length (m.T.map fun x=>Value.int .i64 x)
 q:wx.ownsRow (w.heap.size+2) 3 1 (.slice d'.q m.Q.length d'.qn) m.Q.length (m.Q.map fun x=>Value.int .i64 x)
 ne:Nd [bk d'.h,bk d'.g,bk d'.c,bk d'.t,bk d'.q]
 below:Below w.heap.size w wx
theorem own2_made{w u w1 w2:World}{m:Mac}{d d':MAd}(hu:Own1 w u m d d'){a1 a2:Option Addr}{c1 c2:Nat}
 (ho1:w1.ownsRow u.drew.heap.size 3 1 (.slice a1 m.T.length c1) m.T.length (m.T.map fun x=>Value.int .i64 x)) (hb1:Below u.drew.heap.size u.drew w1)
 (ho2:w2.ownsRow w1.heap.size 3 1 (.slice a2 m.Q.length c2) m.Q.length (m.Q.map fun x=>Value.int .i64 x)) (hb2:Below w1.heap.size w1 w2) :
 Own2 w ((w2.setCell ⟨w.heap.size,4,none⟩ (.slice a1 m.T.length c1)).setCell ⟨w.heap.size,5,none⟩ (.slice a2 m.Q.length c2)) m d ⟨d'.h,d'.g,d'.c,a1,a2,none,d'.hn,d'.gn,d'.cn,c1,c2,0⟩:=by
 have hd:Below u.heap.size u u.drew:=(Below.refl _ _).drew
 have s0:=hd.size;have s1:=hb1.size;have s2:=hb2.size
 have hB2:Below u.heap.size u w2:=(hd.trans (hb1.mono s0)).trans (hb2.mono (Nat.le_trans s0 s1))
 have hus:w.heap.size+2≤u.heap.size:=by have:=(Array.getElem?_eq_some_iff.1 hu.res).1;omega
 have hx2:=(hu.box.below hB2).blk
 have k1:=heap_setCell_at w2 w.heap.size 4 (.slice a1 m.T.length c1) hx2
 have k2:=heap_setCell_at _ w.heap.size 5 (.slice a2 m.Q.length c2) k1
 have hne:∀ b,b≠w.heap.size→((w2.setCell ⟨w.heap.size,4,none⟩ (.slice a1 m.T.length c1)).setCell ⟨w.heap.size,5,none⟩ (.slice a2 m.Q.length c2)).heap[b]? = w2.heap[b]?:=fun b hb=>by
  rw[Below.heap_setCell _ _ _ _ hb,Below.heap_setCell _ _ _ _ hb]
 have g1:∀ b,(Value.slice a1 m.T.length c1).ownBlock=some b→u.drew.heap.size≤b∧b<w1.heap.size:=fun b hb=>ho1.lt b hb
 have g2:∀ b,(Value.slice a2 m.Q.length c2).ownBlock=some b→w1.heap.size≤b∧b<w2.heap.size:=fun b hb=>ho2.lt b hb
 have old:∀ {e:TypeId} {k:Nat} {a:Option Addr} {n c:Nat} {vs:List Value},u.ownsRow (w.heap.size+2) e k (.slice a n c) n vs→((w2.setCell ⟨w.heap.size,4,none⟩ (.slice a1 m.T.length c1)).setCell ⟨w.heap.size,5,none⟩ (.slice a2 m.Q.length c2)).ownsRow (w.heap.size+2) e k (.slice a n c) n vs:=fun h =>
  ownsRow_block (ownsRow_below h hB2) fun g hg=>hne g (by have:=h.lt g hg;omega)
 have oldlt:∀ {e:TypeId} {k:Nat} {a:Option Addr} {n c:Nat} {vs:List Value},u.ownsRow (w.heap.size+2) e k (.slice a n c) n vs→∀ b,bk a=some b→b<u.heap.size:=fun h b hb=>(h.lt b ((bk_own _ _ _).trans hb)).2
 refine⟨⟨k2⟩,?_,old hu.h,old hu.g,old hu.c,?_,?_,?_,?_⟩
 ·rw[hne _ (by omega),hB2.block _ (by omega)];exact hu.res
 ·exact ownsRow_base (ownsRow_block (ownsRow_below ho1 hb2) fun g hg=>hne g (by have:=g1 g hg;omega)) (by omega)
 ·exact ownsRow_base (ownsRow_block ho2 fun g hg=>hne g (by have:=g2 g hg;omega)) (by omega)
 ·have hn:=hu.ne
  have l1:=oldlt hu.h;have l2:=oldlt hu.g;have l3:=oldlt hu.c
  have n4:∀ x:Option Nat,(∀ b,x=some b→b<u.heap.size)→(∀ b,x=some b→bk a1≠some b)∧∀ b,x=some b→bk a2≠some b:=fun x hx =>
   ⟨fun b hb e=>by have:=hx b hb;have:=g1 b ((bk_own _ _ _).trans e);omega,fun b hb e=>by have:=hx b hb;have:=g2 b ((bk_own _ _ _).trans e);omega⟩
  have n5:∀ b,bk a1=some b→bk a2≠some b:=fun b hb e=>by have:=g1 b ((bk_own _ _ _).trans hb);have:=g2 b ((bk_own _ _ _).trans e);omega
  unfold Nd at hn ⊢
  simp only[List.pairwise_cons,List.mem_cons,List.not_mem_nil,or_false,forall_eq_or_imp,forall_eq] at hn ⊢
  exact⟨⟨hn.1.1,hn.1.2,(n4 _ l1).1,(n4 _ l1).2⟩,⟨hn.2.1,(n4 _ l2).1,(n4 _ l2).2⟩,⟨(n4 _ l3).1,(n4 _ l3).2⟩,n5,fun _ h=>h.elim,List.Pairwise.nil⟩
 ·have ht:Touch (fun b=>b=w.heap.size) w2 _:=(Touch.setCell (M:=fun b=>b=w.heap.size) (w:=w2) (p:=⟨w.heap.size,4,none⟩) (.slice a1 m.T.length c1) rfl).trans (Touch.setCell (M:=fun b=>b=w.heap.size) (p:=⟨w.heap.size,5,none⟩) (.slice a2 m.Q.length c2) rfl)
  exact(hu.below.trans (hB2.mono (by omega))).trans (ht.toBelow (by omega) fun b e=>by omega)
structure OwM(w:World)(base:Nat)(okA:Nat→Prop)(m:Mac)(d:MAd):Prop where
 h:HOwn w base (.slice d.h m.H.length d.hn) m.H
 g:w.ownsRow base 65 3 (.slice d.g m.G.length d.gn) m.G.length (flatG m.G)
 c:w.ownsRow base 67 5 (.slice d.c m.ch.length d.cn) m.ch.length (flatK m.ch)
 t:w.ownsRow base 3 1 (.slice d.t m.T.length d.tn) m.T.length (m.T.map fun x=>Value.int .i64 x)
 q:w.ownsRow base 3 1 (.slice d.q m.Q.length d.qn) m.Q.length (m.Q.map fun x=>Value.int .i64 x)
 a:∃ A:List ((Option Addr×Nat)×List Tm),A.map (·.2)=m.ans∧w.ownsRow base 78 1 (.slice d.a m.ans.length d.an) A.length (flatA A)∧∀ x,x∈A→Ts w (fun b=>okA b∧∀ y,y∈[bk d.h,bk d.g,bk d.c,bk d.t,bk d.q,bk d.a]→y≠some b) x.2 x.1.1 x.1.2
 ne:Nd [bk d.h,bk d.g,bk d.c,bk d.t,bk d.q,bk d.a]
def OwnPost(w:World)(ok:Nat→Prop)(m:Mac)(e:Ending)(w':World):Prop :=
 ∃ d,e=.returned (.agg ({ m with ans:=m.ans.map mvA }.vals d).toArray)∧OwM w' w.heap.size (fun b=>(ok b∧b<w.heap.size)∨w.heap.size≤b) { m with ans:=m.ans.map mvA } d∧Below w.heap.size w w'
theorem own_done{w wc wo wz:World}{ok:Nat→Prop}{m:Mac}{d d2:MAd}(h2:Own2 w wc m d d2){aa:Option Addr}{ac:Nat}{A:List ((Option Addr×Nat)×List Tm)}(hA:AnsRel w ok wc wo (m.ans.map mvA) (.slice aa A.length ac) A)(ht:Touch (fun b=>b=w.heap.size∨b=w.heap.size+1) wo wz)
 (hf:∀ i,i<m.H.length→(hc m.H i).fits):OwM wz w.heap.size (fun b=>(ok b∧b<w.heap.size)∨w.heap.size≤b) { m with ans:=m.ans.map mvA } ⟨d2.h,d2.g,d2.c,d2.t,d2.q,aa,d2.hn,d2.gn,d2.cn,d2.tn,d2.qn,ac⟩∧Below w.heap.size w wz:=by
 have hs:=h2.below.size
 have hz:w.heap.size+2≤wc.heap.size:=by have:=(Array.getElem?_eq_some_iff.1 h2.res).1;omega
 have hw:=hA.below.size
 have hl:A.length=(m.ans.map mvA).length:=by have:=congrArg List.length hA.eq;simpa using this
 have old:∀ {e:TypeId} {k:Nat} {a:Option Addr} {n c:Nat} {vs:List Value},wc.ownsRow (w.heap.size+2) e k (.slice a n c) n vs→wz.ownsRow w.heap.size e k (.slice a n c) n vs:=fun h =>
  ownsRow_base (ownsRow_block (ownsRow_below h hA.below) fun g hg=>ht.block g (by have:=h.lt g hg;omega) (by have:=h.lt g hg;omega)) (by omega)
 have olt:∀ {e:TypeId} {k:Nat} {a:Option Addr} {n c:Nat} {vs:List Value},wc.ownsRow (w.heap.size+2) e k (.slice a n c) n vs→∀ b,bk a=some b→w.heap.size+2≤b∧b<wc.heap.size:=fun h b hb=>h.lt b ((bk_own _ _ _).trans hb)
 have alt:∀ b,bk aa=some b→wc.heap.size≤b∧b<wo.heap.size:=fun b hb=>hA.row.lt b ((bk_own _ _ _).trans hb)
 have l1:=olt h2.h;have l2:=olt h2.g;have l3:=olt h2.c;have l4:=olt h2.t;have l5:=olt h2.q
 refine⟨⟨⟨old h2.h,hf⟩,old h2.g,old h2.c,old h2.t,old h2.q,⟨A,hA.eq,?_,fun x hx=>?_⟩,?_⟩,?_⟩
 ·have hr:=ownsRow_base (ownsRow_block hA.row fun g hg=>ht.block g (hA.row.lt g hg).2 (by have:=(hA.row.lt g hg).1;omega)) (show w.heap.size≤wc.heap.size by omega)
  rw[← hl];exact hr
 ·have h1:=(hA.each x hx).mono (ok':=fun b=>((ok b∧b<w.heap.size)∨wc.heap.size≤b)∧bk aa≠some b) fun b _ hb=>⟨hb.1,fun e=>hb.2 ((bk_own _ _ _).trans e)⟩
  have h3:Keeps (fun b=>((ok b∧b<w.heap.size)∨wc.heap.size≤b)∧bk aa≠some b) wo wz:=ht.keeps fun b hb=>by have:=hb.1;omega
  refine(h1.keep h3).mono fun b _ hb=>⟨hb.1.imp id fun e=>by omega,fun y hy e=>?_⟩
  subst e
  simp only[List.mem_cons,List.not_mem_nil,or_false] at hy
  rcases hy with e | e | e | e | e | e
  ·have:=l1 b e.symm;omega
  ·have:=l2 b e.symm;omega
  ·have:=l3 b e.symm;omega
  ·have:=l4 b e.symm;omega
  ·have:=l5 b e.symm;omega
  ·exact hb.2 e.symm
 ·have hn:=h2.ne
  have key:∀ x:Option Nat,(∀ b,x=some b→w.heap.size+2≤b∧b<wc.heap.size)→∀ b,x=some b→bk aa≠some b:=fun x hx b e1 e2=>by
   have:=hx b e1;have:=alt b e2;omega
  unfold Nd at hn ⊢
  simp only[List.pairwise_cons,List.mem_cons,List.not_mem_nil,or_false,forall_eq_or_imp,forall_eq] at hn ⊢
  obtain⟨⟨a1,a2,a3,a4⟩,⟨b1,b2,b3⟩,⟨c1,c2⟩,d1,-⟩:=hn
  exact⟨⟨a1,a2,a3,a4,key _ l1⟩,⟨b1,b2,b3,key _ l2⟩,⟨c1,c2,key _ l3⟩,⟨d1,key _ l4⟩,key _ l5,fun _ h=>h.elim,List.Pairwise.nil⟩
 ·exact(h2.below.trans (hA.below.mono hs)).trans (ht.toBelow (by omega) fun b e=>by omega)
set_option maxRecDepth 100000 in
set_option maxHeartbeats 3200000 in
theorem OwnMW(m:Mac)(d:MAd){w:World}{ok:Nat→Prop}(h:MacAt w ok m d)(hb:MacBig m) :
 Calls Try.prog 23 #[.agg #[.slice d.h m.H.length d.hn,.slice d.g m.G.length d.gn,.int .i64 m.first,.slice d.c m.ch.length d.cn,.slice d.t m.T.length d.tn,.slice d.q m.Q.length d.qn,.int .i64 m.steps,.int .i64 m.fin,.slice d.a m.ans.length d.an]] w (OwnPost w ok m):=by
 have HM:Hid (MacAt w (fun b=>ok b∧b<w.heap.size) m d):=lh (h.mono fun b hb ho=>⟨ho,hb⟩)
 have HC1:=lh (MakesRow.of (f:=56) fun u hu=>CloneCellsW (HM.out.h.rw'.below hu) (flatH_one _) hb.h)
 have HC2:=lh (MakesRow.of (f:=57) fun u hu=>CloneGoalsW (HM.out.g.below hu) (flatG_one _) hb.g)
 have HC3:=lh (MakesRow.of (f:=58) fun u hu=>CloneChoisW (HM.out.c.below hu) (flatK_one _) hb.c)
 have HC4:=lh (MakesRow.of (f:=59) fun u hu=>CloneIntsW (HM.out.t.rw'.below hu) (ints_one _) hb.t)
 have HC5:=lh (MakesRow.of (f:=59) fun u hu=>CloneIntsW (HM.out.q.rw'.below hu) (ints_one _) hb.q)
 have HBIG:=lh hb
 clear h hb
 obtain⟨dh,dg,dc,dt,dq,da,dhn,dgn,dcn,dtn,dqn,dan⟩:=d
 simp only at HC1 HC2 HC3 HC4 HC5 ⊢
 go_enter Try.func23,Try.ntmps23
 go_upto_region 1 with fail
 go_cut[] from 3 (fun wx=>∃ d',Own1 w wx m ⟨dh,dg,dc,dt,dq,da,dhn,dgn,dcn,dtn,dqn,dan⟩ d')
 case first =>
  have HBD:Hid (Below w.heap.size w ((w.alloc (.cells (m.vals ⟨dh,dg,dc,dt,dq,da,dhn,dgn,dcn,dtn,dqn,dan⟩).toArray 30)).alloc (.cells #[.slice none 0 0,.slice none 0 0,.int .i64 0,.slice none 0 0,.slice none 0 0,.slice none 0 0,.int .i64 0,.int .i64 0,.slice none 0 0] 30)).drew):=lh ((((Below.refl _ _).alloc (Nat.le_refl _) _).alloc (by simp) _).drew)
  have HX:Hid (MBox ((w.alloc (.cells (m.vals ⟨dh,dg,dc,dt,dq,da,dhn,dgn,dcn,dtn,dqn,dan⟩).toArray 30)).alloc (.cells #[.slice none 0 0,.slice none 0 0,.int .i64 0,.slice none 0 0,.slice none 0 0,.slice none 0 0,.int .i64 0,.int .i64 0,.slice none 0 0] 30)).drew w.heap.size m ⟨dh,dg,dc,dt,dq,da,dhn,dgn,dcn,dtn,dqn,dan⟩):=lh ((MBox.made w m _).below (((Below.refl _ _).alloc (Nat.le_refl _) _).drew))
  have hsz:(w.alloc (.cells (m.vals ⟨dh,dg,dc,dt,dq,da,dhn,dgn,dcn,dtn,dqn,dan⟩).toArray 30)).heap.size=w.heap.size+1:=by simp
  have HZ:Hid (((w.alloc (.cells (m.vals ⟨dh,dg,dc,dt,dq,da,dhn,dgn,dcn,dtn,dqn,dan⟩).toArray 30)).alloc (.cells #[.slice none 0 0,.slice none 0 0,.int .i64 0,.slice none 0 0,.slice none 0 0,.slice none 0 0,.int .i64 0,.int .i64 0,.slice none 0 0] 30)).drew.heap[w.heap.size+1]? = some (.cells #[.slice none 0 0,.slice none 0 0,.int .i64 0,.slice none 0 0,.slice none 0 0,.slice none 0 0,.int .i64 0,.int .i64 0,.slice none 0 0] 30 (0,0))):=lh (by rw[← hsz];exact heap_alloc_new _ _)
  have HSZ:Hid (((w.alloc (.cells (m.vals ⟨dh,dg,dc,dt,dq,da,dhn,dgn,dcn,dtn,dqn,dan⟩).toArray 30)).alloc (.cells #[.slice none 0 0,.slice none 0 0,.int .i64 0,.slice none 0 0,.slice none 0 0,.slice none 0 0,.int .i64 0,.int .i64 0,.slice none 0 0] 30)).drew.heap.size=w.heap.size+2):=lh (by simp[World.drew])
  clear hsz
  simp only[Mac.vals] at HBD HX HZ HSZ
  go_wp2_with fail
  go_region_with (first
   | (go_at_call 56;refine(HC1.out _ HBD.out).mono ?_;rintro e w1 ⟨⟨a1,c1,rfl,ho1⟩,hb1⟩;have HO1:=lh ho1;have HB1:=lh (HBD.out.trans (hb1.mono HBD.out.size));have HX1:=lh (HX.out.below hb1);have HK1:=lh hb1;obtain⟨y0,y1,y2,y3,y4,y5,y6,y7,y8,yf⟩:=HX1.out.all;clear ho1 hb1)
   | (go_at_call 57;refine(HC2.out _ HB1.out).mono ?_;rintro e w2 ⟨⟨a2,c2,rfl,ho2⟩,hb2⟩;have HO2:=lh ho2;have HB2:=lh (HB1.out.trans (hb2.mono HB1.out.size));have HX2:=lh (HX1.out.below hb2);have HK2:=lh hb2;obtain⟨z0,z1,z2,z3,z4,z5,z6,z7,z8,zf⟩:=HX2.out.all;clear ho2 hb2)
   | (go_at_call 58;refine(HC3.out _ HB2.out).mono ?_;rintro e w3 ⟨⟨a3,c3,rfl,ho3⟩,hb3⟩;have HO3:=lh ho3;have HB3:=lh (HB2.out.trans (hb3.mono HB2.out.size));have HX3:=lh (HX2.out.below hb3);have HK3:=lh hb3;obtain⟨x0,x1,x2,x3,x4,x5,x6,x7,x8,xf⟩:=HX3.out.all;clear ho3 hb3))
  all_goals
   go_wp2_with fail
   go_meet
   case rel=>exact⟨_,own1_made HBD.out HSZ.out HX.out HZ.out HO1.out HK1.out HO2.out HK2.out HO3.out HK3.out⟩
 case rest =>
  obtain⟨d',hO⟩:=hcut
  have HO:=lh hO
  clear hO
  go_upto_region 2 with fail
  go_cut[] from 3 (fun wx=>∃ d',Own2 w wx m ⟨dh,dg,dc,dt,dq,da,dhn,dgn,dcn,dtn,dqn,dan⟩ d')
  case first =>
   have HBD:=lh (HO.out.below.drew)
   have hX:=HO.out.box.below ((Below.refl _ _).drew)
   have HX:=lh hX
   obtain⟨p0,p1,p2,p3,p4,p5,p6,p7,p8,pf⟩:=hX.all
   clear hX
   go_wp2_with fail
   go_region_with (first
    | (go_at_call 59;refine(HC4.out _ HBD.out).mono ?_;rintro e w1 ⟨⟨a1,c1,rfl,ho1⟩,hb1⟩;have HO1:=lh ho1;have HB1:=lh (HBD.out.trans (hb1.mono HBD.out.size));have HX1:=lh (HX.out.below hb1);have HK1:=lh hb1;obtain⟨y0,y1,y2,y3,y4,y5,y6,y7,y8,yf⟩:=HX1.out.all;clear ho1 hb1)
    | (go_at_call 59;refine(HC5.out _ HB1.out).mono ?_;rintro e w2 ⟨⟨a2,c2,rfl,ho2⟩,hb2⟩;have HO2:=lh ho2;have HB2:=lh (HB1.out.trans (hb2.mono HB1.out.size));have HX2:=lh (HX1.out.below hb2);have HK2:=lh hb2;obtain⟨z0,z1,z2,z3,z4,z5,z6,z7,z8,zf⟩:=HX2.out.all;clear ho2 hb2))
   all_goals
    go_wp2_with fail
    go_meet
    case rel=>exact⟨_,own2_made HO.out HO1.out HK1.out HO2.out HK2.out⟩
  case rest =>
   obtain⟨d2,hO2⟩:=hcut
   have HO2:=lh hO2
   clear hO2
   obtain⟨p0,p1,p2,p3,p4,p5,p6,p7,p8,pf⟩:=HO2.out.box.all
   have hwc:=HO2.out.below.size
   have han:=HBIG.out.a
   go_wp2_with fail
   go_loopw[3,32] (fun v3 v32 wr=>∃ (i:Nat) (A:List ((Option Addr×Nat)×List Tm)),i≤m.ans.length∧v32=.int .i64 i∧Hid (AnsRel w ok wc wr ((m.ans.take i).map mvA) v3 A)) (fun _ v32 _=>m.ans.length-(intOf v32).toNat)
   case atStart=>exact⟨0,[],Nat.zero_le _,rfl,lh ⟨World.ownsRow_nil _ _ _ _,by simp,(fun x hx=>nomatch hx),Below.refl _ _⟩⟩
   case round =>
    rename World=>wo
    obtain⟨i,A,hi,rfl,HA⟩:=hrel
    obtain⟨aa,ac,rfl⟩:=ownsRow_form HA.out.row
    have hAl:A.length=i:=by have:=congrArg List.length HA.out.eq;simp at this;omega
    have HAL:=lh hAl
    have hwr:=HA.out.below.size
    have HBW:Hid (Below w.heap.size w wo):=lh (HO2.out.below.trans (HA.out.below.mono hwc))
    clear hAl
    by_cases hlt:i<m.ans.length
    ·obtain⟨b,off,a1,c1,hda,-,hb,hcl,hts⟩:=HM.out.a.elem i hlt
     have hda':da=some ⟨b,off,none⟩:=hda
     clear hda
     subst hda'
     have y0:=(HBW.out.cell (p:=⟨b,off+i,none⟩) hb).trans hcl
     obtain⟨hbl,hba⟩:=HBIG.out.each _ (List.getElem_mem hlt)
     have HTS:=lh hts;have HBA:=lh hba
     have HTK:Hid ((m.ans.take (i+1)).map mvA=(m.ans.take i).map mvA++[mvA m.ans[i]]):=lh (by rw[List.take_succ_eq_append_getElem hlt,List.map_append];rfl)
     clear hcl hts hba
     generalize m.ans[i]=s at *
     go_wp2_with fail
     go_loopw[6,38] (fun v6 v38 wr=>∃ (k:Nat) (L:List TmAt),k≤s.length∧v38=.int .i64 k∧Hid (L.map (·.1)=(s.take k).map (far 0))∧Hid (OwnTs wr wo.heap.size (OkN (fun b=>ok b∧b<w.heap.size) wo) v6 L)∧Hid (Below wo.heap.size wo wr)) (fun _ v38 _=>s.length-(intOf v38).toNat)
     case atStart=>exact⟨0,[],Nat.zero_le _,rfl,lh rfl,lh (OwnTs.nil _ _ _),lh (Below.refl _ _)⟩
     case round =>
      obtain⟨k,L,hk,rfl,HL,HOW,HBZ⟩:=hrel
      obtain⟨xa,xc,rfl⟩:=HOW.out.form
      have hLl:L.length=k:=by
       have:=congrArg List.length HL.out
       rw[List.length_map,List.length_map,List.length_take] at this;omega
      have HLK:=lh hLl
      have hwz:=HBZ.out.size
      clear hLl
      by_cases hlt2:k<s.length
      ·obtain⟨b2,off2,a2,c2,hsa,-,hb2,hc2,ht2⟩:=HTS.out.at k hlt2
       subst hsa
       have hbz:Hid (Below w.heap.size w wr):=lh (HBW.out.trans (HBZ.out.mono HBW.out.size))
       have m0:=(hbz.out.cell (p:=⟨b2,off2+k*3,none⟩) hb2).trans hc2.var
       have m1:=(hbz.out.cell (p:=⟨b2,off2+k*3+1,none⟩) hb2).trans hc2.name
       have m2:=(hbz.out.cell (p:=⟨b2,off2+k*3+2,none⟩) hb2).trans hc2.args
       have HTK2:Hid ((s.take (k+1)).map (far 0)=(s.take k).map (far 0)++[far 0 s[k]]):=lh (by rw[List.take_succ_eq_append_getElem hlt2,List.map_append];rfl)
       have HCL:Hid (∀ X,Calls Try.prog 60 #[.agg #[.int .i64 s[k].var,.string s[k].name,.slice a2 s[k].args.length c2],.int .i64 0] (wr.alloc X) (RetNew (wr.alloc X) (fun b=>ok b∧b<w.heap.size) (far 0 s[k]))):=lh fun X=>by
        have hbx:Below w.heap.size w (wr.alloc X):=hbz.out.alloc hbz.out.size X
        exact MovedBW (K:=0) s[k] _ (fun b=>ok b∧b<w.heap.size) a2 c2 (fun b hb=>Nat.lt_of_lt_of_le hb.2 hbx.size) (HBA.out _ (List.getElem_mem hlt2)) hc2.fits (ht2.keep (Keeps.below hbx _)) (fun p hp _=>by have:=parts_i64 s[k] hc2.fits a2 c2 ht2 p hp;rwa [Int.add_zero])
       obtain⟨i0,hi0,hz0',hz1',hz2'⟩:=info_parts Try.infoTm
       clear hc2 ht2
       go_wp2_with (first
        | (go_at_call 60;refine(HCL.out _).mono ?_;rintro e w1 ⟨a3,c3,rfl,hf3,ht3,hb3⟩;have HB1:=lh (((Below.refl wr.heap.size wr).alloc (Nat.le_refl _) _).trans (hb3.mono (by simp)));have HO1:=lh ((ownsRow_below HOW.out.own HB1.out).alloc (.cells #[.int .i64 (far 0 s[k]).var,.string (far 0 s[k]).name,.slice a3 (far 0 s[k]).args.length c3] 71));have HF3:=lh hf3;have HT3:=lh ht3;clear hf3 ht3 hb3)
        | (at_builtin;have _g:=HO1;(refine wpList_append_opt _ rfl _ _ 78 rfl wo.heap.size 71 i0 _ 3 48 Try.underlying78 hi0 hz0' hz1' hz2' rfl (by decide) _ _ _ rfl HO1.out (some ⟨w1.heap.size,0,none⟩) 1 1 ?d0 (flat [(far 0 s[k],a3,c3)]) rfl (by rw[flat_length];rfl) ?d1 (flat_one _) ?d2 ?d3 ?d4 ?_)))
       any_goals (first | (intro h;cases h;done) | exact news3 _ _ a3 c3 rfl | (have:=HLK.out;unfold maxLen;omega) | (have:=HLK.out;omega) | (have:=HB1.out.size;simp only[World.size_alloc];omega))
       intro v4 w4 hown4 hgrow4 hfr4
       have HNX:=lh (OwnTs.more (wX:=wr.alloc (.cells #[.int .i64 s[k].var,.string s[k].name,.slice a2 s[k].args.length c2] 71)) HOW.out HBZ.out (fun b hb=>Nat.lt_of_lt_of_le hb.2 HBW.out.size) (by simp) HB1.out HF3.out HT3.out ((Below.refl _ _).alloc (Nat.le_refl _) _) hown4 hgrow4 hfr4)
       clear hown4 hgrow4 hfr4
       go_wp2_with fail
       go_roundw
       case measure=>simp only[intOf];omega
       case rel=>exact⟨k+1,_,by omega,by go_num,lh (by rw[List.map_append,HL.out,HTK2.out];rfl),lh HNX.out.1,lh HNX.out.2⟩
      ·have HLE:Hid ((s.take k).map (far 0)=mvA s):=lh (by rw[List.take_of_length_le (by omega)];rfl)
       have hex:∃ l a c,Value.slice xa L.length xc=.slice a l.length c∧l=mvA s∧Ts wr (OkN (fun b=>ok b∧b<w.heap.size) wo) l a c:=by
        obtain⟨a,c,e1,e2⟩:=HOW.out.ret (w:=wo) (Nat.le_refl _)
        exact⟨L.map (·.1),a,c,e1,HL.out.trans HLE.out,e2⟩
       obtain⟨l,la,lc,hle,hll,hlt3⟩:=hex
       have HLT:=lh hlt3;have HLL:=lh hll
       rw[hle]
       obtain⟨i0,zc,hi0,hz0,hz1,hz2,hz3⟩:=infoAnM
       have HO1:=lh ((ownsRow_below HA.out.row HBZ.out).alloc (.cells #[.slice la l.length lc] 78))
       have hA9:A.length*24≤140737488355328:=by have:=HAL.out;omega
       clear hle hll hlt3
       go_wp2_with (at_builtin;have _g:=HO1;(refine wpList_append_fresh _ rfl _ _ 28 rfl wc.heap.size 78 i0 zc 1 24 Try.underlying28 hi0 hz0 hz1 hz2 hz3 (by decide) _ _ _ rfl HO1.out ⟨wr.heap.size,0,none⟩ 1 1 [.slice la l.length lc] rfl rfl ?e1 ?e2 ?e3 ?e4 ?e5 ?_))
       any_goals (first | exact one_cell _ _ _ | (intro u hu;simp only[List.mem_singleton] at hu;subst hu;rfl) | rfl | (have:=HAL.out;unfold maxLen;omega) | (have:=HAL.out;omega) | (simp only[World.size_alloc];omega))
       intro av' X3 hown3 hg3 hfr3
       have HNX:=lh (HA.out.more (X:=wr.alloc (.cells #[.slice la l.length lc] 78)) (HBZ.out.trans ((Below.refl _ _).alloc (Nat.le_refl _) _ |>.mono hwz)) (HLT.out.keep (Keeps.below ((Below.refl _ _).alloc (Nat.le_refl _) _) _)) hwc hown3 hg3 hfr3)
       clear hown3 hg3 hfr3
       go_wp2_with fail
       go_roundw
       case measure=>simp only[intOf];omega
       case rel=>exact⟨i+1,_,by omega,by go_num,lh (by rw[HTK.out,← HLL.out];exact HNX.out)⟩
    ·have HE:Hid (m.ans.take i=m.ans):=lh (List.take_of_length_le (by omega))
     have hX:=HO2.out.box.below HA.out.below
     have HX:=lh hX
     obtain⟨x0,x1,x2,x3,x4,x5,x6,x7,x8,xf⟩:=hX.all
     have hR:=(HA.out.below.block _ (Array.getElem?_eq_some_iff.1 HO2.out.res).1).trans HO2.out.res
     have HRR:=lh hR
     have r0:wo.cell? ⟨w.heap.size+1,0,none⟩=some (.slice none 0 0):=by simp[World.cell?,hR]
     have r1:wo.cell? ⟨w.heap.size+1,1,none⟩=some (.slice none 0 0):=by simp[World.cell?,hR]
     have r2:wo.cell? ⟨w.heap.size+1,2,none⟩=some (.int .i64 0):=by simp[World.cell?,hR]
     have r3:wo.cell? ⟨w.heap.size+1,3,none⟩=some (.slice none 0 0):=by simp[World.cell?,hR]
     have r4:wo.cell? ⟨w.heap.size+1,4,none⟩=some (.slice none 0 0):=by simp[World.cell?,hR]
     have r5:wo.cell? ⟨w.heap.size+1,5,none⟩=some (.slice none 0 0):=by simp[World.cell?,hR]
     have r6:wo.cell? ⟨w.heap.size+1,6,none⟩=some (.int .i64 0):=by simp[World.cell?,hR]
     have r7:wo.cell? ⟨w.heap.size+1,7,none⟩=some (.int .i64 0):=by simp[World.cell?,hR]
     have r8:wo.cell? ⟨w.heap.size+1,8,none⟩=some (.slice none 0 0):=by simp[World.cell?,hR]
     have rf:∀ o,wo.frozen? ⟨w.heap.size+1,o,none⟩=false:=fun o=>by simp[World.frozen?,hR]
     clear hX hR
     go_wp2_with fail
     have hne:w.heap.size+1≠w.heap.size:=by omega
     have k:=(Below.heap_setCell wo ⟨w.heap.size,8,none⟩ (.slice aa A.length ac) _ hne).trans HRR.out
     have k0:=heap_setCell_at _ (w.heap.size+1) 0 (.slice d2.h m.H.length d2.hn) k
     have k1:=heap_setCell_at _ (w.heap.size+1) 1 (.slice d2.g m.G.length d2.gn) k0
     have k2:=heap_setCell_at _ (w.heap.size+1) 2 (.int .i64 m.first) k1
     have k3:=heap_setCell_at _ (w.heap.size+1) 3 (.slice d2.c m.ch.length d2.cn) k2
     have k4:=heap_setCell_at _ (w.heap.size+1) 4 (.slice d2.t m.T.length d2.tn) k3
     have k5:=heap_setCell_at _ (w.heap.size+1) 5 (.slice d2.q m.Q.length d2.qn) k4
     have k6:=heap_setCell_at _ (w.heap.size+1) 6 (.int .i64 m.steps) k5
     have k7:=heap_setCell_at _ (w.heap.size+1) 7 (.int .i64 m.fin) k6
     have k8:=heap_setCell_at _ (w.heap.size+1) 8 (.slice aa A.length ac) k7
     have e0:((((((((((wo.setCell ⟨w.heap.size,8,none⟩ (.slice aa A.length ac)).setCell ⟨w.heap.size+1,0,none⟩ (.slice d2.h m.H.length d2.hn)).setCell ⟨w.heap.size+1,1,none⟩ (.slice d2.g m.G.length d2.gn)).setCell ⟨w.heap.size+1,2,none⟩ (.int .i64 m.first)).setCell ⟨w.heap.size+1,3,none⟩ (.slice d2.c m.ch.length d2.cn)).setCell ⟨w.heap.size+1,4,none⟩ (.slice d2.t m.T.length d2.tn)).setCell ⟨w.heap.size+1,5,none⟩ (.slice d2.q m.Q.length d2.qn)).setCell ⟨w.heap.size+1,6,none⟩ (.int .i64 m.steps)).setCell ⟨w.heap.size+1,7,none⟩ (.int .i64 m.fin)).setCell ⟨w.heap.size+1,8,none⟩ (.slice aa A.length ac)).cell? ⟨w.heap.size+1,0,none⟩=some (.slice d2.h m.H.length d2.hn):=by simp[World.cell?,k8]
     have e1:((((((((((wo.setCell ⟨w.heap.size,8,none⟩ (.slice aa A.length ac)).setCell ⟨w.heap.size+1,0,none⟩ (.slice d2.h m.H.length d2.hn)).setCell ⟨w.heap.size+1,1,none⟩ (.slice d2.g m.G.length d2.gn)).setCell ⟨w.heap.size+1,2,none⟩ (.int .i64 m.first)).setCell ⟨w.heap.size+1,3,none⟩ (.slice d2.c m.ch.length d2.cn)).setCell ⟨w.heap.size+1,4,none⟩ (.slice d2.t m.T.length d2.tn)).setCell ⟨w.heap.size+1,5,none⟩ (.slice d2.q m.Q.length d2.qn)).setCell ⟨w.heap.size+1,6,none⟩ (.int .i64 m.steps)).setCell ⟨w.heap.size+1,7,none⟩ (.int .i64 m.fin)).setCell ⟨w.heap.size+1,8,none⟩ (.slice aa A.length ac)).cell? ⟨w.heap.size+1,1,none⟩=some (.slice d2.g m.G.length d2.gn):=by simp[World.cell?,k8]
     have e2:((((((((((wo.setCell ⟨w.heap.size,8,none⟩ (.slice aa A.length ac)).setCell ⟨w.heap.size+1,0,none⟩ (.slice d2.h m.H.length d2.hn)).setCell ⟨w.heap.size+1,1,none⟩ (.slice d2.g m.G.length d2.gn)).setCell ⟨w.heap.size+1,2,none⟩ (.int .i64 m.first)).setCell ⟨w.heap.size+1,3,none⟩ (.slice d2.c m.ch.length d2.cn)).setCell ⟨w.heap.size+1,4,none⟩ (.slice d2.t m.T.length d2.tn)).setCell ⟨w.heap.size+1,5,none⟩ (.slice d2.q m.Q.length d2.qn)).setCell ⟨w.heap.size+1,6,none⟩ (.int .i64 m.steps)).setCell ⟨w.heap.size+1,7,none⟩ (.int .i64 m.fin)).setCell ⟨w.heap.size+1,8,none⟩ (.slice aa A.length ac)).cell? ⟨w.heap.size+1,2,none⟩=some (.int .i64 m.first):=by simp[World.cell?,k8]
     have e3:((((((((((wo.setCell ⟨w.heap.size,8,none⟩ (.slice aa A.length ac)).setCell ⟨w.heap.size+1,0,none⟩ (.slice d2.h m.H.length d2.hn)).setCell ⟨w.heap.size+1,1,none⟩ (.slice d2.g m.G.length d2.gn)).setCell ⟨w.heap.size+1,2,none⟩ (.int .i64 m.first)).setCell ⟨w.heap.size+1,3,none⟩ (.slice d2.c m.ch.length d2.cn)).setCell ⟨w.heap.size+1,4,none⟩ (.slice d2.t m.T.length d2.tn)).setCell ⟨w.heap.size+1,5,none⟩ (.slice d2.q m.Q.length d2.qn)).setCell ⟨w.heap.size+1,6,none⟩ (.int .i64 m.steps)).setCell ⟨w.heap.size+1,7,none⟩ (.int .i64 m.fin)).setCell ⟨w.heap.size+1,8,none⟩ (.slice aa A.length ac)).cell? ⟨w.heap.size+1,3,none⟩=some (.slice d2.c m.ch.length d2.cn):=by simp[World.cell?,k8]
     have e4:((((((((((wo.setCell ⟨w.heap.size,8,none⟩ (.slice aa A.length ac)).setCell ⟨w.heap.size+1,0,none⟩ (.slice d2.h m.H.length d2.hn)).setCell ⟨w.heap.size+1,1,none⟩ (.slice d2.g m.G.length d2.gn)).setCell ⟨w.heap.size+1,2,none⟩ (.int .i64 m.first)).setCell ⟨w.heap.size+1,3,none⟩ (.slice d2.c m.ch.length d2.cn)).setCell ⟨w.heap.size+1,4,none⟩ (.slice d2.t m.T.length d2.tn)).setCell ⟨w.heap.size+1,5,none⟩ (.slice d2.q m.Q.length d2.qn)).setCell ⟨w.heap.size+1,6,none⟩ (.int .i64 m.steps)).setCell ⟨w.heap.size+1,7,none⟩ (.int .i64 m.fin)).setCell ⟨w.heap.size+1,8,none⟩ (.slice aa A.length ac)).cell? ⟨w.heap.size+1,4,none⟩=some (.slice d2.t m.T.length d2.tn):=by simp[World.cell?,k8]
     have e5:((((((((((wo.setCell ⟨w.heap.size,8,none⟩ (.slice aa A.length ac)).setCell ⟨w.heap.size+1,0,none⟩ (.slice d2.h m.H.length d2.hn)).setCell ⟨w.heap.size+1,1,none⟩ (.slice d2.g m.G.length d2.gn)).setCell ⟨w.heap.size+1,2,none⟩ (.int .i64 m.first)).setCell ⟨w.heap.size+1,3,none⟩ (.slice d2.c m.ch.length d2.cn)).setCell ⟨w.heap.size+1,4,none⟩ (.slice d2.t m.T.length d2.tn)).setCell ⟨w.heap.size+1,5,none⟩ (.slice d2.q m.Q.length d2.qn)).setCell ⟨w.heap.size+1,6,none⟩ (.int .i64 m.steps)).setCell ⟨w.heap.size+1,7,none⟩ (.int .i64 m.fin)).setCell ⟨w.heap.size+1,8,none⟩ (.slice aa A.length ac)).cell? ⟨w.heap.size+1,5,none⟩=some (.slice d2.q m.Q.length d2.qn):=by simp[World.cell?,k8]
     have e6:((((((((((wo.setCell ⟨w.heap.size,8,none⟩ (.slice aa A.length ac)).setCell ⟨w.heap.size+1,0,none⟩ (.slice d2.h m.H.length d2.hn)).setCell ⟨w.heap.size+1,1,none⟩ (.slice d2.g m.G.length d2.gn)).setCell ⟨w.heap.size+1,2,none⟩ (.int .i64 m.first)).setCell ⟨w.heap.size+1,3,none⟩ (.slice d2.c m.ch.length d2.cn)).setCell ⟨w.heap.size+1,4,none⟩ (.slice d2.t m.T.length d2.tn)).setCell ⟨w.heap.size+1,5,none⟩ (.slice d2.q m.Q.length d2.qn)).setCell ⟨w.heap.size+1,6,none⟩ (.int .i64 m.steps)).setCell ⟨w.heap.size+1,7,none⟩ (.int .i64 m.fin)).setCell ⟨w.heap.size+1,8,none⟩ (.slice aa A.length ac)).cell? ⟨w.heap.size+1,6,none⟩=some (.int .i64 m.steps):=by simp[World.cell?,k8]
     have e7:((((((((((wo.setCell ⟨w.heap.size,8,none⟩ (.slice aa A.length ac)).setCell ⟨w.heap.size+1,0,none⟩ (.slice d2.h m.H.length d2.hn)).setCell ⟨w.heap.size+1,1,none⟩ (.slice d2.g m.G.length d2.gn)).setCell ⟨w.heap.size+1,2,none⟩ (.int .i64 m.first)).setCell ⟨w.heap.size+1,3,none⟩ (.slice d2.c m.ch.length d2.cn)).setCell ⟨w.heap.size+1,4,none⟩ (.slice d2.t m.T.length d2.tn)).setCell ⟨w.heap.size+1,5,none⟩ (.slice d2.q m.Q.length d2.qn)).setCell ⟨w.heap.size+1,6,none⟩ (.int .i64 m.steps)).setCell ⟨w.heap.size+1,7,none⟩ (.int .i64 m.fin)).setCell ⟨w.heap.size+1,8,none⟩ (.slice aa A.length ac)).cell? ⟨w.heap.size+1,7,none⟩=some (.int .i64 m.fin):=by simp[World.cell?,k8]
     have e8:((((((((((wo.setCell ⟨w.heap.size,8,none⟩ (.slice aa A.length ac)).setCell ⟨w.heap.size+1,0,none⟩ (.slice d2.h m.H.length d2.hn)).setCell ⟨w.heap.size+1,1,none⟩ (.slice d2.g m.G.length d2.gn)).setCell ⟨w.heap.size+1,2,none⟩ (.int .i64 m.first)).setCell ⟨w.heap.size+1,3,none⟩ (.slice d2.c m.ch.length d2.cn)).setCell ⟨w.heap.size+1,4,none⟩ (.slice d2.t m.T.length d2.tn)).setCell ⟨w.heap.size+1,5,none⟩ (.slice d2.q m.Q.length d2.qn)).setCell ⟨w.heap.size+1,6,none⟩ (.int .i64 m.steps)).setCell ⟨w.heap.size+1,7,none⟩ (.int .i64 m.fin)).setCell ⟨w.heap.size+1,8,none⟩ (.slice aa A.length ac)).cell? ⟨w.heap.size+1,8,none⟩=some (.slice aa A.length ac):=by simp[World.cell?,k8]
     clear k k0 k1 k2 k3 k4 k5 k6 k7 k8
     have hto:Touch (fun b=>b=w.heap.size∨b=w.heap.size+1) wo ((((((((((wo.setCell ⟨w.heap.size,8,none⟩ (.slice aa A.length ac)).setCell ⟨w.heap.size+1,0,none⟩ (.slice d2.h m.H.length d2.hn)).setCell ⟨w.heap.size+1,1,none⟩ (.slice d2.g m.G.length d2.gn)).setCell ⟨w.heap.size+1,2,none⟩ (.int .i64 m.first)).setCell ⟨w.heap.size+1,3,none⟩ (.slice d2.c m.ch.length d2.cn)).setCell ⟨w.heap.size+1,4,none⟩ (.slice d2.t m.T.length d2.tn)).setCell ⟨w.heap.size+1,5,none⟩ (.slice d2.q m.Q.length d2.qn)).setCell ⟨w.heap.size+1,6,none⟩ (.int .i64 m.steps)).setCell ⟨w.heap.size+1,7,none⟩ (.int .i64 m.fin)).setCell ⟨w.heap.size+1,8,none⟩ (.slice aa A.length ac)):=((((((((((Touch.setCell (M:=fun b=>b=w.heap.size∨b=w.heap.size+1) (w:=wo) (p:=⟨w.heap.size,8,none⟩) (.slice aa A.length ac) (.inl rfl)).trans (Touch.setCell (p:=⟨w.heap.size+1,0,none⟩) (.slice d2.h m.H.length d2.hn) (.inr rfl))).trans (Touch.setCell (p:=⟨w.heap.size+1,1,none⟩) (.slice d2.g m.G.length d2.gn) (.inr rfl))).trans (Touch.setCell (p:=⟨w.heap.size+1,2,none⟩) (.int .i64 m.first) (.inr rfl))).trans (Touch.setCell (p:=⟨w.heap.size+1,3,none⟩) (.slice d2.c m.ch.length d2.cn) (.inr rfl))).trans (Touch.setCell (p:=⟨w.heap.size+1,4,none⟩) (.slice d2.t m.T.length d2.tn) (.inr rfl))).trans (Touch.setCell (p:=⟨w.heap.size+1,5,none⟩) (.slice d2.q m.Q.length d2.qn) (.inr rfl))).trans (Touch.setCell (p:=⟨w.heap.size+1,6,none⟩) (.int .i64 m.steps) (.inr rfl))).trans (Touch.setCell (p:=⟨w.heap.size+1,7,none⟩) (.int .i64 m.fin) (.inr rfl))).trans (Touch.setCell (p:=⟨w.heap.size+1,8,none⟩) (.slice aa A.length ac) (.inr rfl)))
     generalize ((((((((((wo.setCell ⟨w.heap.size,8,none⟩ (.slice aa A.length ac)).setCell ⟨w.heap.size+1,0,none⟩ (.slice d2.h m.H.length d2.hn)).setCell ⟨w.heap.size+1,1,none⟩ (.slice d2.g m.G.length d2.gn)).setCell ⟨w.heap.size+1,2,none⟩ (.int .i64 m.first)).setCell ⟨w.heap.size+1,3,none⟩ (.slice d2.c m.ch.length d2.cn)).setCell ⟨w.heap.size+1,4,none⟩ (.slice d2.t m.T.length d2.tn)).setCell ⟨w.heap.size+1,5,none⟩ (.slice d2.q m.Q.length d2.qn)).setCell ⟨w.heap.size+1,6,none⟩ (.int .i64 m.steps)).setCell ⟨w.heap.size+1,7,none⟩ (.int .i64 m.fin)).setCell ⟨w.heap.size+1,8,none⟩ (.slice aa A.length ac))=wz at *
     refine bodyPost_ret (v:=.agg #[.slice d2.h m.H.length d2.hn,.slice d2.g m.G.length d2.gn,.int .i64 m.first,.slice d2.c m.ch.length d2.cn,.slice d2.t m.T.length d2.tn,.slice d2.q m.Q.length d2.qn,.int .i64 m.steps,.int .i64 m.fin,.slice aa A.length ac]) (by simp[results,Try.results23,go_sem,e0,e1,e2,e3,e4,e5,e6,e7,e8]) rfl ?_
     have hl:Hid (A.length=(m.ans.map mvA).length):=lh (by rw[List.length_map];have:=HAL.out;omega)
     have hA2:=HA.out
     rw[HE.out] at hA2
     obtain⟨z1,z2⟩:=own_done HO2.out hA2 hto (fun j hj=>by obtain⟨_,_,_,_,_,_,_,_,hf⟩:=HM.out.h.at' j hj;exact hf)
     refine⟨_,?_,z1,z2⟩
     simp only[Mac.vals]
     rw[hl.out]
end Go.Proofs.Ytikmgiapjigghab
namespace Go.Proofs.Ytikmgiapjigghab
open Go.RowKit Go.Shelf
attribute [local go_sem] Oper.semAt_some
theorem IsAt.take{w:World}{ok:Nat→Prop}{l:List Int}{a:Option Addr}{cap:Nat}(h:IsAt w ok l a cap)(k:Nat):IsAt w ok (l.take k) a cap :=
 ⟨⟨by rw[List.length_take];have:=h.cap.1;omega,h.cap.2.1,h.cap.2.2⟩,fun i hi=>by
  rw[List.length_take] at hi
  obtain⟨b,off,h1,h2,h3,h4⟩:=h.at' i (by omega)
  exact⟨b,off,h1,h2,h3,by rw[List.getElem_take];exact h4⟩⟩
theorem RwAt.takeG{w:World}{ok:Nat→Prop}{l:List Gl}{a:Option Addr}{cap:Nat}(h:RwAt w ok 3 l.length (flatG l) a cap)(k:Nat):RwAt w ok 3 (l.take k).length (flatG (l.take k)) a cap :=
 ⟨⟨by rw[List.length_take];have:=h.cap.1;omega,h.cap.2.1,h.cap.2.2⟩,flatG_length _,fun j u hu=>by
  rw[flatG_take] at hu
  have hj:j<((flatG l).take (k*3)).length:=(List.getElem?_eq_some_iff.1 hu).1
  rw[List.length_take] at hj
  rw[List.getElem?_take_of_lt (by omega)] at hu
  exact h.at' j u hu⟩
structure LasB(V0:World)(B base:Nat)(m:Mac)(d:MAd):Prop where
 lt:B<base∧base≤V0.heap.size
 fits:∀ b,bk d.h=some b→base≤b∧b<V0.heap.size
 g:RwAt V0 (fun b=>b<V0.heap.size∧b≠B∧bk d.h≠some b) 3 m.G.length (flatG m.G) d.g d.gn
 c:RwAt V0 (fun b=>b<V0.heap.size∧b≠B∧bk d.h≠some b) 5 m.ch.length (flatK m.ch) d.c d.cn
 t:IsAt V0 (fun b=>b<V0.heap.size∧b≠B∧bk d.h≠some b) m.T d.t d.tn
 q:IsAt V0 (fun b=>b<V0.heap.size∧b≠B∧bk d.h≠some b) m.Q d.q d.qn
 a:AsAt V0 (fun b=>b<V0.heap.size∧b≠B∧bk d.h≠some b) m.ans d.a d.an
theorem OwM.lasB{w1 V0:World}{B base:Nat}{okA:Nat→Prop}{m:Mac}{d:MAd}(h:OwM w1 base okA m d)(hA:∀ b,okA b→b≠B)(hB:B<base)(hb:base≤w1.heap.size)(ht:Touch (fun b=>b=B) w1 V0):LasB V0 B base m d:=by
 have hs:=ht.size
 have hn:=h.ne
 unfold Nd at hn
 simp only[List.pairwise_cons,List.mem_cons,List.not_mem_nil,or_false,forall_eq_or_imp,forall_eq] at hn
 obtain⟨⟨n1,n2,n3,n4,n5⟩,-⟩:=hn
 have hk:Keeps (fun b=>b<w1.heap.size∧b≠B∧bk d.h≠some b) w1 V0:=ht.keeps fun b hb=>hb.2.1
 have key:∀ {e:TypeId} {k n n' c:Nat} {a:Option Addr} {vs:List Value},w1.ownsRow base e k (.slice a n c) n' vs→(∀ b,bk d.h=some b→bk a≠some b)→∀ b,(Value.slice a n c).ownBlock=some b→b<w1.heap.size∧b≠B∧bk d.h≠some b:=fun hr hne b hb =>
  ⟨(hr.lt b hb).2,fun e=>by have:=(hr.lt b hb).1;omega,fun e=>hne b e ((bk_own _ _ _).symm.trans hb)⟩
 refine⟨⟨hB,by omega⟩,fun b hb=>?_,?_,?_,?_,?_,?_⟩
 ·have:=h.h.row.lt b ((bk_own _ _ _).trans hb);omega
 ·obtain⟨a,c,e,hr⟩:=RwAt.of_row (ok:=fun b=>b<w1.heap.size∧b≠B∧bk d.h≠some b) h.g (flatG_length _) (key h.g n1)
  injection e with e1 _ e2
  subst e1;subst e2
  exact(hr.keep hk).mono fun b _ hb=>⟨by omega,hb.2⟩
 ·obtain⟨a,c,e,hr⟩:=RwAt.of_row (ok:=fun b=>b<w1.heap.size∧b≠B∧bk d.h≠some b) h.c (flatK_length _) (key h.c n2)
  injection e with e1 _ e2
  subst e1;subst e2
  exact(hr.keep hk).mono fun b _ hb=>⟨by omega,hb.2⟩
 ·obtain⟨a,c,e,hr⟩:=IsAt.of_row (ok:=fun b=>b<w1.heap.size∧b≠B∧bk d.h≠some b) h.t (key h.t n3)
  injection e with e1 _ e2
  subst e1;subst e2
  exact(hr.keep hk).mono fun b _ hb=>⟨by omega,hb.2⟩
 ·obtain⟨a,c,e,hr⟩:=IsAt.of_row (ok:=fun b=>b<w1.heap.size∧b≠B∧bk d.h≠some b) h.q (key h.q n4)
  injection e with e1 _ e2
  subst e1;subst e2
  exact(hr.keep hk).mono fun b _ hb=>⟨by omega,hb.2⟩
 ·obtain⟨A,e1,e2,e3⟩:=h.a
  obtain⟨a,c,e,hr⟩:=AsAt.of_row (ok:=fun b=>b<w1.heap.size∧b≠B∧bk d.h≠some b) e2 (key e2 n5) fun x hx=>(e3 x hx).mono fun b hb h=>⟨hb,hA b h.1,fun e=>h.2 _ List.mem_cons_self e⟩
  rw[e1] at e hr
  injection e with f1 _ f2
  subst f1;subst f2
  exact(hr.keep hk).mono fun b _ hb=>⟨by omega,hb.2⟩
structure LasI(V0:World)(B base:Nat)(m:Mac)(d:MAd)(mi:Mac)(W:World):Prop where
 box:MBox W B mi d
 own:HOwn W base (.slice d.h mi.H.length d.hn) mi.H
 keep:Touch (fun b=>b=B∨bk d.h=some b∨V0.heap.size≤b) V0 W
theorem LasI.touch{V0 W W':World}{B base:Nat}{m:Mac}{d:MAd}{mi:Mac}(h:LasI V0 B base m d mi W)(hb:LasB V0 B base m d)(ht:Touch (fun b=>V0.heap.size≤b) W W'):LasI V0 B base m d mi W':=by
 have h0:=hb.lt
 refine⟨h.box.keep (ht.block B h.box.lt (by omega)),h.own.keep fun g hg=>?_,h.keep.trans (ht.mono fun b _ e=>.inr (.inr e))⟩
 have hg':=hb.fits g ((bk_own _ _ _).symm.trans hg)
 exact ht.block g (by have:=h.keep.size;omega) (by omega)
theorem LasI.mac{V0 W:World}{B base:Nat}{m:Mac}{d:MAd}{mi:Mac}(h:LasI V0 B base m d mi W)(hb:LasB V0 B base m d)(hu:UndoIs m mi):MacAt W (fun _=>True) mi d:=by
 have hk:Keeps (fun b=>b<V0.heap.size∧b≠B∧bk d.h≠some b) V0 W:=h.keep.keeps fun b hb e=>by
  rcases e with e | e | e
  ·exact hb.2.1 e
  ·exact hb.2.2 e
  ·omega
 obtain⟨kg,hg1,hg2⟩:=hu.g
 obtain⟨kt,ht1,ht2⟩:=hu.t
 refine⟨?_,?_,?_,?_,?_,?_⟩
 ·obtain⟨a,c,e,hr⟩:=HpAt.of_row (ok:=fun _=>True) h.own.row (fun _ _=>trivial) h.own.fits
  injection e with e1 _ e2
  subst e1;subst e2
  exact hr
 ·rw[hg2];exact((hb.g.keep hk).takeG kg).mono fun _ _ _=>trivial
 ·rw[hu.c];exact(hb.c.keep hk).mono fun _ _ _=>trivial
 ·rw[ht2];exact((hb.t.keep hk).take kt).mono fun _ _ _=>trivial
 ·rw[hu.q];exact(hb.q.keep hk).mono fun _ _ _=>trivial
 ·rw[hu.a];exact(hb.a.keep hk).mono fun _ _ _=>trivial
theorem LasI.uat{V0 W:World}{B base:Nat}{m:Mac}{d:MAd}{mi:Mac}(h:LasI V0 B base m d mi W)(hb:LasB V0 B base m d)(hu:UndoIs m mi):UAt W B 0 (mi.vals d).toArray 30 base mi.H mi.T mi.G.length d.h d.t d.g d.hn d.tn d.gn:=by
 have hk:Keeps (fun b=>b<V0.heap.size∧b≠B∧bk d.h≠some b) V0 W:=h.keep.keeps fun b hb e=>by
  rcases e with e | e | e
  ·exact hb.2.1 e
  ·exact hb.2.2 e
  ·omega
 obtain⟨kg,hg1,hg2⟩:=hu.g
 obtain⟨kt,ht1,ht2⟩:=hu.t
 refine⟨h.box.blk,rfl,rfl,rfl,h.own,?_,fun e=>?_,?_⟩
 ·rw[ht2];exact((hb.t.keep hk).take kt).mono fun b _ hb=>⟨hb.2.1,fun e=>hb.2.2 ((bk_own _ _ _).symm.trans e)⟩
 ·have:=hb.fits B ((bk_own _ _ _).symm.trans e);have:=hb.lt;omega
 ·have:=hb.g.cap;rw[hg2,List.length_take];omega
theorem LasI.undo{V0 W W':World}{B base:Nat}{m:Mac}{d:MAd}{mi:Mac}(h:LasI V0 B base m d mi W){c:Chi}(hH:0≤c.heap∧c.heap≤(mi.H.length:Int))(hT:0≤c.trail∧c.trail≤(mi.T.length:Int))(hG:0≤c.goals∧c.goals≤(mi.G.length:Int)){e:Ending}
 (hp:UndoMPost W B 0 (mi.vals d).toArray 30 base mi.H mi.T d.h d.t d.g d.hn d.tn d.gn c e W'):LasI V0 B base m d (undoM mi c) W'∧Touch (fun b=>b=B∨bk d.h=some b) W W':=by
 obtain⟨-,h2,h3,h4⟩:=hp
 have l1:(undoM mi c).H.length=c.heap.toNat:=by simp only[undoM,List.length_take,unbind_length];omega
 have l2:(undoM mi c).T.length=c.trail.toNat:=by simp only[undoM,List.length_take];omega
 have l3:(undoM mi c).G.length=c.goals.toNat:=by simp only[undoM,List.length_take];omega
 have ht:Touch (fun b=>b=B∨bk d.h=some b) W W':=h2.mono fun b _ e=>e.imp id fun e=>(bk_own _ _ _).symm.trans e
 refine⟨⟨⟨?_⟩,?_,h.keep.trans (ht.mono fun b _ e=>e.elim .inl fun e=>.inr (.inl e))⟩,ht⟩
 ·rw[h3]
  simp only[Mac.vals,l1,l2,l3]
  rfl
 ·rw[l1];exact h4
set_option maxHeartbeats 1000000 in
theorem MBox.put{w:World}{b:Nat}{m0:Mac}{d0:MAd}(h:MBox w b m0 d0)(m:Mac)(d:MAd):MBox (((((((((w.setCell ⟨b,0,none⟩ (.slice d.h m.H.length d.hn)).setCell ⟨b,1,none⟩ (.slice d.g m.G.length d.gn)).setCell ⟨b,2,none⟩ (.int .i64 m.first)).setCell ⟨b,3,none⟩ (.slice d.c m.ch.length d.cn)).setCell ⟨b,4,none⟩ (.slice d.t m.T.length d.tn)).setCell ⟨b,5,none⟩ (.slice d.q m.Q.length d.qn)).setCell ⟨b,6,none⟩ (.int .i64 m.steps)).setCell ⟨b,7,none⟩ (.int .i64 m.fin)).setCell ⟨b,8,none⟩ (.slice d.a m.ans.length d.an)) b m d∧Touch (fun x=>x=b) w (((((((((w.setCell ⟨b,0,none⟩ (.slice d.h m.H.length d.hn)).setCell ⟨b,1,none⟩ (.slice d.g m.G.length d.gn)).setCell ⟨b,2,none⟩ (.int .i64 m.first)).setCell ⟨b,3,none⟩ (.slice d.c m.ch.length d.cn)).setCell ⟨b,4,none⟩ (.slice d.t m.T.length d.tn)).setCell ⟨b,5,none⟩ (.slice d.q m.Q.length d.qn)).setCell ⟨b,6,none⟩ (.int .i64 m.steps)).setCell ⟨b,7,none⟩ (.int .i64 m.fin)).setCell ⟨b,8,none⟩ (.slice d.a m.ans.length d.an)):=by
 refine⟨⟨?_⟩,?_⟩
 ·skip
  have k0:=heap_setCell_at w b 0 (.slice d.h m.H.length d.hn) h.blk
  have k1:=heap_setCell_at _ b 1 (.slice d.g m.G.length d.gn) k0
  have k2:=heap_setCell_at _ b 2 (.int .i64 m.first) k1
  have k3:=heap_setCell_at _ b 3 (.slice d.c m.ch.length d.cn) k2
  have k4:=heap_setCell_at _ b 4 (.slice d.t m.T.length d.tn) k3
  have k5:=heap_setCell_at _ b 5 (.slice d.q m.Q.length d.qn) k4
  have k6:=heap_setCell_at _ b 6 (.int .i64 m.steps) k5
  have k7:=heap_setCell_at _ b 7 (.int .i64 m.fin) k6
  have k8:=heap_setCell_at _ b 8 (.slice d.a m.ans.length d.an) k7
  rw[k8]
  simp[Mac.vals]
 ·exact(((((((((Touch.setCell (M:=fun x=>x=b) (w:=w) (p:=⟨b,0,none⟩) (.slice d.h m.H.length d.hn) rfl).trans (Touch.setCell (M:=fun x=>x=b) (p:=⟨b,1,none⟩) (.slice d.g m.G.length d.gn) rfl)).trans (Touch.setCell (M:=fun x=>x=b) (p:=⟨b,2,none⟩) (.int .i64 m.first) rfl)).trans (Touch.setCell (M:=fun x=>x=b) (p:=⟨b,3,none⟩) (.slice d.c m.ch.length d.cn) rfl)).trans (Touch.setCell (M:=fun x=>x=b) (p:=⟨b,4,none⟩) (.slice d.t m.T.length d.tn) rfl)).trans (Touch.setCell (M:=fun x=>x=b) (p:=⟨b,5,none⟩) (.slice d.q m.Q.length d.qn) rfl)).trans (Touch.setCell (M:=fun x=>x=b) (p:=⟨b,6,none⟩) (.int .i64 m.steps) rfl)).trans (Touch.setCell (M:=fun x=>x=b) (p:=⟨b,7,none⟩) (.int .i64 m.fin) rfl)).trans (Touch.setCell (M:=fun x=>x=b) (p:=⟨b,8,none⟩) (.slice d.a m.ans.length d.an) rfl))
theorem near_set{H:List HC}(h:NearH H)(p:Nat)(x:Int):NearH (H.set p ⟨1,x,⟨#[]⟩⟩):=fun i hi=>by
 rw[List.length_set] at hi
 by_cases hp:p<H.length
 ·rw[hc_set H p i _ hp]
  by_cases e:i=p
  ·rw[if_pos e];intro h2;cases h2
  ·rw[if_neg e];exact h i hi
 ·rw[List.set_eq_of_length_le (by omega)];exact h i hi
theorem near_unbind(top:Int):∀ (l:List Int) (H:List HC),NearH H→NearH (unbind top l H):=by
 intro l
 induction l with
 | nil=>intro H h;exact h
 | cons x r ih =>
  intro H h
  simp only[unbind]
  refine ih _ ?_
  split
  ·exact near_set h _ _
  ·exact h
theorem near_undo{mi:Mac}(h:NearH mi.H)(c:Chi):NearH (undoM mi c).H:=fun i hi=>by
 have hi':=hi
 simp only[undoM,List.length_take] at hi'
 have e:hc (undoM mi c).H i=hc (unbind c.heap (mi.T.drop c.trail.toNat) mi.H) i:=hc_take (by omega)
 rw[e]
 exact near_unbind _ _ _ h i (by omega)
theorem near_undoI:∀ (l:List Chi) (mi:Mac),NearH mi.H→NearH (undoI mi l).H:=by
 intro l
 induction l with
 | nil=>intro mi h;exact h
 | cons c r ih=>intro mi h;exact ih (undoM mi c) (near_undo h c)
theorem undoI_ans(X:List (List Tm)):∀ (l:List Chi) (m:Mac),undoI { m with ans:=X } l = { undoI m l with ans:=X }:=by
 intro l
 induction l with
 | nil=>intro m;rfl
 | cons c r ih=>intro m;exact ih (undoM m c)
theorem keepsFrom_touch{B:Nat}{W V:World}(h:Touch (fun b=>b<B) W V):KeepsFrom B W V :=
 ⟨h.size,fun k o hk ho _=>(h.block k (Array.getElem?_eq_some_iff.1 ho).1 (by omega)).trans ho⟩
theorem ownFrom_touch{β:Type}{B:Nat}{I:β→World→Prop}(h:∀ s W W',I s W→Touch (fun b=>B≤b) W W'→I s W'):OwnFrom B I:=fun s W W' _ hs hg hr =>
 h s W W' hs (Touch.grown hg fun k e=>(hr k e).1)
set_option maxRecDepth 100000 in
set_option maxHeartbeats 400000 in
theorem back_in(F:Fence)(n:Nat)(hF:F.fn 83)(hro:F.round=none)(a:Option Addr)(len cap:Nat)(w:World) :
 CallsIn F n Try.prog 83 #[.slice a len cap] w fun e w'=>e=.returned (.func (.func 110) #[] #[.pointer (some ⟨w.heap.size,0,none⟩)])∧w'=w.alloc (.cells #[.slice a len cap] 26):=by
 refine callsIn_of_wp Try.func83 rfl hF ?_ hro
 simp only[Try.ntmps83,List.size_toArray,List.length_cons,List.length_nil,Nat.reduceAdd,Nat.reduceSub,Array.replicate_succ,Array.replicate_zero,List.push_toArray,List.append_toArray,List.nil_append,List.cons_append]
 gi_wp2
 go_ret
 exact⟨rfl,rfl⟩
set_option maxRecDepth 100000 in
set_option maxHeartbeats 3200000 in
theorem LastingW(m:Mac)(d:MAd){w:World}{ok:Nat→Prop}(h:MacAt w ok m d)(hb:MacBig m){np:Nat}(hc:ChoicesOk np m.G.length m.H.length m.T.length zeroChi m.ch)(hT:ThereM m)(hN:NearH m.H)(hlen:m.H.length≤400000) :
 Calls Try.prog 55 #[.agg #[.slice d.h m.H.length d.hn,.slice d.g m.G.length d.gn,.int .i64 m.first,.slice d.c m.ch.length d.cn,.slice d.t m.T.length d.tn,.slice d.q m.Q.length d.qn,.int .i64 m.steps,.int .i64 m.fin,.slice d.a m.ans.length d.an]] w
  fun e w'=>e=.returned (.bool (pd (Lasting m.ch.reverse m)))∧Below w.heap.size w w':=by
 refine(callsIn_wide (n:=3)).1 ?_
 have hro:Fence.wide.round=none:=rfl
 have h1:1≤3:=by omega
 have HOWN:=lh (fun X Y=>OwnMW m d ((h.mono (ok':=fun b=>b<w.heap.size) fun b hb _=>hb).keep (Keeps.below (((Below.refl w.heap.size w).alloc (Nat.le_refl _) X).alloc (by simp) Y) _)) hb)
 have HX:Hid (MBox ((w.alloc (.cells (m.vals d).toArray 30)).alloc (.cells #[.bool false] 4)) w.heap.size m d):=lh ((MBox.made w m d).below ((Below.refl _ _).alloc (Nat.le_refl _) _))
 have HB0:Hid (Below w.heap.size w ((w.alloc (.cells (m.vals d).toArray 30)).alloc (.cells #[.bool false] 4))):=lh (((Below.refl _ _).alloc (Nat.le_refl _) _).alloc (by simp) _)
 have HR0:Hid (((w.alloc (.cells (m.vals d).toArray 30)).alloc (.cells #[.bool false] 4)).heap[w.heap.size+1]? = some (.cells #[.bool false] 4 (0,0))):=lh (by
  have hsz:(w.alloc (.cells (m.vals d).toArray 30)).heap.size=w.heap.size+1:=by simp
  rw[← hsz];exact heap_alloc_new _ _)
 have HC:=lh hc;have HT:=lh hT;have HN:=lh hN
 clear h hb hc hT hN
 simp only[Mac.vals] at HX HB0 HR0
 refine callsIn_of_wp_marks Try.func55 rfl trivial ?_ hro
 simp only[Try.ntmps55,List.size_toArray,List.length_cons,List.length_nil,Nat.reduceAdd,Nat.reduceSub,Array.replicate_succ,Array.replicate_zero,List.push_toArray,List.append_toArray,List.nil_append,List.cons_append]
 gi_wp2_with (first
  | (refine⟨trivial,?_⟩;gi_at_call 23;refine(callsIn_wide.2 (HOWN.out _ _)).mono ?_;rintro e w1 ⟨d1,rfl,hO,hb1⟩;have HO:=lh hO;have HB1:=lh hb1;have HX1:=lh (HX.out.below hb1);obtain⟨y0,y1,y2,y3,y4,y5,y6,y7,y8,yf⟩:=HX1.out.all;clear hO hb1;simp only[Mac.vals])
  | (refine⟨trivial,?_⟩;gi_at_call 83;refine(back_in Fence.wide _ trivial hro _ _ _ _).mono ?_;rintro e w' ⟨rfl,rfl⟩))
 obtain⟨m1,hm1⟩:∃ m1:Mac,m1 = { m with ans:=m.ans.map mvA }:=⟨_,rfl⟩
 rw[← hm1] at HO
 have hmH:m1.H=m.H:=by rw[hm1]
 have hmG:m1.G=m.G:=by rw[hm1]
 have hmT:m1.T=m.T:=by rw[hm1]
 have hmQ:m1.Q=m.Q:=by rw[hm1]
 have hmC:m1.ch=m.ch:=by rw[hm1]
 obtain⟨X,hXb,hXt,hX⟩:∃ X,MBox X w.heap.size m1 d1∧Touch (fun x=>x=w.heap.size) w1 X∧X=(((((((((w1.setCell ⟨w.heap.size,0,none⟩ (.slice d1.h m.H.length d1.hn)).setCell ⟨w.heap.size,1,none⟩ (.slice d1.g m.G.length d1.gn)).setCell ⟨w.heap.size,2,none⟩ (.int .i64 m.first)).setCell ⟨w.heap.size,3,none⟩ (.slice d1.c m.ch.length d1.cn)).setCell ⟨w.heap.size,4,none⟩ (.slice d1.t m.T.length d1.tn)).setCell ⟨w.heap.size,5,none⟩ (.slice d1.q m.Q.length d1.qn)).setCell ⟨w.heap.size,6,none⟩ (.int .i64 m.steps)).setCell ⟨w.heap.size,7,none⟩ (.int .i64 m.fin)).setCell ⟨w.heap.size,8,none⟩ (.slice d1.a m.ans.length d1.an)):=⟨_,(HX1.out.put m1 d1).1,(HX1.out.put m1 d1).2,by subst hm1;simp only[List.length_map]⟩
 rw[← hX]
 have hXs:X.heap.size=w1.heap.size:=by rw[hX];simp
 have hbase:((w.alloc (.cells (m.vals d).toArray 30)).alloc (.cells #[.bool false] 4)).heap.size=w.heap.size+2:=by simp
 simp only[Mac.vals] at hbase
 clear hX
 obtain⟨V0,hV0⟩:∃ V0,V0=X.alloc (.cells #[.slice d1.c m.ch.length d1.cn] 26):=⟨_,rfl⟩
 have hs1:=HB1.out.size
 have hVs:V0.heap.size=w1.heap.size+1:=by rw[hV0];simp[hXs]
 have hVt:Touch (fun x=>x=w.heap.size) w1 V0:=by rw[hV0];exact hXt.trans (Touch.below ((Below.refl _ _).alloc (Nat.le_refl _) _))
 have hVc:V0.cell? ⟨w1.heap.size,0,none⟩=some (.slice d1.c m.ch.length d1.cn):=by
  rw[hV0,← hXs];exact(cell_new_s X _ _).1
 have hVb:MBox V0 w.heap.size m1 d1:=by rw[hV0];exact hXb.below ((Below.refl _ _).alloc (Nat.le_refl _) _)
 rw[← hV0]
 clear hV0
 have LB:LasB V0 w.heap.size (w.heap.size+2) m1 d1:=by
  have hO:=HO.out
  rw[hbase] at hO
  refine hO.lasB (fun b hb e=>?_) (by omega) (by rw[← hbase];exact hs1) hVt
  subst e
  rcases hb with hb | hb
  ·exact absurd hb.1 (Nat.lt_irrefl _)
  ·omega
 have hL0:LasI V0 w.heap.size (w.heap.size+2) m1 d1 m1 V0:=by
  refine⟨hVb,?_,Touch.refl _ _⟩
  have hO:=HO.out.h
  rw[hbase] at hO
  exact hO.keep fun g hg=>hVt.block g (hO.row.lt g hg).2 (by have:=(hO.row.lt g hg).1;omega)
 have LBH:=lh LB
 have hVr:V0.heap[w.heap.size+1]? = some (.cells #[.bool false] 4 (0,0)):=by
  rw[hVt.block _ (by rw[hbase] at hs1;omega) (by omega),HB1.out.block _ (by rw[hbase];omega)]
  exact HR0.out
 have hVw:Below w.heap.size w V0:=((HB0.out).trans (HB1.out.mono (by rw[hbase];omega))).trans (hVt.toBelow (by rw[hbase] at hs1;omega) fun b e=>by omega)
 have hne1:∀ b,bk d1.h=some b→w.heap.size+2≤b∧b<V0.heap.size:=LB.fits
 have hHK:=HC.out
 rw[← hmH,← hmG,← hmT,← hmC] at hHK
 have HBO:=lh (fun i hi=>back_ok hHK i hi)
 have HBN:=lh (fun i (hi:i<m1.ch.length)=>back_next hi)
 have HNR:Hid (∀ l,NearH (undoI m1 l).H):=lh fun l=>near_undoI l m1 (by rw[hmH];exact HN.out)
 have HTX:Hid (∀ x,x∈m1.T→0≤x):=lh fun x hx=>(HT.out.trail x (by rw[← hmT];exact hx)).1
 have HLI:Hid (Lasting m.ch.reverse m↔∀ i,i<m1.ch.length→ThereM (undoI m1 (m1.ch.reverse.take (i+1)))):=lh (by
  rw[lasting_iff,hmC,List.length_reverse]
  refine forall_congr' fun i=>forall_congr' fun _=>?_
  have e:=undoI_ans (m.ans.map mvA) (m.ch.reverse.take (i+1)) m
  rw[hm1,e]
  exact Iff.rfl)
 have hLc:=LB.c
 have hfit:∀ b,bk d1.h=some b→b<w1.heap.size:=fun b hb=>(HO.out.h.row.lt b ((bk_own _ _ _).trans hb)).2
 rw[hmC] at hLc HBO HBN HLI
 refine wpIn_turns (n:=3) hro h1 (gf:=110) (lb:=#[.pointer (some ⟨w1.heap.size,0,none⟩)]) rfl trivial (enters_of Try.func110 (by kernel_rfl) rfl)
  (encs:=backK m.ch) (Kp:=Keeps fun b=>b<V0.heap.size∧b≠w.heap.size∧bk d1.h≠some b) (N:=m.ch.length) (w0:=V0)
  (backK_turns (n:=2) (by omega) m.ch ⟨by omega,by omega,by omega,fun e=>by have:=hfit _ e;omega⟩ hVc hLc)
  (fun {A B C} h k=>h.trans k) (fun W l o o' hl _ _=>⟨(grownBy_putObj' W l o').size,fun b hb hlt=>(grownBy_putObj' W l o').block b hlt (fun e=>by cases e;have:=hb.1;omega)⟩) (Below.refl _ _) (fun _=>rfl)
  (fun i W=>LasI V0 w.heap.size (w.heap.size+2) m1 d1 (undoI m1 (m.ch.reverse.take i)) W∧∀ j,j<i→ThereM (undoI m1 (m.ch.reverse.take (j+1))))
  (fun _ W=>W.heap[w.heap.size+1]? = some (.cells #[.bool false] 4 (0,0))∧¬ Lasting m.ch.reverse m∧Below w.heap.size w W)
  (ownFrom_touch fun i W W' h ht=>⟨h.1.touch LBH.out ht,h.2⟩)
  (ownFrom_touch fun _ W W' h ht=>⟨(ht.block _ (Array.getElem?_eq_some_iff.1 h.1).1 (by omega)).trans h.1,h.2.1,h.2.2.trans (ht.toBelow h.2.2.size fun b e=>by have:=hVw.size;omega)⟩)
  ⟨hL0,fun j h=>absurd h (Nat.not_lt_zero j)⟩
  (fun i a' W=>∃ bc,a' = { tmps:=#[.agg #[.slice d.h m.H.length d.hn,.slice d.g m.G.length d.gn,.int .i64 m.first,.slice d.c m.ch.length d.cn,.slice d.t m.T.length d.tn,.slice d.q m.Q.length d.qn,.int .i64 m.steps,.int .i64 m.fin,.slice d.a m.ans.length d.an],.pointer (some ⟨w.heap.size,0,none⟩),.pointer (some ⟨w.heap.size+1,0,none⟩),undef,.pointer (some ⟨bc,0,none⟩),.agg #[.slice d.h m.H.length d.hn,.slice d.g m.G.length d.gn,.int .i64 m.first,.slice d.c m.ch.length d.cn,.slice d.t m.T.length d.tn,.slice d.q m.Q.length d.qn,.int .i64 m.steps,.int .i64 m.fin,.slice d.a m.ans.length d.an],.agg #[.slice d1.h m.H.length d1.hn,.slice d1.g m.G.length d1.gn,.int .i64 m.first,.slice d1.c m.ch.length d1.cn,.slice d1.t m.T.length d1.tn,.slice d1.q m.Q.length d1.qn,.int .i64 m.steps,.int .i64 m.fin,.slice d1.a m.ans.length d1.an],.pointer (some ⟨w.heap.size,3,none⟩),.slice d1.c m.ch.length d1.cn,.func (.func 110) #[] #[.pointer (some ⟨w1.heap.size,0,none⟩)],.int .i64 ((m.ch.length-1-i:Nat):Int),chiV (m.ch.getD (m.ch.length-1-i) zeroChi),undef,undef,undef,undef,undef],defers:=[] }∧CBox W bc (m.ch.getD (m.ch.length-1-i) zeroChi)∧V0.heap.size≤bc)
  (fun a' i W W' row ⟨bc,e1,e2,e3⟩ hg hr=>⟨bc,e1,e2.keep (hg.block bc e2.lt (fun e=>by obtain⟨_,o,ho,hc⟩:=hr bc e.symm;rw[e2.blk] at ho;cases ho;cases hc)),e3⟩) ?assign ?body ?done ?stop
 case assign =>
  intro l i W K hN hI hK
  simp only[backK,chiV]
  gi_wp2
  have hB:Below W.heap.size W (W.alloc (.cells #[.int .i64 (m.ch.getD (m.ch.length-1-i) zeroChi).goal,.int .i64 (m.ch.getD (m.ch.length-1-i) zeroChi).clause,.int .i64 (m.ch.getD (m.ch.length-1-i) zeroChi).heap,.int .i64 (m.ch.getD (m.ch.length-1-i) zeroChi).trail,.int .i64 (m.ch.getD (m.ch.length-1-i) zeroChi).goals] 67)):=(Below.refl _ _).alloc (Nat.le_refl _) _
  exact hK _ _ ((KeepsOthers.alloc W _).from _) (Keeps.below hB _) ⟨hI.1.touch LBH.out (Touch.below hB),hI.2⟩ ⟨W.heap.size,rfl,⟨heap_alloc_new W _⟩,hI.1.keep.size⟩
 case body =>
  rintro l i a' W hN ⟨hI1,hI2⟩ ⟨bc,rfl,hcb,hbc⟩
  obtain⟨hu,hcan⟩:=HBO.out i (Nat.le_of_lt hN)
  obtain⟨hnx,hmem⟩:=HBN.out i hN
  obtain⟨bH,bT,bG⟩:=hcan _ hmem
  have hlen':(undoI m1 (m.ch.reverse.take i)).H.length≤400000:=by have:=hu.h;rw[hmH] at this;omega
  have hxs:∀ x,x∈(undoI m1 (m.ch.reverse.take i)).T→0≤x:=fun x hx=>by
   obtain⟨k,-,e⟩:=hu.t
   rw[e] at hx
   exact HTX.out x (List.mem_of_mem_take hx)
  have hnr:=HNR.out (m.ch.reverse.take i)
  have hsn:=undoI_snoc m1 (m.ch.reverse.take i) (m.ch.getD (m.ch.length-1-i) zeroChi)
  rw[← hnx] at hsn
  obtain⟨k0,k1,k2,k3,k4,-⟩:=hcb.all
  simp only[chiV]
  have HLIN:=lh (fun h:¬ ThereM (undoI m1 (m.ch.reverse.take (i+1)))=>fun hL=>h (HLI.out.1 hL i hN))
  clear hnx hmem hcan
  generalize m.ch.getD (m.ch.length-1-i) zeroChi=c at *
  rw[hsn] at HLIN
  generalize hmi:undoI m1 (m.ch.reverse.take i)=mi at *
  have HU:=lh (UndoMW (hI1.uat LBH.out hu) bH bT bG hxs hlen')
  have HI1:=lh hI1;have HI2:=lh hI2;have HUI:=lh hu;have HBD:=lh (And.intro bH (And.intro bT bG));have HSN:=lh hsn;have HNRI:=lh hnr
  have zB:w.heap.size<W.heap.size:=hI1.box.lt
  clear hI1 hI2 hu bH bT bG hsn hnr hxs hmi hcb
  have hl2:(undoM mi c).H.length≤400000:=by simp only[undoM,List.length_take,unbind_length];omega
  by_cases hth:ThereM (undoM mi c)
  ·have HTB:Hid (thereB (undoM mi c)=true):=lh (pd_true hth)
   have HTT:=lh hth
   clear hth
   gi_wp2_with (first
    | (refine⟨trivial,?_⟩;gi_at_call 84;refine(show CallsIn Fence.wide _ _ _ _ _ _ from callsIn_wide.2 HU.out).mono ?_;rintro e w2 hp;obtain⟨hL2,hT2⟩:=HI1.out.undo HBD.out.1 HBD.out.2.1 HBD.out.2.2 hp;obtain⟨⟨v,rfl⟩,-⟩:=hp;have HL2:=lh hL2;have HT2:=lh hT2;obtain⟨y0,y1,y2,y3,y4,y5,y6,y7,y8,-⟩:=hL2.box.all;clear hL2 hT2)
    | (refine⟨trivial,?_⟩;gi_at_call 51;refine(show CallsIn Fence.wide _ _ _ _ _ _ from callsIn_wide.2 (ThereW (undoM mi c) d1 (HL2.out.mac LBH.out (HUI.out.undo c)) (near_undo HNRI.out c) hl2)).mono ?_;rintro e w3 ⟨rfl,hb3⟩;rw[HTB.out];have HB3:=lh hb3;clear hb3))
   have hT3:Touch (fun b=>b=w.heap.size∨bk d1.h=some b) W w3:=HT2.out.trans (Touch.below HB3.out)
   refine⟨keepsFrom_touch (hT3.mono fun b _ e=>?_),hT3.keeps fun b hb e=>?_,?_,fun j hj=>?_⟩
   ·rcases e with e | e
    ·omega
    ·exact(hne1 b e).2
   ·rcases e with e | e
    ·exact hb.2.1 e
    ·exact hb.2.2 e
   ·rw[HSN.out]
    exact HL2.out.touch LBH.out (Touch.below HB3.out)
   ·by_cases e:j=i
    ·subst e;rw[HSN.out];exact HTT.out
    ·exact HI2.out j (by omega)
  ·have HTB:Hid (thereB (undoM mi c)=false):=lh (pd_false hth)
   have HTT:=lh (HLIN.out hth)
   clear hth
   gi_wp2_with (first
    | (refine⟨trivial,?_⟩;gi_at_call 84;refine(show CallsIn Fence.wide _ _ _ _ _ _ from callsIn_wide.2 HU.out).mono ?_;rintro e w2 hp;obtain⟨hL2,hT2⟩:=HI1.out.undo HBD.out.1 HBD.out.2.1 HBD.out.2.2 hp;obtain⟨⟨v,rfl⟩,-⟩:=hp;have HL2:=lh hL2;have HT2:=lh hT2;obtain⟨y0,y1,y2,y3,y4,y5,y6,y7,y8,-⟩:=hL2.box.all;clear hL2 hT2)
    | (
     refine⟨trivial,?_⟩;gi_at_call 51;refine(show CallsIn Fence.wide _ _ _ _ _ _ from callsIn_wide.2 (ThereW (undoM mi c) d1 (HL2.out.mac LBH.out (HUI.out.undo c)) (near_undo HNRI.out c) hl2)).mono ?_;rintro e w3 ⟨rfl,hb3⟩;rw[HTB.out];have HB3:=lh hb3;have hR3:w3.heap[w.heap.size+1]? = some (.cells #[.bool false] 4 (0,0)):=(hb3.block _ (by have:=HL2.out.keep.size;omega)).trans ((HL2.out.keep.block _ (by omega) (by rintro (e | e | e);omega;have:=(hne1 _ e).1;omega;omega)).trans hVr);have HR3:=lh hR3;have rc:w3.cell? ⟨w.heap.size+1,0,none⟩=some (.bool false):=by simp[World.cell?,hR3]
     have rf:w3.frozen? ⟨w.heap.size+1,0,none⟩=false:=by simp[World.frozen?,hR3]
     clear hb3 hR3))
   have hT3:Touch (fun b=>b=w.heap.size∨bk d1.h=some b) W w3:=HT2.out.trans (Touch.below HB3.out)
   have hT4:Touch (fun b=>b<V0.heap.size) W (w3.setCell ⟨w.heap.size+1,0,none⟩ (.bool false)):=(hT3.mono fun b _ e=>by
    rcases e with e | e
    ·omega
    ·exact(hne1 b e).2).trans (Touch.setCell _ (by show w.heap.size+1<_;omega))
   refine⟨keepsFrom_touch hT4,?_,HTT.out,?_⟩
   ·rw[heap_setCell_at _ _ _ _ HR3.out];rfl
   ·have hK0:=HI1.out.keep
    have h5:Touch (fun b=>w.heap.size≤b) V0 (w3.setCell ⟨w.heap.size+1,0,none⟩ (.bool false)):=((hK0.mono fun b _ e=>by
     rcases e with e | e | e
     ·omega
     ·have:=(hne1 b e).1;omega
     ·omega).trans (hT3.mono fun b _ e=>by
     rcases e with e | e
     ·omega
     ·have:=(hne1 b e).1;omega)).trans (Touch.setCell _ (by show w.heap.size≤w.heap.size+1;omega))
    exact hVw.trans (h5.toBelow hVw.size fun b e=>e)
 case done =>
  rintro D W hD ⟨hI1,hI2⟩ hK
  have HL:Hid (pd (Lasting m.ch.reverse m)=true):=lh (pd_true (HLI.out.2 fun i hi=>hI2 i hi))
  have hR3:W.heap[w.heap.size+1]? = some (.cells #[.bool false] 4 (0,0)):=(hI1.keep.block _ (by omega) (by rintro (e | e | e);omega;have:=(hne1 _ e).1;omega;omega)).trans hVr
  have rc:W.cell? ⟨w.heap.size+1,0,none⟩=some (.bool false):=by simp[World.cell?,hR3]
  have rf:W.frozen? ⟨w.heap.size+1,0,none⟩=false:=by simp[World.frozen?,hR3]
  have hBW:Below w.heap.size w W:=hVw.trans (hI1.keep.toBelow hVw.size fun b e=>by
   rcases e with e | e | e
   ·omega
   ·have:=(hne1 b e).1;omega
   ·have:=hVw.size;omega)
  have HBW:=lh hBW
  clear hI1 hI2 hR3 hBW
  gi_wp2
  have hK':=(KeepsOthers.setCell W ⟨w.heap.size+1,0,none⟩ (.bool true)).same D _ hK rfl
  refine⟨by simp,.inl ⟨_,_,rfl,run_takeDeferred hK',?_⟩⟩
  have hc5:=cell_kept (World.cell?_setCell_same' W ⟨w.heap.size+1,0,none⟩ (.bool true) (by rw[rc];rfl)) (grownBy_putObj' _ D (.deferred none)) (fun r e=>by cases e;exact⟨_,hK',rfl⟩)
  refine⟨.bool true,?_,by rw[HL.out],(HBW.out.setCell (p:=⟨w.heap.size+1,0,none⟩) (by simp) _).trans (belowK_b (w:=w) (Nat.le_refl _) _ D _ _ (by have:=hVw.size;omega) hK' rfl rfl)⟩
  simp[results,Try.results55,go_sem,hc5]
 case stop =>
  rintro D W hD ⟨hR3,hL,hBW⟩ hK
  have HL:Hid (pd (Lasting m.ch.reverse m)=false):=lh (pd_false hL)
  have rc:W.cell? ⟨w.heap.size+1,0,none⟩=some (.bool false):=by simp[World.cell?,hR3]
  have HBW:=lh hBW
  clear hL hR3 hBW
  gi_wp2
  refine⟨by simp,.inl ⟨_,_,rfl,run_takeDeferred hK,?_⟩⟩
  have hc5:=cell_kept rc (grownBy_putObj' _ D (.deferred none)) (fun r e=>by cases e;exact⟨_,hK,rfl⟩)
  refine⟨.bool false,?_,by rw[HL.out],HBW.out.trans (belowK_b (w:=w) (Nat.le_refl _) W D _ _ (by have:=hVw.size;omega) hK rfl rfl)⟩
  simp[results,Try.results55,go_sem,hc5]
end Go.Proofs.Ytikmgiapjigghab
