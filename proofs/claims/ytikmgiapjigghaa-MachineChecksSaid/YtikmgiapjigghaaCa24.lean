/- Walk: a machine of one's own: its first rows. -/
import Derived.Deep.CutRange
import Derived.Test.YtikmgiapjigghaaCa19
import Derived.Test.YtikmgiapjigghaaCa20
import Derived.Test.YtikmgiapjigghaaCa21
import Derived.Test.YtikmgiapjigghaaCa23
namespace Go.Proofs.Ytikmgiapjigghaa
open Go.RowKit
theorem ownsRow_form{w:World}{base:Nat}{e:TypeId}{size:Nat}{v:Value}{n:Nat}{xs:List Value}(h:w.ownsRow base e size v n xs):∃ a c,v=.slice a n c:=by
 rcases h.2 with ⟨h1,h2⟩ | ⟨g,cap,cur,h1,_⟩
 ·exact⟨none,0,by rw[h1,h2]⟩
 ·exact⟨_,_,h1⟩
theorem HpAt.rw'{w:World}{ok:Nat→Prop}{H:List HC}{a:Option Addr}{cap:Nat}(h:HpAt w ok H a cap):RwAt w ok 3 H.length (flatH H) a cap:=by
 refine⟨h.cap,flatH_length H,fun j u hu=>?_⟩
 have hl:j<(flatH H).length:=(List.getElem?_eq_some_iff.1 hu).1
 rw[flatH_length] at hl
 have hi:j / 3<H.length:=by omega
 obtain⟨b,off,e,hok,hb,-⟩:=h.at' (j / 3) hi
 subst e
 refine⟨b,off,rfl,hok,hb,?_⟩
 have:=h.news j u hu
 rw[addr_add] at this
 exact this
theorem IsAt.rw'{w:World}{ok:Nat→Prop}{l:List Int}{a:Option Addr}{cap:Nat}(h:IsAt w ok l a cap):RwAt w ok 1 l.length (l.map fun x=>Value.int .i64 x) a cap:=by
 refine⟨h.cap,by simp,fun j u hu=>?_⟩
 have hl:j<l.length:=by have:=(List.getElem?_eq_some_iff.1 hu).1;simpa using this
 obtain⟨b,off,e,hok,hb,hc⟩:=h.at' j hl
 refine⟨b,off,e,hok,hb,?_⟩
 rw[List.getElem?_map,List.getElem?_eq_getElem hl] at hu
 simp only[Option.map_some,Option.some.injEq] at hu
 rw[hc,hu]
theorem ints_one(l:List Int):∀ u∈l.map (fun x=>Value.int .i64 x),u.oneCell'=true:=by
 intro u hu
 obtain⟨x,_,rfl⟩:=List.mem_map.1 hu
 rfl
structure MacBig(m:Mac):Prop where
 h:m.H.length*32≤140737488355328
 g:m.G.length*24≤140737488355328
 c:m.ch.length*40≤140737488355328
 t:m.T.length*8≤140737488355328
 q:m.Q.length*8≤140737488355328
 a:m.ans.length*24≤140737488355328
 each:∀ l,l∈m.ans→l.length*48≤140737488355328∧∀ t,t∈l→ArgB t
def MakesRow(f:Nat)(e:TypeId)(k:Nat)(a:Value)(n:Nat)(vs:List Value)(w:World):Prop :=
 ∀ u,Below w.heap.size w u→Calls Try.prog f #[a] u fun e' w'=>(∃ a c,e'=.returned (.slice a n c)∧w'.ownsRow u.heap.size e k (.slice a n c) n vs)∧Below u.heap.size u w'
theorem MakesRow.of{f:Nat}{e:TypeId}{k:Nat}{a:Value}{n:Nat}{vs:List Value}{w:World}(h:∀ u,Below w.heap.size w u→Calls Try.prog f #[a] u fun e' w'=>(∃ v,e'=.returned v∧w'.ownsRow u.heap.size e k v n vs)∧Below u.heap.size u w'):MakesRow f e k a n vs w:=fun u hu =>
 (h u hu).mono fun e' w' ⟨⟨v,h1,h2⟩,h3⟩=>by
  obtain⟨a,c,rfl⟩:=ownsRow_form h2
  exact⟨⟨a,c,h1,h2⟩,h3⟩
def bk(a:Option Addr):Option Nat:=(Value.slice a 0 0).ownBlock
theorem bk_own(a:Option Addr)(n c:Nat):(Value.slice a n c).ownBlock=bk a:=by cases a <;> rfl
def Nd(l:List (Option Nat)):Prop:=l.Pairwise fun x y=>∀ b,x=some b→y≠some b
theorem Nd.up{l:List (Option Nat×Nat×Nat)}(h1:∀ x,x∈l→∀ b,x.1=some b→x.2.1≤b∧b<x.2.2)(h2:l.Pairwise fun x y=>x.2.2≤y.2.1):Nd (l.map (·.1)):=by
 unfold Nd
 rw[List.pairwise_map]
 refine List.Pairwise.imp_of_mem (fun {x y} hx hy h b e1 e2=>?_) h2
 have:=h1 x hx b e1
 have:=h1 y hy b e2
 omega
structure Own1(w wx:World)(m:Mac)(d d':MAd):Prop where
 box:MBox wx w.heap.size m { d with h:=d'.h,g:=d'.g,c:=d'.c,hn:=d'.hn,gn:=d'.gn,cn:=d'.cn }
 res:wx.heap[w.heap.size+1]? = some (.cells #[.slice none 0 0,.slice none 0 0,.int .i64 0,.slice none 0 0,.slice none 0 0,.slice none 0 0,.int .i64 0,.int .i64 0,.slice none 0 0] 81 (0,0))
 h:wx.ownsRow (w.heap.size+2) 120 3 (.slice d'.h m.H.length d'.hn) m.H.length (flatH m.H)
 g:wx.ownsRow (w.heap.size+2) 155 3 (.slice d'.g m.G.length d'.gn) m.G.length (flatG m.G)
 c:wx.ownsRow (w.heap.size+2) 157 5 (.slice d'.c m.ch.length d'.cn) m.ch.length (flatK m.ch)
 ne:Nd [bk d'.h,bk d'.g,bk d'.c]
 below:Below w.heap.size w wx
theorem ownsRow_base{w:World}{base base':Nat}{e:TypeId}{size:Nat}{v:Value}{n:Nat}{xs:List Value}(h:w.ownsRow base e size v n xs)(hb:base'≤base):w.ownsRow base' e size v n xs :=
 ⟨h.1,h.2.imp id fun ⟨g,c,cur,e1,e2,e3⟩=>⟨g,c,cur,e1,Nat.le_trans hb e2,e3⟩⟩
theorem own1_made{w u w1 w2 w3:World}{m:Mac}{d:MAd}(hu:Below w.heap.size w u)(hus:u.heap.size=w.heap.size+2)(hx:MBox u w.heap.size m d)(hz:u.heap[w.heap.size+1]? = some (.cells #[.slice none 0 0,.slice none 0 0,.int .i64 0,.slice none 0 0,.slice none 0 0,.slice none 0 0,.int .i64 0,.int .i64 0,.slice none 0 0] 81 (0,0))){a1 a2 a3:Option Addr}{c1 c2 c3:Nat}
 (ho1:w1.ownsRow u.heap.size 120 3 (.slice a1 m.H.length c1) m.H.length (flatH m.H)) (hb1:Below u.heap.size u w1)
 (ho2:w2.ownsRow w1.heap.size 155 3 (.slice a2 m.G.length c2) m.G.length (flatG m.G)) (hb2:Below w1.heap.size w1 w2)
 (ho3:w3.ownsRow w2.heap.size 157 5 (.slice a3 m.ch.length c3) m.ch.length (flatK m.ch)) (hb3:Below w2.heap.size w2 w3) :
 Own1 w (((w3.setCell ⟨w.heap.size,0,none⟩ (.slice a1 m.H.length c1)).setCell ⟨w.heap.size,1,none⟩ (.slice a2 m.G.length c2)).setCell ⟨w.heap.size,3,none⟩ (.slice a3 m.ch.length c3)) m d ⟨a1,a2,a3,none,none,none,c1,c2,c3,0,0,0⟩:=by
 have s1:=hb1.size;have s2:=hb2.size;have s3:=hb3.size
 have hB3:Below u.heap.size u w3:=(hb1.trans (hb2.mono s1)).trans (hb3.mono (Nat.le_trans s1 s2))
 have hx3:=(hx.below hB3).blk
 have k1:=heap_setCell_at w3 w.heap.size 0 (.slice a1 m.H.length c1) hx3
 have k2:=heap_setCell_at _ w.heap.size 1 (.slice a2 m.G.length c2) k1
 have k3:=heap_setCell_at _ w.heap.size 3 (.slice a3 m.ch.length c3) k2
 have hne:∀ b,b≠w.heap.size→(((w3.setCell ⟨w.heap.size,0,none⟩ (.slice a1 m.H.length c1)).setCell ⟨w.heap.size,1,none⟩ (.slice a2 m.G.length c2)).setCell ⟨w.heap.size,3,none⟩ (.slice a3 m.ch.length c3)).heap[b]? = w3.heap[b]?:=fun b hb=>by
  rw[Below.heap_setCell _ _ _ _ hb,Below.heap_setCell _ _ _ _ hb,Below.heap_setCell _ _ _ _ hb]
 have g1:∀ b,(Value.slice a1 m.H.length c1).ownBlock=some b→u.heap.size≤b∧b<w1.heap.size:=fun b hb=>ho1.lt b hb
 have g2:∀ b,(Value.slice a2 m.G.length c2).ownBlock=some b→w1.heap.size≤b∧b<w2.heap.size:=fun b hb=>ho2.lt b hb
 have g3:∀ b,(Value.slice a3 m.ch.length c3).ownBlock=some b→w2.heap.size≤b∧b<w3.heap.size:=fun b hb=>ho3.lt b hb
 refine⟨⟨k3⟩,?_,?_,?_,?_,?_,?_⟩
 ·rw[hne _ (by omega),hB3.block _ (by omega)];exact hz
 ·exact ownsRow_base (ownsRow_block (ownsRow_below (ownsRow_below ho1 hb2) hb3) fun g hg=>hne g (by have:=g1 g hg;omega)) (by omega)
 ·exact ownsRow_base (ownsRow_block (ownsRow_below ho2 hb3) fun g hg=>hne g (by have:=g2 g hg;omega)) (by omega)
 ·exact ownsRow_base (ownsRow_block ho3 fun g hg=>hne g (by have:=g3 g hg;omega)) (by omega)
 ·exact Nd.up (l:=[(bk a1,u.heap.size,w1.heap.size),(bk a2,w1.heap.size,w2.heap.size),(bk a3,w2.heap.size,w3.heap.size)]) (by
   intro x hx b hb
   simp only[List.mem_cons,List.not_mem_nil,or_false] at hx
   rcases hx with rfl | rfl | rfl
   ·exact g1 b ((bk_own _ _ _).trans hb)
   ·exact g2 b ((bk_own _ _ _).trans hb)
   ·exact g3 b ((bk_own _ _ _).trans hb)) (by simp[List.pairwise_cons];omega)
 ·have ht:Touch (fun b=>b=w.heap.size) w3 _:=((Touch.setCell (M:=fun b=>b=w.heap.size) (w:=w3) (p:=⟨w.heap.size,0,none⟩) (.slice a1 m.H.length c1) rfl).trans (Touch.setCell (M:=fun b=>b=w.heap.size) (p:=⟨w.heap.size,1,none⟩) (.slice a2 m.G.length c2) rfl)).trans (Touch.setCell (M:=fun b=>b=w.heap.size) (p:=⟨w.heap.size,3,none⟩) (.slice a3 m.ch.length c3) rfl)
  exact(hu.trans (hB3.mono (by omega))).trans (ht.toBelow (by omega) fun b e=>by omega)
theorem Try.infoAnM1:(Try.prog.info? 146).map (fun i=>(i.size,i.bytes))=some (1,24):=by kernel_rfl
theorem Try.infoAnM2:((Try.prog.info? 146).bind (fun i=>i.zero)).map (fun z=>z.cells.size)=some 1:=by kernel_rfl
theorem infoAnM:∃ i z,Try.prog.info? 146=some i∧i.zero=some z∧i.size=1∧i.bytes=24∧z.cells.size=1:=by
 have h1:=Try.infoAnM1;have h2:=Try.infoAnM2
 obtain⟨i,hi,h3⟩:=Option.map_eq_some_iff.1 h1
 obtain⟨z,hz,h4⟩:=Option.map_eq_some_iff.1 h2
 rw[hi,Option.bind_some] at hz
 simp only[Prod.mk.injEq] at h3
 exact⟨i,z,hi,hz,h3.1,h3.2,h4⟩
theorem parts_i64{w:World}{ok:Nat→Prop}(t:Tm):t.fits→∀ (a:Option Addr) (cap:Nat),Ts w ok t.args a cap→∀ p,p∈t.parts→I64 p.var:=by
 induction t using Tm.ind with
 | h v n l ih =>
  intro hf a cap ht p hp
  rw[Tm.parts] at hp
  rcases List.mem_cons.1 hp with rfl | hp
  ·exact hf.1
  ·obtain⟨x,hx,hp⟩:=partss_sub _ _ hp
   obtain⟨k,hk,rfl⟩:=List.getElem_of_mem hx
   obtain⟨b,off,a',cap',_,_,_,hc,h2⟩:=Ts.at (l:=l) ht k hk
   exact ih _ (List.getElem_mem hk) hc.fits a' cap' h2 p hp
def mvA(l:List Tm):List Tm:=l.map (far 0)
structure AnsRel(w:World)(ok:Nat→Prop)(wb wr:World)(l:List (List Tm))(v:Value)(A:List ((Option Addr×Nat)×List Tm)):Prop where
 row:wr.ownsRow wb.heap.size 146 1 v A.length (flatA A)
 eq:A.map (·.2)=l
 each:∀ x,x∈A→Ts wr (fun b=>((ok b∧b<w.heap.size)∨wb.heap.size≤b)∧v.ownBlock≠some b) x.2 x.1.1 x.1.2
 below:Below wb.heap.size wb wr
theorem AnsRel.more{w:World}{ok:Nat→Prop}{wb wr X w':World}{l:List (List Tm)}{v v':Value}{A:List ((Option Addr×Nat)×List Tm)}(h:AnsRel w ok wb wr l v A)(hX:Below wr.heap.size wr X){r:List Tm}{a:Option Addr}{c:Nat}(ht:Ts X (OkN (fun b=>ok b∧b<w.heap.size) wr) r a c)(hw:w.heap.size≤wb.heap.size)
 (ho:w'.ownsRow wb.heap.size 146 1 v' (A.length+1) (flatA A++[.slice a r.length c])) (hg:X.grownBy w' v.ownBlock) (hf:Fresh X v v'):AnsRel w ok wb w' (l++[r]) v' (A++[((a,c),r)]):=by
 have hlt:∀ b,v.ownBlock=some b→wb.heap.size≤b∧b<wr.heap.size:=fun b hb=>h.row.lt b hb
 have hs:=h.below.size
 have key:∀ {r:List Tm} {a:Option Addr} {c:Nat},Ts X (fun b=>((ok b∧b<w.heap.size)∨wb.heap.size≤b)∧v.ownBlock≠some b) r a c→Ts w' (fun b=>((ok b∧b<w.heap.size)∨wb.heap.size≤b)∧v'.ownBlock≠some b) r a c:=fun {r a c} ht=>by
  have h1:Ts X (fun b=>(((ok b∧b<w.heap.size)∨wb.heap.size≤b)∧v.ownBlock≠some b)∧b<X.heap.size) r a c:=ht.mono fun b hb h=>⟨h,hb⟩
  have h2:Keeps (fun b=>(((ok b∧b<w.heap.size)∨wb.heap.size≤b)∧v.ownBlock≠some b)∧b<X.heap.size) X w':=⟨hg.size,fun b hb hs=>hg.block b hs (fun e=>hb.1.2 e.symm)⟩
  refine(h1.keep h2).mono fun b _ hb=>⟨hb.1.1,?_⟩
  rcases hf with hf | hf
  ·rw[hf];exact hb.1.2
  ·intro e;have:=hf b e;omega
 refine⟨by rw[List.length_append];simpa[flatA] using ho,by rw[List.map_append,h.eq];rfl,fun x hx=>?_,(h.below.trans (hX.mono hs)).grown hg (Nat.le_trans hs hX.size) (fun k hk=>(hlt k hk).1)⟩
 rcases List.mem_append.1 hx with hx | hx
 ·exact key ((h.each x hx).keep (Keeps.below hX _))
 ·rw[List.mem_singleton] at hx
  subst hx
  refine key (ht.mono fun b _ hb=>?_)
  rcases hb with hb | hb
  ·exact⟨.inl hb,fun e=>by have:=hlt b e;omega⟩
  ·exact⟨.inr (by omega),fun e=>by have:=hlt b e;omega⟩
structure Own2(w wx:World)(m:Mac)(d d':MAd):Prop where
 box:MBox wx w.heap.size m { d' with a:=d.a,an:=d.an }
 res:wx.heap[w.heap.size+1]? = some (.cells #[.slice none 0 0,.slice none 0 0,.int .i64 0,.slice none 0 0,.slice none 0 0,.slice none 0 0,.int .i64 0,.int .i64 0,.slice none 0 0] 81 (0,0))
 h:wx.ownsRow (w.heap.size+2) 120 3 (.slice d'.h m.H.length d'.hn) m.H.length (flatH m.H)
 g:wx.ownsRow (w.heap.size+2) 155 3 (.slice d'.g m.G.length d'.gn) m.G.length (flatG m.G)
 c:wx.ownsRow (w.heap.size+2) 157 5 (.slice d'.c m.ch.length d'.cn) m.ch.length (flatK m.ch)
 t:wx.ownsRow (w.heap.size+2) 3 1 (.slice d'.t m.T.length d'.tn) m.T.length (m.T.map fun x=>Value.int .i64 x)
 q:wx.ownsRow (w.heap.size+2) 3 1 (.slice d'.q m.Q.length d'.qn) m.Q.length (m.Q.map fun x=>Value.int .i64 x)
 ne:Nd [bk d'.h,bk d'.g,bk d'.c,bk d'.t,bk d'.q]
 below:Below w.heap.size w wx
theorem own2_made{w u w1 w2:World}{m:Mac}{d d':MAd}(hu:Own1 w u m d d'){a1 a2:Option Addr}{c1 c2:Nat}
 (ho1:w1.ownsRow u.drew.heap.size 3 1 (.slice a1 m.T.length c1) m.T.length (m.T.map fun x=>Value.int .i64 x)) (hb1:Below u.drew.heap.size u.drew w1)
 (ho2:w2.ownsRow w1.heap.size 3 1 (.slice a2 m.Q.length c2) m.Q.length (m.Q.map fun x=>Value.int .i64 x)) (hb2:Below w1.heap.size w1 w2) :
 Own2 w ((w2.setCell ⟨w.heap.size,4,none⟩ (.slice a1 m.T.length c1)).setCell ⟨w.heap.size,5,none⟩ (.slice a2 m.Q.length c2)) m d ⟨d'.h,d'.g,d'.c,a1,a2,none,d'.hn,d'.gn,d'.cn,c1,c2,0⟩:=by
 have hd:Below u.heap.size u u.drew:=(Below.refl _ _).drew
 have s0:=hd.size;have s1:=hb1.size;have s2:=hb2.size
 have hB2:Below u.heap.size u w2:=(hd.trans (hb1.mono s0)).trans (hb2.mono (Nat.le_trans s0 s1))
 have hus:w.heap.size+2≤u.heap.size:=by have:=(Array.getElem?_eq_some_iff.1 hu.res).1;omega
 have hx2:=(hu.box.below hB2).blk
 have k1:=heap_setCell_at w2 w.heap.size 4 (.slice a1 m.T.length c1) hx2
 have k2:=heap_setCell_at _ w.heap.size 5 (.slice a2 m.Q.length c2) k1
 have hne:∀ b,b≠w.heap.size→((w2.setCell ⟨w.heap.size,4,none⟩ (.slice a1 m.T.length c1)).setCell ⟨w.heap.size,5,none⟩ (.slice a2 m.Q.length c2)).heap[b]? = w2.heap[b]?:=fun b hb=>by
  rw[Below.heap_setCell _ _ _ _ hb,Below.heap_setCell _ _ _ _ hb]
 have g1:∀ b,(Value.slice a1 m.T.length c1).ownBlock=some b→u.drew.heap.size≤b∧b<w1.heap.size:=fun b hb=>ho1.lt b hb
 have g2:∀ b,(Value.slice a2 m.Q.length c2).ownBlock=some b→w1.heap.size≤b∧b<w2.heap.size:=fun b hb=>ho2.lt b hb
 have old:∀ {e:TypeId} {k:Nat} {a:Option Addr} {n c:Nat} {vs:List Value},u.ownsRow (w.heap.size+2) e k (.slice a n c) n vs→((w2.setCell ⟨w.heap.size,4,none⟩ (.slice a1 m.T.length c1)).setCell ⟨w.heap.size,5,none⟩ (.slice a2 m.Q.length c2)).ownsRow (w.heap.size+2) e k (.slice a n c) n vs:=fun h =>
  ownsRow_block (ownsRow_below h hB2) fun g hg=>hne g (by have:=h.lt g hg;omega)
 have oldlt:∀ {e:TypeId} {k:Nat} {a:Option Addr} {n c:Nat} {vs:List Value},u.ownsRow (w.heap.size+2) e k (.slice a n c) n vs→∀ b,bk a=some b→b<u.heap.size:=fun h b hb=>(h.lt b ((bk_own _ _ _).trans hb)).2
 refine⟨⟨k2⟩,?_,old hu.h,old hu.g,old hu.c,?_,?_,?_,?_⟩
 ·rw[hne _ (by omega),hB2.block _ (by omega)];exact hu.res
 ·exact ownsRow_base (ownsRow_block (ownsRow_below ho1 hb2) fun g hg=>hne g (by have:=g1 g hg;omega)) (by omega)
 ·exact ownsRow_base (ownsRow_block ho2 fun g hg=>hne g (by have:=g2 g hg;omega)) (by omega)
 ·have hn:=hu.ne
  have l1:=oldlt hu.h;have l2:=oldlt hu.g;have l3:=oldlt hu.c
  have n4:∀ x:Option Nat,(∀ b,x=some b→b<u.heap.size)→(∀ b,x=some b→bk a1≠some b)∧∀ b,x=some b→bk a2≠some b:=fun x hx =>
   ⟨fun b hb e=>by have:=hx b hb;have:=g1 b ((bk_own _ _ _).trans e);omega,fun b hb e=>by have:=hx b hb;have:=g2 b ((bk_own _ _ _).trans e);omega⟩
  have n5:∀ b,bk a1=some b→bk a2≠some b:=fun b hb e=>by have:=g1 b ((bk_own _ _ _).trans hb);have:=g2 b ((bk_own _ _ _).trans e);omega
  unfold Nd at hn ⊢
  simp only[List.pairwise_cons,List.mem_cons,List.not_mem_nil,or_false,forall_eq_or_imp,forall_eq] at hn ⊢
  exact⟨⟨hn.1.1,hn.1.2,(n4 _ l1).1,(n4 _ l1).2⟩,⟨hn.2.1,(n4 _ l2).1,(n4 _ l2).2⟩,⟨(n4 _ l3).1,(n4 _ l3).2⟩,n5,fun _ h=>h.elim,List.Pairwise.nil⟩
 ·have ht:Touch (fun b=>b=w.heap.size) w2 _:=(Touch.setCell (M:=fun b=>b=w.heap.size) (w:=w2) (p:=⟨w.heap.size,4,none⟩) (.slice a1 m.T.length c1) rfl).trans (Touch.setCell (M:=fun b=>b=w.heap.size) (p:=⟨w.heap.size,5,none⟩) (.slice a2 m.Q.length c2) rfl)
  exact(hu.below.trans (hB2.mono (by omega))).trans (ht.toBelow (by omega) fun b e=>by omega)
structure OwM(w:World)(base:Nat)(okA:Nat→Prop)(m:Mac)(d:MAd):Prop where
 h:HOwn w base (.slice d.h m.H.length d.hn) m.H
 g:w.ownsRow base 155 3 (.slice d.g m.G.length d.gn) m.G.length (flatG m.G)
 c:w.ownsRow base 157 5 (.slice d.c m.ch.length d.cn) m.ch.length (flatK m.ch)
 t:w.ownsRow base 3 1 (.slice d.t m.T.length d.tn) m.T.length (m.T.map fun x=>Value.int .i64 x)
 q:w.ownsRow base 3 1 (.slice d.q m.Q.length d.qn) m.Q.length (m.Q.map fun x=>Value.int .i64 x)
 a:∃ A:List ((Option Addr×Nat)×List Tm),A.map (·.2)=m.ans∧w.ownsRow base 146 1 (.slice d.a m.ans.length d.an) A.length (flatA A)∧∀ x,x∈A→Ts w (fun b=>okA b∧∀ y,y∈[bk d.h,bk d.g,bk d.c,bk d.t,bk d.q,bk d.a]→y≠some b) x.2 x.1.1 x.1.2
 ne:Nd [bk d.h,bk d.g,bk d.c,bk d.t,bk d.q,bk d.a]
def OwnPost(w:World)(ok:Nat→Prop)(m:Mac)(e:Ending)(w':World):Prop :=
 ∃ d,e=.returned (.agg ({ m with ans:=m.ans.map mvA }.vals d).toArray)∧OwM w' w.heap.size (fun b=>(ok b∧b<w.heap.size)∨w.heap.size≤b) { m with ans:=m.ans.map mvA } d∧Below w.heap.size w w'
theorem own_done{w wc wo wz:World}{ok:Nat→Prop}{m:Mac}{d d2:MAd}(h2:Own2 w wc m d d2){aa:Option Addr}{ac:Nat}{A:List ((Option Addr×Nat)×List Tm)}(hA:AnsRel w ok wc wo (m.ans.map mvA) (.slice aa A.length ac) A)(ht:Touch (fun b=>b=w.heap.size∨b=w.heap.size+1) wo wz)
 (hf:∀ i,i<m.H.length→(hc m.H i).fits):OwM wz w.heap.size (fun b=>(ok b∧b<w.heap.size)∨w.heap.size≤b) { m with ans:=m.ans.map mvA } ⟨d2.h,d2.g,d2.c,d2.t,d2.q,aa,d2.hn,d2.gn,d2.cn,d2.tn,d2.qn,ac⟩∧Below w.heap.size w wz:=by
 have hs:=h2.below.size
 have hz:w.heap.size+2≤wc.heap.size:=by have:=(Array.getElem?_eq_some_iff.1 h2.res).1;omega
 have hw:=hA.below.size
 have hl:A.length=(m.ans.map mvA).length:=by have:=congrArg List.length hA.eq;simpa using this
 have old:∀ {e:TypeId} {k:Nat} {a:Option Addr} {n c:Nat} {vs:List Value},wc.ownsRow (w.heap.size+2) e k (.slice a n c) n vs→wz.ownsRow w.heap.size e k (.slice a n c) n vs:=fun h =>
  ownsRow_base (ownsRow_block (ownsRow_below h hA.below) fun g hg=>ht.block g (by have:=h.lt g hg;omega) (by have:=h.lt g hg;omega)) (by omega)
 have olt:∀ {e:TypeId} {k:Nat} {a:Option Addr} {n c:Nat} {vs:List Value},wc.ownsRow (w.heap.size+2) e k (.slice a n c) n vs→∀ b,bk a=some b→w.heap.size+2≤b∧b<wc.heap.size:=fun h b hb=>h.lt b ((bk_own _ _ _).trans hb)
 have alt:∀ b,bk aa=some b→wc.heap.size≤b∧b<wo.heap.size:=fun b hb=>hA.row.lt b ((bk_own _ _ _).trans hb)
 have l1:=olt h2.h;have l2:=olt h2.g;have l3:=olt h2.c;have l4:=olt h2.t;have l5:=olt h2.q
 refine⟨⟨⟨old h2.h,hf⟩,old h2.g,old h2.c,old h2.t,old h2.q,⟨A,hA.eq,?_,fun x hx=>?_⟩,?_⟩,?_⟩
 ·have hr:=ownsRow_base (ownsRow_block hA.row fun g hg=>ht.block g (hA.row.lt g hg).2 (by have:=(hA.row.lt g hg).1;omega)) (show w.heap.size≤wc.heap.size by omega)
  rw[← hl];exact hr
 ·have h1:=(hA.each x hx).mono (ok':=fun b=>((ok b∧b<w.heap.size)∨wc.heap.size≤b)∧bk aa≠some b) fun b _ hb=>⟨hb.1,fun e=>hb.2 ((bk_own _ _ _).trans e)⟩
  have h3:Keeps (fun b=>((ok b∧b<w.heap.size)∨wc.heap.size≤b)∧bk aa≠some b) wo wz:=ht.keeps fun b hb=>by have:=hb.1;omega
  refine(h1.keep h3).mono fun b _ hb=>⟨hb.1.imp id fun e=>by omega,fun y hy e=>?_⟩
  subst e
  simp only[List.mem_cons,List.not_mem_nil,or_false] at hy
  rcases hy with e | e | e | e | e | e
  ·have:=l1 b e.symm;omega
  ·have:=l2 b e.symm;omega
  ·have:=l3 b e.symm;omega
  ·have:=l4 b e.symm;omega
  ·have:=l5 b e.symm;omega
  ·exact hb.2 e.symm
 ·have hn:=h2.ne
  have key:∀ x:Option Nat,(∀ b,x=some b→w.heap.size+2≤b∧b<wc.heap.size)→∀ b,x=some b→bk aa≠some b:=fun x hx b e1 e2=>by
   have:=hx b e1;have:=alt b e2;omega
  unfold Nd at hn ⊢
  simp only[List.pairwise_cons,List.mem_cons,List.not_mem_nil,or_false,forall_eq_or_imp,forall_eq] at hn ⊢
  obtain⟨⟨a1,a2,a3,a4⟩,⟨b1,b2,b3⟩,⟨c1,c2⟩,d1,-⟩:=hn
  exact⟨⟨a1,a2,a3,a4,key _ l1⟩,⟨b1,b2,b3,key _ l2⟩,⟨c1,c2,key _ l3⟩,⟨d1,key _ l4⟩,key _ l5,fun _ h=>h.elim,List.Pairwise.nil⟩
 ·exact(h2.below.trans (hA.below.mono hs)).trans (ht.toBelow (by omega) fun b e=>by omega)
set_option maxRecDepth 100000 in
set_option maxHeartbeats 3200000 in
theorem OwnMW(m:Mac)(d:MAd){w:World}{ok:Nat→Prop}(h:MacAt w ok m d)(hb:MacBig m) :
 Calls Try.prog 117 #[.agg #[.slice d.h m.H.length d.hn,.slice d.g m.G.length d.gn,.int .i64 m.first,.slice d.c m.ch.length d.cn,.slice d.t m.T.length d.tn,.slice d.q m.Q.length d.qn,.int .i64 m.steps,.int .i64 m.fin,.slice d.a m.ans.length d.an]] w (OwnPost w ok m):=by
 have HM:Hid (MacAt w (fun b=>ok b∧b<w.heap.size) m d):=Lib.hid (h.mono fun b hb ho=>⟨ho,hb⟩)
 have HC1:=Lib.hid (MakesRow.of (f:=139) fun u hu=>CloneCellsW (HM.out.h.rw'.below hu) (flatH_one _) hb.h)
 have HC2:=Lib.hid (MakesRow.of (f:=140) fun u hu=>CloneGoalsW (HM.out.g.below hu) (flatG_one _) hb.g)
 have HC3:=Lib.hid (MakesRow.of (f:=141) fun u hu=>CloneChoisW (HM.out.c.below hu) (flatK_one _) hb.c)
 have HC4:=Lib.hid (MakesRow.of (f:=142) fun u hu=>CloneIntsW (HM.out.t.rw'.below hu) (ints_one _) hb.t)
 have HC5:=Lib.hid (MakesRow.of (f:=142) fun u hu=>CloneIntsW (HM.out.q.rw'.below hu) (ints_one _) hb.q)
 have HBIG:=Lib.hid hb
 clear h hb
 obtain⟨dh,dg,dc,dt,dq,da,dhn,dgn,dcn,dtn,dqn,dan⟩:=d
 simp only at HC1 HC2 HC3 HC4 HC5 ⊢
 go_enter Try.func117,Try.ntmps117
 go_upto_region 1 with fail
 go_cut[] from 3 (fun wx=>∃ d',Own1 w wx m ⟨dh,dg,dc,dt,dq,da,dhn,dgn,dcn,dtn,dqn,dan⟩ d')
 case first =>
  have HBD:Hid (Below w.heap.size w ((w.alloc (.cells (m.vals ⟨dh,dg,dc,dt,dq,da,dhn,dgn,dcn,dtn,dqn,dan⟩).toArray 81)).alloc (.cells #[.slice none 0 0,.slice none 0 0,.int .i64 0,.slice none 0 0,.slice none 0 0,.slice none 0 0,.int .i64 0,.int .i64 0,.slice none 0 0] 81)).drew):=Lib.hid ((((Below.refl _ _).alloc (Nat.le_refl _) _).alloc (by simp) _).drew)
  have HX:Hid (MBox ((w.alloc (.cells (m.vals ⟨dh,dg,dc,dt,dq,da,dhn,dgn,dcn,dtn,dqn,dan⟩).toArray 81)).alloc (.cells #[.slice none 0 0,.slice none 0 0,.int .i64 0,.slice none 0 0,.slice none 0 0,.slice none 0 0,.int .i64 0,.int .i64 0,.slice none 0 0] 81)).drew w.heap.size m ⟨dh,dg,dc,dt,dq,da,dhn,dgn,dcn,dtn,dqn,dan⟩):=Lib.hid ((MBox.made w m _).below (((Below.refl _ _).alloc (Nat.le_refl _) _).drew))
  have hsz:(w.alloc (.cells (m.vals ⟨dh,dg,dc,dt,dq,da,dhn,dgn,dcn,dtn,dqn,dan⟩).toArray 81)).heap.size=w.heap.size+1:=by simp
  have HZ:Hid (((w.alloc (.cells (m.vals ⟨dh,dg,dc,dt,dq,da,dhn,dgn,dcn,dtn,dqn,dan⟩).toArray 81)).alloc (.cells #[.slice none 0 0,.slice none 0 0,.int .i64 0,.slice none 0 0,.slice none 0 0,.slice none 0 0,.int .i64 0,.int .i64 0,.slice none 0 0] 81)).drew.heap[w.heap.size+1]? = some (.cells #[.slice none 0 0,.slice none 0 0,.int .i64 0,.slice none 0 0,.slice none 0 0,.slice none 0 0,.int .i64 0,.int .i64 0,.slice none 0 0] 81 (0,0))):=Lib.hid (by rw[← hsz];exact heap_alloc_new _ _)
  have HSZ:Hid (((w.alloc (.cells (m.vals ⟨dh,dg,dc,dt,dq,da,dhn,dgn,dcn,dtn,dqn,dan⟩).toArray 81)).alloc (.cells #[.slice none 0 0,.slice none 0 0,.int .i64 0,.slice none 0 0,.slice none 0 0,.slice none 0 0,.int .i64 0,.int .i64 0,.slice none 0 0] 81)).drew.heap.size=w.heap.size+2):=Lib.hid (by simp[World.drew])
  clear hsz
  simp only[Mac.vals] at HBD HX HZ HSZ
  go_wp2_with fail
  go_region_with (first
   | (go_at_call 139;refine(HC1.out _ HBD.out).mono ?_;rintro e w1 ⟨⟨a1,c1,rfl,ho1⟩,hb1⟩;have HO1:=Lib.hid ho1;have HB1:=Lib.hid (HBD.out.trans (hb1.mono HBD.out.size));have HX1:=Lib.hid (HX.out.below hb1);have HK1:=Lib.hid hb1;obtain⟨y0,y1,y2,y3,y4,y5,y6,y7,y8,yf⟩:=HX1.out.all;clear ho1 hb1)
   | (go_at_call 140;refine(HC2.out _ HB1.out).mono ?_;rintro e w2 ⟨⟨a2,c2,rfl,ho2⟩,hb2⟩;have HO2:=Lib.hid ho2;have HB2:=Lib.hid (HB1.out.trans (hb2.mono HB1.out.size));have HX2:=Lib.hid (HX1.out.below hb2);have HK2:=Lib.hid hb2;obtain⟨z0,z1,z2,z3,z4,z5,z6,z7,z8,zf⟩:=HX2.out.all;clear ho2 hb2)
   | (go_at_call 141;refine(HC3.out _ HB2.out).mono ?_;rintro e w3 ⟨⟨a3,c3,rfl,ho3⟩,hb3⟩;have HO3:=Lib.hid ho3;have HB3:=Lib.hid (HB2.out.trans (hb3.mono HB2.out.size));have HX3:=Lib.hid (HX2.out.below hb3);have HK3:=Lib.hid hb3;obtain⟨x0,x1,x2,x3,x4,x5,x6,x7,x8,xf⟩:=HX3.out.all;clear ho3 hb3))
  all_goals
   go_wp2_with fail
   go_meet
   case rel=>exact⟨_,own1_made HBD.out HSZ.out HX.out HZ.out HO1.out HK1.out HO2.out HK2.out HO3.out HK3.out⟩
 case rest =>
  obtain⟨d',hO⟩:=hcut
  have HO:=Lib.hid hO
  clear hO
  go_upto_region 2 with fail
  go_cut[] from 3 (fun wx=>∃ d',Own2 w wx m ⟨dh,dg,dc,dt,dq,da,dhn,dgn,dcn,dtn,dqn,dan⟩ d')
  case first =>
   have HBD:=Lib.hid (HO.out.below.drew)
   have hX:=HO.out.box.below ((Below.refl _ _).drew)
   have HX:=Lib.hid hX
   obtain⟨p0,p1,p2,p3,p4,p5,p6,p7,p8,pf⟩:=hX.all
   clear hX
   go_wp2_with fail
   go_region_with (first
    | (go_at_call 142;refine(HC4.out _ HBD.out).mono ?_;rintro e w1 ⟨⟨a1,c1,rfl,ho1⟩,hb1⟩;have HO1:=Lib.hid ho1;have HB1:=Lib.hid (HBD.out.trans (hb1.mono HBD.out.size));have HX1:=Lib.hid (HX.out.below hb1);have HK1:=Lib.hid hb1;obtain⟨y0,y1,y2,y3,y4,y5,y6,y7,y8,yf⟩:=HX1.out.all;clear ho1 hb1)
    | (go_at_call 142;refine(HC5.out _ HB1.out).mono ?_;rintro e w2 ⟨⟨a2,c2,rfl,ho2⟩,hb2⟩;have HO2:=Lib.hid ho2;have HB2:=Lib.hid (HB1.out.trans (hb2.mono HB1.out.size));have HX2:=Lib.hid (HX1.out.below hb2);have HK2:=Lib.hid hb2;obtain⟨z0,z1,z2,z3,z4,z5,z6,z7,z8,zf⟩:=HX2.out.all;clear ho2 hb2))
   all_goals
    go_wp2_with fail
    go_meet
    case rel=>exact⟨_,own2_made HO.out HO1.out HK1.out HO2.out HK2.out⟩
  case rest =>
   obtain⟨d2,hO2⟩:=hcut
   have HO2:=Lib.hid hO2
   clear hO2
   obtain⟨p0,p1,p2,p3,p4,p5,p6,p7,p8,pf⟩:=HO2.out.box.all
   have hwc:=HO2.out.below.size
   have han:=HBIG.out.a
   go_wp2_with fail
   go_loopw[3,32] (fun v3 v32 wr=>∃ (i:Nat) (A:List ((Option Addr×Nat)×List Tm)),i≤m.ans.length∧v32=.int .i64 i∧Hid (AnsRel w ok wc wr ((m.ans.take i).map mvA) v3 A)) (fun _ v32 _=>m.ans.length-(intOf v32).toNat)
   case atStart=>exact⟨0,[],Nat.zero_le _,rfl,Lib.hid ⟨World.ownsRow_nil _ _ _ _,by simp,(fun x hx=>nomatch hx),Below.refl _ _⟩⟩
   case round =>
    rename World=>wo
    obtain⟨i,A,hi,rfl,HA⟩:=hrel
    obtain⟨aa,ac,rfl⟩:=ownsRow_form HA.out.row
    have hAl:A.length=i:=by have:=congrArg List.length HA.out.eq;simp at this;omega
    have HAL:=Lib.hid hAl
    have hwr:=HA.out.below.size
    have HBW:Hid (Below w.heap.size w wo):=Lib.hid (HO2.out.below.trans (HA.out.below.mono hwc))
    clear hAl
    by_cases hlt:i<m.ans.length
    ·obtain⟨b,off,a1,c1,hda,-,hb,hcl,hts⟩:=HM.out.a.elem i hlt
     have hda':da=some ⟨b,off,none⟩:=hda
     clear hda
     subst hda'
     have y0:=(HBW.out.cell (p:=⟨b,off+i,none⟩) hb).trans hcl
     obtain⟨hbl,hba⟩:=HBIG.out.each _ (List.getElem_mem hlt)
     have HTS:=Lib.hid hts;have HBA:=Lib.hid hba
     have HTK:Hid ((m.ans.take (i+1)).map mvA=(m.ans.take i).map mvA++[mvA m.ans[i]]):=Lib.hid (by rw[List.take_succ_eq_append_getElem hlt,List.map_append];rfl)
     clear hcl hts hba
     generalize m.ans[i]=s at *
     go_wp2_with fail
     go_loopw[6,38] (fun v6 v38 wr=>∃ (k:Nat) (L:List TmAt),k≤s.length∧v38=.int .i64 k∧Hid (L.map (·.1)=(s.take k).map (far 0))∧Hid (OwnTs wr wo.heap.size (OkN (fun b=>ok b∧b<w.heap.size) wo) v6 L)∧Hid (Below wo.heap.size wo wr)) (fun _ v38 _=>s.length-(intOf v38).toNat)
     case atStart=>exact⟨0,[],Nat.zero_le _,rfl,Lib.hid rfl,Lib.hid (OwnTs.nil _ _ _),Lib.hid (Below.refl _ _)⟩
     case round =>
      obtain⟨k,L,hk,rfl,HL,HOW,HBZ⟩:=hrel
      obtain⟨xa,xc,rfl⟩:=HOW.out.form
      have hLl:L.length=k:=by
       have:=congrArg List.length HL.out
       rw[List.length_map,List.length_map,List.length_take] at this;omega
      have HLK:=Lib.hid hLl
      have hwz:=HBZ.out.size
      clear hLl
      by_cases hlt2:k<s.length
      ·obtain⟨b2,off2,a2,c2,hsa,-,hb2,hc2,ht2⟩:=HTS.out.at k hlt2
       subst hsa
       have hbz:Hid (Below w.heap.size w wr):=Lib.hid (HBW.out.trans (HBZ.out.mono HBW.out.size))
       have m0:=(hbz.out.cell (p:=⟨b2,off2+k*3,none⟩) hb2).trans hc2.var
       have m1:=(hbz.out.cell (p:=⟨b2,off2+k*3+1,none⟩) hb2).trans hc2.name
       have m2:=(hbz.out.cell (p:=⟨b2,off2+k*3+2,none⟩) hb2).trans hc2.args
       have HTK2:Hid ((s.take (k+1)).map (far 0)=(s.take k).map (far 0)++[far 0 s[k]]):=Lib.hid (by rw[List.take_succ_eq_append_getElem hlt2,List.map_append];rfl)
       have HCL:Hid (∀ X,Calls Try.prog 143 #[.agg #[.int .i64 s[k].var,.string s[k].name,.slice a2 s[k].args.length c2],.int .i64 0] (wr.alloc X) (RetNew (wr.alloc X) (fun b=>ok b∧b<w.heap.size) (far 0 s[k]))):=Lib.hid fun X=>by
        have hbx:Below w.heap.size w (wr.alloc X):=hbz.out.alloc hbz.out.size X
        exact MovedBW (K:=0) s[k] _ (fun b=>ok b∧b<w.heap.size) a2 c2 (fun b hb=>Nat.lt_of_lt_of_le hb.2 hbx.size) (HBA.out _ (List.getElem_mem hlt2)) hc2.fits (ht2.keep (Keeps.below hbx _)) (fun p hp _=>by have:=parts_i64 s[k] hc2.fits a2 c2 ht2 p hp;rwa [Int.add_zero])
       obtain⟨i0,hi0,hz0',hz1',hz2'⟩:=info_parts Try.infoTm
       clear hc2 ht2
       go_wp2_with (first
        | (go_at_call 143;refine(HCL.out _).mono ?_;rintro e w1 ⟨a3,c3,rfl,hf3,ht3,hb3⟩;have HB1:=Lib.hid (((Below.refl wr.heap.size wr).alloc (Nat.le_refl _) _).trans (hb3.mono (by simp)));have HO1:=Lib.hid ((ownsRow_below HOW.out.own HB1.out).alloc (.cells #[.int .i64 (far 0 s[k]).var,.string (far 0 s[k]).name,.slice a3 (far 0 s[k]).args.length c3] 24));have HF3:=Lib.hid hf3;have HT3:=Lib.hid ht3;clear hf3 ht3 hb3)
        | (at_builtin;have _g:=HO1;(refine wpList_append_opt _ rfl _ _ 146 rfl wo.heap.size 24 i0 _ 3 48 Try.underlying146 hi0 hz0' hz1' hz2' rfl (by decide) _ _ _ rfl HO1.out (some ⟨w1.heap.size,0,none⟩) 1 1 ?d0 (flat [(far 0 s[k],a3,c3)]) rfl (by rw[flat_length];rfl) ?d1 (flat_one _) ?d2 ?d3 ?d4 ?_)))
       any_goals (first | (intro h;cases h;done) | exact news3 _ _ a3 c3 rfl | (have:=HLK.out;unfold maxLen;omega) | (have:=HLK.out;omega) | (have:=HB1.out.size;simp only[World.size_alloc];omega))
       intro v4 w4 hown4 hgrow4 hfr4
       have HNX:=Lib.hid (OwnTs.more (wX:=wr.alloc (.cells #[.int .i64 s[k].var,.string s[k].name,.slice a2 s[k].args.length c2] 24)) HOW.out HBZ.out (fun b hb=>Nat.lt_of_lt_of_le hb.2 HBW.out.size) (by simp) HB1.out HF3.out HT3.out ((Below.refl _ _).alloc (Nat.le_refl _) _) hown4 hgrow4 hfr4)
       clear hown4 hgrow4 hfr4
       go_wp2_with fail
       go_roundw
       case measure=>simp only[intOf];omega
       case rel=>exact⟨k+1,_,by omega,by go_num,Lib.hid (by rw[List.map_append,HL.out,HTK2.out];rfl),Lib.hid HNX.out.1,Lib.hid HNX.out.2⟩
      ·have HLE:Hid ((s.take k).map (far 0)=mvA s):=Lib.hid (by rw[List.take_of_length_le (by omega)];rfl)
       have hex:∃ l a c,Value.slice xa L.length xc=.slice a l.length c∧l=mvA s∧Ts wr (OkN (fun b=>ok b∧b<w.heap.size) wo) l a c:=by
        obtain⟨a,c,e1,e2⟩:=HOW.out.ret (w:=wo) (Nat.le_refl _)
        exact⟨L.map (·.1),a,c,e1,HL.out.trans HLE.out,e2⟩
       obtain⟨l,la,lc,hle,hll,hlt3⟩:=hex
       have HLT:=Lib.hid hlt3;have HLL:=Lib.hid hll
       rw[hle]
       obtain⟨i0,zc,hi0,hz0,hz1,hz2,hz3⟩:=infoAnM
       have HO1:=Lib.hid ((ownsRow_below HA.out.row HBZ.out).alloc (.cells #[.slice la l.length lc] 146))
       have hA9:A.length*24≤140737488355328:=by have:=HAL.out;omega
       clear hle hll hlt3
       go_wp2_with (at_builtin;have _g:=HO1;(refine wpList_append_fresh _ rfl _ _ 64 rfl wc.heap.size 146 i0 zc 1 24 Try.underlying64 hi0 hz0 hz1 hz2 hz3 (by decide) _ _ _ rfl HO1.out ⟨wr.heap.size,0,none⟩ 1 1 [.slice la l.length lc] rfl rfl ?e1 ?e2 ?e3 ?e4 ?e5 ?_))
       any_goals (first | exact one_cell _ _ _ | (intro u hu;simp only[List.mem_singleton] at hu;subst hu;rfl) | rfl | (have:=HAL.out;unfold maxLen;omega) | (have:=HAL.out;omega) | (simp only[World.size_alloc];omega))
       intro av' X3 hown3 hg3 hfr3
       have HNX:=Lib.hid (HA.out.more (X:=wr.alloc (.cells #[.slice la l.length lc] 146)) (HBZ.out.trans ((Below.refl _ _).alloc (Nat.le_refl _) _ |>.mono hwz)) (HLT.out.keep (Keeps.below ((Below.refl _ _).alloc (Nat.le_refl _) _) _)) hwc hown3 hg3 hfr3)
       clear hown3 hg3 hfr3
       go_wp2_with fail
       go_roundw
       case measure=>simp only[intOf];omega
       case rel=>exact⟨i+1,_,by omega,by go_num,Lib.hid (by rw[HTK.out,← HLL.out];exact HNX.out)⟩
    ·have HE:Hid (m.ans.take i=m.ans):=Lib.hid (List.take_of_length_le (by omega))
     have hX:=HO2.out.box.below HA.out.below
     have HX:=Lib.hid hX
     obtain⟨x0,x1,x2,x3,x4,x5,x6,x7,x8,xf⟩:=hX.all
     have hR:=(HA.out.below.block _ (Array.getElem?_eq_some_iff.1 HO2.out.res).1).trans HO2.out.res
     have HRR:=Lib.hid hR
     have r0:wo.cell? ⟨w.heap.size+1,0,none⟩=some (.slice none 0 0):=by simp[World.cell?,hR]
     have r1:wo.cell? ⟨w.heap.size+1,1,none⟩=some (.slice none 0 0):=by simp[World.cell?,hR]
     have r2:wo.cell? ⟨w.heap.size+1,2,none⟩=some (.int .i64 0):=by simp[World.cell?,hR]
     have r3:wo.cell? ⟨w.heap.size+1,3,none⟩=some (.slice none 0 0):=by simp[World.cell?,hR]
     have r4:wo.cell? ⟨w.heap.size+1,4,none⟩=some (.slice none 0 0):=by simp[World.cell?,hR]
     have r5:wo.cell? ⟨w.heap.size+1,5,none⟩=some (.slice none 0 0):=by simp[World.cell?,hR]
     have r6:wo.cell? ⟨w.heap.size+1,6,none⟩=some (.int .i64 0):=by simp[World.cell?,hR]
     have r7:wo.cell? ⟨w.heap.size+1,7,none⟩=some (.int .i64 0):=by simp[World.cell?,hR]
     have r8:wo.cell? ⟨w.heap.size+1,8,none⟩=some (.slice none 0 0):=by simp[World.cell?,hR]
     have rf:∀ o,wo.frozen? ⟨w.heap.size+1,o,none⟩=false:=fun o=>by simp[World.frozen?,hR]
     clear hX hR
     go_wp2_with fail
     have hne:w.heap.size+1≠w.heap.size:=by omega
     have k:=(Below.heap_setCell wo ⟨w.heap.size,8,none⟩ (.slice aa A.length ac) _ hne).trans HRR.out
     have k0:=heap_setCell_at _ (w.heap.size+1) 0 (.slice d2.h m.H.length d2.hn) k
     have k1:=heap_setCell_at _ (w.heap.size+1) 1 (.slice d2.g m.G.length d2.gn) k0
     have k2:=heap_setCell_at _ (w.heap.size+1) 2 (.int .i64 m.first) k1
     have k3:=heap_setCell_at _ (w.heap.size+1) 3 (.slice d2.c m.ch.length d2.cn) k2
     have k4:=heap_setCell_at _ (w.heap.size+1) 4 (.slice d2.t m.T.length d2.tn) k3
     have k5:=heap_setCell_at _ (w.heap.size+1) 5 (.slice d2.q m.Q.length d2.qn) k4
     have k6:=heap_setCell_at _ (w.heap.size+1) 6 (.int .i64 m.steps) k5
     have k7:=heap_setCell_at _ (w.heap.size+1) 7 (.int .i64 m.fin) k6
     have k8:=heap_setCell_at _ (w.heap.size+1) 8 (.slice aa A.length ac) k7
     have e0:((((((((((wo.setCell ⟨w.heap.size,8,none⟩ (.slice aa A.length ac)).setCell ⟨w.heap.size+1,0,none⟩ (.slice d2.h m.H.length d2.hn)).setCell ⟨w.heap.size+1,1,none⟩ (.slice d2.g m.G.length d2.gn)).setCell ⟨w.heap.size+1,2,none⟩ (.int .i64 m.first)).setCell ⟨w.heap.size+1,3,none⟩ (.slice d2.c m.ch.length d2.cn)).setCell ⟨w.heap.size+1,4,none⟩ (.slice d2.t m.T.length d2.tn)).setCell ⟨w.heap.size+1,5,none⟩ (.slice d2.q m.Q.length d2.qn)).setCell ⟨w.heap.size+1,6,none⟩ (.int .i64 m.steps)).setCell ⟨w.heap.size+1,7,none⟩ (.int .i64 m.fin)).setCell ⟨w.heap.size+1,8,none⟩ (.slice aa A.length ac)).cell? ⟨w.heap.size+1,0,none⟩=some (.slice d2.h m.H.length d2.hn):=by simp[World.cell?,k8]
     have e1:((((((((((wo.setCell ⟨w.heap.size,8,none⟩ (.slice aa A.length ac)).setCell ⟨w.heap.size+1,0,none⟩ (.slice d2.h m.H.length d2.hn)).setCell ⟨w.heap.size+1,1,none⟩ (.slice d2.g m.G.length d2.gn)).setCell ⟨w.heap.size+1,2,none⟩ (.int .i64 m.first)).setCell ⟨w.heap.size+1,3,none⟩ (.slice d2.c m.ch.length d2.cn)).setCell ⟨w.heap.size+1,4,none⟩ (.slice d2.t m.T.length d2.tn)).setCell ⟨w.heap.size+1,5,none⟩ (.slice d2.q m.Q.length d2.qn)).setCell ⟨w.heap.size+1,6,none⟩ (.int .i64 m.steps)).setCell ⟨w.heap.size+1,7,none⟩ (.int .i64 m.fin)).setCell ⟨w.heap.size+1,8,none⟩ (.slice aa A.length ac)).cell? ⟨w.heap.size+1,1,none⟩=some (.slice d2.g m.G.length d2.gn):=by simp[World.cell?,k8]
     have e2:((((((((((wo.setCell ⟨w.heap.size,8,none⟩ (.slice aa A.length ac)).setCell ⟨w.heap.size+1,0,none⟩ (.slice d2.h m.H.length d2.hn)).setCell ⟨w.heap.size+1,1,none⟩ (.slice d2.g m.G.length d2.gn)).setCell ⟨w.heap.size+1,2,none⟩ (.int .i64 m.first)).setCell ⟨w.heap.size+1,3,none⟩ (.slice d2.c m.ch.length d2.cn)).setCell ⟨w.heap.size+1,4,none⟩ (.slice d2.t m.T.length d2.tn)).setCell ⟨w.heap.size+1,5,none⟩ (.slice d2.q m.Q.length d2.qn)).setCell ⟨w.heap.size+1,6,none⟩ (.int .i64 m.steps)).setCell ⟨w.heap.size+1,7,none⟩ (.int .i64 m.fin)).setCell ⟨w.heap.size+1,8,none⟩ (.slice aa A.length ac)).cell? ⟨w.heap.size+1,2,none⟩=some (.int .i64 m.first):=by simp[World.cell?,k8]
     have e3:((((((((((wo.setCell ⟨w.heap.size,8,none⟩ (.slice aa A.length ac)).setCell ⟨w.heap.size+1,0,none⟩ (.slice d2.h m.H.length d2.hn)).setCell ⟨w.heap.size+1,1,none⟩ (.slice d2.g m.G.length d2.gn)).setCell ⟨w.heap.size+1,2,none⟩ (.int .i64 m.first)).setCell ⟨w.heap.size+1,3,none⟩ (.slice d2.c m.ch.length d2.cn)).setCell ⟨w.heap.size+1,4,none⟩ (.slice d2.t m.T.length d2.tn)).setCell ⟨w.heap.size+1,5,none⟩ (.slice d2.q m.Q.length d2.qn)).setCell ⟨w.heap.size+1,6,none⟩ (.int .i64 m.steps)).setCell ⟨w.heap.size+1,7,none⟩ (.int .i64 m.fin)).setCell ⟨w.heap.size+1,8,none⟩ (.slice aa A.length ac)).cell? ⟨w.heap.size+1,3,none⟩=some (.slice d2.c m.ch.length d2.cn):=by simp[World.cell?,k8]
     have e4:((((((((((wo.setCell ⟨w.heap.size,8,none⟩ (.slice aa A.length ac)).setCell ⟨w.heap.size+1,0,none⟩ (.slice d2.h m.H.length d2.hn)).setCell ⟨w.heap.size+1,1,none⟩ (.slice d2.g m.G.length d2.gn)).setCell ⟨w.heap.size+1,2,none⟩ (.int .i64 m.first)).setCell ⟨w.heap.size+1,3,none⟩ (.slice d2.c m.ch.length d2.cn)).setCell ⟨w.heap.size+1,4,none⟩ (.slice d2.t m.T.length d2.tn)).setCell ⟨w.heap.size+1,5,none⟩ (.slice d2.q m.Q.length d2.qn)).setCell ⟨w.heap.size+1,6,none⟩ (.int .i64 m.steps)).setCell ⟨w.heap.size+1,7,none⟩ (.int .i64 m.fin)).setCell ⟨w.heap.size+1,8,none⟩ (.slice aa A.length ac)).cell? ⟨w.heap.size+1,4,none⟩=some (.slice d2.t m.T.length d2.tn):=by simp[World.cell?,k8]
     have e5:((((((((((wo.setCell ⟨w.heap.size,8,none⟩ (.slice aa A.length ac)).setCell ⟨w.heap.size+1,0,none⟩ (.slice d2.h m.H.length d2.hn)).setCell ⟨w.heap.size+1,1,none⟩ (.slice d2.g m.G.length d2.gn)).setCell ⟨w.heap.size+1,2,none⟩ (.int .i64 m.first)).setCell ⟨w.heap.size+1,3,none⟩ (.slice d2.c m.ch.length d2.cn)).setCell ⟨w.heap.size+1,4,none⟩ (.slice d2.t m.T.length d2.tn)).setCell ⟨w.heap.size+1,5,none⟩ (.slice d2.q m.Q.length d2.qn)).setCell ⟨w.heap.size+1,6,none⟩ (.int .i64 m.steps)).setCell ⟨w.heap.size+1,7,none⟩ (.int .i64 m.fin)).setCell ⟨w.heap.size+1,8,none⟩ (.slice aa A.length ac)).cell? ⟨w.heap.size+1,5,none⟩=some (.slice d2.q m.Q.length d2.qn):=by simp[World.cell?,k8]
     have e6:((((((((((wo.setCell ⟨w.heap.size,8,none⟩ (.slice aa A.length ac)).setCell ⟨w.heap.size+1,0,none⟩ (.slice d2.h m.H.length d2.hn)).setCell ⟨w.heap.size+1,1,none⟩ (.slice d2.g m.G.length d2.gn)).setCell ⟨w.heap.size+1,2,none⟩ (.int .i64 m.first)).setCell ⟨w.heap.size+1,3,none⟩ (.slice d2.c m.ch.length d2.cn)).setCell ⟨w.heap.size+1,4,none⟩ (.slice d2.t m.T.length d2.tn)).setCell ⟨w.heap.size+1,5,none⟩ (.slice d2.q m.Q.length d2.qn)).setCell ⟨w.heap.size+1,6,none⟩ (.int .i64 m.steps)).setCell ⟨w.heap.size+1,7,none⟩ (.int .i64 m.fin)).setCell ⟨w.heap.size+1,8,none⟩ (.slice aa A.length ac)).cell? ⟨w.heap.size+1,6,none⟩=some (.int .i64 m.steps):=by simp[World.cell?,k8]
     have e7:((((((((((wo.setCell ⟨w.heap.size,8,none⟩ (.slice aa A.length ac)).setCell ⟨w.heap.size+1,0,none⟩ (.slice d2.h m.H.length d2.hn)).setCell ⟨w.heap.size+1,1,none⟩ (.slice d2.g m.G.length d2.gn)).setCell ⟨w.heap.size+1,2,none⟩ (.int .i64 m.first)).setCell ⟨w.heap.size+1,3,none⟩ (.slice d2.c m.ch.length d2.cn)).setCell ⟨w.heap.size+1,4,none⟩ (.slice d2.t m.T.length d2.tn)).setCell ⟨w.heap.size+1,5,none⟩ (.slice d2.q m.Q.length d2.qn)).setCell ⟨w.heap.size+1,6,none⟩ (.int .i64 m.steps)).setCell ⟨w.heap.size+1,7,none⟩ (.int .i64 m.fin)).setCell ⟨w.heap.size+1,8,none⟩ (.slice aa A.length ac)).cell? ⟨w.heap.size+1,7,none⟩=some (.int .i64 m.fin):=by simp[World.cell?,k8]
     have e8:((((((((((wo.setCell ⟨w.heap.size,8,none⟩ (.slice aa A.length ac)).setCell ⟨w.heap.size+1,0,none⟩ (.slice d2.h m.H.length d2.hn)).setCell ⟨w.heap.size+1,1,none⟩ (.slice d2.g m.G.length d2.gn)).setCell ⟨w.heap.size+1,2,none⟩ (.int .i64 m.first)).setCell ⟨w.heap.size+1,3,none⟩ (.slice d2.c m.ch.length d2.cn)).setCell ⟨w.heap.size+1,4,none⟩ (.slice d2.t m.T.length d2.tn)).setCell ⟨w.heap.size+1,5,none⟩ (.slice d2.q m.Q.length d2.qn)).setCell ⟨w.heap.size+1,6,none⟩ (.int .i64 m.steps)).setCell ⟨w.heap.size+1,7,none⟩ (.int .i64 m.fin)).setCell ⟨w.heap.size+1,8,none⟩ (.slice aa A.length ac)).cell? ⟨w.heap.size+1,8,none⟩=some (.slice aa A.length ac):=by simp[World.cell?,k8]
     clear k k0 k1 k2 k3 k4 k5 k6 k7 k8
     have hto:Touch (fun b=>b=w.heap.size∨b=w.heap.size+1) wo ((((((((((wo.setCell ⟨w.heap.size,8,none⟩ (.slice aa A.length ac)).setCell ⟨w.heap.size+1,0,none⟩ (.slice d2.h m.H.length d2.hn)).setCell ⟨w.heap.size+1,1,none⟩ (.slice d2.g m.G.length d2.gn)).setCell ⟨w.heap.size+1,2,none⟩ (.int .i64 m.first)).setCell ⟨w.heap.size+1,3,none⟩ (.slice d2.c m.ch.length d2.cn)).setCell ⟨w.heap.size+1,4,none⟩ (.slice d2.t m.T.length d2.tn)).setCell ⟨w.heap.size+1,5,none⟩ (.slice d2.q m.Q.length d2.qn)).setCell ⟨w.heap.size+1,6,none⟩ (.int .i64 m.steps)).setCell ⟨w.heap.size+1,7,none⟩ (.int .i64 m.fin)).setCell ⟨w.heap.size+1,8,none⟩ (.slice aa A.length ac)):=((((((((((Touch.setCell (M:=fun b=>b=w.heap.size∨b=w.heap.size+1) (w:=wo) (p:=⟨w.heap.size,8,none⟩) (.slice aa A.length ac) (.inl rfl)).trans (Touch.setCell (p:=⟨w.heap.size+1,0,none⟩) (.slice d2.h m.H.length d2.hn) (.inr rfl))).trans (Touch.setCell (p:=⟨w.heap.size+1,1,none⟩) (.slice d2.g m.G.length d2.gn) (.inr rfl))).trans (Touch.setCell (p:=⟨w.heap.size+1,2,none⟩) (.int .i64 m.first) (.inr rfl))).trans (Touch.setCell (p:=⟨w.heap.size+1,3,none⟩) (.slice d2.c m.ch.length d2.cn) (.inr rfl))).trans (Touch.setCell (p:=⟨w.heap.size+1,4,none⟩) (.slice d2.t m.T.length d2.tn) (.inr rfl))).trans (Touch.setCell (p:=⟨w.heap.size+1,5,none⟩) (.slice d2.q m.Q.length d2.qn) (.inr rfl))).trans (Touch.setCell (p:=⟨w.heap.size+1,6,none⟩) (.int .i64 m.steps) (.inr rfl))).trans (Touch.setCell (p:=⟨w.heap.size+1,7,none⟩) (.int .i64 m.fin) (.inr rfl))).trans (Touch.setCell (p:=⟨w.heap.size+1,8,none⟩) (.slice aa A.length ac) (.inr rfl)))
     generalize ((((((((((wo.setCell ⟨w.heap.size,8,none⟩ (.slice aa A.length ac)).setCell ⟨w.heap.size+1,0,none⟩ (.slice d2.h m.H.length d2.hn)).setCell ⟨w.heap.size+1,1,none⟩ (.slice d2.g m.G.length d2.gn)).setCell ⟨w.heap.size+1,2,none⟩ (.int .i64 m.first)).setCell ⟨w.heap.size+1,3,none⟩ (.slice d2.c m.ch.length d2.cn)).setCell ⟨w.heap.size+1,4,none⟩ (.slice d2.t m.T.length d2.tn)).setCell ⟨w.heap.size+1,5,none⟩ (.slice d2.q m.Q.length d2.qn)).setCell ⟨w.heap.size+1,6,none⟩ (.int .i64 m.steps)).setCell ⟨w.heap.size+1,7,none⟩ (.int .i64 m.fin)).setCell ⟨w.heap.size+1,8,none⟩ (.slice aa A.length ac))=wz at *
     refine bodyPost_ret (v:=.agg #[.slice d2.h m.H.length d2.hn,.slice d2.g m.G.length d2.gn,.int .i64 m.first,.slice d2.c m.ch.length d2.cn,.slice d2.t m.T.length d2.tn,.slice d2.q m.Q.length d2.qn,.int .i64 m.steps,.int .i64 m.fin,.slice aa A.length ac]) (by simp[results,Try.results117,go_sem,e0,e1,e2,e3,e4,e5,e6,e7,e8]) rfl ?_
     have hl:Hid (A.length=(m.ans.map mvA).length):=Lib.hid (by rw[List.length_map];have:=HAL.out;omega)
     have hA2:=HA.out
     rw[HE.out] at hA2
     obtain⟨z1,z2⟩:=own_done HO2.out hA2 hto (fun j hj=>by obtain⟨_,_,_,_,_,_,_,_,hf⟩:=HM.out.h.at' j hj;exact hf)
     refine⟨_,?_,z1,z2⟩
     simp only[Mac.vals]
     rw[hl.out]
end Go.Proofs.Ytikmgiapjigghaa

/- A machine copied row by row: what stands after each row. -/
namespace Go.Proofs.Ytikmgiapjigghaa
open Go.RowKit
structure CpRow where
 e:TypeId
 k:Nat
 a:Option Addr
 n:Nat
 c:Nat
 vs:List Value
def CpRow.In(r:CpRow)(w:World)(base:Nat):Prop:=w.ownsRow base r.e r.k (.slice r.a r.n r.c) r.n r.vs
structure CpI(w wx:World)(m m':Mac)(d d':MAd)(R:List CpRow):Prop where
 src:MBox wx w.heap.size m d
 box:MBox wx (w.heap.size+1+1) m' d'
 res:wx.heap[w.heap.size+1]? = some (.cells #[.slice none 0 0,.slice none 0 0,.int .i64 0,.slice none 0 0,.slice none 0 0,.slice none 0 0,.int .i64 0,.int .i64 0,.slice none 0 0] 81 (0,0))
 rows:∀ r,r∈R→r.In wx (w.heap.size+3)
 ne:Nd (R.map fun r=>bk r.a)
 below:Below w.heap.size w wx
theorem Nd.snoc{l:List (Option Nat)}{x:Option Nat}(h:Nd l)(hx:∀ y,y∈l→∀ b,y=some b→x≠some b):Nd (l++[x]):=by
 unfold Nd at h ⊢
 rw[List.pairwise_append]
 refine⟨h,List.pairwise_singleton _ _,fun a ha b hb=>?_⟩
 rw[List.mem_singleton] at hb
 subst hb
 exact hx a ha
theorem CpI.step{w wx w1:World}{m m':Mac}{d d' d'':MAd}{R:List CpRow}(h:CpI w wx m m' d d' R){e:TypeId}{k:Nat}{a:Option Addr}{n c:Nat}{vs:List Value}(ho:w1.ownsRow wx.heap.size e k (.slice a n c) n vs)(hb:Below wx.heap.size wx w1)(f:Nat)(hv:(m'.vals d').toArray.setIfInBounds f (.slice a n c)=(m'.vals d'').toArray) :
 CpI w (w1.setCell ⟨w.heap.size+1+1,f,none⟩ (.slice a n c)) m m' d d'' (R++[⟨e,k,a,n,c,vs⟩]):=by
 have hlt:=h.box.lt
 have hs:=hb.size
 have k1:=heap_setCell_at w1 (w.heap.size+1+1) f (.slice a n c) (h.box.below hb).blk
 rw[hv] at k1
 have hne:∀ b,b≠w.heap.size+1+1→(w1.setCell ⟨w.heap.size+1+1,f,none⟩ (.slice a n c)).heap[b]? = w1.heap[b]?:=fun b hb=>Below.heap_setCell _ _ _ _ hb
 have g1:∀ b,bk a=some b→wx.heap.size≤b∧b<w1.heap.size:=fun b hb=>ho.lt b ((bk_own _ _ _).trans hb)
 have ht:Touch (fun b=>b=w.heap.size+1+1) w1 (w1.setCell ⟨w.heap.size+1+1,f,none⟩ (.slice a n c)):=Touch.setCell (.slice a n c) rfl
 refine⟨(h.src.below hb).keep (hne _ (by omega)),⟨k1⟩,?_,?_,?_,?_⟩
 ·rw[hne _ (by omega),hb.block _ (by omega)];exact h.res
 ·intro r hr
  rcases List.mem_append.1 hr with hr | hr
  ·have h0:=h.rows r hr
   exact ownsRow_block (ownsRow_below h0 hb) fun g hg=>hne g (by have:=h0.lt g hg;omega)
  ·rw[List.mem_singleton] at hr
   subst hr
   exact ownsRow_base (ownsRow_block ho fun g hg=>hne g (by have:=g1 g ((bk_own _ _ _).symm.trans hg);omega)) (by omega)
 ·rw[List.map_append]
  refine h.ne.snoc fun y hy b e1 e2=>?_
  obtain⟨r,hr,rfl⟩:=List.mem_map.1 hy
  have:=(h.rows r hr).lt b ((bk_own _ _ _).trans e1)
  have:=g1 b e2
  omega
 ·exact(h.below.trans (hb.mono h.below.size)).trans (ht.toBelow (by omega) fun b e=>by omega)
theorem CpI.nil{w wx:World}{m:Mac}{d d':MAd}{R:List CpRow}(h:CpI w wx m m d d' R) :
 CpI w (wx.setCell ⟨w.heap.size+1+1,8,none⟩ (.slice none 0 0)) m { m with ans:=[] } d { d' with a:=none,an:=0 } R:=by
 have hlt:=h.box.lt
 have k1:=heap_setCell_at wx (w.heap.size+1+1) 8 (.slice none 0 0) h.box.blk
 have hne:∀ b,b≠w.heap.size+1+1→(wx.setCell ⟨w.heap.size+1+1,8,none⟩ (.slice none 0 0)).heap[b]? = wx.heap[b]?:=fun b hb=>Below.heap_setCell _ _ _ _ hb
 have ht:Touch (fun b=>b=w.heap.size+1+1) wx (wx.setCell ⟨w.heap.size+1+1,8,none⟩ (.slice none 0 0)):=Touch.setCell (.slice none 0 0) rfl
 refine⟨h.src.keep (hne _ (by omega)),⟨k1.trans rfl⟩,?_,?_,h.ne,?_⟩
 ·rw[hne _ (by omega)];exact h.res
 ·intro r hr
  have h0:=h.rows r hr
  exact ownsRow_block h0 fun g hg=>hne g (by have:=h0.lt g hg;omega)
 ·exact h.below.trans (ht.toBelow h.below.size fun b e=>by omega)
structure CpA(w:World)(ok:Nat→Prop)(wc wo:World)(m:Mac)(d:MAd)(l:List (List Tm))(a:Option Addr)(c:Nat)(A:List ((Option Addr×Nat)×List Tm)):Prop where
 box:MBox wo (w.heap.size+1+1) { m with ans:=l } { d with a:=a,an:=c }
 row:wo.ownsRow wc.heap.size 146 1 (.slice a A.length c) A.length (flatA A)
 eq:A.map (·.2)=l
 each:∀ x,x∈A→Ts wo (fun b=>((ok b∧b<w.heap.size)∨wc.heap.size≤b)∧bk a≠some b) x.2 x.1.1 x.1.2
 touch:Touch (fun b=>b=w.heap.size+1+1) wc wo
theorem CpA.len{w:World}{ok:Nat→Prop}{wc wo:World}{m:Mac}{d:MAd}{l:List (List Tm)}{a:Option Addr}{c:Nat}{A:List ((Option Addr×Nat)×List Tm)}(h:CpA w ok wc wo m d l a c A):l.length=A.length:=by
 have:=congrArg List.length h.eq
 simpa using this.symm
theorem CpA.kept{w:World}{ok:Nat→Prop}{wc wo X w':World}{m:Mac}{d:MAd}{l:List (List Tm)}{a:Option Addr}{c:Nat}{A:List ((Option Addr×Nat)×List Tm)}(h:CpA w ok wc wo m d l a c A)(hX:Below wo.heap.size wo X)(hw:w.heap.size+3≤wc.heap.size)(hg:X.grownBy w' (Value.slice a A.length c).ownBlock) :
 w'.heap[w.heap.size+1+1]? = wo.heap[w.heap.size+1+1]?:=by
 have hlt:∀ b,bk a=some b→wc.heap.size≤b∧b<wo.heap.size:=fun b hb=>h.row.lt b ((bk_own _ _ _).trans hb)
 have hg':X.grownBy w' (bk a):=by rw[← bk_own a A.length c];exact hg
 have hXs:=hX.size
 rw[hg'.block _ (by have:=h.box.lt;omega) (fun e=>by have:=hlt _ e.symm;omega),hX.block _ h.box.lt]
theorem CpA.more{w:World}{ok:Nat→Prop}{wc wo X w':World}{m:Mac}{d:MAd}{l:List (List Tm)}{a a':Option Addr}{c c':Nat}{A:List ((Option Addr×Nat)×List Tm)}(h:CpA w ok wc wo m d l a c A)(hX:Below wo.heap.size wo X){r:List Tm}{ra:Option Addr}{rc:Nat}(ht:Ts X (OkN (fun b=>ok b∧b<w.heap.size) wo) r ra rc)(hw:w.heap.size+3≤wc.heap.size)
 (ho:w'.ownsRow wc.heap.size 146 1 (.slice a' (A.length+1) c') (A.length+1) (flatA A++[.slice ra r.length rc])) (hg:X.grownBy w' (Value.slice a A.length c).ownBlock) (hf:Fresh X (.slice a A.length c) (.slice a' (A.length+1) c')) :
 CpA w ok wc (w'.setCell ⟨w.heap.size+1+1,8,none⟩ (.slice a' (A.length+1) c')) m d (l++[r]) a' c' (A++[((ra,rc),r)]):=by
 have hlt:∀ b,bk a=some b→wc.heap.size≤b∧b<wo.heap.size:=fun b hb=>h.row.lt b ((bk_own _ _ _).trans hb)
 have hs:=h.touch.size
 have hl:=h.len
 have hXs:=hX.size
 have hg':X.grownBy w' (bk a):=by rw[← bk_own a A.length c];exact hg
 have hf':bk a'=bk a∨∀ g,bk a'=some g→X.heap.size≤g:=by
  rcases hf with hf | hf
  ·left;rw[bk_own,bk_own] at hf;exact hf
  ·right;intro g hg;exact hf g ((bk_own _ _ _).trans hg)
 have key:∀ {r:List Tm} {ra:Option Addr} {rc:Nat},Ts X (fun b=>((ok b∧b<w.heap.size)∨wc.heap.size≤b)∧bk a≠some b) r ra rc→Ts (w'.setCell ⟨w.heap.size+1+1,8,none⟩ (.slice a' (A.length+1) c')) (fun b=>((ok b∧b<w.heap.size)∨wc.heap.size≤b)∧bk a'≠some b) r ra rc:=fun {r ra rc} ht=>by
  have h1:Ts X (fun b=>(((ok b∧b<w.heap.size)∨wc.heap.size≤b)∧bk a≠some b)∧b<X.heap.size) r ra rc:=ht.mono fun b hb h=>⟨h,hb⟩
  have h2:Keeps (fun b=>(((ok b∧b<w.heap.size)∨wc.heap.size≤b)∧bk a≠some b)∧b<X.heap.size) X (w'.setCell ⟨w.heap.size+1+1,8,none⟩ (.slice a' (A.length+1) c')):=⟨by have:=hg'.size;simpa using this,fun b hb hs=>by
   rw[Below.heap_setCell _ _ _ _ (by have:=hb.1.1;show b≠w.heap.size+1+1;omega)]
   exact hg'.block b hs (fun e=>hb.1.2 e.symm)⟩
  refine(h1.keep h2).mono fun b _ hb=>⟨hb.1.1,?_⟩
  rcases hf' with hf | hf
  ·rw[hf];exact hb.1.2
  ·intro e;have:=hf b e;omega
 have hbox:w'.heap[w.heap.size+1+1]? = wo.heap[w.heap.size+1+1]?:=by
  rw[hg'.block _ (by have:=h.box.lt;omega) (fun e=>by have:=hlt _ e.symm;omega),hX.block _ h.box.lt]
 have k1:=heap_setCell_at w' (w.heap.size+1+1) 8 (.slice a' (A.length+1) c') (hbox.trans h.box.blk)
 have hn:(l++[r]).length=A.length+1:=by rw[List.length_append,hl];rfl
 refine⟨⟨?_⟩,?_,?_,fun x hx=>?_,?_⟩
 ·rw[k1]
  simp only[Mac.vals,hn]
  rfl
 ·rw[List.length_append]
  have h1:w'.ownsRow wc.heap.size 146 1 (.slice a' (A.length+1) c') (A.length+1) (flatA (A++[((ra,rc),r)])):=by simpa[flatA] using ho
  exact ownsRow_block h1 fun g hg=>Below.heap_setCell _ _ _ _ (by have:=ho.lt g hg;show g≠w.heap.size+1+1;omega)
 ·rw[List.map_append,h.eq];rfl
 ·rcases List.mem_append.1 hx with hx | hx
  ·exact key ((h.each x hx).keep (Keeps.below hX _))
  ·rw[List.mem_singleton] at hx
   subst hx
   refine key (ht.mono fun b _ hb=>?_)
   rcases hb with hb | hb
   ·exact⟨.inl hb,fun e=>by have:=hlt b e;omega⟩
   ·exact⟨.inr (by omega),fun e=>by have:=hlt b e;omega⟩
 ·refine⟨?_,?_,?_,?_,fun b hb hn=>?_⟩
  ·exact(hg'.os.trans hX.os).trans h.touch.os
  ·exact(hg'.tape.trans hX.tape).trans h.touch.tape
  ·exact(hg'.output.trans hX.output).trans h.touch.output
  ·have:=hg'.size;simp;omega
  ·rw[Below.heap_setCell _ _ _ _ hn,hg'.block b (by omega) (fun e=>by have:=hlt b e.symm;omega),hX.block b (by omega)]
   exact h.touch.block b hb hn
theorem cp_done{w wc wo wz:World}{ok:Nat→Prop}{m m':Mac}{d:MAd}{dh dg dc dt dq:Option Addr}{hn gn cn tn qn:Nat}{d2:MAd}
 (h2:CpI w wc m m' d d2 [⟨120,3,dh,m.H.length,hn,flatH m.H⟩,⟨155,3,dg,m.G.length,gn,flatG m.G⟩,⟨157,5,dc,m.ch.length,cn,flatK m.ch⟩,⟨3,1,dt,m.T.length,tn,m.T.map fun x=>Value.int .i64 x⟩,⟨3,1,dq,m.Q.length,qn,m.Q.map fun x=>Value.int .i64 x⟩])
 {mm:Mac} {dd:MAd} {aa:Option Addr} {ac:Nat} {A:List ((Option Addr×Nat)×List Tm)} (hA:CpA w ok wc wo mm dd (m.ans.map mvA) aa ac A) (ht:Touch (fun b=>b=w.heap.size+1) wo wz)
 (hf:∀ i,i<m.H.length→(hc m.H i).fits):OwM wz w.heap.size (fun b=>(ok b∧b<w.heap.size)∨w.heap.size≤b) { m with ans:=m.ans.map mvA } ⟨dh,dg,dc,dt,dq,aa,hn,gn,cn,tn,qn,ac⟩∧Below w.heap.size w wz:=by
 have hs:=h2.below.size
 have hz:w.heap.size+3≤wc.heap.size:=h2.box.lt
 have hw:=hA.touch.size
 have hl:A.length=(m.ans.map mvA).length:=hA.len.symm
 have hr1:=h2.rows _ (List.mem_cons_self ..)
 have hr2:=h2.rows _ (List.mem_cons_of_mem _ (List.mem_cons_self ..))
 have hr3:=h2.rows _ (List.mem_cons_of_mem _ (List.mem_cons_of_mem _ (List.mem_cons_self ..)))
 have hr4:=h2.rows _ (List.mem_cons_of_mem _ (List.mem_cons_of_mem _ (List.mem_cons_of_mem _ (List.mem_cons_self ..))))
 have hr5:=h2.rows _ (List.mem_cons_of_mem _ (List.mem_cons_of_mem _ (List.mem_cons_of_mem _ (List.mem_cons_of_mem _ (List.mem_cons_self ..)))))
 unfold CpRow.In at hr1 hr2 hr3 hr4 hr5
 simp only at hr1 hr2 hr3 hr4 hr5
 have old:∀ {e:TypeId} {k:Nat} {a:Option Addr} {n c:Nat} {vs:List Value},wc.ownsRow (w.heap.size+3) e k (.slice a n c) n vs→wz.ownsRow w.heap.size e k (.slice a n c) n vs:=fun h =>
  ownsRow_base (ownsRow_block h fun g hg=>(ht.block g (by have:=h.lt g hg;omega) (by have:=h.lt g hg;omega)).trans (hA.touch.block g (h.lt g hg).2 (by have:=h.lt g hg;omega))) (by omega)
 have olt:∀ {e:TypeId} {k:Nat} {a:Option Addr} {n c:Nat} {vs:List Value},wc.ownsRow (w.heap.size+3) e k (.slice a n c) n vs→∀ b,bk a=some b→w.heap.size+3≤b∧b<wc.heap.size:=fun h b hb=>h.lt b ((bk_own _ _ _).trans hb)
 have alt:∀ b,bk aa=some b→wc.heap.size≤b∧b<wo.heap.size:=fun b hb=>hA.row.lt b ((bk_own _ _ _).trans hb)
 have l1:=olt hr1;have l2:=olt hr2;have l3:=olt hr3;have l4:=olt hr4;have l5:=olt hr5
 refine⟨⟨⟨old hr1,hf⟩,old hr2,old hr3,old hr4,old hr5,⟨A,hA.eq,?_,fun x hx=>?_⟩,?_⟩,?_⟩
 ·have hr:=ownsRow_base (ownsRow_block hA.row fun g hg=>ht.block g (hA.row.lt g hg).2 (by have:=(hA.row.lt g hg).1;omega)) (show w.heap.size≤wc.heap.size by omega)
  rw[← hl];exact hr
 ·have h1:=hA.each x hx
  have h3:Keeps (fun b=>((ok b∧b<w.heap.size)∨wc.heap.size≤b)∧bk aa≠some b) wo wz:=ht.keeps fun b hb=>by have:=hb.1;omega
  refine(h1.keep h3).mono fun b _ hb=>⟨hb.1.imp id fun e=>by omega,fun y hy e=>?_⟩
  subst e
  simp only[List.mem_cons,List.not_mem_nil,or_false] at hy
  rcases hy with e | e | e | e | e | e
  ·have:=l1 b e.symm;omega
  ·have:=l2 b e.symm;omega
  ·have:=l3 b e.symm;omega
  ·have:=l4 b e.symm;omega
  ·have:=l5 b e.symm;omega
  ·exact hb.2 e.symm
 ·have hn:=h2.ne.snoc (x:=bk aa) (fun y hy b e1 e2=>by
   obtain⟨r,hr,rfl⟩:=List.mem_map.1 hy
   have:=(h2.rows r hr).lt b ((bk_own _ _ _).trans e1)
   have:=alt b e2
   omega)
  exact hn
 ·have h1:Below w.heap.size wc wo:=hA.touch.toBelow (by omega) fun b e=>by omega
  exact(h2.below.trans h1).trans (ht.toBelow (by omega) fun b e=>by omega)
end Go.Proofs.Ytikmgiapjigghaa

/- Walks: slices.Backward of numbers. -/
namespace Go.Proofs.Ytikmgiapjigghaa
open Go.RowKit Go.Shelf
attribute [local go_sem] Oper.semAt_some
def backN(l:List Int)(i:Nat):Array Value:=#[.int .i64 ((l.length-1-i:Nat):Int),.int .i64 (l.getD (l.length-1-i) 0)]
set_option maxRecDepth 100000 in
set_option maxHeartbeats 1000000 in
theorem backN_turns{n:Nat}(hn:1≤n){w0:World}{B0:Nat}{ok:Nat→Prop}(l:List Int){a:Option Addr}{cap:Nat}(hB:B0<w0.heap.size∧ok B0)(h0:w0.cell? ⟨B0,0,none⟩=some (.slice a l.length cap))(hr:IsAt w0 ok l a cap) :
 Turns Fence.wide n Try.prog 153 #[.pointer (some ⟨B0,0,none⟩)] (backN l) (Keeps ok) l.length w0:=by
 intro lp J Jx W hW hJ hJx hY hJ0
 have hro:Fence.wide.round=none:=rfl
 have hl9:l.length≤9223372036854775807:=by have:=hr.cap;unfold maxLen at this;omega
 have HY:=Lib.hid hY;have HR:=Lib.hid hr
 have HKW:Hid (Keeps ok w0 W):=Lib.hid (Keeps.below hW ok)
 have HJ0:=Lib.hid hJ0
 have c0:=(HKW.out.cell (p:=⟨B0,0,none⟩) hB.2 hB.1).trans h0
 clear hY hJ hJx hr hJ0
 refine callsIn_of_wp Try.func153 rfl trivial ?_ hro
 simp only[Try.ntmps153,List.size_toArray,List.length_cons,List.length_nil,Nat.reduceAdd,Nat.reduceSub,Array.replicate_succ,Array.replicate_zero,List.push_toArray,List.append_toArray,List.nil_append,List.cons_append]
 gi_wp2
 gi_loopw [3] (fun p wr=>∃ j:Nat,j≤l.length∧p=.int .i64 ((l.length:Int)-1-j)∧Hid (J j wr)∧Hid (Keeps ok W wr)) (fun p _=>(intOf p+1).toNat)
 case atStart=>exact⟨0,Nat.zero_le _,by go_num,HJ0,Lib.hid (Keeps.below (Below.refl _ _) ok)⟩
 case round =>
  obtain⟨j,hj,rfl,HJ,HK⟩:=hrel
  have c1:=(HK.out.cell (p:=⟨B0,0,none⟩) hB.2 (Nat.lt_of_lt_of_le hB.1 hW.size)).trans c0
  by_cases hlt:j<l.length
  ·obtain⟨q,hq,hql⟩:∃ q:Nat,q=l.length-1-j∧q<l.length:=⟨l.length-1-j,rfl,by omega⟩
   have hqi:(l.length:Int)-1-(j:Int)=(q:Int):=by omega
   obtain⟨b,off,rfl,hokb,hb,hcs⟩:=HR.out.at' q hql
   have hK0:Keeps ok w0 wr:=HKW.out.trans HK.out
   have m0:=(hK0.cell (p:=⟨b,off+q,none⟩) hokb hb).trans hcs
   obtain⟨fn,tmps,assign,body,hy,hR⟩:=HY.out j wr hlt HJ.out
   have e:backN l j = #[.int .i64 (q:Int),.int .i64 l[q]]:=by
    unfold backN;rw[← hq,List.getD_eq_getElem?_getD,List.getElem?_eq_getElem hql];rfl
   rw[e] at hy
   rw[hqi]
   have HQ:=Lib.hid hqi
   have hq0:(0:Int)≤(q:Int):=by omega
   clear hK0 hcs hq e hqi
   gi_wp2
   refine hR.mono ?_
   rintro e W3 (⟨rfl,hJ3,hk3⟩ | ⟨rfl,hJx3⟩)
   ·have HJ3:=Lib.hid hJ3
    have HK3:=Lib.hid (HK.out.trans hk3)
    clear hJ3 hk3
    gi_wp2
    go_roundw
    case rel=>exact⟨j+1,by omega,by have:=HQ.out;go_num,HJ3,HK3⟩
    case measure=>have:=HQ.out;simp only[intOf];omega
   ·have HJ3:=Lib.hid hJx3
    clear hJx3
    gi_wp2
    refine bodyPost_ret (results_none rfl _ _ _) rfl ?_
    exact⟨⟨_,rfl⟩,.inr HJ3.out⟩
  ·have hje:j=l.length:=by omega
   have HE:Hid (J l.length wr):=Lib.hid (by rw[← hje];exact HJ.out)
   have hlo:(l.length:Int)-1-(j:Int) = -1:=by omega
   rw[hlo]
   clear hje
   gi_wp2
   go_end0
   exact⟨⟨_,rfl⟩,.inl HE.out⟩
set_option maxRecDepth 100000 in
set_option maxHeartbeats 400000 in
theorem backN_in(F:Fence)(n:Nat)(hF:F.fn 138)(hro:F.round=none)(a:Option Addr)(len cap:Nat)(w:World) :
 CallsIn F n Try.prog 138 #[.slice a len cap] w fun e w'=>e=.returned (.func (.func 153) #[] #[.pointer (some ⟨w.heap.size,0,none⟩)])∧w'=w.alloc (.cells #[.slice a len cap] 44):=by
 refine callsIn_of_wp Try.func138 rfl hF ?_ hro
 simp only[Try.ntmps138,List.size_toArray,List.length_cons,List.length_nil,Nat.reduceAdd,Nat.reduceSub,Array.replicate_succ,Array.replicate_zero,List.push_toArray,List.append_toArray,List.nil_append,List.cons_append]
 gi_wp2
 go_ret
 exact⟨rfl,rfl⟩
end Go.Proofs.Ytikmgiapjigghaa
