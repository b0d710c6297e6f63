/- A term that a call makes of another one, argument by argument; walks: Named, PutIn. -/
import Derived.Deep.RegionLaw
import Derived.Test.YtikmgiapjigghabQc07
import Derived.Test.YtikmgiapjigghabQc10
namespace Go.Proofs.Ytikmgiapjigghab
open Go.RowKit
def OkN(ok:Nat→Prop)(w:World):Nat→Prop:=fun b=>ok b∨w.heap.size≤b
def oK(w:World)(ok:Nat→Prop)(t:Tm)(e:Ending)(w':World):Prop :=
 ∃a cap,e=.returned (.agg #[.int .i64 t.var,.string t.name,.slice a t.args.length cap])∧t.fits∧Ts w' (OkN ok w) t.args a cap∧Below w.heap.size w w'
structure iS(wb:World)(ok:Nat→Prop)(bo:Nat)(n:ByteArray)(L:List dS)(x:Value)(wr:World):Prop where
 box:dP wr bo (.int .i64 0) (.string n) x
 own:dA wr wb.heap.size (OkN ok wb) x L
 touch:aA (fun b=>b=bo) wb wr
 lt:bo<wb.heap.size
theorem iS.start{wb:World}{ok:Nat→Prop}{bo:Nat}{n:ByteArray}(h:dP wb bo (.int .i64 0) (.string n) (.slice none 0 0)):iS wb ok bo n [] (.slice none 0 0) wb :=
 ⟨h,dA.nil _ _ _,aA.refl _ _,h.lt⟩
theorem iS.form{wb wr:World}{ok:Nat→Prop}{bo:Nat}{n:ByteArray}{L:List dS}{x:Value}(h:iS wb ok bo n L x wr):∃a cap,x=.slice a L.length cap:=by
 rcases h.own.own.2 with ⟨h1,h2⟩|⟨g,cap,cur,h1,_⟩
 ·exact⟨none,0,by rw[h1,h2]⟩
 ·exact⟨_,_,h1⟩
theorem iS.next{wb wr wX w1 X2 w2:World}{ok:Nat→Prop}{bo:Nat}{n:ByteArray}{L:List dS}{x x':Value}(h:iS wb ok bo n L x wr)(hok:∀b,ok b→b<wb.heap.size∧b≠bo)(hX:wr.heap.size≤wX.heap.size)
 (hb:Below wr.heap.size wr w1) {t:Tm} {a:Option Addr} {c:Nat} (hf:t.fits) (ht:Ts w1 (OkN ok wX) t.args a c) (hX2:Below w1.heap.size w1 X2)
 (ho:w2.ownsRow wb.heap.size 71 3 x' (L.length+1) (dX L++dX [(t,a,c)])) (hg:X2.grownBy w2 x.ownBlock) (hfr:cF X2 x x') :
 dP w2 bo (.int .i64 0) (.string n) x∧iS wb ok bo n (L++[(t,a,c)]) x' (w2.setCell ⟨bo,2,none⟩ x'):=by
 have hbr:bo<wr.heap.size:=h.box.lt;have hxb:∀g,x.ownBlock=some g→wb.heap.size≤g∧g<wr.heap.size:=fun g hg=>h.own.block hg
 have hxo:x.ownBlock≠some bo:=fun e=>by have:=(hxb _ e).1;have:=h.lt;omega
 have hW:Below wr.heap.size wr X2:=hb.trans (hX2.mono hb.size);have hblk:w2.heap[bo]? = wr.heap[bo]?:=(hg.block bo (by have:=hW.size;omega) (fun e=>hxo e.symm)).trans (hW.block bo hbr);have hB2:dP w2 bo (.int .i64 0) (.string n) x:=h.box.keep hblk;refine⟨hB2,?_⟩;have hx'o:x'.ownBlock≠some bo:=fun e=>by
  rcases hfr with e2|e2
  ·exact hxo (e2 ▸ e)
  ·have:=e2 bo e;have:=hW.size;omega
 have hS:aA (fun b=>b=bo) w2 (w2.setCell ⟨bo,2,none⟩ x'):=aA.setCell _ rfl;have hE:bW X2 (nB x (OkN ok wb)) [(t,a,c)]:=by
  refine bW.one hf ((ht.keep (aD.below hX2 _)).mono fun b _ hk=>?_);rcases hk with hk|hk
  ·exact⟨.inl hk,fun e=>by have:=(hxb b e).1;have:=(hok b hk).1;omega⟩
  ·exact⟨.inr (by have:=h.touch.size;omega),fun e=>by have:=(hxb b e).2;omega⟩
 have h2:dA w2 wb.heap.size (OkN ok wb) x' (L++[(t,a,c)]):=(h.own.below hW).append hE (by simpa using ho) hg hfr;refine⟨?_,⟨?_,?_⟩,?_,h.lt⟩
 ·refine⟨?_⟩
  rw[aB _ _ _ _ hB2.blk];rfl
 ·exact aC h2.own (fun g hg'=>Below.heap_setCell _ _ _ _ (fun e=>by subst e;exact hx'o hg'))
 ·-- what the arguments are made of does not lie in the box
  have key:bW w2 (fun b=>nB x' (OkN ok wb) b∧b≠bo) (L++[(t,a,c)]):=h2.each.mono fun b _ hk=>⟨hk,fun e=>by
   subst e;rcases hk.1 with h3|h3
   ·exact(hok _ h3).2 rfl
   ·have:=h.lt;omega⟩
  exact(key.keep (w':=w2.setCell ⟨bo,2,none⟩ x') (hS.keeps fun b hb=>hb.2)).mono fun b _ hk=>hk.1
 ·have hT2:aA (fun b=>b=bo∨x.ownBlock=some b) wr w2:=(aA.below hW).trans (aA.grown hg fun k e=>.inr e)
  refine⟨hS.os.trans (hT2.os.trans h.touch.os),hS.tape.trans (hT2.tape.trans h.touch.tape),hS.output.trans (hT2.output.trans h.touch.output),Nat.le_trans h.touch.size (Nat.le_trans hT2.size hS.size),fun b hb' hn=>?_⟩;refine(hS.block b (nT hb' (Nat.le_trans h.touch.size hT2.size)) hn).trans ((hT2.block b (nT hb' h.touch.size) ?_).trans (h.touch.block b hb' hn));rintro (e|e)
  ·exact hn e
  ·have:=(hxb b e).1;omega
theorem iS.done{w wb wr:World}{ok:Nat→Prop}{bo br:Nat}{n:ByteArray}{L:List dS}{x:Value}(h:iS wb ok bo n L x wr)(hw:Below w.heap.size w wb)(hbo:w.heap.size≤bo)(hbr:w.heap.size≤br)(hlt:br<wb.heap.size)(hok:∀b,ok b→b<w.heap.size)(hn:n.size≤maxLen){t:Tm}(ht:t=.mk 0 n (L.map (·.1))) :
 oK w ok t (.returned (.agg #[.int .i64 0,.string n,x])) (((wr.setCell ⟨br,0,none⟩ (.int .i64 0)).setCell ⟨br,1,none⟩ (.string n)).setCell ⟨br,2,none⟩ x):=by
 subst ht;have hb:Below w.heap.size w wr:=by
  have:=h.touch.toBelow (B:=w.heap.size) hw.size (fun b e=>by omega);exact hw.trans this
 have h1:bW (((wr.setCell ⟨br,0,none⟩ (.int .i64 0)).setCell ⟨br,1,none⟩ (.string n)).setCell ⟨br,2,none⟩ x) (OkN ok w) L:=by
  have key:bW wr (fun b=>OkN ok w b∧b≠br) L:=h.own.each.mono fun b _ hk=>by
   rcases hk.1 with h3|h3
   ·exact⟨.inl h3,fun e=>by have:=hok b h3;omega⟩
   ·exact⟨.inr (by have:=hw.size;omega),fun e=>by omega⟩
  exact(key.keep ((kJ wr br _ _ _).keeps fun b hb=>hb.2)).mono fun b _ hk=>hk.1
 have ho:(((wr.setCell ⟨br,0,none⟩ (.int .i64 0)).setCell ⟨br,1,none⟩ (.string n)).setCell ⟨br,2,none⟩ x).ownsRow w.heap.size 71 3 x L.length (dX L):=by
  have h2:wr.ownsRow w.heap.size 71 3 x L.length (dX L):=by
   refine⟨h.own.own.1,h.own.own.2.imp id ?_⟩;rintro ⟨g,cap,cur,a1,a2,a3⟩;exact⟨g,cap,cur,a1,Nat.le_trans hw.size a2,a3⟩
  exact aC h2 fun g hg=>rU (fun e=>by have:=(h.own.block hg).1;omega) _ _ _
 obtain⟨a,cap,rfl,hts⟩:=Ts.of_row ho (fun b hb=>.inr hb) h1;exact⟨a,cap,rfl,⟨(by show -9223372036854775808≤(0:Int)∧(0:Int)≤9223372036854775807;omega),hn⟩,hts,aU7 hb hbr _ _ _⟩

theorem Tm.length_le_sizes(l:List Tm):l.length≤Tm.sizes l:=by
 induction l with
 | nil=>exact Nat.zero_le _
 | cons t r ih=>simp only[Tm.sizes,List.length_cons];have:=t.size_pos;omega
theorem dP.made2{X:World}{b:Nat}{x0 x1 x2:Value}(h:b=X.heap.size):dP (X.alloc (.cells #[x0,x1,x2] 71)) b x0 x1 x2:=by subst h;exact dP.made X _ _ _
theorem aN6(X:World)(t:Tm)(a:Option Addr)(c:Nat){h:Nat}(e:h=X.heap.size):∀ad,some (⟨h,0,none⟩:Addr)=some ad→∀j u,(dX [(t,a,c)])[j]? = some u→(X.alloc (.cells #[.int .i64 t.var,.string t.name,.slice a t.args.length c] 71)).cell? (ad.add j)=some u:=by
 subst e;intro ad had;cases had;have ho:=World.ownsRow_lit (base:=X.heap.size) (e:=71) (size:=3) X #[.int .i64 t.var,.string t.name,.slice a t.args.length c] 1 (nR _) (by unfold maxLen;omega) rfl;exact ho.cells (g:=X.heap.size) rfl
theorem sZ(w:World)(b:Nat){x:Value}(y:Value){e:TypeId}(h:w.heap[b]? = some (.cells #[x] e (0,0))):(w.setCell ⟨b,0,none⟩ y).heap[b]? = some (.cells #[y] e (0,0)):=by
 rw[aB _ _ _ _ h];rfl
def fresh(m n:Nat):List dS:=(List.range n).map fun i=>(aQ ((m+i:Nat):Int),none,0)

end Go.Proofs.Ytikmgiapjigghab
