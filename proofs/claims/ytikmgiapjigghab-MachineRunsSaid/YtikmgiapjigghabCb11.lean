/- A term that a call makes of another one, argument by argument; walks: Named, PutIn. -/
import Derived.Deep.RegionLaw
import Derived.Test.YtikmgiapjigghabCb07
import Derived.Test.YtikmgiapjigghabCb10
namespace Go.Proofs.Ytikmgiapjigghab
open Go.RowKit
def OkN(ok:Nat→Prop)(w:World):Nat→Prop:=fun b=>ok b∨w.heap.size≤b
def RetNew(w:World)(ok:Nat→Prop)(t:Tm)(e:Ending)(w':World):Prop :=
 ∃ a cap,e=.returned (.agg #[.int .i64 t.var,.string t.name,.slice a t.args.length cap])∧t.fits∧Ts w' (OkN ok w) t.args a cap∧Below w.heap.size w w'
structure BldRel(wb:World)(ok:Nat→Prop)(bo:Nat)(n:ByteArray)(L:List TmAt)(x:Value)(wr:World):Prop where
 box:Box3 wr bo (.int .i64 0) (.string n) x
 own:OwnTs wr wb.heap.size (OkN ok wb) x L
 touch:Touch (fun b=>b=bo) wb wr
 lt:bo<wb.heap.size
theorem BldRel.start{wb:World}{ok:Nat→Prop}{bo:Nat}{n:ByteArray}(h:Box3 wb bo (.int .i64 0) (.string n) (.slice none 0 0)):BldRel wb ok bo n [] (.slice none 0 0) wb :=
 ⟨h,OwnTs.nil _ _ _,Touch.refl _ _,h.lt⟩
theorem BldRel.form{wb wr:World}{ok:Nat→Prop}{bo:Nat}{n:ByteArray}{L:List TmAt}{x:Value}(h:BldRel wb ok bo n L x wr):∃ a cap,x=.slice a L.length cap:=by
 rcases h.own.own.2 with ⟨h1,h2⟩ | ⟨g,cap,cur,h1,_⟩
 ·exact⟨none,0,by rw[h1,h2]⟩
 ·exact⟨_,_,h1⟩
theorem BldRel.next{wb wr wX w1 X2 w2:World}{ok:Nat→Prop}{bo:Nat}{n:ByteArray}{L:List TmAt}{x x':Value}(h:BldRel wb ok bo n L x wr)(hok:∀ b,ok b→b<wb.heap.size∧b≠bo)(hX:wr.heap.size≤wX.heap.size)
 (hb:Below wr.heap.size wr w1) {t:Tm} {a:Option Addr} {c:Nat} (hf:t.fits) (ht:Ts w1 (OkN ok wX) t.args a c) (hX2:Below w1.heap.size w1 X2)
 (ho:w2.ownsRow wb.heap.size 71 3 x' (L.length+1) (flat L++flat [(t,a,c)])) (hg:X2.grownBy w2 x.ownBlock) (hfr:Fresh X2 x x') :
 Box3 w2 bo (.int .i64 0) (.string n) x∧BldRel wb ok bo n (L++[(t,a,c)]) x' (w2.setCell ⟨bo,2,none⟩ x'):=by
 have hbr:bo<wr.heap.size:=h.box.lt
 have hxb:∀ g,x.ownBlock=some g→wb.heap.size≤g∧g<wr.heap.size:=fun g hg=>h.own.block hg
 have hxo:x.ownBlock≠some bo:=fun e=>by have:=(hxb _ e).1;have:=h.lt;omega
 have hW:Below wr.heap.size wr X2:=hb.trans (hX2.mono hb.size)
 have hblk:w2.heap[bo]? = wr.heap[bo]?:=(hg.block bo (by have:=hW.size;omega) (fun e=>hxo e.symm)).trans (hW.block bo hbr)
 have hB2:Box3 w2 bo (.int .i64 0) (.string n) x:=h.box.keep hblk
 refine⟨hB2,?_⟩
 have hx'o:x'.ownBlock≠some bo:=fun e=>by
  rcases hfr with e2 | e2
  ·exact hxo (e2 ▸ e)
  ·have:=e2 bo e;have:=hW.size;omega
 have hS:Touch (fun b=>b=bo) w2 (w2.setCell ⟨bo,2,none⟩ x'):=Touch.setCell _ rfl
 have hE:TsEach X2 (Free x (OkN ok wb)) [(t,a,c)]:=by
  refine TsEach.one hf ((ht.keep (Keeps.below hX2 _)).mono fun b _ hk=>?_)
  rcases hk with hk | hk
  ·exact⟨.inl hk,fun e=>by have:=(hxb b e).1;have:=(hok b hk).1;omega⟩
  ·exact⟨.inr (by have:=h.touch.size;omega),fun e=>by have:=(hxb b e).2;omega⟩
 have h2:OwnTs w2 wb.heap.size (OkN ok wb) x' (L++[(t,a,c)]):=(h.own.below hW).append hE (by simpa using ho) hg hfr
 refine⟨?_,⟨?_,?_⟩,?_,h.lt⟩
 ·refine⟨?_⟩
  rw[heap_setCell_at _ _ _ _ hB2.blk];rfl
 ·exact ownsRow_block h2.own (fun g hg'=>Below.heap_setCell _ _ _ _ (fun e=>by subst e;exact hx'o hg'))
 ·-- what the arguments are made of does not lie in the box
  have key:TsEach w2 (fun b=>Free x' (OkN ok wb) b∧b≠bo) (L++[(t,a,c)]):=h2.each.mono fun b _ hk=>⟨hk,fun e=>by
   subst e
   rcases hk.1 with h3 | h3
   ·exact(hok _ h3).2 rfl
   ·have:=h.lt;omega⟩
  exact(key.keep (w':=w2.setCell ⟨bo,2,none⟩ x') (hS.keeps fun b hb=>hb.2)).mono fun b _ hk=>hk.1
 ·have hT2:Touch (fun b=>b=bo∨x.ownBlock=some b) wr w2:=(Touch.below hW).trans (Touch.grown hg fun k e=>.inr e)
  refine⟨hS.os.trans (hT2.os.trans h.touch.os),hS.tape.trans (hT2.tape.trans h.touch.tape),hS.output.trans (hT2.output.trans h.touch.output),Nat.le_trans h.touch.size (Nat.le_trans hT2.size hS.size),fun b hb' hn=>?_⟩
  refine(hS.block b (Nat.lt_of_lt_of_le hb' (Nat.le_trans h.touch.size hT2.size)) hn).trans ((hT2.block b (Nat.lt_of_lt_of_le hb' h.touch.size) ?_).trans (h.touch.block b hb' hn))
  rintro (e | e)
  ·exact hn e
  ·have:=(hxb b e).1;omega
theorem BldRel.done{w wb wr:World}{ok:Nat→Prop}{bo br:Nat}{n:ByteArray}{L:List TmAt}{x:Value}(h:BldRel wb ok bo n L x wr)(hw:Below w.heap.size w wb)(hbo:w.heap.size≤bo)(hbr:w.heap.size≤br)(hlt:br<wb.heap.size)(hok:∀ b,ok b→b<w.heap.size)(hn:n.size≤maxLen){t:Tm}(ht:t=.mk 0 n (L.map (·.1))) :
 RetNew w ok t (.returned (.agg #[.int .i64 0,.string n,x])) (((wr.setCell ⟨br,0,none⟩ (.int .i64 0)).setCell ⟨br,1,none⟩ (.string n)).setCell ⟨br,2,none⟩ x):=by
 subst ht
 have hb:Below w.heap.size w wr:=by
  have:=h.touch.toBelow (B:=w.heap.size) hw.size (fun b e=>by omega)
  exact hw.trans this
 have h1:TsEach (((wr.setCell ⟨br,0,none⟩ (.int .i64 0)).setCell ⟨br,1,none⟩ (.string n)).setCell ⟨br,2,none⟩ x) (OkN ok w) L:=by
  have key:TsEach wr (fun b=>OkN ok w b∧b≠br) L:=h.own.each.mono fun b _ hk=>by
   rcases hk.1 with h3 | h3
   ·exact⟨.inl h3,fun e=>by have:=hok b h3;omega⟩
   ·exact⟨.inr (by have:=hw.size;omega),fun e=>by omega⟩
  exact(key.keep ((touch_put wr br _ _ _).keeps fun b hb=>hb.2)).mono fun b _ hk=>hk.1
 have ho:(((wr.setCell ⟨br,0,none⟩ (.int .i64 0)).setCell ⟨br,1,none⟩ (.string n)).setCell ⟨br,2,none⟩ x).ownsRow w.heap.size 71 3 x L.length (flat L):=by
  have h2:wr.ownsRow w.heap.size 71 3 x L.length (flat L):=by
   refine⟨h.own.own.1,h.own.own.2.imp id ?_⟩
   rintro ⟨g,cap,cur,a1,a2,a3⟩
   exact⟨g,cap,cur,a1,Nat.le_trans hw.size a2,a3⟩
  exact ownsRow_block h2 fun g hg=>other_put (fun e=>by have:=(h.own.block hg).1;omega) _ _ _
 obtain⟨a,cap,rfl,hts⟩:=Ts.of_row ho (fun b hb=>.inr hb) h1
 exact⟨a,cap,rfl,⟨(by show -9223372036854775808≤(0:Int)∧(0:Int)≤9223372036854775807;omega),hn⟩,hts,below_put hb hbr _ _ _⟩
structure BldM(wb:World)(M:Nat→Prop)(ok:Nat→Prop)(bo:Nat)(n:ByteArray)(L:List TmAt)(x:Value)(wr:World):Prop where
 box:Box3 wr bo (.int .i64 0) (.string n) x
 own:OwnTs wr wb.heap.size (OkN ok wb) x L
 touch:Touch (fun b=>b=bo∨M b) wb wr
 lt:bo<wb.heap.size
theorem BldM.start{wb:World}{M ok:Nat→Prop}{bo:Nat}{n:ByteArray}(h:Box3 wb bo (.int .i64 0) (.string n) (.slice none 0 0)):BldM wb M ok bo n [] (.slice none 0 0) wb :=
 ⟨h,OwnTs.nil _ _ _,Touch.refl _ _,h.lt⟩
theorem BldM.form{wb wr:World}{M ok:Nat→Prop}{bo:Nat}{n:ByteArray}{L:List TmAt}{x:Value}(h:BldM wb M ok bo n L x wr):∃ a cap,x=.slice a L.length cap:=by
 rcases h.own.own.2 with ⟨h1,h2⟩ | ⟨g,cap,cur,h1,_⟩
 ·exact⟨none,0,by rw[h1,h2]⟩
 ·exact⟨_,_,h1⟩
theorem BldM.next{wb wr wX w1 X2 w2:World}{M ok:Nat→Prop}{bo:Nat}{n:ByteArray}{L:List TmAt}{x x':Value}(h:BldM wb M ok bo n L x wr)(hok:∀ b,ok b→b<wb.heap.size∧b≠bo∧¬ M b)(hM:∀ b,M b→b<wb.heap.size∧b≠bo)(hX:wr.heap.size≤wX.heap.size)
 (hb:Touch M wr w1) {t:Tm} {a:Option Addr} {c:Nat} (hf:t.fits) (ht:Ts w1 (OkN ok wX) t.args a c) (hX2:Below w1.heap.size w1 X2)
 (ho:w2.ownsRow wb.heap.size 71 3 x' (L.length+1) (flat L++flat [(t,a,c)])) (hg:X2.grownBy w2 x.ownBlock) (hfr:Fresh X2 x x') :
 Box3 w2 bo (.int .i64 0) (.string n) x∧BldM wb M ok bo n (L++[(t,a,c)]) x' (w2.setCell ⟨bo,2,none⟩ x'):=by
 have hbr:bo<wr.heap.size:=h.box.lt
 have hxb:∀ g,x.ownBlock=some g→wb.heap.size≤g∧g<wr.heap.size:=fun g hg=>h.own.block hg
 have hxo:x.ownBlock≠some bo:=fun e=>by have:=(hxb _ e).1;have:=h.lt;omega
 have hW:Touch M wr X2:=hb.trans (Touch.below hX2)
 have hblk:w2.heap[bo]? = wr.heap[bo]?:=(hg.block bo (by have:=hW.size;omega) (fun e=>hxo e.symm)).trans (hW.block bo hbr fun hm=>(hM bo hm).2 rfl)
 have hB2:Box3 w2 bo (.int .i64 0) (.string n) x:=h.box.keep hblk
 refine⟨hB2,?_⟩
 have hx'o:x'.ownBlock≠some bo:=fun e=>by
  rcases hfr with e2 | e2
  ·exact hxo (e2 ▸ e)
  ·have:=e2 bo e;have:=hW.size;omega
 have hS:Touch (fun b=>b=bo) w2 (w2.setCell ⟨bo,2,none⟩ x'):=Touch.setCell _ rfl
 have hE:TsEach X2 (Free x (OkN ok wb)) [(t,a,c)]:=by
  refine TsEach.one hf ((ht.keep (Keeps.below hX2 _)).mono fun b _ hk=>?_)
  rcases hk with hk | hk
  ·exact⟨.inl hk,fun e=>by have:=(hxb b e).1;have:=(hok b hk).1;omega⟩
  ·exact⟨.inr (by have:=h.touch.size;omega),fun e=>by have:=(hxb b e).2;omega⟩
 have hOW:OwnTs X2 wb.heap.size (OkN ok wb) x L:=by
  refine⟨ownsRow_block h.own.own fun g hg'=>hW.block g (hxb g hg').2 fun hm=>by have:=(hM g hm).1;have:=(hxb g hg').1;omega,?_⟩
  exact h.own.each.keep (hW.keeps fun b hb hm=>by
   rcases hb.1 with h3 | h3
   ·exact(hok b h3).2.2 hm
   ·have:=(hM b hm).1;omega)
 have h2:OwnTs w2 wb.heap.size (OkN ok wb) x' (L++[(t,a,c)]):=hOW.append hE (by simpa using ho) hg hfr
 refine⟨?_,⟨?_,?_⟩,?_,h.lt⟩
 ·refine⟨?_⟩
  rw[heap_setCell_at _ _ _ _ hB2.blk];rfl
 ·exact ownsRow_block h2.own (fun g hg'=>Below.heap_setCell _ _ _ _ (fun e=>by subst e;exact hx'o hg'))
 ·-- what the arguments are made of does not lie in the box
  have key:TsEach w2 (fun b=>Free x' (OkN ok wb) b∧b≠bo) (L++[(t,a,c)]):=h2.each.mono fun b _ hk=>⟨hk,fun e=>by
   subst e
   rcases hk.1 with h3 | h3
   ·exact(hok _ h3).2.1 rfl
   ·have:=h.lt;omega⟩
  exact(key.keep (w':=w2.setCell ⟨bo,2,none⟩ x') (hS.keeps fun b hb=>hb.2)).mono fun b _ hk=>hk.1
 ·have hT2:Touch (fun b=>M b∨x.ownBlock=some b) wr w2:=(hW.mono fun _ _ e=>.inl e).trans (Touch.grown hg fun k e=>.inr e)
  refine⟨hS.os.trans (hT2.os.trans h.touch.os),hS.tape.trans (hT2.tape.trans h.touch.tape),hS.output.trans (hT2.output.trans h.touch.output),Nat.le_trans h.touch.size (Nat.le_trans hT2.size hS.size),fun b hb' hn=>?_⟩
  refine(hS.block b (Nat.lt_of_lt_of_le hb' (Nat.le_trans h.touch.size hT2.size)) (fun e=>hn (.inl e))).trans ((hT2.block b (Nat.lt_of_lt_of_le hb' h.touch.size) ?_).trans (h.touch.block b hb' hn))
  rintro (e | e)
  ·exact hn (.inr e)
  ·have:=(hxb b e).1;omega
theorem BldM.done{w wb wr:World}{M ok:Nat→Prop}{bo br:Nat}{n:ByteArray}{L:List TmAt}{x:Value}(h:BldM wb M ok bo n L x wr)(hw:Touch M w wb)(hbo:w.heap.size≤bo)(hbr:w.heap.size≤br)(hlt:br<wb.heap.size)(hok:∀ b,ok b→b<w.heap.size) :
 ∃ a cap,x=.slice a (L.map (·.1)).length cap∧Ts (((wr.setCell ⟨br,0,none⟩ (.int .i64 0)).setCell ⟨br,1,none⟩ (.string n)).setCell ⟨br,2,none⟩ x) (OkN ok w) (L.map (·.1)) a cap∧Touch M w (((wr.setCell ⟨br,0,none⟩ (.int .i64 0)).setCell ⟨br,1,none⟩ (.string n)).setCell ⟨br,2,none⟩ x):=by
 have hb:Touch M w wr:=by
  refine⟨h.touch.os.trans hw.os,h.touch.tape.trans hw.tape,h.touch.output.trans hw.output,Nat.le_trans hw.size h.touch.size,fun b hb hn=>(h.touch.block b (Nat.lt_of_lt_of_le hb hw.size) ?_).trans (hw.block b hb hn)⟩
  rintro (e | e)
  ·omega
  ·exact hn e
 have h1:TsEach (((wr.setCell ⟨br,0,none⟩ (.int .i64 0)).setCell ⟨br,1,none⟩ (.string n)).setCell ⟨br,2,none⟩ x) (OkN ok w) L:=by
  have key:TsEach wr (fun b=>OkN ok w b∧b≠br) L:=h.own.each.mono fun b _ hk=>by
   rcases hk.1 with h3 | h3
   ·exact⟨.inl h3,fun e=>by have:=hok b h3;omega⟩
   ·exact⟨.inr (by have:=hw.size;omega),fun e=>by omega⟩
  exact(key.keep ((touch_put wr br _ _ _).keeps fun b hb=>hb.2)).mono fun b _ hk=>hk.1
 have ho:(((wr.setCell ⟨br,0,none⟩ (.int .i64 0)).setCell ⟨br,1,none⟩ (.string n)).setCell ⟨br,2,none⟩ x).ownsRow w.heap.size 71 3 x L.length (flat L):=by
  have h2:wr.ownsRow w.heap.size 71 3 x L.length (flat L):=by
   refine⟨h.own.own.1,h.own.own.2.imp id ?_⟩
   rintro ⟨g,cap,cur,a1,a2,a3⟩
   exact⟨g,cap,cur,a1,Nat.le_trans hw.size a2,a3⟩
  exact ownsRow_block h2 fun g hg=>other_put (fun e=>by have:=(h.own.block hg).1;omega) _ _ _
 obtain⟨a,cap,he,hts⟩:=Ts.of_row ho (fun b hb=>.inr hb) h1
 refine⟨a,cap,he,hts,?_⟩
 have ht:=touch_put wr br (.int .i64 0) (.string n) x
 exact⟨ht.os.trans hb.os,ht.tape.trans hb.tape,ht.output.trans hb.output,Nat.le_trans hb.size ht.size,fun b hb' hn=>(ht.block b (Nat.lt_of_lt_of_le hb' hb.size) (fun e=>by omega)).trans (hb.block b hb' hn)⟩
theorem thrL_room{σ:Sub}:∀ (m:Nat) (l:List Tm) (x:List Tm×Nat),thrL σ m l=some x→l.length+x.2≤m:=by
 intro m
 induction m using Nat.strongRecOn with
 | _ m ih =>
 intro l x h
 cases l with
 | nil=>rw[thrL_nil] at h;cases h;simp
 | cons t r =>
  cases m with
  | zero=>rw[thrL_zero] at h;cases h
  | succ m =>
   by_cases hv:(look σ t).var=0
   ·rw[thrL_fn hv] at h
    obtain⟨y,hy,h2⟩:=Option.bind_eq_some_iff.1 h
    obtain⟨z,hz,rfl⟩:=Option.map_eq_some_iff.1 h2
    have h3:=(thrL_le _ _ _ hy).1
    have:=ih y.2 (by omega) r z hz
    simp only[List.length_cons];omega
   ·rw[thrL_var hv] at h
    obtain⟨z,hz,rfl⟩:=Option.map_eq_some_iff.1 h
    have:=ih m (by omega) r z hz
    simp only[List.length_cons];omega
theorem Tm.length_le_sizes(l:List Tm):l.length≤Tm.sizes l:=by
 induction l with
 | nil=>exact Nat.zero_le _
 | cons t r ih=>simp only[Tm.sizes,List.length_cons];have:=t.size_pos;omega
theorem Box3.made2{X:World}{b:Nat}{x0 x1 x2:Value}(h:b=X.heap.size):Box3 (X.alloc (.cells #[x0,x1,x2] 71)) b x0 x1 x2:=by subst h;exact Box3.made X _ _ _
theorem news3(X:World)(t:Tm)(a:Option Addr)(c:Nat){h:Nat}(e:h=X.heap.size):∀ ad,some (⟨h,0,none⟩:Addr)=some ad→∀ j u,(flat [(t,a,c)])[j]? = some u→(X.alloc (.cells #[.int .i64 t.var,.string t.name,.slice a t.args.length c] 71)).cell? (ad.add j)=some u:=by
 subst e
 intro ad had
 cases had
 have ho:=World.ownsRow_lit (base:=X.heap.size) (e:=71) (size:=3) X #[.int .i64 t.var,.string t.name,.slice a t.args.length c] 1 (Nat.le_refl _) (by unfold maxLen;omega) rfl
 exact ho.cells (g:=X.heap.size) rfl
abbrev ThrM(bl:Nat)(Md:Nat→Prop):Nat→Prop:=fun b=>b=bl∨Md b
def ThrPost{S:Type}(w:World)(ok:Nat→Prop)(bl:Nat)(Md:Nat→Prop)(nm:S→Int→Int×S)(Inv:World→S→Prop)(s:S)(o:Option (List Tm×Nat))(e:Ending)(w':World):Prop :=
 Touch (ThrM bl Md) w w' ∧
 match o with
 | some x=>∃ (T:Tm) (a:Option Addr) (c:Nat),(Tm.rens nm s x.1).1 = [T]∧e=.returned (.tuple #[.agg #[.int .i64 T.var,.string T.name,.slice a T.args.length c],.bool true])∧T.fits∧Ts w' (OkN ok w) T.args a c ∧
  Inv w' (Tm.rens nm s x.1).2∧w'.heap[bl]? = some (.cells #[.int .i64 x.2] 3 (0,0))
 | none=>e=.returned (.tuple #[.agg #[.int .i64 0,.string ⟨#[]⟩,.slice none 0 0],.bool false])∧∃ (s':S) (k:Int),Inv w' s'∧w'.heap[bl]? = some (.cells #[.int .i64 k] 3 (0,0))
theorem setCell_one(w:World)(b:Nat){x:Value}(y:Value){e:TypeId}(h:w.heap[b]? = some (.cells #[x] e (0,0))):(w.setCell ⟨b,0,none⟩ y).heap[b]? = some (.cells #[y] e (0,0)):=by
 rw[heap_setCell_at _ _ _ _ h];rfl
def fresh(m n:Nat):List TmAt:=(List.range n).map fun i=>(VarT ((m+i:Nat):Int),none,0)

theorem thrL_sizeN{σ:Sub}:∀ (m:Nat) (l:List Tm) (x:List Tm×Nat),thrL σ m l=some x→Tm.sizes x.1+x.2≤m:=by
 intro m
 induction m using Nat.strongRecOn with
 | _ m ih =>
 intro l x h
 cases l with
 | nil=>rw[thrL_nil] at h;cases h;simp[Tm.sizes]
 | cons t r =>
  cases m with
  | zero=>rw[thrL_zero] at h;cases h
  | succ m =>
   by_cases hv:(look σ t).var=0
   ·rw[thrL_fn hv] at h
    obtain⟨y,hy,h2⟩:=Option.bind_eq_some_iff.1 h
    obtain⟨z,hz,rfl⟩:=Option.map_eq_some_iff.1 h2
    have h3:=(thrL_le _ _ _ hy).1
    have e1:=ih m (by omega) _ y hy
    have e2:=ih y.2 (by omega) _ z hz
    simp only[Tm.sizes,Tm.size];omega
   ·rw[thrL_var hv] at h
    obtain⟨z,hz,rfl⟩:=Option.map_eq_some_iff.1 h
    have e2:=ih m (by omega) _ z hz
    simp only[Tm.sizes,Tm.size];omega
theorem renN_len(t:Tm):∀ s,(Tm.ren numV s t).2.length≤s.length+t.size:=by
 have ha:∀ (s:List Int) (v:Int),(addV s v).length≤s.length+1:=fun s v=>by
  unfold addV
  split
  ·omega
  ·simp
 induction t using Tm.ind with
 | h v n l ih =>
  have hl:∀ (r:List Tm) (s:List Int),(∀ x,x∈r→x∈l)→(Tm.rens numV s r).2.length≤s.length+Tm.sizes r:=by
   intro r
   induction r with
   | nil=>intro s _;simp[Tm.rens,Tm.sizes]
   | cons x r ihr =>
    intro s hr
    have h1:=ih x (hr x List.mem_cons_self) s
    have h2:=ihr (Tm.ren numV s x).2 fun y hy=>hr y (List.mem_cons_of_mem _ hy)
    simp only[Tm.rens,Tm.sizes]
    omega
  intro s
  simp only[Tm.ren,Tm.size]
  split
  ·have:=ha s v;simp only[numV];omega
  ·have:=hl l s fun x hx=>hx;simp only;omega
theorem rensN_len(l:List Tm):∀ s,(Tm.rens numV s l).2.length≤s.length+Tm.sizes l:=by
 induction l with
 | nil=>intro s;simp[Tm.rens,Tm.sizes]
 | cons x r ih =>
  intro s
  have h1:=renN_len x s
  have h2:=ih (Tm.ren numV s x).2
  simp only[Tm.rens,Tm.sizes]
  omega
set_option maxRecDepth 100000 in
set_option maxHeartbeats 4000000 in
theorem ThroughNW{Inv:World→List Int→Prop}{Md:Nat→Prop}{cb:Value}(hN:∀ (w:World) (s:List Int) (v:Int),Inv w s→s.length≤1000→I64 v→Calls Try.prog 100 #[.int .i64 v,cb] w fun e w'=>e=.returned (.int .i64 (numV s v).1)∧Inv w' (numV s v).2∧I64 (numV s v).1∧Touch Md w w')(hI:∀ w w' s,Inv w s→(∀ b,Md b→w'.heap[b]? = w.heap[b]?)→w.heap.size≤w'.heap.size→Inv w' s)
 {ok:Nat→Prop} {bs bm:Nat} {tv:Value} {σ:Sub} {Lt:List Int} {wk bl:Nat} (hE:Ends σ) (m:Nat):∀ (s:List Int) (t:Tm) (a:Option Addr) (c:Nat) (w:World),m+s.length≤1000→StAt w ok bs bm tv σ Lt wk→Inv w s→w.heap[bl]? = some (.cells #[.int .i64 m] 3 (0,0)) →
  (¬ StM bs bm tv bl∧¬ ok bl)→(∀ b,Md b→b<w.heap.size∧¬ StM bs bm tv b∧¬ ok b∧b≠bl)→t.fits→Ts w ok t.args a c →
 Calls Try.prog 99 #[.pointer (some ⟨bs,0,none⟩),.agg #[.int .i64 t.var,.string t.name,.slice a t.args.length c],.pointer (some ⟨bl,0,none⟩),.func (.func 100) #[] #[cb]] w (ThrPost w ok bl Md numV Inv s (thrL σ m [t])):=by
 induction m using Nat.strongRecOn with
 | _ m ih =>
 intro s t a c w hm hst hinv hbl hsep hmd hfit hts
 have IH:=lh ih;have HST:=lh hst;have HF:=lh hfit;have HT:=lh hts;have HINV:=lh hinv;have HBL:=lh hbl;have HSEP:=lh hsep;have HMD:=lh hmd;have HE:=lh hE;have HN:=lh hN;have HI:=lh hI
 have hbll:bl<w.heap.size:=(Array.getElem?_eq_some_iff.1 hbl).1
 have HOK:Hid (∀ b,ok b→b<w.heap.size∧b≠bl∧¬ Md b):=lh fun b hb=>⟨(hst.okb b hb).1,fun e=>hsep.2 (e ▸ hb),fun hm=>(hmd b hm).2.2.1 hb⟩
 have k0:w.cell? ⟨bl,0,none⟩=some (.int .i64 m):=by simp[World.cell?,hbl]
 have kf:∀ o,w.frozen? ⟨bl,o,none⟩=false:=fun o=>by simp[World.frozen?,hbl]
 clear ih hst hinv hbl hsep hmd hfit hts hE hN hI
 have hmd0:∀ d:Int,Hid (Touch (ThrM bl Md) w (w.setCell ⟨bl,0,none⟩ (.int .i64 d))):=fun d=>lh ((Touch.setCell _ rfl:Touch (fun b=>b=bl) w _).mono fun _ _ e=>.inl e)
 cases m with
 | zero =>
  have HO:Hid (thrL σ 0 [t]=none):=lh (thrL_zero _ _ _)
  have T1:=hmd0 (-1)
  clear hmd0
  go_enter Try.func99,Try.ntmps99
  go_wp2_with fail
  rw[HO.out]
  -- ZERO
  have BA:Below (w.setCell ⟨bl,0,none⟩ (.int .i64 (-1))).heap.size (w.setCell ⟨bl,0,none⟩ (.int .i64 (-1))) (((w.setCell ⟨bl,0,none⟩ (.int .i64 (-1))).alloc (.cells #[.int .i64 t.var,.string t.name,.slice a t.args.length c] 71)).alloc (.cells #[.int .i64 0,.string ⟨#[]⟩,.slice none 0 0] 71)):=((Below.refl _ _).alloc (Nat.le_refl _) _).alloc (by simp) _
  have TT:Touch (fun b=>b=bl) w (((w.setCell ⟨bl,0,none⟩ (.int .i64 (-1))).alloc (.cells #[.int .i64 t.var,.string t.name,.slice a t.args.length c] 71)).alloc (.cells #[.int .i64 0,.string ⟨#[]⟩,.slice none 0 0] 71)):=(Touch.setCell _ rfl:Touch (fun b=>b=bl) w _).trans (Touch.below BA)
  exact bodyPost_ret (v:=.tuple #[.agg #[.int .i64 0,.string ⟨#[]⟩,.slice none 0 0],.bool false]) (by simp[results,Try.results99,go_sem]) rfl
   ⟨TT.mono fun _ _ e=>.inl e,rfl,s,-1,HI.out w _ s HINV.out (fun b hb=>TT.block b (HMD.out b hb).1 (HMD.out b hb).2.2.2) TT.size,(BA.block bl (by simpa using hbll)).trans (setCell_one w bl _ HBL.out)⟩
 | succ m =>
  have hm1:(m:Int)≤1000:=by omega
  have hm0:(0:Int)≤(m:Int):=by omega
  have hsub0:(m:Int)+1-1=(m:Int):=by omega
  have T0:Touch (fun b=>b=bl) w (w.setCell ⟨bl,0,none⟩ (.int .i64 m)):=Touch.setCell _ rfl
  have HSD:=lh (HST.out.touch T0 fun b e=>by subst e;exact HSEP.out)
  have HID:=lh (HI.out w _ s HINV.out (fun b hb=>T0.block b (HMD.out b hb).1 (HMD.out b hb).2.2.2) T0.size)
  have HBD:=lh (setCell_one w bl (.int .i64 m) HBL.out)
  have HTD:=lh (HT.out.keep (T0.keeps fun b hb=>(HOK.out b hb).2.1))
  have HT0:=lh T0
  have hsd:(w.setCell ⟨bl,0,none⟩ (.int .i64 m)).heap.size=w.heap.size:=by simp[World.setCell]
  have BB:Below (w.setCell ⟨bl,0,none⟩ (.int .i64 m)).heap.size (w.setCell ⟨bl,0,none⟩ (.int .i64 m)) (((w.setCell ⟨bl,0,none⟩ (.int .i64 m)).alloc (.cells #[.int .i64 t.var,.string t.name,.slice a t.args.length c] 71)).alloc (.cells #[.int .i64 0,.string ⟨#[]⟩,.slice none 0 0] 71)):=((Below.refl _ _).alloc (Nat.le_refl _) _).alloc (by simp) _
  have HA4:Hid (Box3 (((w.setCell ⟨bl,0,none⟩ (.int .i64 m)).alloc (.cells #[.int .i64 t.var,.string t.name,.slice a t.args.length c] 71)).alloc (.cells #[.int .i64 0,.string ⟨#[]⟩,.slice none 0 0] 71)) w.heap.size (.int .i64 t.var) (.string t.name) (.slice a t.args.length c)):=lh ((Box3.made2 hsd.symm).alloc _)
  have HA6:Hid (Box3 (((w.setCell ⟨bl,0,none⟩ (.int .i64 m)).alloc (.cells #[.int .i64 t.var,.string t.name,.slice a t.args.length c] 71)).alloc (.cells #[.int .i64 0,.string ⟨#[]⟩,.slice none 0 0] 71)) (w.heap.size+1) (.int .i64 0) (.string ⟨#[]⟩) (.slice none 0 0)):=lh (Box3.made2 (by simp[World.setCell]))
  have HBB:=lh BB
  obtain⟨n0,hn⟩:=look_spec HE.out t
  have HLN:=lh hn
  have HLK:=lh (LookW (HSD.out.keep BB) HLN.out HF.out (HTD.out.keep (Keeps.below BB ok)))
  have HSDD:=lh hsd
  clear BB hn T0 hsd hmd0
  -- WALK
  have HMX:Hid (∀ b,ThrM bl Md b→b<w.heap.size):=lh fun b e=>e.elim (fun e=>by omega) (fun e=>(HMD.out b e).1)
  by_cases hv:(look σ t).var=0
  ·have HO:Hid (thrL σ (m+1) [t]=(thrL σ m (look σ t).args).map fun y=>([.mk 0 (look σ t).name y.1],y.2)):=lh (by
    rw[thrL_fn hv]
    cases thrL σ m (look σ t).args with
    | none=>rfl
    | some y=>simp only[Option.bind_some,Option.map_some,thrL_nil])
   have hv1:((look σ t).var != 0)=false:=by rw[hv];rfl
   clear hv
   go_enter Try.func99,Try.ntmps99
   go_wp2_with (go_at_call 102;refine HLK.out.mono ?_;rintro e w1 ⟨a1,c1,rfl,hf1,ht1,hb1⟩;have HF1:=lh hf1;have HT1:=lh ht1;have HB1:=lh hb1;have HX4:=lh (HA4.out.below hb1);have HX6:=lh (HA6.out.below hb1);obtain⟨q0,q1,q2,qf⟩:=(HA4.out.below hb1).all;obtain⟨p0,p1,p2,pf⟩:=(HA6.out.below hb1).all;have hlt1:w.heap.size+1<w1.heap.size:=(HA6.out.below hb1).lt;have hlt0:w.heap.size<w1.heap.size:=(HA4.out.below hb1).lt;clear hf1 ht1 hb1)
   have HSL:=lh (HSDD.out)
   have HT1W:=lh (HT0.out.trans (Touch.below (M:=fun b=>b=bl) (HBB.out.trans (HB1.out.mono HBB.out.size))))
   have TP:=touch_put w1 w.heap.size (.int .i64 (look σ t).var) (.string (look σ t).name) (.slice a1 (look σ t).args.length c1)
   have HTP:=lh TP
   have HSW:=lh (((HSD.out.keep HBB.out).keep HB1.out).touch TP fun b e=>by subst e;exact⟨HST.out.notM (Nat.le_refl _),fun hk=>by have:=(HOK.out _ hk).1;omega⟩)
   have HTTW:Hid (Touch (fun b=>b=bl) w (((w1.setCell ⟨w.heap.size,0,none⟩ (.int .i64 (look σ t).var)).setCell ⟨w.heap.size,1,none⟩ (.string (look σ t).name)).setCell ⟨w.heap.size,2,none⟩ (.slice a1 (look σ t).args.length c1))):=lh ⟨TP.os.trans HT1W.out.os,TP.tape.trans HT1W.out.tape,TP.output.trans HT1W.out.output,Nat.le_trans HT1W.out.size TP.size,fun b hb hn=>(TP.block b (Nat.lt_of_lt_of_le hb HT1W.out.size) (fun e=>by omega)).trans (HT1W.out.block b hb hn)⟩
   have HIW:=lh (HI.out w _ s HINV.out (fun b hb=>HTTW.out.block b (HMD.out b hb).1 (HMD.out b hb).2.2.2) HTTW.out.size)
   have HBW:Hid ((((w1.setCell ⟨w.heap.size,0,none⟩ (.int .i64 (look σ t).var)).setCell ⟨w.heap.size,1,none⟩ (.string (look σ t).name)).setCell ⟨w.heap.size,2,none⟩ (.slice a1 (look σ t).args.length c1)).heap[bl]? = some (.cells #[.int .i64 m] 3 (0,0))):=lh ((TP.block bl (by have:=HT1W.out.size;omega) (fun e=>by omega)).trans (((HBB.out.trans (HB1.out.mono HBB.out.size)).block bl (by have:=HSL.out;omega)).trans HBD.out))
   have HY4:=lh (HX4.out.put (.int .i64 (look σ t).var) (.string (look σ t).name) (.slice a1 (look σ t).args.length c1))
   have HY6:=lh (HX6.out.other (show w.heap.size+1≠w.heap.size by omega) (.int .i64 (look σ t).var) (.string (look σ t).name) (.slice a1 (look σ t).args.length c1))
   have HTW:=lh (HT1.out.keep (TP.keeps fun b hb e=>by have:=(HOK.out b hb).1;omega))
   have hsw:(((w1.setCell ⟨w.heap.size,0,none⟩ (.int .i64 (look σ t).var)).setCell ⟨w.heap.size,1,none⟩ (.string (look σ t).name)).setCell ⟨w.heap.size,2,none⟩ (.slice a1 (look σ t).args.length c1)).heap.size=w1.heap.size:=by simp[World.setCell]
   clear q0 q1 q2 qf p0 p1 p2 pf TP
   generalize (((w1.setCell ⟨w.heap.size,0,none⟩ (.int .i64 (look σ t).var)).setCell ⟨w.heap.size,1,none⟩ (.string (look σ t).name)).setCell ⟨w.heap.size,2,none⟩ (.slice a1 (look σ t).args.length c1))=W at *
   generalize look σ t=x at *
   rw[← hsw] at *
   clear HLN HLK HB1 HT1 HX4 HX6 hlt1 hlt0 HT1W HTP HSL
   have hWW:w.heap.size+1<W.heap.size:=HY6.out.lt
   have Z0:Box3 (W.alloc (.cells #[.int .i64 0,.string x.name,.slice none 0 0] 71)) W.heap.size (.int .i64 0) (.string x.name) (.slice none 0 0):=Box3.made W _ _ _
   have BA:Below W.heap.size W (W.alloc (.cells #[.int .i64 0,.string x.name,.slice none 0 0] 71)):=(Below.refl _ _).alloc (Nat.le_refl _) _
   have HZ6:=lh (HY6.out.below BA)
   have HSB':=lh (HSW.out.keep BA)
   have HTB:=lh (HTW.out.keep (Keeps.below BA ok))
   have HTTB:=lh (HTTW.out.trans (Touch.below BA))
   have HIB:=lh (HI.out W _ s HIW.out (fun b hb=>BA.block b (by have:=(HMD.out b hb).1;omega)) BA.size)
   have HBB2:=lh ((BA.block bl (by omega)).trans HBW.out)
   have hsb:(W.alloc (.cells #[.int .i64 0,.string x.name,.slice none 0 0] 71)).heap.size=W.heap.size+1:=by simp
   have HSB:=lh hsb
   have hxl:x.args.length≤9223372036854775807:=by have:=HTW.out.cap;unfold maxLen at this;omega
   have HXF:=lh HF1.out.2
   have HZ0:=lh Z0
   clear Z0 BA hsb hsw
   generalize W.alloc (.cells #[.int .i64 0,.string x.name,.slice none 0 0] 71)=wb at *
   go_loopw[42] (fun y42 wr=>∃ (i:Nat) (L:List TmAt) (y:Value) (r:Nat) (s':List Int) (Ls:List Tm),i≤x.args.length∧y42=.int .i64 i∧r≤m∧Hid (thrL σ m (x.args.take i)=some (Ls,r))∧Hid (L.map (·.1)=(Tm.rens numV s Ls).1∧s'=(Tm.rens numV s Ls).2)∧BldM wb (ThrM bl Md) ok W.heap.size x.name L y wr∧Inv wr s'∧wr.heap[bl]? = some (.cells #[.int .i64 r] 3 (0,0))) (fun y42 _=>x.args.length-(intOf y42).toNat)
   case atStart=>exact⟨0,[],.slice none 0 0,m,s,[],Nat.zero_le _,rfl,Nat.le_refl _,lh (thrL_nil _ _),lh ⟨rfl,rfl⟩,BldM.start HZ0.out,HIB.out,HBB2.out⟩
   case round =>
    obtain⟨i,L,y,r,s',Ls,hi,rfl,hr,HTH,HLL,hrel,hinv',hblr⟩:=hrel
    have HR:=lh hrel;have HIR:=lh hinv';have HBR:=lh hblr
    obtain⟨xa,xc,rfl⟩:=hrel.form
    obtain⟨z60,z61,z62,z63⟩:=(HZ6.out.keep (hrel.touch.block _ HZ6.out.lt (fun e=>e.elim (fun e=>by omega) (fun e=>by have:=HMX.out _ e;omega)))).all
    have KB:Hid (Keeps ok wb wr):=lh (hrel.touch.keeps fun b hb e=>e.elim (fun e=>by have:=(HOK.out b hb).1;omega) (fun e=>e.elim (HOK.out b hb).2.1 (HOK.out b hb).2.2))
    have hwr:W.heap.size<wr.heap.size:=hrel.box.lt
    have HLl:Hid (L.length=i∧i+r≤m∧s'.length+r≤s.length+m):=lh (by
     have h5:=thrL_sizeN _ _ _ HTH.out
     have h6:=rensN_len Ls s
     rw[← HLL.out.2] at h6
     have h1:=(thrL_le _ _ _ HTH.out).2
     have h2:=thrL_room _ _ _ HTH.out
     have h3:=congrArg List.length HLL.out.1
     rw[List.length_map,Tm.rens_length] at h3
     rw[List.length_take] at h1 h2
     simp only at h1 h2 h5;omega)
    have HSR:Hid (StAt wr ok bs bm tv σ Lt wk):=lh (HSB'.out.touch hrel.touch fun b e=>by
     rcases e with e | e | e
     ·subst e;exact⟨HST.out.notM (by omega),fun hk=>by have:=(HOK.out _ hk).1;omega⟩
     ·subst e;exact HSEP.out
     ·exact⟨(HMD.out b e).2.1,(HMD.out b e).2.2.1⟩)
    clear hrel hinv' hblr
    by_cases hlt:i<x.args.length
    ·obtain⟨b,off,a',cap',rfl,hokb,hbs,hc,ht⟩:=HTB.out.at i hlt
     have m0:=(KB.out.cell (p:=⟨b,off+i*3,none⟩) hokb hbs).trans hc.var
     have m1:=(KB.out.cell (p:=⟨b,off+i*3+1,none⟩) hokb hbs).trans hc.name
     have m2:=(KB.out.cell (p:=⟨b,off+i*3+2,none⟩) hokb hbs).trans hc.args
     have BX:Below wr.heap.size wr (wr.alloc (.cells #[.int .i64 x.args[i].var,.string x.args[i].name,.slice a' x.args[i].args.length cap'] 71)):=(Below.refl _ _).alloc (Nat.le_refl _) _
     have HCL:=lh (IH.out r (by omega) s' x.args[i] a' cap' (wr.alloc (.cells #[.int .i64 x.args[i].var,.string x.args[i].name,.slice a' x.args[i].args.length cap'] 71)) (by have:=HLl.out;omega) (HSR.out.keep BX) (HI.out wr _ s' HIR.out (fun b hb=>BX.block b (by have:=(HMD.out b hb).1;omega)) BX.size) ((BX.block bl (by omega)).trans HBR.out) HSEP.out (fun b hb=>⟨by have:=(HMD.out b hb).1;have:=BX.size;omega,(HMD.out b hb).2⟩) hc.fits (ht.keep (KB.out.trans (Keeps.below BX ok))))
     have HBX:=lh BX
     have HSP:Hid (thrL σ m (x.args.take (i+1))=(thrL σ r [x.args[i]]).map fun z=>(Ls++z.1,z.2)):=lh (by
      rw[List.take_succ_eq_append_getElem hlt,thrL_append,HTH.out];rfl)
     have HSQ:Hid (thrL σ r [x.args[i]]=none→thrL σ m x.args=none):=lh (fun hn=>by
      rw[← List.take_append_drop (i+1) x.args,thrL_append,HSP.out,hn];rfl)
     have HLE:=lh (fun z=>thrL_le (σ:=σ) r [x.args[i]] z)
     clear hc ht BX
     generalize thrL σ r [x.args[i]]=o at *
     cases o with
     | none =>
      have HQ:=lh (HSQ.out rfl)
      clear HSQ HSP
      go_wp2_with (go_at_call 99;refine HCL.out.mono ?_;rintro e w3 ⟨ht3,rfl,s3,k3,hi3,hb3⟩;have hl3:w.heap.size+1<w3.heap.size:=(by have:=ht3.size;have:=HBX.out.size;omega);obtain⟨y0,y1,y2,yf⟩:=(((HZ6.out.keep (HR.out.touch.block _ HZ6.out.lt (fun e=>e.elim (fun e=>by omega) (fun e=>by have:=HMX.out _ e;omega)))).below HBX.out).keep (ht3.block _ (by have:=HBX.out.size;omega) (fun e=>by have:=HMX.out _ e;omega))).all;have HT3:=lh ht3;have HI3:=lh hi3;have HB3:=lh hb3;clear ht3 hi3 hb3)
      rw[HO.out,HQ.out]
      have TA:Touch (fun b=>W.heap.size=b∨ThrM bl Md b) w w3:=(((HTTB.out.mono fun _ _ e=>.inr (.inl e)).trans (HR.out.touch.mono fun _ _ e=>e.imp Eq.symm id)).trans (Touch.below HBX.out)).trans (HT3.out.mono fun _ _ e=>.inr e)
      have TP:=touch_put w3 (w.heap.size+1) (.int .i64 0) (.string ⟨#[]⟩) (.slice none 0 0)
      have BF:Below (((w3.setCell ⟨w.heap.size+1,0,none⟩ (.int .i64 0)).setCell ⟨w.heap.size+1,1,none⟩ (.string ⟨#[]⟩)).setCell ⟨w.heap.size+1,2,none⟩ (.slice none 0 0)).heap.size (((w3.setCell ⟨w.heap.size+1,0,none⟩ (.int .i64 0)).setCell ⟨w.heap.size+1,1,none⟩ (.string ⟨#[]⟩)).setCell ⟨w.heap.size+1,2,none⟩ (.slice none 0 0)) ((((w3.setCell ⟨w.heap.size+1,0,none⟩ (.int .i64 0)).setCell ⟨w.heap.size+1,1,none⟩ (.string ⟨#[]⟩)).setCell ⟨w.heap.size+1,2,none⟩ (.slice none 0 0)).alloc (.cells #[.int .i64 0,.string ⟨#[]⟩,.slice none 0 0] 71)):=(Below.refl _ _).alloc (Nat.le_refl _) _
      have hps:=TP.size
      exact bodyPost_ret (v:=.tuple #[.agg #[.int .i64 0,.string ⟨#[]⟩,.slice none 0 0],.bool false]) (by simp[results,Try.results99,go_sem,y0,y1,y2,hl3]) rfl
       ⟨⟨BF.os.trans (TP.os.trans TA.os),BF.tape.trans (TP.tape.trans TA.tape),BF.output.trans (TP.output.trans TA.output),Nat.le_trans TA.size (Nat.le_trans TP.size BF.size),fun b hb hn=>(BF.block b (by omega)).trans ((TP.block b (by omega) (fun e=>by omega)).trans (TA.block b hb (fun e=>e.elim (fun e=>by omega) hn)))⟩,
        rfl,s3,k3,HI.out _ _ _ HI3.out (fun b hb=>(BF.block b (by have:=(HMD.out b hb).1;omega)).trans (TP.block b (by have:=(HMD.out b hb).1;omega) (fun e=>by have:=(HMD.out b hb).1;omega))) (Nat.le_trans TP.size BF.size),(BF.block bl (by omega)).trans ((TP.block bl (by omega) (fun e=>by omega)).trans HB3.out)⟩
     | some z =>
      obtain⟨u1,u2⟩:=z
      have hzr:u2≤r:=(HLE.out _ rfl).1
      have HNT:Hid (thrL σ m (x.args.take (i+1))=some (Ls++u1,u2)):=lh HSP.out
      clear HSQ HSP HLE
      obtain⟨i0,hi0,hz0',hz1',hz2'⟩:=info_parts Try.infoTm
      go_wp2_with (first
       | (go_at_call 99;refine HCL.out.mono ?_;rintro e w3 ⟨ht3,T,a3,c3,hTT,rfl,hf3,hts3,hi3,hb3⟩;have hl3:W.heap.size<w3.heap.size:=(by have:=ht3.size;have:=HBX.out.size;omega);have TB3:=(Touch.below (M:=ThrM bl Md) HBX.out).trans ht3;obtain⟨y0,y1,y2,yf⟩:=(((HZ6.out.keep (HR.out.touch.block _ HZ6.out.lt (fun e=>e.elim (fun e=>by omega) (fun e=>by have:=HMX.out _ e;omega)))).below HBX.out).keep (ht3.block _ (by have:=HBX.out.size;omega) (fun e=>by have:=HMX.out _ e;omega))).all;have HBO:=HR.out.box.keep (TB3.block _ HR.out.box.lt (fun e=>by have:=HMX.out _ e;omega));have k2:=HBO.c2;have kf:=HBO.fz;have HO1:=lh (((ownsRow_block HR.out.own.own (fun gg hg=>TB3.block gg (HR.out.own.block hg).2 (fun e=>by have:=HMX.out _ e;have:=(HR.out.own.block hg).1;have:=HSB.out;omega))).alloc (.cells #[.int .i64 T.var,.string T.name,.slice a3 T.args.length c3] 71)).alloc (.cells #[.int .i64 T.var,.string T.name,.slice a3 T.args.length c3] 71));have HT3:=lh TB3;have HF3:=lh hf3;have HTS3:=lh hts3;have HI3:=lh hi3;have HB3:=lh hb3;have HTT:=lh hTT;clear ht3 hf3 hts3 hi3 hb3 hTT TB3 HBO)
       | (at_builtin;have _g:=HO1;refine wpList_append_opt _ rfl _ _ 48 rfl wb.heap.size 71 i0 _ 3 48 Try.underlying48 hi0 hz0' hz1' hz2' rfl (by decide) _ _ _ rfl HO1.out (some ⟨w3.heap.size+1,0,none⟩) 1 1 ?d0 (flat [(T,a3,c3)]) rfl (by rw[flat_length];rfl) ?d1 (flat_one _) ?d2 ?d3 ?d4 ?_))
      ·intro h;cases h
      ·exact news3 _ T a3 c3 (by simp)
      ·have:=HLl.out;unfold maxLen;omega
      ·have:=HLl.out;omega
      ·have:=HR.out.touch.size;have:=HT3.out.size;simp only[aSz];omega
      ·intro v4 w4 hown4 hgrow4 hfr4
       have BX4:Below w3.heap.size w3 ((w3.alloc (.cells #[.int .i64 T.var,.string T.name,.slice a3 T.args.length c3] 71)).alloc (.cells #[.int .i64 T.var,.string T.name,.slice a3 T.args.length c3] 71)):=((Below.refl _ _).alloc (Nat.le_refl _) _).alloc (by simp only[aSz];omega) _
       have HNX:=lh (HR.out.next (fun b hb=>⟨by have:=(HOK.out b hb).1;have:=HSB.out;omega,by have:=(HOK.out b hb).1;omega,fun e=>e.elim (HOK.out b hb).2.1 (HOK.out b hb).2.2⟩) (fun b e=>by have:=HMX.out b e;have:=HSB.out;omega) (HBX.out.size) HT3.out HF3.out HTS3.out BX4 hown4 hgrow4 hfr4)
       have HG4:=lh hgrow4
       have HOB:=lh (fun gg hg=>HR.out.own.block (g:=gg) hg)
       obtain⟨g4,cap4,rfl⟩:=own_shape hown4 (by omega)
       have s2:=HNX.out.1.c2
       have sf:=HNX.out.1.fz
       have HB4:=lh BX4
       clear hown4 hgrow4 hfr4 k2 kf y0 y1 y2 yf BX4
       go_wp2_with fail
       go_roundw
       case measure=>simp[intOf];omega
       case rel =>
        have hkk:∀ b,ThrM bl Md b→(w4.setCell ⟨W.heap.size,2,none⟩ (.slice (some ⟨g4,0,none⟩) (L.length+1) cap4)).heap[b]? = w3.heap[b]?:=fun b e=>by
         have h1:=HMX.out b e
         rw[Below.heap_setCell _ _ _ _ (show b≠W.heap.size by omega),HG4.out.block b (by have:=HB4.out.size;omega) (fun e2=>by have:=(HOB.out b e2.symm).1;have:=HSB.out;omega),HB4.out.block b (by omega)]
        exact⟨i+1,L++[(T,a3,c3)],_,u2,(Tm.rens numV s' u1).2,Ls++u1,by omega,by go_num,by omega,HNT.out,lh ⟨by rw[List.map_append,Tm.rens_append,HLL.out.1,← HLL.out.2,HTT.out];rfl,by rw[Tm.rens_append,← HLL.out.2]⟩,HNX.out.2,
         HI.out _ _ _ HI3.out (fun b hb=>hkk b (.inr hb)) (by have:=HB4.out.size;have:=HG4.out.size;simp[World.setCell];omega),(hkk bl (.inl rfl)).trans HB3.out⟩
    ·have HTA:Hid (thrL σ m x.args=some (Ls,r)):=lh (by
      have:=HTH.out
      rwa [List.take_of_length_le (by omega)] at this)
     have HD:=lh (HR.out.done (w:=w) (br:=w.heap.size+1) (HTTB.out.mono fun _ _ e=>.inl e) (by omega) (by omega) (by have:=HSB.out;omega) (fun b hb=>(HOK.out b hb).1))
     obtain⟨q0,q1,q2,qf⟩:=HR.out.box.all
     go_wp2_with fail
     rw[HO.out,HTA.out]
     obtain⟨a9,c9,he,ht9,hb9⟩:=HD.out
     injection he with he1 he2 he3
     subst he1;subst he3
     have TP:=touch_put wr (w.heap.size+1) (.int .i64 0) (.string x.name) (.slice xa L.length xc)
     have hRE:Tm.rens numV s [.mk 0 x.name Ls]=([.mk 0 x.name (L.map (·.1))],s'):=by
      simp[Tm.rens,Tm.ren,HLL.out.1,HLL.out.2]
     exact bodyPost_ret (v:=.tuple #[.agg #[.int .i64 0,.string x.name,.slice xa L.length xc],.bool true]) (by simp[results,Try.results99,go_sem,z60,z61,z62]) rfl
      ⟨hb9,.mk 0 x.name (List.map (fun y:TmAt=>y.1) L),xa,xc,by simp only;rw[hRE],by simp[Tm.var,Tm.name,Tm.args],⟨(by show -9223372036854775808≤(0:Int)∧(0:Int)≤9223372036854775807;omega),HXF.out⟩,ht9,
       by simp only;rw[hRE];exact HI.out _ _ _ HIR.out (fun b hb=>TP.block b (by have:=(HMD.out b hb).1;omega) (fun e=>by have:=(HMD.out b hb).1;omega)) TP.size,(TP.block bl (by omega) (fun e=>by omega)).trans HBR.out⟩
  ·have HO:Hid (thrL σ (m+1) [t]=some ([VarT (look σ t).var],m)):=lh (by rw[thrL_var hv,thrL_nil];rfl)
   have hv1:((look σ t).var != 0)=true:=by rw[bne_iff_ne];exact hv
   have HV:=lh hv
   clear hv
   go_enter Try.func99,Try.ntmps99
   go_wp2_with (go_at_call 102;refine HLK.out.mono ?_;rintro e w1 ⟨a1,c1,rfl,hf1,ht1,hb1⟩;have HF1:=lh hf1;have HT1:=lh ht1;have HB1:=lh hb1;have HX4:=lh (HA4.out.below hb1);have HX6:=lh (HA6.out.below hb1);obtain⟨q0,q1,q2,qf⟩:=(HA4.out.below hb1).all;obtain⟨p0,p1,p2,pf⟩:=(HA6.out.below hb1).all;have hlt1:w.heap.size+1<w1.heap.size:=(HA6.out.below hb1).lt;have hlt0:w.heap.size<w1.heap.size:=(HA4.out.below hb1).lt;clear hf1 ht1 hb1)
   have HSL:=lh (HSDD.out)
   have HT1W:=lh (HT0.out.trans (Touch.below (M:=fun b=>b=bl) (HBB.out.trans (HB1.out.mono HBB.out.size))))
   have TP:=touch_put w1 w.heap.size (.int .i64 (look σ t).var) (.string (look σ t).name) (.slice a1 (look σ t).args.length c1)
   have HTP:=lh TP
   have HSW:=lh (((HSD.out.keep HBB.out).keep HB1.out).touch TP fun b e=>by subst e;exact⟨HST.out.notM (Nat.le_refl _),fun hk=>by have:=(HOK.out _ hk).1;omega⟩)
   have HTTW:Hid (Touch (fun b=>b=bl) w (((w1.setCell ⟨w.heap.size,0,none⟩ (.int .i64 (look σ t).var)).setCell ⟨w.heap.size,1,none⟩ (.string (look σ t).name)).setCell ⟨w.heap.size,2,none⟩ (.slice a1 (look σ t).args.length c1))):=lh ⟨TP.os.trans HT1W.out.os,TP.tape.trans HT1W.out.tape,TP.output.trans HT1W.out.output,Nat.le_trans HT1W.out.size TP.size,fun b hb hn=>(TP.block b (Nat.lt_of_lt_of_le hb HT1W.out.size) (fun e=>by omega)).trans (HT1W.out.block b hb hn)⟩
   have HIW:=lh (HI.out w _ s HINV.out (fun b hb=>HTTW.out.block b (HMD.out b hb).1 (HMD.out b hb).2.2.2) HTTW.out.size)
   have HBW:Hid ((((w1.setCell ⟨w.heap.size,0,none⟩ (.int .i64 (look σ t).var)).setCell ⟨w.heap.size,1,none⟩ (.string (look σ t).name)).setCell ⟨w.heap.size,2,none⟩ (.slice a1 (look σ t).args.length c1)).heap[bl]? = some (.cells #[.int .i64 m] 3 (0,0))):=lh ((TP.block bl (by have:=HT1W.out.size;omega) (fun e=>by omega)).trans (((HBB.out.trans (HB1.out.mono HBB.out.size)).block bl (by have:=HSL.out;omega)).trans HBD.out))
   have HY4:=lh (HX4.out.put (.int .i64 (look σ t).var) (.string (look σ t).name) (.slice a1 (look σ t).args.length c1))
   have HY6:=lh (HX6.out.other (show w.heap.size+1≠w.heap.size by omega) (.int .i64 (look σ t).var) (.string (look σ t).name) (.slice a1 (look σ t).args.length c1))
   have HTW:=lh (HT1.out.keep (TP.keeps fun b hb e=>by have:=(HOK.out b hb).1;omega))
   have hsw:(((w1.setCell ⟨w.heap.size,0,none⟩ (.int .i64 (look σ t).var)).setCell ⟨w.heap.size,1,none⟩ (.string (look σ t).name)).setCell ⟨w.heap.size,2,none⟩ (.slice a1 (look σ t).args.length c1)).heap.size=w1.heap.size:=by simp[World.setCell]
   clear q0 q1 q2 qf p0 p1 p2 pf TP
   generalize (((w1.setCell ⟨w.heap.size,0,none⟩ (.int .i64 (look σ t).var)).setCell ⟨w.heap.size,1,none⟩ (.string (look σ t).name)).setCell ⟨w.heap.size,2,none⟩ (.slice a1 (look σ t).args.length c1))=W at *
   generalize look σ t=x at *
   rw[← hsw] at *
   clear HLN HLK HB1 HT1 HX4 HX6 hlt1 hlt0 HT1W HTP HSL
   have HC:=lh (HN.out W s x.var HIW.out (by omega) HF1.out.1)
   refine HC.out.mono ?_
   rintro e w2 ⟨rfl,hi2,h64,ht2⟩
   have HI2:=lh hi2;have H64:=lh h64;have HT2:=lh ht2
   have hl6:=HY6.out.lt
   obtain⟨z60,z61,z62,z63⟩:=(HY6.out.keep (ht2.block _ hl6 (fun hm=>by have:=(HMD.out _ hm).1;omega))).all
   have hs2:=ht2.size
   have hl7:w.heap.size+1<w2.heap.size:=by omega
   clear hi2 h64 ht2
   obtain⟨q,hq⟩:∃ q,(numV s x.var).1=q:=⟨_,rfl⟩
   have HQ:=lh hq
   rw[hq] at H64 ⊢
   clear hq
   go_wp2_with fail
   rw[HO.out]
   have TP:=touch_put w2 (w.heap.size+1) (.int .i64 q) (.string ⟨#[]⟩) (.slice none 0 0)
   have TA:Touch (ThrM bl Md) w w2:=(HTTW.out.mono fun _ _ e=>.inl e).trans (HT2.out.mono fun _ _ e=>.inr e)
   have HRE:Hid ((Tm.rens numV s [VarT x.var]).1 = [.mk (numV s x.var).1 ⟨#[]⟩ []]∧(Tm.rens numV s [VarT x.var]).2=(numV s x.var).2):=lh (by
    have:=HV.out
    simp[Tm.rens,Tm.ren,this])
   exact bodyPost_ret (v:=.tuple #[.agg #[.int .i64 q,.string ⟨#[]⟩,.slice none 0 0],.bool true]) (by simp[results,Try.results99,go_sem,z60,z61,z62]) rfl
    ⟨⟨TP.os.trans TA.os,TP.tape.trans TA.tape,TP.output.trans TA.output,Nat.le_trans TA.size TP.size,fun b hb hn=>(TP.block b (Nat.lt_of_lt_of_le hb TA.size) (fun e=>by omega)).trans (TA.block b hb hn)⟩,
     VarT q,none,0,by rw[HRE.out.1,HQ.out],rfl,⟨H64.out,Nat.zero_le _⟩,Ts.empty' _ _,by rw[HRE.out.2];exact HI.out _ _ _ HI2.out (fun b hb=>TP.block b (by have:=(HMD.out b hb).1;omega) (fun e=>by have:=(HMD.out b hb).1;omega)) TP.size,
     (TP.block bl (by omega) (fun e=>by omega)).trans ((HT2.out.block bl (by omega) (fun hm=>(HMD.out bl hm).2.2.2 rfl)).trans HBW.out)⟩
end Go.Proofs.Ytikmgiapjigghab
