/- A term that Show makes, argument by argument, while names of variables grow beside it. -/
import Derived.Test.YtikmgiapjigghaaCa10
import Derived.Test.YtikmgiapjigghaaCa11
import Derived.Test.YtikmgiapjigghaaCa16
namespace Go.Proofs.Ytikmgiapjigghaa
open Go.RowKit
theorem ts_of_row'{w:World}{ok:Nat→Prop}{base:Nat}{v:Value}{L:List TmAt}(h:w.ownsRow base 24 3 v L.length (flat L))(hok:∀ b,v.ownBlock=some b→ok b)(he:TsEach w ok L) :
 ∃ a cap,v=.slice a (L.map (·.1)).length cap∧Ts w ok (L.map (·.1)) a cap:=by
 rcases h.2 with ⟨rfl,hn⟩ | ⟨g,cap,cur,rfl,hb,hg,hcap,hml,hsz,htk⟩
 ·have:L = []:=List.eq_nil_of_length_eq_zero hn
  subst this
  exact⟨none,0,rfl,Ts.empty' _ _⟩
 ·refine⟨some ⟨g,0,none⟩,cap,by simp,?_⟩
  have hcell:∀ j u,(flat L)[j]? = some u→w.cell? ⟨g,j,none⟩=some u:=by
   intro j u hu
   have hj:j<L.length*3:=by rw[← flat_length];exact(List.getElem?_eq_some_iff.1 hu).1
   rw[h.cellAt j hj,hu]
  have hgs:g<w.heap.size:=(Array.getElem?_eq_some_iff.1 hg).1
  refine .mk _ _ _ ⟨by simpa using hcap,hml,fun h=>by cases h⟩ (fun i=>((L.getD i (.mk 0 ByteArray.empty [],none,0)).2)) (fun i hi=>?_) (fun i hi=>?_)
  ·have hi':i<L.length:=by simpa using hi
   obtain⟨h1,h2,h3⟩:=flat_at L i hi'
   refine⟨g,0,rfl,hok g rfl,hgs,?_⟩
   simp only[List.getElem_map,List.getD_eq_getElem?_getD,List.getElem?_eq_getElem hi',Option.getD_some,Nat.zero_add]
   exact⟨hcell _ _ h1,hcell _ _ h2,hcell _ _ h3,(he _ (List.getElem_mem hi')).1⟩
  ·have hi':i<L.length:=by simpa using hi
   simp only[List.getElem_map,List.getD_eq_getElem?_getD,List.getElem?_eq_getElem hi',Option.getD_some]
   exact(he _ (List.getElem_mem hi')).2
structure BldC(wb:World)(bl:Nat)(Cb:Nat→Prop)(bo:Nat)(n:ByteArray)(L:List TmAt)(x:Value)(C:Nat→Prop)(wr:World):Prop where
 box:Box3 wr bo (.int .i64 0) (.string n) x
 own:OwnTs wr wb.heap.size (fun b=>wb.heap.size≤b∧¬ C b) x L
 xo:∀ g,x.ownBlock=some g→¬ C g
 touch:Touch (fun b=>b=bo∨Cb b∨b=bl) wb wr
 lt:bo<wb.heap.size
 col:∀ b,b<wb.heap.size→(C b↔Cb b)
 old:∀ b,C b→b<wr.heap.size
 sep:¬ Cb bo∧bl<wb.heap.size∧bl≠bo
theorem BldC.start{wb:World}{bl bo:Nat}{Cb:Nat→Prop}{n:ByteArray}(h:Box3 wb bo (.int .i64 0) (.string n) (.slice none 0 0))(ho:∀ b,Cb b→b<wb.heap.size)(hs:¬ Cb bo∧bl<wb.heap.size∧bl≠bo):BldC wb bl Cb bo n [] (.slice none 0 0) Cb wb :=
 ⟨h,OwnTs.nil _ _ _,(fun _ hg=>nomatch hg),Touch.refl _ _,h.lt,fun _ _=>Iff.rfl,ho,hs⟩
theorem BldC.form{wb wr:World}{bl bo:Nat}{Cb C:Nat→Prop}{n:ByteArray}{L:List TmAt}{x:Value}(h:BldC wb bl Cb bo n L x C wr):∃ a cap,x=.slice a L.length cap:=by
 rcases h.own.own.2 with ⟨h1,h2⟩ | ⟨g,cap,cur,h1,_⟩
 ·exact⟨none,0,by rw[h1,h2]⟩
 ·exact⟨_,_,h1⟩
theorem BldC.next{wb wr wX w1 X2 w2:World}{bl bo:Nat}{Cb C C1:Nat→Prop}{n:ByteArray}{L:List TmAt}{x x':Value}(h:BldC wb bl Cb bo n L x C wr)(hX:wr.heap.size≤wX.heap.size)
 (hb:Touch (fun b=>C b∨b=bl) wr w1) (hc1:∀ b,b<wX.heap.size→(C1 b↔C b)) (ho1:∀ b,C1 b→b<w1.heap.size) {t:Tm} {a:Option Addr} {c:Nat} (hf:t.fits) (ht:Ts w1 (fun b=>wX.heap.size≤b∧¬ C1 b) t.args a c) (hX2:Below w1.heap.size w1 X2)
 (ho:w2.ownsRow wb.heap.size 24 3 x' (L.length+1) (flat L++flat [(t,a,c)])) (hg:X2.grownBy w2 x.ownBlock) (hfr:Fresh X2 x x') :
 Box3 w2 bo (.int .i64 0) (.string n) x∧BldC wb bl Cb bo n (L++[(t,a,c)]) x' C1 (w2.setCell ⟨bo,2,none⟩ x'):=by
 have hbr:bo<wr.heap.size:=h.box.lt
 have hxb:∀ g,x.ownBlock=some g→wb.heap.size≤g∧g<wr.heap.size:=fun g hg=>h.own.block hg
 have hxo:x.ownBlock≠some bo:=fun e=>by have:=(hxb _ e).1;have:=h.lt;omega
 have hcb:¬ C bo:=fun e=>h.sep.1 ((h.col bo h.lt).1 e)
 have hM:∀ b,C b∨b=bl→b≠bo:=fun b e e2=>by
  subst e2
  rcases e with e | e
  ·exact hcb e
  ·exact h.sep.2.2 e.symm
 have hbl:bl<wb.heap.size:=h.sep.2.1
 have hW:Touch (fun b=>C b∨b=bl) wr X2:=hb.trans (Touch.below hX2)
 have hblk:w2.heap[bo]? = wr.heap[bo]?:=(hg.block bo (by have:=hW.size;omega) (fun e=>hxo e.symm)).trans (hW.block bo hbr fun hm=>hM bo hm rfl)
 have hB2:Box3 w2 bo (.int .i64 0) (.string n) x:=h.box.keep hblk
 refine⟨hB2,?_⟩
 have hx'o:x'.ownBlock≠some bo:=fun e=>by
  rcases hfr with e2 | e2
  ·exact hxo (e2 ▸ e)
  ·have:=e2 bo e;have:=hW.size;omega
 have hS:Touch (fun b=>b=bo) w2 (w2.setCell ⟨bo,2,none⟩ x'):=Touch.setCell _ rfl
 have hE:TsEach X2 (Free x (fun b=>wb.heap.size≤b∧¬ C1 b)) [(t,a,c)]:=by
  refine TsEach.one hf ((ht.keep (Keeps.below hX2 _)).mono fun b _ hk=>?_)
  exact⟨⟨by have:=h.touch.size;omega,hk.2⟩,fun e=>by have:=(hxb b e).2;omega⟩
 have hOW:OwnTs X2 wb.heap.size (fun b=>wb.heap.size≤b∧¬ C1 b) x L:=by
  refine⟨ownsRow_block h.own.own fun g hg'=>hW.block g (hxb g hg').2 fun hm=>?_,?_⟩
  ·rcases hm with hm | hm
   ·exact h.xo g hg' hm
   ·have:=(hxb g hg').1;omega
  ·have h1:TsEach wr (fun b=>Free x (fun b=>wb.heap.size≤b∧¬ C b) b∧b<wr.heap.size) L:=h.own.each.mono fun b hb h=>⟨h,hb⟩
   exact(h1.keep (hW.keeps fun b hb hm=>by
    rcases hm with hm | hm
    ·exact hb.1.1.2 hm
    ·have:=hb.1.1.1;omega)).mono fun b _ hb=>⟨⟨hb.1.1.1,fun e=>hb.1.1.2 ((hc1 b (by omega)).1 e)⟩,hb.1.2⟩
 have h2:OwnTs w2 wb.heap.size (fun b=>wb.heap.size≤b∧¬ C1 b) x' (L++[(t,a,c)]):=hOW.append hE (by simpa using ho) hg hfr
 have hT2:Touch (fun b=>(C b∨b=bl)∨x.ownBlock=some b) wr w2:=(hW.mono fun _ _ e=>.inl e).trans (Touch.grown hg fun k e=>.inr e)
 refine⟨?_,⟨?_,?_⟩,?_,?_,h.lt,?_,?_,h.sep⟩
 ·refine⟨?_⟩
  rw[heap_setCell_at _ _ _ _ hB2.blk];rfl
 ·exact ownsRow_block h2.own (fun g hg'=>Below.heap_setCell _ _ _ _ (fun e=>by subst e;exact hx'o hg'))
 ·have key:TsEach w2 (fun b=>Free x' (fun b=>wb.heap.size≤b∧¬ C1 b) b∧b≠bo) (L++[(t,a,c)]):=h2.each.mono fun b _ hk=>⟨hk,fun e=>by
   subst e
   have:=hk.1.1;have:=h.lt;omega⟩
  exact(key.keep (w':=w2.setCell ⟨bo,2,none⟩ x') (hS.keeps fun b hb=>hb.2)).mono fun b _ hk=>hk.1
 ·intro g hg' e
  rcases hfr with e2 | e2
  ·rw[e2] at hg'
   exact h.xo g hg' ((hc1 g (by have:=(hxb g hg').2;omega)).1 e)
  ·have:=e2 g hg';have:=ho1 g e;have:=hX2.size;omega
 ·refine⟨hS.os.trans (hT2.os.trans h.touch.os),hS.tape.trans (hT2.tape.trans h.touch.tape),hS.output.trans (hT2.output.trans h.touch.output),Nat.le_trans h.touch.size (Nat.le_trans hT2.size hS.size),fun b hb' hn=>?_⟩
  refine(hS.block b (Nat.lt_of_lt_of_le hb' (Nat.le_trans h.touch.size hT2.size)) (fun e=>hn (.inl e))).trans ((hT2.block b (Nat.lt_of_lt_of_le hb' h.touch.size) ?_).trans (h.touch.block b hb' hn))
  rintro ((e | e) | e)
  ·exact hn (.inr (.inl ((h.col b hb').1 e)))
  ·exact hn (.inr (.inr e))
  ·have:=(hxb b e).1;omega
 ·intro b hb'
  exact(hc1 b (by have:=h.touch.size;omega)).trans (h.col b hb')
 ·intro b e
  have:=ho1 b e;have:=hX2.size;have:=hg.size
  have:(w2.setCell ⟨bo,2,none⟩ x').heap.size=w2.heap.size:=by simp[World.setCell]
  omega
theorem BldC.done{w wb wr:World}{bl bo br:Nat}{Cb C C0:Nat→Prop}{n:ByteArray}{L:List TmAt}{x:Value}(h:BldC wb bl Cb bo n L x C wr)(hw:Touch (fun b=>C0 b∨b=bl) w wb)(hc:∀ b,b<w.heap.size→(Cb b↔C0 b))(hbo:w.heap.size≤bo)(hbr:w.heap.size≤br)(hlt:br<wb.heap.size) :
 ∃ a cap,x=.slice a (L.map (·.1)).length cap∧Ts (((wr.setCell ⟨br,0,none⟩ (.int .i64 0)).setCell ⟨br,1,none⟩ (.string n)).setCell ⟨br,2,none⟩ x) (fun b=>w.heap.size≤b∧¬ C b) (L.map (·.1)) a cap∧Touch (fun b=>C0 b∨b=bl) w (((wr.setCell ⟨br,0,none⟩ (.int .i64 0)).setCell ⟨br,1,none⟩ (.string n)).setCell ⟨br,2,none⟩ x):=by
 have hb:Touch (fun b=>C0 b∨b=bl) w wr:=by
  refine⟨h.touch.os.trans hw.os,h.touch.tape.trans hw.tape,h.touch.output.trans hw.output,Nat.le_trans hw.size h.touch.size,fun b hb hn=>(h.touch.block b (Nat.lt_of_lt_of_le hb hw.size) ?_).trans (hw.block b hb hn)⟩
  rintro (e | e | e)
  ·omega
  ·exact hn (.inl ((hc b hb).1 e))
  ·exact hn (.inr e)
 have h0:TsEach wr (fun b=>Free x (fun b=>w.heap.size≤b∧¬ C b) b∧b≠br) L:=h.own.each.mono fun b _ hk=>⟨⟨⟨Nat.le_trans hw.size hk.1.1,hk.1.2⟩,hk.2⟩,fun e=>by have:=hk.1.1;omega⟩
 have h1:TsEach (((wr.setCell ⟨br,0,none⟩ (.int .i64 0)).setCell ⟨br,1,none⟩ (.string n)).setCell ⟨br,2,none⟩ x) (fun b=>w.heap.size≤b∧¬ C b) L :=
  (h0.keep ((touch_put wr br _ _ _).keeps fun b hb=>hb.2)).mono fun b _ hk=>hk.1.1
 have ho:(((wr.setCell ⟨br,0,none⟩ (.int .i64 0)).setCell ⟨br,1,none⟩ (.string n)).setCell ⟨br,2,none⟩ x).ownsRow w.heap.size 24 3 x L.length (flat L):=by
  have h2:wr.ownsRow w.heap.size 24 3 x L.length (flat L):=by
   refine⟨h.own.own.1,h.own.own.2.imp id ?_⟩
   rintro ⟨g,cap,cur,a1,a2,a3⟩
   exact⟨g,cap,cur,a1,Nat.le_trans hw.size a2,a3⟩
  exact ownsRow_block h2 fun g hg=>other_put (fun e=>by have:=(h.own.block hg).1;omega) _ _ _
 have hx:=h.xo
 obtain⟨a,cap,he,hts⟩:=ts_of_row' ho (fun b hb=>⟨by have:=(h.own.block hb).1;have:=hw.size;omega,hx b hb⟩) h1
 refine⟨a,cap,he,hts,?_⟩
 have ht:=touch_put wr br (.int .i64 0) (.string n) x
 exact⟨ht.os.trans hb.os,ht.tape.trans hb.tape,ht.output.trans hb.output,Nat.le_trans hb.size ht.size,fun b hb' hn=>(ht.block b (Nat.lt_of_lt_of_le hb' hb.size) (fun e=>by omega)).trans (hb.block b hb' hn)⟩
theorem shL_size{H:List HC}:∀ (m:Nat) (l:List Nat) (x:List Tm×Nat),shL H m l=some x→Tm.sizes x.1+x.2≤m:=by
 intro m
 induction m using Nat.strongRecOn with
 | _ m ih =>
 intro l x h
 cases l with
 | nil=>rw[shL_nil] at h;cases h;simp[Tm.sizes]
 | cons t r =>
  cases m with
  | zero=>rw[shL_zero] at h;cases h
  | succ m =>
   by_cases hv:(hc H (endH H t)).k=1
   ·rw[shL_var hv] at h
    obtain⟨z,hz,rfl⟩:=Option.map_eq_some_iff.1 h
    have e2:=ih m (by omega) _ z hz
    simp only[Tm.sizes,Tm.size];omega
   ·rw[shL_fn hv] at h
    obtain⟨y,hy,h2⟩:=Option.bind_eq_some_iff.1 h
    obtain⟨z,hz,rfl⟩:=Option.map_eq_some_iff.1 h2
    have h3:=(shL_le _ _ _ hy).1
    have e1:=ih m (by omega) _ y hy
    have e2:=ih y.2 (by omega) _ z hz
    simp only[Tm.sizes,Tm.size];omega
theorem addV_len(s:List Int)(v:Int):(addV s v).length≤s.length+1:=by
 unfold addV
 split
 ·omega
 ·simp
theorem ren_len(t:Tm):∀ s,(Tm.ren numV s t).2.length≤s.length+t.size:=by
 induction t using Tm.ind with
 | h v n l ih =>
  have hl:∀ (r:List Tm) (s:List Int),(∀ x,x∈r→x∈l)→(Tm.rens numV s r).2.length≤s.length+Tm.sizes r:=by
   intro r
   induction r with
   | nil=>intro s _;simp[Tm.rens,Tm.sizes]
   | cons x r ihr =>
    intro s hr
    have h1:=ih x (hr x List.mem_cons_self) s
    have h2:=ihr (Tm.ren numV s x).2 fun y hy=>hr y (List.mem_cons_of_mem _ hy)
    simp only[Tm.rens,Tm.sizes]
    omega
  intro s
  simp only[Tm.ren,Tm.size]
  split
  ·have:=addV_len s v;simp only[numV];omega
  ·have:=hl l s fun x hx=>hx;simp only;omega
theorem rens_len(l:List Tm):∀ s,(Tm.rens numV s l).2.length≤s.length+Tm.sizes l:=by
 induction l with
 | nil=>intro s;simp[Tm.rens,Tm.sizes]
 | cons x r ih =>
  intro s
  have h1:=ren_len x s
  have h2:=ih (Tm.ren numV s x).2
  simp only[Tm.rens,Tm.sizes]
  omega
def ShPost(w:World)(nb bl:Nat)(C:Nat→Prop)(s:List Int)(o:Option (List Tm×Nat))(e:Ending)(w':World):Prop :=
 Touch (fun b=>C b∨b=bl) w w'∧∃ (C':Nat→Prop) (mv cv:Value) (s':List Int),(∀ b,b<w.heap.size→(C' b↔C b))∧NmAt w' nb C' s' mv cv ∧
 match o with
 | some x=>∃ (T:Tm) (a:Option Addr) (c:Nat),(Tm.rens numV s x.1).1 = [T]∧e=.returned (.tuple #[.agg #[.int .i64 T.var,.string T.name,.slice a T.args.length c],.bool true])∧T.fits∧Ts w' (fun b=>w.heap.size≤b∧¬ C' b) T.args a c ∧
  s'=(Tm.rens numV s x.1).2∧w'.heap[bl]? = some (.cells #[.int .i64 x.2] 3 (0,0))
 | none=>e=.returned (.tuple #[.agg #[.int .i64 0,.string ⟨#[]⟩,.slice none 0 0],.bool false])∧∃ (k:Int),w'.heap[bl]? = some (.cells #[.int .i64 k] 3 (0,0))
end Go.Proofs.Ytikmgiapjigghaa

/- Walk: Show. -/
namespace Go.Proofs.Ytikmgiapjigghaa
open Go.RowKit
theorem numV_rng(s:List Int)(v:Int):1≤(numV s v).1∧(numV s v).1≤(s.length:Int)+1:=by
 have h1:=addV_mem s v
 have h2:=addV_len s v
 have h3:(addV s v).idxOf v<(addV s v).length:=List.idxOf_lt_length_iff.2 h1
 unfold numV
 simp only
 omega
set_option maxRecDepth 100000 in
set_option maxHeartbeats 4000000 in
theorem ShowW{ok:Nat→Prop}{K:List HC}{a:Option Addr}{cap:Nat}(hK:CellsOk K)(hS:Straight K)(hk4:K.length≤400000){nb bl:Nat}(m:Nat):∀ (s:List Int) (C:Nat→Prop) (mv cv:Value) (t:Nat) (w:World),m+s.length≤1000→t<K.length→HpAt w ok K a cap→NmAt w nb C s mv cv→w.heap[bl]? = some (.cells #[.int .i64 m] 3 (0,0)) →
 (¬ ok bl∧¬ C bl)→(∀ b,ok b→b<w.heap.size∧¬ C b) →
 Calls Try.prog 76 #[.slice a K.length cap,.int .i64 (t:Nat),.pointer (some ⟨bl,0,none⟩),.func (.func 77) #[.pointer (some ⟨nb,0,none⟩)] #[]] w (ShPost w nb bl C s (shL K m [t])):=by
 induction m using Nat.strongRecOn with
 | _ m ih =>
 intro s C mv cv t w hm ht hhp hnm hbl hsep hok
 have IH:=Lib.hid ih;have HK:=Lib.hid hK;have HS:=Lib.hid hS;have HT:=Lib.hid ht;have HP:=Lib.hid hhp;have HN:=Lib.hid hnm;have HBL:=Lib.hid hbl;have HSEP:=Lib.hid hsep;have HOK:=Lib.hid hok
 have hbll:bl<w.heap.size:=(Array.getElem?_eq_some_iff.1 hbl).1
 have k0:w.cell? ⟨bl,0,none⟩=some (.int .i64 m):=by simp[World.cell?,hbl]
 have kf:∀ o,w.frozen? ⟨bl,o,none⟩=false:=fun o=>by simp[World.frozen?,hbl]
 have hblA:(w.alloc (.cells #[.int .i64 0,.string ⟨#[]⟩,.slice none 0 0] 24)).heap[bl]? = some (.cells #[.int .i64 m] 3 (0,0)):=(Below.heap_alloc _ _ _ hbll).trans hbl
 have hA0:(w.alloc (.cells #[.int .i64 0,.string ⟨#[]⟩,.slice none 0 0] 24)).cell? ⟨bl,0,none⟩=some (.int .i64 m):=by simp[World.cell?,hblA]
 have hAf:∀ o,(w.alloc (.cells #[.int .i64 0,.string ⟨#[]⟩,.slice none 0 0] 24)).frozen? ⟨bl,o,none⟩=false:=fun o=>by simp[World.frozen?,hblA]
 have HBA:Hid (Box3 (w.alloc (.cells #[.int .i64 0,.string ⟨#[]⟩,.slice none 0 0] 24)) w.heap.size (.int .i64 0) (.string ⟨#[]⟩) (.slice none 0 0)):=Lib.hid (Box3.made w _ _ _)
 have HAB:Hid (Below w.heap.size w (w.alloc (.cells #[.int .i64 0,.string ⟨#[]⟩,.slice none 0 0] 24))):=Lib.hid ((Below.refl _ _).alloc (Nat.le_refl _) _)
 have HBLA:=Lib.hid hblA
 clear ih hK hS ht hhp hnm hbl hsep hok hblA
 cases m with
 | zero =>
  have HO:Hid (shL K 0 [t]=none):=Lib.hid (shL_zero _ _ _)
  go_enter Try.func76,Try.ntmps76
  go_wp2_with fail
  rw[HO.out]
  have BAB:Below (w.setCell ⟨bl,0,none⟩ (.int .i64 (-1))).heap.size (w.setCell ⟨bl,0,none⟩ (.int .i64 (-1))) ((w.setCell ⟨bl,0,none⟩ (.int .i64 (-1))).alloc (.cells #[.int .i64 0,.string ⟨#[]⟩,.slice none 0 0] 24)):=(Below.refl _ _).alloc (Nat.le_refl _) _
  have TT:Touch (fun b=>b=bl) w ((w.setCell ⟨bl,0,none⟩ (.int .i64 (-1))).alloc (.cells #[.int .i64 0,.string ⟨#[]⟩,.slice none 0 0] 24)):=(Touch.setCell _ rfl:Touch (fun b=>b=bl) w _).trans (Touch.below BAB)
  exact bodyPost_ret (v:=.tuple #[.agg #[.int .i64 0,.string ⟨#[]⟩,.slice none 0 0],.bool false]) (by simp[results,Try.results76,go_sem]) rfl
   ⟨TT.mono fun _ _ e=>.inr e,C,mv,cv,s,fun _ _=>Iff.rfl,HN.out.keep TT.size (fun b hc=>TT.block b (HN.out.old b hc) (fun e=>HSEP.out.2 (e ▸ hc))),rfl,-1,(BAB.block bl (by simpa using hbll)).trans (setCell_one w bl _ HBL.out)⟩
 | succ m =>
  have hm1:(m:Int)≤1000:=by omega
  have hm0:(0:Int)≤(m:Int):=by omega
  have hsub0:(m:Int)+1-1=(m:Int):=by omega
  have T0:Touch (fun b=>b=bl) w (w.setCell ⟨bl,0,none⟩ (.int .i64 m)):=Touch.setCell _ rfl
  have hsd:(w.setCell ⟨bl,0,none⟩ (.int .i64 m)).heap.size=w.heap.size:=by simp[World.setCell]
  have B1:Below (w.setCell ⟨bl,0,none⟩ (.int .i64 m)).heap.size (w.setCell ⟨bl,0,none⟩ (.int .i64 m)) ((w.setCell ⟨bl,0,none⟩ (.int .i64 m)).alloc (.cells #[.int .i64 0,.string ⟨#[]⟩,.slice none 0 0] 24)):=(Below.refl _ _).alloc (Nat.le_refl _) _
  have T1:Touch (fun b=>b=bl) w ((w.setCell ⟨bl,0,none⟩ (.int .i64 m)).alloc (.cells #[.int .i64 0,.string ⟨#[]⟩,.slice none 0 0] 24)):=T0.trans (Touch.below B1)
  have HZ1:Hid (Box3 ((w.setCell ⟨bl,0,none⟩ (.int .i64 m)).alloc (.cells #[.int .i64 0,.string ⟨#[]⟩,.slice none 0 0] 24)) w.heap.size (.int .i64 0) (.string ⟨#[]⟩) (.slice none 0 0)):=Lib.hid (Box3.made2 hsd.symm)
  have HBL1:Hid (((w.setCell ⟨bl,0,none⟩ (.int .i64 m)).alloc (.cells #[.int .i64 0,.string ⟨#[]⟩,.slice none 0 0] 24)).heap[bl]? = some (.cells #[.int .i64 m] 3 (0,0))):=Lib.hid ((B1.block bl (by simpa using hbll)).trans (setCell_one w bl _ HBL.out))
  have HP1:=Lib.hid (HP.out.keep (T1.keeps fun b hb e=>HSEP.out.1 (e ▸ hb)))
  have HN1:=Lib.hid (HN.out.keep T1.size (fun b hc=>T1.block b (HN.out.old b hc) (fun e=>HSEP.out.2 (e ▸ hc))))
  have HT1:=Lib.hid T1
  have HSZ1:Hid (((w.setCell ⟨bl,0,none⟩ (.int .i64 m)).alloc (.cells #[.int .i64 0,.string ⟨#[]⟩,.slice none 0 0] 24)).heap.size=w.heap.size+1):=Lib.hid (by simp[World.setCell])
  obtain⟨me,hme⟩:=end_spec (HS.out t HT.out)
  have HEW:=Lib.hid (EndW HP1.out HK.out hme HT.out)
  have hxl:endH K t<K.length:=hme.lt HK.out HT.out
  obtain⟨x,hx⟩:∃ x,endH K t=x:=⟨_,rfl⟩
  have HX:=Lib.hid hx
  rw[hx] at HEW hxl
  obtain⟨hb,hoff,ea,hokb,hbs,d0,d1,d2,hfx⟩:=HP1.out.at' x hxl
  have HFX:=Lib.hid hfx
  clear hme T0 hsd B1 T1 hfx hx
  by_cases hk:(hc K x).k=1
  ·have HO:Hid (shL K (m+1) [t]=some ([VarT ((x:Int)+1)],m)):=Lib.hid (by
    have:=HX.out
    subst this
    rw[shL_var hk,shL_nil];rfl)
   rw[hk] at d0
   clear hk
   subst ea
   go_enter Try.func76,Try.ntmps76
   go_wp2_with (go_at_call 75;refine HEW.out.mono ?_;rintro e w2 ⟨rfl,rfl⟩)
   have B2:Below ((w.setCell ⟨bl,0,none⟩ (.int .i64 m)).alloc (.cells #[.int .i64 0,.string ⟨#[]⟩,.slice none 0 0] 24)).heap.size ((w.setCell ⟨bl,0,none⟩ (.int .i64 m)).alloc (.cells #[.int .i64 0,.string ⟨#[]⟩,.slice none 0 0] 24)) (((w.setCell ⟨bl,0,none⟩ (.int .i64 m)).alloc (.cells #[.int .i64 0,.string ⟨#[]⟩,.slice none 0 0] 24)).alloc (.cells #[.int .i64 1,.int .i64 (hc K x).n,.string (hc K x).name] 120)):=(Below.refl _ _).alloc (Nat.le_refl _) _
   have HZ2:=Lib.hid (HZ1.out.below B2)
   have HN2:=Lib.hid (HN1.out.below B2)
   have HB2:Hid ((((w.setCell ⟨bl,0,none⟩ (.int .i64 m)).alloc (.cells #[.int .i64 0,.string ⟨#[]⟩,.slice none 0 0] 24)).alloc (.cells #[.int .i64 1,.int .i64 (hc K x).n,.string (hc K x).name] 120)).heap[bl]? = some (.cells #[.int .i64 m] 3 (0,0))):=Lib.hid ((B2.block bl (by have:=HSZ1.out;omega)).trans HBL1.out)
   have HT2:Hid (Touch (fun b=>b=bl) w (((w.setCell ⟨bl,0,none⟩ (.int .i64 m)).alloc (.cells #[.int .i64 0,.string ⟨#[]⟩,.slice none 0 0] 24)).alloc (.cells #[.int .i64 1,.int .i64 (hc K x).n,.string (hc K x).name] 120))):=Lib.hid (HT1.out.trans (Touch.below B2))
   have HS2:Hid ((((w.setCell ⟨bl,0,none⟩ (.int .i64 m)).alloc (.cells #[.int .i64 0,.string ⟨#[]⟩,.slice none 0 0] 24)).alloc (.cells #[.int .i64 1,.int .i64 (hc K x).n,.string (hc K x).name] 120)).heap.size=w.heap.size+2):=Lib.hid (by rw[aSz,HSZ1.out])
   clear B2 d0 d1 d2 k0 kf hA0 hAf HBA HAB HBLA HZ1 HN1 HBL1 HT1 HP1 HSZ1
   have HOF:=Lib.hid (OfW x HN2.out (by omega) (by omega))
   generalize ((w.setCell ⟨bl,0,none⟩ (.int .i64 m)).alloc (.cells #[.int .i64 0,.string ⟨#[]⟩,.slice none 0 0] 24)).alloc (.cells #[.int .i64 1,.int .i64 (hc K x).n,.string (hc K x).name] 120)=W at *
   refine HOF.out.mono ?_
   rintro e w3 ⟨rfl,C',mv',cv',hc',hn',ht'⟩
   have HC':=Lib.hid hc';have HN':=Lib.hid hn';have HT':=Lib.hid ht'
   have hl3:w.heap.size<W.heap.size:=HZ2.out.lt
   have hs3:=ht'.size
   have hrC:¬ C w.heap.size:=fun e=>by have:=HN.out.old _ e;omega
   obtain⟨z0,z1,z2,zf⟩:=(HZ2.out.keep (ht'.block _ hl3 hrC)).all
   have HRC:=Lib.hid hrC
   have hl4:w.heap.size<w3.heap.size:=by omega
   clear hc' hn' ht' hrC
   obtain⟨q,hq⟩:∃ q,(numV s ((x:Int)+1)).1=q:=⟨_,rfl⟩
   have HQ:=Lib.hid hq
   rw[hq]
   clear hq
   go_wp2_with fail
   rw[HO.out]
   have TP:=touch_put w3 w.heap.size (.int .i64 q) (.string ⟨#[]⟩) (.slice none 0 0)
   have hq64:I64 q:=by
    have:=numV_rng s ((x:Int)+1)
    rw[HQ.out] at this
    unfold I64;omega
   have HRE:(Tm.rens numV s [VarT ((x:Int)+1)]).1 = [.mk q ⟨#[]⟩ []]∧(Tm.rens numV s [VarT ((x:Int)+1)]).2=(numV s ((x:Int)+1)).2:=by
    have h0:(x:Int)+1≠0:=by omega
    simp[Tm.rens,Tm.ren,h0,HQ.out]
   have TA:Touch (fun b=>C b∨b=bl) w w3:=⟨HT'.out.os.trans HT2.out.os,HT'.out.tape.trans HT2.out.tape,HT'.out.output.trans HT2.out.output,Nat.le_trans HT2.out.size HT'.out.size,fun b hb hn=>(HT'.out.block b (Nat.lt_of_lt_of_le hb HT2.out.size) (fun e=>hn (.inl e))).trans (HT2.out.block b hb (fun e=>hn (.inr e)))⟩
   have hrC':¬ C' w.heap.size:=fun e=>HRC.out ((HC'.out _ hl3).1 e)
   exact bodyPost_ret (v:=.tuple #[.agg #[.int .i64 q,.string ⟨#[]⟩,.slice none 0 0],.bool true]) (by simp[results,Try.results76,go_sem,z0,z1,z2]) rfl
    ⟨⟨TP.os.trans TA.os,TP.tape.trans TA.tape,TP.output.trans TA.output,Nat.le_trans TA.size TP.size,fun b hb hn=>(TP.block b (Nat.lt_of_lt_of_le hb TA.size) (fun e=>by omega)).trans (TA.block b hb hn)⟩,
     C',mv',cv',_,fun b hb=>HC'.out b (by omega),HN'.out.keep TP.size (fun b hb=>TP.block b (HN'.out.old b hb) (fun e=>hrC' (e ▸ hb))),
     VarT q,none,0,HRE.1,rfl,⟨hq64,Nat.zero_le _⟩,Ts.empty' _ _,HRE.2.symm,(TP.block bl (by omega) (fun e=>by omega)).trans ((HT'.out.block bl (by omega) HSEP.out.2).trans HB2.out)⟩
  ·have HO:Hid (shL K (m+1) [t]=(shL K m (argsH K x)).map fun y=>([.mk 0 (hc K x).name y.1],y.2)):=Lib.hid (by
    have:=HX.out
    subst this
    rw[shL_fn hk]
    cases shL K m (argsH K (endH K t)) with
    | none=>rfl
    | some y=>simp only[Option.bind_some,Option.map_some,shL_nil])
   have hk1:((hc K x).k == 1)=false:=by simpa using hk
   obtain⟨n,hn,hn4,hxn⟩:∃ n:Nat,(hc K x).n=(n:Int)∧n≤4∧x+n<K.length:=by
    rcases cell_right (HK.out x hxl) with ⟨h1,_⟩ | ⟨_,_,h2,h3,h4,_⟩
    ·exact absurd h1 hk
    ·exact⟨(hc K x).n.toNat,by omega,h3,h4⟩
   have HAL:Hid ((argsH K x).length=n):=Lib.hid (by unfold argsH;rw[hn];simp)
   have HAI:Hid (∀ i (h:i<(argsH K x).length),(argsH K x)[i]=x+1+i):=Lib.hid (by intro i h;simp[argsH])
   have hnm9:(hc K x).name.size≤maxLen:=HFX.out.2.2
   generalize hc K x=cc at *
   obtain⟨ck,cn,nm⟩:=cc
   simp only at hn hk1 hk d0 d1 d2 HO hnm9
   subst hn
   have B2:Below ((w.setCell ⟨bl,0,none⟩ (.int .i64 m)).alloc (.cells #[.int .i64 0,.string ⟨#[]⟩,.slice none 0 0] 24)).heap.size ((w.setCell ⟨bl,0,none⟩ (.int .i64 m)).alloc (.cells #[.int .i64 0,.string ⟨#[]⟩,.slice none 0 0] 24)) ((((w.setCell ⟨bl,0,none⟩ (.int .i64 m)).alloc (.cells #[.int .i64 0,.string ⟨#[]⟩,.slice none 0 0] 24)).alloc (.cells #[.int .i64 ck,.int .i64 (n:Int),.string nm] 120)).alloc (.cells #[.int .i64 0,.string nm,.slice none 0 0] 24)):=((Below.refl _ _).alloc (Nat.le_refl _) _).alloc (by simp only[aSz];omega) _
   have hZ2:=HZ1.out.below B2
   have hN2:=HN1.out.below B2
   have hB2:((((w.setCell ⟨bl,0,none⟩ (.int .i64 m)).alloc (.cells #[.int .i64 0,.string ⟨#[]⟩,.slice none 0 0] 24)).alloc (.cells #[.int .i64 ck,.int .i64 (n:Int),.string nm] 120)).alloc (.cells #[.int .i64 0,.string nm,.slice none 0 0] 24)).heap[bl]? = some (.cells #[.int .i64 m] 3 (0,0)):=(B2.block bl (by have:=HSZ1.out;omega)).trans HBL1.out
   have hT2:Touch (fun b=>b=bl) w ((((w.setCell ⟨bl,0,none⟩ (.int .i64 m)).alloc (.cells #[.int .i64 0,.string ⟨#[]⟩,.slice none 0 0] 24)).alloc (.cells #[.int .i64 ck,.int .i64 (n:Int),.string nm] 120)).alloc (.cells #[.int .i64 0,.string nm,.slice none 0 0] 24)):=HT1.out.trans (Touch.below B2)
   have hS2:((((w.setCell ⟨bl,0,none⟩ (.int .i64 m)).alloc (.cells #[.int .i64 0,.string ⟨#[]⟩,.slice none 0 0] 24)).alloc (.cells #[.int .i64 ck,.int .i64 (n:Int),.string nm] 120)).alloc (.cells #[.int .i64 0,.string nm,.slice none 0 0] 24)).heap.size=w.heap.size+3:=by rw[aSz,aSz,HSZ1.out]
   have hO2:Box3 ((((w.setCell ⟨bl,0,none⟩ (.int .i64 m)).alloc (.cells #[.int .i64 0,.string ⟨#[]⟩,.slice none 0 0] 24)).alloc (.cells #[.int .i64 ck,.int .i64 (n:Int),.string nm] 120)).alloc (.cells #[.int .i64 0,.string nm,.slice none 0 0] 24)) (w.heap.size+2) (.int .i64 0) (.string nm) (.slice none 0 0):=Box3.made2 (by rw[aSz,HSZ1.out])
   have hP2:=HP1.out.below B2
   have HZ2:=Lib.hid hZ2;have HN2:=Lib.hid hN2;have HB2:=Lib.hid hB2;have HT2:=Lib.hid hT2;have HS2:=Lib.hid hS2;have HO2:=Lib.hid hO2;have HP2:=Lib.hid hP2
   clear B2 hZ2 hN2 hB2 hT2 hS2 hO2 hP2 HZ1 HN1 HBL1 HT1 HBA HAB HBLA hA0 hAf
   subst ea
   go_enter Try.func76,Try.ntmps76
   go_wp2_with (go_at_call 75;refine HEW.out.mono ?_;rintro e w2 ⟨rfl,rfl⟩)
   clear d0 d1 d2 HP1 HSZ1
   generalize (((w.setCell ⟨bl,0,none⟩ (.int .i64 m)).alloc (.cells #[.int .i64 0,.string ⟨#[]⟩,.slice none 0 0] 24)).alloc (.cells #[.int .i64 ck,.int .i64 (n:Int),.string nm] 120)).alloc (.cells #[.int .i64 0,.string nm,.slice none 0 0] 24)=wb at *
   have HCB:Hid (∀ b,C b→b<w.heap.size):=Lib.hid HN.out.old
   have HNI:Hid (I64 ((n:Int))):=Lib.hid (by unfold I64;omega)
   go_loopw[44] (fun y44 wr=>∃ (i:Nat) (L:List TmAt) (y:Value) (r:Nat) (s':List Int) (Ls:List Tm) (C':Nat→Prop) (mv' cv':Value),i≤n∧y44=.int .i64 i∧r≤m∧Hid (shL K m ((argsH K x).take i)=some (Ls,r))∧Hid (L.map (·.1)=(Tm.rens numV s Ls).1∧s'=(Tm.rens numV s Ls).2)∧BldC wb bl C (w.heap.size+2) nm L y C' wr∧NmAt wr nb C' s' mv' cv'∧wr.heap[bl]? = some (.cells #[.int .i64 r] 3 (0,0))) (fun y44 _=>n-(intOf y44).toNat)
   case atStart=>exact⟨0,[],.slice none 0 0,m,s,[],C,mv,cv,Nat.zero_le _,rfl,Nat.le_refl _,Lib.hid (shL_nil _ _),Lib.hid ⟨rfl,rfl⟩,BldC.start HO2.out HN2.out.old ⟨fun e=>by have:=HCB.out _ e;omega,by have:=HS2.out;omega,by omega⟩,HN2.out,HB2.out⟩
   case round =>
    obtain⟨i,L,y,r,s',Ls,C',mv',cv',hi,rfl,hr,HTH,HLL,hrel,hnr,hblr⟩:=hrel
    have HR:=Lib.hid hrel;have HNR:=Lib.hid hnr;have HBR:=Lib.hid hblr
    obtain⟨xa,xc,rfl⟩:=hrel.form
    have HMX:Hid (∀ b,C b∨b=bl→b<w.heap.size):=Lib.hid fun b e=>e.elim (HCB.out b) (fun e=>by omega)
    have HZR:=Lib.hid (HZ2.out.keep (hrel.touch.block _ HZ2.out.lt (fun e=>e.elim (fun e=>by omega) (fun e=>by have:=HMX.out _ e;omega))))
    obtain⟨z60,z61,z62,z63⟩:=HZR.out.all
    have HPR:=Lib.hid (HP2.out.keep (hrel.touch.keeps fun b hb e=>e.elim (fun e=>by have:=(HOK.out b hb).1;omega) (fun e=>e.elim (HOK.out b hb).2 (fun e=>HSEP.out.1 (e ▸ hb)))))
    have hwr:w.heap.size+2<wr.heap.size:=hrel.box.lt
    have hsb:wb.heap.size≤wr.heap.size:=hrel.touch.size
    have HLl:Hid (L.length=i∧i+r≤m∧s'.length+r≤s.length+m):=Lib.hid (by
     have h1:=shL_le _ _ _ HTH.out
     have h2:=shL_size _ _ _ HTH.out
     have h3:=congrArg List.length HLL.out.1
     have h4:=rens_len Ls s
     rw[← HLL.out.2] at h4
     rw[List.length_map,Tm.rens_length] at h3
     rw[List.length_take] at h1
     have:=HAL.out
     simp only at h1 h2;omega)
    have HCR:Hid (∀ b,b<wb.heap.size→(C' b↔C b)):=Lib.hid hrel.col
    clear hrel hnr hblr
    by_cases hlt:i<n
    ·have hxi:x+1+i<K.length:=by omega
     have HCL:=Lib.hid (IH.out r (by omega) s' C' mv' cv' (x+1+i) wr (by have:=HLl.out;omega) hxi HPR.out HNR.out HBR.out ⟨HSEP.out.1,fun e=>HSEP.out.2 ((HCR.out bl (by have:=HS2.out;omega)).1 e)⟩ (fun b hb=>⟨by have:=(HOK.out b hb).1;have:=HS2.out;omega,fun e=>(HOK.out b hb).2 ((HCR.out b (by have:=(HOK.out b hb).1;have:=HS2.out;omega)).1 e)⟩))
     have HSP:Hid (shL K m ((argsH K x).take (i+1))=(shL K r [x+1+i]).map fun z=>(Ls++z.1,z.2)):=Lib.hid (by
      have hh:i<(argsH K x).length:=by rw[HAL.out];exact hlt
      rw[List.take_succ_eq_append_getElem hh,HAI.out i hh,shL_append,HTH.out];rfl)
     have HSQ:Hid (shL K r [x+1+i]=none→shL K m (argsH K x)=none):=Lib.hid (fun hn=>by
      rw[← List.take_append_drop (i+1) (argsH K x),shL_append,HSP.out,hn];rfl)
     have HLE:=Lib.hid (fun z=>shL_le (H:=K) r [x+1+i] z)
     have e9:((x+1+i:Nat):Int)=(x:Int)+1+(i:Int):=by omega
     rw[e9] at HCL
     clear e9
     generalize shL K r [x+1+i]=o at *
     cases o with
     | none =>
      have HQ:=Lib.hid (HSQ.out rfl)
      clear HSQ HSP
      go_wp2_with (go_at_call 76;refine HCL.out.mono ?_;rintro e w3 ⟨ht3,C3,mv3,cv3,s3,hc3,hn3,rfl,k3,hb3⟩;have hl3:w.heap.size+2<w3.heap.size:=(by have:=ht3.size;omega);have hl30:w.heap.size<w3.heap.size:=(by omega);have hnm3:∀ b,b<wb.heap.size→¬ C b→b≠bl→¬ (C' b∨b=bl):=(fun b h1 h2 h3 e=>e.elim (fun e=>h2 ((HCR.out b h1).1 e)) h3);have hzr:Box3 w3 w.heap.size (.int .i64 0) (.string ⟨#[]⟩) (.slice none 0 0):=HZR.out.keep (ht3.block _ (by omega) (hnm3 _ (by have:=HS2.out;omega) (fun e=>by have:=HCB.out _ e;omega) (by omega)));obtain⟨y0,y1,y2,yf⟩:=hzr.all;have HT3:=Lib.hid ht3;have HN3:=Lib.hid hn3;have HC3:=Lib.hid hc3;have HB3:=Lib.hid hb3;clear ht3 hn3 hb3 hc3 hzr hnm3)
      rw[HO.out,HQ.out]
      have TA:Touch (fun b=>(w.heap.size+2=b∨C' b∧w.heap.size≤b)∨(C b∨b=bl)) w w3:=((HT2.out.mono fun _ _ e=>.inr (.inr e)).trans (HR.out.touch.mono fun _ _ e=>e.elim (fun e=>.inl (.inl e.symm)) .inr)).trans (HT3.out.mono fun b _ e=>e.elim (fun e=>by
       by_cases h:b<w.heap.size
       ·exact .inr (.inl ((HCR.out b (by have:=HS2.out;omega)).1 e))
       ·exact .inl (.inr ⟨e,by omega⟩)) (fun e=>.inr (.inr e)))
      have TP:=touch_put w3 w.heap.size (.int .i64 0) (.string ⟨#[]⟩) (.slice none 0 0)
      have BF:Below (((w3.setCell ⟨w.heap.size,0,none⟩ (.int .i64 0)).setCell ⟨w.heap.size,1,none⟩ (.string ⟨#[]⟩)).setCell ⟨w.heap.size,2,none⟩ (.slice none 0 0)).heap.size (((w3.setCell ⟨w.heap.size,0,none⟩ (.int .i64 0)).setCell ⟨w.heap.size,1,none⟩ (.string ⟨#[]⟩)).setCell ⟨w.heap.size,2,none⟩ (.slice none 0 0)) ((((w3.setCell ⟨w.heap.size,0,none⟩ (.int .i64 0)).setCell ⟨w.heap.size,1,none⟩ (.string ⟨#[]⟩)).setCell ⟨w.heap.size,2,none⟩ (.slice none 0 0)).alloc (.cells #[.int .i64 0,.string ⟨#[]⟩,.slice none 0 0] 24)):=(Below.refl _ _).alloc (Nat.le_refl _) _
      have hps:=TP.size
      have hws:=HT2.out.size
      have hw3:wr.heap.size≤w3.heap.size:=HT3.out.size
      have hcr3:∀ b,C3 b→b≠w.heap.size:=fun b e e2=>by
       subst e2
       have h1:=(HC3.out _ (by omega)).1 e
       have h2:=(HCR.out _ (by have:=HS2.out;omega)).1 h1
       have:=HCB.out _ h2;omega
      exact bodyPost_ret (v:=.tuple #[.agg #[.int .i64 0,.string ⟨#[]⟩,.slice none 0 0],.bool false]) (by simp[results,Try.results76,go_sem,y0,y1,y2,hl30]) rfl
       ⟨⟨BF.os.trans (TP.os.trans TA.os),BF.tape.trans (TP.tape.trans TA.tape),BF.output.trans (TP.output.trans TA.output),Nat.le_trans TA.size (Nat.le_trans TP.size BF.size),fun b hb hn=>(BF.block b (by omega)).trans ((TP.block b (by omega) (fun e=>by omega)).trans (TA.block b hb (fun e=>e.elim (fun e=>by omega) hn)))⟩,
        C3,mv3,cv3,s3,fun b hb=>(HC3.out b (by omega)).trans (HCR.out b (by omega)),HN3.out.keep (Nat.le_trans TP.size BF.size) (fun b hb=>(BF.block b (by have:=HN3.out.old b hb;omega)).trans (TP.block b (HN3.out.old b hb) (hcr3 b hb))),
        rfl,k3,(BF.block bl (by omega)).trans ((TP.block bl (by omega) (fun e=>by omega)).trans HB3.out)⟩
     | some z =>
      obtain⟨u1,u2⟩:=z
      have hzr:u2≤r:=by have:=(HLE.out _ rfl).1;simp only[List.length_singleton] at this;omega
      have HNT:Hid (shL K m ((argsH K x).take (i+1))=some (Ls++u1,u2)):=Lib.hid HSP.out
      clear HSQ HSP HLE
      obtain⟨i0,hi0,hz0',hz1',hz2'⟩:=info_parts Try.infoTm
      go_wp2_with (first
       | (go_at_call 76;refine HCL.out.mono ?_;rintro e w3 ⟨ht3,C3,mv3,cv3,s3,hc3,hn3,T,a3,c3,hTT,rfl,hf3,hts3,hs3,hb3⟩;have hl3:w.heap.size+2<w3.heap.size:=(by have:=ht3.size;omega);have hl30:w.heap.size<w3.heap.size:=(by omega);have hnm3:∀ b,b<wb.heap.size→¬ C b→b≠bl→¬ (C' b∨b=bl):=(fun b h1 h2 h3 e=>e.elim (fun e=>h2 ((HCR.out b h1).1 e)) h3);have hzr3:Box3 w3 w.heap.size (.int .i64 0) (.string ⟨#[]⟩) (.slice none 0 0):=HZR.out.keep (ht3.block _ (by omega) (hnm3 _ (by have:=HS2.out;omega) (fun e=>by have:=HCB.out _ e;omega) (by omega)));obtain⟨y0,y1,y2,yf⟩:=hzr3.all;have HBO:=HR.out.box.keep (ht3.block _ HR.out.box.lt (hnm3 _ (by have:=HS2.out;omega) (fun e=>by have:=HCB.out _ e;omega) (by omega)));have k2:=HBO.c2;have kf:=HBO.fz;have HO1:=Lib.hid (((ownsRow_block HR.out.own.own (fun gg hg=>ht3.block gg (HR.out.own.block hg).2 (fun e=>e.elim (fun e=>HR.out.xo gg hg e) (fun e=>by have:=(HR.out.own.block hg).1;have:=HS2.out;omega)))).alloc (.cells #[.int .i64 T.var,.string T.name,.slice a3 T.args.length c3] 24)).alloc (.cells #[.int .i64 T.var,.string T.name,.slice a3 T.args.length c3] 24));have HT3:=Lib.hid ht3;have HF3:=Lib.hid hf3;have HTS3:=Lib.hid hts3;have HN3:=Lib.hid hn3;have HC3:=Lib.hid hc3;have HB3:=Lib.hid hb3;have HTT:=Lib.hid hTT;have HS3:=Lib.hid hs3;clear ht3 hf3 hts3 hn3 hb3 hTT hc3 hs3 HBO hzr3 hnm3)
       | (at_builtin;have _g:=HO1;refine wpList_append_opt _ rfl _ _ 22 rfl wb.heap.size 24 i0 _ 3 48 Try.underlying22 hi0 hz0' hz1' hz2' rfl (by decide) _ _ _ rfl HO1.out (some ⟨w3.heap.size+1,0,none⟩) 1 1 ?d0 (flat [(T,a3,c3)]) rfl (by rw[flat_length];rfl) ?d1 (flat_one _) ?d2 ?d3 ?d4 ?_))
      ·intro h;cases h
      ·exact news3 _ T a3 c3 (by simp)
      ·have:=HLl.out;unfold maxLen;omega
      ·have:=HLl.out;omega
      ·have:=HR.out.touch.size;have:=HT3.out.size;simp only[aSz];omega
      ·intro v4 w4 hown4 hgrow4 hfr4
       have BX4:Below w3.heap.size w3 ((w3.alloc (.cells #[.int .i64 T.var,.string T.name,.slice a3 T.args.length c3] 24)).alloc (.cells #[.int .i64 T.var,.string T.name,.slice a3 T.args.length c3] 24)):=((Below.refl _ _).alloc (Nat.le_refl _) _).alloc (by simp only[aSz];omega) _
       have HNX:=Lib.hid (HR.out.next (Nat.le_refl _) HT3.out HC3.out HN3.out.old HF3.out HTS3.out BX4 hown4 hgrow4 hfr4)
       have HG4:=Lib.hid hgrow4
       have HXO:=Lib.hid (fun gg hg e=>HR.out.xo gg hg e)
       have HOB:=Lib.hid (fun gg hg=>HR.out.own.block (g:=gg) hg)
       obtain⟨g4,cap4,rfl⟩:=own_shape hown4 (by omega)
       have s2:=HNX.out.1.c2
       have sf:=HNX.out.1.fz
       have HB4:=Lib.hid BX4
       clear hown4 hgrow4 hfr4 k2 kf y0 y1 y2 yf BX4
       go_wp2_with fail
       go_roundw
       case measure=>simp[intOf];omega
       case rel =>
        have hkk:∀ b,b<w3.heap.size→b≠w.heap.size+2→(Value.slice xa L.length xc).ownBlock≠some b→(w4.setCell ⟨w.heap.size+2,2,none⟩ (.slice (some ⟨g4,0,none⟩) (L.length+1) cap4)).heap[b]? = w3.heap[b]?:=fun b h1 h2 h3=>by
         rw[Below.heap_setCell _ _ _ _ h2,HG4.out.block b (by have:=HB4.out.size;omega) (fun e2=>h3 e2.symm),HB4.out.block b h1]
        have hn9:∀ b,C3 b→(w4.setCell ⟨w.heap.size+2,2,none⟩ (.slice (some ⟨g4,0,none⟩) (L.length+1) cap4)).heap[b]? = w3.heap[b]?:=fun b e=>hkk b (HN3.out.old b e) (fun e2=>by
         subst e2
         have h1:=(HC3.out _ (by omega)).1 e
         have h2:=(HCR.out _ (by have:=HS2.out;omega)).1 h1
         have:=HCB.out _ h2;omega) (fun e2=>HXO.out b e2 ((HC3.out b (by have:=(HOB.out b e2).2;omega)).1 e))
        exact⟨i+1,L++[(T,a3,c3)],_,u2,s3,Ls++u1,C3,mv3,cv3,by omega,by go_num,by omega,HNT.out,Lib.hid ⟨by rw[List.map_append,Tm.rens_append,HLL.out.1,← HLL.out.2,HTT.out];rfl,by rw[HS3.out,Tm.rens_append,← HLL.out.2]⟩,HNX.out.2,
         HN3.out.keep (by have:=HB4.out.size;have:=HG4.out.size;simp[World.setCell];omega) hn9,(hkk bl (by omega) (by omega) (fun e2=>by have:=(HOB.out bl e2).1;have:=HS2.out;omega)).trans HB3.out⟩
    ·have HTA:Hid (shL K m (argsH K x)=some (Ls,r)):=Lib.hid (by
      have:=HTH.out
      rwa [List.take_of_length_le (by have:=HAL.out;omega)] at this)
     have HD:=Lib.hid (HR.out.done (w:=w) (br:=w.heap.size) (C0:=C) (HT2.out.mono fun _ _ e=>.inr e) (fun _ _=>Iff.rfl) (by omega) (by omega) (by have:=HS2.out;omega))
     obtain⟨q0,q1,q2,qf⟩:=HR.out.box.all
     go_wp2_with fail
     rw[HO.out,HTA.out]
     obtain⟨a9,c9,he,ht9,hb9⟩:=HD.out
     injection he with he1 he2 he3
     subst he1;subst he3
     have TP:=touch_put wr w.heap.size (.int .i64 0) (.string nm) (.slice xa L.length xc)
     have hRE:Tm.rens numV s [.mk 0 nm Ls]=([.mk 0 nm (L.map (·.1))],s'):=by
      simp[Tm.rens,Tm.ren,HLL.out.1,HLL.out.2]
     have hcr3:∀ b,C' b→b≠w.heap.size:=fun b e e2=>by
      subst e2
      have h2:=(HCR.out _ (by have:=HS2.out;omega)).1 e
      have:=HCB.out _ h2;omega
     exact bodyPost_ret (v:=.tuple #[.agg #[.int .i64 0,.string nm,.slice xa L.length xc],.bool true]) (by simp[results,Try.results76,go_sem,z60,z61,z62]) rfl
      ⟨hb9,C',mv',cv',s',fun b hb=>HCR.out b (by have:=HS2.out;omega),HNR.out.keep TP.size (fun b hb=>TP.block b (HNR.out.old b hb) (hcr3 b hb)),
       .mk 0 nm (List.map (fun y:TmAt=>y.1) L),xa,xc,by simp only;rw[hRE],by simp[Tm.var,Tm.name,Tm.args],⟨(by show -9223372036854775808≤(0:Int)∧(0:Int)≤9223372036854775807;omega),hnm9⟩,ht9,
       by simp only;rw[hRE],(TP.block bl (by omega) (fun e=>by omega)).trans HBR.out⟩
end Go.Proofs.Ytikmgiapjigghaa

/- Walk: Read. -/
namespace Go.Proofs.Ytikmgiapjigghaa
open Go.RowKit
theorem NmAt.made(w:World):NmAt (w.alloc (.cells #[.map none,.slice none 0 0] 117)) w.heap.size (fun b=>b=w.heap.size) [] (.map none) (.slice none 0 0) :=
 ⟨heap_alloc_new w _,.inl ⟨rfl,rfl⟩,World.ownsRow_nil _ _ _ _,⟨rfl,fun _ hg=>nomatch hg⟩,fun b hb=>by subst hb;simp⟩
end Go.Proofs.Ytikmgiapjigghaa

/- Walk: Put. -/
namespace Go.Proofs.Ytikmgiapjigghaa
open Go.RowKit
theorem putT_some{H:List HC}{V:CV}{v:Int}{n:ByteArray}{l:List Tm}{c:Nat}(hv:v≠0)(h:V v=some c):putT H V (.mk v n l)=((H,V),c):=by
 unfold putT;rw[if_pos hv,h]
theorem putT_none{H:List HC}{V:CV}{v:Int}{n:ByteArray}{l:List Tm}(hv:v≠0)(h:V v=none):putT H V (.mk v n l)=((H++[⟨1,(H.length:Int),⟨#[]⟩⟩],updV V v H.length),H.length):=by
 unfold putT;rw[if_pos hv,h]
theorem putT_fn{H:List HC}{V:CV}{n:ByteArray}{l:List Tm}:putT H V (.mk 0 n l)=(putAs (H++[⟨2,(l.length:Int),n⟩]++List.replicate l.length (⟨1,0,⟨#[]⟩⟩:HC)) V (H.length+1) l,H.length):=by
 unfold putT;rw[if_neg (fun h=>h rfl)]
set_option maxRecDepth 100000 in
set_option maxHeartbeats 4000000 in
theorem PutW(t:Tm):∀ (w:World) (ok:Nat→Prop) (a:Option Addr) (cap base bm n:Nat) (v:Value) (H:List HC) (V:CV),t.fits→Ts w ok t.args a cap→(∀ b,ok b→b<w.heap.size∧v.ownBlock≠some b∧b≠bm)→HOwn w base v H→VAt w bm n V→n≤H.length→v.ownBlock≠some bm→base≤w.heap.size→H.length+2*t.size≤1000000→VB V 1000000 →
 Calls Try.prog 81 #[v,.agg #[.int .i64 t.var,.string t.name,.slice a t.args.length cap],.map (some bm)] w (PutPost w base v bm (putT H V t)):=by
 induction t using Tm.ind with
 | h tv tn l ih =>
 intro w ok a cap base bm n v H V hfit hts hok hH hV hnn hvb hbase hlen hvbd
 have HVBD:=Lib.hid hvbd
 clear hvbd
 have IH:=Lib.hid ih;have HF:=Lib.hid hfit;have HT:=Lib.hid hts;have HOK:=Lib.hid hok;have HH:=Lib.hid hH;have HV:=Lib.hid hV
 obtain⟨va,vc,hve⟩:=hH.form
 subst hve
 simp only[Tm.var,Tm.name,Tm.args] at hts ⊢
 have HT':Hid (Ts w ok l a cap):=Lib.hid hts
 have HVB:=Lib.hid hvb
 clear ih hfit hts hok hH hV hvb HT
 have hsz:=(Tm.mk tv tn l).size_pos
 have BA:Below w.heap.size w (w.alloc (.cells #[.int .i64 tv,.string tn,.slice a l.length cap] 24)):=(Below.refl _ _).alloc (Nat.le_refl _) _
 have HBA:=Lib.hid BA
 have HVA:=Lib.hid (HV.out.keep (BA.block bm HV.out.lt))
 have HHA:=Lib.hid (HH.out.below BA)
 have HI:Hid (I64 tv):=Lib.hid HF.out.1
 obtain⟨i0,hi0,hz0,hz1,hz2⟩:=info_parts Try.infoCell
 clear BA
 by_cases hv:tv≠0
 ·have hv':(tv != 0)=true:=by rw[bne_iff_ne];exact hv
  cases hs:V tv with
  | some c =>
   have HO:=Lib.hid (putT_some (n:=tn) (l:=l) (H:=H) hv hs)
   have hlk:=(HVA.out.look HI.out).2 c hs
   clear hv hs
   go_enter Try.func81,Try.ntmps81
   go_wp2_with fail
   rw[HO.out]
   exact bodyPost_ret (v:=.tuple #[.slice va H.length vc,.int .i64 (c:Nat)]) (by simp[results,Try.results81,go_sem]) rfl ⟨_,n,rfl,HHA.out,HVA.out,hnn,.inl rfl,Touch.below HBA.out⟩
  | none =>
   have HO:=Lib.hid (putT_none (n:=tn) (l:=l) (H:=H) hv hs)
   have hlk:=(HVA.out.look HI.out).1 hs
   obtain⟨W1,hup,hv1,hg1⟩:=HVA.out.store HI.out hs (by omega) H.length
   have HV1:=Lib.hid hv1
   have HTT:Hid (Touch (PutM (.slice va H.length vc) bm) w W1):=Lib.hid ((Touch.below HBA.out).trans (Touch.grown hg1 fun k e=>by cases e;exact .inr rfl))
   have HH1:Hid (HOwn W1 base (.slice va H.length vc) H):=Lib.hid (HHA.out.keep fun g hg=>hg1.block g (HHA.out.row.lt g hg).2 (fun e=>by cases e;exact HVB.out hg))
   have hsz1:=hg1.size
   have HO1:=Lib.hid (HH1.out.row.alloc (.cells #[.int .i64 1,.int .i64 H.length,.string ⟨#[]⟩] 120))
   have hHl:H.length≤1000000:=by omega
   clear hv hs hv1 hg1
   go_enter Try.func81,Try.ntmps81
   go_wp2_with (first
    | (at_builtin;have _g:=HO1;refine wpList_append_opt _ rfl _ _ 42 rfl base 120 i0 _ 3 32 Try.underlying42 hi0 hz0 hz1 hz2 rfl (by decide) _ _ _ rfl HO1.out (some ⟨W1.heap.size,0,none⟩) 1 1 ?d0 [.int .i64 1,.int .i64 (H.length:Nat),.string ⟨#[]⟩] rfl rfl ?d1 ?d2 ?d3 ?d4 ?d5 ?_))
   case d0=>intro h;cases h
   case d1=>exact newsC W1 ⟨1,(H.length:Int),⟨#[]⟩⟩ rfl
   case d2=>exact oneC ⟨1,(H.length:Int),⟨#[]⟩⟩
   case d3=>unfold maxLen;omega
   case d4=>omega
   case d5=>simp only[aSz] at hsz1 ⊢;omega
   ·intro v4 w4 hown4 hgrow4 hfr4
    have hp:=HH1.out.push (c:=⟨1,(H.length:Int),⟨#[]⟩⟩) ⟨(by show I64 1;unfold I64;omega),(by show I64 (H.length:Int);unfold I64;omega),Nat.zero_le _⟩ ((Below.refl _ _).alloc (Nat.le_refl _) (.cells #[.int .i64 1,.int .i64 H.length,.string ⟨#[]⟩] 120)) hown4 hgrow4 hfr4 bm
    have HPP:=Lib.hid hp
    have HV4:Hid (VAt w4 bm (n+1) (updV V tv H.length)):=Lib.hid (HV1.out.keep ((hgrow4.block bm (by simp only[aSz];have:=HV1.out.lt;omega) (fun e=>HVB.out e.symm)).trans (Below.heap_alloc _ _ _ HV1.out.lt)))
    obtain⟨g4,cap4,rfl⟩:=own_shape hown4 (by omega)
    clear hp hown4 hgrow4 hfr4
    go_wp2_with fail
    rw[HO.out]
    exact bodyPost_ret (v:=.tuple #[.slice (some ⟨g4,0,none⟩) (H.length+1) cap4,.int .i64 (H.length:Nat)]) (by simp[results,Try.results81,go_sem]) rfl
     ⟨_,n+1,rfl,HPP.out.1,HV4.out,by simp only[List.length_append,List.length_cons,List.length_nil];omega,by
      rcases HPP.out.2.1 with e | e
      ·exact .inl e
      ·exact .inr fun g hg=>by have:=e g hg;have:=HTT.out.size;omega,HTT.out.trans HPP.out.2.2⟩
 ·have hv0:tv=0:=Decidable.of_not_not hv
  subst hv0
  have HO:=Lib.hid (putT_fn (H:=H) (V:=V) (n:=tn) (l:=l))
  have hll:l.length≤1000000:=by
   have:=Tm.length_le_sizes l
   simp only[Tm.size] at hlen;omega
  have hlen0:H.length+2*(1+Tm.sizes l)≤1000000:=by simpa only[Tm.size] using hlen
  have HLEN:=Lib.hid hlen0
  have hHl:H.length≤1000000:=by omega
  have HNF:Hid (tn.size≤maxLen):=Lib.hid HF.out.2
  have hA4:Box3 (w.alloc (.cells #[.int .i64 0,.string tn,.slice a l.length cap] 24)) w.heap.size (.int .i64 0) (.string tn) (.slice a l.length cap):=Box3.made w _ _ _
  have hTW:Ts (w.alloc (.cells #[.int .i64 0,.string tn,.slice a l.length cap] 24)) ok l a cap:=HT'.out.keep (Keeps.below HBA.out ok)
  have hsz0:(w.alloc (.cells #[.int .i64 0,.string tn,.slice a l.length cap] 24)).heap.size=w.heap.size+1:=aSz _ _
  have HA4:=Lib.hid hA4;have HTW:=Lib.hid hTW;have HSZ0:=Lib.hid hsz0
  have HVL:Hid (∀ g,(Value.slice va H.length vc).ownBlock=some g→g<w.heap.size):=Lib.hid fun g hg=>(HH.out.row.lt g hg).2
  have HBM:Hid (bm<w.heap.size):=Lib.hid HV.out.lt
  clear hv hA4 hTW hsz0 hlen hlen0 hsz
  have x0:=HA4.out.c0;have x1:=HA4.out.c1;have x2:=HA4.out.c2
  have HO1:=Lib.hid (HHA.out.row.alloc (.cells #[.int .i64 2,.int .i64 l.length,.string tn] 120))
  go_enter Try.func81,Try.ntmps81
  have hbs0:base≤w.heap.size+1:=by omega
  go_wp2_with (first
   | (at_builtin;have _g:=HO1;refine wpList_append_opt _ rfl _ _ 42 rfl base 120 i0 _ 3 32 Try.underlying42 hi0 hz0 hz1 hz2 rfl (by decide) _ _ _ rfl HO1.out (some ⟨w.heap.size+1,0,none⟩) 1 1 ?e0 [.int .i64 2,.int .i64 (l.length:Nat),.string tn] rfl rfl ?e1 ?e2 ?e3 ?e4 ?e5 ?_))
  case e0=>intro h;cases h
  case e1=>exact newsC (w.alloc (.cells #[.int .i64 0,.string tn,.slice a l.length cap] 24)) ⟨2,(l.length:Int),tn⟩ (by simp only[aSz])
  case e2=>exact oneC ⟨2,(l.length:Int),tn⟩
  case e3=>unfold maxLen;omega
  case e4=>omega
  case e5=>simp only[aSz];omega
  ·intro v4 w4 hown4 hgrow4 hfr4
   have hp:=HHA.out.push (c:=⟨2,(l.length:Int),tn⟩) ⟨(by show I64 2;unfold I64;omega),(by show I64 (l.length:Int);unfold I64;omega),HNF.out⟩ ((Below.refl _ _).alloc (Nat.le_refl _) (.cells #[.int .i64 2,.int .i64 l.length,.string tn] 120)) hown4 hgrow4 hfr4 bm
   have HP:=Lib.hid hp.1;have HFR:=Lib.hid hp.2.1;have HTT:=Lib.hid hp.2.2
   have hv4:VAt w4 bm n V:=HVA.out.keep ((hgrow4.block bm (by simp only[aSz];have:=HBM.out;omega) (fun e=>HVB.out e.symm)).trans (Below.heap_alloc _ _ _ HVA.out.lt))
   have HV4:=Lib.hid hv4
   obtain⟨g4,cap4,rfl⟩:=own_shape hown4 (by omega)
   clear hp hown4 hgrow4 hfr4 HO1 x0 x1 x2 hv4
   have hq:Box3 w4 w.heap.size (.int .i64 0) (.string tn) (.slice a l.length cap):=HA4.out.keep (HTT.out.block _ HA4.out.lt (fun e=>e.elim (fun e=>by have:=HVL.out _ e;omega) (fun e=>by have:=HBM.out;omega)))
   have x0:=hq.c0;have x1:=hq.c1;have x2:=hq.c2
   have HBX:Hid (∀ u,Touch (PutM (.slice va H.length vc) bm) (w.alloc (.cells #[.int .i64 0,.string tn,.slice a l.length cap] 24)) u→Box3 u w.heap.size (.int .i64 0) (.string tn) (.slice a l.length cap)):=Lib.hid fun u hu=>HA4.out.keep (hu.block _ HA4.out.lt (fun e=>e.elim (fun e=>by have:=HVL.out _ e;omega) (fun e=>by have:=HBM.out;omega)))
   clear hq
   go_wp2_with fail
   clear x0 x1 x2
   go_loopw[0,54] (fun v0 v54 wr=>∃ j:Nat,j≤l.length∧v54=.int .i64 j∧HOwn wr base v0 (H++[⟨2,(l.length:Int),tn⟩]++List.replicate j (⟨1,0,⟨#[]⟩⟩:HC))∧VAt wr bm n V∧Hid (Fresh (w.alloc (.cells #[.int .i64 0,.string tn,.slice a l.length cap] 24)) (.slice va H.length vc) v0)∧Hid (Touch (PutM (.slice va H.length vc) bm) (w.alloc (.cells #[.int .i64 0,.string tn,.slice a l.length cap] 24)) wr)) (fun _ v54 _=>l.length-(intOf v54).toNat)
   case atStart=>exact⟨0,Nat.zero_le _,rfl,by simpa using HP.out,HV4.out,HFR,HTT⟩
   case round =>
    obtain⟨j,hj,rfl,hho,hva,HF0,HT0⟩:=hrel
    have HHO:=Lib.hid hho;have HVO:=Lib.hid hva
    obtain⟨ua,uc,hue⟩:=hho.form
    subst hue
    have hq:=HBX.out wr HT0.out
    have x0:=hq.c0;have x1:=hq.c1;have x2:=hq.c2
    clear hho hva hq
    have hcl:(H++[(⟨2,(l.length:Int),tn⟩:HC)]++List.replicate j (⟨1,0,⟨#[]⟩⟩:HC)).length=H.length+1+j:=by simp;omega
    by_cases hlt:j<l.length
    ·have HO2:=Lib.hid (HHO.out.row.alloc (.cells #[.int .i64 1,.int .i64 0,.string ⟨#[]⟩] 120))
     have HCL:=Lib.hid hcl
     have HRE:Hid (H++[(⟨2,(l.length:Int),tn⟩:HC)]++List.replicate j (⟨1,0,⟨#[]⟩⟩:HC)++[(⟨1,0,⟨#[]⟩⟩:HC)]=H++[(⟨2,(l.length:Int),tn⟩:HC)]++List.replicate (j+1) (⟨1,0,⟨#[]⟩⟩:HC)):=Lib.hid (by rw[List.append_assoc,List.replicate_succ'])
     have hws:base≤wr.heap.size+1:=by have:=HT0.out.size;have:=HSZ0.out;omega
     clear hcl
     generalize H++[(⟨2,(l.length:Int),tn⟩:HC)]++List.replicate j (⟨1,0,⟨#[]⟩⟩:HC)=Hj at *
     go_wp2_with (first
      | (at_builtin;have _g:=HO2;refine wpList_append_opt _ rfl _ _ 42 rfl base 120 i0 _ 3 32 Try.underlying42 hi0 hz0 hz1 hz2 rfl (by decide) _ _ _ rfl HO2.out (some ⟨wr.heap.size,0,none⟩) 1 1 ?f0 [.int .i64 1,.int .i64 0,.string ⟨#[]⟩] rfl rfl ?f1 ?f2 ?f3 ?f4 ?f5 ?_))
     case f0=>intro h;cases h
     case f1=>exact newsC wr ⟨1,0,⟨#[]⟩⟩ rfl
     case f2=>exact oneC ⟨1,0,⟨#[]⟩⟩
     case f3=>have:=HCL.out;unfold maxLen;omega
     case f4=>have:=HCL.out;omega
     case f5=>simp only[aSz];omega
     ·intro v5 w5 hown5 hgrow5 hfr5
      have hp:=HHO.out.push (c:=⟨1,0,⟨#[]⟩⟩) ⟨(by show I64 1;unfold I64;omega),(by show I64 0;unfold I64;omega),Nat.zero_le _⟩ ((Below.refl _ _).alloc (Nat.le_refl _) (.cells #[.int .i64 1,.int .i64 0,.string ⟨#[]⟩] 120)) hown5 hgrow5 hfr5 bm
      have hne:(Value.slice ua Hj.length uc).ownBlock≠some bm:=fun e=>by
       rcases HF0.out with e2 | e2
       ·exact HVB.out (e2 ▸ e)
       ·have:=e2 bm e;have:=HBM.out;have:=HSZ0.out;omega
      have hv5:VAt w5 bm n V:=HVO.out.keep ((hgrow5.block bm (by simp only[aSz];have:=HVO.out.lt;omega) (fun e=>hne e.symm)).trans (Below.heap_alloc _ _ _ HVO.out.lt))
      have HP5:=Lib.hid hp.1;have HFR5:=Lib.hid (HF0.out.trans hp.2.1 HT0.out.size);have HT5:=Lib.hid (HT0.out.freshP HF0.out hp.2.2);have HV5:=Lib.hid hv5
      obtain⟨g5,cap5,rfl⟩:=own_shape hown5 (by omega)
      clear hp hown5 hgrow5 hfr5 hne hv5
      go_wp2_with fail
      go_roundw
      case measure=>simp[intOf];omega
      case rel=>exact⟨j+1,by omega,by go_num,by rw[← HRE.out];exact HP5.out,HV5.out,HFR5,HT5⟩
    ·have hje:j=l.length:=by omega
     subst hje
     have HL1:Hid ((H++[(⟨2,(l.length:Int),tn⟩:HC)]++List.replicate l.length (⟨1,0,⟨#[]⟩⟩:HC)).length=H.length+1+l.length):=Lib.hid hcl
     have HSZL:=Lib.hid (Tm.length_le_sizes l)
     clear hcl
     generalize H++[(⟨2,(l.length:Int),tn⟩:HC)]++List.replicate l.length (⟨1,0,⟨#[]⟩⟩:HC)=H1 at *
     go_wp2_with fail
     clear x0 x1 x2
     go_loopw[0,64] (fun v0 v64 wz=>∃ (i ni:Nat) (Hi:List HC) (Vi:CV),i≤l.length∧v64=.int .i64 i∧HOwn wz base v0 Hi∧VAt wz bm ni Vi∧ni≤Hi.length∧Hid (putAs H1 V (H.length+1) l=putAs Hi Vi (H.length+1+i) (l.drop i))∧Hid (Hi.length+2*Tm.sizes (l.drop i)+1≤H.length+2*(1+Tm.sizes l)+(l.length-i))∧H.length+1+l.length≤Hi.length∧Hid (VB Vi 1000000)∧Hid (Fresh (w.alloc (.cells #[.int .i64 0,.string tn,.slice a l.length cap] 24)) (.slice va H.length vc) v0)∧Hid (Touch (PutM (.slice va H.length vc) bm) (w.alloc (.cells #[.int .i64 0,.string tn,.slice a l.length cap] 24)) wz)) (fun _ v64 _=>l.length-(intOf v64).toNat)
     case atStart=>exact⟨0,n,H1,V,Nat.zero_le _,rfl,HHO.out,HVO.out,by have:=HL1.out;omega,Lib.hid rfl,Lib.hid (by have:=HL1.out;rw[List.drop_zero];omega),by have:=HL1.out;omega,HVBD,HF0,HT0⟩
     case round =>
      obtain⟨i,ni,Hi,Vi,hi,rfl,hhi,hvi,hni,HPA,HBD,hHi,HVBi,HFi,HTi⟩:=hrel
      have HHi:=Lib.hid hhi;have HVi:=Lib.hid hvi
      obtain⟨ya,yc,hye⟩:=hhi.form
      subst hye
      have HTZ:=Lib.hid (HTW.out.keep (HTi.out.keeps fun b hb e=>e.elim (fun e=>(HOK.out b hb).2.1 e) (fun e=>(HOK.out b hb).2.2 e)))
      have hHil:Hi.length≤9223372036854775807:=by have:=HBD.out;have:=HLEN.out;omega
      clear hhi hvi
      by_cases hlt:i<l.length
      ·obtain⟨bb,off,a',cap',rfl,hokb,hbs,hc3,ht3⟩:=HTZ.out.at i hlt
       have m0:=hc3.var;have m1:=hc3.name;have m2:=hc3.args
       have HFX:=Lib.hid hc3.fits
       have BX:Below wr.heap.size wr (wr.alloc (.cells #[.int .i64 l[i].var,.string l[i].name,.slice a' l[i].args.length cap'] 24)):=(Below.refl _ _).alloc (Nat.le_refl _) _
       have HBX2:=Lib.hid BX
       have HDS:Hid (Tm.sizes (l.drop i)=l[i].size+Tm.sizes (l.drop (i+1))∧l.length-(i+1)≤Tm.sizes (l.drop (i+1))):=Lib.hid (by
        have h1:=Tm.length_le_sizes (l.drop (i+1))
        rw[List.length_drop] at h1
        exact⟨by rw[List.drop_eq_getElem_cons hlt];rfl,h1⟩)
       have hyb:(Value.slice ya Hi.length yc).ownBlock≠some bm:=fun e=>by
        rcases HFi.out with e2 | e2
        ·exact HVB.out (e2 ▸ e)
        ·have:=e2 bm e;have:=HBM.out;have:=HSZ0.out;omega
       have hyo:∀ b,ok b→(Value.slice ya Hi.length yc).ownBlock≠some b:=fun b hb e=>by
        rcases HFi.out with e2 | e2
        ·exact(HOK.out b hb).2.1 (e2 ▸ e)
        ·have:=e2 b e;have:=(HOK.out b hb).1;have:=HSZ0.out;omega
       have HCL:=Lib.hid (IH.out l[i] (List.getElem_mem hlt) (wr.alloc (.cells #[.int .i64 l[i].var,.string l[i].name,.slice a' l[i].args.length cap'] 24)) ok a' cap' base bm ni (.slice ya Hi.length yc) Hi Vi hc3.fits (ht3.keep (Keeps.below BX ok)) (fun b hb=>⟨by have:=(HOK.out b hb).1;have:=HTi.out.size;have:=HSZ0.out;have:=BX.size;omega,hyo b hb,(HOK.out b hb).2.2⟩) (HHi.out.below BX) (HVi.out.keep (BX.block bm HVi.out.lt)) hni hyb (by have:=HTi.out.size;have:=HSZ0.out;have:=BX.size;omega)
        (by have h1:=HBD.out;have h2:=HDS.out;have h3:=HLEN.out;omega) HVBi.out)
       have HIX:=Lib.hid (putT_vb l[i] Hi Vi 1000000 HVBi.out (by have h1:=HBD.out;have h2:=HDS.out;have h3:=HLEN.out;omega))
       have HPC:Hid (putAs H1 V (H.length+1) l=putAs (setN (putT Hi Vi l[i]).1.1 (H.length+1+i) (putT Hi Vi l[i]).2) (putT Hi Vi l[i]).1.2 (H.length+1+(i+1)) (l.drop (i+1))):=Lib.hid (by
        rw[HPA.out,List.drop_eq_getElem_cons hlt,putAs_cons];rfl)
       have HTL:=Lib.hid (putT_le l[i] Hi Vi)
       have HTG:=Lib.hid (putT_grow l[i] Hi Vi)
       clear hc3 ht3 BX hyb hyo
       generalize putT Hi Vi l[i]=r at *
       go_wp2_with fail
       refine HCL.out.mono ?_
       rintro e w5 ⟨v5,n5,rfl,hh5,hv5,hn5,hf5,ht5⟩
       have hr1:H.length+1+l.length≤r.1.1.length:=by have:=HTG.out;omega
       have hpos:1≤r.1.1.length:=by omega
       obtain⟨g5,cap5,rfl⟩:=own_shape hh5.row hpos
       have hset:=hh5.set rfl (p:=H.length+1+i) (t:=r.2) (by omega) (by have:=HIX.out.1;omega)
       obtain⟨f0,f1,f2⟩:=flatH_at r.1.1 (H.length+1+i) (by omega)
       have y1:w5.cell? ⟨g5,(H.length+1+i)*3+1,none⟩=some (.int .i64 (hc r.1.1 (H.length+1+i)).n):=(hh5.row.cellAt _ (by omega)).trans f1
       have yf:∀ o,w5.frozen? ⟨g5,o,none⟩=false:=fun o=>hh5.row.frozenAt o
       have hg5:g5<w5.heap.size:=(hh5.row.lt g5 rfl).2
       have HF5:=Lib.hid (HFi.out.trans (hf5.old HBX2.out.size) HTi.out.size)
       have HT5:=Lib.hid (HTi.out.freshP HFi.out ((Touch.below HBX2.out).trans ht5))
       have hg5b:g5≠bm:=fun e=>by
        rcases HF5.out with e2 | e2
        ·exact HVB.out (by rw[← e2];simp only[Value.ownBlock,Option.some.injEq];exact e)
        ·have:=e2 g5 rfl;have:=HBM.out;have:=HSZ0.out;omega
       have HS5:=Lib.hid hset
       have HV5:Hid (VAt (w5.setCell ⟨g5,(H.length+1+i)*3+1,none⟩ (.int .i64 (r.2:Nat))) bm n5 r.1.2):=Lib.hid (hv5.keep (Below.heap_setCell _ _ _ _ (fun e=>hg5b e.symm)))
       have HT6:=Lib.hid (HT5.out.freshP HF5.out (Touch.setCell (w:=w5) (p:=⟨g5,(H.length+1+i)*3+1,none⟩) (.int .i64 (r.2:Nat)) (.inl rfl)))
       have hix:(H.length:Int)+1+(i:Int)<(r.1.1.length:Int):=by omega
       clear hset f0 f1 f2 hh5 hv5 hf5 ht5
       go_wp2_with fail
       go_roundw
       case measure=>simp[intOf];omega
       case rel =>
        exact⟨i+1,n5,setN r.1.1 (H.length+1+i) r.2,r.1.2,by omega,by go_num,HS5.out,HV5.out,by rw[setN_length];exact hn5,HPC,Lib.hid (by
         rw[setN_length]
         have h1:=HBD.out;have h2:=HDS.out;have h3:=HTL.out
         omega),by rw[setN_length];exact hr1,Lib.hid HIX.out.2,HF5,HT6⟩
      ·have HPE:Hid (putAs H1 V (H.length+1) l=(Hi,Vi)):=Lib.hid (by rw[HPA.out,List.drop_eq_nil_of_le (by omega),putAs_nil])
       go_wp2_with fail
       rw[HO.out,HPE.out]
       exact bodyPost_ret (v:=.tuple #[.slice ya Hi.length yc,.int .i64 (H.length:Nat)]) (by simp[results,Try.results81,go_sem]) rfl
        ⟨_,ni,rfl,HHi.out,HVi.out,hni,by
         rcases HFi.out with e | e
         ·exact .inl e
         ·exact .inr fun g hg=>by have:=e g hg;have:=HSZ0.out;omega,(Touch.below HBA.out).trans HTi.out⟩
end Go.Proofs.Ytikmgiapjigghaa
