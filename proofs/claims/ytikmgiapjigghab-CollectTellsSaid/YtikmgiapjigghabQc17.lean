/- A term that Show makes, argument by argument, while names of variables grow beside it. -/
import Derived.Test.YtikmgiapjigghabQc10
import Derived.Test.YtikmgiapjigghabQc11
import Derived.Test.YtikmgiapjigghabQc16
set_option maxRecDepth 100000
set_option maxHeartbeats 8000000
namespace Go.Proofs.Ytikmgiapjigghab
open Go.RowKit
theorem uC{w:World}{ok:Nat→Prop}{base:Nat}{v:Value}{L:List dS}(h:w.ownsRow base 71 3 v L.length (dX L))(hok:∀b,v.ownBlock=some b→ok b)(he:bW w ok L) :
 ∃a cap,v=.slice a (L.map (·.1)).length cap∧Ts w ok (L.map (·.1)) a cap:=by
 rcases h.2 with ⟨rfl,hn⟩|⟨g,cap,cur,rfl,hb,hg,hcap,hml,hsz,htk⟩
 ·have:L = []:=List.eq_nil_of_length_eq_zero hn
  subst this;exact⟨none,0,rfl,Ts.empty' _ _⟩
 ·refine⟨some ⟨g,0,none⟩,cap,by simp,?_⟩
  have hcell:∀j u,(dX L)[j]? = some u→w.cell? ⟨g,j,none⟩=some u:=by
   intro j u hu;have hj:j<L.length*3:=by rw[←eG];exact(List.getElem?_eq_some_iff.1 hu).1
   rw[h.cellAt j hj,hu]
  have hgs:g<w.heap.size:=(gS hg).1;refine .mk _ _ _ ⟨by simpa using hcap,hml,fun h=>by cases h⟩ (fun i=>((L.getD i (.mk 0 ByteArray.empty [],none,0)).2)) (fun i hi=>?_) (fun i hi=>?_)
  ·have hi':i<L.length:=by simpa using hi
   obtain⟨h1,h2,h3⟩:=aA4 L i hi';refine⟨g,0,rfl,hok g rfl,hgs,?_⟩;simp only[List.getElem_map,List.getD_eq_getElem?_getD,List.getElem?_eq_getElem hi',Option.getD_some,Nat.zero_add];exact⟨hcell _ _ h1,hcell _ _ h2,hcell _ _ h3,(he _ (List.getElem_mem hi')).1⟩
  ·have hi':i<L.length:=by simpa using hi
   simp only[List.getElem_map,List.getD_eq_getElem?_getD,List.getElem?_eq_getElem hi',Option.getD_some];exact(he _ (List.getElem_mem hi')).2
structure uD(wb:World)(bl:Nat)(Cb:Nat→Prop)(bo:Nat)(n:ByteArray)(L:List dS)(x:Value)(C:Nat→Prop)(wr:World):Prop where
 box:dP wr bo (.int .i64 0) (.string n) x
 own:dA wr wb.heap.size (fun b=>wb.heap.size≤b∧¬C b) x L
 xo:∀g,x.ownBlock=some g→¬C g
 touch:aA (fun b=>b=bo∨Cb b∨b=bl) wb wr
 lt:bo<wb.heap.size
 col:∀b,b<wb.heap.size→(C b↔Cb b)
 old:∀b,C b→b<wr.heap.size
 sep:¬Cb bo∧bl<wb.heap.size∧bl≠bo
theorem uD.start{wb:World}{bl bo:Nat}{Cb:Nat→Prop}{n:ByteArray}(h:dP wb bo (.int .i64 0) (.string n) (.slice none 0 0))(ho:∀b,Cb b→b<wb.heap.size)(hs:¬Cb bo∧bl<wb.heap.size∧bl≠bo):uD wb bl Cb bo n [] (.slice none 0 0) Cb wb :=
 ⟨h,dA.nil _ _ _,(fun _ hg=>nomatch hg),aA.refl _ _,h.lt,fun _ _=>Iff.rfl,ho,hs⟩
theorem uD.form{wb wr:World}{bl bo:Nat}{Cb C:Nat→Prop}{n:ByteArray}{L:List dS}{x:Value}(h:uD wb bl Cb bo n L x C wr):∃a cap,x=.slice a L.length cap:=by
 rcases h.own.own.2 with ⟨h1,h2⟩|⟨g,cap,cur,h1,_⟩
 ·exact⟨none,0,by rw[h1,h2]⟩
 ·exact⟨_,_,h1⟩
theorem uD.next{wb wr wX w1 X2 w2:World}{bl bo:Nat}{Cb C C1:Nat→Prop}{n:ByteArray}{L:List dS}{x x':Value}(h:uD wb bl Cb bo n L x C wr)(hX:wr.heap.size≤wX.heap.size)
 (hb:aA (fun b=>C b∨b=bl) wr w1) (hc1:∀b,b<wX.heap.size→(C1 b↔C b)) (ho1:∀b,C1 b→b<w1.heap.size) {t:Tm} {a:Option Addr} {c:Nat} (hf:t.fits) (ht:Ts w1 (fun b=>wX.heap.size≤b∧¬C1 b) t.args a c) (hX2:Below w1.heap.size w1 X2)
 (ho:w2.ownsRow wb.heap.size 71 3 x' (L.length+1) (dX L++dX [(t,a,c)])) (hg:X2.grownBy w2 x.ownBlock) (hfr:cF X2 x x') :
 dP w2 bo (.int .i64 0) (.string n) x∧uD wb bl Cb bo n (L++[(t,a,c)]) x' C1 (w2.setCell ⟨bo,2,none⟩ x'):=by
 have hbr:bo<wr.heap.size:=h.box.lt;have hxb:∀g,x.ownBlock=some g→wb.heap.size≤g∧g<wr.heap.size:=fun g hg=>h.own.block hg
 have hxo:x.ownBlock≠some bo:=fun e=>by have:=(hxb _ e).1;have:=h.lt;omega
 have hcb:¬C bo:=fun e=>h.sep.1 ((h.col bo h.lt).1 e)
 have hM:∀b,C b∨b=bl→b≠bo:=fun b e e2=>by
  subst e2;rcases e with e|e
  ·exact hcb e
  ·exact h.sep.2.2 e.symm
 have hbl:bl<wb.heap.size:=h.sep.2.1;have hW:aA (fun b=>C b∨b=bl) wr X2:=hb.trans (aA.below hX2);have hblk:w2.heap[bo]? = wr.heap[bo]?:=(hg.block bo (by have:=hW.size;omega) (fun e=>hxo e.symm)).trans (hW.block bo hbr fun hm=>hM bo hm rfl);have hB2:dP w2 bo (.int .i64 0) (.string n) x:=h.box.keep hblk;refine⟨hB2,?_⟩;have hx'o:x'.ownBlock≠some bo:=fun e=>by
  rcases hfr with e2|e2
  ·exact hxo (e2 ▸ e)
  ·have:=e2 bo e;have:=hW.size;omega
 have hS:aA (fun b=>b=bo) w2 (w2.setCell ⟨bo,2,none⟩ x'):=aA.setCell _ rfl;have hE:bW X2 (nB x (fun b=>wb.heap.size≤b∧¬C1 b)) [(t,a,c)]:=by
  refine bW.one hf ((ht.keep (aD.below hX2 _)).mono fun b _ hk=>?_);exact⟨⟨by have:=h.touch.size;omega,hk.2⟩,fun e=>by have:=(hxb b e).2;omega⟩
 have hOW:dA X2 wb.heap.size (fun b=>wb.heap.size≤b∧¬C1 b) x L:=by
  refine⟨aC h.own.own fun g hg'=>hW.block g (hxb g hg').2 fun hm=>?_,?_⟩
  ·rcases hm with hm|hm
   ·exact h.xo g hg' hm
   ·have:=(hxb g hg').1;omega
  ·have h1:bW wr (fun b=>nB x (fun b=>wb.heap.size≤b∧¬C b) b∧b<wr.heap.size) L:=h.own.each.mono fun b hb h=>⟨h,hb⟩
   exact(h1.keep (hW.keeps fun b hb hm=>by
    rcases hm with hm|hm
    ·exact hb.1.1.2 hm
    ·have:=hb.1.1.1;omega)).mono fun b _ hb=>⟨⟨hb.1.1.1,fun e=>hb.1.1.2 ((hc1 b (by omega)).1 e)⟩,hb.1.2⟩
 have h2:dA w2 wb.heap.size (fun b=>wb.heap.size≤b∧¬C1 b) x' (L++[(t,a,c)]):=hOW.append hE (by simpa using ho) hg hfr;have hT2:aA (fun b=>(C b∨b=bl)∨x.ownBlock=some b) wr w2:=(hW.mono fun _ _ e=>.inl e).trans (aA.grown hg fun k e=>.inr e);refine⟨?_,⟨?_,?_⟩,?_,?_,h.lt,?_,?_,h.sep⟩
 ·refine⟨?_⟩
  rw[aB _ _ _ _ hB2.blk];rfl
 ·exact aC h2.own (fun g hg'=>Below.heap_setCell _ _ _ _ (fun e=>by subst e;exact hx'o hg'))
 ·have key:bW w2 (fun b=>nB x' (fun b=>wb.heap.size≤b∧¬C1 b) b∧b≠bo) (L++[(t,a,c)]):=h2.each.mono fun b _ hk=>⟨hk,fun e=>by
   subst e;have:=hk.1.1;have:=h.lt;omega⟩
  exact(key.keep (w':=w2.setCell ⟨bo,2,none⟩ x') (hS.keeps fun b hb=>hb.2)).mono fun b _ hk=>hk.1
 ·intro g hg' e
  rcases hfr with e2|e2
  ·rw[e2] at hg'
   exact h.xo g hg' ((hc1 g (by have:=(hxb g hg').2;omega)).1 e)
  ·have:=e2 g hg';have:=ho1 g e;have:=hX2.size;omega
 ·refine⟨hS.os.trans (hT2.os.trans h.touch.os),hS.tape.trans (hT2.tape.trans h.touch.tape),hS.output.trans (hT2.output.trans h.touch.output),Nat.le_trans h.touch.size (Nat.le_trans hT2.size hS.size),fun b hb' hn=>?_⟩
  refine(hS.block b (nT hb' (Nat.le_trans h.touch.size hT2.size)) (fun e=>hn (.inl e))).trans ((hT2.block b (nT hb' h.touch.size) ?_).trans (h.touch.block b hb' hn));rintro ((e|e)|e)
  ·exact hn (.inr (.inl ((h.col b hb').1 e)))
  ·exact hn (.inr (.inr e))
  ·have:=(hxb b e).1;omega
 ·intro b hb'
  exact(hc1 b (by have:=h.touch.size;omega)).trans (h.col b hb')
 ·intro b e
  have:=ho1 b e;have:=hX2.size;have:=hg.size;have:(w2.setCell ⟨bo,2,none⟩ x').heap.size=w2.heap.size:=by simp[World.setCell]
  omega
theorem uD.done{w wb wr:World}{bl bo br:Nat}{Cb C C0:Nat→Prop}{n:ByteArray}{L:List dS}{x:Value}(h:uD wb bl Cb bo n L x C wr)(hw:aA (fun b=>C0 b∨b=bl) w wb)(hc:∀b,b<w.heap.size→(Cb b↔C0 b))(hbo:w.heap.size≤bo)(hbr:w.heap.size≤br)(hlt:br<wb.heap.size) :
 ∃a cap,x=.slice a (L.map (·.1)).length cap∧Ts (((wr.setCell ⟨br,0,none⟩ (.int .i64 0)).setCell ⟨br,1,none⟩ (.string n)).setCell ⟨br,2,none⟩ x) (fun b=>w.heap.size≤b∧¬C b) (L.map (·.1)) a cap∧aA (fun b=>C0 b∨b=bl) w (((wr.setCell ⟨br,0,none⟩ (.int .i64 0)).setCell ⟨br,1,none⟩ (.string n)).setCell ⟨br,2,none⟩ x):=by
 have hb:aA (fun b=>C0 b∨b=bl) w wr:=by
  refine⟨h.touch.os.trans hw.os,h.touch.tape.trans hw.tape,h.touch.output.trans hw.output,Nat.le_trans hw.size h.touch.size,fun b hb hn=>(h.touch.block b (nT hb hw.size) ?_).trans (hw.block b hb hn)⟩;rintro (e|e|e)
  ·omega
  ·exact hn (.inl ((hc b hb).1 e))
  ·exact hn (.inr e)
 have h0:bW wr (fun b=>nB x (fun b=>w.heap.size≤b∧¬C b) b∧b≠br) L:=h.own.each.mono fun b _ hk=>⟨⟨⟨Nat.le_trans hw.size hk.1.1,hk.1.2⟩,hk.2⟩,fun e=>by have:=hk.1.1;omega⟩
 have h1:bW (((wr.setCell ⟨br,0,none⟩ (.int .i64 0)).setCell ⟨br,1,none⟩ (.string n)).setCell ⟨br,2,none⟩ x) (fun b=>w.heap.size≤b∧¬C b) L :=
  (h0.keep ((kJ wr br _ _ _).keeps fun b hb=>hb.2)).mono fun b _ hk=>hk.1.1
 have ho:(((wr.setCell ⟨br,0,none⟩ (.int .i64 0)).setCell ⟨br,1,none⟩ (.string n)).setCell ⟨br,2,none⟩ x).ownsRow w.heap.size 71 3 x L.length (dX L):=by
  have h2:wr.ownsRow w.heap.size 71 3 x L.length (dX L):=by
   refine⟨h.own.own.1,h.own.own.2.imp id ?_⟩;rintro ⟨g,cap,cur,a1,a2,a3⟩;exact⟨g,cap,cur,a1,Nat.le_trans hw.size a2,a3⟩
  exact aC h2 fun g hg=>rU (fun e=>by have:=(h.own.block hg).1;omega) _ _ _
 have hx:=h.xo;obtain⟨a,cap,he,hts⟩:=uC ho (fun b hb=>⟨by have:=(h.own.block hb).1;have:=hw.size;omega,hx b hb⟩) h1;refine⟨a,cap,he,hts,?_⟩;have ht:=kJ wr br (.int .i64 0) (.string n) x;exact⟨ht.os.trans hb.os,ht.tape.trans hb.tape,ht.output.trans hb.output,Nat.le_trans hb.size ht.size,fun b hb' hn=>(ht.block b (nT hb' hb.size) (fun e=>by omega)).trans (hb.block b hb' hn)⟩
theorem aD7{H:List HC}:∀(m:Nat) (l:List Nat) (x:List Tm×Nat),shL H m l=some x→Tm.sizes x.1+x.2≤m:=by
 intro m
 induction m using Nat.strongRecOn with
 | _ m ih =>
 intro l x h;cases l with
 | nil=>rw[kY] at h;cases h;simp[Tm.sizes]
 | cons t r =>
  cases m with
  | zero=>rw[lJ] at h;cases h
  | succ m =>
   by_cases hv:(hc H (aG H t)).k=1
   ·rw[nK hv] at h
    obtain⟨z,hz,rfl⟩:=Option.map_eq_some_iff.1 h;have e2:=ih m (by omega) _ z hz;simp only[Tm.sizes,Tm.size];omega
   ·rw[tY hv] at h
    obtain⟨y,hy,h2⟩:=Option.bind_eq_some_iff.1 h;obtain⟨z,hz,rfl⟩:=Option.map_eq_some_iff.1 h2;have h3:=(tX _ _ _ hy).1;have e1:=ih m (by omega) _ y hy;have e2:=ih y.2 (by omega) _ z hz;simp only[Tm.sizes,Tm.size];omega
theorem aD8(s:List Int)(v:Int):(nA s v).length≤s.length+1:=by
 unfold nA;split
 ·omega
 ·simp
theorem bF1(t:Tm):∀s,(Tm.ren cN s t).2.length≤s.length+t.size:=by
 induction t using Tm.ind with
 | h v n l ih =>
  have hl:∀(r:List Tm) (s:List Int),(∀x,x∈r→x∈l)→(Tm.rens cN s r).2.length≤s.length+Tm.sizes r:=by
   intro r
   induction r with
   | nil=>intro s _;simp[Tm.rens,Tm.sizes]
   | cons x r ihr =>
    intro s hr;have h1:=ih x (hr x List.mem_cons_self) s;have h2:=ihr (Tm.ren cN s x).2 fun y hy=>hr y (List.mem_cons_of_mem _ hy)
    simp only[Tm.rens,Tm.sizes];omega
  intro s;simp only[Tm.ren,Tm.size];split
  ·have:=aD8 s v;simp only[cN];omega
  ·have:=hl l s fun x hx=>hx;simp only;omega
theorem aD9(l:List Tm):∀s,(Tm.rens cN s l).2.length≤s.length+Tm.sizes l:=by
 induction l with
 | nil=>intro s;simp[Tm.rens,Tm.sizes]
 | cons x r ih =>
  intro s;have h1:=bF1 x s;have h2:=ih (Tm.ren cN s x).2;simp only[Tm.rens,Tm.sizes];omega
def bL5(w:World)(nb bl:Nat)(C:Nat→Prop)(s:List Int)(o:Option (List Tm×Nat))(e:Ending)(w':World):Prop :=
 aA (fun b=>C b∨b=bl) w w'∧∃(C':Nat→Prop) (mv cv:Value) (s':List Int),(∀b,b<w.heap.size→(C' b↔C b))∧iG w' nb C' s' mv cv ∧
 match o with
 | some x=>∃(T:Tm) (a:Option Addr) (c:Nat),(Tm.rens cN s x.1).1 = [T]∧e=.returned (.tuple #[.agg #[.int .i64 T.var,.string T.name,.slice a T.args.length c],.bool true])∧T.fits∧Ts w' (fun b=>w.heap.size≤b∧¬C' b) T.args a c ∧
  s'=(Tm.rens cN s x.1).2∧w'.heap[bl]? = some (.cells #[.int .i64 x.2] 3 (0,0))
 | none=>e=.returned (.tuple #[.agg #[.int .i64 0,.string ⟨#[]⟩,.slice none 0 0],.bool false])∧∃(k:Int),w'.heap[bl]? = some (.cells #[.int .i64 k] 3 (0,0))
theorem aX8(s:List Int)(v:Int):1≤(cN s v).1∧(cN s v).1≤(s.length:Int)+1:=by
 have h1:=bC7 s v;have h2:=aD8 s v;have h3:(nA s v).idxOf v<(nA s v).length:=List.idxOf_lt_length_iff.2 h1;unfold cN;simp only;omega
theorem bO2{ok:Nat→Prop}{K:List HC}{a:Option Addr}{cap:Nat}(hK:dK K)(hS:eW K)(hk4:K.length≤400000){nb bl:Nat}(m:Nat):∀(s:List Int) (C:Nat→Prop) (mv cv:Value) (t:Nat) (w:World),m+s.length≤1000→t<K.length→dV w ok K a cap→iG w nb C s mv cv→w.heap[bl]? = some (.cells #[.int .i64 m] 3 (0,0)) →
 (¬ok bl∧¬C bl)→(∀b,ok b→b<w.heap.size∧¬C b) →
 Calls Try.prog 91 #[.slice a K.length cap,.int .i64 (t:Nat),.pointer (some ⟨bl,0,none⟩),.func (.func 92) #[.pointer (some ⟨nb,0,none⟩)] #[]] w (bL5 w nb bl C s (shL K m [t])):=by
 induction m using Nat.strongRecOn with
 | _ m ih =>
 intro s C mv cv t w hm ht hhp hnm hbl hsep hok;have IH:=lh ih;have HK:=lh hK;have HS:=lh hS;have HT:=lh ht;have HP:=lh hhp;have HN:=lh hnm;have HBL:=lh hbl;have HSEP:=lh hsep;have HOK:=lh hok;have hbll:bl<w.heap.size:=(gS hbl).1;have k0:w.cell? ⟨bl,0,none⟩=some (.int .i64 m):=by simp[World.cell?,hbl]
 have kf:∀o,w.frozen? ⟨bl,o,none⟩=false:=fun o=>by simp[World.frozen?,hbl]
 have hblA:(w.alloc (.cells #[.int .i64 0,.string ⟨#[]⟩,.slice none 0 0] 71)).heap[bl]? = some (.cells #[.int .i64 m] 3 (0,0)):=(Below.heap_alloc _ _ _ hbll).trans hbl;have hA0:(w.alloc (.cells #[.int .i64 0,.string ⟨#[]⟩,.slice none 0 0] 71)).cell? ⟨bl,0,none⟩=some (.int .i64 m):=by simp[World.cell?,hblA]
 have hAf:∀o,(w.alloc (.cells #[.int .i64 0,.string ⟨#[]⟩,.slice none 0 0] 71)).frozen? ⟨bl,o,none⟩=false:=fun o=>by simp[World.frozen?,hblA]
 have HBA:Hid (dP (w.alloc (.cells #[.int .i64 0,.string ⟨#[]⟩,.slice none 0 0] 71)) w.heap.size (.int .i64 0) (.string ⟨#[]⟩) (.slice none 0 0)):=lh (dP.made w _ _ _);have HAB:Hid (Below w.heap.size w (w.alloc (.cells #[.int .i64 0,.string ⟨#[]⟩,.slice none 0 0] 71))):=lh ((bR _ _).alloc (nR _) _);have HBLA:=lh hblA;clear ih hK hS ht hhp hnm hbl hsep hok hblA;cases m with
 | zero =>
  have HO:Hid (shL K 0 [t]=none):=lh (lJ _ _ _);go_enter Try.func91,Try.ntmps91;go_wp2_with fail;rw[HO.out];have BAB:Below (w.setCell ⟨bl,0,none⟩ (.int .i64 (-1))).heap.size (w.setCell ⟨bl,0,none⟩ (.int .i64 (-1))) ((w.setCell ⟨bl,0,none⟩ (.int .i64 (-1))).alloc (.cells #[.int .i64 0,.string ⟨#[]⟩,.slice none 0 0] 71)):=(bR _ _).alloc (nR _) _;have TT:aA (fun b=>b=bl) w ((w.setCell ⟨bl,0,none⟩ (.int .i64 (-1))).alloc (.cells #[.int .i64 0,.string ⟨#[]⟩,.slice none 0 0] 71)):=(aA.setCell _ rfl:aA (fun b=>b=bl) w _).trans (aA.below BAB);exact bodyPost_ret (v:=.tuple #[.agg #[.int .i64 0,.string ⟨#[]⟩,.slice none 0 0],.bool false]) (by simp[results,Try.results91,go_sem]) rfl
   ⟨TT.mono fun _ _ e=>.inr e,C,mv,cv,s,fun _ _=>Iff.rfl,HN.out.keep TT.size (fun b hc=>TT.block b (HN.out.old b hc) (fun e=>HSEP.out.2 (e ▸ hc))),rfl,-1,(BAB.block bl (by simpa using hbll)).trans (sZ w bl _ HBL.out)⟩
 | succ m =>
  have hm1:(m:Int)≤1000:=by omega
  have hm0:(0:Int)≤(m:Int):=by omega
  have hsub0:(m:Int)+1-1=(m:Int):=by omega
  have T0:aA (fun b=>b=bl) w (w.setCell ⟨bl,0,none⟩ (.int .i64 m)):=aA.setCell _ rfl;have hsd:(w.setCell ⟨bl,0,none⟩ (.int .i64 m)).heap.size=w.heap.size:=by simp[World.setCell]
  have B1:Below (w.setCell ⟨bl,0,none⟩ (.int .i64 m)).heap.size (w.setCell ⟨bl,0,none⟩ (.int .i64 m)) ((w.setCell ⟨bl,0,none⟩ (.int .i64 m)).alloc (.cells #[.int .i64 0,.string ⟨#[]⟩,.slice none 0 0] 71)):=(bR _ _).alloc (nR _) _;have T1:aA (fun b=>b=bl) w ((w.setCell ⟨bl,0,none⟩ (.int .i64 m)).alloc (.cells #[.int .i64 0,.string ⟨#[]⟩,.slice none 0 0] 71)):=T0.trans (aA.below B1);have HZ1:Hid (dP ((w.setCell ⟨bl,0,none⟩ (.int .i64 m)).alloc (.cells #[.int .i64 0,.string ⟨#[]⟩,.slice none 0 0] 71)) w.heap.size (.int .i64 0) (.string ⟨#[]⟩) (.slice none 0 0)):=lh (dP.made2 hsd.symm);have HBL1:Hid (((w.setCell ⟨bl,0,none⟩ (.int .i64 m)).alloc (.cells #[.int .i64 0,.string ⟨#[]⟩,.slice none 0 0] 71)).heap[bl]? = some (.cells #[.int .i64 m] 3 (0,0))):=lh ((B1.block bl (by simpa using hbll)).trans (sZ w bl _ HBL.out));have HP1:=lh (HP.out.keep (T1.keeps fun b hb e=>HSEP.out.1 (e ▸ hb)));have HN1:=lh (HN.out.keep T1.size (fun b hc=>T1.block b (HN.out.old b hc) (fun e=>HSEP.out.2 (e ▸ hc))));have HT1:=lh T1;have HSZ1:Hid (((w.setCell ⟨bl,0,none⟩ (.int .i64 m)).alloc (.cells #[.int .i64 0,.string ⟨#[]⟩,.slice none 0 0] 71)).heap.size=w.heap.size+1):=lh (by simp[World.setCell]);obtain⟨me,hme⟩:=fI (HS.out t HT.out);have HEW:=lh (aK1 HP1.out HK.out hme HT.out);have hxl:aG K t<K.length:=hme.lt HK.out HT.out;obtain⟨x,hx⟩:∃x,aG K t=x:=⟨_,rfl⟩
  have HX:=lh hx;rw[hx] at HEW hxl;obtain⟨hb,hoff,ea,hokb,hbs,d0,d1,d2,hfx⟩:=HP1.out.at' x hxl;have HFX:=lh hfx;clear hme T0 hsd B1 T1 hfx hx;by_cases hk:(hc K x).k=1
  ·have HO:Hid (shL K (m+1) [t]=some ([aQ ((x:Int)+1)],m)):=lh (by
    have:=HX.out;subst this;rw[nK hk,kY];rfl)
   rw[hk] at d0;clear hk;subst ea;go_enter Try.func91,Try.ntmps91;go_wp2_with (go_at_call 85;refine HEW.out.mono ?_;rintro e w2 ⟨rfl,rfl⟩);have B2:Below ((w.setCell ⟨bl,0,none⟩ (.int .i64 m)).alloc (.cells #[.int .i64 0,.string ⟨#[]⟩,.slice none 0 0] 71)).heap.size ((w.setCell ⟨bl,0,none⟩ (.int .i64 m)).alloc (.cells #[.int .i64 0,.string ⟨#[]⟩,.slice none 0 0] 71)) (((w.setCell ⟨bl,0,none⟩ (.int .i64 m)).alloc (.cells #[.int .i64 0,.string ⟨#[]⟩,.slice none 0 0] 71)).alloc (.cells #[.int .i64 1,.int .i64 (hc K x).n,.string (hc K x).name] 69)):=(bR _ _).alloc (nR _) _;have HZ2:=lh (HZ1.out.below B2);have HN2:=lh (HN1.out.below B2);have HB2:Hid ((((w.setCell ⟨bl,0,none⟩ (.int .i64 m)).alloc (.cells #[.int .i64 0,.string ⟨#[]⟩,.slice none 0 0] 71)).alloc (.cells #[.int .i64 1,.int .i64 (hc K x).n,.string (hc K x).name] 69)).heap[bl]? = some (.cells #[.int .i64 m] 3 (0,0))):=lh ((B2.block bl (by have:=HSZ1.out;omega)).trans HBL1.out);have HT2:Hid (aA (fun b=>b=bl) w (((w.setCell ⟨bl,0,none⟩ (.int .i64 m)).alloc (.cells #[.int .i64 0,.string ⟨#[]⟩,.slice none 0 0] 71)).alloc (.cells #[.int .i64 1,.int .i64 (hc K x).n,.string (hc K x).name] 69))):=lh (HT1.out.trans (aA.below B2));have HS2:Hid ((((w.setCell ⟨bl,0,none⟩ (.int .i64 m)).alloc (.cells #[.int .i64 0,.string ⟨#[]⟩,.slice none 0 0] 71)).alloc (.cells #[.int .i64 1,.int .i64 (hc K x).n,.string (hc K x).name] 69)).heap.size=w.heap.size+2):=lh (by rw[aSz,HSZ1.out]);clear B2 d0 d1 d2 k0 kf hA0 hAf HBA HAB HBLA HZ1 HN1 HBL1 HT1 HP1 HSZ1;have HOF:=lh (OfW x HN2.out (by omega) (by omega));generalize ((w.setCell ⟨bl,0,none⟩ (.int .i64 m)).alloc (.cells #[.int .i64 0,.string ⟨#[]⟩,.slice none 0 0] 71)).alloc (.cells #[.int .i64 1,.int .i64 (hc K x).n,.string (hc K x).name] 69)=W at *;refine HOF.out.mono ?_;rintro e w3 ⟨rfl,C',mv',cv',hc',hn',ht'⟩;have HC':=lh hc';have HN':=lh hn';have HT':=lh ht';have hl3:w.heap.size<W.heap.size:=HZ2.out.lt;have hs3:=ht'.size;have hrC:¬C w.heap.size:=fun e=>by have:=HN.out.old _ e;omega
   obtain⟨z0,z1,z2,zf⟩:=(HZ2.out.keep (ht'.block _ hl3 hrC)).all;have HRC:=lh hrC;have hl4:w.heap.size<w3.heap.size:=by omega
   clear hc' hn' ht' hrC;obtain⟨q,hq⟩:∃q,(cN s ((x:Int)+1)).1=q:=⟨_,rfl⟩
   have HQ:=lh hq;rw[hq];clear hq;go_wp2_with fail;rw[HO.out];have TP:=kJ w3 w.heap.size (.int .i64 q) (.string ⟨#[]⟩) (.slice none 0 0);have hq64:I64 q:=by
    have:=aX8 s ((x:Int)+1);rw[HQ.out] at this;unfold I64;omega
   have HRE:(Tm.rens cN s [aQ ((x:Int)+1)]).1 = [.mk q ⟨#[]⟩ []]∧(Tm.rens cN s [aQ ((x:Int)+1)]).2=(cN s ((x:Int)+1)).2:=by
    have h0:(x:Int)+1≠0:=by omega
    simp[Tm.rens,Tm.ren,h0,HQ.out]
   have TA:aA (fun b=>C b∨b=bl) w w3:=⟨HT'.out.os.trans HT2.out.os,HT'.out.tape.trans HT2.out.tape,HT'.out.output.trans HT2.out.output,Nat.le_trans HT2.out.size HT'.out.size,fun b hb hn=>(HT'.out.block b (nT hb HT2.out.size) (fun e=>hn (.inl e))).trans (HT2.out.block b hb (fun e=>hn (.inr e)))⟩
   have hrC':¬C' w.heap.size:=fun e=>HRC.out ((HC'.out _ hl3).1 e)
   exact bodyPost_ret (v:=.tuple #[.agg #[.int .i64 q,.string ⟨#[]⟩,.slice none 0 0],.bool true]) (by simp[results,Try.results91,go_sem,z0,z1,z2]) rfl
    ⟨⟨TP.os.trans TA.os,TP.tape.trans TA.tape,TP.output.trans TA.output,Nat.le_trans TA.size TP.size,fun b hb hn=>(TP.block b (nT hb TA.size) (fun e=>by omega)).trans (TA.block b hb hn)⟩,
     C',mv',cv',_,fun b hb=>HC'.out b (by omega),HN'.out.keep TP.size (fun b hb=>TP.block b (HN'.out.old b hb) (fun e=>hrC' (e ▸ hb))),
     aQ q,none,0,HRE.1,rfl,⟨hq64,Nat.zero_le _⟩,Ts.empty' _ _,HRE.2.symm,(TP.block bl (by omega) (fun e=>by omega)).trans ((HT'.out.block bl (by omega) HSEP.out.2).trans HB2.out)⟩
  ·have HO:Hid (shL K (m+1) [t]=(shL K m (bD K x)).map fun y=>([.mk 0 (hc K x).name y.1],y.2)):=lh (by
    have:=HX.out;subst this;rw[tY hk];cases shL K m (bD K (aG K t)) with
    | none=>rfl
    | some y=>simp only[Option.bind_some,Option.map_some,kY])
   have hk1:((hc K x).k == 1)=false:=by simpa using hk
   obtain⟨n,hn,hn4,hxn⟩:∃n:Nat,(hc K x).n=(n:Int)∧n≤4∧x+n<K.length:=by
    rcases bV (HK.out x hxl) with ⟨h1,_⟩|⟨_,_,h2,h3,h4,_⟩
    ·exact absurd h1 hk
    ·exact⟨(hc K x).n.toNat,by omega,h3,h4⟩
   have HAL:Hid ((bD K x).length=n):=lh (by unfold bD;rw[hn];simp);have HAI:Hid (∀i (h:i<(bD K x).length),(bD K x)[i]=x+1+i):=lh (by intro i h;simp[bD]);have hnm9:(hc K x).name.size≤maxLen:=HFX.out.2.2;generalize hc K x=cc at *;obtain⟨ck,cn,nm⟩:=cc;simp only at hn hk1 hk d0 d1 d2 HO hnm9;subst hn;have B2:Below ((w.setCell ⟨bl,0,none⟩ (.int .i64 m)).alloc (.cells #[.int .i64 0,.string ⟨#[]⟩,.slice none 0 0] 71)).heap.size ((w.setCell ⟨bl,0,none⟩ (.int .i64 m)).alloc (.cells #[.int .i64 0,.string ⟨#[]⟩,.slice none 0 0] 71)) ((((w.setCell ⟨bl,0,none⟩ (.int .i64 m)).alloc (.cells #[.int .i64 0,.string ⟨#[]⟩,.slice none 0 0] 71)).alloc (.cells #[.int .i64 ck,.int .i64 (n:Int),.string nm] 69)).alloc (.cells #[.int .i64 0,.string nm,.slice none 0 0] 71)):=((bR _ _).alloc (nR _) _).alloc (by simp only[aSz];omega) _;have hZ2:=HZ1.out.below B2;have hN2:=HN1.out.below B2;have hB2:((((w.setCell ⟨bl,0,none⟩ (.int .i64 m)).alloc (.cells #[.int .i64 0,.string ⟨#[]⟩,.slice none 0 0] 71)).alloc (.cells #[.int .i64 ck,.int .i64 (n:Int),.string nm] 69)).alloc (.cells #[.int .i64 0,.string nm,.slice none 0 0] 71)).heap[bl]? = some (.cells #[.int .i64 m] 3 (0,0)):=(B2.block bl (by have:=HSZ1.out;omega)).trans HBL1.out;have hT2:aA (fun b=>b=bl) w ((((w.setCell ⟨bl,0,none⟩ (.int .i64 m)).alloc (.cells #[.int .i64 0,.string ⟨#[]⟩,.slice none 0 0] 71)).alloc (.cells #[.int .i64 ck,.int .i64 (n:Int),.string nm] 69)).alloc (.cells #[.int .i64 0,.string nm,.slice none 0 0] 71)):=HT1.out.trans (aA.below B2);have hS2:((((w.setCell ⟨bl,0,none⟩ (.int .i64 m)).alloc (.cells #[.int .i64 0,.string ⟨#[]⟩,.slice none 0 0] 71)).alloc (.cells #[.int .i64 ck,.int .i64 (n:Int),.string nm] 69)).alloc (.cells #[.int .i64 0,.string nm,.slice none 0 0] 71)).heap.size=w.heap.size+3:=by rw[aSz,aSz,HSZ1.out]
   have hO2:dP ((((w.setCell ⟨bl,0,none⟩ (.int .i64 m)).alloc (.cells #[.int .i64 0,.string ⟨#[]⟩,.slice none 0 0] 71)).alloc (.cells #[.int .i64 ck,.int .i64 (n:Int),.string nm] 69)).alloc (.cells #[.int .i64 0,.string nm,.slice none 0 0] 71)) (w.heap.size+2) (.int .i64 0) (.string nm) (.slice none 0 0):=dP.made2 (by rw[aSz,HSZ1.out]);have hP2:=HP1.out.below B2;have HZ2:=lh hZ2;have HN2:=lh hN2;have HB2:=lh hB2;have HT2:=lh hT2;have HS2:=lh hS2;have HO2:=lh hO2;have HP2:=lh hP2;clear B2 hZ2 hN2 hB2 hT2 hS2 hO2 hP2 HZ1 HN1 HBL1 HT1 HBA HAB HBLA hA0 hAf;subst ea;go_enter Try.func91,Try.ntmps91;go_wp2_with (go_at_call 85;refine HEW.out.mono ?_;rintro e w2 ⟨rfl,rfl⟩);clear d0 d1 d2 HP1 HSZ1;generalize (((w.setCell ⟨bl,0,none⟩ (.int .i64 m)).alloc (.cells #[.int .i64 0,.string ⟨#[]⟩,.slice none 0 0] 71)).alloc (.cells #[.int .i64 ck,.int .i64 (n:Int),.string nm] 69)).alloc (.cells #[.int .i64 0,.string nm,.slice none 0 0] 71)=wb at *;have HCB:Hid (∀b,C b→b<w.heap.size):=lh HN.out.old;have HNI:Hid (I64 ((n:Int))):=lh (by unfold I64;omega)
   go_loopw[44] (fun y44 wr=>∃(i:Nat) (L:List dS) (y:Value) (r:Nat) (s':List Int) (Ls:List Tm) (C':Nat→Prop) (mv' cv':Value),i≤n∧y44=.int .i64 i∧r≤m∧Hid (shL K m ((bD K x).take i)=some (Ls,r))∧Hid (L.map (·.1)=(Tm.rens cN s Ls).1∧s'=(Tm.rens cN s Ls).2)∧uD wb bl C (w.heap.size+2) nm L y C' wr∧iG wr nb C' s' mv' cv'∧wr.heap[bl]? = some (.cells #[.int .i64 r] 3 (0,0))) (fun y44 _=>n-(intOf y44).toNat)
   case atStart=>exact⟨0,[],.slice none 0 0,m,s,[],C,mv,cv,Nat.zero_le _,rfl,nR _,lh (kY _ _),lh ⟨rfl,rfl⟩,uD.start HO2.out HN2.out.old ⟨fun e=>by have:=HCB.out _ e;omega,by have:=HS2.out;omega,by omega⟩,HN2.out,HB2.out⟩
   case round =>
    obtain⟨i,L,y,r,s',Ls,C',mv',cv',hi,rfl,hr,HTH,HLL,hrel,hnr,hblr⟩:=hrel;have HR:=lh hrel;have HNR:=lh hnr;have HBR:=lh hblr;obtain⟨xa,xc,rfl⟩:=hrel.form;have HMX:Hid (∀b,C b∨b=bl→b<w.heap.size):=lh fun b e=>e.elim (HCB.out b) (fun e=>by omega)
    have HZR:=lh (HZ2.out.keep (hrel.touch.block _ HZ2.out.lt (fun e=>e.elim (fun e=>by omega) (fun e=>by have:=HMX.out _ e;omega))));obtain⟨z60,z61,z62,z63⟩:=HZR.out.all;have HPR:=lh (HP2.out.keep (hrel.touch.keeps fun b hb e=>e.elim (fun e=>by have:=(HOK.out b hb).1;omega) (fun e=>e.elim (HOK.out b hb).2 (fun e=>HSEP.out.1 (e ▸ hb)))));have hwr:w.heap.size+2<wr.heap.size:=hrel.box.lt;have hsb:wb.heap.size≤wr.heap.size:=hrel.touch.size;have HLl:Hid (L.length=i∧i+r≤m∧s'.length+r≤s.length+m):=lh (by
     have h1:=tX _ _ _ HTH.out;have h2:=aD7 _ _ _ HTH.out;have h3:=congrArg List.length HLL.out.1;have h4:=aD9 Ls s;rw[←HLL.out.2] at h4;rw[List.length_map,Tm.rens_length] at h3;rw[List.length_take] at h1;have:=HAL.out;simp only at h1 h2;omega)
    have HCR:Hid (∀b,b<wb.heap.size→(C' b↔C b)):=lh hrel.col;clear hrel hnr hblr;by_cases hlt:i<n
    ·have hxi:x+1+i<K.length:=by omega
     have HCL:=lh (IH.out r (by omega) s' C' mv' cv' (x+1+i) wr (by have:=HLl.out;omega) hxi HPR.out HNR.out HBR.out ⟨HSEP.out.1,fun e=>HSEP.out.2 ((HCR.out bl (by have:=HS2.out;omega)).1 e)⟩ (fun b hb=>⟨by have:=(HOK.out b hb).1;have:=HS2.out;omega,fun e=>(HOK.out b hb).2 ((HCR.out b (by have:=(HOK.out b hb).1;have:=HS2.out;omega)).1 e)⟩));have HSP:Hid (shL K m ((bD K x).take (i+1))=(shL K r [x+1+i]).map fun z=>(Ls++z.1,z.2)):=lh (by
      have hh:i<(bD K x).length:=by rw[HAL.out];exact hlt
      rw[List.take_succ_eq_append_getElem hh,HAI.out i hh,kM,HTH.out];rfl)
     have HSQ:Hid (shL K r [x+1+i]=none→shL K m (bD K x)=none):=lh (fun hn=>by
      rw[←List.take_append_drop (i+1) (bD K x),kM,HSP.out,hn];rfl)
     have HLE:=lh (fun z=>tX (H:=K) r [x+1+i] z);have e9:((x+1+i:Nat):Int)=(x:Int)+1+(i:Int):=by omega
     rw[e9] at HCL;clear e9;generalize shL K r [x+1+i]=o at *;cases o with
     | none =>
      have HQ:=lh (HSQ.out rfl);clear HSQ HSP;go_wp2_with (go_at_call 91;refine HCL.out.mono ?_;rintro e w3 ⟨ht3,C3,mv3,cv3,s3,hc3,hn3,rfl,k3,hb3⟩;have hl3:w.heap.size+2<w3.heap.size:=(by have:=ht3.size;omega);have hl30:w.heap.size<w3.heap.size:=(by omega);have hnm3:∀b,b<wb.heap.size→¬C b→b≠bl→¬(C' b∨b=bl):=(fun b h1 h2 h3 e=>e.elim (fun e=>h2 ((HCR.out b h1).1 e)) h3);have hzr:dP w3 w.heap.size (.int .i64 0) (.string ⟨#[]⟩) (.slice none 0 0):=HZR.out.keep (ht3.block _ (by omega) (hnm3 _ (by have:=HS2.out;omega) (fun e=>by have:=HCB.out _ e;omega) (by omega)));obtain⟨y0,y1,y2,yf⟩:=hzr.all;have HT3:=lh ht3;have HN3:=lh hn3;have HC3:=lh hc3;have HB3:=lh hb3;clear ht3 hn3 hb3 hc3 hzr hnm3);rw[HO.out,HQ.out];have TA:aA (fun b=>(w.heap.size+2=b∨C' b∧w.heap.size≤b)∨(C b∨b=bl)) w w3:=((HT2.out.mono fun _ _ e=>.inr (.inr e)).trans (HR.out.touch.mono fun _ _ e=>e.elim (fun e=>.inl (.inl e.symm)) .inr)).trans (HT3.out.mono fun b _ e=>e.elim (fun e=>by
       by_cases h:b<w.heap.size
       ·exact .inr (.inl ((HCR.out b (by have:=HS2.out;omega)).1 e))
       ·exact .inl (.inr ⟨e,by omega⟩)) (fun e=>.inr (.inr e)))
      have TP:=kJ w3 w.heap.size (.int .i64 0) (.string ⟨#[]⟩) (.slice none 0 0);have BF:Below (((w3.setCell ⟨w.heap.size,0,none⟩ (.int .i64 0)).setCell ⟨w.heap.size,1,none⟩ (.string ⟨#[]⟩)).setCell ⟨w.heap.size,2,none⟩ (.slice none 0 0)).heap.size (((w3.setCell ⟨w.heap.size,0,none⟩ (.int .i64 0)).setCell ⟨w.heap.size,1,none⟩ (.string ⟨#[]⟩)).setCell ⟨w.heap.size,2,none⟩ (.slice none 0 0)) ((((w3.setCell ⟨w.heap.size,0,none⟩ (.int .i64 0)).setCell ⟨w.heap.size,1,none⟩ (.string ⟨#[]⟩)).setCell ⟨w.heap.size,2,none⟩ (.slice none 0 0)).alloc (.cells #[.int .i64 0,.string ⟨#[]⟩,.slice none 0 0] 71)):=(bR _ _).alloc (nR _) _;have hps:=TP.size;have hws:=HT2.out.size;have hw3:wr.heap.size≤w3.heap.size:=HT3.out.size;have hcr3:∀b,C3 b→b≠w.heap.size:=fun b e e2=>by
       subst e2;have h1:=(HC3.out _ (by omega)).1 e;have h2:=(HCR.out _ (by have:=HS2.out;omega)).1 h1;have:=HCB.out _ h2;omega
      exact bodyPost_ret (v:=.tuple #[.agg #[.int .i64 0,.string ⟨#[]⟩,.slice none 0 0],.bool false]) (by simp[results,Try.results91,go_sem,y0,y1,y2,hl30]) rfl
       ⟨⟨BF.os.trans (TP.os.trans TA.os),BF.tape.trans (TP.tape.trans TA.tape),BF.output.trans (TP.output.trans TA.output),Nat.le_trans TA.size (Nat.le_trans TP.size BF.size),fun b hb hn=>(BF.block b (by omega)).trans ((TP.block b (by omega) (fun e=>by omega)).trans (TA.block b hb (fun e=>e.elim (fun e=>by omega) hn)))⟩,
        C3,mv3,cv3,s3,fun b hb=>(HC3.out b (by omega)).trans (HCR.out b (by omega)),HN3.out.keep (Nat.le_trans TP.size BF.size) (fun b hb=>(BF.block b (by have:=HN3.out.old b hb;omega)).trans (TP.block b (HN3.out.old b hb) (hcr3 b hb))),
        rfl,k3,(BF.block bl (by omega)).trans ((TP.block bl (by omega) (fun e=>by omega)).trans HB3.out)⟩
     | some z =>
      obtain⟨u1,u2⟩:=z;have hzr:u2≤r:=by have:=(HLE.out _ rfl).1;simp only[List.length_singleton] at this;omega
      have HNT:Hid (shL K m ((bD K x).take (i+1))=some (Ls++u1,u2)):=lh HSP.out;clear HSQ HSP HLE;obtain⟨i0,hi0,hz0',hz1',hz2'⟩:=info_parts Try.infoTm;go_wp2_with (first
       | (go_at_call 91;refine HCL.out.mono ?_;rintro e w3 ⟨ht3,C3,mv3,cv3,s3,hc3,hn3,T,a3,c3,hTT,rfl,hf3,hts3,hs3,hb3⟩;have hl3:w.heap.size+2<w3.heap.size:=(by have:=ht3.size;omega);have hl30:w.heap.size<w3.heap.size:=(by omega);have hnm3:∀b,b<wb.heap.size→¬C b→b≠bl→¬(C' b∨b=bl):=(fun b h1 h2 h3 e=>e.elim (fun e=>h2 ((HCR.out b h1).1 e)) h3);have hzr3:dP w3 w.heap.size (.int .i64 0) (.string ⟨#[]⟩) (.slice none 0 0):=HZR.out.keep (ht3.block _ (by omega) (hnm3 _ (by have:=HS2.out;omega) (fun e=>by have:=HCB.out _ e;omega) (by omega)));obtain⟨y0,y1,y2,yf⟩:=hzr3.all;have HBO:=HR.out.box.keep (ht3.block _ HR.out.box.lt (hnm3 _ (by have:=HS2.out;omega) (fun e=>by have:=HCB.out _ e;omega) (by omega)));have k2:=HBO.c2;have kf:=HBO.fz;have HO1:=lh (((aC HR.out.own.own (fun gg hg=>ht3.block gg (HR.out.own.block hg).2 (fun e=>e.elim (fun e=>HR.out.xo gg hg e) (fun e=>by have:=(HR.out.own.block hg).1;have:=HS2.out;omega)))).alloc (.cells #[.int .i64 T.var,.string T.name,.slice a3 T.args.length c3] 71)).alloc (.cells #[.int .i64 T.var,.string T.name,.slice a3 T.args.length c3] 71));have HT3:=lh ht3;have HF3:=lh hf3;have HTS3:=lh hts3;have HN3:=lh hn3;have HC3:=lh hc3;have HB3:=lh hb3;have HTT:=lh hTT;have HS3:=lh hs3;clear ht3 hf3 hts3 hn3 hb3 hTT hc3 hs3 HBO hzr3 hnm3)
       | (at_builtin;have _g:=HO1;refine aJ _ rfl _ _ 48 rfl wb.heap.size 71 i0 _ 3 48 Try.underlying48 hi0 hz0' hz1' hz2' rfl (by decide) _ _ _ rfl HO1.out (some ⟨w3.heap.size+1,0,none⟩) 1 1 ?d0 (dX [(T,a3,c3)]) rfl (by rw[eG];rfl) ?d1 (kU _) ?d2 ?d3 ?d4 ?_))
      ·intro h;cases h
      ·exact aN6 _ T a3 c3 (by simp)
      ·have:=HLl.out;unfold maxLen;omega
      ·have:=HLl.out;omega
      ·have:=HR.out.touch.size;have:=HT3.out.size;simp only[aSz];omega
      ·intro v4 w4 hown4 hgrow4 hfr4
       have BX4:Below w3.heap.size w3 ((w3.alloc (.cells #[.int .i64 T.var,.string T.name,.slice a3 T.args.length c3] 71)).alloc (.cells #[.int .i64 T.var,.string T.name,.slice a3 T.args.length c3] 71)):=((bR _ _).alloc (nR _) _).alloc (by simp only[aSz];omega) _;have HNX:=lh (HR.out.next (nR _) HT3.out HC3.out HN3.out.old HF3.out HTS3.out BX4 hown4 hgrow4 hfr4);have HG4:=lh hgrow4;have HXO:=lh (fun gg hg e=>HR.out.xo gg hg e);have HOB:=lh (fun gg hg=>HR.out.own.block (g:=gg) hg);obtain⟨g4,cap4,rfl⟩:=bQ hown4 (by omega);have s2:=HNX.out.1.c2;have sf:=HNX.out.1.fz;have HB4:=lh BX4;clear hown4 hgrow4 hfr4 k2 kf y0 y1 y2 yf BX4;go_wp2_with fail;go_roundw
       case measure=>simp[intOf];omega
       case rel =>
        have hkk:∀b,b<w3.heap.size→b≠w.heap.size+2→(Value.slice xa L.length xc).ownBlock≠some b→(w4.setCell ⟨w.heap.size+2,2,none⟩ (.slice (some ⟨g4,0,none⟩) (L.length+1) cap4)).heap[b]? = w3.heap[b]?:=fun b h1 h2 h3=>by
         rw[Below.heap_setCell _ _ _ _ h2,HG4.out.block b (by have:=HB4.out.size;omega) (fun e2=>h3 e2.symm),HB4.out.block b h1]
        have hn9:∀b,C3 b→(w4.setCell ⟨w.heap.size+2,2,none⟩ (.slice (some ⟨g4,0,none⟩) (L.length+1) cap4)).heap[b]? = w3.heap[b]?:=fun b e=>hkk b (HN3.out.old b e) (fun e2=>by
         subst e2;have h1:=(HC3.out _ (by omega)).1 e;have h2:=(HCR.out _ (by have:=HS2.out;omega)).1 h1;have:=HCB.out _ h2;omega) (fun e2=>HXO.out b e2 ((HC3.out b (by have:=(HOB.out b e2).2;omega)).1 e))
        exact⟨i+1,L++[(T,a3,c3)],_,u2,s3,Ls++u1,C3,mv3,cv3,by omega,by go_num,by omega,HNT.out,lh ⟨by rw[List.map_append,Tm.rens_append,HLL.out.1,←HLL.out.2,HTT.out];rfl,by rw[HS3.out,Tm.rens_append,←HLL.out.2]⟩,HNX.out.2,
         HN3.out.keep (by have:=HB4.out.size;have:=HG4.out.size;simp[World.setCell];omega) hn9,(hkk bl (by omega) (by omega) (fun e2=>by have:=(HOB.out bl e2).1;have:=HS2.out;omega)).trans HB3.out⟩
    ·have HTA:Hid (shL K m (bD K x)=some (Ls,r)):=lh (by
      have:=HTH.out
      rwa [List.take_of_length_le (by have:=HAL.out;omega)] at this)
     have HD:=lh (HR.out.done (w:=w) (br:=w.heap.size) (C0:=C) (HT2.out.mono fun _ _ e=>.inr e) (fun _ _=>Iff.rfl) (by omega) (by omega) (by have:=HS2.out;omega));obtain⟨q0,q1,q2,qf⟩:=HR.out.box.all;go_wp2_with fail;rw[HO.out,HTA.out];obtain⟨a9,c9,he,ht9,hb9⟩:=HD.out;injection he with he1 he2 he3;subst he1;subst he3;have TP:=kJ wr w.heap.size (.int .i64 0) (.string nm) (.slice xa L.length xc);have hRE:Tm.rens cN s [.mk 0 nm Ls]=([.mk 0 nm (L.map (·.1))],s'):=by
      simp[Tm.rens,Tm.ren,HLL.out.1,HLL.out.2]
     have hcr3:∀b,C' b→b≠w.heap.size:=fun b e e2=>by
      subst e2;have h2:=(HCR.out _ (by have:=HS2.out;omega)).1 e;have:=HCB.out _ h2;omega
     exact bodyPost_ret (v:=.tuple #[.agg #[.int .i64 0,.string nm,.slice xa L.length xc],.bool true]) (by simp[results,Try.results91,go_sem,z60,z61,z62]) rfl
      ⟨hb9,C',mv',cv',s',fun b hb=>HCR.out b (by have:=HS2.out;omega),HNR.out.keep TP.size (fun b hb=>TP.block b (HNR.out.old b hb) (hcr3 b hb)),
       .mk 0 nm (List.map (fun y:dS=>y.1) L),xa,xc,by simp only;rw[hRE],by simp[Tm.var,Tm.name,Tm.args],⟨(by show -9223372036854775808≤(0:Int)∧(0:Int)≤9223372036854775807;omega),hnm9⟩,ht9,
       by simp only;rw[hRE],(TP.block bl (by omega) (fun e=>by omega)).trans HBR.out⟩
theorem iG.made(w:World):iG (w.alloc (.cells #[.map none,.slice none 0 0] 137)) w.heap.size (fun b=>b=w.heap.size) [] (.map none) (.slice none 0 0) :=
 ⟨heap_alloc_new w _,.inl ⟨rfl,rfl⟩,World.ownsRow_nil _ _ _ _,⟨rfl,fun _ hg=>nomatch hg⟩,fun b hb=>by subst hb;simp⟩
theorem aQ8{H:List HC}{V:CV}{v:Int}{n:ByteArray}{l:List Tm}{c:Nat}(hv:v≠0)(h:V v=some c):putT H V (.mk v n l)=((H,V),c):=by
 unfold putT;rw[if_pos hv,h]
theorem aQ9{H:List HC}{V:CV}{v:Int}{n:ByteArray}{l:List Tm}(hv:v≠0)(h:V v=none):putT H V (.mk v n l)=((H++[⟨1,(H.length:Int),⟨#[]⟩⟩],oW V v H.length),H.length):=by
 unfold putT;rw[if_pos hv,h]
theorem bE9{H:List HC}{V:CV}{n:ByteArray}{l:List Tm}:putT H V (.mk 0 n l)=(eV (H++[⟨2,(l.length:Int),n⟩]++List.replicate l.length (⟨1,0,⟨#[]⟩⟩:HC)) V (H.length+1) l,H.length):=by
 unfold putT;rw[if_neg (fun h=>h rfl)]
theorem bL4(t:Tm):∀(w:World) (ok:Nat→Prop) (a:Option Addr) (cap base bm n:Nat) (v:Value) (H:List HC) (V:CV),t.fits→Ts w ok t.args a cap→(∀b,ok b→b<w.heap.size∧v.ownBlock≠some b∧b≠bm)→eT w base v H→VAt w bm n V→n≤H.length→v.ownBlock≠some bm→base≤w.heap.size→H.length+2*t.size≤1000000→VB V 1000000 →
 Calls Try.prog 71 #[v,.agg #[.int .i64 t.var,.string t.name,.slice a t.args.length cap],.map (some bm)] w (tF w base v bm (putT H V t)):=by
 induction t using Tm.ind with
 | h tv tn l ih =>
 intro w ok a cap base bm n v H V hfit hts hok hH hV hnn hvb hbase hlen hvbd;have HVBD:=lh hvbd;clear hvbd;have IH:=lh ih;have HF:=lh hfit;have HT:=lh hts;have HOK:=lh hok;have HH:=lh hH;have HV:=lh hV;obtain⟨va,vc,hve⟩:=hH.form;subst hve;simp only[Tm.var,Tm.name,Tm.args] at hts ⊢;have HT':Hid (Ts w ok l a cap):=lh hts;have HVB:=lh hvb;clear ih hfit hts hok hH hV hvb HT;have hsz:=(Tm.mk tv tn l).size_pos;have BA:Below w.heap.size w (w.alloc (.cells #[.int .i64 tv,.string tn,.slice a l.length cap] 71)):=(bR _ _).alloc (nR _) _;have HBA:=lh BA;have HVA:=lh (HV.out.keep (BA.block bm HV.out.lt));have HHA:=lh (HH.out.below BA);have HI:Hid (I64 tv):=lh HF.out.1;obtain⟨i0,hi0,hz0,hz1,hz2⟩:=info_parts Try.infoCell;clear BA;by_cases hv:tv≠0
 ·have hv':(tv != 0)=true:=by rw[bne_iff_ne];exact hv
  cases hs:V tv with
  | some c =>
   have HO:=lh (aQ8 (n:=tn) (l:=l) (H:=H) hv hs);have hlk:=(HVA.out.look HI.out).2 c hs;clear hv hs;go_enter Try.func71,Try.ntmps71;go_wp2_with fail;rw[HO.out];exact bodyPost_ret (v:=.tuple #[.slice va H.length vc,.int .i64 (c:Nat)]) (by simp[results,Try.results71,go_sem]) rfl ⟨_,n,rfl,HHA.out,HVA.out,hnn,.inl rfl,aA.below HBA.out⟩
  | none =>
   have HO:=lh (aQ9 (n:=tn) (l:=l) (H:=H) hv hs);have hlk:=(HVA.out.look HI.out).1 hs;obtain⟨W1,hup,hv1,hg1⟩:=HVA.out.store HI.out hs (by omega) H.length;have HV1:=lh hv1;have HTT:Hid (aA (oY (.slice va H.length vc) bm) w W1):=lh ((aA.below HBA.out).trans (aA.grown hg1 fun k e=>by cases e;exact .inr rfl));have HH1:Hid (eT W1 base (.slice va H.length vc) H):=lh (HHA.out.keep fun g hg=>hg1.block g (HHA.out.row.lt g hg).2 (fun e=>by cases e;exact HVB.out hg));have hsz1:=hg1.size;have HO1:=lh (HH1.out.row.alloc (.cells #[.int .i64 1,.int .i64 H.length,.string ⟨#[]⟩] 69));have hHl:H.length≤1000000:=by omega
   clear hv hs hv1 hg1;go_enter Try.func71,Try.ntmps71;go_wp2_with (first
    | (at_builtin;have _g:=HO1;refine aJ _ rfl _ _ 24 rfl base 69 i0 _ 3 32 Try.underlying24 hi0 hz0 hz1 hz2 rfl (by decide) _ _ _ rfl HO1.out (some ⟨W1.heap.size,0,none⟩) 1 1 ?d0 [.int .i64 1,.int .i64 (H.length:Nat),.string ⟨#[]⟩] rfl rfl ?d1 ?d2 ?d3 ?d4 ?d5 ?_))
   case d0=>intro h;cases h
   case d1=>exact aX6 W1 ⟨1,(H.length:Int),⟨#[]⟩⟩ rfl
   case d2=>exact bL3 ⟨1,(H.length:Int),⟨#[]⟩⟩
   case d3=>unfold maxLen;omega
   case d4=>omega
   case d5=>simp only[aSz] at hsz1 ⊢;omega
   ·intro v4 w4 hown4 hgrow4 hfr4
    have hp:=HH1.out.push (c:=⟨1,(H.length:Int),⟨#[]⟩⟩) ⟨(by show I64 1;unfold I64;omega),(by show I64 (H.length:Int);unfold I64;omega),Nat.zero_le _⟩ ((bR _ _).alloc (nR _) (.cells #[.int .i64 1,.int .i64 H.length,.string ⟨#[]⟩] 69)) hown4 hgrow4 hfr4 bm;have HPP:=lh hp;have HV4:Hid (VAt w4 bm (n+1) (oW V tv H.length)):=lh (HV1.out.keep ((hgrow4.block bm (by simp only[aSz];have:=HV1.out.lt;omega) (fun e=>HVB.out e.symm)).trans (Below.heap_alloc _ _ _ HV1.out.lt)));obtain⟨g4,cap4,rfl⟩:=bQ hown4 (by omega);clear hp hown4 hgrow4 hfr4;go_wp2_with fail;rw[HO.out];exact bodyPost_ret (v:=.tuple #[.slice (some ⟨g4,0,none⟩) (H.length+1) cap4,.int .i64 (H.length:Nat)]) (by simp[results,Try.results71,go_sem]) rfl
     ⟨_,n+1,rfl,HPP.out.1,HV4.out,by simp only[List.length_append,List.length_cons,List.length_nil];omega,by
      rcases HPP.out.2.1 with e|e
      ·exact .inl e
      ·exact .inr fun g hg=>by have:=e g hg;have:=HTT.out.size;omega,HTT.out.trans HPP.out.2.2⟩
 ·have hv0:tv=0:=Decidable.of_not_not hv
  subst hv0;have HO:=lh (bE9 (H:=H) (V:=V) (n:=tn) (l:=l));have hll:l.length≤1000000:=by
   have:=Tm.length_le_sizes l;simp only[Tm.size] at hlen;omega
  have hlen0:H.length+2*(1+Tm.sizes l)≤1000000:=by simpa only[Tm.size] using hlen
  have HLEN:=lh hlen0;have hHl:H.length≤1000000:=by omega
  have HNF:Hid (tn.size≤maxLen):=lh HF.out.2;have hA4:dP (w.alloc (.cells #[.int .i64 0,.string tn,.slice a l.length cap] 71)) w.heap.size (.int .i64 0) (.string tn) (.slice a l.length cap):=dP.made w _ _ _;have hTW:Ts (w.alloc (.cells #[.int .i64 0,.string tn,.slice a l.length cap] 71)) ok l a cap:=HT'.out.keep (aD.below HBA.out ok);have hsz0:(w.alloc (.cells #[.int .i64 0,.string tn,.slice a l.length cap] 71)).heap.size=w.heap.size+1:=aSz _ _;have HA4:=lh hA4;have HTW:=lh hTW;have HSZ0:=lh hsz0;have HVL:Hid (∀g,(Value.slice va H.length vc).ownBlock=some g→g<w.heap.size):=lh fun g hg=>(HH.out.row.lt g hg).2
  have HBM:Hid (bm<w.heap.size):=lh HV.out.lt;clear hv hA4 hTW hsz0 hlen hlen0 hsz;have x0:=HA4.out.c0;have x1:=HA4.out.c1;have x2:=HA4.out.c2;have HO1:=lh (HHA.out.row.alloc (.cells #[.int .i64 2,.int .i64 l.length,.string tn] 69));go_enter Try.func71,Try.ntmps71;have hbs0:base≤w.heap.size+1:=by omega
  go_wp2_with (first
   | (at_builtin;have _g:=HO1;refine aJ _ rfl _ _ 24 rfl base 69 i0 _ 3 32 Try.underlying24 hi0 hz0 hz1 hz2 rfl (by decide) _ _ _ rfl HO1.out (some ⟨w.heap.size+1,0,none⟩) 1 1 ?e0 [.int .i64 2,.int .i64 (l.length:Nat),.string tn] rfl rfl ?e1 ?e2 ?e3 ?e4 ?e5 ?_))
  case e0=>intro h;cases h
  case e1=>exact aX6 (w.alloc (.cells #[.int .i64 0,.string tn,.slice a l.length cap] 71)) ⟨2,(l.length:Int),tn⟩ (by simp only[aSz])
  case e2=>exact bL3 ⟨2,(l.length:Int),tn⟩
  case e3=>unfold maxLen;omega
  case e4=>omega
  case e5=>simp only[aSz];omega
  ·intro v4 w4 hown4 hgrow4 hfr4
   have hp:=HHA.out.push (c:=⟨2,(l.length:Int),tn⟩) ⟨(by show I64 2;unfold I64;omega),(by show I64 (l.length:Int);unfold I64;omega),HNF.out⟩ ((bR _ _).alloc (nR _) (.cells #[.int .i64 2,.int .i64 l.length,.string tn] 69)) hown4 hgrow4 hfr4 bm;have HP:=lh hp.1;have HFR:=lh hp.2.1;have HTT:=lh hp.2.2;have hv4:VAt w4 bm n V:=HVA.out.keep ((hgrow4.block bm (by simp only[aSz];have:=HBM.out;omega) (fun e=>HVB.out e.symm)).trans (Below.heap_alloc _ _ _ HVA.out.lt));have HV4:=lh hv4;obtain⟨g4,cap4,rfl⟩:=bQ hown4 (by omega);clear hp hown4 hgrow4 hfr4 HO1 x0 x1 x2 hv4;have hq:dP w4 w.heap.size (.int .i64 0) (.string tn) (.slice a l.length cap):=HA4.out.keep (HTT.out.block _ HA4.out.lt (fun e=>e.elim (fun e=>by have:=HVL.out _ e;omega) (fun e=>by have:=HBM.out;omega)));have x0:=hq.c0;have x1:=hq.c1;have x2:=hq.c2;have HBX:Hid (∀u,aA (oY (.slice va H.length vc) bm) (w.alloc (.cells #[.int .i64 0,.string tn,.slice a l.length cap] 71)) u→dP u w.heap.size (.int .i64 0) (.string tn) (.slice a l.length cap)):=lh fun u hu=>HA4.out.keep (hu.block _ HA4.out.lt (fun e=>e.elim (fun e=>by have:=HVL.out _ e;omega) (fun e=>by have:=HBM.out;omega)))
   clear hq;go_wp2_with fail;clear x0 x1 x2
   go_loopw[0,54] (fun v0 v54 wr=>∃j:Nat,j≤l.length∧v54=.int .i64 j∧eT wr base v0 (H++[⟨2,(l.length:Int),tn⟩]++List.replicate j (⟨1,0,⟨#[]⟩⟩:HC))∧VAt wr bm n V∧Hid (cF (w.alloc (.cells #[.int .i64 0,.string tn,.slice a l.length cap] 71)) (.slice va H.length vc) v0)∧Hid (aA (oY (.slice va H.length vc) bm) (w.alloc (.cells #[.int .i64 0,.string tn,.slice a l.length cap] 71)) wr)) (fun _ v54 _=>l.length-(intOf v54).toNat)
   case atStart=>exact⟨0,Nat.zero_le _,rfl,by simpa using HP.out,HV4.out,HFR,HTT⟩
   case round =>
    obtain⟨j,hj,rfl,hho,hva,HF0,HT0⟩:=hrel;have HHO:=lh hho;have HVO:=lh hva;obtain⟨ua,uc,hue⟩:=hho.form;subst hue;have hq:=HBX.out wr HT0.out;have x0:=hq.c0;have x1:=hq.c1;have x2:=hq.c2;clear hho hva hq;have hcl:(H++[(⟨2,(l.length:Int),tn⟩:HC)]++List.replicate j (⟨1,0,⟨#[]⟩⟩:HC)).length=H.length+1+j:=by simp;omega
    by_cases hlt:j<l.length
    ·have HO2:=lh (HHO.out.row.alloc (.cells #[.int .i64 1,.int .i64 0,.string ⟨#[]⟩] 69))
     have HCL:=lh hcl;have HRE:Hid (H++[(⟨2,(l.length:Int),tn⟩:HC)]++List.replicate j (⟨1,0,⟨#[]⟩⟩:HC)++[(⟨1,0,⟨#[]⟩⟩:HC)]=H++[(⟨2,(l.length:Int),tn⟩:HC)]++List.replicate (j+1) (⟨1,0,⟨#[]⟩⟩:HC)):=lh (by rw[List.append_assoc,List.replicate_succ']);have hws:base≤wr.heap.size+1:=by have:=HT0.out.size;have:=HSZ0.out;omega
     clear hcl;generalize H++[(⟨2,(l.length:Int),tn⟩:HC)]++List.replicate j (⟨1,0,⟨#[]⟩⟩:HC)=Hj at *;go_wp2_with (first
      | (at_builtin;have _g:=HO2;refine aJ _ rfl _ _ 24 rfl base 69 i0 _ 3 32 Try.underlying24 hi0 hz0 hz1 hz2 rfl (by decide) _ _ _ rfl HO2.out (some ⟨wr.heap.size,0,none⟩) 1 1 ?f0 [.int .i64 1,.int .i64 0,.string ⟨#[]⟩] rfl rfl ?f1 ?f2 ?f3 ?f4 ?f5 ?_))
     case f0=>intro h;cases h
     case f1=>exact aX6 wr ⟨1,0,⟨#[]⟩⟩ rfl
     case f2=>exact bL3 ⟨1,0,⟨#[]⟩⟩
     case f3=>have:=HCL.out;unfold maxLen;omega
     case f4=>have:=HCL.out;omega
     case f5=>simp only[aSz];omega
     ·intro v5 w5 hown5 hgrow5 hfr5
      have hp:=HHO.out.push (c:=⟨1,0,⟨#[]⟩⟩) ⟨(by show I64 1;unfold I64;omega),(by show I64 0;unfold I64;omega),Nat.zero_le _⟩ ((bR _ _).alloc (nR _) (.cells #[.int .i64 1,.int .i64 0,.string ⟨#[]⟩] 69)) hown5 hgrow5 hfr5 bm;have hne:(Value.slice ua Hj.length uc).ownBlock≠some bm:=fun e=>by
       rcases HF0.out with e2|e2
       ·exact HVB.out (e2 ▸ e)
       ·have:=e2 bm e;have:=HBM.out;have:=HSZ0.out;omega
      have hv5:VAt w5 bm n V:=HVO.out.keep ((hgrow5.block bm (by simp only[aSz];have:=HVO.out.lt;omega) (fun e=>hne e.symm)).trans (Below.heap_alloc _ _ _ HVO.out.lt));have HP5:=lh hp.1;have HFR5:=lh (HF0.out.trans hp.2.1 HT0.out.size);have HT5:=lh (HT0.out.freshP HF0.out hp.2.2);have HV5:=lh hv5;obtain⟨g5,cap5,rfl⟩:=bQ hown5 (by omega);clear hp hown5 hgrow5 hfr5 hne hv5;go_wp2_with fail;go_roundw
      case measure=>simp[intOf];omega
      case rel=>exact⟨j+1,by omega,by go_num,by rw[←HRE.out];exact HP5.out,HV5.out,HFR5,HT5⟩
    ·have hje:j=l.length:=by omega
     subst hje;have HL1:Hid ((H++[(⟨2,(l.length:Int),tn⟩:HC)]++List.replicate l.length (⟨1,0,⟨#[]⟩⟩:HC)).length=H.length+1+l.length):=lh hcl;have HSZL:=lh (Tm.length_le_sizes l);clear hcl;generalize H++[(⟨2,(l.length:Int),tn⟩:HC)]++List.replicate l.length (⟨1,0,⟨#[]⟩⟩:HC)=H1 at *;go_wp2_with fail;clear x0 x1 x2
     go_loopw[0,64] (fun v0 v64 wz=>∃(i ni:Nat) (Hi:List HC) (Vi:CV),i≤l.length∧v64=.int .i64 i∧eT wz base v0 Hi∧VAt wz bm ni Vi∧ni≤Hi.length∧Hid (eV H1 V (H.length+1) l=eV Hi Vi (H.length+1+i) (l.drop i))∧Hid (Hi.length+2*Tm.sizes (l.drop i)+1≤H.length+2*(1+Tm.sizes l)+(l.length-i))∧H.length+1+l.length≤Hi.length∧Hid (VB Vi 1000000)∧Hid (cF (w.alloc (.cells #[.int .i64 0,.string tn,.slice a l.length cap] 71)) (.slice va H.length vc) v0)∧Hid (aA (oY (.slice va H.length vc) bm) (w.alloc (.cells #[.int .i64 0,.string tn,.slice a l.length cap] 71)) wz)) (fun _ v64 _=>l.length-(intOf v64).toNat)
     case atStart=>exact⟨0,n,H1,V,Nat.zero_le _,rfl,HHO.out,HVO.out,by have:=HL1.out;omega,lh rfl,lh (by have:=HL1.out;rw[List.drop_zero];omega),by have:=HL1.out;omega,HVBD,HF0,HT0⟩
     case round =>
      obtain⟨i,ni,Hi,Vi,hi,rfl,hhi,hvi,hni,HPA,HBD,hHi,HVBi,HFi,HTi⟩:=hrel;have HHi:=lh hhi;have HVi:=lh hvi;obtain⟨ya,yc,hye⟩:=hhi.form;subst hye;have HTZ:=lh (HTW.out.keep (HTi.out.keeps fun b hb e=>e.elim (fun e=>(HOK.out b hb).2.1 e) (fun e=>(HOK.out b hb).2.2 e)));have hHil:Hi.length≤9223372036854775807:=by have:=HBD.out;have:=HLEN.out;omega
      clear hhi hvi;by_cases hlt:i<l.length
      ·obtain⟨bb,off,a',cap',rfl,hokb,hbs,hc3,ht3⟩:=HTZ.out.at i hlt
       have m0:=hc3.var;have m1:=hc3.name;have m2:=hc3.args;have HFX:=lh hc3.fits;have BX:Below wr.heap.size wr (wr.alloc (.cells #[.int .i64 l[i].var,.string l[i].name,.slice a' l[i].args.length cap'] 71)):=(bR _ _).alloc (nR _) _;have HBX2:=lh BX;have HDS:Hid (Tm.sizes (l.drop i)=l[i].size+Tm.sizes (l.drop (i+1))∧l.length-(i+1)≤Tm.sizes (l.drop (i+1))):=lh (by
        have h1:=Tm.length_le_sizes (l.drop (i+1));rw[List.length_drop] at h1;exact⟨by rw[List.drop_eq_getElem_cons hlt];rfl,h1⟩)
       have hyb:(Value.slice ya Hi.length yc).ownBlock≠some bm:=fun e=>by
        rcases HFi.out with e2|e2
        ·exact HVB.out (e2 ▸ e)
        ·have:=e2 bm e;have:=HBM.out;have:=HSZ0.out;omega
       have hyo:∀b,ok b→(Value.slice ya Hi.length yc).ownBlock≠some b:=fun b hb e=>by
        rcases HFi.out with e2|e2
        ·exact(HOK.out b hb).2.1 (e2 ▸ e)
        ·have:=e2 b e;have:=(HOK.out b hb).1;have:=HSZ0.out;omega
       have HCL:=lh (IH.out l[i] (List.getElem_mem hlt) (wr.alloc (.cells #[.int .i64 l[i].var,.string l[i].name,.slice a' l[i].args.length cap'] 71)) ok a' cap' base bm ni (.slice ya Hi.length yc) Hi Vi hc3.fits (ht3.keep (aD.below BX ok)) (fun b hb=>⟨by have:=(HOK.out b hb).1;have:=HTi.out.size;have:=HSZ0.out;have:=BX.size;omega,hyo b hb,(HOK.out b hb).2.2⟩) (HHi.out.below BX) (HVi.out.keep (BX.block bm HVi.out.lt)) hni hyb (by have:=HTi.out.size;have:=HSZ0.out;have:=BX.size;omega)
        (by have h1:=HBD.out;have h2:=HDS.out;have h3:=HLEN.out;omega) HVBi.out)
       have HIX:=lh (qA l[i] Hi Vi 1000000 HVBi.out (by have h1:=HBD.out;have h2:=HDS.out;have h3:=HLEN.out;omega));have HPC:Hid (eV H1 V (H.length+1) l=eV (setN (putT Hi Vi l[i]).1.1 (H.length+1+i) (putT Hi Vi l[i]).2) (putT Hi Vi l[i]).1.2 (H.length+1+(i+1)) (l.drop (i+1))):=lh (by
        rw[HPA.out,List.drop_eq_getElem_cons hlt,fC];rfl)
       have HTL:=lh (kZ l[i] Hi Vi);have HTG:=lh (rF l[i] Hi Vi);clear hc3 ht3 BX hyb hyo;generalize putT Hi Vi l[i]=r at *;go_wp2_with fail;refine HCL.out.mono ?_;rintro e w5 ⟨v5,n5,rfl,hh5,hv5,hn5,hf5,ht5⟩;have hr1:H.length+1+l.length≤r.1.1.length:=by have:=HTG.out;omega
       have hpos:1≤r.1.1.length:=by omega
       obtain⟨g5,cap5,rfl⟩:=bQ hh5.row hpos;have hset:=hh5.set rfl (p:=H.length+1+i) (t:=r.2) (by omega) (by have:=HIX.out.1;omega);obtain⟨f0,f1,f2⟩:=pZ r.1.1 (H.length+1+i) (by omega);have y1:w5.cell? ⟨g5,(H.length+1+i)*3+1,none⟩=some (.int .i64 (hc r.1.1 (H.length+1+i)).n):=(hh5.row.cellAt _ (by omega)).trans f1;have yf:∀o,w5.frozen? ⟨g5,o,none⟩=false:=fun o=>hh5.row.frozenAt o
       have hg5:g5<w5.heap.size:=(hh5.row.lt g5 rfl).2;have HF5:=lh (HFi.out.trans (hf5.old HBX2.out.size) HTi.out.size);have HT5:=lh (HTi.out.freshP HFi.out ((aA.below HBX2.out).trans ht5));have hg5b:g5≠bm:=fun e=>by
        rcases HF5.out with e2|e2
        ·exact HVB.out (by rw[←e2];simp only[Value.ownBlock,Option.some.injEq];exact e)
        ·have:=e2 g5 rfl;have:=HBM.out;have:=HSZ0.out;omega
       have HS5:=lh hset;have HV5:Hid (VAt (w5.setCell ⟨g5,(H.length+1+i)*3+1,none⟩ (.int .i64 (r.2:Nat))) bm n5 r.1.2):=lh (hv5.keep (Below.heap_setCell _ _ _ _ (fun e=>hg5b e.symm)));have HT6:=lh (HT5.out.freshP HF5.out (aA.setCell (w:=w5) (p:=⟨g5,(H.length+1+i)*3+1,none⟩) (.int .i64 (r.2:Nat)) (.inl rfl)));have hix:(H.length:Int)+1+(i:Int)<(r.1.1.length:Int):=by omega
       clear hset f0 f1 f2 hh5 hv5 hf5 ht5;go_wp2_with fail;go_roundw
       case measure=>simp[intOf];omega
       case rel =>
        exact⟨i+1,n5,setN r.1.1 (H.length+1+i) r.2,r.1.2,by omega,by go_num,HS5.out,HV5.out,by rw[aL];exact hn5,HPC,lh (by
         rw[aL];have h1:=HBD.out;have h2:=HDS.out;have h3:=HTL.out;omega),by rw[aL];exact hr1,lh HIX.out.2,HF5,HT6⟩
      ·have HPE:Hid (eV H1 V (H.length+1) l=(Hi,Vi)):=lh (by rw[HPA.out,List.drop_eq_nil_of_le (by omega),iA])
       go_wp2_with fail;rw[HO.out,HPE.out];exact bodyPost_ret (v:=.tuple #[.slice ya Hi.length yc,.int .i64 (H.length:Nat)]) (by simp[results,Try.results71,go_sem]) rfl
        ⟨_,ni,rfl,HHi.out,HVi.out,hni,by
         rcases HFi.out with e|e
         ·exact .inl e
         ·exact .inr fun g hg=>by have:=e g hg;have:=HSZ0.out;omega,(aA.below HBA.out).trans HTi.out⟩

theorem mO(w:World)(d:Nat)(a a':Int):(Op.equalIn (d+1) 3 (.int .i64 a) (.int .i64 a')).run Try.prog w=.ok (a == a') w:=by kernel_rfl
theorem aD6(w:World)(d:Nat)(a a':ByteArray):(Op.equalIn (d+1) 9 (.string a) (.string a')).run Try.prog w=.ok (a == a') w:=by kernel_rfl
theorem aJ8(w:World)(d:Nat)(a b:Int)(n:ByteArray)(a' b':Int)(n':ByteArray):(Op.equalIn (d+2) 69 (.agg #[.int .i64 a,.int .i64 b,.string n]) (.agg #[.int .i64 a',.int .i64 b',.string n'])).run Try.prog w =
 ((
  (Op.equalIn (d+1) 3 (.int .i64 a) (.int .i64 a')).run Try.prog w).andThen fun x w=>if (!x)=true then .ok false w else
  ((Op.equalIn (d+1) 3 (.int .i64 b) (.int .i64 b')).run Try.prog w).andThen fun x w=>if (!x)=true then .ok false w else
  ((Op.equalIn (d+1) 9 (.string n) (.string n')).run Try.prog w).andThen fun x w=>if (!x)=true then .ok false w else .ok true w):=by
 conv=>lhs;unfold Op.equalIn
 go_simp
theorem aX7(w:World)(a b:Int)(n:ByteArray)(a' b':Int)(n':ByteArray):(binOp .neq 69 (.agg #[.int .i64 a,.int .i64 b,.string n]) (.agg #[.int .i64 a',.int .i64 b',.string n'])).run Try.prog w=.ok (.bool (!((a == a') && ((b == b') && (n == n'))))) w:=by
 have h:=aJ8 w 9998 a b n a' b' n';simp only[mO,aD6,Result.andThen_ok] at h;have h2:(Op.equal 69 (.agg #[.int .i64 a,.int .i64 b,.string n]) (.agg #[.int .i64 a',.int .i64 b',.string n'])).run Try.prog w=.ok ((a == a') && ((b == b') && (n == n'))) w:=by
  refine Eq.trans h ?_;cases (a == a') <;> cases (b == b') <;> cases (n == n') <;> rfl
 unfold binOp;simp only[Sem.run_bind,h2,Result.andThen_ok,Sem.run_pure]
theorem aR0{a b:ByteArray}:(a == b)=true↔a=b:=by
 obtain⟨a⟩:=a;obtain⟨b⟩:=b
 constructor
 ·intro h
  have h2:(a == b)=true:=h;rw[beq_iff_eq] at h2;rw[h2]
 ·intro h
  have h2:a=b:=by injection h
  subst h2;show (a == a)=true;rw[beq_iff_eq]
def aO1(c d:HC):Bool:=(c.k == d.k) && ((c.n == d.n) && (c.name == d.name))
theorem aR1{c d:HC}:aO1 c d=true↔c=d:=by
 cases c;cases d;simp only[aO1,Bool.and_eq_true,beq_iff_eq,aR0,HC.mk.injEq]
theorem bF0{l r:List HC}(hlen:l.length=r.length)(h:∀j,j<l.length→hc l j=hc r j):l=r:=by
 refine List.ext_getElem hlen fun j h1 h2=>?_
 have:=h j h1
 rwa [lV h1,lV h2] at this
noncomputable def mP(l r:List HC):Bool:=@decide (l=r) (Classical.propDecidable _)
theorem sM{l r:List HC}(h:l=r):mP l r=true:=by unfold mP;exact @decide_eq_true _ (Classical.propDecidable _) h
theorem qB{l r:List HC}(h:¬l=r):mP l r=false:=by unfold mP;exact @decide_eq_false _ (Classical.propDecidable _) h
theorem aR2{w:World}{ok ok2:Nat→Prop}{l r:List HC}{a b:Option Addr}{c d:Nat}(hl:dV w ok l a c)(hr:dV w ok2 r b d) :
 Calls Try.prog 33 #[.slice a l.length c,.slice b r.length d] w fun e w'=>e=.returned (.bool (mP l r))∧Below w.heap.size w w':=by
 have HL:=lh hl;have HR:=lh hr;have h1:l.length≤9223372036854775807:=by have:=hl.cap;unfold maxLen at this;omega
 have h2:r.length≤9223372036854775807:=by have:=hr.cap;unfold maxLen at this;omega
 clear hl hr;by_cases hlen:l.length=r.length
 ·have hlen':((l.length:Int) != (r.length:Int))=false:=by rw[hlen];simp
  have HLE:=lh hlen;clear hlen;go_enter Try.func33,Try.ntmps33;go_wp2_with fail;clear hlen'
  go_loopw[5] (fun v5 wr=>∃i:Nat,i≤l.length∧v5=.int .i64 i∧Hid (∀j,j<i→hc l j=hc r j)∧Hid (Below w.heap.size w wr)) (fun v5 _=>l.length-(intOf v5).toNat)
  case atStart=>exact⟨0,Nat.zero_le _,rfl,lh (fun j hj=>absurd hj (Nat.not_lt_zero j)),lh (bR _ _)⟩
  case round =>
   obtain⟨i,hi,rfl,HTK,HB⟩:=hrel;by_cases hlt:i<l.length
   ·have hlt2:i<r.length:=by have:=HLE.out;omega
    obtain⟨b1,o1,rfl,-,hb1,c0,c1,c2,-⟩:=HL.out.at' i hlt;obtain⟨b2,o2,rfl,-,hb2,d0,d1,d2,-⟩:=HR.out.at' i hlt2;have m0:=(HB.out.cell (p:=⟨b1,_,none⟩) hb1).trans c0;have m1:=(HB.out.cell (p:=⟨b1,_,none⟩) hb1).trans c1;have m2:=(HB.out.cell (p:=⟨b1,_,none⟩) hb1).trans c2;have n0:=(HB.out.cell (p:=⟨b2,_,none⟩) hb2).trans d0;have n1:=(HB.out.cell (p:=⟨b2,_,none⟩) hb2).trans d1;have n2:=(HB.out.cell (p:=⟨b2,_,none⟩) hb2).trans d2;clear c0 c1 c2 d0 d1 d2 hb1 hb2;have DQ:=bP wr;have HSC:=lh (aR1 (c:=hc l i) (d:=hc r i));have hq:=fun wz=>aX7 wz (hc l i).k (hc l i).n (hc l i).name (hc r i).k (hc r i).n (hc r i).name
    have hsc:((hc l i).k == (hc r i).k && ((hc l i).n == (hc r i).n && (hc l i).name == (hc r i).name))=aO1 (hc l i) (hc r i):=rfl;simp only[hsc] at hq;clear hsc;generalize aO1 (hc l i) (hc r i)=sc at *;cases sc with
    | true =>
     have he:hc l i=hc r i:=HSC.out.1 rfl;have HTK2:Hid (∀j,j<i+1→hc l j=hc r j):=lh (fun j hj=>by
      by_cases e:j=i
      ·subst e;exact he
      ·exact HTK.out j (by omega))
     clear he;go_wp2_with fail
     go_quiet (fail)
     rename_i nq;have hB:=DQ nq;generalize wr.drewN nq=wq at *;go_wp2_with fail;go_roundw
     case measure=>simp[intOf];omega
     case rel=>exact⟨i+1,by omega,by go_num,HTK2,lh (HB.out.trans (hB.mono HB.out.size))⟩
    | false =>
     have HF:Hid (mP l r=false):=lh (qB fun e=>by subst e;exact absurd (HSC.out.2 rfl) (by decide));go_wp2_with fail
     go_quiet (fail)
     rename_i nq;have hB:=DQ nq;generalize wr.drewN nq=wq at *;go_wp2_with fail;go_ret;exact⟨by rw[HF.out];rfl,HB.out.trans (hB.mono HB.out.size)⟩
   ·have HT:Hid (mP l r=true):=lh (sM (bF0 HLE.out fun j hj=>HTK.out j (by omega)))
    go_wp2_with fail;go_ret;exact⟨by rw[HT.out];rfl,HB.out⟩
 ·have hlen':((l.length:Int) != (r.length:Int))=true:=by rw[bne_iff_ne];omega
  have HF:Hid (mP l r=false):=lh (qB fun e=>hlen (by rw[e]));clear hlen;go_enter Try.func33,Try.ntmps33;go_wp2_with fail;go_ret;exact⟨by rw[HF.out];rfl,Below.refl _ _⟩
end Go.Proofs.Ytikmgiapjigghab
