/- The searcher's names of variables in memory; walk: its naming closure. -/
import Derived.Test.YtikmgiapjigghabCb04
import Derived.Test.YtikmgiapjigghabCb11
import Derived.Test.YtikmgiapjigghabCb16
namespace Go.Proofs.Ytikmgiapjigghab
open Go.RowKit
def nameG(s:List Int):Int→Option Value:=fun x=>if x∈s then some (.int .i64 (numIn s x)) else none
theorem numVN_old{s:List Int}{v:Int}(h:v∈s):numV s v=(numIn s v,s):=by
 unfold numV numIn addV;rw[if_pos h]
theorem numVN_new{s:List Int}{v:Int}(h:v ∉ s):numV s v=((s.length:Int)+1,s++[v]):=by
 unfold numV addV
 rw[if_neg h,List.idxOf_append,if_neg h]
 simp
theorem nameG_push{s:List Int}{c:Int}(h:c ∉ s):nameG (s++[c])=setAt (nameG s) c (some (.int .i64 ((s.length:Int)+1))):=by
 funext x
 simp only[nameG,setAt]
 by_cases e:x=c
 ·subst e
  rw[if_pos (by simp),if_pos rfl]
  unfold numIn
  rw[List.idxOf_append,if_neg h]
  simp
 ·rw[if_neg e]
  by_cases hx:x∈s
  ·rw[if_pos (by simp[hx]),if_pos hx]
   unfold numIn
   rw[List.idxOf_append,if_pos hx]
  ·rw[if_neg (by simp[hx,e]),if_neg hx]
theorem zeroIntN(w:World):(zeroValue 3).run Try.prog w=.ok (.int .i64 0) w:=by kernel_rfl
theorem numVN_rng(s:List Int)(v:Int):1≤(numV s v).1∧(numV s v).1≤(s.length:Int)+1:=by
 have h1:(addV s v).length≤s.length+1:=by
  unfold addV
  split
  ·omega
  ·simp
 have h3:(addV s v).idxOf v<(addV s v).length:=List.idxOf_lt_length_iff.2 (addV_mem s v)
 simp only[numV]
 omega
theorem IMap.len{P:Program}{kt t e:TypeId}{w:World}{b n:Nat}{f:Int→Option Value}(h:IMap P kt w b n f)(ht:P.underlying t=some (.map kt e))(ty:TypeId):(Builtin.len_ #[t] ty #[.map (some b)]).run P w=.ok (.int .i64 n) w:=by
 obtain⟨D,h1,h2,_⟩:=h
 rw[h1.len ht ty,h2]
theorem IMap.look0{P:Program}{kt t e:TypeId}{w:World}{b n:Nat}{f:Int→Option Value}(h:IMap P kt w b n f)(K:Go.Maps.Keyed P kt)(hkt:P.underlying kt=some (.int .i64))(ht:P.underlying t=some (.map kt e)){z:Value}(hz:(zeroValue e).run P w=.ok z w){k:Int}(hk:I64 k){v:Value}(hf:f k=some v) :
 (Instr.lookup t (.map (some b)) (.int .i64 k) false).run P w=.ok v w:=by
 obtain⟨D,h1,_,h2⟩:=h
 obtain⟨u,ps,hrun,hv⟩:=h1.lookup K ht hz (zd:=.held z) (zp:=[]) rfl (Go.Maps.keyOf_int_mk hkt (i64_wf hk))
 rw[hrun]
 obtain⟨_,h4⟩:=h2 k hk
 simp only[heldV,Option.some.injEq,Prod.mk.injEq] at hv
 obtain⟨_,h6⟩:=h4 v hf
 rw[h6] at hv
 have h7:u=v:=by have:=hv.1;injection this
 rw[h7]
structure NmI(nb bm:Nat)(w:World)(s:List Int):Prop where
 blk:w.heap[nb]? = some (.cells #[.map (some bm)] 114 (0,0))
 map:IMap Try.prog 3 w bm s.length (nameG s)
 ne:nb≠bm
theorem NmI.keep{nb bm:Nat}:∀ (w w':World) (s:List Int),NmI nb bm w s→(∀ b,(b=nb∨b=bm)→w'.heap[b]? = w.heap[b]?)→w.heap.size≤w'.heap.size→NmI nb bm w' s:=fun _ _ _ h hk _ =>
 ⟨(hk nb (.inl rfl)).trans h.blk,h.map.kept (hk bm (.inr rfl)),h.ne⟩
set_option maxRecDepth 100000 in
set_option maxHeartbeats 2000000 in
theorem nameW{nb bm:Nat}(w:World)(s:List Int)(v:Int)(h:NmI nb bm w s)(hs:s.length≤1000)(hv:I64 v) :
 Calls Try.prog 100 #[.int .i64 v,.pointer (some ⟨nb,0,none⟩)] w fun e w'=>e=.returned (.int .i64 (numV s v).1)∧NmI nb bm w' (numV s v).2∧I64 (numV s v).1∧Touch (fun b=>b=nb∨b=bm) w w':=by
 have c0:w.cell? ⟨nb,0,none⟩=some (.map (some bm)):=by simp[World.cell?,h.blk]
 have hl:=IMap.look h.map keyedI Try.underlying3 Try.underlying114 (zeroIntN w) hv
 have HR:=lh (numVN_rng s v)
 have HI:Hid (I64 (numV s v).1):=lh (by have:=HR.out;unfold I64;omega)
 have H:=lh h
 by_cases hin:v∈s
 ·have e:nameG s v=some (.int .i64 (numIn s v)):=by simp only[nameG];rw[if_pos hin]
  rw[e] at hl
  simp only[Option.getD_some,Option.isSome_some] at hl
  have HIN:=lh hin
  clear h e hin
  go_enter Try.func100,Try.ntmps100
  go_wp2_with fail
  go_ret
  exact⟨by rw[numVN_old HIN.out];rfl,by rw[numVN_old HIN.out];exact H.out,HI.out,Touch.refl _ _⟩
 ·have e:nameG s v=none:=by simp only[nameG];rw[if_neg hin]
  rw[e] at hl
  simp only[Option.getD_none,Option.isSome_none] at hl
  obtain⟨w9,hrun,hm9,hg9⟩:=h.map.store keyedI Try.underlying3 Try.underlying114 (by unfold maxLen;omega) hv (.int .i64 ((s.length:Int)+1)) e
  have hb9:w9.heap[nb]? = some (.cells #[.map (some bm)] 114 (0,0)):=(hg9.block nb (Array.getElem?_eq_some_iff.1 h.blk).1 (fun e=>h.ne (by injection e))).trans h.blk
  have HN9:Hid (NmI nb bm w9 (s++[v])):=lh ⟨hb9,by rw[nameG_push hin,List.length_append];exact hm9,h.ne⟩
  have HT9:Hid (Touch (fun b=>b=nb∨b=bm) w w9):=lh (Touch.grown hg9 (fun k e=>by cases e;exact .inr rfl))
  have d0:w9.cell? ⟨nb,0,none⟩=some (.map (some bm)):=by simp[World.cell?,hb9]
  have e9:nameG (s++[v]) v=some (.int .i64 ((s.length:Int)+1)):=by rw[nameG_push hin];simp[setAt]
  have hl9:=IMap.look0 HN9.out.map keyedI Try.underlying3 Try.underlying114 (zeroIntN w9) hv e9
  have hlen:=h.map.len (t:=114) Try.underlying114 3
  have HIN:=lh hin
  clear h e hin hm9 hg9 hb9 e9
  go_enter Try.func100,Try.ntmps100
  go_wp2_with fail
  go_ret
  exact⟨by rw[numVN_new HIN.out];rfl,by rw[numVN_new HIN.out];exact HN9.out,HI.out,HT9.out⟩
section
variable {w w':World} {br bs bm:Nat} {tv cv av:Value} {np pa:Option Addr} {pc:Nat} {p:List Cl} {query:Nat} {S S':PS} {wk:Nat}
theorem SAt.avTurn(h:SAt w br bs bm tv cv av np pa pc p query S wk)(hT:Touch (fun b=>b=br∨av.ownBlock=some b) w w'){av':Value}(f3:Fresh w av av')
 (hblk:w'.heap[br]? = some (.cells #[.slice pa p.length pc,.pointer (some ⟨bs,0,none⟩),.int .i64 S'.vars,.int .i64 query,cv,.pointer np,av',.int .i64 S'.fin,.int .i64 S'.steps] 95 (0,0)))
 {A:List ((Option Addr×Nat)×List Tm)} (hA:A.map (·.2)=S'.ans) (hrow:w'.ownsRow 0 78 1 av' A.length (flatA A)) (hts:∀ x,x∈A→Ts w (OkS w br bs bm tv cv av) x.2 x.1.1 x.1.2)
 (hσ:S'.σ = S.σ) (hL:S'.L=S.L) (hc:S'.ch=S.ch) (hn:S'.now=S.now) :
 SAt w' br bs bm tv cv av' np pa pc p query S' wk∧Touch (SM br bs bm tv cv av) w w':=by
 have ht':Touch (SM br bs bm tv cv av) w w':=hT.mono fun b _ e=>e.elim .inl (fun e=>.inr (.inr (.inr e)))
 obtain⟨hk,hm⟩:=okS_step ht' (Fresh.self w tv) (Fresh.self w cv) f3
 have hm':∀ b,b<w'.heap.size→OkS w br bs bm tv cv av b→OkS w' br bs bm tv cv av' b:=fun b _=>hm b
 have hnS:∀ b,(b=br∨av.ownBlock=some b)→¬ StM bs bm tv b:=fun b hb e=>by
  rcases hb with rfl | hb
  ·rcases e with e | e | e
   ·exact h.sep.rs e
   ·exact h.sep.rm e
   ·exact h.sep.rt e
  ·rcases e with rfl | rfl | e
   ·exact h.sep.sa.1 hb
   ·exact h.sep.sa.2.1 hb
   ·exact h.sep.sa.2.2 _ e hb
 refine⟨⟨hblk,?_,(h.prog.keep hk).mono hm',by rw[hn];exact(h.now.keep hk).mono hm',?_,⟨A,hA,hrow,fun q hq=>((hts q hq).keep hk).mono hm'⟩,?_⟩,ht'⟩
 ·rw[hσ,hL]
  exact(h.st.touch hT fun b hb=>⟨hnS b hb,fun e=>e.2 (hb.elim .inl fun e=>.inr (.inr (.inr e)))⟩).okmono hm' fun b=>OkS.st
 ·obtain⟨Q,h1,h2,h3⟩:=h.ch
  exact⟨Q,by rw[hc];exact h1,ownsRow_block h2 fun g hg=>hT.block g (h2.lt g hg).2 (fun e=>e.elim (fun e=>h.sep.rc (e ▸ hg)) fun e=>h.sep.ca g hg e),fun q hq=>((h3 q hq).keep hk).mono hm'⟩
 ·refine⟨h.sep.rs,h.sep.rm,h.sep.rt,h.sep.rc,fun e=>?_,h.sep.cs,⟨fun e=>?_,fun e=>?_,fun g hg e=>?_⟩,fun g hg e=>?_⟩
  ·rcases fresh_or f3 e with e | e
   ·exact h.sep.ra e
   ·have:=h.lt;omega
  ·rcases fresh_or f3 e with e | e
   ·exact h.sep.sa.1 e
   ·have:=h.st.lt;omega
  ·rcases fresh_or f3 e with e | e
   ·exact h.sep.sa.2.1 e
   ·have:=h.st.blocks.1;omega
  ·rcases fresh_or f3 e with e | e
   ·exact h.sep.sa.2.2 g hg e
   ·have:=h.tvLt hg;omega
  ·rcases fresh_or f3 e with e2 | e2
   ·exact h.sep.ca g hg e2
   ·have:=h.cvLt hg;omega
theorem SAt.tell(h:SAt w br bs bm tv cv av np pa pc p query S wk){A:List ((Option Addr×Nat)×List Tm)}(hA:A.map (·.2)=S.ans)(hts:∀ x,x∈A→Ts w (OkS w br bs bm tv cv av) x.2 x.1.1 x.1.2){l:List Tm}{a:Option Addr}{c:Nat}(hl:Ts w (OkS w br bs bm tv cv av) l a c)
 {o:Obj} {X3:World} {av':Value} (ho:X3.ownsRow 0 78 1 av' (A.length+1) (flatA A++[.slice a l.length c])) (hgr:(w.alloc o).grownBy X3 av.ownBlock) (hf:Fresh (w.alloc o) av av') :
 SAt (X3.setCell ⟨br,6,none⟩ av') br bs bm tv cv av' np pa pc p query { S with ans:=S.ans++[l] } wk∧Touch (SM br bs bm tv cv av) w (X3.setCell ⟨br,6,none⟩ av')∧Fresh w av av':=by
 have hA1:Touch (fun b=>b=br∨av.ownBlock=some b) w (w.alloc o):=Touch.below ((Below.refl _ _).alloc (Nat.le_refl _) _)
 have hG:Touch (fun b=>b=br∨av.ownBlock=some b) (w.alloc o) X3:=Touch.grown hgr (fun k e=>.inr e)
 have hS:Touch (fun b=>b=br∨av.ownBlock=some b) X3 (X3.setCell ⟨br,6,none⟩ av'):=Touch.setCell _ (.inl rfl)
 have hF:Fresh w av av':=hf.old (by simp)
 have hb3:X3.heap[br]? = w.heap[br]?:=(hgr.block br (by have:=h.lt;simp;omega) (fun e=>h.sep.ra e.symm)).trans (Below.heap_alloc _ _ _ h.lt)
 have:=h.avTurn (S':={ S with ans:=S.ans++[l] }) ((hA1.trans hG).trans hS) hF (by rw[heap_setCell_at _ _ _ _ (hb3.trans h.blk)];rfl) (A:=A++[((a,c),l)]) (by rw[List.map_append,hA];rfl) (by
  have e:(A++[((a,c),l)]).length=A.length+1:=by simp
  have e2:flatA (A++[((a,c),l)])=flatA A++[.slice a l.length c]:=by simp[flatA]
  rw[e,e2]
  have hne:av'.ownBlock≠some br:=fun e=>(fresh_or hF e).elim h.sep.ra fun e=>by have:=h.lt;omega
  exact ownsRow_block ho fun g hg=>Below.heap_setCell _ _ _ _ (fun e=>hne (by rw[hg];exact congrArg some e))) (fun q hq=>by
  rcases List.mem_append.1 hq with hq | hq
  ·exact hts q hq
  ·rw[List.mem_singleton] at hq;subst hq;exact hl) rfl rfl rfl rfl
 exact⟨this.1,this.2,hF⟩
end
theorem OwnTs.moreM{wb wr wX w1 X2 w2:World}{M ok:Nat→Prop}{L:List TmAt}{x x':Value}(h:OwnTs wr wb.heap.size (OkN ok wb) x L)(hw:Touch M wb wr)(hok:∀ b,ok b→b<wb.heap.size∧¬ M b)(hM:∀ b,M b→b<wb.heap.size)(hX:wr.heap.size≤wX.heap.size)
 (hb:Touch M wr w1) {t:Tm} {a:Option Addr} {c:Nat} (hf:t.fits) (ht:Ts w1 (OkN ok wX) t.args a c) (hX2:Below w1.heap.size w1 X2)
 (ho:w2.ownsRow wb.heap.size 71 3 x' (L.length+1) (flat L++flat [(t,a,c)])) (hg:X2.grownBy w2 x.ownBlock) (hfr:Fresh X2 x x') :
 OwnTs w2 wb.heap.size (OkN ok wb) x' (L++[(t,a,c)])∧Touch M wb w2:=by
 have hxb:∀ g,x.ownBlock=some g→wb.heap.size≤g∧g<wr.heap.size:=fun g hg=>h.block hg
 have hW:Touch M wr X2:=hb.trans (Touch.below hX2)
 have hE:TsEach X2 (Free x (OkN ok wb)) [(t,a,c)]:=by
  refine TsEach.one hf ((ht.keep (Keeps.below hX2 _)).mono fun b _ hk=>?_)
  rcases hk with hk | hk
  ·exact⟨.inl hk,fun e=>by have:=(hxb b e).1;have:=(hok b hk).1;omega⟩
  ·exact⟨.inr (by have:=hw.size;omega),fun e=>by have:=(hxb b e).2;omega⟩
 have hOW:OwnTs X2 wb.heap.size (OkN ok wb) x L:=by
  refine⟨ownsRow_block h.own fun g hg'=>hW.block g (hxb g hg').2 fun hm=>by have:=hM g hm;have:=(hxb g hg').1;omega,?_⟩
  exact h.each.keep (hW.keeps fun b hb hm=>by
   rcases hb.1 with h3 | h3
   ·exact(hok b h3).2 hm
   ·have:=hM b hm;omega)
 refine⟨hOW.append hE (by simpa using ho) hg hfr,?_⟩
 have hT:Touch (fun b=>x.ownBlock=some b) X2 w2:=Touch.grown hg fun k e=>e
 have h2:=hw.trans hW
 exact⟨hT.os.trans h2.os,hT.tape.trans h2.tape,hT.output.trans h2.output,Nat.le_trans h2.size hT.size,fun b hb hn=>(hT.block b (Nat.lt_of_lt_of_le hb h2.size) (fun e=>by have:=(hxb b e).1;omega)).trans (h2.block b hb hn)⟩
noncomputable def eqAs(l l2:List (List Tm)):Bool:=@decide (l=l2) (Classical.propDecidable _)
theorem eqAs_true{l l2:List (List Tm)}(h:l=l2):eqAs l l2=true:=by unfold eqAs;exact @decide_eq_true _ (Classical.propDecidable _) h
theorem eqAs_false{l l2:List (List Tm)}(h:l≠l2):eqAs l l2=false:=by unfold eqAs;exact @decide_eq_false _ (Classical.propDecidable _) h
theorem AsAt.at{w:World}{ok:Nat→Prop}{l:List (List Tm)}{a:Option Addr}{cap:Nat}(h:AsAt w ok l a cap)(i:Nat)(hi:i<l.length) :
 ∃ (b off:Nat) (a1:Option Addr) (c1:Nat),a=some ⟨b,off,none⟩∧ok b∧b<w.heap.size∧w.cell? ⟨b,off+i,none⟩=some (.slice a1 l[i].length c1)∧Ts w ok l[i] a1 c1:=h.elem i hi
set_option maxRecDepth 100000 in
set_option maxHeartbeats 1000000 in
theorem SameAnswersW(l l2:List (List Tm))(w:World)(ok:Nat→Prop)(a1 a2:Option Addr)(c1 c2:Nat)(h1:AsAt w ok l a1 c1)(h2:AsAt w ok l2 a2 c2) :
 Calls Try.prog 11 #[.slice a1 l.length c1,.slice a2 l2.length c2] w fun e w'=>e=.returned (.bool (eqAs l l2))∧Below w.heap.size w w':=by
 have H1:=lh h1;have H2:=lh h2
 have hc1:l.length≤9223372036854775807:=by have:=h1.room;unfold maxLen at this;omega
 have hc2:l2.length≤9223372036854775807:=by have:=h2.room;unfold maxLen at this;omega
 clear h1 h2
 by_cases hl:l.length=l2.length
 ·have hl':((l.length:Int) != (l2.length:Int))=false:=by rw[hl];simp
  have HL:=lh hl
  clear hl
  go_enter Try.func11,Try.ntmps11
  go_wp2_with fail
  go_loopw[5] (fun i wr=>∃ k:Nat,k≤l.length∧i=.int .i64 k∧Hid (l.take k=l2.take k)∧Below w.heap.size w wr) (fun i _=>l.length-(intOf i).toNat)
  case atStart=>exact⟨0,Nat.zero_le _,rfl,lh (by simp),Below.refl _ _⟩
  case round =>
   obtain⟨k,hk,rfl,HE,hbr⟩:=hrel
   by_cases hlt:k<l.length
   ·have hlt2:k<l2.length:=by rw[← HL.out];exact hlt
    obtain⟨g1,o1,d1,e1,rfl,hok1,hs1,hq1,ht1⟩:=H1.out.at k hlt
    obtain⟨g2,o2,d2,e2,rfl,hok2,hs2,hq2,ht2⟩:=H2.out.at k hlt2
    have m0:=(hbr.cell (p:=⟨g1,o1+k,none⟩) hs1).trans hq1
    have n0:=(hbr.cell (p:=⟨g2,o2+k,none⟩) hs2).trans hq2
    have HC:=lh (SameTermsW l[k] l2[k] wr.drew ok d1 d2 e1 e2 (ht1.keep (Keeps.below hbr.drew ok)) (ht2.keep (Keeps.below hbr.drew ok)))
    clear hq1 hq2 ht1 ht2
    by_cases heq:l[k]=l2[k]
    ·have ht:=eqTs_true heq
     have HE':Hid (l.take (k+1)=l2.take (k+1)):=lh (by rw[List.take_succ_eq_append_getElem hlt,List.take_succ_eq_append_getElem hlt2,HE.out,heq])
     clear heq
     go_wp2_with fail
     go_region_with (go_at_call 35;refine HC.out.mono ?_;rintro e w1 ⟨rfl,hb⟩)
     all_goals
      go_wp2_with fail
      go_roundw
      case rel=>exact⟨k+1,by omega,by go_num,HE'.out,hbr.drew.trans (hb.mono hbr.size)⟩
      case measure=>simp[intOf];omega
    ·have ht:=eqTs_false heq
     have HR:Hid (eqAs l l2=false):=lh (eqAs_false (fun e=>heq (by simp[e])))
     clear heq
     go_wp2_with fail
     go_region_with (go_at_call 35;refine HC.out.mono ?_;rintro e w1 ⟨rfl,hb⟩)
     all_goals
      go_wp2_with fail
      go_ret
      exact⟨retB (by rw[HR.out]),hbr.drew.trans (hb.mono hbr.size)⟩
   ·have HR:Hid (eqAs l l2=true):=lh (eqAs_true (by
     have:=HE.out
     rwa [List.take_of_length_le (by omega),List.take_of_length_le (by rw[← HL.out];omega)] at this))
    go_wp2_with fail
    go_ret
    exact⟨retB (by rw[HR.out]),hbr⟩
 ·have hl':((l.length:Int) != (l2.length:Int))=true:=by rw[bne_iff_ne];omega
  have HR:Hid (eqAs l l2=false):=lh (eqAs_false (fun e=>hl (by rw[e])))
  clear hl
  go_enter Try.func11,Try.ntmps11
  go_wp2_with fail
  go_ret
  exact⟨retB (by rw[HR.out]),Below.refl _ _⟩
noncomputable def eqR(r s:List (List Tm)×Nat×Nat):Bool:=@decide (r=s) (Classical.propDecidable _)
theorem eqR_true{r s:List (List Tm)×Nat×Nat}(h:r=s):eqR r s=true:=by unfold eqR;exact @decide_eq_true _ (Classical.propDecidable _) h
theorem eqR_false{r s:List (List Tm)×Nat×Nat}(h:r≠s):eqR r s=false:=by unfold eqR;exact @decide_eq_false _ (Classical.propDecidable _) h
set_option maxRecDepth 100000 in
set_option maxHeartbeats 1000000 in
theorem SameResultW(r s:List (List Tm)×Nat×Nat)(w:World)(ok:Nat→Prop)(a1 a2:Option Addr)(c1 c2:Nat)(h1:AsAt w ok r.1 a1 c1)(h2:AsAt w ok s.1 a2 c2) :
 Calls Try.prog 20 #[.agg #[.slice a1 r.1.length c1,.int .i64 r.2.1,.int .i64 r.2.2],.agg #[.slice a2 s.1.length c2,.int .i64 s.2.1,.int .i64 s.2.2]] w fun e w'=>e=.returned (.bool (eqR r s))∧Below w.heap.size w w':=by
 obtain⟨l,m,n⟩:=r
 obtain⟨l2,m2,n2⟩:=s
 simp only at h1 h2 ⊢
 have B0:Below w.heap.size w ((w.alloc (.cells #[.slice a1 l.length c1,.int .i64 m,.int .i64 n] 50)).alloc (.cells #[.slice a2 l2.length c2,.int .i64 m2,.int .i64 n2] 50)):=((Below.refl _ _).alloc (Nat.le_refl _) _).alloc (by simp) _
 have HB0:=lh B0
 have HC:=lh (SameAnswersW l l2 _ ok a1 a2 c1 c2 (h1.keep (Keeps.below B0 ok)) (h2.keep (Keeps.below B0 ok)))
 clear B0 h1 h2
 by_cases hv:m=m2
 ·have hv':((m:Int) == (m2:Int))=true:=by rw[hv];simp
  by_cases hn:n=n2
  ·have hn':((n:Int) == (n2:Int))=true:=by rw[hn];simp
   have HE:Hid (eqR (l,m,n) (l2,m2,n2)=eqAs l l2):=lh (by
    subst hv;subst hn
    by_cases h:l=l2
    ·rw[eqAs_true h,eqR_true (by rw[h])]
    ·rw[eqAs_false h,eqR_false (fun e=>h (by injection e))])
   clear hv hn
   go_enter Try.func20,Try.ntmps20
   go_wp2_with fail
   refine HC.out.mono ?_
   rintro e w1 ⟨rfl,hb⟩
   go_wp2_with fail
   go_ret
   exact⟨retB (by rw[HE.out]),HB0.out.trans (hb.mono (by simp;omega))⟩
  ·have hn':((n:Int) == (n2:Int))=false:=by rw[beq_eq_false_iff_ne];omega
   have HE:Hid (eqR (l,m,n) (l2,m2,n2)=false):=lh (eqR_false (fun e=>hn (by injection e with _ e;injection e)))
   clear hv hn
   go_enter Try.func20,Try.ntmps20
   go_wp2_with fail
   go_ret
   exact⟨retB (by rw[HE.out]),HB0.out⟩
 ·have hv':((m:Int) == (m2:Int))=false:=by rw[beq_eq_false_iff_ne];omega
  have HE:Hid (eqR (l,m,n) (l2,m2,n2)=false):=lh (eqR_false (fun e=>hv (by injection e with _ e;injection e)))
  clear hv
  go_enter Try.func20,Try.ntmps20
  go_wp2_with fail
  go_ret
  exact⟨retB (by rw[HE.out]),HB0.out⟩
end Go.Proofs.Ytikmgiapjigghab
