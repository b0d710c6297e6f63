/- Walk: a heap's Unify. -/
import Derived.Test.YtikmgiapjigghabCb10
import Derived.Test.YtikmgiapjigghabCb13
import Derived.Test.YtikmgiapjigghabCb23
namespace Go.Proofs.Ytikmgiapjigghab
open Go.RowKit
structure IsAt(w:World)(ok:Nat→Prop)(l:List Int)(a:Option Addr)(cap:Nat):Prop where
 cap:l.length≤cap∧cap≤maxLen∧(a=none→cap=0)
 at':∀ i (h:i<l.length),∃ (b off:Nat),a=some ⟨b,off,none⟩∧ok b∧b<w.heap.size∧w.cell? ⟨b,off+i,none⟩=some (.int .i64 l[i])
theorem IsAt.keep{w w':World}{ok:Nat→Prop}{l:List Int}{a:Option Addr}{cap:Nat}(h:IsAt w ok l a cap)(hk:Keeps ok w w'):IsAt w' ok l a cap :=
 ⟨h.cap,fun i hi=>by
  obtain⟨b,off,h1,h2,h3,h4⟩:=h.at' i hi
  exact⟨b,off,h1,h2,Nat.lt_of_lt_of_le h3 hk.size,(hk.cell (p:=⟨b,_,none⟩) h2 h3).trans h4⟩⟩
theorem IsAt.mono{w:World}{ok ok':Nat→Prop}(h:∀ b,b<w.heap.size→ok b→ok' b){l:List Int}{a:Option Addr}{cap:Nat}(hh:IsAt w ok l a cap):IsAt w ok' l a cap :=
 ⟨hh.cap,fun i hi=>by
  obtain⟨b,off,h1,h2,h3,h4⟩:=hh.at' i hi
  exact⟨b,off,h1,h b h3 h2,h3,h4⟩⟩
theorem IsAt.below{w w':World}{ok:Nat→Prop}{l:List Int}{a:Option Addr}{cap:Nat}(h:IsAt w ok l a cap)(hb:Below w.heap.size w w'):IsAt w' ok l a cap:=h.keep (Keeps.below hb ok)
theorem IsAt.of_row{w:World}{ok:Nat→Prop}{base:Nat}{v:Value}{l:List Int}(h:w.ownsRow base 3 1 v l.length (l.map fun x=>Value.int .i64 x))(hok:∀ b,v.ownBlock=some b→ok b):∃ a cap,v=.slice a l.length cap∧IsAt w ok l a cap:=by
 rcases h.2 with ⟨rfl,hn⟩ | ⟨g,cap,cur,rfl,hb,hg,hcap,hml,hsz,htk⟩
 ·refine⟨none,0,by rw[hn],⟨by omega,by unfold maxLen;omega,fun _=>rfl⟩,fun i hi=>by omega⟩
 ·refine⟨_,cap,rfl,⟨hcap,hml,fun e=>nomatch e⟩,fun i hi=>?_⟩
  have hlt:g<w.heap.size:=(h.lt g rfl).2
  have:=h.cells (g:=g) rfl i (.int .i64 l[i]) (by simp[hi])
  rw[addr_add,Nat.zero_add] at this
  exact⟨g,0,rfl,hok g rfl,hlt,by rw[Nat.zero_add];exact this⟩
theorem HpAt.news{w:World}{ok:Nat→Prop}{K:List HC}{ad:Addr}{cap:Nat}(h:HpAt w ok K (some ad) cap):∀ j u,(flatH K)[j]? = some u→w.cell? (ad.add j)=some u:=by
 intro j u hj
 have hjl:j<(flatH K).length:=(List.getElem?_eq_some_iff.1 hj).1
 rw[flatH_length] at hjl
 obtain⟨i,r,rfl,hr⟩:∃ i r,j=i*3+r∧r<3:=⟨j / 3,j % 3,by omega,by omega⟩
 have hi:i<K.length:=by omega
 obtain⟨b,off,he,-,-,c0,c1,c2,-⟩:=h.at' i hi
 injection he with he
 subst he
 obtain⟨f0,f1,f2⟩:=flatH_at K i hi
 rw[addr_add]
 rcases (by omega:r=0∨r=1∨r=2) with rfl | rfl | rfl
 ·rw[Nat.add_zero] at hj ⊢;rw[f0] at hj;cases hj;exact c0
 ·rw[f1] at hj;cases hj;rw[← Nat.add_assoc];exact c1
 ·rw[f2] at hj;cases hj;rw[← Nat.add_assoc];exact c2
theorem Try.infoCell:(Try.prog.info? 69).map (fun i=>(i.zero,i.size,i.bytes))=some (some (.agg #[.int .i64 0,.int .i64 0,.string ByteArray.empty]),3,32):=by kernel_rfl
mutual
theorem putT_le:∀ (t:Tm) (H:List HC) (V:CV),(putT H V t).1.1.length+1≤H.length+2*t.size
 | .mk v n l,H,V=>by
  unfold putT
  by_cases hv:v≠0
  ·rw[if_pos hv]
   have:=(Tm.mk v n l).size_pos
   cases h:V v with
   | some c=>simp only;omega
   | none=>simp only[List.length_append,List.length_cons,List.length_nil];omega
  ·rw[if_neg hv]
   have:=putAs_le l (H++[⟨2,(l.length:Int),n⟩]++List.replicate l.length ⟨1,0,⟨#[]⟩⟩) V (H.length+1)
   simp only[List.length_append,List.length_cons,List.length_nil,List.length_replicate] at this
   simp only[Tm.size];omega
theorem putAs_le:∀ (l:List Tm) (H:List HC) (V:CV) (p:Nat),(putAs H V p l).1.length+l.length≤H.length+2*Tm.sizes l
 | [],H,V,p=>by rw[putAs_nil];simp[Tm.sizes]
 | t::r,H,V,p=>by
  rw[putAs_cons]
  have h1:=putT_le t H V
  have h2:=putAs_le r (setN (putT H V t).1.1 p (putT H V t).2) (putT H V t).1.2 (p+1)
  rw[setN_length] at h2
  simp only[List.length_cons,Tm.sizes];omega
end
mutual
theorem putT_grow:∀ (t:Tm) (H:List HC) (V:CV),H.length≤(putT H V t).1.1.length
 | .mk v n l,H,V=>by
  unfold putT
  by_cases hv:v≠0
  ·rw[if_pos hv]
   cases h:V v with
   | some c=>exact Nat.le_refl _
   | none=>simp only[List.length_append];omega
  ·rw[if_neg hv]
   have:=putAs_grow l (H++[⟨2,(l.length:Int),n⟩]++List.replicate l.length ⟨1,0,⟨#[]⟩⟩) V (H.length+1)
   simp only[List.length_append] at this
   simp only;omega
theorem putAs_grow:∀ (l:List Tm) (H:List HC) (V:CV) (p:Nat),H.length≤(putAs H V p l).1.length
 | [],H,V,p=>by rw[putAs_nil];exact Nat.le_refl _
 | t::r,H,V,p=>by
  rw[putAs_cons]
  have h1:=putT_grow t H V
  have h2:=putAs_grow r (setN (putT H V t).1.1 p (putT H V t).2) (putT H V t).1.2 (p+1)
  rw[setN_length] at h2
  omega
end
def VB(V:CV)(N:Nat):Prop:=∀ v c,V v=some c→c≤N
theorem len_sizes(l:List Tm):l.length≤Tm.sizes l:=by
 induction l with
 | nil=>exact Nat.zero_le _
 | cons t r ih=>simp only[Tm.sizes,List.length_cons];have:=t.size_pos;omega
mutual
theorem putT_vb:∀ (t:Tm) (H:List HC) (V:CV) (N:Nat),VB V N→H.length+2*t.size≤N→(putT H V t).2≤N∧VB (putT H V t).1.2 N
 | .mk v n l,H,V,N,hV,hN=>by
  have hs:=(Tm.mk v n l).size_pos
  unfold putT
  by_cases hv:v≠0
  ·rw[if_pos hv]
   cases h:V v with
   | some c=>exact⟨hV v c h,hV⟩
   | none =>
    refine⟨by simp only;omega,fun x c hx=>?_⟩
    simp only[updV] at hx
    by_cases e:x=v
    ·rw[if_pos e] at hx;cases hx;omega
    ·rw[if_neg e] at hx;exact hV x c hx
  ·rw[if_neg hv]
   simp only[Tm.size] at hN
   have h2:=putAs_vb l (H++[⟨2,(l.length:Int),n⟩]++List.replicate l.length ⟨1,0,⟨#[]⟩⟩) V (H.length+1) N hV (by
    simp only[List.length_append,List.length_cons,List.length_nil,List.length_replicate];omega)
   exact⟨by simp only;omega,h2⟩
theorem putAs_vb:∀ (l:List Tm) (H:List HC) (V:CV) (p:Nat) (N:Nat),VB V N→H.length+2*Tm.sizes l+1≤N+l.length→VB (putAs H V p l).2 N
 | [],H,V,p,N,hV,_=>by rw[putAs_nil];exact hV
 | t::r,H,V,p,N,hV,hN=>by
  rw[putAs_cons]
  have hr:=len_sizes r
  simp only[Tm.sizes,List.length_cons] at hN
  have h1:=putT_vb t H V N hV (by omega)
  have h2:=putT_le t H V
  exact putAs_vb r _ _ _ N h1.2 (by rw[setN_length];omega)
end
structure HOwn(w:World)(base:Nat)(v:Value)(H:List HC):Prop where
 row:w.ownsRow base 69 3 v H.length (flatH H)
 fits:∀ i,i<H.length→(hc H i).fits
def VAt(w:World)(bm n:Nat)(V:CV):Prop:=IMap Try.prog 3 w bm n fun v=>(V v).map fun c:Nat=>Value.int .i64 c
def PutM(v:Value)(bm:Nat):Nat→Prop:=fun b=>v.ownBlock=some b∨b=bm
def PutPost(w:World)(base:Nat)(v:Value)(bm:Nat)(r:(List HC×CV)×Nat)(e:Ending)(w':World):Prop :=
 ∃ v' n',e=.returned (.tuple #[v',.int .i64 (r.2:Nat)])∧HOwn w' base v' r.1.1∧VAt w' bm n' r.1.2∧n'≤r.1.1.length∧Fresh w v v'∧Touch (PutM v bm) w w'
theorem HOwn.keep{w w':World}{base:Nat}{v:Value}{H:List HC}(h:HOwn w base v H)(hb:∀ g,v.ownBlock=some g→w'.heap[g]? = w.heap[g]?):HOwn w' base v H:=⟨ownsRow_block h.row hb,h.fits⟩
theorem HOwn.below{w w':World}{base:Nat}{v:Value}{H:List HC}(h:HOwn w base v H)(hb:Below w.heap.size w w'):HOwn w' base v H:=⟨ownsRow_below h.row hb,h.fits⟩
theorem HOwn.form{w:World}{base:Nat}{v:Value}{H:List HC}(h:HOwn w base v H):∃ a cap,v=.slice a H.length cap:=by
 rcases h.row.2 with ⟨h1,h2⟩ | ⟨g,cap,cur,h1,_⟩
 ·exact⟨none,0,by rw[h1,h2]⟩
 ·exact⟨_,_,h1⟩
theorem fits_append{H:List HC}{c:HC}(h:∀ i,i<H.length→(hc H i).fits)(hf:c.fits):∀ i,i<(H++[c]).length→(hc (H++[c]) i).fits:=fun i hi=>by
 by_cases e:i<H.length
 ·rw[hc_append e];exact h i e
 ·have:i=H.length:=by simp at hi;omega
  subst this
  have:=hc_append_at (H:=H) (R:=[c]) 0
  rw[Nat.add_zero] at this
  rw[this];exact hf
theorem HOwn.push{w X w':World}{base:Nat}{v v':Value}{H:List HC}(h:HOwn w base v H){c:HC}(hf:c.fits)(hX:Below w.heap.size w X)
 (ho:w'.ownsRow base 69 3 v' (H.length+1) (flatH H++[.int .i64 c.k,.int .i64 c.n,.string c.name])) (hg:X.grownBy w' v.ownBlock) (hfr:Fresh X v v') (bm:Nat) :
 HOwn w' base v' (H++[c])∧Fresh w v v'∧Touch (PutM v bm) w w':=by
 refine⟨⟨?_,fits_append h.fits hf⟩,hfr.old hX.size,(Touch.below hX).trans (Touch.grown hg fun k e=>.inl e)⟩
 rw[flatH_append,List.length_append]
 exact ho
theorem HOwn.set{w:World}{base g cap:Nat}{H:List HC}{n:Nat}(h:HOwn w base (.slice (some ⟨g,0,none⟩) n cap) H)(hn:n=H.length){p t:Nat}(hp:p<H.length)(ht:t≤100000000):HOwn (w.setCell ⟨g,p*3+1,none⟩ (.int .i64 (t:Nat))) base (.slice (some ⟨g,0,none⟩) n cap) (setN H p t):=by
 subst hn
 have hr:=(World.ownsRow.stored h.row (p*3+1) (.int .i64 (t:Nat))).1
 rw[← flatH_setN H p t hp] at hr
 refine⟨by rw[setN_length];exact hr,fun i hi=>?_⟩
 rw[setN_length] at hi
 rw[hc_setN hp]
 by_cases e:i=p
 ·rw[if_pos e]
  obtain⟨a,_,c⟩:=h.fits p hp
  exact⟨a,(by show I64 (t:Int);unfold I64;omega),c⟩
 ·rw[if_neg e];exact h.fits i hi
theorem Touch.freshP{w wr w':World}{v vi:Value}{bm:Nat}(h1:Touch (PutM v bm) w wr)(hf:Fresh w v vi)(h2:Touch (PutM vi bm) wr w'):Touch (PutM v bm) w w':=by
 refine⟨h2.os.trans h1.os,h2.tape.trans h1.tape,h2.output.trans h1.output,Nat.le_trans h1.size h2.size,fun b hb hn=>(h2.block b (Nat.lt_of_lt_of_le hb h1.size) ?_).trans (h1.block b hb hn)⟩
 rintro (e | e)
 ·rcases hf with e2 | e2
  ·exact hn (.inl (by rw[← e2];exact e))
  ·have:=e2 b e;omega
 ·exact hn (.inr e)
theorem newsC(X:World)(c:HC){h:Nat}(e:h=X.heap.size):∀ ad,some (⟨h,0,none⟩:Addr)=some ad→∀ j u,([.int .i64 c.k,.int .i64 c.n,.string c.name]:List Value)[j]? = some u→(X.alloc (.cells #[.int .i64 c.k,.int .i64 c.n,.string c.name] 69)).cell? (ad.add j)=some u:=by
 subst e
 intro ad had
 cases had
 have ho:=World.ownsRow_lit (base:=X.heap.size) (e:=69) (size:=3) X #[.int .i64 c.k,.int .i64 c.n,.string c.name] 1 (Nat.le_refl _) (by unfold maxLen;omega) rfl
 exact ho.cells (g:=X.heap.size) rfl
theorem oneC(c:HC):∀ u∈([.int .i64 c.k,.int .i64 c.n,.string c.name]:List Value),u.oneCell'=true:=by
 intro u hu
 simp only[List.mem_cons,List.not_mem_nil,or_false] at hu
 rcases hu with rfl | rfl | rfl <;> rfl
theorem VAt.keep{w w':World}{bm n:Nat}{V:CV}(h:VAt w bm n V)(hb:w'.heap[bm]? = w.heap[bm]?):VAt w' bm n V:=IMap.kept h hb
theorem VAt.lt{w:World}{bm n:Nat}{V:CV}(h:VAt w bm n V):bm<w.heap.size:=IMap.lt h
theorem zeroInt(w:World):(zeroValue 3).run Try.prog w=.ok (.int .i64 0) w:=by kernel_rfl
theorem VAt.look{w:World}{bm n:Nat}{V:CV}(h:VAt w bm n V){v:Int}(hv:I64 v) :
 (V v=none→(Instr.lookup 114 (.map (some bm)) (.int .i64 v) true).run Try.prog w=.ok (.tuple #[.int .i64 0,.bool false]) w) ∧
 (∀ c,V v=some c→(Instr.lookup 114 (.map (some bm)) (.int .i64 v) true).run Try.prog w=.ok (.tuple #[.int .i64 (c:Nat),.bool true]) w):=by
 have hl:=IMap.look h keyedI Try.underlying3 Try.underlying114 (zeroInt w) hv
 refine⟨fun e=>?_,fun c e=>?_⟩
 ·rw[e] at hl;exact hl
 ·rw[e] at hl;exact hl
theorem VAt.store{w:World}{bm n:Nat}{V:CV}(h:VAt w bm n V){v:Int}(hv:I64 v)(hn:V v=none)(hnn:n≤1000000)(c:Nat) :
 ∃ w',(Instr.mapUpdate 114 (.map (some bm)) (.int .i64 v) (.int .i64 (c:Nat))).run Try.prog w=.ok () w'∧VAt w' bm (n+1) (updV V v c)∧w.grownBy w' (some bm):=by
 obtain⟨w',h1,h2,h3⟩:=IMap.store h keyedI Try.underlying3 Try.underlying114 (by unfold maxLen;omega) hv (.int .i64 (c:Nat)) (by rw[hn];rfl)
 refine⟨w',h1,?_,h3⟩
 have e:(fun x=>(updV V v c x).map fun c:Nat=>Value.int .i64 c)=setAt (fun x=>(V x).map fun c:Nat=>Value.int .i64 c) v (some (.int .i64 (c:Nat))):=by
  funext x
  unfold updV setAt
  by_cases e:x=v
  ·rw[if_pos e,if_pos e];rfl
  ·rw[if_neg e,if_neg e]
 unfold VAt
 rw[e]
 exact h2
def nameF(s:List Int):Int→Option Value:=fun x=>if (x+1)∈s then some (.int .i64 (numIn s (x+1))) else none
structure NmAt(w:World)(nb:Nat)(C:Nat→Prop)(s:List Int)(mv cv:Value):Prop where
 blk:w.heap[nb]? = some (.cells #[mv,cv] 137 (0,0))
 map:(mv=.map none∧s = [])∨∃ bm,mv=.map (some bm)∧C bm∧bm≠nb∧cv.ownBlock≠some bm∧IMap Try.prog 3 w bm s.length (nameF s)
 row:w.ownsRow 0 3 1 cv s.length (s.map fun v=>Value.int .i64 (v-1))
 own:C nb∧∀ g,cv.ownBlock=some g→C g∧g≠nb
 old:∀ b,C b→b<w.heap.size
def OfPost(w:World)(nb:Nat)(C:Nat→Prop)(s:List Int)(c:Nat)(e:Ending)(w':World):Prop :=
 e=.returned (.int .i64 (numV s ((c:Int)+1)).1)∧∃ C' mv cv,(∀ b,b<w.heap.size→(C' b↔C b))∧NmAt w' nb C' (numV s ((c:Int)+1)).2 mv cv∧Touch C w w'
theorem numV_old{s:List Int}{v:Int}(h:v∈s):numV s v=(numIn s v,s):=by
 unfold numV numIn addV;rw[if_pos h]
theorem numV_new{s:List Int}{v:Int}(h:v ∉ s):numV s v=((s.length:Int)+1,s++[v]):=by
 unfold numV addV
 rw[if_neg h,List.idxOf_append,if_neg h]
 simp
theorem nameF_push{s:List Int}{c:Int}(h:c+1 ∉ s):nameF (s++[c+1])=setAt (nameF s) c (some (.int .i64 ((s.length:Int)+1))):=by
 funext x
 simp only[nameF,setAt]
 by_cases e:x=c
 ·subst e
  rw[if_pos (by simp),if_pos rfl]
  unfold numIn
  rw[List.idxOf_append,if_neg h]
  simp
 ·rw[if_neg e]
  by_cases hx:x+1∈s
  ·rw[if_pos (by simp[hx]),if_pos hx]
   unfold numIn
   rw[List.idxOf_append,if_pos hx]
  ·rw[if_neg,if_neg hx]
   rw[List.mem_append,List.mem_singleton]
   rintro (h2 | h2)
   ·exact hx h2
   ·exact e (by omega)
set_option maxRecDepth 100000 in
theorem NmAt.keep{w w':World}{nb:Nat}{C:Nat→Prop}{s:List Int}{mv cv:Value}(h:NmAt w nb C s mv cv)(hs:w.heap.size≤w'.heap.size)(hb:∀ b,C b→w'.heap[b]? = w.heap[b]?):NmAt w' nb C s mv cv :=
 ⟨(hb nb h.own.1).trans h.blk,h.map.imp id fun ⟨bm,e,c,n,o,m⟩=>⟨bm,e,c,n,o,m.kept (hb bm c)⟩,ownsRow_block h.row fun g hg=>hb g (h.own.2 g hg).1,h.own,fun b hc=>Nat.lt_of_lt_of_le (h.old b hc) hs⟩
theorem NmAt.below{w w':World}{nb:Nat}{C:Nat→Prop}{s:List Int}{mv cv:Value}(h:NmAt w nb C s mv cv)(hb:Below w.heap.size w w'):NmAt w' nb C s mv cv:=h.keep hb.size fun b hc=>hb.block b (h.old b hc)
structure NmMid(w:World)(nb:Nat)(C:Nat→Prop)(s:List Int)(c:Int)(bm:Nat)(cv:Value):Prop where
 blk:w.heap[nb]? = some (.cells #[.map (some bm),cv] 137 (0,0))
 map:C bm∧bm≠nb∧cv.ownBlock≠some bm∧IMap Try.prog 3 w bm s.length (nameF s)
 row:w.ownsRow 0 3 1 cv (s.length+1) (s.map (fun v=>Value.int .i64 (v-1))++[.int .i64 c])
 own:C nb∧∀ g,cv.ownBlock=some g→C g∧g≠nb
 old:∀ b,C b→b<w.heap.size
set_option maxRecDepth 100000 in
theorem NmMid.done{w:World}{nb:Nat}{C:Nat→Prop}{s:List Int}{c:Int}{bm:Nat}{cv:Value}(h:NmMid w nb C s c bm cv)(hc:I64 c)(hn:c+1 ∉ s)(hs:s.length≤1000000) :
 ∃ w',(Instr.mapUpdate 114 (.map (some bm)) (.int .i64 c) (.int .i64 ((s.length:Int)+1))).run Try.prog w=.ok () w'∧NmAt w' nb C (s++[c+1]) (.map (some bm)) cv∧w.grownBy w' (some bm):=by
 obtain⟨m1,m2,m3,m4⟩:=h.map
 obtain⟨w',h1,h2,h3⟩:=m4.store keyedI Try.underlying3 Try.underlying114 (by unfold maxLen;omega) hc (.int .i64 ((s.length:Int)+1)) (by unfold nameF;rw[if_neg hn])
 refine⟨w',h1,⟨(h3.block nb (by have:=(Array.getElem?_eq_some_iff.1 h.blk).1;exact this) (fun e=>m2 (by injection e with e;exact e.symm))).trans h.blk,.inr ⟨bm,rfl,m1,m2,m3,?_⟩,?_,h.own,fun b hb=>Nat.lt_of_lt_of_le (h.old b hb) h3.size⟩,h3⟩
 ·rw[nameF_push hn,List.length_append];exact h2
 ·have e:(s++[c+1]).map (fun v=>Value.int .i64 (v-1))=s.map (fun v=>Value.int .i64 (v-1))++[.int .i64 c]:=by
   rw[List.map_append];simp
  rw[e,List.length_append]
  exact ownsRow_block h.row fun g hg=>h3.block g (h.row.lt g hg).2 (fun e=>m3 (by rw[hg];injection e with e;rw[e]))
theorem NmAt.c0{w:World}{nb:Nat}{C:Nat→Prop}{s:List Int}{mv cv:Value}(h:NmAt w nb C s mv cv):w.cell? ⟨nb,0,none⟩=some mv:=by simp[World.cell?,h.blk]
theorem NmAt.c1{w:World}{nb:Nat}{C:Nat→Prop}{s:List Int}{mv cv:Value}(h:NmAt w nb C s mv cv):w.cell? ⟨nb,1,none⟩=some cv:=by simp[World.cell?,h.blk]
theorem NmAt.fz{w:World}{nb:Nat}{C:Nat→Prop}{s:List Int}{mv cv:Value}(h:NmAt w nb C s mv cv)(o:Nat):w.frozen? ⟨nb,o,none⟩=false:=by simp[World.frozen?,h.blk]
theorem NmMid.c0{w:World}{nb:Nat}{C:Nat→Prop}{s:List Int}{c:Int}{bm:Nat}{cv:Value}(h:NmMid w nb C s c bm cv):w.cell? ⟨nb,0,none⟩=some (.map (some bm)):=by simp[World.cell?,h.blk]
theorem NmMid.c1{w:World}{nb:Nat}{C:Nat→Prop}{s:List Int}{c:Int}{bm:Nat}{cv:Value}(h:NmMid w nb C s c bm cv):w.cell? ⟨nb,1,none⟩=some cv:=by simp[World.cell?,h.blk]
theorem NmAt.mapped{w:World}{nb:Nat}{C:Nat→Prop}{cv:Value}{mv:Value}(h:NmAt w nb C [] mv cv) :
 NmAt ((w.alloc (.map #[] 0)).setCell ⟨nb,0,none⟩ (.map (some w.heap.size))) nb (fun b=>C b∨b=w.heap.size) [] (.map (some w.heap.size)) cv:=by
 have hlt:=h.old nb h.own.1
 have hne:w.heap.size≠nb:=by omega
 have hb:(w.alloc (.map #[] 0)).heap[nb]? = some (.cells #[mv,cv] 137 (0,0)):=(Below.heap_alloc _ _ _ hlt).trans h.blk
 have hk:∀ b,b<w.heap.size→b≠nb→((w.alloc (.map #[] 0)).setCell ⟨nb,0,none⟩ (.map (some w.heap.size))).heap[b]? = w.heap[b]?:=fun b h1 h2=>(Below.heap_setCell _ _ _ _ h2).trans (Below.heap_alloc _ _ _ h1)
 refine⟨?_,.inr ⟨_,rfl,.inr rfl,hne,?_,?_⟩,?_,⟨.inl h.own.1,fun g hg=>⟨.inl (h.own.2 g hg).1,(h.own.2 g hg).2⟩⟩,?_⟩
 ·rw[heap_setCell_at _ _ _ _ hb];rfl
 ·intro e
  have:=h.old _ (h.own.2 _ e).1;omega
 ·have:=IMap.made (P:=Try.prog) (kt:=3) w
  have e:nameF []=fun _=>none:=by funext x;simp[nameF]
  rw[e]
  exact this.kept (Below.heap_setCell _ _ _ _ hne)
 ·exact ownsRow_block h.row fun g hg=>hk g (h.old g (h.own.2 g hg).1) (h.own.2 g hg).2
 ·intro b hb
  have:((w.alloc (.map #[] 0)).setCell ⟨nb,0,none⟩ (.map (some w.heap.size))).heap.size=w.heap.size+1:=by simp[World.setCell]
  rcases hb with hb | rfl
  ·have:=h.old b hb;omega
  ·omega
theorem NmAt.push{w:World}{nb bm:Nat}{C:Nat→Prop}{s:List Int}{cv:Value}(h:NmAt w nb C s (.map (some bm)) cv){c:Int}{tv':Value}{X3:World}
 (ho:X3.ownsRow 0 3 1 tv' (s.length+1) (s.map (fun v=>Value.int .i64 (v-1))++[.int .i64 c])) (hg:(w.alloc (.cells #[.int .i64 c] 3)).grownBy X3 cv.ownBlock) (hf:Fresh (w.alloc (.cells #[.int .i64 c] 3)) cv tv') :
 NmMid (X3.setCell ⟨nb,1,none⟩ tv').drew nb (fun b=>C b∨tv'.ownBlock=some b) s c bm tv'∧Touch C w (X3.setCell ⟨nb,1,none⟩ tv').drew∧∀ b,b<w.heap.size→((C b∨tv'.ownBlock=some b)↔C b):=by
 obtain⟨bm',e0,m1,m2,m3,m4⟩:∃ bm',Value.map (some bm)=.map (some bm')∧C bm'∧bm'≠nb∧cv.ownBlock≠some bm'∧IMap Try.prog 3 w bm' s.length (nameF s):=by
  rcases h.map with ⟨e,_⟩ | e
  ·cases e
  ·exact e
 injection e0 with e0;injection e0 with e0;subst e0
 have hnb:=h.old nb h.own.1
 have hF:Fresh w cv tv':=hf.old (by simp)
 have hA:Touch C w (w.alloc (.cells #[.int .i64 c] 3)):=Touch.below ((Below.refl _ _).alloc (Nat.le_refl _) _)
 have hG:Touch C (w.alloc (.cells #[.int .i64 c] 3)) X3:=Touch.grown hg (fun k e=>(h.own.2 k e).1)
 have hS:Touch C X3 (X3.setCell ⟨nb,1,none⟩ tv'):=Touch.setCell _ h.own.1
 have hT:=(hA.trans hG).trans hS
 have hbk:∀ b,b<w.heap.size→cv.ownBlock≠some b→b≠nb→(X3.setCell ⟨nb,1,none⟩ tv').heap[b]? = w.heap[b]?:=fun b h1 h2 h3=>(Below.heap_setCell _ _ _ _ h3).trans ((hg.block b (by simp;omega) (fun e=>h2 e.symm)).trans (Below.heap_alloc _ _ _ h1))
 have hbl:X3.heap[nb]? = some (.cells #[.map (some bm),cv] 137 (0,0)):=(hg.block nb (by simp;omega) (fun e=>(h.own.2 nb e.symm).2 rfl)).trans ((Below.heap_alloc _ _ _ hnb).trans h.blk)
 have hfr:∀ b,tv'.ownBlock=some b→C b∧b≠nb∧b≠bm∨w.heap.size≤b:=by
  intro b e
  rcases hF with e2 | e2
  ·rw[e2] at e;exact .inl ⟨(h.own.2 b e).1,(h.own.2 b e).2,fun e3=>m3 (e3 ▸ e)⟩
  ·exact .inr (e2 b e)
 have hbm:=m4.lt
 have hK:NmMid (X3.setCell ⟨nb,1,none⟩ tv') nb (fun b=>C b∨tv'.ownBlock=some b) s c bm tv':=by
  refine⟨?_,⟨.inl m1,m2,fun e=>?_,m4.kept (hbk bm hbm m3 m2)⟩,?_,⟨.inl h.own.1,fun g hg2=>⟨.inr hg2,fun e=>?_⟩⟩,?_⟩
  ·rw[heap_setCell_at _ _ _ _ hbl];rfl
  ·rcases hfr bm e with h1 | h1
   ·exact h1.2.2 rfl
   ·omega
  ·exact ownsRow_block ho fun g hg2=>Below.heap_setCell _ _ _ _ fun e=>by
    subst e
    rcases hfr _ hg2 with h1 | h1
    ·exact h1.2.1 rfl
    ·omega
  ·subst e
   rcases hfr _ hg2 with h1 | h1
   ·exact h1.2.1 rfl
   ·omega
  ·have hz:(X3.setCell ⟨nb,1,none⟩ tv').heap.size=X3.heap.size:=by simp[World.setCell]
   rintro b (hb | hb)
   ·exact Nat.lt_of_lt_of_le (h.old b hb) hT.size
   ·rw[hz];exact(ho.lt b hb).2
 refine⟨⟨hK.blk,⟨hK.map.1,hK.map.2.1,hK.map.2.2.1,hK.map.2.2.2.kept rfl⟩,ownsRow_block hK.row fun _ _=>rfl,hK.own,hK.old⟩,hT.trans (Touch.below (Below.refl _ _).drew),fun b hb=>⟨fun e=>e.elim id fun e=>?_,.inl⟩⟩
 rcases hfr b e with h1 | h1
 ·exact h1.1
 ·omega
theorem eq_nilmap(w:World)(b:Nat):(binOp .eql 114 (.map (some b)) (.map none)).run Try.prog w=.ok (.bool false) w:=by kernel_rfl
theorem eq_nilmap'(w:World):(binOp .eql 114 (.map none) (.map none)).run Try.prog w=.ok (.bool true) w:=by kernel_rfl
theorem make_map(w:World):(Instr.makeMap 114 none).run Try.prog w=.ok (.map (some w.heap.size)) (w.alloc (.map #[] 0)):=by kernel_rfl
theorem look_nilmap(w:World)(c:Nat):(Instr.lookup 114 (.map none) (.int .i64 (c:Nat)) true).run Try.prog w=.ok (.tuple #[.int .i64 0,.bool false]) w:=by kernel_rfl
theorem Touch.trans0{C C':Nat→Prop}{a b c:World}(h:Touch C a b)(k:Touch C' b c)(hm:∀ x,x<a.heap.size→(C' x↔C x)):Touch C a c :=
 ⟨k.os.trans h.os,k.tape.trans h.tape,k.output.trans h.output,Nat.le_trans h.size k.size,fun i hi hn=>(k.block i (Nat.lt_of_lt_of_le hi h.size) (fun e=>hn ((hm i hi).1 e))).trans (h.block i hi hn)⟩
set_option maxRecDepth 100000 in
set_option maxHeartbeats 4000000 in
theorem OfW{w:World}{nb:Nat}{C:Nat→Prop}{s:List Int}{mv cv:Value}(c:Nat)(h:NmAt w nb C s mv cv)(hc:c≤1000000)(hs:s.length≤1000000) :
 Calls Try.prog 92 #[.pointer (some ⟨nb,0,none⟩),.int .i64 (c:Nat)] w (OfPost w nb C s c):=by
 have H:=lh h;have HS:=lh hs;have hml:1000001≤maxLen:=by unfold maxLen;omega
 have hci:I64 (c:Int):=by unfold I64;omega
 have HC:=lh hci
 have c0:=h.c0;have c1:=h.c1;have cf:=h.fz
 clear h
 by_cases hin:(c:Int)+1∈s
 ·have HIN:=lh hin
  rcases H.out.map with ⟨rfl,rfl⟩ | ⟨bm,rfl,m1,m2,m3,m4⟩
  ·cases hin
  have hl:=IMap.look m4 keyedI Try.underlying3 Try.underlying114 (zeroInt w) hci
  have e:nameF s (c:Int)=some (.int .i64 (numIn s ((c:Int)+1))):=by simp only[nameF];rw[if_pos hin]
  rw[e] at hl
  simp only[Option.getD_some,Option.isSome_some] at hl
  have HM:=lh m4
  clear m1 m2 m3 m4 e hin
  go_enter Try.func92,Try.ntmps92
  go_wp2_with fail
  go_ret
  exact⟨by rw[numV_old HIN.out];rfl,C,.map (some bm),cv,fun b _=>Iff.rfl,by rw[numV_old HIN.out];exact H.out,Touch.refl _ _⟩
 ·have HNI:=lh hin
  rcases H.out.map with ⟨rfl,rfl⟩ | ⟨bm,rfl,m1,m2,m3,m4⟩
  ·obtain⟨s,hs0⟩:∃ s:List Int,s = []:=⟨_,rfl⟩
   have heq:=eq_nilmap' w
   have hl:=look_nilmap w c
   have hmk:=make_map w
   have hbx:(w.alloc (.map #[] 0)).heap[nb]? = some (.cells #[.map none,cv] 137 (0,0)):=(Below.heap_alloc _ _ _ (H.out.old nb H.out.own.1)).trans H.out.blk
   have d0:(w.alloc (.map #[] 0)).cell? ⟨nb,0,none⟩=some (.map none):=by simp[World.cell?,hbx]
   have df:∀ o,(w.alloc (.map #[] 0)).frozen? ⟨nb,o,none⟩=false:=fun o=>by simp[World.frozen?,hbx]
   clear hbx
   have hx0:=H.out.mapped
   obtain⟨CX,hCX⟩:∃ CX:Nat→Prop,CX=fun b=>C b∨b=w.heap.size:=⟨_,rfl⟩
   rw[← hCX] at hx0
   have HX:=lh hx0
   clear hx0
   have HXT:Hid (Touch C w ((w.alloc (.map #[] 0)).setCell ⟨nb,0,none⟩ (.map (some w.heap.size)))):=lh ((Touch.below ((Below.refl _ _).alloc (Nat.le_refl _) _)).trans (Touch.setCell _ H.out.own.1))
   have HXS:Hid (∀ b,b<w.heap.size→b<((w.alloc (.map #[] 0)).setCell ⟨nb,0,none⟩ (.map (some w.heap.size))).heap.size∧(CX b↔C b)):=lh fun b hb=>⟨Nat.lt_of_lt_of_le hb HXT.out.size,by rw[hCX];exact⟨fun e=>e.elim id fun e=>by omega,.inl⟩⟩
   have x1:=HX.out.c1
   rw[← hs0] at HX HNI HS ⊢
   clear hs0 hin hCX
   obtain⟨i0,hi,hz0,hz1,hz2⟩:=info_parts Try.infoI
   have hown:=lh (HX.out.row.alloc (.cells #[.int .i64 (c:Nat)] 3))
   have hsz:((w.alloc (.map #[] 0)).setCell ⟨nb,0,none⟩ (.map (some w.heap.size))).heap.size=w.heap.size+1:=by simp[World.setCell]
   have hoc:=lh (one_cell ((w.alloc (.map #[] 0)).setCell ⟨nb,0,none⟩ (.map (some w.heap.size))) (.int .i64 (c:Nat)) 3)
   rw[hsz] at hoc
   clear hsz
   go_enter Try.func92,Try.ntmps92
   go_wp2_with (at_builtin;refine wpList_append_fresh _ rfl _ _ 27 rfl 0 3 i0 _ 1 8 Try.underlying27 hi hz0 hz1 hz2 rfl (by decide) _ _ _ rfl hown.out ⟨w.heap.size+1,0,none⟩ 1 1 [.int .i64 (c:Nat)] rfl rfl ?d1 ?d2 ?d3 ?d4 ?d5 ?_)
   any_goals (first | exact hoc.out | rfl | (intro u hu;simp only[List.mem_singleton] at hu;subst hu;rfl) | (have:=HS.out;omega) | omega)
   clear hoc
   generalize ((w.alloc (.map #[] 0)).setCell ⟨nb,0,none⟩ (.map (some w.heap.size)))=X at *
   generalize hbm:w.heap.size=bm at *
   have HBM:=lh hbm
   clear hbm
   intro tv' X3 hown3 hg3 hfr3
   obtain⟨g3,cap3,rfl⟩:=own_shape hown3 (by omega)
   obtain⟨hp1,hp2,hp3⟩:=HX.out.push hown3 hg3 hfr3
   have HP1:=lh hp1;have HP2:=lh hp2;have HP3:=lh hp3
   have hbk:X3.heap[nb]? = X.heap[nb]?:=(hg3.block nb (by have:=HX.out.old nb HX.out.own.1;simp;omega) (fun e=>(HX.out.own.2 nb e.symm).2 rfl)).trans (Below.heap_alloc _ _ _ (HX.out.old nb HX.out.own.1))
   have y0:X3.cell? ⟨nb,0,none⟩=some (.map (some bm)):=by simp[World.cell?,hbk,HX.out.blk]
   have y1:X3.cell? ⟨nb,1,none⟩=some cv:=by simp[World.cell?,hbk,HX.out.blk]
   have yf:∀ o,X3.frozen? ⟨nb,o,none⟩=false:=fun o=>by simp[World.frozen?,hbk,HX.out.blk]
   have hsl:(s.length:Int)+1=((s.length+1:Nat):Int):=by omega
   obtain⟨w9,hrun,hdone,hg9⟩:=HP1.out.done HC.out HNI.out (by have:=HS.out;omega)
   have HDN:=lh hdone
   have q0:=HP1.out.c0;have q1:=HP1.out.c1
   have r1:=hdone.c1
   have HG9:Hid (Touch CX X w9):=lh (HP2.out.trans0 (Touch.grown (M:=fun b=>CX b∨(Value.slice (some ⟨g3,0,none⟩) (s.length+1) cap3).ownBlock=some b) hg9 (fun k e=>by cases e;exact HP1.out.map.1)) HP3.out)
   have HC9:Hid (∀ b,b<X.heap.size→((CX b∨(Value.slice (some ⟨g3,0,none⟩) (s.length+1) cap3).ownBlock=some b)↔CX b)):=HP3
   clear hp1 hp2 hp3 hown3 hg3 hfr3 hown hdone hg9 hbk HP2 HP3
   rw[hsl] at hrun
   obtain⟨n1,hn1⟩:∃ n1,s.length+1=n1:=⟨_,rfl⟩
   have HN1:=lh hn1
   simp only[hn1] at hrun q0 q1 r1 HDN HP1 HG9 HC9 hsl ⊢
   clear hn1
   go_wp2_with fail
   go_region
   all_goals
    go_wp2_with fail
    go_ret
    exact⟨by rw[numV_new HNI.out,hsl];rfl,_,.map (some bm),_,fun b hb=>(HC9.out b (HXS.out b (HBM.out ▸ hb)).1).trans (HXS.out b (HBM.out ▸ hb)).2,by rw[numV_new HNI.out];exact HDN.out,(HXT.out.trans0 HG9.out fun b hb=>(HXS.out b (HBM.out ▸ hb)).2)⟩
  ·have HM:=lh m4
   have hl:=IMap.look m4 keyedI Try.underlying3 Try.underlying114 (zeroInt w) hci
   have e:nameF s (c:Int)=none:=by simp only[nameF];rw[if_neg hin]
   rw[e] at hl
   simp only[Option.getD_none,Option.isSome_none] at hl
   clear m1 m2 m3 m4 e hin
   have heq:=eq_nilmap w bm
   have HX:=H
   go_enter Try.func92,Try.ntmps92
   obtain⟨i0,hi,hz0,hz1,hz2⟩:=info_parts Try.infoI
   have hown:=lh (HX.out.row.alloc (.cells #[.int .i64 (c:Nat)] 3))
   have x1:=HX.out.c1
   go_wp2_with (at_builtin;refine wpList_append_fresh _ rfl _ _ 27 rfl 0 3 i0 _ 1 8 Try.underlying27 hi hz0 hz1 hz2 rfl (by decide) _ _ _ rfl hown.out ⟨w.heap.size,0,none⟩ 1 1 [.int .i64 (c:Nat)] rfl rfl ?c1 ?c2 ?c3 ?c4 ?c5 ?_)
   any_goals (first | exact one_cell _ _ _ | rfl | (intro u hu;simp only[List.mem_singleton] at hu;subst hu;rfl) | (have:=HS.out;omega) | omega)
   intro tv' X3 hown3 hg3 hfr3
   obtain⟨g3,cap3,rfl⟩:=own_shape hown3 (by omega)
   obtain⟨hp1,hp2,hp3⟩:=HX.out.push hown3 hg3 hfr3
   have HP1:=lh hp1;have HP2:=lh hp2;have HP3:=lh hp3
   have hbk:X3.heap[nb]? = w.heap[nb]?:=(hg3.block nb (by have:=HX.out.old nb HX.out.own.1;simp;omega) (fun e=>(HX.out.own.2 nb e.symm).2 rfl)).trans (Below.heap_alloc _ _ _ (HX.out.old nb HX.out.own.1))
   have y0:X3.cell? ⟨nb,0,none⟩=some (.map (some bm)):=by simp[World.cell?,hbk,HX.out.blk]
   have y1:X3.cell? ⟨nb,1,none⟩=some cv:=by simp[World.cell?,hbk,HX.out.blk]
   have yf:∀ o,X3.frozen? ⟨nb,o,none⟩=false:=fun o=>by simp[World.frozen?,hbk,HX.out.blk]
   have hsl:(s.length:Int)+1=((s.length+1:Nat):Int):=by omega
   obtain⟨w9,hrun,hdone,hg9⟩:=HP1.out.done HC.out HNI.out (by have:=HS.out;omega)
   have HDN:=lh hdone
   have q0:=HP1.out.c0;have q1:=HP1.out.c1
   have r1:=hdone.c1
   have HG9:Hid (Touch C w w9):=lh (HP2.out.trans0 (Touch.grown (M:=fun b=>C b∨(Value.slice (some ⟨g3,0,none⟩) (s.length+1) cap3).ownBlock=some b) hg9 (fun k e=>by cases e;exact HP1.out.map.1)) HP3.out)
   have HC9:Hid (∀ b,b<w.heap.size→((C b∨(Value.slice (some ⟨g3,0,none⟩) (s.length+1) cap3).ownBlock=some b)↔C b)):=HP3
   clear hp1 hp2 hp3 hown3 hg3 hfr3 hown hdone hg9 hbk HP2 HP3
   rw[hsl] at hrun
   obtain⟨n1,hn1⟩:∃ n1,s.length+1=n1:=⟨_,rfl⟩
   have HN1:=lh hn1
   simp only[hn1] at hrun q0 q1 r1 HDN HP1 HG9 HC9 hsl ⊢
   clear hn1
   go_wp2_with fail
   go_region
   all_goals
    go_wp2_with fail
    go_ret
    exact⟨by rw[numV_new HNI.out,hsl];rfl,_,.map (some bm),_,fun b hb=>HC9.out b hb,by rw[numV_new HNI.out];exact HDN.out,HG9.out⟩
end Go.Proofs.Ytikmgiapjigghab
