/- Memory: rows of one's own, a bag of them. -/
import Derived.RangeFuncNested
import Derived.RangeFuncBound
import Derived.RangeFuncCalls
import Derived.RangeFuncLeaves
import Derived.RangeFuncFrom
import Derived.Shelf.Abstract
import Derived.WalkKit
import Derived.OwnWalkIn
import Derived.TacticsInMore
import Derived.LoopNIn
import Derived.LoopIn
import Derived.Test.YtikmgiapjigghabQc12
import Derived.Test.YtikmgiapjigghabQc16
import Derived.Test.YtikmgiapjigghabQc20
import Derived.Test.YtikmgiapjigghabQc22
import Derived.Test.YtikmgiapjigghabQc23
set_option maxRecDepth 100000
set_option maxHeartbeats 8000000
namespace Go.Proofs.Ytikmgiapjigghab
open Go.RowKit
theorem aU9{l:List (Option Nat)}:Nd l↔∀(i j:Nat) (x y:Option Nat),i≠j→l[i]? = some x→l[j]? = some y→∀b,x=some b→y≠some b:=by
 constructor
 ·intro h i j x y hne hi hj b hx hy
  obtain⟨hil,hi⟩:=List.getElem?_eq_some_iff.1 hi;obtain⟨hjl,hj⟩:=List.getElem?_eq_some_iff.1 hj;have hp:=List.pairwise_iff_getElem.1 h;rcases Nat.lt_or_ge i j with e|e
  ·exact hp i j hil hjl e b (hi.trans hx) (hj.trans hy)
  ·exact hp j i hjl hil (by omega) b (hj.trans hy) (hi.trans hx)
 ·intro h
  refine List.pairwise_iff_getElem.2 fun i j hi hj e b hx hy=>?_
  exact h i j _ _ (by omega) (List.getElem?_eq_getElem hi) (List.getElem?_eq_getElem hj) b hx hy
structure Bag(w:World)(R:List bC):Prop where
 rows:∀(i:Nat) (r:bC),R[i]? = some r→r.In w 0
 ne:∀(i j:Nat) (r s:bC),i≠j→R[i]? = some r→R[j]? = some s→∀b,bk r.a=some b→bk s.a≠some b
theorem bC.In.lt{w:World}{r:bC}{base:Nat}(h:r.In w base){b:Nat}(hb:bk r.a=some b):base≤b∧b<w.heap.size :=
 World.ownsRow.lt h b ((aE _ _ _).trans hb)
theorem bC.In.keep{w w':World}{r:bC}{base:Nat}(h:r.In w base)(hk:∀b,b<w.heap.size→bk r.a=some b→w'.heap[b]? = w.heap[b]?):r.In w' base :=
 aC h fun g hg=>hk g (World.ownsRow.lt h g hg).2 ((aE _ _ _).symm.trans hg)
theorem bC.In.cap{w:World}{r:bC}{base:Nat}(h:r.In w base):r.n≤r.c∧r.c≤maxLen:=by
 rcases h.2 with ⟨e,hn⟩|⟨g,cap,cur,e,-,-,h1,h2,-⟩
 ·injection e with _ _ e2
  unfold maxLen;omega
 ·injection e with _ _ e2
  omega
theorem bC.In.blk{w:World}{r:bC}{base:Nat}(h:r.In w base)(hn:0<r.n):∃g,r.a=some ⟨g,0,none⟩∧g<w.heap.size:=by
 rcases h.2 with ⟨e,hn'⟩|⟨g,cap,cur,e,-,hg,-⟩
 ·omega
 ·injection e with e1 _ _
  exact⟨g,e1,(gS hg).1⟩
theorem bC.In.cell{w:World}{r:bC}{base g:Nat}(h:r.In w base)(hg:r.a=some ⟨g,0,none⟩){j:Nat}{u:Value}(hj:r.vs[j]? = some u):w.cell? ⟨g,j,none⟩=some u:=by
 have h':w.ownsRow base r.e r.k (.slice (some ⟨g,0,none⟩) r.n r.c) r.n r.vs:=by rw[←hg];exact h
 have:=h'.cells (g:=g) rfl j u hj;rw[fY,Nat.zero_add] at this;exact this
theorem bC.In.fz{w:World}{r:bC}{base g:Nat}(h:r.In w base)(hg:r.a=some ⟨g,0,none⟩)(j:Nat):w.frozen? ⟨g,j,none⟩=false:=by
 have h':w.ownsRow base r.e r.k (.slice (some ⟨g,0,none⟩) r.n r.c) r.n r.vs:=by rw[←hg];exact h
 exact h'.frozenAt j
section
variable {w w':World} {R:List bC}
theorem Bag.keep(h:Bag w R){M:Nat→Prop}(ht:aA M w w')(hM:∀(i:Nat) (r:bC),R[i]? = some r→∀b,bk r.a=some b→¬M b):Bag w' R :=
 ⟨fun i r hr=>(h.rows i r hr).keep fun b hb e=>ht.block b hb (hM i r hr b e),h.ne⟩
theorem Bag.below(h:Bag w R)(hb:Below w.heap.size w w'):Bag w' R :=
 ⟨fun i r hr=>(h.rows i r hr).keep fun b hl _=>hb.block b hl,h.ne⟩
theorem Bag.upd(h:Bag w R){i:Nat}{r:bC}(hi:R[i]? = some r){r':bC}(ht:aA (fun b=>bk r.a=some b) w w')(hr:r'.In w' 0)(hf:bk r'.a=bk r.a∨∀b,bk r'.a=some b→w.heap.size≤b):Bag w' (R.set i r'):=by
 have hil:=(List.getElem?_eq_some_iff.1 hi).1;have hnew:∀(j:Nat) (s:bC),i≠j→R[j]? = some s→∀b,bk s.a=some b→bk r'.a≠some b:=fun j s hj hs b hb e=>by
  rcases hf with hf|hf
  ·exact h.ne j i s r (Ne.symm hj) hs hi b hb (hf.symm.trans e)
  ·have:=hf b e
   have:=((h.rows j s hs).lt hb).2;omega
 refine⟨fun j s hs=>?_,fun j k s t hjk hs ht2 b hb=>?_⟩
 ·rw[List.getElem?_set] at hs
  by_cases e:i=j
  ·rw[if_pos e,if_pos hil] at hs
   injection hs with hs;rw[←hs];exact hr
  ·rw[if_neg e] at hs
   exact(h.rows j s hs).keep fun b hb e2=>ht.block b hb (h.ne j i s r (Ne.symm e) hs hi b e2)
 ·rw[List.getElem?_set] at hs ht2
  by_cases e:i=j
  ·rw[if_pos e,if_pos hil] at hs
   rw[if_neg (fun e2=>hjk (e.symm.trans e2))] at ht2;injection hs with hs;subst hs;intro e2;exact hnew k t (fun e3=>hjk (e.symm.trans e3)) ht2 b e2 hb
  ·rw[if_neg e] at hs
   by_cases e':i=k
   ·rw[if_pos e',if_pos hil] at ht2
    injection ht2 with ht2;subst ht2;exact hnew j s e hs b hb
   ·rw[if_neg e'] at ht2
    exact h.ne j k s t hjk hs ht2 b hb
theorem Bag.add(h:Bag w R)(hb:Below w.heap.size w w'){r:bC}(hr:r.In w' 0)(hf:∀b,bk r.a=some b→w.heap.size≤b):Bag w' (R++[r]):=by
 have old:∀(j:Nat) (s:bC),R[j]? = some s→∀b,bk s.a=some b→b<w.heap.size:=fun j s hs b e=>((h.rows j s hs).lt e).2
 refine⟨fun j s hs=>?_,fun j k s t hjk hs ht b e1 e2=>?_⟩
 ·rw[List.getElem?_append] at hs
  split at hs
  ·exact(h.rows j s hs).keep fun b hl _=>hb.block b hl
  ·have:=List.mem_of_getElem? hs
   rw[List.mem_singleton] at this;rw[this];exact hr
 ·rw[List.getElem?_append] at hs ht
  split at hs
  ·split at ht
   ·exact h.ne j k s t hjk hs ht b e1 e2
   ·have:=List.mem_of_getElem? ht
    rw[List.mem_singleton] at this;subst this;have:=hf b e2;have:=old j s hs b e1;omega
  ·have h1:=List.mem_of_getElem? hs
   rw[List.mem_singleton] at h1;subst h1;split at ht
   ·have:=hf b e1
    have:=old k t ht b e2;omega
   ·have h3:=(List.getElem?_eq_some_iff.1 hs).1
    have h4:=(List.getElem?_eq_some_iff.1 ht).1;simp only[List.length_singleton] at h3 h4;omega
end
def rH(l:List HC)(a:Option Addr)(c:Nat):bC:=⟨69,3,a,l.length,c,bS l⟩
def rG(l:List Gl)(a:Option Addr)(c:Nat):bC:=⟨65,3,a,l.length,c,cE l⟩
def rK(l:List Chi)(a:Option Addr)(c:Nat):bC:=⟨67,5,a,l.length,c,cW l⟩
def rI(l:List Int)(a:Option Addr)(c:Nat):bC:=⟨3,1,a,l.length,c,l.map fun x=>Value.int .i64 x⟩
def rB(l:List Bool)(a:Option Addr)(c:Nat):bC:=⟨4,1,a,l.length,c,l.map Value.bool⟩
theorem pN{w:World}{base g:Nat}{l:List Int}{c:Nat}(h:(rI l (some ⟨g,0,none⟩) c).In w base){j:Nat}(hj:j<l.length):w.cell? ⟨g,j,none⟩=some (.int .i64 l[j]) :=
 h.cell rfl (by simp[rI,hj])
theorem bI4{w:World}{base g:Nat}{l:List Bool}{c:Nat}(h:(rB l (some ⟨g,0,none⟩) c).In w base){j:Nat}(hj:j<l.length):w.cell? ⟨g,j,none⟩=some (.bool l[j]) :=
 h.cell rfl (by simp[rB,hj])
theorem bI5{w:World}{base g:Nat}{l:List Gl}{c:Nat}(h:(rG l (some ⟨g,0,none⟩) c).In w base){j:Nat}(hj:j<l.length):w.cell? ⟨g,j*3,none⟩=some (.int .i64 l[j].at')∧w.cell? ⟨g,j*3+1,none⟩=some (.int .i64 l[j].cut)∧w.cell? ⟨g,j*3+2,none⟩=some (.int .i64 l[j].next):=by
 obtain⟨h0,h1,h2⟩:=fU l j hj;exact⟨h.cell rfl h0,h.cell rfl h1,h.cell rfl h2⟩
theorem bI6{w:World}{base g:Nat}{l:List Chi}{c:Nat}(h:(rK l (some ⟨g,0,none⟩) c).In w base){j:Nat}(hj:j<l.length):w.cell? ⟨g,j*5,none⟩=some (.int .i64 l[j].goal)∧w.cell? ⟨g,j*5+1,none⟩=some (.int .i64 l[j].clause)∧w.cell? ⟨g,j*5+2,none⟩=some (.int .i64 l[j].heap)∧w.cell? ⟨g,j*5+3,none⟩=some (.int .i64 l[j].trail)∧w.cell? ⟨g,j*5+4,none⟩=some (.int .i64 l[j].goals):=by
 obtain⟨h0,h1,h2,h3,h4⟩:=jJ l j hj;exact⟨h.cell rfl h0,h.cell rfl h1,h.cell rfl h2,h.cell rfl h3,h.cell rfl h4⟩
theorem aN0{w:World}{g:Nat}{l:List Int}(h:w.heap[g]? = some (.cells (l.map (Value.int .i64)).toArray 3 (0,0)))(hl:l.length≤maxLen):(rI l (some ⟨g,0,none⟩) l.length).In w 0:=by
 refine⟨by simp[rI],.inr ⟨g,l.length,_,rfl,Nat.zero_le _,h,nR _,hl,by simp[rI],?_⟩⟩;simp only[rI,Nat.mul_one];exact List.take_of_length_le (by simp)
theorem bE4{w:World}{g:Nat}{l:List Bool}(h:w.heap[g]? = some (.cells (l.map Value.bool).toArray 4 (0,0)))(hl:l.length≤maxLen):(rB l (some ⟨g,0,none⟩) l.length).In w 0:=by
 refine⟨by simp[rB],.inr ⟨g,l.length,_,rfl,Nat.zero_le _,h,nR _,hl,by simp[rB],?_⟩⟩;simp only[rB,Nat.mul_one];exact List.take_of_length_le (by simp)
theorem aP9(l:List Gl)(i:Nat)(g:Gl)(hi:i<l.length)(h1:g.cut=l[i].cut)(h2:g.next=l[i].next):cE (l.set i g)=(cE l).set (i*3) (.int .i64 g.at'):=by
 induction l generalizing i with
 | nil=>cases hi
 | cons x l ih =>
  cases i with
  | zero =>
   simp only[List.getElem_cons_zero] at h1 h2;simp[cE,h1,h2]
  | succ i =>
   have:=ih i (by simpa using hi) (by simpa using h1) (by simpa using h2);rw[show (i+1)*3=i*3+1+1+1 by omega];simp only[List.set_cons_succ,cE,this]
theorem aQ0(l:List Chi)(i:Nat)(h t:Int)(hi:i<l.length):cW (l.set i {l[i] with heap:=h,trail:=t})=((cW l).set (i*5+2) (.int .i64 h)).set (i*5+3) (.int .i64 t):=by
 induction l generalizing i with
 | nil=>cases hi
 | cons x l ih =>
  cases i with
  | zero=>simp[cW]
  | succ i =>
   have:=ih i (by simpa using hi);rw[show (i+1)*5=i*5+1+1+1+1+1 by omega];simp only[List.getElem_cons_succ,List.set_cons_succ,cW,this]
theorem yU(l:List HC)(i:Nat)(n:Int)(hi:i<l.length):bS (l.set i {l[i] with n:=n})=(bS l).set (i*3+1) (.int .i64 n):=by
 induction l generalizing i with
 | nil=>cases hi
 | cons x l ih =>
  cases i with
  | zero=>simp[bS]
  | succ i =>
   have:=ih i (by simpa using hi);rw[show (i+1)*3=i*3+1+1+1 by omega];simp only[List.getElem_cons_succ,List.set_cons_succ,bS,this]
def dQ(f:Nat→Nat)(n k:Nat):List Int:=(List.range n).map fun j=>if j<k then (f j:Int) else 0
theorem eC(f:Nat→Nat)(n k:Nat):(dQ f n k).length=n:=by simp[dQ]
theorem tE{f:Nat→Nat}{n k j:Nat}(h:j<n):(dQ f n k)[j]? = some (if j<k then (f j:Int) else 0):=by
 unfold dQ;rw[List.getElem?_map,List.getElem?_range h];rfl
theorem wR(f:Nat→Nat)(n:Nat):dQ f n 0=List.replicate n 0:=by
 refine List.ext_getElem? fun j=>?_
 by_cases h:j<n
 ·rw[tE h,List.getElem?_replicate,if_pos h,if_neg (Nat.not_lt_zero j)]
 ·rw[List.getElem?_eq_none (by rw[eC];omega),List.getElem?_eq_none (by simp;omega)]
theorem aB0{f:Nat→Nat}{n k:Nat}(h:k<n):(dQ f n k).set k (f k:Int)=dQ f n (k+1):=by
 refine List.ext_getElem? fun j=>?_
 by_cases hj:j<n
 ·rw[List.getElem?_set,tE hj,tE hj,eC]
  by_cases e:k=j
  ·subst e;rw[if_pos rfl,if_pos h,if_pos (by omega)]
  ·rw[if_neg e]
   by_cases hk:j<k
   ·rw[if_pos hk,if_pos (by omega)]
   ·rw[if_neg hk,if_neg (by omega)]
 ·rw[List.getElem?_eq_none (by simp[eC];omega),List.getElem?_eq_none (by rw[eC];omega)]
theorem aV0{f:Nat→Nat}{n k j:Nat}(h:j<n)(hk:j<k):(dQ f n k)[j]'(by rw[eC];exact h)=(f j:Int):=by
 have:=tE (f:=f) (k:=k) h;rw[if_pos hk,List.getElem?_eq_getElem (by rw[eC];exact h)] at this;exact Option.some.inj this
theorem kL{w:World}{base g n k c:Nat}{f:Nat→Nat}(h:(rI (dQ f n k) (some ⟨g,0,none⟩) c).In w base){j:Nat}(hj:j<n)(hk:j<k):w.cell? ⟨g,j,none⟩=some (.int .i64 (f j:Nat)):=by
 have:=pN h (j:=j) (by rw[eC];exact hj);rw[aV0 hj hk] at this;exact this
theorem oL{α β:Type}(f:α→β):∀(s:List Bool) (l:List α),(aN id s l).map f=aN f s l
 | [],[]=>rfl
 | [],_::_=>rfl
 | _::_,[]=>rfl
 | b::s,a::l=>by
  have ih:=oL f s l;cases b <;> simp[aN,ih]
theorem lS{α:Type}{x:α}:∀{s:List Bool} {l:List α},x∈aN id s l→x∈l
 | [],[],h=>nomatch h
 | [],_::_,h=>nomatch h
 | _::_,[],h=>nomatch h
 | b::s,a::l,h=>by
  cases b with
  | true =>
   simp only[aN,if_true,List.mem_cons,id] at h;rcases h with h|h
   ·exact List.mem_cons.2 (.inl h)
   ·exact List.mem_cons.2 (.inr (lS h))
  | false =>
   simp only[aN,Bool.false_eq_true,if_false] at h;exact List.mem_cons.2 (.inr (lS h))
theorem mC{α:Type}{s:List Bool}{l:List α}{k:Nat}(hs:s.length=l.length):(aN id (s.take k) (l.take k)).length=aO s k:=by
 rw[iT id _ _ (by simp[hs])];rfl
end Go.Proofs.Ytikmgiapjigghab
namespace Go.Proofs.Ytikmgiapjigghab
open Go.RowKit Go.Shelf
def aP1(F:Fence)(n:Nat)(P:Program)(gf:Nat)(lb:Array Value)(encs:Nat→Array Value)(Kp:World→World→Prop)(N:Nat)(w:World):Prop :=
 ∀(l:Nat) (J:Nat→World→Prop) (Jx:Unit→World→Prop) (W:World),Below w.heap.size w W→AbidesFrom W.heap.size J→AbidesFrom W.heap.size Jx →
  (∀i V,i<N→J i V→YieldAt F (n-1) P l (encs i) V fun e V'=>(e=.returned (.bool true)∧J (i+1) V'∧Kp V V')∨(e=.returned (.bool false)∧Jx () V')) →
  J 0 W→CallsIn F n P gf (#[.func (.yield l) #[] #[]]++lb) W fun e V=>(∃v,e=.returned v)∧(J N V∨Jx () V)
def bB8(B:Nat)(Kp:World→World→Prop)(I:World→Prop)(Ix:Unit→World→Prop)(W:World):Exit→Act→World→Prop
 | .normal,_,V=>KeepsFrom B W V∧Kp W V∧I V
 | .ret,_,V=>KeepsFrom B W V∧Ix () V
 | _,_,_=>False
theorem pF{F:Fence}{n:Nat}{P:Program}{g:Operand}{ps:Array Tmp}{assign body:Code}{Q:Exit→Act→World→Prop}{a:Act}{w:World}(hro:F.round=none)(h1:1≤n){gf:Nat}{lb:Array Value}(hg:a.eval g=.func (.func gf) #[] lb)(hFg:F.fn gf)
 (eg:∀args w,(callFunc gf args).run P w=.ok (.enter gf args) w) {encs:Nat→Array Value} {Kp:World→World→Prop} {N:Nat} {w0:World} (hseq:aP1 F (n-1) P gf lb encs Kp N w0) (hKt:∀{A B C:World},Kp A B→Kp B C→Kp A C) (hKb:∀(W:World) (l:Nat) (o o':Obj),w.heap.size≤l→W.heap[l]? = some o→o.isCells=false→Kp W (W.putObj l o')) (hb0:Below w0.heap.size w0 w) (hps:∀i,(encs i).size=ps.size)
 (I:Nat→World→Prop) (Ix:Unit→World→Prop) (hI:OwnFrom w.heap.size I) (hIx:OwnFrom w.heap.size Ix) (h0:I 0 w) (Ax:Nat→Act→World→Prop) (hAx:∀a',OwnFrom w.heap.size (fun i W=>Ax i a' W))
 (hassign:∀(l i:Nat) (W:World) (K:Act→World→Prop),i<N→I i W→(∀a' W',KeepsFrom w.heap.size W W'→Kp W W'→I i W'→Ax i a' W'→K a' W') →
  assign.wpIn (F.inRound l) (n-1-1) P (Exit.then K (fun _ _ _=>False)) {tmps:=(ps.zip (encs i)).foldl (fun t (p,v)=>t.setIfInBounds p v) a.tmps,defers:=[]} W)
 (hbody:∀(l i:Nat) (a':Act) (W:World),i<N→I i W→Ax i a' W→body.wpIn (F.inRound l) (n-1-1) P (bB8 w.heap.size Kp (I (i+1)) Ix W) a' W)
 (hdone:∀(D:Nat) (W:World),w.heap.size≤D→I N W→W.heap[D]? = some (.deferred (some []))→Q .normal {a with defers:={target:=.collected D,args:=#[]}::a.defers} W)
 (hstop:∀(D:Nat) (W:World),w.heap.size≤D→Ix () W→W.heap[D]? = some (.deferred (some []))→Code.ret.wpIn F n P Q {a with defers:={target:=.collected D,args:=#[]}::a.defers} W) :
 (Code.rangeFunc g ps assign body).wpIn F n P Q a w:=by
 refine wpIn_rangeFunc fun fn hfn=>?_
 rw[hro]
 -- the two blocks of book-keeping
 let rc:LoopState→Option Code→Loop:=fun st pe=>{state:=st,pending:=pe,fn:=fn,tmps:=a.tmps,params:=ps,assign:=assign,body:=body,defers:=w.heap.size}
 let V0:World:=(w.alloc (.deferred (some []))).alloc (.loop (rc .ready none))
 have sV:V0.heap.size=w.heap.size+2:=by simp[V0]
 have vL:V0.heap[w.heap.size+1]? = some (.loop (rc .ready none)):=by
  have:=World.alloc_heap_new (w.alloc (.deferred (some []))) (.loop (rc .ready none));rwa [World.size_alloc] at this
 have vD:V0.heap[w.heap.size]? = some (.deferred (some [])):=(Below.heap_alloc _ _ _ (by simp)).trans (World.alloc_heap_new w _);have vB:Below w0.heap.size w0 V0:=hb0.trans ((((Below.refl _ w).alloc (nR _) _).alloc (by simp) _).mono hb0.size)
 -- what holds of a world beside them
 let St:(World→Prop)→LoopState→Option Code→World→Prop:=fun p st pe W=>p W∧W.heap[w.heap.size+1]? = some (.loop (rc st pe))∧W.heap[w.heap.size]? = some (.deferred (some []))
 have abide:∀{β:Type} {p:β→World→Prop} (_:OwnFrom w.heap.size p) (st:LoopState) (pe:Option Code),AbidesFrom V0.heap.size (fun s W=>St (p s) st pe W):=fun {β p} hp st pe s A B row hs hgr hr=>by
  have hr2:∀r,row=some r→∃o:Obj,A.heap[r]? = some o∧o.isWalk=true:=fun r e=>(hr r e).2
  refine⟨hp s A B row hs.1 hgr fun r e=>?_,(grownBy_keeps hgr hr2 hs.2.1 rfl).trans hs.2.1,(grownBy_keeps hgr hr2 hs.2.2 rfl).trans hs.2.2⟩;obtain⟨hB,o,ho,hw⟩:=hr r e;exact⟨by omega,o,ho,Obj.not_cells_of_walk hw⟩
 refine⟨w.heap.size+1,[{target:=.collected w.heap.size,args:=#[]}],V0,{target:=.fn (.func gf) lb,args:=#[.func (.yield (w.heap.size+1)) #[] #[]]},V0,gf,
  #[.func (.yield (w.heap.size+1)) #[] #[]]++lb,V0,run_enterLoop_outer _ _ _ _ _,?_,?_,?_,fun _=>h1,?_⟩
 ·simp only[resolve,hg];simp[go_sem]
 ·intro f' hf';simp[Target.leads] at hf';subst hf';exact hFg
 ·simp[invoke,go_sem,eg]
 have hcall:=hseq (w.heap.size+1) (fun i W=>St (I i) .ready none W) (fun u W=>St (Ix u) .done (some .ret) W) V0 vB (abide hI _ _) (abide hIx _ _) ?_ ⟨hI.alloc _ (hI.alloc _ h0),vL,vD⟩
 ·refine hcall.mono ?_
  rintro e W2 ⟨⟨v,rfl⟩,hend⟩;rcases hend with ⟨hi,hl,hk⟩|⟨hi,hl,hk⟩
  ·refine⟨none,_,run_endLoop (P:=P) hl (by simp[rc]),hdone _ _ (nR _) (hI.putObj _ hi (by omega) hl rfl) ((World.putObj_heap_other (by omega)).trans hk)⟩
  ·refine⟨some .ret,_,run_endLoop (P:=P) hl (by simp[rc]),hstop _ _ (nR _) (hIx.putObj _ hi (by omega) hl rfl) ((World.putObj_heap_other (by omega)).trans hk)⟩
 -- a round
 rintro i W hN ⟨hi,hl,hk⟩;refine⟨fn,_,assign,body,run_yield (P:=P) (args:=encs i) hl (hps i),roundIn_of_wpIn hfn (hassign _ i W _ hN hi ?_)⟩;intro a' Wa hka hkp hia hax;have la:=hka.same _ _ (by omega) hl rfl;have da:=hka.same _ _ (nR _) hk rfl;have zl:w.heap.size+1<Wa.heap.size:=(gS la).1;have lb2:(Wa.putObj (w.heap.size+1) (.loop {rc .ready none with state:=.busy})).heap[w.heap.size+1]? = some (.loop {rc .ready none with state:=.busy}):=World.putObj_heap_same zl;have db2:(Wa.putObj (w.heap.size+1) (.loop {rc .ready none with state:=.busy})).heap[w.heap.size]? = some (.deferred (some [])):=(World.putObj_heap_other (by omega)).trans da;refine⟨_,run_beginRound la (by simp[rc]),wpIn_mono (hbody _ i a' _ hN (hI.putObj _ hia (by omega) la rfl) ((hAx a').putObj _ hax (by omega) la rfl)) ?_⟩;intro e a3 V hend;have last:∀(p:World→Prop) (st:LoopState) (jump:Option Code),st=(if jump.isNone then .ready else .done)→KeepsFrom w.heap.size (Wa.putObj (w.heap.size+1) (.loop {rc .ready none with state:=.busy})) V→(∀V',V'=V.putObj (w.heap.size+1) (.loop (rc st jump))→p V') →
  (Instr.endRound (w.heap.size+1) jump).run P V=.ok (.bool jump.isNone) (V.putObj (w.heap.size+1) (.loop (rc st jump)))∧St p st jump (V.putObj (w.heap.size+1) (.loop (rc st jump))):=fun p st jump hst hkv hp=>by
  have l3:=hkv.same _ _ (by omega) lb2 rfl;have r3:=run_endRound (P:=P) jump l3;subst hst;exact⟨r3,hp _ rfl,World.putObj_heap_same (gS l3).1,(World.putObj_heap_other (by omega)).trans (hkv.same _ _ (nR _) db2 rfl)⟩
 cases e with
 | normal =>
  obtain⟨k3,kp3,i3⟩:=hend;have l3:=k3.same _ _ (by omega) lb2 rfl;have kp4:=hKt hkp (hKt (hKt (hKb Wa (w.heap.size+1) _ (.loop {rc .ready none with state:=.busy}) (by omega) la rfl) kp3) (hKb V (w.heap.size+1) _ (.loop (rc .ready none)) (by omega) l3 rfl));obtain⟨hr,hs⟩:=last (I (i+1)) .ready none rfl k3 (fun V' e=>by rw[e];exact hI.putObj _ i3 (by omega) l3 rfl);exact⟨_,_,hr,.inl ⟨rfl,hs,kp4⟩⟩
 | ret =>
  obtain⟨k3,i3⟩:=hend;have l3:=k3.same _ _ (by omega) lb2 rfl;obtain⟨hr,hs⟩:=last (Ix ()) .done (some .ret) rfl k3 (fun V' e=>by rw[e];exact hIx.putObj _ i3 (by omega) l3 rfl);exact⟨_,_,hr,.inr ⟨rfl,hs⟩⟩
 | exit id=>exact hend.elim
 | goto t=>exact hend.elim
 | panic ch=>exact hend.elim
 | outgrown=>exact hend.elim
attribute [local go_sem] Oper.semAt_some
def aY9(c:Chi):Value:=.agg #[.int .i64 c.goal,.int .i64 c.clause,.int .i64 c.heap,.int .i64 c.trail,.int .i64 c.goals]
def aE6(l:List Chi)(i:Nat):Array Value:=#[.int .i64 ((l.length-1-i:Nat):Int),aY9 (l.getD (l.length-1-i) aT)]
theorem aE7{n:Nat}(hn:1≤n){w0:World}{B0:Nat}{ok:Nat→Prop}(l:List Chi){a:Option Addr}{cap:Nat}(hB:B0<w0.heap.size∧ok B0)(h0:w0.cell? ⟨B0,0,none⟩=some (.slice a l.length cap))(hr:cZ w0 ok 5 l.length (cW l) a cap) :
 aP1 Fence.wide n Try.prog 110 #[.pointer (some ⟨B0,0,none⟩)] (aE6 l) (aD ok) l.length w0:=by
 intro lp J Jx W hW hJ hJx hY hJ0;have hro:Fence.wide.round=none:=rfl;have hl9:l.length≤9223372036854775807:=by have:=hr.cap;unfold maxLen at this;omega
 have HY:=lh hY;have HR:=lh hr;have HKW:Hid (aD ok w0 W):=lh (aD.below hW ok);have HJ0:=lh hJ0;have c0:=(HKW.out.cell (p:=⟨B0,0,none⟩) hB.2 hB.1).trans h0;clear hY hJ hJx hr hJ0;refine callsIn_of_wp Try.func110 rfl trivial ?_ hro;simp only[Try.ntmps110,List.size_toArray,List.length_cons,List.length_nil,Nat.reduceAdd,Nat.reduceSub,Array.replicate_succ,Array.replicate_zero,List.push_toArray,List.append_toArray,List.nil_append,List.cons_append];gi_wp2
 gi_loopw [3] (fun p wr=>∃j:Nat,j≤l.length∧p=.int .i64 ((l.length:Int)-1-j)∧Hid (J j wr)∧Hid (aD ok W wr)) (fun p _=>(intOf p+1).toNat)
 case atStart=>exact⟨0,Nat.zero_le _,by go_num,HJ0,lh (aD.below (bR _ _) ok)⟩
 case round =>
  obtain⟨j,hj,rfl,HJ,HK⟩:=hrel;have c1:=(HK.out.cell (p:=⟨B0,0,none⟩) hB.2 (nT hB.1 hW.size)).trans c0;by_cases hlt:j<l.length
  ·obtain⟨q,hq,hql⟩:∃q:Nat,q=l.length-1-j∧q<l.length:=⟨l.length-1-j,rfl,by omega⟩
   have hqi:(l.length:Int)-1-(j:Int)=(q:Int):=by omega
   obtain⟨b,off,rfl,hokb,hb,hcs⟩:=HR.out.some (by decide) (Nat.lt_of_le_of_lt (Nat.zero_le _) hlt);have hK0:aD ok w0 wr:=HKW.out.trans HK.out;obtain⟨g0,g1,g2,g3,g4⟩:=jJ l q hql;have m0:=(hK0.cell (p:=⟨b,off+q*5,none⟩) hokb hb).trans (hcs _ _ g0);have m1:wr.cell? ⟨b,off+q*5+1,none⟩=_:=(hK0.cell (p:=⟨b,off+(q*5+1),none⟩) hokb hb).trans (hcs _ _ g1);have m2:wr.cell? ⟨b,off+q*5+2,none⟩=_:=(hK0.cell (p:=⟨b,off+(q*5+2),none⟩) hokb hb).trans (hcs _ _ g2);have m3:wr.cell? ⟨b,off+q*5+3,none⟩=_:=(hK0.cell (p:=⟨b,off+(q*5+3),none⟩) hokb hb).trans (hcs _ _ g3);have m4:wr.cell? ⟨b,off+q*5+4,none⟩=_:=(hK0.cell (p:=⟨b,off+(q*5+4),none⟩) hokb hb).trans (hcs _ _ g4);obtain⟨fn,tmps,assign,body,hy,hR⟩:=HY.out j wr hlt HJ.out;have e:aE6 l j = #[.int .i64 (q:Int),.agg #[.int .i64 l[q].goal,.int .i64 l[q].clause,.int .i64 l[q].heap,.int .i64 l[q].trail,.int .i64 l[q].goals]]:=by
    unfold aE6 aY9;rw[←hq,List.getD_eq_getElem?_getD,List.getElem?_eq_getElem hql];rfl
   rw[e] at hy;rw[hqi];have HQ:=lh hqi;have hq0:(0:Int)≤(q:Int):=by omega
   clear hK0 hcs g0 g1 g2 g3 g4 hq e hqi;gi_wp2;refine hR.mono ?_;rintro e W3 (⟨rfl,hJ3,hk3⟩|⟨rfl,hJx3⟩)
   ·have HJ3:=lh hJ3
    have HK3:=lh (HK.out.trans hk3);clear hJ3 hk3;gi_wp2;go_roundw
    case rel=>exact⟨j+1,by omega,by have:=HQ.out;go_num,HJ3,HK3⟩
    case measure=>have:=HQ.out;simp only[intOf];omega
   ·have HJ3:=lh hJx3
    clear hJx3;gi_wp2;refine bodyPost_ret (results_none rfl _ _ _) rfl ?_;exact⟨⟨_,rfl⟩,.inr HJ3.out⟩
  ·have hje:j=l.length:=by omega
   have HE:Hid (J l.length wr):=lh (by rw[←hje];exact HJ.out);have hlo:(l.length:Int)-1-(j:Int) = -1:=by omega
   rw[hlo];clear hje;gi_wp2
   go_end0
   exact⟨⟨_,rfl⟩,.inl HE.out⟩
end Go.Proofs.Ytikmgiapjigghab
namespace Go.Proofs.Ytikmgiapjigghab
open Go.RowKit Go.Shelf
attribute [local go_sem] Oper.semAt_some
theorem dC.take{w:World}{ok:Nat→Prop}{l:List Int}{a:Option Addr}{cap:Nat}(h:dC w ok l a cap)(k:Nat):dC w ok (l.take k) a cap :=
 ⟨⟨by rw[List.length_take];have:=h.cap.1;omega,h.cap.2.1,h.cap.2.2⟩,fun i hi=>by
  rw[List.length_take] at hi;obtain⟨b,off,h1,h2,h3,h4⟩:=h.at' i (by omega);exact⟨b,off,h1,h2,h3,by rw[List.getElem_take];exact h4⟩⟩
theorem cZ.takeG{w:World}{ok:Nat→Prop}{l:List Gl}{a:Option Addr}{cap:Nat}(h:cZ w ok 3 l.length (cE l) a cap)(k:Nat):cZ w ok 3 (l.take k).length (cE (l.take k)) a cap :=
 ⟨⟨by rw[List.length_take];have:=h.cap.1;omega,h.cap.2.1,h.cap.2.2⟩,dN _,fun j u hu=>by
  rw[uP] at hu;have hj:j<((cE l).take (k*3)).length:=(List.getElem?_eq_some_iff.1 hu).1;rw[List.length_take] at hj;rw[List.getElem?_take_of_lt (by omega)] at hu;exact h.at' j u hu⟩
structure aZ8(V0:World)(B base:Nat)(m:Mac)(d:MAd):Prop where
 lt:B<base∧base≤V0.heap.size
 fits:∀b,bk d.h=some b→base≤b∧b<V0.heap.size
 g:cZ V0 (fun b=>b<V0.heap.size∧b≠B∧bk d.h≠some b) 3 m.G.length (cE m.G) d.g d.gn
 c:cZ V0 (fun b=>b<V0.heap.size∧b≠B∧bk d.h≠some b) 5 m.ch.length (cW m.ch) d.c d.cn
 t:dC V0 (fun b=>b<V0.heap.size∧b≠B∧bk d.h≠some b) m.T d.t d.tn
 q:dC V0 (fun b=>b<V0.heap.size∧b≠B∧bk d.h≠some b) m.Q d.q d.qn
 a:lF V0 (fun b=>b<V0.heap.size∧b≠B∧bk d.h≠some b) m.ans d.a d.an
theorem OwM.lasB{w1 V0:World}{B base:Nat}{okA:Nat→Prop}{m:Mac}{d:MAd}(h:OwM w1 base okA m d)(hA:∀b,okA b→b≠B)(hB:B<base)(hb:base≤w1.heap.size)(ht:aA (fun b=>b=B) w1 V0):aZ8 V0 B base m d:=by
 have hs:=ht.size;have hn:=h.ne;unfold Nd at hn;simp only[List.pairwise_cons,List.mem_cons,List.not_mem_nil,or_false,forall_eq_or_imp,forall_eq] at hn;obtain⟨⟨n1,n2,n3,n4,n5⟩,-⟩:=hn;have hk:aD (fun b=>b<w1.heap.size∧b≠B∧bk d.h≠some b) w1 V0:=ht.keeps fun b hb=>hb.2.1
 have key:∀{e:TypeId} {k n n' c:Nat} {a:Option Addr} {vs:List Value},w1.ownsRow base e k (.slice a n c) n' vs→(∀b,bk d.h=some b→bk a≠some b)→∀b,(Value.slice a n c).ownBlock=some b→b<w1.heap.size∧b≠B∧bk d.h≠some b:=fun hr hne b hb =>
  ⟨(hr.lt b hb).2,fun e=>by have:=(hr.lt b hb).1;omega,fun e=>hne b e ((aE _ _ _).symm.trans hb)⟩
 refine⟨⟨hB,by omega⟩,fun b hb=>?_,?_,?_,?_,?_,?_⟩
 ·have:=h.h.row.lt b ((aE _ _ _).trans hb);omega
 ·obtain⟨a,c,e,hr⟩:=cZ.of_row (ok:=fun b=>b<w1.heap.size∧b≠B∧bk d.h≠some b) h.g (dN _) (key h.g n1)
  injection e with e1 _ e2;subst e1;subst e2;exact(hr.keep hk).mono fun b _ hb=>⟨by omega,hb.2⟩
 ·obtain⟨a,c,e,hr⟩:=cZ.of_row (ok:=fun b=>b<w1.heap.size∧b≠B∧bk d.h≠some b) h.c (eQ _) (key h.c n2)
  injection e with e1 _ e2;subst e1;subst e2;exact(hr.keep hk).mono fun b _ hb=>⟨by omega,hb.2⟩
 ·obtain⟨a,c,e,hr⟩:=dC.of_row (ok:=fun b=>b<w1.heap.size∧b≠B∧bk d.h≠some b) h.t (key h.t n3)
  injection e with e1 _ e2;subst e1;subst e2;exact(hr.keep hk).mono fun b _ hb=>⟨by omega,hb.2⟩
 ·obtain⟨a,c,e,hr⟩:=dC.of_row (ok:=fun b=>b<w1.heap.size∧b≠B∧bk d.h≠some b) h.q (key h.q n4)
  injection e with e1 _ e2;subst e1;subst e2;exact(hr.keep hk).mono fun b _ hb=>⟨by omega,hb.2⟩
 ·obtain⟨A,e1,e2,e3⟩:=h.a
  obtain⟨a,c,e,hr⟩:=lF.of_row (ok:=fun b=>b<w1.heap.size∧b≠B∧bk d.h≠some b) e2 (key e2 n5) fun x hx=>(e3 x hx).mono fun b hb h=>⟨hb,hA b h.1,fun e=>h.2 _ List.mem_cons_self e⟩
  rw[e1] at e hr;injection e with f1 _ f2;subst f1;subst f2;exact(hr.keep hk).mono fun b _ hb=>⟨by omega,hb.2⟩
structure jZ(V0:World)(B base:Nat)(m:Mac)(d:MAd)(mi:Mac)(W:World):Prop where
 box:cL W B mi d
 own:eT W base (.slice d.h mi.H.length d.hn) mi.H
 keep:aA (fun b=>b=B∨bk d.h=some b∨V0.heap.size≤b) V0 W
theorem jZ.touch{V0 W W':World}{B base:Nat}{m:Mac}{d:MAd}{mi:Mac}(h:jZ V0 B base m d mi W)(hb:aZ8 V0 B base m d)(ht:aA (fun b=>V0.heap.size≤b) W W'):jZ V0 B base m d mi W':=by
 have h0:=hb.lt;refine⟨h.box.keep (ht.block B h.box.lt (by omega)),h.own.keep fun g hg=>?_,h.keep.trans (ht.mono fun b _ e=>.inr (.inr e))⟩;have hg':=hb.fits g ((aE _ _ _).symm.trans hg);exact ht.block g (by have:=h.keep.size;omega) (by omega)
theorem jZ.mac{V0 W:World}{B base:Nat}{m:Mac}{d:MAd}{mi:Mac}(h:jZ V0 B base m d mi W)(hb:aZ8 V0 B base m d)(hu:iW m mi):bO W (fun _=>True) mi d:=by
 have hk:aD (fun b=>b<V0.heap.size∧b≠B∧bk d.h≠some b) V0 W:=h.keep.keeps fun b hb e=>by
  rcases e with e|e|e
  ·exact hb.2.1 e
  ·exact hb.2.2 e
  ·omega
 obtain⟨kg,hg1,hg2⟩:=hu.g;obtain⟨kt,ht1,ht2⟩:=hu.t;refine⟨?_,?_,?_,?_,?_,?_⟩
 ·obtain⟨a,c,e,hr⟩:=dV.of_row (ok:=fun _=>True) h.own.row (fun _ _=>trivial) h.own.fits
  injection e with e1 _ e2;subst e1;subst e2;exact hr
 ·rw[hg2];exact((hb.g.keep hk).takeG kg).mono fun _ _ _=>trivial
 ·rw[hu.c];exact(hb.c.keep hk).mono fun _ _ _=>trivial
 ·rw[ht2];exact((hb.t.keep hk).take kt).mono fun _ _ _=>trivial
 ·rw[hu.q];exact(hb.q.keep hk).mono fun _ _ _=>trivial
 ·rw[hu.a];exact(hb.a.keep hk).mono fun _ _ _=>trivial
theorem jZ.uat{V0 W:World}{B base:Nat}{m:Mac}{d:MAd}{mi:Mac}(h:jZ V0 B base m d mi W)(hb:aZ8 V0 B base m d)(hu:iW m mi):UAt W B 0 (mi.vals d).toArray 30 base mi.H mi.T mi.G.length d.h d.t d.g d.hn d.tn d.gn:=by
 have hk:aD (fun b=>b<V0.heap.size∧b≠B∧bk d.h≠some b) V0 W:=h.keep.keeps fun b hb e=>by
  rcases e with e|e|e
  ·exact hb.2.1 e
  ·exact hb.2.2 e
  ·omega
 obtain⟨kg,hg1,hg2⟩:=hu.g;obtain⟨kt,ht1,ht2⟩:=hu.t;refine⟨h.box.blk,rfl,rfl,rfl,h.own,?_,fun e=>?_,?_⟩
 ·rw[ht2];exact((hb.t.keep hk).take kt).mono fun b _ hb=>⟨hb.2.1,fun e=>hb.2.2 ((aE _ _ _).symm.trans e)⟩
 ·have:=hb.fits B ((aE _ _ _).symm.trans e);have:=hb.lt;omega
 ·have:=hb.g.cap;rw[hg2,List.length_take];omega
theorem jZ.undo{V0 W W':World}{B base:Nat}{m:Mac}{d:MAd}{mi:Mac}(h:jZ V0 B base m d mi W){c:Chi}(hH:0≤c.heap∧c.heap≤(mi.H.length:Int))(hT:0≤c.trail∧c.trail≤(mi.T.length:Int))(hG:0≤c.goals∧c.goals≤(mi.G.length:Int)){e:Ending}
 (hp:nN W B 0 (mi.vals d).toArray 30 base mi.H mi.T d.h d.t d.g d.hn d.tn d.gn c e W'):jZ V0 B base m d (cY mi c) W'∧aA (fun b=>b=B∨bk d.h=some b) W W':=by
 obtain⟨-,h2,h3,h4⟩:=hp;have l1:(cY mi c).H.length=c.heap.toNat:=by simp only[cY,List.length_take,dH];omega
 have l2:(cY mi c).T.length=c.trail.toNat:=by simp only[cY,List.length_take];omega
 have l3:(cY mi c).G.length=c.goals.toNat:=by simp only[cY,List.length_take];omega
 have ht:aA (fun b=>b=B∨bk d.h=some b) W W':=h2.mono fun b _ e=>e.imp id fun e=>(aE _ _ _).symm.trans e
 refine⟨⟨⟨?_⟩,?_,h.keep.trans (ht.mono fun b _ e=>e.elim .inl fun e=>.inr (.inl e))⟩,ht⟩
 ·rw[h3]
  simp only[Mac.vals,l1,l2,l3];rfl
 ·rw[l1];exact h4
theorem cL.put{w:World}{b:Nat}{m0:Mac}{d0:MAd}(h:cL w b m0 d0)(m:Mac)(d:MAd):cL (((((((((w.setCell ⟨b,0,none⟩ (.slice d.h m.H.length d.hn)).setCell ⟨b,1,none⟩ (.slice d.g m.G.length d.gn)).setCell ⟨b,2,none⟩ (.int .i64 m.first)).setCell ⟨b,3,none⟩ (.slice d.c m.ch.length d.cn)).setCell ⟨b,4,none⟩ (.slice d.t m.T.length d.tn)).setCell ⟨b,5,none⟩ (.slice d.q m.Q.length d.qn)).setCell ⟨b,6,none⟩ (.int .i64 m.steps)).setCell ⟨b,7,none⟩ (.int .i64 m.fin)).setCell ⟨b,8,none⟩ (.slice d.a m.ans.length d.an)) b m d∧aA (fun x=>x=b) w (((((((((w.setCell ⟨b,0,none⟩ (.slice d.h m.H.length d.hn)).setCell ⟨b,1,none⟩ (.slice d.g m.G.length d.gn)).setCell ⟨b,2,none⟩ (.int .i64 m.first)).setCell ⟨b,3,none⟩ (.slice d.c m.ch.length d.cn)).setCell ⟨b,4,none⟩ (.slice d.t m.T.length d.tn)).setCell ⟨b,5,none⟩ (.slice d.q m.Q.length d.qn)).setCell ⟨b,6,none⟩ (.int .i64 m.steps)).setCell ⟨b,7,none⟩ (.int .i64 m.fin)).setCell ⟨b,8,none⟩ (.slice d.a m.ans.length d.an)):=by
 refine⟨⟨?_⟩,?_⟩
 ·skip
  have k0:=aB w b 0 (.slice d.h m.H.length d.hn) h.blk;have k1:=aB _ b 1 (.slice d.g m.G.length d.gn) k0;have k2:=aB _ b 2 (.int .i64 m.first) k1;have k3:=aB _ b 3 (.slice d.c m.ch.length d.cn) k2;have k4:=aB _ b 4 (.slice d.t m.T.length d.tn) k3;have k5:=aB _ b 5 (.slice d.q m.Q.length d.qn) k4;have k6:=aB _ b 6 (.int .i64 m.steps) k5;have k7:=aB _ b 7 (.int .i64 m.fin) k6;have k8:=aB _ b 8 (.slice d.a m.ans.length d.an) k7;rw[k8];simp[Mac.vals]
 ·exact(((((((((aA.setCell (M:=fun x=>x=b) (w:=w) (p:=⟨b,0,none⟩) (.slice d.h m.H.length d.hn) rfl).trans (aA.setCell (M:=fun x=>x=b) (p:=⟨b,1,none⟩) (.slice d.g m.G.length d.gn) rfl)).trans (aA.setCell (M:=fun x=>x=b) (p:=⟨b,2,none⟩) (.int .i64 m.first) rfl)).trans (aA.setCell (M:=fun x=>x=b) (p:=⟨b,3,none⟩) (.slice d.c m.ch.length d.cn) rfl)).trans (aA.setCell (M:=fun x=>x=b) (p:=⟨b,4,none⟩) (.slice d.t m.T.length d.tn) rfl)).trans (aA.setCell (M:=fun x=>x=b) (p:=⟨b,5,none⟩) (.slice d.q m.Q.length d.qn) rfl)).trans (aA.setCell (M:=fun x=>x=b) (p:=⟨b,6,none⟩) (.int .i64 m.steps) rfl)).trans (aA.setCell (M:=fun x=>x=b) (p:=⟨b,7,none⟩) (.int .i64 m.fin) rfl)).trans (aA.setCell (M:=fun x=>x=b) (p:=⟨b,8,none⟩) (.slice d.a m.ans.length d.an) rfl))
theorem aZ9{H:List HC}(h:lC H)(p:Nat)(x:Int):lC (H.set p ⟨1,x,⟨#[]⟩⟩):=fun i hi=>by
 rw[List.length_set] at hi;by_cases hp:p<H.length
 ·rw[aL1 H p i _ hp]
  by_cases e:i=p
  ·rw[if_pos e];intro h2;cases h2
  ·rw[if_neg e];exact h i hi
 ·rw[List.set_eq_of_length_le (by omega)];exact h i hi
theorem aG0(top:Int):∀(l:List Int) (H:List HC),lC H→lC (dM top l H):=by
 intro l
 induction l with
 | nil=>intro H h;exact h
 | cons x r ih =>
  intro H h;simp only[dM];refine ih _ ?_;split
  ·exact aZ9 h _ _
  ·exact h
theorem nM{mi:Mac}(h:lC mi.H)(c:Chi):lC (cY mi c).H:=fun i hi=>by
 have hi':=hi;simp only[cY,List.length_take] at hi';have e:hc (cY mi c).H i=hc (dM c.heap (mi.T.drop c.trail.toNat) mi.H) i:=zQ (by omega);rw[e];exact aG0 _ _ _ h i (by omega)
theorem uX:∀(l:List Chi) (mi:Mac),lC mi.H→lC (eK mi l).H:=by
 intro l
 induction l with
 | nil=>intro mi h;exact h
 | cons c r ih=>intro mi h;exact ih (cY mi c) (nM h c)
theorem xZ(X:List (List Tm)):∀(l:List Chi) (m:Mac),eK {m with ans:=X} l = {eK m l with ans:=X}:=by
 intro l
 induction l with
 | nil=>intro m;rfl
 | cons c r ih=>intro m;exact ih (cY m c)
theorem mD{B:Nat}{W V:World}(h:aA (fun b=>b<B) W V):KeepsFrom B W V :=
 ⟨h.size,fun k o hk ho _=>(h.block k (gS ho).1 (by omega)).trans ho⟩
theorem oI{β:Type}{B:Nat}{I:β→World→Prop}(h:∀s W W',I s W→aA (fun b=>B≤b) W W'→I s W'):OwnFrom B I:=fun s W W' _ hs hg hr =>
 h s W W' hs (aA.grown hg fun k e=>(hr k e).1)
theorem bF6(F:Fence)(n:Nat)(hF:F.fn 83)(hro:F.round=none)(a:Option Addr)(len cap:Nat)(w:World) :
 CallsIn F n Try.prog 83 #[.slice a len cap] w fun e w'=>e=.returned (.func (.func 110) #[] #[.pointer (some ⟨w.heap.size,0,none⟩)])∧w'=w.alloc (.cells #[.slice a len cap] 26):=by
 refine callsIn_of_wp Try.func83 rfl hF ?_ hro;simp only[Try.ntmps83,List.size_toArray,List.length_cons,List.length_nil,Nat.reduceAdd,Nat.reduceSub,Array.replicate_succ,Array.replicate_zero,List.push_toArray,List.append_toArray,List.nil_append,List.cons_append];gi_wp2;go_ret;exact⟨rfl,rfl⟩
theorem mY(m:Mac)(d:MAd){w:World}{ok:Nat→Prop}(h:bO w ok m d)(hb:gV m){np:Nat}(hc:cC np m.G.length m.H.length m.T.length aT m.ch)(hT:fV m)(hN:lC m.H)(hlen:m.H.length≤400000) :
 Calls Try.prog 55 #[.agg #[.slice d.h m.H.length d.hn,.slice d.g m.G.length d.gn,.int .i64 m.first,.slice d.c m.ch.length d.cn,.slice d.t m.T.length d.tn,.slice d.q m.Q.length d.qn,.int .i64 m.steps,.int .i64 m.fin,.slice d.a m.ans.length d.an]] w
  fun e w'=>e=.returned (.bool (pd (eP m.ch.reverse m)))∧Below w.heap.size w w':=by
 refine(callsIn_wide (n:=3)).1 ?_;have hro:Fence.wide.round=none:=rfl;have h1:1≤3:=by omega
 have HOWN:=lh (fun X Y=>bB1 m d ((h.mono (ok':=fun b=>b<w.heap.size) fun b hb _=>hb).keep (aD.below (((Below.refl w.heap.size w).alloc (nR _) X).alloc (by simp) Y) _)) hb);have HX:Hid (cL ((w.alloc (.cells (m.vals d).toArray 30)).alloc (.cells #[.bool false] 4)) w.heap.size m d):=lh ((cL.made w m d).below ((bR _ _).alloc (nR _) _));have HB0:Hid (Below w.heap.size w ((w.alloc (.cells (m.vals d).toArray 30)).alloc (.cells #[.bool false] 4))):=lh (((bR _ _).alloc (nR _) _).alloc (by simp) _);have HR0:Hid (((w.alloc (.cells (m.vals d).toArray 30)).alloc (.cells #[.bool false] 4)).heap[w.heap.size+1]? = some (.cells #[.bool false] 4 (0,0))):=lh (by
  have hsz:(w.alloc (.cells (m.vals d).toArray 30)).heap.size=w.heap.size+1:=by simp
  rw[←hsz];exact heap_alloc_new _ _)
 have HC:=lh hc;have HT:=lh hT;have HN:=lh hN;clear h hb hc hT hN;simp only[Mac.vals] at HX HB0 HR0;refine callsIn_of_wp_marks Try.func55 rfl trivial ?_ hro;simp only[Try.ntmps55,List.size_toArray,List.length_cons,List.length_nil,Nat.reduceAdd,Nat.reduceSub,Array.replicate_succ,Array.replicate_zero,List.push_toArray,List.append_toArray,List.nil_append,List.cons_append];gi_wp2_with (first
  | (refine⟨trivial,?_⟩;gi_at_call 23;refine(callsIn_wide.2 (HOWN.out _ _)).mono ?_;rintro e w1 ⟨d1,rfl,hO,hb1⟩;have HO:=lh hO;have HB1:=lh hb1;have HX1:=lh (HX.out.below hb1);obtain⟨y0,y1,y2,y3,y4,y5,y6,y7,y8,yf⟩:=HX1.out.all;clear hO hb1;simp only[Mac.vals])
  | (refine⟨trivial,?_⟩;gi_at_call 83;refine(bF6 Fence.wide _ trivial hro _ _ _ _).mono ?_;rintro e w' ⟨rfl,rfl⟩))
 obtain⟨m1,hm1⟩:∃m1:Mac,m1 = {m with ans:=m.ans.map mvA}:=⟨_,rfl⟩
 rw[←hm1] at HO;have hmH:m1.H=m.H:=by rw[hm1]
 have hmG:m1.G=m.G:=by rw[hm1]
 have hmT:m1.T=m.T:=by rw[hm1]
 have hmQ:m1.Q=m.Q:=by rw[hm1]
 have hmC:m1.ch=m.ch:=by rw[hm1]
 obtain⟨X,hXb,hXt,hX⟩:∃X,cL X w.heap.size m1 d1∧aA (fun x=>x=w.heap.size) w1 X∧X=(((((((((w1.setCell ⟨w.heap.size,0,none⟩ (.slice d1.h m.H.length d1.hn)).setCell ⟨w.heap.size,1,none⟩ (.slice d1.g m.G.length d1.gn)).setCell ⟨w.heap.size,2,none⟩ (.int .i64 m.first)).setCell ⟨w.heap.size,3,none⟩ (.slice d1.c m.ch.length d1.cn)).setCell ⟨w.heap.size,4,none⟩ (.slice d1.t m.T.length d1.tn)).setCell ⟨w.heap.size,5,none⟩ (.slice d1.q m.Q.length d1.qn)).setCell ⟨w.heap.size,6,none⟩ (.int .i64 m.steps)).setCell ⟨w.heap.size,7,none⟩ (.int .i64 m.fin)).setCell ⟨w.heap.size,8,none⟩ (.slice d1.a m.ans.length d1.an)):=⟨_,(HX1.out.put m1 d1).1,(HX1.out.put m1 d1).2,by subst hm1;simp only[List.length_map]⟩
 rw[←hX];have hXs:X.heap.size=w1.heap.size:=by rw[hX];simp
 have hbase:((w.alloc (.cells (m.vals d).toArray 30)).alloc (.cells #[.bool false] 4)).heap.size=w.heap.size+2:=by simp
 simp only[Mac.vals] at hbase;clear hX;obtain⟨V0,hV0⟩:∃V0,V0=X.alloc (.cells #[.slice d1.c m.ch.length d1.cn] 26):=⟨_,rfl⟩
 have hs1:=HB1.out.size;have hVs:V0.heap.size=w1.heap.size+1:=by rw[hV0];simp[hXs]
 have hVt:aA (fun x=>x=w.heap.size) w1 V0:=by rw[hV0];exact hXt.trans (aA.below ((bR _ _).alloc (nR _) _))
 have hVc:V0.cell? ⟨w1.heap.size,0,none⟩=some (.slice d1.c m.ch.length d1.cn):=by
  rw[hV0,←hXs];exact(fD X _ _).1
 have hVb:cL V0 w.heap.size m1 d1:=by rw[hV0];exact hXb.below ((bR _ _).alloc (nR _) _)
 rw[←hV0];clear hV0;have LB:aZ8 V0 w.heap.size (w.heap.size+2) m1 d1:=by
  have hO:=HO.out;rw[hbase] at hO;refine hO.lasB (fun b hb e=>?_) (by omega) (by rw[←hbase];exact hs1) hVt;subst e;rcases hb with hb|hb
  ·exact absurd hb.1 (Nat.lt_irrefl _)
  ·omega
 have hL0:jZ V0 w.heap.size (w.heap.size+2) m1 d1 m1 V0:=by
  refine⟨hVb,?_,aA.refl _ _⟩;have hO:=HO.out.h;rw[hbase] at hO;exact hO.keep fun g hg=>hVt.block g (hO.row.lt g hg).2 (by have:=(hO.row.lt g hg).1;omega)
 have LBH:=lh LB;have hVr:V0.heap[w.heap.size+1]? = some (.cells #[.bool false] 4 (0,0)):=by
  rw[hVt.block _ (by rw[hbase] at hs1;omega) (by omega),HB1.out.block _ (by rw[hbase];omega)];exact HR0.out
 have hVw:Below w.heap.size w V0:=((HB0.out).trans (HB1.out.mono (by rw[hbase];omega))).trans (hVt.toBelow (by rw[hbase] at hs1;omega) fun b e=>by omega);have hne1:∀b,bk d1.h=some b→w.heap.size+2≤b∧b<V0.heap.size:=LB.fits;have hHK:=HC.out;rw[←hmH,←hmG,←hmT,←hmC] at hHK;have HBO:=lh (fun i hi=>aO6 hHK i hi);have HBN:=lh (fun i (hi:i<m1.ch.length)=>xY hi);have HNR:Hid (∀l,lC (eK m1 l).H):=lh fun l=>uX l m1 (by rw[hmH];exact HN.out)
 have HTX:Hid (∀x,x∈m1.T→0≤x):=lh fun x hx=>(HT.out.trail x (by rw[←hmT];exact hx)).1
 have HLI:Hid (eP m.ch.reverse m↔∀i,i<m1.ch.length→fV (eK m1 (m1.ch.reverse.take (i+1)))):=lh (by
  rw[sR,hmC,List.length_reverse];refine forall_congr' fun i=>forall_congr' fun _=>?_
  have e:=xZ (m.ans.map mvA) (m.ch.reverse.take (i+1)) m;rw[hm1,e];exact Iff.rfl)
 have hLc:=LB.c;have hfit:∀b,bk d1.h=some b→b<w1.heap.size:=fun b hb=>(HO.out.h.row.lt b ((aE _ _ _).trans hb)).2
 rw[hmC] at hLc HBO HBN HLI;refine pF (n:=3) hro h1 (gf:=110) (lb:=#[.pointer (some ⟨w1.heap.size,0,none⟩)]) rfl trivial (enters_of Try.func110 (by kernel_rfl) rfl)
  (encs:=aE6 m.ch) (Kp:=aD fun b=>b<V0.heap.size∧b≠w.heap.size∧bk d1.h≠some b) (N:=m.ch.length) (w0:=V0)
  (aE7 (n:=2) (by omega) m.ch ⟨by omega,by omega,by omega,fun e=>by have:=hfit _ e;omega⟩ hVc hLc)
  (fun {A B C} h k=>h.trans k) (fun W l o o' hl _ _=>⟨(grownBy_putObj' W l o').size,fun b hb hlt=>(grownBy_putObj' W l o').block b hlt (fun e=>by cases e;have:=hb.1;omega)⟩) (bR _ _) (fun _=>rfl)
  (fun i W=>jZ V0 w.heap.size (w.heap.size+2) m1 d1 (eK m1 (m.ch.reverse.take i)) W∧∀j,j<i→fV (eK m1 (m.ch.reverse.take (j+1))))
  (fun _ W=>W.heap[w.heap.size+1]? = some (.cells #[.bool false] 4 (0,0))∧¬eP m.ch.reverse m∧Below w.heap.size w W)
  (oI fun i W W' h ht=>⟨h.1.touch LBH.out ht,h.2⟩)
  (oI fun _ W W' h ht=>⟨(ht.block _ (gS h.1).1 (by omega)).trans h.1,h.2.1,h.2.2.trans (ht.toBelow h.2.2.size fun b e=>by have:=hVw.size;omega)⟩)
  ⟨hL0,fun j h=>absurd h (Nat.not_lt_zero j)⟩
  (fun i a' W=>∃bc,a' = {tmps:=#[.agg #[.slice d.h m.H.length d.hn,.slice d.g m.G.length d.gn,.int .i64 m.first,.slice d.c m.ch.length d.cn,.slice d.t m.T.length d.tn,.slice d.q m.Q.length d.qn,.int .i64 m.steps,.int .i64 m.fin,.slice d.a m.ans.length d.an],.pointer (some ⟨w.heap.size,0,none⟩),.pointer (some ⟨w.heap.size+1,0,none⟩),undef,.pointer (some ⟨bc,0,none⟩),.agg #[.slice d.h m.H.length d.hn,.slice d.g m.G.length d.gn,.int .i64 m.first,.slice d.c m.ch.length d.cn,.slice d.t m.T.length d.tn,.slice d.q m.Q.length d.qn,.int .i64 m.steps,.int .i64 m.fin,.slice d.a m.ans.length d.an],.agg #[.slice d1.h m.H.length d1.hn,.slice d1.g m.G.length d1.gn,.int .i64 m.first,.slice d1.c m.ch.length d1.cn,.slice d1.t m.T.length d1.tn,.slice d1.q m.Q.length d1.qn,.int .i64 m.steps,.int .i64 m.fin,.slice d1.a m.ans.length d1.an],.pointer (some ⟨w.heap.size,3,none⟩),.slice d1.c m.ch.length d1.cn,.func (.func 110) #[] #[.pointer (some ⟨w1.heap.size,0,none⟩)],.int .i64 ((m.ch.length-1-i:Nat):Int),aY9 (m.ch.getD (m.ch.length-1-i) aT),undef,undef,undef,undef,undef],defers:=[]}∧mS W bc (m.ch.getD (m.ch.length-1-i) aT)∧V0.heap.size≤bc)
  (fun a' i W W' row ⟨bc,e1,e2,e3⟩ hg hr=>⟨bc,e1,e2.keep (hg.block bc e2.lt (fun e=>by obtain⟨_,o,ho,hc⟩:=hr bc e.symm;rw[e2.blk] at ho;cases ho;cases hc)),e3⟩) ?assign ?body ?done ?stop
 case assign =>
  intro l i W K hN hI hK;simp only[aE6,aY9];gi_wp2;have hB:Below W.heap.size W (W.alloc (.cells #[.int .i64 (m.ch.getD (m.ch.length-1-i) aT).goal,.int .i64 (m.ch.getD (m.ch.length-1-i) aT).clause,.int .i64 (m.ch.getD (m.ch.length-1-i) aT).heap,.int .i64 (m.ch.getD (m.ch.length-1-i) aT).trail,.int .i64 (m.ch.getD (m.ch.length-1-i) aT).goals] 67)):=(bR _ _).alloc (nR _) _;exact hK _ _ ((KeepsOthers.alloc W _).from _) (aD.below hB _) ⟨hI.1.touch LBH.out (aA.below hB),hI.2⟩ ⟨W.heap.size,rfl,⟨heap_alloc_new W _⟩,hI.1.keep.size⟩
 case body =>
  rintro l i a' W hN ⟨hI1,hI2⟩ ⟨bc,rfl,hcb,hbc⟩;obtain⟨hu,hcan⟩:=HBO.out i (Nat.le_of_lt hN);obtain⟨hnx,hmem⟩:=HBN.out i hN;obtain⟨bH,bT,bG⟩:=hcan _ hmem;have hlen':(eK m1 (m.ch.reverse.take i)).H.length≤400000:=by have:=hu.h;rw[hmH] at this;omega
  have hxs:∀x,x∈(eK m1 (m.ch.reverse.take i)).T→0≤x:=fun x hx=>by
   obtain⟨k,-,e⟩:=hu.t;rw[e] at hx;exact HTX.out x (List.mem_of_mem_take hx)
  have hnr:=HNR.out (m.ch.reverse.take i);have hsn:=uW m1 (m.ch.reverse.take i) (m.ch.getD (m.ch.length-1-i) aT);rw[←hnx] at hsn;obtain⟨k0,k1,k2,k3,k4,-⟩:=hcb.all;simp only[aY9];have HLIN:=lh (fun h:¬fV (eK m1 (m.ch.reverse.take (i+1)))=>fun hL=>h (HLI.out.1 hL i hN));clear hnx hmem hcan;generalize m.ch.getD (m.ch.length-1-i) aT=c at *;rw[hsn] at HLIN;generalize hmi:eK m1 (m.ch.reverse.take i)=mi at *;have HU:=lh (bC4 (hI1.uat LBH.out hu) bH bT bG hxs hlen');have HI1:=lh hI1;have HI2:=lh hI2;have HUI:=lh hu;have HBD:=lh (And.intro bH (And.intro bT bG));have HSN:=lh hsn;have HNRI:=lh hnr;have zB:w.heap.size<W.heap.size:=hI1.box.lt;clear hI1 hI2 hu bH bT bG hsn hnr hxs hmi hcb;have hl2:(cY mi c).H.length≤400000:=by simp only[cY,List.length_take,dH];omega
  by_cases hth:fV (cY mi c)
  ·have HTB:Hid (dW (cY mi c)=true):=lh (cK hth)
   have HTT:=lh hth;clear hth;gi_wp2_with (first
    | (refine⟨trivial,?_⟩;gi_at_call 84;refine(show CallsIn Fence.wide _ _ _ _ _ _ from callsIn_wide.2 HU.out).mono ?_;rintro e w2 hp;obtain⟨hL2,hT2⟩:=HI1.out.undo HBD.out.1 HBD.out.2.1 HBD.out.2.2 hp;obtain⟨⟨v,rfl⟩,-⟩:=hp;have HL2:=lh hL2;have HT2:=lh hT2;obtain⟨y0,y1,y2,y3,y4,y5,y6,y7,y8,-⟩:=hL2.box.all;clear hL2 hT2)
    | (refine⟨trivial,?_⟩;gi_at_call 51;refine(show CallsIn Fence.wide _ _ _ _ _ _ from callsIn_wide.2 (aA1 (cY mi c) d1 (HL2.out.mac LBH.out (HUI.out.undo c)) (nM HNRI.out c) hl2)).mono ?_;rintro e w3 ⟨rfl,hb3⟩;rw[HTB.out];have HB3:=lh hb3;clear hb3))
   have hT3:aA (fun b=>b=w.heap.size∨bk d1.h=some b) W w3:=HT2.out.trans (aA.below HB3.out);refine⟨mD (hT3.mono fun b _ e=>?_),hT3.keeps fun b hb e=>?_,?_,fun j hj=>?_⟩
   ·rcases e with e|e
    ·omega
    ·exact(hne1 b e).2
   ·rcases e with e|e
    ·exact hb.2.1 e
    ·exact hb.2.2 e
   ·rw[HSN.out]
    exact HL2.out.touch LBH.out (aA.below HB3.out)
   ·by_cases e:j=i
    ·subst e;rw[HSN.out];exact HTT.out
    ·exact HI2.out j (by omega)
  ·have HTB:Hid (dW (cY mi c)=false):=lh (bJ hth)
   have HTT:=lh (HLIN.out hth);clear hth;gi_wp2_with (first
    | (refine⟨trivial,?_⟩;gi_at_call 84;refine(show CallsIn Fence.wide _ _ _ _ _ _ from callsIn_wide.2 HU.out).mono ?_;rintro e w2 hp;obtain⟨hL2,hT2⟩:=HI1.out.undo HBD.out.1 HBD.out.2.1 HBD.out.2.2 hp;obtain⟨⟨v,rfl⟩,-⟩:=hp;have HL2:=lh hL2;have HT2:=lh hT2;obtain⟨y0,y1,y2,y3,y4,y5,y6,y7,y8,-⟩:=hL2.box.all;clear hL2 hT2)
    | (
     refine⟨trivial,?_⟩;gi_at_call 51;refine(show CallsIn Fence.wide _ _ _ _ _ _ from callsIn_wide.2 (aA1 (cY mi c) d1 (HL2.out.mac LBH.out (HUI.out.undo c)) (nM HNRI.out c) hl2)).mono ?_;rintro e w3 ⟨rfl,hb3⟩;rw[HTB.out];have HB3:=lh hb3;have hR3:w3.heap[w.heap.size+1]? = some (.cells #[.bool false] 4 (0,0)):=(hb3.block _ (by have:=HL2.out.keep.size;omega)).trans ((HL2.out.keep.block _ (by omega) (by rintro (e|e|e);omega;have:=(hne1 _ e).1;omega;omega)).trans hVr);have HR3:=lh hR3;have rc:w3.cell? ⟨w.heap.size+1,0,none⟩=some (.bool false):=by simp[World.cell?,hR3]
     have rf:w3.frozen? ⟨w.heap.size+1,0,none⟩=false:=by simp[World.frozen?,hR3]
     clear hb3 hR3))
   have hT3:aA (fun b=>b=w.heap.size∨bk d1.h=some b) W w3:=HT2.out.trans (aA.below HB3.out);have hT4:aA (fun b=>b<V0.heap.size) W (w3.setCell ⟨w.heap.size+1,0,none⟩ (.bool false)):=(hT3.mono fun b _ e=>by
    rcases e with e|e
    ·omega
    ·exact(hne1 b e).2).trans (aA.setCell _ (by show w.heap.size+1<_;omega))
   refine⟨mD hT4,?_,HTT.out,?_⟩
   ·rw[aB _ _ _ _ HR3.out];rfl
   ·have hK0:=HI1.out.keep
    have h5:aA (fun b=>w.heap.size≤b) V0 (w3.setCell ⟨w.heap.size+1,0,none⟩ (.bool false)):=((hK0.mono fun b _ e=>by
     rcases e with e|e|e
     ·omega
     ·have:=(hne1 b e).1;omega
     ·omega).trans (hT3.mono fun b _ e=>by
     rcases e with e|e
     ·omega
     ·have:=(hne1 b e).1;omega)).trans (aA.setCell _ (by show w.heap.size≤w.heap.size+1;omega))
    exact hVw.trans (h5.toBelow hVw.size fun b e=>e)
 case done =>
  rintro D W hD ⟨hI1,hI2⟩ hK;have HL:Hid (pd (eP m.ch.reverse m)=true):=lh (cK (HLI.out.2 fun i hi=>hI2 i hi));have hR3:W.heap[w.heap.size+1]? = some (.cells #[.bool false] 4 (0,0)):=(hI1.keep.block _ (by omega) (by rintro (e|e|e);omega;have:=(hne1 _ e).1;omega;omega)).trans hVr;have rc:W.cell? ⟨w.heap.size+1,0,none⟩=some (.bool false):=by simp[World.cell?,hR3]
  have rf:W.frozen? ⟨w.heap.size+1,0,none⟩=false:=by simp[World.frozen?,hR3]
  have hBW:Below w.heap.size w W:=hVw.trans (hI1.keep.toBelow hVw.size fun b e=>by
   rcases e with e|e|e
   ·omega
   ·have:=(hne1 b e).1;omega
   ·have:=hVw.size;omega)
  have HBW:=lh hBW;clear hI1 hI2 hR3 hBW;gi_wp2;have hK':=(KeepsOthers.setCell W ⟨w.heap.size+1,0,none⟩ (.bool true)).same D _ hK rfl;refine⟨by simp,.inl ⟨_,_,rfl,run_takeDeferred hK',?_⟩⟩;have hc5:=cell_kept (World.cell?_setCell_same' W ⟨w.heap.size+1,0,none⟩ (.bool true) (by rw[rc];rfl)) (grownBy_putObj' _ D (.deferred none)) (fun r e=>by cases e;exact⟨_,hK',rfl⟩);refine⟨.bool true,?_,by rw[HL.out],(HBW.out.setCell (p:=⟨w.heap.size+1,0,none⟩) (by simp) _).trans (belowK_b (w:=w) (nR _) _ D _ _ (by have:=hVw.size;omega) hK' rfl rfl)⟩;simp[results,Try.results55,go_sem,hc5]
 case stop =>
  rintro D W hD ⟨hR3,hL,hBW⟩ hK;have HL:Hid (pd (eP m.ch.reverse m)=false):=lh (bJ hL);have rc:W.cell? ⟨w.heap.size+1,0,none⟩=some (.bool false):=by simp[World.cell?,hR3]
  have HBW:=lh hBW;clear hL hR3 hBW;gi_wp2;refine⟨by simp,.inl ⟨_,_,rfl,run_takeDeferred hK,?_⟩⟩;have hc5:=cell_kept rc (grownBy_putObj' _ D (.deferred none)) (fun r e=>by cases e;exact⟨_,hK,rfl⟩);refine⟨.bool false,?_,by rw[HL.out],HBW.out.trans (belowK_b (w:=w) (nR _) W D _ _ (by have:=hVw.size;omega) hK rfl rfl)⟩;simp[results,Try.results55,go_sem,hc5]
end Go.Proofs.Ytikmgiapjigghab
namespace Go.Proofs.Ytikmgiapjigghab
open Go.RowKit
mutual
theorem qH:∀(t:Tm) (H:List HC) (V:CV) (v:Int) (c:Nat),(putT H V t).1.2 v=some c→V v=some c∨(V v=none∧H.length≤c∧∃p,p∈t.parts∧p.var≠0∧p.var=v)
 | .mk v n l,H,V,x,c,hx=>by
  unfold putT at hx;by_cases hv:v≠0
  ·rw[if_pos hv] at hx
   cases h:V v with
   | some d=>rw[h] at hx;exact .inl hx
   | none =>
    rw[h] at hx;simp only[oW] at hx;by_cases e:x=v
    ·subst e
     rw[if_pos rfl] at hx;cases hx;exact .inr ⟨h,nR _,_,Tm.self_mem _,hv,rfl⟩
    ·rw[if_neg e] at hx;exact .inl hx
  ·rw[if_neg hv] at hx
   rcases xT l _ V _ x c hx with h|⟨h1,h2,p,h3,h4⟩
   ·exact .inl h
   ·refine .inr ⟨h1,?_,p,by rw[Tm.parts];exact List.mem_cons_of_mem _ h3,h4⟩
    simp only[List.length_append,List.length_singleton,List.length_replicate] at h2;omega
theorem xT:∀(l:List Tm) (H:List HC) (V:CV) (p:Nat) (v:Int) (c:Nat),(eV H V p l).2 v=some c→V v=some c∨(V v=none∧H.length≤c∧∃q,q∈Tm.partss l∧q.var≠0∧q.var=v)
 | [],H,V,p,x,c,hx=>by rw[iA] at hx;exact .inl hx
 | t::r,H,V,p,x,c,hx=>by
  rw[fC] at hx;have hg:=rF t H V;rcases xT r _ _ _ x c hx with h|⟨h1,h2,q,h3,h4⟩
  ·rcases qH t H V x c h with h|⟨h1,h2,q,h3,h4⟩
   ·exact .inl h
   ·exact .inr ⟨h1,h2,q,by rw[Tm.partss];exact List.mem_append_left _ h3,h4⟩
  ·refine .inr ⟨?_,?_,q,by rw[Tm.partss];exact List.mem_append_right _ h3,h4⟩
   ·cases h:V x with
    | none=>rfl
    | some d=>rw[rE t H V x d h] at h1;cases h1
   ·rw[aL] at h2;omega
end
mutual
theorem aF7:∀(t:Tm) (H:List HC) (V:CV),WfT t→∀p,p∈t.parts→p.var≠0→∃c,(putT H V t).1.2 p.var=some c
 | .mk v n l,H,V,hw,p,hp,hv=>by
  unfold putT;by_cases h0:v≠0
  ·rw[if_pos h0]
   obtain⟨ha,_⟩:=(hw _ (Tm.self_mem _)).2 h0;simp only[Tm.args] at ha;subst ha;have e:p=.mk v n []:=by simpa[Tm.parts,Tm.partss] using hp
   subst e;cases h:V v with
   | some d=>exact⟨d,h⟩
   | none=>exact⟨H.length,by show oW V v H.length v=_;simp[oW]⟩
  ·rw[if_neg h0]
   rw[Tm.parts] at hp;rcases List.mem_cons.1 hp with rfl|hp
   ·exact absurd hv h0
   ·exact xU l _ V _ (fun x hx=>hw.arg (t:=.mk v n l) hx) p hp hv
theorem xU:∀(l:List Tm) (H:List HC) (V:CV) (q:Nat),(∀x,x∈l→WfT x)→∀p,p∈Tm.partss l→p.var≠0→∃c,(eV H V q l).2 p.var=some c
 | [],H,V,q,hw,p,hp,hv=>by simp[Tm.partss] at hp
 | t::r,H,V,q,hw,p,hp,hv=>by
  rw[fC];rw[Tm.partss,List.mem_append] at hp;rcases hp with hp|hp
  ·obtain⟨c,hc⟩:=aF7 t H V (hw t List.mem_cons_self) p hp hv
   exact⟨c,lU r _ _ _ _ _ hc⟩
  ·exact xU r _ _ _ (fun x hx=>hw x (List.mem_cons_of_mem _ hx)) p hp hv
end
def wL(V:CV):Prop:=∀v w c,V v=some c→V w=some c→v=w
mutual
theorem xV:∀(t:Tm) (H:List HC) (V:CV),wL V→(∀v c,V v=some c→c<H.length)→wL (putT H V t).1.2∧∀v c,(putT H V t).1.2 v=some c→c<(putT H V t).1.1.length
 | .mk v n l,H,V,hi,hb=>by
  unfold putT;by_cases hv:v≠0
  ·rw[if_pos hv]
   cases h:V v with
   | some d=>exact⟨hi,hb⟩
   | none =>
    simp only;refine⟨fun x y c hx hy=>?_,fun x c hx=>?_⟩
    ·simp only[oW] at hx hy
     by_cases e1:x=v
     ·by_cases e2:y=v
      ·rw[e1,e2]
      ·rw[if_pos e1] at hx;rw[if_neg e2] at hy
       have:=hb y c hy;cases hx;omega
     ·rw[if_neg e1] at hx
      by_cases e2:y=v
      ·rw[if_pos e2] at hy
       have:=hb x c hx;cases hy;omega
      ·rw[if_neg e2] at hy;exact hi x y c hx hy
    ·simp only[oW] at hx
     rw[List.length_append,List.length_singleton];by_cases e:x=v
     ·rw[if_pos e] at hx;cases hx;omega
     ·rw[if_neg e] at hx;have:=hb x c hx;omega
  ·rw[if_neg hv]
   exact uU l _ V _ hi fun x c hx=>by
    have:=hb x c hx;simp only[List.length_append,List.length_singleton,List.length_replicate];omega
theorem uU:∀(l:List Tm) (H:List HC) (V:CV) (p:Nat),wL V→(∀v c,V v=some c→c<H.length)→wL (eV H V p l).2∧∀v c,(eV H V p l).2 v=some c→c<(eV H V p l).1.length
 | [],H,V,p,hi,hb=>by rw[iA];exact⟨hi,hb⟩
 | t::r,H,V,p,hi,hb=>by
  rw[fC];obtain⟨h1,h2⟩:=xV t H V hi hb;exact uU r _ _ _ h1 fun x c hx=>by rw[aL];exact h2 x c hx
end
structure bQ6(H:List HC)(σ:Sub)(k:Int)(V:CV)(D:Int→Prop)(S:Int→Nat)(t:Tm)(H':List HC)(V':CV)(c:Nat)(D':Int→Prop)(S':Int→Nat):Prop where
 hang:fL H' σ D' S'
 rel:aL4 σ k V' D' S'
 inj:wL V'∧∀v c,V' v=some c→c<H'.length
 st:St H' D' S' c (far k t)
 more:∀v,D v→D' v∧S' v=S v
 keep:∀d u,St H D S d u→St H' D' S' d u
 len:H.length≤H'.length
 old:∀i,i<H.length→hc H' i=hc H i
theorem Rv.varc{O:Nat→Prop}{H:List HC}{Ho:Nat→Prop}{S:Int→Nat}{i:Nat}{t:Tm}(h:Rv O H Ho S i t):∀v,t=aQ v→v≠0→O (S v)∨hc H (S v)=mU (S v):=by
 induction h with
 | @var i w h1 h2 h3 h4 h5 =>
  intro v e hv;injection e with e1;subst e1;rw[h4];exact h5
 | ref h1 h2 h3 h4 h5 ih=>exact ih
 | fn h1 h2 h3 h4 h5 ih =>
  intro v e hv;injection e with e1;exact absurd e1.symm hv
theorem aZ5{H:List HC}{c:Nat}(h:hc H c=mU c):aG H c=c:=rC fun hr=>hr.2 (by rw[h];rfl)
theorem rN{H:List HC}{σ:Sub}{D:Int→Prop}{S:Int→Nat}(h:fL H σ D S){k:Int}(hk:0≤k){V:CV}(hV:aL4 σ k V D S)(hj:wL V){t:Tm}(hw:WfT t)(hn:kX t)(hp:∀p,p∈t.parts→p.var≠0→1≤p.var)
 (hlen:(putT H V t).1.1.length≤400000):∃D' S',bQ6 H σ k V D S t (putT H V t).1.1 (putT H V t).1.2 (putT H V t).2 D' S':=by
 have hb:∀v c,V v=some c→c<H.length:=fun v c e=>by obtain⟨_,h2,h3⟩:=hV.old v c e;rw[←h3];exact(h.cell _ h2).2
 have hdom:=qH t H V;have hmono:=rE t H V;have hhas:=aF7 t H V hw;obtain⟨hinj,hbd⟩:=xV t H V hj hb;have hput:=aG5 (fun i=>i<H.length) t H V (fun _=>False) (fun v=>((putT H V t).1.2 v).getD 0) hw (fun i h=>h.elim) (fun v c hc=>by simp only[hc];rfl) (fun v c hc=>by
  obtain⟨h1,_,_⟩:=hV.old v c hc;have e:(((putT H V t).1.2 v).getD 0)=c:=by rw[hmono v c hc];rfl
  exact⟨by omega,e,.var (hb v c hc) (fun e=>e) (by omega) e (.inl (hb v c hc))⟩)
 have hI:=aZ2 h.heap hn hput;generalize putT H V t=q at *;obtain⟨⟨H',V'⟩,c⟩:=q;simp only at *;have ho:=hput.old;have hl:=hput.len;have hnew:∀x c,V' x=some c→¬D (x+k)→H.length≤c∧1≤x∧V x=none∧σ (x+k)=none∧hc H' c=mU c:=fun x c hx hd=>by
  rcases hdom x c hx with e|⟨e1,e2,p,e3,e4,e5⟩
  ·exact absurd (hV.old x c e).2.1 hd
  ·have h1:1≤x:=by rw[←e5];exact hp p e3 e4
   refine⟨e2,h1,e1,(hV.new x h1 e1).2,?_⟩;obtain⟨a,b,d⟩:=hput.vok x c hx;have b':(V' x).getD 0=c:=b;rcases d.varc x rfl a with f|f
   ·have f':(V' x).getD 0<H.length:=f
    rw[b'] at f';omega
   ·have f':hc H' ((V' x).getD 0)=mU ((V' x).getD 0):=f
    rw[b'] at f';exact f'
 have hS2:∀x c,V' x=some c→D (x+k)→S (x+k)=c:=fun x c hx hd=>by
  rcases hdom x c hx with e|⟨e1,e2,p,e3,e4,e5⟩
  ·exact(hV.old x c e).2.2
  ·exact absurd hd (hV.new x (by rw[←e5];exact hp p e3 e4) e1).1
 have hx1:∀x c,V' x=some c→1≤x:=fun x c hx=>by
  rcases hdom x c hx with e|⟨e1,e2,p,e3,e4,e5⟩
  ·exact(hV.old x c e).1
  ·rw[←e5];exact hp p e3 e4
 obtain⟨S',hSo,hSn⟩:∃S':Int→Nat,(∀v,D v→S' v=S v)∧∀x c,V' x=some c→S' (x+k)=c:=by
  refine⟨fun v=>@ite _ (D v) (Classical.propDecidable _) (S v) ((V' (v-k)).getD 0),fun v hv=>if_pos hv,fun x c hx=>?_⟩;by_cases hd:D (x+k)
  ·exact(if_pos hd).trans (hS2 x c hx hd)
  ·exact(if_neg hd).trans (by rw[show x+k-k=x by omega,hx];rfl)
 have hD:∀v,D v→(D v∨∃x c,v=x+k∧V' x=some c)∧S' v=S v∧S v<H.length:=fun v hv=>⟨.inl hv,hSo v hv,(h.cell v hv).2⟩
 have hkeep:∀d u,St H D S d u→St H' (fun v=>D v∨∃x c,v=x+k∧V' x=some c) S' d u:=fun d u hs=>hs.old h.heap hl ho hD
 have hI':dZ H':=⟨hlen,hI.1,hI.2⟩
 have hlk:∀x c,V' x=some c→¬D (x+k)→look σ (aQ (x+k))=aQ (x+k):=fun x c hx hd=>iB (hnew x c hx hd).2.2.2.1
 have heo:∀v,D v→aG H' (S' v)=aG H (S v)∧aG H (S v)<H.length:=fun v hv=>by
  rw[hSo v hv];exact⟨qG h.heap ho (h.cell v hv).2,(h.heap.end (h.cell v hv).2).1⟩
 have hen:∀x c,V' x=some c→¬D (x+k)→aG H' (S' (x+k))=c:=fun x c hx hd=>by rw[hSn x c hx];exact aZ5 (hnew x c hx hd).2.2.2.2
 refine⟨fun v=>D v∨∃x c,v=x+k∧V' x=some c,S',?_⟩;have hH:fL H' σ (fun v=>D v∨∃x c,v=x+k∧V' x=some c) S':=by
  refine⟨hI',h.store,?_,?_,?_,?_⟩
  ·rintro v (hv|⟨x,c,rfl,hx⟩)
   ·obtain⟨a,b⟩:=h.cell v hv
    exact⟨a,by rw[hSo v hv];omega⟩
   ·have:=hx1 x c hx
    exact⟨by omega,by rw[hSn x c hx];exact hbd x c hx⟩
  ·rintro v hv hne
   by_cases hd:D v
   ·obtain⟨a,b⟩:=h.kind v hd hne
    obtain⟨e1,e2⟩:=heo v hd;exact⟨by rw[e1,ho _ e2];exact a,.inl b⟩
   ·obtain⟨x,c,rfl,hx⟩:=hv.resolve_left hd
    refine⟨?_,by rw[hlk x c hx hd];exact .inr ⟨x,c,rfl,hx⟩⟩;rw[hen x c hx hd,(hnew x c hx hd).2.2.2.2];rfl
  ·rintro v hv h0
   by_cases hd:D v
   ·have:=hkeep _ _ (h.fn v hd h0)
    rw[hSo v hd];exact this
   ·obtain⟨x,c,rfl,hx⟩:=hv.resolve_left hd
    rw[hlk x c hx hd] at h0;have h1:=hx1 x c hx;have h0':x+k=0:=h0;omega
  ·rintro v u hv hu h1 h2
   by_cases d1:D v
   ·by_cases d2:D u
    ·rw[(heo v d1).1,(heo u d2).1];exact h.cls v u d1 d2 h1 h2
    ·obtain⟨x,c,rfl,hx⟩:=hu.resolve_left d2
     rw[(heo v d1).1,hen x c hx d2,hlk x c hx d2];have a:=(h.kind v d1 h1).2;have b:=(hnew x c hx d2).1;have e:=(heo v d1).2
     constructor
     ·intro e'
      have e'':(look σ (aQ v)).var=x+k:=e';rw[e''] at a;exact absurd a d2
     ·intro e';omega
   ·obtain⟨x,c,rfl,hx⟩:=hv.resolve_left d1
    by_cases d2:D u
    ·rw[(heo u d2).1,hen x c hx d1,hlk x c hx d1]
     have a:=(h.kind u d2 h2).2;have b:=(hnew x c hx d1).1;have e:=(heo u d2).2
     constructor
     ·intro e'
      have e'':x+k=(look σ (aQ u)).var:=e';rw[←e''] at a;exact absurd a d1
     ·intro e';omega
    ·obtain⟨y,d,rfl,hy⟩:=hu.resolve_left d2
     rw[hen x c hx d1,hen y d hy d2,hlk x c hx d1,hlk y d hy d2]
     constructor
     ·intro e'
      have e'':x+k=y+k:=e';have:x=y:=by omega
      subst this;rw[hx] at hy;cases hy;rfl
     ·intro e'
      subst e';rw[hinj x y c hx hy]
 refine⟨hH,⟨fun v c hc=>⟨hx1 v c hc,.inr ⟨v,c,rfl,hc⟩,hSn v c hc⟩,fun v h1 hc=>?_⟩,⟨hinj,hbd⟩,?_,fun v hv=>⟨.inl hv,hSo v hv⟩,hkeep,hl,ho⟩
 ·have hv:V v=none:=by
   cases e:V v with
   | none=>rfl
   | some d=>rw[hmono v d e] at hc;cases hc
  refine⟨?_,(hV.new v h1 hv).2⟩;rintro (hd|⟨x,c,e,hx⟩)
  ·exact(hV.new v h1 hv).1 hd
  ·have:v=x:=by omega
   subst this;rw[hc] at hx;cases hx
 ·refine hput.rd.st (fun i hi=>hI'.straight i hi) fun p hp' hv=>?_
  obtain⟨c',hc'⟩:=hhas p hp' hv;have h1:=hp p hp' hv;exact⟨by omega,.inr ⟨p.var,c',rfl,hc'⟩,by rw[hSn _ _ hc',hc'];rfl⟩
def GoR(H:List HC)(G:List Gn)(D:Int→Prop)(Sc:Int→Nat):List eD→Nat→Prop
 | [],n=>n=0
 | g::r,n=>∃x:Gn,1≤n∧G[n-1]? = some x∧x.cut=g.2∧St H D Sc x.at' g.1∧GoR H G D Sc r x.next
theorem GoR.keep{H H':List HC}{G g:List Gn}{D D':Int→Prop}{Sc Sc':Int→Nat}(hst:∀c t,St H D Sc c t→St H' D' Sc' c t):∀{now:List eD} {n:Nat},GoR H G D Sc now n→GoR H' (G++g) D' Sc' now n:=by
 intro now
 induction now with
 | nil=>intro n h;exact h
 | cons a r ih =>
  rintro n ⟨x,h1,h2,h3,h4,h5⟩;refine⟨x,h1,?_,h3,hst _ _ h4,ih h5⟩;rw[List.getElem?_append_left (List.getElem?_eq_some_iff.1 h2).1];exact h2
structure Sit(S:MS)(n vars:Nat)(σ:Sub)(now:List eD)(D:Int→Prop)(Sc:Int→Nat):Prop where
 hang:fL S.H σ D Sc
 go:GoR S.H S.G D Sc now n
 query:∀i (h:i<S.Q.length),St S.H D Sc S.Q[i] (aQ ((i:Int)+1))
 fresh:∀v:Int,(vars:Int)<v→¬D v∧σ v=none
 goals:∀i (h:i<S.G.length),S.G[i].at'<S.H.length∧S.G[i].next≤i
 trail:∀x,x∈S.T→x<S.H.length
theorem Sit.congr{S S':MS}{n vars:Nat}{σ:Sub}{now:List eD}{D:Int→Prop}{Sc:Int→Nat}(h:Sit S n vars σ now D Sc)(h1:S'.H=S.H)(h2:S'.T=S.T)(h3:S'.G=S.G)(h4:S'.Q=S.Q):Sit S' n vars σ now D Sc:=by
 cases S;cases S';simp only at h1 h2 h3 h4;subst h1 h2 h3 h4;exact⟨h.hang,h.go,h.query,h.fresh,h.goals,h.trail⟩
theorem Sit.mono{S:MS}{n vars vars':Nat}{σ:Sub}{now:List eD}{D:Int→Prop}{Sc:Int→Nat}(h:Sit S n vars σ now D Sc)(hv:vars≤vars'):Sit S n vars' σ now D Sc :=
 ⟨h.hang,h.go,h.query,fun v hw=>h.fresh v (by omega),h.goals,h.trail⟩
structure ChX(p:List Cl)(vars:Nat)(S:MS)(c:Cn)(d:PCh):Prop where
 within:jP S c
 cl:c.clause=d.cl∧d.cl<p.length
 ne:d.gs≠[]∧(look d.σ (iM d.gs)).var=0
 sit:∃D Sc,Sit (aK S c) c.goal vars d.σ d.gs D Sc
theorem ChX.mono{p:List Cl}{vars vars':Nat}{S:MS}{c:Cn}{d:PCh}(h:ChX p vars S c d)(hv:vars≤vars'):ChX p vars' S c d :=
 ⟨h.within,h.cl,h.ne,by obtain⟨D,Sc,hs⟩:=h.sit;exact⟨D,Sc,hs.mono hv⟩⟩
def ChR(p:List Cl)(vars:Nat):MS→List Cn→List PCh→Prop
 | _,[],[]=>True
 | S,c::cs,d::ds=>ChX p vars S c d∧ChR p vars (aK S c) cs ds
 | _,[],_::_=>False
 | _,_::_,[]=>False
theorem ChR.len{p:List Cl}{vars:Nat}:∀{cs:List Cn} {ds:List PCh} {S:MS},ChR p vars S cs ds→cs.length=ds.length:=by
 intro cs
 induction cs with
 | nil=>intro ds S h;cases ds with
  | nil=>rfl
  | cons d ds=>exact h.elim
 | cons c cs ih=>intro ds S h;cases ds with
  | nil=>exact h.elim
  | cons d ds=>simp only[List.length_cons];rw[ih h.2]
theorem ChR.mono{p:List Cl}{vars vars':Nat}(hv:vars≤vars'):∀{cs:List Cn} {ds:List PCh} {S:MS},ChR p vars S cs ds→ChR p vars' S cs ds:=by
 intro cs
 induction cs with
 | nil=>intro ds S h;cases ds with
  | nil=>exact h
  | cons d ds=>exact h.elim
 | cons c cs ih=>intro ds S h;cases ds with
  | nil=>exact h.elim
  | cons d ds=>exact⟨h.1.mono hv,ih h.2⟩
theorem aG6{S S':MS}(h1:S'.H=S.H)(h2:S'.T=S.T)(h3:S'.G=S.G)(c:Cn):(aK S' c).H=(aK S c).H∧(aK S' c).T=(aK S c).T∧(aK S' c).G=(aK S c).G:=by
 unfold aK;simp only;rw[h1,h2,h3];exact⟨rfl,rfl,rfl⟩
theorem ChR.congr{p:List Cl}{vars:Nat}:∀{cs:List Cn} {ds:List PCh} {S S':MS},ChR p vars S cs ds→S'.H=S.H→S'.T=S.T→S'.G=S.G→S'.Q=S.Q→ChR p vars S' cs ds:=by
 intro cs
 induction cs with
 | nil=>intro ds S S' h _ _ _ _;cases ds with
  | nil=>exact h
  | cons d ds=>exact h.elim
 | cons c cs ih=>intro ds S S' h h1 h2 h3 h4;cases ds with
  | nil=>exact h.elim
  | cons d ds =>
   obtain⟨e1,e2,e3⟩:=aG6 h1 h2 h3 c;obtain⟨⟨w1,w2,w3⟩,k2,k3,D,Sc,k4⟩:=h.1;exact⟨⟨⟨by rw[h1];exact w1,by rw[h2];exact w2,by rw[h3];exact w3⟩,k2,k3,D,Sc,k4.congr e1 e2 e3 h4⟩,ih h.2 e1 e2 e3 h4⟩
theorem Ext.within{S S':MS}(h:Ext S S'){c:Cn}(w:jP S c):jP S' c:=by
 obtain⟨l1,⟨b,e1,_,_⟩,⟨g,f1⟩⟩:=h;obtain⟨w1,w2,w3⟩:=w;exact⟨by omega,by rw[e1,List.length_append];omega,by rw[f1,List.length_append];omega⟩
theorem ChR.ext{p:List Cl}{vars:Nat}{cs:List Cn}{ds:List PCh}{S S':MS}(h:ChR p vars S cs ds)(he:Ext S S')(hq:S'.Q=S.Q):ChR p vars S' cs ds:=by
 cases cs with
 | nil=>cases ds with
  | nil=>exact h
  | cons d ds=>exact h.elim
 | cons c cs=>cases ds with
  | nil=>exact h.elim
  | cons d ds =>
   obtain⟨⟨w,k2,k3,D,Sc,k4⟩,h2⟩:=h;obtain⟨e1,e2,e3⟩:=he.undo w;exact⟨⟨he.within w,k2,k3,D,Sc,k4.congr e1 e2 e3 hq⟩,h2.congr e1 e2 e3 hq⟩
theorem bB7{S:MS}{c:Cn}(w:jP S c):Ext (aK S c) S:=by
 obtain⟨w1,w2,w3⟩:=w;have hl:(aK S c).H.length=c.heap:=by unfold aK;simp only[List.length_take,iK];omega
 refine⟨by omega,⟨S.T.drop c.trail,(List.take_append_drop _ _).symm,fun i hi h=>?_,fun i h hn=>?_⟩,⟨S.G.drop c.goals,(List.take_append_drop _ _).symm⟩⟩
 ·rw[hl] at h
  have:=qF (T:=S.T) (tr:=c.trail) w1 h;rw[if_pos hi] at this;exact this
 ·rw[hl] at h
  have:=qF (T:=S.T) (tr:=c.trail) w1 h;rw[if_neg hn] at this;exact this.symm
theorem ChR.tail{p:List Cl}{vars:Nat}{c:Cn}{cs:List Cn}{d:PCh}{ds:List PCh}{S:MS}(h:ChR p vars S (c::cs) (d::ds)):ChR p vars S cs ds :=
 h.2.ext (bB7 h.1.within) rfl
theorem ChR.drop{p:List Cl}{vars:Nat}{S:MS}:∀(k:Nat) {cs:List Cn} {ds:List PCh},ChR p vars S cs ds→ChR p vars S (cs.drop k) (ds.drop k):=by
 intro k
 induction k with
 | zero=>intro cs ds h;exact h
 | succ k ih =>
  intro cs ds h;cases cs with
  | nil=>cases ds with
   | nil=>exact h
   | cons d ds=>exact h.elim
  | cons c cs=>cases ds with
   | nil=>exact h.elim
   | cons d ds=>exact ih h.tail
theorem ChR.take{p:List Cl}{vars:Nat}{S:MS}{ch:List Cn}{dh:List PCh}(h:ChR p vars S ch.reverse dh.reverse)(k:Nat):ChR p vars S (ch.take k).reverse (dh.take k).reverse:=by
 have hl:ch.length=dh.length:=by have:=h.len;simpa using this
 rw[List.reverse_take,List.reverse_take,hl];exact h.drop _
structure gW(p:List Cl)(S:MS)(P:PS):Prop where
 sit:∃D Sc,Sit S S.first P.vars P.σ P.now D Sc
 ch:ChR p P.vars S S.ch.reverse P.ch.reverse
structure MvS(p:List Cl)(S:MS)(P:PS):Prop where
 fin:S.fin=P.fin
 steps:S.steps=P.steps
 ans:S.ans=P.ans
 core:S.fin=0→gW p S P
 weak:∃P0,gW p S P0
structure fM(p:List Cl)(S:MS)(P:PS)(n:Nat)(gs:List eD)(t:Tm):Prop where
 sit:∃D Sc,Sit S n P.vars P.σ gs D Sc
 ch:ChR p P.vars S S.ch.reverse P.ch.reverse
 first:S.first=n
 work:S.f=P.f∧S.f≤4000
 ne:gs≠[]
 t:t=look P.σ (iM gs)∧t.var=0
 fin:S.fin=0∧P.fin=0
 same:S.steps=P.steps∧S.ans=P.ans
structure TmG(t:Tm):Prop where
 fit:Fit 13 t
 names:kX t
 size:t.size≤60
structure ClG(c:Cl):Prop where
 head:TmG c.head
 body:∀b,b∈c.body→TmG b
 len:c.body.length≤6
def bG6(H:List HC)(D:Int→Prop)(Sc:Int→Nat):List Nat→List Tm→Prop
 | [],[]=>True
 | a::cs0,t::ts=>St H D Sc a t∧bG6 H D Sc cs0 ts
 | [],_::_=>False
 | _::_,[]=>False
structure bP4(H:List HC)(σ:Sub)(k:Int)(D:Int→Prop)(Sc:Int→Nat)(l:List Tm)(H':List HC)(V':CV)(cs0:List Nat)(D':Int→Prop)(Sc':Int→Nat):Prop where
 hang:fL H' σ D' Sc'
 rel:aL4 σ k V' D' Sc'
 inj:wL V'
 dom:∀v c,V' v=some c→v≤12
 st:bG6 H' D' Sc' cs0 (l.map (far k))
 keep:∀d u,St H D Sc d u→St H' D' Sc' d u
 len:H.length≤H'.length∧H'.length≤H.length+119*l.length
 old:∀i,i<H.length→hc H' i=hc H i
theorem TmG.var{t:Tm}(h:TmG t){p:Tm}(hp:p∈t.parts)(hv:p.var≠0):1≤p.var∧p.var≤12:=by
 have:=yS h.fit hp hv;omega
theorem vE{σ:Sub}{k:Int}(hk:0≤k):∀(l:List Tm) (H:List HC) (V:CV) (D:Int→Prop) (Sc:Int→Nat),fL H σ D Sc→aL4 σ k V D Sc→wL V→(∀v c,V v=some c→v≤12)→(∀t,t∈l→TmG t)→H.length+119*l.length≤400000 →
 ∃D' Sc',bP4 H σ k D Sc l (aS H V l).1.1 (aS H V l).1.2 (aS H V l).2 D' Sc':=by
 intro l
 induction l with
 | nil =>
  intro H V D Sc h hV hj hd _ _;exact⟨D,Sc,h,hV,hj,hd,trivial,fun _ _ h=>h,⟨nR _,nR _⟩,fun _ _=>rfl⟩
 | cons t r ih =>
  intro H V D Sc h hV hj hd hl hlen;have ht:=hl t List.mem_cons_self;have hle:=kZ t H V;have hsz:=ht.size;simp only[List.length_cons] at hlen;obtain⟨D1,S1,q⟩:=rN h hk hV hj ht.fit.wf ht.names (fun p hp hv=>(ht.var hp hv).1) (by omega);have hd1:∀v c,(putT H V t).1.2 v=some c→v≤12:=fun v c e=>by
   rcases qH t H V v c e with e|⟨_,_,p,e1,e2,e3⟩
   ·exact hd v c e
   ·rw[←e3];exact(ht.var e1 e2).2
  obtain⟨D2,S2,q2⟩:=ih (putT H V t).1.1 (putT H V t).1.2 D1 S1 q.hang q.rel q.inj.1 hd1 (fun x hx=>hl x (List.mem_cons_of_mem _ hx)) (by omega);refine⟨D2,S2,q2.hang,q2.rel,q2.inj,q2.dom,⟨q2.keep _ _ q.st,q2.st⟩,fun d u hs=>q2.keep d u (q.keep d u hs),⟨Nat.le_trans q.len q2.len.1,?_⟩,fun i hi=>?_⟩
  ·have:=q2.len.2
   simp only[aS,List.length_cons];omega
  ·have h1:=q2.old i (nT hi q.len)
   exact h1.trans (q.old i hi)
theorem qN(cut:Nat):∀(x y:List Nat) (s:List Gn×Nat),eR cut (x++y) s=eR cut y (eR cut x s):=by
 intro x
 induction x with
 | nil=>intro y s;rfl
 | cons a x ih=>intro y s;exact ih y _
theorem aG7{H:List HC}{D:Int→Prop}{Sc:Int→Nat}(cut:Nat){G:List Gn}{nx:Nat}{rest:List eD}(hr:GoR H G D Sc rest nx)(hn:nx≤G.length)(hG:∀i (h:i<G.length),G[i].at'<H.length∧G[i].next≤i):∀(cs0:List Nat) (ts:List Tm),bG6 H D Sc cs0 ts →
 GoR H (eR cut cs0.reverse (G,nx)).1 D Sc (ts.map (fun t=>(t,cut))++rest) (eR cut cs0.reverse (G,nx)).2∧(eR cut cs0.reverse (G,nx)).2≤(eR cut cs0.reverse (G,nx)).1.length ∧
 (∃g,(eR cut cs0.reverse (G,nx)).1=G++g∧g.length=cs0.length)∧∀i (h:i<(eR cut cs0.reverse (G,nx)).1.length),(eR cut cs0.reverse (G,nx)).1[i].at'<H.length∧(eR cut cs0.reverse (G,nx)).1[i].next≤i:=by
 intro cs0
 induction cs0 with
 | nil =>
  intro ts h;cases ts with
  | nil=>exact⟨hr,hn,⟨[],by simp[eR],rfl⟩,hG⟩
  | cons t ts=>exact h.elim
 | cons a cs0 ih =>
  intro ts h;cases ts with
  | nil=>exact h.elim
  | cons t ts =>
   obtain⟨h1,h2,⟨g,h3,h3'⟩,h4⟩:=ih ts h.2;rw[List.reverse_cons,qN];generalize eR cut cs0.reverse (G,nx)=s at *;have e:eR cut [a] s=(s.1++[⟨a,cut,s.2⟩],s.1.length+1):=rfl;rw[e];simp only;refine⟨⟨⟨a,cut,s.2⟩,by omega,by simp,rfl,h.1,h1.keep fun _ _ h=>h⟩,by simp,⟨g++[⟨a,cut,s.2⟩],by rw[h3,List.append_assoc],by simp[h3']⟩,fun i hi=>?_⟩;rw[List.length_append,List.length_singleton] at hi;by_cases hl:i<s.1.length
   ·rw[List.getElem_append_left hl];exact h4 i hl
   ·have:i=s.1.length:=by omega
    subst this;rw[List.getElem_append_right (nR _)];simp only[Nat.sub_self,List.getElem_cons_zero];exact⟨h.1.lt,h2⟩
end Go.Proofs.Ytikmgiapjigghab
