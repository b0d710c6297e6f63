/- Plain data of the claim: terms as a Lean type, and what it is that a Go value of type Term (or a slice of them) reads as a term in a world. -/
import Derived.Lib.Hide
import Derived.Test.YtikmgiapjigghabRows
import Derived.WalkKit
namespace Go.Proofs.Ytikmgiapjigghab
open Go.RowKit
theorem bR (B : Nat) (w : World) : Below B w w := Below.refl B w
theorem nR (n : Nat) : n ≤ n := Nat.le_refl n
theorem gS {α : Type} {a : Array α} {i : Nat} {b : α} (h : a[i]? = some b) : ∃h : i < a.size, a[i] = b := Array.getElem?_eq_some_iff.1 h
theorem nT {a b c : Nat} (h : a < b) (k : b ≤ c) : a < c := Nat.lt_of_lt_of_le h k
theorem lh{p:Prop}(h:p):Hid p:=Lib.hid h
inductive Tm where
 | mk (v:Int) (n:ByteArray) (l:List Tm)
theorem Tm.ind{P:Tm→Prop}(h:∀v n l,(∀x,x∈l→P x)→P (.mk v n l)):∀t,P t:=by
 intro t;exact Tm.rec (motive_1:=P) (motive_2:=fun l=>∀x,x∈l→P x) (fun v n l ih=>h v n l ih) (fun x hx=>by cases hx)
  (fun a r ha hr x hx=>by
   rcases List.mem_cons.1 hx with e|hx
   ·exact e ▸ ha
   ·exact hr x hx) t
mutual
def Tm.size:Tm→Nat
 | .mk _ _ l=>1+Tm.sizes l
def Tm.sizes:List Tm→Nat
 | []=>0
 | t::r=>t.size+Tm.sizes r
end
theorem Tm.size_pos(t:Tm):1≤t.size:=by cases t;simp[Tm.size]
theorem Tm.sizes_append(l r:List Tm):Tm.sizes (l++r)=Tm.sizes l+Tm.sizes r:=by
 induction l with
 | nil=>simp[Tm.sizes]
 | cons a l ih=>simp only[List.cons_append,Tm.sizes,ih];omega
theorem Tm.sizes_take_succ(l:List Tm)(k:Nat)(h:k<l.length):Tm.sizes (l.take (k+1))=Tm.sizes (l.take k)+l[k].size:=by
 rw[List.take_succ_eq_append_getElem h,Tm.sizes_append];simp[Tm.sizes]
theorem Tm.sizes_take_le(l:List Tm)(k:Nat):Tm.sizes (l.take k)≤Tm.sizes l:=by
 conv=>rhs;rw[←List.take_append_drop k l,Tm.sizes_append]
 omega
def I64(v:Int):Prop:=-9223372036854775808≤v∧v≤9223372036854775807
def Tm.var:Tm→Int|.mk v _ _=>v
def Tm.name:Tm→ByteArray|.mk _ n _=>n
def Tm.args:Tm→List Tm|.mk _ _ l=>l
def Tm.fits(t:Tm):Prop:=I64 t.var∧t.name.size≤maxLen
structure jR(w:World)(b off:Nat)(t:Tm)(a:Option Addr)(cap:Nat):Prop where
 var:w.cell? ⟨b,off,none⟩=some (.int .i64 t.var)
 name:w.cell? ⟨b,off+1,none⟩=some (.string t.name)
 args:w.cell? ⟨b,off+2,none⟩=some (.slice a t.args.length cap)
 fits:t.fits
inductive Ts(w:World)(ok:Nat→Prop):List Tm→Option Addr→Nat→Prop
 | mk (l:List Tm) (a:Option Addr) (cap:Nat) (hcap:l.length≤cap∧cap≤maxLen∧(a=none→cap=0)) (x:Nat→Option Addr×Nat)
  (hc:∀i (h:i<l.length),∃(b off:Nat),a=some ⟨b,off,none⟩∧ok b∧b<w.heap.size∧jR w b (off+i*3) l[i] (x i).1 (x i).2)
  (hr:∀i (h:i<l.length),Ts w ok l[i].args (x i).1 (x i).2):Ts w ok l a cap
theorem Ts.cap{w:World}{ok:Nat→Prop}{l:List Tm}{a:Option Addr}{cap:Nat}(h:Ts w ok l a cap):l.length≤cap∧cap≤maxLen∧(a=none→cap=0):=by
 cases h;assumption
theorem Ts.at{w:World}{ok:Nat→Prop}{l:List Tm}{a:Option Addr}{cap:Nat}(h:Ts w ok l a cap)(i:Nat)(hi:i<l.length) :
 ∃(b off:Nat) (a':Option Addr) (cap':Nat),a=some ⟨b,off,none⟩∧ok b∧b<w.heap.size∧jR w b (off+i*3) l[i] a' cap'∧Ts w ok l[i].args a' cap':=by
 cases h with
 | mk _ _ _ hcap x hc hr =>
  obtain⟨b,off,h1,h2,h3,h4⟩:=hc i hi;exact⟨b,off,_,_,h1,h2,h3,h4,hr i hi⟩
theorem bE3{a b:Int}(h:a=b):Ending.returned (.int .i64 a)=.returned (.int .i64 b):=by rw[h]
theorem eY{a b:Bool}(h:a=b):Ending.returned (.bool a)=.returned (.bool b):=by rw[h]
theorem cJ{a b:Nat}(h:a=b):Ending.returned (.int .i64 (a:Int))=.returned (.int .i64 (b:Int)):=by rw[h]
theorem eA{W w1:World}(hb:Below W.heap.size W w1):(∀b o,b<W.heap.size→w1.cell? ⟨b,o,none⟩=W.cell? ⟨b,o,none⟩)∧(∀b o,b<W.heap.size→w1.frozen? ⟨b,o,none⟩=W.frozen? ⟨b,o,none⟩) :=
 ⟨fun b o h=>hb.cell (p:=⟨b,o,none⟩) h,fun b o h=>hb.frozen (p:=⟨b,o,none⟩) h⟩
structure aD(ok:Nat→Prop)(w w':World):Prop where
 size:w.heap.size≤w'.heap.size
 block:∀b,ok b→b<w.heap.size→w'.heap[b]? = w.heap[b]?
theorem aD.trans{ok:Nat→Prop}{a b c:World}(h:aD ok a b)(k:aD ok b c):aD ok a c :=
 ⟨Nat.le_trans h.size k.size,fun i hi hs=>(k.block i hi (nT hs h.size)).trans (h.block i hi hs)⟩
theorem aD.below{w w':World}(h:Below w.heap.size w w')(ok:Nat→Prop):aD ok w w':=⟨h.size,fun b _ hb=>h.block b hb⟩
theorem aD.cell{ok:Nat→Prop}{w w':World}(h:aD ok w w'){p:Addr}(hp:ok p.block)(hs:p.block<w.heap.size):w'.cell? p=w.cell? p:=World.cell?_of_block (w:=w) (h.block _ hp hs)
theorem Ts.keep{w w':World}{ok:Nat→Prop}(hk:aD ok w w'){l:List Tm}{a:Option Addr}{cap:Nat}(h:Ts w ok l a cap):Ts w' ok l a cap:=by
 induction h with
 | mk l a cap hcap x hc hr ih =>
  refine .mk l a cap hcap x (fun i hi=>?_) ih;obtain⟨b,off,h1,h2,h3,h4⟩:=hc i hi;exact⟨b,off,h1,h2,nT h3 hk.size,(hk.cell (p:=⟨b,_,none⟩) h2 h3).trans h4.var,(hk.cell (p:=⟨b,_,none⟩) h2 h3).trans h4.name,(hk.cell (p:=⟨b,_,none⟩) h2 h3).trans h4.args,h4.fits⟩
abbrev dS:=Tm×Option Addr×Nat
def dX:List dS→List Value
 | []=>[]
 | x::r=>.int .i64 x.1.var::.string x.1.name::.slice x.2.1 x.1.args.length x.2.2::dX r
theorem aH9(l r:List dS):dX (l++r)=dX l++dX r:=by
 induction l with
 | nil=>rfl
 | cons x l ih=>simp[dX,ih]
theorem eG(l:List dS):(dX l).length=l.length*3:=by
 induction l with
 | nil=>rfl
 | cons x l ih=>simp[dX,ih];omega
theorem kU(l:List dS):∀u∈dX l,u.oneCell'=true:=by
 induction l with
 | nil=>intro u hu;cases hu
 | cons x l ih =>
  intro u hu;simp only[dX,List.mem_cons] at hu;rcases hu with rfl|rfl|rfl|hu
  ·rfl
  ·rfl
  ·rfl
  ·exact ih u hu
theorem aA4(l:List dS)(i:Nat)(h:i<l.length):(dX l)[i*3]? = some (.int .i64 l[i].1.var)∧(dX l)[i*3+1]? = some (.string l[i].1.name)∧(dX l)[i*3+2]? = some (.slice l[i].2.1 l[i].1.args.length l[i].2.2):=by
 induction l generalizing i with
 | nil=>cases h
 | cons x l ih =>
  cases i with
  | zero=>simp[dX]
  | succ i =>
   have:=ih i (by simpa using h);rw[show (i+1)*3=i*3+3 from by omega];simpa[dX] using this
def bW(w:World)(ok:Nat→Prop)(L:List dS):Prop:=∀x,x∈L→x.1.fits∧Ts w ok x.1.args x.2.1 x.2.2
theorem bW.keep{w w':World}{ok:Nat→Prop}(hk:aD ok w w'){L:List dS}(h:bW w ok L):bW w' ok L:=fun x hx=>⟨(h x hx).1,(h x hx).2.keep hk⟩
theorem bW.append{w:World}{ok:Nat→Prop}{L R:List dS}(h:bW w ok L)(k:bW w ok R):bW w ok (L++R):=fun x hx=>by
 rcases List.mem_append.1 hx with hx|hx
 ·exact h x hx
 ·exact k x hx
theorem bW.nil(w:World)(ok:Nat→Prop):bW w ok []:=fun x hx=>by cases hx
theorem bW.one{w:World}{ok:Nat→Prop}{t:Tm}{a:Option Addr}{cap:Nat}(hf:t.fits)(h:Ts w ok t.args a cap):bW w ok [(t,a,cap)]:=fun x hx=>by
 rw[List.mem_singleton] at hx;subst hx;exact⟨hf,h⟩
theorem fY(b off n:Nat):(⟨b,off,none⟩:Addr).add n=⟨b,off+n,none⟩:=by
 unfold Addr.add;split
 ·subst_vars;rfl
 ·rfl
theorem Ts.open{w:World}{ok:Nat→Prop}{l:List Tm}{a:Option Addr}{cap:Nat}(h:Ts w ok l a cap) :
 ∃L:List dS,L.map (·.1)=l∧bW w ok L∧(∀ad,a=some ad→∀j u,(dX L)[j]? = some u→w.cell? (ad.add j)=some u):=by
 cases h with
 | mk _ _ _ hcap x hc hr =>
  refine⟨(List.range l.length).attach.map fun i=>(l[i.1]'(List.mem_range.1 i.2),(x i.1).1,(x i.1).2),?_,?_,?_⟩
  ·refine List.ext_getElem (by simp) fun i h1 h2=>by simp
  ·rintro y hy
   obtain⟨⟨i,hi⟩,_,rfl⟩:=List.mem_map.1 hy;have hi':=List.mem_range.1 hi;obtain⟨b,off,_,_,_,h4⟩:=hc i hi';exact⟨h4.fits,hr i hi'⟩
  ·rintro ad rfl j u hu
   have hj:j<((List.range l.length).attach.map fun i=>((l[i.1]'(List.mem_range.1 i.2),(x i.1).1,(x i.1).2):dS)).length*3:=by
    rw[←eG];exact(List.getElem?_eq_some_iff.1 hu).1
   have hi:j / 3<l.length:=by simp at hj;omega
   obtain⟨b,off,h1,_,_,h4⟩:=hc (j / 3) hi;simp only[Option.some.injEq] at h1;subst h1;have h5:=aA4 ((List.range l.length).attach.map fun i=>((l[i.1]'(List.mem_range.1 i.2),(x i.1).1,(x i.1).2):dS)) (j / 3) (by simpa using hi);simp only[List.getElem_map,List.getElem_attach,List.getElem_range] at h5;rw[fY];have hm:j % 3<3:=Nat.mod_lt _ (by decide);have hd:j=j / 3*3+j % 3:=by omega
   rcases (by omega:j % 3=0∨j % 3=1∨j % 3=2) with e|e|e
   ·rw[hd,e,Nat.add_zero] at hu ⊢
    rw[h5.1] at hu;cases hu;exact h4.var
   ·rw[hd,e] at hu ⊢
    rw[h5.2.1] at hu;cases hu;exact h4.name
   ·rw[hd,e] at hu ⊢
    rw[h5.2.2] at hu;cases hu;exact h4.args
theorem Ts.of_row{w:World}{ok:Nat→Prop}{base:Nat}{v:Value}{L:List dS}(h:w.ownsRow base 71 3 v L.length (dX L))(hok:∀b,base≤b→ok b)(he:bW w ok L) :
 ∃a cap,v=.slice a (L.map (·.1)).length cap∧Ts w ok (L.map (·.1)) a cap:=by
 rcases h.2 with ⟨rfl,hn⟩|⟨g,cap,cur,rfl,hb,hg,hcap,hml,hsz,htk⟩
 ·have:L = []:=List.eq_nil_of_length_eq_zero hn
  subst this;exact⟨none,0,rfl,.mk [] none 0 ⟨nR _,Nat.zero_le _,fun _=>rfl⟩ (fun _=>(none,0)) (fun i hi=>by cases hi) (fun i hi=>by cases hi)⟩
 ·refine⟨some ⟨g,0,none⟩,cap,by simp,?_⟩
  have hcell:∀j u,(dX L)[j]? = some u→w.cell? ⟨g,j,none⟩=some u:=by
   intro j u hu;have hj:j<L.length*3:=by rw[←eG];exact(List.getElem?_eq_some_iff.1 hu).1
   rw[h.cellAt j hj,hu]
  have hgs:g<w.heap.size:=(gS hg).1;refine .mk _ _ _ ⟨by simpa using hcap,hml,fun h=>by cases h⟩ (fun i=>((L.getD i (.mk 0 ByteArray.empty [],none,0)).2)) (fun i hi=>?_) (fun i hi=>?_)
  ·have hi':i<L.length:=by simpa using hi
   obtain⟨h1,h2,h3⟩:=aA4 L i hi';refine⟨g,0,rfl,hok g hb,hgs,?_⟩;simp only[List.getElem_map,List.getD_eq_getElem?_getD,List.getElem?_eq_getElem hi',Option.getD_some,Nat.zero_add];exact⟨hcell _ _ h1,hcell _ _ h2,hcell _ _ h3,(he _ (List.getElem_mem hi')).1⟩
  ·have hi':i<L.length:=by simpa using hi
   simp only[List.getElem_map,List.getD_eq_getElem?_getD,List.getElem?_eq_getElem hi',Option.getD_some];exact(he _ (List.getElem_mem hi')).2
theorem Ts.some{w:World}{ok:Nat→Prop}{l:List Tm}{a:Option Addr}{cap:Nat}(h:Ts w ok l a cap)(hl:1≤l.length):∃ad,a=some ad:=by
 have:=h.cap;cases a with
 | none=>have:=this.2.2 rfl;omega
 | some ad=>exact⟨ad,rfl⟩
theorem aH{w w':World}{base:Nat}{e:TypeId}{size:Nat}{v:Value}{n:Nat}{xs:List Value}(h:w.ownsRow base e size v n xs)(hb:Below w.heap.size w w'):w'.ownsRow base e size v n xs:=by
 refine h.kept (row:=none) ⟨hb.os,hb.tape,hb.output,hb.size,fun k hk _=>hb.block k hk⟩ ?_;cases v.ownBlock <;> simp
theorem Ts.mono{w:World}{ok ok':Nat→Prop}(h:∀b,b<w.heap.size→ok b→ok' b){l:List Tm}{a:Option Addr}{cap:Nat}(ht:Ts w ok l a cap):Ts w ok' l a cap:=by
 induction ht with
 | mk l a cap hcap x hc hr ih =>
  refine .mk l a cap hcap x (fun i hi=>?_) ih;obtain⟨b,off,h1,h2,h3,h4⟩:=hc i hi;exact⟨b,off,h1,h _ h3 h2,h3,h4⟩
def bJ7(w:World)(ok:Nat→Prop)(l:List Tm)(e:Ending)(w':World):Prop :=
 ∃a cap,e=.returned (.slice a l.length cap)∧Ts w' ok l a cap∧Below w.heap.size w w'
def cF(w:World)(v v':Value):Prop:=v'.ownBlock=v.ownBlock∨∀g,v'.ownBlock=some g→w.heap.size≤g
section
variable {P:Program} (w:World)
theorem iX(base:Nat)(t ty e:TypeId)(i:TypeInfo)(z:Value)(size bytes:Nat)(ht:P.underlying t=some (.slice e))(hi:P.info? e=some i)(hz:i.zero=some z)
 (hsize:i.size=size) (hby:i.bytes=bytes) (hzs:z.cells.size=size) (hsz:0<size)
 (v:Value) (n:Nat) (xs:List Value) (hown:w.ownsRow base e size v n xs)
 (a:Addr) (m c:Nat) (news:List Value) (hl:news.length=m*size) (hnews:∀j u,news[j]? = some u→w.cell? (a.add j)=some u) (h1:∀u∈news,u.oneCell'=true)
 (h63:n+m≤maxLen) (hbytes:(n+m)*bytes≤140737488355328) (hbase:base≤w.heap.size) :
 ∃v' w',(Builtin.append_ #[t,t] ty #[v,.slice (some a) m c]).run P w=.ok v' w'∧w'.ownsRow base e size v' (n+m) (xs++news)∧w.grownBy w' v.ownBlock∧cF w v v':=by
 rcases hown.2 with ⟨rfl,hn⟩|⟨g,cap,cur,rfl,hbg,hg,hnc,hcm,hcs,htake⟩
 ·subst hn
  have hx:xs = []:=List.eq_nil_of_length_eq_zero (by simpa using hown.1);subst hx;obtain⟨v',w',h2,h3,h4,_⟩:=run_append_own (P:=P) w w.heap.size t ty e i z size bytes ht hi hz hsize hby hzs hsz (.slice none 0 0) 0 [] (World.ownsRow_nil _ _ _ _) a m c news hl hnews h1 h63 hbytes (nR _);refine⟨v',w',h2,⟨h3.1,?_⟩,h4,.inr fun g hg=>(h3.lt g hg).1⟩;rcases h3.2 with h5|⟨g,cap,cur,h5,h6,h7⟩
  ·exact .inl h5
  ·exact .inr ⟨g,cap,cur,h5,Nat.le_trans hbase h6,h7⟩
 ·obtain⟨v',w',h2,h3,h4,_⟩:=run_append_own (P:=P) w base t ty e i z size bytes ht hi hz hsize hby hzs hsz _ n xs hown a m c news hl hnews h1 h63 hbytes hbase
  refine⟨v',w',h2,h3,h4,?_⟩;subst hsize;subst hby;by_cases hroom:n+m≤cap
  ·have hfit:n*i.size+news.length≤cur.size:=by rw[hl,hcs,←Nat.add_mul];exact Nat.mul_le_mul_right _ hroom
   have hr:=run_append_room (P:=P) w t ty e i ht hi g n cap cur hg a m c news hl hnews h1 hroom hfit;rw[h2] at hr;simp only[Result.ok.injEq] at hr;rw[hr.1];exact .inl rfl
  ·have hsmall:n+m≤9223372036854775807:=by simp only[maxLen] at h63;omega
   have holds:∀j u,xs[j]? = some u→w.cell? ((⟨g,0,none⟩:Addr).add j)=some u:=hown.cells (g:=g) rfl;have hr:=run_append_grow (P:=P) w t ty e i z ht hi hz ⟨g,0,none⟩ n cap xs hown.1 holds a m c news hl hnews (by omega) (by omega) (growslice_fits (by omega) hbytes);rw[h2] at hr;simp only[Result.ok.injEq] at hr;rw[hr.1];refine .inr fun g' hg'=>?_
   simp only[Value.ownBlock,Option.some.injEq] at hg';omega
theorem aR{ops:Array Oper}{rest:List Oper}{o:Oper}{a:Act}{Q:Exit→Act→World→Prop}(hgd:o.guard=none)(s x:Operand)(t:TypeId)
 (ho:o.op=.call {callee:=.builtin .append,args:=#[s,x],argTypes:=#[t,t]})
 (base:Nat) (e:TypeId) (i:TypeInfo) (z:Value) (size bytes:Nat) (ht:P.underlying t=some (.slice e)) (hi:P.info? e=some i) (hz:i.zero=some z)
 (hsize:i.size=size) (hby:i.bytes=bytes) (hzs:z.cells.size=size) (hsz:0<size)
 (v:Value) (n:Nat) (xs:List Value) (hs:a.eval s=v) (hown:w.ownsRow base e size v n xs)
 (ad:Addr) (m c:Nat) (news:List Value) (hx:a.eval x=.slice (some ad) m c) (hl:news.length=m*size) (hnews:∀j u,news[j]? = some u→w.cell? (ad.add j)=some u) (h1:∀u∈news,u.oneCell'=true)
 (h63:n+m≤maxLen) (hbytes:(n+m)*bytes≤140737488355328) (hbase:base≤w.heap.size)
 (h:∀v' w',w'.ownsRow base e size v' (n+m) (xs++news)→w.grownBy w' v.ownBlock→cF w v v'→wpList P ops Q rest (a.put o.dst v') w'):wpList P ops Q (o::rest) a w :=
 wpList_plain hgd fun _ hK=>by
  obtain⟨v',w',hr,h2,h3,h4⟩:=iX (P:=P) w base t o.type e i z size bytes ht hi hz hsize hby hzs hsz v n xs hown ad m c news hl hnews h1 h63 hbytes hbase;unfold Oper.wp execOp;simp only[ho,resolve,invoke,builtin,Sem.run_bind,Sem.run_pure,Result.andThen_ok,List.map_toArray,List.map_cons,List.map_nil,hs,hx,hr];exact hK _ _ (h v' w' h2 h3 h4)
end
def nB(x:Value)(ok:Nat→Prop):Nat→Prop:=fun b=>ok b∧x.ownBlock≠some b
structure dA(w:World)(base:Nat)(ok:Nat→Prop)(x:Value)(L:List dS):Prop where
 own:w.ownsRow base 71 3 x L.length (dX L)
 each:bW w (nB x ok) L
theorem dA.nil(w:World)(base:Nat)(ok:Nat→Prop):dA w base ok (.slice none 0 0) []:=⟨World.ownsRow_nil _ _ _ _,bW.nil _ _⟩
theorem bW.mono{w:World}{ok ok':Nat→Prop}(h:∀b,b<w.heap.size→ok b→ok' b){L:List dS}(hl:bW w ok L):bW w ok' L:=fun x hx=>⟨(hl x hx).1,(hl x hx).2.mono h⟩
theorem dA.below{w w':World}{base:Nat}{ok:Nat→Prop}{x:Value}{L:List dS}(h:dA w base ok x L)(hb:Below w.heap.size w w'):dA w' base ok x L :=
 ⟨aH h.own hb,h.each.keep (aD.below hb _)⟩
theorem dA.append{w w':World}{base:Nat}{ok:Nat→Prop}{x x':Value}{L L2:List dS}(h:dA w base ok x L)(h2:bW w (nB x ok) L2)
 (ho:w'.ownsRow base 71 3 x' (L.length+L2.length) (dX L++dX L2)) (hg:w.grownBy w' x.ownBlock) (hf:cF w x x'):dA w' base ok x' (L++L2):=by
 refine⟨by rw[aH9,List.length_append];exact ho,?_⟩;have h3:bW w (fun b=>nB x ok b∧b<w.heap.size) (L++L2):=(h.each.append h2).mono fun b hb h=>⟨h,hb⟩
 have h4:aD (fun b=>nB x ok b∧b<w.heap.size) w w':=⟨hg.size,fun b hb hs=>hg.block b hs (fun e=>hb.1.2 e.symm)⟩
 refine(h3.keep h4).mono fun b _ hb=>⟨hb.1.1,?_⟩
 rcases hf with hf|hf
 ·rw[hf];exact hb.1.2
 ·intro e;have:=hf b e;omega
theorem dA.done{w:World}{base:Nat}{ok:Nat→Prop}{x:Value}{L:List dS}(h:dA w base ok x L)(hok:∀b,base≤b→ok b):∃a cap,x=.slice a (L.map (·.1)).length cap∧Ts w ok (L.map (·.1)) a cap :=
 Ts.of_row h.own hok (h.each.mono fun _ _ hb=>hb.1)
theorem dA.block{w:World}{base:Nat}{ok:Nat→Prop}{x:Value}{L:List dS}(h:dA w base ok x L){g:Nat}(hg:x.ownBlock=some g):base≤g∧g<w.heap.size:=h.own.lt g hg
theorem dA.newok{w:World}{base:Nat}{ok:Nat→Prop}{x:Value}{L:List dS}(h:dA w base ok x L)(hok:∀b,w.heap.size≤b→ok b):∀b,w.heap.size≤b→nB x ok b :=
 fun b hb=>⟨hok b hb,fun e=>by have:=(h.block e).2;omega⟩
theorem dA.old{w:World}{base:Nat}{ok:Nat→Prop}{x:Value}{L:List dS}(h:dA w base ok x L){m:Nat}(hm:m≤base):∀b,b<m→ok b→nB x ok b :=
 fun b hb hk=>⟨hk,fun e=>by have:=(h.block e).1;omega⟩
end Go.Proofs.Ytikmgiapjigghab
namespace Go.Proofs.Ytikmgiapjigghab
abbrev iQ(L:Nat→List Nat):Nat→Nat→Prop:=fun j i=>j∈L i
theorem tV{α:Type}{r:α→α→Prop}{x:α}(h:Acc r x):¬r x x:=by
 induction h with
 | intro x _ ih=>exact fun hr=>ih x hr hr
theorem zD{α:Type}{r:α→α→Prop}{x:α}(h:Acc r x):¬Relation.TransGen r x x:=tV h.transGen
def aN7(L:Nat→List Nat)(c:Nat):List (Nat×Nat)→Prop
 | []=>True
 | (a,k)::S=>1≤k∧(L a)[k-1]? = some c∧(∀j y,j<k-1→(L a)[j]? = some y→Acc (iQ L) y)∧aN7 L a S
def bQ4(L:Nat→List Nat):List (Nat×Nat)→Prop
 | []=>True
 | (a,k)::S=>(∀j y,j<k→(L a)[j]? = some y→Acc (iQ L) y)∧aN7 L a S
theorem aC2{L:Nat→List Nat}:∀(S:List (Nat×Nat)) (c x:Nat),aN7 L c S→x∈S.map (·.1)→Relation.TransGen (iQ L) c x:=by
 intro S
 induction S with
 | nil=>intro c x _ hx;cases hx
 | cons p S ih =>
  obtain⟨a,k⟩:=p;rintro c x ⟨_,h2,_,h4⟩ hx;have hc:iQ L c a:=List.mem_of_getElem? h2;rcases List.mem_cons.1 hx with rfl|hx
  ·exact .single hc
  ·exact .trans (.single hc) (ih a x h4 hx)
def wF(L:Nat→List Nat):Nat→List Nat→Nat
 | _,[]=>0
 | i,x::r=>(if x=0 then (L i).length+2 else 0)+wF L (i+1) r
theorem aW5{L:Nat→List Nat}{x:Nat}(hx:x≠0):∀(met:List Nat) (i j:Nat),met[j]? = some 0→wF L i (met.set j x)+(L (i+j)).length+2=wF L i met:=by
 intro met
 induction met with
 | nil=>intro i j h;simp at h
 | cons a r ih =>
  intro i j h;cases j with
  | zero =>
   simp only[List.getElem?_cons_zero,Option.some.injEq] at h;subst h;simp only[List.set_cons_zero,wF,if_neg hx,if_true,Nat.add_zero];omega
  | succ j =>
   simp only[List.getElem?_cons_succ] at h;have:=ih (i+1) j h;simp only[List.set_cons_succ,wF];rw[show i+(j+1)=i+1+j by omega];omega
theorem aW6{L:Nat→List Nat}{x y:Nat}(hx:x≠0)(hy:y≠0):∀(met:List Nat) (i j:Nat),met[j]? = some y→wF L i (met.set j x)=wF L i met:=by
 intro met
 induction met with
 | nil=>intro i j h;simp at h
 | cons a r ih =>
  intro i j h;cases j with
  | zero =>
   simp only[List.getElem?_cons_zero,Option.some.injEq] at h;subst h;simp only[List.set_cons_zero,wF,if_neg hx,if_neg hy]
  | succ j =>
   simp only[List.getElem?_cons_succ] at h;have:=ih (i+1) j h;simp only[List.set_cons_succ,wF,this]
def aW7(L:Nat→List Nat):List (Nat×Nat)→Nat
 | []=>0
 | (a,k)::S=>((L a).length+1-k)+aW7 L S
structure Dfs(L:Nat→List Nat)(n:Nat)(met:List Nat)(S:List (Nat×Nat)):Prop where
 len:met.length=n
 vals:∀i x:Nat,met[i]? = some x→x≤2
 gray:∀i:Nat,met[i]? = some 1↔i∈S.map (·.1)
 nodup:(S.map (·.1)).Nodup
 black:∀i:Nat,met[i]? = some 2→Acc (iQ L) i
 path:bQ4 L S
 bound:∀p,p∈S→p.2≤(L p.1).length
theorem gL{met:List Nat}{j x i:Nat}(hj:j<met.length):(met.set j x)[i]? = if i=j then some x else met[i]?:=by
 rw[List.getElem?_set];by_cases e:j=i
 ·subst e;rw[if_pos rfl,if_pos rfl,if_pos hj]
 ·rw[if_neg e,if_neg (fun h=>e h.symm)]
theorem zE{n i x:Nat}(h:(List.replicate n 0)[i]? = some x):x=0:=by
 rw[List.getElem?_replicate] at h;split at h
 ·cases h;rfl
 ·cases h
theorem Dfs.start{L:Nat→List Nat}(n:Nat):Dfs L n (List.replicate n 0) [] :=
 ⟨List.length_replicate,fun i x h=>by rw[zE h];omega,fun i=>⟨fun h=>absurd (zE h) (by omega),fun h=>nomatch h⟩,List.nodup_nil,
  fun i h=>absurd (zE h) (by omega),trivial,fun p h=>nomatch h⟩
theorem Dfs.push{L:Nat→List Nat}{n:Nat}{met:List Nat}{S:List (Nat×Nat)}(h:Dfs L n met S){t:Nat}(ht:met[t]? = some 0)(hu:aN7 L t S):Dfs L n (met.set t 1) ((t,0)::S):=by
 have hl:t<met.length:=(List.getElem?_eq_some_iff.1 ht).1;have hn:t ∉ S.map (·.1):=fun hm=>by have:=(h.gray t).2 hm;rw[ht] at this;cases this
 refine⟨by rw[List.length_set];exact h.len,fun i x hi=>?_,fun i=>?_,?_,fun i hi=>?_,⟨fun j y hj _=>absurd hj (Nat.not_lt_zero j),hu⟩,fun p hp=>?_⟩
 ·rw[gL hl] at hi
  split at hi
  ·cases hi;omega
  ·exact h.vals i x hi
 ·rw[gL hl,List.map_cons,List.mem_cons]
  by_cases e:i=t
  ·simp[e]
  ·rw[if_neg e,h.gray i];simp[e]
 ·rw[List.map_cons,List.nodup_cons];exact⟨hn,h.nodup⟩
 ·rw[gL hl] at hi
  split at hi
  ·cases hi
  ·exact h.black i hi
 ·rcases List.mem_cons.1 hp with rfl|hp
  ·exact Nat.zero_le _
  ·exact h.bound p hp
theorem Dfs.skip{L:Nat→List Nat}{n:Nat}{met:List Nat}{S:List (Nat×Nat)}{a k t:Nat}(h:Dfs L n met ((a,k)::S))(ht:(L a)[k]? = some t)(hb:met[t]? = some 2):Dfs L n met ((a,k+1)::S):=by
 refine⟨h.len,h.vals,h.gray,h.nodup,h.black,⟨fun j y hj hy=>?_,h.path.2⟩,fun p hp=>?_⟩
 ·by_cases e:j=k
  ·subst e;rw[ht] at hy;cases hy;exact h.black t hb
  ·exact h.path.1 j y (by omega) hy
 ·rcases List.mem_cons.1 hp with rfl|hp
  ·exact(List.getElem?_eq_some_iff.1 ht).1
  ·exact h.bound p (List.mem_cons_of_mem _ hp)
theorem Dfs.deeper{L:Nat→List Nat}{n:Nat}{met:List Nat}{S:List (Nat×Nat)}{a k t:Nat}(h:Dfs L n met ((a,k)::S))(ht:(L a)[k]? = some t)(hb:met[t]? = some 0):Dfs L n (met.set t 1) ((t,0)::(a,k+1)::S):=by
 have hl:t<met.length:=(List.getElem?_eq_some_iff.1 hb).1;have hn:t ∉ ((a,k)::S).map (·.1):=fun hm=>by have:=(h.gray t).2 hm;rw[hb] at this;cases this
 refine⟨by rw[List.length_set];exact h.len,fun i x hi=>?_,fun i=>?_,?_,fun i hi=>?_,⟨fun j y hj _=>absurd hj (Nat.not_lt_zero j),by omega,ht,fun j y hj hy=>h.path.1 j y (by omega) hy,h.path.2⟩,fun p hp=>?_⟩
 ·rw[gL hl] at hi
  split at hi
  ·cases hi;omega
  ·exact h.vals i x hi
 ·rw[gL hl,List.map_cons,List.mem_cons]
  have:=h.gray i;by_cases e:i=t
  ·simp[e]
  ·rw[if_neg e,this];simp[e]
 ·rw[List.map_cons,List.nodup_cons];exact⟨hn,h.nodup⟩
 ·rw[gL hl] at hi
  split at hi
  ·cases hi
  ·exact h.black i hi
 ·rcases List.mem_cons.1 hp with rfl|hp
  ·exact Nat.zero_le _
  ·rcases List.mem_cons.1 hp with rfl|hp
   ·exact(List.getElem?_eq_some_iff.1 ht).1
   ·exact h.bound p (List.mem_cons_of_mem _ hp)
theorem Dfs.pop{L:Nat→List Nat}{n:Nat}{met:List Nat}{S:List (Nat×Nat)}{a k:Nat}(h:Dfs L n met ((a,k)::S))(ht:(L a)[k]? = none):Dfs L n (met.set a 2) S:=by
 have ha:met[a]? = some 1:=(h.gray a).2 (by simp);have hl:a<met.length:=(List.getElem?_eq_some_iff.1 ha).1;have hn:a ∉ S.map (·.1):=by have:=h.nodup;rw[List.map_cons,List.nodup_cons] at this;exact this.1
 have hacc:Acc (iQ L) a:=⟨a,fun y hy=>by
  obtain⟨j,hj⟩:=List.mem_iff_getElem?.1 hy;by_cases e:j<k
  ·exact h.path.1 j y e hj
  ·have:=List.getElem?_eq_none_iff.1 ht
   have:=(List.getElem?_eq_some_iff.1 hj).1;omega⟩
 refine⟨by rw[List.length_set];exact h.len,fun i x hi=>?_,fun i=>?_,?_,fun i hi=>?_,?_,fun p hp=>h.bound p (List.mem_cons_of_mem _ hp)⟩
 ·rw[gL hl] at hi
  split at hi
  ·cases hi;omega
  ·exact h.vals i x hi
 ·rw[gL hl]
  by_cases e:i=a
  ·subst e;rw[if_pos rfl];exact⟨fun h=>(by cases h),fun hm=>absurd hm hn⟩
  ·rw[if_neg e,h.gray i];simp[e]
 ·have:=h.nodup;rw[List.map_cons,List.nodup_cons] at this;exact this.2
 ·rw[gL hl] at hi
  split at hi
  ·rename_i e;subst e;exact hacc
  ·exact h.black i hi
 ·have hu:=h.path.2
  cases S with
  | nil=>trivial
  | cons p S =>
   obtain⟨b,m⟩:=p;obtain⟨h1,h2,h3,h4⟩:=hu;refine⟨fun j y hj hy=>?_,h4⟩;by_cases e:j=m-1
   ·subst e;rw[h2] at hy;cases hy;exact hacc
   ·exact h3 j y (by omega) hy
theorem Dfs.circle{L:Nat→List Nat}{n:Nat}{met:List Nat}{S:List (Nat×Nat)}{a k t:Nat}(h:Dfs L n met ((a,k)::S))(ht:(L a)[k]? = some t)(hb:met[t]? = some 1):¬Acc (iQ L) t:=by
 intro hacc;have hm:=(h.gray t).1 hb;have hl:iQ L t a:=List.mem_of_getElem? ht;rcases List.mem_cons.1 hm with e|hm
 ·rw[e] at hl hacc;exact tV hacc hl
 ·exact zD hacc (.trans (.single hl) (aC2 S a t h.path.2 hm))
theorem Dfs.all{L:Nat→List Nat}{n:Nat}{met:List Nat}(h:Dfs L n met [])(hz:∀j,j<n→met[j]?≠some 0):∀j,j<n→Acc (iQ L) j:=fun j hj=>by
 have hl:j<met.length:=by rw[h.len];exact hj
 have h0:met[j]? = some met[j]:=List.getElem?_eq_getElem hl;have h1:=h.vals j _ h0;have h2:met[j]≠0:=fun e=>hz j hj (by rw[h0,e])
 have h3:met[j]≠1:=fun e=>by have:=(h.gray j).1 (by rw[h0,e]);cases this
 exact h.black j (by rw[h0];congr 1;omega)
def fO(L:Nat→List Nat)(met:List Nat)(S:List (Nat×Nat)):Nat:=wF L 0 met+aW7 L S
theorem zF{L:Nat→List Nat}{met:List Nat}{S:List (Nat×Nat)}{a k t:Nat}(ht:(L a)[k]? = some t):fO L met ((a,k+1)::S)<fO L met ((a,k)::S):=by
 have:=(List.getElem?_eq_some_iff.1 ht).1;simp only[fO,aW7];omega
theorem tW{L:Nat→List Nat}{met:List Nat}{S:List (Nat×Nat)}{a k t:Nat}(ht:(L a)[k]? = some t)(hb:met[t]? = some 0):fO L (met.set t 1) ((t,0)::(a,k+1)::S)<fO L met ((a,k)::S):=by
 have:=(List.getElem?_eq_some_iff.1 ht).1;have h2:=aW5 (L:=L) (x:=1) (by omega) met 0 t hb;rw[Nat.zero_add] at h2;simp only[fO,aW7];omega
theorem aC3{L:Nat→List Nat}{n:Nat}{met:List Nat}{S:List (Nat×Nat)}{a k:Nat}(h:Dfs L n met ((a,k)::S)):fO L (met.set a 2) S<fO L met ((a,k)::S):=by
 have ha:met[a]? = some 1:=(h.gray a).2 (by simp);have h2:=aW6 (L:=L) (x:=2) (y:=1) (by omega) (by omega) met 0 a ha;have:=h.bound (a,k) (by simp);simp only[fO,aW7,h2] at *;omega
theorem jH:∀(n:Nat) (G:List Nat),G.Nodup→(∀x,x∈G→x<n)→G.length≤n∧(G.length=n→∀v,v<n→v∈G):=by
 intro n
 induction n with
 | zero =>
  intro G _ hb;cases G with
  | nil=>exact⟨nR _,fun _ v hv=>absurd hv (Nat.not_lt_zero v)⟩
  | cons a r=>exact absurd (hb a List.mem_cons_self) (Nat.not_lt_zero a)
 | succ n ih =>
  intro G hd hb;by_cases hm:n∈G
  ·have h1:(G.erase n).Nodup:=hd.erase n
   have h2:∀x,x∈G.erase n→x<n:=fun x hx=>by
    have:=(hd.mem_erase_iff).1 hx;have:=hb x this.2;omega
   obtain⟨h3,h4⟩:=ih _ h1 h2;have h5:(G.erase n).length=G.length-1:=List.length_erase_of_mem hm;have h6:0<G.length:=List.length_pos_of_mem hm;refine⟨by omega,fun he v hv=>?_⟩;by_cases e:v=n
   ·subst e;exact hm
   ·exact List.mem_of_mem_erase (h4 (by omega) v (by omega))
  ·have h2:∀x,x∈G→x<n:=fun x hx=>by
    have:=hb x hx;have:x≠n:=fun e=>hm (e ▸ hx)
    omega
   obtain⟨h3,_⟩:=ih G hd h2;exact⟨by omega,fun he=>by omega⟩
def bU(E:List (Nat×Nat))(j:Nat):List Nat:=(E.filter (fun e=>e.1 == j)).map (·.2)
def jO(L:Nat→List Nat)(n:Nat):List (Nat×Nat):=(List.range n).flatMap fun v=>(L v).map fun t=>(t,v)
theorem rL(L:Nat→List Nat)(n:Nat):jO L (n+1)=jO L n++(L n).map fun t=>(t,n):=by
 unfold jO;rw[List.range_succ,List.flatMap_append];simp
theorem iJ(E F:List (Nat×Nat))(j:Nat):bU (E++F) j=bU E j++bU F j:=by
 unfold bU;rw[List.filter_append,List.map_append]
theorem mQ(t v j:Nat):bU [(t,v)] j=if t=j then [v] else []:=by
 unfold bU;by_cases e:t=j
 ·simp[e]
 ·simp[e]
theorem zJ(l:List Nat)(u j v:Nat):(bU (l.map fun t=>(t,u)) j).count v=if v=u then l.count j else 0:=by
 induction l with
 | nil=>simp[bU]
 | cons t l ih =>
  have:(t::l).map (fun t=>(t,u)) = [(t,u)]++l.map fun t=>(t,u):=rfl
  rw[this,iJ,List.count_append,ih,mQ,List.count_cons];by_cases e:v=u
  ·subst e
   by_cases e2:t=j
   ·subst e2;simp;omega
   ·have:(t == j)=false:=by simpa using e2
    simp[e2]
  ·by_cases e2:t=j
   ·have:¬u=v:=fun h=>e h.symm
    simp[e,e2,this]
   ·simp[e,e2]
theorem mR(L:Nat→List Nat)(j v:Nat):∀n:Nat,(bU (jO L n) j).count v=if v<n then (L v).count j else 0:=by
 intro n
 induction n with
 | zero=>simp[jO,bU]
 | succ n ih =>
  rw[rL,iJ,List.count_append,ih,zJ];by_cases e:v=n
  ·subst e;simp
  ·by_cases h:v<n
   ·rw[if_pos h,if_neg e,if_pos (by omega)];omega
   ·rw[if_neg h,if_neg e,if_neg (by omega)]
theorem aK2{p q:Nat→Bool}:∀(l:List Nat),(∀j,j∈l→q j=true→p j=true)→l.countP q≤l.countP p∧(l.countP p≤l.countP q→∀j,j∈l→p j=true→q j=true):=by
 intro l
 induction l with
 | nil=>intro _;exact⟨nR _,fun _ j hj=>nomatch hj⟩
 | cons a l ih =>
  intro h;obtain⟨h1,h2⟩:=ih fun j hj=>h j (List.mem_cons_of_mem _ hj)
  have ha:=h a List.mem_cons_self;rw[List.countP_cons,List.countP_cons];by_cases hq:q a=true
  ·have hp:=ha hq
   rw[if_pos hq,if_pos hp];refine⟨by omega,fun he j hj hpj=>?_⟩;rcases List.mem_cons.1 hj with rfl|hj
   ·exact hq
   ·exact h2 (by omega) j hj hpj
  ·rw[if_neg hq]
   by_cases hp:p a=true
   ·rw[if_pos hp]
    exact⟨by omega,fun he=>by omega⟩
   ·rw[if_neg hp]
    refine⟨by omega,fun he j hj hpj=>?_⟩;rcases List.mem_cons.1 hj with rfl|hj
    ·exact absurd hpj hp
    ·exact h2 (by omega) j hj hpj
def cnt(L:Nat→List Nat)(G:List Nat)(v:Nat):Nat:=(L v).countP fun j=>!(G.contains j)
theorem bF2(L:Nat→List Nat)(v:Nat):cnt L [] v=(L v).length:=by
 unfold cnt;rw[List.countP_eq_length.2];intro a _;rfl
theorem aE2(L:Nat→List Nat){G:List Nat}{g:Nat}(hg:g ∉ G)(v:Nat):cnt L (G++[g]) v+(L v).count g=cnt L G v:=by
 unfold cnt;generalize L v=l
 induction l with
 | nil=>rfl
 | cons a l ih =>
  rw[List.countP_cons,List.countP_cons,List.count_cons];by_cases e:a=g
  ·subst e
   have h1:(!(G++[a]).contains a)=false:=by simp
   have h2:(!G.contains a)=true:=by simpa using hg
   rw[h1,h2];simp only[beq_self_eq_true,if_true,Bool.false_eq_true,if_false];omega
  ·have h1:(!(G++[g]).contains a)=(!G.contains a):=by simp[e]
   have h2:(a == g)=false:=by simpa using e
   rw[h1,h2];have h3:(if (false=true) then 1 else 0:Nat)=0:=rfl;rw[h3];omega
structure Kah(L:Nat→List Nat)(n:Nat)(G:List Nat)(k:Nat)(D:List Nat)(left:Nat→Nat):Prop where
 nodup:G.Nodup
 lt:∀v,v∈G→v<n
 acc:∀v,v∈G→Acc (iQ L) v
 kl:k≤G.length
 cnt:∀v,v<n→left v+D.count v=cnt L (G.take k) v
 iff:∀v,v<n→(v∈G↔left v=0)
theorem Kah.start{L:Nat→List Nat}{n:Nat}{left:Nat→Nat}(hl:∀v,v<n→left v=(L v).length):Kah L n ((List.range n).filter fun v=>left v == 0) 0 [] left:=by
 refine⟨List.nodup_range.filter _,fun v hv=>?_,fun v hv=>?_,Nat.zero_le _,fun v hv=>?_,fun v hv=>?_⟩
 ·exact List.mem_range.1 (List.mem_filter.1 hv).1
 ·obtain⟨h1,h2⟩:=List.mem_filter.1 hv
  have h3:=hl v (List.mem_range.1 h1);have h4:left v=0:=by simpa using h2
  refine⟨v,fun y hy=>?_⟩;have:L v = []:=List.eq_nil_of_length_eq_zero (by omega);have hy':y∈L v:=hy;rw[this] at hy';cases hy'
 ·rw[List.take_zero,bF2,hl v hv];rfl
 ·rw[List.mem_filter,List.mem_range]
  simp[hv]
theorem Kah.tell{L:Nat→List Nat}{n:Nat}{G:List Nat}{k:Nat}{D R:List Nat}{left:Nat→Nat}(h:Kah L n G k D left)(hk:k<G.length){v:Nat}(hv:v<n)(hD:bU (jO L n) G[k]=D++v::R) :
 1≤left v∧∀left':Nat→Nat,(∀u,left' u=if u=v then left v-1 else left u)→(left v=1→Kah L n (G++[v]) k (D++[v]) left')∧(left v≠1→Kah L n G k (D++[v]) left'):=by
 have hg:G[k] ∉ G.take k:=by
  intro hm;obtain⟨i,hi,he⟩:=List.mem_iff_getElem.1 hm;rw[List.length_take] at hi;rw[List.getElem_take] at he;have:=(List.getElem_inj h.nodup (h₀:=by omega) (h₁:=hk)).1 he;omega
 have hcv:=h.cnt v hv;have hct:(L v).count G[k]=(D++v::R).count v:=by rw[←hD,mR,if_pos hv]
 rw[List.count_append,List.count_cons_self] at hct;have hcn:=aE2 L hg v;have h1:1≤left v:=by omega
 refine⟨h1,fun left' hleft=>?_⟩;have hcnt:∀u,u<n→left' u+(D++[v]).count u=Go.Proofs.Ytikmgiapjigghab.cnt L (G.take k) u:=fun u hu=>by
  have:=h.cnt u hu;rw[hleft u,List.count_append,List.count_cons,List.count_nil];by_cases e:u=v
  ·subst e;simp;omega
  ·have e2:(v == u)=false:=by simpa using fun h=>e h.symm
   rw[if_neg e,e2];have h3:(if (false=true) then 1 else 0:Nat)=0:=rfl;rw[h3];omega
 have hvG:v ∉ G:=fun hm=>by have:=(h.iff v hv).1 hm;omega
 refine⟨fun he=>?_,fun he=>⟨h.nodup,h.lt,h.acc,h.kl,hcnt,fun u hu=>?_⟩⟩
 ·have hacc:Acc (iQ L) v:=⟨v,fun y hy=>by
   have hy':y∈L v:=hy;by_cases hm:y∈G.take k
   ·exact h.acc y (List.mem_of_mem_take hm)
   ·have hs:=aK2 (p:=fun j=>!((G.take k).contains j)) (q:=fun j=>j == G[k]) (L v) (fun j hj hq=>by
     have:j=G[k]:=by simpa using hq
     subst this;simpa using hg)
    have hy2:=hs.2 (by
     have e1:(L v).countP (fun j=>!((G.take k).contains j))=Go.Proofs.Ytikmgiapjigghab.cnt L (G.take k) v:=rfl;have e2:(L v).countP (fun j=>j == G[k])=(L v).count G[k]:=rfl;rw[e1,e2];omega) y hy' (by simpa using hm)
    have:y=G[k]:=by simpa using hy2
    rw[this];exact h.acc _ (List.getElem_mem hk)⟩
  refine⟨?_,fun u hu=>?_,fun u hu=>?_,by rw[List.length_append];have:=h.kl;omega,fun u hu=>?_,fun u hu=>?_⟩
  ·rw[List.nodup_append]
   exact⟨h.nodup,by simp,fun a ha b hb=>by rw[List.mem_singleton] at hb;subst hb;exact fun e=>hvG (e ▸ ha)⟩
  ·rcases List.mem_append.1 hu with h2|h2
   ·exact h.lt u h2
   ·rw[List.mem_singleton] at h2;subst h2;exact hv
  ·rcases List.mem_append.1 hu with h2|h2
   ·exact h.acc u h2
   ·rw[List.mem_singleton] at h2;subst h2;exact hacc
  ·rw[List.take_append_of_le_length h.kl];exact hcnt u hu
  ·rw[hleft u,List.mem_append,List.mem_singleton]
   by_cases e:u=v
   ·subst e;simp;omega
   ·rw[if_neg e];simp[e,h.iff u hu]
 ·rw[hleft u]
  by_cases e:u=v
  ·subst e;rw[if_pos rfl,h.iff u hu];constructor <;> intro h2 <;> omega
  ·rw[if_neg e];exact h.iff u hu
theorem Kah.gone{L:Nat→List Nat}{n:Nat}{G:List Nat}{k:Nat}{D:List Nat}{left:Nat→Nat}(h:Kah L n G k D left)(hk:k<G.length)(hD:bU (jO L n) G[k]=D):Kah L n G (k+1) [] left:=by
 have hg:G[k] ∉ G.take k:=by
  intro hm;obtain⟨i,hi,he⟩:=List.mem_iff_getElem.1 hm;rw[List.length_take] at hi;rw[List.getElem_take] at he;have:=(List.getElem_inj h.nodup (h₀:=by omega) (h₁:=hk)).1 he;omega
 refine⟨h.nodup,h.lt,h.acc,hk,fun v hv=>?_,h.iff⟩;have h1:=h.cnt v hv;have h2:=aE2 L hg v;have h3:D.count v=(L v).count G[k]:=by rw[←hD,mR,if_pos hv]
 rw[List.take_succ_eq_append_getElem hk,List.count_nil];omega
theorem Kah.done{L:Nat→List Nat}{n:Nat}{G:List Nat}{k:Nat}{left:Nat→Nat}(h:Kah L n G k [] left)(hk:G.length≤k)(hL:∀i,i<n→∀j,j∈L i→j<n):(G.length=n↔∀v,v<n→Acc (iQ L) v):=by
 obtain⟨h1,h2⟩:=jH n G h.nodup h.lt;refine⟨fun he v hv=>h.acc v (h2 he v hv),fun ha=>?_⟩;have hall:∀v,Acc (iQ L) v→v<n→v∈G:=by
  intro v hacc
  induction hacc with
  | intro v _ ih =>
   intro hv;have h3:=h.cnt v hv;rw[List.take_of_length_le hk,List.count_nil] at h3;refine(h.iff v hv).2 ?_;have:Go.Proofs.Ytikmgiapjigghab.cnt L G v=0:=by
    unfold Go.Proofs.Ytikmgiapjigghab.cnt;rw[List.countP_eq_zero];intro j hj;have:=ih j hj (hL v hv j hj);simpa using this
   omega
 have h4:∀m:Nat,m≤n→(List.range m).length≤G.length:=by
  intro m hm;have:∀(l:List Nat),l.Nodup→(∀x,x∈l→x∈G)→l.length≤G.length:=by
   intro l;generalize G=K
   induction l generalizing K with
   | nil=>intro _ _;exact Nat.zero_le _
   | cons a l ihl =>
    intro hd hs;rw[List.nodup_cons] at hd;have hin:=hs a List.mem_cons_self;have:=ihl (K.erase a) hd.2 (fun x hx=>by
     have hne:x≠a:=fun e=>hd.1 (e ▸ hx)
     exact(List.mem_erase_of_ne hne).2 (hs x (List.mem_cons_of_mem _ hx)))
    rw[List.length_erase_of_mem hin] at this;have:=List.length_pos_of_mem hin;rw[List.length_cons];omega
  exact this _ List.nodup_range (fun x hx=>hall x (ha x (by have:=List.mem_range.1 hx;omega)) (by have:=List.mem_range.1 hx;omega))
 have:=h4 n (nR _);rw[List.length_range] at this;omega
end Go.Proofs.Ytikmgiapjigghab
