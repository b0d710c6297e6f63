/- A machine's data, and how they stand in memory. -/
import Derived.Lib.SliceRun
import Derived.Test.YtikmgiapjigghabQc03
import Derived.Test.YtikmgiapjigghabQc13
import Derived.Test.YtikmgiapjigghabQc16
import Derived.Test.YtikmgiapjigghabQc17
import Derived.Test.YtikmgiapjigghabQc19
set_option maxRecDepth 100000
set_option maxHeartbeats 8000000
namespace Go.Proofs.Ytikmgiapjigghab
open Go.RowKit
structure Gl where
 at':Int
 cut:Int
 next:Int
structure Chi where
 goal:Int
 clause:Int
 heap:Int
 trail:Int
 goals:Int
structure Mac where
 H:List HC
 G:List Gl
 first:Int
 ch:List Chi
 T:List Int
 Q:List Int
 steps:Int
 fin:Int
 ans:List (List Tm)
def cE:List Gl→List Value
 | []=>[]
 | g::r=>.int .i64 g.at'::.int .i64 g.cut::.int .i64 g.next::cE r
def cW:List Chi→List Value
 | []=>[]
 | c::r=>.int .i64 c.goal::.int .i64 c.clause::.int .i64 c.heap::.int .i64 c.trail::.int .i64 c.goals::cW r
theorem zO(l r:List Gl):cE (l++r)=cE l++cE r:=by
 induction l with
 | nil=>rfl
 | cons x l ih=>simp only[List.cons_append,cE,ih]
theorem zP(l r:List Chi):cW (l++r)=cW l++cW r:=by
 induction l with
 | nil=>rfl
 | cons x l ih=>simp only[List.cons_append,cW,ih]
theorem dN(l:List Gl):(cE l).length=l.length*3:=by
 induction l with
 | nil=>rfl
 | cons x l ih=>simp only[cE,List.length_cons,ih];omega
theorem eQ(l:List Chi):(cW l).length=l.length*5:=by
 induction l with
 | nil=>rfl
 | cons x l ih=>simp only[cW,List.length_cons,ih];omega
theorem xO(l:List Gl):∀u∈cE l,u.oneCell'=true:=by
 induction l with
 | nil=>intro u hu;cases hu
 | cons x l ih =>
  intro u hu;simp only[cE,List.mem_cons] at hu;rcases hu with rfl|rfl|rfl|hu
  ·rfl
  ·rfl
  ·rfl
  ·exact ih u hu
theorem xP(l:List Chi):∀u∈cW l,u.oneCell'=true:=by
 induction l with
 | nil=>intro u hu;cases hu
 | cons x l ih =>
  intro u hu;simp only[cW,List.mem_cons] at hu;rcases hu with rfl|rfl|rfl|rfl|rfl|hu
  ·rfl
  ·rfl
  ·rfl
  ·rfl
  ·rfl
  ·exact ih u hu
theorem fU(l:List Gl)(i:Nat)(h:i<l.length):(cE l)[i*3]? = some (.int .i64 l[i].at')∧(cE l)[i*3+1]? = some (.int .i64 l[i].cut)∧(cE l)[i*3+2]? = some (.int .i64 l[i].next):=by
 induction l generalizing i with
 | nil=>cases h
 | cons x l ih =>
  cases i with
  | zero=>exact⟨rfl,rfl,rfl⟩
  | succ i =>
   have:=ih i (by simpa using h);rw[show (i+1)*3=i*3+1+1+1 by omega];exact this
theorem jJ(l:List Chi)(i:Nat)(h:i<l.length):(cW l)[i*5]? = some (.int .i64 l[i].goal)∧(cW l)[i*5+1]? = some (.int .i64 l[i].clause)∧(cW l)[i*5+2]? = some (.int .i64 l[i].heap)∧(cW l)[i*5+3]? = some (.int .i64 l[i].trail)∧(cW l)[i*5+4]? = some (.int .i64 l[i].goals):=by
 induction l generalizing i with
 | nil=>cases h
 | cons x l ih =>
  cases i with
  | zero=>exact⟨rfl,rfl,rfl,rfl,rfl⟩
  | succ i =>
   have:=ih i (by simpa using h);rw[show (i+1)*5=i*5+1+1+1+1+1 by omega];exact this
theorem uP(l:List Gl)(k:Nat):cE (l.take k)=(cE l).take (k*3):=by
 induction l generalizing k with
 | nil=>simp[cE]
 | cons x l ih =>
  cases k with
  | zero=>simp[cE]
  | succ k=>rw[show (k+1)*3=k*3+1+1+1 by omega,List.take_succ_cons];simp only[cE,List.take_succ_cons,ih]
theorem uQ(l:List Chi)(k:Nat):cW (l.take k)=(cW l).take (k*5):=by
 induction l generalizing k with
 | nil=>simp[cW]
 | cons x l ih =>
  cases k with
  | zero=>simp[cW]
  | succ k=>rw[show (k+1)*5=k*5+1+1+1+1+1 by omega,List.take_succ_cons];simp only[cW,List.take_succ_cons,ih]
structure cZ(w:World)(ok:Nat→Prop)(k n:Nat)(vs:List Value)(a:Option Addr)(cap:Nat):Prop where
 cap:n≤cap∧cap≤maxLen∧(a=none→cap=0)
 len:vs.length=n*k
 at':∀j (u:Value),vs[j]? = some u→∃b off,a=some ⟨b,off,none⟩∧ok b∧b<w.heap.size∧w.cell? ⟨b,off+j,none⟩=some u
section
variable {w w':World} {ok ok':Nat→Prop} {k n:Nat} {vs:List Value} {a:Option Addr} {cap:Nat}
theorem cZ.keep(h:cZ w ok k n vs a cap)(hk:aD ok w w'):cZ w' ok k n vs a cap :=
 ⟨h.cap,h.len,fun j u hu=>by
  obtain⟨b,off,h1,h2,h3,h4⟩:=h.at' j u hu;exact⟨b,off,h1,h2,nT h3 hk.size,(hk.cell (p:=⟨b,_,none⟩) h2 h3).trans h4⟩⟩
theorem cZ.mono(hm:∀b,b<w.heap.size→ok b→ok' b)(h:cZ w ok k n vs a cap):cZ w ok' k n vs a cap :=
 ⟨h.cap,h.len,fun j u hu=>by
  obtain⟨b,off,h1,h2,h3,h4⟩:=h.at' j u hu;exact⟨b,off,h1,hm b h3 h2,h3,h4⟩⟩
theorem cZ.below(h:cZ w ok k n vs a cap)(hb:Below w.heap.size w w'):cZ w' ok k n vs a cap:=h.keep (aD.below hb ok)
theorem cZ.nil(w:World)(ok:Nat→Prop)(k:Nat):cZ w ok k 0 [] none 0:=⟨⟨nR _,Nat.zero_le _,fun _=>rfl⟩,by simp,fun j u hu=>by cases hu⟩
theorem cZ.news{ad:Addr}(h:cZ w ok k n vs (some ad) cap):∀j u,vs[j]? = some u→w.cell? (ad.add j)=some u:=fun j u hu=>by
 obtain⟨b,off,h1,h2,h3,h4⟩:=h.at' j u hu;cases h1;rw[fY];exact h4
theorem cZ.none(h:cZ w ok k n vs Option.none cap):n=0∧vs = []∧cap=0:=by
 have h1:=h.cap.2.2 rfl;have h2:n=0:=by have:=h.cap.1;omega
 exact⟨h2,List.eq_nil_of_length_eq_zero (by rw[h.len,h2,Nat.zero_mul]),h1⟩
theorem cZ.some(h:cZ w ok k n vs a cap)(hk:0<k)(hn:0<n):∃b off,a=Option.some ⟨b,off,Option.none⟩∧ok b∧b<w.heap.size∧∀j u,vs[j]? = Option.some u→w.cell? ⟨b,off+j,Option.none⟩=Option.some u:=by
 have hl:0<vs.length:=by rw[h.len];exact Nat.mul_pos hn hk
 obtain⟨b,off,h1,h2,h3,_⟩:=h.at' 0 vs[0] (List.getElem?_eq_getElem hl);refine⟨b,off,h1,h2,h3,fun j u hu=>?_⟩;obtain⟨b',off',e1,_,_,e4⟩:=h.at' j u hu;rw[h1] at e1;cases e1;exact e4
theorem cZ.of_row{base:Nat}{e:TypeId}{v:Value}(h:w.ownsRow base e k v n vs)(hl:vs.length=n*k)(hok:∀b,v.ownBlock=Option.some b→ok b):∃a cap,v=.slice a n cap∧cZ w ok k n vs a cap:=by
 rcases h.2 with ⟨rfl,hn⟩|⟨g,cap,cur,rfl,hb,hg,hcap,hml,hsz,htk⟩
 ·subst hn
  have:vs = []:=List.eq_nil_of_length_eq_zero (by rw[hl,Nat.zero_mul]);subst this;exact⟨Option.none,0,rfl,cZ.nil _ _ _⟩
 ·refine⟨_,cap,rfl,⟨hcap,hml,fun e=>nomatch e⟩,hl,fun j u hu=>?_⟩
  have hlt:g<w.heap.size:=(h.lt g rfl).2;have:=h.cells (g:=g) rfl j u hu;rw[fY,Nat.zero_add] at this;exact⟨g,0,rfl,hok g rfl,hlt,by rw[Nat.zero_add];exact this⟩
end
structure MAd where
 h:Option Addr
 g:Option Addr
 c:Option Addr
 t:Option Addr
 q:Option Addr
 a:Option Addr
 hn:Nat
 gn:Nat
 cn:Nat
 tn:Nat
 qn:Nat
 an:Nat
def Mac.vals(m:Mac)(d:MAd):List Value :=
 [.slice d.h m.H.length d.hn,.slice d.g m.G.length d.gn,.int .i64 m.first,.slice d.c m.ch.length d.cn,.slice d.t m.T.length d.tn,.slice d.q m.Q.length d.qn,.int .i64 m.steps,.int .i64 m.fin,.slice d.a m.ans.length d.an]
structure bO(w:World)(ok:Nat→Prop)(m:Mac)(d:MAd):Prop where
 h:dV w ok m.H d.h d.hn
 g:cZ w ok 3 m.G.length (cE m.G) d.g d.gn
 c:cZ w ok 5 m.ch.length (cW m.ch) d.c d.cn
 t:dC w ok m.T d.t d.tn
 q:dC w ok m.Q d.q d.qn
 a:lF w ok m.ans d.a d.an
theorem bO.keep{w w':World}{ok:Nat→Prop}{m:Mac}{d:MAd}(h:bO w ok m d)(hk:aD ok w w'):bO w' ok m d :=
 ⟨h.h.keep hk,h.g.keep hk,h.c.keep hk,h.t.keep hk,h.q.keep hk,h.a.keep hk⟩
theorem bO.mono{w:World}{ok ok':Nat→Prop}{m:Mac}{d:MAd}(hm:∀b,b<w.heap.size→ok b→ok' b)(h:bO w ok m d):bO w ok' m d :=
 ⟨h.h.mono hm,h.g.mono hm,h.c.mono hm,h.t.mono hm,h.q.mono hm,h.a.mono hm⟩
structure cL(w:World)(b:Nat)(m:Mac)(d:MAd):Prop where
 blk:w.heap[b]? = some (.cells (m.vals d).toArray 30 (0,0))
theorem cL.lt{w:World}{b:Nat}{m:Mac}{d:MAd}(h:cL w b m d):b<w.heap.size:=(gS h.blk).1
theorem cL.keep{w w':World}{b:Nat}{m:Mac}{d:MAd}(h:cL w b m d)(hb:w'.heap[b]? = w.heap[b]?):cL w' b m d:=⟨hb.trans h.blk⟩
theorem cL.below{w w':World}{b:Nat}{m:Mac}{d:MAd}(h:cL w b m d)(hb:Below w.heap.size w w'):cL w' b m d:=h.keep (hb.block b h.lt)
theorem cL.made(w:World)(m:Mac)(d:MAd):cL (w.alloc (.cells (m.vals d).toArray 30)) w.heap.size m d:=⟨heap_alloc_new w _⟩
theorem cL.all{w:World}{b:Nat}{m:Mac}{d:MAd}(h:cL w b m d) :
 w.cell? ⟨b,0,none⟩=some (.slice d.h m.H.length d.hn)∧w.cell? ⟨b,1,none⟩=some (.slice d.g m.G.length d.gn)∧w.cell? ⟨b,2,none⟩=some (.int .i64 m.first)∧w.cell? ⟨b,3,none⟩=some (.slice d.c m.ch.length d.cn)∧w.cell? ⟨b,4,none⟩=some (.slice d.t m.T.length d.tn) ∧
 w.cell? ⟨b,5,none⟩=some (.slice d.q m.Q.length d.qn)∧w.cell? ⟨b,6,none⟩=some (.int .i64 m.steps)∧w.cell? ⟨b,7,none⟩=some (.int .i64 m.fin)∧w.cell? ⟨b,8,none⟩=some (.slice d.a m.ans.length d.an)∧∀o,w.frozen? ⟨b,o,none⟩=false:=by
 have h':=h.blk;exact⟨by simp[World.cell?,h',Mac.vals],by simp[World.cell?,h',Mac.vals],by simp[World.cell?,h',Mac.vals],by simp[World.cell?,h',Mac.vals],by simp[World.cell?,h',Mac.vals],by simp[World.cell?,h',Mac.vals],by simp[World.cell?,h',Mac.vals],by simp[World.cell?,h',Mac.vals],by simp[World.cell?,h',Mac.vals],fun o=>by simp[World.frozen?,h']⟩
def InH(n:Nat)(x:Int):Prop:=0≤x∧x<(n:Int)
instance (n:Nat) (x:Int):Decidable (InH n x):=inferInstanceAs (Decidable (_∧_))
def kP(H:List HC)(i:Nat):Prop:=((hc H i).k=1→InH H.length (hc H i).n)∧((hc H i).k=2→(i:Int)+(hc H i).n<(H.length:Int))
structure aO5(H:List HC)(G:List Gl)(T Q:List Int):Prop where
 cells:∀i,i<H.length→kP H i
 goals:∀g,g∈G→InH H.length g.at'
 trail:∀x,x∈T→InH H.length x
 query:∀x,x∈Q→InH H.length x
noncomputable def pd(p:Prop):Bool:=@decide p (Classical.propDecidable p)
theorem cK{p:Prop}(h:p):pd p=true:=@decide_eq_true p (Classical.propDecidable p) h
theorem bJ{p:Prop}(h:¬p):pd p=false:=@decide_eq_false p (Classical.propDecidable p) h
noncomputable def dW(m:Mac):Bool:=pd (aO5 m.H m.G m.T m.Q)
def dM(top:Int):List Int→List HC→List HC
 | [],H=>H
 | x::r,H=>dM top r (if x<top then H.set x.toNat ⟨1,x,⟨#[]⟩⟩ else H)
theorem dH(top:Int):∀(l:List Int) (H:List HC),(dM top l H).length=H.length:=by
 intro l
 induction l with
 | nil=>intro H;rfl
 | cons x r ih=>intro H;simp only[dM];rw[ih];split <;> simp
def cY(m:Mac)(c:Chi):Mac:={m with H:=(dM c.heap (m.T.drop c.trail.toNat) m.H).take c.heap.toNat,T:=m.T.take c.trail.toNat,G:=m.G.take c.goals.toNat}
def eP:List Chi→Mac→Prop
 | [],_=>True
 | c::r,m=>aO5 (cY m c).H (cY m c).G (cY m c).T (cY m c).Q∧eP r (cY m c)
structure fJ(np ng nh nt:Nat)(was c:Chi):Prop where
 goal:1≤c.goal∧c.goal≤(ng:Int)
 clause:0≤c.clause∧c.clause≤(np:Int)
 heap:was.heap≤c.heap∧c.heap≤(nh:Int)
 trail:was.trail≤c.trail∧c.trail≤(nt:Int)
 goals:was.goals≤c.goals∧c.goals≤(ng:Int)
 own:c.goal≤c.goals
def cC(np ng nh nt:Nat):Chi→List Chi→Prop
 | _,[]=>True
 | was,c::r=>fJ np ng nh nt was c∧cC np ng nh nt c r
def aT:Chi:=⟨0,0,0,0,0⟩
def jX(G:List Gl):Prop:=∀i (h:i<G.length),0≤G[i].next∧G[i].next≤(i:Int)∧0≤G[i].cut
def jY(m:Mac):Prop:=(0≤m.steps∧m.steps≤400)∧0≤m.fin∧m.fin≤4
noncomputable def aM(p:List Cl)(m:Mac):Nat :=
 if aY p≠0 then aY p else if cH m.H≠0 then cH m.H
 else if 5000<m.G.length∨12<m.Q.length then 2
 else if dW m=false then 5
 else if pd (jX m.G)=false then 4
 else if ¬(0≤m.first∧m.first≤(m.G.length:Int)) then 4
 else if pd (cC p.length m.G.length m.H.length m.T.length aT m.ch)=false then 4
 else if pd (eP m.ch.reverse m)=false then 4
 else if pd (jY m)=false then 3 else 0
inductive gK(H:List HC)(R:Nat→Prop):Nat→Prop
 | root {i:Nat}:R i→gK H R i
 | lead {i j:Nat}:gK H R i→j∈leads H i→gK H R j
def bX(G:List Gl)(Q:List Int)(i:Nat):Prop:=(i:Int)∈Q∨∃g,g∈G∧g.at'=(i:Int)
noncomputable def dU(H:List HC)(R:Nat→Prop):List Bool:=(List.range H.length).map fun i=>pd (gK H R i)
theorem kD(H:List HC)(R:Nat→Prop):(dU H R).length=H.length:=by simp[dU]
theorem aV3{H:List HC}{R:Nat→Prop}{i:Nat}(h:i<H.length):(dU H R)[i]? = some (pd (gK H R i)):=by
 unfold dU;rw[List.getElem?_map,List.getElem?_range h];rfl
def eU(s:List Bool×List Nat)(x:Nat):List Bool×List Nat:=if s.1[x]? = some true then s else (s.1.set x true,s.2++[x])
structure LvI(H:List HC)(R:Nat→Prop)(s:List Bool×List Nat):Prop where
 len:s.1.length=H.length
 sound:∀i,s.1[i]? = some true→gK H R i
 left:∀i,i∈s.2→i<H.length∧s.1[i]? = some true
theorem lI{s:List Bool×List Nat}{x:Nat}(hx:x<s.1.length):(∀i:Nat,s.1[i]? = some true→(eU s x).1[i]? = some true)∧(eU s x).1[x]? = some true∧(∀i,i∈s.2→i∈(eU s x).2)∧(∀i:Nat,(eU s x).1[i]? = some true→s.1[i]? = some true∨(i=x∧x∈(eU s x).2))∧(eU s x).1.length=s.1.length:=by
 unfold eU;by_cases h:s.1[x]? = some true
 ·rw[if_pos h]
  exact⟨fun i h=>h,h,fun i h=>h,fun i h=>.inl h,rfl⟩
 ·rw[if_neg h]
  refine⟨fun i hi=>?_,?_,fun i hi=>List.mem_append_left _ hi,fun i hi=>?_,by simp⟩
  ·simp only
   rw[List.getElem?_set];by_cases e:x=i
   ·rw[if_pos e,if_pos hx]
   ·rw[if_neg e];exact hi
  ·simp only
   rw[List.getElem?_set,if_pos rfl,if_pos hx]
  ·simp only at hi ⊢
   rw[List.getElem?_set] at hi;by_cases e:x=i
   ·exact .inr ⟨e.symm,by simp⟩
   ·rw[if_neg e] at hi;exact .inl hi
theorem LvI.need{H:List HC}{R:Nat→Prop}{s:List Bool×List Nat}(h:LvI H R s){x:Nat}(hx:x<H.length)(hl:gK H R x):LvI H R (eU s x):=by
 have hx':x<s.1.length:=by rw[h.len];exact hx
 obtain⟨m1,m2,m3,m4,m5⟩:=lI (s:=s) hx';refine⟨m5.trans h.len,fun i hi=>?_,fun i hi=>?_⟩
 ·rcases m4 i hi with e|⟨rfl,-⟩
  ·exact h.sound i e
  ·exact hl
 ·by_cases hs:s.1[x]? = some true
  ·have:eU s x=s:=by unfold eU;rw[if_pos hs]
   rw[this] at hi ⊢;exact h.left i hi
  ·have e:(eU s x).2=s.2++[x]:=by unfold eU;rw[if_neg hs]
   rw[e] at hi;rcases List.mem_append.1 hi with hi|hi
   ·exact⟨(h.left i hi).1,m1 i (h.left i hi).2⟩
   ·rw[List.mem_singleton] at hi;subst hi;exact⟨hx,m2⟩
def LvC(H:List HC)(s:List Bool×List Nat)(ex:Nat→Prop):Prop:=∀i,s.1[i]? = some true→i∈s.2∨ex i∨∀j,j∈leads H i→s.1[j]? = some true
theorem LvC.need{H:List HC}{s:List Bool×List Nat}{ex:Nat→Prop}(h:LvC H s ex){x:Nat}(hx:x<s.1.length):LvC H (eU s x) ex:=by
 obtain⟨m1,m2,m3,m4,m5⟩:=lI (s:=s) hx;intro i hi;rcases m4 i hi with e|⟨rfl,e⟩
 ·rcases h i e with e|e|e
  ·exact .inl (m3 i e)
  ·exact .inr (.inl e)
  ·exact .inr (.inr fun j hj=>m1 j (e j hj))
 ·exact .inl e
def lvM(s:List Bool×List Nat):Nat:=2*s.1.countP (· = false)+s.2.length
theorem tM{l:List Bool}{x:Nat}(hx:x<l.length)(h:l[x]?≠some true):(l.set x true).countP (· = false)+1=l.countP (· = false):=by
 induction l generalizing x with
 | nil=>cases hx
 | cons a l ih =>
  cases x with
  | zero =>
   have ha:a=false:=by cases a with
    | false=>rfl
    | true=>exact absurd rfl h
   subst ha;simp
  | succ x =>
   have:=ih (x:=x) (by simpa using hx) (by simpa using h);simp only[List.set_cons_succ,List.countP_cons];omega
theorem aV4{s:List Bool×List Nat}{x:Nat}(hx:x<s.1.length):lvM (eU s x)≤lvM s:=by
 unfold eU;by_cases h:s.1[x]? = some true
 ·rw[if_pos h];exact nR _
 ·rw[if_neg h]
  unfold lvM;have:=tM hx h;simp only[List.length_append,List.length_singleton];omega
theorem aB2{H:List HC}{R:Nat→Prop}{s:List Bool×List Nat}(h:LvI H R s)(hc:LvC H s fun _=>False)(hr:∀i,R i→s.1[i]? = some true)(hl:s.2 = []):s.1=dU H R:=by
 have key:∀i,gK H R i→s.1[i]? = some true:=fun i hi=>by
  induction hi with
  | root hi=>exact hr _ hi
  | lead _ hj ih =>
   rcases hc _ ih with e|e|e
   ·rw[hl] at e;cases e
   ·exact e.elim
   ·exact e _ hj
 refine List.ext_getElem? fun i=>?_
 by_cases hi:i<H.length
 ·rw[aV3 hi]
  have hi':i<s.1.length:=by rw[h.len];exact hi
  by_cases hv:gK H R i
  ·rw[cK hv];exact key i hv
  ·rw[bJ hv,List.getElem?_eq_getElem hi']
   cases e:s.1[i] with
   | false=>rfl
   | true=>exact absurd (h.sound i (by rw[List.getElem?_eq_getElem hi',e])) hv
 ·rw[List.getElem?_eq_none (by rw[h.len];omega),List.getElem?_eq_none (by rw[kD];omega)]
def aO(l:List Bool)(k:Nat):Nat:=(l.take k).countP (· = true)
theorem oN{l:List Bool}{k:Nat}(h:k<l.length):aO l (k+1)=aO l k+if l[k]=true then 1 else 0:=by
 unfold aO;rw[List.take_succ_eq_append_getElem h,List.countP_append];congr 1;cases l[k] <;> rfl
theorem oO(l:List Bool):aO l 0=0:=by simp[aO]
theorem pP(l:List Bool)(k:Nat):aO l k≤k:=by
 unfold aO;exact Nat.le_trans List.countP_le_length (by rw[List.length_take];omega)
def aN{α β:Type}(f:α→β):List Bool→List α→List β
 | b::s,a::l=>if b then f a::aN f s l else aN f s l
 | _,_=>[]
def bM(stay:List Bool):List Int→List Int
 | []=>[]
 | x::r=>if stay.getD x.toNat false then (aO stay x.toNat:Int)::bM stay r else bM stay r
def dD(stay:List Bool)(m:Mac):Mac :=
 {m with
  H:=aN (fun c:HC=>if c.k=1 then {c with n:=(aO stay c.n.toNat:Int)} else c) stay m.H
  G:=m.G.map fun g=>{g with at':=(aO stay g.at'.toNat:Int)}
  Q:=m.Q.map fun x=>(aO stay x.toNat:Int)
  T:=bM stay m.T
  ch:=m.ch.map fun c=>{c with heap:=(aO stay c.heap.toNat:Int),trail:=((bM stay (m.T.take c.trail.toNat)).length:Int)}}
def cP{α:Type}(f:α→α)(k:Nat)(l:List α):List α:=(l.take k).map f++l.drop k
theorem fS{α:Type}(f:α→α)(l:List α):cP f 0 l=l:=by simp[cP]
theorem gP{α:Type}(f:α→α)(l:List α):cP f l.length l=l.map f:=by simp[cP]
theorem bN{α:Type}(f:α→α)(k:Nat)(l:List α):(cP f k l).length=l.length:=by simp[cP];omega
theorem gZ{α:Type}(f:α→α){k:Nat}{l:List α}(h:k<l.length):(cP f k l)[k]'(by rw[bN];exact h)=l[k]:=by
 have:(cP f k l)[k]? = some l[k]:=by
  unfold cP;rw[List.getElem?_append_right (by simp;omega),List.length_map,List.length_take,Nat.min_eq_left (Nat.le_of_lt h),Nat.sub_self,List.getElem?_drop,Nat.add_zero,List.getElem?_eq_getElem h]
 rw[List.getElem?_eq_getElem (by rw[bN];exact h)] at this;exact Option.some.inj this
theorem eZ{α:Type}(f:α→α){k:Nat}{l:List α}(h:k<l.length):(cP f k l).set k (f l[k])=cP f (k+1) l:=by
 unfold cP;have hk:((l.take k).map f).length=k:=by simp;omega
 rw[List.set_append_right _ _ (by omega),hk,Nat.sub_self,List.drop_eq_getElem_cons h,List.set_cons_zero,List.take_succ_eq_append_getElem h,List.map_append,List.append_assoc];rfl
def bK(s:List Bool)(c:HC):HC:=if c.k=1 then {c with n:=(aO s c.n.toNat:Int)} else c
theorem mL{α β:Type}(f:α→β):∀(s:List Bool) (l:List α) (k:Nat) (hs:k<s.length) (hl:k<l.length),aN f (s.take (k+1)) (l.take (k+1))=aN f (s.take k) (l.take k)++if s[k]=true then [f l[k]] else []
 | [],_,_,hs,_=>absurd hs (Nat.not_lt_zero _)
 | _::_,[],_,_,hl=>absurd hl (Nat.not_lt_zero _)
 | b::s,a::l,0,_,_=>by cases b <;> simp[aN]
 | b::s,a::l,k+1,hs,hl=>by
  have ih:=mL f s l k (by simpa using hs) (by simpa using hl);cases b with
  | true=>simp only[List.take_succ_cons,aN,if_true,List.getElem_cons_succ,List.cons_append];rw[ih]
  | false=>simp only[List.take_succ_cons,aN,Bool.false_eq_true,if_false,List.getElem_cons_succ];rw[ih]
theorem iT{α β:Type}(f:α→β):∀(s:List Bool) (l:List α),s.length=l.length→(aN f s l).length=s.countP (· = true)
 | [],[],_=>rfl
 | [],_::_,h=>by cases h
 | _::_,[],h=>by cases h
 | b::s,a::l,h=>by
  have ih:=iT f s l (by simpa using h);cases b <;> simp[aN,ih]
theorem pQ(stay:List Bool):∀a b:List Int,bM stay (a++b)=bM stay a++bM stay b
 | [],_=>rfl
 | x::a,b=>by
  have ih:=pQ stay a b;simp only[List.cons_append,bM];by_cases h:stay.getD x.toNat false=true
  ·rw[if_pos h,if_pos h,ih];rfl
  ·rw[if_neg h,if_neg h,ih]
theorem oP(stay:List Bool){T:List Int}{k:Nat}(h:k<T.length):bM stay (T.take (k+1))=bM stay (T.take k)++if stay.getD T[k].toNat false=true then [(aO stay T[k].toNat:Int)] else []:=by
 rw[List.take_succ_eq_append_getElem h,pQ];congr 1
theorem dR(n lo hi:Int)(w:World) :
 Calls Try.prog 53 #[.int .i64 n,.int .i64 lo,.int .i64 hi] w fun e w'=>e=.returned (.bool (bY n lo hi))∧w=w':=by
 go_enter Try.func53,Try.ntmps53;go_wp2_with fail
 all_goals
  go_ret;refine⟨aH6 n lo hi _ ?_,rfl⟩;simp <;> omega
theorem qR(n:Nat)(x:Int):bY x 0 ((n:Int)-1)=decide (InH n x):=by
 unfold bY InH;exact decide_eq_decide.2 (by omega)
theorem NoW(B n cap:Nat)(a:Option Addr)(x:Int)(w:World)(h:w.cell? ⟨B,0,none⟩=some (.slice a n cap))(hn:n≤9223372036854775807) :
 Calls Try.prog 79 #[.int .i64 x,.pointer (some ⟨B,0,none⟩)] w fun e w'=>e=.returned (.bool (!decide (InH n x)))∧w'=w:=by
 have hb:=qR n x;go_enter Try.func79,Try.ntmps79;go_wp2_with (go_at_call 53;refine(dR _ _ _ _).mono ?_;rintro e w1 ⟨rfl,rfl⟩);go_ret;refine⟨?_,rfl⟩;rw[←hb];rfl
structure zS(w:World)(B B3 n cap:Nat)(a:Option Addr):Prop where
 mac:w.cell? ⟨B,0,none⟩=some (.slice a n cap)
 fn:w.cell? ⟨B3,0,none⟩=some (.func (.func 79) #[] #[.pointer (some ⟨B,0,none⟩)])
 lt:B<w.heap.size∧B3<w.heap.size
theorem zS.below{w w':World}{B B3 n cap:Nat}{a:Option Addr}(h:zS w B B3 n cap a)(hb:Below w.heap.size w w'):zS w' B B3 n cap a :=
 ⟨(hb.cell (p:=⟨B,0,none⟩) h.lt.1).trans h.mac,(hb.cell (p:=⟨B3,0,none⟩) h.lt.2).trans h.fn,nT h.lt.1 hb.size,nT h.lt.2 hb.size⟩
theorem bQ7{B B3 n cap:Nat}{a:Option Addr}(g:Gl){w:World}(h:zS w B B3 n cap a)(hn:n≤9223372036854775807) :
 Calls Try.prog 81 #[.agg #[.int .i64 g.at',.int .i64 g.cut,.int .i64 g.next],.pointer (some ⟨B3,0,none⟩)] w fun e w'=>e=.returned (.bool (!decide (InH n g.at')))∧Below w.heap.size w w':=by
 have hB:Below w.heap.size w (w.alloc (.cells #[.int .i64 g.at',.int .i64 g.cut,.int .i64 g.next] 65)):=(bR _ _).alloc (nR _) _;have H2:=lh (h.below hB);have HB:=lh hB;obtain⟨m0,f0,-⟩:=h.below hB;clear h hB;go_enter Try.func81,Try.ntmps81;go_wp2_with (go_at_call 79;refine(NoW B n cap a _ _ H2.out.mac hn).mono ?_;rintro e w1 ⟨rfl,rfl⟩);go_ret;exact⟨rfl,HB.out⟩
theorem aL3{B B3 n cap:Nat}{a:Option Addr}(l:List Int){w:World}{ok:Nat→Prop}{a2:Option Addr}{c2:Nat}(hl:dC w ok l a2 c2)(h:zS w B B3 n cap a)(hn:n≤9223372036854775807) :
 Calls Try.prog 109 #[.slice a2 l.length c2,.func (.func 79) #[] #[.pointer (some ⟨B,0,none⟩)]] w fun e w'=>(∃r:Int,e=.returned (.int .i64 r)∧((r = -1∧∀x,x∈l→InH n x)∨(0≤r∧∃x,x∈l∧¬InH n x)))∧w'=w:=by
 have HL:=lh hl;have HN:=lh h;have hcl:l.length≤9223372036854775807:=by have:=hl.cap;unfold maxLen at this;omega
 clear hl h;go_enter Try.func109,Try.ntmps109;go_wp2_with fail
 go_loopw[8] (fun x8 wr=>∃i:Nat,i≤l.length∧x8=.int .i64 i∧wr=w∧Hid (∀j (hj:j<l.length),j<i→InH n l[j])) (fun x8 _=>l.length-(intOf x8).toNat)
 case atStart=>exact⟨0,Nat.zero_le _,rfl,rfl,lh fun j _ h=>absurd h (Nat.not_lt_zero j)⟩
 case round =>
  obtain⟨i,hi,rfl,rfl,HI⟩:=hrel;by_cases hlt:i<l.length
  ·obtain⟨b,off,rfl,-,hb,hc⟩:=HL.out.at' i hlt
   by_cases hx:InH n l[i]
   ·have hd:(!decide (InH n l[i]))=false:=by rw[decide_eq_true hx];rfl
    have HI2:Hid (∀j (hj:j<l.length),j<i+1→InH n l[j]):=lh fun j hj h=>by
     by_cases e:j=i
     ·subst e;exact hx
     ·exact HI.out j hj (by omega)
    clear hx;go_wp2_with (go_at_call 79;refine(NoW B n cap a _ _ HN.out.mac hn).mono ?_;rintro e w1 ⟨rfl,rfl⟩);go_roundw
    case measure=>simp only[intOf];omega
    case rel=>exact⟨i+1,by omega,by go_num,by trivial,HI2⟩
   ·have hd:(!decide (InH n l[i]))=true:=by rw[decide_eq_false hx];rfl
    have HX:Hid (∃x,x∈l∧¬InH n x):=lh ⟨_,List.getElem_mem hlt,hx⟩;clear hx;go_wp2_with (go_at_call 79;refine(NoW B n cap a _ _ HN.out.mac hn).mono ?_;rintro e w1 ⟨rfl,rfl⟩);go_ret;exact⟨⟨_,rfl,.inr ⟨by omega,HX.out⟩⟩,rfl⟩
  ·have HX:Hid (∀x,x∈l→InH n x):=lh fun x hx=>by
    obtain⟨j,hj,rfl⟩:=List.getElem_of_mem hx;exact HI.out j hj (by omega)
   go_wp2_with fail;go_ret;exact⟨⟨_,rfl,.inl ⟨rfl,HX.out⟩⟩,rfl⟩
theorem aF8{B B3 n cap:Nat}{a:Option Addr}(l:List Int){w:World}{ok:Nat→Prop}{a2:Option Addr}{c2:Nat}(hl:dC w ok l a2 c2)(h:zS w B B3 n cap a)(hn:n≤9223372036854775807) :
 Calls Try.prog 82 #[.slice a2 l.length c2,.func (.func 79) #[] #[.pointer (some ⟨B,0,none⟩)]] w fun e w'=>e=.returned (.bool (!pd (∀x,x∈l→InH n x)))∧w'=w:=by
 have HI:=lh (aL3 l hl h hn);go_enter Try.func82,Try.ntmps82;go_wp2_with (go_at_call 109;refine HI.out.mono ?_;rintro e w1 ⟨⟨r,rfl,hr⟩,rfl⟩);go_ret;refine⟨?_,rfl⟩;rcases hr with ⟨rfl,h1⟩|⟨h0,x,hx,h1⟩
 ·rw[cK h1];rfl
 ·rw[bJ fun e=>h1 (e x hx)]
  refine congrArg (fun b=>Ending.returned (.bool b)) ?_;simpa using h0
theorem aF9{B B3 n cap:Nat}{a:Option Addr}(l:List Gl){w:World}{ok:Nat→Prop}{a2:Option Addr}{c2:Nat}(hl:cZ w ok 3 l.length (cE l) a2 c2)(h:zS w B B3 n cap a)(hn:n≤9223372036854775807) :
 Calls Try.prog 108 #[.slice a2 l.length c2,.func (.func 81) #[] #[.pointer (some ⟨B3,0,none⟩)]] w fun e w'=>(∃r:Int,e=.returned (.int .i64 r)∧((r = -1∧∀x,x∈l→InH n x.at')∨(0≤r∧∃x,x∈l∧¬InH n x.at')))∧Below w.heap.size w w':=by
 have HL:=lh hl;have HN:=lh h;have hcl:l.length≤9223372036854775807:=by have:=hl.cap;unfold maxLen at this;omega
 clear hl h;go_enter Try.func108,Try.ntmps108;go_wp2_with fail
 go_loopw[8] (fun x8 wr=>∃i:Nat,i≤l.length∧x8=.int .i64 i∧Hid (Below w.heap.size w wr)∧Hid (∀j (hj:j<l.length),j<i→InH n l[j].at')) (fun x8 _=>l.length-(intOf x8).toNat)
 case atStart=>exact⟨0,Nat.zero_le _,rfl,lh (bR _ _),lh fun j _ h=>absurd h (Nat.not_lt_zero j)⟩
 case round =>
  obtain⟨i,hi,rfl,HB,HI⟩:=hrel;by_cases hlt:i<l.length
  ·obtain⟨b,off,rfl,-,hb,hc⟩:=(HL.out.mono (ok':=fun _=>True) fun _ _ _=>trivial).some (by decide) (Nat.lt_of_le_of_lt (Nat.zero_le _) hlt)
   obtain⟨g0,g1,g2⟩:=fU l i hlt;have c0:=(HB.out.cell (p:=⟨b,off+i*3,none⟩) hb).trans (hc _ _ g0);have c1:wr.cell? ⟨b,off+i*3+1,none⟩=_:=(HB.out.cell (p:=⟨b,off+(i*3+1),none⟩) hb).trans (hc _ _ g1);have c2:wr.cell? ⟨b,off+i*3+2,none⟩=_:=(HB.out.cell (p:=⟨b,off+(i*3+2),none⟩) hb).trans (hc _ _ g2);have HC:=lh (bQ7 l[i] (HN.out.below HB.out) hn);clear g0 g1 g2 hc;by_cases hx:InH n l[i].at'
   ·rw[decide_eq_true hx] at HC
    have HI2:Hid (∀j (hj:j<l.length),j<i+1→InH n l[j].at'):=lh fun j hj h=>by
     by_cases e:j=i
     ·subst e;exact hx
     ·exact HI.out j hj (by omega)
    clear hx;go_wp2_with (go_at_call 81;refine HC.out.mono ?_;rintro e w1 ⟨rfl,hb1⟩;have HB1:=lh (HB.out.trans (hb1.mono HB.out.size));clear hb1);go_roundw
    case measure=>simp only[intOf];omega
    case rel=>exact⟨i+1,by omega,by go_num,HB1,HI2⟩
   ·rw[decide_eq_false hx] at HC
    have HX:Hid (∃x,x∈l∧¬InH n x.at'):=lh ⟨_,List.getElem_mem hlt,hx⟩;clear hx;go_wp2_with (go_at_call 81;refine HC.out.mono ?_;rintro e w1 ⟨rfl,hb1⟩;have HB1:=lh (HB.out.trans (hb1.mono HB.out.size));clear hb1);go_ret;exact⟨⟨_,rfl,.inr ⟨by omega,HX.out⟩⟩,HB1.out⟩
  ·have HX:Hid (∀x,x∈l→InH n x.at'):=lh fun x hx=>by
    obtain⟨j,hj,rfl⟩:=List.getElem_of_mem hx;exact HI.out j hj (by omega)
   go_wp2_with fail;go_ret;exact⟨⟨_,rfl,.inl ⟨rfl,HX.out⟩⟩,HB.out⟩
theorem aS1{B B3 n cap:Nat}{a:Option Addr}(l:List Gl){w:World}{ok:Nat→Prop}{a2:Option Addr}{c2:Nat}(hl:cZ w ok 3 l.length (cE l) a2 c2)(h:zS w B B3 n cap a)(hn:n≤9223372036854775807) :
 Calls Try.prog 80 #[.slice a2 l.length c2,.func (.func 81) #[] #[.pointer (some ⟨B3,0,none⟩)]] w fun e w'=>e=.returned (.bool (!pd (∀x,x∈l→InH n x.at')))∧Below w.heap.size w w':=by
 have HI:=lh (aF9 l hl h hn);go_enter Try.func80,Try.ntmps80;go_wp2_with (go_at_call 108;refine HI.out.mono ?_;rintro e w1 ⟨⟨r,rfl,hr⟩,hb1⟩;have HB1:=lh hb1;clear hb1);go_ret;refine⟨?_,HB1.out⟩;rcases hr with ⟨rfl,h1⟩|⟨h0,x,hx,h1⟩
 ·rw[cK h1];rfl
 ·rw[bJ fun e=>h1 (e x hx)]
  refine congrArg (fun b=>Ending.returned (.bool b)) ?_;simpa using h0
theorem mF{P:Program}{w:World}{a:Addr}{m:Mode}(f:Fn)(x y:Array Value):(store a (.func f x y) m).run P w=stored P w a (.func f x y) m:=run_store P w a _ m rfl
attribute [local go_sem] mF
def lC(H:List HC):Prop:=∀i,i<H.length→(hc H i).k=2→0≤(hc H i).n∧(hc H i).n≤4
theorem aA1(m:Mac)(d:MAd){w:World}{ok:Nat→Prop}(h:bO w ok m d)(hN:lC m.H)(hlen:m.H.length≤400000) :
 Calls Try.prog 51 #[.agg #[.slice d.h m.H.length d.hn,.slice d.g m.G.length d.gn,.int .i64 m.first,.slice d.c m.ch.length d.cn,.slice d.t m.T.length d.tn,.slice d.q m.Q.length d.qn,.int .i64 m.steps,.int .i64 m.fin,.slice d.a m.ans.length d.an]] w
  fun e w'=>e=.returned (.bool (dW m))∧Below w.heap.size w w':=by
 obtain⟨dh,dg,dc,dt,dq,da,dhn,dgn,dcn,dtn,dqn,dan⟩:=d;simp only;have HM:Hid (bO w (fun b=>b<w.heap.size) m ⟨dh,dg,dc,dt,dq,da,dhn,dgn,dcn,dtn,dqn,dan⟩):=lh (h.mono fun b hb _=>hb);have HNR:=lh hN;have hn9:m.H.length≤9223372036854775807:=by omega
 have B1:Below w.heap.size w (w.alloc (.cells (m.vals ⟨dh,dg,dc,dt,dq,da,dhn,dgn,dcn,dtn,dqn,dan⟩).toArray 30)):=(bR _ _).alloc (nR _) _;have hsz:(w.alloc (.cells (m.vals ⟨dh,dg,dc,dt,dq,da,dhn,dgn,dcn,dtn,dqn,dan⟩).toArray 30)).heap.size=w.heap.size+1:=by simp
 have HB2:Hid (Below w.heap.size w ((w.alloc (.cells (m.vals ⟨dh,dg,dc,dt,dq,da,dhn,dgn,dcn,dtn,dqn,dan⟩).toArray 30)).alloc (.cells #[.func (.func 79) #[] #[.pointer (some ⟨w.heap.size,0,none⟩)]] 123))):=lh (B1.alloc B1.size _);have HX:Hid (cL ((w.alloc (.cells (m.vals ⟨dh,dg,dc,dt,dq,da,dhn,dgn,dcn,dtn,dqn,dan⟩).toArray 30)).alloc (.cells #[.func (.func 79) #[] #[.pointer (some ⟨w.heap.size,0,none⟩)]] 123)) w.heap.size m ⟨dh,dg,dc,dt,dq,da,dhn,dgn,dcn,dtn,dqn,dan⟩):=lh ((cL.made w m ⟨dh,dg,dc,dt,dq,da,dhn,dgn,dcn,dtn,dqn,dan⟩).below ((bR _ _).alloc (nR _) _));have HF:Hid (((w.alloc (.cells (m.vals ⟨dh,dg,dc,dt,dq,da,dhn,dgn,dcn,dtn,dqn,dan⟩).toArray 30)).alloc (.cells #[.func (.func 79) #[] #[.pointer (some ⟨w.heap.size,0,none⟩)]] 123)).heap[w.heap.size+1]? = some (.cells #[.func (.func 79) #[] #[.pointer (some ⟨w.heap.size,0,none⟩)]] 123 (0,0))):=lh (by rw[←hsz];exact heap_alloc_new _ _);clear h hN B1 hsz;simp only[Mac.vals] at HX HF HB2;go_enter Try.func51,Try.ntmps51;go_wp2_with fail
 go_loopw[10] (fun x10 wr=>∃i:Nat,i≤m.H.length∧x10=.int .i64 i∧Hid (cL wr w.heap.size m ⟨dh,dg,dc,dt,dq,da,dhn,dgn,dcn,dtn,dqn,dan⟩)∧Hid (wr.heap[w.heap.size+1]? = some (.cells #[.func (.func 79) #[] #[.pointer (some ⟨w.heap.size,0,none⟩)]] 123 (0,0)))∧Hid (Below w.heap.size w wr)∧Hid (w.heap.size+2≤wr.heap.size)∧Hid (∀j,j<i→kP m.H j)) (fun x10 _=>m.H.length-(intOf x10).toNat)
 case atStart=>exact⟨0,Nat.zero_le _,rfl,HX,HF,HB2,lh (by simp),lh fun j h=>absurd h (Nat.not_lt_zero j)⟩
 case round =>
  obtain⟨i,hi,rfl,HX2,HF2,HB3,HS3,HI⟩:=hrel;have HN:Hid (zS wr w.heap.size (w.heap.size+1) m.H.length dhn dh):=lh ⟨HX2.out.all.1,by rw[Lib.cell_of_heap HF2.out];rfl,by have:=HS3.out;omega⟩;by_cases hlt:i<m.H.length
  ·obtain⟨b,off,hda,hokb,hb,c0,c1,c2,hf⟩:=HM.out.h.at' i hlt
   have hda':dh=some ⟨b,off,none⟩:=hda;clear hda;subst hda';have m0:=(HB3.out.cell (p:=⟨b,off+i*3,none⟩) hb).trans c0;have m1:=(HB3.out.cell (p:=⟨b,off+i*3+1,none⟩) hb).trans c1;have m2:=(HB3.out.cell (p:=⟨b,off+i*3+2,none⟩) hb).trans c2;obtain⟨x0,-⟩:=HX2.out.all;have f0:wr.cell? ⟨w.heap.size+1,0,none⟩=some (.func (.func 79) #[] #[.pointer (some ⟨w.heap.size,0,none⟩)]):=HN.out.fn;have z1:w.heap.size+1<wr.heap.size:=HN.out.lt.2;have z0:w.heap.size<wr.heap.size:=HN.out.lt.1;clear c0 c1 c2 hf hokb;have hcb:(m.H.length:Int)≤400000:=by omega
   have HNX:Hid (∀X,Calls Try.prog 79 #[.int .i64 (hc m.H i).n,.pointer (some ⟨w.heap.size,0,none⟩)] (wr.alloc X) fun e w'=>e=.returned (.bool (!decide (InH m.H.length (hc m.H i).n)))∧w'=wr.alloc X):=lh fun X =>
    NoW w.heap.size m.H.length dhn (some ⟨b,off,none⟩) (hc m.H i).n _ (HN.out.below ((bR _ _).alloc (nR _) X)).mac hn9
   have HNR2:=HNR.out i hlt;by_cases hk1:(hc m.H i).k=1
   ·have hk2:(hc m.H i).k≠2:=by omega
    rw[hk1] at m0;have BB:Hid (Below wr.heap.size wr (wr.alloc (.cells #[.int .i64 1,.int .i64 (hc m.H i).n,.string (hc m.H i).name] 69))):=lh ((bR _ _).alloc (nR _) _);by_cases hin:InH m.H.length (hc m.H i).n
    ·rw[decide_eq_true hin] at HNX
     have HI2:Hid (∀j,j<i+1→kP m.H j):=lh fun j hj=>by
      by_cases e:j=i
      ·subst e;exact⟨fun _=>hin,fun e=>absurd e hk2⟩
      ·exact HI.out j (by omega)
     clear hin hk1 hk2 HNR2;go_wp2_with (go_at_call 79;refine(HNX.out _).mono ?_;rintro e w1 ⟨rfl,rfl⟩);go_roundw
     case measure=>simp only[intOf];omega
     case rel=>exact⟨i+1,by omega,by go_num,lh (HX2.out.below BB.out),lh ((BB.out.block _ z1).trans HF2.out),lh (HB3.out.trans (BB.out.mono (Nat.le_of_lt z0))),lh (Nat.le_trans HS3.out BB.out.size),HI2⟩
    ·rw[decide_eq_false hin] at HNX
     have HT:Hid (dW m=false):=lh (bJ fun h=>hin ((h.cells i hlt).1 hk1));clear hin hk1 hk2 HNR2;go_wp2_with (go_at_call 79;refine(HNX.out _).mono ?_;rintro e w1 ⟨rfl,rfl⟩);go_ret;rw[HT.out];exact⟨rfl,HB3.out.trans (BB.out.mono (Nat.le_of_lt z0))⟩
   ·have hk1':((hc m.H i).k == 1)=false:=by simpa using hk1
    have BB:Hid (∀k,Below wr.heap.size wr (wr.alloc (.cells #[.int .i64 k,.int .i64 (hc m.H i).n,.string (hc m.H i).name] 69))):=lh fun k=>((bR _ _).alloc (nR _) _)
    by_cases hk2:(hc m.H i).k=2
    ·have BB:=lh (BB.out 2)
     obtain⟨n0,n4⟩:=HNR2 hk2;rw[hk2] at m0 hk1';by_cases hin:(i:Int)+(hc m.H i).n<(m.H.length:Int)
     ·have HI2:Hid (∀j,j<i+1→kP m.H j):=lh fun j hj=>by
       by_cases e:j=i
       ·subst e;exact⟨fun e=>absurd e hk1,fun _=>hin⟩
       ·exact HI.out j (by omega)
      clear hk1 hk2 HNR2;go_wp2_with fail;go_roundw
      case measure=>simp only[intOf];omega
      case rel=>exact⟨i+1,by omega,by go_num,lh (HX2.out.below BB.out),lh ((BB.out.block _ z1).trans HF2.out),lh (HB3.out.trans (BB.out.mono (Nat.le_of_lt z0))),lh (Nat.le_trans HS3.out BB.out.size),HI2⟩
     ·have HT:Hid (dW m=false):=lh (bJ fun h=>hin ((h.cells i hlt).2 hk2))
      clear hk1 hk2 HNR2;go_wp2_with fail;go_ret;rw[HT.out];exact⟨rfl,HB3.out.trans (BB.out.mono (Nat.le_of_lt z0))⟩
    ·have hk2':((hc m.H i).k == 2)=false:=by simpa using hk2
     have BB:=lh (BB.out (hc m.H i).k);have HI2:Hid (∀j,j<i+1→kP m.H j):=lh fun j hj=>by
      by_cases e:j=i
      ·subst e;exact⟨fun e=>absurd e hk1,fun e=>absurd e hk2⟩
      ·exact HI.out j (by omega)
     clear hk1 hk2 HNR2;go_wp2_with fail;go_roundw
     case measure=>simp only[intOf];omega
     case rel=>exact⟨i+1,by omega,by go_num,lh (HX2.out.below BB.out),lh ((BB.out.block _ z1).trans HF2.out),lh (HB3.out.trans (BB.out.mono (Nat.le_of_lt z0))),lh (Nat.le_trans HS3.out BB.out.size),HI2⟩
  ·have HCI:Hid (∀j,j<m.H.length→kP m.H j):=lh fun j hj=>HI.out j (by omega)
   obtain⟨x0,x1,x2,x3,x4,x5,x6,x7,x8,-⟩:=HX2.out.all;have f0:wr.cell? ⟨w.heap.size+1,0,none⟩=some (.func (.func 79) #[] #[.pointer (some ⟨w.heap.size,0,none⟩)]):=HN.out.fn;have HB4:=lh (HM.out.keep (aD.below HB3.out _));have HG:=lh (aS1 m.G HB4.out.g HN.out hn9);have HTI:Hid (∀w',Below wr.heap.size wr w'→Calls Try.prog 82 #[.slice dt m.T.length dtn,.func (.func 79) #[] #[.pointer (some ⟨w.heap.size,0,none⟩)]] w' fun e w''=>e=.returned (.bool (!pd (∀x,x∈m.T→InH m.H.length x)))∧w''=w'):=lh fun w' hb=>aF8 m.T (HB4.out.t.below hb) (HN.out.below hb) hn9
   have HQI:Hid (∀w',Below wr.heap.size wr w'→Calls Try.prog 82 #[.slice dq m.Q.length dqn,.func (.func 79) #[] #[.pointer (some ⟨w.heap.size,0,none⟩)]] w' fun e w''=>e=.returned (.bool (!pd (∀x,x∈m.Q→InH m.H.length x)))∧w''=w'):=lh fun w' hb=>aF8 m.Q (HB4.out.q.below hb) (HN.out.below hb) hn9
   have z0:w.heap.size≤wr.heap.size:=HB3.out.size;by_cases hg:∀x,x∈m.G→InH m.H.length x.at'
   ·by_cases ht:∀x,x∈m.T→InH m.H.length x
    ·have HR:Hid (dW m=pd (∀x,x∈m.Q→InH m.H.length x)):=lh (by
      by_cases hq:∀x,x∈m.Q→InH m.H.length x
      ·rw[cK hq];exact cK ⟨HCI.out,hg,ht,hq⟩
      ·rw[bJ hq];exact bJ fun h=>hq h.query)
     rw[cK hg] at HG;rw[cK ht] at HTI;clear hg ht;generalize pd (∀x,x∈m.Q→InH m.H.length x)=q at *;go_wp2_with (first
      | (go_at_call 80;refine HG.out.mono ?_;rintro e w1 ⟨rfl,hb1⟩;have HB1:=lh hb1;have f1:=(hb1.cell (p:=⟨w.heap.size+1,0,none⟩) HN.out.lt.2).trans f0;have y4:=(hb1.cell (p:=⟨w.heap.size,4,none⟩) HN.out.lt.1).trans x4;have y5:=(hb1.cell (p:=⟨w.heap.size,5,none⟩) HN.out.lt.1).trans x5;clear hb1)
      | (go_at_call 82;refine(HTI.out _ HB1.out).mono ?_;rintro e w2 ⟨rfl,rfl⟩)
      | (go_at_call 82;refine(HQI.out _ HB1.out).mono ?_;rintro e w2 ⟨rfl,rfl⟩))
     go_ret;rw[HR.out];refine⟨?_,HB3.out.trans (HB1.out.mono z0)⟩;cases q <;> rfl
    ·have HR:Hid (dW m=false):=lh (bJ fun h=>ht h.trail)
     rw[cK hg] at HG;rw[bJ ht] at HTI;clear hg ht;go_wp2_with (first
      | (go_at_call 80;refine HG.out.mono ?_;rintro e w1 ⟨rfl,hb1⟩;have HB1:=lh hb1;have f1:=(hb1.cell (p:=⟨w.heap.size+1,0,none⟩) HN.out.lt.2).trans f0;have y4:=(hb1.cell (p:=⟨w.heap.size,4,none⟩) HN.out.lt.1).trans x4;clear hb1)
      | (go_at_call 82;refine(HTI.out _ HB1.out).mono ?_;rintro e w2 ⟨rfl,rfl⟩))
     go_ret;rw[HR.out];exact⟨rfl,HB3.out.trans (HB1.out.mono z0)⟩
   ·have HR:Hid (dW m=false):=lh (bJ fun h=>hg h.goals)
    rw[bJ hg] at HG;clear hg;go_wp2_with (go_at_call 80;refine HG.out.mono ?_;rintro e w1 ⟨rfl,hb1⟩;have HB1:=lh hb1;clear hb1);go_ret;rw[HR.out];exact⟨rfl,HB3.out.trans (HB1.out.mono z0)⟩
end Go.Proofs.Ytikmgiapjigghab
namespace Go.Proofs.Ytikmgiapjigghab
open Go.RowKit
def kR(G:List Gl)(i:Nat)(h:i<G.length):Prop:=0≤G[i].next∧G[i].next≤(i:Int)∧0≤G[i].cut
instance (G:List Gl) (i:Nat) (h:i<G.length):Decidable (kR G i h):=inferInstanceAs (Decidable (_∧_))
def lA(G:List Gl)(i:Nat):Int:=if h:i<G.length then (if kR G i h then 0 else 4) else 0
theorem cV{n lo hi:Int}(h:lo≤n∧n≤hi):bY n lo hi=true:=by unfold bY;exact decide_eq_true h
theorem cA{n lo hi:Int}(h:¬(lo≤n∧n≤hi)):bY n lo hi=false:=by unfold bY;exact decide_eq_false h
theorem bJ4(m:Mac)(d:MAd){w:World}{ok:Nat→Prop}(h:bO w ok m d)(i:Nat)(hi:i<m.G.length) :
 Calls Try.prog 52 #[.agg #[.slice d.h m.H.length d.hn,.slice d.g m.G.length d.gn,.int .i64 m.first,.slice d.c m.ch.length d.cn,.slice d.t m.T.length d.tn,.slice d.q m.Q.length d.qn,.int .i64 m.steps,.int .i64 m.fin,.slice d.a m.ans.length d.an],.int .i64 ((i:Int)+1)] w
  fun e w'=>e=.returned (.int .i64 (lA m.G i))∧Below w.heap.size w w':=by
 obtain⟨dh,dg,dc,dt,dq,da,dhn,dgn,dcn,dtn,dqn,dan⟩:=d;have HM:Hid (bO w (fun b=>b<w.heap.size) m ⟨dh,dg,dc,dt,dq,da,dhn,dgn,dcn,dtn,dqn,dan⟩):=lh (h.mono fun b hb _=>hb);have hcl:m.G.length≤9223372036854775807:=by have:=h.g.cap;unfold maxLen at this;omega
 obtain⟨b,off,hda,hokb,hb,hcs⟩:=HM.out.g.some (by decide) (Nat.lt_of_le_of_lt (Nat.zero_le _) hi);have hda':dg=some ⟨b,off,none⟩:=hda;clear hda hokb h;subst hda';obtain⟨g0,g1,g2⟩:=fU m.G i hi;have c0:=hcs _ _ g0;have c1:w.cell? ⟨b,off+i*3+1,none⟩=_:=hcs _ _ g1;have c2:w.cell? ⟨b,off+i*3+2,none⟩=_:=hcs _ _ g2;clear hcs g0 g1 g2;have HB1:Hid (∀X Y,Below w.heap.size w ((w.alloc X).alloc Y)):=lh fun X Y=>((bR _ _).alloc (nR _) X).alloc (by simp) Y
 by_cases h1:0≤m.G[i].next∧m.G[i].next≤(i:Int)
 ·have hbt:bY m.G[i].next 0 (i:Int)=true:=cV h1
  by_cases h2:m.G[i].cut<0
  ·have HR:Hid (lA m.G i=4):=lh (by unfold lA;rw[dif_pos hi,if_neg fun e:kR m.G i hi=>by have:=e.2.2;omega])
   clear h1;go_enter Try.func52,Try.ntmps52;go_wp2_with (go_at_call 53;refine(dR _ _ _ _).mono ?_;rintro e w1 ⟨rfl,rfl⟩);go_ret;rw[HR.out];exact⟨rfl,HB1.out _ _⟩
  ·have HR:Hid (lA m.G i=0):=lh (by unfold lA;rw[dif_pos hi,if_pos (show kR m.G i hi from ⟨h1.1,h1.2,by omega⟩)])
   clear h1;go_enter Try.func52,Try.ntmps52;go_wp2_with (go_at_call 53;refine(dR _ _ _ _).mono ?_;rintro e w1 ⟨rfl,rfl⟩);go_ret;rw[HR.out];exact⟨rfl,HB1.out _ _⟩
 ·have hbt:bY m.G[i].next 0 (i:Int)=false:=cA h1
  have HR:Hid (lA m.G i=4):=lh (by unfold lA;rw[dif_pos hi,if_neg fun e:kR m.G i hi=>h1 ⟨e.1,e.2.1⟩]);clear h1;go_enter Try.func52,Try.ntmps52;go_wp2_with (go_at_call 53;refine(dR _ _ _ _).mono ?_;rintro e w1 ⟨rfl,rfl⟩);go_ret;rw[HR.out];exact⟨rfl,HB1.out _ _⟩
def jI(l:List Chi)(i:Nat):Chi:=(aT::l).getD i aT
theorem jC(np ng nh nt:Nat):∀(l:List Chi) (was:Chi),cC np ng nh nt was l↔∀i (h:i<l.length),fJ np ng nh nt ((was::l).getD i aT) l[i]:=by
 intro l
 induction l with
 | nil=>intro was;exact⟨fun _ i h=>absurd h (Nat.not_lt_zero i),fun _=>trivial⟩
 | cons c r ih =>
  intro was
  constructor
  ·rintro ⟨h1,h2⟩ i hi
   cases i with
   | zero=>exact h1
   | succ i=>exact(ih c).1 h2 i (by simpa using hi)
  ·intro h
   refine⟨h 0 (by simp),(ih c).2 fun i hi=>?_⟩;exact h (i+1) (by simpa using hi)
theorem uJ(l:List Chi)(i:Nat)(h:i<l.length):jI l (i+1)=l[i]:=by
 unfold jI;rw[List.getD_eq_getElem?_getD,List.getElem?_cons_succ,List.getElem?_eq_getElem h];rfl
noncomputable def dF(np:Nat)(m:Mac):Int:=if pd (cC np m.G.length m.H.length m.T.length aT m.ch)=true then 0 else 4
theorem wI{np:Nat}{m:Mac}(h:∀i (h:i<m.ch.length),fJ np m.G.length m.H.length m.T.length (jI m.ch i) m.ch[i]):dF np m=0:=by
 unfold dF;rw[if_pos (cK ((jC _ _ _ _ _ _).2 h))]
theorem zK{np:Nat}{m:Mac}{i:Nat}(hi:i<m.ch.length)(h:¬fJ np m.G.length m.H.length m.T.length (jI m.ch i) m.ch[i]):dF np m=4:=by
 unfold dF;rw[if_neg];rw[bJ fun e=>h ((jC _ _ _ _ _ _).1 e i hi)];decide
structure mS(w:World)(b:Nat)(c:Chi):Prop where
 blk:w.heap[b]? = some (.cells #[.int .i64 c.goal,.int .i64 c.clause,.int .i64 c.heap,.int .i64 c.trail,.int .i64 c.goals] 67 (0,0))
theorem mS.all{w:World}{b:Nat}{c:Chi}(h:mS w b c):w.cell? ⟨b,0,none⟩=some (.int .i64 c.goal)∧w.cell? ⟨b,1,none⟩=some (.int .i64 c.clause)∧w.cell? ⟨b,2,none⟩=some (.int .i64 c.heap)∧w.cell? ⟨b,3,none⟩=some (.int .i64 c.trail)∧w.cell? ⟨b,4,none⟩=some (.int .i64 c.goals)∧∀o,w.frozen? ⟨b,o,none⟩=false:=by
 have h':=h.blk;exact⟨by simp[World.cell?,h'],by simp[World.cell?,h'],by simp[World.cell?,h'],by simp[World.cell?,h'],by simp[World.cell?,h'],fun o=>by simp[World.frozen?,h']⟩
theorem mS.lt{w:World}{b:Nat}{c:Chi}(h:mS w b c):b<w.heap.size:=(gS h.blk).1
theorem mS.keep{w w':World}{b:Nat}{c:Chi}(h:mS w b c)(hb:w'.heap[b]? = w.heap[b]?):mS w' b c:=⟨hb.trans h.blk⟩
theorem mS.put{w:World}{b:Nat}{c0:Chi}(h:mS w b c0)(c:Chi):mS (((((w.setCell ⟨b,0,none⟩ (.int .i64 c.goal)).setCell ⟨b,1,none⟩ (.int .i64 c.clause)).setCell ⟨b,2,none⟩ (.int .i64 c.heap)).setCell ⟨b,3,none⟩ (.int .i64 c.trail)).setCell ⟨b,4,none⟩ (.int .i64 c.goals)) b c∧aA (fun x=>x=b) w (((((w.setCell ⟨b,0,none⟩ (.int .i64 c.goal)).setCell ⟨b,1,none⟩ (.int .i64 c.clause)).setCell ⟨b,2,none⟩ (.int .i64 c.heap)).setCell ⟨b,3,none⟩ (.int .i64 c.trail)).setCell ⟨b,4,none⟩ (.int .i64 c.goals)):=by
 refine⟨⟨?_⟩,?_⟩
 ·have h0:=aB w b 0 (.int .i64 c.goal) h.blk
  have h1:=aB _ b 1 (.int .i64 c.clause) h0;have h2:=aB _ b 2 (.int .i64 c.heap) h1;have h3:=aB _ b 3 (.int .i64 c.trail) h2;have h4:=aB _ b 4 (.int .i64 c.goals) h3;exact h4
 ·exact((((aA.setCell (M:=fun x=>x=b) _ rfl).trans (aA.setCell (M:=fun x=>x=b) _ rfl)).trans (aA.setCell (M:=fun x=>x=b) _ rfl)).trans (aA.setCell (M:=fun x=>x=b) _ rfl)).trans (aA.setCell (M:=fun x=>x=b) _ rfl)
theorem mT(m:Mac)(d:MAd){w:World}{ok:Nat→Prop}(h:bO w ok m d)(np pc:Nat)(pa:Option Addr) :
 Calls Try.prog 54 #[.slice pa np pc,.agg #[.slice d.h m.H.length d.hn,.slice d.g m.G.length d.gn,.int .i64 m.first,.slice d.c m.ch.length d.cn,.slice d.t m.T.length d.tn,.slice d.q m.Q.length d.qn,.int .i64 m.steps,.int .i64 m.fin,.slice d.a m.ans.length d.an]] w
  fun e w'=>e=.returned (.int .i64 (dF np m))∧Below w.heap.size w w':=by
 obtain⟨dh,dg,dc,dt,dq,da,dhn,dgn,dcn,dtn,dqn,dan⟩:=d;have HM:Hid (bO w (fun b=>b<w.heap.size) m ⟨dh,dg,dc,dt,dq,da,dhn,dgn,dcn,dtn,dqn,dan⟩):=lh (h.mono fun b hb _=>hb);have hg9:m.G.length≤9223372036854775807:=by have:=h.g.cap;unfold maxLen at this;omega
 have hc9:m.ch.length≤9223372036854775807:=by have:=h.c.cap;unfold maxLen at this;omega
 have ht9:m.T.length≤9223372036854775807:=by have:=h.t.cap;unfold maxLen at this;omega
 have HB2:Hid (Below w.heap.size w ((w.alloc (.cells (m.vals ⟨dh,dg,dc,dt,dq,da,dhn,dgn,dcn,dtn,dqn,dan⟩).toArray 30)).alloc (.cells #[.int .i64 aT.goal,.int .i64 aT.clause,.int .i64 aT.heap,.int .i64 aT.trail,.int .i64 aT.goals] 67))):=lh (((bR _ _).alloc (nR _) _).alloc (by simp) _);have HX:Hid (cL ((w.alloc (.cells (m.vals ⟨dh,dg,dc,dt,dq,da,dhn,dgn,dcn,dtn,dqn,dan⟩).toArray 30)).alloc (.cells #[.int .i64 aT.goal,.int .i64 aT.clause,.int .i64 aT.heap,.int .i64 aT.trail,.int .i64 aT.goals] 67)) w.heap.size m ⟨dh,dg,dc,dt,dq,da,dhn,dgn,dcn,dtn,dqn,dan⟩):=lh ((cL.made w m _).below ((bR _ _).alloc (nR _) _));have hsz:(w.alloc (.cells (m.vals ⟨dh,dg,dc,dt,dq,da,dhn,dgn,dcn,dtn,dqn,dan⟩).toArray 30)).heap.size=w.heap.size+1:=by simp
 have HC:Hid (mS ((w.alloc (.cells (m.vals ⟨dh,dg,dc,dt,dq,da,dhn,dgn,dcn,dtn,dqn,dan⟩).toArray 30)).alloc (.cells #[.int .i64 aT.goal,.int .i64 aT.clause,.int .i64 aT.heap,.int .i64 aT.trail,.int .i64 aT.goals] 67)) (w.heap.size+1) aT):=lh ⟨by rw[←hsz];exact heap_alloc_new _ _⟩;clear h hsz;simp only[Mac.vals] at HX HC HB2;simp only;go_enter Try.func54,Try.ntmps54;go_wp2_with fail
 go_loopw[12] (fun x12 wr=>∃i:Nat,i≤m.ch.length∧x12=.int .i64 i∧Hid (cL wr w.heap.size m ⟨dh,dg,dc,dt,dq,da,dhn,dgn,dcn,dtn,dqn,dan⟩)∧Hid (mS wr (w.heap.size+1) (jI m.ch i))∧Hid (Below w.heap.size w wr)∧Hid (w.heap.size+2≤wr.heap.size)∧Hid (∀j (hj:j<m.ch.length),j<i→fJ np m.G.length m.H.length m.T.length (jI m.ch j) m.ch[j])) (fun x12 _=>m.ch.length-(intOf x12).toNat)
 case atStart=>exact⟨0,Nat.zero_le _,rfl,HX,HC,HB2,lh (by simp),lh fun j _ h=>absurd h (Nat.not_lt_zero j)⟩
 case round =>
  obtain⟨i,hi,rfl,HX2,HC2,HB3,HS3,HI⟩:=hrel;by_cases hlt:i<m.ch.length
  ·obtain⟨b,off,hda,hokb,hb,hcs⟩:=HM.out.c.some (by decide) (Nat.lt_of_le_of_lt (Nat.zero_le _) hlt)
   have hda':dc=some ⟨b,off,none⟩:=hda;clear hda hokb;subst hda';obtain⟨g0,g1,g2,g3,g4⟩:=jJ m.ch i hlt;have c0:=(HB3.out.cell (p:=⟨b,off+i*5,none⟩) hb).trans (hcs _ _ g0);have c1:wr.cell? ⟨b,off+i*5+1,none⟩=_:=(HB3.out.cell (p:=⟨b,off+(i*5+1),none⟩) hb).trans (hcs _ _ g1);have c2:wr.cell? ⟨b,off+i*5+2,none⟩=_:=(HB3.out.cell (p:=⟨b,off+(i*5+2),none⟩) hb).trans (hcs _ _ g2);have c3:wr.cell? ⟨b,off+i*5+3,none⟩=_:=(HB3.out.cell (p:=⟨b,off+(i*5+3),none⟩) hb).trans (hcs _ _ g3);have c4:wr.cell? ⟨b,off+i*5+4,none⟩=_:=(HB3.out.cell (p:=⟨b,off+(i*5+4),none⟩) hb).trans (hcs _ _ g4);clear hcs g0 g1 g2 g3 g4;obtain⟨x0,x1,x2,x3,x4,-⟩:=HX2.out.all;obtain⟨k0,k1,k2,k3,k4,kf⟩:=HC2.out.all;have z1:w.heap.size+1<wr.heap.size:=HC2.out.lt;have z0:w.heap.size<wr.heap.size:=HX2.out.lt;have HPN:=lh (uJ m.ch i hlt);have HCH:=HI;have HBAD:Hid (¬fJ np m.G.length m.H.length m.T.length (jI m.ch i) m.ch[i]→dF np m=4):=lh (zK hlt);generalize hcc:m.ch[i]=c at *;generalize hpp:jI m.ch i=was at *;have HBX:Hid (∀X,Below w.heap.size w (wr.alloc X)):=lh fun X=>HB3.out.alloc (Nat.le_of_lt z0) X
   by_cases q1:1≤c.goal∧c.goal≤(m.G.length:Int)
   ·have b1:bY c.goal 1 (m.G.length:Int)=true:=cV q1
    by_cases q2:0≤c.clause∧c.clause≤(np:Int)
    ·have b2:bY c.clause 0 (np:Int)=true:=cV q2
     by_cases q3:was.heap≤c.heap∧c.heap≤(m.H.length:Int)
     ·have b3:bY c.heap was.heap (m.H.length:Int)=true:=cV q3
      by_cases q4:was.trail≤c.trail∧c.trail≤(m.T.length:Int)
      ·have b4:bY c.trail was.trail (m.T.length:Int)=true:=cV q4
       by_cases q5:was.goals≤c.goals∧c.goals≤(m.G.length:Int)
       ·have b5:bY c.goals was.goals (m.G.length:Int)=true:=cV q5
        by_cases q6:c.goal≤c.goals
        ·have HOK:Hid (∀j (hj:j<m.ch.length),j<i+1→fJ np m.G.length m.H.length m.T.length (jI m.ch j) m.ch[j]):=lh fun j hj h=>by
          by_cases e:j=i
          ·subst e;rw[hcc,hpp];exact⟨q1,q2,q3,q4,q5,q6⟩
          ·exact HI.out j hj (by omega)
         have q6':¬c.goals<c.goal:=by omega
         clear q1 q2 q3 q4 q5 q6;go_wp2_with (go_at_call 53;refine(dR _ _ _ _).mono ?_;rintro e w1 ⟨rfl,rfl⟩);have HP2:=lh (HC2.out.put c);go_roundw
         case measure=>simp only[intOf];omega
         case rel =>
          refine⟨i+1,by omega,by go_num,?_,?_,?_,?_,HOK⟩
          ·exact lh ((HX2.out.keep (HP2.out.2.block _ z0 (by omega))).below ((bR _ _).alloc (nR _) _))
          ·rw[HPN.out]
           exact lh (HP2.out.1.keep (((bR _ _).alloc (nR _) _).block _ HP2.out.1.lt))
          ·exact lh ((HB3.out.trans (HP2.out.2.toBelow HB3.out.size (fun b e=>by omega))).alloc (Nat.le_trans HB3.out.size HP2.out.2.size) _)
          ·exact lh (Nat.le_trans HS3.out (Nat.le_trans HP2.out.2.size ((bR _ _).alloc (nR _) _).size))
        ·have HR:Hid (dF np m=4):=lh (HBAD.out fun e=>q6 e.own)
         have q6':c.goals<c.goal:=by omega
         clear q1 q2 q3 q4 q5 q6;go_wp2_with (go_at_call 53;refine(dR _ _ _ _).mono ?_;rintro e w1 ⟨rfl,rfl⟩);go_ret;rw[HR.out];exact⟨rfl,HBX.out _⟩
       ·have b5:bY c.goals was.goals (m.G.length:Int)=false:=cA q5
        have HR:Hid (dF np m=4):=lh (HBAD.out fun e=>q5 e.goals);clear q1 q2 q3 q4 q5;go_wp2_with (go_at_call 53;refine(dR _ _ _ _).mono ?_;rintro e w1 ⟨rfl,rfl⟩);go_ret;rw[HR.out];exact⟨rfl,HBX.out _⟩
      ·have b4:bY c.trail was.trail (m.T.length:Int)=false:=cA q4
       have HR:Hid (dF np m=4):=lh (HBAD.out fun e=>q4 e.trail);clear q1 q2 q3 q4;go_wp2_with (go_at_call 53;refine(dR _ _ _ _).mono ?_;rintro e w1 ⟨rfl,rfl⟩);go_ret;rw[HR.out];exact⟨rfl,HBX.out _⟩
     ·have b3:bY c.heap was.heap (m.H.length:Int)=false:=cA q3
      have HR:Hid (dF np m=4):=lh (HBAD.out fun e=>q3 e.heap);clear q1 q2 q3;go_wp2_with (go_at_call 53;refine(dR _ _ _ _).mono ?_;rintro e w1 ⟨rfl,rfl⟩);go_ret;rw[HR.out];exact⟨rfl,HBX.out _⟩
    ·have b2:bY c.clause 0 (np:Int)=false:=cA q2
     have HR:Hid (dF np m=4):=lh (HBAD.out fun e=>q2 e.clause);clear q1 q2;go_wp2_with (go_at_call 53;refine(dR _ _ _ _).mono ?_;rintro e w1 ⟨rfl,rfl⟩);go_ret;rw[HR.out];exact⟨rfl,HBX.out _⟩
   ·have b1:bY c.goal 1 (m.G.length:Int)=false:=cA q1
    have HR:Hid (dF np m=4):=lh (HBAD.out fun e=>q1 e.goal);clear q1;go_wp2_with (go_at_call 53;refine(dR _ _ _ _).mono ?_;rintro e w1 ⟨rfl,rfl⟩);go_ret;rw[HR.out];exact⟨rfl,HBX.out _⟩
  ·have HR:Hid (dF np m=0):=lh (wI fun j hj=>HI.out j hj (by omega))
   go_wp2_with fail;go_ret;rw[HR.out];exact⟨rfl,HB3.out⟩
theorem Try.infoCells1:(Try.prog.info? 69).map (fun i=>(i.size,i.bytes))=some (3,32):=by kernel_rfl
theorem Try.infoCells2:((Try.prog.info? 69).bind (fun i=>i.zero)).map (fun z=>z.cells.size)=some 3:=by kernel_rfl
theorem uK:∃i z,Try.prog.info? 69=some i∧i.zero=some z∧i.size=3∧i.bytes=32∧z.cells.size=3:=by
 have h1:=Try.infoCells1;have h2:=Try.infoCells2;obtain⟨i,hi,h3⟩:=Option.map_eq_some_iff.1 h1;obtain⟨z,hz,h4⟩:=Option.map_eq_some_iff.1 h2;rw[hi,Option.bind_some] at hz;simp only[Prod.mk.injEq] at h3;exact⟨i,z,hi,hz,h3.1,h3.2,h4⟩
theorem aF1{w:World}{ok:Nat→Prop}{n:Nat}{vs:List Value}{a:Option Addr}{cap:Nat}(h:cZ w ok 3 n vs a cap)(h1:∀u∈vs,u.oneCell'=true)(hn:n*32≤140737488355328) :
 Calls Try.prog 56 #[.slice a n cap] w fun e w'=>(∃v,e=.returned v∧w'.ownsRow w.heap.size 69 3 v n vs)∧Below w.heap.size w w':=by
 have qT:∀(w:World) (a:Option Addr) (n c n' c':Nat),(binOp .eql 24 (.slice a n c) (.slice none n' c')).run Try.prog w=.ok (.bool a.isNone) w:=fun w a n c n' c'=>Lib.run_eql_slice_nil w _ _ a n c n' c' Try.underlying24
 cases a with
 | none =>
  obtain⟨rfl,rfl,rfl⟩:=h.none;go_enter Try.func56,Try.ntmps56;go_wp2_with fail;go_ret;exact⟨⟨_,rfl,World.ownsRow_nil _ _ _ _⟩,Below.refl _ _⟩
 | some ad =>
  obtain⟨i0,zc,hi0,hz0,hz1,hz2,hz3⟩:=uK;have hB:Below w.heap.size w (w.alloc (.cells #[] 69)):=(bR _ _).alloc (nR _) _;have HO:Hid ((w.alloc (.cells #[] 69)).ownsRow w.heap.size 69 3 (.slice (some ⟨w.heap.size,0,none⟩) 0 0) 0 []):=lh (World.ownsRow_lit (base:=w.heap.size) (e:=69) (size:=3) w #[] 0 (nR _) (Nat.zero_le _) rfl);have HC:=lh ((h.mono (ok':=fun b=>b<w.heap.size) fun b hb _=>hb).below hB).news;have HL:=lh h.len;have HB:=lh hB;have H1:=lh h1;clear h hB h1;go_enter Try.func56,Try.ntmps56;go_wp2_with (at_builtin;refine aR _ rfl _ _ 24 rfl w.heap.size 69 i0 zc 3 32 Try.underlying24 hi0 hz0 hz1 hz2 hz3 (by decide) _ _ _ rfl HO.out ad n cap vs rfl HL.out HC.out H1.out ?c3 ?c4 ?c5 ?_)
  case c3=>unfold maxLen;omega
  case c4=>omega
  case c5=>simp
  intro v w1 hown hgrow hfr;have HN:Hid (w1.ownsRow w.heap.size 69 3 v n vs):=lh (by have h:=hown;simpa using h);have HB2:=lh (HB.out.grown hgrow HB.out.size (fun j e=>(HO.out.lt j e).1));clear hown hgrow hfr;go_wp2_with fail;go_ret;exact⟨⟨_,rfl,HN.out⟩,HB2.out⟩
theorem Try.infoGoals1:(Try.prog.info? 65).map (fun i=>(i.size,i.bytes))=some (3,24):=by kernel_rfl
theorem Try.infoGoals2:((Try.prog.info? 65).bind (fun i=>i.zero)).map (fun z=>z.cells.size)=some 3:=by kernel_rfl
theorem pB:∃i z,Try.prog.info? 65=some i∧i.zero=some z∧i.size=3∧i.bytes=24∧z.cells.size=3:=by
 have h1:=Try.infoGoals1;have h2:=Try.infoGoals2;obtain⟨i,hi,h3⟩:=Option.map_eq_some_iff.1 h1;obtain⟨z,hz,h4⟩:=Option.map_eq_some_iff.1 h2;rw[hi,Option.bind_some] at hz;simp only[Prod.mk.injEq] at h3;exact⟨i,z,hi,hz,h3.1,h3.2,h4⟩
theorem aF2{w:World}{ok:Nat→Prop}{n:Nat}{vs:List Value}{a:Option Addr}{cap:Nat}(h:cZ w ok 3 n vs a cap)(h1:∀u∈vs,u.oneCell'=true)(hn:n*24≤140737488355328) :
 Calls Try.prog 57 #[.slice a n cap] w fun e w'=>(∃v,e=.returned v∧w'.ownsRow w.heap.size 65 3 v n vs)∧Below w.heap.size w w':=by
 have qT:∀(w:World) (a:Option Addr) (n c n' c':Nat),(binOp .eql 25 (.slice a n c) (.slice none n' c')).run Try.prog w=.ok (.bool a.isNone) w:=fun w a n c n' c'=>Lib.run_eql_slice_nil w _ _ a n c n' c' Try.underlying25
 cases a with
 | none =>
  obtain⟨rfl,rfl,rfl⟩:=h.none;go_enter Try.func57,Try.ntmps57;go_wp2_with fail;go_ret;exact⟨⟨_,rfl,World.ownsRow_nil _ _ _ _⟩,Below.refl _ _⟩
 | some ad =>
  obtain⟨i0,zc,hi0,hz0,hz1,hz2,hz3⟩:=pB;have hB:Below w.heap.size w (w.alloc (.cells #[] 65)):=(bR _ _).alloc (nR _) _;have HO:Hid ((w.alloc (.cells #[] 65)).ownsRow w.heap.size 65 3 (.slice (some ⟨w.heap.size,0,none⟩) 0 0) 0 []):=lh (World.ownsRow_lit (base:=w.heap.size) (e:=65) (size:=3) w #[] 0 (nR _) (Nat.zero_le _) rfl);have HC:=lh ((h.mono (ok':=fun b=>b<w.heap.size) fun b hb _=>hb).below hB).news;have HL:=lh h.len;have HB:=lh hB;have H1:=lh h1;clear h hB h1;go_enter Try.func57,Try.ntmps57;go_wp2_with (at_builtin;refine aR _ rfl _ _ 25 rfl w.heap.size 65 i0 zc 3 24 Try.underlying25 hi0 hz0 hz1 hz2 hz3 (by decide) _ _ _ rfl HO.out ad n cap vs rfl HL.out HC.out H1.out ?c3 ?c4 ?c5 ?_)
  case c3=>unfold maxLen;omega
  case c4=>omega
  case c5=>simp
  intro v w1 hown hgrow hfr;have HN:Hid (w1.ownsRow w.heap.size 65 3 v n vs):=lh (by have h:=hown;simpa using h);have HB2:=lh (HB.out.grown hgrow HB.out.size (fun j e=>(HO.out.lt j e).1));clear hown hgrow hfr;go_wp2_with fail;go_ret;exact⟨⟨_,rfl,HN.out⟩,HB2.out⟩
theorem Try.infoChois1:(Try.prog.info? 67).map (fun i=>(i.size,i.bytes))=some (5,40):=by kernel_rfl
theorem Try.infoChois2:((Try.prog.info? 67).bind (fun i=>i.zero)).map (fun z=>z.cells.size)=some 5:=by kernel_rfl
theorem pC:∃i z,Try.prog.info? 67=some i∧i.zero=some z∧i.size=5∧i.bytes=40∧z.cells.size=5:=by
 have h1:=Try.infoChois1;have h2:=Try.infoChois2;obtain⟨i,hi,h3⟩:=Option.map_eq_some_iff.1 h1;obtain⟨z,hz,h4⟩:=Option.map_eq_some_iff.1 h2;rw[hi,Option.bind_some] at hz;simp only[Prod.mk.injEq] at h3;exact⟨i,z,hi,hz,h3.1,h3.2,h4⟩
theorem aF3{w:World}{ok:Nat→Prop}{n:Nat}{vs:List Value}{a:Option Addr}{cap:Nat}(h:cZ w ok 5 n vs a cap)(h1:∀u∈vs,u.oneCell'=true)(hn:n*40≤140737488355328) :
 Calls Try.prog 58 #[.slice a n cap] w fun e w'=>(∃v,e=.returned v∧w'.ownsRow w.heap.size 67 5 v n vs)∧Below w.heap.size w w':=by
 have qT:∀(w:World) (a:Option Addr) (n c n' c':Nat),(binOp .eql 26 (.slice a n c) (.slice none n' c')).run Try.prog w=.ok (.bool a.isNone) w:=fun w a n c n' c'=>Lib.run_eql_slice_nil w _ _ a n c n' c' Try.underlying26
 cases a with
 | none =>
  obtain⟨rfl,rfl,rfl⟩:=h.none;go_enter Try.func58,Try.ntmps58;go_wp2_with fail;go_ret;exact⟨⟨_,rfl,World.ownsRow_nil _ _ _ _⟩,Below.refl _ _⟩
 | some ad =>
  obtain⟨i0,zc,hi0,hz0,hz1,hz2,hz3⟩:=pC;have hB:Below w.heap.size w (w.alloc (.cells #[] 67)):=(bR _ _).alloc (nR _) _;have HO:Hid ((w.alloc (.cells #[] 67)).ownsRow w.heap.size 67 5 (.slice (some ⟨w.heap.size,0,none⟩) 0 0) 0 []):=lh (World.ownsRow_lit (base:=w.heap.size) (e:=67) (size:=5) w #[] 0 (nR _) (Nat.zero_le _) rfl);have HC:=lh ((h.mono (ok':=fun b=>b<w.heap.size) fun b hb _=>hb).below hB).news;have HL:=lh h.len;have HB:=lh hB;have H1:=lh h1;clear h hB h1;go_enter Try.func58,Try.ntmps58;go_wp2_with (at_builtin;refine aR _ rfl _ _ 26 rfl w.heap.size 67 i0 zc 5 40 Try.underlying26 hi0 hz0 hz1 hz2 hz3 (by decide) _ _ _ rfl HO.out ad n cap vs rfl HL.out HC.out H1.out ?c3 ?c4 ?c5 ?_)
  case c3=>unfold maxLen;omega
  case c4=>omega
  case c5=>simp
  intro v w1 hown hgrow hfr;have HN:Hid (w1.ownsRow w.heap.size 67 5 v n vs):=lh (by have h:=hown;simpa using h);have HB2:=lh (HB.out.grown hgrow HB.out.size (fun j e=>(HO.out.lt j e).1));clear hown hgrow hfr;go_wp2_with fail;go_ret;exact⟨⟨_,rfl,HN.out⟩,HB2.out⟩
theorem Try.infoInts1:(Try.prog.info? 3).map (fun i=>(i.size,i.bytes))=some (1,8):=by kernel_rfl
theorem Try.infoInts2:((Try.prog.info? 3).bind (fun i=>i.zero)).map (fun z=>z.cells.size)=some 1:=by kernel_rfl
theorem rM:∃i z,Try.prog.info? 3=some i∧i.zero=some z∧i.size=1∧i.bytes=8∧z.cells.size=1:=by
 have h1:=Try.infoInts1;have h2:=Try.infoInts2;obtain⟨i,hi,h3⟩:=Option.map_eq_some_iff.1 h1;obtain⟨z,hz,h4⟩:=Option.map_eq_some_iff.1 h2;rw[hi,Option.bind_some] at hz;simp only[Prod.mk.injEq] at h3;exact⟨i,z,hi,hz,h3.1,h3.2,h4⟩
theorem uL{w:World}{ok:Nat→Prop}{n:Nat}{vs:List Value}{a:Option Addr}{cap:Nat}(h:cZ w ok 1 n vs a cap)(h1:∀u∈vs,u.oneCell'=true)(hn:n*8≤140737488355328) :
 Calls Try.prog 59 #[.slice a n cap] w fun e w'=>(∃v,e=.returned v∧w'.ownsRow w.heap.size 3 1 v n vs)∧Below w.heap.size w w':=by
 have qT:∀(w:World) (a:Option Addr) (n c n' c':Nat),(binOp .eql 27 (.slice a n c) (.slice none n' c')).run Try.prog w=.ok (.bool a.isNone) w:=fun w a n c n' c'=>Lib.run_eql_slice_nil w _ _ a n c n' c' Try.underlying27
 cases a with
 | none =>
  obtain⟨rfl,rfl,rfl⟩:=h.none;go_enter Try.func59,Try.ntmps59;go_wp2_with fail;go_ret;exact⟨⟨_,rfl,World.ownsRow_nil _ _ _ _⟩,Below.refl _ _⟩
 | some ad =>
  obtain⟨i0,zc,hi0,hz0,hz1,hz2,hz3⟩:=rM;have hB:Below w.heap.size w (w.alloc (.cells #[] 3)):=(bR _ _).alloc (nR _) _;have HO:Hid ((w.alloc (.cells #[] 3)).ownsRow w.heap.size 3 1 (.slice (some ⟨w.heap.size,0,none⟩) 0 0) 0 []):=lh (World.ownsRow_lit (base:=w.heap.size) (e:=3) (size:=1) w #[] 0 (nR _) (Nat.zero_le _) rfl);have HC:=lh ((h.mono (ok':=fun b=>b<w.heap.size) fun b hb _=>hb).below hB).news;have HL:=lh h.len;have HB:=lh hB;have H1:=lh h1;clear h hB h1;go_enter Try.func59,Try.ntmps59;go_wp2_with (at_builtin;refine aR _ rfl _ _ 27 rfl w.heap.size 3 i0 zc 1 8 Try.underlying27 hi0 hz0 hz1 hz2 hz3 (by decide) _ _ _ rfl HO.out ad n cap vs rfl HL.out HC.out H1.out ?c3 ?c4 ?c5 ?_)
  case c3=>unfold maxLen;omega
  case c4=>omega
  case c5=>simp
  intro v w1 hown hgrow hfr;have HN:Hid (w1.ownsRow w.heap.size 3 1 v n vs):=lh (by have h:=hown;simpa using h);have HB2:=lh (HB.out.grown hgrow HB.out.size (fun j e=>(HO.out.lt j e).1));clear hown hgrow hfr;go_wp2_with fail;go_ret;exact⟨⟨_,rfl,HN.out⟩,HB2.out⟩
def aZ6(a b:Chi):Prop:=a.heap≤b.heap∧a.trail≤b.trail∧a.goals≤b.goals
theorem uV(np ng nh nt:Nat):∀(l:List Chi) (was:Chi),cC np ng nh nt was l→(∀c,c∈l→aZ6 was c∧c.heap≤nh∧c.trail≤nt∧c.goals≤ng)∧l.Pairwise aZ6:=by
 intro l
 induction l with
 | nil=>intro was _;exact⟨(fun c h=>nomatch h),List.Pairwise.nil⟩
 | cons c r ih =>
  rintro was ⟨h1,h2⟩;obtain⟨i1,i2⟩:=ih c h2;have hc:aZ6 was c:=⟨h1.heap.1,h1.trail.1,h1.goals.1⟩
  refine⟨fun x hx=>?_,List.Pairwise.cons (fun x hx=>(i1 x hx).1) i2⟩;rcases List.mem_cons.1 hx with rfl|hx
  ·exact⟨hc,h1.heap.2,h1.trail.2,h1.goals.2⟩
  ·obtain⟨⟨a,b,d⟩,e⟩:=i1 x hx
   exact⟨⟨Int.le_trans hc.1 a,Int.le_trans hc.2.1 b,Int.le_trans hc.2.2 d⟩,e⟩
def eK(m:Mac)(l:List Chi):Mac:=l.foldl cY m
theorem uW(m:Mac)(l:List Chi)(c:Chi):eK m (l++[c])=cY (eK m l) c:=by unfold eK;rw[List.foldl_append];rfl
def fV(m:Mac):Prop:=aO5 m.H m.G m.T m.Q
theorem sR:∀(l:List Chi) (m:Mac),eP l m↔∀i,i<l.length→fV (eK m (l.take (i+1))):=by
 intro l
 induction l with
 | nil=>intro m;exact⟨fun _ i h=>absurd h (Nat.not_lt_zero i),fun _=>trivial⟩
 | cons c r ih =>
  intro m
  constructor
  ·rintro ⟨h1,h2⟩ i hi
   cases i with
   | zero=>exact h1
   | succ i=>exact(ih (cY m c)).1 h2 i (by simpa using hi)
  ·intro h
   refine⟨h 0 (by simp),(ih (cY m c)).2 fun i hi=>?_⟩;exact h (i+1) (by simpa using hi)
structure iW(m mi:Mac):Prop where
 g:∃k,k≤m.G.length∧mi.G=m.G.take k
 t:∃k,k≤m.T.length∧mi.T=m.T.take k
 c:mi.ch=m.ch
 q:mi.Q=m.Q
 a:mi.ans=m.ans
 n:mi.first=m.first∧mi.steps=m.steps∧mi.fin=m.fin
 h:mi.H.length≤m.H.length
def nL(mi:Mac)(l:List Chi):Prop:=∀c,c∈l→(0≤c.heap∧c.heap≤(mi.H.length:Int))∧(0≤c.trail∧c.trail≤(mi.T.length:Int))∧0≤c.goals∧c.goals≤(mi.G.length:Int)
theorem qI{α:Type}{l s:List α}(h:∃k,k≤l.length∧s=l.take k)(j:Nat):∃k,k≤l.length∧s.take j=l.take k:=by
 obtain⟨k,h1,rfl⟩:=h;exact⟨min j k,by omega,by rw[List.take_take]⟩
theorem iW.refl(m:Mac):iW m m:=⟨⟨_,nR _,(List.take_length).symm⟩,⟨_,nR _,(List.take_length).symm⟩,rfl,rfl,rfl,⟨rfl,rfl,rfl⟩,nR _⟩
theorem iW.undo{m mi:Mac}(h:iW m mi)(c:Chi):iW m (cY mi c) :=
 ⟨qI h.g _,qI h.t _,h.c,h.q,h.a,h.n,by have:=h.h;simp only[cY,List.length_take,dH];omega⟩
theorem nL.undo{mi:Mac}{c:Chi}{l:List Chi}(h:nL mi (c::l))(hl:∀x,x∈l→aZ6 x c):nL (cY mi c) l:=fun x hx=>by
 obtain⟨⟨a1,a2⟩,⟨b1,b2⟩,d1,d2⟩:=h c List.mem_cons_self;obtain⟨⟨x1,_⟩,⟨y1,_⟩,z1,_⟩:=h x (List.mem_cons_of_mem _ hx);obtain⟨k1,k2,k3⟩:=hl x hx;refine⟨⟨x1,?_⟩,⟨y1,?_⟩,z1,?_⟩
 ·simp only[cY,List.length_take,dH];omega
 ·simp only[cY,List.length_take];omega
 ·simp only[cY,List.length_take];omega
theorem aZ7(m:Mac):∀(l:List Chi) (mi:Mac),iW m mi→nL mi l→l.Pairwise (fun a b=>aZ6 b a)→∀i,i≤l.length→iW m (eK mi (l.take i))∧nL (eK mi (l.take i)) (l.drop i):=by
 intro l
 induction l with
 | nil =>
  intro mi h k _ i hi;simp only[List.length_nil] at hi;have:i=0:=by omega
  subst this;exact⟨h,k⟩
 | cons c r ih =>
  intro mi h k hp i hi;cases i with
  | zero=>exact⟨h,k⟩
  | succ i =>
   obtain⟨p1,p2⟩:=List.pairwise_cons.1 hp;exact ih (cY mi c) (h.undo c) (k.undo p1) p2 i (by simpa using hi)
theorem aO6{np:Nat}{m:Mac}(hc:cC np m.G.length m.H.length m.T.length aT m.ch)(i:Nat)(hi:i≤m.ch.length):iW m (eK m (m.ch.reverse.take i))∧nL (eK m (m.ch.reverse.take i)) (m.ch.reverse.drop i):=by
 obtain⟨h1,h2⟩:=uV _ _ _ _ _ _ hc;refine aZ7 m _ m (iW.refl m) (fun c hc=>?_) (List.pairwise_reverse.2 h2) i (by simpa using hi);obtain⟨⟨a,b,d⟩,e,f,g⟩:=h1 c (List.mem_reverse.1 hc);have a':0≤c.heap:=a;have b':0≤c.trail:=b;have d':0≤c.goals:=d;exact⟨⟨a',e⟩,⟨b',f⟩,d',g⟩
theorem xY{m:Mac}{i:Nat}(hi:i<m.ch.length):m.ch.reverse.take (i+1)=m.ch.reverse.take i++[m.ch.getD (m.ch.length-1-i) aT]∧m.ch.getD (m.ch.length-1-i) aT∈m.ch.reverse.drop i:=by
 have hr:i<m.ch.reverse.length:=by simpa using hi
 have e:m.ch.reverse[i]=m.ch.getD (m.ch.length-1-i) aT:=by
  rw[List.getElem_reverse,List.getD_eq_getElem?_getD,List.getElem?_eq_getElem (by omega)];rfl
 refine⟨by rw[List.take_succ_eq_append_getElem hr,e],?_⟩;rw[←e,List.drop_eq_getElem_cons hr];exact List.mem_cons_self
end Go.Proofs.Ytikmgiapjigghab
namespace Go.Proofs.Ytikmgiapjigghab

section
variable {H:List HC} {σ:Sub} {D:Int→Prop} {S:Int→Nat}
noncomputable def gC(H:List HC)(S:Int→Nat)(v:Int):Int:=(aG H (S v):Int)+1
theorem fL.show(h:fL H σ D S):∀(m:Nat) (ps:List (Nat×Tm)),Sts H D S ps→shL H m (ps.map (·.1))=(gG σ m (ps.map (·.2))).map fun x=>(x.1.map (Tm.mapv (gC H S)),x.2):=by
 intro m
 induction m using Nat.strongRecOn with
 | _ m ih =>
 intro ps hp;cases ps with
 | nil=>rw[List.map_nil,List.map_nil,kY,nD];rfl
 | cons p r =>
  have hs:=hp p List.mem_cons_self;have hr:Sts H D S r:=fun x hx=>hp x (List.mem_cons_of_mem _ hx)
  rw[List.map_cons,List.map_cons];cases m with
  | zero=>rw[lJ,rV];rfl
  | succ m =>
   obtain⟨s1,s2,s3,s4,s5,s6⟩:=h.look hs;by_cases hx:(Go.Proofs.Ytikmgiapjigghab.look σ p.2).var=0
   ·obtain⟨k1,k2,k3,k4⟩:=s6 hx
    rw[tY k1,aA8 hx];obtain⟨qs,q1,q2,q3⟩:=Sts.args h hs hx;rw[←q1,←q2,ih m (by omega) qs q3];cases ht:gG σ m (qs.map (·.2)) with
    | none=>rfl
    | some y =>
     have hle:=(aA7 _ _ _ ht).1;simp only[Option.map_some,Option.bind_some];rw[ih y.2 (by omega) r hr];cases gG σ y.2 (r.map (·.2)) with
     | none=>rfl
     | some z =>
      simp only[Option.map_some,List.map_cons];rw[Tm.mapv_fn (t:=.mk 0 (Go.Proofs.Ytikmgiapjigghab.look σ p.2).name y.1) rfl,k2];rfl
   ·obtain⟨k1,k2,k3⟩:=s5 hx
    have he:aG H p.1=aG H (S (Go.Proofs.Ytikmgiapjigghab.look σ p.2).var):=by
     rw[k3] at s1;generalize (Go.Proofs.Ytikmgiapjigghab.look σ p.2).var=v at *;cases s1 with
     | var h1 h2 h3=>rw[s3] at h3;exact h3
     | fn=>exact absurd rfl hx
    rw[nK k1,wA hx,ih m (by omega) r hr];cases gG σ m (r.map (·.2)) with
    | none=>rfl
    | some z =>
     simp only[Option.map_some,List.map_cons];rw[Tm.mapv_var (t:=aQ (Go.Proofs.Ytikmgiapjigghab.look σ p.2).var) hx];unfold gC;rw[he];rfl
def aW8(σ:Sub)(D:Int→Prop)(T:Tm):Prop:=WfT T∧∀p,p∈T.parts→p.var≠0→D p.var∧look σ (aQ p.var)=aQ p.var
theorem aW8.fn{n:ByteArray}{l:List Tm}(h:∀t,t∈l→aW8 σ D t):aW8 σ D (.mk 0 n l):=by
 refine⟨fun p hp=>?_,fun p hp hv=>?_⟩
 ·rw[Tm.parts] at hp
  rcases List.mem_cons.1 hp with rfl|hp
  ·exact⟨Int.le_refl _,fun e=>absurd rfl e⟩
  ·obtain⟨t,ht,hp⟩:=Tm.partss_of hp
   exact(h t ht).1 p hp
 ·rw[Tm.parts] at hp
  rcases List.mem_cons.1 hp with rfl|hp
  ·exact absurd rfl hv
  ·obtain⟨t,ht,hp⟩:=Tm.partss_of hp
   exact(h t ht).2 p hp hv
theorem fL.bare(h:fL H σ D S):∀(m:Nat) (ps:List (Nat×Tm)) (x:List Tm×Nat),Sts H D S ps→gG σ m (ps.map (·.2))=some x→∀T,T∈x.1→aW8 σ D T:=by
 intro m
 induction m using Nat.strongRecOn with
 | _ m ih =>
 intro ps x hp he T hT;cases ps with
 | nil=>rw[List.map_nil,nD] at he;cases he;cases hT
 | cons p r =>
  have hs:=hp p List.mem_cons_self;have hr:Sts H D S r:=fun x hx=>hp x (List.mem_cons_of_mem _ hx)
  rw[List.map_cons] at he;cases m with
  | zero=>rw[rV] at he;cases he
  | succ m =>
   obtain⟨s1,s2,s3,s4,s5,s6⟩:=h.look hs;by_cases hx:(Go.Proofs.Ytikmgiapjigghab.look σ p.2).var=0
   ·rw[aA8 hx] at he
    obtain⟨y,hy,h2⟩:=Option.bind_eq_some_iff.1 he;obtain⟨z,hz,rfl⟩:=Option.map_eq_some_iff.1 h2;have hle:=(aA7 _ _ _ hy).1;obtain⟨qs,q1,q2,q3⟩:=Sts.args h hs hx;rw[←q2] at hy;rcases List.mem_cons.1 hT with rfl|hT
    ·exact aW8.fn fun t ht=>ih m (by omega) qs y q3 hy t ht
    ·exact ih y.2 (by omega) r z hr hz T hT
   ·obtain⟨k1,k2,k3⟩:=s5 hx
    rw[wA hx] at he;obtain⟨z,hz,rfl⟩:=Option.map_eq_some_iff.1 he;rcases List.mem_cons.1 hT with rfl|hT
    ·have h1:=h.pos _ k2
     refine⟨WfT.bare (by omega),fun q hq _=>?_⟩;simp only[Tm.parts,Tm.partss,List.mem_singleton] at hq;subst hq;exact⟨k2,iB (gD h.store hx)⟩
    ·exact ih m (by omega) r z hr hz T hT
end
end Go.Proofs.Ytikmgiapjigghab
