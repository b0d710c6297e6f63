/- A machine's data, and how they stand in memory. -/
import Derived.Lib.SliceRun
import Derived.Test.YtikmgiapjigghaaCa03
import Derived.Test.YtikmgiapjigghaaCa13
import Derived.Test.YtikmgiapjigghaaCa16
import Derived.Test.YtikmgiapjigghaaCa17
import Derived.Test.YtikmgiapjigghaaCa19
namespace Go.Proofs.Ytikmgiapjigghaa
open Go.RowKit
structure Gl where
 at':Int
 cut:Int
 next:Int
structure Chi where
 goal:Int
 clause:Int
 heap:Int
 trail:Int
 goals:Int
structure Mac where
 H:List HC
 G:List Gl
 first:Int
 ch:List Chi
 T:List Int
 Q:List Int
 steps:Int
 fin:Int
 ans:List (List Tm)
def flatG:List Gl→List Value
 | []=>[]
 | g::r=>.int .i64 g.at'::.int .i64 g.cut::.int .i64 g.next::flatG r
def flatK:List Chi→List Value
 | []=>[]
 | c::r=>.int .i64 c.goal::.int .i64 c.clause::.int .i64 c.heap::.int .i64 c.trail::.int .i64 c.goals::flatK r
theorem flatG_append(l r:List Gl):flatG (l++r)=flatG l++flatG r:=by
 induction l with
 | nil=>rfl
 | cons x l ih=>simp only[List.cons_append,flatG,ih]
theorem flatK_append(l r:List Chi):flatK (l++r)=flatK l++flatK r:=by
 induction l with
 | nil=>rfl
 | cons x l ih=>simp only[List.cons_append,flatK,ih]
theorem flatG_length(l:List Gl):(flatG l).length=l.length*3:=by
 induction l with
 | nil=>rfl
 | cons x l ih=>simp only[flatG,List.length_cons,ih];omega
theorem flatK_length(l:List Chi):(flatK l).length=l.length*5:=by
 induction l with
 | nil=>rfl
 | cons x l ih=>simp only[flatK,List.length_cons,ih];omega
theorem flatG_one(l:List Gl):∀ u∈flatG l,u.oneCell'=true:=by
 induction l with
 | nil=>intro u hu;cases hu
 | cons x l ih =>
  intro u hu
  simp only[flatG,List.mem_cons] at hu
  rcases hu with rfl | rfl | rfl | hu
  ·rfl
  ·rfl
  ·rfl
  ·exact ih u hu
theorem flatK_one(l:List Chi):∀ u∈flatK l,u.oneCell'=true:=by
 induction l with
 | nil=>intro u hu;cases hu
 | cons x l ih =>
  intro u hu
  simp only[flatK,List.mem_cons] at hu
  rcases hu with rfl | rfl | rfl | rfl | rfl | hu
  ·rfl
  ·rfl
  ·rfl
  ·rfl
  ·rfl
  ·exact ih u hu
theorem flatG_at(l:List Gl)(i:Nat)(h:i<l.length):(flatG l)[i*3]? = some (.int .i64 l[i].at')∧(flatG l)[i*3+1]? = some (.int .i64 l[i].cut)∧(flatG l)[i*3+2]? = some (.int .i64 l[i].next):=by
 induction l generalizing i with
 | nil=>cases h
 | cons x l ih =>
  cases i with
  | zero=>exact⟨rfl,rfl,rfl⟩
  | succ i =>
   have:=ih i (by simpa using h)
   rw[show (i+1)*3=i*3+1+1+1 by omega]
   exact this
theorem flatK_at(l:List Chi)(i:Nat)(h:i<l.length):(flatK l)[i*5]? = some (.int .i64 l[i].goal)∧(flatK l)[i*5+1]? = some (.int .i64 l[i].clause)∧(flatK l)[i*5+2]? = some (.int .i64 l[i].heap)∧(flatK l)[i*5+3]? = some (.int .i64 l[i].trail)∧(flatK l)[i*5+4]? = some (.int .i64 l[i].goals):=by
 induction l generalizing i with
 | nil=>cases h
 | cons x l ih =>
  cases i with
  | zero=>exact⟨rfl,rfl,rfl,rfl,rfl⟩
  | succ i =>
   have:=ih i (by simpa using h)
   rw[show (i+1)*5=i*5+1+1+1+1+1 by omega]
   exact this
theorem flatG_take(l:List Gl)(k:Nat):flatG (l.take k)=(flatG l).take (k*3):=by
 induction l generalizing k with
 | nil=>simp[flatG]
 | cons x l ih =>
  cases k with
  | zero=>simp[flatG]
  | succ k=>rw[show (k+1)*3=k*3+1+1+1 by omega,List.take_succ_cons];simp only[flatG,List.take_succ_cons,ih]
theorem flatK_take(l:List Chi)(k:Nat):flatK (l.take k)=(flatK l).take (k*5):=by
 induction l generalizing k with
 | nil=>simp[flatK]
 | cons x l ih =>
  cases k with
  | zero=>simp[flatK]
  | succ k=>rw[show (k+1)*5=k*5+1+1+1+1+1 by omega,List.take_succ_cons];simp only[flatK,List.take_succ_cons,ih]
structure RwAt(w:World)(ok:Nat→Prop)(k n:Nat)(vs:List Value)(a:Option Addr)(cap:Nat):Prop where
 cap:n≤cap∧cap≤maxLen∧(a=none→cap=0)
 len:vs.length=n*k
 at':∀ j (u:Value),vs[j]? = some u→∃ b off,a=some ⟨b,off,none⟩∧ok b∧b<w.heap.size∧w.cell? ⟨b,off+j,none⟩=some u
section
variable {w w':World} {ok ok':Nat→Prop} {k n:Nat} {vs:List Value} {a:Option Addr} {cap:Nat}
theorem RwAt.keep(h:RwAt w ok k n vs a cap)(hk:Keeps ok w w'):RwAt w' ok k n vs a cap :=
 ⟨h.cap,h.len,fun j u hu=>by
  obtain⟨b,off,h1,h2,h3,h4⟩:=h.at' j u hu
  exact⟨b,off,h1,h2,Nat.lt_of_lt_of_le h3 hk.size,(hk.cell (p:=⟨b,_,none⟩) h2 h3).trans h4⟩⟩
theorem RwAt.mono(hm:∀ b,b<w.heap.size→ok b→ok' b)(h:RwAt w ok k n vs a cap):RwAt w ok' k n vs a cap :=
 ⟨h.cap,h.len,fun j u hu=>by
  obtain⟨b,off,h1,h2,h3,h4⟩:=h.at' j u hu
  exact⟨b,off,h1,hm b h3 h2,h3,h4⟩⟩
theorem RwAt.below(h:RwAt w ok k n vs a cap)(hb:Below w.heap.size w w'):RwAt w' ok k n vs a cap:=h.keep (Keeps.below hb ok)
theorem RwAt.nil(w:World)(ok:Nat→Prop)(k:Nat):RwAt w ok k 0 [] none 0:=⟨⟨Nat.le_refl _,Nat.zero_le _,fun _=>rfl⟩,by simp,fun j u hu=>by cases hu⟩
theorem RwAt.news{ad:Addr}(h:RwAt w ok k n vs (some ad) cap):∀ j u,vs[j]? = some u→w.cell? (ad.add j)=some u:=fun j u hu=>by
 obtain⟨b,off,h1,h2,h3,h4⟩:=h.at' j u hu
 cases h1
 rw[addr_add];exact h4
theorem RwAt.none(h:RwAt w ok k n vs Option.none cap):n=0∧vs = []∧cap=0:=by
 have h1:=h.cap.2.2 rfl
 have h2:n=0:=by have:=h.cap.1;omega
 exact⟨h2,List.eq_nil_of_length_eq_zero (by rw[h.len,h2,Nat.zero_mul]),h1⟩
theorem RwAt.some(h:RwAt w ok k n vs a cap)(hk:0<k)(hn:0<n):∃ b off,a=Option.some ⟨b,off,Option.none⟩∧ok b∧b<w.heap.size∧∀ j u,vs[j]? = Option.some u→w.cell? ⟨b,off+j,Option.none⟩=Option.some u:=by
 have hl:0<vs.length:=by rw[h.len];exact Nat.mul_pos hn hk
 obtain⟨b,off,h1,h2,h3,_⟩:=h.at' 0 vs[0] (List.getElem?_eq_getElem hl)
 refine⟨b,off,h1,h2,h3,fun j u hu=>?_⟩
 obtain⟨b',off',e1,_,_,e4⟩:=h.at' j u hu
 rw[h1] at e1
 cases e1
 exact e4
theorem RwAt.of_row{base:Nat}{e:TypeId}{v:Value}(h:w.ownsRow base e k v n vs)(hl:vs.length=n*k)(hok:∀ b,v.ownBlock=Option.some b→ok b):∃ a cap,v=.slice a n cap∧RwAt w ok k n vs a cap:=by
 rcases h.2 with ⟨rfl,hn⟩ | ⟨g,cap,cur,rfl,hb,hg,hcap,hml,hsz,htk⟩
 ·subst hn
  have:vs = []:=List.eq_nil_of_length_eq_zero (by rw[hl,Nat.zero_mul])
  subst this
  exact⟨Option.none,0,rfl,RwAt.nil _ _ _⟩
 ·refine⟨_,cap,rfl,⟨hcap,hml,fun e=>nomatch e⟩,hl,fun j u hu=>?_⟩
  have hlt:g<w.heap.size:=(h.lt g rfl).2
  have:=h.cells (g:=g) rfl j u hu
  rw[addr_add,Nat.zero_add] at this
  exact⟨g,0,rfl,hok g rfl,hlt,by rw[Nat.zero_add];exact this⟩
end
structure MAd where
 h:Option Addr
 g:Option Addr
 c:Option Addr
 t:Option Addr
 q:Option Addr
 a:Option Addr
 hn:Nat
 gn:Nat
 cn:Nat
 tn:Nat
 qn:Nat
 an:Nat
def Mac.vals(m:Mac)(d:MAd):List Value :=
 [.slice d.h m.H.length d.hn,.slice d.g m.G.length d.gn,.int .i64 m.first,.slice d.c m.ch.length d.cn,.slice d.t m.T.length d.tn,.slice d.q m.Q.length d.qn,.int .i64 m.steps,.int .i64 m.fin,.slice d.a m.ans.length d.an]
structure MacAt(w:World)(ok:Nat→Prop)(m:Mac)(d:MAd):Prop where
 h:HpAt w ok m.H d.h d.hn
 g:RwAt w ok 3 m.G.length (flatG m.G) d.g d.gn
 c:RwAt w ok 5 m.ch.length (flatK m.ch) d.c d.cn
 t:IsAt w ok m.T d.t d.tn
 q:IsAt w ok m.Q d.q d.qn
 a:AsAt w ok m.ans d.a d.an
theorem MacAt.keep{w w':World}{ok:Nat→Prop}{m:Mac}{d:MAd}(h:MacAt w ok m d)(hk:Keeps ok w w'):MacAt w' ok m d :=
 ⟨h.h.keep hk,h.g.keep hk,h.c.keep hk,h.t.keep hk,h.q.keep hk,h.a.keep hk⟩
theorem MacAt.mono{w:World}{ok ok':Nat→Prop}{m:Mac}{d:MAd}(hm:∀ b,b<w.heap.size→ok b→ok' b)(h:MacAt w ok m d):MacAt w ok' m d :=
 ⟨h.h.mono hm,h.g.mono hm,h.c.mono hm,h.t.mono hm,h.q.mono hm,h.a.mono hm⟩
structure MBox(w:World)(b:Nat)(m:Mac)(d:MAd):Prop where
 blk:w.heap[b]? = some (.cells (m.vals d).toArray 81 (0,0))
theorem MBox.lt{w:World}{b:Nat}{m:Mac}{d:MAd}(h:MBox w b m d):b<w.heap.size:=(Array.getElem?_eq_some_iff.1 h.blk).1
theorem MBox.keep{w w':World}{b:Nat}{m:Mac}{d:MAd}(h:MBox w b m d)(hb:w'.heap[b]? = w.heap[b]?):MBox w' b m d:=⟨hb.trans h.blk⟩
theorem MBox.below{w w':World}{b:Nat}{m:Mac}{d:MAd}(h:MBox w b m d)(hb:Below w.heap.size w w'):MBox w' b m d:=h.keep (hb.block b h.lt)
theorem MBox.made(w:World)(m:Mac)(d:MAd):MBox (w.alloc (.cells (m.vals d).toArray 81)) w.heap.size m d:=⟨heap_alloc_new w _⟩
theorem MBox.all{w:World}{b:Nat}{m:Mac}{d:MAd}(h:MBox w b m d) :
 w.cell? ⟨b,0,none⟩=some (.slice d.h m.H.length d.hn)∧w.cell? ⟨b,1,none⟩=some (.slice d.g m.G.length d.gn)∧w.cell? ⟨b,2,none⟩=some (.int .i64 m.first)∧w.cell? ⟨b,3,none⟩=some (.slice d.c m.ch.length d.cn)∧w.cell? ⟨b,4,none⟩=some (.slice d.t m.T.length d.tn) ∧
 w.cell? ⟨b,5,none⟩=some (.slice d.q m.Q.length d.qn)∧w.cell? ⟨b,6,none⟩=some (.int .i64 m.steps)∧w.cell? ⟨b,7,none⟩=some (.int .i64 m.fin)∧w.cell? ⟨b,8,none⟩=some (.slice d.a m.ans.length d.an)∧∀ o,w.frozen? ⟨b,o,none⟩=false:=by
 have h':=h.blk
 exact⟨by simp[World.cell?,h',Mac.vals],by simp[World.cell?,h',Mac.vals],by simp[World.cell?,h',Mac.vals],by simp[World.cell?,h',Mac.vals],by simp[World.cell?,h',Mac.vals],by simp[World.cell?,h',Mac.vals],by simp[World.cell?,h',Mac.vals],by simp[World.cell?,h',Mac.vals],by simp[World.cell?,h',Mac.vals],fun o=>by simp[World.frozen?,h']⟩
end Go.Proofs.Ytikmgiapjigghaa

/- Plain: when a machine is right. -/
namespace Go.Proofs.Ytikmgiapjigghaa
open Go.RowKit
def InH(n:Nat)(x:Int):Prop:=0≤x∧x<(n:Int)
instance (n:Nat) (x:Int):Decidable (InH n x):=inferInstanceAs (Decidable (_∧_))
def CellIn(H:List HC)(i:Nat):Prop:=((hc H i).k=1→InH H.length (hc H i).n)∧((hc H i).k=2→(i:Int)+(hc H i).n<(H.length:Int))
structure There(H:List HC)(G:List Gl)(T Q:List Int):Prop where
 cells:∀ i,i<H.length→CellIn H i
 goals:∀ g,g∈G→InH H.length g.at'
 trail:∀ x,x∈T→InH H.length x
 query:∀ x,x∈Q→InH H.length x
noncomputable def pd(p:Prop):Bool:=@decide p (Classical.propDecidable p)
theorem pd_true{p:Prop}(h:p):pd p=true:=@decide_eq_true p (Classical.propDecidable p) h
theorem pd_false{p:Prop}(h:¬ p):pd p=false:=@decide_eq_false p (Classical.propDecidable p) h
noncomputable def thereB(m:Mac):Bool:=pd (There m.H m.G m.T m.Q)
def unbind(top:Int):List Int→List HC→List HC
 | [],H=>H
 | x::r,H=>unbind top r (if x<top then H.set x.toNat ⟨1,x,⟨#[]⟩⟩ else H)
theorem unbind_length(top:Int):∀ (l:List Int) (H:List HC),(unbind top l H).length=H.length:=by
 intro l
 induction l with
 | nil=>intro H;rfl
 | cons x r ih=>intro H;simp only[unbind];rw[ih];split <;> simp
def undoM(m:Mac)(c:Chi):Mac:={ m with H:=(unbind c.heap (m.T.drop c.trail.toNat) m.H).take c.heap.toNat,T:=m.T.take c.trail.toNat,G:=m.G.take c.goals.toNat }
def Lasting:List Chi→Mac→Prop
 | [],_=>True
 | c::r,m=>There (undoM m c).H (undoM m c).G (undoM m c).T (undoM m c).Q∧Lasting r (undoM m c)
structure ChoiceOk(np ng nh nt:Nat)(was c:Chi):Prop where
 goal:1≤c.goal∧c.goal≤(ng:Int)
 clause:0≤c.clause∧c.clause≤(np:Int)
 heap:was.heap≤c.heap∧c.heap≤(nh:Int)
 trail:was.trail≤c.trail∧c.trail≤(nt:Int)
 goals:was.goals≤c.goals∧c.goals≤(ng:Int)
 own:c.goal≤c.goals
def ChoicesOk(np ng nh nt:Nat):Chi→List Chi→Prop
 | _,[]=>True
 | was,c::r=>ChoiceOk np ng nh nt was c∧ChoicesOk np ng nh nt c r
def zeroChi:Chi:=⟨0,0,0,0,0⟩
def GoalsOk(G:List Gl):Prop:=∀ i (h:i<G.length),0≤G[i].next∧G[i].next≤(i:Int)∧0≤G[i].cut
def RangeOk(m:Mac):Prop:=(0≤m.steps∧m.steps≤400)∧0≤m.fin∧m.fin≤4
noncomputable def checkM(p:List Cl)(m:Mac):Nat :=
 if programE p≠0 then programE p else if checkH m.H≠0 then checkH m.H
 else if 5000<m.G.length∨12<m.Q.length then 2
 else if thereB m=false then 5
 else if pd (GoalsOk m.G)=false then 4
 else if ¬ (0≤m.first∧m.first≤(m.G.length:Int)) then 4
 else if pd (ChoicesOk p.length m.G.length m.H.length m.T.length zeroChi m.ch)=false then 4
 else if pd (Lasting m.ch.reverse m)=false then 4
 else if pd (RangeOk m)=false then 3 else 0
end Go.Proofs.Ytikmgiapjigghaa

/- Walks: a machine's There. -/
namespace Go.Proofs.Ytikmgiapjigghaa
open Go.RowKit
set_option maxRecDepth 100000 in
set_option maxHeartbeats 400000 in
theorem withinW(n lo hi:Int)(w:World) :
 Calls Try.prog 94 #[.int .i64 n,.int .i64 lo,.int .i64 hi] w fun e w'=>e=.returned (.bool (betw n lo hi))∧w=w':=by
 go_enter Try.func94,Try.ntmps94
 go_wp2_with fail
 all_goals
  go_ret
  refine⟨ret_betw n lo hi _ ?_,rfl⟩
  simp <;> omega
theorem betw_inH(n:Nat)(x:Int):betw x 0 ((n:Int)-1)=decide (InH n x):=by
 unfold betw InH
 exact decide_eq_decide.2 (by omega)
set_option maxRecDepth 100000 in
set_option maxHeartbeats 400000 in
theorem NoW(B n cap:Nat)(a:Option Addr)(x:Int)(w:World)(h:w.cell? ⟨B,0,none⟩=some (.slice a n cap))(hn:n≤9223372036854775807) :
 Calls Try.prog 121 #[.int .i64 x,.pointer (some ⟨B,0,none⟩)] w fun e w'=>e=.returned (.bool (!decide (InH n x)))∧w'=w:=by
 have hb:=betw_inH n x
 go_enter Try.func121,Try.ntmps121
 go_wp2_with (go_at_call 94;refine(withinW _ _ _ _).mono ?_;rintro e w1 ⟨rfl,rfl⟩)
 go_ret
 refine⟨?_,rfl⟩
 rw[← hb]
 rfl
end Go.Proofs.Ytikmgiapjigghaa

/- Walks: what slices.ContainsFunc answers of a machine's goals and numbers. -/
namespace Go.Proofs.Ytikmgiapjigghaa
open Go.RowKit
structure NoAt(w:World)(B B3 n cap:Nat)(a:Option Addr):Prop where
 mac:w.cell? ⟨B,0,none⟩=some (.slice a n cap)
 fn:w.cell? ⟨B3,0,none⟩=some (.func (.func 121) #[] #[.pointer (some ⟨B,0,none⟩)])
 lt:B<w.heap.size∧B3<w.heap.size
theorem NoAt.below{w w':World}{B B3 n cap:Nat}{a:Option Addr}(h:NoAt w B B3 n cap a)(hb:Below w.heap.size w w'):NoAt w' B B3 n cap a :=
 ⟨(hb.cell (p:=⟨B,0,none⟩) h.lt.1).trans h.mac,(hb.cell (p:=⟨B3,0,none⟩) h.lt.2).trans h.fn,Nat.lt_of_lt_of_le h.lt.1 hb.size,Nat.lt_of_lt_of_le h.lt.2 hb.size⟩
set_option maxRecDepth 100000 in
set_option maxHeartbeats 400000 in
theorem No2W{B B3 n cap:Nat}{a:Option Addr}(g:Gl){w:World}(h:NoAt w B B3 n cap a)(hn:n≤9223372036854775807) :
 Calls Try.prog 123 #[.agg #[.int .i64 g.at',.int .i64 g.cut,.int .i64 g.next],.pointer (some ⟨B3,0,none⟩)] w fun e w'=>e=.returned (.bool (!decide (InH n g.at')))∧Below w.heap.size w w':=by
 have hB:Below w.heap.size w (w.alloc (.cells #[.int .i64 g.at',.int .i64 g.cut,.int .i64 g.next] 155)):=(Below.refl _ _).alloc (Nat.le_refl _) _
 have H2:=Lib.hid (h.below hB)
 have HB:=Lib.hid hB
 obtain⟨m0,f0,-⟩:=h.below hB
 clear h hB
 go_enter Try.func123,Try.ntmps123
 go_wp2_with (go_at_call 121;refine(NoW B n cap a _ _ H2.out.mac hn).mono ?_;rintro e w1 ⟨rfl,rfl⟩)
 go_ret
 exact⟨rfl,HB.out⟩
set_option maxRecDepth 100000 in
set_option maxHeartbeats 400000 in
theorem IndexIntsW{B B3 n cap:Nat}{a:Option Addr}(l:List Int){w:World}{ok:Nat→Prop}{a2:Option Addr}{c2:Nat}(hl:IsAt w ok l a2 c2)(h:NoAt w B B3 n cap a)(hn:n≤9223372036854775807) :
 Calls Try.prog 147 #[.slice a2 l.length c2,.func (.func 121) #[] #[.pointer (some ⟨B,0,none⟩)]] w fun e w'=>(∃ r:Int,e=.returned (.int .i64 r)∧((r = -1∧∀ x,x∈l→InH n x)∨(0≤r∧∃ x,x∈l∧¬ InH n x)))∧w'=w:=by
 have HL:=Lib.hid hl
 have HN:=Lib.hid h
 have hcl:l.length≤9223372036854775807:=by have:=hl.cap;unfold maxLen at this;omega
 clear hl h
 go_enter Try.func147,Try.ntmps147
 go_wp2_with fail
 go_loopw[8] (fun x8 wr=>∃ i:Nat,i≤l.length∧x8=.int .i64 i∧wr=w∧Hid (∀ j (hj:j<l.length),j<i→InH n l[j])) (fun x8 _=>l.length-(intOf x8).toNat)
 case atStart=>exact⟨0,Nat.zero_le _,rfl,rfl,Lib.hid fun j _ h=>absurd h (Nat.not_lt_zero j)⟩
 case round =>
  obtain⟨i,hi,rfl,rfl,HI⟩:=hrel
  by_cases hlt:i<l.length
  ·obtain⟨b,off,rfl,-,hb,hc⟩:=HL.out.at' i hlt
   by_cases hx:InH n l[i]
   ·have hd:(!decide (InH n l[i]))=false:=by rw[decide_eq_true hx];rfl
    have HI2:Hid (∀ j (hj:j<l.length),j<i+1→InH n l[j]):=Lib.hid fun j hj h=>by
     by_cases e:j=i
     ·subst e;exact hx
     ·exact HI.out j hj (by omega)
    clear hx
    go_wp2_with (go_at_call 121;refine(NoW B n cap a _ _ HN.out.mac hn).mono ?_;rintro e w1 ⟨rfl,rfl⟩)
    go_roundw
    case measure=>simp only[intOf];omega
    case rel=>exact⟨i+1,by omega,by go_num,by trivial,HI2⟩
   ·have hd:(!decide (InH n l[i]))=true:=by rw[decide_eq_false hx];rfl
    have HX:Hid (∃ x,x∈l∧¬ InH n x):=Lib.hid ⟨_,List.getElem_mem hlt,hx⟩
    clear hx
    go_wp2_with (go_at_call 121;refine(NoW B n cap a _ _ HN.out.mac hn).mono ?_;rintro e w1 ⟨rfl,rfl⟩)
    go_ret
    exact⟨⟨_,rfl,.inr ⟨by omega,HX.out⟩⟩,rfl⟩
  ·have HX:Hid (∀ x,x∈l→InH n x):=Lib.hid fun x hx=>by
    obtain⟨j,hj,rfl⟩:=List.getElem_of_mem hx
    exact HI.out j hj (by omega)
   go_wp2_with fail
   go_ret
   exact⟨⟨_,rfl,.inl ⟨rfl,HX.out⟩⟩,rfl⟩
set_option maxRecDepth 100000 in
set_option maxHeartbeats 400000 in
theorem HasIntsW{B B3 n cap:Nat}{a:Option Addr}(l:List Int){w:World}{ok:Nat→Prop}{a2:Option Addr}{c2:Nat}(hl:IsAt w ok l a2 c2)(h:NoAt w B B3 n cap a)(hn:n≤9223372036854775807) :
 Calls Try.prog 124 #[.slice a2 l.length c2,.func (.func 121) #[] #[.pointer (some ⟨B,0,none⟩)]] w fun e w'=>e=.returned (.bool (!pd (∀ x,x∈l→InH n x)))∧w'=w:=by
 have HI:=Lib.hid (IndexIntsW l hl h hn)
 go_enter Try.func124,Try.ntmps124
 go_wp2_with (go_at_call 147;refine HI.out.mono ?_;rintro e w1 ⟨⟨r,rfl,hr⟩,rfl⟩)
 go_ret
 refine⟨?_,rfl⟩
 rcases hr with ⟨rfl,h1⟩ | ⟨h0,x,hx,h1⟩
 ·rw[pd_true h1];rfl
 ·rw[pd_false fun e=>h1 (e x hx)]
  refine congrArg (fun b=>Ending.returned (.bool b)) ?_
  simpa using h0
set_option maxRecDepth 100000 in
set_option maxHeartbeats 400000 in
theorem IndexGoalsW{B B3 n cap:Nat}{a:Option Addr}(l:List Gl){w:World}{ok:Nat→Prop}{a2:Option Addr}{c2:Nat}(hl:RwAt w ok 3 l.length (flatG l) a2 c2)(h:NoAt w B B3 n cap a)(hn:n≤9223372036854775807) :
 Calls Try.prog 146 #[.slice a2 l.length c2,.func (.func 123) #[] #[.pointer (some ⟨B3,0,none⟩)]] w fun e w'=>(∃ r:Int,e=.returned (.int .i64 r)∧((r = -1∧∀ x,x∈l→InH n x.at')∨(0≤r∧∃ x,x∈l∧¬ InH n x.at')))∧Below w.heap.size w w':=by
 have HL:=Lib.hid hl
 have HN:=Lib.hid h
 have hcl:l.length≤9223372036854775807:=by have:=hl.cap;unfold maxLen at this;omega
 clear hl h
 go_enter Try.func146,Try.ntmps146
 go_wp2_with fail
 go_loopw[8] (fun x8 wr=>∃ i:Nat,i≤l.length∧x8=.int .i64 i∧Hid (Below w.heap.size w wr)∧Hid (∀ j (hj:j<l.length),j<i→InH n l[j].at')) (fun x8 _=>l.length-(intOf x8).toNat)
 case atStart=>exact⟨0,Nat.zero_le _,rfl,Lib.hid (Below.refl _ _),Lib.hid fun j _ h=>absurd h (Nat.not_lt_zero j)⟩
 case round =>
  obtain⟨i,hi,rfl,HB,HI⟩:=hrel
  by_cases hlt:i<l.length
  ·obtain⟨b,off,rfl,-,hb,hc⟩:=(HL.out.mono (ok':=fun _=>True) fun _ _ _=>trivial).some (by decide) (Nat.lt_of_le_of_lt (Nat.zero_le _) hlt)
   obtain⟨g0,g1,g2⟩:=flatG_at l i hlt
   have c0:=(HB.out.cell (p:=⟨b,off+i*3,none⟩) hb).trans (hc _ _ g0)
   have c1:wr.cell? ⟨b,off+i*3+1,none⟩=_:=(HB.out.cell (p:=⟨b,off+(i*3+1),none⟩) hb).trans (hc _ _ g1)
   have c2:wr.cell? ⟨b,off+i*3+2,none⟩=_:=(HB.out.cell (p:=⟨b,off+(i*3+2),none⟩) hb).trans (hc _ _ g2)
   have HC:=Lib.hid (No2W l[i] (HN.out.below HB.out) hn)
   clear g0 g1 g2 hc
   by_cases hx:InH n l[i].at'
   ·rw[decide_eq_true hx] at HC
    have HI2:Hid (∀ j (hj:j<l.length),j<i+1→InH n l[j].at'):=Lib.hid fun j hj h=>by
     by_cases e:j=i
     ·subst e;exact hx
     ·exact HI.out j hj (by omega)
    clear hx
    go_wp2_with (go_at_call 123;refine HC.out.mono ?_;rintro e w1 ⟨rfl,hb1⟩;have HB1:=Lib.hid (HB.out.trans (hb1.mono HB.out.size));clear hb1)
    go_roundw
    case measure=>simp only[intOf];omega
    case rel=>exact⟨i+1,by omega,by go_num,HB1,HI2⟩
   ·rw[decide_eq_false hx] at HC
    have HX:Hid (∃ x,x∈l∧¬ InH n x.at'):=Lib.hid ⟨_,List.getElem_mem hlt,hx⟩
    clear hx
    go_wp2_with (go_at_call 123;refine HC.out.mono ?_;rintro e w1 ⟨rfl,hb1⟩;have HB1:=Lib.hid (HB.out.trans (hb1.mono HB.out.size));clear hb1)
    go_ret
    exact⟨⟨_,rfl,.inr ⟨by omega,HX.out⟩⟩,HB1.out⟩
  ·have HX:Hid (∀ x,x∈l→InH n x.at'):=Lib.hid fun x hx=>by
    obtain⟨j,hj,rfl⟩:=List.getElem_of_mem hx
    exact HI.out j hj (by omega)
   go_wp2_with fail
   go_ret
   exact⟨⟨_,rfl,.inl ⟨rfl,HX.out⟩⟩,HB.out⟩
set_option maxRecDepth 100000 in
set_option maxHeartbeats 400000 in
theorem HasGoalsW{B B3 n cap:Nat}{a:Option Addr}(l:List Gl){w:World}{ok:Nat→Prop}{a2:Option Addr}{c2:Nat}(hl:RwAt w ok 3 l.length (flatG l) a2 c2)(h:NoAt w B B3 n cap a)(hn:n≤9223372036854775807) :
 Calls Try.prog 122 #[.slice a2 l.length c2,.func (.func 123) #[] #[.pointer (some ⟨B3,0,none⟩)]] w fun e w'=>e=.returned (.bool (!pd (∀ x,x∈l→InH n x.at')))∧Below w.heap.size w w':=by
 have HI:=Lib.hid (IndexGoalsW l hl h hn)
 go_enter Try.func122,Try.ntmps122
 go_wp2_with (go_at_call 146;refine HI.out.mono ?_;rintro e w1 ⟨⟨r,rfl,hr⟩,hb1⟩;have HB1:=Lib.hid hb1;clear hb1)
 go_ret
 refine⟨?_,HB1.out⟩
 rcases hr with ⟨rfl,h1⟩ | ⟨h0,x,hx,h1⟩
 ·rw[pd_true h1];rfl
 ·rw[pd_false fun e=>h1 (e x hx)]
  refine congrArg (fun b=>Ending.returned (.bool b)) ?_
  simpa using h0
end Go.Proofs.Ytikmgiapjigghaa

/- Walks: a machine's There, whole. -/
namespace Go.Proofs.Ytikmgiapjigghaa
open Go.RowKit
theorem run_store_func'{P:Program}{w:World}{a:Addr}{m:Mode}(f:Fn)(x y:Array Value):(store a (.func f x y) m).run P w=stored P w a (.func f x y) m:=run_store P w a _ m rfl
attribute [local go_sem] run_store_func'
def NearH(H:List HC):Prop:=∀ i,i<H.length→(hc H i).k=2→0≤(hc H i).n∧(hc H i).n≤4
set_option maxRecDepth 100000 in
set_option maxHeartbeats 1600000 in
theorem ThereW(m:Mac)(d:MAd){w:World}{ok:Nat→Prop}(h:MacAt w ok m d)(hN:NearH m.H)(hlen:m.H.length≤400000) :
 Calls Try.prog 92 #[.agg #[.slice d.h m.H.length d.hn,.slice d.g m.G.length d.gn,.int .i64 m.first,.slice d.c m.ch.length d.cn,.slice d.t m.T.length d.tn,.slice d.q m.Q.length d.qn,.int .i64 m.steps,.int .i64 m.fin,.slice d.a m.ans.length d.an]] w
  fun e w'=>e=.returned (.bool (thereB m))∧Below w.heap.size w w':=by
 obtain⟨dh,dg,dc,dt,dq,da,dhn,dgn,dcn,dtn,dqn,dan⟩:=d
 simp only
 have HM:Hid (MacAt w (fun b=>b<w.heap.size) m ⟨dh,dg,dc,dt,dq,da,dhn,dgn,dcn,dtn,dqn,dan⟩):=Lib.hid (h.mono fun b hb _=>hb)
 have HNR:=Lib.hid hN
 have hn9:m.H.length≤9223372036854775807:=by omega
 have B1:Below w.heap.size w (w.alloc (.cells (m.vals ⟨dh,dg,dc,dt,dq,da,dhn,dgn,dcn,dtn,dqn,dan⟩).toArray 81)):=(Below.refl _ _).alloc (Nat.le_refl _) _
 have hsz:(w.alloc (.cells (m.vals ⟨dh,dg,dc,dt,dq,da,dhn,dgn,dcn,dtn,dqn,dan⟩).toArray 81)).heap.size=w.heap.size+1:=by simp
 have HB2:Hid (Below w.heap.size w ((w.alloc (.cells (m.vals ⟨dh,dg,dc,dt,dq,da,dhn,dgn,dcn,dtn,dqn,dan⟩).toArray 81)).alloc (.cells #[.func (.func 121) #[] #[.pointer (some ⟨w.heap.size,0,none⟩)]] 175))):=Lib.hid (B1.alloc B1.size _)
 have HX:Hid (MBox ((w.alloc (.cells (m.vals ⟨dh,dg,dc,dt,dq,da,dhn,dgn,dcn,dtn,dqn,dan⟩).toArray 81)).alloc (.cells #[.func (.func 121) #[] #[.pointer (some ⟨w.heap.size,0,none⟩)]] 175)) w.heap.size m ⟨dh,dg,dc,dt,dq,da,dhn,dgn,dcn,dtn,dqn,dan⟩):=Lib.hid ((MBox.made w m ⟨dh,dg,dc,dt,dq,da,dhn,dgn,dcn,dtn,dqn,dan⟩).below ((Below.refl _ _).alloc (Nat.le_refl _) _))
 have HF:Hid (((w.alloc (.cells (m.vals ⟨dh,dg,dc,dt,dq,da,dhn,dgn,dcn,dtn,dqn,dan⟩).toArray 81)).alloc (.cells #[.func (.func 121) #[] #[.pointer (some ⟨w.heap.size,0,none⟩)]] 175)).heap[w.heap.size+1]? = some (.cells #[.func (.func 121) #[] #[.pointer (some ⟨w.heap.size,0,none⟩)]] 175 (0,0))):=Lib.hid (by rw[← hsz];exact heap_alloc_new _ _)
 clear h hN B1 hsz
 simp only[Mac.vals] at HX HF HB2
 go_enter Try.func92,Try.ntmps92
 go_wp2_with fail
 go_loopw[10] (fun x10 wr=>∃ i:Nat,i≤m.H.length∧x10=.int .i64 i∧Hid (MBox wr w.heap.size m ⟨dh,dg,dc,dt,dq,da,dhn,dgn,dcn,dtn,dqn,dan⟩)∧Hid (wr.heap[w.heap.size+1]? = some (.cells #[.func (.func 121) #[] #[.pointer (some ⟨w.heap.size,0,none⟩)]] 175 (0,0)))∧Hid (Below w.heap.size w wr)∧Hid (w.heap.size+2≤wr.heap.size)∧Hid (∀ j,j<i→CellIn m.H j)) (fun x10 _=>m.H.length-(intOf x10).toNat)
 case atStart=>exact⟨0,Nat.zero_le _,rfl,HX,HF,HB2,Lib.hid (by simp),Lib.hid fun j h=>absurd h (Nat.not_lt_zero j)⟩
 case round =>
  obtain⟨i,hi,rfl,HX2,HF2,HB3,HS3,HI⟩:=hrel
  have HN:Hid (NoAt wr w.heap.size (w.heap.size+1) m.H.length dhn dh):=Lib.hid ⟨HX2.out.all.1,by rw[Lib.cell_of_heap HF2.out];rfl,by have:=HS3.out;omega⟩
  by_cases hlt:i<m.H.length
  ·obtain⟨b,off,hda,hokb,hb,c0,c1,c2,hf⟩:=HM.out.h.at' i hlt
   have hda':dh=some ⟨b,off,none⟩:=hda
   clear hda
   subst hda'
   have m0:=(HB3.out.cell (p:=⟨b,off+i*3,none⟩) hb).trans c0
   have m1:=(HB3.out.cell (p:=⟨b,off+i*3+1,none⟩) hb).trans c1
   have m2:=(HB3.out.cell (p:=⟨b,off+i*3+2,none⟩) hb).trans c2
   obtain⟨x0,-⟩:=HX2.out.all
   have f0:wr.cell? ⟨w.heap.size+1,0,none⟩=some (.func (.func 121) #[] #[.pointer (some ⟨w.heap.size,0,none⟩)]):=HN.out.fn
   have z1:w.heap.size+1<wr.heap.size:=HN.out.lt.2
   have z0:w.heap.size<wr.heap.size:=HN.out.lt.1
   clear c0 c1 c2 hf hokb
   have hcb:(m.H.length:Int)≤400000:=by omega
   have HNX:Hid (∀ X,Calls Try.prog 121 #[.int .i64 (hc m.H i).n,.pointer (some ⟨w.heap.size,0,none⟩)] (wr.alloc X) fun e w'=>e=.returned (.bool (!decide (InH m.H.length (hc m.H i).n)))∧w'=wr.alloc X):=Lib.hid fun X =>
    NoW w.heap.size m.H.length dhn (some ⟨b,off,none⟩) (hc m.H i).n _ (HN.out.below ((Below.refl _ _).alloc (Nat.le_refl _) X)).mac hn9
   have HNR2:=HNR.out i hlt
   by_cases hk1:(hc m.H i).k=1
   ·have hk2:(hc m.H i).k≠2:=by omega
    rw[hk1] at m0
    have BB:Hid (Below wr.heap.size wr (wr.alloc (.cells #[.int .i64 1,.int .i64 (hc m.H i).n,.string (hc m.H i).name] 120))):=Lib.hid ((Below.refl _ _).alloc (Nat.le_refl _) _)
    by_cases hin:InH m.H.length (hc m.H i).n
    ·rw[decide_eq_true hin] at HNX
     have HI2:Hid (∀ j,j<i+1→CellIn m.H j):=Lib.hid fun j hj=>by
      by_cases e:j=i
      ·subst e;exact⟨fun _=>hin,fun e=>absurd e hk2⟩
      ·exact HI.out j (by omega)
     clear hin hk1 hk2 HNR2
     go_wp2_with (go_at_call 121;refine(HNX.out _).mono ?_;rintro e w1 ⟨rfl,rfl⟩)
     go_roundw
     case measure=>simp only[intOf];omega
     case rel=>exact⟨i+1,by omega,by go_num,Lib.hid (HX2.out.below BB.out),Lib.hid ((BB.out.block _ z1).trans HF2.out),Lib.hid (HB3.out.trans (BB.out.mono (Nat.le_of_lt z0))),Lib.hid (Nat.le_trans HS3.out BB.out.size),HI2⟩
    ·rw[decide_eq_false hin] at HNX
     have HT:Hid (thereB m=false):=Lib.hid (pd_false fun h=>hin ((h.cells i hlt).1 hk1))
     clear hin hk1 hk2 HNR2
     go_wp2_with (go_at_call 121;refine(HNX.out _).mono ?_;rintro e w1 ⟨rfl,rfl⟩)
     go_ret
     rw[HT.out]
     exact⟨rfl,HB3.out.trans (BB.out.mono (Nat.le_of_lt z0))⟩
   ·have hk1':((hc m.H i).k == 1)=false:=by simpa using hk1
    have BB:Hid (∀ k,Below wr.heap.size wr (wr.alloc (.cells #[.int .i64 k,.int .i64 (hc m.H i).n,.string (hc m.H i).name] 120))):=Lib.hid fun k=>((Below.refl _ _).alloc (Nat.le_refl _) _)
    by_cases hk2:(hc m.H i).k=2
    ·have BB:=Lib.hid (BB.out 2)
     obtain⟨n0,n4⟩:=HNR2 hk2
     rw[hk2] at m0 hk1'
     by_cases hin:(i:Int)+(hc m.H i).n<(m.H.length:Int)
     ·have HI2:Hid (∀ j,j<i+1→CellIn m.H j):=Lib.hid fun j hj=>by
       by_cases e:j=i
       ·subst e;exact⟨fun e=>absurd e hk1,fun _=>hin⟩
       ·exact HI.out j (by omega)
      clear hk1 hk2 HNR2
      go_wp2_with fail
      go_roundw
      case measure=>simp only[intOf];omega
      case rel=>exact⟨i+1,by omega,by go_num,Lib.hid (HX2.out.below BB.out),Lib.hid ((BB.out.block _ z1).trans HF2.out),Lib.hid (HB3.out.trans (BB.out.mono (Nat.le_of_lt z0))),Lib.hid (Nat.le_trans HS3.out BB.out.size),HI2⟩
     ·have HT:Hid (thereB m=false):=Lib.hid (pd_false fun h=>hin ((h.cells i hlt).2 hk2))
      clear hk1 hk2 HNR2
      go_wp2_with fail
      go_ret
      rw[HT.out]
      exact⟨rfl,HB3.out.trans (BB.out.mono (Nat.le_of_lt z0))⟩
    ·have hk2':((hc m.H i).k == 2)=false:=by simpa using hk2
     have BB:=Lib.hid (BB.out (hc m.H i).k)
     have HI2:Hid (∀ j,j<i+1→CellIn m.H j):=Lib.hid fun j hj=>by
      by_cases e:j=i
      ·subst e;exact⟨fun e=>absurd e hk1,fun e=>absurd e hk2⟩
      ·exact HI.out j (by omega)
     clear hk1 hk2 HNR2
     go_wp2_with fail
     go_roundw
     case measure=>simp only[intOf];omega
     case rel=>exact⟨i+1,by omega,by go_num,Lib.hid (HX2.out.below BB.out),Lib.hid ((BB.out.block _ z1).trans HF2.out),Lib.hid (HB3.out.trans (BB.out.mono (Nat.le_of_lt z0))),Lib.hid (Nat.le_trans HS3.out BB.out.size),HI2⟩
  ·have HCI:Hid (∀ j,j<m.H.length→CellIn m.H j):=Lib.hid fun j hj=>HI.out j (by omega)
   obtain⟨x0,x1,x2,x3,x4,x5,x6,x7,x8,-⟩:=HX2.out.all
   have f0:wr.cell? ⟨w.heap.size+1,0,none⟩=some (.func (.func 121) #[] #[.pointer (some ⟨w.heap.size,0,none⟩)]):=HN.out.fn
   have HB4:=Lib.hid (HM.out.keep (Keeps.below HB3.out _))
   have HG:=Lib.hid (HasGoalsW m.G HB4.out.g HN.out hn9)
   have HTI:Hid (∀ w',Below wr.heap.size wr w'→Calls Try.prog 124 #[.slice dt m.T.length dtn,.func (.func 121) #[] #[.pointer (some ⟨w.heap.size,0,none⟩)]] w' fun e w''=>e=.returned (.bool (!pd (∀ x,x∈m.T→InH m.H.length x)))∧w''=w'):=Lib.hid fun w' hb=>HasIntsW m.T (HB4.out.t.below hb) (HN.out.below hb) hn9
   have HQI:Hid (∀ w',Below wr.heap.size wr w'→Calls Try.prog 124 #[.slice dq m.Q.length dqn,.func (.func 121) #[] #[.pointer (some ⟨w.heap.size,0,none⟩)]] w' fun e w''=>e=.returned (.bool (!pd (∀ x,x∈m.Q→InH m.H.length x)))∧w''=w'):=Lib.hid fun w' hb=>HasIntsW m.Q (HB4.out.q.below hb) (HN.out.below hb) hn9
   have z0:w.heap.size≤wr.heap.size:=HB3.out.size
   by_cases hg:∀ x,x∈m.G→InH m.H.length x.at'
   ·by_cases ht:∀ x,x∈m.T→InH m.H.length x
    ·have HR:Hid (thereB m=pd (∀ x,x∈m.Q→InH m.H.length x)):=Lib.hid (by
      by_cases hq:∀ x,x∈m.Q→InH m.H.length x
      ·rw[pd_true hq];exact pd_true ⟨HCI.out,hg,ht,hq⟩
      ·rw[pd_false hq];exact pd_false fun h=>hq h.query)
     rw[pd_true hg] at HG
     rw[pd_true ht] at HTI
     clear hg ht
     generalize pd (∀ x,x∈m.Q→InH m.H.length x)=q at *
     go_wp2_with (first
      | (go_at_call 122;refine HG.out.mono ?_;rintro e w1 ⟨rfl,hb1⟩;have HB1:=Lib.hid hb1;have f1:=(hb1.cell (p:=⟨w.heap.size+1,0,none⟩) HN.out.lt.2).trans f0;have y4:=(hb1.cell (p:=⟨w.heap.size,4,none⟩) HN.out.lt.1).trans x4;have y5:=(hb1.cell (p:=⟨w.heap.size,5,none⟩) HN.out.lt.1).trans x5;clear hb1)
      | (go_at_call 124;refine(HTI.out _ HB1.out).mono ?_;rintro e w2 ⟨rfl,rfl⟩)
      | (go_at_call 124;refine(HQI.out _ HB1.out).mono ?_;rintro e w2 ⟨rfl,rfl⟩))
     go_ret
     rw[HR.out]
     refine⟨?_,HB3.out.trans (HB1.out.mono z0)⟩
     cases q <;> rfl
    ·have HR:Hid (thereB m=false):=Lib.hid (pd_false fun h=>ht h.trail)
     rw[pd_true hg] at HG
     rw[pd_false ht] at HTI
     clear hg ht
     go_wp2_with (first
      | (go_at_call 122;refine HG.out.mono ?_;rintro e w1 ⟨rfl,hb1⟩;have HB1:=Lib.hid hb1;have f1:=(hb1.cell (p:=⟨w.heap.size+1,0,none⟩) HN.out.lt.2).trans f0;have y4:=(hb1.cell (p:=⟨w.heap.size,4,none⟩) HN.out.lt.1).trans x4;clear hb1)
      | (go_at_call 124;refine(HTI.out _ HB1.out).mono ?_;rintro e w2 ⟨rfl,rfl⟩))
     go_ret
     rw[HR.out]
     exact⟨rfl,HB3.out.trans (HB1.out.mono z0)⟩
   ·have HR:Hid (thereB m=false):=Lib.hid (pd_false fun h=>hg h.goals)
    rw[pd_false hg] at HG
    clear hg
    go_wp2_with (go_at_call 122;refine HG.out.mono ?_;rintro e w1 ⟨rfl,hb1⟩;have HB1:=Lib.hid hb1;clear hb1)
    go_ret
    rw[HR.out]
    exact⟨rfl,HB3.out.trans (HB1.out.mono z0)⟩
end Go.Proofs.Ytikmgiapjigghaa

/- Walks: what is wrong with a machine's goal, and with its choices. -/
namespace Go.Proofs.Ytikmgiapjigghaa
open Go.RowKit
def GoalOk(G:List Gl)(i:Nat)(h:i<G.length):Prop:=0≤G[i].next∧G[i].next≤(i:Int)∧0≤G[i].cut
instance (G:List Gl) (i:Nat) (h:i<G.length):Decidable (GoalOk G i h):=inferInstanceAs (Decidable (_∧_))
def goalE(G:List Gl)(i:Nat):Int:=if h:i<G.length then (if GoalOk G i h then 0 else 4) else 0
theorem betw_true{n lo hi:Int}(h:lo≤n∧n≤hi):betw n lo hi=true:=by unfold betw;exact decide_eq_true h
theorem betw_false{n lo hi:Int}(h:¬ (lo≤n∧n≤hi)):betw n lo hi=false:=by unfold betw;exact decide_eq_false h
set_option maxRecDepth 100000 in
set_option maxHeartbeats 1600000 in
theorem GoalW(m:Mac)(d:MAd){w:World}{ok:Nat→Prop}(h:MacAt w ok m d)(i:Nat)(hi:i<m.G.length) :
 Calls Try.prog 93 #[.agg #[.slice d.h m.H.length d.hn,.slice d.g m.G.length d.gn,.int .i64 m.first,.slice d.c m.ch.length d.cn,.slice d.t m.T.length d.tn,.slice d.q m.Q.length d.qn,.int .i64 m.steps,.int .i64 m.fin,.slice d.a m.ans.length d.an],.int .i64 ((i:Int)+1)] w
  fun e w'=>e=.returned (.int .i64 (goalE m.G i))∧Below w.heap.size w w':=by
 obtain⟨dh,dg,dc,dt,dq,da,dhn,dgn,dcn,dtn,dqn,dan⟩:=d
 have HM:Hid (MacAt w (fun b=>b<w.heap.size) m ⟨dh,dg,dc,dt,dq,da,dhn,dgn,dcn,dtn,dqn,dan⟩):=Lib.hid (h.mono fun b hb _=>hb)
 have hcl:m.G.length≤9223372036854775807:=by have:=h.g.cap;unfold maxLen at this;omega
 obtain⟨b,off,hda,hokb,hb,hcs⟩:=HM.out.g.some (by decide) (Nat.lt_of_le_of_lt (Nat.zero_le _) hi)
 have hda':dg=some ⟨b,off,none⟩:=hda
 clear hda hokb h
 subst hda'
 obtain⟨g0,g1,g2⟩:=flatG_at m.G i hi
 have c0:=hcs _ _ g0
 have c1:w.cell? ⟨b,off+i*3+1,none⟩=_:=hcs _ _ g1
 have c2:w.cell? ⟨b,off+i*3+2,none⟩=_:=hcs _ _ g2
 clear hcs g0 g1 g2
 have HB1:Hid (∀ X Y,Below w.heap.size w ((w.alloc X).alloc Y)):=Lib.hid fun X Y=>((Below.refl _ _).alloc (Nat.le_refl _) X).alloc (by simp) Y
 by_cases h1:0≤m.G[i].next∧m.G[i].next≤(i:Int)
 ·have hbt:betw m.G[i].next 0 (i:Int)=true:=betw_true h1
  by_cases h2:m.G[i].cut<0
  ·have HR:Hid (goalE m.G i=4):=Lib.hid (by unfold goalE;rw[dif_pos hi,if_neg fun e:GoalOk m.G i hi=>by have:=e.2.2;omega])
   clear h1
   go_enter Try.func93,Try.ntmps93
   go_wp2_with (go_at_call 94;refine(withinW _ _ _ _).mono ?_;rintro e w1 ⟨rfl,rfl⟩)
   go_ret
   rw[HR.out]
   exact⟨rfl,HB1.out _ _⟩
  ·have HR:Hid (goalE m.G i=0):=Lib.hid (by unfold goalE;rw[dif_pos hi,if_pos (show GoalOk m.G i hi from ⟨h1.1,h1.2,by omega⟩)])
   clear h1
   go_enter Try.func93,Try.ntmps93
   go_wp2_with (go_at_call 94;refine(withinW _ _ _ _).mono ?_;rintro e w1 ⟨rfl,rfl⟩)
   go_ret
   rw[HR.out]
   exact⟨rfl,HB1.out _ _⟩
 ·have hbt:betw m.G[i].next 0 (i:Int)=false:=betw_false h1
  have HR:Hid (goalE m.G i=4):=Lib.hid (by unfold goalE;rw[dif_pos hi,if_neg fun e:GoalOk m.G i hi=>h1 ⟨e.1,e.2.1⟩])
  clear h1
  go_enter Try.func93,Try.ntmps93
  go_wp2_with (go_at_call 94;refine(withinW _ _ _ _).mono ?_;rintro e w1 ⟨rfl,rfl⟩)
  go_ret
  rw[HR.out]
  exact⟨rfl,HB1.out _ _⟩
end Go.Proofs.Ytikmgiapjigghaa

/- Walks: what is wrong with a machine's choices. -/
namespace Go.Proofs.Ytikmgiapjigghaa
open Go.RowKit
def prevC(l:List Chi)(i:Nat):Chi:=(zeroChi::l).getD i zeroChi
theorem choicesOk_iff(np ng nh nt:Nat):∀ (l:List Chi) (was:Chi),ChoicesOk np ng nh nt was l↔∀ i (h:i<l.length),ChoiceOk np ng nh nt ((was::l).getD i zeroChi) l[i]:=by
 intro l
 induction l with
 | nil=>intro was;exact⟨fun _ i h=>absurd h (Nat.not_lt_zero i),fun _=>trivial⟩
 | cons c r ih =>
  intro was
  constructor
  ·rintro ⟨h1,h2⟩ i hi
   cases i with
   | zero=>exact h1
   | succ i=>exact(ih c).1 h2 i (by simpa using hi)
  ·intro h
   refine⟨h 0 (by simp),(ih c).2 fun i hi=>?_⟩
   exact h (i+1) (by simpa using hi)
theorem prevC_next(l:List Chi)(i:Nat)(h:i<l.length):prevC l (i+1)=l[i]:=by
 unfold prevC
 rw[List.getD_eq_getElem?_getD,List.getElem?_cons_succ,List.getElem?_eq_getElem h];rfl
noncomputable def choicesE(np:Nat)(m:Mac):Int:=if pd (ChoicesOk np m.G.length m.H.length m.T.length zeroChi m.ch)=true then 0 else 4
theorem choicesE_good{np:Nat}{m:Mac}(h:∀ i (h:i<m.ch.length),ChoiceOk np m.G.length m.H.length m.T.length (prevC m.ch i) m.ch[i]):choicesE np m=0:=by
 unfold choicesE;rw[if_pos (pd_true ((choicesOk_iff _ _ _ _ _ _).2 h))]
theorem choicesE_bad{np:Nat}{m:Mac}{i:Nat}(hi:i<m.ch.length)(h:¬ ChoiceOk np m.G.length m.H.length m.T.length (prevC m.ch i) m.ch[i]):choicesE np m=4:=by
 unfold choicesE
 rw[if_neg]
 rw[pd_false fun e=>h ((choicesOk_iff _ _ _ _ _ _).1 e i hi)]
 decide
structure CBox(w:World)(b:Nat)(c:Chi):Prop where
 blk:w.heap[b]? = some (.cells #[.int .i64 c.goal,.int .i64 c.clause,.int .i64 c.heap,.int .i64 c.trail,.int .i64 c.goals] 157 (0,0))
theorem CBox.all{w:World}{b:Nat}{c:Chi}(h:CBox w b c):w.cell? ⟨b,0,none⟩=some (.int .i64 c.goal)∧w.cell? ⟨b,1,none⟩=some (.int .i64 c.clause)∧w.cell? ⟨b,2,none⟩=some (.int .i64 c.heap)∧w.cell? ⟨b,3,none⟩=some (.int .i64 c.trail)∧w.cell? ⟨b,4,none⟩=some (.int .i64 c.goals)∧∀ o,w.frozen? ⟨b,o,none⟩=false:=by
 have h':=h.blk
 exact⟨by simp[World.cell?,h'],by simp[World.cell?,h'],by simp[World.cell?,h'],by simp[World.cell?,h'],by simp[World.cell?,h'],fun o=>by simp[World.frozen?,h']⟩
theorem CBox.lt{w:World}{b:Nat}{c:Chi}(h:CBox w b c):b<w.heap.size:=(Array.getElem?_eq_some_iff.1 h.blk).1
theorem CBox.keep{w w':World}{b:Nat}{c:Chi}(h:CBox w b c)(hb:w'.heap[b]? = w.heap[b]?):CBox w' b c:=⟨hb.trans h.blk⟩
theorem CBox.put{w:World}{b:Nat}{c0:Chi}(h:CBox w b c0)(c:Chi):CBox (((((w.setCell ⟨b,0,none⟩ (.int .i64 c.goal)).setCell ⟨b,1,none⟩ (.int .i64 c.clause)).setCell ⟨b,2,none⟩ (.int .i64 c.heap)).setCell ⟨b,3,none⟩ (.int .i64 c.trail)).setCell ⟨b,4,none⟩ (.int .i64 c.goals)) b c∧Touch (fun x=>x=b) w (((((w.setCell ⟨b,0,none⟩ (.int .i64 c.goal)).setCell ⟨b,1,none⟩ (.int .i64 c.clause)).setCell ⟨b,2,none⟩ (.int .i64 c.heap)).setCell ⟨b,3,none⟩ (.int .i64 c.trail)).setCell ⟨b,4,none⟩ (.int .i64 c.goals)):=by
 refine⟨⟨?_⟩,?_⟩
 ·have h0:=heap_setCell_at w b 0 (.int .i64 c.goal) h.blk
  have h1:=heap_setCell_at _ b 1 (.int .i64 c.clause) h0
  have h2:=heap_setCell_at _ b 2 (.int .i64 c.heap) h1
  have h3:=heap_setCell_at _ b 3 (.int .i64 c.trail) h2
  have h4:=heap_setCell_at _ b 4 (.int .i64 c.goals) h3
  exact h4
 ·exact((((Touch.setCell (M:=fun x=>x=b) _ rfl).trans (Touch.setCell (M:=fun x=>x=b) _ rfl)).trans (Touch.setCell (M:=fun x=>x=b) _ rfl)).trans (Touch.setCell (M:=fun x=>x=b) _ rfl)).trans (Touch.setCell (M:=fun x=>x=b) _ rfl)
set_option maxRecDepth 100000 in
set_option maxHeartbeats 3200000 in
theorem ChoicesW(m:Mac)(d:MAd){w:World}{ok:Nat→Prop}(h:MacAt w ok m d)(np pc:Nat)(pa:Option Addr) :
 Calls Try.prog 95 #[.slice pa np pc,.agg #[.slice d.h m.H.length d.hn,.slice d.g m.G.length d.gn,.int .i64 m.first,.slice d.c m.ch.length d.cn,.slice d.t m.T.length d.tn,.slice d.q m.Q.length d.qn,.int .i64 m.steps,.int .i64 m.fin,.slice d.a m.ans.length d.an]] w
  fun e w'=>e=.returned (.int .i64 (choicesE np m))∧Below w.heap.size w w':=by
 obtain⟨dh,dg,dc,dt,dq,da,dhn,dgn,dcn,dtn,dqn,dan⟩:=d
 have HM:Hid (MacAt w (fun b=>b<w.heap.size) m ⟨dh,dg,dc,dt,dq,da,dhn,dgn,dcn,dtn,dqn,dan⟩):=Lib.hid (h.mono fun b hb _=>hb)
 have hg9:m.G.length≤9223372036854775807:=by have:=h.g.cap;unfold maxLen at this;omega
 have hc9:m.ch.length≤9223372036854775807:=by have:=h.c.cap;unfold maxLen at this;omega
 have ht9:m.T.length≤9223372036854775807:=by have:=h.t.cap;unfold maxLen at this;omega
 have HB2:Hid (Below w.heap.size w ((w.alloc (.cells (m.vals ⟨dh,dg,dc,dt,dq,da,dhn,dgn,dcn,dtn,dqn,dan⟩).toArray 81)).alloc (.cells #[.int .i64 zeroChi.goal,.int .i64 zeroChi.clause,.int .i64 zeroChi.heap,.int .i64 zeroChi.trail,.int .i64 zeroChi.goals] 157))):=Lib.hid (((Below.refl _ _).alloc (Nat.le_refl _) _).alloc (by simp) _)
 have HX:Hid (MBox ((w.alloc (.cells (m.vals ⟨dh,dg,dc,dt,dq,da,dhn,dgn,dcn,dtn,dqn,dan⟩).toArray 81)).alloc (.cells #[.int .i64 zeroChi.goal,.int .i64 zeroChi.clause,.int .i64 zeroChi.heap,.int .i64 zeroChi.trail,.int .i64 zeroChi.goals] 157)) w.heap.size m ⟨dh,dg,dc,dt,dq,da,dhn,dgn,dcn,dtn,dqn,dan⟩):=Lib.hid ((MBox.made w m _).below ((Below.refl _ _).alloc (Nat.le_refl _) _))
 have hsz:(w.alloc (.cells (m.vals ⟨dh,dg,dc,dt,dq,da,dhn,dgn,dcn,dtn,dqn,dan⟩).toArray 81)).heap.size=w.heap.size+1:=by simp
 have HC:Hid (CBox ((w.alloc (.cells (m.vals ⟨dh,dg,dc,dt,dq,da,dhn,dgn,dcn,dtn,dqn,dan⟩).toArray 81)).alloc (.cells #[.int .i64 zeroChi.goal,.int .i64 zeroChi.clause,.int .i64 zeroChi.heap,.int .i64 zeroChi.trail,.int .i64 zeroChi.goals] 157)) (w.heap.size+1) zeroChi):=Lib.hid ⟨by rw[← hsz];exact heap_alloc_new _ _⟩
 clear h hsz
 simp only[Mac.vals] at HX HC HB2
 simp only
 go_enter Try.func95,Try.ntmps95
 go_wp2_with fail
 go_loopw[12] (fun x12 wr=>∃ i:Nat,i≤m.ch.length∧x12=.int .i64 i∧Hid (MBox wr w.heap.size m ⟨dh,dg,dc,dt,dq,da,dhn,dgn,dcn,dtn,dqn,dan⟩)∧Hid (CBox wr (w.heap.size+1) (prevC m.ch i))∧Hid (Below w.heap.size w wr)∧Hid (w.heap.size+2≤wr.heap.size)∧Hid (∀ j (hj:j<m.ch.length),j<i→ChoiceOk np m.G.length m.H.length m.T.length (prevC m.ch j) m.ch[j])) (fun x12 _=>m.ch.length-(intOf x12).toNat)
 case atStart=>exact⟨0,Nat.zero_le _,rfl,HX,HC,HB2,Lib.hid (by simp),Lib.hid fun j _ h=>absurd h (Nat.not_lt_zero j)⟩
 case round =>
  obtain⟨i,hi,rfl,HX2,HC2,HB3,HS3,HI⟩:=hrel
  by_cases hlt:i<m.ch.length
  ·obtain⟨b,off,hda,hokb,hb,hcs⟩:=HM.out.c.some (by decide) (Nat.lt_of_le_of_lt (Nat.zero_le _) hlt)
   have hda':dc=some ⟨b,off,none⟩:=hda
   clear hda hokb
   subst hda'
   obtain⟨g0,g1,g2,g3,g4⟩:=flatK_at m.ch i hlt
   have c0:=(HB3.out.cell (p:=⟨b,off+i*5,none⟩) hb).trans (hcs _ _ g0)
   have c1:wr.cell? ⟨b,off+i*5+1,none⟩=_:=(HB3.out.cell (p:=⟨b,off+(i*5+1),none⟩) hb).trans (hcs _ _ g1)
   have c2:wr.cell? ⟨b,off+i*5+2,none⟩=_:=(HB3.out.cell (p:=⟨b,off+(i*5+2),none⟩) hb).trans (hcs _ _ g2)
   have c3:wr.cell? ⟨b,off+i*5+3,none⟩=_:=(HB3.out.cell (p:=⟨b,off+(i*5+3),none⟩) hb).trans (hcs _ _ g3)
   have c4:wr.cell? ⟨b,off+i*5+4,none⟩=_:=(HB3.out.cell (p:=⟨b,off+(i*5+4),none⟩) hb).trans (hcs _ _ g4)
   clear hcs g0 g1 g2 g3 g4
   obtain⟨x0,x1,x2,x3,x4,-⟩:=HX2.out.all
   obtain⟨k0,k1,k2,k3,k4,kf⟩:=HC2.out.all
   have z1:w.heap.size+1<wr.heap.size:=HC2.out.lt
   have z0:w.heap.size<wr.heap.size:=HX2.out.lt
   have HPN:=Lib.hid (prevC_next m.ch i hlt)
   have HCH:=HI
   have HBAD:Hid (¬ ChoiceOk np m.G.length m.H.length m.T.length (prevC m.ch i) m.ch[i]→choicesE np m=4):=Lib.hid (choicesE_bad hlt)
   generalize hcc:m.ch[i]=c at *
   generalize hpp:prevC m.ch i=was at *
   have HBX:Hid (∀ X,Below w.heap.size w (wr.alloc X)):=Lib.hid fun X=>HB3.out.alloc (Nat.le_of_lt z0) X
   by_cases q1:1≤c.goal∧c.goal≤(m.G.length:Int)
   ·have b1:betw c.goal 1 (m.G.length:Int)=true:=betw_true q1
    by_cases q2:0≤c.clause∧c.clause≤(np:Int)
    ·have b2:betw c.clause 0 (np:Int)=true:=betw_true q2
     by_cases q3:was.heap≤c.heap∧c.heap≤(m.H.length:Int)
     ·have b3:betw c.heap was.heap (m.H.length:Int)=true:=betw_true q3
      by_cases q4:was.trail≤c.trail∧c.trail≤(m.T.length:Int)
      ·have b4:betw c.trail was.trail (m.T.length:Int)=true:=betw_true q4
       by_cases q5:was.goals≤c.goals∧c.goals≤(m.G.length:Int)
       ·have b5:betw c.goals was.goals (m.G.length:Int)=true:=betw_true q5
        by_cases q6:c.goal≤c.goals
        ·have HOK:Hid (∀ j (hj:j<m.ch.length),j<i+1→ChoiceOk np m.G.length m.H.length m.T.length (prevC m.ch j) m.ch[j]):=Lib.hid fun j hj h=>by
          by_cases e:j=i
          ·subst e;rw[hcc,hpp];exact⟨q1,q2,q3,q4,q5,q6⟩
          ·exact HI.out j hj (by omega)
         have q6':¬ c.goals<c.goal:=by omega
         clear q1 q2 q3 q4 q5 q6
         go_wp2_with (go_at_call 94;refine(withinW _ _ _ _).mono ?_;rintro e w1 ⟨rfl,rfl⟩)
         have HP2:=Lib.hid (HC2.out.put c)
         go_roundw
         case measure=>simp only[intOf];omega
         case rel =>
          refine⟨i+1,by omega,by go_num,?_,?_,?_,?_,HOK⟩
          ·exact Lib.hid ((HX2.out.keep (HP2.out.2.block _ z0 (by omega))).below ((Below.refl _ _).alloc (Nat.le_refl _) _))
          ·rw[HPN.out]
           exact Lib.hid (HP2.out.1.keep (((Below.refl _ _).alloc (Nat.le_refl _) _).block _ HP2.out.1.lt))
          ·exact Lib.hid ((HB3.out.trans (HP2.out.2.toBelow HB3.out.size (fun b e=>by omega))).alloc (Nat.le_trans HB3.out.size HP2.out.2.size) _)
          ·exact Lib.hid (Nat.le_trans HS3.out (Nat.le_trans HP2.out.2.size ((Below.refl _ _).alloc (Nat.le_refl _) _).size))
        ·have HR:Hid (choicesE np m=4):=Lib.hid (HBAD.out fun e=>q6 e.own)
         have q6':c.goals<c.goal:=by omega
         clear q1 q2 q3 q4 q5 q6
         go_wp2_with (go_at_call 94;refine(withinW _ _ _ _).mono ?_;rintro e w1 ⟨rfl,rfl⟩)
         go_ret
         rw[HR.out]
         exact⟨rfl,HBX.out _⟩
       ·have b5:betw c.goals was.goals (m.G.length:Int)=false:=betw_false q5
        have HR:Hid (choicesE np m=4):=Lib.hid (HBAD.out fun e=>q5 e.goals)
        clear q1 q2 q3 q4 q5
        go_wp2_with (go_at_call 94;refine(withinW _ _ _ _).mono ?_;rintro e w1 ⟨rfl,rfl⟩)
        go_ret
        rw[HR.out]
        exact⟨rfl,HBX.out _⟩
      ·have b4:betw c.trail was.trail (m.T.length:Int)=false:=betw_false q4
       have HR:Hid (choicesE np m=4):=Lib.hid (HBAD.out fun e=>q4 e.trail)
       clear q1 q2 q3 q4
       go_wp2_with (go_at_call 94;refine(withinW _ _ _ _).mono ?_;rintro e w1 ⟨rfl,rfl⟩)
       go_ret
       rw[HR.out]
       exact⟨rfl,HBX.out _⟩
     ·have b3:betw c.heap was.heap (m.H.length:Int)=false:=betw_false q3
      have HR:Hid (choicesE np m=4):=Lib.hid (HBAD.out fun e=>q3 e.heap)
      clear q1 q2 q3
      go_wp2_with (go_at_call 94;refine(withinW _ _ _ _).mono ?_;rintro e w1 ⟨rfl,rfl⟩)
      go_ret
      rw[HR.out]
      exact⟨rfl,HBX.out _⟩
    ·have b2:betw c.clause 0 (np:Int)=false:=betw_false q2
     have HR:Hid (choicesE np m=4):=Lib.hid (HBAD.out fun e=>q2 e.clause)
     clear q1 q2
     go_wp2_with (go_at_call 94;refine(withinW _ _ _ _).mono ?_;rintro e w1 ⟨rfl,rfl⟩)
     go_ret
     rw[HR.out]
     exact⟨rfl,HBX.out _⟩
   ·have b1:betw c.goal 1 (m.G.length:Int)=false:=betw_false q1
    have HR:Hid (choicesE np m=4):=Lib.hid (HBAD.out fun e=>q1 e.goal)
    clear q1
    go_wp2_with (go_at_call 94;refine(withinW _ _ _ _).mono ?_;rintro e w1 ⟨rfl,rfl⟩)
    go_ret
    rw[HR.out]
    exact⟨rfl,HBX.out _⟩
  ·have HR:Hid (choicesE np m=0):=Lib.hid (choicesE_good fun j hj=>HI.out j hj (by omega))
   go_wp2_with fail
   go_ret
   rw[HR.out]
   exact⟨rfl,HB3.out⟩
end Go.Proofs.Ytikmgiapjigghaa

/- Plain: a machine that goes back choice by choice. -/
namespace Go.Proofs.Ytikmgiapjigghaa
open Go.RowKit
def ChLe(a b:Chi):Prop:=a.heap≤b.heap∧a.trail≤b.trail∧a.goals≤b.goals
theorem choices_le(np ng nh nt:Nat):∀ (l:List Chi) (was:Chi),ChoicesOk np ng nh nt was l→(∀ c,c∈l→ChLe was c∧c.heap≤nh∧c.trail≤nt∧c.goals≤ng)∧l.Pairwise ChLe:=by
 intro l
 induction l with
 | nil=>intro was _;exact⟨(fun c h=>nomatch h),List.Pairwise.nil⟩
 | cons c r ih =>
  rintro was ⟨h1,h2⟩
  obtain⟨i1,i2⟩:=ih c h2
  have hc:ChLe was c:=⟨h1.heap.1,h1.trail.1,h1.goals.1⟩
  refine⟨fun x hx=>?_,List.Pairwise.cons (fun x hx=>(i1 x hx).1) i2⟩
  rcases List.mem_cons.1 hx with rfl | hx
  ·exact⟨hc,h1.heap.2,h1.trail.2,h1.goals.2⟩
  ·obtain⟨⟨a,b,d⟩,e⟩:=i1 x hx
   exact⟨⟨Int.le_trans hc.1 a,Int.le_trans hc.2.1 b,Int.le_trans hc.2.2 d⟩,e⟩
def undoI(m:Mac)(l:List Chi):Mac:=l.foldl undoM m
theorem undoI_snoc(m:Mac)(l:List Chi)(c:Chi):undoI m (l++[c])=undoM (undoI m l) c:=by unfold undoI;rw[List.foldl_append];rfl
def ThereM(m:Mac):Prop:=There m.H m.G m.T m.Q
theorem lasting_iff:∀ (l:List Chi) (m:Mac),Lasting l m↔∀ i,i<l.length→ThereM (undoI m (l.take (i+1))):=by
 intro l
 induction l with
 | nil=>intro m;exact⟨fun _ i h=>absurd h (Nat.not_lt_zero i),fun _=>trivial⟩
 | cons c r ih =>
  intro m
  constructor
  ·rintro ⟨h1,h2⟩ i hi
   cases i with
   | zero=>exact h1
   | succ i=>exact(ih (undoM m c)).1 h2 i (by simpa using hi)
  ·intro h
   refine⟨h 0 (by simp),(ih (undoM m c)).2 fun i hi=>?_⟩
   exact h (i+1) (by simpa using hi)
structure UndoIs(m mi:Mac):Prop where
 g:∃ k,k≤m.G.length∧mi.G=m.G.take k
 t:∃ k,k≤m.T.length∧mi.T=m.T.take k
 c:mi.ch=m.ch
 q:mi.Q=m.Q
 a:mi.ans=m.ans
 n:mi.first=m.first∧mi.steps=m.steps∧mi.fin=m.fin
 h:mi.H.length≤m.H.length
def CanBack(mi:Mac)(l:List Chi):Prop:=∀ c,c∈l→(0≤c.heap∧c.heap≤(mi.H.length:Int))∧(0≤c.trail∧c.trail≤(mi.T.length:Int))∧0≤c.goals∧c.goals≤(mi.G.length:Int)
theorem take_take_ex{α:Type}{l s:List α}(h:∃ k,k≤l.length∧s=l.take k)(j:Nat):∃ k,k≤l.length∧s.take j=l.take k:=by
 obtain⟨k,h1,rfl⟩:=h
 exact⟨min j k,by omega,by rw[List.take_take]⟩
theorem UndoIs.refl(m:Mac):UndoIs m m:=⟨⟨_,Nat.le_refl _,(List.take_length).symm⟩,⟨_,Nat.le_refl _,(List.take_length).symm⟩,rfl,rfl,rfl,⟨rfl,rfl,rfl⟩,Nat.le_refl _⟩
theorem UndoIs.undo{m mi:Mac}(h:UndoIs m mi)(c:Chi):UndoIs m (undoM mi c) :=
 ⟨take_take_ex h.g _,take_take_ex h.t _,h.c,h.q,h.a,h.n,by have:=h.h;simp only[undoM,List.length_take,unbind_length];omega⟩
theorem CanBack.undo{mi:Mac}{c:Chi}{l:List Chi}(h:CanBack mi (c::l))(hl:∀ x,x∈l→ChLe x c):CanBack (undoM mi c) l:=fun x hx=>by
 obtain⟨⟨a1,a2⟩,⟨b1,b2⟩,d1,d2⟩:=h c List.mem_cons_self
 obtain⟨⟨x1,_⟩,⟨y1,_⟩,z1,_⟩:=h x (List.mem_cons_of_mem _ hx)
 obtain⟨k1,k2,k3⟩:=hl x hx
 refine⟨⟨x1,?_⟩,⟨y1,?_⟩,z1,?_⟩
 ·simp only[undoM,List.length_take,unbind_length];omega
 ·simp only[undoM,List.length_take];omega
 ·simp only[undoM,List.length_take];omega
theorem undoI_ok(m:Mac):∀ (l:List Chi) (mi:Mac),UndoIs m mi→CanBack mi l→l.Pairwise (fun a b=>ChLe b a)→∀ i,i≤l.length→UndoIs m (undoI mi (l.take i))∧CanBack (undoI mi (l.take i)) (l.drop i):=by
 intro l
 induction l with
 | nil =>
  intro mi h k _ i hi;simp only[List.length_nil] at hi;have:i=0:=by omega
  subst this;exact⟨h,k⟩
 | cons c r ih =>
  intro mi h k hp i hi
  cases i with
  | zero=>exact⟨h,k⟩
  | succ i =>
   obtain⟨p1,p2⟩:=List.pairwise_cons.1 hp
   exact ih (undoM mi c) (h.undo c) (k.undo p1) p2 i (by simpa using hi)
theorem back_ok{np:Nat}{m:Mac}(hc:ChoicesOk np m.G.length m.H.length m.T.length zeroChi m.ch)(i:Nat)(hi:i≤m.ch.length):UndoIs m (undoI m (m.ch.reverse.take i))∧CanBack (undoI m (m.ch.reverse.take i)) (m.ch.reverse.drop i):=by
 obtain⟨h1,h2⟩:=choices_le _ _ _ _ _ _ hc
 refine undoI_ok m _ m (UndoIs.refl m) (fun c hc=>?_) (List.pairwise_reverse.2 h2) i (by simpa using hi)
 obtain⟨⟨a,b,d⟩,e,f,g⟩:=h1 c (List.mem_reverse.1 hc)
 have a':0≤c.heap:=a
 have b':0≤c.trail:=b
 have d':0≤c.goals:=d
 exact⟨⟨a',e⟩,⟨b',f⟩,d',g⟩
theorem back_next{m:Mac}{i:Nat}(hi:i<m.ch.length):m.ch.reverse.take (i+1)=m.ch.reverse.take i++[m.ch.getD (m.ch.length-1-i) zeroChi]∧m.ch.getD (m.ch.length-1-i) zeroChi∈m.ch.reverse.drop i:=by
 have hr:i<m.ch.reverse.length:=by simpa using hi
 have e:m.ch.reverse[i]=m.ch.getD (m.ch.length-1-i) zeroChi:=by
  rw[List.getElem_reverse,List.getD_eq_getElem?_getD,List.getElem?_eq_getElem (by omega)];rfl
 refine⟨by rw[List.take_succ_eq_append_getElem hr,e],?_⟩
 rw[← e,List.drop_eq_getElem_cons hr]
 exact List.mem_cons_self
end Go.Proofs.Ytikmgiapjigghaa

/- Walks: slices.Clone, at a machine's types. (Written by mk_mclo.py.) -/
namespace Go.Proofs.Ytikmgiapjigghaa
open Go.RowKit
theorem Try.infoCells1:(Try.prog.info? 120).map (fun i=>(i.size,i.bytes))=some (3,32):=by kernel_rfl
theorem Try.infoCells2:((Try.prog.info? 120).bind (fun i=>i.zero)).map (fun z=>z.cells.size)=some 3:=by kernel_rfl
theorem infoZCells:∃ i z,Try.prog.info? 120=some i∧i.zero=some z∧i.size=3∧i.bytes=32∧z.cells.size=3:=by
 have h1:=Try.infoCells1;have h2:=Try.infoCells2
 obtain⟨i,hi,h3⟩:=Option.map_eq_some_iff.1 h1
 obtain⟨z,hz,h4⟩:=Option.map_eq_some_iff.1 h2
 rw[hi,Option.bind_some] at hz
 simp only[Prod.mk.injEq] at h3
 exact⟨i,z,hi,hz,h3.1,h3.2,h4⟩
set_option maxRecDepth 100000 in
set_option maxHeartbeats 400000 in
theorem CloneCellsW{w:World}{ok:Nat→Prop}{n:Nat}{vs:List Value}{a:Option Addr}{cap:Nat}(h:RwAt w ok 3 n vs a cap)(h1:∀ u∈vs,u.oneCell'=true)(hn:n*32≤140737488355328) :
 Calls Try.prog 139 #[.slice a n cap] w fun e w'=>(∃ v,e=.returned v∧w'.ownsRow w.heap.size 120 3 v n vs)∧Below w.heap.size w w':=by
 have qT:∀ (w:World) (a:Option Addr) (n c n' c':Nat),(binOp .eql 42 (.slice a n c) (.slice none n' c')).run Try.prog w=.ok (.bool a.isNone) w:=fun w a n c n' c'=>Lib.run_eql_slice_nil w _ _ a n c n' c' Try.underlying42
 cases a with
 | none =>
  obtain⟨rfl,rfl,rfl⟩:=h.none
  go_enter Try.func139,Try.ntmps139
  go_wp2_with fail
  go_ret
  exact⟨⟨_,rfl,World.ownsRow_nil _ _ _ _⟩,Below.refl _ _⟩
 | some ad =>
  obtain⟨i0,zc,hi0,hz0,hz1,hz2,hz3⟩:=infoZCells
  have hB:Below w.heap.size w (w.alloc (.cells #[] 120)):=(Below.refl _ _).alloc (Nat.le_refl _) _
  have HO:Hid ((w.alloc (.cells #[] 120)).ownsRow w.heap.size 120 3 (.slice (some ⟨w.heap.size,0,none⟩) 0 0) 0 []):=Lib.hid (World.ownsRow_lit (base:=w.heap.size) (e:=120) (size:=3) w #[] 0 (Nat.le_refl _) (Nat.zero_le _) rfl)
  have HC:=Lib.hid ((h.mono (ok':=fun b=>b<w.heap.size) fun b hb _=>hb).below hB).news
  have HL:=Lib.hid h.len
  have HB:=Lib.hid hB
  have H1:=Lib.hid h1
  clear h hB h1
  go_enter Try.func139,Try.ntmps139
  go_wp2_with (at_builtin;refine wpList_append_fresh _ rfl _ _ 42 rfl w.heap.size 120 i0 zc 3 32 Try.underlying42 hi0 hz0 hz1 hz2 hz3 (by decide) _ _ _ rfl HO.out ad n cap vs rfl HL.out HC.out H1.out ?c3 ?c4 ?c5 ?_)
  case c3=>unfold maxLen;omega
  case c4=>omega
  case c5=>simp
  intro v w1 hown hgrow hfr
  have HN:Hid (w1.ownsRow w.heap.size 120 3 v n vs):=Lib.hid (by have h:=hown;simpa using h)
  have HB2:=Lib.hid (HB.out.grown hgrow HB.out.size (fun j e=>(HO.out.lt j e).1))
  clear hown hgrow hfr
  go_wp2_with fail
  go_ret
  exact⟨⟨_,rfl,HN.out⟩,HB2.out⟩
theorem Try.infoGoals1:(Try.prog.info? 155).map (fun i=>(i.size,i.bytes))=some (3,24):=by kernel_rfl
theorem Try.infoGoals2:((Try.prog.info? 155).bind (fun i=>i.zero)).map (fun z=>z.cells.size)=some 3:=by kernel_rfl
theorem infoZGoals:∃ i z,Try.prog.info? 155=some i∧i.zero=some z∧i.size=3∧i.bytes=24∧z.cells.size=3:=by
 have h1:=Try.infoGoals1;have h2:=Try.infoGoals2
 obtain⟨i,hi,h3⟩:=Option.map_eq_some_iff.1 h1
 obtain⟨z,hz,h4⟩:=Option.map_eq_some_iff.1 h2
 rw[hi,Option.bind_some] at hz
 simp only[Prod.mk.injEq] at h3
 exact⟨i,z,hi,hz,h3.1,h3.2,h4⟩
set_option maxRecDepth 100000 in
set_option maxHeartbeats 400000 in
theorem CloneGoalsW{w:World}{ok:Nat→Prop}{n:Nat}{vs:List Value}{a:Option Addr}{cap:Nat}(h:RwAt w ok 3 n vs a cap)(h1:∀ u∈vs,u.oneCell'=true)(hn:n*24≤140737488355328) :
 Calls Try.prog 140 #[.slice a n cap] w fun e w'=>(∃ v,e=.returned v∧w'.ownsRow w.heap.size 155 3 v n vs)∧Below w.heap.size w w':=by
 have qT:∀ (w:World) (a:Option Addr) (n c n' c':Nat),(binOp .eql 78 (.slice a n c) (.slice none n' c')).run Try.prog w=.ok (.bool a.isNone) w:=fun w a n c n' c'=>Lib.run_eql_slice_nil w _ _ a n c n' c' Try.underlying78
 cases a with
 | none =>
  obtain⟨rfl,rfl,rfl⟩:=h.none
  go_enter Try.func140,Try.ntmps140
  go_wp2_with fail
  go_ret
  exact⟨⟨_,rfl,World.ownsRow_nil _ _ _ _⟩,Below.refl _ _⟩
 | some ad =>
  obtain⟨i0,zc,hi0,hz0,hz1,hz2,hz3⟩:=infoZGoals
  have hB:Below w.heap.size w (w.alloc (.cells #[] 155)):=(Below.refl _ _).alloc (Nat.le_refl _) _
  have HO:Hid ((w.alloc (.cells #[] 155)).ownsRow w.heap.size 155 3 (.slice (some ⟨w.heap.size,0,none⟩) 0 0) 0 []):=Lib.hid (World.ownsRow_lit (base:=w.heap.size) (e:=155) (size:=3) w #[] 0 (Nat.le_refl _) (Nat.zero_le _) rfl)
  have HC:=Lib.hid ((h.mono (ok':=fun b=>b<w.heap.size) fun b hb _=>hb).below hB).news
  have HL:=Lib.hid h.len
  have HB:=Lib.hid hB
  have H1:=Lib.hid h1
  clear h hB h1
  go_enter Try.func140,Try.ntmps140
  go_wp2_with (at_builtin;refine wpList_append_fresh _ rfl _ _ 78 rfl w.heap.size 155 i0 zc 3 24 Try.underlying78 hi0 hz0 hz1 hz2 hz3 (by decide) _ _ _ rfl HO.out ad n cap vs rfl HL.out HC.out H1.out ?c3 ?c4 ?c5 ?_)
  case c3=>unfold maxLen;omega
  case c4=>omega
  case c5=>simp
  intro v w1 hown hgrow hfr
  have HN:Hid (w1.ownsRow w.heap.size 155 3 v n vs):=Lib.hid (by have h:=hown;simpa using h)
  have HB2:=Lib.hid (HB.out.grown hgrow HB.out.size (fun j e=>(HO.out.lt j e).1))
  clear hown hgrow hfr
  go_wp2_with fail
  go_ret
  exact⟨⟨_,rfl,HN.out⟩,HB2.out⟩
theorem Try.infoChois1:(Try.prog.info? 157).map (fun i=>(i.size,i.bytes))=some (5,40):=by kernel_rfl
theorem Try.infoChois2:((Try.prog.info? 157).bind (fun i=>i.zero)).map (fun z=>z.cells.size)=some 5:=by kernel_rfl
theorem infoZChois:∃ i z,Try.prog.info? 157=some i∧i.zero=some z∧i.size=5∧i.bytes=40∧z.cells.size=5:=by
 have h1:=Try.infoChois1;have h2:=Try.infoChois2
 obtain⟨i,hi,h3⟩:=Option.map_eq_some_iff.1 h1
 obtain⟨z,hz,h4⟩:=Option.map_eq_some_iff.1 h2
 rw[hi,Option.bind_some] at hz
 simp only[Prod.mk.injEq] at h3
 exact⟨i,z,hi,hz,h3.1,h3.2,h4⟩
set_option maxRecDepth 100000 in
set_option maxHeartbeats 400000 in
theorem CloneChoisW{w:World}{ok:Nat→Prop}{n:Nat}{vs:List Value}{a:Option Addr}{cap:Nat}(h:RwAt w ok 5 n vs a cap)(h1:∀ u∈vs,u.oneCell'=true)(hn:n*40≤140737488355328) :
 Calls Try.prog 141 #[.slice a n cap] w fun e w'=>(∃ v,e=.returned v∧w'.ownsRow w.heap.size 157 5 v n vs)∧Below w.heap.size w w':=by
 have qT:∀ (w:World) (a:Option Addr) (n c n' c':Nat),(binOp .eql 79 (.slice a n c) (.slice none n' c')).run Try.prog w=.ok (.bool a.isNone) w:=fun w a n c n' c'=>Lib.run_eql_slice_nil w _ _ a n c n' c' Try.underlying79
 cases a with
 | none =>
  obtain⟨rfl,rfl,rfl⟩:=h.none
  go_enter Try.func141,Try.ntmps141
  go_wp2_with fail
  go_ret
  exact⟨⟨_,rfl,World.ownsRow_nil _ _ _ _⟩,Below.refl _ _⟩
 | some ad =>
  obtain⟨i0,zc,hi0,hz0,hz1,hz2,hz3⟩:=infoZChois
  have hB:Below w.heap.size w (w.alloc (.cells #[] 157)):=(Below.refl _ _).alloc (Nat.le_refl _) _
  have HO:Hid ((w.alloc (.cells #[] 157)).ownsRow w.heap.size 157 5 (.slice (some ⟨w.heap.size,0,none⟩) 0 0) 0 []):=Lib.hid (World.ownsRow_lit (base:=w.heap.size) (e:=157) (size:=5) w #[] 0 (Nat.le_refl _) (Nat.zero_le _) rfl)
  have HC:=Lib.hid ((h.mono (ok':=fun b=>b<w.heap.size) fun b hb _=>hb).below hB).news
  have HL:=Lib.hid h.len
  have HB:=Lib.hid hB
  have H1:=Lib.hid h1
  clear h hB h1
  go_enter Try.func141,Try.ntmps141
  go_wp2_with (at_builtin;refine wpList_append_fresh _ rfl _ _ 79 rfl w.heap.size 157 i0 zc 5 40 Try.underlying79 hi0 hz0 hz1 hz2 hz3 (by decide) _ _ _ rfl HO.out ad n cap vs rfl HL.out HC.out H1.out ?c3 ?c4 ?c5 ?_)
  case c3=>unfold maxLen;omega
  case c4=>omega
  case c5=>simp
  intro v w1 hown hgrow hfr
  have HN:Hid (w1.ownsRow w.heap.size 157 5 v n vs):=Lib.hid (by have h:=hown;simpa using h)
  have HB2:=Lib.hid (HB.out.grown hgrow HB.out.size (fun j e=>(HO.out.lt j e).1))
  clear hown hgrow hfr
  go_wp2_with fail
  go_ret
  exact⟨⟨_,rfl,HN.out⟩,HB2.out⟩
theorem Try.infoInts1:(Try.prog.info? 3).map (fun i=>(i.size,i.bytes))=some (1,8):=by kernel_rfl
theorem Try.infoInts2:((Try.prog.info? 3).bind (fun i=>i.zero)).map (fun z=>z.cells.size)=some 1:=by kernel_rfl
theorem infoZInts:∃ i z,Try.prog.info? 3=some i∧i.zero=some z∧i.size=1∧i.bytes=8∧z.cells.size=1:=by
 have h1:=Try.infoInts1;have h2:=Try.infoInts2
 obtain⟨i,hi,h3⟩:=Option.map_eq_some_iff.1 h1
 obtain⟨z,hz,h4⟩:=Option.map_eq_some_iff.1 h2
 rw[hi,Option.bind_some] at hz
 simp only[Prod.mk.injEq] at h3
 exact⟨i,z,hi,hz,h3.1,h3.2,h4⟩
set_option maxRecDepth 100000 in
set_option maxHeartbeats 400000 in
theorem CloneIntsW{w:World}{ok:Nat→Prop}{n:Nat}{vs:List Value}{a:Option Addr}{cap:Nat}(h:RwAt w ok 1 n vs a cap)(h1:∀ u∈vs,u.oneCell'=true)(hn:n*8≤140737488355328) :
 Calls Try.prog 142 #[.slice a n cap] w fun e w'=>(∃ v,e=.returned v∧w'.ownsRow w.heap.size 3 1 v n vs)∧Below w.heap.size w w':=by
 have qT:∀ (w:World) (a:Option Addr) (n c n' c':Nat),(binOp .eql 44 (.slice a n c) (.slice none n' c')).run Try.prog w=.ok (.bool a.isNone) w:=fun w a n c n' c'=>Lib.run_eql_slice_nil w _ _ a n c n' c' Try.underlying44
 cases a with
 | none =>
  obtain⟨rfl,rfl,rfl⟩:=h.none
  go_enter Try.func142,Try.ntmps142
  go_wp2_with fail
  go_ret
  exact⟨⟨_,rfl,World.ownsRow_nil _ _ _ _⟩,Below.refl _ _⟩
 | some ad =>
  obtain⟨i0,zc,hi0,hz0,hz1,hz2,hz3⟩:=infoZInts
  have hB:Below w.heap.size w (w.alloc (.cells #[] 3)):=(Below.refl _ _).alloc (Nat.le_refl _) _
  have HO:Hid ((w.alloc (.cells #[] 3)).ownsRow w.heap.size 3 1 (.slice (some ⟨w.heap.size,0,none⟩) 0 0) 0 []):=Lib.hid (World.ownsRow_lit (base:=w.heap.size) (e:=3) (size:=1) w #[] 0 (Nat.le_refl _) (Nat.zero_le _) rfl)
  have HC:=Lib.hid ((h.mono (ok':=fun b=>b<w.heap.size) fun b hb _=>hb).below hB).news
  have HL:=Lib.hid h.len
  have HB:=Lib.hid hB
  have H1:=Lib.hid h1
  clear h hB h1
  go_enter Try.func142,Try.ntmps142
  go_wp2_with (at_builtin;refine wpList_append_fresh _ rfl _ _ 44 rfl w.heap.size 3 i0 zc 1 8 Try.underlying44 hi0 hz0 hz1 hz2 hz3 (by decide) _ _ _ rfl HO.out ad n cap vs rfl HL.out HC.out H1.out ?c3 ?c4 ?c5 ?_)
  case c3=>unfold maxLen;omega
  case c4=>omega
  case c5=>simp
  intro v w1 hown hgrow hfr
  have HN:Hid (w1.ownsRow w.heap.size 3 1 v n vs):=Lib.hid (by have h:=hown;simpa using h)
  have HB2:=Lib.hid (HB.out.grown hgrow HB.out.size (fun j e=>(HO.out.lt j e).1))
  clear hown hgrow hfr
  go_wp2_with fail
  go_ret
  exact⟨⟨_,rfl,HN.out⟩,HB2.out⟩
end Go.Proofs.Ytikmgiapjigghaa

/- Plain: what the reference reads. -/
namespace Go.Proofs.Ytikmgiapjigghaa
end Go.Proofs.Ytikmgiapjigghaa

/- Plain: what is read on a heap, and what is shown of a store; the statement HeapHangs, with no program in sight. -/
namespace Go.Proofs.Ytikmgiapjigghaa
section
variable {H:List HC} {σ:Sub} {D:Int→Prop} {S:Int→Nat}
noncomputable def gC(H:List HC)(S:Int→Nat)(v:Int):Int:=(endH H (S v):Int)+1
theorem Hang.show(h:Hang H σ D S):∀ (m:Nat) (ps:List (Nat×Tm)),Sts H D S ps→shL H m (ps.map (·.1))=(thrL σ m (ps.map (·.2))).map fun x=>(x.1.map (Tm.mapv (gC H S)),x.2):=by
 intro m
 induction m using Nat.strongRecOn with
 | _ m ih =>
 intro ps hp
 cases ps with
 | nil=>rw[List.map_nil,List.map_nil,shL_nil,thrL_nil];rfl
 | cons p r =>
  have hs:=hp p List.mem_cons_self
  have hr:Sts H D S r:=fun x hx=>hp x (List.mem_cons_of_mem _ hx)
  rw[List.map_cons,List.map_cons]
  cases m with
  | zero=>rw[shL_zero,thrL_zero];rfl
  | succ m =>
   obtain⟨s1,s2,s3,s4,s5,s6⟩:=h.look hs
   by_cases hx:(Go.Proofs.Ytikmgiapjigghaa.look σ p.2).var=0
   ·obtain⟨k1,k2,k3,k4⟩:=s6 hx
    rw[shL_fn k1,thrL_fn hx]
    obtain⟨qs,q1,q2,q3⟩:=Sts.args h hs hx
    rw[← q1,← q2,ih m (by omega) qs q3]
    cases ht:thrL σ m (qs.map (·.2)) with
    | none=>rfl
    | some y =>
     have hle:=(thrL_le _ _ _ ht).1
     simp only[Option.map_some,Option.bind_some]
     rw[ih y.2 (by omega) r hr]
     cases thrL σ y.2 (r.map (·.2)) with
     | none=>rfl
     | some z =>
      simp only[Option.map_some,List.map_cons]
      rw[Tm.mapv_fn (t:=.mk 0 (Go.Proofs.Ytikmgiapjigghaa.look σ p.2).name y.1) rfl,k2];rfl
   ·obtain⟨k1,k2,k3⟩:=s5 hx
    have he:endH H p.1=endH H (S (Go.Proofs.Ytikmgiapjigghaa.look σ p.2).var):=by
     rw[k3] at s1
     generalize (Go.Proofs.Ytikmgiapjigghaa.look σ p.2).var=v at *
     cases s1 with
     | var h1 h2 h3=>rw[s3] at h3;exact h3
     | fn=>exact absurd rfl hx
    rw[shL_var k1,thrL_var hx,ih m (by omega) r hr]
    cases thrL σ m (r.map (·.2)) with
    | none=>rfl
    | some z =>
     simp only[Option.map_some,List.map_cons]
     rw[Tm.mapv_var (t:=VarT (Go.Proofs.Ytikmgiapjigghaa.look σ p.2).var) hx]
     unfold gC
     rw[he];rfl
def Bare(σ:Sub)(D:Int→Prop)(T:Tm):Prop:=WfT T∧∀ p,p∈T.parts→p.var≠0→D p.var∧look σ (VarT p.var)=VarT p.var
theorem Bare.fn{n:ByteArray}{l:List Tm}(h:∀ t,t∈l→Bare σ D t):Bare σ D (.mk 0 n l):=by
 refine⟨fun p hp=>?_,fun p hp hv=>?_⟩
 ·rw[Tm.parts] at hp
  rcases List.mem_cons.1 hp with rfl | hp
  ·exact⟨Int.le_refl _,fun e=>absurd rfl e⟩
  ·obtain⟨t,ht,hp⟩:=Tm.partss_of hp
   exact(h t ht).1 p hp
 ·rw[Tm.parts] at hp
  rcases List.mem_cons.1 hp with rfl | hp
  ·exact absurd rfl hv
  ·obtain⟨t,ht,hp⟩:=Tm.partss_of hp
   exact(h t ht).2 p hp hv
theorem Hang.bare(h:Hang H σ D S):∀ (m:Nat) (ps:List (Nat×Tm)) (x:List Tm×Nat),Sts H D S ps→thrL σ m (ps.map (·.2))=some x→∀ T,T∈x.1→Bare σ D T:=by
 intro m
 induction m using Nat.strongRecOn with
 | _ m ih =>
 intro ps x hp he T hT
 cases ps with
 | nil=>rw[List.map_nil,thrL_nil] at he;cases he;cases hT
 | cons p r =>
  have hs:=hp p List.mem_cons_self
  have hr:Sts H D S r:=fun x hx=>hp x (List.mem_cons_of_mem _ hx)
  rw[List.map_cons] at he
  cases m with
  | zero=>rw[thrL_zero] at he;cases he
  | succ m =>
   obtain⟨s1,s2,s3,s4,s5,s6⟩:=h.look hs
   by_cases hx:(Go.Proofs.Ytikmgiapjigghaa.look σ p.2).var=0
   ·rw[thrL_fn hx] at he
    obtain⟨y,hy,h2⟩:=Option.bind_eq_some_iff.1 he
    obtain⟨z,hz,rfl⟩:=Option.map_eq_some_iff.1 h2
    have hle:=(thrL_le _ _ _ hy).1
    obtain⟨qs,q1,q2,q3⟩:=Sts.args h hs hx
    rw[← q2] at hy
    rcases List.mem_cons.1 hT with rfl | hT
    ·exact Bare.fn fun t ht=>ih m (by omega) qs y q3 hy t ht
    ·exact ih y.2 (by omega) r z hr hz T hT
   ·obtain⟨k1,k2,k3⟩:=s5 hx
    rw[thrL_var hx] at he
    obtain⟨z,hz,rfl⟩:=Option.map_eq_some_iff.1 he
    rcases List.mem_cons.1 hT with rfl | hT
    ·have h1:=h.pos _ k2
     refine⟨WfT.bare (by omega),fun q hq _=>?_⟩
     simp only[Tm.parts,Tm.partss,List.mem_singleton] at hq
     subst hq
     exact⟨k2,look_free (look_root h.store hx)⟩
    ·exact ih m (by omega) r z hr hz T hT
end
end Go.Proofs.Ytikmgiapjigghaa
