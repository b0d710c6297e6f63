/- What making two terms the same comes to, as a plain function; walk: Same. -/
import Derived.Deep.DeepCutAuto
import Derived.Test.YtikmgiapjigghabQc06
namespace Go.Proofs.Ytikmgiapjigghab
open Go.RowKit
inductive aI0 where
 | ok (σ:Sub) (L:List Int) (f:Nat)
 | no (σ:Sub) (L:List Int) (f:Nat)
 | many (σ:Sub) (L:List Int)
inductive bD2 where
 | done (o:aI0)
 | go (σ:Sub) (L:List Int) (f:Nat) (more:List (Tm×Tm))
noncomputable def cB(σ:Sub)(L:List Int)(v:Int)(t:Tm)(f:Nat):bD2 :=
 match within σ v f [t] with
 | .yes f'=>.done (.no σ L f')
 | .many=>.done (.many σ L)
 | .no f'=>.go (upd σ (fN v t).1 (fN v t).2) (L++[(fN v t).1]) (min f' f) []
noncomputable def aW(σ:Sub)(L:List Int)(f:Nat)(x y:Tm):bD2 :=
 if x.var≠0∧x.var=y.var then .go σ L f []
 else if x.var≠0 then cB σ L x.var y f
 else if y.var≠0 then cB σ L y.var x f
 else if x.name≠y.name∨x.args.length≠y.args.length then .done (.no σ L f)
 else .go σ L f (x.args.zip y.args)
theorem sW{σ:Sub}{L:List Int}{v:Int}{t:Tm}{f:Nat}{σ':Sub}{L':List Int}{f':Nat}{m:List (Tm×Tm)}(h:cB σ L v t f=.go σ' L' f' m):f'≤f:=by
 unfold cB at h;cases hw:within σ v f [t] with
 | yes g=>rw[hw] at h;cases h
 | many=>rw[hw] at h;cases h
 | no g=>rw[hw] at h;cases h;omega
theorem jL{σ:Sub}{L:List Int}{x y:Tm}{f:Nat}{σ':Sub}{L':List Int}{f':Nat}{m:List (Tm×Tm)}(h:aW σ L f x y=.go σ' L' f' m):f'≤f:=by
 unfold aW at h;by_cases h1:x.var≠0∧x.var=y.var
 ·rw[if_pos h1] at h;cases h;omega
 ·rw[if_neg h1] at h
  by_cases h2:x.var≠0
  ·rw[if_pos h2] at h;exact sW h
  ·rw[if_neg h2] at h
   by_cases h3:y.var≠0
   ·rw[if_pos h3] at h;exact sW h
   ·rw[if_neg h3] at h
    by_cases h4:x.name≠y.name∨x.args.length≠y.args.length
    ·rw[if_pos h4] at h;cases h
    ·rw[if_neg h4] at h;cases h;omega
noncomputable def meet(σ:Sub)(L:List Int)(f:Nat)(ps:List (Tm×Tm)):aI0 :=
 match f,ps with
 | f,[]=>.ok σ L f
 | 0,_::_=>.many σ L
 | f+1,p::r =>
  match h:aW σ L f (look σ p.1) (look σ p.2) with
  | .done o=>o
  | .go σ' L' f' more =>
   have:f'<f+1:=Nat.lt_succ_of_le (jL h)
   meet σ' L' f' (more++r)
termination_by f
theorem jM(σ:Sub)(L:List Int)(f:Nat):meet σ L f []=.ok σ L f:=by unfold meet;rfl
theorem kH(σ:Sub)(L:List Int)(p:Tm×Tm)(r:List (Tm×Tm)):meet σ L 0 (p::r)=.many σ L:=by unfold meet;rfl
theorem kI{σ:Sub}{L:List Int}{f:Nat}{p:Tm×Tm}{o:aI0}(r:List (Tm×Tm))(h:aW σ L f (look σ p.1) (look σ p.2)=.done o):meet σ L (f+1) (p::r)=o:=by
 conv=>lhs;unfold meet
 simp only;split
 ·rename_i o' h';rw[h] at h';cases h';rfl
 ·rename_i h';rw[h] at h';cases h'
theorem kC{σ:Sub}{L:List Int}{f:Nat}{p:Tm×Tm}{σ':Sub}{L':List Int}{f':Nat}{m:List (Tm×Tm)}(r:List (Tm×Tm))(h:aW σ L f (look σ p.1) (look σ p.2)=.go σ' L' f' m):meet σ L (f+1) (p::r)=meet σ' L' f' (m++r):=by
 conv=>lhs;unfold meet
 simp only;split
 ·rename_i h';rw[h] at h';cases h'
 ·rename_i h';rw[h] at h';cases h';rfl
def nP(σ:Sub):Prop:=∃r:Int→Nat,∀v u,σ v=some u→u.var≠0→r u.var<r v
theorem nP.ends{σ:Sub}(h:nP σ):aU8 σ:=by
 obtain⟨r,hr⟩:=h;have key:∀(n:Nat) (t:Tm),r t.var<n→∃m u,iN σ m t u:=by
  intro n
  induction n with
  | zero=>intro t h;omega
  | succ n ih =>
   intro t ht;by_cases hv:t.var=0
   ·exact⟨0,t,rfl,.inl hv⟩
   ·cases hs:σ t.var with
    | none=>exact⟨0,t,rfl,.inr hs⟩
    | some u =>
     by_cases hu:u.var=0
     ·exact⟨1,u,hv,u,hs,rfl,.inl hu⟩
     ·obtain⟨m,x,hx⟩:=ih u (by have:=hr _ _ hs hu;omega)
      exact⟨m+1,x,hv,u,hs,hx⟩
 exact fun t=>key (r t.var+1) t (by omega)
theorem vN{σ:Sub}(h:aU8 σ)(t:Tm):(look σ t).var=0∨σ (look σ t).var=none:=by
 obtain⟨n,hn⟩:=lR h t;generalize look σ t=u at *
 induction n generalizing t with
 | zero=>obtain⟨rfl,h2⟩:=hn;exact h2
 | succ n ih=>obtain⟨_,t',_,h2⟩:=hn;exact ih t' h2
theorem nP.upd{σ:Sub}(h:nP σ){k:Int}{u:Tm}(hk:σ k=none)(hu:u.var≠0→u.var≠k∧σ u.var=none):nP (upd σ k u):=by
 obtain⟨r,hr⟩:=h;by_cases h0:u.var=0
 ·refine⟨r,fun v t ht hv=>?_⟩
  unfold Go.Proofs.Ytikmgiapjigghab.upd at ht;by_cases e:v=k
  ·rw[if_pos e] at ht;cases ht;exact absurd h0 hv
  ·rw[if_neg e] at ht;exact hr v t ht hv
 ·obtain⟨h1,h2⟩:=hu h0
  refine⟨fun x=>if x=u.var then 0 else r x+1,fun v t ht hv=>?_⟩;unfold Go.Proofs.Ytikmgiapjigghab.upd at ht;by_cases e:v=k
  ·rw[if_pos e] at ht
   cases ht;subst e;have h5:¬v=u.var:=fun e=>h1 e.symm
   simp only[if_true,if_neg h5];omega
  ·rw[if_neg e] at ht
   have h3:=hr v t ht hv;have h4:v≠u.var:=fun e2=>by rw[e2,h2] at ht;cases ht
   simp only[if_neg h4];by_cases h5:t.var=u.var
   ·rw[if_pos h5];omega
   ·rw[if_neg h5];omega
def WfT(t:Tm):Prop:=∀p,p∈t.parts→0≤p.var∧(p.var≠0→p.args = []∧p.name=⟨#[]⟩)
theorem Tm.self_mem(t:Tm):t∈t.parts:=by cases t;simp[Tm.parts]
theorem Tm.partss_mem{l:List Tm}{t p:Tm}(ht:t∈l)(hp:p∈t.parts):p∈Tm.partss l:=by
 induction l with
 | nil=>cases ht
 | cons a l ih =>
  rw[Tm.partss,List.mem_append];rcases List.mem_cons.1 ht with rfl|h
  ·exact .inl hp
  ·exact .inr (ih h)
theorem Tm.parts_arg{t x p:Tm}(hx:x∈t.args)(hp:p∈x.parts):p∈t.parts:=by
 cases t with
 | mk v n l =>
  rw[Tm.parts];exact List.mem_cons_of_mem _ (Tm.partss_mem hx hp)
theorem WfT.arg{t x:Tm}(h:WfT t)(hx:x∈t.args):WfT x:=fun p hp=>h p (Tm.parts_arg hx hp)
theorem WfT.pos{t:Tm}(h:WfT t):0≤t.var:=(h t t.self_mem).1
theorem WfT.bare{v:Int}(h:0≤v):WfT (.mk v ⟨#[]⟩ []):=by
 intro p hp;simp only[Tm.parts,Tm.partss,List.mem_singleton] at hp;subst hp;exact⟨h,fun _=>⟨rfl,rfl⟩⟩
structure gF(σ:Sub):Prop where
 rank:nP σ
 each:∀v u,σ v=some u→1≤v∧WfT u
theorem gF.look{σ:Sub}(h:gF σ){t:Tm}(ht:WfT t):WfT (look σ t):=by
 obtain⟨n,hn⟩:=lR h.rank.ends t;generalize Go.Proofs.Ytikmgiapjigghab.look σ t=u at *
 induction n generalizing t with
 | zero=>obtain⟨rfl,_⟩:=hn;exact ht
 | succ n ih=>obtain⟨_,t',h1,h2⟩:=hn;exact ih (h.each _ _ h1).2 h2
theorem gF.bind{σ:Sub}(h:gF σ){v:Int}{t:Tm}(hv:1≤v)(hvn:σ v=none)(ht:WfT t)(htn:t.var=0∨σ t.var=none)(hne:t.var≠v):gF (upd σ (fN v t).1 (fN v t).2):=by
 unfold fN;by_cases hlt:v<t.var
 ·rw[if_pos hlt]
  have h0:σ t.var=none:=htn.resolve_left (by omega);refine⟨h.rank.upd h0 (fun _=>⟨by show v≠t.var;omega,hvn⟩),fun x u hx=>?_⟩;unfold upd at hx;by_cases e:x=t.var
  ·rw[if_pos e] at hx;cases hx;exact⟨by omega,WfT.bare (by omega)⟩
  ·rw[if_neg e] at hx;exact h.each x u hx
 ·rw[if_neg hlt]
  refine⟨h.rank.upd hvn (fun h0=>⟨hne,htn.resolve_left h0⟩),fun x u hx=>?_⟩;unfold upd at hx;by_cases e:x=v
  ·rw[if_pos e] at hx;cases hx;exact⟨by omega,ht⟩
  ·rw[if_neg e] at hx;exact h.each x u hx
theorem dP.all{w:World}{b:Nat}{x0 x1 x2:Value}(h:dP w b x0 x1 x2):w.cell? ⟨b,0,none⟩=some x0∧w.cell? ⟨b,1,none⟩=some x1∧w.cell? ⟨b,2,none⟩=some x2∧∀o,w.frozen? ⟨b,o,none⟩=false:=⟨h.c0,h.c1,h.c2,h.fz⟩
theorem cF.trans{w w1:World}{v v1 v2:Value}(h:cF w v v1)(k:cF w1 v1 v2)(hs:w.heap.size≤w1.heap.size):cF w v v2:=by
 rcases k with e|e
 ·rcases h with e2|e2
  ·exact .inl (e.trans e2)
  ·exact .inr fun g hg=>e2 g (e ▸ hg)
 ·exact .inr fun g hg=>Nat.le_trans hs (e g hg)
theorem aT9{σ:Sub}{v:Int}{f:Nat}{t:Tm}{r:List Tm}{g:Nat}(h:within σ v f (t::r)=.no g):g<f:=by
 cases f with
 | zero=>simp[within] at h
 | succ f =>
  simp only[within] at h;by_cases h1:(look σ t).var≠0
  ·rw[if_pos h1] at h
   by_cases h2:(look σ t).var=v
   ·rw[if_pos h2] at h;cases h
   ·rw[if_neg h2] at h
    have:=(rW σ v f r).2 g h;omega
  ·rw[if_neg h1] at h
   have:=(rW σ v f _).2 g h;omega
section
variable {S:Type} (nm:S→Int→Int×S)
mutual
def Tm.ren:S→Tm→Tm×S
 | s,.mk v n l=>if v≠0 then (.mk (nm s v).1 ⟨#[]⟩ [],(nm s v).2) else (.mk 0 n (Tm.rens s l).1,(Tm.rens s l).2)
def Tm.rens:S→List Tm→List Tm×S
 | s,[]=>([],s)
 | s,t::r=>((Tm.ren s t).1::(Tm.rens (Tm.ren s t).2 r).1,(Tm.rens (Tm.ren s t).2 r).2)
end
theorem Tm.rens_append(s:S)(l r:List Tm):Tm.rens nm s (l++r)=((Tm.rens nm s l).1++(Tm.rens nm (Tm.rens nm s l).2 r).1,(Tm.rens nm (Tm.rens nm s l).2 r).2):=by
 induction l generalizing s with
 | nil=>simp[Tm.rens]
 | cons t l ih=>simp only[List.cons_append,Tm.rens,ih]
theorem Tm.rens_length(s:S)(l:List Tm):(Tm.rens nm s l).1.length=l.length:=by
 induction l generalizing s with
 | nil=>simp[Tm.rens]
 | cons t l ih=>simp only[Tm.rens,List.length_cons,ih]
end
def bR2{S:Type}(nm:S→Int→Int×S)(Inv:World→S→Prop)(Md:Nat→Prop)(F:FuncId)(cp:Array Value):Prop :=
 ∀(w:World) (s:S) (v:Int),Inv w s→I64 v→Calls Try.prog F (#[.int .i64 v]++cp) w fun e w'=>e=.returned (.int .i64 (nm s v).1)∧Inv w' (nm s v).2∧I64 (nm s v).1∧aA Md w w'
end Go.Proofs.Ytikmgiapjigghab
