/- The reference's state: what its lists hold; work; walk: Within. -/
import Derived.Deep.RegionHeld3
import Derived.Deep.LoopGhost
import Derived.Deep.RegionWith
import Derived.Deep.DeepCutAuto
import Derived.Test.YtikmgiapjigghabQc01
import Derived.Test.YtikmgiapjigghabQc03
import Derived.Test.YtikmgiapjigghabQc06
import Derived.Test.YtikmgiapjigghabQc07
import Derived.Test.YtikmgiapjigghabQc08
import Derived.Test.YtikmgiapjigghabQc09
set_option maxRecDepth 100000
set_option maxHeartbeats 8000000
namespace Go.Proofs.Ytikmgiapjigghab
open Go.RowKit
structure Fit(n:Nat)(t:Tm):Prop where
 wf:WfT t
 bd:∀p,p∈t.parts→p.var.toNat<n∧p.args.length≤100000
theorem Fit.arg{n:Nat}{t x:Tm}(h:Fit n t)(hx:x∈t.args):Fit n x:=⟨h.wf.arg hx,fun p hp=>h.bd p (Tm.parts_arg hx hp)⟩
theorem Fit.pos{n:Nat}{t:Tm}(h:Fit n t):0≤t.var∧t.var.toNat<n:=⟨h.wf.pos,(h.bd t t.self_mem).1⟩
theorem Fit.len{n:Nat}{t:Tm}(h:Fit n t):t.args.length≤100000:=(h.bd t t.self_mem).2
theorem aC{w w':World}{base:Nat}{e:TypeId}{size:Nat}{v:Value}{n:Nat}{xs:List Value}(h:w.ownsRow base e size v n xs)(hb:∀g,v.ownBlock=some g→w'.heap[g]? = w.heap[g]?):w'.ownsRow base e size v n xs:=by
 refine⟨h.1,?_⟩;rcases h.2 with h2|⟨g,cap,cur,rfl,h3,h4,r⟩
 ·exact .inl h2
 ·exact .inr ⟨g,cap,cur,rfl,h3,(hb g rfl).trans h4,r⟩
theorem iN.stop{σ:Sub}:∀{n:Nat} {t u:Tm},iN σ n t u→u.var=0∨σ u.var=none
 | 0,_,_,h=>by obtain⟨rfl,h⟩:=h;exact h
 | _+1,_,_,h=>by obtain⟨_,_,_,h⟩:=h;exact iN.stop h
theorem xQ{σ:Sub}(h:aU8 σ)(t:Tm):(look σ t).var=0∨σ (look σ t).var=none:=by
 obtain⟨n,hn⟩:=lR h t;exact hn.stop
abbrev aQ(v:Int):Tm:=.mk v ⟨#[]⟩ []
theorem WfT.isVar{t:Tm}(h:WfT t)(hv:t.var≠0):t=aQ t.var:=by
 obtain⟨h1,h2⟩:=(h t t.self_mem).2 hv;exact Tm.ext' rfl h2 h1
theorem jD{σ:Sub}{t:Tm}(h:t.var=0):look σ t=t:=tI (n:=0) ⟨rfl,.inl h⟩
theorem iB{σ:Sub}{t:Tm}(h:σ t.var=none):look σ t=t:=tI (n:=0) ⟨rfl,.inr h⟩
theorem aS0{σ:Sub}{k:Int}{u:Tm}(hk0:k≠0)(hk:σ k=none)(hu:u.var=0∨(u.var≠k∧σ u.var=none)) :
 ∀(n:Nat) (t x:Tm),iN σ n t x→∃m,iN (upd σ k u) m t (if x.var=k then u else x):=by
 intro n
 induction n with
 | zero =>
  rintro t x ⟨rfl,h⟩;by_cases e:x.var=k
  ·rw[if_pos e]
   refine⟨1,by omega,u,by unfold upd;rw[if_pos e],rfl,?_⟩;rcases hu with h1|⟨h1,h2⟩
   ·exact .inl h1
   ·exact .inr (by unfold upd;rw[if_neg h1];exact h2)
  ·rw[if_neg e]
   refine⟨0,rfl,h.imp id fun h=>?_⟩;unfold upd;rw[if_neg e];exact h
 | succ n ih =>
  rintro t x ⟨h1,t',h2,h3⟩;obtain⟨m,hm⟩:=ih t' x h3;refine⟨m+1,h1,t',?_,hm⟩;have:t.var≠k:=fun e=>by rw[e,hk] at h2;cases h2
  unfold upd;rw[if_neg this];exact h2
theorem aF5{σ:Sub}(hE:aU8 σ){k:Int}{u:Tm}(hk0:k≠0)(hk:σ k=none)(hu:u.var=0∨(u.var≠k∧σ u.var=none))(t:Tm) :
 look (upd σ k u) t=if (look σ t).var=k then u else look σ t:=by
 obtain⟨n,hn⟩:=lR hE t;obtain⟨m,hm⟩:=aS0 hk0 hk hu n t _ hn;exact tI hm
structure Sim(σ τ:Sub):Prop where
 inv:gF σ
 inv':gF τ
 same:∀v:Int,v≠0→(look σ (aQ v)).var=0→look τ (aQ v)=look σ (aQ v)
 vars:∀v:Int,v≠0→(look σ (aQ v)).var≠0→(look τ (aQ v)).var≠0
 cls:∀v w:Int,v≠0→w≠0→(look σ (aQ v)).var≠0→(look σ (aQ w)).var≠0→((look σ (aQ v)).var=(look σ (aQ w)).var↔(look τ (aQ v)).var=(look τ (aQ w)).var)
theorem aL0{σ:Sub}{v:Int}{t:Tm}(h0:t.var≠0)(hf:σ t.var=none)(hne:t.var≠v)(f:Nat):within σ v (f+1) [t]=.no f:=by
 simp only[within];rw[iB hf,if_pos h0,if_neg hne]
theorem gD{σ:Sub}(h:gF σ){t:Tm}(hx:(look σ t).var≠0):σ (look σ t).var=none:=(vN h.rank.ends t).resolve_left hx
theorem wJ{σ:Sub}{f:Nat}{x y:Tm}{L:List Int}(h:x.var≠0)(h2:x.var=y.var):aW σ L f x y=.go σ L f []:=by
 unfold aW;rw[if_pos ⟨h,h2⟩]
theorem uR{σ:Sub}{f:Nat}{x y:Tm}{L:List Int}(h:x.var≠0)(h2:x.var≠y.var):aW σ L f x y=cB σ L x.var y f:=by
 unfold aW;rw[if_neg (fun e=>h2 e.2),if_pos h]
theorem uS{σ:Sub}{f:Nat}{x y:Tm}{L:List Int}(h:x.var=0)(h2:y.var≠0):aW σ L f x y=cB σ L y.var x f:=by
 unfold aW;rw[if_neg (fun e=>e.1 h),if_neg (fun e=>e h),if_pos h2]
theorem aF6{σ:Sub}{f:Nat}{x y:Tm}{L:List Int}(h:x.var=0)(h2:y.var=0)(h3:x.name≠y.name∨x.args.length≠y.args.length):aW σ L f x y=.done (.no σ L f):=by
 unfold aW;rw[if_neg (fun e=>e.1 h),if_neg (fun e=>e h),if_neg (fun e=>e h2),if_pos h3]
theorem oH{σ:Sub}{f:Nat}{x y:Tm}{L:List Int}(h:x.var=0)(h2:y.var=0)(h3:¬(x.name≠y.name∨x.args.length≠y.args.length)):aW σ L f x y=.go σ L f (x.args.zip y.args):=by
 unfold aW;rw[if_neg (fun e=>e.1 h),if_neg (fun e=>e h),if_neg (fun e=>e h2),if_neg h3]
theorem Sim.start:Sim (fun _=>none) (fun _=>none):=by
 have hi:gF (fun _=>none):=⟨⟨fun _=>0,fun v u h=>by cases h⟩,fun v u h=>by cases h⟩
 have hl:∀t,look (fun _=>none) t=t:=fun t=>iB rfl
 refine⟨hi,hi,fun v hv h=>rfl,fun v hv h=>h,fun v w _ _ _ _=>Iff.rfl⟩
noncomputable def gG(σ:Sub)(m:Nat)(l:List Tm):Option (List Tm×Nat) :=
 match m,l with
 | m,[]=>some ([],m)
 | 0,_::_=>none
 | m+1,t::r =>
  if (look σ t).var≠0 then
   match gG σ m r with
   | some x=>some (aQ (look σ t).var::x.1,x.2)
   | none=>none
  else
   match gG σ m (look σ t).args with
   | none=>none
   | some y =>
    have:min y.2 m<m+1:=by omega
    match gG σ (min y.2 m) r with
    | some x=>some (.mk 0 (look σ t).name y.1::x.1,x.2)
    | none=>none
termination_by m
theorem nD(σ:Sub)(m:Nat):gG σ m []=some ([],m):=by unfold gG;rfl
theorem rV(σ:Sub)(t:Tm)(r:List Tm):gG σ 0 (t::r)=none:=by unfold gG;rfl
theorem wA{σ:Sub}{t:Tm}(h:(look σ t).var≠0)(m:Nat)(r:List Tm):gG σ (m+1) (t::r)=(gG σ m r).map fun x=>(aQ (look σ t).var::x.1,x.2):=by
 conv=>lhs;unfold gG
 simp only[if_pos h];cases gG σ m r <;> rfl
theorem aI7{σ:Sub}{t:Tm}(h:(look σ t).var=0)(m:Nat)(r:List Tm):gG σ (m+1) (t::r)=(gG σ m (look σ t).args).bind fun y=>(gG σ (min y.2 m) r).map fun x=>(.mk 0 (look σ t).name y.1::x.1,x.2):=by
 conv=>lhs;unfold gG
 simp only[h,ne_eq,not_true_eq_false,if_false];cases gG σ m (look σ t).args with
 | none=>rfl
 | some y =>
  simp only[Option.bind_some];cases gG σ (min y.2 m) r <;> rfl
theorem aA7{σ:Sub}:∀(m:Nat) (l:List Tm) (x:List Tm×Nat),gG σ m l=some x→x.2≤m∧x.1.length=l.length:=by
 intro m
 induction m using Nat.strongRecOn with
 | _ m ih =>
 intro l x h;cases l with
 | nil=>rw[nD] at h;cases h;exact⟨nR _,rfl⟩
 | cons t r =>
  cases m with
  | zero=>rw[rV] at h;cases h
  | succ m =>
   by_cases hv:(look σ t).var=0
   ·rw[aI7 hv] at h
    obtain⟨y,hy,h2⟩:=Option.bind_eq_some_iff.1 h;obtain⟨z,hz,rfl⟩:=Option.map_eq_some_iff.1 h2;have:=ih (min y.2 m) (by omega) r z hz;exact⟨by simp only;omega,by simp only[List.length_cons];omega⟩
   ·rw[wA hv] at h
    obtain⟨z,hz,rfl⟩:=Option.map_eq_some_iff.1 h;have:=ih m (by omega) r z hz;exact⟨by simp only;omega,by simp only[List.length_cons];omega⟩
theorem aA8{σ:Sub}{t:Tm}(h:(look σ t).var=0)(m:Nat)(r:List Tm):gG σ (m+1) (t::r)=(gG σ m (look σ t).args).bind fun y=>(gG σ y.2 r).map fun x=>(.mk 0 (look σ t).name y.1::x.1,x.2):=by
 rw[aI7 h];cases hy:gG σ m (look σ t).args with
 | none=>rfl
 | some y =>
  have:=(aA7 _ _ _ hy).1;simp only[Option.bind_some];rw[Nat.min_eq_left this]
mutual
def Tm.mapv(g:Int→Int):Tm→Tm
 | .mk v n l=>if v≠0 then aQ (g v) else .mk 0 n (Tm.mapvs g l)
def Tm.mapvs(g:Int→Int):List Tm→List Tm
 | []=>[]
 | t::r=>t.mapv g::Tm.mapvs g r
end
theorem Tm.mapvs_eq(g:Int→Int)(l:List Tm):Tm.mapvs g l=l.map (Tm.mapv g):=by
 induction l with
 | nil=>rfl
 | cons t r ih=>rw[Tm.mapvs,ih];rfl
theorem Tm.mapv_var{g:Int→Int}{t:Tm}(h:t.var≠0):t.mapv g=aQ (g t.var):=by
 cases t;simp only[Tm.var] at h;simp only[Tm.mapv,if_pos h,Tm.var]
theorem Tm.mapv_fn{g:Int→Int}{t:Tm}(h:t.var=0):t.mapv g=.mk 0 t.name (t.args.map (Tm.mapv g)):=by
 cases t;simp only[Tm.var] at h;subst h;simp only[Tm.mapv,Tm.name,Tm.args,Tm.mapvs_eq];rfl
theorem aA9{n:Nat}{v:Int}(h1:0≤v)(h2:v.toNat<n):Fit n (aQ v):=⟨WfT.bare h1,fun p hp=>by
 simp only[Tm.parts,Tm.partss,List.mem_singleton] at hp;subst hp;exact⟨h2,by simp[Tm.args]⟩⟩
theorem kV{τ:Sub}{n:Nat}(hE:aU8 τ)(hd:∀v u,τ v=some u→Fit n u){t:Tm}(ht:Fit n t):Fit n (look τ t):=by
 obtain⟨k,hk⟩:=lR hE t;generalize look τ t=u at *
 induction k generalizing t with
 | zero=>obtain⟨rfl,_⟩:=hk;exact ht
 | succ k ihk=>obtain⟨_,t',h1,h2⟩:=hk;exact ihk (hd _ _ h1) h2
theorem aP8{τ:Sub}{n:Nat}(hd:∀v u,τ v=some u→Fit n u){k:Int}{x:Tm}(hx:Fit n x):∀v u,upd τ k x v=some u→Fit n u:=fun v u h=>by
 unfold upd at h;by_cases e:v=k
 ·rw[if_pos e] at h;cases h;exact hx
 ·rw[if_neg e] at h;exact hd v u h
end Go.Proofs.Ytikmgiapjigghab
namespace Go.Proofs.Ytikmgiapjigghab
structure HC where
 k:Int
 n:Int
 name:ByteArray
def hc(H:List HC)(i:Nat):HC:=H.getD i ⟨0,0,⟨#[]⟩⟩
theorem lV{H:List HC}{i:Nat}(h:i<H.length):hc H i=H[i]:=by unfold hc;rw[List.getD_eq_getElem?_getD,List.getElem?_eq_getElem h];rfl
noncomputable def gJ(H:List HC)(i:Nat):Nat :=
 if ¬(dO (hc H i).name=true)∨(hc H i).n<0∨4<(hc H i).n∨((hc H i).name.toList = [33]∧0<(hc H i).n) then 1
 else if (H.length:Int)≤(i:Int)+(hc H i).n then 5
 else if ∀j:Nat,j<(hc H i).n.toNat→(hc H (i+1+j)).k=1 then 0 else 1
noncomputable def cD(H:List HC)(i:Nat):Nat :=
 if (hc H i).k=1 then (if (hc H i).n<0∨(H.length:Int)≤(hc H i).n then 5 else if (hc H i).name.size≠0 then 1 else 0)
 else if (hc H i).k=2 then gJ H i else 1
def leads(H:List HC)(i:Nat):List Nat :=
 if (hc H i).k=1 then (if (hc H i).n=(i:Int) then [] else [(hc H i).n.toNat])
 else (List.range (hc H i).n.toNat).map fun j=>i+1+j
def eW(H:List HC):Prop:=∀i,i<H.length→Acc (iQ (leads H)) i
def dK(H:List HC):Prop:=∀i,i<H.length→cD H i=0
noncomputable def cX(H:List HC):Nat→Nat
 | 0=>0
 | n+1=>if cX H n=0 then cD H n else cX H n
open Classical in
noncomputable def cH(H:List HC):Nat :=
 if 400000<H.length then 2 else if cX H H.length≠0 then cX H H.length else if eW H then 0 else 4
theorem iE{H:List HC}:∀n:Nat,(∀i,i<n→cD H i=0)→cX H n=0:=by
 intro n
 induction n with
 | zero=>intro _;rfl
 | succ n ih=>intro h;simp only[cX];rw[if_pos (ih fun i hi=>h i (by omega))];exact h n (by omega)
theorem pU{H:List HC}:∀(m n:Nat),n<m→(∀i,i<n→cD H i=0)→cD H n≠0→cX H m=cD H n:=by
 intro m
 induction m with
 | zero=>intro n h;omega
 | succ m ih =>
  intro n hn hz hc;simp only[cX];by_cases e:n=m
  ·subst e;rw[if_pos (iE _ hz)]
  ·rw[ih n (by omega) hz hc,if_neg hc]
theorem wG{H:List HC}:∀n:Nat,cX H n=0→∀i,i<n→cD H i=0:=by
 intro n
 induction n with
 | zero=>intro _ i hi;omega
 | succ n ih =>
  intro h i hi;simp only[cX] at h;by_cases e:cX H n=0
  ·rw[if_pos e] at h
   by_cases e2:i=n
   ·subst e2;exact h
   ·exact ih e i (by omega)
  ·rw[if_neg e] at h;exact absurd h e
theorem aC8{H:List HC}(h:cH H=0):H.length≤400000∧dK H∧eW H:=by
 unfold cH at h;by_cases h1:400000<H.length
 ·rw[if_pos h1] at h;cases h
 ·rw[if_neg h1] at h
  by_cases h2:cX H H.length≠0
  ·rw[if_pos h2] at h;exact absurd h h2
  ·rw[if_neg h2] at h
   by_cases h3:eW H
   ·exact⟨by omega,wG _ (by omega),h3⟩
   ·rw[if_neg h3] at h;cases h
theorem bV{H:List HC}{i:Nat}(h:cD H i=0) :
 ((hc H i).k=1∧0≤(hc H i).n∧(hc H i).n.toNat<H.length∧(hc H i).name.size=0) ∨
 ((hc H i).k=2∧dO (hc H i).name=true∧0≤(hc H i).n∧(hc H i).n.toNat≤4∧i+(hc H i).n.toNat<H.length∧(∀j:Nat,j<(hc H i).n.toNat→(hc H (i+1+j)).k=1)∧¬((hc H i).name.toList = [33]∧0<(hc H i).n)):=by
 unfold cD at h;by_cases h1:(hc H i).k=1
 ·rw[if_pos h1] at h
  split at h
  ·cases h
  ·split at h
   ·cases h
   ·exact .inl ⟨h1,by omega,by omega,by omega⟩
 ·rw[if_neg h1] at h
  by_cases h2:(hc H i).k=2
  ·rw[if_pos h2] at h
   unfold gJ at h;split at h
   ·cases h
   ·rename_i h3
    split at h
    ·cases h
    ·split at h
     ·rename_i h5
      have h31:dO (hc H i).name=true:=Classical.byContradiction fun e=>h3 (.inl e)
      have h32:¬((hc H i).name.toList = [33]∧0<(hc H i).n):=fun e=>h3 (.inr (.inr (.inr e)))
      exact .inr ⟨h2,h31,by omega,by omega,by omega,h5,h32⟩
     ·cases h
  ·rw[if_neg h2] at h;cases h
theorem iF{H:List HC}(h:dK H):∀i,i<H.length→∀j,j∈leads H i→j<H.length:=by
 intro i hi j hj;unfold leads at hj;rcases bV (h i hi) with ⟨h1,h2,h3,_⟩|⟨h1,_,h2,h3,h4,_⟩
 ·rw[if_pos h1] at hj
  split at hj
  ·cases hj
  ·rw[List.mem_singleton] at hj;subst hj;exact h3
 ·rw[if_neg (by omega),List.mem_map] at hj
  obtain⟨k,hk,rfl⟩:=hj;rw[List.mem_range] at hk;omega
def cR(H:List HC)(i:Nat):Prop:=(hc H i).k=1∧(hc H i).n≠(i:Int)
def iU(H:List HC):Nat→Nat→Nat→Prop
 | 0,i,j=>i=j∧¬cR H i
 | m+1,i,j=>cR H i∧iU H m (hc H i).n.toNat j
theorem iU.det{H:List HC}:∀{m:Nat} {i j m' j':Nat},iU H m i j→iU H m' i j'→m=m'∧j=j':=by
 intro m
 induction m with
 | zero =>
  rintro i j m' j' ⟨rfl,h⟩ h';cases m' with
  | zero=>exact⟨rfl,h'.1⟩
  | succ m'=>exact absurd h'.1 h
 | succ m ih =>
  rintro i j m' j' ⟨h1,h2⟩ h';cases m' with
  | zero=>exact absurd h1 h'.2
  | succ m'=>obtain⟨e1,e2⟩:=ih h2 h'.2;exact⟨by rw[e1],e2⟩
noncomputable def aG(H:List HC)(i:Nat):Nat:=Classical.epsilon fun j=>∃m,iU H m i j
theorem pV{H:List HC}{m i j:Nat}(h:iU H m i j):aG H i=j:=by
 have:∃m,iU H m i (aG H i):=Classical.epsilon_spec (p:=fun j=>∃m,iU H m i j) ⟨j,m,h⟩;obtain⟨m',h'⟩:=this;exact(iU.det h' h).2
theorem fI{H:List HC}{i:Nat}(h:Acc (iQ (leads H)) i):∃m,iU H m i (aG H i):=by
 have:∃m j,iU H m i j:=by
  induction h with
  | intro i _ ih =>
   by_cases hr:cR H i
   ·have hl:(hc H i).n.toNat∈leads H i:=by unfold leads;rw[if_pos hr.1,if_neg hr.2];simp
    obtain⟨m,j,hj⟩:=ih _ hl;exact⟨m+1,j,hr,hj⟩
   ·exact⟨0,i,rfl,hr⟩
 obtain⟨m,j,hj⟩:=this;exact⟨m,by rw[pV hj];exact hj⟩
theorem iU.stop{H:List HC}:∀{m i j:Nat},iU H m i j→¬cR H j:=by
 intro m
 induction m with
 | zero=>rintro i j ⟨rfl,h⟩;exact h
 | succ m ih=>rintro i j ⟨_,h⟩;exact ih h
theorem iU.lt{H:List HC}(hH:dK H):∀{m i j:Nat},iU H m i j→i<H.length→j<H.length:=by
 intro m
 induction m with
 | zero=>rintro i j ⟨rfl,_⟩ hi;exact hi
 | succ m ih =>
  rintro i j ⟨hr,h⟩ hi;refine ih h ?_;rcases bV (hH i hi) with ⟨_,_,h3,_⟩|⟨h1,_⟩
  ·exact h3
  ·rw[hr.1] at h1;cases h1
def bD(H:List HC)(i:Nat):List Nat:=(List.range (hc H i).n.toNat).map fun j=>i+1+j
noncomputable def shL(H:List HC)(m:Nat)(l:List Nat):Option (List Tm×Nat) :=
 match m,l with
 | m,[]=>some ([],m)
 | 0,_::_=>none
 | m+1,t::r =>
  if (hc H (aG H t)).k=1 then
   match shL H m r with
   | some x=>some (aQ ((aG H t:Int)+1)::x.1,x.2)
   | none=>none
  else
   match shL H m (bD H (aG H t)) with
   | none=>none
   | some y =>
    have:min y.2 m<m+1:=by omega
    match shL H (min y.2 m) r with
    | some x=>some (.mk 0 (hc H (aG H t)).name y.1::x.1,x.2)
    | none=>none
termination_by m
theorem kY(H:List HC)(m:Nat):shL H m []=some ([],m):=by unfold shL;rfl
theorem lJ(H:List HC)(t:Nat)(r:List Nat):shL H 0 (t::r)=none:=by unfold shL;rfl
theorem nK{H:List HC}{t:Nat}(h:(hc H (aG H t)).k=1)(m:Nat)(r:List Nat):shL H (m+1) (t::r)=(shL H m r).map fun x=>(aQ ((aG H t:Int)+1)::x.1,x.2):=by
 conv=>lhs;unfold shL
 simp only[if_pos h];cases shL H m r <;> rfl
theorem aN9{H:List HC}{t:Nat}(h:(hc H (aG H t)).k≠1)(m:Nat)(r:List Nat):shL H (m+1) (t::r)=(shL H m (bD H (aG H t))).bind fun y=>(shL H (min y.2 m) r).map fun x=>(.mk 0 (hc H (aG H t)).name y.1::x.1,x.2):=by
 conv=>lhs;unfold shL
 simp only[if_neg h];cases shL H m (bD H (aG H t)) with
 | none=>rfl
 | some y=>simp only[Option.bind_some];cases shL H (min y.2 m) r <;> rfl
theorem tX{H:List HC}:∀(m:Nat) (l:List Nat) (x:List Tm×Nat),shL H m l=some x→l.length+x.2≤m∧x.1.length=l.length:=by
 intro m
 induction m using Nat.strongRecOn with
 | _ m ih =>
 intro l x h;cases l with
 | nil=>rw[kY] at h;cases h;exact⟨by simp,rfl⟩
 | cons t r =>
  cases m with
  | zero=>rw[lJ] at h;cases h
  | succ m =>
   by_cases hv:(hc H (aG H t)).k=1
   ·rw[nK hv] at h
    obtain⟨z,hz,rfl⟩:=Option.map_eq_some_iff.1 h;have:=ih m (by omega) r z hz;exact⟨by simp only[List.length_cons];omega,by simp only[List.length_cons];omega⟩
   ·rw[aN9 hv] at h
    obtain⟨y,hy,h2⟩:=Option.bind_eq_some_iff.1 h;obtain⟨z,hz,rfl⟩:=Option.map_eq_some_iff.1 h2;have:=ih (min y.2 m) (by omega) r z hz;exact⟨by simp only[List.length_cons];omega,by simp only[List.length_cons];omega⟩
theorem tY{H:List HC}{t:Nat}(h:(hc H (aG H t)).k≠1)(m:Nat)(r:List Nat):shL H (m+1) (t::r)=(shL H m (bD H (aG H t))).bind fun y=>(shL H y.2 r).map fun x=>(.mk 0 (hc H (aG H t)).name y.1::x.1,x.2):=by
 rw[aN9 h];cases hy:shL H m (bD H (aG H t)) with
 | none=>rfl
 | some y =>
  have:=(tX _ _ _ hy).1;simp only[Option.bind_some];rw[Nat.min_eq_left (by omega)]
theorem kM{H:List HC}:∀(l:List Nat) (m:Nat) (r:List Nat),shL H m (l++r)=(shL H m l).bind fun x=>(shL H x.2 r).map fun y=>(x.1++y.1,y.2):=by
 intro l
 induction l with
 | nil=>intro m r;rw[List.nil_append,kY];simp only[Option.bind_some,List.nil_append];cases shL H m r <;> rfl
 | cons t l ih =>
  intro m r;rw[List.cons_append];cases m with
  | zero=>rw[lJ,lJ];rfl
  | succ m =>
   by_cases hv:(hc H (aG H t)).k=1
   ·rw[nK hv,nK hv,ih]
    cases shL H m l with
    | none=>rfl
    | some z =>
     simp only[Option.bind_some,Option.map_some];cases shL H z.2 r <;> rfl
   ·rw[tY hv,tY hv]
    cases shL H m (bD H (aG H t)) with
    | none=>rfl
    | some y =>
     simp only[Option.bind_some,ih];cases shL H y.2 l with
     | none=>rfl
     | some z =>
      simp only[Option.bind_some,Option.map_some];cases shL H z.2 r <;> rfl
def setN(H:List HC)(v t:Nat):List HC:=H.set v ⟨(hc H v).k,(t:Int),(hc H v).name⟩
theorem aL(H:List HC)(v t:Nat):(setN H v t).length=H.length:=by simp[setN]
theorem dL{H:List HC}{v t:Nat}(hv:v<H.length)(i:Nat):hc (setN H v t) i=if i=v then ⟨(hc H v).k,(t:Int),(hc H v).name⟩ else hc H i:=by
 unfold setN
 conv=>lhs;unfold hc
 rw[List.getD_eq_getElem?_getD,List.getElem?_set];by_cases e:v=i
 ·subst e;rw[if_pos rfl,if_pos rfl,if_pos hv];rfl
 ·rw[if_neg e,if_neg (fun h=>e h.symm)];unfold hc;rw[List.getD_eq_getElem?_getD]
inductive HW where
 | yes (f:Nat)
 | no (f:Nat)
 | many
noncomputable def aV(H:List HC)(v:Nat):Nat→List Nat→HW
 | f,[]=>.no f
 | 0,_::_=>.many
 | f+1,t::r=>if (hc H (aG H t)).k=1 then (if aG H t=v then .yes f else aV H v f r) else aV H v f (bD H (aG H t)++r)
def HW.then(o:HW)(g:Nat→HW):HW :=
 match o with
 | .no f=>g f
 | o=>o
theorem uF(H:List HC)(v:Nat):∀(f:Nat) (l r:List Nat),aV H v f (l++r)=(aV H v f l).then fun f'=>aV H v f' r:=by
 intro f
 induction f with
 | zero =>
  intro l r;cases l with
  | nil=>simp[aV,HW.then]
  | cons a l=>simp[aV,HW.then]
 | succ f ih =>
  intro l r;cases l with
  | nil=>simp[aV,HW.then]
  | cons a l =>
   rw[List.cons_append];simp only[aV];by_cases h1:(hc H (aG H a)).k=1
   ·rw[if_pos h1,if_pos h1]
    by_cases h2:aG H a=v
    ·rw[if_pos h2,if_pos h2];rfl
    ·rw[if_neg h2,if_neg h2,ih]
   ·rw[if_neg h1,if_neg h1,←List.append_assoc,ih]
theorem lW(H:List HC)(v:Nat):∀(f:Nat) (l:List Nat),(∀f',aV H v f l=.yes f'→f'≤f)∧(∀f',aV H v f l=.no f'→f'≤f):=by
 intro f
 induction f with
 | zero =>
  intro l;cases l with
  | nil=>simp[aV]
  | cons a l=>simp[aV]
 | succ f ih =>
  intro l;cases l with
  | nil=>simp[aV]
  | cons a l =>
   simp only[aV];by_cases h1:(hc H (aG H a)).k=1
   ·rw[if_pos h1]
    by_cases h2:aG H a=v
    ·rw[if_pos h2]
     exact⟨fun f' h=>(by cases h;omega),fun f' h=>(by cases h)⟩
    ·rw[if_neg h2]
     exact⟨fun f' h=>Nat.le_succ_of_le ((ih l).1 f' h),fun f' h=>Nat.le_succ_of_le ((ih l).2 f' h)⟩
   ·rw[if_neg h1]
    exact⟨fun f' h=>Nat.le_succ_of_le ((ih _).1 f' h),fun f' h=>Nat.le_succ_of_le ((ih _).2 f' h)⟩
inductive qC where
 | ok (H:List HC) (B:List Nat) (f:Nat)
 | no (H:List HC) (B:List Nat) (f:Nat)
 | many (H:List HC) (B:List Nat)
inductive aX9 where
 | done (o:qC)
 | go (H:List HC) (B:List Nat) (f:Nat) (more:List (Nat×Nat))
def cM(H:List HC)(v t:Nat):Nat×Nat:=if (hc H t).k=1∧v<t then (t,v) else (v,t)
noncomputable def cU(H:List HC)(B:List Nat)(v t f:Nat):aX9 :=
 match aV H v f [t] with
 | .yes f'=>.done (.no H B f')
 | .many=>.done (.many H B)
 | .no f'=>.go (setN H (cM H v t).1 (cM H v t).2) (B++[(cM H v t).1]) (min f' f) []
noncomputable def aU(H:List HC)(B:List Nat)(f x y:Nat):aX9 :=
 if (hc H x).k=1∧x=y then .go H B f []
 else if (hc H x).k=1 then cU H B x y f
 else if (hc H y).k=1 then cU H B y x f
 else if (hc H x).name≠(hc H y).name∨(hc H x).n≠(hc H y).n then .done (.no H B f)
 else .go H B f ((bD H x).zip (bD H y))
theorem qD{H:List HC}{B:List Nat}{v t f:Nat}{H':List HC}{B':List Nat}{f':Nat}{m:List (Nat×Nat)}(h:cU H B v t f=.go H' B' f' m):f'≤f:=by
 unfold cU at h;split at h
 ·cases h
 ·cases h
 ·cases h;omega
theorem fE{H:List HC}{B:List Nat}{f x y:Nat}{H':List HC}{B':List Nat}{f':Nat}{m:List (Nat×Nat)}(h:aU H B f x y=.go H' B' f' m):f'≤f:=by
 unfold aU at h;split at h
 ·cases h;omega
 ·split at h
  ·exact qD h
  ·split at h
   ·exact qD h
   ·split at h
    ·cases h
    ·cases h;omega
noncomputable def dE(H:List HC)(B:List Nat)(f:Nat)(ps:List (Nat×Nat)):qC :=
 match f,ps with
 | f,[]=>.ok H B f
 | 0,_::_=>.many H B
 | f+1,p::r =>
  match h:aU H B f (aG H p.1) (aG H p.2) with
  | .done o=>o
  | .go H' B' f' more =>
   have:f'<f+1:=Nat.lt_succ_of_le (fE h)
   dE H' B' f' (more++r)
termination_by f
theorem gB(H:List HC)(B:List Nat)(f:Nat):dE H B f []=.ok H B f:=by unfold dE;rfl
theorem gT(H:List HC)(B:List Nat)(p:Nat×Nat)(r:List (Nat×Nat)):dE H B 0 (p::r)=.many H B:=by unfold dE;rfl
theorem gU{H:List HC}{B:List Nat}{f:Nat}{p:Nat×Nat}{o:qC}(r:List (Nat×Nat))(h:aU H B f (aG H p.1) (aG H p.2)=.done o):dE H B (f+1) (p::r)=o:=by
 conv=>lhs;unfold dE
 simp only;split
 ·rename_i o' h';rw[h] at h';cases h';rfl
 ·rename_i h';rw[h] at h';cases h'
theorem kO{H:List HC}{B:List Nat}{f:Nat}{p:Nat×Nat}{H':List HC}{B':List Nat}{f':Nat}{m:List (Nat×Nat)}(r:List (Nat×Nat))(h:aU H B f (aG H p.1) (aG H p.2)=.go H' B' f' m):dE H B (f+1) (p::r)=dE H' B' f' (m++r):=by
 conv=>lhs;unfold dE
 simp only;split
 ·rename_i h';rw[h] at h';cases h'
 ·rename_i h';rw[h] at h';cases h';rfl
def qC.then(o:qC)(g:List HC→List Nat→Nat→qC):qC :=
 match o with
 | .ok H B f=>g H B f
 | o=>o
theorem zI:∀(f:Nat) (H:List HC) (B:List Nat) (ps qs:List (Nat×Nat)),dE H B f (ps++qs)=(dE H B f ps).then fun H' B' f'=>dE H' B' f' qs:=by
 intro f
 induction f using Nat.strongRecOn with
 | _ f ih =>
 intro H B ps qs;cases ps with
 | nil=>rw[List.nil_append,gB];rfl
 | cons p r =>
  cases f with
  | zero=>rw[List.cons_append,gT,gT];rfl
  | succ f =>
   rw[List.cons_append];cases h:aU H B f (aG H p.1) (aG H p.2) with
   | done o =>
    rw[gU _ h,gU _ h];unfold aU cU at h;split at h
    ·cases h
    ·split at h
     ·split at h <;> cases h <;> rfl
     ·split at h
      ·split at h <;> cases h <;> rfl
      ·split at h
       ·cases h;rfl
       ·cases h
   | go H' B' f' m=>rw[kO _ h,kO _ h,←List.append_assoc,ih f' (Nat.lt_succ_of_le (fE h))]
inductive sN(L:Nat→List Nat):Nat→Nat→Prop
 | refl (i:Nat):sN L i i
 | step {i j v:Nat}:j∈L i→sN L j v→sN L i v
theorem xK{H:List HC}{v:Nat}(hv:¬cR H v):∀{m i j:Nat},iU H m i j→sN (leads H) i v→sN (leads H) j v:=by
 intro m
 induction m with
 | zero=>rintro i j ⟨rfl,_⟩ h;exact h
 | succ m ih =>
  rintro i j ⟨hr,h⟩ hi;refine ih h ?_;cases hi with
  | refl=>exact absurd hr hv
  | step hl hj =>
   unfold leads at hl;rw[if_pos hr.1,if_neg hr.2,List.mem_singleton] at hl;subst hl;exact hj
theorem oZ{H:List HC}{i:Nat}(h:(hc H i).k≠1):leads H i=bD H i:=by unfold leads bD;rw[if_neg h]
theorem uG{H:List HC}{i:Nat}(h:(hc H i).k=1)(hr:¬cR H i):leads H i = []:=by
 unfold leads;rw[if_pos h,if_pos (Classical.byContradiction fun e=>hr ⟨h,e⟩)]
theorem aR6{H:List HC}(hS:∀i,i<H.length→Acc (iQ (leads H)) i)(hC:dK H){v:Nat}(hv:¬cR H v)(hvk:(hc H v).k=1):∀(f:Nat) (l:List Nat) (f':Nat),(∀t,t∈l→t<H.length)→aV H v f l=.no f'→∀t,t∈l→¬sN (leads H) t v:=by
 intro f
 induction f with
 | zero =>
  intro l f' hl h t ht;cases l with
  | nil=>cases ht
  | cons a l=>simp[aV] at h
 | succ f ih =>
  intro l f' hl h t ht;cases l with
  | nil=>cases ht
  | cons a r =>
   have ha:=hl a List.mem_cons_self;obtain⟨m,hm⟩:=fI (hS a ha);have he:=iU.lt hC hm ha;have hstop:=iU.stop hm;simp only[aV] at h;generalize aG H a=e at *;by_cases h1:(hc H e).k=1
   ·rw[if_pos h1] at h
    by_cases h2:e=v
    ·rw[if_pos h2] at h;cases h
    ·rw[if_neg h2] at h
     rcases List.mem_cons.1 ht with rfl|ht
     ·intro hr
      have:=xK hv hm hr;cases this with
      | refl=>exact h2 rfl
      | step hl' _=>rw[uG h1 hstop] at hl';cases hl'
     ·exact ih r f' (fun t ht=>hl t (List.mem_cons_of_mem _ ht)) h t ht
   ·rw[if_neg h1] at h
    have hargs:∀j,j∈bD H e→j<H.length:=fun j hj=>iF hC e he j (by rw[oZ h1];exact hj)
    have hall:=ih (bD H e++r) f' (fun t ht=>by
     rcases List.mem_append.1 ht with h3|h3
     ·exact hargs t h3
     ·exact hl t (List.mem_cons_of_mem _ h3)) h
    rcases List.mem_cons.1 ht with rfl|ht
    ·intro hr
     have:=xK hv hm hr;cases this with
     | refl=>exact h1 hvk
     | step hl' hj =>
      rw[oZ h1] at hl';exact hall _ (List.mem_append_left _ hl') hj
    ·exact hall t (List.mem_append_right _ ht)
structure dZ(H:List HC):Prop where
 len:H.length≤400000
 cells:dK H
 straight:eW H
theorem uH{H:List HC}{v t:Nat}(hv:v<H.length)(i:Nat)(h:i≠v):leads (setN H v t) i=leads H i:=by
 unfold leads;rw[dL hv,if_neg h]
theorem aK0{H:List HC}{v t:Nat}(hC:dK H)(hv:v<H.length)(hk:(hc H v).k=1)(ht:t<H.length):dK (setN H v t):=by
 intro i hi;rw[aL] at hi;have h0:=hC i hi;have hkk:∀j,(hc (setN H v t) j).k=(hc H j).k:=fun j=>by
  rw[dL hv];by_cases e:j=v
  ·rw[if_pos e,e]
  ·rw[if_neg e]
 by_cases e:i=v
 ·subst e
  rcases bV h0 with ⟨_,_,_,h4⟩|⟨h1,_⟩
  ·unfold cD
   rw[dL hv,if_pos rfl,aL];simp only;rw[if_pos hk,if_neg (by omega),if_neg (by omega)]
  ·rw[hk] at h1;cases h1
 ·unfold cD gJ at *
  rw[dL hv,if_neg e,aL];simp only[hkk];exact h0
theorem dZ.bind{H:List HC}(h:dZ H){v t:Nat}(hv:v<H.length)(hk:(hc H v).k=1)(hr:¬cR H v)(ht:t<H.length)(hn:¬sN (leads H) t v):dZ (setN H v t):=by
 refine⟨by rw[aL];exact h.len,aK0 h.cells hv hk ht,fun i hi=>?_⟩;rw[aL] at hi;have h1:∀u,Acc (iQ (leads H)) u→¬sN (leads H) u v→Acc (iQ (leads (setN H v t))) u:=by
  intro u hu
  induction hu with
  | intro u _ ih =>
   intro hnr;have hne:u≠v:=fun e=>hnr (by rw[e];exact .refl v)
   refine⟨u,fun y hy=>?_⟩;have hy':y∈leads H u:=by have h2:y∈leads (setN H v t) u:=hy;rwa [uH hv u hne] at h2
   exact ih y hy' fun hr=>hnr (.step hy' hr)
 have hacct:=h1 t (h.straight t ht) hn;have hne:(t:Int)≠(v:Int):=fun e=>hn (by
  have:t=v:=by omega
  rw[this];exact .refl v)
 have haccv:Acc (iQ (leads (setN H v t))) v:=⟨v,fun y hy=>by
  have h2:y∈leads (setN H v t) v:=hy;unfold leads at h2;rw[dL hv,if_pos rfl] at h2;simp only at h2;rw[if_pos hk,if_neg hne,List.mem_singleton] at h2;subst h2;exact hacct⟩
 have h3:∀u,Acc (iQ (leads H)) u→Acc (iQ (leads (setN H v t))) u:=by
  intro u hu
  induction hu with
  | intro u _ ih =>
   by_cases e:u=v
   ·subst e;exact haccv
   ·refine⟨u,fun y hy=>?_⟩
    have hy':y∈leads H u:=by have h2:y∈leads (setN H v t) u:=hy;rwa [uH hv u e] at h2
    exact ih y hy'
 exact h3 i (h.straight i hi)
theorem dZ.end{H:List HC}(h:dZ H){i:Nat}(hi:i<H.length):aG H i<H.length∧¬cR H (aG H i):=by
 obtain⟨m,hm⟩:=fI (h.straight i hi);exact⟨iU.lt h.cells hm hi,iU.stop hm⟩
theorem aE1{H:List HC}{i:Nat}(h:(hc H i).k=1)(hr:¬cR H i):(hc H i).n=(i:Int):=Classical.byContradiction fun e=>hr ⟨h,e⟩
theorem xL{H:List HC}(h:dZ H){v t f:Nat}(hv:v<H.length)(hk:(hc H v).k=1)(hr:¬cR H v)(ht:t<H.length)(htr:¬cR H t)(hne:t≠v){f':Nat}(hw:aV H v f [t]=.no f') :
 dZ (setN H (cM H v t).1 (cM H v t).2)∧(cM H v t).1<H.length∧(cM H v t).2<H.length∧(hc H (cM H v t).1).k=1:=by
 have hn:=aR6 h.straight h.cells hr hk f [t] f' (fun u hu=>by rw[List.mem_singleton] at hu;subst hu;exact ht) hw t (List.mem_singleton.2 rfl);unfold cM;by_cases hs:(hc H t).k=1∧v<t
 ·rw[if_pos hs]
  refine⟨h.bind ht hs.1 htr hv fun hrc=>?_,ht,hv,hs.1⟩;cases hrc with
  | refl=>exact hne rfl
  | step hl _=>rw[uG hk hr] at hl;cases hl
 ·rw[if_neg hs]
  exact⟨h.bind hv hk hr ht hn,hv,ht,hk⟩
theorem aO2{H:List HC}(h:dK H){i:Nat}(hi:i<H.length)(hk:(hc H i).k≠1):∀j,j∈bD H i→j<H.length:=fun j hj=>iF h i hi j (by rw[oZ hk];exact hj)
theorem oG{H:List HC}(h:dZ H){B:List Nat}{v t f:Nat}(hv:v<H.length)(hk:(hc H v).k=1)(hr:¬cR H v)(ht:t<H.length)(htr:¬cR H t)(hne:t≠v){H':List HC}{B':List Nat}{f':Nat}{m:List (Nat×Nat)}(he:cU H B v t f=.go H' B' f' m) :
 dZ H'∧H'.length=H.length∧m = []∧B'.length=B.length+1∧f'<f:=by
 unfold cU at he;split at he
 ·cases he
 ·cases he
 ·rename_i g hw
  cases he;refine⟨(xL h hv hk hr ht htr hne hw).1,aL _ _ _,rfl,by simp,?_⟩;cases f with
  | zero=>simp[aV] at hw
  | succ f =>
   simp only[aV] at hw;by_cases h1:(hc H (aG H t)).k=1
   ·rw[if_pos h1] at hw
    by_cases h2:aG H t=v
    ·rw[if_pos h2] at hw;cases hw
    ·rw[if_neg h2] at hw;cases hw;omega
   ·rw[if_neg h1] at hw
    have:=(lW H v f _).2 _ hw;omega
theorem lH{H:List HC}(h:dZ H){B:List Nat}{x y f:Nat}(hx:x<H.length)(hxr:¬cR H x)(hy:y<H.length)(hyr:¬cR H y){H':List HC}{B':List Nat}{f':Nat}{m:List (Nat×Nat)}(he:aU H B f x y=.go H' B' f' m) :
 dZ H'∧H'.length=H.length∧(∀p,p∈m→p.1<H.length∧p.2<H.length)∧B'.length+f'≤B.length+f:=by
 unfold aU at he;split at he
 ·cases he;exact⟨h,rfl,fun p hp=>(nomatch hp),nR _⟩
 ·rename_i h1
  split at he
  ·rename_i h2
   obtain⟨a,b,c,d,e⟩:=oG h hx h2 hxr hy hyr (fun e=>h1 ⟨h2,e.symm⟩) he;subst c;exact⟨a,b,fun p hp=>(nomatch hp),by omega⟩
  ·rename_i h2
   split at he
   ·rename_i h3
    obtain⟨a,b,c,d,e⟩:=oG h hy h3 hyr hx hxr (fun e=>h2 (e ▸ h3)) he;subst c;exact⟨a,b,fun p hp=>(nomatch hp),by omega⟩
   ·rename_i h3
    split at he
    ·cases he
    ·cases he
     exact⟨h,rfl,fun p hp=>⟨aO2 h.cells hx h2 _ (List.of_mem_zip hp).1,aO2 h.cells hy h3 _ (List.of_mem_zip hp).2⟩,nR _⟩
def nA(s:List Int)(v:Int):List Int:=if v∈s then s else s++[v]
def cN(s:List Int)(v:Int):Int×List Int:=(((nA s v).idxOf v:Int)+1,nA s v)
def seen(s:List Int):List Tm→List Int
 | []=>s
 | p::r=>seen (if p.var≠0 then nA s p.var else s) r
theorem bC7(s:List Int)(v:Int):v∈nA s v:=by
 unfold nA;by_cases h:v∈s
 ·rw[if_pos h];exact h
 ·rw[if_neg h];simp
def yL(s:List Int)(v:Int):Int:=(s.idxOf v:Int)+1
abbrev CV:=Int→Option Nat
def oW(V:CV)(v:Int)(c:Nat):CV:=fun x=>if x=v then some c else V x
mutual
def putT(H:List HC)(V:CV):Tm→(List HC×CV)×Nat
 | .mk v n l =>
  if v≠0 then
   match V v with
   | some c=>((H,V),c)
   | none=>((H++[⟨1,(H.length:Int),⟨#[]⟩⟩],oW V v H.length),H.length)
  else (eV (H++[⟨2,(l.length:Int),n⟩]++List.replicate l.length ⟨1,0,⟨#[]⟩⟩) V (H.length+1) l,H.length)
def eV(H:List HC)(V:CV)(p:Nat):List Tm→List HC×CV
 | []=>(H,V)
 | t::r=>eV (setN (putT H V t).1.1 p (putT H V t).2) (putT H V t).1.2 (p+1) r
end
theorem nI{H R:List HC}{i:Nat}(h:i<H.length):hc (H++R) i=hc H i:=by
 unfold hc;rw[List.getD_eq_getElem?_getD,List.getD_eq_getElem?_getD,List.getElem?_append_left h]
theorem jV{H R:List HC}(i:Nat):hc (H++R) (H.length+i)=hc R i:=by
 unfold hc;rw[List.getD_eq_getElem?_getD,List.getD_eq_getElem?_getD,List.getElem?_append_right (by omega)];congr 2;omega
theorem bK8{m i:Nat}{c:HC}(h:i<m):hc (List.replicate m c) i=c:=by
 unfold hc;rw[List.getD_eq_getElem?_getD,List.getElem?_replicate,if_pos h];rfl
theorem iA(H:List HC)(V:CV)(p:Nat):eV H V p []=(H,V):=by simp only[eV]
theorem fC(H:List HC)(V:CV)(p:Nat)(t:Tm)(r:List Tm):eV H V p (t::r)=eV (setN (putT H V t).1.1 p (putT H V t).2) (putT H V t).1.2 (p+1) r:=by simp only[eV]
mutual
theorem rE:∀(t:Tm) (H:List HC) (V:CV),∀v c,V v=some c→(putT H V t).1.2 v=some c
 | .mk v n l,H,V,x,c,hx=>by
  unfold putT;by_cases hv:v≠0
  ·rw[if_pos hv]
   cases h:V v with
   | some d=>simpa using hx
   | none =>
    simp only[oW];by_cases e:x=v
    ·subst e;rw[hx] at h;cases h
    ·rw[if_neg e];exact hx
  ·rw[if_neg hv]
   exact lU l _ V _ x c hx
theorem lU:∀(l:List Tm) (H:List HC) (V:CV) (p:Nat),∀v c,V v=some c→(eV H V p l).2 v=some c
 | [],H,V,p,x,c,hx=>by rw[iA];exact hx
 | t::r,H,V,p,x,c,hx=>by
  rw[fC];exact lU r _ _ _ x c (rE t H V x c hx)
end
theorem bE8{H:List HC}{p c i:Nat}(hp:p<H.length)(h:i≠p):hc (setN H p c) i=hc H i:=by rw[dL hp,if_neg h]
def kX(t:Tm):Prop:=∀p,p∈t.parts→p.var=0→dO p.name=true∧p.args.length≤4∧¬(p.name.toList = [33]∧0<p.args.length)
theorem kX.part{t u:Tm}(h:kX t)(hu:u∈t.parts):kX u:=fun p hp=>h p (by
 have:∀t:Tm,u∈t.parts→p∈t.parts:=by
  intro t
  induction t using Tm.ind with
  | h v n l ih =>
   intro hu;rw[Tm.parts] at hu ⊢;rcases List.mem_cons.1 hu with rfl|hu
   ·rw[Tm.parts] at hp;exact hp
   ·refine List.mem_cons_of_mem _ ?_
    have hu2:=hu;have:∀r:List Tm,(∀x,x∈r→x∈l)→u∈Tm.partss r→p∈Tm.partss r:=by
     intro r
     induction r with
     | nil=>intro _ h;cases h
     | cons x r ihr =>
      intro hr h;rw[Tm.partss,List.mem_append] at h ⊢;rcases h with h|h
      ·exact .inl (ih x (hr x List.mem_cons_self) h)
      ·exact .inr (ihr (fun y hy=>hr y (List.mem_cons_of_mem _ hy)) h)
    exact this l (fun x hx=>hx) hu2
 exact this t hu)
theorem aW9{H H':List HC}(hl:H.length≤H'.length)(ho:∀i,i<H.length→hc H' i=hc H i){i:Nat}(hi:i<H.length)(h:cD H i=0):cD H' i=0∧leads H' i=leads H i:=by
 refine⟨?_,by unfold leads;rw[ho i hi]⟩;rcases bV h with ⟨h1,h2,h3,h4⟩|⟨h1,h2,h3,h4,h5,h6,h7⟩
 ·unfold cD
  rw[ho i hi,if_pos h1,if_neg (by omega),if_neg (by omega)]
 ·have h8:¬(¬(dO (hc H i).name=true)∨(hc H i).n<0∨4<(hc H i).n∨((hc H i).name.toList = [33]∧0<(hc H i).n)):=by
   rintro (h|h|h|h)
   ·exact h h2
   ·omega
   ·omega
   ·exact h7 h
  unfold cD gJ;rw[ho i hi,if_neg (by omega),if_pos h1,if_neg h8,if_neg (by omega),if_pos];intro j hj;rw[ho _ (by omega)];exact h6 j hj

end Go.Proofs.Ytikmgiapjigghab
namespace Go.Proofs.Ytikmgiapjigghab
open Go.RowKit
def bS:List HC→List Value
 | []=>[]
 | c::r=>.int .i64 c.k::.int .i64 c.n::.string c.name::bS r
theorem pY(l r:List HC):bS (l++r)=bS l++bS r:=by
 induction l with
 | nil=>rfl
 | cons c l ih=>simp only[List.cons_append,bS,ih]
theorem jW(l:List HC):(bS l).length=l.length*3:=by
 induction l with
 | nil=>rfl
 | cons c l ih=>simp only[bS,List.length_cons,ih];omega
theorem xG(l:List HC):∀u∈bS l,u.oneCell'=true:=by
 induction l with
 | nil=>intro u hu;cases hu
 | cons c l ih =>
  intro u hu;simp only[bS,List.mem_cons] at hu;rcases hu with rfl|rfl|rfl|hu
  ·rfl
  ·rfl
  ·rfl
  ·exact ih u hu
theorem pZ:∀(l:List HC) (i:Nat),i<l.length→(bS l)[i*3]? = some (.int .i64 (hc l i).k)∧(bS l)[i*3+1]? = some (.int .i64 (hc l i).n)∧(bS l)[i*3+2]? = some (.string (hc l i).name):=by
 intro l
 induction l with
 | nil=>intro i hi;cases hi
 | cons c l ih =>
  intro i hi;cases i with
  | zero=>exact⟨rfl,rfl,rfl⟩
  | succ i =>
   have:=ih i (by simpa using hi);rw[show (i+1)*3=i*3+3 by omega];exact this
theorem xH(l:List HC)(i:Nat)(hi:i<l.length)(c:HC):bS (l.set i c)=(((bS l).set (i*3) (.int .i64 c.k)).set (i*3+1) (.int .i64 c.n)).set (i*3+2) (.string c.name):=by
 induction l generalizing i with
 | nil=>cases hi
 | cons a l ih =>
  cases i with
  | zero=>rfl
  | succ i =>
   rw[show (i+1)*3=i*3+1+1+1 by omega];simp only[List.set_cons_succ,bS,List.cons.injEq,true_and];exact ih i (by simpa using hi)
theorem uA(H:List HC)(v t:Nat)(hv:v<H.length):bS (setN H v t)=(bS H).set (v*3+1) (.int .i64 t):=by
 obtain⟨h0,h1,h2⟩:=pZ H v hv;unfold setN;rw[xH H v hv];refine List.ext_getElem? fun j=>?_
 rw[List.getElem?_set,List.getElem?_set,List.getElem?_set,List.getElem?_set];have hl:=jW H;simp only[List.length_set];by_cases e0:v*3=j
 ·subst e0
  rw[if_neg (by omega),if_neg (by omega),if_pos rfl,if_pos (by omega),h0,if_neg (by omega)]
 ·by_cases e1:v*3+1=j
  ·subst e1
   rw[if_neg (by omega),if_pos rfl,if_pos rfl]
  ·by_cases e2:v*3+2=j
   ·subst e2
    rw[if_pos rfl,if_pos (by omega),if_neg (by omega),h2]
   ·rw[if_neg e2,if_neg e1,if_neg e0,if_neg e1]
def HC.fits(c:HC):Prop:=I64 c.k∧I64 c.n∧c.name.size≤maxLen
structure dV(w:World)(ok:Nat→Prop)(H:List HC)(a:Option Addr)(cap:Nat):Prop where
 cap:H.length≤cap∧cap≤maxLen∧(a=none→cap=0)
 at':∀i,i<H.length→∃(b off:Nat),a=some ⟨b,off,none⟩∧ok b∧b<w.heap.size∧w.cell? ⟨b,off+i*3,none⟩=some (.int .i64 (hc H i).k)∧w.cell? ⟨b,off+i*3+1,none⟩=some (.int .i64 (hc H i).n)∧w.cell? ⟨b,off+i*3+2,none⟩=some (.string (hc H i).name)∧(hc H i).fits
theorem dV.keep{w w':World}{ok:Nat→Prop}{H:List HC}{a:Option Addr}{cap:Nat}(h:dV w ok H a cap)(hk:aD ok w w'):dV w' ok H a cap :=
 ⟨h.cap,fun i hi=>by
  obtain⟨b,off,h1,h2,h3,h4,h5,h6,h7⟩:=h.at' i hi;exact⟨b,off,h1,h2,nT h3 hk.size,(hk.cell (p:=⟨b,_,none⟩) h2 h3).trans h4,(hk.cell (p:=⟨b,_,none⟩) h2 h3).trans h5,(hk.cell (p:=⟨b,_,none⟩) h2 h3).trans h6,h7⟩⟩
theorem dV.mono{w:World}{ok ok':Nat→Prop}(h:∀b,b<w.heap.size→ok b→ok' b){H:List HC}{a:Option Addr}{cap:Nat}(hh:dV w ok H a cap):dV w ok' H a cap :=
 ⟨hh.cap,fun i hi=>by
  obtain⟨b,off,h1,h2,h3,h4⟩:=hh.at' i hi;exact⟨b,off,h1,h b h3 h2,h3,h4⟩⟩
theorem dV.below{w w':World}{ok:Nat→Prop}{H:List HC}{a:Option Addr}{cap:Nat}(h:dV w ok H a cap)(hb:Below w.heap.size w w'):dV w' ok H a cap:=h.keep (aD.below hb ok)
theorem dV.of_row{w:World}{ok:Nat→Prop}{base:Nat}{v:Value}{H:List HC}(h:w.ownsRow base 69 3 v H.length (bS H))(hok:∀b,v.ownBlock=some b→ok b)(hf:∀i,i<H.length→(hc H i).fits):∃a cap,v=.slice a H.length cap∧dV w ok H a cap:=by
 rcases h.2 with ⟨rfl,hn⟩|⟨g,cap,cur,rfl,hb,hg,hcap,hml,hsz,htk⟩
 ·refine⟨none,0,by rw[hn],⟨by omega,by unfold maxLen;omega,fun _=>rfl⟩,fun i hi=>by omega⟩
 ·refine⟨_,cap,rfl,⟨hcap,hml,fun e=>nomatch e⟩,fun i hi=>?_⟩
  obtain⟨f0,f1,f2⟩:=pZ H i hi;have hlt:g<w.heap.size:=(h.lt g rfl).2;have key:∀j u,(bS H)[j]? = some u→w.cell? ⟨g,j,none⟩=some u:=fun j u hu=>by
   have:=h.cells (g:=g) rfl j u hu;rw[fY,Nat.zero_add] at this;exact this
  exact⟨g,0,rfl,hok g rfl,hlt,by rw[Nat.zero_add];exact key _ _ f0,by rw[Nat.zero_add];exact key _ _ f1,by rw[Nat.zero_add];exact key _ _ f2,hf i hi⟩
theorem aK1{w:World}{ok:Nat→Prop}{K:List HC}{a:Option Addr}{cap:Nat}(h:dV w ok K a cap)(hK:dK K){m i j:Nat}(hl:iU K m i j)(hi:i<K.length) :
 Calls Try.prog 85 #[.slice a K.length cap,.int .i64 i] w fun e w'=>e=.returned (.int .i64 j)∧w=w':=by
 have HP:=lh h;have HK:=lh hK;have HL:=lh hl;have HI:=lh hi;have hlen:K.length≤9223372036854775807:=by have:=h.cap;unfold maxLen at this;omega
 clear h hK hl hi;go_enter Try.func85,Try.ntmps85;go_wp2_with fail
 go_loopg [1] m (fun k x wr=>∃cur:Nat,x=.int .i64 cur∧cur<K.length∧Hid (iU K k cur j)∧w=wr)
 case atStart=>exact⟨i,rfl,HI.out,HL,rfl⟩
 case round =>
  obtain⟨cur,rfl,hcl,hln,rfl⟩:=hrel;obtain⟨b,off,rfl,hokb,hb,c0,c1,c2,hf⟩:=HP.out.at' cur hcl;clear hokb hf;by_cases hr:cR K cur
  ·have hk:=hr.1
   have hne:((hc K cur).n != (cur:Int))=true:=by rw[bne_iff_ne];exact hr.2
   obtain⟨k',e1,e2⟩:∃k',gk=k' + 1∧iU K k' (hc K cur).n.toNat j:=by
    have:=hln.out;cases gk with
    | zero=>exact absurd hr this.2
    | succ k=>exact⟨k,rfl,this.2⟩
   obtain⟨n',hn',hlt⟩:∃n':Nat,(hc K cur).n=(n':Int)∧n'<K.length:=by
    rcases bV (HK.out cur hcl) with ⟨_,h2,h3,_⟩|⟨h1,_⟩
    ·exact⟨(hc K cur).n.toNat,by omega,h3⟩
    ·rw[hk] at h1;cases h1
   rw[hn'] at c1 hne e2;rw[hk] at c0;have E2:=lh e2;clear hr e2 hk hn' hln;go_wp2_with fail
   go_roundg k'
   case measure=>omega
   case rel=>exact⟨n',rfl,hlt,lh (by simpa using E2.out),rfl⟩
  ·have hj:Hid (cur=j):=lh (by
    have:=hln.out;cases gk with
    | zero=>exact this.1
    | succ k=>exact absurd this.1 hr)
   clear hln;by_cases hk:(hc K cur).k=1
   ·have hne:((hc K cur).n != (cur:Int))=false:=by
     have:=aE1 hk hr;rw[this];simp
    rw[hk] at c0;clear hr hk;go_wp2_with fail;go_ret;exact⟨by rw[hj.out];rfl,rfl⟩
   ·have hk1:((hc K cur).k == 1)=false:=by simpa using hk
    clear hr hk;go_wp2_with fail;go_ret;exact⟨by rw[hj.out];rfl,rfl⟩
theorem gR{K:List HC}{i:Nat}(h:¬(dO (hc K i).name=true)∨(hc K i).n<0∨4<(hc K i).n∨((hc K i).name.toList = [33]∧0<(hc K i).n)):gJ K i=1:=by unfold gJ;rw[if_pos h]
theorem sG{K:List HC}{i:Nat}(h:¬(¬(dO (hc K i).name=true)∨(hc K i).n<0∨4<(hc K i).n∨((hc K i).name.toList = [33]∧0<(hc K i).n)))(h2:(K.length:Int)≤(i:Int)+(hc K i).n):gJ K i=5:=by unfold gJ;rw[if_neg h,if_pos h2]
theorem sH{K:List HC}{i:Nat}(h:¬(¬(dO (hc K i).name=true)∨(hc K i).n<0∨4<(hc K i).n∨((hc K i).name.toList = [33]∧0<(hc K i).n)))(h2:¬(K.length:Int)≤(i:Int)+(hc K i).n)(h3:¬∀j:Nat,j<(hc K i).n.toNat→(hc K (i+1+j)).k=1):gJ K i=1:=by unfold gJ;rw[if_neg h,if_neg h2,if_neg h3]
theorem nJ{K:List HC}{i:Nat}(h:¬(¬(dO (hc K i).name=true)∨(hc K i).n<0∨4<(hc K i).n∨((hc K i).name.toList = [33]∧0<(hc K i).n)))(h2:¬(K.length:Int)≤(i:Int)+(hc K i).n)(h3:∀j:Nat,j<(hc K i).n.toNat→(hc K (i+1+j)).k=1):gJ K i=0:=by unfold gJ;rw[if_neg h,if_neg h2,if_pos h3]
theorem bK9{n:ByteArray}:(n.toList == [33])=true↔n.toList = [33]:=by rw[beq_iff_eq]
theorem bJ2{n:ByteArray}:(n.toList == [33])=false↔¬n.toList = [33]:=by rw[beq_eq_false_iff_ne]
theorem bL0{w:World}{ok:Nat→Prop}{K:List HC}{a:Option Addr}{cap:Nat}(h:dV w ok K a cap){i:Nat}(hi:i<K.length)(hlen:K.length≤400000) :
 Calls Try.prog 106 #[.slice a K.length cap,.int .i64 i] w fun e w'=>e=.returned (.int .i64 (gJ K i:Nat))∧Below w.heap.size w w':=by
 have HP:=lh h;have HCAP:=lh h.cap;obtain⟨b,off,rfl,hokb,hb,c0,c1,c2,hf⟩:=h.at' i hi;have HFN:=lh hf.2.2;have HFI:=lh hf.2.1;have hcl:K.length≤cap:=h.cap.1;have hcm:cap≤9223372036854775807:=by have:=h.cap.2.1;unfold maxLen at this;omega
 clear h hokb hf;have BA:Below w.heap.size w (w.alloc (.cells #[.int .i64 (hc K i).k,.int .i64 (hc K i).n,.string (hc K i).name] 69)):=(bR _ _).alloc (nR _) _;have HBA:=lh BA;clear BA;by_cases hn:dO (hc K i).name=true
 ·by_cases h0:(hc K i).n<0
  ·have HO:=lh (gR (.inr (.inl h0)))
   go_enter Try.func106,Try.ntmps106;go_wp2_with (go_at_call 117;refine(mG (hc K i).name _ HFN.out).mono ?_;rintro e w' ⟨rfl,hb2⟩;obtain⟨hc2,hf2⟩:=eA hb2)
   all_goals (go_ret;exact⟨cJ HO.out.symm,HBA.out.trans (hb2.mono HBA.out.size)⟩)
  ·by_cases h4:4<(hc K i).n
   ·have HO:=lh (gR (.inr (.inr (.inl h4))))
    go_enter Try.func106,Try.ntmps106;go_wp2_with (go_at_call 117;refine(mG (hc K i).name _ HFN.out).mono ?_;rintro e w' ⟨rfl,hb2⟩;obtain⟨hc2,hf2⟩:=eA hb2)
    all_goals (go_ret;exact⟨cJ HO.out.symm,HBA.out.trans (hb2.mono HBA.out.size)⟩)
   ·obtain⟨m,hm⟩:∃m:Nat,(hc K i).n=(m:Int):=⟨(hc K i).n.toNat,by omega⟩
    have hm4:m≤4:=by omega
    have HM:=lh hm;by_cases h33:(hc K i).name.toList = [33]∧0<(hc K i).n
    ·have HO:=lh (gR (.inr (.inr (.inr h33))))
     have h33':=bK9.2 h33.1;have hm0:0<m:=by omega
     rw[hm] at c1 HBA;clear h33 h0 h4 hm;go_enter Try.func106,Try.ntmps106;go_wp2_with (go_at_call 117;refine(mG (hc K i).name _ HFN.out).mono ?_;rintro e w' ⟨rfl,hb2⟩;obtain⟨hc2,hf2⟩:=eA hb2)
     all_goals (go_ret;exact⟨cJ HO.out.symm,HBA.out.trans (hb2.mono HBA.out.size)⟩)
    ·have HG:Hid (¬(¬(dO (hc K i).name=true)∨(hc K i).n<0∨4<(hc K i).n∨((hc K i).name.toList = [33]∧0<(hc K i).n))):=lh (by
      rintro (h|h|h|h)
      ·exact h hn
      ·exact h0 h
      ·exact h4 h
      ·exact h33 h)
     have h33':(((hc K i).name.toList == [33])=true∧¬0<m)∨((hc K i).name.toList == [33])=false:=by
      by_cases e:(hc K i).name.toList = [33]
      ·exact .inl ⟨bK9.2 e,by
        have:¬0<(hc K i).n:=fun h=>h33 ⟨e,h⟩
        omega⟩
      ·exact .inr (bJ2.2 e)
     rcases h33' with ⟨h33t,hm0⟩|h33f
     ·have hz:(hc K i).n=0:=by omega
      rw[hz] at c1 HBA;have HZ:=lh hz;clear h33 h0 h4 hm hz hm0 hm4;by_cases h5:K.length≤i
      ·omega
      ·have h1c:(i:Int)+1≤(cap:Int):=by omega
       have hlt5:(i:Int)<(K.length:Int):=by omega
       have HO:=lh (nJ HG.out (by rw[HZ.out];omega) (fun q hq=>by rw[HZ.out] at hq;exact absurd hq (Nat.not_lt_zero q)));go_enter Try.func106,Try.ntmps106;go_wp2_with (go_at_call 117;refine(mG (hc K i).name _ HFN.out).mono ?_;rintro e w' ⟨rfl,hb2⟩;obtain⟨hc2,hf2⟩:=eA hb2;have HB2:=lh (HBA.out.trans (hb2.mono HBA.out.size)))
       all_goals
        go_loopw[53] (fun y wr=>y=.int .i64 0∧Hid (Below w.heap.size w wr)) (fun y _=>0)
        case atStart=>exact⟨rfl,HB2⟩
        case round =>
         obtain⟨rfl,HBW⟩:=hrel;go_wp2_with fail;go_ret;exact⟨cJ HO.out.symm,HBW.out⟩
     ·rw[hm] at c1 HBA
      clear h33 h0 h4 hm;by_cases h5:K.length≤i+m
      ·have HO:=lh (sG HG.out (by rw[HM.out];omega))
       have h5':(K.length:Int)≤(i:Int)+(m:Int):=by omega
       go_enter Try.func106,Try.ntmps106;go_wp2_with (go_at_call 117;refine(mG (hc K i).name _ HFN.out).mono ?_;rintro e w' ⟨rfl,hb2⟩;obtain⟨hc2,hf2⟩:=eA hb2)
       all_goals (go_ret;exact⟨cJ HO.out.symm,HBA.out.trans (hb2.mono HBA.out.size)⟩)
      ·have h1c:(i:Int)+1≤(cap:Int):=by omega
       have hlt5:(i:Int)+(m:Int)<(K.length:Int):=by omega
       go_enter Try.func106,Try.ntmps106;go_wp2_with (go_at_call 117;refine(mG (hc K i).name _ HFN.out).mono ?_;rintro e w' ⟨rfl,hb2⟩;obtain⟨hc2,hf2⟩:=eA hb2;have HB2:=lh (HBA.out.trans (hb2.mono HBA.out.size)))
       all_goals
        go_loopw[53] (fun y wr=>∃j:Nat,j≤m∧y=.int .i64 j∧Hid (∀q:Nat,q<j→(hc K (i+1+q)).k=1)∧Hid (Below w.heap.size w wr)) (fun y _=>m-(intOf y).toNat)
        case atStart=>exact⟨0,Nat.zero_le _,rfl,lh (fun q h=>absurd h (Nat.not_lt_zero q)),HB2⟩
        case round =>
         obtain⟨j,hj,rfl,HQ,HBW⟩:=hrel;by_cases hjm:j<m
         ·obtain⟨b',off',he,-,hb',d0,d1,d2,-⟩:=HP.out.at' (i+1+j) (by omega)
          injection he with he;injection he with e1 e2;subst e1;subst e2;rw[show off+(i+1+j)*3=off+(i+1)*3+j*3 by omega] at d0 d1 d2;have g0:=(HBW.out.cell (p:=⟨b,_,none⟩) hb').trans d0;have g1:=(HBW.out.cell (p:=⟨b,_,none⟩) hb').trans d1;have g2:=(HBW.out.cell (p:=⟨b,_,none⟩) hb').trans d2;clear d0 d1 d2 hb';by_cases hk:(hc K (i+1+j)).k=1
          ·have hk':((hc K (i+1+j)).k != 1)=false:=by rw[hk];rfl
           have HQ':Hid (∀q:Nat,q<j+1→(hc K (i+1+q)).k=1):=lh (fun q hq=>by
            by_cases e:q=j
            ·subst e;exact hk
            ·exact HQ.out q (by omega))
           clear hk;go_wp2_with fail
           all_goals
            go_roundw
            case measure=>simp[intOf];omega
            case rel=>exact⟨j+1,by omega,by go_num,HQ',lh (HBW.out.alloc HBW.out.size _)⟩
          ·have hk':((hc K (i+1+j)).k != 1)=true:=by rw[bne_iff_ne];exact hk
           have HO:=lh (sH HG.out (by rw[HM.out];omega) (fun h=>hk (h j (by rw[HM.out];omega))));clear hk;go_wp2_with fail
           all_goals
            go_ret;exact⟨cJ HO.out.symm,HBW.out.alloc HBW.out.size _⟩
         ·have HO:=lh (nJ HG.out (by rw[HM.out];omega) (fun q hq=>HQ.out q (by rw[HM.out] at hq;omega)))
          go_wp2_with fail;go_ret;exact⟨cJ HO.out.symm,HBW.out⟩
 ·have hn':dO (hc K i).name=false:=Bool.eq_false_iff.2 hn
  have HO:=lh (gR (.inl hn));clear hn;go_enter Try.func106,Try.ntmps106;go_wp2_with (go_at_call 117;refine(mG (hc K i).name _ HFN.out).mono ?_;rintro e w' ⟨rfl,hb2⟩;obtain⟨hc2,hf2⟩:=eA hb2)
  all_goals (go_ret;exact⟨cJ HO.out.symm,HBA.out.trans (hb2.mono HBA.out.size)⟩)
theorem xD{K:List HC}{i:Nat}(h:(hc K i).k=1):cD K i=if (hc K i).n<0∨(K.length:Int)≤(hc K i).n then 5 else if (hc K i).name.size≠0 then 1 else 0:=by unfold cD;rw[if_pos h]
theorem aC5{K:List HC}{i:Nat}(h1:(hc K i).k≠1)(h:(hc K i).k=2):cD K i=gJ K i:=by unfold cD;rw[if_neg h1,if_pos h]
theorem aC6{K:List HC}{i:Nat}(h1:(hc K i).k≠1)(h:(hc K i).k≠2):cD K i=1:=by unfold cD;rw[if_neg h1,if_neg h]
theorem bO1{w:World}{ok:Nat→Prop}{K:List HC}{a:Option Addr}{cap:Nat}(h:dV w ok K a cap){i:Nat}(hi:i<K.length)(hlen:K.length≤400000) :
 Calls Try.prog 77 #[.slice a K.length cap,.int .i64 i] w fun e w'=>e=.returned (.int .i64 (cD K i:Nat))∧Below w.heap.size w w':=by
 have HP:=lh h;have BA:Below w.heap.size w (w.alloc (.cells #[.int .i64 (hc K i).k,.int .i64 (hc K i).n,.string (hc K i).name] 69)):=(bR _ _).alloc (nR _) _;have HBA:=lh BA;have HBK:=lh (bL0 (h.below BA) hi hlen);obtain⟨b,off,rfl,hokb,hb,c0,c1,c2,hf⟩:=h.at' i hi;have hcl:K.length≤9223372036854775807:=by omega
 clear h hokb hf BA;by_cases hk:(hc K i).k=1
 ·have HE:=lh (xD hk)
  rw[hk] at c0;clear hk;by_cases h0:(hc K i).n<0
  ·have HO:Hid (cD K i=5):=lh (by rw[HE.out,if_pos (.inl h0)])
   go_enter Try.func77,Try.ntmps77;go_wp2_with fail;go_ret;exact⟨cJ HO.out.symm,(bR _ _).alloc (nR _) _⟩
  ·by_cases h1:(K.length:Int)≤(hc K i).n
   ·have HO:Hid (cD K i=5):=lh (by rw[HE.out,if_pos (.inr h1)])
    go_enter Try.func77,Try.ntmps77;go_wp2_with fail;go_ret;exact⟨cJ HO.out.symm,(bR _ _).alloc (nR _) _⟩
   ·have HN:Hid (¬((hc K i).n<0∨(K.length:Int)≤(hc K i).n)):=lh (fun h=>h.elim h0 h1)
    by_cases hz:(hc K i).name.size=0
    ·have HO:Hid (cD K i=0):=lh (by rw[HE.out,if_neg HN.out,if_neg (fun h=>h hz)])
     have hne:=pI _ hz;rw[hne] at c2;clear hz hne;go_enter Try.func77,Try.ntmps77;go_wp2_with fail;go_ret;exact⟨cJ HO.out.symm,(bR _ _).alloc (nR _) _⟩
    ·have HO:Hid (cD K i=1):=lh (by rw[HE.out,if_neg HN.out,if_pos hz])
     have hne:(hc K i).name.toList.isEmpty=false:=by rw[List.isEmpty_eq_false_iff];exact nF _ hz
     clear hz;go_enter Try.func77,Try.ntmps77;go_wp2_with fail;go_ret;exact⟨cJ HO.out.symm,(bR _ _).alloc (nR _) _⟩
 ·have hk1:((hc K i).k == 1)=false:=by simpa using hk
  by_cases hk2:(hc K i).k=2
  ·have HO:=lh (aC5 hk hk2)
   rw[hk2] at c0 HBK HBA;clear hk hk1 hk2;go_enter Try.func77,Try.ntmps77;go_wp2_with fail;refine HBK.out.mono ?_;rintro e w1 ⟨rfl,hb1⟩;go_wp2_with fail;go_ret;exact⟨cJ HO.out.symm,HBA.out.trans (hb1.mono HBA.out.size)⟩
  ·have HO:=lh (aC6 hk hk2)
   have hk2':((hc K i).k == 2)=false:=by simpa using hk2
   clear hk hk2;go_enter Try.func77,Try.ntmps77;go_wp2_with fail;go_ret;exact⟨cJ HO.out.symm,(bR _ _).alloc (nR _) _⟩
theorem aSz(w:World)(o:Obj):(w.alloc o).heap.size=w.heap.size+1:=by simp
theorem dSz(w:World):w.drew.heap.size=w.heap.size:=rfl
theorem sSz(w:World)(p:Addr)(v:Value):(w.setCell p v).heap.size=w.heap.size:=by simp[World.setCell]
theorem qJ{σ:Sub}(hi:gF σ){v:Int}{t:Tm}(hv:1≤v)(hvn:σ v=none)(ht:WfT t)(hr:t.var=0∨σ t.var=none)(hne:t.var≠v){L:List Int}{f:Nat}{σ':Sub}{L':List Int}{f':Nat}{m:List (Tm×Tm)}(he:cB σ L v t f=.go σ' L' f' m):gF σ':=by
 unfold cB at he;cases hw:within σ v f [t] with
 | yes g=>rw[hw] at he;cases he
 | many=>rw[hw] at he;cases he
 | no g=>rw[hw] at he;cases he;exact hi.bind hv hvn ht hr hne
theorem kB{σ:Sub}(hi:gF σ){s t:Tm}(hs:WfT s)(ht:WfT t){L:List Int}{f:Nat}{σ':Sub}{L':List Int}{f':Nat}{m:List (Tm×Tm)}(he:aW σ L f (look σ s) (look σ t)=.go σ' L' f' m):gF σ'∧∀p∈m,WfT p.1∧WfT p.2:=by
 have a1:=hi.look hs;have a2:=hi.look ht;have e1:=vN hi.rank.ends s;have e2:=vN hi.rank.ends t;unfold aW at he;split at he
 ·cases he;exact⟨hi,fun p hp=>by cases hp⟩
 ·rename_i h1
  split at he
  ·rename_i h2
   have hm:m = []:=by unfold cB at he;split at he <;> cases he;rfl
   exact⟨qJ hi (by have:=a1.pos;omega) (e1.resolve_left h2) a2 e2 (fun e=>h1 ⟨h2,e.symm⟩) he,fun p hp=>by rw[hm] at hp;cases hp⟩
  ·rename_i h2
   split at he
   ·rename_i h3
    have hm:m = []:=by unfold cB at he;split at he <;> cases he;rfl
    exact⟨qJ hi (by have:=a2.pos;omega) (e2.resolve_left h3) a1 e1 (fun e=>by omega) he,fun p hp=>by rw[hm] at hp;cases hp⟩
   ·split at he
    ·cases he
    ·cases he
     exact⟨hi,fun p hp=>⟨a1.arg (List.of_mem_zip hp).1,a2.arg (List.of_mem_zip hp).2⟩⟩
theorem qK{σ:Sub}{n:Nat}(hd:∀v u,σ v=some u→Fit n u){v:Int}{t:Tm}(hv:0≤v∧v.toNat<n)(ht:Fit n t){L:List Int}{f:Nat}{σ':Sub}{L':List Int}{f':Nat}{m:List (Tm×Tm)}(he:cB σ L v t f=.go σ' L' f' m):(∀v u,σ' v=some u→Fit n u)∧m = []:=by
 unfold cB at he;cases hw:within σ v f [t] with
 | yes g=>rw[hw] at he;cases he
 | many=>rw[hw] at he;cases he
 | no g =>
  rw[hw] at he;cases he;refine⟨?_,rfl⟩;unfold fN;by_cases hlt:v<t.var
  ·rw[if_pos hlt];exact aP8 hd (aA9 hv.1 hv.2)
  ·rw[if_neg hlt];exact aP8 hd ht
theorem qL{σ:Sub}{n:Nat}(hd:∀v u,σ v=some u→Fit n u){x y:Tm}(hx:Fit n x)(hy:Fit n y){L:List Int}{f:Nat}{σ':Sub}{L':List Int}{f':Nat}{m:List (Tm×Tm)}(he:aW σ L f x y=.go σ' L' f' m) :
 (∀v u,σ' v=some u→Fit n u)∧∀p∈m,Fit n p.1∧Fit n p.2:=by
 unfold aW at he;split at he
 ·cases he;exact⟨hd,fun p hp=>by cases hp⟩
 ·split at he
  ·have:=qK hd hx.pos hy he
   exact⟨this.1,fun p hp=>by rw[this.2] at hp;cases hp⟩
  ·split at he
   ·have:=qK hd hy.pos hx he
    exact⟨this.1,fun p hp=>by rw[this.2] at hp;cases hp⟩
   ·split at he
    ·cases he
    ·cases he
     exact⟨hd,fun p hp=>⟨hx.arg (List.of_mem_zip hp).1,hy.arg (List.of_mem_zip hp).2⟩⟩
theorem aG4{n:Nat}:∀(f:Nat) (σ:Sub) (L:List Int) (ps:List (Tm×Tm)) (σ':Sub) (L':List Int) (f':Nat),gF σ→(∀v u,σ v=some u→Fit n u)→(∀p∈ps,Fit n p.1∧Fit n p.2)→meet σ L f ps=.ok σ' L' f'→∀v u,σ' v=some u→Fit n u:=by
 intro f
 induction f using Nat.strongRecOn with
 | _ f ih =>
 intro σ L ps σ' L' f' hi hd hw he;cases ps with
 | nil=>rw[jM] at he;cases he;exact hd
 | cons p r =>
  cases f with
  | zero=>rw[kH] at he;cases he
  | succ f =>
   have hq:=hw p List.mem_cons_self;cases h1:aW σ L f (look σ p.1) (look σ p.2) with
   | done o =>
    rw[kI _ h1] at he;subst he;unfold aW cB at h1;split at h1
    ·cases h1
    ·split at h1
     ·split at h1 <;> cases h1
     ·split at h1
      ·split at h1 <;> cases h1
      ·split at h1 <;> cases h1
   | go σ1 L1 f1 m =>
    rw[kC _ h1] at he;obtain⟨i1,_⟩:=kB hi hq.1.wf hq.2.wf h1;obtain⟨d1,d2⟩:=qL hd (kV hi.rank.ends hd hq.1) (kV hi.rank.ends hd hq.2) h1;exact ih f1 (Nat.lt_succ_of_le (jL h1)) σ1 L1 _ σ' L' f' i1 d1 (fun q hq=>by
     rcases List.mem_append.1 hq with h5|h5
     ·exact d2 q h5
     ·exact hw q (List.mem_cons_of_mem _ h5)) he
theorem oJ{σ:Sub}{n:Nat}(hk:∀v u,σ v=some u→v.toNat<n){v:Int}{t:Tm}(hv:v.toNat<n)(ht:t.var.toNat<n){L:List Int}{f:Nat}{σ':Sub}{L':List Int}{f':Nat}{m:List (Tm×Tm)}(he:cB σ L v t f=.go σ' L' f' m):∀v u,σ' v=some u→v.toNat<n:=by
 unfold cB at he;cases hw:within σ v f [t] with
 | yes g=>rw[hw] at he;cases he
 | many=>rw[hw] at he;cases he
 | no g =>
  rw[hw] at he;cases he;intro x u hx;unfold upd at hx;by_cases e:x=(fN v t).1
  ·rw[e];unfold fN;split
   ·exact ht
   ·exact hv
  ·rw[if_neg e] at hx;exact hk x u hx
theorem wN{σ:Sub}{n:Nat}(hk:∀v u,σ v=some u→v.toNat<n){x y:Tm}(hx:Fit n x)(hy:Fit n y){L:List Int}{f:Nat}{σ':Sub}{L':List Int}{f':Nat}{m:List (Tm×Tm)}(he:aW σ L f x y=.go σ' L' f' m):∀v u,σ' v=some u→v.toNat<n:=by
 unfold aW at he;split at he
 ·cases he;exact hk
 ·split at he
  ·exact oJ hk hx.pos.2 hy.pos.2 he
  ·split at he
   ·exact oJ hk hy.pos.2 hx.pos.2 he
   ·split at he
    ·cases he
    ·cases he;exact hk
theorem yF{n:Nat}:∀(f:Nat) (σ:Sub) (L:List Int) (ps:List (Tm×Tm)) (σ':Sub) (L':List Int) (f':Nat),gF σ→(∀v u,σ v=some u→Fit n u)→(∀v u,σ v=some u→v.toNat<n)→(∀p∈ps,Fit n p.1∧Fit n p.2)→meet σ L f ps=.ok σ' L' f'→∀v u,σ' v=some u→v.toNat<n:=by
 intro f
 induction f using Nat.strongRecOn with
 | _ f ih =>
 intro σ L ps σ' L' f' hi hd hk hw he;cases ps with
 | nil=>rw[jM] at he;cases he;exact hk
 | cons p r =>
  cases f with
  | zero=>rw[kH] at he;cases he
  | succ f =>
   have hq:=hw p List.mem_cons_self;cases h1:aW σ L f (look σ p.1) (look σ p.2) with
   | done o =>
    rw[kI _ h1] at he;subst he;unfold aW cB at h1;split at h1
    ·cases h1
    ·split at h1
     ·split at h1 <;> cases h1
     ·split at h1
      ·split at h1 <;> cases h1
      ·split at h1 <;> cases h1
   | go σ1 L1 f1 m =>
    rw[kC _ h1] at he;obtain⟨i1,_⟩:=kB hi hq.1.wf hq.2.wf h1;have f1':=kV hi.rank.ends hd hq.1;have f2':=kV hi.rank.ends hd hq.2;obtain⟨d1,d2⟩:=qL hd f1' f2' h1;exact ih f1 (Nat.lt_succ_of_le (jL h1)) σ1 L1 _ σ' L' f' i1 d1 (wN hk f1' f2' h1) (fun q hq=>by
     rcases List.mem_append.1 hq with h5|h5
     ·exact d2 q h5
     ·exact hw q (List.mem_cons_of_mem _ h5)) he
theorem tA:∀(l:List Tm),eH l=0→∀p,p∈l→p.partE=0:=by
 intro l
 induction l with
 | nil=>intro _ p hp;cases hp
 | cons t r ih =>
  intro h p hp;have h':(if t.partE=0 then eH r else t.partE)=0:=h;by_cases e:t.partE=0
  ·rw[if_pos e] at h'
   rcases List.mem_cons.1 hp with rfl|hp
   ·exact e
   ·exact ih h' p hp
  ·rw[if_neg e] at h';exact absurd h' e
theorem kK{t:Tm}(h:t.checkE=0):Fit 13 t:=by
 have h0:t.partsE=0:=by
  unfold Tm.checkE at h;by_cases h6:60<t.size
  ·rw[if_pos h6] at h;cases h
  ·rw[if_neg h6] at h;exact h
 rw[Tm.partsE_eq] at h0;have hz:=tA _ h0;have hp:∀p,p∈t.parts→(0≤p.var∧(p.var≠0→p.args = []∧p.name=⟨#[]⟩))∧p.var.toNat<13∧p.args.length≤100000:=by
  intro p hp;have h1:=hz p hp;unfold Tm.partE at h1;obtain⟨v,n,l⟩:=p;simp only[Tm.var,Tm.name,Tm.args] at h1 ⊢;unfold Go.Proofs.Ytikmgiapjigghab.partE at h1;by_cases hv:v=0
  ·subst hv
   refine⟨⟨by omega,fun h=>absurd rfl h⟩,by omega,?_⟩;rw[if_pos rfl] at h1;split at h1
   ·cases h1
   ·split at h1
    ·cases h1
    ·omega
  ·rw[if_neg hv] at h1
   split at h1
   ·cases h1
   ·rename_i h2
    split at h1
    ·cases h1
    ·rename_i h3
     have hl:l.length=0:=by omega
     have hn:n.size=0:=by omega
     refine⟨⟨by omega,fun _=>⟨List.eq_nil_of_length_eq_zero hl,?_⟩⟩,by omega,by omega⟩;cases n with
     | mk d=>simp only[ByteArray.size] at hn;rw[Array.eq_empty_of_size_eq_zero hn]
 exact⟨fun p h=>(hp p h).1,fun p h=>(hp p h).2⟩
def tmA:Tm:=.mk 0 ⟨#[97]⟩ []
end Go.Proofs.Ytikmgiapjigghab
