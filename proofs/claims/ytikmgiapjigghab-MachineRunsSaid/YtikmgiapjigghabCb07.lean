/- What making two terms the same comes to, as a plain function; walk: Same. -/
import Derived.Deep.DeepCutAuto
import Derived.Test.YtikmgiapjigghabCb06
namespace Go.Proofs.Ytikmgiapjigghab
open Go.RowKit
inductive MOut where
 | ok (σ:Sub) (L:List Int) (f:Nat)
 | no (σ:Sub) (L:List Int) (f:Nat)
 | many (σ:Sub) (L:List Int)
inductive MStep where
 | done (o:MOut)
 | go (σ:Sub) (L:List Int) (f:Nat) (more:List (Tm×Tm))
noncomputable def bindStep(σ:Sub)(L:List Int)(v:Int)(t:Tm)(f:Nat):MStep :=
 match within σ v f [t] with
 | .yes f'=>.done (.no σ L f')
 | .many=>.done (.many σ L)
 | .no f'=>.go (upd σ (bindS v t).1 (bindS v t).2) (L++[(bindS v t).1]) (min f' f) []
noncomputable def pairStep(σ:Sub)(L:List Int)(f:Nat)(x y:Tm):MStep :=
 if x.var≠0∧x.var=y.var then .go σ L f []
 else if x.var≠0 then bindStep σ L x.var y f
 else if y.var≠0 then bindStep σ L y.var x f
 else if x.name≠y.name∨x.args.length≠y.args.length then .done (.no σ L f)
 else .go σ L f (x.args.zip y.args)
theorem bindStep_le{σ:Sub}{L:List Int}{v:Int}{t:Tm}{f:Nat}{σ':Sub}{L':List Int}{f':Nat}{m:List (Tm×Tm)}(h:bindStep σ L v t f=.go σ' L' f' m):f'≤f:=by
 unfold bindStep at h
 cases hw:within σ v f [t] with
 | yes g=>rw[hw] at h;cases h
 | many=>rw[hw] at h;cases h
 | no g=>rw[hw] at h;cases h;omega
theorem pairStep_le{σ:Sub}{L:List Int}{x y:Tm}{f:Nat}{σ':Sub}{L':List Int}{f':Nat}{m:List (Tm×Tm)}(h:pairStep σ L f x y=.go σ' L' f' m):f'≤f:=by
 unfold pairStep at h
 by_cases h1:x.var≠0∧x.var=y.var
 ·rw[if_pos h1] at h;cases h;omega
 ·rw[if_neg h1] at h
  by_cases h2:x.var≠0
  ·rw[if_pos h2] at h;exact bindStep_le h
  ·rw[if_neg h2] at h
   by_cases h3:y.var≠0
   ·rw[if_pos h3] at h;exact bindStep_le h
   ·rw[if_neg h3] at h
    by_cases h4:x.name≠y.name∨x.args.length≠y.args.length
    ·rw[if_pos h4] at h;cases h
    ·rw[if_neg h4] at h;cases h;omega
noncomputable def meet(σ:Sub)(L:List Int)(f:Nat)(ps:List (Tm×Tm)):MOut :=
 match f,ps with
 | f,[]=>.ok σ L f
 | 0,_::_=>.many σ L
 | f+1,p::r =>
  match h:pairStep σ L f (look σ p.1) (look σ p.2) with
  | .done o=>o
  | .go σ' L' f' more =>
   have:f'<f+1:=Nat.lt_succ_of_le (pairStep_le h)
   meet σ' L' f' (more++r)
termination_by f
def MOut.then(o:MOut)(g:Sub→List Int→Nat→MOut):MOut :=
 match o with
 | .ok σ L f=>g σ L f
 | o=>o
theorem meet_nil(σ:Sub)(L:List Int)(f:Nat):meet σ L f []=.ok σ L f:=by unfold meet;rfl
theorem meet_zero(σ:Sub)(L:List Int)(p:Tm×Tm)(r:List (Tm×Tm)):meet σ L 0 (p::r)=.many σ L:=by unfold meet;rfl
theorem meet_done{σ:Sub}{L:List Int}{f:Nat}{p:Tm×Tm}{o:MOut}(r:List (Tm×Tm))(h:pairStep σ L f (look σ p.1) (look σ p.2)=.done o):meet σ L (f+1) (p::r)=o:=by
 conv=>lhs;unfold meet
 simp only
 split
 ·rename_i o' h';rw[h] at h';cases h';rfl
 ·rename_i h';rw[h] at h';cases h'
theorem meet_go{σ:Sub}{L:List Int}{f:Nat}{p:Tm×Tm}{σ':Sub}{L':List Int}{f':Nat}{m:List (Tm×Tm)}(r:List (Tm×Tm))(h:pairStep σ L f (look σ p.1) (look σ p.2)=.go σ' L' f' m):meet σ L (f+1) (p::r)=meet σ' L' f' (m++r):=by
 conv=>lhs;unfold meet
 simp only
 split
 ·rename_i h';rw[h] at h';cases h'
 ·rename_i h';rw[h] at h';cases h';rfl
theorem meet_append:∀ (f:Nat) (σ:Sub) (L:List Int) (ps qs:List (Tm×Tm)),meet σ L f (ps++qs)=(meet σ L f ps).then fun σ' L' f'=>meet σ' L' f' qs:=by
 intro f
 induction f using Nat.strongRecOn with
 | _ f ih =>
 intro σ L ps qs
 cases ps with
 | nil=>rw[List.nil_append,meet_nil];rfl
 | cons p r =>
  cases f with
  | zero=>rw[List.cons_append,meet_zero,meet_zero];rfl
  | succ f =>
   rw[List.cons_append]
   cases h:pairStep σ L f (look σ p.1) (look σ p.2) with
   | done o =>
    rw[meet_done _ h,meet_done _ h]
    have:∀ σ' L' f',o≠.ok σ' L' f':=by
     rintro σ' L' f' rfl
     unfold pairStep bindStep at h
     split at h
     ·cases h
     ·split at h
      ·split at h <;> cases h
      ·split at h
       ·split at h <;> cases h
       ·split at h <;> cases h
    cases o with
    | ok σ' L' f'=>exact absurd rfl (this σ' L' f')
    | no σ' L' f'=>rfl
    | many σ' L'=>rfl
   | go σ' L' f' m =>
    rw[meet_go _ h,meet_go _ h,← List.append_assoc,ih f' (Nat.lt_succ_of_le (pairStep_le h))]
def VarRank(σ:Sub):Prop:=∃ r:Int→Nat,∀ v u,σ v=some u→u.var≠0→r u.var<r v
theorem VarRank.ends{σ:Sub}(h:VarRank σ):Ends σ:=by
 obtain⟨r,hr⟩:=h
 have key:∀ (n:Nat) (t:Tm),r t.var<n→∃ m u,LookN σ m t u:=by
  intro n
  induction n with
  | zero=>intro t h;omega
  | succ n ih =>
   intro t ht
   by_cases hv:t.var=0
   ·exact⟨0,t,rfl,.inl hv⟩
   ·cases hs:σ t.var with
    | none=>exact⟨0,t,rfl,.inr hs⟩
    | some u =>
     by_cases hu:u.var=0
     ·exact⟨1,u,hv,u,hs,rfl,.inl hu⟩
     ·obtain⟨m,x,hx⟩:=ih u (by have:=hr _ _ hs hu;omega)
      exact⟨m+1,x,hv,u,hs,hx⟩
 exact fun t=>key (r t.var+1) t (by omega)
theorem look_end{σ:Sub}(h:Ends σ)(t:Tm):(look σ t).var=0∨σ (look σ t).var=none:=by
 obtain⟨n,hn⟩:=look_spec h t
 generalize look σ t=u at *
 induction n generalizing t with
 | zero=>obtain⟨rfl,h2⟩:=hn;exact h2
 | succ n ih=>obtain⟨_,t',_,h2⟩:=hn;exact ih t' h2
theorem VarRank.upd{σ:Sub}(h:VarRank σ){k:Int}{u:Tm}(hk:σ k=none)(hu:u.var≠0→u.var≠k∧σ u.var=none):VarRank (upd σ k u):=by
 obtain⟨r,hr⟩:=h
 by_cases h0:u.var=0
 ·refine⟨r,fun v t ht hv=>?_⟩
  unfold Go.Proofs.Ytikmgiapjigghab.upd at ht
  by_cases e:v=k
  ·rw[if_pos e] at ht;cases ht;exact absurd h0 hv
  ·rw[if_neg e] at ht;exact hr v t ht hv
 ·obtain⟨h1,h2⟩:=hu h0
  refine⟨fun x=>if x=u.var then 0 else r x+1,fun v t ht hv=>?_⟩
  unfold Go.Proofs.Ytikmgiapjigghab.upd at ht
  by_cases e:v=k
  ·rw[if_pos e] at ht
   cases ht
   subst e
   have h5:¬ v=u.var:=fun e=>h1 e.symm
   simp only[if_true,if_neg h5];omega
  ·rw[if_neg e] at ht
   have h3:=hr v t ht hv
   have h4:v≠u.var:=fun e2=>by rw[e2,h2] at ht;cases ht
   simp only[if_neg h4]
   by_cases h5:t.var=u.var
   ·rw[if_pos h5];omega
   ·rw[if_neg h5];omega
def WfT(t:Tm):Prop:=∀ p,p∈t.parts→0≤p.var∧(p.var≠0→p.args = []∧p.name=⟨#[]⟩)
theorem Tm.self_mem(t:Tm):t∈t.parts:=by cases t;simp[Tm.parts]
theorem Tm.partss_mem{l:List Tm}{t p:Tm}(ht:t∈l)(hp:p∈t.parts):p∈Tm.partss l:=by
 induction l with
 | nil=>cases ht
 | cons a l ih =>
  rw[Tm.partss,List.mem_append]
  rcases List.mem_cons.1 ht with rfl | h
  ·exact .inl hp
  ·exact .inr (ih h)
theorem Tm.parts_arg{t x p:Tm}(hx:x∈t.args)(hp:p∈x.parts):p∈t.parts:=by
 cases t with
 | mk v n l =>
  rw[Tm.parts]
  exact List.mem_cons_of_mem _ (Tm.partss_mem hx hp)
theorem WfT.arg{t x:Tm}(h:WfT t)(hx:x∈t.args):WfT x:=fun p hp=>h p (Tm.parts_arg hx hp)
theorem WfT.pos{t:Tm}(h:WfT t):0≤t.var:=(h t t.self_mem).1
theorem WfT.bare{v:Int}(h:0≤v):WfT (.mk v ⟨#[]⟩ []):=by
 intro p hp
 simp only[Tm.parts,Tm.partss,List.mem_singleton] at hp
 subst hp
 exact⟨h,fun _=>⟨rfl,rfl⟩⟩
structure SInv(σ:Sub):Prop where
 rank:VarRank σ
 each:∀ v u,σ v=some u→1≤v∧WfT u
theorem SInv.look{σ:Sub}(h:SInv σ){t:Tm}(ht:WfT t):WfT (look σ t):=by
 obtain⟨n,hn⟩:=look_spec h.rank.ends t
 generalize Go.Proofs.Ytikmgiapjigghab.look σ t=u at *
 induction n generalizing t with
 | zero=>obtain⟨rfl,_⟩:=hn;exact ht
 | succ n ih=>obtain⟨_,t',h1,h2⟩:=hn;exact ih (h.each _ _ h1).2 h2
theorem SInv.bind{σ:Sub}(h:SInv σ){v:Int}{t:Tm}(hv:1≤v)(hvn:σ v=none)(ht:WfT t)(htn:t.var=0∨σ t.var=none)(hne:t.var≠v):SInv (upd σ (bindS v t).1 (bindS v t).2):=by
 unfold bindS
 by_cases hlt:v<t.var
 ·rw[if_pos hlt]
  have h0:σ t.var=none:=htn.resolve_left (by omega)
  refine⟨h.rank.upd h0 (fun _=>⟨by show v≠t.var;omega,hvn⟩),fun x u hx=>?_⟩
  unfold upd at hx
  by_cases e:x=t.var
  ·rw[if_pos e] at hx;cases hx;exact⟨by omega,WfT.bare (by omega)⟩
  ·rw[if_neg e] at hx;exact h.each x u hx
 ·rw[if_neg hlt]
  refine⟨h.rank.upd hvn (fun h0=>⟨hne,htn.resolve_left h0⟩),fun x u hx=>?_⟩
  unfold upd at hx
  by_cases e:x=v
  ·rw[if_pos e] at hx;cases hx;exact⟨by omega,ht⟩
  ·rw[if_neg e] at hx;exact h.each x u hx
def SamePost(w:World)(ok:Nat→Prop)(bs bm:Nat)(tv:Value)(o:MOut)(e:Ending)(w':World):Prop :=
 Touch (StM bs bm tv) w w'∧∃ tv',Fresh w tv tv' ∧
 match o with
 | .ok σ L f=>e=.returned (.tuple #[.bool true,.int .i64 0])∧StAt w' ok bs bm tv' σ L (4000-f)∧SInv σ
 | .no σ L f=>e=.returned (.tuple #[.bool false,.int .i64 0])∧StAt w' ok bs bm tv' σ L (4000-f)∧SInv σ
 | .many σ L=>e=.returned (.tuple #[.bool false,.int .i64 2])∧StAt w' ok bs bm tv' σ L 4001∧SInv σ
structure TwoAt(w:World)(ok:Nat→Prop)(bs bm:Nat)(tv:Value)(σ:Sub)(L:List Int)(f:Nat)(x y:Tm)(a1 a2:Option Addr)(c1 c2:Nat)(wx:World):Prop where
 st:StAt wx ok bs bm tv σ L (4000-f)
 touch:Touch (StM bs bm tv) w wx
 b1:Box3 wx w.heap.size (.int .i64 x.var) (.string x.name) (.slice a1 x.args.length c1)
 b2:Box3 wx (w.heap.size+1) (.int .i64 y.var) (.string y.name) (.slice a2 y.args.length c2)
 f1:x.fits
 f2:y.fits
 t1:Ts wx ok x.args a1 c1
 t2:Ts wx ok y.args a2 c2
theorem Box3.all{w:World}{b:Nat}{x0 x1 x2:Value}(h:Box3 w b x0 x1 x2):w.cell? ⟨b,0,none⟩=some x0∧w.cell? ⟨b,1,none⟩=some x1∧w.cell? ⟨b,2,none⟩=some x2∧∀ o,w.frozen? ⟨b,o,none⟩=false:=⟨h.c0,h.c1,h.c2,h.fz⟩
theorem two_made0{w w1 wx wy wz:World}{ok:Nat→Prop}{bs bm:Nat}{tv:Value}{σ:Sub}{L:List Int}{f wk:Nat}{x y:Tm}{a1 a2:Option Addr}{c1 c2:Nat}(h0:StAt w ok bs bm tv σ L wk)(h:StAt w1 ok bs bm tv σ L (4000-f))(ht:Touch (StM bs bm tv) w w1)
 (hb:Below w1.heap.size w1 wx) (t1:Touch (fun b=>b=w.heap.size) wx wy) (A:Box3 wy w.heap.size (.int .i64 x.var) (.string x.name) (.slice a1 x.args.length c1)) (t2:Touch (fun b=>b=w.heap.size+1) wy wz) (B:Box3 wz (w.heap.size+1) (.int .i64 y.var) (.string y.name) (.slice a2 y.args.length c2))
 (hfx:x.fits) (hfy:y.fits) (htx:Ts wx ok x.args a1 c1) (hty:Ts wx ok y.args a2 c2):TwoAt w ok bs bm tv σ L f x y a1 a2 c1 c2 wz:=by
 have hok:∀ b,ok b→b≠w.heap.size∧b≠w.heap.size+1:=fun b hk=>by have:=(h0.okb b hk).1;omega
 have S2:=((h.keep hb).touch t1 (fun b e=>by subst e;exact⟨h0.notM (Nat.le_refl _),fun hk=>(hok _ hk).1 rfl⟩)).touch t2 (fun b e=>by subst e;exact⟨h0.notM (by omega),fun hk=>(hok _ hk).2 rfl⟩)
 have K:Keeps ok wx wz:=(t1.keeps fun b hk=>(hok b hk).1).trans (t2.keeps fun b hk=>(hok b hk).2)
 refine⟨S2,?_,A.keep (t2.block _ A.lt (by omega)),B,hfx,hfy,htx.keep K,hty.keep K⟩
 have h3:=ht.trans (Touch.below hb)
 refine⟨t2.os.trans (t1.os.trans h3.os),t2.tape.trans (t1.tape.trans h3.tape),t2.output.trans (t1.output.trans h3.output),Nat.le_trans h3.size (Nat.le_trans t1.size t2.size),fun b hb' hn=>?_⟩
 have e1:=h3.block b hb' hn
 have e2:=t1.block b (Nat.lt_of_lt_of_le hb' h3.size) (by omega)
 have e3:=t2.block b (Nat.lt_of_lt_of_le (Nat.lt_of_lt_of_le hb' h3.size) t1.size) (by omega)
 exact e3.trans (e2.trans e1)
theorem two_made{w w1:World}{ok:Nat→Prop}{bs bm:Nat}{tv:Value}{σ:Sub}{L:List Int}{f wk:Nat}{x y:Tm}{x0 x1 x2 y0 y1 y2:Value}(h0:StAt w ok bs bm tv σ L wk)(h:StAt w1 ok bs bm tv σ L (4000-f))(ht:Touch (StM bs bm tv) w w1)
 (hA:Box3 w1 w.heap.size x0 x1 x2) (hB:Box3 w1 (w.heap.size+1) y0 y1 y2) (wx:World) (a1 a2:Option Addr) (c1 c2:Nat) (hb:Below w1.heap.size w1 wx) (hfx:x.fits) (hfy:y.fits) (htx:Ts wx ok x.args a1 c1) (hty:Ts wx ok y.args a2 c2) :
 TwoAt w ok bs bm tv σ L f x y a1 a2 c1 c2 ((((((wx.setCell ⟨w.heap.size,0,none⟩ (.int .i64 x.var)).setCell ⟨w.heap.size,1,none⟩ (.string x.name)).setCell ⟨w.heap.size,2,none⟩ (.slice a1 x.args.length c1)).setCell ⟨w.heap.size+1,0,none⟩ (.int .i64 y.var)).setCell ⟨w.heap.size+1,1,none⟩ (.string y.name)).setCell ⟨w.heap.size+1,2,none⟩ (.slice a2 y.args.length c2)):=by
 have t1:=touch_put wx w.heap.size (.int .i64 x.var) (.string x.name) (.slice a1 x.args.length c1)
 have A:=(hA.below hb).put (.int .i64 x.var) (.string x.name) (.slice a1 x.args.length c1)
 have B1:=(hB.below hb).keep (t1.block _ (hB.below hb).lt (by omega))
 generalize ((wx.setCell ⟨w.heap.size,0,none⟩ (.int .i64 x.var)).setCell ⟨w.heap.size,1,none⟩ (.string x.name)).setCell ⟨w.heap.size,2,none⟩ (.slice a1 x.args.length c1)=wy at *
 exact two_made0 h0 h ht hb t1 A (touch_put wy (w.heap.size+1) _ _ _) (B1.put _ _ _) hfx hfy htx hty
noncomputable def bindOut(σ:Sub)(L:List Int)(v:Int)(t:Tm)(f:Nat):MOut :=
 match within σ v f [t] with
 | .yes f'=>.no σ L f'
 | .many=>.many σ L
 | .no f'=>.ok (upd σ (bindS v t).1 (bindS v t).2) (L++[(bindS v t).1]) f'
theorem bind_meet{σ:Sub}{L:List Int}{f:Nat}{x y:Tm}{v:Int}{t:Tm}{M:MOut}(h1:∀ o,pairStep σ L f x y=.done o→M=o)(h2:∀ σ' L' f' m,pairStep σ L f x y=.go σ' L' f' m→M=meet σ' L' f' m)(h:pairStep σ L f x y=bindStep σ L v t f):M=bindOut σ L v t f:=by
 have hle:=within_le σ v f [t]
 unfold bindStep at h
 unfold bindOut
 cases hw:within σ v f [t] with
 | yes g=>rw[hw] at h;exact h1 _ h
 | many=>rw[hw] at h;exact h1 _ h
 | no g =>
  rw[hw] at h
  rw[h2 _ _ _ _ h,meet_nil]
  have:=hle.2 g hw
  simp only
  rw[Nat.min_eq_left this]
theorem name_or{x y:Tm}(h:x.name≠y.name∨x.args.length≠y.args.length):(¬ x.name.toList=y.name.toList)∨(x.name.toList=y.name.toList∧((x.args.length:Int) != (y.args.length:Int))=true):=by
 by_cases h1:x.name.toList=y.name.toList
 ·refine .inr ⟨h1,?_⟩
  have h2:x.name=y.name:=by
   rw[ByteArray.toList_eq,ByteArray.toList_eq] at h1
   exact ByteArray.ext (Array.toList_inj.1 h1)
  rw[bne_iff_ne]
  rcases h with h | h
  ·exact absurd h2 h
  ·omega
 ·exact .inl h1
theorem BindPost.form{w:World}{ok:Nat→Prop}{bs bm:Nat}{tv:Value}{σ:Sub}{L:List Int}{v:Int}{t:Tm}{o:WOut}{e:Ending}{w':World}(h:BindPost w ok bs bm tv σ L v t o e w'):∃ (b:Bool) (n:Int),e=.returned (.tuple #[.bool b,.int .i64 n]):=by
 obtain⟨_,h2⟩:=h
 cases o with
 | yes f=>exact⟨_,_,h2.1⟩
 | no f=>exact⟨_,_,h2.1⟩
 | many=>exact⟨_,_,h2.1⟩
theorem BindPost.same{w wx:World}{ok:Nat→Prop}{bs bm:Nat}{tv:Value}{σ:Sub}{L:List Int}{v:Int}{t:Tm}{f:Nat}{e:Ending}{w':World}(h:BindPost wx ok bs bm tv σ L v t (within σ v f [t]) e w')(ht:Touch (StM bs bm tv) w wx)(hi:SInv σ)(hj:SInv (upd σ (bindS v t).1 (bindS v t).2)) :
 SamePost w ok bs bm tv (bindOut σ L v t f) e w':=by
 obtain⟨h1,h2⟩:=h
 unfold bindOut
 cases hw:within σ v f [t] with
 | yes g=>rw[hw] at h2;exact⟨ht.trans h1,tv,.inl rfl,h2.1,h2.2,hi⟩
 | many=>rw[hw] at h2;exact⟨ht.trans h1,tv,.inl rfl,h2.1,h2.2,hi⟩
 | no g =>
  rw[hw] at h2
  obtain⟨h3,tv',hf,h4⟩:=h2
  exact⟨ht.trans h1,tv',hf.old ht.size,h3,h4,hj⟩
structure SameRel(w wc:World)(ok:Nat→Prop)(bs bm:Nat)(tv:Value)(M:MOut)(l l2:List Tm)(v:Int)(n:ByteArray)(a2:Option Addr)(c2:Nat)(k:Nat)(σ:Sub)(L:List Int)(tvk:Value)(fk f:Nat)(wr:World):Prop where
 eq:M=meet σ L fk ((l.zip l2).drop k)
 st:StAt wr ok bs bm tvk σ L (4000-fk)
 touch:Touch (StM bs bm tv) w wr
 fresh:Fresh w tv tvk
 inv:SInv σ
 len:L.length+fk≤1000000
 le:fk≤f
 b2:Box3 wr (w.heap.size+1) (.int .i64 v) (.string n) (.slice a2 l2.length c2)
 keep:Keeps ok wc wr
theorem SamePost.form{w:World}{ok:Nat→Prop}{bs bm:Nat}{tv:Value}{o:MOut}{e:Ending}{w':World}(h:SamePost w ok bs bm tv o e w'):∃ (b:Bool) (n:Int),e=.returned (.tuple #[.bool b,.int .i64 n]):=by
 obtain⟨_,tv',_,h2⟩:=h
 cases o with
 | ok σ L f=>exact⟨_,_,h2.1⟩
 | no σ L f=>exact⟨_,_,h2.1⟩
 | many σ L=>exact⟨_,_,h2.1⟩
theorem Touch.fresh{w wr w':World}{bs bm:Nat}{tv tv':Value}(h1:Touch (StM bs bm tv) w wr)(hf:Fresh w tv tv')(h2:Touch (StM bs bm tv') wr w'):Touch (StM bs bm tv) w w':=by
 refine⟨h2.os.trans h1.os,h2.tape.trans h1.tape,h2.output.trans h1.output,Nat.le_trans h1.size h2.size,fun b hb hn=>?_⟩
 refine(h2.block b (Nat.lt_of_lt_of_le hb h1.size) (fun hm=>hn ?_)).trans (h1.block b hb hn)
 rcases hm with e | e | e
 ·exact .inl e
 ·exact .inr (.inl e)
 ·rcases hf with e2 | e2
  ·exact .inr (.inr (e2 ▸ e))
  ·have:=e2 b e;omega
theorem Fresh.trans{w w1:World}{v v1 v2:Value}(h:Fresh w v v1)(k:Fresh w1 v1 v2)(hs:w.heap.size≤w1.heap.size):Fresh w v v2:=by
 rcases k with e | e
 ·rcases h with e2 | e2
  ·exact .inl (e.trans e2)
  ·exact .inr fun g hg=>e2 g (e ▸ hg)
 ·exact .inr fun g hg=>Nat.le_trans hs (e g hg)
theorem SamePost.up{w wr:World}{ok:Nat→Prop}{bs bm:Nat}{tv tvk:Value}{o:MOut}{e:Ending}{w':World}(h:SamePost wr ok bs bm tvk o e w')(ht:Touch (StM bs bm tv) w wr)(hf:Fresh w tv tvk):SamePost w ok bs bm tv o e w':=by
 obtain⟨h1,tv',h2,h3⟩:=h
 exact⟨ht.fresh hf h1,tv',hf.trans h2 ht.size,h3⟩
theorem StAt.notBox{w:World}{ok:Nat→Prop}{bs bm:Nat}{tv:Value}{σ:Int→Option Tm}{L:List Int}{wk:Nat}(h:StAt w ok bs bm tv σ L wk){b:Nat}{x0 x1 x2:Value}(hb:Box3 w b x0 x1 x2):¬ StM bs bm tv b:=by
 rintro (rfl | rfl | e)
 ·have:=hb.blk;rw[h.blk] at this;cases this
 ·obtain⟨f,⟨D,⟨es,clock,h1,_⟩,_⟩,_⟩:=h.map
  have:=hb.blk;rw[h1] at this;cases this
 ·rcases h.trail.2 with ⟨h1,_⟩ | ⟨g,cap,cur,h1,_,h2,_⟩
  ·rw[h1] at e;cases e
  ·rw[h1] at e
   simp only[Value.ownBlock,Option.some.injEq] at e
   subst e
   have:=hb.blk;rw[h2] at this;cases this
theorem zip_drop{l l2:List Tm}{k:Nat}(h:k<l.length)(h2:k<l2.length):(l[k],l2[k])::(l.zip l2).drop (k+1)=(l.zip l2).drop k:=by
 rw[List.drop_eq_getElem_cons (i:=k) (by rw[List.length_zip];omega),List.getElem_zip]
theorem SameRel.next{w wc wr X w4:World}{ok:Nat→Prop}{bs bm:Nat}{tv:Value}{M:MOut}{l l2:List Tm}{v:Int}{n:ByteArray}{a2:Option Addr}{c2 k:Nat}{σ:Sub}{L:List Int}{tvk:Value}{fk f:Nat}(h:SameRel w wc ok bs bm tv M l l2 v n a2 c2 k σ L tvk fk f wr)
 (hb:Below wr.heap.size wr X) {σ':Sub} {L':List Int} {f':Nat} {tv4:Value} (ht:Touch (StM bs bm tvk) X w4) (hf:Fresh X tvk tv4) (hs:StAt w4 ok bs bm tv4 σ' L' (4000-f')) (hi:SInv σ') (hM:M=meet σ' L' f' ((l.zip l2).drop (k+1))) (h1:L'.length+f'≤L.length+fk) (h2:f'≤fk) :
 SameRel w wc ok bs bm tv M l l2 v n a2 c2 (k+1) σ' L' tv4 f' f w4:=by
 have ht2:Touch (StM bs bm tvk) wr w4:=(Touch.below hb).trans ht
 refine⟨hM,hs,h.touch.fresh h.fresh ht2,h.fresh.trans (hf.old hb.size) h.touch.size,hi,by have:=h.len;omega,by have:=h.le;omega,?_,h.keep.trans (h.st.keeps ht2)⟩
 exact h.b2.keep (ht2.block _ h.b2.lt (h.st.notBox h.b2))
theorem within_lt{σ:Sub}{v:Int}{f:Nat}{t:Tm}{r:List Tm}{g:Nat}(h:within σ v f (t::r)=.no g):g<f:=by
 cases f with
 | zero=>simp[within] at h
 | succ f =>
  simp only[within] at h
  by_cases h1:(look σ t).var≠0
  ·rw[if_pos h1] at h
   by_cases h2:(look σ t).var=v
   ·rw[if_pos h2] at h;cases h
   ·rw[if_neg h2] at h
    have:=(within_le σ v f r).2 g h;omega
  ·rw[if_neg h1] at h
   have:=(within_le σ v f _).2 g h;omega
theorem bindStep_len{σ:Sub}{L:List Int}{v:Int}{t:Tm}{f:Nat}{σ':Sub}{L':List Int}{f':Nat}{m:List (Tm×Tm)}(h:bindStep σ L v t f=.go σ' L' f' m):L'.length+f'≤L.length+f:=by
 unfold bindStep at h
 cases hw:within σ v f [t] with
 | yes g=>rw[hw] at h;cases h
 | many=>rw[hw] at h;cases h
 | no g=>rw[hw] at h;cases h;have:=within_lt hw;simp only[List.length_append,List.length_singleton];omega
theorem pairStep_len{σ:Sub}{L:List Int}{x y:Tm}{f:Nat}{σ':Sub}{L':List Int}{f':Nat}{m:List (Tm×Tm)}(h:pairStep σ L f x y=.go σ' L' f' m):L'.length+f'≤L.length+f:=by
 unfold pairStep at h
 split at h
 ·cases h;omega
 ·split at h
  ·exact bindStep_len h
  ·split at h
   ·exact bindStep_len h
   ·split at h
    ·cases h
    ·cases h;omega
theorem meet_len:∀ (f:Nat) (σ:Sub) (L:List Int) (ps:List (Tm×Tm)) {σ':Sub} {L':List Int} {f':Nat},meet σ L f ps=.ok σ' L' f'→L'.length+f'≤L.length+f∧f'≤f:=by
 intro f
 induction f using Nat.strongRecOn with
 | _ f ih =>
 intro σ L ps σ' L' f' h
 cases ps with
 | nil=>rw[meet_nil] at h;cases h;omega
 | cons p r =>
  cases f with
  | zero=>rw[meet_zero] at h;cases h
  | succ f =>
   cases hp:pairStep σ L f (look σ p.1) (look σ p.2) with
   | done o =>
    rw[meet_done _ hp] at h
    subst h
    unfold pairStep bindStep at hp
    split at hp
    ·cases hp
    ·split at hp
     ·split at hp <;> cases hp
     ·split at hp
      ·split at hp <;> cases hp
      ·split at hp <;> cases hp
   | go σ1 L1 f1 m =>
    rw[meet_go _ hp] at h
    have h1:=pairStep_le hp
    have h2:=pairStep_len hp
    have h3:=ih f1 (by omega) _ _ _ h
    omega
set_option maxRecDepth 100000 in
set_option maxHeartbeats 4000000 in
theorem SameW{ok:Nat→Prop}{bs bm:Nat}(f:Nat):∀ (σ:Sub) (L:List Int) (tv:Value) (a b:Tm) (a1 a2:Option Addr) (c1 c2:Nat) (w:World),f≤4000→StAt w ok bs bm tv σ L (4000-f)→SInv σ→L.length+f≤1000000 →
 a.fits→b.fits→Ts w ok a.args a1 c1→Ts w ok b.args a2 c2→WfT a→WfT b →
 Calls Try.prog 116 #[.pointer (some ⟨bs,0,none⟩),.agg #[.int .i64 a.var,.string a.name,.slice a1 a.args.length c1],.agg #[.int .i64 b.var,.string b.name,.slice a2 b.args.length c2]] w (SamePost w ok bs bm tv (meet σ L f [(a,b)])):=by
 induction f using Nat.strongRecOn with
 | _ f ih =>
 intro σ L tv a b a1 a2 c1 c2 w hf4 hst hinv hL hfa hfb hta htb hwa hwb
 have IH:=lh ih;have HST:=lh hst;have HI:=lh hinv;have HFA:=lh hfa;have HFB:=lh hfb;have HTA:=lh hta;have HTB:=lh htb;have HWA:=lh hwa;have HWB:=lh hwb
 clear ih hst hinv hfa hfb hta htb hwa hwb
 have B0:Below w.heap.size w ((w.alloc (.cells #[.int .i64 a.var,.string a.name,.slice a1 a.args.length c1] 71)).alloc (.cells #[.int .i64 b.var,.string b.name,.slice a2 b.args.length c2] 71)):=((Below.refl _ _).alloc (Nat.le_refl _) _).alloc (by simp) _
 have S0:=lh (HST.out.keep B0)
 go_enter Try.func116,Try.ntmps116
 go_wp2_with fail
 refine(spendW S0.out (by omega)).mono ?_
 rintro e w1 ⟨rfl,hs1,ht1⟩
 cases f with
 | zero =>
  have hd:decide (4000-0+1≤4000)=false:=by decide
  have HW:=lh (meet_zero σ L (a,b) [])
  have HS1:=lh hs1;have HT1:=lh ht1
  clear hs1 ht1
  rw[hd]
  go_wp2_with fail
  go_ret2
  rw[HW.out]
  exact⟨(Touch.below B0).trans HT1.out,tv,.inl rfl,rfl,HS1.out,HI.out⟩
 | succ f =>
  have hd:decide (4000-(f+1)+1≤4000)=true:=decide_eq_true (by omega)
  have hwk:4000-(f+1)+1=4000-f:=by omega
  rw[hd]
  rw[hwk] at hs1
  have hA:Box3 w1 w.heap.size (.int .i64 a.var) (.string a.name) (.slice a1 a.args.length c1):=((Box3.made w _ _ _).alloc _).keep (ht1.block _ (by simp;omega) (HST.out.notM (Nat.le_refl _)))
  have hB:Box3 w1 (w.heap.size+1) (.int .i64 b.var) (.string b.name) (.slice a2 b.args.length c2):=by
   have:=(Box3.made (w.alloc (.cells #[.int .i64 a.var,.string a.name,.slice a1 a.args.length c1] 71)) (.int .i64 b.var) (.string b.name) (.slice a2 b.args.length c2)).keep (ht1.block _ (by simp) (HST.out.notM (by simp)))
   simpa using this
  have T1:=lh ((Touch.below (M:=StM bs bm tv) B0).trans ht1)
  have hK1:=lh (HST.out.keeps T1.out)
  have HS1:=lh hs1
  clear hs1 ht1 hd hwk
  obtain⟨n,hn⟩:=look_spec HI.out.rank.ends a
  obtain⟨m,hm⟩:=look_spec HI.out.rank.ends b
  have HN:=lh hn;have HM:=lh hm
  clear hn hm
  have HX:Hid (∀ X,Below w1.heap.size w1 X→StAt X ok bs bm tv σ L (4000-f)∧Keeps ok w X):=lh fun X hX=>⟨HS1.out.keep hX,hK1.out.trans (Keeps.below hX ok)⟩
  have HTW:=lh (two_made (x:=look σ a) (y:=look σ b) HST.out HS1.out T1.out hA hB)
  have hl1:w.heap.size<w1.heap.size:=hA.lt
  have hl2:w.heap.size+1<w1.heap.size:=hB.lt
  have q0:=hA.c0;have q1:=hA.c1;have q2:=hA.c2;have qz:=hA.fz
  have r0:=hB.c0;have r1:=hB.c1;have r2:=hB.c2;have rz:=hB.fz
  have hwx:=HI.out.look HWA.out;have hwy:=HI.out.look HWB.out
  have hex:=look_end HI.out.rank.ends a;have hey:=look_end HI.out.rank.ends b
  have HWX:=lh hwx;have HWY:=lh hwy;have HEX:=lh hex;have HEY:=lh hey
  have HBA:=lh hA;have HBB:=lh hB
  clear hwx hwy hex hey T1 hK1 HS1 S0 hA hB
  generalize hx:look σ a=x at *
  generalize hy:look σ b=y at *
  have HLX:=lh hx;have HLY:=lh hy
  clear hx hy
  go_upto_region 3 with fail
  go_cut[] (fun wx=>∃ a1 a2 c1 c2,TwoAt w ok bs bm tv σ L f x y a1 a2 c1 c2 wx)
  case first =>
   go_region_with (first
    | (go_at_call_of 102 (Value.string a.name);refine(LookW (HX.out _ ?_).1 HN.out HFA.out (HTA.out.keep (HX.out _ ?_).2)).mono ?_;(first | exact(Below.refl _ _).drew | exact((Below.refl _ _).drew).trans hbB);(first | exact(Below.refl _ _).drew | exact((Below.refl _ _).drew).trans hbB);rintro e wA ⟨aA,cA,rfl,hfA,htA,hbA⟩;have chA:Below w1.heap.size w1 wA:=(by first | exact((Below.refl _ _).drew).trans hbA | exact((Below.refl _ _).drew).trans (hbB.trans (hbA.mono hbB.size)));obtain⟨ka0,ka1,ka2,ka3⟩:=(HBA.out.below chA).all;obtain⟨kb0,kb1,kb2,kb3⟩:=(HBB.out.below chA).all)
    | (go_at_call_of 102 (Value.string b.name);refine(LookW (HX.out _ ?_).1 HM.out HFB.out (HTB.out.keep (HX.out _ ?_).2)).mono ?_;(first | exact(Below.refl _ _).drew | exact((Below.refl _ _).drew).trans hbA);(first | exact(Below.refl _ _).drew | exact((Below.refl _ _).drew).trans hbA);rintro e wB ⟨aB,cB,rfl,hfB,htB,hbB⟩;have chB:Below w1.heap.size w1 wB:=(by first | exact((Below.refl _ _).drew).trans hbB | exact((Below.refl _ _).drew).trans (hbA.trans (hbB.mono hbA.size)));obtain⟨ma0,ma1,ma2,ma3⟩:=(HBA.out.below chB).all;obtain⟨mb0,mb1,mb2,mb3⟩:=(HBB.out.below chB).all))
   all_goals
    go_wp2_with fail
    go_meet
    exact⟨aA,aB,cA,cB,HTW.out wB aA aB cA cB chB hfA hfB (htA.keep (Keeps.below hbB ok)) htB⟩
  case rest =>
   obtain⟨a1',a2',c1',c2',hTw⟩:=hcut
   have HTw:=lh hTw
   obtain⟨p0,p1,p2,pz⟩:=hTw.b1.all
   obtain⟨s0,s1,s2,sz⟩:=hTw.b2.all
   have hlx:x.args.length≤9223372036854775807:=by have:=hTw.t1.cap;unfold maxLen at this;omega
   have hly:y.args.length≤9223372036854775807:=by have:=hTw.t2.cap;unfold maxLen at this;omega
   clear hTw q0 q1 q2 qz r0 r1 r2 rz hl1 hl2 HX HTW HBA HBB HN HM
   have HGO:Hid (∀ o,pairStep σ L f x y=.done o→meet σ L (f+1) [(a,b)]=o):=lh fun o h=>meet_done (p:=(a,b)) [] (by rw[HLX.out,HLY.out];exact h)
   have HGO2:Hid (∀ σ' L' f' m,pairStep σ L f x y=.go σ' L' f' m→meet σ L (f+1) [(a,b)]=meet σ' L' f' m):=lh fun σ' L' f' m h=>by
    rw[meet_go (p:=(a,b)) [] (by rw[HLX.out,HLY.out];exact h),List.append_nil]
   have HEB:Hid (∀ v t,pairStep σ L f x y=bindStep σ L v t f→meet σ L (f+1) [(a,b)]=bindOut σ L v t f):=lh fun v t h=>bind_meet HGO.out HGO2.out h
   by_cases hv:x.var≠0
   ·have h1:(x.var != 0)=true:=by rw[bne_iff_ne];exact hv
    have hx1:1≤x.var:=by have:=HWX.out.pos;omega
    have hsx:σ x.var=none:=HEX.out.resolve_left hv
    by_cases hvy:x.var=y.var
    ·-- the same variable
     have h2:(x.var == y.var)=true:=by rw[beq_iff_eq];exact hvy
     have HW:Hid (meet σ L (f+1) [(a,b)]=.ok σ L f):=lh (by
      rw[HGO2.out _ _ _ _ (show pairStep σ L f x y=.go σ L f [] by unfold pairStep;rw[if_pos ⟨hv,hvy⟩]),meet_nil])
     clear hv hvy hx1 hsx
     go_wp2_with fail
     go_ret2
     rw[HW.out]
     exact⟨HTw.out.touch,tv,.inl rfl,rfl,HTw.out.st,HI.out⟩
    ·have h2:(x.var == y.var)=false:=by rw[beq_eq_false_iff_ne];exact hvy
     have hsy:x.var<y.var→σ y.var=none:=fun h=>HEY.out.resolve_left (by omega)
     have HW:=lh (HEB.out x.var y (by unfold pairStep;rw[if_neg (fun h=>hvy h.2),if_pos hv]))
     have HSI:Hid (SInv (upd σ (bindS x.var y).1 (bindS x.var y).2)):=lh (HI.out.bind hx1 hsx HWY.out HEY.out (fun e=>hvy e.symm))
     have HC:=lh (bindW HI.out.rank.ends x.var f y a2' c2' _ (by omega) HTw.out.st HTw.out.f2 HTw.out.t2 HTw.out.f1.1 hsx hsy (by omega))
     clear hv hvy hx1 hsx hsy
     go_wp2_with fail
     refine HC.out.mono ?_
     intro e w4 hpost
     obtain⟨b1,n1,rfl⟩:=hpost.form
     have HP:=lh hpost
     clear hpost
     go_wp2_with fail
     go_ret2
     rw[HW.out]
     exact HP.out.same HTw.out.touch HI.out HSI.out
   ·have h1:(x.var != 0)=false:=by rw[Decidable.of_not_not hv];rfl
    by_cases hvy:y.var≠0
    ·have h2:(y.var != 0)=true:=by rw[bne_iff_ne];exact hvy
     have hy1:1≤y.var:=by have:=HWY.out.pos;omega
     have hsy:σ y.var=none:=HEY.out.resolve_left hvy
     have hsx:y.var<x.var→σ x.var=none:=fun h=>by have:=Decidable.of_not_not hv;omega
     have HW:=lh (HEB.out y.var x (by unfold pairStep;rw[if_neg (fun h=>hv h.1),if_neg hv,if_pos hvy]))
     have HSI:Hid (SInv (upd σ (bindS y.var x).1 (bindS y.var x).2)):=lh (HI.out.bind hy1 hsy HWX.out HEX.out (by have:=Decidable.of_not_not hv;omega))
     have HC:=lh (bindW HI.out.rank.ends y.var f x a1' c1' _ (by omega) HTw.out.st HTw.out.f1 HTw.out.t1 HTw.out.f2.1 hsy hsx (by omega))
     clear hv hvy hy1 hsx hsy
     go_wp2_with fail
     refine HC.out.mono ?_
     intro e w4 hpost
     obtain⟨b1,n1,rfl⟩:=hpost.form
     have HP:=lh hpost
     clear hpost
     go_wp2_with fail
     go_ret2
     rw[HW.out]
     exact HP.out.same HTw.out.touch HI.out HSI.out
    ·have h2:(y.var != 0)=false:=by rw[Decidable.of_not_not hvy];rfl
     by_cases hm:x.name≠y.name∨x.args.length≠y.args.length
     ·have HW:=lh (HGO.out (.no σ L f) (by unfold pairStep;rw[if_neg (fun h=>hv h.1),if_neg hv,if_neg hvy,if_pos hm]))
      have h3:=name_or hm
      clear hv hvy hm
      rcases h3 with h3 | ⟨h3,h4⟩
      ·go_wp2_with fail
       go_ret2
       rw[HW.out]
       exact⟨HTw.out.touch,tv,.inl rfl,rfl,HTw.out.st,HI.out⟩
      ·go_wp2_with fail
       go_ret2
       rw[HW.out]
       exact⟨HTw.out.touch,tv,.inl rfl,rfl,HTw.out.st,HI.out⟩
     ·have hE:pairStep σ L f x y=.go σ L f (x.args.zip y.args):=by unfold pairStep;rw[if_neg (fun h=>hv h.1),if_neg hv,if_neg hvy,if_neg hm]
      have HW:=lh (HGO2.out _ _ _ _ hE)
      have hnm:x.name.toList=y.name.toList:=by rw[show x.name=y.name from Decidable.of_not_not fun h=>hm (.inl h)]
      have hln:x.args.length=y.args.length:=Decidable.of_not_not fun h=>hm (.inr h)
      have h3:((x.args.length:Int) != (y.args.length:Int))=false:=by rw[hln];simp
      have HLN:=lh hln
      have HWX':Hid (∀ k (h:k<x.args.length),WfT x.args[k]):=lh fun k h=>HWX.out.arg (List.getElem_mem h)
      have HWY':Hid (∀ k (h:k<y.args.length),WfT y.args[k]):=lh fun k h=>HWY.out.arg (List.getElem_mem h)
      have HT1:=lh HTw.out.t1;have HT2:=lh HTw.out.t2;have HST3:=lh HTw.out.st;have HTO:=lh HTw.out.touch
      have HB2:=lh HTw.out.b2
      clear hv hvy hm hln hE HGO HGO2 HEB HEX HEY HWX HWY HLX HLY HTw
      go_wp2_with fail
      clear h1 h2 h3 hnm p0 p1 p2 pz s0 s1 s2 sz
      generalize hxl:x.args=l at *
      generalize hyl:y.args=l2 at *
      clear hxl hyl
      generalize hM:meet σ L (f+1) [(a,b)]=M at *
      clear hM
      go_loopw[72] (fun i wr=>∃ (k:Nat) (σk:Sub) (Lk:List Int) (tvk:Value) (fk:Nat),k≤l.length∧i=.int .i64 k∧SameRel w wc ok bs bm tv M l l2 y.var y.name a2' c2' k σk Lk tvk fk f wr) (fun i _=>l.length-(intOf i).toNat)
      case atStart=>exact⟨0,σ,L,tv,f,Nat.zero_le _,rfl,⟨HW.out,HST3.out,HTO.out,.inl rfl,HI.out,by omega,Nat.le_refl _,HB2.out,Keeps.refl _ _⟩⟩
      case round =>
       obtain⟨k,σk,Lk,tvk,fk,hk,rfl,hrel⟩:=hrel
       have HREL:=lh hrel
       clear hrel
       by_cases hlt:k<l.length
       ·have hlt2:k<l2.length:=by rw[← HLN.out];exact hlt
        obtain⟨g1,o1,d1,e1,rfl,hok1,hs1,hc1,ht1⟩:=HT1.out.at k hlt
        obtain⟨g2,o2,d2,e2,rfl,hok2,hs2,hc2,ht2⟩:=HT2.out.at k hlt2
        have m0:=(HREL.out.keep.cell (p:=⟨g1,o1+k*3,none⟩) hok1 hs1).trans hc1.var
        have m1:=(HREL.out.keep.cell (p:=⟨g1,o1+k*3+1,none⟩) hok1 hs1).trans hc1.name
        have m2:=(HREL.out.keep.cell (p:=⟨g1,o1+k*3+2,none⟩) hok1 hs1).trans hc1.args
        have n0:=(HREL.out.keep.cell (p:=⟨g2,o2+k*3,none⟩) hok2 hs2).trans hc2.var
        have n1:=(HREL.out.keep.cell (p:=⟨g2,o2+k*3+1,none⟩) hok2 hs2).trans hc2.name
        have n2:=(HREL.out.keep.cell (p:=⟨g2,o2+k*3+2,none⟩) hok2 hs2).trans hc2.args
        have z2:=HREL.out.b2.c2
        have BA:Below wr.heap.size wr (wr.alloc (.cells #[.int .i64 l[k].var,.string l[k].name,.slice d1 l[k].args.length e1] 71)).drew:=((Below.refl _ _).alloc (Nat.le_refl _) _).drew
        have HC:=lh (IH.out fk (by have:=HREL.out.le;omega) σk Lk tvk l[k] l2[k] d1 d2 e1 e2 _ (by have:=HREL.out.le;omega) (HREL.out.st.keep BA) HREL.out.inv HREL.out.len hc1.fits hc2.fits
         (ht1.keep (HREL.out.keep.trans (Keeps.below BA ok))) (ht2.keep (HREL.out.keep.trans (Keeps.below BA ok))) (HWX'.out k hlt) (HWY'.out k hlt2))
        have hl2':l2.length≤9223372036854775807:=hly
        have hg1:g1<wr.heap.size:=Nat.lt_of_lt_of_le hs1 HREL.out.keep.size
        have hg2:g2<wr.heap.size:=Nat.lt_of_lt_of_le hs2 HREL.out.keep.size
        have hwr:w.heap.size+1<wr.heap.size:=HREL.out.b2.lt
        have HBA:=lh BA
        clear hc1 hc2 ht1 ht2 BA
        have hsplit:meet σk Lk fk ((l.zip l2).drop k)=(meet σk Lk fk [(l[k],l2[k])]).then fun σ' L' f'=>meet σ' L' f' ((l.zip l2).drop (k+1)):=by
         rw[← meet_append,List.singleton_append,zip_drop hlt hlt2]
        have HSP:=lh hsplit
        have HLE:Hid (∀ σ' L' f',meet σk Lk fk [(l[k],l2[k])]=.ok σ' L' f'→L'.length+f'≤Lk.length+fk∧f'≤fk):=lh fun σ' L' f' h=>meet_len fk σk Lk _ h
        clear hsplit
        generalize meet σk Lk fk [(l[k],l2[k])]=o at *
        cases o with
        | ok σ' L' f' =>
         have hle:=HLE.out _ _ _ rfl
         have HM:Hid (M=meet σ' L' f' ((l.zip l2).drop (k+1))):=lh (by rw[HREL.out.eq,HSP.out];rfl)
         go_wp2_with fail
         go_region_with (go_at_call 116;refine HC.out.mono ?_;rintro e w4 ⟨ht4,tv4,hf4,rfl,hs4,hi4⟩;have HT4:=lh ht4;have HF4:=lh hf4;have HS4:=lh hs4;have HI4:=lh hi4;clear ht4 hf4 hs4 hi4)
         all_goals
          have hnx:=lh (HREL.out.next HBA.out HT4.out HF4.out HS4.out HI4.out HM.out (by omega) (by omega))
          go_wp2_with fail
          go_roundw
          case rel=>exact⟨k+1,σ',L',tv4,f',by omega,by go_num,hnx.out⟩
          case measure=>simp[intOf];omega
        | no σ' L' f' =>
         have HM:Hid (M=.no σ' L' f'):=lh (by rw[HREL.out.eq,HSP.out];rfl)
         go_wp2_with fail
         go_region_with (go_at_call 116;refine HC.out.mono ?_;rintro e w4 ⟨ht4,tv4,hf4,rfl,hs4,hi4⟩;have HT4:=lh ht4;have HF4:=lh hf4;have HS4:=lh hs4;have HI4:=lh hi4;clear ht4 hf4 hs4 hi4)
         all_goals
          go_wp2_with fail
          go_ret2
          rw[HM.out]
          exact SamePost.up (tvk:=tvk) ⟨(Touch.below HBA.out).trans HT4.out,tv4,HF4.out.old HBA.out.size,rfl,HS4.out,HI4.out⟩ HREL.out.touch HREL.out.fresh
        | many σ' L' =>
         have HM:Hid (M=.many σ' L'):=lh (by rw[HREL.out.eq,HSP.out];rfl)
         go_wp2_with fail
         go_region_with (go_at_call 116;refine HC.out.mono ?_;rintro e w4 ⟨ht4,tv4,hf4,rfl,hs4,hi4⟩;have HT4:=lh ht4;have HF4:=lh hf4;have HS4:=lh hs4;have HI4:=lh hi4;clear ht4 hf4 hs4 hi4)
         all_goals
          go_wp2_with fail
          go_ret2
          rw[HM.out]
          exact SamePost.up (tvk:=tvk) ⟨(Touch.below HBA.out).trans HT4.out,tv4,HF4.out.old HBA.out.size,rfl,HS4.out,HI4.out⟩ HREL.out.touch HREL.out.fresh
       ·have HM:Hid (M=.ok σk Lk fk):=lh (by
         rw[HREL.out.eq,List.drop_eq_nil_of_le (by rw[List.length_zip,← HLN.out];omega),meet_nil])
        go_wp2_with fail
        go_ret2
        rw[HM.out]
        exact⟨HREL.out.touch,tvk,HREL.out.fresh,rfl,HREL.out.st,HREL.out.inv⟩
set_option maxRecDepth 100000 in
set_option maxHeartbeats 1000000 in
theorem NewW(w:World)(ok:Nat→Prop)(hok:∀ b,ok b→b<w.heap.size) :
 Calls Try.prog 47 #[] w fun e w'=>e=.returned (.pointer (some ⟨w.heap.size+1,0,none⟩))∧StAt w' ok (w.heap.size+1) w.heap.size (.slice none 0 0) (fun _=>none) [] 0∧Below w.heap.size w w':=by
 have hmm:=@run_makeMap Try.prog
 go_enter Try.func47,Try.ntmps47
 go_wp2_with fail
 go_ret
 have hb:Below w.heap.size w ((w.alloc (.map #[] 0)).alloc (.cells #[.map (some w.heap.size),.slice none 0 0,.int .i64 0] 121)):=((Below.refl _ _).alloc (Nat.le_refl _) _).alloc (by simp) _
 have hm:=(IMap.made (P:=Try.prog) (kt:=3) w).kept (Below.heap_alloc (w.alloc (.map #[] 0)) (.cells #[.map (some w.heap.size),.slice none 0 0,.int .i64 0] 121) w.heap.size (by simp))
 have hn:((w.alloc (.map #[] 0)).alloc (.cells #[.map (some w.heap.size),.slice none 0 0,.int .i64 0] 121)).heap[w.heap.size+1]? = some (.cells #[.map (some w.heap.size),.slice none 0 0,.int .i64 0] 121 (0,0)):=by
  have:=heap_alloc_new (w.alloc (.map #[] 0)) (.cells #[.map (some w.heap.size),.slice none 0 0,.int .i64 0] 121)
  simpa using this
 refine⟨rfl,⟨hn,World.ownsRow_nil _ _ _ _,⟨_,hm,fun k=>rfl⟩,⟨by omega,by simp[Value.ownBlock],by simp[Value.ownBlock]⟩,fun b hb'=>⟨by have:=hok b hb';have:=hb.size;omega,?_⟩⟩,hb⟩
 have h1:=hok b hb'
 rintro (e | e | e)
 ·omega
 ·omega
 ·simp[Value.ownBlock] at e
section
variable {S:Type} (nm:S→Int→Int×S)
mutual
def Tm.ren:S→Tm→Tm×S
 | s,.mk v n l=>if v≠0 then (.mk (nm s v).1 ⟨#[]⟩ [],(nm s v).2) else (.mk 0 n (Tm.rens s l).1,(Tm.rens s l).2)
def Tm.rens:S→List Tm→List Tm×S
 | s,[]=>([],s)
 | s,t::r=>((Tm.ren s t).1::(Tm.rens (Tm.ren s t).2 r).1,(Tm.rens (Tm.ren s t).2 r).2)
end
theorem Tm.rens_append(s:S)(l r:List Tm):Tm.rens nm s (l++r)=((Tm.rens nm s l).1++(Tm.rens nm (Tm.rens nm s l).2 r).1,(Tm.rens nm (Tm.rens nm s l).2 r).2):=by
 induction l generalizing s with
 | nil=>simp[Tm.rens]
 | cons t l ih=>simp only[List.cons_append,Tm.rens,ih]
theorem Tm.rens_length(s:S)(l:List Tm):(Tm.rens nm s l).1.length=l.length:=by
 induction l generalizing s with
 | nil=>simp[Tm.rens]
 | cons t l ih=>simp only[Tm.rens,List.length_cons,ih]
end
def Names{S:Type}(nm:S→Int→Int×S)(Inv:World→S→Prop)(Md:Nat→Prop)(F:FuncId)(cp:Array Value):Prop :=
 ∀ (w:World) (s:S) (v:Int),Inv w s→I64 v→Calls Try.prog F (#[.int .i64 v]++cp) w fun e w'=>e=.returned (.int .i64 (nm s v).1)∧Inv w' (nm s v).2∧I64 (nm s v).1∧Touch Md w w'
end Go.Proofs.Ytikmgiapjigghab
