/- What a statement's machine reads as. -/
import Derived.SizedLaws
import Derived.Test.YtikmgiapjigghabQc15
import Derived.Test.YtikmgiapjigghabQc23
set_option maxRecDepth 100000
set_option maxHeartbeats 8000000
namespace Go.Proofs.Ytikmgiapjigghab
open Go.ChangeShapes Go.WideShapes Go.ChangeAt Go.RowKit Go.Deep
def eJ{H:Type}(t:TypeId)(d:DataW H):Prop:=∀n∈d.weights Try.prog t,n≤reachBytes
theorem mZ{H:Type}{P:Program}{e:TypeId}:∀{ds:List (DataW H)} {d:DataW H},d∈ds→∀n∈d.weights P e,n∈DataW.weightsAll P e ds
 | d0::ds,d,hd,n,hn=>by
  simp only[DataW.weightsAll,List.mem_append];rcases List.mem_cons.1 hd with rfl|hd
  ·exact .inl hn
  ·exact .inr (mZ hd n hn)
theorem eJ.field{H:Type}{t:TypeId}{fs:Array Field}{parts:List (DataW H)}(ht:Try.prog.underlying t=some (.struct fs))(h:eJ t (.agg parts)){i:Nat}{f:Field}{d:DataW H}(hf:fs[i]? = some f)(hd:parts[i]? = some d):eJ f.type d:=fun n hn=>h n (by
 simp only[DataW.weights,ht];exact DataW.weights_mem_each (j:=i) (by simp[hf]) hd n hn)
theorem eJ.slice{H:Type}{t e:TypeId}{elems spare:List (DataW H)}(ht:Try.prog.underlying t=some (.slice e))(h:eJ t (.slice elems spare)):elems.length*Try.prog.bytesOf e≤reachBytes∧∀d,d∈elems→eJ e d:=by
 refine⟨?_,fun d hd n hn=>h n ?_⟩
 ·have h1:=h ((elems.length+spare.length)*Try.prog.bytesOf e) (by simp only[DataW.weights,ht];exact List.mem_cons_self ..)
  exact Nat.le_trans (Nat.mul_le_mul_right _ (Nat.le_add_right _ _)) h1
 ·simp only[DataW.weights,ht]
  exact List.mem_cons_of_mem _ (List.mem_append.2 (.inl (mZ hd n hn)))
section
variable {H:Type} {enc:TypeId×Value→H} {w:World} {base:Nat} {spare:Nat→Bool} {held:Bool}
theorem lL{t e:TypeId}{k:Nat}(ht:Try.prog.underlying t=some (.slice e))(hk:Try.prog.cellsOf e=k)(k0:0<k){α:Type}(R:List Value→α→Prop){fuel:Nat}
 (hR:∀m,m<fuel→∀cs (x:DataW H×List MemPlace),DataW.trod enc Try.prog w base spare held m e cs=some x→eJ e x.1→∃a,R cs a)
 {cs:List Value} {x:DataW H×List MemPlace} (h:DataW.trod enc Try.prog w base spare held fuel t cs=some x) (hz:eJ t x.1) :
 ∃(l:List α) (a:Option Addr) (cap:Nat),cs = [.slice a l.length cap]∧(l.length≤cap∧cap≤maxLen∧(a=none→cap=0))∧l.length*Try.prog.bytesOf e≤reachBytes ∧
  ∀i (hi:i<l.length),∃(b off:Nat) (cs':List Value),a=some ⟨b,off,none⟩∧b<w.heap.size∧R cs' l[i]∧cs'.length=k∧∀j v,cs'[j]? = some v→w.cell? ⟨b,off+i*k+j,none⟩=some v:=by
 rcases DataW.trod_slice ht h with ⟨rfl,_⟩|⟨a,len,cap,elems,rest,n,rfl,rfl,hx,_,hl,hm,hlen,hel,_,_⟩
 ·exact⟨[],none,0,rfl,⟨nR _,Nat.zero_le _,fun _=>rfl⟩,by simp,fun i hi=>absurd hi (Nat.not_lt_zero i)⟩
 ·rw[hx] at hz
  obtain⟨hz1,hz2⟩:=hz.slice ht;have key:∀i:Fin len,∃y:α,∃(b off:Nat) (cs':List Value),a=⟨b,off,none⟩∧b<w.heap.size∧R cs' y∧cs'.length=k∧∀j v,cs'[j]? = some v→w.cell? ⟨b,off+i*k+j,none⟩=some v:=by
   intro ⟨i,hi⟩;have h1:=hel i hi;have hie:i<elems.length:=by omega
   rw[List.getElem?_eq_getElem hie] at h1;obtain⟨cs',hcs,htr⟩:=Option.bind_eq_some_iff.1 h1;rw[hk] at hcs;obtain⟨_,hcl,hat⟩:=World.cells?_some hcs;obtain⟨y,hy⟩:=hR n (Nat.lt_succ_self n) cs' elems[i] htr (hz2 _ (List.mem_map.2 ⟨_,List.getElem_mem hie,rfl⟩));have c0:=hat 0 k0;rw[List.getElem?_eq_getElem (by omega:0<cs'.length)] at c0;obtain⟨b,off,spot⟩:=a;have hsp:spot=none:=by
    have h8:=hel 0 (by omega);rw[List.getElem?_eq_getElem (by omega:0<elems.length)] at h8;obtain⟨cs0,hcs0,_⟩:=Option.bind_eq_some_iff.1 h8;rw[hk] at hcs0;obtain⟨_,hcl0,hat0⟩:=World.cells?_some hcs0;have b0:=hat0 0 k0;rw[List.getElem?_eq_getElem (by omega:0<cs0.length)] at b0;have:=World.cell?_spot b0;simpa[Addr.add] using this
   subst hsp;simp only[fY] at c0 hat;refine⟨y,b,off,cs',rfl,aA3 c0,hy,hcl,fun j v hv=>?_⟩;have hj:j<cs'.length:=(List.getElem?_eq_some_iff.1 hv).1;exact(hat j (by omega)).trans hv
  refine⟨List.ofFn fun i=>Classical.choose (key i),some a,cap,by rw[List.length_ofFn],⟨by rw[List.length_ofFn];exact hl,hm,fun h=>nomatch h⟩,by rw[List.length_ofFn];simpa[hlen] using hz1,fun i hi=>?_⟩;rw[List.length_ofFn] at hi;obtain⟨b,off,cs',h1,h2,h3,h4,h5⟩:=Classical.choose_spec (key ⟨i,hi⟩);refine⟨b,off,cs',by rw[h1],h2,?_,h4,h5⟩;rw[List.getElem_ofFn];exact h3
theorem bO9:Try.prog.bytesOf 69=32:=by kernel_rfl
theorem bP0:Try.prog.bytesOf 65=24:=by kernel_rfl
theorem bF9:Try.prog.bytesOf 67=40:=by kernel_rfl
theorem bQ9:Try.prog.bytesOf 3=8:=by kernel_rfl
theorem bP1:Try.prog.bytesOf 71=48:=by kernel_rfl
theorem bG0:Try.prog.bytesOf 78=24:=by kernel_rfl
theorem bJ5:Try.prog.cellsOf 65=3:=by kernel_rfl
theorem aO8:Try.prog.cellsOf 67=5:=by kernel_rfl
theorem bG1:Try.prog.cellsOf 78=1:=by kernel_rfl
theorem bA4:Try.prog.cellsOf 28=1:=by kernel_rfl
theorem bM2:Try.prog.cellsOf 24=1:=by kernel_rfl
theorem bM3:Try.prog.cellsOf 25=1:=by kernel_rfl
theorem bA5:Try.prog.cellsOf 26=1:=by kernel_rfl
theorem bP2:Try.prog.cellsOf 27=1:=by kernel_rfl
theorem bR0:Try.prog.cellsOf 30=9:=by kernel_rfl
theorem lM{n:Nat}(h:n≤reachBytes):n≤140737488355328:=Nat.le_trans h (by decide)
theorem bA6{n:Nat}{cs:List Value}{x:DataW H×List MemPlace}(h:DataW.trod enc Try.prog w base spare held n 24 cs=some x)(hz:eJ 24 x.1) :
 ∃(K:List HC) (a:Option Addr) (cap:Nat),cs = [.slice a K.length cap]∧dV w (fun _=>True) K a cap∧K.length*32≤140737488355328:=by
 obtain⟨l,a,cap,h1,h2,h3,h4⟩:=lL (e:=69) Try.underlying24 cHc (by decide) (fun cs (c:HC)=>cs = [.int .i64 c.k,.int .i64 c.n,.string c.name]∧c.fits) (fun m _ cs x h _=>bE7 h) h hz;rw[bO9] at h3;refine⟨l,a,cap,h1,⟨h2,fun i hi=>?_⟩,lM h3⟩;obtain⟨b,off,cs',e1,e2,⟨rfl,e3⟩,-,e5⟩:=h4 i hi;rw[lV hi];exact⟨b,off,e1,trivial,e2,e5 0 _ rfl,e5 1 _ rfl,e5 2 _ rfl,e3⟩
theorem yC{n:Nat}{cs:List Value}{x:DataW H×List MemPlace}(h:DataW.trod enc Try.prog w base spare held n 27 cs=some x)(hz:eJ 27 x.1) :
 ∃(l:List Int) (a:Option Addr) (cap:Nat),cs = [.slice a l.length cap]∧dC w (fun _=>True) l a cap∧l.length*8≤140737488355328:=by
 obtain⟨l,a,cap,h1,h2,h3,h4⟩:=lL (e:=3) Try.underlying27 cI (by decide) (fun cs (c:Int)=>cs = [.int .i64 c]) (fun m _ cs x h _=>by
  obtain⟨y,e,-,-⟩:=DataW.trod_int Try.underlying3 h;exact⟨y,e⟩) h hz
 rw[bQ9] at h3;refine⟨l,a,cap,h1,⟨h2,fun i hi=>?_⟩,lM h3⟩;obtain⟨b,off,cs',e1,e2,rfl,-,e5⟩:=h4 i hi;have:=e5 0 _ rfl;rw[Nat.mul_one] at this;exact⟨b,off,e1,trivial,e2,this⟩
theorem yD:∀(l:List Gl) (j:Nat) (u:Value),(cE l)[j]? = some u→∃(i r:Nat) (h:i<l.length),j=i*3+r∧[Value.int .i64 l[i].at',Value.int .i64 l[i].cut,Value.int .i64 l[i].next][r]? = some u
 | [],j,u,h=>by cases h
 | x::l,0,u,h=>⟨0,0,Nat.succ_pos _,rfl,h⟩
 | x::l,1,u,h=>⟨0,1,Nat.succ_pos _,rfl,h⟩
 | x::l,2,u,h=>⟨0,2,Nat.succ_pos _,rfl,h⟩
 | x::l,j+3,u,h=>by
  obtain⟨i,r,hi,e1,e2⟩:=yD l j u h;exact⟨i+1,r,Nat.succ_lt_succ hi,by omega,e2⟩
theorem yE:∀(l:List Chi) (j:Nat) (u:Value),(cW l)[j]? = some u→∃(i r:Nat) (h:i<l.length),j=i*5+r∧[Value.int .i64 l[i].goal,Value.int .i64 l[i].clause,Value.int .i64 l[i].heap,Value.int .i64 l[i].trail,Value.int .i64 l[i].goals][r]? = some u
 | [],j,u,h=>by cases h
 | x::l,0,u,h=>⟨0,0,Nat.succ_pos _,rfl,h⟩
 | x::l,1,u,h=>⟨0,1,Nat.succ_pos _,rfl,h⟩
 | x::l,2,u,h=>⟨0,2,Nat.succ_pos _,rfl,h⟩
 | x::l,3,u,h=>⟨0,3,Nat.succ_pos _,rfl,h⟩
 | x::l,4,u,h=>⟨0,4,Nat.succ_pos _,rfl,h⟩
 | x::l,j+5,u,h=>by
  obtain⟨i,r,hi,e1,e2⟩:=yE l j u h;exact⟨i+1,r,Nat.succ_lt_succ hi,by omega,e2⟩
theorem bG2{n:Nat}{cs:List Value}{x:DataW H×List MemPlace}(h:DataW.trod enc Try.prog w base spare held n 65 cs=some x) :
 ∃g:Gl,cs = [.int .i64 g.at',.int .i64 g.cut,.int .i64 g.next]:=by
 obtain⟨ys,n',hn',hy,hlen',hyl,hf⟩:=DataW.trod_struct Try.underlying65 h;rw[bJ5] at hlen'
 match cs,hlen',ys,hyl with
 | [c0,c1,c2],_,[y0,y1,y2],_ =>
  have f0 := hf 0 ⟨ "At", 3, 0, false, "", "", 0⟩ rfl
  have f1 := hf 1 ⟨ "Cut", 3, 1, false, "", "", 8⟩ rfl
  have f2 := hf 2 ⟨ "Next", 3, 2, false, "", "", 16⟩ rfl
  simp only[cI,List.drop_zero,List.drop_succ_cons,List.take_succ_cons,List.take_zero,List.getElem?_cons_zero,List.getElem?_cons_succ] at f0 f1 f2;obtain⟨v0,e0,_,_⟩:=DataW.trod_int Try.underlying3 f0;obtain⟨v1,e1,_,_⟩:=DataW.trod_int Try.underlying3 f1;obtain⟨v2,e2,_,_⟩:=DataW.trod_int Try.underlying3 f2;simp only[List.cons.injEq,and_true] at e0 e1 e2;subst e0;subst e1;subst e2;exact⟨⟨v0,v1,v2⟩,rfl⟩
theorem bA7{n:Nat}{cs:List Value}{x:DataW H×List MemPlace}(h:DataW.trod enc Try.prog w base spare held n 67 cs=some x) :
 ∃c:Chi,cs = [.int .i64 c.goal,.int .i64 c.clause,.int .i64 c.heap,.int .i64 c.trail,.int .i64 c.goals]:=by
 obtain⟨ys,n',hn',hy,hlen',hyl,hf⟩:=DataW.trod_struct Try.underlying67 h;rw[aO8] at hlen'
 match cs,hlen',ys,hyl with
 | [c0,c1,c2,c3,c4],_,[y0,y1,y2,y3,y4],_ =>
  have f0 := hf 0 ⟨ "Goal", 3, 0, false, "", "", 0⟩ rfl
  have f1 := hf 1 ⟨ "Clause", 3, 1, false, "", "", 8⟩ rfl
  have f2 := hf 2 ⟨ "Heap", 3, 2, false, "", "", 16⟩ rfl
  have f3 := hf 3 ⟨ "Trail", 3, 3, false, "", "", 24⟩ rfl
  have f4 := hf 4 ⟨ "Goals", 3, 4, false, "", "", 32⟩ rfl
  simp only[cI,List.drop_zero,List.drop_succ_cons,List.take_succ_cons,List.take_zero,List.getElem?_cons_zero,List.getElem?_cons_succ] at f0 f1 f2 f3 f4;obtain⟨v0,e0,_,_⟩:=DataW.trod_int Try.underlying3 f0;obtain⟨v1,e1,_,_⟩:=DataW.trod_int Try.underlying3 f1;obtain⟨v2,e2,_,_⟩:=DataW.trod_int Try.underlying3 f2;obtain⟨v3,e3,_,_⟩:=DataW.trod_int Try.underlying3 f3;obtain⟨v4,e4,_,_⟩:=DataW.trod_int Try.underlying3 f4;simp only[List.cons.injEq,and_true] at e0 e1 e2 e3 e4;subst e0;subst e1;subst e2;subst e3;subst e4;exact⟨⟨v0,v1,v2,v3,v4⟩,rfl⟩
theorem aL6{n:Nat}{cs:List Value}{x:DataW H×List MemPlace}(h:DataW.trod enc Try.prog w base spare held n 25 cs=some x)(hz:eJ 25 x.1) :
 ∃(l:List Gl) (a:Option Addr) (cap:Nat),cs = [.slice a l.length cap]∧cZ w (fun _=>True) 3 l.length (cE l) a cap∧l.length*24≤140737488355328:=by
 obtain⟨l,a,cap,h1,h2,h3,h4⟩:=lL (e:=65) Try.underlying25 bJ5 (by decide) (fun cs (g:Gl)=>cs = [.int .i64 g.at',.int .i64 g.cut,.int .i64 g.next]) (fun m _ cs x h _=>bG2 h) h hz;rw[bP0] at h3;refine⟨l,a,cap,h1,⟨h2,dN l,fun j u hu=>?_⟩,lM h3⟩;obtain⟨i,r,hi,rfl,hr⟩:=yD l j u hu;obtain⟨b,off,cs',e1,e2,rfl,-,e5⟩:=h4 i hi;have:=e5 r u hr;rw[Nat.add_assoc] at this;exact⟨b,off,e1,trivial,e2,this⟩
theorem zV{n:Nat}{cs:List Value}{x:DataW H×List MemPlace}(h:DataW.trod enc Try.prog w base spare held n 26 cs=some x)(hz:eJ 26 x.1) :
 ∃(l:List Chi) (a:Option Addr) (cap:Nat),cs = [.slice a l.length cap]∧cZ w (fun _=>True) 5 l.length (cW l) a cap∧l.length*40≤140737488355328:=by
 obtain⟨l,a,cap,h1,h2,h3,h4⟩:=lL (e:=67) Try.underlying26 aO8 (by decide) (fun cs (c:Chi)=>cs = [.int .i64 c.goal,.int .i64 c.clause,.int .i64 c.heap,.int .i64 c.trail,.int .i64 c.goals]) (fun m _ cs x h _=>bA7 h) h hz;rw[bF9] at h3;refine⟨l,a,cap,h1,⟨h2,eQ l,fun j u hu=>?_⟩,lM h3⟩;obtain⟨i,r,hi,rfl,hr⟩:=yE l j u hu;obtain⟨b,off,cs',e1,e2,rfl,-,e5⟩:=h4 i hi;have:=e5 r u hr;rw[Nat.add_assoc] at this;exact⟨b,off,e1,trivial,e2,this⟩
theorem rO.mk'{v:Int}{s:ByteArray}{l:List Tm}(h1:l.length*48≤140737488355328)(h2:∀t,t∈l→rO t):rO (.mk v s l):=fun p hp=>by
 simp only[Tm.parts,List.mem_cons] at hp;rcases hp with rfl|hp
 ·exact h1
 ·have:∀(l:List Tm),(∀t,t∈l→rO t)→p∈Tm.partss l→p.args.length*48≤140737488355328:=by
   intro l
   induction l with
   | nil=>intro _ h;cases h
   | cons a r ih =>
    intro hl h;simp only[Tm.partss,List.mem_append] at h;rcases h with h|h
    ·exact hl a List.mem_cons_self p h
    ·exact ih (fun t ht=>hl t (List.mem_cons_of_mem _ ht)) h
  exact this l h2 hp
theorem bA8:∀(fuel:Nat) (t:TypeId),Try.prog.underlying t=some (.slice 71)→∀(cs:List Value) (x:DataW H×List MemPlace),DataW.trod enc Try.prog w base spare held fuel t cs=some x→eJ t x.1 →
 ∃(l:List Tm) (a:Option Addr) (cap:Nat),cs = [.slice a l.length cap]∧Ts w (fun _=>True) l a cap∧l.length*48≤140737488355328∧∀t,t∈l→rO t:=by
 intro fuel
 induction fuel using Nat.strongRecOn with
 | _ fuel ih =>
 intro t ht cs x h hz;obtain⟨L,a,cap,h1,h2,h3,h4⟩:=lL (e:=71) ht cTm (by decide) (fun cs (r:dS)=>cs = [.int .i64 r.1.var,.string r.1.name,.slice r.2.1 r.1.args.length r.2.2]∧r.1.fits∧Ts w (fun _=>True) r.1.args r.2.1 r.2.2∧rO r.1) (fun m hm cs x h hz=>by
  obtain⟨ys,n',hn',hy,hlen',hyl,hf⟩:=DataW.trod_struct Try.underlying71 h;rw[cTm] at hlen'
  match cs,hlen',ys,hyl with
  | [c0,c1,c2],_,[y0,y1,y2],_ =>
   have f0 := hf 0 ⟨ "Var", 3, 0, false, "", "", 0⟩ rfl
   have f1 := hf 1 ⟨ "Name", 9, 1, false, "", "", 8⟩ rfl
   have f2 := hf 2 ⟨ "Args", 48, 2, false, "", "", 24⟩ rfl
   simp only[cI,cS,cT,List.drop_zero,List.drop_succ_cons,List.take_succ_cons,List.take_zero,List.getElem?_cons_zero,List.getElem?_cons_succ] at f0 f1 f2;obtain⟨v,e0,_,hv⟩:=DataW.trod_int Try.underlying3 f0;obtain⟨s,e1,_,hs⟩:=DataW.trod_string Try.underlying9 f1;rw[hy] at hz;have hz2:=eJ.field Try.underlying71 hz (i:=2) rfl (d:=y2.1) rfl;obtain⟨l,a',cap',e2,ht,hl,hb⟩:=ih n' (by omega) _ Try.underlying48 _ _ f2 hz2;simp only[List.cons.injEq,and_true] at e0 e1 e2;subst e0;subst e1;subst e2;exact⟨(.mk v s l,a',cap'),rfl,⟨wf_i64 hv,hs⟩,ht,rO.mk' hl hb⟩) h hz
 rw[bP1] at h3;refine⟨L.map (·.1),a,cap,by rw[List.length_map];exact h1,.mk _ _ _ (by rw[List.length_map];exact h2) (fun i=>if h:i<L.length then L[i].2 else (none,0)) (fun i hi=>?_) (fun i hi=>?_),by rw[List.length_map];exact lM h3,fun t ht=>?_⟩
 ·rw[List.length_map] at hi
  obtain⟨b,off,cs',e1,e2,⟨rfl,e3,e4,-⟩,-,e5⟩:=h4 i hi;rw[dif_pos hi,List.getElem_map];exact⟨b,off,e1,trivial,e2,⟨e5 0 _ rfl,e5 1 _ rfl,e5 2 _ rfl,e3⟩⟩
 ·rw[List.length_map] at hi
  obtain⟨b,off,cs',e1,e2,⟨rfl,e3,e4,-⟩,-,e5⟩:=h4 i hi;rw[dif_pos hi,List.getElem_map];exact e4
 ·obtain⟨r,hr,rfl⟩:=List.mem_map.1 ht
  obtain⟨i,hi,rfl⟩:=List.getElem_of_mem hr;obtain⟨b,off,cs',e1,e2,⟨rfl,e3,e4,e6⟩,-,e5⟩:=h4 i hi;exact e6
theorem zW{n:Nat}{cs:List Value}{x:DataW H×List MemPlace}(h:DataW.trod enc Try.prog w base spare held n 28 cs=some x)(hz:eJ 28 x.1) :
 ∃(l:List (List Tm)) (a:Option Addr) (cap:Nat),cs = [.slice a l.length cap]∧lF w (fun _=>True) l a cap∧l.length*24≤140737488355328∧∀s,s∈l→s.length*48≤140737488355328∧∀t,t∈s→rO t:=by
 obtain⟨L,a,cap,h1,h2,h3,h4⟩:=lL (e:=78) Try.underlying28 bG1 (by decide) (fun cs (r:List Tm×Option Addr×Nat)=>cs = [.slice r.2.1 r.1.length r.2.2]∧Ts w (fun _=>True) r.1 r.2.1 r.2.2∧r.1.length*48≤140737488355328∧∀t,t∈r.1→rO t) (fun m _ cs x h hz=>by
  obtain⟨l,a',cap',e1,e2,e3,e4⟩:=bA8 _ _ Try.underlying78 _ _ h hz;exact⟨(l,a',cap'),e1,e2,e3,e4⟩) h hz
 rw[bG0] at h3;refine⟨L.map (·.1),a,cap,by rw[List.length_map];exact h1,⟨by rw[List.length_map];exact h2,fun i hi=>?_⟩,by rw[List.length_map];exact lM h3,fun s hs=>?_⟩
 ·rw[List.length_map] at hi
  obtain⟨b,off,cs',e1,e2,⟨rfl,e3,e4,-⟩,-,e5⟩:=h4 i hi;have h0:=e5 0 _ rfl;rw[Nat.mul_one] at h0;rw[List.getElem_map];exact⟨b,off,_,_,e1,trivial,e2,h0,e3⟩
 ·obtain⟨r,hr,rfl⟩:=List.mem_map.1 hs
  obtain⟨i,hi,rfl⟩:=List.getElem_of_mem hr;obtain⟨b,off,cs',e1,e2,⟨rfl,e3,e4⟩,-,e5⟩:=h4 i hi;exact e4
theorem bA9{n:Nat}{cs:List Value}{x:DataW H×List MemPlace}(h:DataW.trod enc Try.prog w base spare held n 30 cs=some x)(hz:eJ 30 x.1) :
 ∃(m:Mac) (d:MAd),cs=m.vals d∧bO w (fun _=>True) m d∧gV m∧I64 m.first∧I64 m.steps∧I64 m.fin:=by
 obtain⟨ys,n',hn',hy,hlen',hyl,hf⟩:=DataW.trod_struct Try.underlying30 h;rw[bR0] at hlen';rw[hy] at hz
 match cs,hlen',ys,hyl with
 | [c0,c1,c2,c3,c4,c5,c6,c7,c8],_,[y0,y1,y2,y3,y4,y5,y6,y7,y8],_ =>
  have f0 := hf 0 ⟨ "Heap", 24, 0, false, "", "", 0⟩ rfl
  have f1 := hf 1 ⟨ "Goals", 25, 1, false, "", "", 24⟩ rfl
  have f2 := hf 2 ⟨ "First", 3, 2, false, "", "", 48⟩ rfl
  have f3 := hf 3 ⟨ "Choices", 26, 3, false, "", "", 56⟩ rfl
  have f4 := hf 4 ⟨ "Trail", 27, 4, false, "", "", 80⟩ rfl
  have f5 := hf 5 ⟨ "Query", 27, 5, false, "", "", 104⟩ rfl
  have f6 := hf 6 ⟨ "Steps", 3, 6, false, "", "", 128⟩ rfl
  have f7 := hf 7 ⟨ "End", 3, 7, false, "", "", 136⟩ rfl
  have f8 := hf 8 ⟨ "Answers", 28, 8, false, "", "", 144⟩ rfl
  simp only[cI,bM2,bM3,bA5,bP2,bA4,List.drop_zero,List.drop_succ_cons,List.take_succ_cons,List.take_zero,List.getElem?_cons_zero,List.getElem?_cons_succ] at f0 f1 f2 f3 f4 f5 f6 f7 f8;have z0:=eJ.field Try.underlying30 hz (i:=0) rfl (d:=y0.1) rfl;have z1:=eJ.field Try.underlying30 hz (i:=1) rfl (d:=y1.1) rfl;have z3:=eJ.field Try.underlying30 hz (i:=3) rfl (d:=y3.1) rfl;have z4:=eJ.field Try.underlying30 hz (i:=4) rfl (d:=y4.1) rfl;have z5:=eJ.field Try.underlying30 hz (i:=5) rfl (d:=y5.1) rfl;have z8:=eJ.field Try.underlying30 hz (i:=8) rfl (d:=y8.1) rfl;obtain⟨hH,a0,n0,e0,k0,b0⟩:=bA6 f0 z0;obtain⟨hG,a1,n1,e1,k1,b1⟩:=aL6 f1 z1;obtain⟨v2,e2,_,i2⟩:=DataW.trod_int Try.underlying3 f2;obtain⟨hC,a3,n3,e3,k3,b3⟩:=zV f3 z3;obtain⟨hT,a4,n4,e4,k4,b4⟩:=yC f4 z4;obtain⟨hQ,a5,n5,e5,k5,b5⟩:=yC f5 z5;obtain⟨v6,e6,_,i6⟩:=DataW.trod_int Try.underlying3 f6;obtain⟨v7,e7,_,i7⟩:=DataW.trod_int Try.underlying3 f7;obtain⟨hA,a8,n8,e8,k8,b8,b9⟩:=zW f8 z8;simp only[List.cons.injEq,and_true] at e0 e1 e2 e3 e4 e5 e6 e7 e8;subst e0;subst e1;subst e2;subst e3;subst e4;subst e5;subst e6;subst e7;subst e8;exact⟨⟨hH,hG,v2,hC,hT,hQ,v6,v7,hA⟩,⟨a0,a1,a3,a4,a5,a8,n0,n1,n3,n4,n5,n8⟩,rfl,⟨k0,k1,k3,k4,k5,k8⟩,⟨b0,b1,b3,b4,b5,b8,b9⟩,wf_i64 i2,wf_i64 i6,wf_i64 i7⟩
end
end Go.Proofs.Ytikmgiapjigghab
