/- The store of chapter 3 in a world: what it is; walks: spend, Look. -/
import Derived.Deep.LoopGhost
import Derived.Deep.RegionHeld3
import Derived.Test.YtikmgiapjigghabQc04
import Derived.Test.YtikmgiapjigghabQc05
namespace Go.Proofs.Ytikmgiapjigghab
open Go.RowKit
structure aA(M:Nat→Prop)(w w':World):Prop where
 os:w'.os=w.os
 tape:w'.tape=w.tape
 output:w'.output=w.output
 size:w.heap.size≤w'.heap.size
 block:∀b,b<w.heap.size→¬M b→w'.heap[b]? = w.heap[b]?
theorem aA.below{M:Nat→Prop}{w w':World}(h:Below w.heap.size w w'):aA M w w':=⟨h.os,h.tape,h.output,h.size,fun b hb _=>h.block b hb⟩
theorem aA.refl(M:Nat→Prop)(w:World):aA M w w:=aA.below (bR _ _)
theorem aA.trans{M:Nat→Prop}{a b c:World}(h:aA M a b)(k:aA M b c):aA M a c :=
 ⟨k.os.trans h.os,k.tape.trans h.tape,k.output.trans h.output,Nat.le_trans h.size k.size,fun i hi hm=>(k.block i (nT hi h.size) hm).trans (h.block i hi hm)⟩
theorem aA.mono{M M':Nat→Prop}{w w':World}(h:aA M w w')(hm:∀b,b<w.heap.size→M b→M' b):aA M' w w' :=
 ⟨h.os,h.tape,h.output,h.size,fun b hb hn=>h.block b hb (fun hM=>hn (hm b hb hM))⟩
theorem aA.toBelow{M:Nat→Prop}{B:Nat}{w w':World}(h:aA M w w')(hB:B≤w.heap.size)(hm:∀b,M b→B≤b):Below B w w' :=
 ⟨h.os,h.tape,h.output,h.size,fun b hb=>h.block b (by omega) (fun hM=>by have:=hm b hM;omega)⟩
theorem aA.keeps{M:Nat→Prop}{w w':World}(h:aA M w w'){ok:Nat→Prop}(hm:∀b,ok b→¬M b):aD ok w w':=⟨h.size,fun b hb hs=>h.block b hs (hm b hb)⟩
theorem aA.grown{M:Nat→Prop}{w w':World}{row:Option Nat}(h:w.grownBy w' row)(hm:∀k,row=some k→M k):aA M w w' :=
 ⟨h.os,h.tape,h.output,h.size,fun b hb hn=>h.block b hb (fun e=>hn (hm b e.symm))⟩
theorem aA.setCell{M:Nat→Prop}{w:World}{p:Addr}(u:Value)(hp:M p.block):aA M w (w.setCell p u) :=
 ⟨rfl,rfl,rfl,by simp[World.setCell],fun b _ hn=>Below.heap_setCell _ _ _ _ (fun e=>hn (e ▸ hp))⟩
theorem aB(w:World)(b o:Nat)(u:Value){c:Array Value}{e:TypeId}{fz:Nat×Nat}(h:w.heap[b]? = some (.cells c e fz)):(w.setCell ⟨b,o,none⟩ u).heap[b]? = some (.cells (c.setIfInBounds o u) e fz):=by
 simp[World.setCell,Array.getElem?_modify,h]
def iN(σ:Int→Option Tm):Nat→Tm→Tm→Prop
 | 0,t,u=>u=t∧(t.var=0∨σ t.var=none)
 | n+1,t,u=>t.var≠0∧∃t',σ t.var=some t'∧iN σ n t' u
theorem vY:Go.Maps.Keyed Try.prog 3:=Go.Maps.int_keyed Try.underlying3
structure dP(w:World)(b:Nat)(x0 x1 x2:Value):Prop where
 blk:w.heap[b]? = some (.cells #[x0,x1,x2] 71 (0,0))
theorem dP.c0{w:World}{b:Nat}{x0 x1 x2:Value}(h:dP w b x0 x1 x2):w.cell? ⟨b,0,none⟩=some x0:=by simp[World.cell?,h.blk]
theorem dP.c1{w:World}{b:Nat}{x0 x1 x2:Value}(h:dP w b x0 x1 x2):w.cell? ⟨b,1,none⟩=some x1:=by simp[World.cell?,h.blk]
theorem dP.c2{w:World}{b:Nat}{x0 x1 x2:Value}(h:dP w b x0 x1 x2):w.cell? ⟨b,2,none⟩=some x2:=by simp[World.cell?,h.blk]
theorem dP.fz{w:World}{b:Nat}{x0 x1 x2:Value}(h:dP w b x0 x1 x2)(o:Nat):w.frozen? ⟨b,o,none⟩=false:=by simp[World.frozen?,h.blk]
theorem dP.lt{w:World}{b:Nat}{x0 x1 x2:Value}(h:dP w b x0 x1 x2):b<w.heap.size:=(gS h.blk).1
theorem dP.keep{w w':World}{b:Nat}{x0 x1 x2:Value}(h:dP w b x0 x1 x2)(hb:w'.heap[b]? = w.heap[b]?):dP w' b x0 x1 x2:=⟨hb.trans h.blk⟩
theorem dP.below{w w':World}{b:Nat}{x0 x1 x2:Value}(h:dP w b x0 x1 x2)(hb:Below w.heap.size w w'):dP w' b x0 x1 x2:=h.keep (hb.block b h.lt)
theorem dP.made(w:World)(x0 x1 x2:Value):dP (w.alloc (.cells #[x0,x1,x2] 71)) w.heap.size x0 x1 x2:=⟨heap_alloc_new w _⟩
theorem dP.alloc{w:World}{b:Nat}{x0 x1 x2:Value}(h:dP w b x0 x1 x2)(o:Obj):dP (w.alloc o) b x0 x1 x2:=h.below ((bR _ _).alloc (nR _) _)
theorem aU7{B:Nat}{w0 w:World}(h:Below B w0 w){b:Nat}(hb:B≤b)(y0 y1 y2:Value):Below B w0 (((w.setCell ⟨b,0,none⟩ y0).setCell ⟨b,1,none⟩ y1).setCell ⟨b,2,none⟩ y2) :=
 ((h.setCell (p:=⟨b,0,none⟩) hb y0).setCell (p:=⟨b,1,none⟩) hb y1).setCell (p:=⟨b,2,none⟩) hb y2
theorem rU{w:World}{b b':Nat}(hne:b'≠b)(y0 y1 y2:Value):(((w.setCell ⟨b,0,none⟩ y0).setCell ⟨b,1,none⟩ y1).setCell ⟨b,2,none⟩ y2).heap[b']? = w.heap[b']?:=by
 rw[Below.heap_setCell _ _ _ _ hne,Below.heap_setCell _ _ _ _ hne,Below.heap_setCell _ _ _ _ hne]
abbrev Sub:=Int→Option Tm
theorem iN.det{σ:Sub}:∀{n m:Nat} {t u v:Tm},iN σ n t u→iN σ m t v→u=v
 | 0,0,_,_,_,h,k=>h.1.trans k.1.symm
 | 0,m+1,t,_,_,h,k=>by
  obtain⟨h1,t',h2,_⟩:=k;rcases h.2 with h3|h3
  ·exact absurd h3 h1
  ·rw[h2] at h3;cases h3
 | n+1,0,t,_,_,h,k=>by
  obtain⟨h1,t',h2,_⟩:=h;rcases k.2 with h3|h3
  ·exact absurd h3 h1
  ·rw[h2] at h3;cases h3
 | n+1,m+1,t,_,_,h,k=>by
  obtain⟨_,t',h2,h3⟩:=h;obtain⟨_,t'',h4,h5⟩:=k;rw[h2] at h4;cases h4;exact iN.det h3 h5
def aU8(σ:Sub):Prop:=∀t,∃n u,iN σ n t u
instance:Inhabited Tm:=⟨.mk 0 ByteArray.empty []⟩
noncomputable def look(σ:Sub)(t:Tm):Tm:=Classical.epsilon fun u=>∃n,iN σ n t u
theorem lR{σ:Sub}(h:aU8 σ)(t:Tm):∃n,iN σ n t (look σ t):=by
 obtain⟨n,u,hu⟩:=h t;exact Classical.epsilon_spec (p:=fun u=>∃n,iN σ n t u) ⟨u,n,hu⟩
theorem tI{σ:Sub}{n:Nat}{t u:Tm}(h:iN σ n t u):look σ t=u:=by
 have:∃m,iN σ m t (look σ t):=Classical.epsilon_spec (p:=fun u=>∃n,iN σ n t u) ⟨u,n,h⟩;obtain⟨m,hm⟩:=this;exact iN.det hm h
inductive bQ1 where
 | yes (f:Nat)
 | no (f:Nat)
 | many
noncomputable def within(σ:Sub)(v:Int):Nat→List Tm→bQ1
 | f,[]=>.no f
 | 0,_::_=>.many
 | f+1,t::r=>if (look σ t).var≠0 then (if (look σ t).var=v then .yes f else within σ v f r) else within σ v f ((look σ t).args++r)
theorem rW(σ:Sub)(v:Int):∀(f:Nat) (l:List Tm),(∀f',within σ v f l=.yes f'→f'≤f)∧(∀f',within σ v f l=.no f'→f'≤f):=by
 intro f
 induction f with
 | zero =>
  intro l;cases l with
  | nil=>simp[within]
  | cons a l=>simp[within]
 | succ f ih =>
  intro l;cases l with
  | nil=>simp[within]
  | cons a l =>
   simp only[within];by_cases h1:(look σ a).var≠0
   ·rw[if_pos h1]
    by_cases h2:(look σ a).var=v
    ·rw[if_pos h2];simp
    ·rw[if_neg h2]
     exact⟨fun f' h=>Nat.le_succ_of_le ((ih l).1 f' h),fun f' h=>Nat.le_succ_of_le ((ih l).2 f' h)⟩
   ·rw[if_neg h1]
    exact⟨fun f' h=>Nat.le_succ_of_le ((ih _).1 f' h),fun f' h=>Nat.le_succ_of_le ((ih _).2 f' h)⟩
theorem kJ(w:World)(b:Nat)(y0 y1 y2:Value):aA (fun x=>x=b) w (((w.setCell ⟨b,0,none⟩ y0).setCell ⟨b,1,none⟩ y1).setCell ⟨b,2,none⟩ y2) :=
 ⟨rfl,rfl,rfl,by simp[World.setCell],fun b' _ hn=>rU hn _ _ _⟩
def fN(v:Int)(t:Tm):Int×Tm:=if v<t.var then (t.var,.mk v ⟨#[]⟩ []) else (v,t)
def upd(σ:Sub)(k:Int)(u:Tm):Sub:=fun x=>if x=k then some u else σ x
theorem Try.infoI:(Try.prog.info? 3).map (fun i=>(i.zero,i.size,i.bytes))=some (some (.int .i64 0),1,8):=by kernel_rfl
theorem Ts.empty'(w:World)(ok:Nat→Prop):Ts w ok [] none 0 :=
 .mk [] none 0 ⟨nR _,Nat.zero_le _,fun _=>rfl⟩ (fun _=>(none,0)) (fun i hi=>by cases hi) (fun i hi=>by cases hi)
theorem bQ{w:World}{base:Nat}{e:TypeId}{size:Nat}{v:Value}{n:Nat}{xs:List Value}(h:w.ownsRow base e size v n xs)(hn:1≤n):∃g cap,v=.slice (some ⟨g,0,none⟩) n cap:=by
 rcases h.2 with ⟨_,h1⟩|⟨g,cap,cur,h1,_⟩
 ·omega
 ·exact⟨g,cap,h1⟩
theorem dT(w:World)(v:Value)(e:TypeId):∀j u,[v][j]? = some u→(w.alloc (.cells #[v] e)).cell? ((⟨w.heap.size,0,none⟩:Addr).add j)=some u:=by
 intro j u hu;have:j=0:=by
  have:=(List.getElem?_eq_some_iff.1 hu).1;simpa using this
 subst this;simp only[List.getElem?_cons_zero,Option.some.injEq] at hu;subst hu;simp[Addr.add,World.cell?,World.alloc,-World.alloc_eq]
theorem cF.old{w1 w0:World}{v v':Value}(h:cF w1 v v')(h2:w0.heap.size≤w1.heap.size):cF w0 v v':=by
 rcases h with h|h
 ·exact .inl h
 ·exact .inr fun g hg=>Nat.le_trans h2 (h g hg)
end Go.Proofs.Ytikmgiapjigghab
