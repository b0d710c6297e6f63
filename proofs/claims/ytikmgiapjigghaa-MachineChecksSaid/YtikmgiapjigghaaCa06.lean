/- The store of chapter 3 in a world: what it is; walks: spend, Look. -/
import Derived.Deep.LoopGhost
import Derived.Deep.RegionHeld3
import Derived.Test.YtikmgiapjigghaaCa04
import Derived.Test.YtikmgiapjigghaaCa05
namespace Go.Proofs.Ytikmgiapjigghaa
open Go.RowKit
structure Touch(M:Nat→Prop)(w w':World):Prop where
 os:w'.os=w.os
 tape:w'.tape=w.tape
 output:w'.output=w.output
 size:w.heap.size≤w'.heap.size
 block:∀ b,b<w.heap.size→¬ M b→w'.heap[b]? = w.heap[b]?
theorem Touch.below{M:Nat→Prop}{w w':World}(h:Below w.heap.size w w'):Touch M w w':=⟨h.os,h.tape,h.output,h.size,fun b hb _=>h.block b hb⟩
theorem Touch.refl(M:Nat→Prop)(w:World):Touch M w w:=Touch.below (Below.refl _ _)
theorem Touch.trans{M:Nat→Prop}{a b c:World}(h:Touch M a b)(k:Touch M b c):Touch M a c :=
 ⟨k.os.trans h.os,k.tape.trans h.tape,k.output.trans h.output,Nat.le_trans h.size k.size,fun i hi hm=>(k.block i (Nat.lt_of_lt_of_le hi h.size) hm).trans (h.block i hi hm)⟩
theorem Touch.mono{M M':Nat→Prop}{w w':World}(h:Touch M w w')(hm:∀ b,b<w.heap.size→M b→M' b):Touch M' w w' :=
 ⟨h.os,h.tape,h.output,h.size,fun b hb hn=>h.block b hb (fun hM=>hn (hm b hb hM))⟩
theorem Touch.toBelow{M:Nat→Prop}{B:Nat}{w w':World}(h:Touch M w w')(hB:B≤w.heap.size)(hm:∀ b,M b→B≤b):Below B w w' :=
 ⟨h.os,h.tape,h.output,h.size,fun b hb=>h.block b (by omega) (fun hM=>by have:=hm b hM;omega)⟩
theorem Touch.keeps{M:Nat→Prop}{w w':World}(h:Touch M w w'){ok:Nat→Prop}(hm:∀ b,ok b→¬ M b):Keeps ok w w':=⟨h.size,fun b hb hs=>h.block b hs (hm b hb)⟩
theorem Touch.grown{M:Nat→Prop}{w w':World}{row:Option Nat}(h:w.grownBy w' row)(hm:∀ k,row=some k→M k):Touch M w w' :=
 ⟨h.os,h.tape,h.output,h.size,fun b hb hn=>h.block b hb (fun e=>hn (hm b e.symm))⟩
theorem Touch.setCell{M:Nat→Prop}{w:World}{p:Addr}(u:Value)(hp:M p.block):Touch M w (w.setCell p u) :=
 ⟨rfl,rfl,rfl,by simp[World.setCell],fun b _ hn=>Below.heap_setCell _ _ _ _ (fun e=>hn (e ▸ hp))⟩
theorem heap_setCell_at(w:World)(b o:Nat)(u:Value){c:Array Value}{e:TypeId}{fz:Nat×Nat}(h:w.heap[b]? = some (.cells c e fz)):(w.setCell ⟨b,o,none⟩ u).heap[b]? = some (.cells (c.setIfInBounds o u) e fz):=by
 simp[World.setCell,Array.getElem?_modify,h]
def LookN(σ:Int→Option Tm):Nat→Tm→Tm→Prop
 | 0,t,u=>u=t∧(t.var=0∨σ t.var=none)
 | n+1,t,u=>t.var≠0∧∃ t',σ t.var=some t'∧LookN σ n t' u
theorem keyedI:Go.Maps.Keyed Try.prog 3:=Go.Maps.int_keyed Try.underlying3
structure Box3(w:World)(b:Nat)(x0 x1 x2:Value):Prop where
 blk:w.heap[b]? = some (.cells #[x0,x1,x2] 24 (0,0))
theorem Box3.c0{w:World}{b:Nat}{x0 x1 x2:Value}(h:Box3 w b x0 x1 x2):w.cell? ⟨b,0,none⟩=some x0:=by simp[World.cell?,h.blk]
theorem Box3.c1{w:World}{b:Nat}{x0 x1 x2:Value}(h:Box3 w b x0 x1 x2):w.cell? ⟨b,1,none⟩=some x1:=by simp[World.cell?,h.blk]
theorem Box3.c2{w:World}{b:Nat}{x0 x1 x2:Value}(h:Box3 w b x0 x1 x2):w.cell? ⟨b,2,none⟩=some x2:=by simp[World.cell?,h.blk]
theorem Box3.fz{w:World}{b:Nat}{x0 x1 x2:Value}(h:Box3 w b x0 x1 x2)(o:Nat):w.frozen? ⟨b,o,none⟩=false:=by simp[World.frozen?,h.blk]
theorem Box3.lt{w:World}{b:Nat}{x0 x1 x2:Value}(h:Box3 w b x0 x1 x2):b<w.heap.size:=(Array.getElem?_eq_some_iff.1 h.blk).1
theorem Box3.keep{w w':World}{b:Nat}{x0 x1 x2:Value}(h:Box3 w b x0 x1 x2)(hb:w'.heap[b]? = w.heap[b]?):Box3 w' b x0 x1 x2:=⟨hb.trans h.blk⟩
theorem Box3.below{w w':World}{b:Nat}{x0 x1 x2:Value}(h:Box3 w b x0 x1 x2)(hb:Below w.heap.size w w'):Box3 w' b x0 x1 x2:=h.keep (hb.block b h.lt)
theorem Box3.made(w:World)(x0 x1 x2:Value):Box3 (w.alloc (.cells #[x0,x1,x2] 24)) w.heap.size x0 x1 x2:=⟨heap_alloc_new w _⟩
theorem Box3.alloc{w:World}{b:Nat}{x0 x1 x2:Value}(h:Box3 w b x0 x1 x2)(o:Obj):Box3 (w.alloc o) b x0 x1 x2:=h.below ((Below.refl _ _).alloc (Nat.le_refl _) _)
theorem below_put{B:Nat}{w0 w:World}(h:Below B w0 w){b:Nat}(hb:B≤b)(y0 y1 y2:Value):Below B w0 (((w.setCell ⟨b,0,none⟩ y0).setCell ⟨b,1,none⟩ y1).setCell ⟨b,2,none⟩ y2) :=
 ((h.setCell (p:=⟨b,0,none⟩) hb y0).setCell (p:=⟨b,1,none⟩) hb y1).setCell (p:=⟨b,2,none⟩) hb y2
theorem other_put{w:World}{b b':Nat}(hne:b'≠b)(y0 y1 y2:Value):(((w.setCell ⟨b,0,none⟩ y0).setCell ⟨b,1,none⟩ y1).setCell ⟨b,2,none⟩ y2).heap[b']? = w.heap[b']?:=by
 rw[Below.heap_setCell _ _ _ _ hne,Below.heap_setCell _ _ _ _ hne,Below.heap_setCell _ _ _ _ hne]
end Go.Proofs.Ytikmgiapjigghaa

/- What chapter 3's work is, as plain functions: looking through variables, whether one stands in terms. -/
namespace Go.Proofs.Ytikmgiapjigghaa
open Go.RowKit
abbrev Sub:=Int→Option Tm
theorem LookN.det{σ:Sub}:∀ {n m:Nat} {t u v:Tm},LookN σ n t u→LookN σ m t v→u=v
 | 0,0,_,_,_,h,k=>h.1.trans k.1.symm
 | 0,m+1,t,_,_,h,k=>by
  obtain⟨h1,t',h2,_⟩:=k
  rcases h.2 with h3 | h3
  ·exact absurd h3 h1
  ·rw[h2] at h3;cases h3
 | n+1,0,t,_,_,h,k=>by
  obtain⟨h1,t',h2,_⟩:=h
  rcases k.2 with h3 | h3
  ·exact absurd h3 h1
  ·rw[h2] at h3;cases h3
 | n+1,m+1,t,_,_,h,k=>by
  obtain⟨_,t',h2,h3⟩:=h
  obtain⟨_,t'',h4,h5⟩:=k
  rw[h2] at h4;cases h4
  exact LookN.det h3 h5
def Ends(σ:Sub):Prop:=∀ t,∃ n u,LookN σ n t u
instance:Inhabited Tm:=⟨.mk 0 ByteArray.empty []⟩
noncomputable def look(σ:Sub)(t:Tm):Tm:=Classical.epsilon fun u=>∃ n,LookN σ n t u
theorem look_spec{σ:Sub}(h:Ends σ)(t:Tm):∃ n,LookN σ n t (look σ t):=by
 obtain⟨n,u,hu⟩:=h t
 exact Classical.epsilon_spec (p:=fun u=>∃ n,LookN σ n t u) ⟨u,n,hu⟩
theorem look_eq{σ:Sub}{n:Nat}{t u:Tm}(h:LookN σ n t u):look σ t=u:=by
 have:∃ m,LookN σ m t (look σ t):=Classical.epsilon_spec (p:=fun u=>∃ n,LookN σ n t u) ⟨u,n,h⟩
 obtain⟨m,hm⟩:=this
 exact LookN.det hm h
inductive WOut where
 | yes (f:Nat)
 | no (f:Nat)
 | many
noncomputable def within(σ:Sub)(v:Int):Nat→List Tm→WOut
 | f,[]=>.no f
 | 0,_::_=>.many
 | f+1,t::r=>if (look σ t).var≠0 then (if (look σ t).var=v then .yes f else within σ v f r) else within σ v f ((look σ t).args++r)
theorem within_le(σ:Sub)(v:Int):∀ (f:Nat) (l:List Tm),(∀ f',within σ v f l=.yes f'→f'≤f)∧(∀ f',within σ v f l=.no f'→f'≤f):=by
 intro f
 induction f with
 | zero =>
  intro l
  cases l with
  | nil=>simp[within]
  | cons a l=>simp[within]
 | succ f ih =>
  intro l
  cases l with
  | nil=>simp[within]
  | cons a l =>
   simp only[within]
   by_cases h1:(look σ a).var≠0
   ·rw[if_pos h1]
    by_cases h2:(look σ a).var=v
    ·rw[if_pos h2];simp
    ·rw[if_neg h2]
     exact⟨fun f' h=>Nat.le_succ_of_le ((ih l).1 f' h),fun f' h=>Nat.le_succ_of_le ((ih l).2 f' h)⟩
   ·rw[if_neg h1]
    exact⟨fun f' h=>Nat.le_succ_of_le ((ih _).1 f' h),fun f' h=>Nat.le_succ_of_le ((ih _).2 f' h)⟩
theorem touch_put(w:World)(b:Nat)(y0 y1 y2:Value):Touch (fun x=>x=b) w (((w.setCell ⟨b,0,none⟩ y0).setCell ⟨b,1,none⟩ y1).setCell ⟨b,2,none⟩ y2) :=
 ⟨rfl,rfl,rfl,by simp[World.setCell],fun b' _ hn=>other_put hn _ _ _⟩
end Go.Proofs.Ytikmgiapjigghaa

/- Walk: bind a variable. -/
namespace Go.Proofs.Ytikmgiapjigghaa
open Go.RowKit
def bindS(v:Int)(t:Tm):Int×Tm:=if v<t.var then (t.var,.mk v ⟨#[]⟩ []) else (v,t)
def upd(σ:Sub)(k:Int)(u:Tm):Sub:=fun x=>if x=k then some u else σ x
theorem Try.infoI:(Try.prog.info? 3).map (fun i=>(i.zero,i.size,i.bytes))=some (some (.int .i64 0),1,8):=by kernel_rfl
theorem Ts.empty'(w:World)(ok:Nat→Prop):Ts w ok [] none 0 :=
 .mk [] none 0 ⟨Nat.le_refl _,Nat.zero_le _,fun _=>rfl⟩ (fun _=>(none,0)) (fun i hi=>by cases hi) (fun i hi=>by cases hi)
theorem own_shape{w:World}{base:Nat}{e:TypeId}{size:Nat}{v:Value}{n:Nat}{xs:List Value}(h:w.ownsRow base e size v n xs)(hn:1≤n):∃ g cap,v=.slice (some ⟨g,0,none⟩) n cap:=by
 rcases h.2 with ⟨_,h1⟩ | ⟨g,cap,cur,h1,_⟩
 ·omega
 ·exact⟨g,cap,h1⟩
theorem one_cell(w:World)(v:Value)(e:TypeId):∀ j u,[v][j]? = some u→(w.alloc (.cells #[v] e)).cell? ((⟨w.heap.size,0,none⟩:Addr).add j)=some u:=by
 intro j u hu
 have:j=0:=by
  have:=(List.getElem?_eq_some_iff.1 hu).1
  simpa using this
 subst this
 simp only[List.getElem?_cons_zero,Option.some.injEq] at hu
 subst hu
 simp[Addr.add,World.cell?,World.alloc,-World.alloc_eq]
theorem Fresh.old{w1 w0:World}{v v':Value}(h:Fresh w1 v v')(h2:w0.heap.size≤w1.heap.size):Fresh w0 v v':=by
 rcases h with h | h
 ·exact .inl h
 ·exact .inr fun g hg=>Nat.le_trans h2 (h g hg)
end Go.Proofs.Ytikmgiapjigghaa
