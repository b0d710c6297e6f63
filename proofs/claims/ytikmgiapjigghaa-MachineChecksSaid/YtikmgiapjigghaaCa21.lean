/- Walks: the reference's Far, at any term. (Turned from XSfar as XMmov from XSmov.) -/
import Derived.Test.YtikmgiapjigghaaCa10
import Derived.Test.YtikmgiapjigghaaCa11
import Derived.Test.YtikmgiapjigghaaCa18
import Derived.Test.YtikmgiapjigghaaCa19
namespace Go.Proofs.Ytikmgiapjigghaa
open Go.RowKit
set_option maxRecDepth 100000 in
set_option maxHeartbeats 2000000 in
theorem FarBW{K:Int}(t:Tm):∀ (w:World) (ok:Nat→Prop) (a:Option Addr) (cap:Nat),(∀ b,ok b→b<w.heap.size)→ArgB t→t.fits→Ts w ok t.args a cap→(∀ p,p∈t.parts→p.var≠0→I64 (p.var+K)) →
 Calls Try.prog 127 #[.agg #[.int .i64 t.var,.string t.name,.slice a t.args.length cap],.int .i64 K] w (RetNew w ok (far K t)):=by
 induction t using Tm.ind with
 | h v n l ih =>
  intro w ok a cap hok hsize hfit hrd hx
  have IH:=Lib.hid ih;have HOK:=Lib.hid hok;have HF:=Lib.hid hfit;have HX:=Lib.hid hx;have HSIZE:=Lib.hid hsize
  simp only[Tm.var,Tm.name,Tm.args] at hrd ⊢
  have HRD:=Lib.hid hrd
  have hcl:l.length*48≤140737488355328:=by
   have h1:=hsize _ (Tm.self_mem _)
   simp only[Tm.args] at h1
   exact h1
  clear ih hok hfit hx hrd hsize
  by_cases hv:v=0
  ·subst hv
   have HRES:Hid (far K (.mk 0 n l)=.mk 0 n (l.map (far K))):=Lib.hid (by unfold far;exact Tm.mapv_fn (by rfl))
   go_enter Try.func127,Try.ntmps127
   go_wp2_with fail
   have BB:Below w.heap.size w (((w.alloc (.cells #[.int .i64 0,.string n,.slice a l.length cap] 24)).alloc (.cells #[.int .i64 0,.string ⟨#[]⟩,.slice none 0 0] 24)).alloc (.cells #[.int .i64 0,.string n,.slice none 0 0] 24)):=(((Below.refl _ _).alloc (Nat.le_refl _) _).alloc (by simp) _).alloc (by simp;omega) _
   have B2:Box3 (((w.alloc (.cells #[.int .i64 0,.string n,.slice a l.length cap] 24)).alloc (.cells #[.int .i64 0,.string ⟨#[]⟩,.slice none 0 0] 24)).alloc (.cells #[.int .i64 0,.string n,.slice none 0 0] 24)) w.heap.size (.int .i64 0) (.string n) (.slice a l.length cap):=((Box3.made w _ _ _).alloc _).alloc _
   have B4:Box3 (((w.alloc (.cells #[.int .i64 0,.string n,.slice a l.length cap] 24)).alloc (.cells #[.int .i64 0,.string ⟨#[]⟩,.slice none 0 0] 24)).alloc (.cells #[.int .i64 0,.string n,.slice none 0 0] 24)) (w.heap.size+1) (.int .i64 0) (.string ⟨#[]⟩) (.slice none 0 0):=(Box3.made2 (by simp)).alloc _
   have B5:Box3 (((w.alloc (.cells #[.int .i64 0,.string n,.slice a l.length cap] 24)).alloc (.cells #[.int .i64 0,.string ⟨#[]⟩,.slice none 0 0] 24)).alloc (.cells #[.int .i64 0,.string n,.slice none 0 0] 24)) (w.heap.size+1+1) (.int .i64 0) (.string n) (.slice none 0 0):=Box3.made2 (by simp)
   have hsz:(((w.alloc (.cells #[.int .i64 0,.string n,.slice a l.length cap] 24)).alloc (.cells #[.int .i64 0,.string ⟨#[]⟩,.slice none 0 0] 24)).alloc (.cells #[.int .i64 0,.string n,.slice none 0 0] 24)).heap.size=w.heap.size+3:=by simp
   have HBB:=Lib.hid BB;have HB2:=Lib.hid B2;have HB4:=Lib.hid B4;have HB5:=Lib.hid B5;have HSZ:=Lib.hid hsz
   clear BB B2 B4 B5 hsz
   generalize (((w.alloc (.cells #[.int .i64 0,.string n,.slice a l.length cap] 24)).alloc (.cells #[.int .i64 0,.string ⟨#[]⟩,.slice none 0 0] 24)).alloc (.cells #[.int .i64 0,.string n,.slice none 0 0] 24))=wb at *
   go_loopw[6] (fun y wr=>∃ (k:Nat) (L:List TmAt) (x:Value),k≤l.length∧y=.int .i64 k∧L.map (·.1)=(l.take k).map (far K)∧BldRel wb ok (w.heap.size+1+1) n L x wr) (fun y _=>l.length-(intOf y).toNat)
   case atStart=>exact⟨0,[],.slice none 0 0,Nat.zero_le _,rfl,rfl,BldRel.start HB5.out⟩
   case round =>
    obtain⟨k,L,x,hk,rfl,hL,hrel⟩:=hrel
    have HL:=Lib.hid hL;have HR:=Lib.hid hrel
    obtain⟨xa,xc,rfl⟩:=hrel.form
    have p2:=(HB2.out.keep (hrel.touch.block _ HB2.out.lt (by omega))).c2
    have q4:=(HB4.out.keep (hrel.touch.block _ HB4.out.lt (by omega))).all
    have q0:=hrel.box.c0;have q1:=hrel.box.c1;have q2:=hrel.box.c2;have qf:=hrel.box.fz
    have hLk:L.length=k:=by
     have:=congrArg List.length hL
     rw[List.length_map,List.length_map,List.length_take] at this;omega
    have HLK:=Lib.hid hLk
    have HSW:Hid (w.heap.size+3≤wr.heap.size):=Lib.hid (by have:=hrel.touch.size;have:=HSZ.out;omega)
    have HBR:Hid (Below w.heap.size w wr):=Lib.hid (HBB.out.trans (hrel.touch.toBelow HBB.out.size (fun b e=>by omega)))
    clear hrel hL hLk
    by_cases hlt:k<l.length
    ·obtain⟨b,off,a',cap',rfl,hokb,hbs,hc,ht⟩:=HRD.out.at k hlt
     have m0:=(HBR.out.cell (p:=⟨b,off+k*3,none⟩) hbs).trans hc.var
     have m1:=(HBR.out.cell (p:=⟨b,off+k*3+1,none⟩) hbs).trans hc.name
     have m2:=(HBR.out.cell (p:=⟨b,off+k*3+2,none⟩) hbs).trans hc.args
     have hk0:(0:Int)≤(k:Int):=by omega
     have hk1:(k:Int)<(l.length:Int):=by omega
     have hmem:l[k]∈l:=List.getElem_mem hlt
     have HC:=Lib.hid hc.fits;have HTS:=Lib.hid ht
     clear hc ht
     obtain⟨i0,hi,hz0,hz1,hz2⟩:=info_parts Try.infoTm
     have HCL:Hid (∀ u,Below wr.heap.size wr u→Calls Try.prog 127 #[.agg #[.int .i64 l[k].var,.string l[k].name,.slice a' l[k].args.length cap'],.int .i64 K] u (RetNew u ok (far K l[k]))):=Lib.hid fun u hu =>
      IH.out _ hmem u ok a' cap' (fun b hb=>by have:=HOK.out b hb;have:=hu.size;have:=HSW.out;omega) (fun p hp=>HSIZE.out p (Tm.parts_arg (t:=.mk 0 n l) hmem hp)) HC.out (HTS.out.keep ((Keeps.below HBR.out ok).trans (Keeps.below hu ok))) (fun p hp=>HX.out p (Tm.parts_arg (t:=.mk 0 n l) hmem hp))
     go_wp2_with fail
     go_region_law (first
      | (
       go_simp
       go_at_call 127
       refine(HCL.out _ ?_).mono ?_
       ·exact(Below.refl _ _).drew
       rintro e w1 ⟨a2,c2,rfl,hf2,ht2,hb2⟩
       have HB:Below wr.heap.size wr w1:=((Below.refl _ _).drew).trans hb2
       have r0:w1.cell? ⟨w.heap.size+1+1,2,none⟩=some (.slice xa L.length xc):=(HR.out.box.below HB).c2
       have z1:w.heap.size+1+1<w1.heap.size:=(HR.out.box.below HB).lt
       have HO1:=Lib.hid ((ownsRow_below HR.out.own.own HB).alloc (.cells #[.int .i64 (far K l[k]).var,.string (far K l[k]).name,.slice a2 (far K l[k]).args.length c2] 24))
       have HN1:Hid (∀ j u,(flat [(far K l[k],a2,c2)])[j]? = some u→(w1.alloc (.cells #[.int .i64 (far K l[k]).var,.string (far K l[k]).name,.slice a2 (far K l[k]).args.length c2] 24)).cell? ((⟨w1.heap.size,0,none⟩:Addr).add j)=some u):=Lib.hid (by
        have ho:=World.ownsRow_lit (base:=w1.heap.size) (e:=24) (size:=3) w1 #[.int .i64 (far K l[k]).var,.string (far K l[k]).name,.slice a2 (far K l[k]).args.length c2] 1 (Nat.le_refl _) (by unfold maxLen;omega) rfl
        exact ho.cells (g:=w1.heap.size) rfl)
       have HF2:=Lib.hid hf2
       have HT2:=Lib.hid ht2
       have HB1:=Lib.hid HB
       clear hf2 ht2 hb2 HB)
      | (
       have _g:=HO1
       refine step_append_opt _ (by rfl) _ _ _ (by rfl) wb.heap.size 24 i0 _ 3 48 Try.underlying22 hi hz0 hz1 hz2 rfl (by decide) (.slice xa L.length xc) L.length (flat L) (by rfl) HO1.out (some ⟨w1.heap.size,0,none⟩) 1 1 (by intro h;cases h) (flat [(far K l[k],a2,c2)]) (by rfl) (by rw[flat_length];rfl) (by intro ad had;cases had;exact HN1.out) (flat_one _) (by have:=HLK.out;unfold maxLen;omega) (by have:=HLK.out;omega) (by have:=HR.out.touch.size;have:=HB1.out.size;simp;omega) ?_
       intro v3 w3 hown3 hgrow3 hfr3
       have HNX:=Lib.hid (HR.out.next (fun b hb=>by have:=HOK.out b hb;have:=HSZ.out;omega) (show wr.heap.size≤wr.drew.heap.size from Nat.le_refl _) HB1.out HF2.out HT2.out ((Below.refl _ _).alloc (Nat.le_refl _) _) hown3 hgrow3 hfr3)
       obtain⟨g3,cap3,rfl⟩:=own_shape hown3 (by omega)
       have s2:w3.cell? ⟨w.heap.size+1+1,2,none⟩=some (.slice xa L.length xc):=HNX.out.1.c2
       have sf:∀ o,w3.frozen? ⟨w.heap.size+1+1,o,none⟩=false:=HNX.out.1.fz
       clear hown3 hgrow3 hfr3))
     all_goals
      go_wp2_with fail
      go_roundw
      case measure=>simp[intOf];omega
      case rel=>exact⟨k+1,_,_,by omega,by go_num,by rw[List.map_append,HL.out,List.take_succ_eq_append_getElem hlt,List.map_append];rfl,HNX.out.2⟩
    ·have HLE:Hid (l.take k=l):=Lib.hid (List.take_of_length_le (by omega))
     obtain⟨q40,q41,q42,q43⟩:=q4
     go_wp2_with fail
     have HD:=Lib.hid (HR.out.done (br:=w.heap.size+1) (t:=.mk 0 n (l.map (far K))) HBB.out (by omega) (by omega) (by have:=HSZ.out;omega) HOK.out HF.out.2 (by rw[HL.out,HLE.out]))
     rw[HRES.out]
     exact bodyPost_ret (v:=.agg #[.int .i64 0,.string n,.slice xa L.length xc]) (by simp[results,Try.results127,go_sem,q40,q41,q42]) rfl HD.out
  ·have hv1:(v != 0)=true:=by rw[bne_iff_ne];exact hv
   have hx:=HX.out _ (Tm.self_mem (.mk v n l)) hv
   simp only[Tm.var] at hx
   have HI:=Lib.hid hx
   unfold I64 at hx
   obtain⟨hx1,hx2⟩:=hx
   have HRES:Hid (far K (.mk v n l)=VarT (v+K)):=Lib.hid (by unfold far;rw[Tm.mapv_var (by exact hv)];rfl)
   clear hv
   go_enter Try.func127,Try.ntmps127
   go_wp2_with fail
   rw[HRES.out]
   exact bodyPost_ret (v:=.agg #[.int .i64 (v+K),.string ⟨#[]⟩,.slice none 0 0]) (by simp[results,Try.results127,go_sem]) rfl ⟨none,0,rfl,⟨HI.out,Nat.zero_le _⟩,Ts.empty' _ _,((Below.refl _ _).alloc (Nat.le_refl _) _).alloc (by simp) _⟩
end Go.Proofs.Ytikmgiapjigghaa

/- Plain: a search begins; what a program and a query that are right are. -/
namespace Go.Proofs.Ytikmgiapjigghaa
open Go.RowKit
theorem program_zero{P:List Cl}(h:programE P=0):P.length≤30∧∀ c,c∈P→c.head.checkE=0∧queryE c.body=0:=by
 unfold programE at h
 by_cases h6:30<P.length
 ·rw[if_pos h6] at h;cases h
 ·rw[if_neg h6] at h
  refine⟨by omega,fun c hc=>?_⟩
  obtain⟨k,hk,rfl⟩:=List.getElem_of_mem hc
  have h1:=firstN_zero h k (by simpa using hk)
  rw[List.getElem_map] at h1
  rcases clauseE_cases P[k] with ⟨a,b⟩ | ⟨a,b,c⟩ | ⟨a,b,c,d⟩ | ⟨a,b,c,d⟩
  ·exact absurd (b.symm.trans h1) a
  ·rw[c] at h1;cases h1
  ·rw[d] at h1;cases h1
  ·exact⟨a,d.symm.trans h1⟩
theorem query_mem{q:List Tm}(h:queryE q=0){t:Tm}(ht:t∈q):t.checkE=0:=by
 obtain⟨k,hk,rfl⟩:=List.getElem_of_mem ht
 exact(query_zero h).2 k hk
theorem pok_of{P:List Cl}(h:programE P=0):POk P:=fun c hc=>by
 obtain⟨h1,h2⟩:=(program_zero h).2 c hc
 exact⟨check_fit h1,fun b hb=>check_fit (query_mem h2 hb)⟩
theorem greats_le{n:Int}(hn:0≤n)(l:List Tm)(h:∀ t,t∈l→∀ p,p∈t.parts→p.var≤n):Tm.greats l≤n:=by
 have key:∀ (r:List Tm) (m:Int),m≤n→(∀ p,p∈r→p.var≤n)→vmax m r≤n:=by
  intro r
  induction r with
  | nil=>intro m hm _;exact hm
  | cons a r ih=>intro m hm hr;exact ih (max m a.var) (by have:=hr a List.mem_cons_self;omega) fun p hp=>hr p (List.mem_cons_of_mem _ hp)
 have h1:=Tm.greats_eq l 0 (Int.le_refl _)
 have h2:=key (Tm.partss l) 0 hn fun p hp=>by
  obtain⟨x,hx,hp⟩:=partss_sub l p hp
  exact h x hx p hp
 rw[h1] at h2;omega
theorem query_great{q:List Tm}(h:queryE q=0):Tm.greats q≤12:=greats_le (by decide) q fun t ht p hp=>by
 have hf:=check_fit (query_mem h ht)
 by_cases hv:p.var=0
 ·omega
 ·have:=fit_parts hf hp hv;omega
def startP(q:List Tm):PS:={ σ:=fun _=>none,L:=[],f:=4000,vars:=12,ch:=[],now:=q.map fun t=>(t,0),ans:=[],fin:=0,steps:=0 }
theorem start_inv(p:List Cl){q:List Tm}(h:queryE q=0):RInv p (startP q):=by
 refine⟨fun _=>⟨⟨SInv.none,(fun v u e=>by cases e),⟨List.nodup_nil,(fun x hx=>by cases hx)⟩,fun g hg=>?_,(fun c hc=>by cases hc),List.Pairwise.nil,Nat.zero_le _,Nat.le_refl _⟩,by simp[startP]⟩,Nat.zero_le _,by simp[startP,potC],Nat.zero_le _⟩
 obtain⟨t,ht,rfl⟩:=List.mem_map.1 hg
 exact check_fit (query_mem h ht)
noncomputable def solveP(p:List Cl)(q:List Tm)(most:Nat):PS:=prun p (Tm.greats q).toNat most 442 (startP q)
end Go.Proofs.Ytikmgiapjigghaa

/- The searcher in memory: its choices and its answers turn. -/
namespace Go.Proofs.Ytikmgiapjigghaa
open Go.RowKit
section
variable {w w':World} {br bs bm:Nat} {tv cv av:Value} {np pa:Option Addr} {pc:Nat} {p:List Cl} {query:Nat} {S S':PS} {wk:Nat}
end
end Go.Proofs.Ytikmgiapjigghaa

/- The searcher in memory: the store's work is set, its bindings are taken back, a choice is read. -/
namespace Go.Proofs.Ytikmgiapjigghaa
open Go.RowKit
section
variable {w w':World} {br bs bm:Nat} {tv cv av:Value} {np pa:Option Addr} {pc:Nat} {p:List Cl} {query:Nat} {S S':PS} {wk:Nat}
end
end Go.Proofs.Ytikmgiapjigghaa

/- What the searcher's call leaves; small laws. -/
namespace Go.Proofs.Ytikmgiapjigghaa
open Go.RowKit
theorem potC_len{m:Nat}:∀ {ch:List PCh},(∀ c,c∈ch→c.cl<m)→ch.length≤potC m ch:=by
 intro ch
 induction ch with
 | nil=>intro _;exact Nat.zero_le _
 | cons c r ih =>
  intro h
  have h1:=h c List.mem_cons_self
  have h2:=ih fun c hc=>h c (List.mem_cons_of_mem _ hc)
  simp only[potC,List.map_cons,List.sum_cons,List.length_cons] at h2 ⊢
  omega
end Go.Proofs.Ytikmgiapjigghaa

/- Plain: what the search of the statements' first question finds. -/
namespace Go.Proofs.Ytikmgiapjigghaa
open Go.RowKit
def tmB:Tm:=.mk 0 ⟨#[98]⟩ []
def tP(x:Tm):Tm:=.mk 0 ⟨#[112]⟩ [x]
def tEq(x y:Tm):Tm:=.mk 0 ⟨#[101,113]⟩ [x,y]
def sampleL:List Cl:=[⟨tP tmA,[]⟩,⟨tP (VarT 1),[tEq (VarT 1) tmB]⟩]
def askL:List Tm:=[tP (VarT 1)]
theorem sample_ok:programE sampleL=0:=by decide +kernel
theorem ask_ok:queryE askL=0:=by decide +kernel
theorem ask_great:(Tm.greats askL).toNat=1:=by decide +kernel
def sub0:Sub:=fun _=>none
def subA:Sub:=upd sub0 1 tmA
def subV:Sub:=upd sub0 25 (VarT 1)
def subB1:Sub:=upd subV 1 tmB
theorem within_fn{σ:Sub}{v:Int}{t:Tm}(h:t.var=0)(ha:t.args = [])(f:Nat):within σ v (f+1) [t]=.no f:=by
 simp only[within]
 rw[look_fn h]
 rw[h,ha]
 simp[within]
theorem meet_args2{σ:Sub}{L:List Int}{f:Nat}{x y:Tm}:meet σ L (f+1) [(tP x,tP y)]=meet σ L f [(x,y)]:=by
 have h:pairStep σ L f (look σ (tP x)) (look σ (tP y))=.go σ L f [(x,y)]:=by
  rw[look_fn (t:=tP x) rfl,look_fn (t:=tP y) rfl,pairStep_args rfl rfl (by intro h;rcases h with h | h;exact h rfl;exact h rfl)]
  rfl
 rw[meet_go [] h]
 rfl
theorem meet_1:meet sub0 [] 4000 [(tP tmA,tP (VarT 1))]=.ok subA [1] 3997:=by
 rw[show (4000:Nat)=3999+1 from rfl,meet_args2,show (3999:Nat)=3998+1 from rfl]
 have h:pairStep sub0 [] 3998 (look sub0 tmA) (look sub0 (VarT 1))=.go subA [1] 3997 []:=by
  rw[look_fn (t:=tmA) rfl,look_free (t:=VarT 1) rfl,pairStep_y rfl (by decide)]
  unfold bindStep
  rw[show (VarT 1).var=1 from rfl,show (3998:Nat)=3997+1 from rfl,within_fn (t:=tmA) rfl rfl]
  rfl
 rw[meet_go [] h]
 exact meet_nil _ _ _
theorem meet_2:meet sub0 [] 4000 [(tP (VarT 25),tP (VarT 1))]=.ok subV [25] 3997:=by
 rw[show (4000:Nat)=3999+1 from rfl,meet_args2,show (3999:Nat)=3998+1 from rfl]
 have h:pairStep sub0 [] 3998 (look sub0 (VarT 25)) (look sub0 (VarT 1))=.go subV [25] 3997 []:=by
  rw[look_free (t:=VarT 25) rfl,look_free (t:=VarT 1) rfl,pairStep_x (by decide) (by decide)]
  unfold bindStep
  rw[show (VarT 25).var=25 from rfl,show (3998:Nat)=3997+1 from rfl,within_var (v:=25) (t:=VarT 1) (by decide) rfl (by decide) 3997]
  rfl
 rw[meet_go [] h]
 exact meet_nil _ _ _
theorem look_25:look subV (VarT 25)=VarT 1:=look_eq (n:=1) ⟨by decide,VarT 1,rfl,rfl,.inr rfl⟩
theorem meet_3:meet subV [25] 4000 [(VarT 25,tmB)]=.ok subB1 [25,1] 3998:=by
 rw[show (4000:Nat)=3999+1 from rfl]
 have h:pairStep subV [25] 3999 (look subV (VarT 25)) (look subV tmB)=.go subB1 [25,1] 3998 []:=by
  rw[look_25,look_fn (t:=tmB) rfl,pairStep_x (by decide) (by decide)]
  unfold bindStep
  rw[show (VarT 1).var=1 from rfl,show (3999:Nat)=3998+1 from rfl,within_fn (t:=tmB) rfl rfl]
  rfl
 rw[meet_go [] h]
 exact meet_nil _ _ _
theorem thr_one{σ:Sub}{t:Tm}(h:look σ (VarT 1)=t)(hv:t.var=0)(ha:t.args = []):thrL σ 200 [VarT 1]=some ([.mk 0 t.name []],199):=by
 rw[show (200:Nat)=199+1 from rfl,thrL_fn (by rw[h];exact hv),h,ha,thrL_nil]
 simp only[Option.bind_some,thrL_nil]
 rfl
theorem look_1a:look subA (VarT 1)=tmA:=look_eq (n:=1) ⟨by decide,tmA,rfl,rfl,.inl rfl⟩
theorem look_1b:look subB1 (VarT 1)=tmB:=look_eq (n:=1) ⟨by decide,tmB,rfl,rfl,.inl rfl⟩
def gsA:List Goal:=[(tP (VarT 1),0)]
def begS1:PS:={ σ:=subA,L:=[1],f:=3997,vars:=24,ch:=[⟨gsA,1,sub0,[]⟩],now:=[],ans:=[],fin:=0,steps:=1 }
def begS2:PS:={ σ:=subV,L:=[25],f:=3997,vars:=36,ch:=[],now:=[(tEq (VarT 25) tmB,0)],ans:=[[tmA]],fin:=0,steps:=1 }
def begS3:PS:={ σ:=subB1,L:=[25,1],f:=3998,vars:=36,ch:=[],now:=[],ans:=[[tmA]],fin:=0,steps:=2 }
def begS4:PS:={ σ:=subB1,L:=[25,1],f:=3998,vars:=36,ch:=[],now:=[],ans:=[[tmA],[tmB]],fin:=1,steps:=2 }
theorem beg_1:pstep sampleL 1 10 (startP askL)=begS1:=by
 unfold pstep
 rw[if_neg (by intro h;cases h),if_neg (show ¬ ((startP askL).steps:Int)=10 by decide)]
 simp only[ptake]
 have hl:look (startP askL).σ (headT (startP askL).now)=tP (VarT 1):=look_fn (t:=tP (VarT 1)) rfl
 rw[hl,if_neg (show ¬ (tP (VarT 1)).var≠0 from fun h=>h rfl),if_pos (by decide +kernel)]
 have h0:(0:Nat)<sampleL.length:=by decide
 have hf:FitC sampleL[0] (tP (VarT 1)):=⟨rfl,rfl⟩
 have hn:nextF sampleL (tP (VarT 1)) 1=1:=nextF_fit (p:=sampleL) (i:=1) (by decide) ⟨rfl,rfl⟩
 have hc:pclause sampleL (startP askL).now (tP (VarT 1)) sampleL[0] 0 { startP askL with steps:=(startP askL).steps+1,f:=4000 }=(begS1,some true):=by
  unfold pclause
  have hm:meet (startP askL).σ (startP askL).L 4000 [(far ((startP askL).vars:Int) (sampleL[0]).head,tP (VarT 1))]=.ok subA [1] 3997:=meet_1
  simp only[hm,hn]
  rfl
 rw[pcall_done h0 hf hc]
 rfl
theorem beg_2:pstep sampleL 1 10 begS1=begS2:=by
 unfold pstep
 rw[if_pos (show begS1.now = [] from rfl)]
 simp only[pansw]
 have ht:thrL begS1.σ 200 (varsL 1)=some ([tmA],199):=thr_one look_1a rfl rfl
 rw[ht]
 have hr:(Tm.rens numV [] [tmA]).1 = [tmA]:=rfl
 simp only[hr]
 rw[if_neg (by decide)]
 show pback sampleL 1 { begS1 with ans:=[[tmA]] }=begS2
 simp only[pback]
 have e:({ begS1 with ans:=[[tmA]] }:PS).ch[0]? = some ⟨gsA,1,sub0,[]⟩:=rfl
 rw[e]
 simp only
 have hl:look sub0 (headT gsA)=tP (VarT 1):=look_fn (t:=tP (VarT 1)) rfl
 rw[hl]
 have hn:nextF sampleL (tP (VarT 1)) 2=2:=nextF_stop (p:=sampleL) (by decide)
 have hc:pclause sampleL gsA (tP (VarT 1)) sampleL[1] 1 { begS1 with ans:=[[tmA]],ch:=[],σ:=sub0,L:=[],f:=4000 }=(begS2,some true):=by
  unfold pclause
  have hm:meet sub0 [] 4000 [(far ((24:Nat):Int) (sampleL[1]).head,tP (VarT 1))]=.ok subV [25] 3997:=meet_2
  have hm':meet sub0 [] 4000 [(far (begS1.vars:Int) (sampleL[1]).head,tP (VarT 1))]=.ok subV [25] 3997:=hm
  simp only[hm',hn]
  rfl
 have hp:=pcall_done (p:=sampleL) (gs:=gsA) (t:=tP (VarT 1)) (i:=1) (S:={ begS1 with ans:=[[tmA]],ch:=[],σ:=sub0,L:=[],f:=4000 }) (by decide) ⟨rfl,rfl⟩ hc
 have hp':pcall sampleL gsA (tP (VarT 1)) 1 { σ:=sub0,L:=[],f:=4000,vars:=begS1.vars,ch:=List.take 0 begS1.ch,now:=begS1.now,ans:=[[tmA]],fin:=begS1.fin,steps:=begS1.steps }=(begS2,true):=hp
 rw[hp']
 rfl
theorem beg_3:pstep sampleL 1 10 begS2=begS3:=by
 unfold pstep
 rw[if_neg (by intro h;cases h),if_neg (show ¬ (begS2.steps:Int)=10 by decide)]
 simp only[ptake]
 have hl:look begS2.σ (headT begS2.now)=tEq (VarT 25) tmB:=look_fn (t:=tEq (VarT 25) tmB) rfl
 rw[hl,if_neg (show ¬ (tEq (VarT 25) tmB).var≠0 from fun h=>h rfl),if_neg (by decide +kernel),if_neg (by decide +kernel),if_neg (by decide +kernel),if_neg (by decide +kernel)]
 have hm:meet begS2.σ begS2.L 4000 [((tEq (VarT 25) tmB).args.getD 0 default,(tEq (VarT 25) tmB).args.getD 1 default)]=.ok subB1 [25,1] 3998:=meet_3
 rw[hm]
 rfl
theorem beg_4:pstep sampleL 1 10 begS3=begS4:=by
 unfold pstep
 rw[if_pos (show begS3.now = [] from rfl)]
 simp only[pansw]
 have ht:thrL begS3.σ 200 (varsL 1)=some ([tmB],199):=thr_one look_1b rfl rfl
 rw[ht]
 have hr:(Tm.rens numV [] [tmB]).1 = [tmB]:=rfl
 simp only[hr]
 rw[if_neg (by decide)]
 rfl
theorem begun_solve:solveP sampleL askL 10=begS4:=by
 unfold solveP
 rw[ask_great]
 show prun sampleL 1 10 442 (startP askL)=begS4
 have step:∀ (n:Nat) (S T:PS),S.fin=0→pstep sampleL 1 10 S=T→prun sampleL 1 10 (n+1) S=prun sampleL 1 10 n T:=fun n S T h e=>by
  conv=>lhs;unfold prun;rw[if_pos h,e]
 rw[step 441 _ _ rfl beg_1,step 440 _ _ rfl beg_2,step 439 _ _ rfl beg_3,step 438 _ _ rfl beg_4]
 exact prun_end 438 (by decide)
end Go.Proofs.Ytikmgiapjigghaa

/- Walk: the sample program. -/
namespace Go.Proofs.Ytikmgiapjigghaa
open Go.RowKit
theorem pr_lit2{w:World}{ok:Nat→Prop}(c d:Cl){a1 a2 a3 a4:Option Addr}{c1 c2 c3 c4:Nat}(h1:Ts w ok c.head.args a1 c1)(h2:Ts w ok c.body a2 c2)(h3:Ts w ok d.head.args a3 c3)(h4:Ts w ok d.body a4 c4)(hf:c.head.fits)(hg:d.head.fits)(hok:ok w.heap.size) :
 Pr (w.alloc (.cells #[.int .i64 c.head.var,.string c.head.name,.slice a1 c.head.args.length c1,.slice a2 c.body.length c2,.int .i64 d.head.var,.string d.head.name,.slice a3 d.head.args.length c3,.slice a4 d.body.length c4] 90)) ok [c,d] (some ⟨w.heap.size,0,none⟩) 2:=by
 have hk:Keeps ok w (w.alloc (.cells #[.int .i64 c.head.var,.string c.head.name,.slice a1 c.head.args.length c1,.slice a2 c.body.length c2,.int .i64 d.head.var,.string d.head.name,.slice a3 d.head.args.length c3,.slice a4 d.body.length c4] 90)):=Keeps.below ((Below.refl _ _).alloc (Nat.le_refl _) _) ok
 refine⟨⟨Nat.le_refl _,by unfold maxLen;omega,fun h=>by cases h⟩,fun i hi=>?_⟩
 rcases (by simp at hi;omega:i=0∨i=1) with rfl | rfl
 ·refine⟨w.heap.size,0,a1,a2,c1,c2,rfl,hok,by simp,Cells3.mk ?_ ?_ ?_ hf,?_,h1.keep hk,h2.keep hk⟩
  all_goals simp[World.cell?,World.alloc,-World.alloc_eq]
 ·refine⟨w.heap.size,0,a3,a4,c3,c4,rfl,hok,by simp,Cells3.mk ?_ ?_ ?_ hg,?_,h3.keep hk,h4.keep hk⟩
  all_goals simp[World.cell?,World.alloc,-World.alloc_eq]
def SmpPost(w:World)(e:Ending)(w':World):Prop:=∃ a,e=.returned (.slice (some a) 2 2)∧Pr w' (fun b=>b<w'.heap.size) sampleL (some a) 2∧Below w.heap.size w w'
set_option maxRecDepth 100000 in
set_option maxHeartbeats 1000000 in
theorem sampleW(w:World):Calls Try.prog 87 #[] w (SmpPost w):=by
 go_enter Try.func87,Try.ntmps87
 go_wp2_with fail
 refine(fnW _ _ _ _ _).mono ?_
 rintro e w1 ⟨rfl,hb1⟩
 go_wp2_with fail
 refine(fnW _ _ _ _ _).mono ?_
 rintro e w2 ⟨rfl,hb2⟩
 have T1:=(ts_lit (w:=w1) (ok:=fun _=>True) tmA (Ts.empty _ _) (fits_lit _ _ _ (by decide) (by decide) (by decide)) trivial).keep (Keeps.below hb2 _)
 have T1H:=Lib.hid T1
 have B2:=Lib.hid ((hb1.alloc hb1.size (.cells #[.int .i64 0,.string ⟨#[97]⟩,.slice none 0 0] 24)).trans (hb2.mono (by have:=hb1.size;simp;omega)))
 clear hb1 hb2 T1
 go_wp2_with fail
 refine(vaW _ _).mono ?_
 rintro e w3 ⟨rfl,hb3⟩
 go_wp2_with fail
 refine(fnW _ _ _ _ _).mono ?_
 rintro e w4 ⟨rfl,hb4⟩
 have T2:=(ts_lit (w:=w3) (ok:=fun _=>True) (VarT 1) (Ts.empty _ _) (fits_lit _ _ _ (by decide) (by decide) (by decide)) trivial).keep (Keeps.below hb4 _)
 have T2H:=Lib.hid T2
 have K34:=((hb3.alloc hb3.size (.cells #[.int .i64 1,.string ⟨#[]⟩,.slice none 0 0] 24)).trans (hb4.mono (by have:=hb3.size;simp;omega)))
 have T1H4:=Lib.hid (T1H.out.keep (Keeps.below K34 _))
 have B4:=Lib.hid (B2.out.trans (K34.mono B2.out.size))
 clear hb3 hb4 T2 K34 B2 T1H
 go_wp2_with fail
 refine(vaW _ _).mono ?_
 rintro e w5 ⟨rfl,hb5⟩
 go_wp2_with fail
 refine(fnW _ _ _ _ _).mono ?_
 rintro e w6 ⟨rfl,hb6⟩
 have K46:=hb5.trans (hb6.mono hb5.size)
 have T1H6:=Lib.hid (T1H4.out.keep (Keeps.below K46 _))
 have T2H6:=Lib.hid (T2H.out.keep (Keeps.below K46 _))
 have B6:=Lib.hid (B4.out.trans (K46.mono B4.out.size))
 clear hb5 hb6 K46 T1H4 T2H B4
 go_wp2_with fail
 refine(fnW _ _ _ _ _).mono ?_
 rintro e w7 ⟨rfl,hb7⟩
 have T3:=(ts_lit2 (w:=w6) (ok:=fun _=>True) (VarT 1) tmB (Ts.empty _ _) (Ts.empty _ _) (fits_lit _ _ _ (by decide) (by decide) (by decide)) (fits_lit _ _ _ (by decide) (by decide) (by decide)) trivial).keep (Keeps.below hb7 _)
 have K67:=((Below.refl w6.heap.size w6).alloc (Nat.le_refl _) (.cells #[.int .i64 1,.string ⟨#[]⟩,.slice none 0 0,.int .i64 0,.string ⟨#[98]⟩,.slice none 0 0] 24)).trans (hb7.mono (by simp))
 have T1H7:=T1H6.out.keep (Keeps.below K67 _)
 have T2H7:=T2H6.out.keep (Keeps.below K67 _)
 have B7:=Lib.hid (B6.out.trans (K67.mono B6.out.size))
 have T4:=ts_lit (w:=w7) (tEq (VarT 1) tmB) T3 (fits_lit _ _ _ (by decide) (by decide) (by decide)) trivial
 have K78:=(Below.refl w7.heap.size w7).alloc (Nat.le_refl _) (.cells #[.int .i64 0,.string ⟨#[101,113]⟩,.slice (some ⟨w6.heap.size,0,none⟩) 2 2] 24)
 have TP:=pr_lit2 (⟨tP tmA,[]⟩:Cl) (⟨tP (VarT 1),[tEq (VarT 1) tmB]⟩:Cl) (T1H7.keep (Keeps.below K78 _)) (Ts.empty _ _) (T2H7.keep (Keeps.below K78 _)) T4 (fits_lit _ _ _ (by decide) (by decide) (by decide)) (fits_lit _ _ _ (by decide) (by decide) (by decide)) trivial
 have hsz:(w7.alloc (.cells #[.int .i64 0,.string ⟨#[101,113]⟩,.slice (some ⟨w6.heap.size,0,none⟩) 2 2] 24)).heap.size=w7.heap.size+1:=by simp
 have TPH:=Lib.hid TP
 have BE:=Lib.hid ((B7.out.trans (K78.mono B7.out.size)).alloc (by have:=B7.out.size;rw[hsz];omega) (.cells #[.int .i64 0,.string ⟨#[112]⟩,.slice (some ⟨w1.heap.size,0,none⟩) 1 1,.slice none 0 0,.int .i64 0,.string ⟨#[112]⟩,.slice (some ⟨w3.heap.size,0,none⟩) 1 1,.slice (some ⟨w7.heap.size,0,none⟩) 1 1] 90))
 have HS:=Lib.hid hsz
 clear hb7 K67 K78 T1H7 T2H7 T3 T4 TP B7 hsz
 go_wp2_with fail
 go_ret
 rw[HS.out] at TPH
 exact⟨_,rfl,TPH.out.mono fun b hb _=>hb,BE.out⟩
end Go.Proofs.Ytikmgiapjigghaa
