/- Walks: which clause fits next: the program's Fits and Next, the reference's fitting. -/
import Derived.Deep.DeepCutAuto
import Derived.Test.YtikmgiapjigghabCb03
import Derived.Test.YtikmgiapjigghabCb08
import Derived.Test.YtikmgiapjigghabCb10
import Derived.Test.YtikmgiapjigghabCb15
namespace Go.Proofs.Ytikmgiapjigghab
open Go.RowKit
theorem name_eq{a b:ByteArray}:a.toList=b.toList↔a=b:=by
 constructor
 ·intro h;rw[ByteArray.toList_eq,ByteArray.toList_eq] at h;exact ByteArray.ext (Array.toList_inj.1 h)
 ·intro h;rw[h]
theorem fit_true{c:Cl}{t:Tm}(h1:c.head.name=t.name)(h2:c.head.args.length=t.args.length):decide (FitC c t)=true:=decide_eq_true ⟨h1,h2⟩
theorem fit_f1{c:Cl}{t:Tm}(h1:c.head.name≠t.name):decide (FitC c t)=false:=decide_eq_false fun h=>h1 h.1
theorem fit_f2{c:Cl}{t:Tm}(h1:c.head.args.length≠t.args.length):decide (FitC c t)=false:=decide_eq_false fun h=>h1 h.2
set_option maxRecDepth 100000 in
set_option maxHeartbeats 1000000 in
theorem FitsW(c:Cl)(t:Tm)(w:World)(a1 a2:Option Addr)(c1 c2:Nat) :
 Calls Try.prog 118 #[.agg #[.int .i64 c.head.var,.string c.head.name,.slice a1 c.head.args.length c1,.slice a2 c.body.length c2],.string t.name,.int .i64 t.args.length] w fun e w'=>e=.returned (.bool (decide (FitC c t)))∧Below w.heap.size w w':=by
 by_cases h1:c.head.name=t.name
 ·by_cases h2:c.head.args.length=t.args.length
  ·rw[fit_true h1 h2]
   rw[h1,h2] at *
   go_enter Try.func118,Try.ntmps118
   go_wp2_with fail
   go_ret
   exact⟨by simp,(Below.refl _ _).alloc (Nat.le_refl _) _⟩
  ·rw[fit_f2 h2]
   have h3:((c.head.args.length:Int) == (t.args.length:Int))=false:=by rw[beq_eq_false_iff_ne];omega
   rw[h1] at *
   clear h2
   go_enter Try.func118,Try.ntmps118
   go_wp2_with fail
   go_ret
   exact⟨rfl,(Below.refl _ _).alloc (Nat.le_refl _) _⟩
 ·rw[fit_f1 h1]
  have h3:¬ c.head.name.toList=t.name.toList:=fun e=>h1 (name_eq.1 e)
  clear h1
  go_enter Try.func118,Try.ntmps118
  go_wp2_with fail
  go_ret
  exact⟨rfl,(Below.refl _ _).alloc (Nat.le_refl _) _⟩
set_option maxRecDepth 100000 in
set_option maxHeartbeats 2000000 in
theorem NextW{p:List Cl}{w:World}{ok:Nat→Prop}{a:Option Addr}{cap:Nat}(hp:Pr w ok p a cap)(t:Tm)(i:Nat)(hi:i≤p.length) :
 Calls Try.prog 111 #[.slice a p.length cap,.string t.name,.int .i64 t.args.length,.int .i64 i] w fun e w'=>e=.returned (.int .i64 (nextF p t i:Nat))∧Below w.heap.size w w':=by
 have HP:=lh hp
 have hcl:p.length≤9223372036854775807:=by have:=hp.room;unfold maxLen at this;omega
 clear hp
 go_enter Try.func111,Try.ntmps111
 go_wp2_with fail
 go_loopw[3] (fun v3 wr=>∃ k:Nat,k≤p.length∧v3=.int .i64 k∧Hid (nextF p t k=nextF p t i)∧Below w.heap.size w wr) (fun v3 _=>p.length-(intOf v3).toNat)
 case atStart=>exact⟨i,hi,rfl,lh rfl,Below.refl _ _⟩
 case round =>
  obtain⟨k,hk,rfl,HN,hbr⟩:=hrel
  have HB:=lh hbr
  by_cases hlt:k<p.length
  ·obtain⟨b,off,a1,a2,c1,c2,rfl,hokb,hbs,hc3,hc4,ht1,ht2⟩:=HP.out.elem k hlt
   have hcv:=(hbr.cell (p:=⟨b,off+k*4,none⟩) hbs).trans hc3.var
   have hcn:=(hbr.cell (p:=⟨b,off+k*4+1,none⟩) hbs).trans hc3.name
   have hca:=(hbr.cell (p:=⟨b,off+k*4+2,none⟩) hbs).trans hc3.args
   have hcb:=(hbr.cell (p:=⟨b,off+k*4+3,none⟩) hbs).trans hc4
   clear hc3 hc4 ht1 ht2 hbr
   have HF:=lh (FitsW p[k] t wr a1 a2 c1 c2)
   by_cases hf:FitC p[k] t
   ·have HR:Hid (nextF p t i=k):=lh (by rw[← HN.out];exact nextF_fit hlt hf)
    rw[decide_eq_true hf] at HF
    clear hf
    go_wp2_with (go_at_call 118;refine HF.out.mono ?_;rintro e w1 ⟨rfl,hb1⟩;have HB1:=lh hb1;clear hb1)
    go_ret
    exact⟨by rw[HR.out];rfl,HB.out.trans (HB1.out.mono HB.out.size)⟩
   ·have HR:Hid (nextF p t (k+1)=nextF p t i):=lh (by rw[← HN.out];exact(nextF_next hlt hf).symm)
    rw[decide_eq_false hf] at HF
    clear hf
    go_wp2_with (go_at_call 118;refine HF.out.mono ?_;rintro e w1 ⟨rfl,hb1⟩;have HB1:=lh hb1;clear hb1)
    go_roundw
    case measure=>simp[intOf];omega
    case rel=>exact⟨k+1,by omega,by go_num,HR,HB.out.trans (HB1.out.mono HB.out.size)⟩
  ·have HR:Hid (nextF p t i=k):=lh (by rw[← HN.out];exact nextF_stop hlt)
   go_wp2_with fail
   go_ret
   exact⟨by rw[HR.out];rfl,HB.out⟩
set_option maxRecDepth 100000 in
set_option maxHeartbeats 2000000 in
theorem MovedW{K:Int}(t:Tm):∀ (w:World) (ok:Nat→Prop) (a:Option Addr) (cap:Nat),(∀ b,ok b→b<w.heap.size)→t.size≤100000→t.fits→Ts w ok t.args a cap→(∀ p,p∈t.parts→p.var≠0→I64 (p.var+K)) →
 Calls Try.prog 60 #[.agg #[.int .i64 t.var,.string t.name,.slice a t.args.length cap],.int .i64 K] w (RetNew w ok (far K t)):=by
 induction t using Tm.ind with
 | h v n l ih =>
  intro w ok a cap hok hsize hfit hrd hx
  have IH:=lh ih;have HOK:=lh hok;have HF:=lh hfit;have HX:=lh hx;have HSIZE:=lh hsize
  simp only[Tm.var,Tm.name,Tm.args] at hrd ⊢
  have HRD:=lh hrd
  have hcl:l.length≤100000:=by
   have h1:=hsize
   simp only[Tm.size] at h1
   have:=Tm.length_le_sizes l;omega
  clear ih hok hfit hx hrd hsize
  by_cases hv:v=0
  ·subst hv
   have HRES:Hid (far K (.mk 0 n l)=.mk 0 n (l.map (far K))):=lh (by unfold far;exact Tm.mapv_fn (by rfl))
   go_enter Try.func60,Try.ntmps60
   go_wp2_with fail
   have BB:Below w.heap.size w (((w.alloc (.cells #[.int .i64 0,.string n,.slice a l.length cap] 71)).alloc (.cells #[.int .i64 0,.string ⟨#[]⟩,.slice none 0 0] 71)).alloc (.cells #[.int .i64 0,.string n,.slice none 0 0] 71)):=(((Below.refl _ _).alloc (Nat.le_refl _) _).alloc (by simp) _).alloc (by simp;omega) _
   have B2:Box3 (((w.alloc (.cells #[.int .i64 0,.string n,.slice a l.length cap] 71)).alloc (.cells #[.int .i64 0,.string ⟨#[]⟩,.slice none 0 0] 71)).alloc (.cells #[.int .i64 0,.string n,.slice none 0 0] 71)) w.heap.size (.int .i64 0) (.string n) (.slice a l.length cap):=((Box3.made w _ _ _).alloc _).alloc _
   have B4:Box3 (((w.alloc (.cells #[.int .i64 0,.string n,.slice a l.length cap] 71)).alloc (.cells #[.int .i64 0,.string ⟨#[]⟩,.slice none 0 0] 71)).alloc (.cells #[.int .i64 0,.string n,.slice none 0 0] 71)) (w.heap.size+1) (.int .i64 0) (.string ⟨#[]⟩) (.slice none 0 0):=(Box3.made2 (by simp)).alloc _
   have B5:Box3 (((w.alloc (.cells #[.int .i64 0,.string n,.slice a l.length cap] 71)).alloc (.cells #[.int .i64 0,.string ⟨#[]⟩,.slice none 0 0] 71)).alloc (.cells #[.int .i64 0,.string n,.slice none 0 0] 71)) (w.heap.size+1+1) (.int .i64 0) (.string n) (.slice none 0 0):=Box3.made2 (by simp)
   have hsz:(((w.alloc (.cells #[.int .i64 0,.string n,.slice a l.length cap] 71)).alloc (.cells #[.int .i64 0,.string ⟨#[]⟩,.slice none 0 0] 71)).alloc (.cells #[.int .i64 0,.string n,.slice none 0 0] 71)).heap.size=w.heap.size+3:=by simp
   have HBB:=lh BB;have HB2:=lh B2;have HB4:=lh B4;have HB5:=lh B5;have HSZ:=lh hsz
   clear BB B2 B4 B5 hsz
   generalize (((w.alloc (.cells #[.int .i64 0,.string n,.slice a l.length cap] 71)).alloc (.cells #[.int .i64 0,.string ⟨#[]⟩,.slice none 0 0] 71)).alloc (.cells #[.int .i64 0,.string n,.slice none 0 0] 71))=wb at *
   go_loopw[22] (fun y wr=>∃ (k:Nat) (L:List TmAt) (x:Value),k≤l.length∧y=.int .i64 k∧L.map (·.1)=(l.take k).map (far K)∧BldRel wb ok (w.heap.size+1+1) n L x wr) (fun y _=>l.length-(intOf y).toNat)
   case atStart=>exact⟨0,[],.slice none 0 0,Nat.zero_le _,rfl,rfl,BldRel.start HB5.out⟩
   case round =>
    obtain⟨k,L,x,hk,rfl,hL,hrel⟩:=hrel
    have HL:=lh hL;have HR:=lh hrel
    obtain⟨xa,xc,rfl⟩:=hrel.form
    have p2:=(HB2.out.keep (hrel.touch.block _ HB2.out.lt (by omega))).c2
    have q4:=(HB4.out.keep (hrel.touch.block _ HB4.out.lt (by omega))).all
    have q0:=hrel.box.c0;have q1:=hrel.box.c1;have q2:=hrel.box.c2;have qf:=hrel.box.fz
    have hLk:L.length=k:=by
     have:=congrArg List.length hL
     rw[List.length_map,List.length_map,List.length_take] at this;omega
    have HLK:=lh hLk
    have HSW:Hid (w.heap.size+3≤wr.heap.size):=lh (by have:=hrel.touch.size;have:=HSZ.out;omega)
    have HBR:Hid (Below w.heap.size w wr):=lh (HBB.out.trans (hrel.touch.toBelow HBB.out.size (fun b e=>by omega)))
    clear hrel hL hLk
    by_cases hlt:k<l.length
    ·obtain⟨b,off,a',cap',rfl,hokb,hbs,hc,ht⟩:=HRD.out.at k hlt
     have m0:=(HBR.out.cell (p:=⟨b,off+k*3,none⟩) hbs).trans hc.var
     have m1:=(HBR.out.cell (p:=⟨b,off+k*3+1,none⟩) hbs).trans hc.name
     have m2:=(HBR.out.cell (p:=⟨b,off+k*3+2,none⟩) hbs).trans hc.args
     have hk0:(0:Int)≤(k:Int):=by omega
     have hk1:(k:Int)<(l.length:Int):=by omega
     have hmem:l[k]∈l:=List.getElem_mem hlt
     have HC:=lh hc.fits;have HTS:=lh ht
     clear hc ht
     obtain⟨i0,hi,hz0,hz1,hz2⟩:=info_parts Try.infoTm
     have HCL:Hid (∀ u,Below wr.heap.size wr u→Calls Try.prog 60 #[.agg #[.int .i64 l[k].var,.string l[k].name,.slice a' l[k].args.length cap'],.int .i64 K] u (RetNew u ok (far K l[k]))):=lh fun u hu =>
      IH.out _ hmem u ok a' cap' (fun b hb=>by have:=HOK.out b hb;have:=hu.size;have:=HSW.out;omega) (Tm.size_arg HSIZE.out k hlt) HC.out (HTS.out.keep ((Keeps.below HBR.out ok).trans (Keeps.below hu ok))) (fun p hp=>HX.out p (Tm.parts_arg (t:=.mk 0 n l) hmem hp))
     have zlt:w.heap.size+1+1<wr.heap.size:=by have:=HSW.out;omega
     go_wp2_with fail
     go_region_law (first
      | (
       go_simp
       go_at_call 60
       refine(HCL.out _ ?_).mono ?_
       ·exact((Below.refl _ _).alloc (Nat.le_refl _) _).drew
       rintro e w1 ⟨a2,c2,rfl,hf2,ht2,hb2⟩
       have HB:Below wr.heap.size wr w1:=(((Below.refl _ _).alloc (Nat.le_refl _) _).drew).trans (hb2.mono (by simp[World.drew]))
       have r0:w1.cell? ⟨w.heap.size+1+1,2,none⟩=some (.slice xa L.length xc):=(HR.out.box.below HB).c2
       have z1:w.heap.size+1+1<w1.heap.size:=(HR.out.box.below HB).lt
       have HO1:=lh ((ownsRow_below HR.out.own.own HB).alloc (.cells #[.int .i64 (far K l[k]).var,.string (far K l[k]).name,.slice a2 (far K l[k]).args.length c2] 71))
       have HN1:Hid (∀ j u,(flat [(far K l[k],a2,c2)])[j]? = some u→(w1.alloc (.cells #[.int .i64 (far K l[k]).var,.string (far K l[k]).name,.slice a2 (far K l[k]).args.length c2] 71)).cell? ((⟨w1.heap.size,0,none⟩:Addr).add j)=some u):=lh (by
        have ho:=World.ownsRow_lit (base:=w1.heap.size) (e:=71) (size:=3) w1 #[.int .i64 (far K l[k]).var,.string (far K l[k]).name,.slice a2 (far K l[k]).args.length c2] 1 (Nat.le_refl _) (by unfold maxLen;omega) rfl
        exact ho.cells (g:=w1.heap.size) rfl)
       have HF2:=lh hf2
       have HT2:=lh ht2
       have HB1:=lh HB
       clear hf2 ht2 hb2 HB)
      | (
       have _g:=HO1
       refine step_append_opt _ (by rfl) _ _ _ (by rfl) wb.heap.size 71 i0 _ 3 48 Try.underlying48 hi hz0 hz1 hz2 rfl (by decide) (.slice xa L.length xc) L.length (flat L) (by rfl) HO1.out (some ⟨w1.heap.size,0,none⟩) 1 1 (by intro h;cases h) (flat [(far K l[k],a2,c2)]) (by rfl) (by rw[flat_length];rfl) (by intro ad had;cases had;exact HN1.out) (flat_one _) (by have:=HLK.out;unfold maxLen;omega) (by have:=HLK.out;omega) (by have:=HR.out.touch.size;have:=HB1.out.size;simp;omega) ?_
       intro v3 w3 hown3 hgrow3 hfr3
       have HNX:=lh (HR.out.next (fun b hb=>by have:=HOK.out b hb;have:=HSZ.out;omega) (show wr.heap.size≤(wr.alloc (.cells #[.int .i64 l[k].var,.string l[k].name,.slice a' l[k].args.length cap'] 71)).drew.heap.size by simp[World.drew]) HB1.out HF2.out HT2.out ((Below.refl _ _).alloc (Nat.le_refl _) _) hown3 hgrow3 hfr3)
       obtain⟨g3,cap3,rfl⟩:=own_shape hown3 (by omega)
       have s2:w3.cell? ⟨w.heap.size+1+1,2,none⟩=some (.slice xa L.length xc):=HNX.out.1.c2
       have sf:∀ o,w3.frozen? ⟨w.heap.size+1+1,o,none⟩=false:=HNX.out.1.fz
       clear hown3 hgrow3 hfr3))
     all_goals
      go_wp2_with fail
      go_roundw
      case measure=>simp[intOf];omega
      case rel=>exact⟨k+1,_,_,by omega,by go_num,by rw[List.map_append,HL.out,List.take_succ_eq_append_getElem hlt,List.map_append];rfl,HNX.out.2⟩
    ·have HLE:Hid (l.take k=l):=lh (List.take_of_length_le (by omega))
     obtain⟨q40,q41,q42,q43⟩:=q4
     go_wp2_with fail
     have HD:=lh (HR.out.done (br:=w.heap.size+1) (t:=.mk 0 n (l.map (far K))) HBB.out (by omega) (by omega) (by have:=HSZ.out;omega) HOK.out HF.out.2 (by rw[HL.out,HLE.out]))
     rw[HRES.out]
     exact bodyPost_ret (v:=.agg #[.int .i64 0,.string n,.slice xa L.length xc]) (by simp[results,Try.results60,go_sem,q40,q41,q42]) rfl HD.out
  ·have hv1:(v != 0)=true:=by rw[bne_iff_ne];exact hv
   have hx:=HX.out _ (Tm.self_mem (.mk v n l)) hv
   simp only[Tm.var] at hx
   have HI:=lh hx
   unfold I64 at hx
   obtain⟨hx1,hx2⟩:=hx
   have HRES:Hid (far K (.mk v n l)=VarT (v+K)):=lh (by unfold far;rw[Tm.mapv_var (by exact hv)];rfl)
   clear hv
   go_enter Try.func60,Try.ntmps60
   go_wp2_with fail
   rw[HRES.out]
   exact bodyPost_ret (v:=.agg #[.int .i64 (v+K),.string ⟨#[]⟩,.slice none 0 0]) (by simp[results,Try.results60,go_sem]) rfl ⟨none,0,rfl,⟨HI.out,Nat.zero_le _⟩,Ts.empty' _ _,((Below.refl _ _).alloc (Nat.le_refl _) _).alloc (by simp) _⟩
inductive GAt(w:World)(ok:Nat→Prop):Option Addr→List Goal→Prop
 | nil:GAt w ok none []
 | cons (b:Nat) (t:Tm) (cut:Nat) (a:Option Addr) (c:Nat) (r:Option Addr) (l:List Goal) :
  w.heap[b]? = some (.cells #[.int .i64 t.var,.string t.name,.slice a t.args.length c,.int .i64 cut,.pointer r] 97 (0,0))→ok b→t.fits→Ts w ok t.args a c→GAt w ok r l→GAt w ok (some ⟨b,0,none⟩) ((t,cut)::l)
theorem GAt.keep{w w':World}{ok:Nat→Prop}(hk:Keeps ok w w'){p:Option Addr}{l:List Goal}(h:GAt w ok p l):GAt w' ok p l:=by
 induction h with
 | nil=>exact .nil
 | cons b t cut a c r l h1 h2 h3 h4 _ ih =>
  exact .cons b t cut a c r l ((hk.block b h2 (Array.getElem?_eq_some_iff.1 h1).1).trans h1) h2 h3 (h4.keep hk) ih
theorem GAt.mono{w:World}{ok ok':Nat→Prop}(hk:∀ b,b<w.heap.size→ok b→ok' b){p:Option Addr}{l:List Goal}(h:GAt w ok p l):GAt w ok' p l:=by
 induction h with
 | nil=>exact .nil
 | cons b t cut a c r l h1 h2 h3 h4 _ ih =>
  exact .cons b t cut a c r l h1 (hk b (Array.getElem?_eq_some_iff.1 h1).1 h2) h3 (h4.mono hk) ih
theorem Pr.mono{w:World}{ok ok':Nat→Prop}(hk:∀ b,b<w.heap.size→ok b→ok' b){P:List Cl}{a:Option Addr}{cap:Nat}(h:Pr w ok P a cap):Pr w ok' P a cap:=by
 refine⟨h.room,fun i hi=>?_⟩
 obtain⟨b,off,a1,a2,c1,c2,h1,h2,h3,h4,h5,h6,h7⟩:=h.elem i hi
 exact⟨b,off,a1,a2,c1,c2,h1,hk b h3 h2,h3,h4,h5,h6.mono hk,h7.mono hk⟩
def flatC:List (Option Addr×PCh)→List Value
 | []=>[]
 | x::r=>[.pointer x.1,.int .i64 x.2.cl,.int .i64 x.2.L.length]++flatC r
theorem flatC_length(l:List (Option Addr×PCh)):(flatC l).length=l.length*3:=by
 induction l with
 | nil=>rfl
 | cons x r ih=>simp only[flatC,List.length_append,List.length_cons,List.length_nil,ih];omega
theorem flatC_append(l r:List (Option Addr×PCh)):flatC (l++r)=flatC l++flatC r:=by
 induction l with
 | nil=>rfl
 | cons x l ih=>simp only[List.cons_append,flatC,ih,List.append_assoc]
theorem flatC_take(l:List (Option Addr×PCh))(k:Nat):flatC (l.take k)=(flatC l).take (k*3):=by
 induction l generalizing k with
 | nil=>simp[flatC]
 | cons x l ih =>
  cases k with
  | zero=>simp[flatC]
  | succ k =>
   have e:([Value.pointer x.1,.int .i64 x.2.cl,.int .i64 x.2.L.length]:List Value).take (3+k*3) = [Value.pointer x.1,.int .i64 x.2.cl,.int .i64 x.2.L.length]:=List.take_of_length_le (by simp)
   rw[List.take_succ_cons,flatC,flatC,ih,show (k+1)*3=3+k*3 by omega,List.take_append,e]
   simp
theorem flatC_at(l:List (Option Addr×PCh))(i:Nat)(hi:i<l.length):(flatC l)[i*3]? = some (.pointer l[i].1)∧(flatC l)[i*3+1]? = some (.int .i64 l[i].2.cl)∧(flatC l)[i*3+2]? = some (.int .i64 l[i].2.L.length):=by
 induction l generalizing i with
 | nil=>cases hi
 | cons x l ih =>
  cases i with
  | zero=>exact⟨rfl,rfl,rfl⟩
  | succ i =>
   have:=ih i (by simpa using hi)
   rw[show (i+1)*3=i*3+1+1+1 by omega]
   exact this
def flatA(l:List ((Option Addr×Nat)×List Tm)):List Value:=l.map fun x=>Value.slice x.1.1 x.2.length x.1.2
def SM(br bs bm:Nat)(tv cv av:Value)(b:Nat):Prop:=b=br∨StM bs bm tv b∨cv.ownBlock=some b∨av.ownBlock=some b
def OkS(w:World)(br bs bm:Nat)(tv cv av:Value)(b:Nat):Prop:=b<w.heap.size∧¬ SM br bs bm tv cv av b
structure Sep(br bs bm:Nat)(tv cv av:Value):Prop where
 rs:br≠bs
 rm:br≠bm
 rt:tv.ownBlock≠some br
 rc:cv.ownBlock≠some br
 ra:av.ownBlock≠some br
 cs:cv.ownBlock≠some bs∧cv.ownBlock≠some bm∧∀ g,tv.ownBlock=some g→cv.ownBlock≠some g
 sa:av.ownBlock≠some bs∧av.ownBlock≠some bm∧∀ g,tv.ownBlock=some g→av.ownBlock≠some g
 ca:∀ g,cv.ownBlock=some g→av.ownBlock≠some g
structure SAt(w:World)(br bs bm:Nat)(tv cv av:Value)(np pa:Option Addr)(pc:Nat)(p:List Cl)(query:Nat)(S:PS)(wk:Nat):Prop where
 blk:w.heap[br]? = some (.cells #[.slice pa p.length pc,.pointer (some ⟨bs,0,none⟩),.int .i64 S.vars,.int .i64 query,cv,.pointer np,av,.int .i64 S.fin,.int .i64 S.steps] 95 (0,0))
 st:StAt w (OkS w br bs bm tv cv av) bs bm tv S.σ S.L wk
 prog:Pr w (OkS w br bs bm tv cv av) p pa pc
 now:GAt w (OkS w br bs bm tv cv av) np S.now
 ch:∃ Q:List (Option Addr×PCh),Q.map (·.2)=S.ch∧w.ownsRow 0 168 3 cv Q.length (flatC Q)∧∀ q,q∈Q→GAt w (OkS w br bs bm tv cv av) q.1 q.2.gs
 ans:∃ A:List ((Option Addr×Nat)×List Tm),A.map (·.2)=S.ans∧w.ownsRow 0 78 1 av A.length (flatA A)∧∀ x,x∈A→Ts w (OkS w br bs bm tv cv av) x.2 x.1.1 x.1.2
 sep:Sep br bs bm tv cv av
section
variable {w w':World} {br bs bm:Nat} {tv cv av:Value} {np pa:Option Addr} {pc:Nat} {p:List Cl} {query:Nat} {S:PS} {wk:Nat}
theorem SAt.lt(h:SAt w br bs bm tv cv av np pa pc p query S wk):br<w.heap.size:=(Array.getElem?_eq_some_iff.1 h.blk).1
theorem SAt.cells(h:SAt w br bs bm tv cv av np pa pc p query S wk) :
 w.cell? ⟨br,0,none⟩=some (.slice pa p.length pc)∧w.cell? ⟨br,1,none⟩=some (.pointer (some ⟨bs,0,none⟩))∧w.cell? ⟨br,2,none⟩=some (.int .i64 S.vars)∧w.cell? ⟨br,3,none⟩=some (.int .i64 query)∧w.cell? ⟨br,4,none⟩=some cv∧w.cell? ⟨br,5,none⟩=some (.pointer np)∧w.cell? ⟨br,6,none⟩=some av∧w.cell? ⟨br,7,none⟩=some (.int .i64 S.fin)∧w.cell? ⟨br,8,none⟩=some (.int .i64 S.steps)∧(∀ o,w.frozen? ⟨br,o,none⟩=false):=by
 refine⟨?_,?_,?_,?_,?_,?_,?_,?_,?_,fun o=>?_⟩
 all_goals first | simp[World.cell?,h.blk] | simp[World.frozen?,h.blk]
theorem StAt.okmono{ok ok':Nat→Prop}{σ:Sub}{L:List Int}(h:StAt w ok bs bm tv σ L wk)(hk:∀ b,b<w.heap.size→ok b→ok' b)(hb:∀ b,ok' b→b<w.heap.size∧¬ StM bs bm tv b):StAt w ok' bs bm tv σ L wk:=by
 obtain⟨f,h1,h2⟩:=h.map
 exact⟨h.blk,h.trail,⟨f,h1,fun k=>(h2 k).mono hk⟩,h.ne,hb⟩
theorem OkS.st{b:Nat}(h:OkS w br bs bm tv cv av b):b<w.heap.size∧¬ StM bs bm tv b:=⟨h.1,fun e=>h.2 (.inr (.inl e))⟩
theorem okS_step(ht:Touch (SM br bs bm tv cv av) w w'){tv' cv' av':Value}(f1:Fresh w tv tv')(f2:Fresh w cv cv')(f3:Fresh w av av') :
 Keeps (OkS w br bs bm tv cv av) w w'∧∀ b,OkS w br bs bm tv cv av b→OkS w' br bs bm tv' cv' av' b:=by
 refine⟨ht.keeps fun b hb e=>hb.2 e,fun b hb=>⟨Nat.lt_of_lt_of_le hb.1 ht.size,fun e=>?_⟩⟩
 have key:∀ v v':Value,Fresh w v v'→v'.ownBlock=some b→v.ownBlock=some b:=fun v v' hf e=>by
  rcases hf with h | h
  ·rw[← h];exact e
  ·have:=h b e;have:=hb.1;omega
 rcases e with e | (e | e | e) | e | e
 ·exact hb.2 (.inl e)
 ·exact hb.2 (.inr (.inl (.inl e)))
 ·exact hb.2 (.inr (.inl (.inr (.inl e))))
 ·exact hb.2 (.inr (.inl (.inr (.inr (key _ _ f1 e)))))
 ·exact hb.2 (.inr (.inr (.inl (key _ _ f2 e))))
 ·exact hb.2 (.inr (.inr (.inr (key _ _ f3 e))))
theorem Fresh.self(w:World)(v:Value):Fresh w v v:=.inl rfl
theorem SAt.below(h:SAt w br bs bm tv cv av np pa pc p query S wk)(hb:Below w.heap.size w w'):SAt w' br bs bm tv cv av np pa pc p query S wk:=by
 have ht:Touch (SM br bs bm tv cv av) w w':=Touch.below hb
 obtain⟨hk,hm⟩:=okS_step ht (Fresh.self w tv) (Fresh.self w cv) (Fresh.self w av)
 have hm':∀ b,b<w'.heap.size→OkS w br bs bm tv cv av b→OkS w' br bs bm tv cv av b:=fun b _=>hm b
 refine⟨(hb.block br h.lt).trans h.blk,(h.st.keep hb).okmono hm' fun b=>OkS.st,(h.prog.keep hk).mono hm',(h.now.keep hk).mono hm',?_,?_,h.sep⟩
 ·obtain⟨Q,h1,h2,h3⟩:=h.ch
  exact⟨Q,h1,ownsRow_below h2 hb,fun q hq=>((h3 q hq).keep hk).mono hm'⟩
 ·obtain⟨A,h1,h2,h3⟩:=h.ans
  exact⟨A,h1,ownsRow_below h2 hb,fun q hq=>((h3 q hq).keep hk).mono hm'⟩
theorem SAt.store(h:SAt w br bs bm tv cv av np pa pc p query S wk)(ht:Touch (StM bs bm tv) w w'){tv':Value}(hf:Fresh w tv tv'){σ:Sub}{L:List Int}{wk':Nat}(hst:StAt w' (OkS w br bs bm tv cv av) bs bm tv' σ L wk') :
 SAt w' br bs bm tv' cv av np pa pc p query { S with σ:=σ,L:=L } wk':=by
 have ht':Touch (SM br bs bm tv cv av) w w':=ht.mono fun b _ e=>.inr (.inl e)
 obtain⟨hk,hm⟩:=okS_step ht' hf (Fresh.self w cv) (Fresh.self w av)
 have hm':∀ b,b<w'.heap.size→OkS w br bs bm tv cv av b→OkS w' br bs bm tv' cv av b:=fun b _=>hm b
 have hlt:∀ g,cv.ownBlock=some g→g<w.heap.size:=fun g hg=>by obtain⟨Q,_,h2,_⟩:=h.ch;exact(h2.lt g hg).2
 have hlta:∀ g,av.ownBlock=some g→g<w.heap.size:=fun g hg=>by obtain⟨Q,_,h2,_⟩:=h.ans;exact(h2.lt g hg).2
 have hnb:∀ b,b=br∨cv.ownBlock=some b∨av.ownBlock=some b→¬ StM bs bm tv b:=fun b hb e=>by
  rcases hb with rfl | hb | hb
  ·rcases e with e | e | e
   ·exact h.sep.rs e
   ·exact h.sep.rm e
   ·exact h.sep.rt e
  ·rcases e with rfl | rfl | e
   ·exact h.sep.cs.1 hb
   ·exact h.sep.cs.2.1 hb
   ·exact h.sep.cs.2.2 _ e hb
  ·rcases e with rfl | rfl | e
   ·exact h.sep.sa.1 hb
   ·exact h.sep.sa.2.1 hb
   ·exact h.sep.sa.2.2 _ e hb
 refine⟨(ht.block br h.lt (hnb br (.inl rfl))).trans h.blk,hst.okmono hm' fun b=>OkS.st,(h.prog.keep hk).mono hm',(h.now.keep hk).mono hm',?_,?_,?_⟩
 ·obtain⟨Q,h1,h2,h3⟩:=h.ch
  exact⟨Q,h1,ownsRow_block h2 fun g hg=>ht.block g (hlt g hg) (hnb g (.inr (.inl hg))),fun q hq=>((h3 q hq).keep hk).mono hm'⟩
 ·obtain⟨A,h1,h2,h3⟩:=h.ans
  exact⟨A,h1,ownsRow_block h2 fun g hg=>ht.block g (hlta g hg) (hnb g (.inr (.inr hg))),fun q hq=>((h3 q hq).keep hk).mono hm'⟩
 ·have hfr:∀ g,tv'.ownBlock=some g→tv.ownBlock=some g∨w.heap.size≤g:=fun g hg=>by
   rcases hf with e | e
   ·exact .inl (e ▸ hg)
   ·exact .inr (e g hg)
  refine⟨h.sep.rs,h.sep.rm,fun e=>?_,h.sep.rc,h.sep.ra,⟨h.sep.cs.1,h.sep.cs.2.1,fun g hg e=>?_⟩,⟨h.sep.sa.1,h.sep.sa.2.1,fun g hg e=>?_⟩,h.sep.ca⟩
  ·rcases hfr _ e with e | e
   ·exact h.sep.rt e
   ·have:=h.lt;omega
  ·rcases hfr _ hg with e2 | e2
   ·exact h.sep.cs.2.2 g e2 e
   ·have:=hlt g e;omega
  ·rcases hfr _ hg with e2 | e2
   ·exact h.sep.sa.2.2 g e2 e
   ·have:=hlta g e;omega
theorem SAt.field(h:SAt w br bs bm tv cv av np pa pc p query S wk)(o:Nat)(v:Value)(np':Option Addr)(S':PS)
 (hb:(#[.slice pa p.length pc,.pointer (some ⟨bs,0,none⟩),.int .i64 S.vars,.int .i64 query,cv,.pointer np,av,.int .i64 S.fin,.int .i64 S.steps]:Array Value).setIfInBounds o v = #[.slice pa p.length pc,.pointer (some ⟨bs,0,none⟩),.int .i64 S'.vars,.int .i64 query,cv,.pointer np',av,.int .i64 S'.fin,.int .i64 S'.steps])
 (hσ:S'.σ = S.σ) (hL:S'.L=S.L) (hc:S'.ch=S.ch) (ha:S'.ans=S.ans) (hn:GAt w (OkS w br bs bm tv cv av) np' S'.now) :
 SAt (w.setCell ⟨br,o,none⟩ v) br bs bm tv cv av np' pa pc p query S' wk:=by
 have hT:Touch (fun b=>b=br) w (w.setCell ⟨br,o,none⟩ v):=Touch.setCell _ rfl
 have ht':Touch (SM br bs bm tv cv av) w (w.setCell ⟨br,o,none⟩ v):=hT.mono fun b _ e=>.inl e
 obtain⟨hk,hm⟩:=okS_step ht' (Fresh.self w tv) (Fresh.self w cv) (Fresh.self w av)
 have hm':∀ b,b<(w.setCell ⟨br,o,none⟩ v).heap.size→OkS w br bs bm tv cv av b→OkS (w.setCell ⟨br,o,none⟩ v) br bs bm tv cv av b:=fun b _=>hm b
 have hlt:∀ g,cv.ownBlock=some g→g<w.heap.size:=fun g hg=>by obtain⟨Q,_,h2,_⟩:=h.ch;exact(h2.lt g hg).2
 have hlta:∀ g,av.ownBlock=some g→g<w.heap.size:=fun g hg=>by obtain⟨Q,_,h2,_⟩:=h.ans;exact(h2.lt g hg).2
 refine⟨by rw[heap_setCell_at _ _ _ _ h.blk,hb],?_,(h.prog.keep hk).mono hm',(hn.keep hk).mono hm',?_,?_,h.sep⟩
 ·rw[hσ,hL]
  have:=h.st.touch (M:=fun b=>b=br) hT (fun b e=>by
   subst e
   refine⟨fun e=>?_,fun e=>e.2 (.inl rfl)⟩
   rcases e with e | e | e
   ·exact h.sep.rs e
   ·exact h.sep.rm e
   ·exact h.sep.rt e)
  exact this.okmono hm' fun b=>OkS.st
 ·obtain⟨Q,h1,h2,h3⟩:=h.ch
  exact⟨Q,by rw[hc];exact h1,ownsRow_block h2 fun g hg=>hT.block g (hlt g hg) (fun e=>h.sep.rc (e ▸ hg)),fun q hq=>((h3 q hq).keep hk).mono hm'⟩
 ·obtain⟨A,h1,h2,h3⟩:=h.ans
  exact⟨A,by rw[ha];exact h1,ownsRow_block h2 fun g hg=>hT.block g (hlta g hg) (fun e=>h.sep.ra (e ▸ hg)),fun q hq=>((h3 q hq).keep hk).mono hm'⟩
theorem SAt.setVars(h:SAt w br bs bm tv cv av np pa pc p query S wk)(n:Nat):SAt (w.setCell ⟨br,2,none⟩ (.int .i64 n)) br bs bm tv cv av np pa pc p query { S with vars:=n } wk :=
 h.field 2 _ np { S with vars:=n } rfl rfl rfl rfl rfl h.now
theorem SAt.setFin(h:SAt w br bs bm tv cv av np pa pc p query S wk)(n:Nat):SAt (w.setCell ⟨br,7,none⟩ (.int .i64 n)) br bs bm tv cv av np pa pc p query { S with fin:=n } wk :=
 h.field 7 _ np { S with fin:=n } rfl rfl rfl rfl rfl h.now
theorem SAt.setSteps(h:SAt w br bs bm tv cv av np pa pc p query S wk)(n:Nat):SAt (w.setCell ⟨br,8,none⟩ (.int .i64 n)) br bs bm tv cv av np pa pc p query { S with steps:=n } wk :=
 h.field 8 _ np { S with steps:=n } rfl rfl rfl rfl rfl h.now
theorem SAt.setNow(h:SAt w br bs bm tv cv av np pa pc p query S wk){np':Option Addr}{l:List Goal}(hn:GAt w (OkS w br bs bm tv cv av) np' l):SAt (w.setCell ⟨br,5,none⟩ (.pointer np')) br bs bm tv cv av np' pa pc p query { S with now:=l } wk :=
 h.field 5 _ np' { S with now:=l } rfl rfl rfl rfl rfl hn
theorem SAt.setF(h:SAt w br bs bm tv cv av np pa pc p query S wk)(f:Nat):SAt w br bs bm tv cv av np pa pc p query { S with f:=f } wk:=⟨h.blk,h.st,h.prog,h.now,h.ch,h.ans,h.sep⟩
end
structure AsAt(w:World)(ok:Nat→Prop)(l:List (List Tm))(a:Option Addr)(cap:Nat):Prop where
 room:l.length≤cap∧cap≤maxLen∧(a=none→cap=0)
 elem:∀ i (h:i<l.length),∃ (b off:Nat) (a1:Option Addr) (c1:Nat),a=some ⟨b,off,none⟩∧ok b∧b<w.heap.size∧w.cell? ⟨b,off+i,none⟩=some (.slice a1 l[i].length c1)∧Ts w ok l[i] a1 c1
theorem AsAt.keep{w w':World}{ok:Nat→Prop}(hk:Keeps ok w w'){l:List (List Tm)}{a:Option Addr}{cap:Nat}(h:AsAt w ok l a cap):AsAt w' ok l a cap:=by
 refine⟨h.room,fun i hi=>?_⟩
 obtain⟨b,off,a1,c1,h1,h2,h3,h4,h5⟩:=h.elem i hi
 exact⟨b,off,a1,c1,h1,h2,Nat.lt_of_lt_of_le h3 hk.size,(hk.cell (p:=⟨b,_,none⟩) h2 h3).trans h4,h5.keep hk⟩
theorem AsAt.mono{w:World}{ok ok':Nat→Prop}(hk:∀ b,b<w.heap.size→ok b→ok' b){l:List (List Tm)}{a:Option Addr}{cap:Nat}(h:AsAt w ok l a cap):AsAt w ok' l a cap:=by
 refine⟨h.room,fun i hi=>?_⟩
 obtain⟨b,off,a1,c1,h1,h2,h3,h4,h5⟩:=h.elem i hi
 exact⟨b,off,a1,c1,h1,hk b h3 h2,h3,h4,h5.mono hk⟩
theorem AsAt.take{w:World}{ok:Nat→Prop}{l:List (List Tm)}{a:Option Addr}{cap:Nat}(h:AsAt w ok l a cap){k:Nat}(hk:k≤l.length){cap':Nat}(h1:k≤cap')(h2:cap'≤cap)(h3:a=none→cap'=0):AsAt w ok (l.take k) a cap':=by
 refine⟨⟨by rw[List.length_take];omega,by have:=h.room.2.1;omega,h3⟩,fun i hi=>?_⟩
 rw[List.length_take] at hi
 obtain⟨b,off,a1,c1,e1,e2,e3,e4,e5⟩:=h.elem i (by omega)
 exact⟨b,off,a1,c1,e1,e2,e3,by rw[List.getElem_take];exact e4,by rw[List.getElem_take];exact e5⟩
theorem AsAt.of_row{w:World}{ok:Nat→Prop}{base:Nat}{e:TypeId}{v:Value}{A:List ((Option Addr×Nat)×List Tm)}(h:w.ownsRow base e 1 v A.length (flatA A))(hok:∀ b,v.ownBlock=some b→ok b)(he:∀ x,x∈A→Ts w ok x.2 x.1.1 x.1.2) :
 ∃ a cap,v=.slice a (A.map (·.2)).length cap∧AsAt w ok (A.map (·.2)) a cap:=by
 have hrow:=h
 rcases h.2 with ⟨rfl,hn⟩ | ⟨g,cap,cur,rfl,hb,hg,hcap,hml,hsz,htk⟩
 ·have:A = []:=List.eq_nil_of_length_eq_zero hn
  subst this
  exact⟨none,0,rfl,⟨Nat.le_refl _,Nat.zero_le _,fun _=>rfl⟩,fun i hi=>by cases hi⟩
 ·refine⟨some ⟨g,0,none⟩,cap,by simp,⟨by simpa using hcap,hml,fun h=>by cases h⟩,fun i hi=>?_⟩
  have hi':i<A.length:=by simpa using hi
  have hl:(flatA A).length=A.length:=by simp[flatA]
  have hc:=hrow.cellAt i (by omega)
  have e1:(flatA A)[i]? = some (Value.slice A[i].1.1 A[i].2.length A[i].1.2):=by simp[flatA,hi']
  refine⟨g,0,A[i].1.1,A[i].1.2,rfl,hok g rfl,(hrow.lt g rfl).2,?_,?_⟩
  ·rw[Nat.zero_add,List.getElem_map]
   exact hc.trans e1
  ·rw[List.getElem_map]
   exact he _ (List.getElem_mem hi')
def ArgB(t:Tm):Prop:=∀ p,p∈t.parts→p.args.length*48≤140737488355328
set_option maxRecDepth 100000 in
set_option maxHeartbeats 2000000 in
theorem MovedBW{K:Int}(t:Tm):∀ (w:World) (ok:Nat→Prop) (a:Option Addr) (cap:Nat),(∀ b,ok b→b<w.heap.size)→ArgB t→t.fits→Ts w ok t.args a cap→(∀ p,p∈t.parts→p.var≠0→I64 (p.var+K)) →
 Calls Try.prog 60 #[.agg #[.int .i64 t.var,.string t.name,.slice a t.args.length cap],.int .i64 K] w (RetNew w ok (far K t)):=by
 induction t using Tm.ind with
 | h v n l ih =>
  intro w ok a cap hok hsize hfit hrd hx
  have IH:=lh ih;have HOK:=lh hok;have HF:=lh hfit;have HX:=lh hx;have HSIZE:=lh hsize
  simp only[Tm.var,Tm.name,Tm.args] at hrd ⊢
  have HRD:=lh hrd
  have hcl:l.length*48≤140737488355328:=by
   have h1:=hsize _ (Tm.self_mem _)
   simp only[Tm.args] at h1
   exact h1
  clear ih hok hfit hx hrd hsize
  by_cases hv:v=0
  ·subst hv
   have HRES:Hid (far K (.mk 0 n l)=.mk 0 n (l.map (far K))):=lh (by unfold far;exact Tm.mapv_fn (by rfl))
   go_enter Try.func60,Try.ntmps60
   go_wp2_with fail
   have BB:Below w.heap.size w (((w.alloc (.cells #[.int .i64 0,.string n,.slice a l.length cap] 71)).alloc (.cells #[.int .i64 0,.string ⟨#[]⟩,.slice none 0 0] 71)).alloc (.cells #[.int .i64 0,.string n,.slice none 0 0] 71)):=(((Below.refl _ _).alloc (Nat.le_refl _) _).alloc (by simp) _).alloc (by simp;omega) _
   have B2:Box3 (((w.alloc (.cells #[.int .i64 0,.string n,.slice a l.length cap] 71)).alloc (.cells #[.int .i64 0,.string ⟨#[]⟩,.slice none 0 0] 71)).alloc (.cells #[.int .i64 0,.string n,.slice none 0 0] 71)) w.heap.size (.int .i64 0) (.string n) (.slice a l.length cap):=((Box3.made w _ _ _).alloc _).alloc _
   have B4:Box3 (((w.alloc (.cells #[.int .i64 0,.string n,.slice a l.length cap] 71)).alloc (.cells #[.int .i64 0,.string ⟨#[]⟩,.slice none 0 0] 71)).alloc (.cells #[.int .i64 0,.string n,.slice none 0 0] 71)) (w.heap.size+1) (.int .i64 0) (.string ⟨#[]⟩) (.slice none 0 0):=(Box3.made2 (by simp)).alloc _
   have B5:Box3 (((w.alloc (.cells #[.int .i64 0,.string n,.slice a l.length cap] 71)).alloc (.cells #[.int .i64 0,.string ⟨#[]⟩,.slice none 0 0] 71)).alloc (.cells #[.int .i64 0,.string n,.slice none 0 0] 71)) (w.heap.size+1+1) (.int .i64 0) (.string n) (.slice none 0 0):=Box3.made2 (by simp)
   have hsz:(((w.alloc (.cells #[.int .i64 0,.string n,.slice a l.length cap] 71)).alloc (.cells #[.int .i64 0,.string ⟨#[]⟩,.slice none 0 0] 71)).alloc (.cells #[.int .i64 0,.string n,.slice none 0 0] 71)).heap.size=w.heap.size+3:=by simp
   have HBB:=lh BB;have HB2:=lh B2;have HB4:=lh B4;have HB5:=lh B5;have HSZ:=lh hsz
   clear BB B2 B4 B5 hsz
   generalize (((w.alloc (.cells #[.int .i64 0,.string n,.slice a l.length cap] 71)).alloc (.cells #[.int .i64 0,.string ⟨#[]⟩,.slice none 0 0] 71)).alloc (.cells #[.int .i64 0,.string n,.slice none 0 0] 71))=wb at *
   go_loopw[22] (fun y wr=>∃ (k:Nat) (L:List TmAt) (x:Value),k≤l.length∧y=.int .i64 k∧L.map (·.1)=(l.take k).map (far K)∧BldRel wb ok (w.heap.size+1+1) n L x wr) (fun y _=>l.length-(intOf y).toNat)
   case atStart=>exact⟨0,[],.slice none 0 0,Nat.zero_le _,rfl,rfl,BldRel.start HB5.out⟩
   case round =>
    obtain⟨k,L,x,hk,rfl,hL,hrel⟩:=hrel
    have HL:=lh hL;have HR:=lh hrel
    obtain⟨xa,xc,rfl⟩:=hrel.form
    have p2:=(HB2.out.keep (hrel.touch.block _ HB2.out.lt (by omega))).c2
    have q4:=(HB4.out.keep (hrel.touch.block _ HB4.out.lt (by omega))).all
    have q0:=hrel.box.c0;have q1:=hrel.box.c1;have q2:=hrel.box.c2;have qf:=hrel.box.fz
    have hLk:L.length=k:=by
     have:=congrArg List.length hL
     rw[List.length_map,List.length_map,List.length_take] at this;omega
    have HLK:=lh hLk
    have HSW:Hid (w.heap.size+3≤wr.heap.size):=lh (by have:=hrel.touch.size;have:=HSZ.out;omega)
    have HBR:Hid (Below w.heap.size w wr):=lh (HBB.out.trans (hrel.touch.toBelow HBB.out.size (fun b e=>by omega)))
    clear hrel hL hLk
    by_cases hlt:k<l.length
    ·obtain⟨b,off,a',cap',rfl,hokb,hbs,hc,ht⟩:=HRD.out.at k hlt
     have m0:=(HBR.out.cell (p:=⟨b,off+k*3,none⟩) hbs).trans hc.var
     have m1:=(HBR.out.cell (p:=⟨b,off+k*3+1,none⟩) hbs).trans hc.name
     have m2:=(HBR.out.cell (p:=⟨b,off+k*3+2,none⟩) hbs).trans hc.args
     have hk0:(0:Int)≤(k:Int):=by omega
     have hk1:(k:Int)<(l.length:Int):=by omega
     have hmem:l[k]∈l:=List.getElem_mem hlt
     have HC:=lh hc.fits;have HTS:=lh ht
     clear hc ht
     obtain⟨i0,hi,hz0,hz1,hz2⟩:=info_parts Try.infoTm
     have HCL:Hid (∀ u,Below wr.heap.size wr u→Calls Try.prog 60 #[.agg #[.int .i64 l[k].var,.string l[k].name,.slice a' l[k].args.length cap'],.int .i64 K] u (RetNew u ok (far K l[k]))):=lh fun u hu =>
      IH.out _ hmem u ok a' cap' (fun b hb=>by have:=HOK.out b hb;have:=hu.size;have:=HSW.out;omega) (fun p hp=>HSIZE.out p (Tm.parts_arg (t:=.mk 0 n l) hmem hp)) HC.out (HTS.out.keep ((Keeps.below HBR.out ok).trans (Keeps.below hu ok))) (fun p hp=>HX.out p (Tm.parts_arg (t:=.mk 0 n l) hmem hp))
     have zlt:w.heap.size+1+1<wr.heap.size:=by have:=HSW.out;omega
     go_wp2_with fail
     go_region_law (first
      | (
       go_simp
       go_at_call 60
       refine(HCL.out _ ?_).mono ?_
       ·exact((Below.refl _ _).alloc (Nat.le_refl _) _).drew
       rintro e w1 ⟨a2,c2,rfl,hf2,ht2,hb2⟩
       have HB:Below wr.heap.size wr w1:=(((Below.refl _ _).alloc (Nat.le_refl _) _).drew).trans (hb2.mono (by simp[World.drew]))
       have r0:w1.cell? ⟨w.heap.size+1+1,2,none⟩=some (.slice xa L.length xc):=(HR.out.box.below HB).c2
       have z1:w.heap.size+1+1<w1.heap.size:=(HR.out.box.below HB).lt
       have HO1:=lh ((ownsRow_below HR.out.own.own HB).alloc (.cells #[.int .i64 (far K l[k]).var,.string (far K l[k]).name,.slice a2 (far K l[k]).args.length c2] 71))
       have HN1:Hid (∀ j u,(flat [(far K l[k],a2,c2)])[j]? = some u→(w1.alloc (.cells #[.int .i64 (far K l[k]).var,.string (far K l[k]).name,.slice a2 (far K l[k]).args.length c2] 71)).cell? ((⟨w1.heap.size,0,none⟩:Addr).add j)=some u):=lh (by
        have ho:=World.ownsRow_lit (base:=w1.heap.size) (e:=71) (size:=3) w1 #[.int .i64 (far K l[k]).var,.string (far K l[k]).name,.slice a2 (far K l[k]).args.length c2] 1 (Nat.le_refl _) (by unfold maxLen;omega) rfl
        exact ho.cells (g:=w1.heap.size) rfl)
       have HF2:=lh hf2
       have HT2:=lh ht2
       have HB1:=lh HB
       clear hf2 ht2 hb2 HB)
      | (
       have _g:=HO1
       refine step_append_opt _ (by rfl) _ _ _ (by rfl) wb.heap.size 71 i0 _ 3 48 Try.underlying48 hi hz0 hz1 hz2 rfl (by decide) (.slice xa L.length xc) L.length (flat L) (by rfl) HO1.out (some ⟨w1.heap.size,0,none⟩) 1 1 (by intro h;cases h) (flat [(far K l[k],a2,c2)]) (by rfl) (by rw[flat_length];rfl) (by intro ad had;cases had;exact HN1.out) (flat_one _) (by have:=HLK.out;unfold maxLen;omega) (by have:=HLK.out;omega) (by have:=HR.out.touch.size;have:=HB1.out.size;simp;omega) ?_
       intro v3 w3 hown3 hgrow3 hfr3
       have HNX:=lh (HR.out.next (fun b hb=>by have:=HOK.out b hb;have:=HSZ.out;omega) (show wr.heap.size≤(wr.alloc (.cells #[.int .i64 l[k].var,.string l[k].name,.slice a' l[k].args.length cap'] 71)).drew.heap.size by simp[World.drew]) HB1.out HF2.out HT2.out ((Below.refl _ _).alloc (Nat.le_refl _) _) hown3 hgrow3 hfr3)
       obtain⟨g3,cap3,rfl⟩:=own_shape hown3 (by omega)
       have s2:w3.cell? ⟨w.heap.size+1+1,2,none⟩=some (.slice xa L.length xc):=HNX.out.1.c2
       have sf:∀ o,w3.frozen? ⟨w.heap.size+1+1,o,none⟩=false:=HNX.out.1.fz
       clear hown3 hgrow3 hfr3))
     all_goals
      go_wp2_with fail
      go_roundw
      case measure=>simp[intOf];omega
      case rel=>exact⟨k+1,_,_,by omega,by go_num,by rw[List.map_append,HL.out,List.take_succ_eq_append_getElem hlt,List.map_append];rfl,HNX.out.2⟩
    ·have HLE:Hid (l.take k=l):=lh (List.take_of_length_le (by omega))
     obtain⟨q40,q41,q42,q43⟩:=q4
     go_wp2_with fail
     have HD:=lh (HR.out.done (br:=w.heap.size+1) (t:=.mk 0 n (l.map (far K))) HBB.out (by omega) (by omega) (by have:=HSZ.out;omega) HOK.out HF.out.2 (by rw[HL.out,HLE.out]))
     rw[HRES.out]
     exact bodyPost_ret (v:=.agg #[.int .i64 0,.string n,.slice xa L.length xc]) (by simp[results,Try.results60,go_sem,q40,q41,q42]) rfl HD.out
  ·have hv1:(v != 0)=true:=by rw[bne_iff_ne];exact hv
   have hx:=HX.out _ (Tm.self_mem (.mk v n l)) hv
   simp only[Tm.var] at hx
   have HI:=lh hx
   unfold I64 at hx
   obtain⟨hx1,hx2⟩:=hx
   have HRES:Hid (far K (.mk v n l)=VarT (v+K)):=lh (by unfold far;rw[Tm.mapv_var (by exact hv)];rfl)
   clear hv
   go_enter Try.func60,Try.ntmps60
   go_wp2_with fail
   rw[HRES.out]
   exact bodyPost_ret (v:=.agg #[.int .i64 (v+K),.string ⟨#[]⟩,.slice none 0 0]) (by simp[results,Try.results60,go_sem]) rfl ⟨none,0,rfl,⟨HI.out,Nat.zero_le _⟩,Ts.empty' _ _,((Below.refl _ _).alloc (Nat.le_refl _) _).alloc (by simp) _⟩
def SmPost(w:World)(br bs bm:Nat)(tv cv av:Value)(np pa:Option Addr)(pc:Nat)(p:List Cl)(query:Nat)(S:PS)(o:MOut)(e:Ending)(w':World):Prop :=
 Touch (SM br bs bm tv cv av) w w'∧∃ tv',Fresh w tv tv' ∧
 match o with
 | .ok σ L f=>e=.returned (.bool true)∧SAt w' br bs bm tv' cv av np pa pc p query { S with σ:=σ,L:=L,f:=f } (4000-f)∧SInv σ
 | .no σ L f=>e=.returned (.bool false)∧SAt w' br bs bm tv' cv av np pa pc p query { S with σ:=σ,L:=L,f:=f } (4000-f)∧SInv σ
 | .many σ L=>e=.returned (.bool false)∧SAt w' br bs bm tv' cv av np pa pc p query { S with σ:=σ,L:=L,f:=0,fin:=3 } 4001∧SInv σ
set_option maxRecDepth 100000 in
set_option maxHeartbeats 2000000 in
theorem SameSW{w:World}{br bs bm:Nat}{tv cv av:Value}{np pa:Option Addr}{pc:Nat}{p:List Cl}{query:Nat}{S:PS}(h:SAt w br bs bm tv cv av np pa pc p query S (4000-S.f))(hf:S.f≤4000)(hi:SInv S.σ)(hL:S.L.length+S.f≤1000000)
 {a b:Tm} {a1 a2:Option Addr} {c1 c2:Nat} (fa:a.fits) (fb:b.fits) (ta:Ts w (OkS w br bs bm tv cv av) a.args a1 c1) (tb:Ts w (OkS w br bs bm tv cv av) b.args a2 c2) (wa:WfT a) (wb:WfT b) :
 Calls Try.prog 104 #[.pointer (some ⟨br,0,none⟩),.agg #[.int .i64 a.var,.string a.name,.slice a1 a.args.length c1],.agg #[.int .i64 b.var,.string b.name,.slice a2 b.args.length c2]] w (SmPost w br bs bm tv cv av np pa pc p query S (meet S.σ S.L S.f [(a,b)])):=by
 obtain⟨o,ho⟩:∃ o,meet S.σ S.L S.f [(a,b)]=o:=⟨_,rfl⟩
 rw[ho]
 have B0:Below w.heap.size w ((w.alloc (.cells #[.int .i64 a.var,.string a.name,.slice a1 a.args.length c1] 71)).alloc (.cells #[.int .i64 b.var,.string b.name,.slice a2 b.args.length c2] 71)):=((Below.refl _ _).alloc (Nat.le_refl _) _).alloc (by simp) _
 have HCL:Hid (∀ u,Below ((w.alloc (.cells #[.int .i64 a.var,.string a.name,.slice a1 a.args.length c1] 71)).alloc (.cells #[.int .i64 b.var,.string b.name,.slice a2 b.args.length c2] 71)).heap.size ((w.alloc (.cells #[.int .i64 a.var,.string a.name,.slice a1 a.args.length c1] 71)).alloc (.cells #[.int .i64 b.var,.string b.name,.slice a2 b.args.length c2] 71)) u→Calls Try.prog 116 #[.pointer (some ⟨bs,0,none⟩),.agg #[.int .i64 a.var,.string a.name,.slice a1 a.args.length c1],.agg #[.int .i64 b.var,.string b.name,.slice a2 b.args.length c2]] u (fun e w'=>SamePost u (OkS w br bs bm tv cv av) bs bm tv o e w'∧Below w.heap.size w u)):=lh (fun u hu=>by
  have hb:Below w.heap.size w u:=B0.trans (hu.mono B0.size)
  rw[← ho]
  refine(SameW S.f S.σ S.L tv a b a1 a2 c1 c2 u hf (h.st.keep hb) hi hL fa fb (ta.keep (Keeps.below hb _)) (tb.keep (Keeps.below hb _)) wa wb).mono fun e w' hp=>⟨hp,hb⟩)
 have H:=lh h
 obtain⟨q0,q1,q2,q3,q4,q5,q6,q7,q8,qf⟩:=(h.below B0).cells
 clear h hf hi hL fa fb ta tb B0 ho
 go_enter Try.func104,Try.ntmps104
 go_wp2_with fail
 go_region_law (first
  | (
   go_simp
   go_at_call 116
   refine(HCL.out _ ?_).mono ?_
   ·exact(Below.refl _ _).drew
   rintro e w1 ⟨hpost,hb1⟩
   obtain⟨bb,nn,rfl⟩:=hpost.form
   have HP:=lh hpost;have HB:=lh hb1
   clear hpost hb1))
 all_goals
  have HT:Hid (Touch (StM bs bm tv) w w1):=lh ((Touch.below HB.out).trans HP.out.1)
  obtain⟨ht,tv',hfr,hm⟩:=HP.out
  have HF:Hid (Fresh w tv tv'):=lh (hfr.old HB.out.size)
  have HTS:Hid (Touch (SM br bs bm tv cv av) w w1):=lh (HT.out.mono fun b _ e=>.inr (.inl e))
  clear ht hfr
  cases o with
  | ok σ L f =>
   obtain⟨he,hs,hii⟩:=hm
   have HII:=lh hii
   clear hii
   simp only[Ending.returned.injEq,Value.tuple.injEq,Array.mk.injEq,List.cons.injEq,Value.bool.injEq,Value.int.injEq,true_and,and_true] at he
   obtain⟨rfl,rfl⟩:=he
   have HS:=lh (H.out.store HT.out HF.out hs)
   clear hs
   go_wp2_with fail
   go_ret
   exact⟨HTS.out,tv',HF.out,rfl,HS.out.setF f,HII.out⟩
  | no σ L f =>
   obtain⟨he,hs,hii⟩:=hm
   have HII:=lh hii
   clear hii
   simp only[Ending.returned.injEq,Value.tuple.injEq,Array.mk.injEq,List.cons.injEq,Value.bool.injEq,Value.int.injEq,true_and,and_true] at he
   obtain⟨rfl,rfl⟩:=he
   have HS:=lh (H.out.store HT.out HF.out hs)
   clear hs
   go_wp2_with fail
   go_ret
   exact⟨HTS.out,tv',HF.out,rfl,HS.out.setF f,HII.out⟩
  | many σ L =>
   obtain⟨he,hs,hii⟩:=hm
   have HII:=lh hii
   clear hii
   simp only[Ending.returned.injEq,Value.tuple.injEq,Array.mk.injEq,List.cons.injEq,Value.bool.injEq,Value.int.injEq,true_and,and_true] at he
   obtain⟨rfl,rfl⟩:=he
   have HS:=lh (H.out.store HT.out HF.out hs)
   obtain⟨q0,q1,q2,q3,q4,q5,q6,q7,q8,qf⟩:=HS.out.cells
   clear hs
   go_wp2_with fail
   go_ret
   exact⟨HTS.out.trans (Touch.setCell _ (.inl rfl)),tv',HF.out,rfl,(HS.out.setF 0).setFin 3,HII.out⟩
section
variable {w w':World} {br bs bm:Nat} {tv cv av:Value} {np pa:Option Addr} {pc:Nat} {p:List Cl} {query:Nat} {S S':PS} {wk:Nat}
theorem SAt.cvLt(h:SAt w br bs bm tv cv av np pa pc p query S wk){g:Nat}(hg:cv.ownBlock=some g):g<w.heap.size:=by obtain⟨Q,_,h2,_⟩:=h.ch;exact(h2.lt g hg).2
theorem SAt.avLt(h:SAt w br bs bm tv cv av np pa pc p query S wk){g:Nat}(hg:av.ownBlock=some g):g<w.heap.size:=by obtain⟨A,_,h2,_⟩:=h.ans;exact(h2.lt g hg).2
theorem SAt.tvLt(h:SAt w br bs bm tv cv av np pa pc p query S wk){g:Nat}(hg:tv.ownBlock=some g):g<w.heap.size:=h.st.blocks.2 g hg
theorem fresh_or{v v':Value}(hf:Fresh w v v'){g:Nat}(hg:v'.ownBlock=some g):v.ownBlock=some g∨w.heap.size≤g:=by
 rcases hf with e | e
 ·exact .inl (e ▸ hg)
 ·exact .inr (e g hg)
theorem touch_next{w1 w2:World}{tv1 cv1 av1:Value}(h:Touch (SM br bs bm tv cv av) w w1)(f1:Fresh w tv tv1)(f2:Fresh w cv cv1)(f3:Fresh w av av1)(k:Touch (SM br bs bm tv1 cv1 av1) w1 w2):Touch (SM br bs bm tv cv av) w w2:=by
 refine⟨k.os.trans h.os,k.tape.trans h.tape,k.output.trans h.output,Nat.le_trans h.size k.size,fun b hb hn=>?_⟩
 refine(k.block b (Nat.lt_of_lt_of_le hb h.size) fun e=>?_).trans (h.block b hb hn)
 have key:∀ v v':Value,Fresh w v v'→v'.ownBlock=some b→v.ownBlock=some b:=fun v v' hf e=>by
  rcases fresh_or hf e with e | e
  ·exact e
  ·omega
 rcases e with e | (e | e | e) | e | e
 ·exact hn (.inl e)
 ·exact hn (.inr (.inl (.inl e)))
 ·exact hn (.inr (.inl (.inr (.inl e))))
 ·exact hn (.inr (.inl (.inr (.inr (key _ _ f1 e)))))
 ·exact hn (.inr (.inr (.inl (key _ _ f2 e))))
 ·exact hn (.inr (.inr (.inr (key _ _ f3 e))))
theorem SAt.cvTurn(h:SAt w br bs bm tv cv av np pa pc p query S wk)(hT:Touch (fun b=>b=br∨cv.ownBlock=some b) w w'){cv':Value}(f2:Fresh w cv cv')
 (hblk:w'.heap[br]? = some (.cells #[.slice pa p.length pc,.pointer (some ⟨bs,0,none⟩),.int .i64 S'.vars,.int .i64 query,cv',.pointer np,av,.int .i64 S'.fin,.int .i64 S'.steps] 95 (0,0)))
 {Q:List (Option Addr×PCh)} (hQ:Q.map (·.2)=S'.ch) (hrow:w'.ownsRow 0 168 3 cv' Q.length (flatC Q)) (hgs:∀ q,q∈Q→GAt w (OkS w br bs bm tv cv av) q.1 q.2.gs)
 (hσ:S'.σ = S.σ) (hL:S'.L=S.L) (ha:S'.ans=S.ans) (hn:S'.now=S.now) :
 SAt w' br bs bm tv cv' av np pa pc p query S' wk∧Touch (SM br bs bm tv cv av) w w':=by
 have ht':Touch (SM br bs bm tv cv av) w w':=hT.mono fun b _ e=>e.elim .inl (fun e=>.inr (.inr (.inl e)))
 obtain⟨hk,hm⟩:=okS_step ht' (Fresh.self w tv) f2 (Fresh.self w av)
 have hm':∀ b,b<w'.heap.size→OkS w br bs bm tv cv av b→OkS w' br bs bm tv cv' av b:=fun b _=>hm b
 have hnS:∀ b,(b=br∨cv.ownBlock=some b)→¬ StM bs bm tv b:=fun b hb e=>by
  rcases hb with rfl | hb
  ·rcases e with e | e | e
   ·exact h.sep.rs e
   ·exact h.sep.rm e
   ·exact h.sep.rt e
  ·rcases e with rfl | rfl | e
   ·exact h.sep.cs.1 hb
   ·exact h.sep.cs.2.1 hb
   ·exact h.sep.cs.2.2 _ e hb
 refine⟨⟨hblk,?_,(h.prog.keep hk).mono hm',by rw[hn];exact(h.now.keep hk).mono hm',⟨Q,hQ,hrow,fun q hq=>((hgs q hq).keep hk).mono hm'⟩,?_,?_⟩,ht'⟩
 ·rw[hσ,hL]
  exact(h.st.touch hT fun b hb=>⟨hnS b hb,fun e=>e.2 (hb.elim .inl fun e=>.inr (.inr (.inl e)))⟩).okmono hm' fun b=>OkS.st
 ·obtain⟨A,h1,h2,h3⟩:=h.ans
  exact⟨A,by rw[ha];exact h1,ownsRow_block h2 fun g hg=>hT.block g (h2.lt g hg).2 (fun e=>e.elim (fun e=>h.sep.ra (e ▸ hg)) fun e=>h.sep.ca g e hg),fun q hq=>((h3 q hq).keep hk).mono hm'⟩
 ·refine⟨h.sep.rs,h.sep.rm,h.sep.rt,fun e=>?_,h.sep.ra,⟨fun e=>?_,fun e=>?_,fun g hg e=>?_⟩,h.sep.sa,fun g hg e=>?_⟩
  ·rcases fresh_or f2 e with e | e
   ·exact h.sep.rc e
   ·have:=h.lt;omega
  ·rcases fresh_or f2 e with e | e
   ·exact h.sep.cs.1 e
   ·have:=h.st.lt;omega
  ·rcases fresh_or f2 e with e | e
   ·exact h.sep.cs.2.1 e
   ·have:=h.st.blocks.1;omega
  ·rcases fresh_or f2 e with e | e
   ·exact h.sep.cs.2.2 g hg e
   ·have:=h.tvLt hg;omega
  ·rcases fresh_or f2 hg with e2 | e2
   ·exact h.sep.ca g e2 e
   ·have:=h.avLt e;omega
theorem SAt.push(h:SAt w br bs bm tv cv av np pa pc p query S wk){Q:List (Option Addr×PCh)}(hQ:Q.map (·.2)=S.ch)(hgs:∀ q,q∈Q→GAt w (OkS w br bs bm tv cv av) q.1 q.2.gs){gp:Option Addr}{c:PCh}(hg:GAt w (OkS w br bs bm tv cv av) gp c.gs)
 {o:Obj} {X3:World} {cv':Value} (ho:X3.ownsRow 0 168 3 cv' (Q.length+1) (flatC Q++[.pointer gp,.int .i64 c.cl,.int .i64 c.L.length])) (hgr:(w.alloc o).grownBy X3 cv.ownBlock) (hf:Fresh (w.alloc o) cv cv') :
 SAt (X3.setCell ⟨br,4,none⟩ cv') br bs bm tv cv' av np pa pc p query { S with ch:=S.ch++[c] } wk∧Touch (SM br bs bm tv cv av) w (X3.setCell ⟨br,4,none⟩ cv')∧Fresh w cv cv':=by
 have hA:Touch (fun b=>b=br∨cv.ownBlock=some b) w (w.alloc o):=Touch.below ((Below.refl _ _).alloc (Nat.le_refl _) _)
 have hG:Touch (fun b=>b=br∨cv.ownBlock=some b) (w.alloc o) X3:=Touch.grown hgr (fun k e=>.inr e)
 have hS:Touch (fun b=>b=br∨cv.ownBlock=some b) X3 (X3.setCell ⟨br,4,none⟩ cv'):=Touch.setCell _ (.inl rfl)
 have hF:Fresh w cv cv':=hf.old (by simp)
 have hb3:X3.heap[br]? = w.heap[br]?:=(hgr.block br (by have:=h.lt;simp;omega) (fun e=>h.sep.rc e.symm)).trans (Below.heap_alloc _ _ _ h.lt)
 have:=h.cvTurn (S':={ S with ch:=S.ch++[c] }) ((hA.trans hG).trans hS) hF (by rw[heap_setCell_at _ _ _ _ (hb3.trans h.blk)];rfl) (Q:=Q++[(gp,c)]) (by rw[List.map_append,hQ];rfl) (by
  have e:(Q++[(gp,c)]).length=Q.length+1:=by simp
  rw[e,flatC_append]
  have hne:cv'.ownBlock≠some br:=fun e=>(fresh_or hF e).elim h.sep.rc fun e=>by have:=h.lt;omega
  exact ownsRow_block ho fun g hg=>Below.heap_setCell _ _ _ _ (fun e=>hne (by rw[hg];exact congrArg some e))) (fun q hq=>by
  rcases List.mem_append.1 hq with hq | hq
  ·exact hgs q hq
  ·rw[List.mem_singleton] at hq;subst hq;exact hg) rfl rfl rfl rfl
 exact⟨this.1,this.2,hF⟩
theorem SAt.cut(h:SAt w br bs bm tv cv av np pa pc p query S wk){k:Nat}(hk:k≤S.ch.length) :
 SAt (w.setCell ⟨br,4,none⟩ (cutV cv k)) br bs bm tv (cutV cv k) av np pa pc p query { S with ch:=S.ch.take k } wk∧Touch (SM br bs bm tv cv av) w (w.setCell ⟨br,4,none⟩ (cutV cv k))∧Fresh w cv (cutV cv k):=by
 obtain⟨Q,h1,h2,h3⟩:=h.ch
 have hl:Q.length=S.ch.length:=by rw[← h1,List.length_map]
 have hS:Touch (fun b=>b=br∨cv.ownBlock=some b) w (w.setCell ⟨br,4,none⟩ (cutV cv k)):=Touch.setCell _ (.inl rfl)
 have hF:Fresh w cv (cutV cv k):=.inl (cutV_own cv k)
 have:=h.cvTurn (S':={ S with ch:=S.ch.take k }) hS hF (by rw[heap_setCell_at _ _ _ _ h.blk];rfl) (Q:=Q.take k) (by rw[List.map_take,h1]) (by
  have hr:=ownsRow_cut h2 (k:=k) (by omega)
  have e:(Q.take k).length=k:=by rw[List.length_take];omega
  rw[e,flatC_take]
  exact ownsRow_block hr fun g hg=>Below.heap_setCell _ _ _ _ (fun e=>h.sep.rc (by rw[cutV_own] at hg;rw[hg];exact congrArg some e))) (fun q hq=>h3 q (List.mem_of_mem_take hq)) rfl rfl rfl rfl
 exact⟨this.1,this.2,hF⟩
end
section
variable {w w':World} {br bs bm:Nat} {tv cv av:Value} {np pa:Option Addr} {pc:Nat} {p:List Cl} {query:Nat} {S S':PS} {wk:Nat}
theorem StAt.setWork{ok:Nat→Prop}{σ:Sub}{L:List Int}(h:StAt w ok bs bm tv σ L wk)(k:Nat):StAt (w.setCell ⟨bs,2,none⟩ (.int .i64 (k:Nat))) ok bs bm tv σ L k:=by
 obtain⟨f,h1,h2⟩:=h.map
 have ht:Touch (StM bs bm tv) w (w.setCell ⟨bs,2,none⟩ (.int .i64 (k:Nat))):=Touch.setCell _ (.inl rfl)
 have hk:=h.keeps ht
 refine⟨by rw[heap_setCell_at _ _ _ _ h.blk];rfl,?_,⟨f,h1.kept (Below.heap_setCell _ _ _ _ (fun e=>h.ne.1 e.symm)),fun k=>(h2 k).keep hk⟩,h.ne,fun b hb=>⟨Nat.lt_of_lt_of_le (h.okb b hb).1 ht.size,(h.okb b hb).2⟩⟩
 refine h.trail.kept (row:=some bs) ⟨ht.os,ht.tape,ht.output,ht.size,fun k _ hk=>Below.heap_setCell _ _ _ _ (fun e=>hk (by rw[e]))⟩ (.inr h.ne.2.1)
theorem SAt.setWork(h:SAt w br bs bm tv cv av np pa pc p query S wk)(k:Nat) :
 SAt (w.setCell ⟨bs,2,none⟩ (.int .i64 (k:Nat))) br bs bm tv cv av np pa pc p query S k∧Touch (SM br bs bm tv cv av) w (w.setCell ⟨bs,2,none⟩ (.int .i64 (k:Nat))):=by
 have ht:Touch (StM bs bm tv) w (w.setCell ⟨bs,2,none⟩ (.int .i64 (k:Nat))):=Touch.setCell _ (.inl rfl)
 exact⟨h.store ht (Fresh.self _ _) (h.st.setWork k),ht.mono fun b _ e=>.inr (.inl e)⟩
theorem SAt.plain(h:SAt w br bs bm tv cv av np pa pc p query S wk)(h1:S'.σ = S.σ)(h2:S'.L=S.L)(h3:S'.vars=S.vars)(h4:S'.ch=S.ch)(h5:S'.now=S.now)(h6:S'.ans=S.ans)(h7:S'.fin=S.fin)(h8:S'.steps=S.steps):SAt w br bs bm tv cv av np pa pc p query S' wk :=
 ⟨by rw[h3,h7,h8];exact h.blk,by rw[h1,h2];exact h.st,h.prog,by rw[h5];exact h.now,by rw[h4];exact h.ch,by rw[h6];exact h.ans,h.sep⟩
theorem SAt.last(h:SAt w br bs bm tv cv av np pa pc p query S wk){n:Nat}(hn:n<S.ch.length) :
 ∃ g cap gp,cv=.slice (some ⟨g,0,none⟩) S.ch.length cap∧S.ch.length≤cap∧cap≤maxLen∧g<w.heap.size∧(∀ o,w.frozen? ⟨g,o,none⟩=false) ∧
  w.cell? ⟨g,n*3,none⟩=some (.pointer gp)∧w.cell? ⟨g,n*3+1,none⟩=some (.int .i64 S.ch[n].cl)∧w.cell? ⟨g,n*3+2,none⟩=some (.int .i64 S.ch[n].L.length)∧GAt w (OkS w br bs bm tv cv av) gp S.ch[n].gs:=by
 obtain⟨Q,h1,h2,h3⟩:=h.ch
 have hl:Q.length=S.ch.length:=by rw[← h1,List.length_map]
 have hq:n<Q.length:=by omega
 have hrow:=h2
 obtain⟨hlen,hr⟩:=h2
 rcases hr with ⟨rfl,h0⟩ | ⟨g,cap,cur,rfl,hb,hg,hc,hm2,hs,htk⟩
 ·omega
 obtain⟨e1,e2,e3⟩:=flatC_at Q n hq
 have hQn:Q[n].2=S.ch[n]:=by
  have:(Q.map (·.2))[n]'(by rw[List.length_map];exact hq)=S.ch[n]:=by simp only[h1]
  rw[← this,List.getElem_map]
 have hfl:=flatC_length Q
 refine⟨g,cap,Q[n].1,by rw[hl],by omega,hm2,(hrow.lt g rfl).2,fun o=>hrow.frozenAt o,(hrow.cellAt _ (by omega)).trans e1,(hrow.cellAt _ (by omega)).trans (by rw[e2,hQn]),(hrow.cellAt _ (by omega)).trans (by rw[e3,hQn]),?_⟩
 rw[← hQn]
 exact h3 _ (List.getElem_mem hq)
end
def ClPost(w:World)(br bs bm:Nat)(tv cv av:Value)(pa:Option Addr)(pc:Nat)(p:List Cl)(query:Nat)(r:PS×Bool)(e:Ending)(w':World):Prop :=
 e=.returned (.bool r.2)∧Touch (SM br bs bm tv cv av) w w'∧∃ (tv' cv':Value) (np':Option Addr) (wk':Nat),Fresh w tv tv'∧Fresh w cv cv'∧SAt w' br bs bm tv' cv' av np' pa pc p query r.1 wk'
theorem row_form{w:World}{base:Nat}{e:TypeId}{size:Nat}{v:Value}{n:Nat}{xs:List Value}(h:w.ownsRow base e size v n xs):∃ a c,v=.slice a n c∧n≤9223372036854775807:=by
 obtain⟨_,h2⟩:=h
 rcases h2 with ⟨rfl,rfl⟩ | ⟨g,cap,cur,rfl,_,_,h3,h4,_,_⟩
 ·exact⟨none,0,rfl,by omega⟩
 ·exact⟨_,cap,rfl,by unfold maxLen at h4;omega⟩
theorem alloc_set(w:World){b o:Nat}{v:Value}{X:Obj}(h:b<w.heap.size):(w.setCell ⟨b,o,none⟩ v).alloc X=(w.alloc X).setCell ⟨b,o,none⟩ v:=by
 simp only[World.setCell,World.alloc]
 congr 1
 apply Array.ext_getElem?
 intro i
 simp only[Array.getElem?_push,Array.getElem?_modify,Array.size_modify]
 by_cases e:i=w.heap.size
 ·subst e
  have hne:b≠w.heap.size:=by omega
  simp[hne]
 ·simp only[if_neg e]
theorem potC_len{m:Nat}:∀ {ch:List PCh},(∀ c,c∈ch→c.cl<m)→ch.length≤potC m ch:=by
 intro ch
 induction ch with
 | nil=>intro _;exact Nat.zero_le _
 | cons c r ih =>
  intro h
  have h1:=h c List.mem_cons_self
  have h2:=ih fun c hc=>h c (List.mem_cons_of_mem _ hc)
  simp only[potC,List.map_cons,List.sum_cons,List.length_cons] at h2 ⊢
  omega
theorem three_cells(w:World)(x y z:Value)(e:TypeId):∀ j u,[x,y,z][j]? = some u→(w.alloc (.cells #[x,y,z] e)).cell? ((⟨w.heap.size,0,none⟩:Addr).add j)=some u:=by
 intro j u hu
 have hj:j<3:=by simpa using (List.getElem?_eq_some_iff.1 hu).1
 rcases (by omega:j=0∨j=1∨j=2) with rfl | rfl | rfl
 all_goals
  simp at hu
  subst hu
  simp[Addr.add,World.cell?,World.alloc,-World.alloc_eq]
theorem Try.infoCh1:(Try.prog.info? 168).map (fun i=>(i.size,i.bytes))=some (3,24):=by kernel_rfl
theorem Try.infoCh2:((Try.prog.info? 168).bind (fun i=>i.zero)).map (fun z=>z.cells.size)=some 3:=by kernel_rfl
theorem infoCh:∃ i z,Try.prog.info? 168=some i∧i.zero=some z∧i.size=3∧i.bytes=24∧z.cells.size=3:=by
 have h1:=Try.infoCh1;have h2:=Try.infoCh2
 obtain⟨i,hi,h3⟩:=Option.map_eq_some_iff.1 h1
 obtain⟨z,hz,h4⟩:=Option.map_eq_some_iff.1 h2
 rw[hi,Option.bind_some] at hz
 simp only[Prod.mk.injEq] at h3
 exact⟨i,z,hi,hz,h3.1,h3.2,h4⟩
theorem SM_lt{w:World}{br bs bm:Nat}{tv cv av:Value}{np pa:Option Addr}{pc:Nat}{p:List Cl}{query:Nat}{S:PS}{wk:Nat}(h:SAt w br bs bm tv cv av np pa pc p query S wk){b:Nat}(hb:SM br bs bm tv cv av b):b<w.heap.size:=by
 rcases hb with rfl | (rfl | rfl | e) | e | e
 ·exact h.lt
 ·exact h.st.lt
 ·exact h.st.blocks.1
 ·exact h.st.blocks.2 b e
 ·obtain⟨Q,_,h2,_⟩:=h.ch;exact(h2.lt b e).2
 ·obtain⟨A,_,h2,_⟩:=h.ans;exact(h2.lt b e).2
theorem SmPost.up{w u:World}{br bs bm:Nat}{tv cv av:Value}{np pa:Option Addr}{pc:Nat}{p:List Cl}{query:Nat}{S:PS}{o:MOut}{e:Ending}{w':World}(hb:Below w.heap.size w u)(h:SmPost u br bs bm tv cv av np pa pc p query S o e w'):SmPost w br bs bm tv cv av np pa pc p query S o e w':=by
 obtain⟨h1,tv',h2,h3⟩:=h
 exact⟨(Touch.below hb).trans h1,tv',h2.old hb.size,h3⟩
theorem SmPost.form{w:World}{br bs bm:Nat}{tv cv av:Value}{np pa:Option Addr}{pc:Nat}{p:List Cl}{query:Nat}{S:PS}{o:MOut}{e:Ending}{w':World}(h:SmPost w br bs bm tv cv av np pa pc p query S o e w'):∃ b:Bool,e=.returned (.bool b):=by
 obtain⟨_,_,_,h⟩:=h
 cases o with
 | ok _ _ _=>exact⟨_,h.1⟩
 | no _ _ _=>exact⟨_,h.1⟩
 | many _ _=>exact⟨_,h.1⟩
def tmB:Tm:=.mk 0 ⟨#[98]⟩ []
def tP(x:Tm):Tm:=.mk 0 ⟨#[112]⟩ [x]
def tEq(x y:Tm):Tm:=.mk 0 ⟨#[101,113]⟩ [x,y]
def sampleL:List Cl:=[⟨tP tmA,[]⟩,⟨tP (VarT 1),[tEq (VarT 1) tmB]⟩]
def askL:List Tm:=[tP (VarT 1)]
theorem sample_ok:programE sampleL=0:=by decide +kernel
theorem ask_ok:queryE askL=0:=by decide +kernel
theorem ask_great:(Tm.greats askL).toNat=1:=by decide +kernel
def sub0:Sub:=fun _=>none
def subA:Sub:=upd sub0 1 tmA
def subV:Sub:=upd sub0 25 (VarT 1)
def subB1:Sub:=upd subV 1 tmB
theorem within_fn{σ:Sub}{v:Int}{t:Tm}(h:t.var=0)(ha:t.args = [])(f:Nat):within σ v (f+1) [t]=.no f:=by
 simp only[within]
 rw[look_fn h]
 rw[h,ha]
 simp[within]
theorem meet_args2{σ:Sub}{L:List Int}{f:Nat}{x y:Tm}:meet σ L (f+1) [(tP x,tP y)]=meet σ L f [(x,y)]:=by
 have h:pairStep σ L f (look σ (tP x)) (look σ (tP y))=.go σ L f [(x,y)]:=by
  rw[look_fn (t:=tP x) rfl,look_fn (t:=tP y) rfl,pairStep_args rfl rfl (by intro h;rcases h with h | h;exact h rfl;exact h rfl)]
  rfl
 rw[meet_go [] h]
 rfl
theorem meet_1:meet sub0 [] 4000 [(tP tmA,tP (VarT 1))]=.ok subA [1] 3997:=by
 rw[show (4000:Nat)=3999+1 from rfl,meet_args2,show (3999:Nat)=3998+1 from rfl]
 have h:pairStep sub0 [] 3998 (look sub0 tmA) (look sub0 (VarT 1))=.go subA [1] 3997 []:=by
  rw[look_fn (t:=tmA) rfl,look_free (t:=VarT 1) rfl,pairStep_y rfl (by decide)]
  unfold bindStep
  rw[show (VarT 1).var=1 from rfl,show (3998:Nat)=3997+1 from rfl,within_fn (t:=tmA) rfl rfl]
  rfl
 rw[meet_go [] h]
 exact meet_nil _ _ _
theorem meet_2:meet sub0 [] 4000 [(tP (VarT 25),tP (VarT 1))]=.ok subV [25] 3997:=by
 rw[show (4000:Nat)=3999+1 from rfl,meet_args2,show (3999:Nat)=3998+1 from rfl]
 have h:pairStep sub0 [] 3998 (look sub0 (VarT 25)) (look sub0 (VarT 1))=.go subV [25] 3997 []:=by
  rw[look_free (t:=VarT 25) rfl,look_free (t:=VarT 1) rfl,pairStep_x (by decide) (by decide)]
  unfold bindStep
  rw[show (VarT 25).var=25 from rfl,show (3998:Nat)=3997+1 from rfl,within_var (v:=25) (t:=VarT 1) (by decide) rfl (by decide) 3997]
  rfl
 rw[meet_go [] h]
 exact meet_nil _ _ _
theorem look_25:look subV (VarT 25)=VarT 1:=look_eq (n:=1) ⟨by decide,VarT 1,rfl,rfl,.inr rfl⟩
theorem meet_3:meet subV [25] 4000 [(VarT 25,tmB)]=.ok subB1 [25,1] 3998:=by
 rw[show (4000:Nat)=3999+1 from rfl]
 have h:pairStep subV [25] 3999 (look subV (VarT 25)) (look subV tmB)=.go subB1 [25,1] 3998 []:=by
  rw[look_25,look_fn (t:=tmB) rfl,pairStep_x (by decide) (by decide)]
  unfold bindStep
  rw[show (VarT 1).var=1 from rfl,show (3999:Nat)=3998+1 from rfl,within_fn (t:=tmB) rfl rfl]
  rfl
 rw[meet_go [] h]
 exact meet_nil _ _ _
theorem thr_one{σ:Sub}{t:Tm}(h:look σ (VarT 1)=t)(hv:t.var=0)(ha:t.args = []):thrL σ 200 [VarT 1]=some ([.mk 0 t.name []],199):=by
 rw[show (200:Nat)=199+1 from rfl,thrL_fn (by rw[h];exact hv),h,ha,thrL_nil]
 simp only[Option.bind_some,thrL_nil]
 rfl
theorem look_1a:look subA (VarT 1)=tmA:=look_eq (n:=1) ⟨by decide,tmA,rfl,rfl,.inl rfl⟩
theorem look_1b:look subB1 (VarT 1)=tmB:=look_eq (n:=1) ⟨by decide,tmB,rfl,rfl,.inl rfl⟩
def gsA:List Goal:=[(tP (VarT 1),0)]
def begS1:PS:={ σ:=subA,L:=[1],f:=3997,vars:=24,ch:=[⟨gsA,1,sub0,[]⟩],now:=[],ans:=[],fin:=0,steps:=1 }
def begS2:PS:={ σ:=subV,L:=[25],f:=3997,vars:=36,ch:=[],now:=[(tEq (VarT 25) tmB,0)],ans:=[[tmA]],fin:=0,steps:=1 }
def begS3:PS:={ σ:=subB1,L:=[25,1],f:=3998,vars:=36,ch:=[],now:=[],ans:=[[tmA]],fin:=0,steps:=2 }
def begS4:PS:={ σ:=subB1,L:=[25,1],f:=3998,vars:=36,ch:=[],now:=[],ans:=[[tmA],[tmB]],fin:=1,steps:=2 }
theorem beg_1:pstep sampleL 1 10 (startP askL)=begS1:=by
 unfold pstep
 rw[if_neg (by intro h;cases h),if_neg (show ¬ ((startP askL).steps:Int)=10 by decide)]
 simp only[ptake]
 have hl:look (startP askL).σ (headT (startP askL).now)=tP (VarT 1):=look_fn (t:=tP (VarT 1)) rfl
 rw[hl,if_neg (show ¬ (tP (VarT 1)).var≠0 from fun h=>h rfl),if_pos (by decide +kernel)]
 have h0:(0:Nat)<sampleL.length:=by decide
 have hf:FitC sampleL[0] (tP (VarT 1)):=⟨rfl,rfl⟩
 have hn:nextF sampleL (tP (VarT 1)) 1=1:=nextF_fit (p:=sampleL) (i:=1) (by decide) ⟨rfl,rfl⟩
 have hc:pclause sampleL (startP askL).now (tP (VarT 1)) sampleL[0] 0 { startP askL with steps:=(startP askL).steps+1,f:=4000 }=(begS1,some true):=by
  unfold pclause
  have hm:meet (startP askL).σ (startP askL).L 4000 [(far ((startP askL).vars:Int) (sampleL[0]).head,tP (VarT 1))]=.ok subA [1] 3997:=meet_1
  simp only[hm,hn]
  rfl
 rw[pcall_done h0 hf hc]
 rfl
theorem beg_2:pstep sampleL 1 10 begS1=begS2:=by
 unfold pstep
 rw[if_pos (show begS1.now = [] from rfl)]
 simp only[pansw]
 have ht:thrL begS1.σ 200 (varsL 1)=some ([tmA],199):=thr_one look_1a rfl rfl
 rw[ht]
 have hr:(Tm.rens numV [] [tmA]).1 = [tmA]:=rfl
 simp only[hr]
 rw[if_neg (by decide)]
 show pback sampleL 1 { begS1 with ans:=[[tmA]] }=begS2
 simp only[pback]
 have e:({ begS1 with ans:=[[tmA]] }:PS).ch[0]? = some ⟨gsA,1,sub0,[]⟩:=rfl
 rw[e]
 simp only
 have hl:look sub0 (headT gsA)=tP (VarT 1):=look_fn (t:=tP (VarT 1)) rfl
 rw[hl]
 have hn:nextF sampleL (tP (VarT 1)) 2=2:=nextF_stop (p:=sampleL) (by decide)
 have hc:pclause sampleL gsA (tP (VarT 1)) sampleL[1] 1 { begS1 with ans:=[[tmA]],ch:=[],σ:=sub0,L:=[],f:=4000 }=(begS2,some true):=by
  unfold pclause
  have hm:meet sub0 [] 4000 [(far ((24:Nat):Int) (sampleL[1]).head,tP (VarT 1))]=.ok subV [25] 3997:=meet_2
  have hm':meet sub0 [] 4000 [(far (begS1.vars:Int) (sampleL[1]).head,tP (VarT 1))]=.ok subV [25] 3997:=hm
  simp only[hm',hn]
  rfl
 have hp:=pcall_done (p:=sampleL) (gs:=gsA) (t:=tP (VarT 1)) (i:=1) (S:={ begS1 with ans:=[[tmA]],ch:=[],σ:=sub0,L:=[],f:=4000 }) (by decide) ⟨rfl,rfl⟩ hc
 have hp':pcall sampleL gsA (tP (VarT 1)) 1 { σ:=sub0,L:=[],f:=4000,vars:=begS1.vars,ch:=List.take 0 begS1.ch,now:=begS1.now,ans:=[[tmA]],fin:=begS1.fin,steps:=begS1.steps }=(begS2,true):=hp
 rw[hp']
 rfl
theorem beg_3:pstep sampleL 1 10 begS2=begS3:=by
 unfold pstep
 rw[if_neg (by intro h;cases h),if_neg (show ¬ (begS2.steps:Int)=10 by decide)]
 simp only[ptake]
 have hl:look begS2.σ (headT begS2.now)=tEq (VarT 25) tmB:=look_fn (t:=tEq (VarT 25) tmB) rfl
 rw[hl,if_neg (show ¬ (tEq (VarT 25) tmB).var≠0 from fun h=>h rfl),if_neg (by decide +kernel),if_neg (by decide +kernel),if_neg (by decide +kernel),if_neg (by decide +kernel)]
 have hm:meet begS2.σ begS2.L 4000 [((tEq (VarT 25) tmB).args.getD 0 default,(tEq (VarT 25) tmB).args.getD 1 default)]=.ok subB1 [25,1] 3998:=meet_3
 rw[hm]
 rfl
theorem beg_4:pstep sampleL 1 10 begS3=begS4:=by
 unfold pstep
 rw[if_pos (show begS3.now = [] from rfl)]
 simp only[pansw]
 have ht:thrL begS3.σ 200 (varsL 1)=some ([tmB],199):=thr_one look_1b rfl rfl
 rw[ht]
 have hr:(Tm.rens numV [] [tmB]).1 = [tmB]:=rfl
 simp only[hr]
 rw[if_neg (by decide)]
 rfl
theorem begun_solve:solveP sampleL askL 10=begS4:=by
 unfold solveP
 rw[ask_great]
 show prun sampleL 1 10 442 (startP askL)=begS4
 have step:∀ (n:Nat) (S T:PS),S.fin=0→pstep sampleL 1 10 S=T→prun sampleL 1 10 (n+1) S=prun sampleL 1 10 n T:=fun n S T h e=>by
  conv=>lhs;unfold prun;rw[if_pos h,e]
 rw[step 441 _ _ rfl beg_1,step 440 _ _ rfl beg_2,step 439 _ _ rfl beg_3,step 438 _ _ rfl beg_4]
 exact prun_end 438 (by decide)
theorem pr_lit2{w:World}{ok:Nat→Prop}(c d:Cl){a1 a2 a3 a4:Option Addr}{c1 c2 c3 c4:Nat}(h1:Ts w ok c.head.args a1 c1)(h2:Ts w ok c.body a2 c2)(h3:Ts w ok d.head.args a3 c3)(h4:Ts w ok d.body a4 c4)(hf:c.head.fits)(hg:d.head.fits)(hok:ok w.heap.size) :
 Pr (w.alloc (.cells #[.int .i64 c.head.var,.string c.head.name,.slice a1 c.head.args.length c1,.slice a2 c.body.length c2,.int .i64 d.head.var,.string d.head.name,.slice a3 d.head.args.length c3,.slice a4 d.body.length c4] 106)) ok [c,d] (some ⟨w.heap.size,0,none⟩) 2:=by
 have hk:Keeps ok w (w.alloc (.cells #[.int .i64 c.head.var,.string c.head.name,.slice a1 c.head.args.length c1,.slice a2 c.body.length c2,.int .i64 d.head.var,.string d.head.name,.slice a3 d.head.args.length c3,.slice a4 d.body.length c4] 106)):=Keeps.below ((Below.refl _ _).alloc (Nat.le_refl _) _) ok
 refine⟨⟨Nat.le_refl _,by unfold maxLen;omega,fun h=>by cases h⟩,fun i hi=>?_⟩
 rcases (by simp at hi;omega:i=0∨i=1) with rfl | rfl
 ·refine⟨w.heap.size,0,a1,a2,c1,c2,rfl,hok,by simp,Cells3.mk ?_ ?_ ?_ hf,?_,h1.keep hk,h2.keep hk⟩
  all_goals simp[World.cell?,World.alloc,-World.alloc_eq]
 ·refine⟨w.heap.size,0,a3,a4,c3,c4,rfl,hok,by simp,Cells3.mk ?_ ?_ ?_ hg,?_,h3.keep hk,h4.keep hk⟩
  all_goals simp[World.cell?,World.alloc,-World.alloc_eq]
def SmpPost(w:World)(e:Ending)(w':World):Prop:=∃ a,e=.returned (.slice (some a) 2 2)∧Pr w' (fun b=>b<w'.heap.size) sampleL (some a) 2∧Below w.heap.size w w'
set_option maxRecDepth 100000 in
set_option maxHeartbeats 1000000 in
theorem sampleW(w:World):Calls Try.prog 32 #[] w (SmpPost w):=by
 go_enter Try.func32,Try.ntmps32
 go_wp2_with fail
 refine(fnW _ _ _ _ _).mono ?_
 rintro e w1 ⟨rfl,hb1⟩
 go_wp2_with fail
 refine(fnW _ _ _ _ _).mono ?_
 rintro e w2 ⟨rfl,hb2⟩
 have T1:=(ts_lit (w:=w1) (ok:=fun _=>True) tmA (Ts.empty _ _) (fits_lit _ _ _ (by decide) (by decide) (by decide)) trivial).keep (Keeps.below hb2 _)
 have T1H:=lh T1
 have B2:=lh ((hb1.alloc hb1.size (.cells #[.int .i64 0,.string ⟨#[97]⟩,.slice none 0 0] 71)).trans (hb2.mono (by have:=hb1.size;simp;omega)))
 clear hb1 hb2 T1
 go_wp2_with fail
 refine(vaW _ _).mono ?_
 rintro e w3 ⟨rfl,hb3⟩
 go_wp2_with fail
 refine(fnW _ _ _ _ _).mono ?_
 rintro e w4 ⟨rfl,hb4⟩
 have T2:=(ts_lit (w:=w3) (ok:=fun _=>True) (VarT 1) (Ts.empty _ _) (fits_lit _ _ _ (by decide) (by decide) (by decide)) trivial).keep (Keeps.below hb4 _)
 have T2H:=lh T2
 have K34:=((hb3.alloc hb3.size (.cells #[.int .i64 1,.string ⟨#[]⟩,.slice none 0 0] 71)).trans (hb4.mono (by have:=hb3.size;simp;omega)))
 have T1H4:=lh (T1H.out.keep (Keeps.below K34 _))
 have B4:=lh (B2.out.trans (K34.mono B2.out.size))
 clear hb3 hb4 T2 K34 B2 T1H
 go_wp2_with fail
 refine(vaW _ _).mono ?_
 rintro e w5 ⟨rfl,hb5⟩
 go_wp2_with fail
 refine(fnW _ _ _ _ _).mono ?_
 rintro e w6 ⟨rfl,hb6⟩
 have K46:=hb5.trans (hb6.mono hb5.size)
 have T1H6:=lh (T1H4.out.keep (Keeps.below K46 _))
 have T2H6:=lh (T2H.out.keep (Keeps.below K46 _))
 have B6:=lh (B4.out.trans (K46.mono B4.out.size))
 clear hb5 hb6 K46 T1H4 T2H B4
 go_wp2_with fail
 refine(fnW _ _ _ _ _).mono ?_
 rintro e w7 ⟨rfl,hb7⟩
 have T3:=(ts_lit2 (w:=w6) (ok:=fun _=>True) (VarT 1) tmB (Ts.empty _ _) (Ts.empty _ _) (fits_lit _ _ _ (by decide) (by decide) (by decide)) (fits_lit _ _ _ (by decide) (by decide) (by decide)) trivial).keep (Keeps.below hb7 _)
 have K67:=((Below.refl w6.heap.size w6).alloc (Nat.le_refl _) (.cells #[.int .i64 1,.string ⟨#[]⟩,.slice none 0 0,.int .i64 0,.string ⟨#[98]⟩,.slice none 0 0] 71)).trans (hb7.mono (by simp))
 have T1H7:=T1H6.out.keep (Keeps.below K67 _)
 have T2H7:=T2H6.out.keep (Keeps.below K67 _)
 have B7:=lh (B6.out.trans (K67.mono B6.out.size))
 have T4:=ts_lit (w:=w7) (tEq (VarT 1) tmB) T3 (fits_lit _ _ _ (by decide) (by decide) (by decide)) trivial
 have K78:=(Below.refl w7.heap.size w7).alloc (Nat.le_refl _) (.cells #[.int .i64 0,.string ⟨#[101,113]⟩,.slice (some ⟨w6.heap.size,0,none⟩) 2 2] 71)
 have TP:=pr_lit2 (⟨tP tmA,[]⟩:Cl) (⟨tP (VarT 1),[tEq (VarT 1) tmB]⟩:Cl) (T1H7.keep (Keeps.below K78 _)) (Ts.empty _ _) (T2H7.keep (Keeps.below K78 _)) T4 (fits_lit _ _ _ (by decide) (by decide) (by decide)) (fits_lit _ _ _ (by decide) (by decide) (by decide)) trivial
 have hsz:(w7.alloc (.cells #[.int .i64 0,.string ⟨#[101,113]⟩,.slice (some ⟨w6.heap.size,0,none⟩) 2 2] 71)).heap.size=w7.heap.size+1:=by simp
 have TPH:=lh TP
 have BE:=lh ((B7.out.trans (K78.mono B7.out.size)).alloc (by have:=B7.out.size;rw[hsz];omega) (.cells #[.int .i64 0,.string ⟨#[112]⟩,.slice (some ⟨w1.heap.size,0,none⟩) 1 1,.slice none 0 0,.int .i64 0,.string ⟨#[112]⟩,.slice (some ⟨w3.heap.size,0,none⟩) 1 1,.slice (some ⟨w7.heap.size,0,none⟩) 1 1] 106))
 have HS:=lh hsz
 clear hb7 K67 K78 T1H7 T2H7 T3 T4 TP B7 hsz
 go_wp2_with fail
 go_ret
 rw[HS.out] at TPH
 exact⟨_,rfl,TPH.out.mono fun b hb _=>hb,BE.out⟩
end Go.Proofs.Ytikmgiapjigghab
