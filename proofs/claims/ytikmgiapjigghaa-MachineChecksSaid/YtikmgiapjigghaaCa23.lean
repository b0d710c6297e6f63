/- Walk: a machine goes back to a choice. -/
import Derived.RangeFuncNested
import Derived.RangeFuncBound
import Derived.RangeFuncCalls
import Derived.RangeFuncLeaves
import Derived.RangeFuncFrom
import Derived.Shelf.Abstract
import Derived.WalkKit
import Derived.OwnWalkIn
import Derived.TacticsInMore
import Derived.LoopNIn
import Derived.LoopIn
import Derived.Deep.DeepCutAuto
import Derived.Deep.RegionHeld3
import Derived.Test.YtikmgiapjigghaaCa12
import Derived.Test.YtikmgiapjigghaaCa16
import Derived.Test.YtikmgiapjigghaaCa19
import Derived.Test.YtikmgiapjigghaaCa20
import Derived.Test.YtikmgiapjigghaaCa22
namespace Go.Proofs.Ytikmgiapjigghaa
open Go.RowKit
theorem IsAt.drop{w:World}{ok:Nat→Prop}{l:List Int}{a:Option Addr}{cap:Nat}(h:IsAt w ok l a cap){k:Nat}(hk:k≤l.length):IsAt w ok (l.drop k) (if cap=k then a else a.map fun x=>x.add k) (cap-k):=by
 have hc:=h.cap
 refine⟨⟨by rw[List.length_drop];omega,by omega,fun e=>?_⟩,fun i hi=>?_⟩
 ·split at e
  ·omega
  ·cases a with
   | none=>have:=hc.2.2 rfl;omega
   | some a=>cases e
 ·rw[List.length_drop] at hi
  obtain⟨b,off,rfl,h2,h3,h4⟩:=h.at' (k+i) (by omega)
  refine⟨b,off+k,?_,h2,h3,?_⟩
  ·rw[if_neg (by omega)];simp[Addr.add]
  ·rw[List.getElem_drop,Nat.add_assoc];exact h4
theorem Touch.cell{M:Nat→Prop}{w w':World}(h:Touch M w w'){p:Addr}(hb:p.block<w.heap.size)(hn:¬ M p.block):w'.cell? p=w.cell? p :=
 (h.keeps (ok:=fun b=>¬ M b) fun _ hb=>hb).cell hn hb
theorem flatH_take(l:List HC)(k:Nat):flatH (l.take k)=(flatH l).take (k*3):=by
 induction l generalizing k with
 | nil=>simp[flatH]
 | cons x l ih =>
  cases k with
  | zero=>simp[flatH]
  | succ k=>rw[show (k+1)*3=k*3+1+1+1 by omega,List.take_succ_cons];simp only[flatH,List.take_succ_cons,ih]
theorem HOwn.cut{w:World}{base:Nat}{a:Option Addr}{n cap:Nat}{H:List HC}(h:HOwn w base (.slice a n cap) H){k:Nat}(hk:k≤H.length):HOwn w base (.slice a k cap) (H.take k):=by
 have hr:=ownsRow_cut h.row hk
 rw[← flatH_take] at hr
 have hl:(H.take k).length=k:=by rw[List.length_take];omega
 refine⟨by rw[hl];exact hr,fun i hi=>?_⟩
 rw[hl] at hi
 rw[hc_take hi]
 exact h.fits i (by omega)
theorem unbind_snoc(top:Int):∀ (l:List Int) (x:Int) (H:List HC),unbind top (l++[x]) H=if x<top then (unbind top l H).set x.toNat ⟨1,x,⟨#[]⟩⟩ else unbind top l H:=by
 intro l
 induction l with
 | nil=>intro x H;rfl
 | cons y l ih=>intro x H;simp only[List.cons_append,unbind];rw[ih]
theorem HOwn.unb{w:World}{base g cap:Nat}{H:List HC}{n:Nat}(h:HOwn w base (.slice (some ⟨g,0,none⟩) n cap) H)(hn:n=H.length){p:Nat}{x:Int}(hp:p<H.length)(hx:I64 x) :
 HOwn (((w.setCell ⟨g,p*3,none⟩ (.int .i64 1)).setCell ⟨g,p*3+1,none⟩ (.int .i64 x)).setCell ⟨g,p*3+2,none⟩ (.string ⟨#[]⟩)) base (.slice (some ⟨g,0,none⟩) n cap) (H.set p ⟨1,x,⟨#[]⟩⟩):=by
 subst hn
 have h0:=(World.ownsRow.stored h.row (p*3) (.int .i64 1)).1
 have h1:=(World.ownsRow.stored h0 (p*3+1) (.int .i64 x)).1
 have h2:=(World.ownsRow.stored h1 (p*3+2) (.string ⟨#[]⟩)).1
 rw[← flatH_set H p hp ⟨1,x,⟨#[]⟩⟩] at h2
 refine⟨by rw[List.length_set];exact h2,fun i hi=>?_⟩
 rw[List.length_set] at hi
 rw[hc_set H p i _ hp]
 by_cases e:i=p
 ·rw[if_pos e];exact⟨(by show I64 (1:Int);unfold I64;decide),hx,(by show (⟨#[]⟩:ByteArray).size≤maxLen;unfold maxLen;decide)⟩
 ·rw[if_neg e];exact h.fits i hi
structure UAt(w:World)(B o:Nat)(vs:Array Value)(ty:TypeId)(base:Nat)(H:List HC)(T:List Int)(nG:Nat)(ha ta ga:Option Addr)(hn tn gn:Nat):Prop where
 blk:w.heap[B]? = some (.cells vs ty (0,0))
 h:vs[o]? = some (.slice ha H.length hn)
 g:vs[o+1]? = some (.slice ga nG gn)
 t:vs[o+4]? = some (.slice ta T.length tn)
 own:HOwn w base (.slice ha H.length hn) H
 tr:IsAt w (fun b=>b≠B∧(Value.slice ha H.length hn).ownBlock≠some b) T ta tn
 ne:(Value.slice ha H.length hn).ownBlock≠some B
 gc:nG≤gn∧gn≤maxLen
def UndoMPost(w:World)(B o:Nat)(vs:Array Value)(ty:TypeId)(base:Nat)(H:List HC)(T:List Int)(ha ta ga:Option Addr)(hn tn gn:Nat)(c:Chi)(e:Ending)(w':World):Prop :=
 (∃ v,e=.returned v)∧Touch (fun b=>b=B∨(Value.slice ha H.length hn).ownBlock=some b) w w' ∧
 w'.heap[B]? = some (.cells (((vs.setIfInBounds o (.slice ha c.heap.toNat hn)).setIfInBounds (o+4) (.slice ta c.trail.toNat tn)).setIfInBounds (o+1) (.slice ga c.goals.toNat gn)) ty (0,0)) ∧
 HOwn w' base (.slice ha c.heap.toNat hn) ((unbind c.heap (T.drop c.trail.toNat) H).take c.heap.toNat)
set_option maxRecDepth 100000 in
set_option maxHeartbeats 3200000 in
theorem UndoMW{w:World}{B o:Nat}{vs:Array Value}{ty:TypeId}{base:Nat}{H:List HC}{T:List Int}{nG:Nat}{ha ta ga:Option Addr}{hn tn gn:Nat}(h:UAt w B o vs ty base H T nG ha ta ga hn tn gn){c:Chi}
 (hH:0≤c.heap∧c.heap≤(H.length:Int)) (hT:0≤c.trail∧c.trail≤(T.length:Int)) (hG:0≤c.goals∧c.goals≤(nG:Int)) (hx:∀ x,x∈T→0≤x) (hl:H.length≤400000) :
 Calls Try.prog 126 #[.pointer (some ⟨B,o,none⟩),.agg #[.int .i64 c.goal,.int .i64 c.clause,.int .i64 c.heap,.int .i64 c.trail,.int .i64 c.goals]] w (UndoMPost w B o vs ty base H T ha ta ga hn tn gn c):=by
 have HU:=Lib.hid h
 have q0:w.cell? ⟨B,o,none⟩=some (.slice ha H.length hn):=by have:=h.h;simp[World.cell?,h.blk,this]
 have q1:w.cell? ⟨B,o+1,none⟩=some (.slice ga nG gn):=by have:=h.g;simp[World.cell?,h.blk,this]
 have q4:w.cell? ⟨B,o+4,none⟩=some (.slice ta T.length tn):=by have:=h.t;simp[World.cell?,h.blk,this]
 have zB:B<w.heap.size:=(Array.getElem?_eq_some_iff.1 h.blk).1
 have hT9:T.length≤9223372036854775807:=by have:=h.tr.cap;unfold maxLen at this;omega
 clear h
 obtain⟨t0,t1⟩:=hT
 go_enter Try.func126,Try.ntmps126
 go_wp2_with fail
 go_quiet (fail)
 have HB0:Hid (Below w.heap.size w ((w.alloc (.cells #[.int .i64 c.goal,.int .i64 c.clause,.int .i64 c.heap,.int .i64 c.trail,.int .i64 c.goals] 157)).drewN nq)):=Lib.hid (((Below.refl _ _).alloc (Nat.le_refl _) _).trans ((below_drewN _ nq).mono (by simp)))
 have HC0:Hid (CBox ((w.alloc (.cells #[.int .i64 c.goal,.int .i64 c.clause,.int .i64 c.heap,.int .i64 c.trail,.int .i64 c.goals] 157)).drewN nq) w.heap.size c):=Lib.hid (CBox.keep (w:=w.alloc (.cells #[.int .i64 c.goal,.int .i64 c.clause,.int .i64 c.heap,.int .i64 c.trail,.int .i64 c.goals] 157)) ⟨heap_alloc_new w _⟩ ((below_drewN _ nq).block _ (by simp)))
 generalize (w.alloc (.cells #[.int .i64 c.goal,.int .i64 c.clause,.int .i64 c.heap,.int .i64 c.trail,.int .i64 c.goals] 157)).drewN nq=W0 at *
 have HD:=Lib.hid ((HU.out.tr.keep (Keeps.below HB0.out _)).drop (k:=c.trail.toNat) (by omega))
 generalize (if tn=c.trail.toNat then ta else Option.map (fun x=>x.add c.trail.toNat) ta)=ta2 at *
 have hdl:(T.drop c.trail.toNat).length=T.length-c.trail.toNat:=List.length_drop
 have HDX:Hid (∀ x,x∈T.drop c.trail.toNat→0≤x):=Lib.hid fun x h=>hx x (List.mem_of_mem_drop h)
 have hd9:(T.drop c.trail.toNat).length≤9223372036854775807:=by omega
 rw[← hdl]
 clear hdl
 generalize hTD:T.drop c.trail.toNat=TD at *
 have HTD:=Lib.hid hTD
 clear hTD
 go_wp2_with fail
 go_loopw[14] (fun x14 wr=>∃ j:Nat,j≤TD.length∧x14=.int .i64 j∧Hid (HOwn wr base (.slice ha H.length hn) (unbind c.heap (TD.take j) H))∧Hid (Touch (fun b=>(Value.slice ha H.length hn).ownBlock=some b) W0 wr)) (fun x14 _=>TD.length-(intOf x14).toNat)
 case atStart=>exact⟨0,Nat.zero_le _,rfl,Lib.hid (by rw[List.take_zero];exact HU.out.own.below HB0.out),Lib.hid (Touch.refl _ _)⟩
 case round =>
  obtain⟨j,hj,rfl,HO,HT⟩:=hrel
  by_cases hlt:j<TD.length
  ·obtain⟨b,off,hta,hokb,hb,m0⟩:=HD.out.at' j hlt
   subst hta
   have y0:wr.cell? ⟨b,off+j,none⟩=some (.int .i64 TD[j]):=(HT.out.cell (p:=⟨b,off+j,none⟩) hb hokb.2).trans m0
   have xB:(Value.slice ha H.length hn).ownBlock≠some B:=HU.out.ne
   have zB2:=HB0.out.size
   have qh:wr.cell? ⟨B,o,none⟩=some (.slice ha H.length hn):=(HT.out.cell (p:=⟨B,o,none⟩) (by show B<_;omega) xB).trans ((HB0.out.cell (p:=⟨B,o,none⟩) zB).trans q0)
   have zc:(Value.slice ha H.length hn).ownBlock≠some w.heap.size:=fun e=>by have:=(HU.out.own.row.lt _ e).2;omega
   obtain⟨k0,k1,k2,k3,k4,-⟩:=(HC0.out.keep (HT.out.block _ HC0.out.lt zc)).all
   have hxn:=HDX.out _ (List.getElem_mem hlt)
   have HSN:Hid (unbind c.heap (TD.take (j+1)) H=if TD[j]<c.heap then (unbind c.heap (TD.take j) H).set TD[j].toNat ⟨1,TD[j],⟨#[]⟩⟩ else unbind c.heap (TD.take j) H):=Lib.hid (by rw[List.take_succ_eq_append_getElem hlt,unbind_snoc])
   have hul:=unbind_length c.heap (TD.take j) H
   by_cases hc:TD[j]<c.heap
   ·obtain⟨p,hp⟩:∃ p:Nat,TD[j]=(p:Int):=⟨TD[j].toNat,by omega⟩
    rw[hp,if_pos (by omega),Int.toNat_natCast] at HSN
    rw[hp] at y0 hc
    have hpl:p<H.length:=by omega
    have hrow:=HO.out.row
    rw[hul] at hrow
    obtain⟨g,cap,hgv⟩:=own_shape hrow (by omega)
    injection hgv with e1 _ e2
    subst e1;subst e2
    have HO2:=Lib.hid (HO.out.unb (p:=p) (x:=(p:Int)) hul.symm (by omega) (by unfold I64;omega))
    obtain⟨a2,c2,e,hpp⟩:=HpAt.of_row (ok:=fun _=>True) HO.out.row (fun _ _=>trivial) HO.out.fits
    injection e with e1 _ e2
    subst e1;subst e2
    obtain⟨b',off',he,-,zg,d0,d1,d2,-⟩:=hpp.at' p (by omega)
    injection he with he
    injection he with e1 e2
    subst e1;subst e2
    rw[Nat.zero_add] at d0 d1 d2
    have gf:∀ o,wr.frozen? ⟨g,o,none⟩=false:=fun o=>hrow.frozenAt o
    rw[← HSN.out] at HO2
    have HT2:=Lib.hid (((HT.out.trans (Touch.setCell (p:=⟨g,p*3,none⟩) (.int .i64 1) rfl)).trans (Touch.setCell (p:=⟨g,p*3+1,none⟩) (.int .i64 (p:Int)) rfl)).trans (Touch.setCell (p:=⟨g,p*3+2,none⟩) (.string ⟨#[]⟩) rfl))
    have p0:(0:Int)≤(p:Int):=by omega
    have p1:(p:Int)<(H.length:Int):=by omega
    clear hxn hul HSN hpp hrow hp hpl
    go_wp2_with fail
    go_roundw
    case measure=>simp only[intOf];omega
    case rel=>exact⟨j+1,by omega,by go_num,HO2,HT2⟩
   ·have HO2:Hid (HOwn wr base (.slice ha H.length hn) (unbind c.heap (TD.take (j+1)) H)):=Lib.hid (by rw[HSN.out,if_neg hc];exact HO.out)
    clear hxn hul HSN
    go_wp2_with fail
    go_roundw
    case measure=>simp only[intOf];omega
    case rel=>exact⟨j+1,by omega,by go_num,HO2,HT⟩
  ·have xB:(Value.slice ha H.length hn).ownBlock≠some B:=HU.out.ne
   have zB2:=HB0.out.size
   have hkB:wr.heap[B]? = some (.cells vs ty (0,0)):=((HT.out.block B (by omega) xB).trans (HB0.out.block B zB)).trans HU.out.blk
   have HKB:=Lib.hid hkB
   have r0:wr.cell? ⟨B,o,none⟩=some (.slice ha H.length hn):=by have:=HU.out.h;simp[World.cell?,hkB,this]
   have r1:wr.cell? ⟨B,o+1,none⟩=some (.slice ga nG gn):=by have:=HU.out.g;simp[World.cell?,hkB,this]
   have r4:wr.cell? ⟨B,o+4,none⟩=some (.slice ta T.length tn):=by have:=HU.out.t;simp[World.cell?,hkB,this]
   have rf:∀ i,wr.frozen? ⟨B,i,none⟩=false:=fun i=>by simp[World.frozen?,hkB]
   have zc:(Value.slice ha H.length hn).ownBlock≠some w.heap.size:=fun e=>by have:=(HU.out.own.row.lt _ e).2;omega
   obtain⟨k0,k1,k2,k3,k4,-⟩:=(HC0.out.keep (HT.out.block _ HC0.out.lt zc)).all
   have hcap:=HU.out.own.row
   have hh0:=hH.1
   have HH2:=Lib.hid hH.2
   have hh1:c.heap≤(hn:Int):=by
    obtain⟨a2,c2,e,hpp⟩:=HpAt.of_row (ok:=fun _=>True) hcap (fun _ _=>trivial) HU.out.own.fits
    injection e with _ _ e2
    have:=hpp.cap;omega
   have ht1:c.trail≤(tn:Int):=by have:=HU.out.tr.cap;omega
   have hg0:=hG.1
   have hg1:c.goals≤(gn:Int):=by have:=HU.out.gc;omega
   clear hkB xB zc hcap hH hG
   go_wp2_with fail
   go_region
   have HJ:Hid (TD.take j=TD):=Lib.hid (List.take_of_length_le (by omega))
   have z1:=heap_setCell_at wr B o (.slice ha c.heap.toNat hn) HKB.out
   have z2:=heap_setCell_at _ B (o+4) (.slice ta c.trail.toNat tn) z1
   have z3:=heap_setCell_at _ B (o+1) (.slice ga c.goals.toNat gn) z2
   have hcut:=HO.out.cut (k:=c.heap.toNat) (by rw[unbind_length];have:=HH2.out;omega)
   rw[HJ.out,← HTD.out] at hcut
   have hown:HOwn ((wr.setCell ⟨B,o,none⟩ (.slice ha c.heap.toNat hn)).setCell ⟨B,o+4,none⟩ (.slice ta c.trail.toNat tn) |>.setCell ⟨B,o+1,none⟩ (.slice ga c.goals.toNat gn)) base (.slice ha c.heap.toNat hn) ((unbind c.heap (T.drop c.trail.toNat) H).take c.heap.toNat):=hcut.keep fun g hg=>by
    have hgB:g≠B:=fun e=>HU.out.ne (by
     cases ha with
     | none=>cases hg
     | some a=>rw[← e];exact hg)
    rw[Below.heap_setCell _ _ _ _ hgB,Below.heap_setCell _ _ _ _ hgB,Below.heap_setCell _ _ _ _ hgB]
   have hto:Touch (fun b=>b=B∨(Value.slice ha H.length hn).ownBlock=some b) w ((wr.setCell ⟨B,o,none⟩ (.slice ha c.heap.toNat hn)).setCell ⟨B,o+4,none⟩ (.slice ta c.trail.toNat tn) |>.setCell ⟨B,o+1,none⟩ (.slice ga c.goals.toNat gn)) :=
    ((((Touch.below HB0.out).trans (HT.out.mono fun b _ e=>.inr e)).trans (Touch.setCell _ (.inl rfl))).trans (Touch.setCell _ (.inl rfl))).trans (Touch.setCell _ (.inl rfl))
   have hdr:=below_drewN (wr.setCell ⟨B,o,none⟩ (.slice ha c.heap.toNat hn) |>.setCell ⟨B,o+4,none⟩ (.slice ta c.trail.toNat tn) |>.setCell ⟨B,o+1,none⟩ (.slice ga c.goals.toNat gn)) 1
   refine bodyPost_ret (v:=.tuple #[]) (by simp[results,Try.results126,go_sem]) rfl ⟨⟨_,rfl⟩,hto.trans (Touch.below hdr),?_,hown.below hdr⟩
   exact z3
end Go.Proofs.Ytikmgiapjigghaa

/- A range over a function that hands back the elements of a list, each in its turn: what a round finds is told by how many there were. -/
namespace Go.Proofs.Ytikmgiapjigghaa
open Go.RowKit Go.Shelf
def Turns(F:Fence)(n:Nat)(P:Program)(gf:Nat)(lb:Array Value)(encs:Nat→Array Value)(Kp:World→World→Prop)(N:Nat)(w:World):Prop :=
 ∀ (l:Nat) (J:Nat→World→Prop) (Jx:Unit→World→Prop) (W:World),Below w.heap.size w W→AbidesFrom W.heap.size J→AbidesFrom W.heap.size Jx →
  (∀ i V,i<N→J i V→YieldAt F (n-1) P l (encs i) V fun e V'=>(e=.returned (.bool true)∧J (i+1) V'∧Kp V V')∨(e=.returned (.bool false)∧Jx () V')) →
  J 0 W→CallsIn F n P gf (#[.func (.yield l) #[] #[]]++lb) W fun e V=>(∃ v,e=.returned v)∧(J N V∨Jx () V)
def RoundEnd(B:Nat)(Kp:World→World→Prop)(I:World→Prop)(Ix:Unit→World→Prop)(W:World):Exit→Act→World→Prop
 | .normal,_,V=>KeepsFrom B W V∧Kp W V∧I V
 | .ret,_,V=>KeepsFrom B W V∧Ix () V
 | _,_,_=>False
theorem wpIn_turns{F:Fence}{n:Nat}{P:Program}{g:Operand}{ps:Array Tmp}{assign body:Code}{Q:Exit→Act→World→Prop}{a:Act}{w:World}(hro:F.round=none)(h1:1≤n){gf:Nat}{lb:Array Value}(hg:a.eval g=.func (.func gf) #[] lb)(hFg:F.fn gf)
 (eg:∀ args w,(callFunc gf args).run P w=.ok (.enter gf args) w) {encs:Nat→Array Value} {Kp:World→World→Prop} {N:Nat} {w0:World} (hseq:Turns F (n-1) P gf lb encs Kp N w0) (hKt:∀ {A B C:World},Kp A B→Kp B C→Kp A C) (hKb:∀ (W:World) (l:Nat) (o o':Obj),w.heap.size≤l→W.heap[l]? = some o→o.isCells=false→Kp W (W.putObj l o')) (hb0:Below w0.heap.size w0 w) (hps:∀ i,(encs i).size=ps.size)
 (I:Nat→World→Prop) (Ix:Unit→World→Prop) (hI:OwnFrom w.heap.size I) (hIx:OwnFrom w.heap.size Ix) (h0:I 0 w) (Ax:Nat→Act→World→Prop) (hAx:∀ a',OwnFrom w.heap.size (fun i W=>Ax i a' W))
 (hassign:∀ (l i:Nat) (W:World) (K:Act→World→Prop),i<N→I i W→(∀ a' W',KeepsFrom w.heap.size W W'→Kp W W'→I i W'→Ax i a' W'→K a' W') →
  assign.wpIn (F.inRound l) (n-1-1) P (Exit.then K (fun _ _ _=>False)) { tmps:=(ps.zip (encs i)).foldl (fun t (p,v)=>t.setIfInBounds p v) a.tmps,defers:=[] } W)
 (hbody:∀ (l i:Nat) (a':Act) (W:World),i<N→I i W→Ax i a' W→body.wpIn (F.inRound l) (n-1-1) P (RoundEnd w.heap.size Kp (I (i+1)) Ix W) a' W)
 (hdone:∀ (D:Nat) (W:World),w.heap.size≤D→I N W→W.heap[D]? = some (.deferred (some []))→Q .normal { a with defers:={ target:=.collected D,args:=#[] }::a.defers } W)
 (hstop:∀ (D:Nat) (W:World),w.heap.size≤D→Ix () W→W.heap[D]? = some (.deferred (some []))→Code.ret.wpIn F n P Q { a with defers:={ target:=.collected D,args:=#[] }::a.defers } W) :
 (Code.rangeFunc g ps assign body).wpIn F n P Q a w:=by
 refine wpIn_rangeFunc fun fn hfn=>?_
 rw[hro]
 -- the two blocks of book-keeping
 let rc:LoopState→Option Code→Loop:=fun st pe=>{ state:=st,pending:=pe,fn:=fn,tmps:=a.tmps,params:=ps,assign:=assign,body:=body,defers:=w.heap.size }
 let V0:World:=(w.alloc (.deferred (some []))).alloc (.loop (rc .ready none))
 have sV:V0.heap.size=w.heap.size+2:=by simp[V0]
 have vL:V0.heap[w.heap.size+1]? = some (.loop (rc .ready none)):=by
  have:=World.alloc_heap_new (w.alloc (.deferred (some []))) (.loop (rc .ready none));rwa [World.size_alloc] at this
 have vD:V0.heap[w.heap.size]? = some (.deferred (some [])):=(Below.heap_alloc _ _ _ (by simp)).trans (World.alloc_heap_new w _)
 have vB:Below w0.heap.size w0 V0:=hb0.trans ((((Below.refl _ w).alloc (Nat.le_refl _) _).alloc (by simp) _).mono hb0.size)
 -- what holds of a world beside them
 let St:(World→Prop)→LoopState→Option Code→World→Prop:=fun p st pe W=>p W∧W.heap[w.heap.size+1]? = some (.loop (rc st pe))∧W.heap[w.heap.size]? = some (.deferred (some []))
 have abide:∀ {β:Type} {p:β→World→Prop} (_:OwnFrom w.heap.size p) (st:LoopState) (pe:Option Code),AbidesFrom V0.heap.size (fun s W=>St (p s) st pe W):=fun {β p} hp st pe s A B row hs hgr hr=>by
  have hr2:∀ r,row=some r→∃ o:Obj,A.heap[r]? = some o∧o.isWalk=true:=fun r e=>(hr r e).2
  refine⟨hp s A B row hs.1 hgr fun r e=>?_,(grownBy_keeps hgr hr2 hs.2.1 rfl).trans hs.2.1,(grownBy_keeps hgr hr2 hs.2.2 rfl).trans hs.2.2⟩
  obtain⟨hB,o,ho,hw⟩:=hr r e
  exact⟨by omega,o,ho,Obj.not_cells_of_walk hw⟩
 refine⟨w.heap.size+1,[{ target:=.collected w.heap.size,args:=#[] }],V0,{ target:=.fn (.func gf) lb,args:=#[.func (.yield (w.heap.size+1)) #[] #[]] },V0,gf,
  #[.func (.yield (w.heap.size+1)) #[] #[]]++lb,V0,run_enterLoop_outer _ _ _ _ _,?_,?_,?_,fun _=>h1,?_⟩
 ·simp only[resolve,hg];simp[go_sem]
 ·intro f' hf';simp[Target.leads] at hf';subst hf';exact hFg
 ·simp[invoke,go_sem,eg]
 have hcall:=hseq (w.heap.size+1) (fun i W=>St (I i) .ready none W) (fun u W=>St (Ix u) .done (some .ret) W) V0 vB (abide hI _ _) (abide hIx _ _) ?_ ⟨hI.alloc _ (hI.alloc _ h0),vL,vD⟩
 ·refine hcall.mono ?_
  rintro e W2 ⟨⟨v,rfl⟩,hend⟩
  rcases hend with ⟨hi,hl,hk⟩ | ⟨hi,hl,hk⟩
  ·refine⟨none,_,run_endLoop (P:=P) hl (by simp[rc]),hdone _ _ (Nat.le_refl _) (hI.putObj _ hi (by omega) hl rfl) ((World.putObj_heap_other (by omega)).trans hk)⟩
  ·refine⟨some .ret,_,run_endLoop (P:=P) hl (by simp[rc]),hstop _ _ (Nat.le_refl _) (hIx.putObj _ hi (by omega) hl rfl) ((World.putObj_heap_other (by omega)).trans hk)⟩
 -- a round
 rintro i W hN ⟨hi,hl,hk⟩
 refine⟨fn,_,assign,body,run_yield (P:=P) (args:=encs i) hl (hps i),roundIn_of_wpIn hfn (hassign _ i W _ hN hi ?_)⟩
 intro a' Wa hka hkp hia hax
 have la:=hka.same _ _ (by omega) hl rfl
 have da:=hka.same _ _ (Nat.le_refl _) hk rfl
 have zl:w.heap.size+1<Wa.heap.size:=(Array.getElem?_eq_some_iff.1 la).1
 have lb2:(Wa.putObj (w.heap.size+1) (.loop { rc .ready none with state:=.busy })).heap[w.heap.size+1]? = some (.loop { rc .ready none with state:=.busy }):=World.putObj_heap_same zl
 have db2:(Wa.putObj (w.heap.size+1) (.loop { rc .ready none with state:=.busy })).heap[w.heap.size]? = some (.deferred (some [])):=(World.putObj_heap_other (by omega)).trans da
 refine⟨_,run_beginRound la (by simp[rc]),wpIn_mono (hbody _ i a' _ hN (hI.putObj _ hia (by omega) la rfl) ((hAx a').putObj _ hax (by omega) la rfl)) ?_⟩
 intro e a3 V hend
 have last:∀ (p:World→Prop) (st:LoopState) (jump:Option Code),st=(if jump.isNone then .ready else .done)→KeepsFrom w.heap.size (Wa.putObj (w.heap.size+1) (.loop { rc .ready none with state:=.busy })) V→(∀ V',V'=V.putObj (w.heap.size+1) (.loop (rc st jump))→p V') →
  (Instr.endRound (w.heap.size+1) jump).run P V=.ok (.bool jump.isNone) (V.putObj (w.heap.size+1) (.loop (rc st jump)))∧St p st jump (V.putObj (w.heap.size+1) (.loop (rc st jump))):=fun p st jump hst hkv hp=>by
  have l3:=hkv.same _ _ (by omega) lb2 rfl
  have r3:=run_endRound (P:=P) jump l3
  subst hst
  exact⟨r3,hp _ rfl,World.putObj_heap_same (Array.getElem?_eq_some_iff.1 l3).1,(World.putObj_heap_other (by omega)).trans (hkv.same _ _ (Nat.le_refl _) db2 rfl)⟩
 cases e with
 | normal =>
  obtain⟨k3,kp3,i3⟩:=hend
  have l3:=k3.same _ _ (by omega) lb2 rfl
  have kp4:=hKt hkp (hKt (hKt (hKb Wa (w.heap.size+1) _ (.loop { rc .ready none with state:=.busy }) (by omega) la rfl) kp3) (hKb V (w.heap.size+1) _ (.loop (rc .ready none)) (by omega) l3 rfl))
  obtain⟨hr,hs⟩:=last (I (i+1)) .ready none rfl k3 (fun V' e=>by rw[e];exact hI.putObj _ i3 (by omega) l3 rfl)
  exact⟨_,_,hr,.inl ⟨rfl,hs,kp4⟩⟩
 | ret =>
  obtain⟨k3,i3⟩:=hend
  have l3:=k3.same _ _ (by omega) lb2 rfl
  obtain⟨hr,hs⟩:=last (Ix ()) .done (some .ret) rfl k3 (fun V' e=>by rw[e];exact hIx.putObj _ i3 (by omega) l3 rfl)
  exact⟨_,_,hr,.inr ⟨rfl,hs⟩⟩
 | exit id=>exact hend.elim
 | goto t=>exact hend.elim
 | panic ch=>exact hend.elim
 | outgrown=>exact hend.elim
end Go.Proofs.Ytikmgiapjigghaa

/- Walks: slices.Backward, of choices and of numbers. -/
namespace Go.Proofs.Ytikmgiapjigghaa
open Go.RowKit Go.Shelf
attribute [local go_sem] Oper.semAt_some
def chiV(c:Chi):Value:=.agg #[.int .i64 c.goal,.int .i64 c.clause,.int .i64 c.heap,.int .i64 c.trail,.int .i64 c.goals]
def backK(l:List Chi)(i:Nat):Array Value:=#[.int .i64 ((l.length-1-i:Nat):Int),chiV (l.getD (l.length-1-i) zeroChi)]
set_option maxRecDepth 100000 in
set_option maxHeartbeats 1000000 in
theorem backK_turns{n:Nat}(hn:1≤n){w0:World}{B0:Nat}{ok:Nat→Prop}(l:List Chi){a:Option Addr}{cap:Nat}(hB:B0<w0.heap.size∧ok B0)(h0:w0.cell? ⟨B0,0,none⟩=some (.slice a l.length cap))(hr:RwAt w0 ok 5 l.length (flatK l) a cap) :
 Turns Fence.wide n Try.prog 148 #[.pointer (some ⟨B0,0,none⟩)] (backK l) (Keeps ok) l.length w0:=by
 intro lp J Jx W hW hJ hJx hY hJ0
 have hro:Fence.wide.round=none:=rfl
 have hl9:l.length≤9223372036854775807:=by have:=hr.cap;unfold maxLen at this;omega
 have HY:=Lib.hid hY;have HR:=Lib.hid hr
 have HKW:Hid (Keeps ok w0 W):=Lib.hid (Keeps.below hW ok)
 have HJ0:=Lib.hid hJ0
 have c0:=(HKW.out.cell (p:=⟨B0,0,none⟩) hB.2 hB.1).trans h0
 clear hY hJ hJx hr hJ0
 refine callsIn_of_wp Try.func148 rfl trivial ?_ hro
 simp only[Try.ntmps148,List.size_toArray,List.length_cons,List.length_nil,Nat.reduceAdd,Nat.reduceSub,Array.replicate_succ,Array.replicate_zero,List.push_toArray,List.append_toArray,List.nil_append,List.cons_append]
 gi_wp2
 gi_loopw [3] (fun p wr=>∃ j:Nat,j≤l.length∧p=.int .i64 ((l.length:Int)-1-j)∧Hid (J j wr)∧Hid (Keeps ok W wr)) (fun p _=>(intOf p+1).toNat)
 case atStart=>exact⟨0,Nat.zero_le _,by go_num,HJ0,Lib.hid (Keeps.below (Below.refl _ _) ok)⟩
 case round =>
  obtain⟨j,hj,rfl,HJ,HK⟩:=hrel
  have c1:=(HK.out.cell (p:=⟨B0,0,none⟩) hB.2 (Nat.lt_of_lt_of_le hB.1 hW.size)).trans c0
  by_cases hlt:j<l.length
  ·obtain⟨q,hq,hql⟩:∃ q:Nat,q=l.length-1-j∧q<l.length:=⟨l.length-1-j,rfl,by omega⟩
   have hqi:(l.length:Int)-1-(j:Int)=(q:Int):=by omega
   obtain⟨b,off,rfl,hokb,hb,hcs⟩:=HR.out.some (by decide) (Nat.lt_of_le_of_lt (Nat.zero_le _) hlt)
   have hK0:Keeps ok w0 wr:=HKW.out.trans HK.out
   obtain⟨g0,g1,g2,g3,g4⟩:=flatK_at l q hql
   have m0:=(hK0.cell (p:=⟨b,off+q*5,none⟩) hokb hb).trans (hcs _ _ g0)
   have m1:wr.cell? ⟨b,off+q*5+1,none⟩=_:=(hK0.cell (p:=⟨b,off+(q*5+1),none⟩) hokb hb).trans (hcs _ _ g1)
   have m2:wr.cell? ⟨b,off+q*5+2,none⟩=_:=(hK0.cell (p:=⟨b,off+(q*5+2),none⟩) hokb hb).trans (hcs _ _ g2)
   have m3:wr.cell? ⟨b,off+q*5+3,none⟩=_:=(hK0.cell (p:=⟨b,off+(q*5+3),none⟩) hokb hb).trans (hcs _ _ g3)
   have m4:wr.cell? ⟨b,off+q*5+4,none⟩=_:=(hK0.cell (p:=⟨b,off+(q*5+4),none⟩) hokb hb).trans (hcs _ _ g4)
   obtain⟨fn,tmps,assign,body,hy,hR⟩:=HY.out j wr hlt HJ.out
   have e:backK l j = #[.int .i64 (q:Int),.agg #[.int .i64 l[q].goal,.int .i64 l[q].clause,.int .i64 l[q].heap,.int .i64 l[q].trail,.int .i64 l[q].goals]]:=by
    unfold backK chiV;rw[← hq,List.getD_eq_getElem?_getD,List.getElem?_eq_getElem hql];rfl
   rw[e] at hy
   rw[hqi]
   have HQ:=Lib.hid hqi
   have hq0:(0:Int)≤(q:Int):=by omega
   clear hK0 hcs g0 g1 g2 g3 g4 hq e hqi
   gi_wp2
   refine hR.mono ?_
   rintro e W3 (⟨rfl,hJ3,hk3⟩ | ⟨rfl,hJx3⟩)
   ·have HJ3:=Lib.hid hJ3
    have HK3:=Lib.hid (HK.out.trans hk3)
    clear hJ3 hk3
    gi_wp2
    go_roundw
    case rel=>exact⟨j+1,by omega,by have:=HQ.out;go_num,HJ3,HK3⟩
    case measure=>have:=HQ.out;simp only[intOf];omega
   ·have HJ3:=Lib.hid hJx3
    clear hJx3
    gi_wp2
    refine bodyPost_ret (results_none rfl _ _ _) rfl ?_
    exact⟨⟨_,rfl⟩,.inr HJ3.out⟩
  ·have hje:j=l.length:=by omega
   have HE:Hid (J l.length wr):=Lib.hid (by rw[← hje];exact HJ.out)
   have hlo:(l.length:Int)-1-(j:Int) = -1:=by omega
   rw[hlo]
   clear hje
   gi_wp2
   go_end0
   exact⟨⟨_,rfl⟩,.inl HE.out⟩
end Go.Proofs.Ytikmgiapjigghaa

/- Rows in a row: who leads to each cell. -/
namespace Go.Proofs.Ytikmgiapjigghaa
open Go.RowKit
structure RowsAt(w:World)(bF base:Nat)(vs:List Value)(R:Nat→List Nat):Prop where
 blk:w.heap[bF]? = some (.cells vs.toArray 44 (0,0))
 row:∀ j (h:j<vs.length),w.ownsRow base 3 1 vs[j] (R j).length ((R j).map fun v:Nat=>Value.int .i64 (v:Int))
 sep:∀ i j (hi:i<vs.length) (hj:j<vs.length) b,vs[i].ownBlock=some b→vs[j].ownBlock=some b→i=j
 lt:bF<base
theorem RowsAt.get{w:World}{bF base:Nat}{vs:List Value}{R:Nat→List Nat}(h:RowsAt w bF base vs R)(i:Nat)(hi:i<vs.length):w.cell? ⟨bF,i,none⟩=some vs[i]:=by simp[World.cell?,h.blk,hi]
theorem RowsAt.fz{w:World}{bF base:Nat}{vs:List Value}{R:Nat→List Nat}(h:RowsAt w bF base vs R)(o:Nat):w.frozen? ⟨bF,o,none⟩=false:=by simp[World.frozen?,h.blk]
theorem RowsAt.bl{w:World}{bF base:Nat}{vs:List Value}{R:Nat→List Nat}(h:RowsAt w bF base vs R):bF<w.heap.size:=(Array.getElem?_eq_some_iff.1 h.blk).1
theorem RowsAt.form{w:World}{bF base:Nat}{vs:List Value}{R:Nat→List Nat}(h:RowsAt w bF base vs R)(i:Nat)(hi:i<vs.length):∃ a c,vs[i]=.slice a (R i).length c:=by
 rcases (h.row i hi).2 with ⟨h1,h2⟩ | ⟨g,cap,cur,h1,_⟩
 ·exact⟨none,0,by rw[h1,h2]⟩
 ·exact⟨_,_,h1⟩
theorem RowsAt.keep{w w':World}{bF base:Nat}{vs:List Value}{R:Nat→List Nat}(h:RowsAt w bF base vs R)(h1:w'.heap[bF]? = w.heap[bF]?)(h2:∀ j (hj:j<vs.length) b,vs[j].ownBlock=some b→w'.heap[b]? = w.heap[b]?):RowsAt w' bF base vs R :=
 ⟨h1.trans h.blk,fun j hj=>ownsRow_block (h.row j hj) fun g hg=>h2 j hj g hg,h.sep,h.lt⟩
theorem RowsAt.below{w w':World}{bF base:Nat}{vs:List Value}{R:Nat→List Nat}(h:RowsAt w bF base vs R)(hb:Below w.heap.size w w'):RowsAt w' bF base vs R :=
 h.keep (hb.block _ h.bl) fun j hj b e=>hb.block b ((h.row j hj).lt b e).2
theorem RowsAt.push{w X X2:World}{bF base:Nat}{vs:List Value}{R:Nat→List Nat}(h:RowsAt w bF base vs R)(hX:Below w.heap.size w X){t i:Nat}(ht:t<vs.length){v':Value}
 (ho:X2.ownsRow base 3 1 v' ((R t).length+1) ((R t).map (fun v:Nat=>Value.int .i64 (v:Int))++[.int .i64 (i:Int)])) (hg:X.grownBy X2 vs[t].ownBlock) (hf:Fresh X vs[t] v') :
 RowsAt (X2.setCell ⟨bF,t,none⟩ v') bF base (vs.set t v') (fun j=>R j++if t=j then [i] else [])∧Touch (fun b=>b=bF∨vs[t].ownBlock=some b) w (X2.setCell ⟨bF,t,none⟩ v') ∧
 (∀ j (hj:j<(vs.set t v').length) b,(vs.set t v')[j].ownBlock=some b→(∃ hj':j<vs.length,vs[j].ownBlock=some b)∨w.heap.size≤b):=by
 have hxt:=fun b e=>(h.row t ht).lt b e
 have hne:vs[t].ownBlock≠some bF:=fun e=>by have:=(hxt _ e).1;have:=h.lt;omega
 have hv:∀ b,v'.ownBlock=some b→vs[t].ownBlock=some b∨w.heap.size≤b:=fun b e=>by
  rcases hf with e2 | e2
  ·exact .inl (e2 ▸ e)
  ·exact .inr (Nat.le_trans hX.size (e2 b e))
 have hbF:X2.heap[bF]? = w.heap[bF]?:=(hg.block bF (by have:=hX.size;have:=h.bl;omega) (fun e=>hne e.symm)).trans (hX.block _ h.bl)
 have hT:Touch (fun b=>b=bF∨vs[t].ownBlock=some b) w (X2.setCell ⟨bF,t,none⟩ v') :=
  ((Touch.below hX).trans (Touch.grown hg fun k e=>.inr e)).trans (Touch.setCell _ (.inl rfl))
 have hgt:∀ j (hj:j<(vs.set t v').length),(vs.set t v')[j]=if t=j then v' else vs[j]'(by simpa using hj):=fun j hj=>List.getElem_set ..
 refine⟨⟨?_,fun j hj=>?_,fun a b ha hb c e1 e2=>?_,h.lt⟩,hT,fun j hj b e=>?_⟩
 ·rw[heap_setCell_at _ _ _ _ (hbF.trans h.blk)];simp
 ·rw[hgt j hj]
  by_cases e:t=j
  ·subst e
   rw[if_pos rfl,if_pos rfl,List.length_append,List.map_append]
   refine ownsRow_block ho fun g hg'=>Below.heap_setCell _ _ _ _ (fun e=>?_)
   subst e
   rcases hv _ hg' with h1 | h1
   ·exact hne h1
   ·have:=h.bl;omega
  ·rw[if_neg e,if_neg e,List.append_nil]
   have hj':j<vs.length:=by simpa using hj
   refine ownsRow_block (h.row j hj') fun g hg'=>hT.block g ((h.row j hj').lt g hg').2 ?_
   rintro (e2 | e2)
   ·subst e2;have:=((h.row j hj').lt _ hg').1;have:=h.lt;omega
   ·exact e (h.sep t j ht hj' g e2 hg')
 ·rw[hgt a ha] at e1
  rw[hgt b hb] at e2
  have ha':a<vs.length:=by simpa using ha
  have hb':b<vs.length:=by simpa using hb
  by_cases h1:t=a
  ·by_cases h2:t=b
   ·omega
   ·rw[if_pos h1] at e1;rw[if_neg h2] at e2
    rcases hv _ e1 with h3 | h3
    ·exact absurd (h.sep t b ht hb' c h3 e2) h2
    ·have:=((h.row b hb').lt c e2).2;omega
  ·by_cases h2:t=b
   ·rw[if_neg h1] at e1;rw[if_pos h2] at e2
    rcases hv _ e2 with h3 | h3
    ·exact absurd (h.sep t a ht ha' c h3 e1) h1
    ·have:=((h.row a ha').lt c e1).2;omega
   ·rw[if_neg h1] at e1;rw[if_neg h2] at e2
    exact h.sep a b ha' hb' c e1 e2
 ·rw[hgt j hj] at e
  have hj':j<vs.length:=by simpa using hj
  by_cases h1:t=j
  ·subst h1;rw[if_pos rfl] at e
   rcases hv _ e with h3 | h3
   ·exact .inl ⟨hj',h3⟩
   ·exact .inr h3
  ·rw[if_neg h1] at e;exact .inl ⟨hj',e⟩
theorem Try.infoInts:(Try.prog.info? 44).map (fun i=>(i.zero,i.size,i.bytes))=some (some (.slice none 0 0),1,24):=by kernel_rfl
set_option maxRecDepth 100000 in
theorem made_rows(w:World)(n:Nat)(hn:n≤1000000):(Instr.makeSlice 166 (.int .i64 (n:Int)) (.int .i64 (n:Int))).run Try.prog w=.ok (.slice (some ⟨w.heap.size,0,none⟩) n n) (w.alloc (.cells (List.replicate n (Value.slice none 0 0)).toArray 44)):=by
 obtain⟨i0,hi0,hz0,hz1,hz2⟩:=info_parts Try.infoInts
 have:=run_make (P:=Try.prog) w 166 44 i0 _ Try.underlying166 hi0 hz0 .i64 .i64 n n (by omega) (Int.le_refl _) (by rw[hz2];omega) (by omega)
 rw[this,hz1]
 simp only[Int.toNat_natCast,Nat.mul_one]
 congr 3
 apply Array.ext'
 show (madeCells #[Value.slice none 0 0] n).toList=_
 rw[toList_madeCells_one]
theorem RowsAt.made(w:World)(n:Nat):RowsAt (w.alloc (.cells (List.replicate n (Value.slice none 0 0)).toArray 44)) w.heap.size (w.heap.size+1) (List.replicate n (Value.slice none 0 0)) (edgesTo []):=by
 refine⟨heap_alloc_new w _,fun j hj=>?_,fun i j hi hj b e _=>?_,Nat.lt_succ_self _⟩
 ·rw[List.getElem_replicate];exact World.ownsRow_nil _ _ _ _
 ·rw[List.getElem_replicate] at e;cases e
structure FromAt(w:World)(okF:Nat→Prop)(bF n:Nat)(R:Nat→List Nat):Prop where
 at':∀ j,j<n→∃ a c,w.cell? ⟨bF,j,none⟩=some (.slice a (R j).length c)∧IsAt w okF ((R j).map fun v:Nat=>(v:Int)) a c
 ok:okF bF∧bF<w.heap.size
theorem FromAt.keep{w w':World}{okF:Nat→Prop}{bF n:Nat}{R:Nat→List Nat}(h:FromAt w okF bF n R)(hk:Keeps okF w w'):FromAt w' okF bF n R :=
 ⟨fun j hj=>by
  obtain⟨a,c,h1,h2⟩:=h.at' j hj
  exact⟨a,c,(hk.cell (p:=⟨bF,j,none⟩) h.ok.1 h.ok.2).trans h1,h2.keep hk⟩,h.ok.1,Nat.lt_of_lt_of_le h.ok.2 hk.size⟩
theorem RowsAt.done{w:World}{bF base:Nat}{vs:List Value}{R:Nat→List Nat}(h:RowsAt w bF base vs R){okF:Nat→Prop}(h1:okF bF)(h2:∀ j (hj:j<vs.length) b,vs[j].ownBlock=some b→okF b):FromAt w okF bF vs.length R :=
 ⟨fun j hj=>by
  have e1:((R j).map fun v:Nat=>(v:Int)).length=(R j).length:=by simp
  have e2:((R j).map fun v:Nat=>(v:Int)).map (fun x=>Value.int .i64 x)=(R j).map fun v:Nat=>Value.int .i64 (v:Int):=by simp
  obtain⟨a,c,he,hi⟩:=IsAt.of_row (l:=(R j).map fun v:Nat=>(v:Int)) (ok:=okF) (by rw[e1,e2];exact h.row j hj) (fun b e=>h2 j hj b e)
  rw[List.length_map] at he
  exact⟨a,c,he ▸ h.get j hj,hi⟩,h1,h.bl⟩
end Go.Proofs.Ytikmgiapjigghaa

/- Walk: the reference's Straight. -/
namespace Go.Proofs.Ytikmgiapjigghaa
open Go.RowKit
theorem edgesTo_len(E:List (Nat×Nat))(j:Nat):(edgesTo E j).length≤E.length:=by
 unfold edgesTo;rw[List.length_map];exact List.length_filter_le _ _
theorem leads_len4{K:List HC}(h:CellsOk K){i:Nat}(hi:i<K.length):(leads K i).length≤4:=by
 unfold leads
 rcases cell_right (h i hi) with ⟨h1,_⟩ | ⟨h1,_,h2,h3,_⟩
 ·rw[if_pos h1];split <;> simp
 ·rw[if_neg (by omega)];simp;omega
theorem allE_len{K:List HC}(h:CellsOk K):∀ n:Nat,n≤K.length→(allE (leads K) n).length≤4*n:=by
 intro n
 induction n with
 | zero=>intro _;simp[allE]
 | succ n ih =>
  intro hn
  have:=ih (by omega)
  have:=leads_len4 h (i:=n) (by omega)
  rw[allE_succ,List.length_append,List.length_map];omega
theorem edges_step(L:Nat→List Nat)(i k:Nat)(hk:k<(L i).length)(E:List (Nat×Nat)):edgesTo (E++((L i).take (k+1)).map fun t=>(t,i))=fun j=>edgesTo (E++((L i).take k).map fun t=>(t,i)) j++if (L i)[k]=j then [i] else []:=by
 funext j
 rw[List.take_succ_eq_append_getElem hk,List.map_append,← List.append_assoc,edgesTo_append]
 show _++edgesTo [((L i)[k],i)] j=_
 rw[edgesTo_one]
structure SkAt(w wr:World)(K:List HC)(i:Nat)(l1:List Int)(vs:List Value)(E:List (Nat×Nat)):Prop where
 left:IntsAt wr w.heap.size l1
 len:l1.length=K.length
 lv:∀ v (h:v<l1.length),v<i→l1[v]=((leads K v).length:Int)
 rows:RowsAt wr (w.heap.size+1) (w.heap.size+2) vs (edgesTo E)
 vlen:vs.length=K.length
 below:Below w.heap.size w wr
 size:w.heap.size+2≤wr.heap.size
theorem SkAt.next{w wr w2:World}{K:List HC}{i:Nat}{l1:List Int}{vs:List Value}{E:List (Nat×Nat)}(h:SkAt w wr K i l1 vs E)(hb:Below wr.heap.size wr w2):SkAt w w2 K i l1 vs E :=
 ⟨h.left.below hb,h.len,h.lv,h.rows.below hb,h.vlen,h.below.trans (hb.mono h.below.size),Nat.le_trans h.size hb.size⟩
theorem SkAt.put{w wr:World}{K:List HC}{i:Nat}{l1:List Int}{vs:List Value}{E:List (Nat×Nat)}(h:SkAt w wr K i l1 vs E):SkAt w (wr.setCell ⟨w.heap.size,i,none⟩ (.int .i64 ((leads K i).length:Int))) K (i+1) (l1.set i ((leads K i).length:Int)) vs E:=by
 have hs:(wr.setCell ⟨w.heap.size,i,none⟩ (.int .i64 ((leads K i).length:Int))).heap.size=wr.heap.size:=by simp[World.setCell]
 refine⟨h.left.set i _,by rw[List.length_set];exact h.len,fun v hv hvi=>?_,h.rows.keep (Below.heap_setCell _ _ _ _ (by show w.heap.size+1≠w.heap.size;omega)) (fun j hj b e=>Below.heap_setCell _ _ _ _ (by have:=((h.rows.row j hj).lt b e).1;show b≠w.heap.size;omega)),h.vlen,h.below.setCell (Nat.le_refl _) _,by rw[hs];exact h.size⟩
 rw[List.getElem_set]
 by_cases e:i=v
 ·subst e;rw[if_pos rfl]
 ·rw[if_neg e];exact h.lv v (by simpa using hv) (by omega)
theorem SkAt.tell{w wr X X2:World}{K:List HC}{i j:Nat}{l1:List Int}{vs:List Value}{E:List (Nat×Nat)}(h:SkAt w wr K i l1 vs E)(hX:Below wr.heap.size wr X){t:Nat}(ht:t<vs.length){v':Value}
 (ho:X2.ownsRow (w.heap.size+2) 3 1 v' ((edgesTo E t).length+1) ((edgesTo E t).map (fun v:Nat=>Value.int .i64 (v:Int))++[.int .i64 (j:Int)])) (hg:X.grownBy X2 vs[t].ownBlock) (hf:Fresh X vs[t] v') :
 SkAt w (X2.setCell ⟨w.heap.size+1,t,none⟩ v') K i l1 (vs.set t v') (E++[(t,j)])∧Touch (fun b=>b=w.heap.size+1∨vs[t].ownBlock=some b) wr (X2.setCell ⟨w.heap.size+1,t,none⟩ v') ∧
 (∀ q (hj:q<(vs.set t v').length) b,(vs.set t v')[q].ownBlock=some b→(∃ hj':q<vs.length,vs[q].ownBlock=some b)∨wr.heap.size≤b):=by
 obtain⟨h1,h2,h3⟩:=h.rows.push hX ht ho hg hf
 have e:edgesTo (E++[(t,j)])=fun q=>edgesTo E q++if t=q then [j] else []:=by
  funext q;rw[edgesTo_append,edgesTo_one]
 have hb:Below w.heap.size wr (X2.setCell ⟨w.heap.size+1,t,none⟩ v'):=h2.toBelow h.below.size (fun b e=>e.elim (fun e=>by omega) (fun e=>by have:=((h.rows.row t ht).lt b e).1;omega))
 refine⟨⟨h.left.keep (h2.block _ h.left.lt (fun e=>e.elim (fun e=>by omega) (fun e=>by have:=((h.rows.row t ht).lt _ e).1;omega))),h.len,h.lv,by rw[e];exact h1,by rw[List.length_set];exact h.vlen,h.below.trans hb,Nat.le_trans h.size h2.size⟩,h2,h3⟩
structure KW(w wz:World)(K:List HC)(base:Nat)(okF:Nat→Prop)(xa:Option Addr)(xc:Nat)(G:List Nat)(left:Nat→Nat):Prop where
 row:wz.ownsRow base 3 1 (.slice xa G.length xc) G.length (G.map fun v:Nat=>Value.int .i64 (v:Int))
 ints:IntsAt wz w.heap.size ((List.range K.length).map fun v:Nat=>((left v:Nat):Int))
 frm:FromAt wz okF (w.heap.size+1) K.length (edgesTo (allE (leads K) K.length))
 below:Below w.heap.size w wz
 okl:∀ b,okF b→b<base∧b≠w.heap.size
 size:w.heap.size<base∧base≤wz.heap.size
theorem KW.next{w wz w2:World}{K:List HC}{base:Nat}{okF:Nat→Prop}{xa:Option Addr}{xc:Nat}{G:List Nat}{left:Nat→Nat}(h:KW w wz K base okF xa xc G left)(hb:Below wz.heap.size wz w2):KW w w2 K base okF xa xc G left :=
 ⟨ownsRow_below h.row hb,h.ints.below hb,h.frm.keep (Keeps.below hb _),h.below.trans (hb.mono h.below.size),h.okl,h.size.1,Nat.le_trans h.size.2 hb.size⟩
theorem KW.left{w wz:World}{K:List HC}{base:Nat}{okF:Nat→Prop}{xa:Option Addr}{xc:Nat}{G:List Nat}{left:Nat→Nat}(h:KW w wz K base okF xa xc G left){v:Nat}(hv:v<K.length):wz.cell? ⟨w.heap.size,v,none⟩=some (.int .i64 (left v:Nat)):=by
 have:=h.ints.get v (by simpa using hv)
 simpa using this
theorem KW.goes{w wz:World}{K:List HC}{base:Nat}{okF:Nat→Prop}{xa:Option Addr}{xc:Nat}{G:List Nat}{left:Nat→Nat}(h:KW w wz K base okF xa xc G left){k:Nat}(hk:k<G.length):∃ g,xa=some ⟨g,0,none⟩∧g<wz.heap.size∧base≤g∧wz.cell? ⟨g,k,none⟩=some (.int .i64 (G[k]:Nat))∧G.length≤xc∧xc≤maxLen:=by
 obtain⟨g,cap,he⟩:=own_shape h.row (by omega)
 cases he
 have hl:=h.row.lt g rfl
 refine⟨g,rfl,hl.2,hl.1,?_,?_⟩
 ·rw[h.row.cellAt k (by omega)];simp[hk]
 ·rcases h.row.2 with ⟨e,_⟩ | ⟨g',cap',cur,e,_,_,h1,h2,_⟩
  ·cases e
  ·cases e;exact⟨h1,h2⟩
theorem KW.dec{w wz:World}{K:List HC}{base:Nat}{okF:Nat→Prop}{xa:Option Addr}{xc:Nat}{G:List Nat}{left:Nat→Nat}(h:KW w wz K base okF xa xc G left){v:Nat}(h1:1≤left v) :
 KW w (wz.setCell ⟨w.heap.size,v,none⟩ (.int .i64 ((left v:Int)-1))) K base okF xa xc G (fun u=>if u=v then left v-1 else left u):=by
 have hs:(wz.setCell ⟨w.heap.size,v,none⟩ (.int .i64 ((left v:Int)-1))).heap.size=wz.heap.size:=by simp[World.setCell]
 refine⟨ownsRow_block h.row fun g hg=>Below.heap_setCell _ _ _ _ (by have:=(h.row.lt g hg).1;have:=h.size.1;show g≠w.heap.size;omega),?_,h.frm.keep ⟨by rw[hs];exact Nat.le_refl _,fun b hb _=>Below.heap_setCell _ _ _ _ (h.okl b hb).2⟩,h.below.setCell (Nat.le_refl _) _,h.okl,h.size.1,by rw[hs];exact h.size.2⟩
 have h2:=h.ints.set v ((left v:Int)-1)
 have e:((List.range K.length).map fun u:Nat=>((left u:Nat):Int)).set v ((left v:Int)-1)=(List.range K.length).map fun u:Nat=>(((if u=v then left v-1 else left u):Nat):Int):=by
  refine List.ext_getElem (by simp) fun i hi hj=>?_
  rw[List.getElem_set]
  simp only[List.getElem_map,List.getElem_range]
  by_cases e:v=i
  ·subst e;rw[if_pos rfl,if_pos rfl];omega
  ·rw[if_neg e,if_neg (fun h=>e h.symm)]
 rw[e] at h2
 exact h2
theorem KW.push{w wz X X2:World}{K:List HC}{base:Nat}{okF:Nat→Prop}{xa:Option Addr}{xc:Nat}{G:List Nat}{left:Nat→Nat}(h:KW w wz K base okF xa xc G left)(hX:Below wz.heap.size wz X){v:Nat}{a:Option Addr}{c:Nat}
 (ho:X2.ownsRow base 3 1 (.slice a (G.length+1) c) (G.length+1) (G.map (fun v:Nat=>Value.int .i64 (v:Int))++[.int .i64 (v:Int)])) (hg:X.grownBy X2 (Value.slice xa G.length xc).ownBlock):KW w X2 K base okF a c (G++[v]) left:=by
 have hx:=h.next hX
 have hT:Touch (fun b=>(Value.slice xa G.length xc).ownBlock=some b) X X2:=Touch.grown hg fun k e=>e
 refine⟨by rw[List.length_append,List.map_append];exact ho,hx.ints.keep (hT.block _ hx.ints.lt fun e=>by have:=(hx.row.lt _ e).1;have:=h.size.1;omega),hx.frm.keep (hT.keeps fun b hb e=>by have:=(hx.row.lt _ e).1;have:=(h.okl b hb).1;omega),hx.below.trans (hT.toBelow hx.below.size fun b e=>by have:=(hx.row.lt _ e).1;have:=h.size.1;omega),h.okl,h.size.1,Nat.le_trans hx.size.2 hT.size⟩
theorem edge_mem{L:Nat→List Nat}{n j v:Nat}(h:v∈edgesTo (allE L n) j):v<n:=by
 have h1:0<(edgesTo (allE L n) j).count v:=List.count_pos_iff.2 h
 rw[edgesTo_all] at h1
 split at h1
 ·assumption
 ·omega
theorem filt_succ(p:Nat→Bool)(i:Nat):(List.range (i+1)).filter p=(List.range i).filter p++if p i=true then [i] else []:=by
 rw[List.range_succ,List.filter_append]
 congr 1
 by_cases h:p i=true <;> simp[h]
theorem SkAt.ends{w wr:World}{K:List HC}{l1:List Int}{vs:List Value}(h:SkAt w wr K K.length l1 vs (allE (leads K) K.length)) :
 KW w wr K wr.heap.size (fun b=>w.heap.size+1≤b∧b<wr.heap.size) none 0 [] (fun v=>(leads K v).length):=by
 have e:l1=(List.range K.length).map fun v:Nat=>(((leads K v).length:Nat):Int):=List.ext_getElem (by rw[h.len];simp) fun i hi hj=>by
  rw[h.lv i hi (by rw[← h.len];exact hi)];simp
 have hf:=h.rows.done (okF:=fun b=>w.heap.size+1≤b∧b<wr.heap.size) ⟨Nat.le_refl _,h.rows.bl⟩ (fun j hj b e=>⟨by have:=((h.rows.row j hj).lt b e).1;omega,((h.rows.row j hj).lt b e).2⟩)
 rw[h.vlen] at hf
 exact⟨World.ownsRow_nil _ _ _ _,e ▸ h.left,hf,h.below,fun b hb=>⟨hb.2,by have:=hb.1;omega⟩,by have:=h.size;omega,Nat.le_refl _⟩
end Go.Proofs.Ytikmgiapjigghaa

/- Walk: the reference's Straight. -/
namespace Go.Proofs.Ytikmgiapjigghaa
open Go.RowKit
set_option maxRecDepth 100000 in
set_option maxHeartbeats 4000000 in
theorem StraightRefW{w:World}{ok:Nat→Prop}{K:List HC}{a:Option Addr}{cap:Nat}(h:HpAt w ok K a cap)(hK:CellsOk K)(hlen:K.length≤400000) :
 Calls Try.prog 78 #[.slice a K.length cap] w fun e w'=>e=.returned (.bool (straightB K))∧Below w.heap.size w w':=by
 have HP:=Lib.hid h;have HK:=Lib.hid hK;have HLN:=Lib.hid hlen
 have hcl:K.length≤9223372036854775807:=by omega
 have hmk:=made_ints w K.length (by omega)
 have hmk2:=made_rows (w.alloc (.cells ((List.replicate K.length 0).map fun v:Int=>Value.int .i64 v).toArray 3)) K.length (by omega)
 have hs1:(w.alloc (.cells ((List.replicate K.length 0).map fun v:Int=>Value.int .i64 v).toArray 3)).heap.size=w.heap.size+1:=by simp only[aSz]
 have HR0:=RowsAt.made (w.alloc (.cells ((List.replicate K.length 0).map fun v:Int=>Value.int .i64 v).toArray 3)) K.length
 have HI0:IntsAt ((w.alloc (.cells ((List.replicate K.length 0).map fun v:Int=>Value.int .i64 v).toArray 3)).alloc (.cells (List.replicate K.length (Value.slice none 0 0)).toArray 44)) w.heap.size (List.replicate K.length 0):=(IntsAt.mk (heap_alloc_new w _)).below ((Below.refl _ _).alloc (Nat.le_refl _) _)
 have HB0:Below w.heap.size w ((w.alloc (.cells ((List.replicate K.length 0).map fun v:Int=>Value.int .i64 v).toArray 3)).alloc (.cells (List.replicate K.length (Value.slice none 0 0)).toArray 44)):=((Below.refl _ _).alloc (Nat.le_refl _) _).alloc (by omega) _
 have hs2:((w.alloc (.cells ((List.replicate K.length 0).map fun v:Int=>Value.int .i64 v).toArray 3)).alloc (.cells (List.replicate K.length (Value.slice none 0 0)).toArray 44)).heap.size=w.heap.size+2:=by rw[aSz,hs1]
 rw[hs1] at HR0 hmk2
 have HS0:Hid (SkAt w ((w.alloc (.cells ((List.replicate K.length 0).map fun v:Int=>Value.int .i64 v).toArray 3)).alloc (.cells (List.replicate K.length (Value.slice none 0 0)).toArray 44)) K 0 (List.replicate K.length 0) (List.replicate K.length (Value.slice none 0 0)) (allE (leads K) 0)):=Lib.hid ⟨HI0,by simp,fun v _ hv=>absurd hv (Nat.not_lt_zero v),HR0,by simp,HB0,by rw[hs2];exact Nat.le_refl _⟩
 obtain⟨j0,hj0,hy0,hy1,hy2⟩:=info_parts Try.infoInt
 clear h hK HR0 HI0 HB0 hs1
 have e1:((List.replicate K.length 0).map fun v:Int=>Value.int .i64 v).toArray=Array.replicate K.length (.int .i64 0):=by simp
 have e2:(List.replicate K.length (Value.slice none 0 0)).toArray=Array.replicate K.length (Value.slice none 0 0):=by simp
 rw[e1] at hmk hmk2 HS0 hs2
 rw[e2] at hmk2 HS0 hs2
 clear e1 e2
 go_enter Try.func78,Try.ntmps78
 go_wp2_with fail
 generalize (w.alloc (.cells (Array.replicate K.length (Value.int .i64 0)) 3)).alloc (.cells (Array.replicate K.length (Value.slice none 0 0)) 44)=wa at *
 clear hmk hmk2
 go_loopw[5] (fun v5 wr=>∃ (i:Nat) (l1:List Int) (vs:List Value),i≤K.length∧v5=.int .i64 i∧Hid (SkAt w wr K i l1 vs (allE (leads K) i))) (fun v5 _=>K.length-(intOf v5).toNat)
 case atStart=>exact⟨0,_,_,Nat.zero_le _,rfl,HS0⟩
 case round =>
  obtain⟨i,l1,vs,hi,rfl,HSK⟩:=hrel
  by_cases hlt:i<K.length
  ·have HLD:=Lib.hid (LeadsOfW (HP.out.below HSK.out.below) HK.out HLN.out hlt)
   have HLS:=Lib.hid (leads_len (HK.out i hlt))
   have HLT:=Lib.hid (fun j hj=>leads_lt HK.out i hlt j hj)
   have HES:=Lib.hid (allE_succ (leads K) i)
   have HEL:=Lib.hid (allE_len HK.out i hi)
   have HSX:=Lib.hid (fun k hk E=>edges_step (leads K) i k hk E)
   have HPT:=Lib.hid (fun wq hq=>(HSK.out.next (w2:=wq) hq).put)
   go_wp2_with (go_at_call 107;refine HLD.out.mono ?_;rintro e w1 ⟨hb1,al,cl,rfl,hia⟩;have HIA:=Lib.hid (hia.mono (ok':=fun b=>wr.heap.size≤b∧b<w1.heap.size) fun b h1 h2=>⟨h2,h1⟩);have HB1:=Lib.hid hb1;have g0:=(HSK.out.left.below hb1).get i (by rw[HSK.out.len];exact hlt);have gf:=(HSK.out.left.below hb1).fz;clear hia hb1)
   have HA:Hid (SkAt w (w1.setCell ⟨w.heap.size,i,none⟩ (.int .i64 ((leads K i).length:Int))) K (i+1) (l1.set i ((leads K i).length:Int)) vs (allE (leads K) i++((leads K i).take 0).map fun t=>(t,i))):=Lib.hid (by rw[List.take_zero];simpa using HPT.out w1 HB1.out)
   have hsa:(w1.setCell ⟨w.heap.size,i,none⟩ (.int .i64 ((leads K i).length:Int))).heap.size=w1.heap.size:=by simp[World.setCell]
   obtain⟨okL,hokL⟩:∃ okL:Nat→Prop,okL=(fun b=>wr.heap.size≤b∧b<w1.heap.size):=⟨_,rfl⟩
   have HIB:Hid (IsAt (w1.setCell ⟨w.heap.size,i,none⟩ (.int .i64 ((leads K i).length:Int))) okL ((leads K i).map fun v:Nat=>(v:Int)) al cl):=Lib.hid (hokL ▸ HIA.out.keep ⟨by rw[hsa];exact Nat.le_refl _,fun b hb _=>Below.heap_setCell _ _ _ _ (by have:=HSK.out.size;show b≠w.heap.size;omega)⟩)
   have HVB:Hid (∀ j (hj:j<vs.length) b,vs[j].ownBlock=some b→¬ okL b):=Lib.hid (fun j hj b e h=>by rw[hokL] at h;have:=((HSK.out.rows.row j hj).lt b e).2;omega)
   have HOL:Hid (∀ b,okL b→b<(w1.setCell ⟨w.heap.size,i,none⟩ (.int .i64 ((leads K i).length:Int))).heap.size):=Lib.hid (fun b h=>by rw[hokL] at h;rw[hsa];exact h.2)
   have HBFL:Hid (¬ okL (w.heap.size+1)):=Lib.hid (fun h=>by rw[hokL] at h;have:=HSK.out.size;omega)
   clear hsa hokL g0 gf HSK HLD HPT HIA HB1
   generalize w1.setCell ⟨w.heap.size,i,none⟩ (.int .i64 ((leads K i).length:Int))=wb at *
   generalize l1.set i ((leads K i).length:Int)=l2 at *
   generalize wr=wq at *
   generalize hLL:leads K i=LL at *
   clear hLL
   go_loopw[7] (fun v7 wz=>∃ (k:Nat) (vs':List Value),k≤LL.length∧v7=.int .i64 k∧Hid (SkAt w wz K (i+1) l2 vs' (allE (leads K) i++(LL.take k).map fun t=>(t,i)))∧Hid (IsAt wz okL (LL.map fun v:Nat=>(v:Int)) al cl)∧Hid (∀ j (hj:j<vs'.length) b,vs'[j].ownBlock=some b→¬ okL b)∧Hid (wb.heap.size≤wz.heap.size)) (fun v7 _=>LL.length-(intOf v7).toNat)
   case atStart=>exact⟨0,vs,Nat.zero_le _,rfl,HA,HIB,HVB,Lib.hid (Nat.le_refl _)⟩
   case round =>
    obtain⟨k,vs2,hk,rfl,HSK,HIL,HVN,HWZ⟩:=hrel
    by_cases hkl:k<LL.length
    ·have hls4:=HLS.out
     obtain⟨bl,ol,rfl,hokl,hbl,hcl1⟩:=HIL.out.at' k (by simpa using hkl)
     have htn:LL[k]<K.length:=HLT.out _ (List.getElem_mem hkl)
     obtain⟨t,ht⟩:∃ t,LL[k]=t:=⟨_,rfl⟩
     simp only[List.getElem_map] at hcl1
     rw[ht] at hcl1 htn
     have htv:t<vs2.length:=by rw[HSK.out.vlen];exact htn
     have HTE:Hid (∀ E,E++((LL.take (k+1)).map fun t=>(t,i))=(E++(LL.take k).map fun t=>(t,i))++[(t,i)]):=Lib.hid (fun E=>by rw[List.take_succ_eq_append_getElem hkl,ht];simp)
     have hEL:(edgesTo (allE (leads K) i++(LL.take k).map fun t=>(t,i)) t).length≤2000000:=by
      refine Nat.le_trans (edgesTo_len _ _) ?_
      rw[List.length_append,List.length_map,List.length_take]
      have:=HEL.out;have:=HLS.out;omega
     obtain⟨E,hE⟩:∃ E,(allE (leads K) i++(LL.take k).map fun t=>(t,i))=E:=⟨_,rfl⟩
     have HTE2:Hid ((allE (leads K) i++(LL.take (k+1)).map fun t=>(t,i))=E++[(t,i)]):=Lib.hid (by rw[HTE.out,hE])
     rw[hE] at HSK hEL
     clear hE
     obtain⟨xa,xc,hxv⟩:=HSK.out.rows.form t htv
     have f0:=HSK.out.rows.get t htv
     have ff:=HSK.out.rows.fz
     have hrow:=HSK.out.rows.row t htv
     obtain⟨ne,hne⟩:∃ ne,(edgesTo E t).length=ne:=⟨_,rfl⟩
     have HNE:=Lib.hid hne
     rw[hne] at hrow hxv hEL
     have HXV:=Lib.hid hxv
     clear hne
     have BXX:Below wr.heap.size wr ((wr.alloc (.cells #[.int .i64 (i:Int)] 3)).drew):=((Below.refl _ _).alloc (Nat.le_refl _) _).drew
     have HBX:=Lib.hid BXX
     have HROW:Hid (((wr.alloc (.cells #[.int .i64 (i:Int)] 3)).drew).ownsRow (w.heap.size+2) 3 1 (.slice xa ne xc) ne ((edgesTo E t).map fun v:Nat=>Value.int .i64 (v:Int))):=Lib.hid (by rw[← hxv];exact ownsRow_below hrow BXX)
     have hbF:w.heap.size+1<wr.heap.size:=HSK.out.rows.bl
     have HROB:=Lib.hid (fun b e=>(hrow.lt b e))
     rw[hxv] at f0
     have KH:Hid (∀ u,Below wr.heap.size wr u→u.cell? ⟨bl,ol+k,none⟩=some (.int .i64 (t:Int))∧u.cell? ⟨w.heap.size+1,t,none⟩=some (.slice xa ne xc)∧(∀ o,u.frozen? ⟨w.heap.size+1,o,none⟩=false)):=Lib.hid (fun u hu=>⟨(hu.cell (p:=⟨bl,_,none⟩) hbl).trans hcl1,(hu.cell (p:=⟨w.heap.size+1,_,none⟩) hbF).trans f0,fun o=>(hu.frozen (p:=⟨w.heap.size+1,_,none⟩) hbF).trans (ff o)⟩)
     have HVL:=Lib.hid hbl;have HOKL:=Lib.hid hokl;have HBF':=Lib.hid hbF
     clear hrow BXX hxv
     go_wp2_with fail
     go_region_law (first
      | (
       refine step_append_opt _ (by rfl) _ _ _ (by rfl) (w.heap.size+2) 3 j0 _ 1 8 Try.underlying44 hj0 hy0 hy1 hy2 rfl (by decide) (.slice xa ne xc) ne ((edgesTo E t).map fun v:Nat=>Value.int .i64 (v:Int)) (by rfl) HROW.out (some ⟨wr.heap.size,0,none⟩) 1 1 (by intro h;cases h) [.int .i64 (i:Int)] (by rfl) rfl (by intro ad had;cases had;exact one_cell wr _ _) (by intro u hu;simp only[List.mem_singleton] at hu;subst hu;rfl) (by unfold maxLen;omega) (by omega) (by have:=HSK.out.size;have:=HBX.out.size;omega) ?_
       intro v9 w9 hown9 hg9 hf9
       obtain⟨g9,cap9,rfl⟩:=own_shape hown9 (by omega)
       have htell:=HSK.out.tell (j:=i) HBX.out htv (by rw[HNE.out];exact hown9) (by rw[HXV.out];exact hg9) (by rw[HXV.out];exact hf9)
       have HTL:=Lib.hid htell.1;have HTT:=Lib.hid htell.2.1;have HTB:=Lib.hid htell.2.2
       have hb9:w9.heap[w.heap.size+1]? = wr.heap[w.heap.size+1]?:=(hg9.block _ (by have:=HBX.out.size;have:=HBF'.out;omega) (fun e=>by rw[← HXV.out] at e;have:=(HROB.out _ e.symm).1;omega)).trans (HBX.out.block _ HBF'.out)
       have hl9:w9.heap[bl]? = wr.heap[bl]?:=(hg9.block _ (by have:=HBX.out.size;have:=HVL.out;omega) (fun e=>by rw[← HXV.out] at e;exact HVN.out t htv bl e.symm HOKL.out)).trans (HBX.out.block _ HVL.out)
       obtain⟨m0,m1,m2⟩:(w9.cell? ⟨bl,ol+k,none⟩=some (.int .i64 (t:Int))∧w9.cell? ⟨w.heap.size+1,t,none⟩=some (.slice xa ne xc)∧(∀ o,w9.frozen? ⟨w.heap.size+1,o,none⟩=false)):=⟨(World.cell?_of_block (a:=⟨bl,ol+k,none⟩) hl9).trans (KH.out _ (Below.refl _ _)).1,(World.cell?_of_block (a:=⟨w.heap.size+1,t,none⟩) hb9).trans (KH.out _ (Below.refl _ _)).2.1,fun o=>(World.frozen?_of_block (a:=⟨w.heap.size+1,o,none⟩) hb9).trans ((KH.out _ (Below.refl _ _)).2.2 o)⟩
       clear htell hown9 hg9 hf9 hb9 hl9))
     all_goals
      go_wp2_with fail
      go_roundw
      case measure=>simp[intOf];omega
      case rel =>
       have hsz:=HTT.out.size
       exact⟨k+1,_,by omega,by go_num,Lib.hid (by rw[HTE2.out];exact HTL.out),Lib.hid (HIL.out.keep (HTT.out.keeps fun b hb e=>e.elim (fun e=>by subst e;exact HBFL.out hb) (fun e=>HVN.out t htv b e hb))),Lib.hid (fun j hj b e=>by
        rcases HTB.out j hj b e with ⟨h1,h2⟩ | h1
        ·exact HVN.out j h1 b h2
        ·exact fun h2=>by have h3:=HOL.out b h2;have h4:=HWZ.out;omega),Lib.hid (Nat.le_trans HWZ.out hsz)⟩
    ·have HSE:Hid (SkAt w wr K (i+1) l2 vs2 (allE (leads K) (i+1))):=Lib.hid (by
      have:=HSK.out
      rw[List.take_of_length_le (by omega)] at this
      rw[HES.out];exact this)
     go_wp2_with fail
     go_roundw
     case measure=>simp[intOf];omega
     case rel=>exact⟨i+1,l2,vs2,by omega,by go_num,HSE⟩
  ·have hin:i=K.length:=by omega
   subst hin
   have HKW:=Lib.hid HSK.out.ends
   have HLT:=Lib.hid (fun i hi j hj=>leads_lt HK.out i hi j hj)
   have HKS:=Lib.hid (Kah.start (L:=leads K) (n:=K.length) (left:=fun v=>(leads K v).length) (fun _ _=>rfl))
   have hbs:=HSK.out.rows.bl
   clear HSK
   generalize wr=wo at *
   go_wp2_with fail
   go_loopw[8,9] (fun v8 v9 wz=>∃ (i:Nat) (xa:Option Addr) (xc:Nat),i≤K.length∧v9=.int .i64 i∧v8=.slice xa ((List.range i).filter fun v=>(leads K v).length == 0).length xc∧Hid (KW w wz K wo.heap.size (fun b=>w.heap.size+1≤b∧b<wo.heap.size) xa xc ((List.range i).filter fun v=>(leads K v).length == 0) (fun v=>(leads K v).length))) (fun _ v9 _=>K.length-(intOf v9).toNat)
   case atStart=>exact⟨0,none,0,Nat.zero_le _,rfl,rfl,HKW⟩
   case round =>
    obtain⟨i,xa,xc,hi,rfl,rfl,HW⟩:=hrel
    by_cases hlt3:i<K.length
    ·have d0:=HW.out.left hlt3
     have dsz:=HW.out.size
     have hgl:((List.range i).filter fun v=>(leads K v).length == 0).length≤i:=by
      have:=List.length_filter_le (fun v=>(leads K v).length == 0) (List.range i)
      rwa [List.length_range] at this
     have HFS:=Lib.hid (filt_succ (fun v=>(leads K v).length == 0) i)
     generalize hG:(List.range i).filter (fun v=>(leads K v).length == 0)=G at *
     by_cases hz:(leads K i).length=0
     ·have hz':(((leads K i).length:Int) == 0)=true:=by rw[hz];rfl
      have HF2:Hid ((List.range (i+1)).filter (fun v=>(leads K v).length == 0)=G++[i]):=Lib.hid (by rw[HFS.out,if_pos (by simpa using hz)])
      have HOO:=Lib.hid (HW.out.row.alloc (.cells #[.int .i64 (i:Int)] 3))
      have HBX:Hid (Below wr.heap.size wr (wr.alloc (.cells #[.int .i64 (i:Int)] 3))):=Lib.hid ((Below.refl _ _).alloc (Nat.le_refl _) _)
      clear hG HFS
      go_wp2_with (at_builtin;have _g:=HOO;refine wpList_append_opt _ rfl _ _ 44 rfl wo.heap.size 3 j0 _ 1 8 Try.underlying44 hj0 hy0 hy1 hy2 rfl (by decide) _ _ _ rfl HOO.out (some ⟨wr.heap.size,0,none⟩) 1 1 ?p0 [.int .i64 (i:Int)] rfl rfl ?p1 ?p2 ?p3 ?p4 ?p5 ?_)
      case p0=>intro h;cases h
      case p1=>intro ad had;cases had;exact one_cell wr (.int .i64 (i:Int)) 3
      case p2=>intro u hu;simp only[List.mem_singleton] at hu;subst hu;rfl
      case p3=>unfold maxLen;omega
      case p4=>omega
      case p5=>simp only[aSz];omega
      ·intro v8 w8 hown8 hgrow8 hfr8
       obtain⟨g8,cap8,rfl⟩:=own_shape hown8 (by omega)
       have HP8:=Lib.hid (HW.out.push HBX.out hown8 hgrow8)
       clear hown8 hgrow8 hfr8
       go_wp2_with fail
       go_roundw
       case measure=>simp[intOf];omega
       case rel=>exact⟨i+1,_,_,by omega,by go_num,by rw[HF2.out,List.length_append];rfl,by rw[HF2.out];exact HP8⟩
     ·have hz':(((leads K i).length:Int) == 0)=false:=by rw[beq_eq_false_iff_ne];omega
      have HF2:Hid ((List.range (i+1)).filter (fun v=>(leads K v).length == 0)=G):=Lib.hid (by rw[HFS.out,if_neg (by simpa using hz),List.append_nil])
      clear hG HFS
      go_wp2_with fail
      go_roundw
      case measure=>simp[intOf];omega
      case rel=>exact⟨i+1,_,_,by omega,by go_num,by rw[HF2.out],by rw[HF2.out];exact HW⟩
    ·have hin:i=K.length:=by omega
     subst hin
     generalize hG:(List.range K.length).filter (fun v=>(leads K v).length == 0)=G0 at *
     generalize hl0:(fun v=>(leads K v).length)=left0 at *
     clear hG hl0 HKW
     generalize (fun b=>w.heap.size+1≤b∧b<wo.heap.size)=okF at *
     generalize wr=wy at *
     generalize wo.heap.size=base at *
     have HW0:=HW
     clear HW
     have HAE:=Lib.hid (allE_len HK.out K.length (Nat.le_refl _))
     go_wp2_with fail
     go_loopw[8,10] (fun v8 v10 wz=>∃ (k:Nat) (G:List Nat) (left:Nat→Nat) (xa:Option Addr) (xc:Nat),v10=.int .i64 k∧v8=.slice xa G.length xc∧Hid (Kah (leads K) K.length G k [] left)∧Hid (KW w wz K base okF xa xc G left)) (fun _ v10 _=>K.length-(intOf v10).toNat)
     case atStart=>exact⟨0,G0,left0,xa,xc,rfl,rfl,HKS,HW0⟩
     case round =>
      obtain⟨k,G,left,xa,xc,rfl,rfl,HKA,HW⟩:=hrel
      have hGn:=(nodup_bound K.length G HKA.out.nodup HKA.out.lt).1
      have hkl:=HKA.out.kl
      by_cases hk:k<G.length
      ·obtain⟨ga,rfl,hga,hgb,d0,hgc,hgm⟩:=HW.out.goes hk
       obtain⟨g,hg⟩:∃ g,G[k]=g:=⟨_,rfl⟩
       have hgk:g<K.length:=by rw[← hg];exact HKA.out.lt _ (List.getElem_mem hk)
       rw[hg] at d0
       have HG0:Hid (∃ h:k<G.length,G[k]=g):=Lib.hid ⟨hk,hg⟩
       obtain⟨la,lc,f0,hia⟩:=HW.out.frm.at' g hgk
       have HIA:=Lib.hid hia
       have hRl:(edgesTo (allE (leads K) K.length) g).length≤1600000:=by
        have:=edgesTo_len (allE (leads K) K.length) g
        have:=HAE.out;omega
       obtain⟨R,hR⟩:∃ R,edgesTo (allE (leads K) K.length) g=R:=⟨_,rfl⟩
       have HRR:=Lib.hid hR
       rw[hR] at f0 HIA hRl
       have HRM:Hid (∀ v,v∈R→v<K.length):=Lib.hid (fun v hv=>by rw[← hR] at hv;exact edge_mem hv)
       clear hg hia hR
       have hgcm:xc≤9223372036854775807:=by unfold maxLen at hgm;omega
       have HT0:Hid (Kah (leads K) K.length G k (R.take 0) left):=HKA
       generalize wr=wq at *
       go_wp2_with fail
       go_loopw[8,12] (fun v8 v12 wz=>∃ (i:Nat) (G':List Nat) (left':Nat→Nat) (xb:Option Addr) (xd:Nat),i≤R.length∧v12=.int .i64 i∧v8=.slice xb G'.length xd∧Hid (Kah (leads K) K.length G' k (R.take i) left')∧Hid (KW w wz K base okF xb xd G' left')∧Hid (∃ h:k<G'.length,G'[k]=g)∧Hid (IsAt wz okF (R.map fun v:Nat=>(v:Int)) la lc)) (fun _ v12 _=>R.length-(intOf v12).toNat)
       case atStart=>exact⟨0,G,left,_,_,Nat.zero_le _,rfl,rfl,HT0,HW,HG0,HIA⟩
       case round =>
        obtain⟨i,G',left',xb,xd,hi,rfl,rfl,HKB,HWB,HGB,HIB⟩:=hrel
        by_cases hil:i<R.length
        ·obtain⟨lb,lo,rfl,hokl,hlb,e0⟩:=HIB.out.at' i (by simpa using hil)
         simp only[List.getElem_map] at e0
         obtain⟨v,hv⟩:∃ v,R[i]=v:=⟨_,rfl⟩
         have hvn:v<K.length:=HRM.out v (by rw[← hv];exact List.getElem_mem hil)
         rw[hv] at e0
         have HD:Hid (edgesTo (allE (leads K) K.length) (G'[k]'HGB.out.1)=R.take i++v::R.drop (i+1)):=Lib.hid (by
          rw[HGB.out.2,HRR.out,← hv,List.getElem_cons_drop,List.take_append_drop])
         have HTS:Hid (R.take (i+1)=R.take i++[v]):=Lib.hid (by rw[List.take_succ_eq_append_getElem hil,hv])
         obtain⟨hl1,htl⟩:=HKB.out.tell HGB.out.1 hvn HD.out
         have HTL:=Lib.hid (htl (fun u=>if u=v then left' v-1 else left' u) (fun u=>rfl))
         have e1:=HWB.out.left hvn
         have ef:=HWB.out.ints.fz
         have hne:=(HWB.out.okl lb hokl).2
         have hGn2:=(nodup_bound K.length G' HKB.out.nodup HKB.out.lt).1
         have hbL:w.heap.size<wr.heap.size:=HWB.out.ints.lt
         have HDC:=Lib.hid (HWB.out.dec hl1)
         have HKI:Hid (I64 ((left' v:Nat):Int)):=Lib.hid (by
          have h1:=HKB.out.cnt v hvn
          have h2:Go.Proofs.Ytikmgiapjigghaa.cnt (leads K) (G'.take k) v≤(leads K v).length:=List.countP_le_length
          have h3:=leads_len (HK.out v hvn)
          unfold I64;omega)
         have hlI:(left' v:Int)≤4:=by
          have h1:=HKB.out.cnt v hvn
          have h2:Go.Proofs.Ytikmgiapjigghaa.cnt (leads K) (G'.take k) v≤(leads K v).length:=List.countP_le_length
          have h3:=leads_len (HK.out v hvn)
          omega
         have HIC:Hid (IsAt (wr.setCell ⟨w.heap.size,v,none⟩ (.int .i64 ((left' v:Int)-1))) okF (R.map fun v:Nat=>(v:Int)) (some ⟨lb,lo,none⟩) lc):=Lib.hid (HIB.out.keep ⟨by simp[World.setCell],fun b hb _=>Below.heap_setCell _ _ _ _ (HWB.out.okl b hb).2⟩)
         have hz2:=HDC.out.size
         clear htl hv
         by_cases hone:left' v=1
         ·have hz':((left' v:Int)-1 == 0)=true:=by rw[hone];rfl
          have HK2:=Lib.hid (HTL.out.1 hone)
          have HOO:=Lib.hid (HDC.out.row.alloc (.cells #[.int .i64 (v:Int)] 3))
          have HBX:=Lib.hid ((Below.refl (wr.setCell ⟨w.heap.size,v,none⟩ (.int .i64 ((left' v:Int)-1))).heap.size _).alloc (Nat.le_refl _) (.cells #[.int .i64 (v:Int)] 3))
          have HSW:Hid ((wr.setCell ⟨w.heap.size,v,none⟩ (.int .i64 ((left' v:Int)-1))).heap.size=wr.heap.size):=Lib.hid (by simp[World.setCell])
          have hoc:=Lib.hid (one_cell (wr.setCell ⟨w.heap.size,v,none⟩ (.int .i64 ((left' v:Int)-1))) (.int .i64 (v:Int)) 3)
          rw[HSW.out] at hoc
          clear hone
          go_wp2_with (at_builtin;have _g:=HOO;refine wpList_append_opt _ rfl _ _ 44 rfl base 3 j0 _ 1 8 Try.underlying44 hj0 hy0 hy1 hy2 rfl (by decide) _ _ _ rfl HOO.out (some ⟨wr.heap.size,0,none⟩) 1 1 ?q0 [.int .i64 (v:Int)] rfl rfl ?q1 ?q2 ?q3 ?q4 ?q5 ?_)
          case q0=>intro h;cases h
          case q1=>intro ad had;cases had;exact hoc.out
          case q2=>intro u hu;simp only[List.mem_singleton] at hu;subst hu;rfl
          case q3=>unfold maxLen;omega
          case q4=>omega
          case q5=>have:=HBX.out.size;omega
          ·intro v8 w8 hown8 hgrow8 hfr8
           obtain⟨g8,cap8,rfl⟩:=own_shape hown8 (by omega)
           have HP8:=Lib.hid (HDC.out.push HBX.out hown8 hgrow8)
           have HT8:Hid (Touch (fun b=>(Value.slice xb G'.length xd).ownBlock=some b) (wr.setCell ⟨w.heap.size,v,none⟩ (.int .i64 ((left' v:Int)-1))) w8):=Lib.hid ((Touch.below HBX.out).trans (Touch.grown hgrow8 fun k e=>e))
           have HI8:=Lib.hid (HIC.out.keep (HT8.out.keeps fun b hb e=>by have:=(HWB.out.row.lt b e).1;have:=(HWB.out.okl b hb).1;omega))
           clear hown8 hgrow8 hfr8
           go_wp2_with fail
           go_roundw
           case measure=>simp[intOf];omega
           case rel=>exact⟨i+1,G'++[v],_,_,_,by omega,by go_num,by rw[List.length_append];rfl,Lib.hid (by rw[HTS.out];exact HK2.out),HP8,Lib.hid ⟨by rw[List.length_append];have:=HGB.out.1;omega,by rw[List.getElem_append_left HGB.out.1];exact HGB.out.2⟩,HI8⟩
         ·have hz':((left' v:Int)-1 == 0)=false:=by rw[beq_eq_false_iff_ne];omega
          have HK2:=Lib.hid (HTL.out.2 hone)
          go_wp2_with fail
          go_roundw
          case measure=>simp[intOf];omega
          case rel=>exact⟨i+1,G',_,_,_,by omega,by go_num,rfl,Lib.hid (by rw[HTS.out];exact HK2.out),HDC,HGB,HIC⟩
        ·have HKE:Hid (Kah (leads K) K.length G' (k+1) [] left'):=Lib.hid (by
          have:=HKB.out
          rw[List.take_of_length_le (by omega)] at this
          exact this.gone HGB.out.1 (by rw[HGB.out.2,HRR.out]))
         have hGn2:=(nodup_bound K.length G' HKB.out.nodup HKB.out.lt).1
         have hkg:=HGB.out.1
         go_wp2_with fail
         go_roundw
         case measure=>simp[intOf];omega
         case rel=>exact⟨k+1,G',left',xb,xd,by go_num,rfl,HKE,HWB⟩
      ·have HDN:=Lib.hid (HKA.out.done (by omega) (fun i hi j hj=>HLT.out i hi j hj))
       have HBW:=Lib.hid HW.out.below
       by_cases hfin:G.length=K.length
       ·have hfin':((G.length:Int) == (K.length:Int))=true:=by rw[hfin];simp
        have HST:Hid (straightB K=true):=Lib.hid (straightB_true (HDN.out.1 hfin))
        go_wp2_with fail
        go_ret
        exact⟨by rw[HST.out];rfl,HBW.out⟩
       ·have hfin':((G.length:Int) == (K.length:Int))=false:=by rw[beq_eq_false_iff_ne];omega
        have HST:Hid (straightB K=false):=Lib.hid (straightB_false fun h=>hfin (HDN.out.2 h))
        go_wp2_with fail
        go_ret
        exact⟨by rw[HST.out];rfl,HBW.out⟩
end Go.Proofs.Ytikmgiapjigghaa
