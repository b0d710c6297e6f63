/- Walk: a machine goes back to a choice. -/
import Derived.Deep.CutRange
import Derived.Test.YtikmgiapjigghabQc16
import Derived.Test.YtikmgiapjigghabQc19
import Derived.Test.YtikmgiapjigghabQc20
import Derived.Test.YtikmgiapjigghabQc22
set_option maxRecDepth 100000
set_option maxHeartbeats 8000000
namespace Go.Proofs.Ytikmgiapjigghab
open Go.RowKit
theorem aT2(a:Option Addr)(h m s:Nat):sliced a 0 h m s=.slice a h m:=by
 unfold sliced;cases a with
 | none=>simp
 | some a=>cases a;simp[Addr.add]
attribute [local go_sem high] aT2
theorem dC.drop{w:World}{ok:Nat→Prop}{l:List Int}{a:Option Addr}{cap:Nat}(h:dC w ok l a cap){k:Nat}(hk:k≤l.length):dC w ok (l.drop k) (if cap=k then a else a.map fun x=>x.add k) (cap-k):=by
 have hc:=h.cap;refine⟨⟨by rw[List.length_drop];omega,by omega,fun e=>?_⟩,fun i hi=>?_⟩
 ·split at e
  ·omega
  ·cases a with
   | none=>have:=hc.2.2 rfl;omega
   | some a=>cases e
 ·rw[List.length_drop] at hi
  obtain⟨b,off,rfl,h2,h3,h4⟩:=h.at' (k+i) (by omega);refine⟨b,off+k,?_,h2,h3,?_⟩
  ·rw[if_neg (by omega)];simp[Addr.add]
  ·rw[List.getElem_drop,Nat.add_assoc];exact h4
theorem aA.cell{M:Nat→Prop}{w w':World}(h:aA M w w'){p:Addr}(hb:p.block<w.heap.size)(hn:¬M p.block):w'.cell? p=w.cell? p :=
 (h.keeps (ok:=fun b=>¬M b) fun _ hb=>hb).cell hn hb
theorem aM8(l:List HC)(k:Nat):bS (l.take k)=(bS l).take (k*3):=by
 induction l generalizing k with
 | nil=>simp[bS]
 | cons x l ih =>
  cases k with
  | zero=>simp[bS]
  | succ k=>rw[show (k+1)*3=k*3+1+1+1 by omega,List.take_succ_cons];simp only[bS,List.take_succ_cons,ih]
theorem eT.cut{w:World}{base:Nat}{a:Option Addr}{n cap:Nat}{H:List HC}(h:eT w base (.slice a n cap) H){k:Nat}(hk:k≤H.length):eT w base (.slice a k cap) (H.take k):=by
 have hr:=iD h.row hk;rw[←aM8] at hr;have hl:(H.take k).length=k:=by rw[List.length_take];omega
 refine⟨by rw[hl];exact hr,fun i hi=>?_⟩;rw[hl] at hi;rw[zQ hi];exact h.fits i (by omega)
theorem sU(top:Int):∀(l:List Int) (x:Int) (H:List HC),dM top (l++[x]) H=if x<top then (dM top l H).set x.toNat ⟨1,x,⟨#[]⟩⟩ else dM top l H:=by
 intro l
 induction l with
 | nil=>intro x H;rfl
 | cons y l ih=>intro x H;simp only[List.cons_append,dM];rw[ih]
theorem eT.unb{w:World}{base g cap:Nat}{H:List HC}{n:Nat}(h:eT w base (.slice (some ⟨g,0,none⟩) n cap) H)(hn:n=H.length){p:Nat}{x:Int}(hp:p<H.length)(hx:I64 x) :
 eT (((w.setCell ⟨g,p*3,none⟩ (.int .i64 1)).setCell ⟨g,p*3+1,none⟩ (.int .i64 x)).setCell ⟨g,p*3+2,none⟩ (.string ⟨#[]⟩)) base (.slice (some ⟨g,0,none⟩) n cap) (H.set p ⟨1,x,⟨#[]⟩⟩):=by
 subst hn;have h0:=(World.ownsRow.stored h.row (p*3) (.int .i64 1)).1;have h1:=(World.ownsRow.stored h0 (p*3+1) (.int .i64 x)).1;have h2:=(World.ownsRow.stored h1 (p*3+2) (.string ⟨#[]⟩)).1;rw[←xH H p hp ⟨1,x,⟨#[]⟩⟩] at h2;refine⟨by rw[List.length_set];exact h2,fun i hi=>?_⟩;rw[List.length_set] at hi;rw[aL1 H p i _ hp];by_cases e:i=p
 ·rw[if_pos e];exact⟨(by show I64 (1:Int);unfold I64;decide),hx,(by show (⟨#[]⟩:ByteArray).size≤maxLen;unfold maxLen;decide)⟩
 ·rw[if_neg e];exact h.fits i hi
structure UAt(w:World)(B o:Nat)(vs:Array Value)(ty:TypeId)(base:Nat)(H:List HC)(T:List Int)(nG:Nat)(ha ta ga:Option Addr)(hn tn gn:Nat):Prop where
 blk:w.heap[B]? = some (.cells vs ty (0,0))
 h:vs[o]? = some (.slice ha H.length hn)
 g:vs[o+1]? = some (.slice ga nG gn)
 t:vs[o+4]? = some (.slice ta T.length tn)
 own:eT w base (.slice ha H.length hn) H
 tr:dC w (fun b=>b≠B∧(Value.slice ha H.length hn).ownBlock≠some b) T ta tn
 ne:(Value.slice ha H.length hn).ownBlock≠some B
 gc:nG≤gn∧gn≤maxLen
def nN(w:World)(B o:Nat)(vs:Array Value)(ty:TypeId)(base:Nat)(H:List HC)(T:List Int)(ha ta ga:Option Addr)(hn tn gn:Nat)(c:Chi)(e:Ending)(w':World):Prop :=
 (∃v,e=.returned v)∧aA (fun b=>b=B∨(Value.slice ha H.length hn).ownBlock=some b) w w' ∧
 w'.heap[B]? = some (.cells (((vs.setIfInBounds o (.slice ha c.heap.toNat hn)).setIfInBounds (o+4) (.slice ta c.trail.toNat tn)).setIfInBounds (o+1) (.slice ga c.goals.toNat gn)) ty (0,0)) ∧
 eT w' base (.slice ha c.heap.toNat hn) ((dM c.heap (T.drop c.trail.toNat) H).take c.heap.toNat)
theorem bC4{w:World}{B o:Nat}{vs:Array Value}{ty:TypeId}{base:Nat}{H:List HC}{T:List Int}{nG:Nat}{ha ta ga:Option Addr}{hn tn gn:Nat}(h:UAt w B o vs ty base H T nG ha ta ga hn tn gn){c:Chi}
 (hH:0≤c.heap∧c.heap≤(H.length:Int)) (hT:0≤c.trail∧c.trail≤(T.length:Int)) (hG:0≤c.goals∧c.goals≤(nG:Int)) (hx:∀x,x∈T→0≤x) (hl:H.length≤400000) :
 Calls Try.prog 84 #[.pointer (some ⟨B,o,none⟩),.agg #[.int .i64 c.goal,.int .i64 c.clause,.int .i64 c.heap,.int .i64 c.trail,.int .i64 c.goals]] w (nN w B o vs ty base H T ha ta ga hn tn gn c):=by
 have HU:=lh h;have q0:w.cell? ⟨B,o,none⟩=some (.slice ha H.length hn):=by have:=h.h;simp[World.cell?,h.blk,this]
 have q1:w.cell? ⟨B,o+1,none⟩=some (.slice ga nG gn):=by have:=h.g;simp[World.cell?,h.blk,this]
 have q4:w.cell? ⟨B,o+4,none⟩=some (.slice ta T.length tn):=by have:=h.t;simp[World.cell?,h.blk,this]
 have zB:B<w.heap.size:=(gS h.blk).1;have hT9:T.length≤9223372036854775807:=by have:=h.tr.cap;unfold maxLen at this;omega
 clear h;obtain⟨t0,t1⟩:=hT;go_enter Try.func84,Try.ntmps84;go_wp2_with fail
 go_quiet (fail)
 have HB0:Hid (Below w.heap.size w ((w.alloc (.cells #[.int .i64 c.goal,.int .i64 c.clause,.int .i64 c.heap,.int .i64 c.trail,.int .i64 c.goals] 67)).drewN nq)):=lh (((bR _ _).alloc (nR _) _).trans ((bP _ nq).mono (by simp)));have HC0:Hid (mS ((w.alloc (.cells #[.int .i64 c.goal,.int .i64 c.clause,.int .i64 c.heap,.int .i64 c.trail,.int .i64 c.goals] 67)).drewN nq) w.heap.size c):=lh (mS.keep (w:=w.alloc (.cells #[.int .i64 c.goal,.int .i64 c.clause,.int .i64 c.heap,.int .i64 c.trail,.int .i64 c.goals] 67)) ⟨heap_alloc_new w _⟩ ((bP _ nq).block _ (by simp)));generalize (w.alloc (.cells #[.int .i64 c.goal,.int .i64 c.clause,.int .i64 c.heap,.int .i64 c.trail,.int .i64 c.goals] 67)).drewN nq=W0 at *;have HD:=lh ((HU.out.tr.keep (aD.below HB0.out _)).drop (k:=c.trail.toNat) (by omega));generalize (if tn=c.trail.toNat then ta else Option.map (fun x=>x.add c.trail.toNat) ta)=ta2 at *;have hdl:(T.drop c.trail.toNat).length=T.length-c.trail.toNat:=List.length_drop;have HDX:Hid (∀x,x∈T.drop c.trail.toNat→0≤x):=lh fun x h=>hx x (List.mem_of_mem_drop h)
 have hd9:(T.drop c.trail.toNat).length≤9223372036854775807:=by omega
 rw[←hdl];clear hdl;generalize hTD:T.drop c.trail.toNat=TD at *;have HTD:=lh hTD;clear hTD;go_wp2_with fail
 go_loopw[14] (fun x14 wr=>∃j:Nat,j≤TD.length∧x14=.int .i64 j∧Hid (eT wr base (.slice ha H.length hn) (dM c.heap (TD.take j) H))∧Hid (aA (fun b=>(Value.slice ha H.length hn).ownBlock=some b) W0 wr)) (fun x14 _=>TD.length-(intOf x14).toNat)
 case atStart=>exact⟨0,Nat.zero_le _,rfl,lh (by rw[List.take_zero];exact HU.out.own.below HB0.out),lh (aA.refl _ _)⟩
 case round =>
  obtain⟨j,hj,rfl,HO,HT⟩:=hrel;by_cases hlt:j<TD.length
  ·obtain⟨b,off,hta,hokb,hb,m0⟩:=HD.out.at' j hlt
   subst hta;have y0:wr.cell? ⟨b,off+j,none⟩=some (.int .i64 TD[j]):=(HT.out.cell (p:=⟨b,off+j,none⟩) hb hokb.2).trans m0;have xB:(Value.slice ha H.length hn).ownBlock≠some B:=HU.out.ne;have zB2:=HB0.out.size;have qh:wr.cell? ⟨B,o,none⟩=some (.slice ha H.length hn):=(HT.out.cell (p:=⟨B,o,none⟩) (by show B<_;omega) xB).trans ((HB0.out.cell (p:=⟨B,o,none⟩) zB).trans q0);have zc:(Value.slice ha H.length hn).ownBlock≠some w.heap.size:=fun e=>by have:=(HU.out.own.row.lt _ e).2;omega
   obtain⟨k0,k1,k2,k3,k4,-⟩:=(HC0.out.keep (HT.out.block _ HC0.out.lt zc)).all;have hxn:=HDX.out _ (List.getElem_mem hlt);have HSN:Hid (dM c.heap (TD.take (j+1)) H=if TD[j]<c.heap then (dM c.heap (TD.take j) H).set TD[j].toNat ⟨1,TD[j],⟨#[]⟩⟩ else dM c.heap (TD.take j) H):=lh (by rw[List.take_succ_eq_append_getElem hlt,sU]);have hul:=dH c.heap (TD.take j) H;by_cases hc:TD[j]<c.heap
   ·obtain⟨p,hp⟩:∃p:Nat,TD[j]=(p:Int):=⟨TD[j].toNat,by omega⟩
    rw[hp,if_pos (by omega),Int.toNat_natCast] at HSN;rw[hp] at y0 hc;have hpl:p<H.length:=by omega
    have hrow:=HO.out.row;rw[hul] at hrow;obtain⟨g,cap,hgv⟩:=bQ hrow (by omega);injection hgv with e1 _ e2;subst e1;subst e2;have HO2:=lh (HO.out.unb (p:=p) (x:=(p:Int)) hul.symm (by omega) (by unfold I64;omega));obtain⟨a2,c2,e,hpp⟩:=dV.of_row (ok:=fun _=>True) HO.out.row (fun _ _=>trivial) HO.out.fits;injection e with e1 _ e2;subst e1;subst e2;obtain⟨b',off',he,-,zg,d0,d1,d2,-⟩:=hpp.at' p (by omega);injection he with he;injection he with e1 e2;subst e1;subst e2;rw[Nat.zero_add] at d0 d1 d2;have gf:∀o,wr.frozen? ⟨g,o,none⟩=false:=fun o=>hrow.frozenAt o
    rw[←HSN.out] at HO2;have HT2:=lh (((HT.out.trans (aA.setCell (p:=⟨g,p*3,none⟩) (.int .i64 1) rfl)).trans (aA.setCell (p:=⟨g,p*3+1,none⟩) (.int .i64 (p:Int)) rfl)).trans (aA.setCell (p:=⟨g,p*3+2,none⟩) (.string ⟨#[]⟩) rfl));have p0:(0:Int)≤(p:Int):=by omega
    have p1:(p:Int)<(H.length:Int):=by omega
    clear hxn hul HSN hpp hrow hp hpl;go_wp2_with fail;go_roundw
    case measure=>simp only[intOf];omega
    case rel=>exact⟨j+1,by omega,by go_num,HO2,HT2⟩
   ·have HO2:Hid (eT wr base (.slice ha H.length hn) (dM c.heap (TD.take (j+1)) H)):=lh (by rw[HSN.out,if_neg hc];exact HO.out)
    clear hxn hul HSN;go_wp2_with fail;go_roundw
    case measure=>simp only[intOf];omega
    case rel=>exact⟨j+1,by omega,by go_num,HO2,HT⟩
  ·have xB:(Value.slice ha H.length hn).ownBlock≠some B:=HU.out.ne
   have zB2:=HB0.out.size;have hkB:wr.heap[B]? = some (.cells vs ty (0,0)):=((HT.out.block B (by omega) xB).trans (HB0.out.block B zB)).trans HU.out.blk;have HKB:=lh hkB;have r0:wr.cell? ⟨B,o,none⟩=some (.slice ha H.length hn):=by have:=HU.out.h;simp[World.cell?,hkB,this]
   have r1:wr.cell? ⟨B,o+1,none⟩=some (.slice ga nG gn):=by have:=HU.out.g;simp[World.cell?,hkB,this]
   have r4:wr.cell? ⟨B,o+4,none⟩=some (.slice ta T.length tn):=by have:=HU.out.t;simp[World.cell?,hkB,this]
   have rf:∀i,wr.frozen? ⟨B,i,none⟩=false:=fun i=>by simp[World.frozen?,hkB]
   have zc:(Value.slice ha H.length hn).ownBlock≠some w.heap.size:=fun e=>by have:=(HU.out.own.row.lt _ e).2;omega
   obtain⟨k0,k1,k2,k3,k4,-⟩:=(HC0.out.keep (HT.out.block _ HC0.out.lt zc)).all;have hcap:=HU.out.own.row;have hh0:=hH.1;have HH2:=lh hH.2;have hh1:c.heap≤(hn:Int):=by
    obtain⟨a2,c2,e,hpp⟩:=dV.of_row (ok:=fun _=>True) hcap (fun _ _=>trivial) HU.out.own.fits;injection e with _ _ e2;have:=hpp.cap;omega
   have ht1:c.trail≤(tn:Int):=by have:=HU.out.tr.cap;omega
   have hg0:=hG.1;have hg1:c.goals≤(gn:Int):=by have:=HU.out.gc;omega
   clear hkB xB zc hcap hH hG;go_wp2_with fail
   go_region
   have HJ:Hid (TD.take j=TD):=lh (List.take_of_length_le (by omega));have z1:=aB wr B o (.slice ha c.heap.toNat hn) HKB.out;have z2:=aB _ B (o+4) (.slice ta c.trail.toNat tn) z1;have z3:=aB _ B (o+1) (.slice ga c.goals.toNat gn) z2;have hcut:=HO.out.cut (k:=c.heap.toNat) (by rw[dH];have:=HH2.out;omega);rw[HJ.out,←HTD.out] at hcut;have hown:eT ((wr.setCell ⟨B,o,none⟩ (.slice ha c.heap.toNat hn)).setCell ⟨B,o+4,none⟩ (.slice ta c.trail.toNat tn) |>.setCell ⟨B,o+1,none⟩ (.slice ga c.goals.toNat gn)) base (.slice ha c.heap.toNat hn) ((dM c.heap (T.drop c.trail.toNat) H).take c.heap.toNat):=hcut.keep fun g hg=>by
    have hgB:g≠B:=fun e=>HU.out.ne (by
     cases ha with
     | none=>cases hg
     | some a=>rw[←e];exact hg)
    rw[Below.heap_setCell _ _ _ _ hgB,Below.heap_setCell _ _ _ _ hgB,Below.heap_setCell _ _ _ _ hgB]
   have hto:aA (fun b=>b=B∨(Value.slice ha H.length hn).ownBlock=some b) w ((wr.setCell ⟨B,o,none⟩ (.slice ha c.heap.toNat hn)).setCell ⟨B,o+4,none⟩ (.slice ta c.trail.toNat tn) |>.setCell ⟨B,o+1,none⟩ (.slice ga c.goals.toNat gn)) :=
    ((((aA.below HB0.out).trans (HT.out.mono fun b _ e=>.inr e)).trans (aA.setCell _ (.inl rfl))).trans (aA.setCell _ (.inl rfl))).trans (aA.setCell _ (.inl rfl))
   have hdr:=bP (wr.setCell ⟨B,o,none⟩ (.slice ha c.heap.toNat hn) |>.setCell ⟨B,o+4,none⟩ (.slice ta c.trail.toNat tn) |>.setCell ⟨B,o+1,none⟩ (.slice ga c.goals.toNat gn)) 1;refine bodyPost_ret (v:=.tuple #[]) (by simp[results,Try.results84,go_sem]) rfl ⟨⟨_,rfl⟩,hto.trans (aA.below hdr),?_,hown.below hdr⟩;exact z3
end Go.Proofs.Ytikmgiapjigghab
namespace Go.Proofs.Ytikmgiapjigghab
open Go.RowKit
theorem bL{w:World}{base:Nat}{e:TypeId}{size:Nat}{v:Value}{n:Nat}{xs:List Value}(h:w.ownsRow base e size v n xs):∃a c,v=.slice a n c:=by
 rcases h.2 with ⟨h1,h2⟩|⟨g,cap,cur,h1,_⟩
 ·exact⟨none,0,by rw[h1,h2]⟩
 ·exact⟨_,_,h1⟩
theorem dV.rw'{w:World}{ok:Nat→Prop}{H:List HC}{a:Option Addr}{cap:Nat}(h:dV w ok H a cap):cZ w ok 3 H.length (bS H) a cap:=by
 refine⟨h.cap,jW H,fun j u hu=>?_⟩;have hl:j<(bS H).length:=(List.getElem?_eq_some_iff.1 hu).1;rw[jW] at hl;have hi:j / 3<H.length:=by omega
 obtain⟨b,off,e,hok,hb,-⟩:=h.at' (j / 3) hi;subst e;refine⟨b,off,rfl,hok,hb,?_⟩;have:=h.news j u hu;rw[fY] at this;exact this
theorem dC.rw'{w:World}{ok:Nat→Prop}{l:List Int}{a:Option Addr}{cap:Nat}(h:dC w ok l a cap):cZ w ok 1 l.length (l.map fun x=>Value.int .i64 x) a cap:=by
 refine⟨h.cap,by simp,fun j u hu=>?_⟩;have hl:j<l.length:=by have:=(List.getElem?_eq_some_iff.1 hu).1;simpa using this
 obtain⟨b,off,e,hok,hb,hc⟩:=h.at' j hl;refine⟨b,off,e,hok,hb,?_⟩;rw[List.getElem?_map,List.getElem?_eq_getElem hl] at hu;simp only[Option.map_some,Option.some.injEq] at hu;rw[hc,hu]
theorem qM(l:List Int):∀u∈l.map (fun x=>Value.int .i64 x),u.oneCell'=true:=by
 intro u hu;obtain⟨x,_,rfl⟩:=List.mem_map.1 hu;rfl
structure gV(m:Mac):Prop where
 h:m.H.length*32≤140737488355328
 g:m.G.length*24≤140737488355328
 c:m.ch.length*40≤140737488355328
 t:m.T.length*8≤140737488355328
 q:m.Q.length*8≤140737488355328
 a:m.ans.length*24≤140737488355328
 each:∀l,l∈m.ans→l.length*48≤140737488355328∧∀t,t∈l→rO t
def kS(f:Nat)(e:TypeId)(k:Nat)(a:Value)(n:Nat)(vs:List Value)(w:World):Prop :=
 ∀u,Below w.heap.size w u→Calls Try.prog f #[a] u fun e' w'=>(∃a c,e'=.returned (.slice a n c)∧w'.ownsRow u.heap.size e k (.slice a n c) n vs)∧Below u.heap.size u w'
theorem kS.of{f:Nat}{e:TypeId}{k:Nat}{a:Value}{n:Nat}{vs:List Value}{w:World}(h:∀u,Below w.heap.size w u→Calls Try.prog f #[a] u fun e' w'=>(∃v,e'=.returned v∧w'.ownsRow u.heap.size e k v n vs)∧Below u.heap.size u w'):kS f e k a n vs w:=fun u hu =>
 (h u hu).mono fun e' w' ⟨⟨v,h1,h2⟩,h3⟩=>by
  obtain⟨a,c,rfl⟩:=bL h2;exact⟨⟨a,c,h1,h2⟩,h3⟩
def bk(a:Option Addr):Option Nat:=(Value.slice a 0 0).ownBlock
theorem aE(a:Option Addr)(n c:Nat):(Value.slice a n c).ownBlock=bk a:=by cases a <;> rfl
def Nd(l:List (Option Nat)):Prop:=l.Pairwise fun x y=>∀b,x=some b→y≠some b
theorem Nd.up{l:List (Option Nat×Nat×Nat)}(h1:∀x,x∈l→∀b,x.1=some b→x.2.1≤b∧b<x.2.2)(h2:l.Pairwise fun x y=>x.2.2≤y.2.1):Nd (l.map (·.1)):=by
 unfold Nd;rw[List.pairwise_map];refine List.Pairwise.imp_of_mem (fun {x y} hx hy h b e1 e2=>?_) h2;have:=h1 x hx b e1;have:=h1 y hy b e2;omega
structure bM4(w wx:World)(m:Mac)(d d':MAd):Prop where
 box:cL wx w.heap.size m {d with h:=d'.h,g:=d'.g,c:=d'.c,hn:=d'.hn,gn:=d'.gn,cn:=d'.cn}
 res:wx.heap[w.heap.size+1]? = some (.cells #[.slice none 0 0,.slice none 0 0,.int .i64 0,.slice none 0 0,.slice none 0 0,.slice none 0 0,.int .i64 0,.int .i64 0,.slice none 0 0] 30 (0,0))
 h:wx.ownsRow (w.heap.size+2) 69 3 (.slice d'.h m.H.length d'.hn) m.H.length (bS m.H)
 g:wx.ownsRow (w.heap.size+2) 65 3 (.slice d'.g m.G.length d'.gn) m.G.length (cE m.G)
 c:wx.ownsRow (w.heap.size+2) 67 5 (.slice d'.c m.ch.length d'.cn) m.ch.length (cW m.ch)
 ne:Nd [bk d'.h,bk d'.g,bk d'.c]
 below:Below w.heap.size w wx
theorem aI{w:World}{base base':Nat}{e:TypeId}{size:Nat}{v:Value}{n:Nat}{xs:List Value}(h:w.ownsRow base e size v n xs)(hb:base'≤base):w.ownsRow base' e size v n xs :=
 ⟨h.1,h.2.imp id fun ⟨g,c,cur,e1,e2,e3⟩=>⟨g,c,cur,e1,Nat.le_trans hb e2,e3⟩⟩
theorem aS5{w u w1 w2 w3:World}{m:Mac}{d:MAd}(hu:Below w.heap.size w u)(hus:u.heap.size=w.heap.size+2)(hx:cL u w.heap.size m d)(hz:u.heap[w.heap.size+1]? = some (.cells #[.slice none 0 0,.slice none 0 0,.int .i64 0,.slice none 0 0,.slice none 0 0,.slice none 0 0,.int .i64 0,.int .i64 0,.slice none 0 0] 30 (0,0))){a1 a2 a3:Option Addr}{c1 c2 c3:Nat}
 (ho1:w1.ownsRow u.heap.size 69 3 (.slice a1 m.H.length c1) m.H.length (bS m.H)) (hb1:Below u.heap.size u w1)
 (ho2:w2.ownsRow w1.heap.size 65 3 (.slice a2 m.G.length c2) m.G.length (cE m.G)) (hb2:Below w1.heap.size w1 w2)
 (ho3:w3.ownsRow w2.heap.size 67 5 (.slice a3 m.ch.length c3) m.ch.length (cW m.ch)) (hb3:Below w2.heap.size w2 w3) :
 bM4 w (((w3.setCell ⟨w.heap.size,0,none⟩ (.slice a1 m.H.length c1)).setCell ⟨w.heap.size,1,none⟩ (.slice a2 m.G.length c2)).setCell ⟨w.heap.size,3,none⟩ (.slice a3 m.ch.length c3)) m d ⟨a1,a2,a3,none,none,none,c1,c2,c3,0,0,0⟩:=by
 have s1:=hb1.size;have s2:=hb2.size;have s3:=hb3.size;have hB3:Below u.heap.size u w3:=(hb1.trans (hb2.mono s1)).trans (hb3.mono (Nat.le_trans s1 s2));have hx3:=(hx.below hB3).blk;have k1:=aB w3 w.heap.size 0 (.slice a1 m.H.length c1) hx3;have k2:=aB _ w.heap.size 1 (.slice a2 m.G.length c2) k1;have k3:=aB _ w.heap.size 3 (.slice a3 m.ch.length c3) k2;have hne:∀b,b≠w.heap.size→(((w3.setCell ⟨w.heap.size,0,none⟩ (.slice a1 m.H.length c1)).setCell ⟨w.heap.size,1,none⟩ (.slice a2 m.G.length c2)).setCell ⟨w.heap.size,3,none⟩ (.slice a3 m.ch.length c3)).heap[b]? = w3.heap[b]?:=fun b hb=>by
  rw[Below.heap_setCell _ _ _ _ hb,Below.heap_setCell _ _ _ _ hb,Below.heap_setCell _ _ _ _ hb]
 have g1:∀b,(Value.slice a1 m.H.length c1).ownBlock=some b→u.heap.size≤b∧b<w1.heap.size:=fun b hb=>ho1.lt b hb
 have g2:∀b,(Value.slice a2 m.G.length c2).ownBlock=some b→w1.heap.size≤b∧b<w2.heap.size:=fun b hb=>ho2.lt b hb
 have g3:∀b,(Value.slice a3 m.ch.length c3).ownBlock=some b→w2.heap.size≤b∧b<w3.heap.size:=fun b hb=>ho3.lt b hb
 refine⟨⟨k3⟩,?_,?_,?_,?_,?_,?_⟩
 ·rw[hne _ (by omega),hB3.block _ (by omega)];exact hz
 ·exact aI (aC (aH (aH ho1 hb2) hb3) fun g hg=>hne g (by have:=g1 g hg;omega)) (by omega)
 ·exact aI (aC (aH ho2 hb3) fun g hg=>hne g (by have:=g2 g hg;omega)) (by omega)
 ·exact aI (aC ho3 fun g hg=>hne g (by have:=g3 g hg;omega)) (by omega)
 ·exact Nd.up (l:=[(bk a1,u.heap.size,w1.heap.size),(bk a2,w1.heap.size,w2.heap.size),(bk a3,w2.heap.size,w3.heap.size)]) (by
   intro x hx b hb;simp only[List.mem_cons,List.not_mem_nil,or_false] at hx;rcases hx with rfl|rfl|rfl
   ·exact g1 b ((aE _ _ _).trans hb)
   ·exact g2 b ((aE _ _ _).trans hb)
   ·exact g3 b ((aE _ _ _).trans hb)) (by simp[List.pairwise_cons];omega)
 ·have ht:aA (fun b=>b=w.heap.size) w3 _:=((aA.setCell (M:=fun b=>b=w.heap.size) (w:=w3) (p:=⟨w.heap.size,0,none⟩) (.slice a1 m.H.length c1) rfl).trans (aA.setCell (M:=fun b=>b=w.heap.size) (p:=⟨w.heap.size,1,none⟩) (.slice a2 m.G.length c2) rfl)).trans (aA.setCell (M:=fun b=>b=w.heap.size) (p:=⟨w.heap.size,3,none⟩) (.slice a3 m.ch.length c3) rfl)
  exact(hu.trans (hB3.mono (by omega))).trans (ht.toBelow (by omega) fun b e=>by omega)
theorem Try.infoAnM1:(Try.prog.info? 78).map (fun i=>(i.size,i.bytes))=some (1,24):=by kernel_rfl
theorem Try.infoAnM2:((Try.prog.info? 78).bind (fun i=>i.zero)).map (fun z=>z.cells.size)=some 1:=by kernel_rfl
theorem zY:∃i z,Try.prog.info? 78=some i∧i.zero=some z∧i.size=1∧i.bytes=24∧z.cells.size=1:=by
 have h1:=Try.infoAnM1;have h2:=Try.infoAnM2;obtain⟨i,hi,h3⟩:=Option.map_eq_some_iff.1 h1;obtain⟨z,hz,h4⟩:=Option.map_eq_some_iff.1 h2;rw[hi,Option.bind_some] at hz;simp only[Prod.mk.injEq] at h3;exact⟨i,z,hi,hz,h3.1,h3.2,h4⟩
theorem yG{w:World}{ok:Nat→Prop}(t:Tm):t.fits→∀(a:Option Addr) (cap:Nat),Ts w ok t.args a cap→∀p,p∈t.parts→I64 p.var:=by
 induction t using Tm.ind with
 | h v n l ih =>
  intro hf a cap ht p hp;rw[Tm.parts] at hp;rcases List.mem_cons.1 hp with rfl|hp
  ·exact hf.1
  ·obtain⟨x,hx,hp⟩:=jA _ _ hp
   obtain⟨k,hk,rfl⟩:=List.getElem_of_mem hx;obtain⟨b,off,a',cap',_,_,_,hc,h2⟩:=Ts.at (l:=l) ht k hk;exact ih _ (List.getElem_mem hk) hc.fits a' cap' h2 p hp
def mvA(l:List Tm):List Tm:=l.map (far 0)
structure uZ(w:World)(ok:Nat→Prop)(wb wr:World)(l:List (List Tm))(v:Value)(A:List ((Option Addr×Nat)×List Tm)):Prop where
 row:wr.ownsRow wb.heap.size 78 1 v A.length (iC A)
 eq:A.map (·.2)=l
 each:∀x,x∈A→Ts wr (fun b=>((ok b∧b<w.heap.size)∨wb.heap.size≤b)∧v.ownBlock≠some b) x.2 x.1.1 x.1.2
 below:Below wb.heap.size wb wr
theorem uZ.more{w:World}{ok:Nat→Prop}{wb wr X w':World}{l:List (List Tm)}{v v':Value}{A:List ((Option Addr×Nat)×List Tm)}(h:uZ w ok wb wr l v A)(hX:Below wr.heap.size wr X){r:List Tm}{a:Option Addr}{c:Nat}(ht:Ts X (OkN (fun b=>ok b∧b<w.heap.size) wr) r a c)(hw:w.heap.size≤wb.heap.size)
 (ho:w'.ownsRow wb.heap.size 78 1 v' (A.length+1) (iC A++[.slice a r.length c])) (hg:X.grownBy w' v.ownBlock) (hf:cF X v v'):uZ w ok wb w' (l++[r]) v' (A++[((a,c),r)]):=by
 have hlt:∀b,v.ownBlock=some b→wb.heap.size≤b∧b<wr.heap.size:=fun b hb=>h.row.lt b hb
 have hs:=h.below.size;have key:∀{r:List Tm} {a:Option Addr} {c:Nat},Ts X (fun b=>((ok b∧b<w.heap.size)∨wb.heap.size≤b)∧v.ownBlock≠some b) r a c→Ts w' (fun b=>((ok b∧b<w.heap.size)∨wb.heap.size≤b)∧v'.ownBlock≠some b) r a c:=fun {r a c} ht=>by
  have h1:Ts X (fun b=>(((ok b∧b<w.heap.size)∨wb.heap.size≤b)∧v.ownBlock≠some b)∧b<X.heap.size) r a c:=ht.mono fun b hb h=>⟨h,hb⟩
  have h2:aD (fun b=>(((ok b∧b<w.heap.size)∨wb.heap.size≤b)∧v.ownBlock≠some b)∧b<X.heap.size) X w':=⟨hg.size,fun b hb hs=>hg.block b hs (fun e=>hb.1.2 e.symm)⟩
  refine(h1.keep h2).mono fun b _ hb=>⟨hb.1.1,?_⟩
  rcases hf with hf|hf
  ·rw[hf];exact hb.1.2
  ·intro e;have:=hf b e;omega
 refine⟨by rw[List.length_append];simpa[iC] using ho,by rw[List.map_append,h.eq];rfl,fun x hx=>?_,(h.below.trans (hX.mono hs)).grown hg (Nat.le_trans hs hX.size) (fun k hk=>(hlt k hk).1)⟩;rcases List.mem_append.1 hx with hx|hx
 ·exact key ((h.each x hx).keep (aD.below hX _))
 ·rw[List.mem_singleton] at hx
  subst hx;refine key (ht.mono fun b _ hb=>?_);rcases hb with hb|hb
  ·exact⟨.inl hb,fun e=>by have:=hlt b e;omega⟩
  ·exact⟨.inr (by omega),fun e=>by have:=hlt b e;omega⟩
structure bM5(w wx:World)(m:Mac)(d d':MAd):Prop where
 box:cL wx w.heap.size m {d' with a:=d.a,an:=d.an}
 res:wx.heap[w.heap.size+1]? = some (.cells #[.slice none 0 0,.slice none 0 0,.int .i64 0,.slice none 0 0,.slice none 0 0,.slice none 0 0,.int .i64 0,.int .i64 0,.slice none 0 0] 30 (0,0))
 h:wx.ownsRow (w.heap.size+2) 69 3 (.slice d'.h m.H.length d'.hn) m.H.length (bS m.H)
 g:wx.ownsRow (w.heap.size+2) 65 3 (.slice d'.g m.G.length d'.gn) m.G.length (cE m.G)
 c:wx.ownsRow (w.heap.size+2) 67 5 (.slice d'.c m.ch.length d'.cn) m.ch.length (cW m.ch)
 t:wx.ownsRow (w.heap.size+2) 3 1 (.slice d'.t m.T.length d'.tn) m.T.length (m.T.map fun x=>Value.int .i64 x)
 q:wx.ownsRow (w.heap.size+2) 3 1 (.slice d'.q m.Q.length d'.qn) m.Q.length (m.Q.map fun x=>Value.int .i64 x)
 ne:Nd [bk d'.h,bk d'.g,bk d'.c,bk d'.t,bk d'.q]
 below:Below w.heap.size w wx
theorem aS6{w u w1 w2:World}{m:Mac}{d d':MAd}(hu:bM4 w u m d d'){a1 a2:Option Addr}{c1 c2:Nat}
 (ho1:w1.ownsRow u.drew.heap.size 3 1 (.slice a1 m.T.length c1) m.T.length (m.T.map fun x=>Value.int .i64 x)) (hb1:Below u.drew.heap.size u.drew w1)
 (ho2:w2.ownsRow w1.heap.size 3 1 (.slice a2 m.Q.length c2) m.Q.length (m.Q.map fun x=>Value.int .i64 x)) (hb2:Below w1.heap.size w1 w2) :
 bM5 w ((w2.setCell ⟨w.heap.size,4,none⟩ (.slice a1 m.T.length c1)).setCell ⟨w.heap.size,5,none⟩ (.slice a2 m.Q.length c2)) m d ⟨d'.h,d'.g,d'.c,a1,a2,none,d'.hn,d'.gn,d'.cn,c1,c2,0⟩:=by
 have hd:Below u.heap.size u u.drew:=(bR _ _).drew;have s0:=hd.size;have s1:=hb1.size;have s2:=hb2.size;have hB2:Below u.heap.size u w2:=(hd.trans (hb1.mono s0)).trans (hb2.mono (Nat.le_trans s0 s1));have hus:w.heap.size+2≤u.heap.size:=by have:=(gS hu.res).1;omega
 have hx2:=(hu.box.below hB2).blk;have k1:=aB w2 w.heap.size 4 (.slice a1 m.T.length c1) hx2;have k2:=aB _ w.heap.size 5 (.slice a2 m.Q.length c2) k1;have hne:∀b,b≠w.heap.size→((w2.setCell ⟨w.heap.size,4,none⟩ (.slice a1 m.T.length c1)).setCell ⟨w.heap.size,5,none⟩ (.slice a2 m.Q.length c2)).heap[b]? = w2.heap[b]?:=fun b hb=>by
  rw[Below.heap_setCell _ _ _ _ hb,Below.heap_setCell _ _ _ _ hb]
 have g1:∀b,(Value.slice a1 m.T.length c1).ownBlock=some b→u.drew.heap.size≤b∧b<w1.heap.size:=fun b hb=>ho1.lt b hb
 have g2:∀b,(Value.slice a2 m.Q.length c2).ownBlock=some b→w1.heap.size≤b∧b<w2.heap.size:=fun b hb=>ho2.lt b hb
 have old:∀{e:TypeId} {k:Nat} {a:Option Addr} {n c:Nat} {vs:List Value},u.ownsRow (w.heap.size+2) e k (.slice a n c) n vs→((w2.setCell ⟨w.heap.size,4,none⟩ (.slice a1 m.T.length c1)).setCell ⟨w.heap.size,5,none⟩ (.slice a2 m.Q.length c2)).ownsRow (w.heap.size+2) e k (.slice a n c) n vs:=fun h =>
  aC (aH h hB2) fun g hg=>hne g (by have:=h.lt g hg;omega)
 have oldlt:∀{e:TypeId} {k:Nat} {a:Option Addr} {n c:Nat} {vs:List Value},u.ownsRow (w.heap.size+2) e k (.slice a n c) n vs→∀b,bk a=some b→b<u.heap.size:=fun h b hb=>(h.lt b ((aE _ _ _).trans hb)).2
 refine⟨⟨k2⟩,?_,old hu.h,old hu.g,old hu.c,?_,?_,?_,?_⟩
 ·rw[hne _ (by omega),hB2.block _ (by omega)];exact hu.res
 ·exact aI (aC (aH ho1 hb2) fun g hg=>hne g (by have:=g1 g hg;omega)) (by omega)
 ·exact aI (aC ho2 fun g hg=>hne g (by have:=g2 g hg;omega)) (by omega)
 ·have hn:=hu.ne
  have l1:=oldlt hu.h;have l2:=oldlt hu.g;have l3:=oldlt hu.c;have n4:∀x:Option Nat,(∀b,x=some b→b<u.heap.size)→(∀b,x=some b→bk a1≠some b)∧∀b,x=some b→bk a2≠some b:=fun x hx =>
   ⟨fun b hb e=>by have:=hx b hb;have:=g1 b ((aE _ _ _).trans e);omega,fun b hb e=>by have:=hx b hb;have:=g2 b ((aE _ _ _).trans e);omega⟩
  have n5:∀b,bk a1=some b→bk a2≠some b:=fun b hb e=>by have:=g1 b ((aE _ _ _).trans hb);have:=g2 b ((aE _ _ _).trans e);omega
  unfold Nd at hn ⊢;simp only[List.pairwise_cons,List.mem_cons,List.not_mem_nil,or_false,forall_eq_or_imp,forall_eq] at hn ⊢;exact⟨⟨hn.1.1,hn.1.2,(n4 _ l1).1,(n4 _ l1).2⟩,⟨hn.2.1,(n4 _ l2).1,(n4 _ l2).2⟩,⟨(n4 _ l3).1,(n4 _ l3).2⟩,n5,fun _ h=>h.elim,List.Pairwise.nil⟩
 ·have ht:aA (fun b=>b=w.heap.size) w2 _:=(aA.setCell (M:=fun b=>b=w.heap.size) (w:=w2) (p:=⟨w.heap.size,4,none⟩) (.slice a1 m.T.length c1) rfl).trans (aA.setCell (M:=fun b=>b=w.heap.size) (p:=⟨w.heap.size,5,none⟩) (.slice a2 m.Q.length c2) rfl)
  exact(hu.below.trans (hB2.mono (by omega))).trans (ht.toBelow (by omega) fun b e=>by omega)
structure OwM(w:World)(base:Nat)(okA:Nat→Prop)(m:Mac)(d:MAd):Prop where
 h:eT w base (.slice d.h m.H.length d.hn) m.H
 g:w.ownsRow base 65 3 (.slice d.g m.G.length d.gn) m.G.length (cE m.G)
 c:w.ownsRow base 67 5 (.slice d.c m.ch.length d.cn) m.ch.length (cW m.ch)
 t:w.ownsRow base 3 1 (.slice d.t m.T.length d.tn) m.T.length (m.T.map fun x=>Value.int .i64 x)
 q:w.ownsRow base 3 1 (.slice d.q m.Q.length d.qn) m.Q.length (m.Q.map fun x=>Value.int .i64 x)
 a:∃A:List ((Option Addr×Nat)×List Tm),A.map (·.2)=m.ans∧w.ownsRow base 78 1 (.slice d.a m.ans.length d.an) A.length (iC A)∧∀x,x∈A→Ts w (fun b=>okA b∧∀y,y∈[bk d.h,bk d.g,bk d.c,bk d.t,bk d.q,bk d.a]→y≠some b) x.2 x.1.1 x.1.2
 ne:Nd [bk d.h,bk d.g,bk d.c,bk d.t,bk d.q,bk d.a]
def zZ(w:World)(ok:Nat→Prop)(m:Mac)(e:Ending)(w':World):Prop :=
 ∃d,e=.returned (.agg ({m with ans:=m.ans.map mvA}.vals d).toArray)∧OwM w' w.heap.size (fun b=>(ok b∧b<w.heap.size)∨w.heap.size≤b) {m with ans:=m.ans.map mvA} d∧Below w.heap.size w w'
theorem bB0{w wc wo wz:World}{ok:Nat→Prop}{m:Mac}{d d2:MAd}(h2:bM5 w wc m d d2){aa:Option Addr}{ac:Nat}{A:List ((Option Addr×Nat)×List Tm)}(hA:uZ w ok wc wo (m.ans.map mvA) (.slice aa A.length ac) A)(ht:aA (fun b=>b=w.heap.size∨b=w.heap.size+1) wo wz)
 (hf:∀i,i<m.H.length→(hc m.H i).fits):OwM wz w.heap.size (fun b=>(ok b∧b<w.heap.size)∨w.heap.size≤b) {m with ans:=m.ans.map mvA} ⟨d2.h,d2.g,d2.c,d2.t,d2.q,aa,d2.hn,d2.gn,d2.cn,d2.tn,d2.qn,ac⟩∧Below w.heap.size w wz:=by
 have hs:=h2.below.size;have hz:w.heap.size+2≤wc.heap.size:=by have:=(gS h2.res).1;omega
 have hw:=hA.below.size;have hl:A.length=(m.ans.map mvA).length:=by have:=congrArg List.length hA.eq;simpa using this
 have old:∀{e:TypeId} {k:Nat} {a:Option Addr} {n c:Nat} {vs:List Value},wc.ownsRow (w.heap.size+2) e k (.slice a n c) n vs→wz.ownsRow w.heap.size e k (.slice a n c) n vs:=fun h =>
  aI (aC (aH h hA.below) fun g hg=>ht.block g (by have:=h.lt g hg;omega) (by have:=h.lt g hg;omega)) (by omega)
 have olt:∀{e:TypeId} {k:Nat} {a:Option Addr} {n c:Nat} {vs:List Value},wc.ownsRow (w.heap.size+2) e k (.slice a n c) n vs→∀b,bk a=some b→w.heap.size+2≤b∧b<wc.heap.size:=fun h b hb=>h.lt b ((aE _ _ _).trans hb)
 have alt:∀b,bk aa=some b→wc.heap.size≤b∧b<wo.heap.size:=fun b hb=>hA.row.lt b ((aE _ _ _).trans hb)
 have l1:=olt h2.h;have l2:=olt h2.g;have l3:=olt h2.c;have l4:=olt h2.t;have l5:=olt h2.q;refine⟨⟨⟨old h2.h,hf⟩,old h2.g,old h2.c,old h2.t,old h2.q,⟨A,hA.eq,?_,fun x hx=>?_⟩,?_⟩,?_⟩
 ·have hr:=aI (aC hA.row fun g hg=>ht.block g (hA.row.lt g hg).2 (by have:=(hA.row.lt g hg).1;omega)) (show w.heap.size≤wc.heap.size by omega)
  rw[←hl];exact hr
 ·have h1:=(hA.each x hx).mono (ok':=fun b=>((ok b∧b<w.heap.size)∨wc.heap.size≤b)∧bk aa≠some b) fun b _ hb=>⟨hb.1,fun e=>hb.2 ((aE _ _ _).trans e)⟩
  have h3:aD (fun b=>((ok b∧b<w.heap.size)∨wc.heap.size≤b)∧bk aa≠some b) wo wz:=ht.keeps fun b hb=>by have:=hb.1;omega
  refine(h1.keep h3).mono fun b _ hb=>⟨hb.1.imp id fun e=>by omega,fun y hy e=>?_⟩
  subst e;simp only[List.mem_cons,List.not_mem_nil,or_false] at hy;rcases hy with e|e|e|e|e|e
  ·have:=l1 b e.symm;omega
  ·have:=l2 b e.symm;omega
  ·have:=l3 b e.symm;omega
  ·have:=l4 b e.symm;omega
  ·have:=l5 b e.symm;omega
  ·exact hb.2 e.symm
 ·have hn:=h2.ne
  have key:∀x:Option Nat,(∀b,x=some b→w.heap.size+2≤b∧b<wc.heap.size)→∀b,x=some b→bk aa≠some b:=fun x hx b e1 e2=>by
   have:=hx b e1;have:=alt b e2;omega
  unfold Nd at hn ⊢;simp only[List.pairwise_cons,List.mem_cons,List.not_mem_nil,or_false,forall_eq_or_imp,forall_eq] at hn ⊢;obtain⟨⟨a1,a2,a3,a4⟩,⟨b1,b2,b3⟩,⟨c1,c2⟩,d1,-⟩:=hn;exact⟨⟨a1,a2,a3,a4,key _ l1⟩,⟨b1,b2,b3,key _ l2⟩,⟨c1,c2,key _ l3⟩,⟨d1,key _ l4⟩,key _ l5,fun _ h=>h.elim,List.Pairwise.nil⟩
 ·exact(h2.below.trans (hA.below.mono hs)).trans (ht.toBelow (by omega) fun b e=>by omega)
theorem bB1(m:Mac)(d:MAd){w:World}{ok:Nat→Prop}(h:bO w ok m d)(hb:gV m) :
 Calls Try.prog 23 #[.agg #[.slice d.h m.H.length d.hn,.slice d.g m.G.length d.gn,.int .i64 m.first,.slice d.c m.ch.length d.cn,.slice d.t m.T.length d.tn,.slice d.q m.Q.length d.qn,.int .i64 m.steps,.int .i64 m.fin,.slice d.a m.ans.length d.an]] w (zZ w ok m):=by
 have HM:Hid (bO w (fun b=>ok b∧b<w.heap.size) m d):=lh (h.mono fun b hb ho=>⟨ho,hb⟩);have HC1:=lh (kS.of (f:=56) fun u hu=>aF1 (HM.out.h.rw'.below hu) (xG _) hb.h);have HC2:=lh (kS.of (f:=57) fun u hu=>aF2 (HM.out.g.below hu) (xO _) hb.g);have HC3:=lh (kS.of (f:=58) fun u hu=>aF3 (HM.out.c.below hu) (xP _) hb.c);have HC4:=lh (kS.of (f:=59) fun u hu=>uL (HM.out.t.rw'.below hu) (qM _) hb.t);have HC5:=lh (kS.of (f:=59) fun u hu=>uL (HM.out.q.rw'.below hu) (qM _) hb.q);have HBIG:=lh hb;clear h hb;obtain⟨dh,dg,dc,dt,dq,da,dhn,dgn,dcn,dtn,dqn,dan⟩:=d;simp only at HC1 HC2 HC3 HC4 HC5 ⊢;go_enter Try.func23,Try.ntmps23;go_upto_region 1 with fail
 go_cut[] from 3 (fun wx=>∃d',bM4 w wx m ⟨dh,dg,dc,dt,dq,da,dhn,dgn,dcn,dtn,dqn,dan⟩ d')
 case first =>
  have HBD:Hid (Below w.heap.size w ((w.alloc (.cells (m.vals ⟨dh,dg,dc,dt,dq,da,dhn,dgn,dcn,dtn,dqn,dan⟩).toArray 30)).alloc (.cells #[.slice none 0 0,.slice none 0 0,.int .i64 0,.slice none 0 0,.slice none 0 0,.slice none 0 0,.int .i64 0,.int .i64 0,.slice none 0 0] 30)).drew):=lh ((((bR _ _).alloc (nR _) _).alloc (by simp) _).drew);have HX:Hid (cL ((w.alloc (.cells (m.vals ⟨dh,dg,dc,dt,dq,da,dhn,dgn,dcn,dtn,dqn,dan⟩).toArray 30)).alloc (.cells #[.slice none 0 0,.slice none 0 0,.int .i64 0,.slice none 0 0,.slice none 0 0,.slice none 0 0,.int .i64 0,.int .i64 0,.slice none 0 0] 30)).drew w.heap.size m ⟨dh,dg,dc,dt,dq,da,dhn,dgn,dcn,dtn,dqn,dan⟩):=lh ((cL.made w m _).below (((bR _ _).alloc (nR _) _).drew));have hsz:(w.alloc (.cells (m.vals ⟨dh,dg,dc,dt,dq,da,dhn,dgn,dcn,dtn,dqn,dan⟩).toArray 30)).heap.size=w.heap.size+1:=by simp
  have HZ:Hid (((w.alloc (.cells (m.vals ⟨dh,dg,dc,dt,dq,da,dhn,dgn,dcn,dtn,dqn,dan⟩).toArray 30)).alloc (.cells #[.slice none 0 0,.slice none 0 0,.int .i64 0,.slice none 0 0,.slice none 0 0,.slice none 0 0,.int .i64 0,.int .i64 0,.slice none 0 0] 30)).drew.heap[w.heap.size+1]? = some (.cells #[.slice none 0 0,.slice none 0 0,.int .i64 0,.slice none 0 0,.slice none 0 0,.slice none 0 0,.int .i64 0,.int .i64 0,.slice none 0 0] 30 (0,0))):=lh (by rw[←hsz];exact heap_alloc_new _ _);have HSZ:Hid (((w.alloc (.cells (m.vals ⟨dh,dg,dc,dt,dq,da,dhn,dgn,dcn,dtn,dqn,dan⟩).toArray 30)).alloc (.cells #[.slice none 0 0,.slice none 0 0,.int .i64 0,.slice none 0 0,.slice none 0 0,.slice none 0 0,.int .i64 0,.int .i64 0,.slice none 0 0] 30)).drew.heap.size=w.heap.size+2):=lh (by simp[World.drew]);clear hsz;simp only[Mac.vals] at HBD HX HZ HSZ;go_wp2_with fail
  go_region_with (first
   | (go_at_call 56;refine(HC1.out _ HBD.out).mono ?_;rintro e w1 ⟨⟨a1,c1,rfl,ho1⟩,hb1⟩;have HO1:=lh ho1;have HB1:=lh (HBD.out.trans (hb1.mono HBD.out.size));have HX1:=lh (HX.out.below hb1);have HK1:=lh hb1;obtain⟨y0,y1,y2,y3,y4,y5,y6,y7,y8,yf⟩:=HX1.out.all;clear ho1 hb1)
   | (go_at_call 57;refine(HC2.out _ HB1.out).mono ?_;rintro e w2 ⟨⟨a2,c2,rfl,ho2⟩,hb2⟩;have HO2:=lh ho2;have HB2:=lh (HB1.out.trans (hb2.mono HB1.out.size));have HX2:=lh (HX1.out.below hb2);have HK2:=lh hb2;obtain⟨z0,z1,z2,z3,z4,z5,z6,z7,z8,zf⟩:=HX2.out.all;clear ho2 hb2)
   | (go_at_call 58;refine(HC3.out _ HB2.out).mono ?_;rintro e w3 ⟨⟨a3,c3,rfl,ho3⟩,hb3⟩;have HO3:=lh ho3;have HB3:=lh (HB2.out.trans (hb3.mono HB2.out.size));have HX3:=lh (HX2.out.below hb3);have HK3:=lh hb3;obtain⟨x0,x1,x2,x3,x4,x5,x6,x7,x8,xf⟩:=HX3.out.all;clear ho3 hb3))
  all_goals
   go_wp2_with fail;go_meet
   case rel=>exact⟨_,aS5 HBD.out HSZ.out HX.out HZ.out HO1.out HK1.out HO2.out HK2.out HO3.out HK3.out⟩
 case rest =>
  obtain⟨d',hO⟩:=hcut;have HO:=lh hO;clear hO;go_upto_region 2 with fail
  go_cut[] from 3 (fun wx=>∃d',bM5 w wx m ⟨dh,dg,dc,dt,dq,da,dhn,dgn,dcn,dtn,dqn,dan⟩ d')
  case first =>
   have HBD:=lh (HO.out.below.drew);have hX:=HO.out.box.below ((bR _ _).drew);have HX:=lh hX;obtain⟨p0,p1,p2,p3,p4,p5,p6,p7,p8,pf⟩:=hX.all;clear hX;go_wp2_with fail
   go_region_with (first
    | (go_at_call 59;refine(HC4.out _ HBD.out).mono ?_;rintro e w1 ⟨⟨a1,c1,rfl,ho1⟩,hb1⟩;have HO1:=lh ho1;have HB1:=lh (HBD.out.trans (hb1.mono HBD.out.size));have HX1:=lh (HX.out.below hb1);have HK1:=lh hb1;obtain⟨y0,y1,y2,y3,y4,y5,y6,y7,y8,yf⟩:=HX1.out.all;clear ho1 hb1)
    | (go_at_call 59;refine(HC5.out _ HB1.out).mono ?_;rintro e w2 ⟨⟨a2,c2,rfl,ho2⟩,hb2⟩;have HO2:=lh ho2;have HB2:=lh (HB1.out.trans (hb2.mono HB1.out.size));have HX2:=lh (HX1.out.below hb2);have HK2:=lh hb2;obtain⟨z0,z1,z2,z3,z4,z5,z6,z7,z8,zf⟩:=HX2.out.all;clear ho2 hb2))
   all_goals
    go_wp2_with fail;go_meet
    case rel=>exact⟨_,aS6 HO.out HO1.out HK1.out HO2.out HK2.out⟩
  case rest =>
   obtain⟨d2,hO2⟩:=hcut;have HO2:=lh hO2;clear hO2;obtain⟨p0,p1,p2,p3,p4,p5,p6,p7,p8,pf⟩:=HO2.out.box.all;have hwc:=HO2.out.below.size;have han:=HBIG.out.a;go_wp2_with fail
   go_loopw[3,32] (fun v3 v32 wr=>∃(i:Nat) (A:List ((Option Addr×Nat)×List Tm)),i≤m.ans.length∧v32=.int .i64 i∧Hid (uZ w ok wc wr ((m.ans.take i).map mvA) v3 A)) (fun _ v32 _=>m.ans.length-(intOf v32).toNat)
   case atStart=>exact⟨0,[],Nat.zero_le _,rfl,lh ⟨World.ownsRow_nil _ _ _ _,by simp,(fun x hx=>nomatch hx),Below.refl _ _⟩⟩
   case round =>
    rename World=>wo
    obtain⟨i,A,hi,rfl,HA⟩:=hrel;obtain⟨aa,ac,rfl⟩:=bL HA.out.row;have hAl:A.length=i:=by have:=congrArg List.length HA.out.eq;simp at this;omega
    have HAL:=lh hAl;have hwr:=HA.out.below.size;have HBW:Hid (Below w.heap.size w wo):=lh (HO2.out.below.trans (HA.out.below.mono hwc));clear hAl;by_cases hlt:i<m.ans.length
    ·obtain⟨b,off,a1,c1,hda,-,hb,hcl,hts⟩:=HM.out.a.elem i hlt
     have hda':da=some ⟨b,off,none⟩:=hda;clear hda;subst hda';have y0:=(HBW.out.cell (p:=⟨b,off+i,none⟩) hb).trans hcl;obtain⟨hbl,hba⟩:=HBIG.out.each _ (List.getElem_mem hlt);have HTS:=lh hts;have HBA:=lh hba;have HTK:Hid ((m.ans.take (i+1)).map mvA=(m.ans.take i).map mvA++[mvA m.ans[i]]):=lh (by rw[List.take_succ_eq_append_getElem hlt,List.map_append];rfl);clear hcl hts hba;generalize m.ans[i]=s at *;go_wp2_with fail
     go_loopw[6,38] (fun v6 v38 wr=>∃(k:Nat) (L:List dS),k≤s.length∧v38=.int .i64 k∧Hid (L.map (·.1)=(s.take k).map (far 0))∧Hid (dA wr wo.heap.size (OkN (fun b=>ok b∧b<w.heap.size) wo) v6 L)∧Hid (Below wo.heap.size wo wr)) (fun _ v38 _=>s.length-(intOf v38).toNat)
     case atStart=>exact⟨0,[],Nat.zero_le _,rfl,lh rfl,lh (dA.nil _ _ _),lh (bR _ _)⟩
     case round =>
      obtain⟨k,L,hk,rfl,HL,HOW,HBZ⟩:=hrel;obtain⟨xa,xc,rfl⟩:=HOW.out.form;have hLl:L.length=k:=by
       have:=congrArg List.length HL.out;rw[List.length_map,List.length_map,List.length_take] at this;omega
      have HLK:=lh hLl;have hwz:=HBZ.out.size;clear hLl;by_cases hlt2:k<s.length
      ·obtain⟨b2,off2,a2,c2,hsa,-,hb2,hc2,ht2⟩:=HTS.out.at k hlt2
       subst hsa;have hbz:Hid (Below w.heap.size w wr):=lh (HBW.out.trans (HBZ.out.mono HBW.out.size));have m0:=(hbz.out.cell (p:=⟨b2,off2+k*3,none⟩) hb2).trans hc2.var;have m1:=(hbz.out.cell (p:=⟨b2,off2+k*3+1,none⟩) hb2).trans hc2.name;have m2:=(hbz.out.cell (p:=⟨b2,off2+k*3+2,none⟩) hb2).trans hc2.args;have HTK2:Hid ((s.take (k+1)).map (far 0)=(s.take k).map (far 0)++[far 0 s[k]]):=lh (by rw[List.take_succ_eq_append_getElem hlt2,List.map_append];rfl);have HCL:Hid (∀X,Calls Try.prog 60 #[.agg #[.int .i64 s[k].var,.string s[k].name,.slice a2 s[k].args.length c2],.int .i64 0] (wr.alloc X) (oK (wr.alloc X) (fun b=>ok b∧b<w.heap.size) (far 0 s[k]))):=lh fun X=>by
        have hbx:Below w.heap.size w (wr.alloc X):=hbz.out.alloc hbz.out.size X;exact bF7 (K:=0) s[k] _ (fun b=>ok b∧b<w.heap.size) a2 c2 (fun b hb=>nT hb.2 hbx.size) (HBA.out _ (List.getElem_mem hlt2)) hc2.fits (ht2.keep (aD.below hbx _)) (fun p hp _=>by have:=yG s[k] hc2.fits a2 c2 ht2 p hp;rwa [Int.add_zero])
       obtain⟨i0,hi0,hz0',hz1',hz2'⟩:=info_parts Try.infoTm;clear hc2 ht2;go_wp2_with (first
        | (go_at_call 60;refine(HCL.out _).mono ?_;rintro e w1 ⟨a3,c3,rfl,hf3,ht3,hb3⟩;have HB1:=lh (((Below.refl wr.heap.size wr).alloc (nR _) _).trans (hb3.mono (by simp)));have HO1:=lh ((aH HOW.out.own HB1.out).alloc (.cells #[.int .i64 (far 0 s[k]).var,.string (far 0 s[k]).name,.slice a3 (far 0 s[k]).args.length c3] 71));have HF3:=lh hf3;have HT3:=lh ht3;clear hf3 ht3 hb3)
        | (at_builtin;have _g:=HO1;(refine aJ _ rfl _ _ 78 rfl wo.heap.size 71 i0 _ 3 48 Try.underlying78 hi0 hz0' hz1' hz2' rfl (by decide) _ _ _ rfl HO1.out (some ⟨w1.heap.size,0,none⟩) 1 1 ?d0 (dX [(far 0 s[k],a3,c3)]) rfl (by rw[eG];rfl) ?d1 (kU _) ?d2 ?d3 ?d4 ?_)))
       any_goals (first|(intro h;cases h;done)|exact aN6 _ _ a3 c3 rfl|(have:=HLK.out;unfold maxLen;omega)|(have:=HLK.out;omega)|(have:=HB1.out.size;simp only[World.size_alloc];omega))
       intro v4 w4 hown4 hgrow4 hfr4;have HNX:=lh (dA.more (wX:=wr.alloc (.cells #[.int .i64 s[k].var,.string s[k].name,.slice a2 s[k].args.length c2] 71)) HOW.out HBZ.out (fun b hb=>nT hb.2 HBW.out.size) (by simp) HB1.out HF3.out HT3.out ((bR _ _).alloc (nR _) _) hown4 hgrow4 hfr4);clear hown4 hgrow4 hfr4;go_wp2_with fail;go_roundw
       case measure=>simp only[intOf];omega
       case rel=>exact⟨k+1,_,by omega,by go_num,lh (by rw[List.map_append,HL.out,HTK2.out];rfl),lh HNX.out.1,lh HNX.out.2⟩
      ·have HLE:Hid ((s.take k).map (far 0)=mvA s):=lh (by rw[List.take_of_length_le (by omega)];rfl)
       have hex:∃l a c,Value.slice xa L.length xc=.slice a l.length c∧l=mvA s∧Ts wr (OkN (fun b=>ok b∧b<w.heap.size) wo) l a c:=by
        obtain⟨a,c,e1,e2⟩:=HOW.out.ret (w:=wo) (nR _);exact⟨L.map (·.1),a,c,e1,HL.out.trans HLE.out,e2⟩
       obtain⟨l,la,lc,hle,hll,hlt3⟩:=hex;have HLT:=lh hlt3;have HLL:=lh hll;rw[hle];obtain⟨i0,zc,hi0,hz0,hz1,hz2,hz3⟩:=zY;have HO1:=lh ((aH HA.out.row HBZ.out).alloc (.cells #[.slice la l.length lc] 78));have hA9:A.length*24≤140737488355328:=by have:=HAL.out;omega
       clear hle hll hlt3;go_wp2_with (at_builtin;have _g:=HO1;(refine aR _ rfl _ _ 28 rfl wc.heap.size 78 i0 zc 1 24 Try.underlying28 hi0 hz0 hz1 hz2 hz3 (by decide) _ _ _ rfl HO1.out ⟨wr.heap.size,0,none⟩ 1 1 [.slice la l.length lc] rfl rfl ?e1 ?e2 ?e3 ?e4 ?e5 ?_))
       any_goals (first|exact dT _ _ _|(intro u hu;simp only[List.mem_singleton] at hu;subst hu;rfl)|rfl|(have:=HAL.out;unfold maxLen;omega)|(have:=HAL.out;omega)|(simp only[World.size_alloc];omega))
       intro av' X3 hown3 hg3 hfr3;have HNX:=lh (HA.out.more (X:=wr.alloc (.cells #[.slice la l.length lc] 78)) (HBZ.out.trans ((bR _ _).alloc (nR _) _ |>.mono hwz)) (HLT.out.keep (aD.below ((bR _ _).alloc (nR _) _) _)) hwc hown3 hg3 hfr3);clear hown3 hg3 hfr3;go_wp2_with fail;go_roundw
       case measure=>simp only[intOf];omega
       case rel=>exact⟨i+1,_,by omega,by go_num,lh (by rw[HTK.out,←HLL.out];exact HNX.out)⟩
    ·have HE:Hid (m.ans.take i=m.ans):=lh (List.take_of_length_le (by omega))
     have hX:=HO2.out.box.below HA.out.below;have HX:=lh hX;obtain⟨x0,x1,x2,x3,x4,x5,x6,x7,x8,xf⟩:=hX.all;have hR:=(HA.out.below.block _ (gS HO2.out.res).1).trans HO2.out.res;have HRR:=lh hR;have r0:wo.cell? ⟨w.heap.size+1,0,none⟩=some (.slice none 0 0):=by simp[World.cell?,hR]
     have r1:wo.cell? ⟨w.heap.size+1,1,none⟩=some (.slice none 0 0):=by simp[World.cell?,hR]
     have r2:wo.cell? ⟨w.heap.size+1,2,none⟩=some (.int .i64 0):=by simp[World.cell?,hR]
     have r3:wo.cell? ⟨w.heap.size+1,3,none⟩=some (.slice none 0 0):=by simp[World.cell?,hR]
     have r4:wo.cell? ⟨w.heap.size+1,4,none⟩=some (.slice none 0 0):=by simp[World.cell?,hR]
     have r5:wo.cell? ⟨w.heap.size+1,5,none⟩=some (.slice none 0 0):=by simp[World.cell?,hR]
     have r6:wo.cell? ⟨w.heap.size+1,6,none⟩=some (.int .i64 0):=by simp[World.cell?,hR]
     have r7:wo.cell? ⟨w.heap.size+1,7,none⟩=some (.int .i64 0):=by simp[World.cell?,hR]
     have r8:wo.cell? ⟨w.heap.size+1,8,none⟩=some (.slice none 0 0):=by simp[World.cell?,hR]
     have rf:∀o,wo.frozen? ⟨w.heap.size+1,o,none⟩=false:=fun o=>by simp[World.frozen?,hR]
     clear hX hR;go_wp2_with fail;have hne:w.heap.size+1≠w.heap.size:=by omega
     have k:=(Below.heap_setCell wo ⟨w.heap.size,8,none⟩ (.slice aa A.length ac) _ hne).trans HRR.out;have k0:=aB _ (w.heap.size+1) 0 (.slice d2.h m.H.length d2.hn) k;have k1:=aB _ (w.heap.size+1) 1 (.slice d2.g m.G.length d2.gn) k0;have k2:=aB _ (w.heap.size+1) 2 (.int .i64 m.first) k1;have k3:=aB _ (w.heap.size+1) 3 (.slice d2.c m.ch.length d2.cn) k2;have k4:=aB _ (w.heap.size+1) 4 (.slice d2.t m.T.length d2.tn) k3;have k5:=aB _ (w.heap.size+1) 5 (.slice d2.q m.Q.length d2.qn) k4;have k6:=aB _ (w.heap.size+1) 6 (.int .i64 m.steps) k5;have k7:=aB _ (w.heap.size+1) 7 (.int .i64 m.fin) k6;have k8:=aB _ (w.heap.size+1) 8 (.slice aa A.length ac) k7;have e0:((((((((((wo.setCell ⟨w.heap.size,8,none⟩ (.slice aa A.length ac)).setCell ⟨w.heap.size+1,0,none⟩ (.slice d2.h m.H.length d2.hn)).setCell ⟨w.heap.size+1,1,none⟩ (.slice d2.g m.G.length d2.gn)).setCell ⟨w.heap.size+1,2,none⟩ (.int .i64 m.first)).setCell ⟨w.heap.size+1,3,none⟩ (.slice d2.c m.ch.length d2.cn)).setCell ⟨w.heap.size+1,4,none⟩ (.slice d2.t m.T.length d2.tn)).setCell ⟨w.heap.size+1,5,none⟩ (.slice d2.q m.Q.length d2.qn)).setCell ⟨w.heap.size+1,6,none⟩ (.int .i64 m.steps)).setCell ⟨w.heap.size+1,7,none⟩ (.int .i64 m.fin)).setCell ⟨w.heap.size+1,8,none⟩ (.slice aa A.length ac)).cell? ⟨w.heap.size+1,0,none⟩=some (.slice d2.h m.H.length d2.hn):=by simp[World.cell?,k8]
     have e1:((((((((((wo.setCell ⟨w.heap.size,8,none⟩ (.slice aa A.length ac)).setCell ⟨w.heap.size+1,0,none⟩ (.slice d2.h m.H.length d2.hn)).setCell ⟨w.heap.size+1,1,none⟩ (.slice d2.g m.G.length d2.gn)).setCell ⟨w.heap.size+1,2,none⟩ (.int .i64 m.first)).setCell ⟨w.heap.size+1,3,none⟩ (.slice d2.c m.ch.length d2.cn)).setCell ⟨w.heap.size+1,4,none⟩ (.slice d2.t m.T.length d2.tn)).setCell ⟨w.heap.size+1,5,none⟩ (.slice d2.q m.Q.length d2.qn)).setCell ⟨w.heap.size+1,6,none⟩ (.int .i64 m.steps)).setCell ⟨w.heap.size+1,7,none⟩ (.int .i64 m.fin)).setCell ⟨w.heap.size+1,8,none⟩ (.slice aa A.length ac)).cell? ⟨w.heap.size+1,1,none⟩=some (.slice d2.g m.G.length d2.gn):=by simp[World.cell?,k8]
     have e2:((((((((((wo.setCell ⟨w.heap.size,8,none⟩ (.slice aa A.length ac)).setCell ⟨w.heap.size+1,0,none⟩ (.slice d2.h m.H.length d2.hn)).setCell ⟨w.heap.size+1,1,none⟩ (.slice d2.g m.G.length d2.gn)).setCell ⟨w.heap.size+1,2,none⟩ (.int .i64 m.first)).setCell ⟨w.heap.size+1,3,none⟩ (.slice d2.c m.ch.length d2.cn)).setCell ⟨w.heap.size+1,4,none⟩ (.slice d2.t m.T.length d2.tn)).setCell ⟨w.heap.size+1,5,none⟩ (.slice d2.q m.Q.length d2.qn)).setCell ⟨w.heap.size+1,6,none⟩ (.int .i64 m.steps)).setCell ⟨w.heap.size+1,7,none⟩ (.int .i64 m.fin)).setCell ⟨w.heap.size+1,8,none⟩ (.slice aa A.length ac)).cell? ⟨w.heap.size+1,2,none⟩=some (.int .i64 m.first):=by simp[World.cell?,k8]
     have e3:((((((((((wo.setCell ⟨w.heap.size,8,none⟩ (.slice aa A.length ac)).setCell ⟨w.heap.size+1,0,none⟩ (.slice d2.h m.H.length d2.hn)).setCell ⟨w.heap.size+1,1,none⟩ (.slice d2.g m.G.length d2.gn)).setCell ⟨w.heap.size+1,2,none⟩ (.int .i64 m.first)).setCell ⟨w.heap.size+1,3,none⟩ (.slice d2.c m.ch.length d2.cn)).setCell ⟨w.heap.size+1,4,none⟩ (.slice d2.t m.T.length d2.tn)).setCell ⟨w.heap.size+1,5,none⟩ (.slice d2.q m.Q.length d2.qn)).setCell ⟨w.heap.size+1,6,none⟩ (.int .i64 m.steps)).setCell ⟨w.heap.size+1,7,none⟩ (.int .i64 m.fin)).setCell ⟨w.heap.size+1,8,none⟩ (.slice aa A.length ac)).cell? ⟨w.heap.size+1,3,none⟩=some (.slice d2.c m.ch.length d2.cn):=by simp[World.cell?,k8]
     have e4:((((((((((wo.setCell ⟨w.heap.size,8,none⟩ (.slice aa A.length ac)).setCell ⟨w.heap.size+1,0,none⟩ (.slice d2.h m.H.length d2.hn)).setCell ⟨w.heap.size+1,1,none⟩ (.slice d2.g m.G.length d2.gn)).setCell ⟨w.heap.size+1,2,none⟩ (.int .i64 m.first)).setCell ⟨w.heap.size+1,3,none⟩ (.slice d2.c m.ch.length d2.cn)).setCell ⟨w.heap.size+1,4,none⟩ (.slice d2.t m.T.length d2.tn)).setCell ⟨w.heap.size+1,5,none⟩ (.slice d2.q m.Q.length d2.qn)).setCell ⟨w.heap.size+1,6,none⟩ (.int .i64 m.steps)).setCell ⟨w.heap.size+1,7,none⟩ (.int .i64 m.fin)).setCell ⟨w.heap.size+1,8,none⟩ (.slice aa A.length ac)).cell? ⟨w.heap.size+1,4,none⟩=some (.slice d2.t m.T.length d2.tn):=by simp[World.cell?,k8]
     have e5:((((((((((wo.setCell ⟨w.heap.size,8,none⟩ (.slice aa A.length ac)).setCell ⟨w.heap.size+1,0,none⟩ (.slice d2.h m.H.length d2.hn)).setCell ⟨w.heap.size+1,1,none⟩ (.slice d2.g m.G.length d2.gn)).setCell ⟨w.heap.size+1,2,none⟩ (.int .i64 m.first)).setCell ⟨w.heap.size+1,3,none⟩ (.slice d2.c m.ch.length d2.cn)).setCell ⟨w.heap.size+1,4,none⟩ (.slice d2.t m.T.length d2.tn)).setCell ⟨w.heap.size+1,5,none⟩ (.slice d2.q m.Q.length d2.qn)).setCell ⟨w.heap.size+1,6,none⟩ (.int .i64 m.steps)).setCell ⟨w.heap.size+1,7,none⟩ (.int .i64 m.fin)).setCell ⟨w.heap.size+1,8,none⟩ (.slice aa A.length ac)).cell? ⟨w.heap.size+1,5,none⟩=some (.slice d2.q m.Q.length d2.qn):=by simp[World.cell?,k8]
     have e6:((((((((((wo.setCell ⟨w.heap.size,8,none⟩ (.slice aa A.length ac)).setCell ⟨w.heap.size+1,0,none⟩ (.slice d2.h m.H.length d2.hn)).setCell ⟨w.heap.size+1,1,none⟩ (.slice d2.g m.G.length d2.gn)).setCell ⟨w.heap.size+1,2,none⟩ (.int .i64 m.first)).setCell ⟨w.heap.size+1,3,none⟩ (.slice d2.c m.ch.length d2.cn)).setCell ⟨w.heap.size+1,4,none⟩ (.slice d2.t m.T.length d2.tn)).setCell ⟨w.heap.size+1,5,none⟩ (.slice d2.q m.Q.length d2.qn)).setCell ⟨w.heap.size+1,6,none⟩ (.int .i64 m.steps)).setCell ⟨w.heap.size+1,7,none⟩ (.int .i64 m.fin)).setCell ⟨w.heap.size+1,8,none⟩ (.slice aa A.length ac)).cell? ⟨w.heap.size+1,6,none⟩=some (.int .i64 m.steps):=by simp[World.cell?,k8]
     have e7:((((((((((wo.setCell ⟨w.heap.size,8,none⟩ (.slice aa A.length ac)).setCell ⟨w.heap.size+1,0,none⟩ (.slice d2.h m.H.length d2.hn)).setCell ⟨w.heap.size+1,1,none⟩ (.slice d2.g m.G.length d2.gn)).setCell ⟨w.heap.size+1,2,none⟩ (.int .i64 m.first)).setCell ⟨w.heap.size+1,3,none⟩ (.slice d2.c m.ch.length d2.cn)).setCell ⟨w.heap.size+1,4,none⟩ (.slice d2.t m.T.length d2.tn)).setCell ⟨w.heap.size+1,5,none⟩ (.slice d2.q m.Q.length d2.qn)).setCell ⟨w.heap.size+1,6,none⟩ (.int .i64 m.steps)).setCell ⟨w.heap.size+1,7,none⟩ (.int .i64 m.fin)).setCell ⟨w.heap.size+1,8,none⟩ (.slice aa A.length ac)).cell? ⟨w.heap.size+1,7,none⟩=some (.int .i64 m.fin):=by simp[World.cell?,k8]
     have e8:((((((((((wo.setCell ⟨w.heap.size,8,none⟩ (.slice aa A.length ac)).setCell ⟨w.heap.size+1,0,none⟩ (.slice d2.h m.H.length d2.hn)).setCell ⟨w.heap.size+1,1,none⟩ (.slice d2.g m.G.length d2.gn)).setCell ⟨w.heap.size+1,2,none⟩ (.int .i64 m.first)).setCell ⟨w.heap.size+1,3,none⟩ (.slice d2.c m.ch.length d2.cn)).setCell ⟨w.heap.size+1,4,none⟩ (.slice d2.t m.T.length d2.tn)).setCell ⟨w.heap.size+1,5,none⟩ (.slice d2.q m.Q.length d2.qn)).setCell ⟨w.heap.size+1,6,none⟩ (.int .i64 m.steps)).setCell ⟨w.heap.size+1,7,none⟩ (.int .i64 m.fin)).setCell ⟨w.heap.size+1,8,none⟩ (.slice aa A.length ac)).cell? ⟨w.heap.size+1,8,none⟩=some (.slice aa A.length ac):=by simp[World.cell?,k8]
     clear k k0 k1 k2 k3 k4 k5 k6 k7 k8;have hto:aA (fun b=>b=w.heap.size∨b=w.heap.size+1) wo ((((((((((wo.setCell ⟨w.heap.size,8,none⟩ (.slice aa A.length ac)).setCell ⟨w.heap.size+1,0,none⟩ (.slice d2.h m.H.length d2.hn)).setCell ⟨w.heap.size+1,1,none⟩ (.slice d2.g m.G.length d2.gn)).setCell ⟨w.heap.size+1,2,none⟩ (.int .i64 m.first)).setCell ⟨w.heap.size+1,3,none⟩ (.slice d2.c m.ch.length d2.cn)).setCell ⟨w.heap.size+1,4,none⟩ (.slice d2.t m.T.length d2.tn)).setCell ⟨w.heap.size+1,5,none⟩ (.slice d2.q m.Q.length d2.qn)).setCell ⟨w.heap.size+1,6,none⟩ (.int .i64 m.steps)).setCell ⟨w.heap.size+1,7,none⟩ (.int .i64 m.fin)).setCell ⟨w.heap.size+1,8,none⟩ (.slice aa A.length ac)):=((((((((((aA.setCell (M:=fun b=>b=w.heap.size∨b=w.heap.size+1) (w:=wo) (p:=⟨w.heap.size,8,none⟩) (.slice aa A.length ac) (.inl rfl)).trans (aA.setCell (p:=⟨w.heap.size+1,0,none⟩) (.slice d2.h m.H.length d2.hn) (.inr rfl))).trans (aA.setCell (p:=⟨w.heap.size+1,1,none⟩) (.slice d2.g m.G.length d2.gn) (.inr rfl))).trans (aA.setCell (p:=⟨w.heap.size+1,2,none⟩) (.int .i64 m.first) (.inr rfl))).trans (aA.setCell (p:=⟨w.heap.size+1,3,none⟩) (.slice d2.c m.ch.length d2.cn) (.inr rfl))).trans (aA.setCell (p:=⟨w.heap.size+1,4,none⟩) (.slice d2.t m.T.length d2.tn) (.inr rfl))).trans (aA.setCell (p:=⟨w.heap.size+1,5,none⟩) (.slice d2.q m.Q.length d2.qn) (.inr rfl))).trans (aA.setCell (p:=⟨w.heap.size+1,6,none⟩) (.int .i64 m.steps) (.inr rfl))).trans (aA.setCell (p:=⟨w.heap.size+1,7,none⟩) (.int .i64 m.fin) (.inr rfl))).trans (aA.setCell (p:=⟨w.heap.size+1,8,none⟩) (.slice aa A.length ac) (.inr rfl)))
     generalize ((((((((((wo.setCell ⟨w.heap.size,8,none⟩ (.slice aa A.length ac)).setCell ⟨w.heap.size+1,0,none⟩ (.slice d2.h m.H.length d2.hn)).setCell ⟨w.heap.size+1,1,none⟩ (.slice d2.g m.G.length d2.gn)).setCell ⟨w.heap.size+1,2,none⟩ (.int .i64 m.first)).setCell ⟨w.heap.size+1,3,none⟩ (.slice d2.c m.ch.length d2.cn)).setCell ⟨w.heap.size+1,4,none⟩ (.slice d2.t m.T.length d2.tn)).setCell ⟨w.heap.size+1,5,none⟩ (.slice d2.q m.Q.length d2.qn)).setCell ⟨w.heap.size+1,6,none⟩ (.int .i64 m.steps)).setCell ⟨w.heap.size+1,7,none⟩ (.int .i64 m.fin)).setCell ⟨w.heap.size+1,8,none⟩ (.slice aa A.length ac))=wz at *;refine bodyPost_ret (v:=.agg #[.slice d2.h m.H.length d2.hn,.slice d2.g m.G.length d2.gn,.int .i64 m.first,.slice d2.c m.ch.length d2.cn,.slice d2.t m.T.length d2.tn,.slice d2.q m.Q.length d2.qn,.int .i64 m.steps,.int .i64 m.fin,.slice aa A.length ac]) (by simp[results,Try.results23,go_sem,e0,e1,e2,e3,e4,e5,e6,e7,e8]) rfl ?_;have hl:Hid (A.length=(m.ans.map mvA).length):=lh (by rw[List.length_map];have:=HAL.out;omega);have hA2:=HA.out;rw[HE.out] at hA2;obtain⟨z1,z2⟩:=bB0 HO2.out hA2 hto (fun j hj=>by obtain⟨_,_,_,_,_,_,_,_,hf⟩:=HM.out.h.at' j hj;exact hf);refine⟨_,?_,z1,z2⟩;simp only[Mac.vals];rw[hl.out]
structure bC where
 e:TypeId
 k:Nat
 a:Option Addr
 n:Nat
 c:Nat
 vs:List Value
def bC.In(r:bC)(w:World)(base:Nat):Prop:=w.ownsRow base r.e r.k (.slice r.a r.n r.c) r.n r.vs
structure CpI(w wx:World)(m m':Mac)(d d':MAd)(R:List bC):Prop where
 src:cL wx w.heap.size m d
 box:cL wx (w.heap.size+1+1) m' d'
 res:wx.heap[w.heap.size+1]? = some (.cells #[.slice none 0 0,.slice none 0 0,.int .i64 0,.slice none 0 0,.slice none 0 0,.slice none 0 0,.int .i64 0,.int .i64 0,.slice none 0 0] 30 (0,0))
 rows:∀r,r∈R→r.In wx (w.heap.size+3)
 ne:Nd (R.map fun r=>bk r.a)
 below:Below w.heap.size w wx
theorem Nd.snoc{l:List (Option Nat)}{x:Option Nat}(h:Nd l)(hx:∀y,y∈l→∀b,y=some b→x≠some b):Nd (l++[x]):=by
 unfold Nd at h ⊢;rw[List.pairwise_append];refine⟨h,List.pairwise_singleton _ _,fun a ha b hb=>?_⟩;rw[List.mem_singleton] at hb;subst hb;exact hx a ha
theorem CpI.step{w wx w1:World}{m m':Mac}{d d' d'':MAd}{R:List bC}(h:CpI w wx m m' d d' R){e:TypeId}{k:Nat}{a:Option Addr}{n c:Nat}{vs:List Value}(ho:w1.ownsRow wx.heap.size e k (.slice a n c) n vs)(hb:Below wx.heap.size wx w1)(f:Nat)(hv:(m'.vals d').toArray.setIfInBounds f (.slice a n c)=(m'.vals d'').toArray) :
 CpI w (w1.setCell ⟨w.heap.size+1+1,f,none⟩ (.slice a n c)) m m' d d'' (R++[⟨e,k,a,n,c,vs⟩]):=by
 have hlt:=h.box.lt;have hs:=hb.size;have k1:=aB w1 (w.heap.size+1+1) f (.slice a n c) (h.box.below hb).blk;rw[hv] at k1;have hne:∀b,b≠w.heap.size+1+1→(w1.setCell ⟨w.heap.size+1+1,f,none⟩ (.slice a n c)).heap[b]? = w1.heap[b]?:=fun b hb=>Below.heap_setCell _ _ _ _ hb
 have g1:∀b,bk a=some b→wx.heap.size≤b∧b<w1.heap.size:=fun b hb=>ho.lt b ((aE _ _ _).trans hb)
 have ht:aA (fun b=>b=w.heap.size+1+1) w1 (w1.setCell ⟨w.heap.size+1+1,f,none⟩ (.slice a n c)):=aA.setCell (.slice a n c) rfl;refine⟨(h.src.below hb).keep (hne _ (by omega)),⟨k1⟩,?_,?_,?_,?_⟩
 ·rw[hne _ (by omega),hb.block _ (by omega)];exact h.res
 ·intro r hr
  rcases List.mem_append.1 hr with hr|hr
  ·have h0:=h.rows r hr
   exact aC (aH h0 hb) fun g hg=>hne g (by have:=h0.lt g hg;omega)
  ·rw[List.mem_singleton] at hr
   subst hr;exact aI (aC ho fun g hg=>hne g (by have:=g1 g ((aE _ _ _).symm.trans hg);omega)) (by omega)
 ·rw[List.map_append]
  refine h.ne.snoc fun y hy b e1 e2=>?_
  obtain⟨r,hr,rfl⟩:=List.mem_map.1 hy;have:=(h.rows r hr).lt b ((aE _ _ _).trans e1);have:=g1 b e2;omega
 ·exact(h.below.trans (hb.mono h.below.size)).trans (ht.toBelow (by omega) fun b e=>by omega)
theorem CpI.nil{w wx:World}{m:Mac}{d d':MAd}{R:List bC}(h:CpI w wx m m d d' R) :
 CpI w (wx.setCell ⟨w.heap.size+1+1,8,none⟩ (.slice none 0 0)) m {m with ans:=[]} d {d' with a:=none,an:=0} R:=by
 have hlt:=h.box.lt;have k1:=aB wx (w.heap.size+1+1) 8 (.slice none 0 0) h.box.blk;have hne:∀b,b≠w.heap.size+1+1→(wx.setCell ⟨w.heap.size+1+1,8,none⟩ (.slice none 0 0)).heap[b]? = wx.heap[b]?:=fun b hb=>Below.heap_setCell _ _ _ _ hb
 have ht:aA (fun b=>b=w.heap.size+1+1) wx (wx.setCell ⟨w.heap.size+1+1,8,none⟩ (.slice none 0 0)):=aA.setCell (.slice none 0 0) rfl;refine⟨h.src.keep (hne _ (by omega)),⟨k1.trans rfl⟩,?_,?_,h.ne,?_⟩
 ·rw[hne _ (by omega)];exact h.res
 ·intro r hr
  have h0:=h.rows r hr;exact aC h0 fun g hg=>hne g (by have:=h0.lt g hg;omega)
 ·exact h.below.trans (ht.toBelow h.below.size fun b e=>by omega)
structure CpA(w:World)(ok:Nat→Prop)(wc wo:World)(m:Mac)(d:MAd)(l:List (List Tm))(a:Option Addr)(c:Nat)(A:List ((Option Addr×Nat)×List Tm)):Prop where
 box:cL wo (w.heap.size+1+1) {m with ans:=l} {d with a:=a,an:=c}
 row:wo.ownsRow wc.heap.size 78 1 (.slice a A.length c) A.length (iC A)
 eq:A.map (·.2)=l
 each:∀x,x∈A→Ts wo (fun b=>((ok b∧b<w.heap.size)∨wc.heap.size≤b)∧bk a≠some b) x.2 x.1.1 x.1.2
 touch:aA (fun b=>b=w.heap.size+1+1) wc wo
theorem CpA.len{w:World}{ok:Nat→Prop}{wc wo:World}{m:Mac}{d:MAd}{l:List (List Tm)}{a:Option Addr}{c:Nat}{A:List ((Option Addr×Nat)×List Tm)}(h:CpA w ok wc wo m d l a c A):l.length=A.length:=by
 have:=congrArg List.length h.eq;simpa using this.symm
theorem CpA.kept{w:World}{ok:Nat→Prop}{wc wo X w':World}{m:Mac}{d:MAd}{l:List (List Tm)}{a:Option Addr}{c:Nat}{A:List ((Option Addr×Nat)×List Tm)}(h:CpA w ok wc wo m d l a c A)(hX:Below wo.heap.size wo X)(hw:w.heap.size+3≤wc.heap.size)(hg:X.grownBy w' (Value.slice a A.length c).ownBlock) :
 w'.heap[w.heap.size+1+1]? = wo.heap[w.heap.size+1+1]?:=by
 have hlt:∀b,bk a=some b→wc.heap.size≤b∧b<wo.heap.size:=fun b hb=>h.row.lt b ((aE _ _ _).trans hb)
 have hg':X.grownBy w' (bk a):=by rw[←aE a A.length c];exact hg
 have hXs:=hX.size;rw[hg'.block _ (by have:=h.box.lt;omega) (fun e=>by have:=hlt _ e.symm;omega),hX.block _ h.box.lt]
theorem CpA.more{w:World}{ok:Nat→Prop}{wc wo X w':World}{m:Mac}{d:MAd}{l:List (List Tm)}{a a':Option Addr}{c c':Nat}{A:List ((Option Addr×Nat)×List Tm)}(h:CpA w ok wc wo m d l a c A)(hX:Below wo.heap.size wo X){r:List Tm}{ra:Option Addr}{rc:Nat}(ht:Ts X (OkN (fun b=>ok b∧b<w.heap.size) wo) r ra rc)(hw:w.heap.size+3≤wc.heap.size)
 (ho:w'.ownsRow wc.heap.size 78 1 (.slice a' (A.length+1) c') (A.length+1) (iC A++[.slice ra r.length rc])) (hg:X.grownBy w' (Value.slice a A.length c).ownBlock) (hf:cF X (.slice a A.length c) (.slice a' (A.length+1) c')) :
 CpA w ok wc (w'.setCell ⟨w.heap.size+1+1,8,none⟩ (.slice a' (A.length+1) c')) m d (l++[r]) a' c' (A++[((ra,rc),r)]):=by
 have hlt:∀b,bk a=some b→wc.heap.size≤b∧b<wo.heap.size:=fun b hb=>h.row.lt b ((aE _ _ _).trans hb)
 have hs:=h.touch.size;have hl:=h.len;have hXs:=hX.size;have hg':X.grownBy w' (bk a):=by rw[←aE a A.length c];exact hg
 have hf':bk a'=bk a∨∀g,bk a'=some g→X.heap.size≤g:=by
  rcases hf with hf|hf
  ·left;rw[aE,aE] at hf;exact hf
  ·right;intro g hg;exact hf g ((aE _ _ _).trans hg)
 have key:∀{r:List Tm} {ra:Option Addr} {rc:Nat},Ts X (fun b=>((ok b∧b<w.heap.size)∨wc.heap.size≤b)∧bk a≠some b) r ra rc→Ts (w'.setCell ⟨w.heap.size+1+1,8,none⟩ (.slice a' (A.length+1) c')) (fun b=>((ok b∧b<w.heap.size)∨wc.heap.size≤b)∧bk a'≠some b) r ra rc:=fun {r ra rc} ht=>by
  have h1:Ts X (fun b=>(((ok b∧b<w.heap.size)∨wc.heap.size≤b)∧bk a≠some b)∧b<X.heap.size) r ra rc:=ht.mono fun b hb h=>⟨h,hb⟩
  have h2:aD (fun b=>(((ok b∧b<w.heap.size)∨wc.heap.size≤b)∧bk a≠some b)∧b<X.heap.size) X (w'.setCell ⟨w.heap.size+1+1,8,none⟩ (.slice a' (A.length+1) c')):=⟨by have:=hg'.size;simpa using this,fun b hb hs=>by
   rw[Below.heap_setCell _ _ _ _ (by have:=hb.1.1;show b≠w.heap.size+1+1;omega)];exact hg'.block b hs (fun e=>hb.1.2 e.symm)⟩
  refine(h1.keep h2).mono fun b _ hb=>⟨hb.1.1,?_⟩
  rcases hf' with hf|hf
  ·rw[hf];exact hb.1.2
  ·intro e;have:=hf b e;omega
 have hbox:w'.heap[w.heap.size+1+1]? = wo.heap[w.heap.size+1+1]?:=by
  rw[hg'.block _ (by have:=h.box.lt;omega) (fun e=>by have:=hlt _ e.symm;omega),hX.block _ h.box.lt]
 have k1:=aB w' (w.heap.size+1+1) 8 (.slice a' (A.length+1) c') (hbox.trans h.box.blk);have hn:(l++[r]).length=A.length+1:=by rw[List.length_append,hl];rfl
 refine⟨⟨?_⟩,?_,?_,fun x hx=>?_,?_⟩
 ·rw[k1]
  simp only[Mac.vals,hn];rfl
 ·rw[List.length_append]
  have h1:w'.ownsRow wc.heap.size 78 1 (.slice a' (A.length+1) c') (A.length+1) (iC (A++[((ra,rc),r)])):=by simpa[iC] using ho
  exact aC h1 fun g hg=>Below.heap_setCell _ _ _ _ (by have:=ho.lt g hg;show g≠w.heap.size+1+1;omega)
 ·rw[List.map_append,h.eq];rfl
 ·rcases List.mem_append.1 hx with hx|hx
  ·exact key ((h.each x hx).keep (aD.below hX _))
  ·rw[List.mem_singleton] at hx
   subst hx;refine key (ht.mono fun b _ hb=>?_);rcases hb with hb|hb
   ·exact⟨.inl hb,fun e=>by have:=hlt b e;omega⟩
   ·exact⟨.inr (by omega),fun e=>by have:=hlt b e;omega⟩
 ·refine⟨?_,?_,?_,?_,fun b hb hn=>?_⟩
  ·exact(hg'.os.trans hX.os).trans h.touch.os
  ·exact(hg'.tape.trans hX.tape).trans h.touch.tape
  ·exact(hg'.output.trans hX.output).trans h.touch.output
  ·have:=hg'.size;simp;omega
  ·rw[Below.heap_setCell _ _ _ _ hn,hg'.block b (by omega) (fun e=>by have:=hlt b e.symm;omega),hX.block b (by omega)]
   exact h.touch.block b hb hn
theorem bH4{w wc wo wz:World}{ok:Nat→Prop}{m m':Mac}{d:MAd}{dh dg dc dt dq:Option Addr}{hn gn cn tn qn:Nat}{d2:MAd}
 (h2:CpI w wc m m' d d2 [⟨69,3,dh,m.H.length,hn,bS m.H⟩,⟨65,3,dg,m.G.length,gn,cE m.G⟩,⟨67,5,dc,m.ch.length,cn,cW m.ch⟩,⟨3,1,dt,m.T.length,tn,m.T.map fun x=>Value.int .i64 x⟩,⟨3,1,dq,m.Q.length,qn,m.Q.map fun x=>Value.int .i64 x⟩])
 {mm:Mac} {dd:MAd} {aa:Option Addr} {ac:Nat} {A:List ((Option Addr×Nat)×List Tm)} (hA:CpA w ok wc wo mm dd (m.ans.map mvA) aa ac A) (ht:aA (fun b=>b=w.heap.size+1) wo wz)
 (hf:∀i,i<m.H.length→(hc m.H i).fits):OwM wz w.heap.size (fun b=>(ok b∧b<w.heap.size)∨w.heap.size≤b) {m with ans:=m.ans.map mvA} ⟨dh,dg,dc,dt,dq,aa,hn,gn,cn,tn,qn,ac⟩∧Below w.heap.size w wz:=by
 have hs:=h2.below.size;have hz:w.heap.size+3≤wc.heap.size:=h2.box.lt;have hw:=hA.touch.size;have hl:A.length=(m.ans.map mvA).length:=hA.len.symm;have hr1:=h2.rows _ (List.mem_cons_self ..);have hr2:=h2.rows _ (List.mem_cons_of_mem _ (List.mem_cons_self ..));have hr3:=h2.rows _ (List.mem_cons_of_mem _ (List.mem_cons_of_mem _ (List.mem_cons_self ..)));have hr4:=h2.rows _ (List.mem_cons_of_mem _ (List.mem_cons_of_mem _ (List.mem_cons_of_mem _ (List.mem_cons_self ..))));have hr5:=h2.rows _ (List.mem_cons_of_mem _ (List.mem_cons_of_mem _ (List.mem_cons_of_mem _ (List.mem_cons_of_mem _ (List.mem_cons_self ..)))));unfold bC.In at hr1 hr2 hr3 hr4 hr5;simp only at hr1 hr2 hr3 hr4 hr5;have old:∀{e:TypeId} {k:Nat} {a:Option Addr} {n c:Nat} {vs:List Value},wc.ownsRow (w.heap.size+3) e k (.slice a n c) n vs→wz.ownsRow w.heap.size e k (.slice a n c) n vs:=fun h =>
  aI (aC h fun g hg=>(ht.block g (by have:=h.lt g hg;omega) (by have:=h.lt g hg;omega)).trans (hA.touch.block g (h.lt g hg).2 (by have:=h.lt g hg;omega))) (by omega)
 have olt:∀{e:TypeId} {k:Nat} {a:Option Addr} {n c:Nat} {vs:List Value},wc.ownsRow (w.heap.size+3) e k (.slice a n c) n vs→∀b,bk a=some b→w.heap.size+3≤b∧b<wc.heap.size:=fun h b hb=>h.lt b ((aE _ _ _).trans hb)
 have alt:∀b,bk aa=some b→wc.heap.size≤b∧b<wo.heap.size:=fun b hb=>hA.row.lt b ((aE _ _ _).trans hb)
 have l1:=olt hr1;have l2:=olt hr2;have l3:=olt hr3;have l4:=olt hr4;have l5:=olt hr5;refine⟨⟨⟨old hr1,hf⟩,old hr2,old hr3,old hr4,old hr5,⟨A,hA.eq,?_,fun x hx=>?_⟩,?_⟩,?_⟩
 ·have hr:=aI (aC hA.row fun g hg=>ht.block g (hA.row.lt g hg).2 (by have:=(hA.row.lt g hg).1;omega)) (show w.heap.size≤wc.heap.size by omega)
  rw[←hl];exact hr
 ·have h1:=hA.each x hx
  have h3:aD (fun b=>((ok b∧b<w.heap.size)∨wc.heap.size≤b)∧bk aa≠some b) wo wz:=ht.keeps fun b hb=>by have:=hb.1;omega
  refine(h1.keep h3).mono fun b _ hb=>⟨hb.1.imp id fun e=>by omega,fun y hy e=>?_⟩
  subst e;simp only[List.mem_cons,List.not_mem_nil,or_false] at hy;rcases hy with e|e|e|e|e|e
  ·have:=l1 b e.symm;omega
  ·have:=l2 b e.symm;omega
  ·have:=l3 b e.symm;omega
  ·have:=l4 b e.symm;omega
  ·have:=l5 b e.symm;omega
  ·exact hb.2 e.symm
 ·have hn:=h2.ne.snoc (x:=bk aa) (fun y hy b e1 e2=>by
   obtain⟨r,hr,rfl⟩:=List.mem_map.1 hy;have:=(h2.rows r hr).lt b ((aE _ _ _).trans e1);have:=alt b e2;omega)
  exact hn
 ·have h1:Below w.heap.size wc wo:=hA.touch.toBelow (by omega) fun b e=>by omega
  exact(h2.below.trans h1).trans (ht.toBelow (by omega) fun b e=>by omega)
end Go.Proofs.Ytikmgiapjigghab
