/- Walk: a heap's Unify. -/
import Derived.Test.YtikmgiapjigghabQc10
import Derived.Test.YtikmgiapjigghabQc13
import Derived.Test.YtikmgiapjigghabQc15
set_option maxRecDepth 100000
set_option maxHeartbeats 8000000
namespace Go.Proofs.Ytikmgiapjigghab
open Go.RowKit
structure dC(w:World)(ok:Nat→Prop)(l:List Int)(a:Option Addr)(cap:Nat):Prop where
 cap:l.length≤cap∧cap≤maxLen∧(a=none→cap=0)
 at':∀i (h:i<l.length),∃(b off:Nat),a=some ⟨b,off,none⟩∧ok b∧b<w.heap.size∧w.cell? ⟨b,off+i,none⟩=some (.int .i64 l[i])
theorem dC.keep{w w':World}{ok:Nat→Prop}{l:List Int}{a:Option Addr}{cap:Nat}(h:dC w ok l a cap)(hk:aD ok w w'):dC w' ok l a cap :=
 ⟨h.cap,fun i hi=>by
  obtain⟨b,off,h1,h2,h3,h4⟩:=h.at' i hi;exact⟨b,off,h1,h2,nT h3 hk.size,(hk.cell (p:=⟨b,_,none⟩) h2 h3).trans h4⟩⟩
theorem dC.mono{w:World}{ok ok':Nat→Prop}(h:∀b,b<w.heap.size→ok b→ok' b){l:List Int}{a:Option Addr}{cap:Nat}(hh:dC w ok l a cap):dC w ok' l a cap :=
 ⟨hh.cap,fun i hi=>by
  obtain⟨b,off,h1,h2,h3,h4⟩:=hh.at' i hi;exact⟨b,off,h1,h b h3 h2,h3,h4⟩⟩
theorem dC.below{w w':World}{ok:Nat→Prop}{l:List Int}{a:Option Addr}{cap:Nat}(h:dC w ok l a cap)(hb:Below w.heap.size w w'):dC w' ok l a cap:=h.keep (aD.below hb ok)
theorem dC.nil(w:World)(ok:Nat→Prop):dC w ok [] none 0:=⟨⟨nR _,Nat.zero_le _,fun _=>rfl⟩,fun i hi=>absurd hi (Nat.not_lt_zero i)⟩
theorem dC.of_row{w:World}{ok:Nat→Prop}{base:Nat}{v:Value}{l:List Int}(h:w.ownsRow base 3 1 v l.length (l.map fun x=>Value.int .i64 x))(hok:∀b,v.ownBlock=some b→ok b):∃a cap,v=.slice a l.length cap∧dC w ok l a cap:=by
 rcases h.2 with ⟨rfl,hn⟩|⟨g,cap,cur,rfl,hb,hg,hcap,hml,hsz,htk⟩
 ·refine⟨none,0,by rw[hn],⟨by omega,by unfold maxLen;omega,fun _=>rfl⟩,fun i hi=>by omega⟩
 ·refine⟨_,cap,rfl,⟨hcap,hml,fun e=>nomatch e⟩,fun i hi=>?_⟩
  have hlt:g<w.heap.size:=(h.lt g rfl).2;have:=h.cells (g:=g) rfl i (.int .i64 l[i]) (by simp[hi]);rw[fY,Nat.zero_add] at this;exact⟨g,0,rfl,hok g rfl,hlt,by rw[Nat.zero_add];exact this⟩
theorem dV.news{w:World}{ok:Nat→Prop}{K:List HC}{ad:Addr}{cap:Nat}(h:dV w ok K (some ad) cap):∀j u,(bS K)[j]? = some u→w.cell? (ad.add j)=some u:=by
 intro j u hj;have hjl:j<(bS K).length:=(List.getElem?_eq_some_iff.1 hj).1;rw[jW] at hjl;obtain⟨i,r,rfl,hr⟩:∃i r,j=i*3+r∧r<3:=⟨j / 3,j % 3,by omega,by omega⟩
 have hi:i<K.length:=by omega
 obtain⟨b,off,he,-,-,c0,c1,c2,-⟩:=h.at' i hi;injection he with he;subst he;obtain⟨f0,f1,f2⟩:=pZ K i hi;rw[fY];rcases (by omega:r=0∨r=1∨r=2) with rfl|rfl|rfl
 ·rw[Nat.add_zero] at hj ⊢;rw[f0] at hj;cases hj;exact c0
 ·rw[f1] at hj;cases hj;rw[←Nat.add_assoc];exact c1
 ·rw[f2] at hj;cases hj;rw[←Nat.add_assoc];exact c2
theorem Try.infoCell:(Try.prog.info? 69).map (fun i=>(i.zero,i.size,i.bytes))=some (some (.agg #[.int .i64 0,.int .i64 0,.string ByteArray.empty]),3,32):=by kernel_rfl
inductive HUA where
 | err (n:Nat)
 | no (k:Nat)
 | ok (K:List HC) (B:List Nat) (k:Nat)
mutual
theorem kZ:∀(t:Tm) (H:List HC) (V:CV),(putT H V t).1.1.length+1≤H.length+2*t.size
 | .mk v n l,H,V=>by
  unfold putT;by_cases hv:v≠0
  ·rw[if_pos hv]
   have:=(Tm.mk v n l).size_pos;cases h:V v with
   | some c=>simp only;omega
   | none=>simp only[List.length_append,List.length_cons,List.length_nil];omega
  ·rw[if_neg hv]
   have:=aD3 l (H++[⟨2,(l.length:Int),n⟩]++List.replicate l.length ⟨1,0,⟨#[]⟩⟩) V (H.length+1);simp only[List.length_append,List.length_cons,List.length_nil,List.length_replicate] at this;simp only[Tm.size];omega
theorem aD3:∀(l:List Tm) (H:List HC) (V:CV) (p:Nat),(eV H V p l).1.length+l.length≤H.length+2*Tm.sizes l
 | [],H,V,p=>by rw[iA];simp[Tm.sizes]
 | t::r,H,V,p=>by
  rw[fC];have h1:=kZ t H V;have h2:=aD3 r (setN (putT H V t).1.1 p (putT H V t).2) (putT H V t).1.2 (p+1);rw[aL] at h2;simp only[List.length_cons,Tm.sizes];omega
end
mutual
theorem rF:∀(t:Tm) (H:List HC) (V:CV),H.length≤(putT H V t).1.1.length
 | .mk v n l,H,V=>by
  unfold putT;by_cases hv:v≠0
  ·rw[if_pos hv]
   cases h:V v with
   | some c=>exact nR _
   | none=>simp only[List.length_append];omega
  ·rw[if_neg hv]
   have:=uB l (H++[⟨2,(l.length:Int),n⟩]++List.replicate l.length ⟨1,0,⟨#[]⟩⟩) V (H.length+1);simp only[List.length_append] at this;simp only;omega
theorem uB:∀(l:List Tm) (H:List HC) (V:CV) (p:Nat),H.length≤(eV H V p l).1.length
 | [],H,V,p=>by rw[iA];exact nR _
 | t::r,H,V,p=>by
  rw[fC];have h1:=rF t H V;have h2:=uB r (setN (putT H V t).1.1 p (putT H V t).2) (putT H V t).1.2 (p+1);rw[aL] at h2;omega
end
def VB(V:CV)(N:Nat):Prop:=∀v c,V v=some c→c≤N
theorem aQ7(l:List Tm):l.length≤Tm.sizes l:=by
 induction l with
 | nil=>exact Nat.zero_le _
 | cons t r ih=>simp only[Tm.sizes,List.length_cons];have:=t.size_pos;omega
mutual
theorem qA:∀(t:Tm) (H:List HC) (V:CV) (N:Nat),VB V N→H.length+2*t.size≤N→(putT H V t).2≤N∧VB (putT H V t).1.2 N
 | .mk v n l,H,V,N,hV,hN=>by
  have hs:=(Tm.mk v n l).size_pos;unfold putT;by_cases hv:v≠0
  ·rw[if_pos hv]
   cases h:V v with
   | some c=>exact⟨hV v c h,hV⟩
   | none =>
    refine⟨by simp only;omega,fun x c hx=>?_⟩;simp only[oW] at hx;by_cases e:x=v
    ·rw[if_pos e] at hx;cases hx;omega
    ·rw[if_neg e] at hx;exact hV x c hx
  ·rw[if_neg hv]
   simp only[Tm.size] at hN;have h2:=aD4 l (H++[⟨2,(l.length:Int),n⟩]++List.replicate l.length ⟨1,0,⟨#[]⟩⟩) V (H.length+1) N hV (by
    simp only[List.length_append,List.length_cons,List.length_nil,List.length_replicate];omega)
   exact⟨by simp only;omega,h2⟩
theorem aD4:∀(l:List Tm) (H:List HC) (V:CV) (p:Nat) (N:Nat),VB V N→H.length+2*Tm.sizes l+1≤N+l.length→VB (eV H V p l).2 N
 | [],H,V,p,N,hV,_=>by rw[iA];exact hV
 | t::r,H,V,p,N,hV,hN=>by
  rw[fC];have hr:=aQ7 r;simp only[Tm.sizes,List.length_cons] at hN;have h1:=qA t H V N hV (by omega);have h2:=kZ t H V;exact aD4 r _ _ _ N h1.2 (by rw[aL];omega)
end
structure eT(w:World)(base:Nat)(v:Value)(H:List HC):Prop where
 row:w.ownsRow base 69 3 v H.length (bS H)
 fits:∀i,i<H.length→(hc H i).fits
def VAt(w:World)(bm n:Nat)(V:CV):Prop:=iV Try.prog 3 w bm n fun v=>(V v).map fun c:Nat=>Value.int .i64 c
def oY(v:Value)(bm:Nat):Nat→Prop:=fun b=>v.ownBlock=some b∨b=bm
def tF(w:World)(base:Nat)(v:Value)(bm:Nat)(r:(List HC×CV)×Nat)(e:Ending)(w':World):Prop :=
 ∃v' n',e=.returned (.tuple #[v',.int .i64 (r.2:Nat)])∧eT w' base v' r.1.1∧VAt w' bm n' r.1.2∧n'≤r.1.1.length∧cF w v v'∧aA (oY v bm) w w'
theorem eT.keep{w w':World}{base:Nat}{v:Value}{H:List HC}(h:eT w base v H)(hb:∀g,v.ownBlock=some g→w'.heap[g]? = w.heap[g]?):eT w' base v H:=⟨aC h.row hb,h.fits⟩
theorem eT.below{w w':World}{base:Nat}{v:Value}{H:List HC}(h:eT w base v H)(hb:Below w.heap.size w w'):eT w' base v H:=⟨aH h.row hb,h.fits⟩
theorem eT.form{w:World}{base:Nat}{v:Value}{H:List HC}(h:eT w base v H):∃a cap,v=.slice a H.length cap:=by
 rcases h.row.2 with ⟨h1,h2⟩|⟨g,cap,cur,h1,_⟩
 ·exact⟨none,0,by rw[h1,h2]⟩
 ·exact⟨_,_,h1⟩
theorem aD5{H:List HC}{c:HC}(h:∀i,i<H.length→(hc H i).fits)(hf:c.fits):∀i,i<(H++[c]).length→(hc (H++[c]) i).fits:=fun i hi=>by
 by_cases e:i<H.length
 ·rw[nI e];exact h i e
 ·have:i=H.length:=by simp at hi;omega
  subst this;have:=jV (H:=H) (R:=[c]) 0;rw[Nat.add_zero] at this;rw[this];exact hf
theorem eT.push{w X w':World}{base:Nat}{v v':Value}{H:List HC}(h:eT w base v H){c:HC}(hf:c.fits)(hX:Below w.heap.size w X)
 (ho:w'.ownsRow base 69 3 v' (H.length+1) (bS H++[.int .i64 c.k,.int .i64 c.n,.string c.name])) (hg:X.grownBy w' v.ownBlock) (hfr:cF X v v') (bm:Nat) :
 eT w' base v' (H++[c])∧cF w v v'∧aA (oY v bm) w w':=by
 refine⟨⟨?_,aD5 h.fits hf⟩,hfr.old hX.size,(aA.below hX).trans (aA.grown hg fun k e=>.inl e)⟩;rw[pY,List.length_append];exact ho
theorem eT.set{w:World}{base g cap:Nat}{H:List HC}{n:Nat}(h:eT w base (.slice (some ⟨g,0,none⟩) n cap) H)(hn:n=H.length){p t:Nat}(hp:p<H.length)(ht:t≤100000000):eT (w.setCell ⟨g,p*3+1,none⟩ (.int .i64 (t:Nat))) base (.slice (some ⟨g,0,none⟩) n cap) (setN H p t):=by
 subst hn;have hr:=(World.ownsRow.stored h.row (p*3+1) (.int .i64 (t:Nat))).1;rw[←uA H p t hp] at hr;refine⟨by rw[aL];exact hr,fun i hi=>?_⟩;rw[aL] at hi;rw[dL hp];by_cases e:i=p
 ·rw[if_pos e]
  obtain⟨a,_,c⟩:=h.fits p hp;exact⟨a,(by show I64 (t:Int);unfold I64;omega),c⟩
 ·rw[if_neg e];exact h.fits i hi
theorem aA.freshP{w wr w':World}{v vi:Value}{bm:Nat}(h1:aA (oY v bm) w wr)(hf:cF w v vi)(h2:aA (oY vi bm) wr w'):aA (oY v bm) w w':=by
 refine⟨h2.os.trans h1.os,h2.tape.trans h1.tape,h2.output.trans h1.output,Nat.le_trans h1.size h2.size,fun b hb hn=>(h2.block b (nT hb h1.size) ?_).trans (h1.block b hb hn)⟩;rintro (e|e)
 ·rcases hf with e2|e2
  ·exact hn (.inl (by rw[←e2];exact e))
  ·have:=e2 b e;omega
 ·exact hn (.inr e)
theorem aX6(X:World)(c:HC){h:Nat}(e:h=X.heap.size):∀ad,some (⟨h,0,none⟩:Addr)=some ad→∀j u,([.int .i64 c.k,.int .i64 c.n,.string c.name]:List Value)[j]? = some u→(X.alloc (.cells #[.int .i64 c.k,.int .i64 c.n,.string c.name] 69)).cell? (ad.add j)=some u:=by
 subst e;intro ad had;cases had;have ho:=World.ownsRow_lit (base:=X.heap.size) (e:=69) (size:=3) X #[.int .i64 c.k,.int .i64 c.n,.string c.name] 1 (nR _) (by unfold maxLen;omega) rfl;exact ho.cells (g:=X.heap.size) rfl
theorem bL3(c:HC):∀u∈([.int .i64 c.k,.int .i64 c.n,.string c.name]:List Value),u.oneCell'=true:=by
 intro u hu;simp only[List.mem_cons,List.not_mem_nil,or_false] at hu;rcases hu with rfl|rfl|rfl <;> rfl
theorem VAt.keep{w w':World}{bm n:Nat}{V:CV}(h:VAt w bm n V)(hb:w'.heap[bm]? = w.heap[bm]?):VAt w' bm n V:=iV.kept h hb
theorem VAt.lt{w:World}{bm n:Nat}{V:CV}(h:VAt w bm n V):bm<w.heap.size:=iV.lt h
theorem zH(w:World):(zeroValue 3).run Try.prog w=.ok (.int .i64 0) w:=by kernel_rfl
theorem VAt.look{w:World}{bm n:Nat}{V:CV}(h:VAt w bm n V){v:Int}(hv:I64 v) :
 (V v=none→(Instr.lookup 114 (.map (some bm)) (.int .i64 v) true).run Try.prog w=.ok (.tuple #[.int .i64 0,.bool false]) w) ∧
 (∀c,V v=some c→(Instr.lookup 114 (.map (some bm)) (.int .i64 v) true).run Try.prog w=.ok (.tuple #[.int .i64 (c:Nat),.bool true]) w):=by
 have hl:=iV.look h vY Try.underlying3 Try.underlying114 (zH w) hv;refine⟨fun e=>?_,fun c e=>?_⟩
 ·rw[e] at hl;exact hl
 ·rw[e] at hl;exact hl
theorem VAt.store{w:World}{bm n:Nat}{V:CV}(h:VAt w bm n V){v:Int}(hv:I64 v)(hn:V v=none)(hnn:n≤1000000)(c:Nat) :
 ∃w',(Instr.mapUpdate 114 (.map (some bm)) (.int .i64 v) (.int .i64 (c:Nat))).run Try.prog w=.ok () w'∧VAt w' bm (n+1) (oW V v c)∧w.grownBy w' (some bm):=by
 obtain⟨w',h1,h2,h3⟩:=iV.store h vY Try.underlying3 Try.underlying114 (by unfold maxLen;omega) hv (.int .i64 (c:Nat)) (by rw[hn];rfl);refine⟨w',h1,?_,h3⟩;have e:(fun x=>(oW V v c x).map fun c:Nat=>Value.int .i64 c)=sO (fun x=>(V x).map fun c:Nat=>Value.int .i64 c) v (some (.int .i64 (c:Nat))):=by
  funext x;unfold oW sO;by_cases e:x=v
  ·rw[if_pos e,if_pos e];rfl
  ·rw[if_neg e,if_neg e]
 unfold VAt;rw[e];exact h2
def bL1(w:World)(l:List Nat)(e:Ending)(w':World):Prop :=
 Below w.heap.size w w'∧∃a c,e=.returned (.slice a l.length c)∧dC w' (fun b=>w.heap.size≤b) (l.map fun v:Nat=>(v:Int)) a c
theorem aX3(w:World)(v:Int){ok:Nat→Prop}(hk:ok w.heap.size):dC (w.alloc (.cells #[.int .i64 v] 3)) ok [v] (some ⟨w.heap.size,0,none⟩) 1 :=
 ⟨⟨nR _,by unfold maxLen;omega,fun h=>nomatch h⟩,fun i hi=>⟨w.heap.size,0,rfl,hk,by simp,by
  have:i=0:=by simp at hi;omega
  subst this;exact dT w _ _ 0 _ rfl⟩⟩
theorem aX4{H:List HC}{i n:Nat}(hk:(hc H i).k≠1)(hn:(hc H i).n=(n:Int)):leads H i=(List.range n).map fun j=>i+1+j:=by
 unfold leads;rw[if_neg hk,hn];simp
theorem aD0{w:World}{ok:Nat→Prop}{K:List HC}{a:Option Addr}{cap:Nat}(h:dV w ok K a cap)(hK:dK K)(hlen:K.length≤400000){i:Nat}(hi:i<K.length) :
 Calls Try.prog 38 #[.slice a K.length cap,.int .i64 (i:Nat)] w (bL1 w (leads K i)):=by
 obtain⟨b,off,rfl,hokb,hb,c0,c1,c2,hf⟩:=h.at' i hi;have hcr:=bV (hK i hi);have hcm:cap≤9223372036854775807:=by have:=h.cap.2.1;unfold maxLen at this;omega
 have hcl:K.length≤cap:=h.cap.1;clear h hokb hf;have BA:Below w.heap.size w (w.alloc (.cells #[.int .i64 (hc K i).k,.int .i64 (hc K i).n,.string (hc K i).name] 69)):=(bR _ _).alloc (nR _) _;have HBA:=lh BA;have HBX:Hid (mH (w.alloc (.cells #[.int .i64 (hc K i).k,.int .i64 (hc K i).n,.string (hc K i).name] 69)) w.heap.size (hc K i)):=lh ⟨heap_alloc_new w _⟩;clear BA;rcases hcr with ⟨hk,h0,hn,_⟩|⟨hk,_,h0,h4,hn,_,_⟩
 ·obtain⟨n,hn'⟩:∃n:Nat,(hc K i).n=(n:Int):=⟨(hc K i).n.toNat,by omega⟩
  by_cases he:n=i
  ·have HO:Hid (leads K i = []):=lh (by unfold leads;rw[if_pos hk,if_pos (by omega)])
   rw[hk] at c0;rw[hn'] at c1;rw[hk,hn'] at HBA;subst he;go_enter Try.func38,Try.ntmps38;go_wp2_with fail;go_ret;rw[HO.out];exact⟨HBA.out,none,0,rfl,dC.nil _ _⟩
  ·have HO:Hid (leads K i = [n]):=lh (by unfold leads;rw[if_pos hk,if_neg (by omega),hn'];simp)
   rw[hk] at c0;rw[hn'] at c1;rw[hk,hn'] at HBA;have hne:((n:Int) == (i:Int))=false:=by rw[beq_eq_false_iff_ne];omega
   go_enter Try.func38,Try.ntmps38;go_wp2_with fail;go_ret;rw[HO.out];exact⟨HBA.out.alloc HBA.out.size _,_,1,rfl,by have h9:=aX3 (w.alloc (.cells #[.int .i64 1,.int .i64 (n:Int),.string (hc K i).name] 69)) (n:Int) (ok:=fun b=>w.heap.size≤b) HBA.out.size;rw[aSz] at h9;exact h9⟩
 ·obtain⟨n,hn'⟩:∃n:Nat,(hc K i).n=(n:Int):=⟨(hc K i).n.toNat,by omega⟩
  have hn4:n≤4:=by omega
  have hin:i+n<K.length:=by omega
  have HO:Hid (leads K i=(List.range n).map fun j=>i+1+j):=lh (aX4 (by omega) hn');rw[hk] at c0;rw[hn'] at c1;obtain⟨cc,hcc⟩:∃cc,hc K i=cc:=⟨_,rfl⟩
  obtain⟨ck,cn,nm⟩:=cc;rw[hcc] at hk hn' HBA HBX c2;simp only at hk hn' HBA c2;subst hk;subst hn';have HBX':=HBX;clear hcc hn h0 h4;obtain⟨j0,hj0,hy0,hy1,hy2⟩:=info_parts Try.infoI;go_enter Try.func38,Try.ntmps38;go_wp2_with fail;generalize w.alloc (.cells #[.int .i64 2,.int .i64 (n:Int),.string nm] 69)=wb at *
  go_loopw[6,7] (fun v6 v7 wr=>∃(m:Nat) (xa:Option Addr) (xc:Nat),m≤n∧v7=.int .i64 ((m:Int)+1)∧v6=.slice xa m xc∧wr.ownsRow wb.heap.size 3 1 (.slice xa m xc) m ((List.range m).map fun j:Nat=>Value.int .i64 ((i:Int)+1+(j:Int)))∧Hid (Below wb.heap.size wb wr)) (fun _ v7 _=>n+1-(intOf v7).toNat)
  case atStart=>exact⟨0,none,0,Nat.zero_le _,rfl,rfl,World.ownsRow_nil _ _ _ _,lh (bR _ _)⟩
  case round =>
   obtain⟨m,xa,xc,hm,rfl,rfl,hown,HBZ⟩:=hrel;have HOR:=lh hown;have g1:=(HBX'.out.keep (HBZ.out.block _ HBX'.out.lt)).c1;have hwz:w.heap.size<wr.heap.size:=nT HBX'.out.lt HBZ.out.size;clear hown;simp only at g1;by_cases hlt:m<n
   ·have e9:((i:Int)+((m:Int)+1))=((i:Int)+1+(m:Int)):=by omega
    have HTV:Hid (((List.range (m+1)).map fun j:Nat=>Value.int .i64 ((i:Int)+1+(j:Int)))=((List.range m).map fun j:Nat=>Value.int .i64 ((i:Int)+1+(j:Int)))++[.int .i64 ((i:Int)+1+(m:Int))]):=lh (by rw[List.range_succ,List.map_append];rfl);have HOO:=lh (HOR.out.alloc (.cells #[.int .i64 ((i:Int)+1+(m:Int))] 3));go_wp2_with (at_builtin;have _g:=HOO;refine aJ _ rfl _ _ 27 rfl wb.heap.size 3 j0 _ 1 8 Try.underlying27 hj0 hy0 hy1 hy2 rfl (by decide) _ _ _ rfl HOO.out (some ⟨wr.heap.size,0,none⟩) 1 1 ?p0 [.int .i64 ((i:Int)+1+(m:Int))] rfl rfl ?p1 ?p2 ?p3 ?p4 ?p5 ?_)
    case p0=>intro h;cases h
    case p1=>intro ad had;cases had;exact dT wr (.int .i64 ((i:Int)+1+(m:Int))) 3
    case p2=>intro u hu;simp only[List.mem_singleton] at hu;subst hu;rfl
    case p3=>unfold maxLen;omega
    case p4=>omega
    case p5=>simp only[aSz];have:=HBZ.out.size;omega
    ·intro v8 w8 hown8 hgrow8 hfr8
     have HO8:=lh hown8;have HG8:Hid (Below wb.heap.size wb w8):=lh ((HBZ.out.alloc HBZ.out.size _).grown hgrow8 (by simp only[aSz];have:=HBZ.out.size;omega) (fun k e=>(HOR.out.lt k e).1));obtain⟨g8,cap8,rfl⟩:=bQ hown8 (by omega);clear hown8 hgrow8 hfr8;go_wp2_with fail;go_roundw
     case measure=>simp[intOf];omega
     case rel=>exact⟨m+1,_,_,by omega,by go_num,rfl,by rw[HTV.out];exact HO8.out,HG8⟩
   ·have hmn:m=n:=by omega
    subst hmn;have HIA:Hid (∃a cap,Value.slice xa m xc=.slice a (leads K i).length cap∧dC wr (fun b=>w.heap.size≤b) ((leads K i).map fun v:Nat=>(v:Int)) a cap):=lh (by
     have e1:((leads K i).map fun v:Nat=>(v:Int)).length=m:=by rw[HO.out];simp
     have e2:(((leads K i).map fun v:Nat=>(v:Int)).map fun x=>Value.int .i64 x)=(List.range m).map fun j:Nat=>Value.int .i64 ((i:Int)+1+(j:Int)):=by rw[HO.out];simp
     have:=dC.of_row (l:=(leads K i).map fun v:Nat=>(v:Int)) (ok:=fun b=>w.heap.size≤b) (by rw[e1,e2];exact HOR.out) (fun b e=>by have:=(HOR.out.lt b e).1;have:=HBA.out.size;omega)
     rwa [List.length_map] at this)
    go_wp2_with fail;go_ret;obtain⟨a9,c9,he9,hi9⟩:=HIA.out;exact⟨HBA.out.trans (HBZ.out.mono HBA.out.size),a9,c9,by rw[←he9];rfl,hi9⟩
theorem xF{w:World}{ok ok2:Nat→Prop}{l r:List Int}{a b:Option Addr}{c d:Nat}(hl:dC w ok l a c)(hr:dC w ok2 r b d) :
 Calls Try.prog 34 #[.slice a l.length c,.slice b r.length d] w fun e w'=>e=.returned (.bool (decide (l=r)))∧Below w.heap.size w w':=by
 have HL:=lh hl;have HR:=lh hr;have h1:l.length≤9223372036854775807:=by have:=hl.cap;unfold maxLen at this;omega
 have h2:r.length≤9223372036854775807:=by have:=hr.cap;unfold maxLen at this;omega
 clear hl hr;by_cases hlen:l.length=r.length
 ·have hlen':((l.length:Int) != (r.length:Int))=false:=by rw[hlen];simp
  go_enter Try.func34,Try.ntmps34;go_wp2_with fail
  go_loopw[5] (fun v5 wr=>∃i:Nat,i≤l.length∧v5=.int .i64 i∧Hid (l.take i=r.take i)∧Hid (Below w.heap.size w wr)) (fun v5 _=>l.length-(intOf v5).toNat)
  case atStart=>exact⟨0,Nat.zero_le _,rfl,lh rfl,lh (bR _ _)⟩
  case round =>
   obtain⟨i,hi,rfl,HTK,HB⟩:=hrel;by_cases hlt:i<l.length
   ·have hlt2:i<r.length:=by omega
    obtain⟨b1,o1,rfl,-,hb1,d1⟩:=HL.out.at' i hlt;obtain⟨b2,o2,rfl,-,hb2,d2⟩:=HR.out.at' i hlt2;have m1:=(HB.out.cell (p:=⟨b1,o1+i,none⟩) hb1).trans d1;have m2:=(HB.out.cell (p:=⟨b2,o2+i,none⟩) hb2).trans d2;clear d1 d2 hb1 hb2;have DQ:=bP wr;by_cases he:l[i]=r[i]
    ·have hne:(l[i] != r[i])=false:=by rw[he];simp
     have HTK2:Hid (l.take (i+1)=r.take (i+1)):=lh (by
      rw[List.take_succ_eq_append_getElem hlt,List.take_succ_eq_append_getElem hlt2,HTK.out,he])
     have HI1:=lh hlt2;go_wp2_with fail
     go_quiet (fail)
     rename_i nq;have hB:=DQ nq;generalize wr.drewN nq=wq at *;go_wp2_with fail;go_roundw
     case measure=>simp[intOf];omega
     case rel=>exact⟨i+1,by omega,by go_num,HTK2,lh (HB.out.trans (hB.mono HB.out.size))⟩
    ·have hne:(l[i] != r[i])=true:=by rw[bne_iff_ne];exact he
     have HF:Hid (decide (l=r)=false):=lh (decide_eq_false fun e=>he (by subst e;rfl));go_wp2_with fail
     go_quiet (fail)
     rename_i nq;have hB:=DQ nq;generalize wr.drewN nq=wq at *;go_wp2_with fail;go_ret;exact⟨by rw[HF.out];rfl,HB.out.trans (hB.mono HB.out.size)⟩
   ·have HT:Hid (decide (l=r)=true):=lh (decide_eq_true (by
     have:=HTK.out
     rwa [List.take_of_length_le (by omega),List.take_of_length_le (by omega)] at this))
    go_wp2_with fail;go_ret;exact⟨by rw[HT.out];rfl,HB.out⟩
 ·have hlen':((l.length:Int) != (r.length:Int))=true:=by rw[bne_iff_ne];omega
  have HF:Hid (decide (l=r)=false):=lh (decide_eq_false fun e=>hlen (by rw[e]));clear hlen;go_enter Try.func34,Try.ntmps34;go_wp2_with fail;go_ret;exact⟨by rw[HF.out];rfl,Below.refl _ _⟩
def lK(s:List Int):Int→Option Value:=fun x=>if (x+1)∈s then some (.int .i64 (yL s (x+1))) else none
structure iG(w:World)(nb:Nat)(C:Nat→Prop)(s:List Int)(mv cv:Value):Prop where
 blk:w.heap[nb]? = some (.cells #[mv,cv] 137 (0,0))
 map:(mv=.map none∧s = [])∨∃bm,mv=.map (some bm)∧C bm∧bm≠nb∧cv.ownBlock≠some bm∧iV Try.prog 3 w bm s.length (lK s)
 row:w.ownsRow 0 3 1 cv s.length (s.map fun v=>Value.int .i64 (v-1))
 own:C nb∧∀g,cv.ownBlock=some g→C g∧g≠nb
 old:∀b,C b→b<w.heap.size
def bL2(w:World)(nb:Nat)(C:Nat→Prop)(s:List Int)(c:Nat)(e:Ending)(w':World):Prop :=
 e=.returned (.int .i64 (cN s ((c:Int)+1)).1)∧∃C' mv cv,(∀b,b<w.heap.size→(C' b↔C b))∧iG w' nb C' (cN s ((c:Int)+1)).2 mv cv∧aA C w w'
theorem aD1{s:List Int}{v:Int}(h:v∈s):cN s v=(yL s v,s):=by
 unfold cN yL nA;rw[if_pos h]
theorem pX{s:List Int}{v:Int}(h:v ∉ s):cN s v=((s.length:Int)+1,s++[v]):=by
 unfold cN nA;rw[if_neg h,List.idxOf_append,if_neg h];simp
theorem aJ6{s:List Int}{c:Int}(h:c+1 ∉ s):lK (s++[c+1])=sO (lK s) c (some (.int .i64 ((s.length:Int)+1))):=by
 funext x;simp only[lK,sO];by_cases e:x=c
 ·subst e
  rw[if_pos (by simp),if_pos rfl];unfold yL;rw[List.idxOf_append,if_neg h];simp
 ·rw[if_neg e]
  by_cases hx:x+1∈s
  ·rw[if_pos (by simp[hx]),if_pos hx]
   unfold yL;rw[List.idxOf_append,if_pos hx]
  ·rw[if_neg,if_neg hx]
   rw[List.mem_append,List.mem_singleton];rintro (h2|h2)
   ·exact hx h2
   ·exact e (by omega)
theorem iG.keep{w w':World}{nb:Nat}{C:Nat→Prop}{s:List Int}{mv cv:Value}(h:iG w nb C s mv cv)(hs:w.heap.size≤w'.heap.size)(hb:∀b,C b→w'.heap[b]? = w.heap[b]?):iG w' nb C s mv cv :=
 ⟨(hb nb h.own.1).trans h.blk,h.map.imp id fun ⟨bm,e,c,n,o,m⟩=>⟨bm,e,c,n,o,m.kept (hb bm c)⟩,aC h.row fun g hg=>hb g (h.own.2 g hg).1,h.own,fun b hc=>nT (h.old b hc) hs⟩
theorem iG.below{w w':World}{nb:Nat}{C:Nat→Prop}{s:List Int}{mv cv:Value}(h:iG w nb C s mv cv)(hb:Below w.heap.size w w'):iG w' nb C s mv cv:=h.keep hb.size fun b hc=>hb.block b (h.old b hc)
structure sL(w:World)(nb:Nat)(C:Nat→Prop)(s:List Int)(c:Int)(bm:Nat)(cv:Value):Prop where
 blk:w.heap[nb]? = some (.cells #[.map (some bm),cv] 137 (0,0))
 map:C bm∧bm≠nb∧cv.ownBlock≠some bm∧iV Try.prog 3 w bm s.length (lK s)
 row:w.ownsRow 0 3 1 cv (s.length+1) (s.map (fun v=>Value.int .i64 (v-1))++[.int .i64 c])
 own:C nb∧∀g,cv.ownBlock=some g→C g∧g≠nb
 old:∀b,C b→b<w.heap.size
theorem sL.done{w:World}{nb:Nat}{C:Nat→Prop}{s:List Int}{c:Int}{bm:Nat}{cv:Value}(h:sL w nb C s c bm cv)(hc:I64 c)(hn:c+1 ∉ s)(hs:s.length≤1000000) :
 ∃w',(Instr.mapUpdate 114 (.map (some bm)) (.int .i64 c) (.int .i64 ((s.length:Int)+1))).run Try.prog w=.ok () w'∧iG w' nb C (s++[c+1]) (.map (some bm)) cv∧w.grownBy w' (some bm):=by
 obtain⟨m1,m2,m3,m4⟩:=h.map;obtain⟨w',h1,h2,h3⟩:=m4.store vY Try.underlying3 Try.underlying114 (by unfold maxLen;omega) hc (.int .i64 ((s.length:Int)+1)) (by unfold lK;rw[if_neg hn]);refine⟨w',h1,⟨(h3.block nb (by have:=(gS h.blk).1;exact this) (fun e=>m2 (by injection e with e;exact e.symm))).trans h.blk,.inr ⟨bm,rfl,m1,m2,m3,?_⟩,?_,h.own,fun b hb=>nT (h.old b hb) h3.size⟩,h3⟩
 ·rw[aJ6 hn,List.length_append];exact h2
 ·have e:(s++[c+1]).map (fun v=>Value.int .i64 (v-1))=s.map (fun v=>Value.int .i64 (v-1))++[.int .i64 c]:=by
   rw[List.map_append];simp
  rw[e,List.length_append];exact aC h.row fun g hg=>h3.block g (h.row.lt g hg).2 (fun e=>m3 (by rw[hg];injection e with e;rw[e]))
theorem iG.c0{w:World}{nb:Nat}{C:Nat→Prop}{s:List Int}{mv cv:Value}(h:iG w nb C s mv cv):w.cell? ⟨nb,0,none⟩=some mv:=by simp[World.cell?,h.blk]
theorem iG.c1{w:World}{nb:Nat}{C:Nat→Prop}{s:List Int}{mv cv:Value}(h:iG w nb C s mv cv):w.cell? ⟨nb,1,none⟩=some cv:=by simp[World.cell?,h.blk]
theorem iG.fz{w:World}{nb:Nat}{C:Nat→Prop}{s:List Int}{mv cv:Value}(h:iG w nb C s mv cv)(o:Nat):w.frozen? ⟨nb,o,none⟩=false:=by simp[World.frozen?,h.blk]
theorem sL.c0{w:World}{nb:Nat}{C:Nat→Prop}{s:List Int}{c:Int}{bm:Nat}{cv:Value}(h:sL w nb C s c bm cv):w.cell? ⟨nb,0,none⟩=some (.map (some bm)):=by simp[World.cell?,h.blk]
theorem sL.c1{w:World}{nb:Nat}{C:Nat→Prop}{s:List Int}{c:Int}{bm:Nat}{cv:Value}(h:sL w nb C s c bm cv):w.cell? ⟨nb,1,none⟩=some cv:=by simp[World.cell?,h.blk]
theorem iG.mapped{w:World}{nb:Nat}{C:Nat→Prop}{cv:Value}{mv:Value}(h:iG w nb C [] mv cv) :
 iG ((w.alloc (.map #[] 0)).setCell ⟨nb,0,none⟩ (.map (some w.heap.size))) nb (fun b=>C b∨b=w.heap.size) [] (.map (some w.heap.size)) cv:=by
 have hlt:=h.old nb h.own.1;have hne:w.heap.size≠nb:=by omega
 have hb:(w.alloc (.map #[] 0)).heap[nb]? = some (.cells #[mv,cv] 137 (0,0)):=(Below.heap_alloc _ _ _ hlt).trans h.blk;have hk:∀b,b<w.heap.size→b≠nb→((w.alloc (.map #[] 0)).setCell ⟨nb,0,none⟩ (.map (some w.heap.size))).heap[b]? = w.heap[b]?:=fun b h1 h2=>(Below.heap_setCell _ _ _ _ h2).trans (Below.heap_alloc _ _ _ h1)
 refine⟨?_,.inr ⟨_,rfl,.inr rfl,hne,?_,?_⟩,?_,⟨.inl h.own.1,fun g hg=>⟨.inl (h.own.2 g hg).1,(h.own.2 g hg).2⟩⟩,?_⟩
 ·rw[aB _ _ _ _ hb];rfl
 ·intro e
  have:=h.old _ (h.own.2 _ e).1;omega
 ·have:=iV.made (P:=Try.prog) (kt:=3) w
  have e:lK []=fun _=>none:=by funext x;simp[lK]
  rw[e];exact this.kept (Below.heap_setCell _ _ _ _ hne)
 ·exact aC h.row fun g hg=>hk g (h.old g (h.own.2 g hg).1) (h.own.2 g hg).2
 ·intro b hb
  have:((w.alloc (.map #[] 0)).setCell ⟨nb,0,none⟩ (.map (some w.heap.size))).heap.size=w.heap.size+1:=by simp[World.setCell]
  rcases hb with hb|rfl
  ·have:=h.old b hb;omega
  ·omega
theorem iG.push{w:World}{nb bm:Nat}{C:Nat→Prop}{s:List Int}{cv:Value}(h:iG w nb C s (.map (some bm)) cv){c:Int}{tv':Value}{X3:World}
 (ho:X3.ownsRow 0 3 1 tv' (s.length+1) (s.map (fun v=>Value.int .i64 (v-1))++[.int .i64 c])) (hg:(w.alloc (.cells #[.int .i64 c] 3)).grownBy X3 cv.ownBlock) (hf:cF (w.alloc (.cells #[.int .i64 c] 3)) cv tv') :
 sL (X3.setCell ⟨nb,1,none⟩ tv').drew nb (fun b=>C b∨tv'.ownBlock=some b) s c bm tv'∧aA C w (X3.setCell ⟨nb,1,none⟩ tv').drew∧∀b,b<w.heap.size→((C b∨tv'.ownBlock=some b)↔C b):=by
 obtain⟨bm',e0,m1,m2,m3,m4⟩:∃bm',Value.map (some bm)=.map (some bm')∧C bm'∧bm'≠nb∧cv.ownBlock≠some bm'∧iV Try.prog 3 w bm' s.length (lK s):=by
  rcases h.map with ⟨e,_⟩|e
  ·cases e
  ·exact e
 injection e0 with e0;injection e0 with e0;subst e0;have hnb:=h.old nb h.own.1;have hF:cF w cv tv':=hf.old (by simp);have hA:aA C w (w.alloc (.cells #[.int .i64 c] 3)):=aA.below ((bR _ _).alloc (nR _) _);have hG:aA C (w.alloc (.cells #[.int .i64 c] 3)) X3:=aA.grown hg (fun k e=>(h.own.2 k e).1);have hS:aA C X3 (X3.setCell ⟨nb,1,none⟩ tv'):=aA.setCell _ h.own.1;have hT:=(hA.trans hG).trans hS;have hbk:∀b,b<w.heap.size→cv.ownBlock≠some b→b≠nb→(X3.setCell ⟨nb,1,none⟩ tv').heap[b]? = w.heap[b]?:=fun b h1 h2 h3=>(Below.heap_setCell _ _ _ _ h3).trans ((hg.block b (by simp;omega) (fun e=>h2 e.symm)).trans (Below.heap_alloc _ _ _ h1))
 have hbl:X3.heap[nb]? = some (.cells #[.map (some bm),cv] 137 (0,0)):=(hg.block nb (by simp;omega) (fun e=>(h.own.2 nb e.symm).2 rfl)).trans ((Below.heap_alloc _ _ _ hnb).trans h.blk);have hfr:∀b,tv'.ownBlock=some b→C b∧b≠nb∧b≠bm∨w.heap.size≤b:=by
  intro b e;rcases hF with e2|e2
  ·rw[e2] at e;exact .inl ⟨(h.own.2 b e).1,(h.own.2 b e).2,fun e3=>m3 (e3 ▸ e)⟩
  ·exact .inr (e2 b e)
 have hbm:=m4.lt;have hK:sL (X3.setCell ⟨nb,1,none⟩ tv') nb (fun b=>C b∨tv'.ownBlock=some b) s c bm tv':=by
  refine⟨?_,⟨.inl m1,m2,fun e=>?_,m4.kept (hbk bm hbm m3 m2)⟩,?_,⟨.inl h.own.1,fun g hg2=>⟨.inr hg2,fun e=>?_⟩⟩,?_⟩
  ·rw[aB _ _ _ _ hbl];rfl
  ·rcases hfr bm e with h1|h1
   ·exact h1.2.2 rfl
   ·omega
  ·exact aC ho fun g hg2=>Below.heap_setCell _ _ _ _ fun e=>by
    subst e;rcases hfr _ hg2 with h1|h1
    ·exact h1.2.1 rfl
    ·omega
  ·subst e
   rcases hfr _ hg2 with h1|h1
   ·exact h1.2.1 rfl
   ·omega
  ·have hz:(X3.setCell ⟨nb,1,none⟩ tv').heap.size=X3.heap.size:=by simp[World.setCell]
   rintro b (hb|hb)
   ·exact nT (h.old b hb) hT.size
   ·rw[hz];exact(ho.lt b hb).2
 refine⟨⟨hK.blk,⟨hK.map.1,hK.map.2.1,hK.map.2.2.1,hK.map.2.2.2.kept rfl⟩,aC hK.row fun _ _=>rfl,hK.own,hK.old⟩,hT.trans (aA.below (bR _ _).drew),fun b hb=>⟨fun e=>e.elim id fun e=>?_,.inl⟩⟩;rcases hfr b e with h1|h1
 ·exact h1.1
 ·omega
theorem aQ6(w:World)(b:Nat):(binOp .eql 114 (.map (some b)) (.map none)).run Try.prog w=.ok (.bool false) w:=by kernel_rfl
theorem aJ7(w:World):(binOp .eql 114 (.map none) (.map none)).run Try.prog w=.ok (.bool true) w:=by kernel_rfl
theorem aX5(w:World):(Instr.makeMap 114 none).run Try.prog w=.ok (.map (some w.heap.size)) (w.alloc (.map #[] 0)):=by kernel_rfl
theorem aD2(w:World)(c:Nat):(Instr.lookup 114 (.map none) (.int .i64 (c:Nat)) true).run Try.prog w=.ok (.tuple #[.int .i64 0,.bool false]) w:=by kernel_rfl
theorem aA.trans0{C C':Nat→Prop}{a b c:World}(h:aA C a b)(k:aA C' b c)(hm:∀x,x<a.heap.size→(C' x↔C x)):aA C a c :=
 ⟨k.os.trans h.os,k.tape.trans h.tape,k.output.trans h.output,Nat.le_trans h.size k.size,fun i hi hn=>(k.block i (nT hi h.size) (fun e=>hn ((hm i hi).1 e))).trans (h.block i hi hn)⟩
theorem OfW{w:World}{nb:Nat}{C:Nat→Prop}{s:List Int}{mv cv:Value}(c:Nat)(h:iG w nb C s mv cv)(hc:c≤1000000)(hs:s.length≤1000000) :
 Calls Try.prog 92 #[.pointer (some ⟨nb,0,none⟩),.int .i64 (c:Nat)] w (bL2 w nb C s c):=by
 have H:=lh h;have HS:=lh hs;have hml:1000001≤maxLen:=by unfold maxLen;omega
 have hci:I64 (c:Int):=by unfold I64;omega
 have HC:=lh hci;have c0:=h.c0;have c1:=h.c1;have cf:=h.fz;clear h;by_cases hin:(c:Int)+1∈s
 ·have HIN:=lh hin
  rcases H.out.map with ⟨rfl,rfl⟩|⟨bm,rfl,m1,m2,m3,m4⟩
  ·cases hin
  have hl:=iV.look m4 vY Try.underlying3 Try.underlying114 (zH w) hci;have e:lK s (c:Int)=some (.int .i64 (yL s ((c:Int)+1))):=by simp only[lK];rw[if_pos hin]
  rw[e] at hl;simp only[Option.getD_some,Option.isSome_some] at hl;have HM:=lh m4;clear m1 m2 m3 m4 e hin;go_enter Try.func92,Try.ntmps92;go_wp2_with fail;go_ret;exact⟨by rw[aD1 HIN.out];rfl,C,.map (some bm),cv,fun b _=>Iff.rfl,by rw[aD1 HIN.out];exact H.out,aA.refl _ _⟩
 ·have HNI:=lh hin
  rcases H.out.map with ⟨rfl,rfl⟩|⟨bm,rfl,m1,m2,m3,m4⟩
  ·obtain⟨s,hs0⟩:∃s:List Int,s = []:=⟨_,rfl⟩
   have heq:=aJ7 w;have hl:=aD2 w c;have hmk:=aX5 w;have hbx:(w.alloc (.map #[] 0)).heap[nb]? = some (.cells #[.map none,cv] 137 (0,0)):=(Below.heap_alloc _ _ _ (H.out.old nb H.out.own.1)).trans H.out.blk;have d0:(w.alloc (.map #[] 0)).cell? ⟨nb,0,none⟩=some (.map none):=by simp[World.cell?,hbx]
   have df:∀o,(w.alloc (.map #[] 0)).frozen? ⟨nb,o,none⟩=false:=fun o=>by simp[World.frozen?,hbx]
   clear hbx;have hx0:=H.out.mapped;obtain⟨CX,hCX⟩:∃CX:Nat→Prop,CX=fun b=>C b∨b=w.heap.size:=⟨_,rfl⟩
   rw[←hCX] at hx0;have HX:=lh hx0;clear hx0;have HXT:Hid (aA C w ((w.alloc (.map #[] 0)).setCell ⟨nb,0,none⟩ (.map (some w.heap.size)))):=lh ((aA.below ((bR _ _).alloc (nR _) _)).trans (aA.setCell _ H.out.own.1));have HXS:Hid (∀b,b<w.heap.size→b<((w.alloc (.map #[] 0)).setCell ⟨nb,0,none⟩ (.map (some w.heap.size))).heap.size∧(CX b↔C b)):=lh fun b hb=>⟨nT hb HXT.out.size,by rw[hCX];exact⟨fun e=>e.elim id fun e=>by omega,.inl⟩⟩
   have x1:=HX.out.c1;rw[←hs0] at HX HNI HS ⊢;clear hs0 hin hCX;obtain⟨i0,hi,hz0,hz1,hz2⟩:=info_parts Try.infoI;have hown:=lh (HX.out.row.alloc (.cells #[.int .i64 (c:Nat)] 3));have hsz:((w.alloc (.map #[] 0)).setCell ⟨nb,0,none⟩ (.map (some w.heap.size))).heap.size=w.heap.size+1:=by simp[World.setCell]
   have hoc:=lh (dT ((w.alloc (.map #[] 0)).setCell ⟨nb,0,none⟩ (.map (some w.heap.size))) (.int .i64 (c:Nat)) 3);rw[hsz] at hoc;clear hsz;go_enter Try.func92,Try.ntmps92;go_wp2_with (at_builtin;refine aR _ rfl _ _ 27 rfl 0 3 i0 _ 1 8 Try.underlying27 hi hz0 hz1 hz2 rfl (by decide) _ _ _ rfl hown.out ⟨w.heap.size+1,0,none⟩ 1 1 [.int .i64 (c:Nat)] rfl rfl ?d1 ?d2 ?d3 ?d4 ?d5 ?_)
   any_goals (first|exact hoc.out|rfl|(intro u hu;simp only[List.mem_singleton] at hu;subst hu;rfl)|(have:=HS.out;omega)|omega)
   clear hoc;generalize ((w.alloc (.map #[] 0)).setCell ⟨nb,0,none⟩ (.map (some w.heap.size)))=X at *;generalize hbm:w.heap.size=bm at *;have HBM:=lh hbm;clear hbm;intro tv' X3 hown3 hg3 hfr3;obtain⟨g3,cap3,rfl⟩:=bQ hown3 (by omega);obtain⟨hp1,hp2,hp3⟩:=HX.out.push hown3 hg3 hfr3;have HP1:=lh hp1;have HP2:=lh hp2;have HP3:=lh hp3;have hbk:X3.heap[nb]? = X.heap[nb]?:=(hg3.block nb (by have:=HX.out.old nb HX.out.own.1;simp;omega) (fun e=>(HX.out.own.2 nb e.symm).2 rfl)).trans (Below.heap_alloc _ _ _ (HX.out.old nb HX.out.own.1));have y0:X3.cell? ⟨nb,0,none⟩=some (.map (some bm)):=by simp[World.cell?,hbk,HX.out.blk]
   have y1:X3.cell? ⟨nb,1,none⟩=some cv:=by simp[World.cell?,hbk,HX.out.blk]
   have yf:∀o,X3.frozen? ⟨nb,o,none⟩=false:=fun o=>by simp[World.frozen?,hbk,HX.out.blk]
   have hsl:(s.length:Int)+1=((s.length+1:Nat):Int):=by omega
   obtain⟨w9,hrun,hdone,hg9⟩:=HP1.out.done HC.out HNI.out (by have:=HS.out;omega);have HDN:=lh hdone;have q0:=HP1.out.c0;have q1:=HP1.out.c1;have r1:=hdone.c1;have HG9:Hid (aA CX X w9):=lh (HP2.out.trans0 (aA.grown (M:=fun b=>CX b∨(Value.slice (some ⟨g3,0,none⟩) (s.length+1) cap3).ownBlock=some b) hg9 (fun k e=>by cases e;exact HP1.out.map.1)) HP3.out);have HC9:Hid (∀b,b<X.heap.size→((CX b∨(Value.slice (some ⟨g3,0,none⟩) (s.length+1) cap3).ownBlock=some b)↔CX b)):=HP3;clear hp1 hp2 hp3 hown3 hg3 hfr3 hown hdone hg9 hbk HP2 HP3;rw[hsl] at hrun;obtain⟨n1,hn1⟩:∃n1,s.length+1=n1:=⟨_,rfl⟩
   have HN1:=lh hn1;simp only[hn1] at hrun q0 q1 r1 HDN HP1 HG9 HC9 hsl ⊢;clear hn1;go_wp2_with fail
   go_region
   all_goals
    go_wp2_with fail;go_ret;exact⟨by rw[pX HNI.out,hsl];rfl,_,.map (some bm),_,fun b hb=>(HC9.out b (HXS.out b (HBM.out ▸ hb)).1).trans (HXS.out b (HBM.out ▸ hb)).2,by rw[pX HNI.out];exact HDN.out,(HXT.out.trans0 HG9.out fun b hb=>(HXS.out b (HBM.out ▸ hb)).2)⟩
  ·have HM:=lh m4
   have hl:=iV.look m4 vY Try.underlying3 Try.underlying114 (zH w) hci;have e:lK s (c:Int)=none:=by simp only[lK];rw[if_neg hin]
   rw[e] at hl;simp only[Option.getD_none,Option.isSome_none] at hl;clear m1 m2 m3 m4 e hin;have heq:=aQ6 w bm;have HX:=H;go_enter Try.func92,Try.ntmps92;obtain⟨i0,hi,hz0,hz1,hz2⟩:=info_parts Try.infoI;have hown:=lh (HX.out.row.alloc (.cells #[.int .i64 (c:Nat)] 3));have x1:=HX.out.c1;go_wp2_with (at_builtin;refine aR _ rfl _ _ 27 rfl 0 3 i0 _ 1 8 Try.underlying27 hi hz0 hz1 hz2 rfl (by decide) _ _ _ rfl hown.out ⟨w.heap.size,0,none⟩ 1 1 [.int .i64 (c:Nat)] rfl rfl ?c1 ?c2 ?c3 ?c4 ?c5 ?_)
   any_goals (first|exact dT _ _ _|rfl|(intro u hu;simp only[List.mem_singleton] at hu;subst hu;rfl)|(have:=HS.out;omega)|omega)
   intro tv' X3 hown3 hg3 hfr3;obtain⟨g3,cap3,rfl⟩:=bQ hown3 (by omega);obtain⟨hp1,hp2,hp3⟩:=HX.out.push hown3 hg3 hfr3;have HP1:=lh hp1;have HP2:=lh hp2;have HP3:=lh hp3;have hbk:X3.heap[nb]? = w.heap[nb]?:=(hg3.block nb (by have:=HX.out.old nb HX.out.own.1;simp;omega) (fun e=>(HX.out.own.2 nb e.symm).2 rfl)).trans (Below.heap_alloc _ _ _ (HX.out.old nb HX.out.own.1));have y0:X3.cell? ⟨nb,0,none⟩=some (.map (some bm)):=by simp[World.cell?,hbk,HX.out.blk]
   have y1:X3.cell? ⟨nb,1,none⟩=some cv:=by simp[World.cell?,hbk,HX.out.blk]
   have yf:∀o,X3.frozen? ⟨nb,o,none⟩=false:=fun o=>by simp[World.frozen?,hbk,HX.out.blk]
   have hsl:(s.length:Int)+1=((s.length+1:Nat):Int):=by omega
   obtain⟨w9,hrun,hdone,hg9⟩:=HP1.out.done HC.out HNI.out (by have:=HS.out;omega);have HDN:=lh hdone;have q0:=HP1.out.c0;have q1:=HP1.out.c1;have r1:=hdone.c1;have HG9:Hid (aA C w w9):=lh (HP2.out.trans0 (aA.grown (M:=fun b=>C b∨(Value.slice (some ⟨g3,0,none⟩) (s.length+1) cap3).ownBlock=some b) hg9 (fun k e=>by cases e;exact HP1.out.map.1)) HP3.out);have HC9:Hid (∀b,b<w.heap.size→((C b∨(Value.slice (some ⟨g3,0,none⟩) (s.length+1) cap3).ownBlock=some b)↔C b)):=HP3;clear hp1 hp2 hp3 hown3 hg3 hfr3 hown hdone hg9 hbk HP2 HP3;rw[hsl] at hrun;obtain⟨n1,hn1⟩:∃n1,s.length+1=n1:=⟨_,rfl⟩
   have HN1:=lh hn1;simp only[hn1] at hrun q0 q1 r1 HDN HP1 HG9 HC9 hsl ⊢;clear hn1;go_wp2_with fail
   go_region
   all_goals
    go_wp2_with fail;go_ret;exact⟨by rw[pX HNI.out,hsl];rfl,_,.map (some bm),_,fun b hb=>HC9.out b hb,by rw[pX HNI.out];exact HDN.out,HG9.out⟩
end Go.Proofs.Ytikmgiapjigghab
