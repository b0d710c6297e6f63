/- Walk: Run. -/
import Derived.Deep.RegionHeld3
import Derived.Deep.CutRange
import Derived.Test.YtikmgiapjigghabCb11
import Derived.Test.YtikmgiapjigghabCb15
import Derived.Test.YtikmgiapjigghabCb16
import Derived.Test.YtikmgiapjigghabCb36
namespace Go.Proofs.Ytikmgiapjigghab
open Go.RowKit Go.Shelf
theorem PgI.of{p:List Cl}(h:programE p=0):PgI p:=⟨clg_of h,pok_of h,(program_zero h).1⟩
set_option maxRecDepth 20000 in
theorem start_run(p:List Cl){q:List Tm}(hq:queryE q=0){most:Nat}(hm:most≤400):RunI p (Tm.greats q).toNat most (mnew q (Tm.greats q).toNat) (startP q):=by
 have hg:(Tm.greats q).toNat≤12:=by have:=query_great hq;omega
 obtain⟨h1,h2,h3,h4,h5⟩:=start_sim p hq hg
 have hl:left most (startP q)≤440:=by simp[left,startP];omega
 have ht:(mnew q (Tm.greats q).toNat).T.length=0:=rfl
 refine⟨h1,start_inv p hq,h4,Nat.zero_le _,⟨by omega,by omega⟩,fun _=>⟨by omega,by omega,by omega⟩⟩
theorem RnAt.wider{w:World}{Z Z':Nat→Prop}{R:Nat}{p:List Cl}{pa:Option Addr}{pc:Nat}{m:Mac}{d:MAd}{wk:Nat}(h:RnAt w Z R p pa pc m d wk)(ha:m.ans = [])(hz:∀ b,RM R d b→¬ Z' b)(hp:Pr w (fun b=>¬ RM R d b∧¬ Z' b) p pa pc):RnAt w Z' R p pa pc m d wk:=by
 obtain⟨A,e1,e2,e3⟩:=h.rows.a
 have hA:A = []:=List.map_eq_nil_iff.1 (e1.trans ha)
 subst hA
 exact⟨h.blk,⟨h.rows.h,h.rows.g,h.rows.c,h.rows.t,h.rows.q,⟨[],e1,e2,fun x hx=>nomatch hx⟩,h.rows.ne⟩,h.ne,hp,hz⟩
def RunPost(w:World)(p:List Cl)(q:List Tm)(s:Int)(e:Ending)(w':World):Prop :=
 Below w.heap.size w w' ∧
 if readyE p q s=0 then ∃ Sf N a c,Sf=mrun p (s.toNat:Nat) N (mnew q (Tm.greats q).toNat)∧Sf.fin≠0∧e=.returned (.tuple #[.agg #[.slice a Sf.ans.length c,.int .i64 (Sf.fin:Nat),.int .i64 (Sf.steps:Nat)],.int .i64 0])∧AsAt w' (fun _=>True) Sf.ans a c
 else e=.returned (.tuple #[.agg #[.slice none 0 0,.int .i64 0,.int .i64 0],.int .i64 (readyE p q s:Nat)])
theorem put3{u:World}{b:Nat}{o0 o1 o2:Value}{e:TypeId}(h:u.heap[b]? = some (.cells #[o0,o1,o2] e (0,0)))(v0 v1 v2:Value) :
 (((u.setCell ⟨b,0,none⟩ v0).setCell ⟨b,1,none⟩ v1).setCell ⟨b,2,none⟩ v2).heap[b]? = some (.cells #[v0,v1,v2] e (0,0))∧Touch (fun x=>x=b) u (((u.setCell ⟨b,0,none⟩ v0).setCell ⟨b,1,none⟩ v1).setCell ⟨b,2,none⟩ v2):=by
 have k0:(u.setCell ⟨b,0,none⟩ v0).heap[b]? = some (.cells #[v0,o1,o2] e (0,0)):=heap_setCell_at _ b 0 v0 h
 have k1:((u.setCell ⟨b,0,none⟩ v0).setCell ⟨b,1,none⟩ v1).heap[b]? = some (.cells #[v0,v1,o2] e (0,0)):=heap_setCell_at _ b 1 v1 k0
 have k2:(((u.setCell ⟨b,0,none⟩ v0).setCell ⟨b,1,none⟩ v1).setCell ⟨b,2,none⟩ v2).heap[b]? = some (.cells #[v0,v1,v2] e (0,0)):=heap_setCell_at _ b 2 v2 k1
 exact⟨k2,((Touch.setCell (M:=fun x=>x=b) _ rfl).trans (Touch.setCell _ rfl)).trans (Touch.setCell _ rfl)⟩
set_option maxRecDepth 100000 in
set_option maxHeartbeats 3200000 in
theorem RunRW{w:World}{okp okq:Nat→Prop}{p:List Cl}{pa:Option Addr}{pc:Nat}(hp:Pr w okp p pa pc){q:List Tm}{qa:Option Addr}{qc:Nat}(hq:Ts w okq q qa qc)(s:Int) :
 Calls Try.prog 18 #[.slice pa p.length pc,.slice qa q.length qc,.int .i64 s] w (RunPost w p q s):=by
 have B1:Below w.heap.size w (w.alloc (.cells #[.slice none 0 0,.int .i64 0,.int .i64 0] 50)):=(Below.refl _ _).alloc (Nat.le_refl _) _
 have HRW:=lh (MReadyW (steps:=s) (ok:=fun _=>True) ((hp.mono fun _ _ _=>trivial).keep (Keeps.below B1 _)) ((hq.mono fun _ _ _=>trivial).keep (Keeps.below B1 _)))
 have HB1:=lh B1
 have HN1:=lh (heap_alloc_new w (.cells #[.slice none 0 0,.int .i64 0,.int .i64 0] 50))
 have HP:=lh hp;have HQ:=lh hq
 clear hp hq B1
 go_enter Try.func18,Try.ntmps18
 by_cases h0:readyE p q s=0
 ·obtain⟨hp0,hq0,hs0,hs4⟩:=ready_parts h0
  obtain⟨most,rfl⟩:∃ most:Nat,s=(most:Int):=⟨s.toNat,by omega⟩
  have HE:Hid (RunPost w p q most=fun e w'=>Below w.heap.size w w'∧∃ Sf N a c,Sf=mrun p (most:Nat) N (mnew q (Tm.greats q).toNat)∧Sf.fin≠0∧e=.returned (.tuple #[.agg #[.slice a Sf.ans.length c,.int .i64 (Sf.fin:Nat),.int .i64 (Sf.steps:Nat)],.int .i64 0])∧AsAt w' (fun _=>True) Sf.ans a c):=lh (by funext e w';unfold RunPost;rw[if_pos h0,Int.toNat_natCast])
  have hg0:=Tm.greats_pos q
  have hg12:=query_great hq0
  have HNW:Hid (∀ u,Below w.heap.size w u→Calls Try.prog 42 #[.slice pa p.length pc,.slice qa q.length qc] u (NwPost u p pa pc (mnew q (Tm.greats q).toNat))):=lh fun u hu =>
   NewRW (HP.out.keep (Keeps.below hu _)) (HQ.out.keep (Keeps.below hu _)) (g:=(Tm.greats q).toNat) (by omega) (by omega) (fun t ht=>(check_zero (query_mem hq0 ht)).1) (query_zero hq0).1
  have HGW:Hid (∀ (u:World) (R:Nat) (d:MAd),w.heap.size<u.heap.size→RnAt u (fun b=>b=w.heap.size) R p pa pc (mnew q (Tm.greats q).toNat).mac d 0→Calls Try.prog 43 #[.pointer (some ⟨R,0,none⟩),.int .i64 (most:Nat),.func (.func 44) #[] #[]] u (GoPost u (fun b=>b=w.heap.size) R p pa pc d most (mnew q (Tm.greats q).toNat))):=lh fun u R d hu hr =>
   GoRW hr (PgI.of hp0) (by omega) (by omega) (start_run p hq0 (by omega)) (fun b e=>by have e':b=w.heap.size:=e;rw[e'];exact hu)
  rw[h0] at HRW
  clear h0 hp0 hq0 hg0 hg12 hs0 hs4
  go_wp2_with (first
   | (go_at_call 41;refine HRW.out.mono ?_;rintro e w2 ⟨rfl,hb2⟩;have hx:=(hb2.block _ (Array.getElem?_eq_some_iff.1 HN1.out).1).trans HN1.out;have HX2:=lh hx;have HB2:=lh hb2;have HB2':=lh (HB1.out.trans (hb2.mono HB1.out.size));clear hb2 hx)
   | (go_at_call 42;refine(HNW.out _ HB2'.out).mono ?_;rintro e w3 ⟨d3,rfl,hr3,hb3,hf3⟩;have hx3:=(hb3.block _ (Array.getElem?_eq_some_iff.1 HX2.out).1).trans HX2.out;have hl2:=(Array.getElem?_eq_some_iff.1 HX2.out).1;have hl3:=(Array.getElem?_eq_some_iff.1 hx3).1;have hr3':=hr3.wider (Z':=fun b=>b=w.heap.size) rfl (fun b e=>by have e2:w2.heap.size≤b:=e.elim (fun e=>by omega) (hf3 b);omega) (((HP.out.mono (ok':=fun b=>b<w.heap.size) fun b hb _=>hb).keep (Keeps.below (HB2'.out.trans (hb3.mono HB2'.out.size)) _)).mono fun b _ hb=>⟨fun e=>by have e2:w2.heap.size≤b:=e.elim (fun e=>by omega) (hf3 b);omega,by omega⟩);have HX3:=lh hx3;have HL3:=lh hl3;have HR3:=lh hr3';have HB3:=lh hb3;have HF3:=lh hf3;clear hr3 hr3' hb3 hf3 hx3 hl2 hl3)
   | (go_at_call 43;refine(HGW.out _ _ _ HL3.out HR3.out).mono ?_;rintro e w4 ⟨Sf,N,d4,wk4,hSf,hfin,rfl,ht4,hf4,hr4⟩;have hn4:¬ RM w2.heap.size d3 w.heap.size:=(fun e=>by have h2:=(Array.getElem?_eq_some_iff.1 HX2.out).1;exact e.elim (fun e=>by omega) fun e=>by have:=HF3.out _ e;omega);have hx4:=(ht4.block _ (Array.getElem?_eq_some_iff.1 HX3.out).1 hn4).trans HX3.out;have t0:w4.cell? ⟨w.heap.size,0,none⟩=some (.slice none 0 0):=(by simp[World.cell?,hx4]);have t1:w4.cell? ⟨w.heap.size,1,none⟩=some (.int .i64 0):=(by simp[World.cell?,hx4]);have t2:w4.cell? ⟨w.heap.size,2,none⟩=some (.int .i64 0):=(by simp[World.cell?,hx4]);have tf:∀ o,w4.frozen? ⟨w.heap.size,o,none⟩=false:=(fun o=>by simp[World.frozen?,hx4]);have HSF:=lh hSf;have HFIN:=lh hfin;have HT4:=lh ht4;have HF4:=lh hf4;have HR4:=lh hr4;have HX4:=lh hx4;clear hSf hfin ht4 hf4 hr4 hx4 hn4))
  obtain⟨hz1,hz2⟩:=put3 HX4.out (.slice d4.a Sf.ans.length d4.an) (.int .i64 (Sf.fin:Nat)) (.int .i64 (Sf.steps:Nat))
  have hbw3:Below w.heap.size w w3:=HB2'.out.trans (HB3.out.mono HB2'.out.size)
  have hl2:=(Array.getElem?_eq_some_iff.1 HX2.out).1
  have hbw4:Below w.heap.size w w4:=hbw3.trans (HT4.out.toBelow hbw3.size fun b e=>e.elim (fun e=>by omega) fun e=>by have:=HF3.out b e;omega)
  have hbz:Below w.heap.size w (((w4.setCell ⟨w.heap.size,0,none⟩ (.slice d4.a Sf.ans.length d4.an)).setCell ⟨w.heap.size,1,none⟩ (.int .i64 (Sf.fin:Nat))).setCell ⟨w.heap.size,2,none⟩ (.int .i64 (Sf.steps:Nat))):=hbw4.trans (hz2.toBelow hbw4.size fun b e=>by omega)
  have hma:=(HR4.out.keep hz2 fun b _ e=>e).mac.a
  generalize ((w4.setCell ⟨w.heap.size,0,none⟩ (.slice d4.a Sf.ans.length d4.an)).setCell ⟨w.heap.size,1,none⟩ (.int .i64 (Sf.fin:Nat))).setCell ⟨w.heap.size,2,none⟩ (.int .i64 (Sf.steps:Nat))=z at *
  have y0:z.cell? ⟨w.heap.size,0,none⟩=some (.slice d4.a Sf.ans.length d4.an):=by simp[World.cell?,hz1]
  have y1:z.cell? ⟨w.heap.size,1,none⟩=some (.int .i64 (Sf.fin:Nat)):=by simp[World.cell?,hz1]
  have y2:z.cell? ⟨w.heap.size,2,none⟩=some (.int .i64 (Sf.steps:Nat)):=by simp[World.cell?,hz1]
  refine bodyPost_ret (v:=.tuple #[.agg #[.slice d4.a Sf.ans.length d4.an,.int .i64 (Sf.fin:Nat),.int .i64 (Sf.steps:Nat)],.int .i64 0]) (by simp[results,Try.results18,go_sem,y0,y1,y2]) rfl ?_
  rw[HE.out]
  exact⟨hbz,Sf,N,_,_,HSF.out,HFIN.out,rfl,hma⟩
 ·have hne:((readyE p q s:Nat):Int)≠0:=by omega
  have hne2:(((readyE p q s:Nat):Int) != 0)=true:=by rw[bne_iff_ne];exact hne
  have HE:Hid (RunPost w p q s=fun e w'=>Below w.heap.size w w'∧e=.returned (.tuple #[.agg #[.slice none 0 0,.int .i64 0,.int .i64 0],.int .i64 (readyE p q s:Nat)])):=lh (by funext e w';unfold RunPost;rw[if_neg h0])
  clear h0
  go_wp2_with (go_at_call 41;refine HRW.out.mono ?_;rintro e w2 ⟨rfl,hb2⟩;have hx:=(hb2.block _ (Array.getElem?_eq_some_iff.1 HN1.out).1).trans HN1.out;have s0:w2.cell? ⟨w.heap.size,0,none⟩=some (.slice none 0 0):=(by simp[World.cell?,hx]);have s1:w2.cell? ⟨w.heap.size,1,none⟩=some (.int .i64 0):=(by simp[World.cell?,hx]);have s2:w2.cell? ⟨w.heap.size,2,none⟩=some (.int .i64 0):=(by simp[World.cell?,hx]);have sf:∀ o,w2.frozen? ⟨w.heap.size,o,none⟩=false:=(fun o=>by simp[World.frozen?,hx]);have HB2:=lh hb2;have HX2:=lh hx;clear hb2 hx)
  obtain⟨hz1,hz2⟩:=put3 HX2.out (.slice none 0 0) (.int .i64 0) (.int .i64 0)
  have hb2':=HB1.out.trans (HB2.out.mono HB1.out.size)
  have hbz:Below w.heap.size w (((w2.setCell ⟨w.heap.size,0,none⟩ (.slice none 0 0)).setCell ⟨w.heap.size,1,none⟩ (.int .i64 0)).setCell ⟨w.heap.size,2,none⟩ (.int .i64 0)):=hb2'.trans (hz2.toBelow hb2'.size fun b e=>by omega)
  generalize ((w2.setCell ⟨w.heap.size,0,none⟩ (.slice none 0 0)).setCell ⟨w.heap.size,1,none⟩ (.int .i64 0)).setCell ⟨w.heap.size,2,none⟩ (.int .i64 0)=z at *
  have y0:z.cell? ⟨w.heap.size,0,none⟩=some (.slice none 0 0):=by simp[World.cell?,hz1]
  have y1:z.cell? ⟨w.heap.size,1,none⟩=some (.int .i64 0):=by simp[World.cell?,hz1]
  have y2:z.cell? ⟨w.heap.size,2,none⟩=some (.int .i64 0):=by simp[World.cell?,hz1]
  refine bodyPost_ret (v:=.tuple #[.agg #[.slice none 0 0,.int .i64 0,.int .i64 0],.int .i64 (readyE p q s:Nat)]) (by simp[results,Try.results18,go_sem,y0,y1,y2]) rfl ?_
  rw[HE.out]
  exact⟨hbz,rfl⟩
theorem RnAt.made{w u:World}{okp okA:Nat→Prop}{p:List Cl}{pa:Option Addr}{pc:Nat}{m:Mac}{d:MAd}{B:Nat}(hp:Pr u okp p pa pc)(hok:∀ b,okp b→b<B)(ho:OwM u B okA m d)(hw:w=u.alloc (.cells (rvals pa p.length pc m d 0).toArray 59)){Z:Nat→Prop}(hZ:∀ b,Z b→b<B)(hz:∀ b,okp b→¬ Z b)(hA:∀ b,okA b→¬ Z b)(hB:B≤u.heap.size):RnAt w Z u.heap.size p pa pc m d 0:=by
 have hb:Below u.heap.size u w:=by rw[hw];exact(Below.refl _ _).alloc (Nat.le_refl _) _
 have hr:=ho.lt
 have hlo:∀ b,some b∈rws d→B≤b:=fun b hb=>by
  obtain⟨A,e1,e2,e3⟩:=ho.a
  simp only[rws,List.mem_cons,List.not_mem_nil,or_false] at hb
  rcases hb with e | e | e | e | e | e
  ·exact(ho.h.row.lt b ((bk_own _ _ _).trans e.symm)).1
  ·exact(ho.g.lt b ((bk_own _ _ _).trans e.symm)).1
  ·exact(ho.c.lt b ((bk_own _ _ _).trans e.symm)).1
  ·exact(ho.t.lt b ((bk_own _ _ _).trans e.symm)).1
  ·exact(ho.q.lt b ((bk_own _ _ _).trans e.symm)).1
  ·exact(e2.lt b ((bk_own _ _ _).trans e.symm)).1
 obtain⟨A,e1,e2,e3⟩:=ho.a
 refine⟨by rw[hw];exact heap_alloc_new u _,⟨⟨ownsRow_base (ownsRow_below ho.h.row hb) (Nat.zero_le _),ho.h.fits⟩,ownsRow_base (ownsRow_below ho.g hb) (Nat.zero_le _),ownsRow_base (ownsRow_below ho.c hb) (Nat.zero_le _),ownsRow_base (ownsRow_below ho.t hb) (Nat.zero_le _),ownsRow_base (ownsRow_below ho.q hb) (Nat.zero_le _),⟨A,e1,ownsRow_base (ownsRow_below e2 hb) (Nat.zero_le _),fun x hx=>?_⟩,ho.ne⟩,fun y hy e=>?_,?_,fun b hb2 e=>?_⟩
 ·exact(((e3 x hx).mono fun b hb2 h=>⟨h,hb2⟩).keep (Keeps.below hb (fun b=>(okA b∧∀ y,y∈[bk d.h,bk d.g,bk d.c,bk d.t,bk d.q,bk d.a]→y≠some b)∧b<u.heap.size))).mono fun b _ h=>⟨⟨by have:=h.2;omega,hA b h.1.1⟩,h.1.2⟩
 ·subst e;have:=hr _ hy;omega
 ·refine((hp.mono (ok':=fun b=>okp b∧b<u.heap.size) fun b hb h=>⟨h,hb⟩).keep (Keeps.below hb _)).mono fun b _ h=>⟨fun e=>?_,hz b h.1⟩
  have h1:=hok b h.1
  exact e.elim (fun e=>by omega) fun e=>by have:=hlo b e;omega
 ·have h1:=hZ b e
  exact hb2.elim (fun e=>by omega) fun e=>by have:=hlo b e;omega
def StepXPost(w:World)(Zx:Nat→Prop)(p:List Cl)(S:MS)(e:Ending)(w':World):Prop :=
 Below w.heap.size w w'∧∃ d,e=.returned (.tuple #[.agg ((mone p S).mac.vals d).toArray,.int .i64 0])∧MacAt w' (fun b=>¬ Zx b) (mone p S).mac d
set_option maxRecDepth 100000 in
set_option maxHeartbeats 6400000 in
theorem StepXW{w:World}{ok Zx:Nat→Prop}(hzx:∀ b,Zx b→b<w.heap.size)(hokz:∀ b,ok b→¬ Zx b){p:List Cl}{pa:Option Addr}{pc:Nat}(hp:Pr w ok p pa pc){S:MS}{d:MAd}(h:MacAt w ok S.mac d)(hbig:MacBig S.mac)(hmv:S.ans.map mvA=S.ans)(hck:checkM p S.mac=0){P:PS}{query most:Nat}(hpg:PgI p)(hmost:most≤400)(hq:query≤12)(hr:RunI p query most S P)(hs:S.first≠0→P.steps<most) :
 Calls Try.prog 7 #[.slice pa p.length pc,.agg #[.slice d.h S.mac.H.length d.hn,.slice d.g S.mac.G.length d.gn,.int .i64 S.mac.first,.slice d.c S.mac.ch.length d.cn,.slice d.t S.mac.T.length d.tn,.slice d.q S.mac.Q.length d.qn,.int .i64 S.mac.steps,.int .i64 S.mac.fin,.slice d.a S.mac.ans.length d.an]] w (StepXPost w Zx p S):=by
 have hsz:(w.alloc (.cells #[.slice d.h S.mac.H.length d.hn,.slice d.g S.mac.G.length d.gn,.int .i64 S.mac.first,.slice d.c S.mac.ch.length d.cn,.slice d.t S.mac.T.length d.tn,.slice d.q S.mac.Q.length d.qn,.int .i64 S.mac.steps,.int .i64 S.mac.fin,.slice d.a S.mac.ans.length d.an] 30)).heap.size=w.heap.size+1:=by simp
 have B2:Below w.heap.size w ((w.alloc (.cells #[.slice d.h S.mac.H.length d.hn,.slice d.g S.mac.G.length d.gn,.int .i64 S.mac.first,.slice d.c S.mac.ch.length d.cn,.slice d.t S.mac.T.length d.tn,.slice d.q S.mac.Q.length d.qn,.int .i64 S.mac.steps,.int .i64 S.mac.fin,.slice d.a S.mac.ans.length d.an] 30)).alloc (.cells #[.slice none 0 0,.slice none 0 0,.int .i64 0,.slice none 0 0,.slice none 0 0,.slice none 0 0,.int .i64 0,.int .i64 0,.slice none 0 0] 30)):=((Below.refl _ _).alloc (Nat.le_refl _) _).alloc (by simp) _
 have hN1:((w.alloc (.cells #[.slice d.h S.mac.H.length d.hn,.slice d.g S.mac.G.length d.gn,.int .i64 S.mac.first,.slice d.c S.mac.ch.length d.cn,.slice d.t S.mac.T.length d.tn,.slice d.q S.mac.Q.length d.qn,.int .i64 S.mac.steps,.int .i64 S.mac.fin,.slice d.a S.mac.ans.length d.an] 30)).alloc (.cells #[.slice none 0 0,.slice none 0 0,.int .i64 0,.slice none 0 0,.slice none 0 0,.slice none 0 0,.int .i64 0,.int .i64 0,.slice none 0 0] 30)).heap[w.heap.size]? = some (.cells #[.slice d.h S.mac.H.length d.hn,.slice d.g S.mac.G.length d.gn,.int .i64 S.mac.first,.slice d.c S.mac.ch.length d.cn,.slice d.t S.mac.T.length d.tn,.slice d.q S.mac.Q.length d.qn,.int .i64 S.mac.steps,.int .i64 S.mac.fin,.slice d.a S.mac.ans.length d.an] 30 (0,0)):=(Below.heap_alloc _ _ _ (by simp)).trans (heap_alloc_new w _)
 have hN2:((w.alloc (.cells #[.slice d.h S.mac.H.length d.hn,.slice d.g S.mac.G.length d.gn,.int .i64 S.mac.first,.slice d.c S.mac.ch.length d.cn,.slice d.t S.mac.T.length d.tn,.slice d.q S.mac.Q.length d.qn,.int .i64 S.mac.steps,.int .i64 S.mac.fin,.slice d.a S.mac.ans.length d.an] 30)).alloc (.cells #[.slice none 0 0,.slice none 0 0,.int .i64 0,.slice none 0 0,.slice none 0 0,.slice none 0 0,.int .i64 0,.int .i64 0,.slice none 0 0] 30)).heap[w.heap.size+1]? = some (.cells #[.slice none 0 0,.slice none 0 0,.int .i64 0,.slice none 0 0,.slice none 0 0,.slice none 0 0,.int .i64 0,.int .i64 0,.slice none 0 0] 30 (0,0)):=by rw[← hsz];exact heap_alloc_new _ _
 have HP:Hid (Pr w (fun b=>b<w.heap.size∧¬ Zx b) p pa pc):=lh (hp.mono fun b hb h=>⟨hb,hokz b h⟩)
 have HM:Hid (MacAt w (fun b=>b<w.heap.size∧¬ Zx b) S.mac d):=lh (h.mono fun b hb h=>⟨hb,hokz b h⟩)
 have HZX:=lh hzx
 have HCK:Hid (∀ u,Below w.heap.size w u→Calls Try.prog 22 #[.slice pa p.length pc,.agg #[.slice d.h S.mac.H.length d.hn,.slice d.g S.mac.G.length d.gn,.int .i64 S.mac.first,.slice d.c S.mac.ch.length d.cn,.slice d.t S.mac.T.length d.tn,.slice d.q S.mac.Q.length d.qn,.int .i64 S.mac.steps,.int .i64 S.mac.fin,.slice d.a S.mac.ans.length d.an]] u fun e w'=>e=.returned (.int .i64 0)∧Below u.heap.size u w'):=lh fun u hu=>by
  have h1:=CheckMW p S.mac d (HP.out.keep (Keeps.below hu _)) (HM.out.keep (Keeps.below hu _)) hbig
  rw[hck] at h1
  exact h1
 have HOW:Hid (∀ u,Below w.heap.size w u→Calls Try.prog 23 #[.agg #[.slice d.h S.mac.H.length d.hn,.slice d.g S.mac.G.length d.gn,.int .i64 S.mac.first,.slice d.c S.mac.ch.length d.cn,.slice d.t S.mac.T.length d.tn,.slice d.q S.mac.Q.length d.qn,.int .i64 S.mac.steps,.int .i64 S.mac.fin,.slice d.a S.mac.ans.length d.an]] u (OwnPost u (fun b=>b<w.heap.size∧¬ Zx b) S.mac)):=lh fun u hu=>OwnMW S.mac d (HM.out.keep (Keeps.below hu _)) hbig
 have HMV:Hid ({ S.mac with ans:=S.mac.ans.map mvA }=S.mac):=lh (by have:S.mac.ans.map mvA=S.mac.ans:=hmv;rw[this])
 have HST:Hid (∀ (u:World) (R:Nat) (d:MAd),w.heap.size+1<u.heap.size→RnAt u (fun b=>b=w.heap.size+1∨Zx b) R p pa pc S.mac d 0→Calls Try.prog 24 #[.pointer (some ⟨R,0,none⟩)] u (RTurn u (fun b=>b=w.heap.size+1∨Zx b) R p pa pc d (mone p S))):=lh fun u R d hu hr2=>StepRW hr2 hpg hmost hq hr hs (fun b e=>e.elim (fun e=>by omega) fun e=>by have:=hzx b e;omega)
 have HB2:=lh B2;have HN1:=lh hN1;have HN2:=lh hN2
 have x1c:((w.alloc (.cells #[.slice d.h S.mac.H.length d.hn,.slice d.g S.mac.G.length d.gn,.int .i64 S.mac.first,.slice d.c S.mac.ch.length d.cn,.slice d.t S.mac.T.length d.tn,.slice d.q S.mac.Q.length d.qn,.int .i64 S.mac.steps,.int .i64 S.mac.fin,.slice d.a S.mac.ans.length d.an] 30)).alloc (.cells #[.slice none 0 0,.slice none 0 0,.int .i64 0,.slice none 0 0,.slice none 0 0,.slice none 0 0,.int .i64 0,.int .i64 0,.slice none 0 0] 30)).cell? ⟨w.heap.size,0,none⟩=some (.slice d.h S.mac.H.length d.hn):=by simp[World.cell?,hN1]
 clear hzx hokz hp h hbig hmv hck hr hs hsz B2 hN1 hN2 x1c
 go_enter Try.func7,Try.ntmps7
 have HX:Hid (MBox ((w.alloc (.cells #[.slice d.h S.mac.H.length d.hn,.slice d.g S.mac.G.length d.gn,.int .i64 S.mac.first,.slice d.c S.mac.ch.length d.cn,.slice d.t S.mac.T.length d.tn,.slice d.q S.mac.Q.length d.qn,.int .i64 S.mac.steps,.int .i64 S.mac.fin,.slice d.a S.mac.ans.length d.an] 30)).alloc (.cells #[.slice none 0 0,.slice none 0 0,.int .i64 0,.slice none 0 0,.slice none 0 0,.slice none 0 0,.int .i64 0,.int .i64 0,.slice none 0 0] 30)) w.heap.size S.mac d):=lh ⟨HN1.out⟩
 go_upto_region 1 with fail
 generalize ((w.alloc (.cells #[.slice d.h S.mac.H.length d.hn,.slice d.g S.mac.G.length d.gn,.int .i64 S.mac.first,.slice d.c S.mac.ch.length d.cn,.slice d.t S.mac.T.length d.tn,.slice d.q S.mac.Q.length d.qn,.int .i64 S.mac.steps,.int .i64 S.mac.fin,.slice d.a S.mac.ans.length d.an] 30)).alloc (.cells #[.slice none 0 0,.slice none 0 0,.int .i64 0,.slice none 0 0,.slice none 0 0,.slice none 0 0,.int .i64 0,.int .i64 0,.slice none 0 0] 30))=wa at *
 obtain⟨x0,x1,x2,x3,x4,x5,x6,x7,x8,xf⟩:=HX.out.all
 go_upto_region 4 with (go_at_call 22;refine(HCK.out _ HB2.out).mono ?_;rintro e w3 ⟨rfl,hb3⟩;obtain⟨y0,y1,y2,y3,y4,y5,y6,y7,y8,yf⟩:=(HX.out.below hb3).all;have HB3:=lh hb3;clear hb3)
 clear x0 x1 x2 x3 x4 x5 x6 x7 x8 xf
 have HB3':=lh (HB2.out.trans (HB3.out.mono HB2.out.size))
 have HN3:=lh ((HB3.out.block _ (Array.getElem?_eq_some_iff.1 HN2.out).1).trans HN2.out)
 have hl3:w.heap.size+1<w3.heap.size:=(Array.getElem?_eq_some_iff.1 HN3.out).1
 go_upto_region 5 with (go_at_call 23;refine(HOW.out _ HB3'.out).mono ?_;rintro e w4 ⟨d4,he,ho4,hb4⟩;rw[HMV.out] at he ho4;have he2:e=.returned (.agg #[.slice d4.h S.mac.H.length d4.hn,.slice d4.g S.mac.G.length d4.gn,.int .i64 S.mac.first,.slice d4.c S.mac.ch.length d4.cn,.slice d4.t S.mac.T.length d4.tn,.slice d4.q S.mac.Q.length d4.qn,.int .i64 S.mac.steps,.int .i64 S.mac.fin,.slice d4.a S.mac.ans.length d4.an]):=he;subst he2;have HO4:=lh ho4;have HB4:=lh hb4;clear he ho4 hb4)
 have HB4':=lh (HB3'.out.trans (HB4.out.mono HB3'.out.size))
 have HR5:=lh (RnAt.made (w:=w4.alloc (.cells #[.slice pa p.length pc,.slice d4.h S.mac.H.length d4.hn,.slice d4.g S.mac.G.length d4.gn,.int .i64 S.mac.first,.slice d4.c S.mac.ch.length d4.cn,.slice d4.t S.mac.T.length d4.tn,.slice d4.q S.mac.Q.length d4.qn,.int .i64 S.mac.steps,.int .i64 S.mac.fin,.slice d4.a S.mac.ans.length d4.an,.int .i64 0] 59)) (okp:=fun b=>b<w.heap.size∧¬ Zx b) (HP.out.keep (Keeps.below HB4'.out _)) (B:=w3.heap.size) (fun b hb=>by have:=HB3'.out.size;have:=hb.1;omega) HO4.out rfl (Z:=fun b=>b=w.heap.size+1∨Zx b) (fun b hb=>hb.elim (fun e=>by omega) fun e=>by have:=HZX.out b e;omega) (fun b hb e=>e.elim (fun e=>by have:=hb.1;omega) hb.2) (fun b hb e=>e.elim (fun e=>hb.elim (fun h=>by have:=h.1.1;omega) fun h=>by omega) fun e=>hb.elim (fun h=>h.1.2 e) fun h=>by have:=HZX.out b e;omega) HB4.out.size)
 have hBr:Below w4.heap.size w4 (w4.alloc (.cells #[.slice pa p.length pc,.slice d4.h S.mac.H.length d4.hn,.slice d4.g S.mac.G.length d4.gn,.int .i64 S.mac.first,.slice d4.c S.mac.ch.length d4.cn,.slice d4.t S.mac.T.length d4.tn,.slice d4.q S.mac.Q.length d4.qn,.int .i64 S.mac.steps,.int .i64 S.mac.fin,.slice d4.a S.mac.ans.length d4.an,.int .i64 0] 59)):=(Below.refl _ _).alloc (Nat.le_refl _) _
 have HB5':=lh (HB4'.out.trans (hBr.mono HB4'.out.size))
 have HN5:=lh ((hBr.block _ (Nat.lt_of_lt_of_le hl3 HB4.out.size)).trans ((HB4.out.block _ hl3).trans HN3.out))
 have HLO:Hid (∀ b,RM w4.heap.size d4 b→w3.heap.size≤b):=lh (by
  intro b hb
  obtain⟨A,e1,e2,e3⟩:=HO4.out.a
  have hs4:=HB4.out.size
  rcases hb with e | hb
  ·omega
  ·simp only[rws,List.mem_cons,List.not_mem_nil,or_false] at hb
   rcases hb with e | e | e | e | e | e
   ·exact(HO4.out.h.row.lt b ((bk_own _ _ _).trans e.symm)).1
   ·exact(HO4.out.g.lt b ((bk_own _ _ _).trans e.symm)).1
   ·exact(HO4.out.c.lt b ((bk_own _ _ _).trans e.symm)).1
   ·exact(HO4.out.t.lt b ((bk_own _ _ _).trans e.symm)).1
   ·exact(HO4.out.q.lt b ((bk_own _ _ _).trans e.symm)).1
   ·exact(e2.lt b ((bk_own _ _ _).trans e.symm)).1)
 clear hBr y0 y1 y2 y3 y4 y5 y6 y7 y8 yf
 generalize w4.alloc (.cells #[.slice pa p.length pc,.slice d4.h S.mac.H.length d4.hn,.slice d4.g S.mac.G.length d4.gn,.int .i64 S.mac.first,.slice d4.c S.mac.ch.length d4.cn,.slice d4.t S.mac.T.length d4.tn,.slice d4.q S.mac.Q.length d4.qn,.int .i64 S.mac.steps,.int .i64 S.mac.fin,.slice d4.a S.mac.ans.length d4.an,.int .i64 0] 59)=w5 at *
 go_upto_region 6 with (go_at_call 24;refine(HST.out _ _ _ (Array.getElem?_eq_some_iff.1 HN5.out).1 HR5.out).mono ?_;rintro e w6 ⟨⟨uv,rfl⟩,ht6,d6,wk6,hf6,hr6⟩;have HT6:=lh ht6;have HF6:=lh hf6;have HR6:=lh hr6;clear ht6 hf6 hr6)
 have hx6:=(HT6.out.block _ (Array.getElem?_eq_some_iff.1 HN5.out).1 (fun e=>by have:=HLO.out _ e;omega)).trans HN5.out
 have t0:w6.cell? ⟨w.heap.size+1,0,none⟩=some (.slice none 0 0):=(by simp[World.cell?,hx6])
 have t1:w6.cell? ⟨w.heap.size+1,1,none⟩=some (.slice none 0 0):=(by simp[World.cell?,hx6])
 have t2:w6.cell? ⟨w.heap.size+1,2,none⟩=some (.int .i64 0):=(by simp[World.cell?,hx6])
 have t3:w6.cell? ⟨w.heap.size+1,3,none⟩=some (.slice none 0 0):=(by simp[World.cell?,hx6])
 have t4:w6.cell? ⟨w.heap.size+1,4,none⟩=some (.slice none 0 0):=(by simp[World.cell?,hx6])
 have t5:w6.cell? ⟨w.heap.size+1,5,none⟩=some (.slice none 0 0):=(by simp[World.cell?,hx6])
 have t6:w6.cell? ⟨w.heap.size+1,6,none⟩=some (.int .i64 0):=(by simp[World.cell?,hx6])
 have t7:w6.cell? ⟨w.heap.size+1,7,none⟩=some (.int .i64 0):=(by simp[World.cell?,hx6])
 have t8:w6.cell? ⟨w.heap.size+1,8,none⟩=some (.slice none 0 0):=(by simp[World.cell?,hx6])
 have tf:∀ o,w6.frozen? ⟨w.heap.size+1,o,none⟩=false:=fun o=>by simp[World.frozen?,hx6]
 obtain⟨M,hM⟩:∃ M,(mone p S).mac=M:=⟨_,rfl⟩
 have HMM:=lh hM
 rw[hM] at HR6
 obtain⟨x0,x1,x2,x3,x4,x5,x6,x7,x8,x9,x10,xf⟩:=HR6.out.cells
 have zR6:=HR6.out.lt
 have zx6:w.heap.size+1<w6.heap.size:=(Array.getElem?_eq_some_iff.1 hx6).1
 have hne6:w.heap.size+1≠w4.heap.size:=by have:=HB4.out.size;omega
 have HX6:=lh hx6
 clear hx6 hM
 go_wp2_with fail
 obtain⟨hz1,hz2⟩:=put9 HX6.out (.slice d6.h M.H.length d6.hn) (.slice d6.g M.G.length d6.gn) (.int .i64 M.first) (.slice d6.c M.ch.length d6.cn) (.slice d6.t M.T.length d6.tn) (.slice d6.q M.Q.length d6.qn) (.int .i64 M.steps) (.int .i64 M.fin) (.slice d6.a M.ans.length d6.an)
 have hbw6:Below w.heap.size w w6:=HB5'.out.trans (HT6.out.toBelow HB5'.out.size fun b e=>by have:=HLO.out b e;have:=HB3'.out.size;omega)
 have hbz:Below w.heap.size w (((((((((w6.setCell ⟨(w.heap.size+1),0,none⟩ (.slice d6.h M.H.length d6.hn)).setCell ⟨(w.heap.size+1),1,none⟩ (.slice d6.g M.G.length d6.gn)).setCell ⟨(w.heap.size+1),2,none⟩ (.int .i64 M.first)).setCell ⟨(w.heap.size+1),3,none⟩ (.slice d6.c M.ch.length d6.cn)).setCell ⟨(w.heap.size+1),4,none⟩ (.slice d6.t M.T.length d6.tn)).setCell ⟨(w.heap.size+1),5,none⟩ (.slice d6.q M.Q.length d6.qn)).setCell ⟨(w.heap.size+1),6,none⟩ (.int .i64 M.steps)).setCell ⟨(w.heap.size+1),7,none⟩ (.int .i64 M.fin)).setCell ⟨(w.heap.size+1),8,none⟩ (.slice d6.a M.ans.length d6.an)):=hbw6.trans (hz2.toBelow hbw6.size fun b e=>by omega)
 have hr7:=HR6.out.keep hz2 fun b _ e=>.inl e
 have hma:=hr7.macG (ok:=fun b=>¬ Zx b) (fun b hb e=>hr7.zr b (.inr hb) (.inr e)) (.inr fun b hb e=>hb.2 (.inr e))
 generalize (((((((((w6.setCell ⟨(w.heap.size+1),0,none⟩ (.slice d6.h M.H.length d6.hn)).setCell ⟨(w.heap.size+1),1,none⟩ (.slice d6.g M.G.length d6.gn)).setCell ⟨(w.heap.size+1),2,none⟩ (.int .i64 M.first)).setCell ⟨(w.heap.size+1),3,none⟩ (.slice d6.c M.ch.length d6.cn)).setCell ⟨(w.heap.size+1),4,none⟩ (.slice d6.t M.T.length d6.tn)).setCell ⟨(w.heap.size+1),5,none⟩ (.slice d6.q M.Q.length d6.qn)).setCell ⟨(w.heap.size+1),6,none⟩ (.int .i64 M.steps)).setCell ⟨(w.heap.size+1),7,none⟩ (.int .i64 M.fin)).setCell ⟨(w.heap.size+1),8,none⟩ (.slice d6.a M.ans.length d6.an))=z at *
 have y0:z.cell? ⟨w.heap.size+1,0,none⟩=some (.slice d6.h M.H.length d6.hn):=by simp[World.cell?,hz1]
 have y1:z.cell? ⟨w.heap.size+1,1,none⟩=some (.slice d6.g M.G.length d6.gn):=by simp[World.cell?,hz1]
 have y2:z.cell? ⟨w.heap.size+1,2,none⟩=some (.int .i64 M.first):=by simp[World.cell?,hz1]
 have y3:z.cell? ⟨w.heap.size+1,3,none⟩=some (.slice d6.c M.ch.length d6.cn):=by simp[World.cell?,hz1]
 have y4:z.cell? ⟨w.heap.size+1,4,none⟩=some (.slice d6.t M.T.length d6.tn):=by simp[World.cell?,hz1]
 have y5:z.cell? ⟨w.heap.size+1,5,none⟩=some (.slice d6.q M.Q.length d6.qn):=by simp[World.cell?,hz1]
 have y6:z.cell? ⟨w.heap.size+1,6,none⟩=some (.int .i64 M.steps):=by simp[World.cell?,hz1]
 have y7:z.cell? ⟨w.heap.size+1,7,none⟩=some (.int .i64 M.fin):=by simp[World.cell?,hz1]
 have y8:z.cell? ⟨w.heap.size+1,8,none⟩=some (.slice d6.a M.ans.length d6.an):=by simp[World.cell?,hz1]
 refine bodyPost_ret (v:=.tuple #[.agg #[.slice d6.h M.H.length d6.hn,.slice d6.g M.G.length d6.gn,.int .i64 M.first,.slice d6.c M.ch.length d6.cn,.slice d6.t M.T.length d6.tn,.slice d6.q M.Q.length d6.qn,.int .i64 M.steps,.int .i64 M.fin,.slice d6.a M.ans.length d6.an],.int .i64 0]) (by simp[results,Try.results7,go_sem,y0,y1,y2,y3,y4,y5,y6,y7,y8]) rfl ?_
 refine⟨hbz,d6,?_,?_⟩
 ·rw[HMM.out];rfl
 ·rw[HMM.out];exact hma
end Go.Proofs.Ytikmgiapjigghab
namespace Go.Proofs.Ytikmgiapjigghab
open Go.RowKit
theorem ask_ready(s:Int)(h:0≤s∧s≤400):readyE sampleL askL s=0:=by
 unfold readyE
 rw[if_neg (fun e=>e sample_ok),if_neg (fun e=>e ask_ok),if_pos h]
theorem beg_take:ptake sampleL (startP askL)=begS1:=by
 have h:=beg_1
 unfold pstep at h
 rw[if_neg (by intro h;cases h),if_neg (show ¬ ((startP askL).steps:Int)=10 by decide)] at h
 exact h
theorem beg_answ:pansw sampleL 1 begS1=begS2:=by
 have h:=beg_2
 unfold pstep at h
 rw[if_pos (show begS1.now = [] from rfl)] at h
 exact h
theorem beg_one:pone sampleL 1 (startP askL)=begS2:=by
 unfold pone
 rw[if_pos ⟨rfl,by intro h;cases h⟩,beg_take]
 unfold panss
 rw[if_pos ⟨rfl,rfl⟩,beg_answ]
 unfold panss
 rw[if_neg (fun h=>by cases h.2)]
theorem RunI.macbig{p:List Cl}{query most:Nat}{S:MS}{P:PS}(h:RunI p query most S P)(hq:query≤12)(h0:P.fin=0)(ha:∀ l,l∈S.ans→l.length*48≤140737488355328∧∀ t,t∈l→ArgB t):MacBig S.mac:=by
 obtain⟨r1,r2,r3⟩:=h.room h0
 have hc:=h.chb h0
 have h40:=(h.inv.core h0).2
 have hb:=h.big
 refine⟨?_,?_,?_,?_,?_,?_,ha⟩
 ·show S.H.length*32≤_;omega
 ·show (S.G.map Gn.gl).length*24≤_;rw[List.length_map];omega
 ·show (S.ch.map Cn.chi).length*40≤_;rw[List.length_map];omega
 ·show (S.T.map _).length*8≤_;rw[List.length_map];omega
 ·show (S.Q.map _).length*8≤_;rw[List.length_map,h.q];omega
 ·show S.ans.length*24≤_;rw[h.mv.ans];omega
theorem beg_start:RunI sampleL 1 10 (mnew askL 1) (startP askL):=by
 have h:=start_run sampleL ask_ok (most:=10) (by decide)
 rw[ask_great] at h
 exact h
structure BegOne(S:MS):Prop where
 run:RunI sampleL 1 10 S begS2
 first:S.first≠0
 steps:S.steps=1
 fin:S.fin=0
 ans:S.ans = [[tmA]]
 check:checkM sampleL S.mac=0
 big:MacBig S.mac
theorem beg_machine:BegOne (mone sampleL (mnew askL 1)):=by
 obtain⟨h1,h2⟩:=beg_start.one (PgI.of sample_ok) (by decide) (fun _=>by decide)
 rw[beg_one] at h1
 have hf:(mone sampleL (mnew askL 1)).fin=0:=h1.mv.fin
 have ha:(mone sampleL (mnew askL 1)).ans = [[tmA]]:=h1.mv.ans
 refine⟨h1,h2 hf,h1.mv.steps,hf,ha,?_,?_⟩
 ·exact core_checks sample_ok (h1.mv.core hf) h1.big.2 (by rw[h1.q];decide) (by rw[h1.mv.steps];decide) (by rw[hf];decide)
 ·refine h1.macbig (by decide) rfl fun l hl=>?_
  rw[ha,List.mem_singleton] at hl
  subst hl
  refine⟨by decide,fun t ht=>?_⟩
  rw[List.mem_singleton] at ht
  subst ht
  intro p hp
  have e:p=tmA:=by simpa[tmA,Tm.parts,Tm.partss] using hp
  subst e
  decide
theorem beg_end{N:Nat}{Sf:MS}(h:Sf=mrun sampleL (10:Nat) N (mnew askL 1))(hf:Sf.fin≠0):Sf.ans.length=2:=by
 have h1:=(mrun_solve sample_ok ask_ok (most:=10) (by decide)).1
 rw[ask_great] at h1
 have e:solveP sampleL askL 10=begS4:=begun_solve
 rw[e] at h1
 subst h
 rw[mrun_same (b:=442) hf (by rw[h1.fin];decide),h1.ans]
 rfl
theorem prun_plus{p:List Cl}{query:Nat}{most:Int}:∀ (a b:Nat) (S:PS),prun p query most (a+b) S=prun p query most b (prun p query most a S):=by
 intro a
 induction a with
 | zero=>intro b S;rw[Nat.zero_add];rfl
 | succ a ih =>
  intro b S
  rw[show a+1+b=(a+b)+1 by omega]
  by_cases h:S.fin=0
  ·conv=>lhs;unfold prun
   rw[if_pos h,ih]
   congr 1
   conv=>rhs;unfold prun
   rw[if_pos h]
  ·rw[prun_end _ h,prun_end _ h,prun_end _ h]
theorem panss_run{p:List Cl}{query:Nat}{most:Int}:∀ (n:Nat) (P:PS),∃ k,panss p query n P=prun p query most k P:=by
 intro n
 induction n with
 | zero=>intro P;exact⟨0,rfl⟩
 | succ n ih =>
  intro P
  unfold panss
  by_cases h:P.fin=0∧P.now = []
  ·rw[if_pos h]
   obtain⟨k,hk⟩:=ih (pansw p query P)
   refine⟨k+1,?_⟩
   rw[hk]
   conv=>rhs;unfold prun
   rw[if_pos h.1]
   have:pstep p query most P=pansw p query P:=if_pos h.2
   rw[this]
  ·rw[if_neg h];exact⟨0,rfl⟩
theorem pone_run{p:List Cl}{query:Nat}{most:Int}{P:PS}(hs:P.now≠[]→(P.steps:Int)<most):∃ k,pone p query P=prun p query most k P:=by
 unfold pone
 by_cases h:P.fin=0∧P.now≠[]
 ·rw[if_pos h]
  obtain⟨k,hk⟩:=panss_run (p:=p) (query:=query) (most:=most) 41 (ptake p P)
  refine⟨k+1,?_⟩
  rw[hk]
  conv=>rhs;unfold prun
  rw[if_pos h.1]
  have:pstep p query most P=ptake p P:=by unfold pstep;rw[if_neg h.2,if_neg (by have:=hs h.2;omega)]
  rw[this]
 ·rw[if_neg h];exact panss_run 41 P
theorem ren_wf(t:Tm):∀ s,WfT (Tm.ren numV s t).1∧(Tm.ren numV s t).1.size≤t.size:=by
 refine Tm.rec (motive_1:=fun t=>∀ s,WfT (Tm.ren numV s t).1∧(Tm.ren numV s t).1.size≤t.size) (motive_2:=fun l=>∀ s,(∀ x,x∈(Tm.rens numV s l).1→WfT x)∧Tm.sizes (Tm.rens numV s l).1≤Tm.sizes l) ?_ ?_ ?_ t
 ·intro v n l ih s
  simp only[Tm.ren]
  by_cases hv:v≠0
  ·rw[if_pos hv]
   refine⟨WfT.bare ?_,?_⟩
   ·show (0:Int)≤_+1;omega
   ·simp only[Tm.size,Tm.sizes];omega
  ·rw[if_neg hv]
   obtain⟨h1,h2⟩:=ih s
   refine⟨fun p hp=>?_,?_⟩
   ·simp only[Tm.parts,List.mem_cons] at hp
    rcases hp with rfl | hp
    ·exact⟨Int.le_refl _,fun e=>absurd rfl e⟩
    ·have:∀ l:List Tm,(∀ x,x∈l→WfT x)→p∈Tm.partss l→0≤p.var∧(p.var≠0→p.args = []∧p.name=⟨#[]⟩):=by
      intro l
      induction l with
      | nil=>intro _ h;cases h
      | cons a r ih =>
       intro hl h
       simp only[Tm.partss,List.mem_append] at h
       rcases h with h | h
       ·exact hl a List.mem_cons_self p h
       ·exact ih (fun t ht=>hl t (List.mem_cons_of_mem _ ht)) h
     exact this _ h1 hp
   ·simp only[Tm.size];omega
 ·intro s;exact⟨(fun x h=>nomatch h),Nat.le_refl _⟩
 ·intro a r h1 h2 s
  simp only[Tm.rens]
  obtain⟨a1,a2⟩:=h1 s
  obtain⟨b1,b2⟩:=h2 (Tm.ren numV s a).2
  refine⟨fun x hx=>?_,by simp only[Tm.sizes];omega⟩
  rcases List.mem_cons.1 hx with rfl | hx
  ·exact a1
  ·exact b1 x hx
theorem rens_wf(l:List Tm):∀ s,(∀ x,x∈(Tm.rens numV s l).1→WfT x)∧Tm.sizes (Tm.rens numV s l).1≤Tm.sizes l:=by
 induction l with
 | nil=>intro s;exact⟨(fun x h=>nomatch h),Nat.le_refl _⟩
 | cons a r ih =>
  intro s
  simp only[Tm.rens]
  obtain⟨a1,a2⟩:=ren_wf a s
  obtain⟨b1,b2⟩:=ih (Tm.ren numV s a).2
  refine⟨fun x hx=>?_,by simp only[Tm.sizes];omega⟩
  rcases List.mem_cons.1 hx with rfl | hx
  ·exact a1
  ·exact b1 x hx
theorem len_sizesT(l:List Tm):l.length≤Tm.sizes l∧∀ t,t∈l→t.size≤Tm.sizes l:=by
 induction l with
 | nil=>exact⟨Nat.le_refl _,(fun t h=>nomatch h)⟩
 | cons a r ih =>
  have:1≤a.size:=by cases a;simp only[Tm.size];omega
  refine⟨by simp only[Tm.sizes,List.length_cons];have:=ih.1;omega,fun t ht=>?_⟩
  simp only[Tm.sizes]
  rcases List.mem_cons.1 ht with rfl | ht
  ·omega
  ·have:=ih.2 t ht;omega
theorem part_size(t:Tm):∀ p,p∈t.parts→p.size≤t.size:=by
 refine Tm.rec (motive_1:=fun t=>∀ p,p∈t.parts→p.size≤t.size) (motive_2:=fun l=>∀ p,p∈Tm.partss l→p.size≤Tm.sizes l) ?_ ?_ ?_ t
 ·intro v n l ih p hp
  simp only[Tm.parts,List.mem_cons] at hp
  rcases hp with rfl | hp
  ·exact Nat.le_refl _
  ·have:=ih p hp;simp only[Tm.size];omega
 ·intro p h;cases h
 ·intro a r h1 h2 p hp
  simp only[Tm.partss,List.mem_append] at hp
  simp only[Tm.sizes]
  rcases hp with hp | hp
  ·have:=h1 p hp;omega
  ·have:=h2 p hp;omega
theorem argB_size{t:Tm}(h:t.size≤200):ArgB t:=fun p hp=>by
 have h1:=part_size t p hp
 have h2:=(len_sizesT p.args).1
 have h3:Tm.sizes p.args≤p.size:=by cases p;simp only[Tm.size,Tm.args];omega
 omega
structure AnsOk(l:List Tm):Prop where
 len:l.length*48≤140737488355328
 each:∀ t,t∈l→WfT t∧ArgB t
theorem ansok_new{σ:Sub}{l:List Tm}{x:List Tm×Nat}(h:thrL σ 200 l=some x):AnsOk (Tm.rens numV [] x.1).1:=by
 have hs:=thrL_sizeN _ _ _ h
 obtain⟨h1,h2⟩:=rens_wf x.1 []
 obtain⟨h3,h4⟩:=len_sizesT (Tm.rens numV [] x.1).1
 exact⟨by omega,fun t ht=>⟨h1 t ht,argB_size (by have:=h4 t ht;omega)⟩⟩
theorem pstep_ansok{p:List Cl}{query:Nat}{most:Int}{S:PS}(h:S.fin=0)(ha:∀ l,l∈S.ans→AnsOk l):∀ l,l∈(pstep p query most S).ans→AnsOk l:=by
 unfold pstep
 by_cases h1:S.now = []
 ·rw[if_pos h1]
  unfold pansw
  cases hx:thrL S.σ 200 (varsL query) with
  | none=>exact ha
  | some x =>
   have hn:=ansok_new hx
   have key:∀ l,l∈S.ans++[(Tm.rens numV [] x.1).1]→AnsOk l:=fun l hl=>by
    rcases List.mem_append.1 hl with hl | hl
    ·exact ha l hl
    ·rw[List.mem_singleton] at hl;rw[hl];exact hn
   simp only
   by_cases h2:S.ans.length+1=40
   ·rw[if_pos h2];exact key
   ·rw[if_neg h2]
    intro l hl
    rw[(pback_keep p S.ch.length { S with ans:=S.ans++[(Tm.rens numV [] x.1).1] } (by simp only;rw[h];decide)).2.1] at hl
    exact key l hl
 ·rw[if_neg h1]
  by_cases h2:(S.steps:Int)=most
  ·rw[if_pos h2];exact ha
  ·rw[if_neg h2]
   intro l hl
   rw[(ptake_keep p S (by rw[h];decide)).2.1] at hl
   exact ha l hl
theorem prun_ansok{p:List Cl}{query:Nat}{most:Int}:∀ (n:Nat) (S:PS),(∀ l,l∈S.ans→AnsOk l)→∀ l,l∈(prun p query most n S).ans→AnsOk l:=by
 intro n
 induction n with
 | zero=>intro S h;exact h
 | succ n ih =>
  intro S h
  by_cases h0:S.fin=0
  ·unfold prun
   rw[if_pos h0]
   exact ih _ (pstep_ansok h0 h)
  ·rw[prun_end _ h0];exact h
structure RnC(p:List Cl)(q:List Tm)(most:Nat)(S:MS):Prop where
 ex:∃ P k,RunI p (Tm.greats q).toNat most S P∧P=prun p (Tm.greats q).toNat most k (startP q)
theorem RnC.start{p:List Cl}{q:List Tm}(hq:queryE q=0){most:Nat}(hm:most≤400):RnC p q most (mnew q (Tm.greats q).toNat) :=
 ⟨startP q,0,start_run p hq hm,rfl⟩
theorem RnC.one{p:List Cl}{q:List Tm}(hp:programE p=0){most:Nat}(hm:most≤400){S:MS}(h:RnC p q most S)(h0:S.fin=0)(hs:S.first≠0→S.steps<most):RnC p q most (mone p S):=by
 obtain⟨P,k,hr,hk⟩:=h.ex
 have hP0:P.fin=0:=hr.mv.fin.symm.trans h0
 have hst:=hr.mv.steps
 have hs':S.first≠0→P.steps<most:=fun e=>by have:=hs e;omega
 obtain⟨j,hj⟩:=pone_run (p:=p) (query:=(Tm.greats q).toNat) (most:=most) (P:=P) (fun e=>by have:=hs' (fun e2=>e ((hr.first hP0).1 e2));omega)
 exact⟨pone p (Tm.greats q).toNat P,k+j,(hr.one (PgI.of hp) hm hs').1,by rw[prun_plus,← hk,hj]⟩
theorem RnC.ansok{p:List Cl}{q:List Tm}{most:Nat}{S:MS}(h:RnC p q most S):∀ l,l∈S.ans→AnsOk l:=by
 obtain⟨P,k,hr,hk⟩:=h.ex
 rw[hr.mv.ans,hk]
 exact prun_ansok k (startP q) fun l hl=>by cases hl
theorem RnC.mv{p:List Cl}{q:List Tm}{most:Nat}{S:MS}(h:RnC p q most S):S.ans.map mvA=S.ans:=by
 have h1:=h.ansok
 have:∀ l:List (List Tm),(∀ x,x∈l→AnsOk x)→l.map mvA=l:=by
  intro l
  induction l with
  | nil=>intro _;rfl
  | cons a r ih =>
   intro hl
   rw[List.map_cons,ih fun x hx=>hl x (List.mem_cons_of_mem _ hx)]
   congr 1
   exact far_zeros fun t ht=>((hl a List.mem_cons_self).each t ht).1
 exact this _ h1
theorem RnC.check{p:List Cl}{q:List Tm}(hp:programE p=0)(hq:queryE q=0){most:Nat}(hm:most≤400){S:MS}(h:RnC p q most S)(h0:S.fin=0):checkM p S.mac=0:=by
 obtain⟨P,k,hr,hk⟩:=h.ex
 have hg:(Tm.greats q).toNat≤12:=by have:=query_great hq;omega
 exact core_checks hp (hr.mv.core h0) hr.big.2 (by rw[hr.q];exact hg) (by rw[hr.mv.steps];have:=hr.st;omega) (by rw[h0];decide)
theorem RnC.big{p:List Cl}{q:List Tm}(hq:queryE q=0){most:Nat}{S:MS}(h:RnC p q most S)(h0:S.fin=0):MacBig S.mac:=by
 obtain⟨P,k,hr,hk⟩:=h.ex
 have hg:(Tm.greats q).toNat≤12:=by have:=query_great hq;omega
 exact hr.macbig hg (hr.mv.fin.symm.trans h0) fun l hl=>⟨(h.ansok l hl).len,fun t ht=>((h.ansok l hl).each t ht).2⟩
theorem RnC.pre{p:List Cl}{q:List Tm}(hp:programE p=0)(hq:queryE q=0){most:Nat}(hm:most≤400){S:MS}(h:RnC p q most S):S.ans <+: (solveP p q most).ans:=by
 obtain⟨P,k,hr,hk⟩:=h.ex
 rw[hr.mv.ans,hk]
 rcases Nat.le_total k 442 with hle | hle
 ·obtain⟨c,hc⟩:=Nat.exists_eq_add_of_le hle
  unfold solveP
  rw[hc,prun_plus]
  exact prun_ans _ _ _ _ _
 ·obtain⟨c,hc⟩:=Nat.exists_eq_add_of_le hle
  rw[hc,prun_plus]
  have he:=solve_ends hp hq hm
  unfold solveP at he ⊢
  rw[prun_end _ he]
  exact List.prefix_refl _
theorem RnC.done{p:List Cl}{q:List Tm}(hp:programE p=0)(hq:queryE q=0){most:Nat}(hm:most≤400){S:MS}(h:RnC p q most S)(h0:S.fin≠0):S.ans=(solveP p q most).ans∧S.fin=(solveP p q most).fin∧S.steps=(solveP p q most).steps:=by
 obtain⟨P,k,hr,hk⟩:=h.ex
 have hP0:P.fin≠0:=fun e=>h0 (hr.mv.fin.trans e)
 have he:=solve_ends hp hq hm
 have key:P=solveP p q most:=by
  unfold solveP at he ⊢
  rcases Nat.le_total k 442 with hle | hle
  ·obtain⟨c,hc⟩:=Nat.exists_eq_add_of_le hle
   rw[hc,prun_plus,← hk,prun_end _ hP0]
  ·obtain⟨c,hc⟩:=Nat.exists_eq_add_of_le hle
   rw[hk,hc,prun_plus,prun_end _ he]
 rw[hr.mv.ans,hr.mv.fin,hr.mv.steps,key]
 exact⟨rfl,rfl,rfl⟩
theorem run_found{p:List Cl}{q:List Tm}(hp:programE p=0)(hq:queryE q=0){most:Nat}(hm:most≤400){N:Nat}{Sf:MS}(h:Sf=mrun p (most:Nat) N (mnew q (Tm.greats q).toNat))(hf:Sf.fin≠0) :
 Sf.ans=(solveP p q most).ans∧Sf.fin=(solveP p q most).fin∧Sf.steps=(solveP p q most).steps:=by
 have h1:=(mrun_solve hp hq hm).1
 have he:=solve_ends hp hq hm
 subst h
 rw[mrun_same (b:=442) hf (by rw[h1.fin];exact he)]
 exact⟨h1.ans,h1.fin,h1.steps⟩
theorem ts_clear{w:World}{ok:Nat→Prop}{b6:Nat}(hb:∀ o s,w.cell? ⟨b6,o,none⟩≠some (Value.string s)){l:List Tm}{a:Option Addr}{c:Nat}(h:Ts w ok l a c):Ts w (fun b=>ok b∧b≠b6) l a c:=by
 induction h with
 | mk l a cap hcap x hc hr ih =>
  exact .mk l a cap hcap x (fun i hi=>by
   obtain⟨b,off,h1,h2,h3,h4⟩:=hc i hi
   exact⟨b,off,h1,⟨h2,fun e=>hb _ _ (e ▸ h4.name)⟩,h3,h4⟩) ih
theorem pr_clear{w:World}{ok:Nat→Prop}{b6:Nat}(hb:∀ o s,w.cell? ⟨b6,o,none⟩≠some (Value.string s)){p:List Cl}{a:Option Addr}{c:Nat}(h:Pr w ok p a c):Pr w (fun b=>ok b∧b≠b6) p a c :=
 ⟨h.room,fun i hi=>by
  obtain⟨b,off,a1,a2,c1,c2,h1,h2,h3,h4,h5,h6,h7⟩:=h.elem i hi
  exact⟨b,off,a1,a2,c1,c2,h1,⟨h2,fun e=>hb _ _ (e ▸ h4.name)⟩,h3,h4,h5,ts_clear hb h6,ts_clear hb h7⟩⟩
theorem mbox_clear{w:World}{b:Nat}{m:Mac}{d:MAd}(h:MBox w b m d):∀ o s,w.cell? ⟨b,o,none⟩≠some (Value.string s):=by
 intro o s e
 have hb:=h.blk
 simp only[World.cell?,hb,Mac.vals] at e
 rcases o with _ | _ | _ | _ | _ | _ | _ | _ | _ | o <;> simp at e
structure BegC(M0 M1:Mac):Prop where
 start:∀ (u:World) (a:Addr) (qa:Option Addr),Pr u (fun b=>b<u.heap.size) sampleL (some a) 2→Ts u (fun _=>True) askL qa 1→Calls Try.prog 21 #[.slice (some a) 2 2,.slice qa 1 1] u fun e w'=>Below u.heap.size u w'∧∃ d,e=.returned (.tuple #[.agg #[.slice d.h M0.H.length d.hn,.slice d.g M0.G.length d.gn,.int .i64 M0.first,.slice d.c M0.ch.length d.cn,.slice d.t M0.T.length d.tn,.slice d.q M0.Q.length d.qn,.int .i64 M0.steps,.int .i64 M0.fin,.slice d.a M0.ans.length d.an],.int .i64 0])∧MacAt w' (fun _=>True) M0 d
 step:∀ (u:World) (a:Addr) (d:MAd) (b2:Nat),Pr u (fun b=>b≠b2) sampleL (some a) 2→b2<u.heap.size→MacAt u (fun b=>b≠b2) M0 d→Calls Try.prog 7 #[.slice (some a) 2 2,.agg #[.slice d.h M0.H.length d.hn,.slice d.g M0.G.length d.gn,.int .i64 M0.first,.slice d.c M0.ch.length d.cn,.slice d.t M0.T.length d.tn,.slice d.q M0.Q.length d.qn,.int .i64 M0.steps,.int .i64 M0.fin,.slice d.a M0.ans.length d.an]] u fun e w'=>Below u.heap.size u w'∧∃ d,e=.returned (.tuple #[.agg #[.slice d.h M1.H.length d.hn,.slice d.g M1.G.length d.gn,.int .i64 M1.first,.slice d.c M1.ch.length d.cn,.slice d.t M1.T.length d.tn,.slice d.q M1.Q.length d.qn,.int .i64 M1.steps,.int .i64 M1.fin,.slice d.a M1.ans.length d.an],.int .i64 0])∧MacAt w' (fun b=>b≠b2) M1 d
 run:∀ (u:World) (a:Addr) (qa:Option Addr),Pr u (fun b=>b<u.heap.size) sampleL (some a) 2→Ts u (fun _=>True) askL qa 1→Calls Try.prog 18 #[.slice (some a) 2 2,.slice qa 1 1,.int .i64 10] u fun e w'=>Below u.heap.size u w'∧∃ (ra:Option Addr) (rc f s:Nat),e=.returned (.tuple #[.agg #[.slice ra 2 rc,.int .i64 (f:Nat),.int .i64 (s:Nat)],.int .i64 0])
 check:∀ (u:World) (a:Addr) (d:MAd) (ok:Nat→Prop),Pr u (fun b=>b<u.heap.size) sampleL (some a) 2→MacAt u ok M1 d→Calls Try.prog 22 #[.slice (some a) 2 2,.agg #[.slice d.h M1.H.length d.hn,.slice d.g M1.G.length d.gn,.int .i64 M1.first,.slice d.c M1.ch.length d.cn,.slice d.t M1.T.length d.tn,.slice d.q M1.Q.length d.qn,.int .i64 M1.steps,.int .i64 M1.fin,.slice d.a M1.ans.length d.an]] u fun e w'=>e=.returned (.int .i64 0)∧Below u.heap.size u w'
 steps:M1.steps=1
 ans:M1.ans.length=1
 fin:M1.fin=0
 first:(M1.first != 0)=true
theorem beg_c{S0 S1:MS}(h0:mnew askL 1=S0)(h1:mone sampleL S0=S1):BegC S0.mac S1.mac:=by
 have hm:=beg_machine
 rw[h0,h1] at hm
 have hr0:=beg_start
 rw[h0] at hr0
 have hans0:S0.ans = []:=by rw[← h0];rfl
 have hfin0:S0.fin=0:=by rw[← h0];rfl
 refine⟨fun u a qa hpr hq=>?_,fun u a d b2 hpr hb2 hma=>?_,fun u a qa hpr hq=>?_,fun u a d ok hpr hma=>?_,?_,?_,?_,?_⟩
 ·refine(StartRW hpr hq).mono fun e w' h=>?_
  unfold StartPost at h
  rw[if_pos (ask_ready 0 (by decide)),ask_great,h0] at h
  exact h
 ·have hck:checkM sampleL S0.mac=0:=core_checks sample_ok (hr0.mv.core hfin0) hr0.big.2 (by rw[hr0.q];decide) (by rw[hr0.mv.steps];decide) (by rw[hfin0];decide)
  have hbig:MacBig S0.mac:=hr0.macbig (by decide) rfl fun l hl=>by rw[hans0] at hl;cases hl
  refine(StepXW (Zx:=fun b=>b=b2) (ok:=fun b=>b≠b2) (fun b e=>by have e':b=b2:=e;rw[e'];exact hb2) (fun b h e=>h e) hpr hma hbig (by rw[hans0];rfl) hck (PgI.of sample_ok) (by decide) (by decide) hr0 (fun _=>by decide)).mono fun e w' h=>?_
  unfold StepXPost at h
  rw[h1] at h
  exact h
 ·refine(RunRW hpr hq 10).mono fun e w' h=>?_
  unfold RunPost at h
  rw[if_pos (ask_ready 10 (by decide)),ask_great] at h
  obtain⟨hb,Sf,N,ra,rc,k1,k2,k3,-⟩:=h
  rw[beg_end k1 k2] at k3
  exact⟨hb,ra,rc,_,_,k3⟩
 ·have hc:=CheckMW sampleL S1.mac d (hpr.mono fun _ _ _=>trivial) (hma.mono fun _ _ _=>trivial) hm.big
  rw[hm.check] at hc
  exact hc
 ·show (S1.steps:Int)=1
  rw[hm.steps];rfl
 ·show S1.ans.length=1
  rw[hm.ans];rfl
 ·show (S1.fin:Int)=0
  rw[hm.fin];rfl
 ·show ((S1.first:Int) != 0)=true
  have:=hm.first
  rw[bne_iff_ne];omega
set_option maxRecDepth 100000 in
set_option maxHeartbeats 4000000 in
theorem machineBegunW(w:World):Calls Try.prog 9 #[] w fun e w'=>e=.returned (.bool true)∧Below w.heap.size w w':=by
 obtain⟨M0,M1,hbc⟩:∃ M0 M1,BegC M0 M1:=⟨_,_,beg_c rfl rfl⟩
 have HBC:=lh hbc
 clear hbc
 go_enter Try.func9,Try.ntmps9
 go_wp2_with fail
 refine(vaW _ _).mono ?_
 rintro e w2 ⟨rfl,hb2⟩
 go_wp2_with fail
 refine(fnW _ _ _ _ _).mono ?_
 rintro e w3 ⟨rfl,hb3⟩
 have T1:=(ts_lit (w:=w2) (ok:=fun _=>True) (VarT 1) (Ts.empty _ _) (fits_lit _ _ _ (by decide) (by decide) (by decide)) trivial).keep (Keeps.below hb3 _)
 have T2:=ts_lit (w:=w3) (tP (VarT 1)) T1 (fits_lit _ _ _ (by decide) (by decide) (by decide)) trivial
 have K13:=(hb2.alloc hb2.size (.cells #[.int .i64 1,.string ⟨#[]⟩,.slice none 0 0] 71)).trans (hb3.mono (by have:=hb2.size;simp;omega))
 have K14:=K13.alloc K13.size (.cells #[.int .i64 0,.string ⟨#[112]⟩,.slice (some ⟨w2.heap.size,0,none⟩) 1 1] 71)
 have B4:=lh K14
 have HT2:Hid (Ts (w3.alloc (.cells #[.int .i64 0,.string ⟨#[112]⟩,.slice (some ⟨w2.heap.size,0,none⟩) 1 1] 71)) (fun _=>True) askL (some ⟨w3.heap.size,0,none⟩) 1):=lh T2
 clear hb2 hb3 T1 T2 K13 K14
 go_wp2_with fail
 generalize (w3.alloc (.cells #[.int .i64 0,.string ⟨#[112]⟩,.slice (some ⟨w2.heap.size,0,none⟩) 1 1] 71))=wa at *
 generalize w3.heap.size=bq at *
 refine(sampleW _).mono ?_
 rintro e w5 ⟨a5,rfl,hpr5,hb5⟩
 have HP5:=lh hpr5;have HB5:=lh hb5
 have HST:=lh (HBC.out.start w5 a5 (some ⟨bq,0,none⟩) hpr5 (HT2.out.keep (Keeps.below hb5 _)))
 clear hpr5 hb5
 go_wp2_with fail
 refine HST.out.mono ?_
 rintro e w6 ⟨hb6,d6,rfl,hm6⟩
 have HM6:=lh hm6;have HB6:=lh (HB5.out.trans (hb6.mono HB5.out.size))
 have HN7:=lh (heap_alloc_new w6 (.cells #[.slice d6.h M0.H.length d6.hn,.slice d6.g M0.G.length d6.gn,.int .i64 M0.first,.slice d6.c M0.ch.length d6.cn,.slice d6.t M0.T.length d6.tn,.slice d6.q M0.Q.length d6.qn,.int .i64 M0.steps,.int .i64 M0.fin,.slice d6.a M0.ans.length d6.an] 30))
 have hB7:Below w6.heap.size w6 (w6.alloc (.cells #[.slice d6.h M0.H.length d6.hn,.slice d6.g M0.G.length d6.gn,.int .i64 M0.first,.slice d6.c M0.ch.length d6.cn,.slice d6.t M0.T.length d6.tn,.slice d6.q M0.Q.length d6.qn,.int .i64 M0.steps,.int .i64 M0.fin,.slice d6.a M0.ans.length d6.an] 30)):=(Below.refl _ _).alloc (Nat.le_refl _) _
 have HB7:=lh hB7
 clear hb6 hm6 hB7 HST
 go_upto_region 3 with fail
 generalize w6.alloc (.cells #[.slice d6.h M0.H.length d6.hn,.slice d6.g M0.G.length d6.gn,.int .i64 M0.first,.slice d6.c M0.ch.length d6.cn,.slice d6.t M0.T.length d6.tn,.slice d6.q M0.Q.length d6.qn,.int .i64 M0.steps,.int .i64 M0.fin,.slice d6.a M0.ans.length d6.an] 30)=w7 at *
 have HL7:Hid (w6.heap.size<w7.heap.size):=lh (Array.getElem?_eq_some_iff.1 HN7.out).1
 have HM7:Hid (MacAt w7 (fun b=>b≠w6.heap.size) M0 d6):=lh ((HM6.out.mono (ok':=fun b=>b≠w6.heap.size) fun b hb _=>by omega).keep (Keeps.below HB7.out _))
 go_cut[4] from 17 to 22 (fun x4 wx=>∃ d7,x4=.int .i64 0∧Hid (wx.heap[w6.heap.size]? = some (.cells #[.slice d7.h M1.H.length d7.hn,.slice d7.g M1.G.length d7.gn,.int .i64 M1.first,.slice d7.c M1.ch.length d7.cn,.slice d7.t M1.T.length d7.tn,.slice d7.q M1.Q.length d7.qn,.int .i64 M1.steps,.int .i64 M1.fin,.slice d7.a M1.ans.length d7.an] 30 (0,0)))∧Hid (MacAt wx (fun b=>b≠w6.heap.size) M1 d7)∧Hid (Below w6.heap.size w6 wx))
 case first =>
  have HX7:Hid (MBox w7 w6.heap.size M0 d6):=lh ⟨HN7.out⟩
  have KY:Hid (∀ (u v:World) (d7:MAd),Below w7.heap.size w7 u→MacAt u (fun b=>b≠w6.heap.size) M1 d7→u.heap[w6.heap.size]? = w7.heap[w6.heap.size]?→v=(((((((((u.setCell ⟨w6.heap.size,0,none⟩ (.slice d7.h M1.H.length d7.hn)).setCell ⟨w6.heap.size,1,none⟩ (.slice d7.g M1.G.length d7.gn)).setCell ⟨w6.heap.size,2,none⟩ (.int .i64 M1.first)).setCell ⟨w6.heap.size,3,none⟩ (.slice d7.c M1.ch.length d7.cn)).setCell ⟨w6.heap.size,4,none⟩ (.slice d7.t M1.T.length d7.tn)).setCell ⟨w6.heap.size,5,none⟩ (.slice d7.q M1.Q.length d7.qn)).setCell ⟨w6.heap.size,6,none⟩ (.int .i64 M1.steps)).setCell ⟨w6.heap.size,7,none⟩ (.int .i64 M1.fin)).setCell ⟨w6.heap.size,8,none⟩ (.slice d7.a M1.ans.length d7.an))→v.heap[w6.heap.size]? = some (.cells #[.slice d7.h M1.H.length d7.hn,.slice d7.g M1.G.length d7.gn,.int .i64 M1.first,.slice d7.c M1.ch.length d7.cn,.slice d7.t M1.T.length d7.tn,.slice d7.q M1.Q.length d7.qn,.int .i64 M1.steps,.int .i64 M1.fin,.slice d7.a M1.ans.length d7.an] 30 (0,0))∧MacAt v (fun b=>b≠w6.heap.size) M1 d7∧Below w6.heap.size w6 v):=lh fun u v d7 hu hm hb hv=>by
   subst hv
   obtain⟨z1,z2⟩:=put9 (hb.trans HN7.out) (.slice d7.h M1.H.length d7.hn) (.slice d7.g M1.G.length d7.gn) (.int .i64 M1.first) (.slice d7.c M1.ch.length d7.cn) (.slice d7.t M1.T.length d7.tn) (.slice d7.q M1.Q.length d7.qn) (.int .i64 M1.steps) (.int .i64 M1.fin) (.slice d7.a M1.ans.length d7.an)
   have hbu:Below w6.heap.size w6 u:=HB7.out.trans (hu.mono HB7.out.size)
   exact⟨z1,hm.keep (z2.keeps fun b hb=>hb),hbu.trans (z2.toBelow hbu.size fun b e=>by omega)⟩
  obtain⟨c0,c1,c2,c3,c4,c5,c6,c7,c8,cf⟩:=HX7.out.all
  go_region_with (first
   | (go_at_call 32;refine(sampleW _).mono ?_;rintro e w8 ⟨a8,rfl,hpr8,hb8⟩;have hb8':Below w7.heap.size w7 w8:=((Below.refl w7.heap.size w7).drew).trans hb8;obtain⟨y0,y1,y2,y3,y4,y5,y6,y7,y8,yf⟩:=(HX7.out.below hb8').all;have HPR8:=lh ((pr_clear (mbox_clear (HX7.out.below hb8')) hpr8).mono fun _ _ h=>h.2);have HB8:=lh hb8';clear hpr8 hb8 hb8')
   | (go_at_call 7;refine(HBC.out.step w8 a8 d6 _ HPR8.out (Nat.lt_of_lt_of_le HL7.out HB8.out.size) (HM7.out.keep (Keeps.below HB8.out _))).mono ?_;rintro e w9 ⟨hb9,d9,rfl,hm9⟩;have hx9:=hb9.block _ (Nat.lt_of_lt_of_le HL7.out HB8.out.size);obtain⟨v0,v1,v2,v3,v4,v5,v6,v7,v8,vf⟩:=((HX7.out.below HB8.out).below hb9).all;have HB9:=lh hb9;have HM9:=lh hm9;clear hb9 hm9 hx9))
  all_goals
   go_wp2_with fail
   go_meet
   case rel =>
    have hu:Below w7.heap.size w7 w9:=HB8.out.trans (HB9.out.mono HB8.out.size)
    obtain⟨k1,k2,k3⟩:=KY.out w9 _ d9 hu HM9.out (hu.block _ HL7.out) rfl
    exact⟨d9,rfl,lh k1,lh k2,lh k3⟩
 case rest =>
  obtain⟨d7,rfl,HN8,HM8,HB8⟩:=hcut
  generalize wc=w8 at *
  go_wp2_with fail
  refine(sampleW _).mono ?_
  rintro e w9 ⟨a9,rfl,hpr9,hb9⟩
  have HB9:=lh (HB8.out.trans (hb9.mono HB8.out.size))
  have HRU:=lh (HBC.out.run w9 a9 (some ⟨bq,0,none⟩) hpr9 (HT2.out.keep (Keeps.below (HB6.out.trans (HB9.out.mono HB6.out.size)) _)))
  have HL8:Hid (w6.heap.size<w8.heap.size):=lh (Array.getElem?_eq_some_iff.1 HN8.out).1
  have HN9:=lh ((hb9.block _ HL8.out).trans HN8.out)
  have HM9:=lh (HM8.out.keep (Keeps.below hb9 _))
  clear hpr9 hb9
  go_wp2_with fail
  refine HRU.out.mono ?_
  rintro e w10 ⟨hb10,ra,rc,f,s,rfl⟩
  have HB10:=lh (HB9.out.trans (hb10.mono HB9.out.size))
  have HN10:=lh ((hb10.block _ (Array.getElem?_eq_some_iff.1 HN9.out).1).trans HN9.out)
  have HM10:=lh (HM9.out.keep (Keeps.below hb10 _))
  clear hb10 HRU
  have hB11:Below w10.heap.size w10 (w10.alloc (.cells #[.slice ra 2 rc,.int .i64 (f:Nat),.int .i64 (s:Nat)] 50)):=(Below.refl _ _).alloc (Nat.le_refl _) _
  have HN11:=lh ((hB11.block _ (Array.getElem?_eq_some_iff.1 HN10.out).1).trans HN10.out)
  have HM11:=lh (HM10.out.keep (Keeps.below hB11 _))
  have HB11:=lh (HB10.out.trans (hB11.mono HB10.out.size))
  have HR11:=lh (heap_alloc_new w10 (.cells #[.slice ra 2 rc,.int .i64 (f:Nat),.int .i64 (s:Nat)] 50))
  clear hB11
  go_upto_region 5 with fail
  generalize w10.alloc (.cells #[.slice ra 2 rc,.int .i64 (f:Nat),.int .i64 (s:Nat)] 50)=w11 at *
  have HX11:Hid (MBox w11 w6.heap.size M1 d7):=lh ⟨HN11.out⟩
  have hr11:=HR11.out
  have zl1:w6.heap.size<w11.heap.size:=HX11.out.lt
  have zl2:w10.heap.size<w11.heap.size:=(Array.getElem?_eq_some_iff.1 hr11).1
  have HRR:Hid (∀ u,Below w11.heap.size w11 u→u.cell? ⟨w10.heap.size,0,none⟩=some (.slice ra 2 rc)):=lh fun u hu=>(hu.cell (p:=⟨w10.heap.size,0,none⟩) zl2).trans (by simp[World.cell?,hr11])
  have hfi:=HBC.out.first
  have KH:Hid (∀ u,Below w11.heap.size w11 u→(fun u=>u.cell? ⟨w6.heap.size,0,none⟩=some (.slice d7.h M1.H.length d7.hn)∧u.cell? ⟨w6.heap.size,1,none⟩=some (.slice d7.g M1.G.length d7.gn)∧u.cell? ⟨w6.heap.size,2,none⟩=some (.int .i64 M1.first)∧u.cell? ⟨w6.heap.size,3,none⟩=some (.slice d7.c M1.ch.length d7.cn)∧u.cell? ⟨w6.heap.size,4,none⟩=some (.slice d7.t M1.T.length d7.tn)∧u.cell? ⟨w6.heap.size,5,none⟩=some (.slice d7.q M1.Q.length d7.qn)∧u.cell? ⟨w6.heap.size,6,none⟩=some (.int .i64 1)∧u.cell? ⟨w6.heap.size,7,none⟩=some (.int .i64 0)∧u.cell? ⟨w6.heap.size,8,none⟩=some (.slice d7.a 1 d7.an)∧u.cell? ⟨w10.heap.size,0,none⟩=some (.slice ra 2 rc)∧Below w11.heap.size w11 u) u):=lh fun u hu=>by
   obtain⟨c0,c1,c2,c3,c4,c5,c6,c7,c8,cf⟩:=(HX11.out.below hu).all
   rw[HBC.out.steps] at c6;rw[HBC.out.fin] at c7;rw[HBC.out.ans] at c8
   exact⟨c0,c1,c2,c3,c4,c5,c6,c7,c8,HRR.out u hu,hu⟩
  have HCK:Hid (∀ (u:World) (a:Addr),Pr u (fun b=>b<u.heap.size) sampleL (some a) 2→Below w11.heap.size w11 u→Calls Try.prog 22 #[.slice (some a) 2 2,.agg #[.slice d7.h M1.H.length d7.hn,.slice d7.g M1.G.length d7.gn,.int .i64 M1.first,.slice d7.c M1.ch.length d7.cn,.slice d7.t M1.T.length d7.tn,.slice d7.q M1.Q.length d7.qn,.int .i64 1,.int .i64 0,.slice d7.a 1 d7.an]] u fun e w'=>e=.returned (.int .i64 0)∧Below u.heap.size u w'):=lh fun u a hpr hu=>by
   have h1:=HBC.out.check u a d7 _ hpr (HM11.out.keep (Keeps.below hu _))
   rw[HBC.out.steps,HBC.out.fin,HBC.out.ans] at h1
   exact h1
  clear hr11
  go_region_held3 (fun u=>u.cell? ⟨w6.heap.size,0,none⟩=some (.slice d7.h M1.H.length d7.hn)∧u.cell? ⟨w6.heap.size,1,none⟩=some (.slice d7.g M1.G.length d7.gn)∧u.cell? ⟨w6.heap.size,2,none⟩=some (.int .i64 M1.first)∧u.cell? ⟨w6.heap.size,3,none⟩=some (.slice d7.c M1.ch.length d7.cn)∧u.cell? ⟨w6.heap.size,4,none⟩=some (.slice d7.t M1.T.length d7.tn)∧u.cell? ⟨w6.heap.size,5,none⟩=some (.slice d7.q M1.Q.length d7.qn)∧u.cell? ⟨w6.heap.size,6,none⟩=some (.int .i64 1)∧u.cell? ⟨w6.heap.size,7,none⟩=some (.int .i64 0)∧u.cell? ⟨w6.heap.size,8,none⟩=some (.slice d7.a 1 d7.an)∧u.cell? ⟨w10.heap.size,0,none⟩=some (.slice ra 2 rc)∧Below w11.heap.size w11 u)
   (first | assumption | exact KH.out _ (Below.refl _ _).drew | exact KH.out _ hb12' | exact KH.out _ hb13')
   (first
    | (go_at_call 32;refine(sampleW _).mono ?_;rintro e w12 ⟨a12,rfl,hpr12,hb12⟩;have hb12':Below w11.heap.size w11 w12:=((Below.refl w11.heap.size w11).drew).trans hb12;have HPR12:=lh hpr12)
    | (go_at_call 22;refine(HCK.out w12 a12 HPR12.out hb12').mono ?_;rintro e w13 ⟨rfl,hb13⟩;have hb13':Below w11.heap.size w11 w13:=hb12'.trans (hb13.mono hb12'.size)))
  all_goals
   have hbw:=B4.out.trans (HB6.out.mono B4.out.size)
   have hbw11:=hbw.trans (HB11.out.mono hbw.size)
   have HBE:=lh (hbw11.trans (hb13'.mono hbw11.size))
   clear hbw hbw11
   go_wp2_with fail
   go_ret
   exact⟨rfl,HBE.out⟩
end Go.Proofs.Ytikmgiapjigghab
