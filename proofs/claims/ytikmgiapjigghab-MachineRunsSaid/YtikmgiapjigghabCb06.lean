/- The store of chapter 3 in a world: what it is; walks: spend, Look. -/
import Derived.Deep.LoopGhost
import Derived.Deep.RegionHeld3
import Derived.Test.YtikmgiapjigghabCb04
import Derived.Test.YtikmgiapjigghabCb05
namespace Go.Proofs.Ytikmgiapjigghab
open Go.RowKit
structure Touch(M:Nat→Prop)(w w':World):Prop where
 os:w'.os=w.os
 tape:w'.tape=w.tape
 output:w'.output=w.output
 size:w.heap.size≤w'.heap.size
 block:∀ b,b<w.heap.size→¬ M b→w'.heap[b]? = w.heap[b]?
theorem Touch.below{M:Nat→Prop}{w w':World}(h:Below w.heap.size w w'):Touch M w w':=⟨h.os,h.tape,h.output,h.size,fun b hb _=>h.block b hb⟩
theorem Touch.refl(M:Nat→Prop)(w:World):Touch M w w:=Touch.below (Below.refl _ _)
theorem Touch.trans{M:Nat→Prop}{a b c:World}(h:Touch M a b)(k:Touch M b c):Touch M a c :=
 ⟨k.os.trans h.os,k.tape.trans h.tape,k.output.trans h.output,Nat.le_trans h.size k.size,fun i hi hm=>(k.block i (Nat.lt_of_lt_of_le hi h.size) hm).trans (h.block i hi hm)⟩
theorem Touch.mono{M M':Nat→Prop}{w w':World}(h:Touch M w w')(hm:∀ b,b<w.heap.size→M b→M' b):Touch M' w w' :=
 ⟨h.os,h.tape,h.output,h.size,fun b hb hn=>h.block b hb (fun hM=>hn (hm b hb hM))⟩
theorem Touch.toBelow{M:Nat→Prop}{B:Nat}{w w':World}(h:Touch M w w')(hB:B≤w.heap.size)(hm:∀ b,M b→B≤b):Below B w w' :=
 ⟨h.os,h.tape,h.output,h.size,fun b hb=>h.block b (by omega) (fun hM=>by have:=hm b hM;omega)⟩
theorem Touch.keeps{M:Nat→Prop}{w w':World}(h:Touch M w w'){ok:Nat→Prop}(hm:∀ b,ok b→¬ M b):Keeps ok w w':=⟨h.size,fun b hb hs=>h.block b hs (hm b hb)⟩
theorem Touch.grown{M:Nat→Prop}{w w':World}{row:Option Nat}(h:w.grownBy w' row)(hm:∀ k,row=some k→M k):Touch M w w' :=
 ⟨h.os,h.tape,h.output,h.size,fun b hb hn=>h.block b hb (fun e=>hn (hm b e.symm))⟩
theorem Touch.setCell{M:Nat→Prop}{w:World}{p:Addr}(u:Value)(hp:M p.block):Touch M w (w.setCell p u) :=
 ⟨rfl,rfl,rfl,by simp[World.setCell],fun b _ hn=>Below.heap_setCell _ _ _ _ (fun e=>hn (e ▸ hp))⟩
def MapTm(w:World)(ok:Nat→Prop)(o:Option Tm)(v:Option Value):Prop :=
 match o with
 | none=>v=none
 | some t=>∃ a cap,v=some (.agg #[.int .i64 t.var,.string t.name,.slice a t.args.length cap])∧t.fits∧Ts w ok t.args a cap
theorem MapTm.keep{w w':World}{ok:Nat→Prop}(hk:Keeps ok w w'){o:Option Tm}{v:Option Value}(h:MapTm w ok o v):MapTm w' ok o v:=by
 cases o with
 | none=>exact h
 | some t=>obtain⟨a,cap,h1,h2,h3⟩:=h;exact⟨a,cap,h1,h2,h3.keep hk⟩
theorem MapTm.mono{w:World}{ok ok':Nat→Prop}(hk:∀ b,b<w.heap.size→ok b→ok' b){o:Option Tm}{v:Option Value}(h:MapTm w ok o v):MapTm w ok' o v:=by
 cases o with
 | none=>exact h
 | some t=>obtain⟨a,cap,h1,h2,h3⟩:=h;exact⟨a,cap,h1,h2,h3.mono hk⟩
def StM(bs bm:Nat)(tv:Value):Nat→Prop:=fun b=>b=bs∨b=bm∨tv.ownBlock=some b
structure StAt(w:World)(ok:Nat→Prop)(bs bm:Nat)(tv:Value)(σ:Int→Option Tm)(L:List Int)(wk:Nat):Prop where
 blk:w.heap[bs]? = some (.cells #[.map (some bm),tv,.int .i64 wk] 121 (0,0))
 trail:w.ownsRow 0 3 1 tv L.length (L.map (Value.int .i64))
 map:∃ f,IMap Try.prog 3 w bm L.length f∧∀ k,MapTm w ok (σ k) (f k)
 ne:bs≠bm∧tv.ownBlock≠some bs∧tv.ownBlock≠some bm
 okb:∀ b,ok b→b<w.heap.size∧¬ StM bs bm tv b
theorem StAt.lt{w:World}{ok:Nat→Prop}{bs bm:Nat}{tv:Value}{σ:Int→Option Tm}{L:List Int}{wk:Nat}(h:StAt w ok bs bm tv σ L wk):bs<w.heap.size:=(Array.getElem?_eq_some_iff.1 h.blk).1
theorem StAt.cells{w:World}{ok:Nat→Prop}{bs bm:Nat}{tv:Value}{σ:Int→Option Tm}{L:List Int}{wk:Nat}(h:StAt w ok bs bm tv σ L wk) :
 w.cell? ⟨bs,0,none⟩=some (.map (some bm))∧w.cell? ⟨bs,1,none⟩=some tv∧w.cell? ⟨bs,2,none⟩=some (.int .i64 wk)∧(∀ o,w.frozen? ⟨bs,o,none⟩=false):=by
 refine⟨?_,?_,?_,fun o=>?_⟩
 ·simp[World.cell?,h.blk]
 ·simp[World.cell?,h.blk]
 ·simp[World.cell?,h.blk]
 ·simp[World.frozen?,h.blk]
theorem StAt.keep{w w':World}{ok:Nat→Prop}{bs bm:Nat}{tv:Value}{σ:Int→Option Tm}{L:List Int}{wk:Nat}(h:StAt w ok bs bm tv σ L wk)(hb:Below w.heap.size w w'):StAt w' ok bs bm tv σ L wk:=by
 obtain⟨f,h1,h2⟩:=h.map
 exact⟨(hb.block bs h.lt).trans h.blk,ownsRow_below h.trail hb,⟨f,h1.kept (hb.block bm h1.lt),fun k=>(h2 k).keep (Keeps.below hb ok)⟩,h.ne,fun b hk=>⟨Nat.lt_of_lt_of_le (h.okb b hk).1 hb.size,(h.okb b hk).2⟩⟩
theorem StAt.keeps{w w':World}{ok:Nat→Prop}{bs bm:Nat}{tv:Value}{σ:Int→Option Tm}{L:List Int}{wk:Nat}(h:StAt w ok bs bm tv σ L wk)(ht:Touch (StM bs bm tv) w w'):Keeps ok w w':=ht.keeps fun b hb=>(h.okb b hb).2
theorem heap_setCell_at(w:World)(b o:Nat)(u:Value){c:Array Value}{e:TypeId}{fz:Nat×Nat}(h:w.heap[b]? = some (.cells c e fz)):(w.setCell ⟨b,o,none⟩ u).heap[b]? = some (.cells (c.setIfInBounds o u) e fz):=by
 simp[World.setCell,Array.getElem?_modify,h]
theorem StAt.spent{w:World}{ok:Nat→Prop}{bs bm:Nat}{tv:Value}{σ:Int→Option Tm}{L:List Int}{wk:Nat}(h:StAt w ok bs bm tv σ L wk):StAt (w.setCell ⟨bs,2,none⟩ (.int .i64 ((wk:Int)+1))) ok bs bm tv σ L (wk+1):=by
 obtain⟨f,h1,h2⟩:=h.map
 have ht:Touch (StM bs bm tv) w (w.setCell ⟨bs,2,none⟩ (.int .i64 ((wk:Int)+1))):=Touch.setCell _ (.inl rfl)
 have hk:=h.keeps ht
 refine⟨by rw[heap_setCell_at _ _ _ _ h.blk];rfl,?_,⟨f,h1.kept (Below.heap_setCell _ _ _ _ (fun e=>h.ne.1 e.symm)),fun k=>(h2 k).keep hk⟩,h.ne,fun b hb=>⟨Nat.lt_of_lt_of_le (h.okb b hb).1 ht.size,(h.okb b hb).2⟩⟩
 refine h.trail.kept (row:=some bs) ⟨ht.os,ht.tape,ht.output,ht.size,fun k _ hk=>Below.heap_setCell _ _ _ _ (fun e=>hk (by rw[e]))⟩ (.inr h.ne.2.1)
set_option maxRecDepth 100000 in
set_option maxHeartbeats 400000 in
theorem spendW{w:World}{ok:Nat→Prop}{bs bm:Nat}{tv:Value}{σ:Int→Option Tm}{L:List Int}{wk:Nat}(h:StAt w ok bs bm tv σ L wk)(hwk:wk≤1000000) :
 Calls Try.prog 121 #[.pointer (some ⟨bs,0,none⟩)] w fun e w'=>e=.returned (.bool (decide (wk+1≤4000)))∧StAt w' ok bs bm tv σ L (wk+1)∧Touch (StM bs bm tv) w w':=by
 obtain⟨c0,c1,c2,cf⟩:=h.cells
 have f2:=cf 2
 have HS:=lh h.spent
 have HT:Hid (Touch (StM bs bm tv) w (w.setCell ⟨bs,2,none⟩ (.int .i64 ((wk:Int)+1)))):=lh (Touch.setCell _ (.inl rfl))
 clear cf h
 by_cases hl:wk+1≤4000
 ·have hd:decide (wk+1≤4000)=true:=decide_eq_true hl
  go_enter Try.func121,Try.ntmps121
  go_wp2_with fail
  go_ret
  exact⟨retB (by rw[hd];simp;omega),HS.out,HT.out⟩
 ·have hd:decide (wk+1≤4000)=false:=decide_eq_false hl
  go_enter Try.func121,Try.ntmps121
  go_wp2_with fail
  go_ret
  exact⟨retB (by rw[hd];simp;omega),HS.out,HT.out⟩
theorem StAt.blocks{w:World}{ok:Nat→Prop}{bs bm:Nat}{tv:Value}{σ:Int→Option Tm}{L:List Int}{wk:Nat}(h:StAt w ok bs bm tv σ L wk):bm<w.heap.size∧∀ g,tv.ownBlock=some g→g<w.heap.size:=by
 obtain⟨f,h1,_⟩:=h.map
 exact⟨h1.lt,fun g hg=>(h.trail.lt g hg).2⟩
def LookN(σ:Int→Option Tm):Nat→Tm→Tm→Prop
 | 0,t,u=>u=t∧(t.var=0∨σ t.var=none)
 | n+1,t,u=>t.var≠0∧∃ t',σ t.var=some t'∧LookN σ n t' u
def RetTm(w:World)(ok:Nat→Prop)(t:Tm)(e:Ending)(w':World):Prop :=
 ∃ a cap,e=.returned (.agg #[.int .i64 t.var,.string t.name,.slice a t.args.length cap])∧t.fits∧Ts w' ok t.args a cap∧Below w.heap.size w w'
theorem zeroTm(w:World):(zeroValue 71).run Try.prog w=.ok (.agg #[.int .i64 0,.string ByteArray.empty,.slice none 0 0]) w:=by kernel_rfl
theorem keyedI:Go.Maps.Keyed Try.prog 3:=Go.Maps.int_keyed Try.underlying3
theorem StAt.look{w:World}{ok:Nat→Prop}{bs bm:Nat}{tv:Value}{σ:Int→Option Tm}{L:List Int}{wk:Nat}(h:StAt w ok bs bm tv σ L wk){v:Int}(hv:I64 v) :
 (σ v=none∧∀ w',Below w.heap.size w w'→(Instr.lookup 119 (.map (some bm)) (.int .i64 v) true).run Try.prog w'=.ok (.tuple #[.agg #[.int .i64 0,.string ByteArray.empty,.slice none 0 0],.bool false]) w') ∨
 (∃ t a cap,σ v=some t∧t.fits∧Ts w ok t.args a cap∧∀ w',Below w.heap.size w w'→(Instr.lookup 119 (.map (some bm)) (.int .i64 v) true).run Try.prog w'=.ok (.tuple #[.agg #[.int .i64 t.var,.string t.name,.slice a t.args.length cap],.bool true]) w'):=by
 obtain⟨f,h1,h2⟩:=h.map
 have hl:∀ w',Below w.heap.size w w'→_:=fun w' hb=>(h1.kept (hb.block bm h1.lt)).look keyedI Try.underlying3 Try.underlying119 (zeroTm w') hv
 have h3:=h2 v
 cases hs:σ v with
 | none =>
  rw[hs] at h3
  rw[show f v=none from h3] at hl
  exact .inl ⟨rfl,hl⟩
 | some t =>
  rw[hs] at h3
  obtain⟨a,cap,e,hf,ht⟩:=h3
  rw[e] at hl
  exact .inr ⟨t,a,cap,rfl,hf,ht,hl⟩
structure Box3(w:World)(b:Nat)(x0 x1 x2:Value):Prop where
 blk:w.heap[b]? = some (.cells #[x0,x1,x2] 71 (0,0))
theorem Box3.c0{w:World}{b:Nat}{x0 x1 x2:Value}(h:Box3 w b x0 x1 x2):w.cell? ⟨b,0,none⟩=some x0:=by simp[World.cell?,h.blk]
theorem Box3.c1{w:World}{b:Nat}{x0 x1 x2:Value}(h:Box3 w b x0 x1 x2):w.cell? ⟨b,1,none⟩=some x1:=by simp[World.cell?,h.blk]
theorem Box3.c2{w:World}{b:Nat}{x0 x1 x2:Value}(h:Box3 w b x0 x1 x2):w.cell? ⟨b,2,none⟩=some x2:=by simp[World.cell?,h.blk]
theorem Box3.fz{w:World}{b:Nat}{x0 x1 x2:Value}(h:Box3 w b x0 x1 x2)(o:Nat):w.frozen? ⟨b,o,none⟩=false:=by simp[World.frozen?,h.blk]
theorem Box3.lt{w:World}{b:Nat}{x0 x1 x2:Value}(h:Box3 w b x0 x1 x2):b<w.heap.size:=(Array.getElem?_eq_some_iff.1 h.blk).1
theorem Box3.keep{w w':World}{b:Nat}{x0 x1 x2:Value}(h:Box3 w b x0 x1 x2)(hb:w'.heap[b]? = w.heap[b]?):Box3 w' b x0 x1 x2:=⟨hb.trans h.blk⟩
theorem Box3.below{w w':World}{b:Nat}{x0 x1 x2:Value}(h:Box3 w b x0 x1 x2)(hb:Below w.heap.size w w'):Box3 w' b x0 x1 x2:=h.keep (hb.block b h.lt)
theorem Box3.made(w:World)(x0 x1 x2:Value):Box3 (w.alloc (.cells #[x0,x1,x2] 71)) w.heap.size x0 x1 x2:=⟨heap_alloc_new w _⟩
theorem Box3.alloc{w:World}{b:Nat}{x0 x1 x2:Value}(h:Box3 w b x0 x1 x2)(o:Obj):Box3 (w.alloc o) b x0 x1 x2:=h.below ((Below.refl _ _).alloc (Nat.le_refl _) _)
theorem Box3.put{w:World}{b:Nat}{x0 x1 x2:Value}(h:Box3 w b x0 x1 x2)(y0 y1 y2:Value):Box3 (((w.setCell ⟨b,0,none⟩ y0).setCell ⟨b,1,none⟩ y1).setCell ⟨b,2,none⟩ y2) b y0 y1 y2:=by
 refine⟨?_⟩
 rw[heap_setCell_at _ _ _ _ (heap_setCell_at _ _ _ _ (heap_setCell_at _ _ _ _ h.blk))]
 rfl
theorem Box3.q0{w:World}{b:Nat}{x0 x1 x2:Value}(h:Box3 w b x0 x1 x2)(y0:Value):(w.setCell ⟨b,0,none⟩ y0).cell? ⟨b,0,none⟩=some y0:=by
 simp[World.cell?,heap_setCell_at _ _ _ _ h.blk]
theorem Box3.q1{w:World}{b:Nat}{x0 x1 x2:Value}(h:Box3 w b x0 x1 x2)(y0 y1:Value):((w.setCell ⟨b,0,none⟩ y0).setCell ⟨b,1,none⟩ y1).cell? ⟨b,1,none⟩=some y1:=by
 simp[World.cell?,heap_setCell_at _ _ _ _ (heap_setCell_at _ _ _ _ h.blk)]
theorem below_put{B:Nat}{w0 w:World}(h:Below B w0 w){b:Nat}(hb:B≤b)(y0 y1 y2:Value):Below B w0 (((w.setCell ⟨b,0,none⟩ y0).setCell ⟨b,1,none⟩ y1).setCell ⟨b,2,none⟩ y2) :=
 ((h.setCell (p:=⟨b,0,none⟩) hb y0).setCell (p:=⟨b,1,none⟩) hb y1).setCell (p:=⟨b,2,none⟩) hb y2
theorem other_put{w:World}{b b':Nat}(hne:b'≠b)(y0 y1 y2:Value):(((w.setCell ⟨b,0,none⟩ y0).setCell ⟨b,1,none⟩ y1).setCell ⟨b,2,none⟩ y2).heap[b']? = w.heap[b']?:=by
 rw[Below.heap_setCell _ _ _ _ hne,Below.heap_setCell _ _ _ _ hne,Below.heap_setCell _ _ _ _ hne]
set_option maxRecDepth 100000 in
set_option maxHeartbeats 1000000 in
theorem LookW{w:World}{ok:Nat→Prop}{bs bm:Nat}{tv:Value}{σ:Int→Option Tm}{L:List Int}{wk:Nat}(h:StAt w ok bs bm tv σ L wk){n:Nat}{t u:Tm}(hl:LookN σ n t u){a:Option Addr}{cap:Nat}(hf:t.fits)(ht:Ts w ok t.args a cap) :
 Calls Try.prog 102 #[.pointer (some ⟨bs,0,none⟩),.agg #[.int .i64 t.var,.string t.name,.slice a t.args.length cap]] w (RetTm w ok u):=by
 have H:=lh h;have HL:=lh hl;have HF:=lh hf;have HT:=lh ht
 have hbs:=h.lt
 clear h hl hf ht
 go_enter Try.func102,Try.ntmps102
 go_wp2_with fail
 go_loopg [] n (fun k wr=>∃ cur a cap,LookN σ k cur u∧cur.fits∧Ts w ok cur.args a cap∧Box3 wr w.heap.size (.int .i64 cur.var) (.string cur.name) (.slice a cur.args.length cap)∧Box3 wr (w.heap.size+1) (.int .i64 0) (.string ⟨#[]⟩) (.slice none 0 0)∧Below w.heap.size w wr)
 case atStart =>
  refine⟨t,a,cap,HL.out,HF.out,HT.out,(Box3.made _ _ _ _).alloc _,?_,((Below.refl _ _).alloc (Nat.le_refl _) _).alloc (by simp) _⟩
  have:=Box3.made (w.alloc (.cells #[.int .i64 t.var,.string t.name,.slice a t.args.length cap] 71)) (.int .i64 0) (.string ⟨#[]⟩) (.slice none 0 0)
  simpa using this
 case round =>
  obtain⟨cur,ca,ccap,hln,hcf,hct,hbx,hrx,hbl⟩:=hrel
  have c0:=hbx.c0;have c1:=hbx.c1;have c2:=hbx.c2
  have r0:=hrx.c0;have r1:=hrx.c1;have r2:=hrx.c2
  have fr:=hrx.fz;have fb:=hbx.fz
  have HS:=lh (H.out.keep hbl)
  have s0:=HS.out.cells.1
  have HLN:=lh hln;have HCF:=lh hcf;have HCT:=lh hct
  clear hln hcf hct
  by_cases hv:cur.var=0
  ·have HU:Hid (u=cur):=lh (by
    have:=HLN.out
    cases gk with
    | zero=>exact this.1
    | succ k=>exact absurd hv this.1)
   have hv':(cur.var != 0)=false:=by rw[hv];rfl
   clear hv
   go_wp2_with fail
   have hput:=hrx.put (.int .i64 cur.var) (.string cur.name) (.slice ca cur.args.length ccap)
   have p0:=hrx.q0 (.int .i64 cur.var);have p1:=hrx.q1 (.int .i64 cur.var) (.string cur.name);have p2:=hput.c2
   exact bodyPost_ret (v:=.agg #[.int .i64 cur.var,.string cur.name,.slice ca cur.args.length ccap]) (by simp[results,Try.results102,go_sem,r0,r1,r2]) rfl
    ⟨ca,ccap,by rw[HU.out],by rw[HU.out];exact HCF.out,by rw[HU.out];exact HCT.out.keep (Keeps.below (below_put hbl (by omega) _ _ _) ok),below_put hbl (by omega) _ _ _⟩
  ·have hv':(cur.var != 0)=true:=by rw[bne_iff_ne];exact hv
   have HV:=lh hv
   clear hv
   rcases H.out.look HCF.out.1 with ⟨hn,hrun⟩ | ⟨t',a',cap',hs,hf',ht',hrun⟩
   ·have HU:Hid (u=cur):=lh (by
     have:=HLN.out
     cases gk with
     | zero=>exact this.1
     | succ k=>obtain⟨_,t',h1,_⟩:=this;rw[hn] at h1;cases h1)
    have KS:∀ w',Below wr.heap.size wr w'→w'.cell? ⟨w.heap.size,0,none⟩=some (.int .i64 cur.var)∧w'.cell? ⟨bs,0,none⟩=some (.map (some bm))∧_∧Below wr.heap.size wr w':=fun w' hb =>
     ⟨(hbx.below hb).c0,(HS.out.keep hb).cells.1,hrun w' (hbl.trans (hb.mono hbl.size)),hb⟩
    have KH:=lh KS
    clear hn hrun KS
    go_wp2_with fail
    go_region_held3 (fun w'=>w'.cell? ⟨w.heap.size,0,none⟩=some (.int .i64 cur.var)∧w'.cell? ⟨bs,0,none⟩=some (.map (some bm))∧(Instr.lookup 119 (.map (some bm)) (.int .i64 cur.var) true).run Try.prog w'=.ok (.tuple #[.agg #[.int .i64 0,.string ByteArray.empty,.slice none 0 0],.bool false]) w'∧Below wr.heap.size wr w')
     (first | assumption | exact KH.out _ ((Below.refl _ _).drew) | exact KH.out _ (Below.alloc (And.right (And.right (And.right (by assumption)))) (by simp) _))
     (fail)
    all_goals
     have hB:Below wr.heap.size wr ((wr.alloc (.cells #[.int .i64 0,.string ByteArray.empty,.slice none 0 0] 71)).drew):=((Below.refl _ _).alloc (Nat.le_refl _) _).drew
     generalize (wr.alloc (.cells #[.int .i64 0,.string ByteArray.empty,.slice none 0 0] 71)).drew=X at *
     have hbX:=hbx.below hB;have hrX:=hrx.below hB
     have hblX:=hbl.trans (hB.mono hbl.size)
     have c0:=hbX.c0;have c1:=hbX.c1;have c2:=hbX.c2
     have r0:=hrX.c0;have r1:=hrX.c1;have r2:=hrX.c2
     have fr:=hrX.fz;have fb:=hbX.fz
     go_wp2_with fail
     exact bodyPost_ret (v:=.agg #[.int .i64 cur.var,.string cur.name,.slice ca cur.args.length ccap]) (by simp[results,Try.results102,go_sem,r0,r1,r2]) rfl
      ⟨ca,ccap,by rw[HU.out],by rw[HU.out];exact HCF.out,by rw[HU.out];exact HCT.out.keep (Keeps.below (below_put hblX (by omega) _ _ _) ok),below_put hblX (by omega) _ _ _⟩
   ·have HU:Hid (∃ k,gk=k+1∧LookN σ k t' u):=lh (by
     have:=HLN.out
     cases gk with
     | zero =>
      rcases this.2 with h1 | h1
      ·exact absurd h1 HV.out
      ·rw[hs] at h1;cases h1
     | succ k=>obtain⟨_,t'',h1,h2⟩:=this;rw[hs] at h1;cases h1;exact⟨k,rfl,h2⟩)
    have KS:∀ w',Below wr.heap.size wr w'→w'.cell? ⟨w.heap.size,0,none⟩=some (.int .i64 cur.var)∧w'.cell? ⟨bs,0,none⟩=some (.map (some bm))∧_∧Below wr.heap.size wr w':=fun w' hb =>
     ⟨(hbx.below hb).c0,(HS.out.keep hb).cells.1,hrun w' (hbl.trans (hb.mono hbl.size)),hb⟩
    have KH:=lh KS
    have HF':=lh hf';have HT':=lh ht'
    clear hs hrun KS hf' ht'
    go_wp2_with fail
    go_region_held3 (fun w'=>w'.cell? ⟨w.heap.size,0,none⟩=some (.int .i64 cur.var)∧w'.cell? ⟨bs,0,none⟩=some (.map (some bm))∧(Instr.lookup 119 (.map (some bm)) (.int .i64 cur.var) true).run Try.prog w'=.ok (.tuple #[.agg #[.int .i64 t'.var,.string t'.name,.slice a' t'.args.length cap'],.bool true]) w'∧Below wr.heap.size wr w')
     (first | assumption | exact KH.out _ ((Below.refl _ _).drew) | exact KH.out _ (((Below.refl _ _).alloc (Nat.le_refl _) _).drew) | exact KH.out _ (Below.alloc (And.right (And.right (And.right (by assumption)))) (by simp) _))
     (fail)
    all_goals
     have hB:Below wr.heap.size wr ((wr.alloc (.cells #[.int .i64 t'.var,.string t'.name,.slice a' t'.args.length cap'] 71)).drew):=((Below.refl _ _).alloc (Nat.le_refl _) _).drew
     have hN:Box3 ((wr.alloc (.cells #[.int .i64 t'.var,.string t'.name,.slice a' t'.args.length cap'] 71)).drew) wr.heap.size (.int .i64 t'.var) (.string t'.name) (.slice a' t'.args.length cap'):=⟨(Box3.made wr _ _ _).blk⟩
     generalize (wr.alloc (.cells #[.int .i64 t'.var,.string t'.name,.slice a' t'.args.length cap'] 71)).drew=X at *
     have hbX:=hbx.below hB;have hrX:=hrx.below hB
     have hblX:=hbl.trans (hB.mono hbl.size)
     have c0:=hbX.c0;have c1:=hbX.c1;have c2:=hbX.c2
     have n0:=hN.c0;have n1:=hN.c1;have n2:=hN.c2
     have r0:=hrX.c0;have r1:=hrX.c1;have r2:=hrX.c2
     have fr:=hrX.fz;have fb:=hbX.fz
     have hPut:=lh (hbX.put (.int .i64 t'.var) (.string t'.name) (.slice a' t'.args.length cap'))
     go_wp2_with fail
     obtain⟨k',hk',hl'⟩:=HU.out
     go_roundg k'
     case measure=>omega
     case rel=>exact⟨t',a',cap',hl',HF'.out,HT'.out,hPut.out,hrX.keep (other_put (by omega) _ _ _),below_put hblX (by omega) _ _ _⟩
abbrev Sub:=Int→Option Tm
theorem LookN.det{σ:Sub}:∀ {n m:Nat} {t u v:Tm},LookN σ n t u→LookN σ m t v→u=v
 | 0,0,_,_,_,h,k=>h.1.trans k.1.symm
 | 0,m+1,t,_,_,h,k=>by
  obtain⟨h1,t',h2,_⟩:=k
  rcases h.2 with h3 | h3
  ·exact absurd h3 h1
  ·rw[h2] at h3;cases h3
 | n+1,0,t,_,_,h,k=>by
  obtain⟨h1,t',h2,_⟩:=h
  rcases k.2 with h3 | h3
  ·exact absurd h3 h1
  ·rw[h2] at h3;cases h3
 | n+1,m+1,t,_,_,h,k=>by
  obtain⟨_,t',h2,h3⟩:=h
  obtain⟨_,t'',h4,h5⟩:=k
  rw[h2] at h4;cases h4
  exact LookN.det h3 h5
def Ends(σ:Sub):Prop:=∀ t,∃ n u,LookN σ n t u
instance:Inhabited Tm:=⟨.mk 0 ByteArray.empty []⟩
noncomputable def look(σ:Sub)(t:Tm):Tm:=Classical.epsilon fun u=>∃ n,LookN σ n t u
theorem look_spec{σ:Sub}(h:Ends σ)(t:Tm):∃ n,LookN σ n t (look σ t):=by
 obtain⟨n,u,hu⟩:=h t
 exact Classical.epsilon_spec (p:=fun u=>∃ n,LookN σ n t u) ⟨u,n,hu⟩
theorem look_eq{σ:Sub}{n:Nat}{t u:Tm}(h:LookN σ n t u):look σ t=u:=by
 have:∃ m,LookN σ m t (look σ t):=Classical.epsilon_spec (p:=fun u=>∃ n,LookN σ n t u) ⟨u,n,h⟩
 obtain⟨m,hm⟩:=this
 exact LookN.det hm h
inductive WOut where
 | yes (f:Nat)
 | no (f:Nat)
 | many
noncomputable def within(σ:Sub)(v:Int):Nat→List Tm→WOut
 | f,[]=>.no f
 | 0,_::_=>.many
 | f+1,t::r=>if (look σ t).var≠0 then (if (look σ t).var=v then .yes f else within σ v f r) else within σ v f ((look σ t).args++r)
def WOut.then(o:WOut)(g:Nat→WOut):WOut :=
 match o with
 | .no f=>g f
 | o=>o
theorem within_append(σ:Sub)(v:Int):∀ (f:Nat) (l r:List Tm),within σ v f (l++r)=(within σ v f l).then fun f'=>within σ v f' r:=by
 intro f
 induction f with
 | zero =>
  intro l r
  cases l with
  | nil=>simp[within,WOut.then]
  | cons a l=>simp[within,WOut.then]
 | succ f ih =>
  intro l r
  cases l with
  | nil=>simp[within,WOut.then]
  | cons a l =>
   simp only[List.cons_append,within]
   by_cases h1:(look σ a).var≠0
   ·rw[if_pos h1,if_pos h1]
    by_cases h2:(look σ a).var=v
    ·rw[if_pos h2,if_pos h2];rfl
    ·rw[if_neg h2,if_neg h2,ih]
   ·rw[if_neg h1,if_neg h1,← List.append_assoc,ih]
theorem within_le(σ:Sub)(v:Int):∀ (f:Nat) (l:List Tm),(∀ f',within σ v f l=.yes f'→f'≤f)∧(∀ f',within σ v f l=.no f'→f'≤f):=by
 intro f
 induction f with
 | zero =>
  intro l
  cases l with
  | nil=>simp[within]
  | cons a l=>simp[within]
 | succ f ih =>
  intro l
  cases l with
  | nil=>simp[within]
  | cons a l =>
   simp only[within]
   by_cases h1:(look σ a).var≠0
   ·rw[if_pos h1]
    by_cases h2:(look σ a).var=v
    ·rw[if_pos h2];simp
    ·rw[if_neg h2]
     exact⟨fun f' h=>Nat.le_succ_of_le ((ih l).1 f' h),fun f' h=>Nat.le_succ_of_le ((ih l).2 f' h)⟩
   ·rw[if_neg h1]
    exact⟨fun f' h=>Nat.le_succ_of_le ((ih _).1 f' h),fun f' h=>Nat.le_succ_of_le ((ih _).2 f' h)⟩
theorem StAt.notM{w:World}{ok:Nat→Prop}{bs bm:Nat}{tv:Value}{σ:Int→Option Tm}{L:List Int}{wk:Nat}(h:StAt w ok bs bm tv σ L wk){b:Nat}(hb:w.heap.size≤b):¬ StM bs bm tv b:=by
 rintro (rfl | rfl | e)
 ·have:=h.lt;omega
 ·have:=h.blocks.1;omega
 ·have:=h.blocks.2 b e;omega
theorem StAt.touch{w w':World}{ok:Nat→Prop}{bs bm:Nat}{tv:Value}{σ:Int→Option Tm}{L:List Int}{wk:Nat}(h:StAt w ok bs bm tv σ L wk){M:Nat→Prop}(ht:Touch M w w')(hM:∀ b,M b→¬ StM bs bm tv b∧¬ ok b):StAt w' ok bs bm tv σ L wk:=by
 obtain⟨f,h1,h2⟩:=h.map
 have hk:Keeps ok w w':=ht.keeps fun b hb hm=>(hM b hm).2 hb
 refine⟨(ht.block bs h.lt (fun hm=>(hM _ hm).1 (.inl rfl))).trans h.blk,?_,⟨f,h1.kept (ht.block bm h1.lt (fun hm=>(hM _ hm).1 (.inr (.inl rfl)))),fun k=>(h2 k).keep hk⟩,h.ne,fun b hb=>⟨Nat.lt_of_lt_of_le (h.okb b hb).1 ht.size,(h.okb b hb).2⟩⟩
 refine⟨h.trail.1,?_⟩
 rcases h.trail.2 with h3 | ⟨g,cap,cur,rfl,h4,h5,r⟩
 ·exact .inl h3
 ·exact .inr ⟨g,cap,cur,rfl,h4,(ht.block g (Array.getElem?_eq_some_iff.1 h5).1 (fun hm=>(hM _ hm).1 (.inr (.inr rfl)))).trans h5,r⟩
theorem touch_put(w:World)(b:Nat)(y0 y1 y2:Value):Touch (fun x=>x=b) w (((w.setCell ⟨b,0,none⟩ y0).setCell ⟨b,1,none⟩ y1).setCell ⟨b,2,none⟩ y2) :=
 ⟨rfl,rfl,rfl,by simp[World.setCell],fun b' _ hn=>other_put hn _ _ _⟩
def StandsPost(w:World)(ok:Nat→Prop)(bs bm:Nat)(tv:Value)(σ:Sub)(L:List Int)(o:WOut)(e:Ending)(w':World):Prop :=
 Touch (StM bs bm tv) w w' ∧
 match o with
 | .yes f=>e=.returned (.tuple #[.bool true,.int .i64 0])∧StAt w' ok bs bm tv σ L (4000-f)
 | .no f=>e=.returned (.tuple #[.bool false,.int .i64 0])∧StAt w' ok bs bm tv σ L (4000-f)
 | .many=>e=.returned (.tuple #[.bool false,.int .i64 2])∧StAt w' ok bs bm tv σ L 4001
set_option maxRecDepth 100000 in
set_option maxHeartbeats 1000000 in
theorem standsW{ok:Nat→Prop}{bs bm:Nat}{tv:Value}{σ:Sub}{L:List Int}(hE:Ends σ)(v:Int)(f:Nat):∀ (t:Tm) (a:Option Addr) (cap:Nat) (w:World),f≤4000→StAt w ok bs bm tv σ L (4000-f)→t.fits→Ts w ok t.args a cap →
 Calls Try.prog 126 #[.pointer (some ⟨bs,0,none⟩),.int .i64 v,.agg #[.int .i64 t.var,.string t.name,.slice a t.args.length cap]] w (StandsPost w ok bs bm tv σ L (within σ v f [t])):=by
 induction f using Nat.strongRecOn with
 | _ f ih =>
 intro t a cap w hf4 hst hfit hts
 have IH:=lh ih;have HE:=lh hE;have HST:=lh hst;have HF:=lh hfit;have HT:=lh hts
 clear ih hE hst hfit hts
 have B0:Below w.heap.size w (w.alloc (.cells #[.int .i64 t.var,.string t.name,.slice a t.args.length cap] 71)):=(Below.refl _ _).alloc (Nat.le_refl _) _
 have S0:=lh (HST.out.keep B0)
 go_enter Try.func126,Try.ntmps126
 go_wp2_with fail
 refine(spendW S0.out (by omega)).mono ?_
 rintro e w1 ⟨rfl,hs1,ht1⟩
 cases f with
 | zero =>
  have hd:decide (4000-0+1≤4000)=false:=by decide
  have HW:Hid (within σ v 0 [t]=.many):=lh (by simp[within])
  have HS1:=lh hs1;have HT1:=lh ht1
  clear hs1 ht1
  rw[hd]
  go_wp2_with fail
  go_ret2
  rw[HW.out]
  exact⟨(Touch.below B0).trans HT1.out,rfl,HS1.out⟩
 | succ f =>
  have hd:decide (4000-(f+1)+1≤4000)=true:=decide_eq_true (by omega)
  have hwk:4000-(f+1)+1=4000-f:=by omega
  rw[hd]
  rw[hwk] at hs1
  have hbx:Box3 w1 w.heap.size (.int .i64 t.var) (.string t.name) (.slice a t.args.length cap):=(Box3.made w _ _ _).keep (ht1.block _ (by simp) (HST.out.notM (Nat.le_refl _)))
  have b0:=hbx.c0;have b1:=hbx.c1;have b2:=hbx.c2;have bz:=hbx.fz
  have T1:=lh ((Touch.below (M:=StM bs bm tv) B0).trans ht1)
  have hK1:=lh (HST.out.keeps T1.out)
  have HS1:=lh hs1
  clear hs1 ht1 hd hwk
  obtain⟨n,hn⟩:=look_spec HE.out t
  have HN:=lh hn
  clear hn
  go_wp2_with fail
  refine(LookW HS1.out HN.out HF.out (HT.out.keep hK1.out)).mono ?_
  rintro e w2 ⟨a',cap',rfl,hf',ht',hb2⟩
  have hbx2:=hbx.below hb2
  have b0:=hbx2.c0;have b1:=hbx2.c1;have b2:=hbx2.c2;have bz:=hbx2.fz
  have S2:=lh (HS1.out.keep hb2)
  have T2:=lh (T1.out.trans (Touch.below hb2))
  have hsz:w.heap.size<w2.heap.size:=hbx2.lt
  have HF':=lh hf';have HT':=lh ht';have HB2:=lh hb2
  clear hf' ht' hb2
  generalize hx:look σ t=x at *
  have HX:=lh hx
  clear hx
  have hput:=hbx2.put (.int .i64 x.var) (.string x.name) (.slice a' x.args.length cap')
  have HP:=lh hput
  clear hput
  have S3:Hid (StAt (((w2.setCell ⟨w.heap.size,0,none⟩ (.int .i64 x.var)).setCell ⟨w.heap.size,1,none⟩ (.string x.name)).setCell ⟨w.heap.size,2,none⟩ (.slice a' x.args.length cap')) ok bs bm tv σ L (4000-f)) :=
   lh (S2.out.touch (touch_put _ _ _ _ _) (fun b hb=>by subst hb;exact⟨HST.out.notM (Nat.le_refl _),fun hk=>by have:=(HST.out.okb _ hk).1;omega⟩))
  have T3:Hid (Touch (StM bs bm tv) w (((w2.setCell ⟨w.heap.size,0,none⟩ (.int .i64 x.var)).setCell ⟨w.heap.size,1,none⟩ (.string x.name)).setCell ⟨w.heap.size,2,none⟩ (.slice a' x.args.length cap'))) :=
   lh (by
    refine⟨T2.out.os,T2.out.tape,T2.out.output,Nat.le_trans T2.out.size (touch_put w2 w.heap.size _ _ _).size,fun b hb hn=>?_⟩
    exact((touch_put w2 w.heap.size _ _ _).block b (by omega) (fun e=>by omega)).trans (T2.out.block b hb hn))
  by_cases hv:x.var≠0
  ·have hv':(x.var != 0)=true:=by rw[bne_iff_ne];exact hv
   have HW:Hid (within σ v (f+1) [t]=if x.var=v then .yes f else .no f):=lh (by
    rw[within,HX.out,if_pos hv]
    by_cases h2:x.var=v
    ·rw[if_pos h2,if_pos h2]
    ·rw[if_neg h2,if_neg h2];cases f <;> rfl)
   clear hv
   by_cases h2:x.var=v
   ·have h2':(x.var == v)=true:=by rw[beq_iff_eq];exact h2
    have HW2:=lh (HW.out.trans (if_pos h2))
    clear h2
    go_wp2_with fail
    go_ret2
    rw[HW2.out]
    exact⟨T3.out,rfl,S3.out⟩
   ·have h2':(x.var == v)=false:=by rw[beq_eq_false_iff_ne];exact h2
    have HW2:=lh (HW.out.trans (if_neg h2))
    clear h2
    go_wp2_with fail
    go_ret2
    rw[HW2.out]
    exact⟨T3.out,rfl,S3.out⟩
  ·have hv':(x.var != 0)=false:=by
    have:x.var=0:=Decidable.of_not_not hv
    rw[this];rfl
   have HW:Hid (within σ v (f+1) [t]=within σ v f x.args):=lh (by rw[within,HX.out,if_neg hv,List.append_nil])
   clear hv
   have p0:=HP.out.c0;have p1:=HP.out.c1;have p2:=HP.out.c2
   have hlen:x.args.length≤9223372036854775807:=by have:=HT'.out.cap;unfold maxLen at this;omega
   have HT3:Hid (Ts (((w2.setCell ⟨w.heap.size,0,none⟩ (.int .i64 x.var)).setCell ⟨w.heap.size,1,none⟩ (.string x.name)).setCell ⟨w.heap.size,2,none⟩ (.slice a' x.args.length cap')) ok x.args a' cap') :=
    lh (HT'.out.keep ((touch_put _ _ _ _ _).keeps fun b hb e=>by have:=(HST.out.okb _ hb).1;omega))
   go_wp2_with fail
   clear p0 p1 p2 HP HT' S2 T2 T1 HS1 HB2 b0 b1 b2 bz hbx hbx2 hK1 S0 HN HX hsz HF'
   generalize (((w2.setCell ⟨w.heap.size,0,none⟩ (.int .i64 x.var)).setCell ⟨w.heap.size,1,none⟩ (.string x.name)).setCell ⟨w.heap.size,2,none⟩ (.slice a' x.args.length cap'))=w3 at *
   generalize x.args=l at *
   go_loopw[28] (fun i wr=>∃ k fk,k≤l.length∧i=.int .i64 (k:Nat)∧fk≤f∧Hid (within σ v f l=within σ v fk (l.drop k))∧StAt wr ok bs bm tv σ L (4000-fk)∧Touch (StM bs bm tv) w3 wr) (fun i _=>l.length-(intOf i).toNat)
   case atStart=>exact⟨0,f,Nat.zero_le _,rfl,Nat.le_refl _,lh rfl,S3.out,Touch.refl _ _⟩
   case round =>
    obtain⟨k,fk,hk,rfl,hfk,HWk,hsk,htk⟩:=hrel
    have hkk:Keeps ok w3 wr:=S3.out.keeps htk
    have SK:=lh hsk;have TK:=lh htk;have KK:=lh hkk
    clear hsk htk hkk
    by_cases hlt:k<l.length
    ·obtain⟨b,off,a2,cap2,rfl,hokb,hbs,hc3,ht3⟩:=HT3.out.at k hlt
     have hcv:=(KK.out.cell (p:=⟨b,off+k*3,none⟩) hokb hbs).trans hc3.var
     have hcn:=(KK.out.cell (p:=⟨b,off+k*3+1,none⟩) hokb hbs).trans hc3.name
     have hca:=(KK.out.cell (p:=⟨b,off+k*3+2,none⟩) hokb hbs).trans hc3.args
     have HF2:=lh hc3.fits
     have HT2:=lh ht3
     clear hc3 ht3
     have BA:Below wr.heap.size wr (wr.alloc (.cells #[.int .i64 l[k].var,.string l[k].name,.slice a2 l[k].args.length cap2] 71)):=(Below.refl _ _).alloc (Nat.le_refl _) _
     have SA:=lh (SK.out.keep BA)
     have hsplit:within σ v fk (l.drop k)=(within σ v fk [l[k]]).then fun f'=>within σ v f' (l.drop (k+1)):=by
      rw[← within_append,List.singleton_append,← List.drop_eq_getElem_cons hlt]
     have HSP:=lh hsplit
     clear hsplit
     go_wp2_with fail
     refine(IH.out fk (by omega) l[k] a2 cap2 _ (by omega) SA.out HF2.out (HT2.out.keep (KK.out.trans (Keeps.below BA ok)))).mono ?_
     intro e w4 hpost
     have HLE:=lh (within_le σ v fk [l[k]])
     generalize within σ v fk [l[k]]=o at *
     cases o with
     | yes f' =>
      obtain⟨ht4,rfl,hs4⟩:=hpost
      have HS4:=lh hs4;have HT4:=lh ht4
      have HR:Hid (within σ v f l=.yes f'):=lh (by rw[HWk.out,HSP.out];rfl)
      clear hs4 ht4
      go_wp2_with fail
      go_ret2
      rw[HW.out,HR.out]
      exact⟨T3.out.trans ((TK.out.trans (Touch.below BA)).trans HT4.out),rfl,HS4.out⟩
     | no f' =>
      obtain⟨ht4,rfl,hs4⟩:=hpost
      have HS4:=lh hs4;have HT4:=lh ht4
      have HR:Hid (within σ v f l=within σ v f' (l.drop (k+1))):=lh (by rw[HWk.out,HSP.out];rfl)
      have hf':f'≤fk:=HLE.out.2 f' rfl
      clear hs4 ht4
      go_wp2_with fail
      go_roundw
      case rel=>exact⟨k+1,f',by omega,by go_num,by omega,HR.out,HS4.out,(TK.out.trans (Touch.below BA)).trans HT4.out⟩
      case measure=>simp[intOf];omega
     | many =>
      obtain⟨ht4,rfl,hs4⟩:=hpost
      have HS4:=lh hs4;have HT4:=lh ht4
      have HR:Hid (within σ v f l=.many):=lh (by rw[HWk.out,HSP.out];rfl)
      clear hs4 ht4
      go_wp2_with fail
      go_ret2
      rw[HW.out,HR.out]
      exact⟨T3.out.trans ((TK.out.trans (Touch.below BA)).trans HT4.out),rfl,HS4.out⟩
    ·have HR:Hid (within σ v f l=.no fk):=lh (by rw[HWk.out,List.drop_eq_nil_of_le (by omega)];cases fk <;> rfl)
     go_wp2_with fail
     go_ret2
     rw[HW.out,HR.out]
     exact⟨T3.out.trans TK.out,rfl,SK.out⟩
def bindS(v:Int)(t:Tm):Int×Tm:=if v<t.var then (t.var,.mk v ⟨#[]⟩ []) else (v,t)
def upd(σ:Sub)(k:Int)(u:Tm):Sub:=fun x=>if x=k then some u else σ x
def BindPost(w:World)(ok:Nat→Prop)(bs bm:Nat)(tv:Value)(σ:Sub)(L:List Int)(v:Int)(t:Tm)(o:WOut)(e:Ending)(w':World):Prop :=
 Touch (StM bs bm tv) w w' ∧
 match o with
 | .yes f=>e=.returned (.tuple #[.bool false,.int .i64 0])∧StAt w' ok bs bm tv σ L (4000-f)
 | .no f=>e=.returned (.tuple #[.bool true,.int .i64 0])∧∃ tv',Fresh w tv tv'∧StAt w' ok bs bm tv' (upd σ (bindS v t).1 (bindS v t).2) (L++[(bindS v t).1]) (4000-f)
 | .many=>e=.returned (.tuple #[.bool false,.int .i64 2])∧StAt w' ok bs bm tv σ L 4001
theorem Try.infoI:(Try.prog.info? 3).map (fun i=>(i.zero,i.size,i.bytes))=some (some (.int .i64 0),1,8):=by kernel_rfl
theorem Ts.empty'(w:World)(ok:Nat→Prop):Ts w ok [] none 0 :=
 .mk [] none 0 ⟨Nat.le_refl _,Nat.zero_le _,fun _=>rfl⟩ (fun _=>(none,0)) (fun i hi=>by cases hi) (fun i hi=>by cases hi)
structure StMid(w:World)(ok:Nat→Prop)(bs bm:Nat)(tv:Value)(σ:Int→Option Tm)(L:List Int)(wk:Nat):Prop where
 blk:w.heap[bs]? = some (.cells #[.map (some bm),tv,.int .i64 wk] 121 (0,0))
 trail:w.ownsRow 0 3 1 tv L.length (L.map (Value.int .i64))
 map:∃ f,IMap Try.prog 3 w bm (L.length+1) f∧∀ k,MapTm w ok (σ k) (f k)
 ne:bs≠bm∧tv.ownBlock≠some bs∧tv.ownBlock≠some bm
 okb:∀ b,ok b→b<w.heap.size∧¬ StM bs bm tv b
theorem StMid.cell1{w:World}{ok:Nat→Prop}{bs bm:Nat}{tv:Value}{σ:Int→Option Tm}{L:List Int}{wk:Nat}(h:StMid w ok bs bm tv σ L wk):w.cell? ⟨bs,1,none⟩=some tv∧∀ o,w.frozen? ⟨bs,o,none⟩=false :=
 ⟨by simp[World.cell?,h.blk],fun o=>by simp[World.frozen?,h.blk]⟩
theorem own_shape{w:World}{base:Nat}{e:TypeId}{size:Nat}{v:Value}{n:Nat}{xs:List Value}(h:w.ownsRow base e size v n xs)(hn:1≤n):∃ g cap,v=.slice (some ⟨g,0,none⟩) n cap:=by
 rcases h.2 with ⟨_,h1⟩ | ⟨g,cap,cur,h1,_⟩
 ·omega
 ·exact⟨g,cap,h1⟩
theorem one_cell(w:World)(v:Value)(e:TypeId):∀ j u,[v][j]? = some u→(w.alloc (.cells #[v] e)).cell? ((⟨w.heap.size,0,none⟩:Addr).add j)=some u:=by
 intro j u hu
 have:j=0:=by
  have:=(List.getElem?_eq_some_iff.1 hu).1
  simpa using this
 subst this
 simp only[List.getElem?_cons_zero,Option.some.injEq] at hu
 subst hu
 simp[Addr.add,World.cell?,World.alloc,-World.alloc_eq]
theorem Fresh.old{w1 w0:World}{v v':Value}(h:Fresh w1 v v')(h2:w0.heap.size≤w1.heap.size):Fresh w0 v v':=by
 rcases h with h | h
 ·exact .inl h
 ·exact .inr fun g hg=>Nat.le_trans h2 (h g hg)
theorem StMid.push{w:World}{ok:Nat→Prop}{bs bm:Nat}{tv:Value}{σ:Int→Option Tm}{L:List Int}{wk:Nat}(h:StMid w ok bs bm tv σ L wk){k:Int}{tv':Value}{X3:World}
 (ho:X3.ownsRow 0 3 1 tv' (L.length+1) (L.map (Value.int .i64)++[.int .i64 k])) (hg:(w.alloc (.cells #[.int .i64 k] 3)).grownBy X3 tv.ownBlock) (hf:Fresh (w.alloc (.cells #[.int .i64 k] 3)) tv tv') :
 StAt (X3.setCell ⟨bs,1,none⟩ tv') ok bs bm tv' σ (L++[k]) wk∧Fresh w tv tv'∧Touch (StM bs bm tv) w (X3.setCell ⟨bs,1,none⟩ tv'):=by
 obtain⟨f,h1,h2⟩:=h.map
 have hlt:bs<w.heap.size:=(Array.getElem?_eq_some_iff.1 h.blk).1
 have hA:Touch (StM bs bm tv) w (w.alloc (.cells #[.int .i64 k] 3)):=Touch.below ((Below.refl _ _).alloc (Nat.le_refl _) _)
 have hG:Touch (StM bs bm tv) (w.alloc (.cells #[.int .i64 k] 3)) X3:=Touch.grown hg (fun k e=>.inr (.inr e))
 have hS:Touch (StM bs bm tv) X3 (X3.setCell ⟨bs,1,none⟩ tv'):=Touch.setCell _ (.inl rfl)
 have hT:=(hA.trans hG).trans hS
 have hF:Fresh w tv tv':=hf.old (by simp)
 have hbs:X3.heap[bs]? = w.heap[bs]?:=(hg.block bs (by simp;omega) (fun e=>h.ne.2.1 e.symm)).trans (Below.heap_alloc _ _ _ hlt)
 have hbm:X3.heap[bm]? = w.heap[bm]?:=(hg.block bm (by have:=h1.lt;simp;omega) (fun e=>h.ne.2.2 e.symm)).trans (Below.heap_alloc _ _ _ h1.lt)
 have hne:tv'.ownBlock≠some bs∧tv'.ownBlock≠some bm:=by
  rcases hF with e | e
  ·rw[e];exact h.ne.2
  ·exact⟨fun x=>by have:=e bs x;omega,fun x=>by have:=e bm x;have:=h1.lt;omega⟩
 have hK:Keeps ok w (X3.setCell ⟨bs,1,none⟩ tv'):=hT.keeps fun b hb=>(h.okb b hb).2
 refine⟨⟨?_,?_,⟨f,?_,fun x=>(h2 x).keep hK⟩,⟨h.ne.1,hne⟩,fun b hb=>⟨Nat.lt_of_lt_of_le (h.okb b hb).1 hT.size,?_⟩⟩,hF,hT⟩
 ·rw[heap_setCell_at _ _ _ _ (hbs.trans h.blk)];rfl
 ·have:(L++[k]).map (Value.int .i64)=L.map (Value.int .i64)++[.int .i64 k]:=by simp
  rw[this,List.length_append]
  exact ho.kept (row:=some bs) ⟨hS.os,hS.tape,hS.output,hS.size,fun j _ hj=>Below.heap_setCell _ _ _ _ (fun e=>hj (by rw[e]))⟩ (.inr hne.1)
 ·have e:(L++[k]).length=L.length+1:=by simp
  rw[e]
  exact h1.kept ((Below.heap_setCell _ _ _ _ (fun e=>h.ne.1 e.symm)).trans hbm)
 ·rintro (rfl | rfl | e)
  ·exact(h.okb _ hb).2 (.inl rfl)
  ·exact(h.okb _ hb).2 (.inr (.inl rfl))
  ·rcases hF with e2 | e2
   ·exact(h.okb _ hb).2 (.inr (.inr (e2 ▸ e)))
   ·have:=e2 b e;have:=(h.okb b hb).1;omega
theorem StMid.after{w:World}{ok:Nat→Prop}{bs bm:Nat}{tv:Value}{σ:Int→Option Tm}{L:List Int}{wk:Nat}(h:StMid w ok bs bm tv σ L wk){o:Obj}{X3:World}(hg:(w.alloc o).grownBy X3 tv.ownBlock) :
 X3.cell? ⟨bs,1,none⟩=some tv∧∀ o,X3.frozen? ⟨bs,o,none⟩=false:=by
 have hlt:bs<w.heap.size:=(Array.getElem?_eq_some_iff.1 h.blk).1
 have hbs:X3.heap[bs]? = w.heap[bs]?:=(hg.block bs (by simp;omega) (fun e=>h.ne.2.1 e.symm)).trans (Below.heap_alloc _ _ _ hlt)
 have hb:=hbs.trans h.blk
 exact⟨by simp[World.cell?,hb],fun o=>by simp[World.frozen?,hb]⟩
theorem StAt.store{w:World}{ok:Nat→Prop}{bs bm:Nat}{tv:Value}{σ:Int→Option Tm}{L:List Int}{wk:Nat}(h:StAt w ok bs bm tv σ L wk){k:Int}(hk:I64 k)(hn:σ k=none)(hL:L.length≤1000000){u:Tm}(hf:u.fits){a:Option Addr}{cap:Nat}(ht:Ts w ok u.args a cap) :
 ∃ w',(Instr.mapUpdate 119 (.map (some bm)) (.int .i64 k) (.agg #[.int .i64 u.var,.string u.name,.slice a u.args.length cap])).run Try.prog w=.ok () w'∧StMid w' ok bs bm tv (upd σ k u) L wk∧w.grownBy w' (some bm):=by
 obtain⟨f,h1,h2⟩:=h.map
 have hfk:f k=none:=by have:=h2 k;rw[hn] at this;exact this
 obtain⟨w',hrun,h3,hg⟩:=h1.store keyedI Try.underlying3 Try.underlying119 (by unfold maxLen;omega) hk (.agg #[.int .i64 u.var,.string u.name,.slice a u.args.length cap]) hfk
 have hT:Touch (StM bs bm tv) w w':=Touch.grown hg (fun k e=>by cases e;exact .inr (.inl rfl))
 have hK:=h.keeps hT
 refine⟨w',hrun,⟨(hg.block bs h.lt (fun e=>h.ne.1 (by injection e))).trans h.blk,h.trail.kept hg (.inr h.ne.2.2),⟨_,h3,fun x=>?_⟩,h.ne,fun b hb=>⟨Nat.lt_of_lt_of_le (h.okb b hb).1 hg.size,(h.okb b hb).2⟩⟩,hg⟩
 by_cases e:x=k
 ·subst e
  simp only[upd,setAt,if_true]
  exact⟨a,cap,rfl,hf,ht.keep hK⟩
 ·simp only[upd,setAt,if_neg e]
  exact(h2 x).keep hK
set_option maxRecDepth 100000 in
set_option maxHeartbeats 4000000 in
theorem bindW{ok:Nat→Prop}{bs bm:Nat}{tv:Value}{σ:Sub}{L:List Int}(hE:Ends σ)(v:Int)(f:Nat)(t:Tm)(a:Option Addr)(cap:Nat)(w:World)(hf4:f≤4000)(hst:StAt w ok bs bm tv σ L (4000-f))(hfit:t.fits)(hts:Ts w ok t.args a cap)
 (hvi:I64 v) (hvn:σ v=none) (htn:v<t.var→σ t.var=none) (hL:L.length≤1000000) :
 Calls Try.prog 122 #[.pointer (some ⟨bs,0,none⟩),.int .i64 v,.agg #[.int .i64 t.var,.string t.name,.slice a t.args.length cap]] w (BindPost w ok bs bm tv σ L v t (within σ v f [t])):=by
 have HE:=lh hE;have HST:=lh hst;have HF:=lh hfit;have HT:=lh hts
 clear hE hst hfit hts
 have HVI:=lh hvi;have HVN:=lh hvn;have HTN:=lh htn
 clear hvi hvn htn
 have B0:Below w.heap.size w (w.alloc (.cells #[.int .i64 t.var,.string t.name,.slice a t.args.length cap] 71)):=(Below.refl _ _).alloc (Nat.le_refl _) _
 have S0:=lh (HST.out.keep B0)
 go_enter Try.func122,Try.ntmps122
 go_wp2_with fail
 refine(standsW HE.out v f t a cap _ hf4 S0.out HF.out (HT.out.keep (Keeps.below B0 ok))).mono ?_
 intro e w1 hpost
 have HLE:=lh (within_le σ v f [t])
 generalize within σ v f [t]=o at *
 cases o with
 | yes f' =>
  obtain⟨ht1,rfl,hs1⟩:=hpost
  have HS1:=lh hs1;have HT1:=lh ht1
  clear hs1 ht1
  go_wp2_with fail
  go_ret2
  exact⟨(Touch.below B0).trans HT1.out,rfl,HS1.out⟩
 | many =>
  obtain⟨ht1,rfl,hs1⟩:=hpost
  have HS1:=lh hs1;have HT1:=lh ht1
  clear hs1 ht1
  go_wp2_with fail
  go_ret2
  exact⟨(Touch.below B0).trans HT1.out,rfl,HS1.out⟩
 | no f' =>
  obtain⟨ht1,rfl,hs1⟩:=hpost
  have hbx:Box3 w1 w.heap.size (.int .i64 t.var) (.string t.name) (.slice a t.args.length cap):=(Box3.made w _ _ _).keep (ht1.block _ (by simp) (HST.out.notM (Nat.le_refl _)))
  have b0:=hbx.c0;have b1:=hbx.c1;have b2:=hbx.c2;have bz:=hbx.fz
  have T1:=lh ((Touch.below (M:=StM bs bm tv) B0).trans ht1)
  have HK1:=lh (HST.out.keeps T1.out)
  have HS1:=lh hs1
  clear hs1 ht1
  by_cases hlt:v<t.var
  ·go_wp2_with fail
   have hput:=hbx.put (.int .i64 v) (.string ⟨#[]⟩) (.slice none 0 0)
   have HSX:Hid (StAt (((w1.setCell ⟨w.heap.size,0,none⟩ (.int .i64 v)).setCell ⟨w.heap.size,1,none⟩ (.string ⟨#[]⟩)).setCell ⟨w.heap.size,2,none⟩ (.slice none 0 0)) ok bs bm tv σ L (4000-f')) :=
    lh (HS1.out.touch (touch_put _ _ _ _ _) (fun b hb=>by subst hb;exact⟨HST.out.notM (Nat.le_refl _),fun hk=>by have:=(HST.out.okb _ hk).1;omega⟩))
   have HTX:Hid (Touch (StM bs bm tv) w (((w1.setCell ⟨w.heap.size,0,none⟩ (.int .i64 v)).setCell ⟨w.heap.size,1,none⟩ (.string ⟨#[]⟩)).setCell ⟨w.heap.size,2,none⟩ (.slice none 0 0))) :=
    lh ⟨T1.out.os,T1.out.tape,T1.out.output,Nat.le_trans T1.out.size (touch_put w1 w.heap.size _ _ _).size,fun b hb hn=>((touch_put w1 w.heap.size _ _ _).block b (Nat.lt_of_lt_of_le hb T1.out.size) (fun e=>by omega)).trans (T1.out.block b hb hn)⟩
   clear b0 b1 b2 bz hbx HS1 T1 HK1
   generalize ((w1.setCell ⟨w.heap.size,0,none⟩ (.int .i64 v)).setCell ⟨w.heap.size,1,none⟩ (.string ⟨#[]⟩)).setCell ⟨w.heap.size,2,none⟩ (.slice none 0 0)=X at *
   have b0:=hput.c0;have b1:=hput.c1;have b2:=hput.c2
   have HKI:Hid (I64 t.var):=lh HF.out.1
   have HKN:Hid (σ t.var=none):=lh (HTN.out hlt)
   have HUF:Hid (Tm.fits (.mk v ⟨#[]⟩ [])):=lh ⟨HVI.out,Nat.zero_le _⟩
   have HUT:Hid (Ts X ok (Tm.args (.mk v ⟨#[]⟩ [])) none 0):=lh (Ts.empty' _ _)
   have HB:Hid (bindS v t=(t.var,.mk v ⟨#[]⟩ [])):=lh (by unfold bindS;rw[if_pos hlt])
   clear hlt
   have hs0:=HSX.out.cells.1;have hs1:=HSX.out.cells.2.1;have hs2:=HSX.out.cells.2.2.2
   have HSD:=lh (HSX.out.keep ((Below.refl _ _).drew))
   obtain⟨X1,hrun,hst1,hg1⟩:=HSD.out.store HKI.out HKN.out (by omega) HUF.out (HUT.out.keep (Keeps.below ((Below.refl _ _).drew) ok))
   replace hrun:(Instr.mapUpdate 119 (.map (some bm)) (.int .i64 t.var) (.agg #[.int .i64 v,.string ⟨#[]⟩,.slice none 0 0])).run Try.prog X.drew=.ok () X1:=hrun
   have HST1:=lh hst1;have HG1:=lh hg1
   obtain⟨x1,fz1⟩:=HST1.out.cell1
   have HT1:Hid (Touch (StM bs bm tv) w X1):=lh (HTX.out.trans ((Touch.below ((Below.refl _ _).drew)).trans (Touch.grown (w:=X.drew) hg1 (fun k e=>by cases e;exact .inr (.inl rfl)))))
   clear hst1 hg1 HG1
   obtain⟨i0,hi,hz0,hz1,hz2⟩:=info_parts Try.infoI
   have hown:=lh (HST1.out.trail.alloc (.cells #[.int .i64 t.var] 3))
   go_region
   all_goals
    go_wp2_with (at_builtin;refine wpList_append_fresh _ rfl _ _ 27 rfl 0 3 i0 _ 1 8 Try.underlying27 hi hz0 hz1 hz2 rfl (by decide) _ _ _ rfl hown.out ⟨X1.heap.size,0,none⟩ 1 1 [.int .i64 t.var] rfl rfl ?c1 ?c2 ?c3 ?c4 ?c5 ?_)
    ·exact one_cell _ _ _
    ·intro u hu;simp only[List.mem_singleton] at hu;subst hu;rfl
    ·unfold maxLen;omega
    ·omega
    ·omega
    ·intro tv' X3 hown3 hg3 hfr3
     obtain⟨g3,cap3,rfl⟩:=own_shape hown3 (by omega)
     have hp:=HST1.out.push hown3 hg3 hfr3
     have HP:=lh hp
     obtain⟨y1,fz3⟩:=HST1.out.after hg3
     clear hp hown3 hg3 hfr3 hown
     go_wp2_with fail
     go_ret2
     exact⟨HT1.out.trans HP.out.2.2,rfl,_,HP.out.2.1.old HT1.out.size,by rw[HB.out];exact HP.out.1⟩
  ·have hlt':t.var≤v:=by omega
   go_wp2_with fail
   have HKI:Hid (I64 v):=HVI
   have HKN:Hid (σ v=none):=HVN
   have HUF:Hid t.fits:=HF
   have HUT:Hid (Ts w1 ok t.args a cap):=lh (HT.out.keep HK1.out)
   have HSX:=HS1;have HTX:=T1
   have HB:Hid (bindS v t=(v,t)):=lh (by unfold bindS;rw[if_neg (by omega)])
   clear hlt hlt' HS1 T1 HK1
   generalize w1=X at *
   have hs0:=HSX.out.cells.1;have hs1:=HSX.out.cells.2.1;have hs2:=HSX.out.cells.2.2.2
   have HSD:=lh (HSX.out.keep ((Below.refl _ _).drew))
   obtain⟨X1,hrun,hst1,hg1⟩:=HSD.out.store HKI.out HKN.out (by omega) HUF.out (HUT.out.keep (Keeps.below ((Below.refl _ _).drew) ok))
   have HST1:=lh hst1;have HG1:=lh hg1
   obtain⟨x1,fz1⟩:=HST1.out.cell1
   have HT1:Hid (Touch (StM bs bm tv) w X1):=lh (HTX.out.trans ((Touch.below ((Below.refl _ _).drew)).trans (Touch.grown (w:=X.drew) hg1 (fun k e=>by cases e;exact .inr (.inl rfl)))))
   clear hst1 hg1 HG1
   obtain⟨i0,hi,hz0,hz1,hz2⟩:=info_parts Try.infoI
   have hown:=lh (HST1.out.trail.alloc (.cells #[.int .i64 v] 3))
   go_region
   all_goals
    go_wp2_with (at_builtin;refine wpList_append_fresh _ rfl _ _ 27 rfl 0 3 i0 _ 1 8 Try.underlying27 hi hz0 hz1 hz2 rfl (by decide) _ _ _ rfl hown.out ⟨X1.heap.size,0,none⟩ 1 1 [.int .i64 v] rfl rfl ?d1 ?d2 ?d3 ?d4 ?d5 ?_)
    ·exact one_cell _ _ _
    ·intro u hu;simp only[List.mem_singleton] at hu;subst hu;rfl
    ·unfold maxLen;omega
    ·omega
    ·omega
    ·intro tv' X3 hown3 hg3 hfr3
     obtain⟨g3,cap3,rfl⟩:=own_shape hown3 (by omega)
     have hp:=HST1.out.push hown3 hg3 hfr3
     have HP:=lh hp
     obtain⟨y1,fz3⟩:=HST1.out.after hg3
     clear hp hown3 hg3 hfr3 hown
     go_wp2_with fail
     go_ret2
     exact⟨HT1.out.trans HP.out.2.2,rfl,_,HP.out.2.1.old HT1.out.size,by rw[HB.out];exact HP.out.1⟩
end Go.Proofs.Ytikmgiapjigghab
