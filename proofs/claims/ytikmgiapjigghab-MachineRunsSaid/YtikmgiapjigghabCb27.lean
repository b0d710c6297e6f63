/- Walks: a machine's There, whole. -/
import Derived.RangeFuncNested
import Derived.RangeFuncBound
import Derived.RangeFuncCalls
import Derived.RangeFuncLeaves
import Derived.RangeFuncFrom
import Derived.Shelf.Abstract
import Derived.WalkKit
import Derived.OwnWalkIn
import Derived.TacticsInMore
import Derived.LoopNIn
import Derived.LoopIn
import Derived.Lib.SliceRun
import Derived.Test.YtikmgiapjigghabCb15
import Derived.Test.YtikmgiapjigghabCb17
import Derived.Test.YtikmgiapjigghabCb24
import Derived.Test.YtikmgiapjigghabCb26
namespace Go.Proofs.Ytikmgiapjigghab
open Go.RowKit
theorem run_store_func'{P:Program}{w:World}{a:Addr}{m:Mode}(f:Fn)(x y:Array Value):(store a (.func f x y) m).run P w=stored P w a (.func f x y) m:=run_store P w a _ m rfl
attribute [local go_sem] run_store_func'
def NearH(H:List HC):Prop:=∀ i,i<H.length→(hc H i).k=2→0≤(hc H i).n∧(hc H i).n≤4
set_option maxRecDepth 100000 in
set_option maxHeartbeats 1600000 in
theorem ThereW(m:Mac)(d:MAd){w:World}{ok:Nat→Prop}(h:MacAt w ok m d)(hN:NearH m.H)(hlen:m.H.length≤400000) :
 Calls Try.prog 51 #[.agg #[.slice d.h m.H.length d.hn,.slice d.g m.G.length d.gn,.int .i64 m.first,.slice d.c m.ch.length d.cn,.slice d.t m.T.length d.tn,.slice d.q m.Q.length d.qn,.int .i64 m.steps,.int .i64 m.fin,.slice d.a m.ans.length d.an]] w
  fun e w'=>e=.returned (.bool (thereB m))∧Below w.heap.size w w':=by
 obtain⟨dh,dg,dc,dt,dq,da,dhn,dgn,dcn,dtn,dqn,dan⟩:=d
 simp only
 have HM:Hid (MacAt w (fun b=>b<w.heap.size) m ⟨dh,dg,dc,dt,dq,da,dhn,dgn,dcn,dtn,dqn,dan⟩):=lh (h.mono fun b hb _=>hb)
 have HNR:=lh hN
 have hn9:m.H.length≤9223372036854775807:=by omega
 have B1:Below w.heap.size w (w.alloc (.cells (m.vals ⟨dh,dg,dc,dt,dq,da,dhn,dgn,dcn,dtn,dqn,dan⟩).toArray 30)):=(Below.refl _ _).alloc (Nat.le_refl _) _
 have hsz:(w.alloc (.cells (m.vals ⟨dh,dg,dc,dt,dq,da,dhn,dgn,dcn,dtn,dqn,dan⟩).toArray 30)).heap.size=w.heap.size+1:=by simp
 have HB2:Hid (Below w.heap.size w ((w.alloc (.cells (m.vals ⟨dh,dg,dc,dt,dq,da,dhn,dgn,dcn,dtn,dqn,dan⟩).toArray 30)).alloc (.cells #[.func (.func 79) #[] #[.pointer (some ⟨w.heap.size,0,none⟩)]] 123))):=lh (B1.alloc B1.size _)
 have HX:Hid (MBox ((w.alloc (.cells (m.vals ⟨dh,dg,dc,dt,dq,da,dhn,dgn,dcn,dtn,dqn,dan⟩).toArray 30)).alloc (.cells #[.func (.func 79) #[] #[.pointer (some ⟨w.heap.size,0,none⟩)]] 123)) w.heap.size m ⟨dh,dg,dc,dt,dq,da,dhn,dgn,dcn,dtn,dqn,dan⟩):=lh ((MBox.made w m ⟨dh,dg,dc,dt,dq,da,dhn,dgn,dcn,dtn,dqn,dan⟩).below ((Below.refl _ _).alloc (Nat.le_refl _) _))
 have HF:Hid (((w.alloc (.cells (m.vals ⟨dh,dg,dc,dt,dq,da,dhn,dgn,dcn,dtn,dqn,dan⟩).toArray 30)).alloc (.cells #[.func (.func 79) #[] #[.pointer (some ⟨w.heap.size,0,none⟩)]] 123)).heap[w.heap.size+1]? = some (.cells #[.func (.func 79) #[] #[.pointer (some ⟨w.heap.size,0,none⟩)]] 123 (0,0))):=lh (by rw[← hsz];exact heap_alloc_new _ _)
 clear h hN B1 hsz
 simp only[Mac.vals] at HX HF HB2
 go_enter Try.func51,Try.ntmps51
 go_wp2_with fail
 go_loopw[10] (fun x10 wr=>∃ i:Nat,i≤m.H.length∧x10=.int .i64 i∧Hid (MBox wr w.heap.size m ⟨dh,dg,dc,dt,dq,da,dhn,dgn,dcn,dtn,dqn,dan⟩)∧Hid (wr.heap[w.heap.size+1]? = some (.cells #[.func (.func 79) #[] #[.pointer (some ⟨w.heap.size,0,none⟩)]] 123 (0,0)))∧Hid (Below w.heap.size w wr)∧Hid (w.heap.size+2≤wr.heap.size)∧Hid (∀ j,j<i→CellIn m.H j)) (fun x10 _=>m.H.length-(intOf x10).toNat)
 case atStart=>exact⟨0,Nat.zero_le _,rfl,HX,HF,HB2,lh (by simp),lh fun j h=>absurd h (Nat.not_lt_zero j)⟩
 case round =>
  obtain⟨i,hi,rfl,HX2,HF2,HB3,HS3,HI⟩:=hrel
  have HN:Hid (NoAt wr w.heap.size (w.heap.size+1) m.H.length dhn dh):=lh ⟨HX2.out.all.1,by rw[Lib.cell_of_heap HF2.out];rfl,by have:=HS3.out;omega⟩
  by_cases hlt:i<m.H.length
  ·obtain⟨b,off,hda,hokb,hb,c0,c1,c2,hf⟩:=HM.out.h.at' i hlt
   have hda':dh=some ⟨b,off,none⟩:=hda
   clear hda
   subst hda'
   have m0:=(HB3.out.cell (p:=⟨b,off+i*3,none⟩) hb).trans c0
   have m1:=(HB3.out.cell (p:=⟨b,off+i*3+1,none⟩) hb).trans c1
   have m2:=(HB3.out.cell (p:=⟨b,off+i*3+2,none⟩) hb).trans c2
   obtain⟨x0,-⟩:=HX2.out.all
   have f0:wr.cell? ⟨w.heap.size+1,0,none⟩=some (.func (.func 79) #[] #[.pointer (some ⟨w.heap.size,0,none⟩)]):=HN.out.fn
   have z1:w.heap.size+1<wr.heap.size:=HN.out.lt.2
   have z0:w.heap.size<wr.heap.size:=HN.out.lt.1
   clear c0 c1 c2 hf hokb
   have hcb:(m.H.length:Int)≤400000:=by omega
   have HNX:Hid (∀ X,Calls Try.prog 79 #[.int .i64 (hc m.H i).n,.pointer (some ⟨w.heap.size,0,none⟩)] (wr.alloc X) fun e w'=>e=.returned (.bool (!decide (InH m.H.length (hc m.H i).n)))∧w'=wr.alloc X):=lh fun X =>
    NoW w.heap.size m.H.length dhn (some ⟨b,off,none⟩) (hc m.H i).n _ (HN.out.below ((Below.refl _ _).alloc (Nat.le_refl _) X)).mac hn9
   have HNR2:=HNR.out i hlt
   by_cases hk1:(hc m.H i).k=1
   ·have hk2:(hc m.H i).k≠2:=by omega
    rw[hk1] at m0
    have BB:Hid (Below wr.heap.size wr (wr.alloc (.cells #[.int .i64 1,.int .i64 (hc m.H i).n,.string (hc m.H i).name] 69))):=lh ((Below.refl _ _).alloc (Nat.le_refl _) _)
    by_cases hin:InH m.H.length (hc m.H i).n
    ·rw[decide_eq_true hin] at HNX
     have HI2:Hid (∀ j,j<i+1→CellIn m.H j):=lh fun j hj=>by
      by_cases e:j=i
      ·subst e;exact⟨fun _=>hin,fun e=>absurd e hk2⟩
      ·exact HI.out j (by omega)
     clear hin hk1 hk2 HNR2
     go_wp2_with (go_at_call 79;refine(HNX.out _).mono ?_;rintro e w1 ⟨rfl,rfl⟩)
     go_roundw
     case measure=>simp only[intOf];omega
     case rel=>exact⟨i+1,by omega,by go_num,lh (HX2.out.below BB.out),lh ((BB.out.block _ z1).trans HF2.out),lh (HB3.out.trans (BB.out.mono (Nat.le_of_lt z0))),lh (Nat.le_trans HS3.out BB.out.size),HI2⟩
    ·rw[decide_eq_false hin] at HNX
     have HT:Hid (thereB m=false):=lh (pd_false fun h=>hin ((h.cells i hlt).1 hk1))
     clear hin hk1 hk2 HNR2
     go_wp2_with (go_at_call 79;refine(HNX.out _).mono ?_;rintro e w1 ⟨rfl,rfl⟩)
     go_ret
     rw[HT.out]
     exact⟨rfl,HB3.out.trans (BB.out.mono (Nat.le_of_lt z0))⟩
   ·have hk1':((hc m.H i).k == 1)=false:=by simpa using hk1
    have BB:Hid (∀ k,Below wr.heap.size wr (wr.alloc (.cells #[.int .i64 k,.int .i64 (hc m.H i).n,.string (hc m.H i).name] 69))):=lh fun k=>((Below.refl _ _).alloc (Nat.le_refl _) _)
    by_cases hk2:(hc m.H i).k=2
    ·have BB:=lh (BB.out 2)
     obtain⟨n0,n4⟩:=HNR2 hk2
     rw[hk2] at m0 hk1'
     by_cases hin:(i:Int)+(hc m.H i).n<(m.H.length:Int)
     ·have HI2:Hid (∀ j,j<i+1→CellIn m.H j):=lh fun j hj=>by
       by_cases e:j=i
       ·subst e;exact⟨fun e=>absurd e hk1,fun _=>hin⟩
       ·exact HI.out j (by omega)
      clear hk1 hk2 HNR2
      go_wp2_with fail
      go_roundw
      case measure=>simp only[intOf];omega
      case rel=>exact⟨i+1,by omega,by go_num,lh (HX2.out.below BB.out),lh ((BB.out.block _ z1).trans HF2.out),lh (HB3.out.trans (BB.out.mono (Nat.le_of_lt z0))),lh (Nat.le_trans HS3.out BB.out.size),HI2⟩
     ·have HT:Hid (thereB m=false):=lh (pd_false fun h=>hin ((h.cells i hlt).2 hk2))
      clear hk1 hk2 HNR2
      go_wp2_with fail
      go_ret
      rw[HT.out]
      exact⟨rfl,HB3.out.trans (BB.out.mono (Nat.le_of_lt z0))⟩
    ·have hk2':((hc m.H i).k == 2)=false:=by simpa using hk2
     have BB:=lh (BB.out (hc m.H i).k)
     have HI2:Hid (∀ j,j<i+1→CellIn m.H j):=lh fun j hj=>by
      by_cases e:j=i
      ·subst e;exact⟨fun e=>absurd e hk1,fun e=>absurd e hk2⟩
      ·exact HI.out j (by omega)
     clear hk1 hk2 HNR2
     go_wp2_with fail
     go_roundw
     case measure=>simp only[intOf];omega
     case rel=>exact⟨i+1,by omega,by go_num,lh (HX2.out.below BB.out),lh ((BB.out.block _ z1).trans HF2.out),lh (HB3.out.trans (BB.out.mono (Nat.le_of_lt z0))),lh (Nat.le_trans HS3.out BB.out.size),HI2⟩
  ·have HCI:Hid (∀ j,j<m.H.length→CellIn m.H j):=lh fun j hj=>HI.out j (by omega)
   obtain⟨x0,x1,x2,x3,x4,x5,x6,x7,x8,-⟩:=HX2.out.all
   have f0:wr.cell? ⟨w.heap.size+1,0,none⟩=some (.func (.func 79) #[] #[.pointer (some ⟨w.heap.size,0,none⟩)]):=HN.out.fn
   have HB4:=lh (HM.out.keep (Keeps.below HB3.out _))
   have HG:=lh (HasGoalsW m.G HB4.out.g HN.out hn9)
   have HTI:Hid (∀ w',Below wr.heap.size wr w'→Calls Try.prog 82 #[.slice dt m.T.length dtn,.func (.func 79) #[] #[.pointer (some ⟨w.heap.size,0,none⟩)]] w' fun e w''=>e=.returned (.bool (!pd (∀ x,x∈m.T→InH m.H.length x)))∧w''=w'):=lh fun w' hb=>HasIntsW m.T (HB4.out.t.below hb) (HN.out.below hb) hn9
   have HQI:Hid (∀ w',Below wr.heap.size wr w'→Calls Try.prog 82 #[.slice dq m.Q.length dqn,.func (.func 79) #[] #[.pointer (some ⟨w.heap.size,0,none⟩)]] w' fun e w''=>e=.returned (.bool (!pd (∀ x,x∈m.Q→InH m.H.length x)))∧w''=w'):=lh fun w' hb=>HasIntsW m.Q (HB4.out.q.below hb) (HN.out.below hb) hn9
   have z0:w.heap.size≤wr.heap.size:=HB3.out.size
   by_cases hg:∀ x,x∈m.G→InH m.H.length x.at'
   ·by_cases ht:∀ x,x∈m.T→InH m.H.length x
    ·have HR:Hid (thereB m=pd (∀ x,x∈m.Q→InH m.H.length x)):=lh (by
      by_cases hq:∀ x,x∈m.Q→InH m.H.length x
      ·rw[pd_true hq];exact pd_true ⟨HCI.out,hg,ht,hq⟩
      ·rw[pd_false hq];exact pd_false fun h=>hq h.query)
     rw[pd_true hg] at HG
     rw[pd_true ht] at HTI
     clear hg ht
     generalize pd (∀ x,x∈m.Q→InH m.H.length x)=q at *
     go_wp2_with (first
      | (go_at_call 80;refine HG.out.mono ?_;rintro e w1 ⟨rfl,hb1⟩;have HB1:=lh hb1;have f1:=(hb1.cell (p:=⟨w.heap.size+1,0,none⟩) HN.out.lt.2).trans f0;have y4:=(hb1.cell (p:=⟨w.heap.size,4,none⟩) HN.out.lt.1).trans x4;have y5:=(hb1.cell (p:=⟨w.heap.size,5,none⟩) HN.out.lt.1).trans x5;clear hb1)
      | (go_at_call 82;refine(HTI.out _ HB1.out).mono ?_;rintro e w2 ⟨rfl,rfl⟩)
      | (go_at_call 82;refine(HQI.out _ HB1.out).mono ?_;rintro e w2 ⟨rfl,rfl⟩))
     go_ret
     rw[HR.out]
     refine⟨?_,HB3.out.trans (HB1.out.mono z0)⟩
     cases q <;> rfl
    ·have HR:Hid (thereB m=false):=lh (pd_false fun h=>ht h.trail)
     rw[pd_true hg] at HG
     rw[pd_false ht] at HTI
     clear hg ht
     go_wp2_with (first
      | (go_at_call 80;refine HG.out.mono ?_;rintro e w1 ⟨rfl,hb1⟩;have HB1:=lh hb1;have f1:=(hb1.cell (p:=⟨w.heap.size+1,0,none⟩) HN.out.lt.2).trans f0;have y4:=(hb1.cell (p:=⟨w.heap.size,4,none⟩) HN.out.lt.1).trans x4;clear hb1)
      | (go_at_call 82;refine(HTI.out _ HB1.out).mono ?_;rintro e w2 ⟨rfl,rfl⟩))
     go_ret
     rw[HR.out]
     exact⟨rfl,HB3.out.trans (HB1.out.mono z0)⟩
   ·have HR:Hid (thereB m=false):=lh (pd_false fun h=>hg h.goals)
    rw[pd_false hg] at HG
    clear hg
    go_wp2_with (go_at_call 80;refine HG.out.mono ?_;rintro e w1 ⟨rfl,hb1⟩;have HB1:=lh hb1;clear hb1)
    go_ret
    rw[HR.out]
    exact⟨rfl,HB3.out.trans (HB1.out.mono z0)⟩
end Go.Proofs.Ytikmgiapjigghab
namespace Go.Proofs.Ytikmgiapjigghab
open Go.RowKit
def GoalOk(G:List Gl)(i:Nat)(h:i<G.length):Prop:=0≤G[i].next∧G[i].next≤(i:Int)∧0≤G[i].cut
instance (G:List Gl) (i:Nat) (h:i<G.length):Decidable (GoalOk G i h):=inferInstanceAs (Decidable (_∧_))
def goalE(G:List Gl)(i:Nat):Int:=if h:i<G.length then (if GoalOk G i h then 0 else 4) else 0
theorem betw_true{n lo hi:Int}(h:lo≤n∧n≤hi):betw n lo hi=true:=by unfold betw;exact decide_eq_true h
theorem betw_false{n lo hi:Int}(h:¬ (lo≤n∧n≤hi)):betw n lo hi=false:=by unfold betw;exact decide_eq_false h
set_option maxRecDepth 100000 in
set_option maxHeartbeats 1600000 in
theorem GoalW(m:Mac)(d:MAd){w:World}{ok:Nat→Prop}(h:MacAt w ok m d)(i:Nat)(hi:i<m.G.length) :
 Calls Try.prog 52 #[.agg #[.slice d.h m.H.length d.hn,.slice d.g m.G.length d.gn,.int .i64 m.first,.slice d.c m.ch.length d.cn,.slice d.t m.T.length d.tn,.slice d.q m.Q.length d.qn,.int .i64 m.steps,.int .i64 m.fin,.slice d.a m.ans.length d.an],.int .i64 ((i:Int)+1)] w
  fun e w'=>e=.returned (.int .i64 (goalE m.G i))∧Below w.heap.size w w':=by
 obtain⟨dh,dg,dc,dt,dq,da,dhn,dgn,dcn,dtn,dqn,dan⟩:=d
 have HM:Hid (MacAt w (fun b=>b<w.heap.size) m ⟨dh,dg,dc,dt,dq,da,dhn,dgn,dcn,dtn,dqn,dan⟩):=lh (h.mono fun b hb _=>hb)
 have hcl:m.G.length≤9223372036854775807:=by have:=h.g.cap;unfold maxLen at this;omega
 obtain⟨b,off,hda,hokb,hb,hcs⟩:=HM.out.g.some (by decide) (Nat.lt_of_le_of_lt (Nat.zero_le _) hi)
 have hda':dg=some ⟨b,off,none⟩:=hda
 clear hda hokb h
 subst hda'
 obtain⟨g0,g1,g2⟩:=flatG_at m.G i hi
 have c0:=hcs _ _ g0
 have c1:w.cell? ⟨b,off+i*3+1,none⟩=_:=hcs _ _ g1
 have c2:w.cell? ⟨b,off+i*3+2,none⟩=_:=hcs _ _ g2
 clear hcs g0 g1 g2
 have HB1:Hid (∀ X Y,Below w.heap.size w ((w.alloc X).alloc Y)):=lh fun X Y=>((Below.refl _ _).alloc (Nat.le_refl _) X).alloc (by simp) Y
 by_cases h1:0≤m.G[i].next∧m.G[i].next≤(i:Int)
 ·have hbt:betw m.G[i].next 0 (i:Int)=true:=betw_true h1
  by_cases h2:m.G[i].cut<0
  ·have HR:Hid (goalE m.G i=4):=lh (by unfold goalE;rw[dif_pos hi,if_neg fun e:GoalOk m.G i hi=>by have:=e.2.2;omega])
   clear h1
   go_enter Try.func52,Try.ntmps52
   go_wp2_with (go_at_call 53;refine(withinW _ _ _ _).mono ?_;rintro e w1 ⟨rfl,rfl⟩)
   go_ret
   rw[HR.out]
   exact⟨rfl,HB1.out _ _⟩
  ·have HR:Hid (goalE m.G i=0):=lh (by unfold goalE;rw[dif_pos hi,if_pos (show GoalOk m.G i hi from ⟨h1.1,h1.2,by omega⟩)])
   clear h1
   go_enter Try.func52,Try.ntmps52
   go_wp2_with (go_at_call 53;refine(withinW _ _ _ _).mono ?_;rintro e w1 ⟨rfl,rfl⟩)
   go_ret
   rw[HR.out]
   exact⟨rfl,HB1.out _ _⟩
 ·have hbt:betw m.G[i].next 0 (i:Int)=false:=betw_false h1
  have HR:Hid (goalE m.G i=4):=lh (by unfold goalE;rw[dif_pos hi,if_neg fun e:GoalOk m.G i hi=>h1 ⟨e.1,e.2.1⟩])
  clear h1
  go_enter Try.func52,Try.ntmps52
  go_wp2_with (go_at_call 53;refine(withinW _ _ _ _).mono ?_;rintro e w1 ⟨rfl,rfl⟩)
  go_ret
  rw[HR.out]
  exact⟨rfl,HB1.out _ _⟩
def prevC(l:List Chi)(i:Nat):Chi:=(zeroChi::l).getD i zeroChi
theorem choicesOk_iff(np ng nh nt:Nat):∀ (l:List Chi) (was:Chi),ChoicesOk np ng nh nt was l↔∀ i (h:i<l.length),ChoiceOk np ng nh nt ((was::l).getD i zeroChi) l[i]:=by
 intro l
 induction l with
 | nil=>intro was;exact⟨fun _ i h=>absurd h (Nat.not_lt_zero i),fun _=>trivial⟩
 | cons c r ih =>
  intro was
  constructor
  ·rintro ⟨h1,h2⟩ i hi
   cases i with
   | zero=>exact h1
   | succ i=>exact(ih c).1 h2 i (by simpa using hi)
  ·intro h
   refine⟨h 0 (by simp),(ih c).2 fun i hi=>?_⟩
   exact h (i+1) (by simpa using hi)
theorem prevC_next(l:List Chi)(i:Nat)(h:i<l.length):prevC l (i+1)=l[i]:=by
 unfold prevC
 rw[List.getD_eq_getElem?_getD,List.getElem?_cons_succ,List.getElem?_eq_getElem h];rfl
noncomputable def choicesE(np:Nat)(m:Mac):Int:=if pd (ChoicesOk np m.G.length m.H.length m.T.length zeroChi m.ch)=true then 0 else 4
theorem choicesE_good{np:Nat}{m:Mac}(h:∀ i (h:i<m.ch.length),ChoiceOk np m.G.length m.H.length m.T.length (prevC m.ch i) m.ch[i]):choicesE np m=0:=by
 unfold choicesE;rw[if_pos (pd_true ((choicesOk_iff _ _ _ _ _ _).2 h))]
theorem choicesE_bad{np:Nat}{m:Mac}{i:Nat}(hi:i<m.ch.length)(h:¬ ChoiceOk np m.G.length m.H.length m.T.length (prevC m.ch i) m.ch[i]):choicesE np m=4:=by
 unfold choicesE
 rw[if_neg]
 rw[pd_false fun e=>h ((choicesOk_iff _ _ _ _ _ _).1 e i hi)]
 decide
structure CBox(w:World)(b:Nat)(c:Chi):Prop where
 blk:w.heap[b]? = some (.cells #[.int .i64 c.goal,.int .i64 c.clause,.int .i64 c.heap,.int .i64 c.trail,.int .i64 c.goals] 67 (0,0))
theorem CBox.all{w:World}{b:Nat}{c:Chi}(h:CBox w b c):w.cell? ⟨b,0,none⟩=some (.int .i64 c.goal)∧w.cell? ⟨b,1,none⟩=some (.int .i64 c.clause)∧w.cell? ⟨b,2,none⟩=some (.int .i64 c.heap)∧w.cell? ⟨b,3,none⟩=some (.int .i64 c.trail)∧w.cell? ⟨b,4,none⟩=some (.int .i64 c.goals)∧∀ o,w.frozen? ⟨b,o,none⟩=false:=by
 have h':=h.blk
 exact⟨by simp[World.cell?,h'],by simp[World.cell?,h'],by simp[World.cell?,h'],by simp[World.cell?,h'],by simp[World.cell?,h'],fun o=>by simp[World.frozen?,h']⟩
theorem CBox.lt{w:World}{b:Nat}{c:Chi}(h:CBox w b c):b<w.heap.size:=(Array.getElem?_eq_some_iff.1 h.blk).1
theorem CBox.keep{w w':World}{b:Nat}{c:Chi}(h:CBox w b c)(hb:w'.heap[b]? = w.heap[b]?):CBox w' b c:=⟨hb.trans h.blk⟩
theorem CBox.put{w:World}{b:Nat}{c0:Chi}(h:CBox w b c0)(c:Chi):CBox (((((w.setCell ⟨b,0,none⟩ (.int .i64 c.goal)).setCell ⟨b,1,none⟩ (.int .i64 c.clause)).setCell ⟨b,2,none⟩ (.int .i64 c.heap)).setCell ⟨b,3,none⟩ (.int .i64 c.trail)).setCell ⟨b,4,none⟩ (.int .i64 c.goals)) b c∧Touch (fun x=>x=b) w (((((w.setCell ⟨b,0,none⟩ (.int .i64 c.goal)).setCell ⟨b,1,none⟩ (.int .i64 c.clause)).setCell ⟨b,2,none⟩ (.int .i64 c.heap)).setCell ⟨b,3,none⟩ (.int .i64 c.trail)).setCell ⟨b,4,none⟩ (.int .i64 c.goals)):=by
 refine⟨⟨?_⟩,?_⟩
 ·have h0:=heap_setCell_at w b 0 (.int .i64 c.goal) h.blk
  have h1:=heap_setCell_at _ b 1 (.int .i64 c.clause) h0
  have h2:=heap_setCell_at _ b 2 (.int .i64 c.heap) h1
  have h3:=heap_setCell_at _ b 3 (.int .i64 c.trail) h2
  have h4:=heap_setCell_at _ b 4 (.int .i64 c.goals) h3
  exact h4
 ·exact((((Touch.setCell (M:=fun x=>x=b) _ rfl).trans (Touch.setCell (M:=fun x=>x=b) _ rfl)).trans (Touch.setCell (M:=fun x=>x=b) _ rfl)).trans (Touch.setCell (M:=fun x=>x=b) _ rfl)).trans (Touch.setCell (M:=fun x=>x=b) _ rfl)
set_option maxRecDepth 100000 in
set_option maxHeartbeats 3200000 in
theorem ChoicesW(m:Mac)(d:MAd){w:World}{ok:Nat→Prop}(h:MacAt w ok m d)(np pc:Nat)(pa:Option Addr) :
 Calls Try.prog 54 #[.slice pa np pc,.agg #[.slice d.h m.H.length d.hn,.slice d.g m.G.length d.gn,.int .i64 m.first,.slice d.c m.ch.length d.cn,.slice d.t m.T.length d.tn,.slice d.q m.Q.length d.qn,.int .i64 m.steps,.int .i64 m.fin,.slice d.a m.ans.length d.an]] w
  fun e w'=>e=.returned (.int .i64 (choicesE np m))∧Below w.heap.size w w':=by
 obtain⟨dh,dg,dc,dt,dq,da,dhn,dgn,dcn,dtn,dqn,dan⟩:=d
 have HM:Hid (MacAt w (fun b=>b<w.heap.size) m ⟨dh,dg,dc,dt,dq,da,dhn,dgn,dcn,dtn,dqn,dan⟩):=lh (h.mono fun b hb _=>hb)
 have hg9:m.G.length≤9223372036854775807:=by have:=h.g.cap;unfold maxLen at this;omega
 have hc9:m.ch.length≤9223372036854775807:=by have:=h.c.cap;unfold maxLen at this;omega
 have ht9:m.T.length≤9223372036854775807:=by have:=h.t.cap;unfold maxLen at this;omega
 have HB2:Hid (Below w.heap.size w ((w.alloc (.cells (m.vals ⟨dh,dg,dc,dt,dq,da,dhn,dgn,dcn,dtn,dqn,dan⟩).toArray 30)).alloc (.cells #[.int .i64 zeroChi.goal,.int .i64 zeroChi.clause,.int .i64 zeroChi.heap,.int .i64 zeroChi.trail,.int .i64 zeroChi.goals] 67))):=lh (((Below.refl _ _).alloc (Nat.le_refl _) _).alloc (by simp) _)
 have HX:Hid (MBox ((w.alloc (.cells (m.vals ⟨dh,dg,dc,dt,dq,da,dhn,dgn,dcn,dtn,dqn,dan⟩).toArray 30)).alloc (.cells #[.int .i64 zeroChi.goal,.int .i64 zeroChi.clause,.int .i64 zeroChi.heap,.int .i64 zeroChi.trail,.int .i64 zeroChi.goals] 67)) w.heap.size m ⟨dh,dg,dc,dt,dq,da,dhn,dgn,dcn,dtn,dqn,dan⟩):=lh ((MBox.made w m _).below ((Below.refl _ _).alloc (Nat.le_refl _) _))
 have hsz:(w.alloc (.cells (m.vals ⟨dh,dg,dc,dt,dq,da,dhn,dgn,dcn,dtn,dqn,dan⟩).toArray 30)).heap.size=w.heap.size+1:=by simp
 have HC:Hid (CBox ((w.alloc (.cells (m.vals ⟨dh,dg,dc,dt,dq,da,dhn,dgn,dcn,dtn,dqn,dan⟩).toArray 30)).alloc (.cells #[.int .i64 zeroChi.goal,.int .i64 zeroChi.clause,.int .i64 zeroChi.heap,.int .i64 zeroChi.trail,.int .i64 zeroChi.goals] 67)) (w.heap.size+1) zeroChi):=lh ⟨by rw[← hsz];exact heap_alloc_new _ _⟩
 clear h hsz
 simp only[Mac.vals] at HX HC HB2
 simp only
 go_enter Try.func54,Try.ntmps54
 go_wp2_with fail
 go_loopw[12] (fun x12 wr=>∃ i:Nat,i≤m.ch.length∧x12=.int .i64 i∧Hid (MBox wr w.heap.size m ⟨dh,dg,dc,dt,dq,da,dhn,dgn,dcn,dtn,dqn,dan⟩)∧Hid (CBox wr (w.heap.size+1) (prevC m.ch i))∧Hid (Below w.heap.size w wr)∧Hid (w.heap.size+2≤wr.heap.size)∧Hid (∀ j (hj:j<m.ch.length),j<i→ChoiceOk np m.G.length m.H.length m.T.length (prevC m.ch j) m.ch[j])) (fun x12 _=>m.ch.length-(intOf x12).toNat)
 case atStart=>exact⟨0,Nat.zero_le _,rfl,HX,HC,HB2,lh (by simp),lh fun j _ h=>absurd h (Nat.not_lt_zero j)⟩
 case round =>
  obtain⟨i,hi,rfl,HX2,HC2,HB3,HS3,HI⟩:=hrel
  by_cases hlt:i<m.ch.length
  ·obtain⟨b,off,hda,hokb,hb,hcs⟩:=HM.out.c.some (by decide) (Nat.lt_of_le_of_lt (Nat.zero_le _) hlt)
   have hda':dc=some ⟨b,off,none⟩:=hda
   clear hda hokb
   subst hda'
   obtain⟨g0,g1,g2,g3,g4⟩:=flatK_at m.ch i hlt
   have c0:=(HB3.out.cell (p:=⟨b,off+i*5,none⟩) hb).trans (hcs _ _ g0)
   have c1:wr.cell? ⟨b,off+i*5+1,none⟩=_:=(HB3.out.cell (p:=⟨b,off+(i*5+1),none⟩) hb).trans (hcs _ _ g1)
   have c2:wr.cell? ⟨b,off+i*5+2,none⟩=_:=(HB3.out.cell (p:=⟨b,off+(i*5+2),none⟩) hb).trans (hcs _ _ g2)
   have c3:wr.cell? ⟨b,off+i*5+3,none⟩=_:=(HB3.out.cell (p:=⟨b,off+(i*5+3),none⟩) hb).trans (hcs _ _ g3)
   have c4:wr.cell? ⟨b,off+i*5+4,none⟩=_:=(HB3.out.cell (p:=⟨b,off+(i*5+4),none⟩) hb).trans (hcs _ _ g4)
   clear hcs g0 g1 g2 g3 g4
   obtain⟨x0,x1,x2,x3,x4,-⟩:=HX2.out.all
   obtain⟨k0,k1,k2,k3,k4,kf⟩:=HC2.out.all
   have z1:w.heap.size+1<wr.heap.size:=HC2.out.lt
   have z0:w.heap.size<wr.heap.size:=HX2.out.lt
   have HPN:=lh (prevC_next m.ch i hlt)
   have HCH:=HI
   have HBAD:Hid (¬ ChoiceOk np m.G.length m.H.length m.T.length (prevC m.ch i) m.ch[i]→choicesE np m=4):=lh (choicesE_bad hlt)
   generalize hcc:m.ch[i]=c at *
   generalize hpp:prevC m.ch i=was at *
   have HBX:Hid (∀ X,Below w.heap.size w (wr.alloc X)):=lh fun X=>HB3.out.alloc (Nat.le_of_lt z0) X
   by_cases q1:1≤c.goal∧c.goal≤(m.G.length:Int)
   ·have b1:betw c.goal 1 (m.G.length:Int)=true:=betw_true q1
    by_cases q2:0≤c.clause∧c.clause≤(np:Int)
    ·have b2:betw c.clause 0 (np:Int)=true:=betw_true q2
     by_cases q3:was.heap≤c.heap∧c.heap≤(m.H.length:Int)
     ·have b3:betw c.heap was.heap (m.H.length:Int)=true:=betw_true q3
      by_cases q4:was.trail≤c.trail∧c.trail≤(m.T.length:Int)
      ·have b4:betw c.trail was.trail (m.T.length:Int)=true:=betw_true q4
       by_cases q5:was.goals≤c.goals∧c.goals≤(m.G.length:Int)
       ·have b5:betw c.goals was.goals (m.G.length:Int)=true:=betw_true q5
        by_cases q6:c.goal≤c.goals
        ·have HOK:Hid (∀ j (hj:j<m.ch.length),j<i+1→ChoiceOk np m.G.length m.H.length m.T.length (prevC m.ch j) m.ch[j]):=lh fun j hj h=>by
          by_cases e:j=i
          ·subst e;rw[hcc,hpp];exact⟨q1,q2,q3,q4,q5,q6⟩
          ·exact HI.out j hj (by omega)
         have q6':¬ c.goals<c.goal:=by omega
         clear q1 q2 q3 q4 q5 q6
         go_wp2_with (go_at_call 53;refine(withinW _ _ _ _).mono ?_;rintro e w1 ⟨rfl,rfl⟩)
         have HP2:=lh (HC2.out.put c)
         go_roundw
         case measure=>simp only[intOf];omega
         case rel =>
          refine⟨i+1,by omega,by go_num,?_,?_,?_,?_,HOK⟩
          ·exact lh ((HX2.out.keep (HP2.out.2.block _ z0 (by omega))).below ((Below.refl _ _).alloc (Nat.le_refl _) _))
          ·rw[HPN.out]
           exact lh (HP2.out.1.keep (((Below.refl _ _).alloc (Nat.le_refl _) _).block _ HP2.out.1.lt))
          ·exact lh ((HB3.out.trans (HP2.out.2.toBelow HB3.out.size (fun b e=>by omega))).alloc (Nat.le_trans HB3.out.size HP2.out.2.size) _)
          ·exact lh (Nat.le_trans HS3.out (Nat.le_trans HP2.out.2.size ((Below.refl _ _).alloc (Nat.le_refl _) _).size))
        ·have HR:Hid (choicesE np m=4):=lh (HBAD.out fun e=>q6 e.own)
         have q6':c.goals<c.goal:=by omega
         clear q1 q2 q3 q4 q5 q6
         go_wp2_with (go_at_call 53;refine(withinW _ _ _ _).mono ?_;rintro e w1 ⟨rfl,rfl⟩)
         go_ret
         rw[HR.out]
         exact⟨rfl,HBX.out _⟩
       ·have b5:betw c.goals was.goals (m.G.length:Int)=false:=betw_false q5
        have HR:Hid (choicesE np m=4):=lh (HBAD.out fun e=>q5 e.goals)
        clear q1 q2 q3 q4 q5
        go_wp2_with (go_at_call 53;refine(withinW _ _ _ _).mono ?_;rintro e w1 ⟨rfl,rfl⟩)
        go_ret
        rw[HR.out]
        exact⟨rfl,HBX.out _⟩
      ·have b4:betw c.trail was.trail (m.T.length:Int)=false:=betw_false q4
       have HR:Hid (choicesE np m=4):=lh (HBAD.out fun e=>q4 e.trail)
       clear q1 q2 q3 q4
       go_wp2_with (go_at_call 53;refine(withinW _ _ _ _).mono ?_;rintro e w1 ⟨rfl,rfl⟩)
       go_ret
       rw[HR.out]
       exact⟨rfl,HBX.out _⟩
     ·have b3:betw c.heap was.heap (m.H.length:Int)=false:=betw_false q3
      have HR:Hid (choicesE np m=4):=lh (HBAD.out fun e=>q3 e.heap)
      clear q1 q2 q3
      go_wp2_with (go_at_call 53;refine(withinW _ _ _ _).mono ?_;rintro e w1 ⟨rfl,rfl⟩)
      go_ret
      rw[HR.out]
      exact⟨rfl,HBX.out _⟩
    ·have b2:betw c.clause 0 (np:Int)=false:=betw_false q2
     have HR:Hid (choicesE np m=4):=lh (HBAD.out fun e=>q2 e.clause)
     clear q1 q2
     go_wp2_with (go_at_call 53;refine(withinW _ _ _ _).mono ?_;rintro e w1 ⟨rfl,rfl⟩)
     go_ret
     rw[HR.out]
     exact⟨rfl,HBX.out _⟩
   ·have b1:betw c.goal 1 (m.G.length:Int)=false:=betw_false q1
    have HR:Hid (choicesE np m=4):=lh (HBAD.out fun e=>q1 e.goal)
    clear q1
    go_wp2_with (go_at_call 53;refine(withinW _ _ _ _).mono ?_;rintro e w1 ⟨rfl,rfl⟩)
    go_ret
    rw[HR.out]
    exact⟨rfl,HBX.out _⟩
  ·have HR:Hid (choicesE np m=0):=lh (choicesE_good fun j hj=>HI.out j hj (by omega))
   go_wp2_with fail
   go_ret
   rw[HR.out]
   exact⟨rfl,HB3.out⟩
theorem IsAt.drop{w:World}{ok:Nat→Prop}{l:List Int}{a:Option Addr}{cap:Nat}(h:IsAt w ok l a cap){k:Nat}(hk:k≤l.length):IsAt w ok (l.drop k) (if cap=k then a else a.map fun x=>x.add k) (cap-k):=by
 have hc:=h.cap
 refine⟨⟨by rw[List.length_drop];omega,by omega,fun e=>?_⟩,fun i hi=>?_⟩
 ·split at e
  ·omega
  ·cases a with
   | none=>have:=hc.2.2 rfl;omega
   | some a=>cases e
 ·rw[List.length_drop] at hi
  obtain⟨b,off,rfl,h2,h3,h4⟩:=h.at' (k+i) (by omega)
  refine⟨b,off+k,?_,h2,h3,?_⟩
  ·rw[if_neg (by omega)];simp[Addr.add]
  ·rw[List.getElem_drop,Nat.add_assoc];exact h4
theorem Touch.cell{M:Nat→Prop}{w w':World}(h:Touch M w w'){p:Addr}(hb:p.block<w.heap.size)(hn:¬ M p.block):w'.cell? p=w.cell? p :=
 (h.keeps (ok:=fun b=>¬ M b) fun _ hb=>hb).cell hn hb
theorem flatH_take(l:List HC)(k:Nat):flatH (l.take k)=(flatH l).take (k*3):=by
 induction l generalizing k with
 | nil=>simp[flatH]
 | cons x l ih =>
  cases k with
  | zero=>simp[flatH]
  | succ k=>rw[show (k+1)*3=k*3+1+1+1 by omega,List.take_succ_cons];simp only[flatH,List.take_succ_cons,ih]
theorem HOwn.cut{w:World}{base:Nat}{a:Option Addr}{n cap:Nat}{H:List HC}(h:HOwn w base (.slice a n cap) H){k:Nat}(hk:k≤H.length):HOwn w base (.slice a k cap) (H.take k):=by
 have hr:=ownsRow_cut h.row hk
 rw[← flatH_take] at hr
 have hl:(H.take k).length=k:=by rw[List.length_take];omega
 refine⟨by rw[hl];exact hr,fun i hi=>?_⟩
 rw[hl] at hi
 rw[hc_take hi]
 exact h.fits i (by omega)
theorem unbind_snoc(top:Int):∀ (l:List Int) (x:Int) (H:List HC),unbind top (l++[x]) H=if x<top then (unbind top l H).set x.toNat ⟨1,x,⟨#[]⟩⟩ else unbind top l H:=by
 intro l
 induction l with
 | nil=>intro x H;rfl
 | cons y l ih=>intro x H;simp only[List.cons_append,unbind];rw[ih]
theorem HOwn.unb{w:World}{base g cap:Nat}{H:List HC}{n:Nat}(h:HOwn w base (.slice (some ⟨g,0,none⟩) n cap) H)(hn:n=H.length){p:Nat}{x:Int}(hp:p<H.length)(hx:I64 x) :
 HOwn (((w.setCell ⟨g,p*3,none⟩ (.int .i64 1)).setCell ⟨g,p*3+1,none⟩ (.int .i64 x)).setCell ⟨g,p*3+2,none⟩ (.string ⟨#[]⟩)) base (.slice (some ⟨g,0,none⟩) n cap) (H.set p ⟨1,x,⟨#[]⟩⟩):=by
 subst hn
 have h0:=(World.ownsRow.stored h.row (p*3) (.int .i64 1)).1
 have h1:=(World.ownsRow.stored h0 (p*3+1) (.int .i64 x)).1
 have h2:=(World.ownsRow.stored h1 (p*3+2) (.string ⟨#[]⟩)).1
 rw[← flatH_set H p hp ⟨1,x,⟨#[]⟩⟩] at h2
 refine⟨by rw[List.length_set];exact h2,fun i hi=>?_⟩
 rw[List.length_set] at hi
 rw[hc_set H p i _ hp]
 by_cases e:i=p
 ·rw[if_pos e];exact⟨(by show I64 (1:Int);unfold I64;decide),hx,(by show (⟨#[]⟩:ByteArray).size≤maxLen;unfold maxLen;decide)⟩
 ·rw[if_neg e];exact h.fits i hi
structure UAt(w:World)(B o:Nat)(vs:Array Value)(ty:TypeId)(base:Nat)(H:List HC)(T:List Int)(nG:Nat)(ha ta ga:Option Addr)(hn tn gn:Nat):Prop where
 blk:w.heap[B]? = some (.cells vs ty (0,0))
 h:vs[o]? = some (.slice ha H.length hn)
 g:vs[o+1]? = some (.slice ga nG gn)
 t:vs[o+4]? = some (.slice ta T.length tn)
 own:HOwn w base (.slice ha H.length hn) H
 tr:IsAt w (fun b=>b≠B∧(Value.slice ha H.length hn).ownBlock≠some b) T ta tn
 ne:(Value.slice ha H.length hn).ownBlock≠some B
 gc:nG≤gn∧gn≤maxLen
def UndoMPost(w:World)(B o:Nat)(vs:Array Value)(ty:TypeId)(base:Nat)(H:List HC)(T:List Int)(ha ta ga:Option Addr)(hn tn gn:Nat)(c:Chi)(e:Ending)(w':World):Prop :=
 (∃ v,e=.returned v)∧Touch (fun b=>b=B∨(Value.slice ha H.length hn).ownBlock=some b) w w' ∧
 w'.heap[B]? = some (.cells (((vs.setIfInBounds o (.slice ha c.heap.toNat hn)).setIfInBounds (o+4) (.slice ta c.trail.toNat tn)).setIfInBounds (o+1) (.slice ga c.goals.toNat gn)) ty (0,0)) ∧
 HOwn w' base (.slice ha c.heap.toNat hn) ((unbind c.heap (T.drop c.trail.toNat) H).take c.heap.toNat)
set_option maxRecDepth 100000 in
set_option maxHeartbeats 3200000 in
theorem UndoMW{w:World}{B o:Nat}{vs:Array Value}{ty:TypeId}{base:Nat}{H:List HC}{T:List Int}{nG:Nat}{ha ta ga:Option Addr}{hn tn gn:Nat}(h:UAt w B o vs ty base H T nG ha ta ga hn tn gn){c:Chi}
 (hH:0≤c.heap∧c.heap≤(H.length:Int)) (hT:0≤c.trail∧c.trail≤(T.length:Int)) (hG:0≤c.goals∧c.goals≤(nG:Int)) (hx:∀ x,x∈T→0≤x) (hl:H.length≤400000) :
 Calls Try.prog 84 #[.pointer (some ⟨B,o,none⟩),.agg #[.int .i64 c.goal,.int .i64 c.clause,.int .i64 c.heap,.int .i64 c.trail,.int .i64 c.goals]] w (UndoMPost w B o vs ty base H T ha ta ga hn tn gn c):=by
 have HU:=lh h
 have q0:w.cell? ⟨B,o,none⟩=some (.slice ha H.length hn):=by have:=h.h;simp[World.cell?,h.blk,this]
 have q1:w.cell? ⟨B,o+1,none⟩=some (.slice ga nG gn):=by have:=h.g;simp[World.cell?,h.blk,this]
 have q4:w.cell? ⟨B,o+4,none⟩=some (.slice ta T.length tn):=by have:=h.t;simp[World.cell?,h.blk,this]
 have zB:B<w.heap.size:=(Array.getElem?_eq_some_iff.1 h.blk).1
 have hT9:T.length≤9223372036854775807:=by have:=h.tr.cap;unfold maxLen at this;omega
 clear h
 obtain⟨t0,t1⟩:=hT
 go_enter Try.func84,Try.ntmps84
 go_wp2_with fail
 go_quiet (fail)
 have HB0:Hid (Below w.heap.size w ((w.alloc (.cells #[.int .i64 c.goal,.int .i64 c.clause,.int .i64 c.heap,.int .i64 c.trail,.int .i64 c.goals] 67)).drewN nq)):=lh (((Below.refl _ _).alloc (Nat.le_refl _) _).trans ((below_drewN _ nq).mono (by simp)))
 have HC0:Hid (CBox ((w.alloc (.cells #[.int .i64 c.goal,.int .i64 c.clause,.int .i64 c.heap,.int .i64 c.trail,.int .i64 c.goals] 67)).drewN nq) w.heap.size c):=lh (CBox.keep (w:=w.alloc (.cells #[.int .i64 c.goal,.int .i64 c.clause,.int .i64 c.heap,.int .i64 c.trail,.int .i64 c.goals] 67)) ⟨heap_alloc_new w _⟩ ((below_drewN _ nq).block _ (by simp)))
 generalize (w.alloc (.cells #[.int .i64 c.goal,.int .i64 c.clause,.int .i64 c.heap,.int .i64 c.trail,.int .i64 c.goals] 67)).drewN nq=W0 at *
 have HD:=lh ((HU.out.tr.keep (Keeps.below HB0.out _)).drop (k:=c.trail.toNat) (by omega))
 generalize (if tn=c.trail.toNat then ta else Option.map (fun x=>x.add c.trail.toNat) ta)=ta2 at *
 have hdl:(T.drop c.trail.toNat).length=T.length-c.trail.toNat:=List.length_drop
 have HDX:Hid (∀ x,x∈T.drop c.trail.toNat→0≤x):=lh fun x h=>hx x (List.mem_of_mem_drop h)
 have hd9:(T.drop c.trail.toNat).length≤9223372036854775807:=by omega
 rw[← hdl]
 clear hdl
 generalize hTD:T.drop c.trail.toNat=TD at *
 have HTD:=lh hTD
 clear hTD
 go_wp2_with fail
 go_loopw[14] (fun x14 wr=>∃ j:Nat,j≤TD.length∧x14=.int .i64 j∧Hid (HOwn wr base (.slice ha H.length hn) (unbind c.heap (TD.take j) H))∧Hid (Touch (fun b=>(Value.slice ha H.length hn).ownBlock=some b) W0 wr)) (fun x14 _=>TD.length-(intOf x14).toNat)
 case atStart=>exact⟨0,Nat.zero_le _,rfl,lh (by rw[List.take_zero];exact HU.out.own.below HB0.out),lh (Touch.refl _ _)⟩
 case round =>
  obtain⟨j,hj,rfl,HO,HT⟩:=hrel
  by_cases hlt:j<TD.length
  ·obtain⟨b,off,hta,hokb,hb,m0⟩:=HD.out.at' j hlt
   subst hta
   have y0:wr.cell? ⟨b,off+j,none⟩=some (.int .i64 TD[j]):=(HT.out.cell (p:=⟨b,off+j,none⟩) hb hokb.2).trans m0
   have xB:(Value.slice ha H.length hn).ownBlock≠some B:=HU.out.ne
   have zB2:=HB0.out.size
   have qh:wr.cell? ⟨B,o,none⟩=some (.slice ha H.length hn):=(HT.out.cell (p:=⟨B,o,none⟩) (by show B<_;omega) xB).trans ((HB0.out.cell (p:=⟨B,o,none⟩) zB).trans q0)
   have zc:(Value.slice ha H.length hn).ownBlock≠some w.heap.size:=fun e=>by have:=(HU.out.own.row.lt _ e).2;omega
   obtain⟨k0,k1,k2,k3,k4,-⟩:=(HC0.out.keep (HT.out.block _ HC0.out.lt zc)).all
   have hxn:=HDX.out _ (List.getElem_mem hlt)
   have HSN:Hid (unbind c.heap (TD.take (j+1)) H=if TD[j]<c.heap then (unbind c.heap (TD.take j) H).set TD[j].toNat ⟨1,TD[j],⟨#[]⟩⟩ else unbind c.heap (TD.take j) H):=lh (by rw[List.take_succ_eq_append_getElem hlt,unbind_snoc])
   have hul:=unbind_length c.heap (TD.take j) H
   by_cases hc:TD[j]<c.heap
   ·obtain⟨p,hp⟩:∃ p:Nat,TD[j]=(p:Int):=⟨TD[j].toNat,by omega⟩
    rw[hp,if_pos (by omega),Int.toNat_natCast] at HSN
    rw[hp] at y0 hc
    have hpl:p<H.length:=by omega
    have hrow:=HO.out.row
    rw[hul] at hrow
    obtain⟨g,cap,hgv⟩:=own_shape hrow (by omega)
    injection hgv with e1 _ e2
    subst e1;subst e2
    have HO2:=lh (HO.out.unb (p:=p) (x:=(p:Int)) hul.symm (by omega) (by unfold I64;omega))
    obtain⟨a2,c2,e,hpp⟩:=HpAt.of_row (ok:=fun _=>True) HO.out.row (fun _ _=>trivial) HO.out.fits
    injection e with e1 _ e2
    subst e1;subst e2
    obtain⟨b',off',he,-,zg,d0,d1,d2,-⟩:=hpp.at' p (by omega)
    injection he with he
    injection he with e1 e2
    subst e1;subst e2
    rw[Nat.zero_add] at d0 d1 d2
    have gf:∀ o,wr.frozen? ⟨g,o,none⟩=false:=fun o=>hrow.frozenAt o
    rw[← HSN.out] at HO2
    have HT2:=lh (((HT.out.trans (Touch.setCell (p:=⟨g,p*3,none⟩) (.int .i64 1) rfl)).trans (Touch.setCell (p:=⟨g,p*3+1,none⟩) (.int .i64 (p:Int)) rfl)).trans (Touch.setCell (p:=⟨g,p*3+2,none⟩) (.string ⟨#[]⟩) rfl))
    have p0:(0:Int)≤(p:Int):=by omega
    have p1:(p:Int)<(H.length:Int):=by omega
    clear hxn hul HSN hpp hrow hp hpl
    go_wp2_with fail
    go_roundw
    case measure=>simp only[intOf];omega
    case rel=>exact⟨j+1,by omega,by go_num,HO2,HT2⟩
   ·have HO2:Hid (HOwn wr base (.slice ha H.length hn) (unbind c.heap (TD.take (j+1)) H)):=lh (by rw[HSN.out,if_neg hc];exact HO.out)
    clear hxn hul HSN
    go_wp2_with fail
    go_roundw
    case measure=>simp only[intOf];omega
    case rel=>exact⟨j+1,by omega,by go_num,HO2,HT⟩
  ·have xB:(Value.slice ha H.length hn).ownBlock≠some B:=HU.out.ne
   have zB2:=HB0.out.size
   have hkB:wr.heap[B]? = some (.cells vs ty (0,0)):=((HT.out.block B (by omega) xB).trans (HB0.out.block B zB)).trans HU.out.blk
   have HKB:=lh hkB
   have r0:wr.cell? ⟨B,o,none⟩=some (.slice ha H.length hn):=by have:=HU.out.h;simp[World.cell?,hkB,this]
   have r1:wr.cell? ⟨B,o+1,none⟩=some (.slice ga nG gn):=by have:=HU.out.g;simp[World.cell?,hkB,this]
   have r4:wr.cell? ⟨B,o+4,none⟩=some (.slice ta T.length tn):=by have:=HU.out.t;simp[World.cell?,hkB,this]
   have rf:∀ i,wr.frozen? ⟨B,i,none⟩=false:=fun i=>by simp[World.frozen?,hkB]
   have zc:(Value.slice ha H.length hn).ownBlock≠some w.heap.size:=fun e=>by have:=(HU.out.own.row.lt _ e).2;omega
   obtain⟨k0,k1,k2,k3,k4,-⟩:=(HC0.out.keep (HT.out.block _ HC0.out.lt zc)).all
   have hcap:=HU.out.own.row
   have hh0:=hH.1
   have HH2:=lh hH.2
   have hh1:c.heap≤(hn:Int):=by
    obtain⟨a2,c2,e,hpp⟩:=HpAt.of_row (ok:=fun _=>True) hcap (fun _ _=>trivial) HU.out.own.fits
    injection e with _ _ e2
    have:=hpp.cap;omega
   have ht1:c.trail≤(tn:Int):=by have:=HU.out.tr.cap;omega
   have hg0:=hG.1
   have hg1:c.goals≤(gn:Int):=by have:=HU.out.gc;omega
   clear hkB xB zc hcap hH hG
   go_wp2_with fail
   go_region
   have HJ:Hid (TD.take j=TD):=lh (List.take_of_length_le (by omega))
   have z1:=heap_setCell_at wr B o (.slice ha c.heap.toNat hn) HKB.out
   have z2:=heap_setCell_at _ B (o+4) (.slice ta c.trail.toNat tn) z1
   have z3:=heap_setCell_at _ B (o+1) (.slice ga c.goals.toNat gn) z2
   have hcut:=HO.out.cut (k:=c.heap.toNat) (by rw[unbind_length];have:=HH2.out;omega)
   rw[HJ.out,← HTD.out] at hcut
   have hown:HOwn ((wr.setCell ⟨B,o,none⟩ (.slice ha c.heap.toNat hn)).setCell ⟨B,o+4,none⟩ (.slice ta c.trail.toNat tn) |>.setCell ⟨B,o+1,none⟩ (.slice ga c.goals.toNat gn)) base (.slice ha c.heap.toNat hn) ((unbind c.heap (T.drop c.trail.toNat) H).take c.heap.toNat):=hcut.keep fun g hg=>by
    have hgB:g≠B:=fun e=>HU.out.ne (by
     cases ha with
     | none=>cases hg
     | some a=>rw[← e];exact hg)
    rw[Below.heap_setCell _ _ _ _ hgB,Below.heap_setCell _ _ _ _ hgB,Below.heap_setCell _ _ _ _ hgB]
   have hto:Touch (fun b=>b=B∨(Value.slice ha H.length hn).ownBlock=some b) w ((wr.setCell ⟨B,o,none⟩ (.slice ha c.heap.toNat hn)).setCell ⟨B,o+4,none⟩ (.slice ta c.trail.toNat tn) |>.setCell ⟨B,o+1,none⟩ (.slice ga c.goals.toNat gn)) :=
    ((((Touch.below HB0.out).trans (HT.out.mono fun b _ e=>.inr e)).trans (Touch.setCell _ (.inl rfl))).trans (Touch.setCell _ (.inl rfl))).trans (Touch.setCell _ (.inl rfl))
   have hdr:=below_drewN (wr.setCell ⟨B,o,none⟩ (.slice ha c.heap.toNat hn) |>.setCell ⟨B,o+4,none⟩ (.slice ta c.trail.toNat tn) |>.setCell ⟨B,o+1,none⟩ (.slice ga c.goals.toNat gn)) 1
   refine bodyPost_ret (v:=.tuple #[]) (by simp[results,Try.results84,go_sem]) rfl ⟨⟨_,rfl⟩,hto.trans (Touch.below hdr),?_,hown.below hdr⟩
   exact z3
end Go.Proofs.Ytikmgiapjigghab
namespace Go.Proofs.Ytikmgiapjigghab
open Go.RowKit Go.Shelf
def Turns(F:Fence)(n:Nat)(P:Program)(gf:Nat)(lb:Array Value)(encs:Nat→Array Value)(Kp:World→World→Prop)(N:Nat)(w:World):Prop :=
 ∀ (l:Nat) (J:Nat→World→Prop) (Jx:Unit→World→Prop) (W:World),Below w.heap.size w W→AbidesFrom W.heap.size J→AbidesFrom W.heap.size Jx →
  (∀ i V,i<N→J i V→YieldAt F (n-1) P l (encs i) V fun e V'=>(e=.returned (.bool true)∧J (i+1) V'∧Kp V V')∨(e=.returned (.bool false)∧Jx () V')) →
  J 0 W→CallsIn F n P gf (#[.func (.yield l) #[] #[]]++lb) W fun e V=>(∃ v,e=.returned v)∧(J N V∨Jx () V)
def RoundEnd(B:Nat)(Kp:World→World→Prop)(I:World→Prop)(Ix:Unit→World→Prop)(W:World):Exit→Act→World→Prop
 | .normal,_,V=>KeepsFrom B W V∧Kp W V∧I V
 | .ret,_,V=>KeepsFrom B W V∧Ix () V
 | _,_,_=>False
theorem wpIn_turns{F:Fence}{n:Nat}{P:Program}{g:Operand}{ps:Array Tmp}{assign body:Code}{Q:Exit→Act→World→Prop}{a:Act}{w:World}(hro:F.round=none)(h1:1≤n){gf:Nat}{lb:Array Value}(hg:a.eval g=.func (.func gf) #[] lb)(hFg:F.fn gf)
 (eg:∀ args w,(callFunc gf args).run P w=.ok (.enter gf args) w) {encs:Nat→Array Value} {Kp:World→World→Prop} {N:Nat} {w0:World} (hseq:Turns F (n-1) P gf lb encs Kp N w0) (hKt:∀ {A B C:World},Kp A B→Kp B C→Kp A C) (hKb:∀ (W:World) (l:Nat) (o o':Obj),w.heap.size≤l→W.heap[l]? = some o→o.isCells=false→Kp W (W.putObj l o')) (hb0:Below w0.heap.size w0 w) (hps:∀ i,(encs i).size=ps.size)
 (I:Nat→World→Prop) (Ix:Unit→World→Prop) (hI:OwnFrom w.heap.size I) (hIx:OwnFrom w.heap.size Ix) (h0:I 0 w) (Ax:Nat→Act→World→Prop) (hAx:∀ a',OwnFrom w.heap.size (fun i W=>Ax i a' W))
 (hassign:∀ (l i:Nat) (W:World) (K:Act→World→Prop),i<N→I i W→(∀ a' W',KeepsFrom w.heap.size W W'→Kp W W'→I i W'→Ax i a' W'→K a' W') →
  assign.wpIn (F.inRound l) (n-1-1) P (Exit.then K (fun _ _ _=>False)) { tmps:=(ps.zip (encs i)).foldl (fun t (p,v)=>t.setIfInBounds p v) a.tmps,defers:=[] } W)
 (hbody:∀ (l i:Nat) (a':Act) (W:World),i<N→I i W→Ax i a' W→body.wpIn (F.inRound l) (n-1-1) P (RoundEnd w.heap.size Kp (I (i+1)) Ix W) a' W)
 (hdone:∀ (D:Nat) (W:World),w.heap.size≤D→I N W→W.heap[D]? = some (.deferred (some []))→Q .normal { a with defers:={ target:=.collected D,args:=#[] }::a.defers } W)
 (hstop:∀ (D:Nat) (W:World),w.heap.size≤D→Ix () W→W.heap[D]? = some (.deferred (some []))→Code.ret.wpIn F n P Q { a with defers:={ target:=.collected D,args:=#[] }::a.defers } W) :
 (Code.rangeFunc g ps assign body).wpIn F n P Q a w:=by
 refine wpIn_rangeFunc fun fn hfn=>?_
 rw[hro]
 -- the two blocks of book-keeping
 let rc:LoopState→Option Code→Loop:=fun st pe=>{ state:=st,pending:=pe,fn:=fn,tmps:=a.tmps,params:=ps,assign:=assign,body:=body,defers:=w.heap.size }
 let V0:World:=(w.alloc (.deferred (some []))).alloc (.loop (rc .ready none))
 have sV:V0.heap.size=w.heap.size+2:=by simp[V0]
 have vL:V0.heap[w.heap.size+1]? = some (.loop (rc .ready none)):=by
  have:=World.alloc_heap_new (w.alloc (.deferred (some []))) (.loop (rc .ready none));rwa [World.size_alloc] at this
 have vD:V0.heap[w.heap.size]? = some (.deferred (some [])):=(Below.heap_alloc _ _ _ (by simp)).trans (World.alloc_heap_new w _)
 have vB:Below w0.heap.size w0 V0:=hb0.trans ((((Below.refl _ w).alloc (Nat.le_refl _) _).alloc (by simp) _).mono hb0.size)
 -- what holds of a world beside them
 let St:(World→Prop)→LoopState→Option Code→World→Prop:=fun p st pe W=>p W∧W.heap[w.heap.size+1]? = some (.loop (rc st pe))∧W.heap[w.heap.size]? = some (.deferred (some []))
 have abide:∀ {β:Type} {p:β→World→Prop} (_:OwnFrom w.heap.size p) (st:LoopState) (pe:Option Code),AbidesFrom V0.heap.size (fun s W=>St (p s) st pe W):=fun {β p} hp st pe s A B row hs hgr hr=>by
  have hr2:∀ r,row=some r→∃ o:Obj,A.heap[r]? = some o∧o.isWalk=true:=fun r e=>(hr r e).2
  refine⟨hp s A B row hs.1 hgr fun r e=>?_,(grownBy_keeps hgr hr2 hs.2.1 rfl).trans hs.2.1,(grownBy_keeps hgr hr2 hs.2.2 rfl).trans hs.2.2⟩
  obtain⟨hB,o,ho,hw⟩:=hr r e
  exact⟨by omega,o,ho,Obj.not_cells_of_walk hw⟩
 refine⟨w.heap.size+1,[{ target:=.collected w.heap.size,args:=#[] }],V0,{ target:=.fn (.func gf) lb,args:=#[.func (.yield (w.heap.size+1)) #[] #[]] },V0,gf,
  #[.func (.yield (w.heap.size+1)) #[] #[]]++lb,V0,run_enterLoop_outer _ _ _ _ _,?_,?_,?_,fun _=>h1,?_⟩
 ·simp only[resolve,hg];simp[go_sem]
 ·intro f' hf';simp[Target.leads] at hf';subst hf';exact hFg
 ·simp[invoke,go_sem,eg]
 have hcall:=hseq (w.heap.size+1) (fun i W=>St (I i) .ready none W) (fun u W=>St (Ix u) .done (some .ret) W) V0 vB (abide hI _ _) (abide hIx _ _) ?_ ⟨hI.alloc _ (hI.alloc _ h0),vL,vD⟩
 ·refine hcall.mono ?_
  rintro e W2 ⟨⟨v,rfl⟩,hend⟩
  rcases hend with ⟨hi,hl,hk⟩ | ⟨hi,hl,hk⟩
  ·refine⟨none,_,run_endLoop (P:=P) hl (by simp[rc]),hdone _ _ (Nat.le_refl _) (hI.putObj _ hi (by omega) hl rfl) ((World.putObj_heap_other (by omega)).trans hk)⟩
  ·refine⟨some .ret,_,run_endLoop (P:=P) hl (by simp[rc]),hstop _ _ (Nat.le_refl _) (hIx.putObj _ hi (by omega) hl rfl) ((World.putObj_heap_other (by omega)).trans hk)⟩
 -- a round
 rintro i W hN ⟨hi,hl,hk⟩
 refine⟨fn,_,assign,body,run_yield (P:=P) (args:=encs i) hl (hps i),roundIn_of_wpIn hfn (hassign _ i W _ hN hi ?_)⟩
 intro a' Wa hka hkp hia hax
 have la:=hka.same _ _ (by omega) hl rfl
 have da:=hka.same _ _ (Nat.le_refl _) hk rfl
 have zl:w.heap.size+1<Wa.heap.size:=(Array.getElem?_eq_some_iff.1 la).1
 have lb2:(Wa.putObj (w.heap.size+1) (.loop { rc .ready none with state:=.busy })).heap[w.heap.size+1]? = some (.loop { rc .ready none with state:=.busy }):=World.putObj_heap_same zl
 have db2:(Wa.putObj (w.heap.size+1) (.loop { rc .ready none with state:=.busy })).heap[w.heap.size]? = some (.deferred (some [])):=(World.putObj_heap_other (by omega)).trans da
 refine⟨_,run_beginRound la (by simp[rc]),wpIn_mono (hbody _ i a' _ hN (hI.putObj _ hia (by omega) la rfl) ((hAx a').putObj _ hax (by omega) la rfl)) ?_⟩
 intro e a3 V hend
 have last:∀ (p:World→Prop) (st:LoopState) (jump:Option Code),st=(if jump.isNone then .ready else .done)→KeepsFrom w.heap.size (Wa.putObj (w.heap.size+1) (.loop { rc .ready none with state:=.busy })) V→(∀ V',V'=V.putObj (w.heap.size+1) (.loop (rc st jump))→p V') →
  (Instr.endRound (w.heap.size+1) jump).run P V=.ok (.bool jump.isNone) (V.putObj (w.heap.size+1) (.loop (rc st jump)))∧St p st jump (V.putObj (w.heap.size+1) (.loop (rc st jump))):=fun p st jump hst hkv hp=>by
  have l3:=hkv.same _ _ (by omega) lb2 rfl
  have r3:=run_endRound (P:=P) jump l3
  subst hst
  exact⟨r3,hp _ rfl,World.putObj_heap_same (Array.getElem?_eq_some_iff.1 l3).1,(World.putObj_heap_other (by omega)).trans (hkv.same _ _ (Nat.le_refl _) db2 rfl)⟩
 cases e with
 | normal =>
  obtain⟨k3,kp3,i3⟩:=hend
  have l3:=k3.same _ _ (by omega) lb2 rfl
  have kp4:=hKt hkp (hKt (hKt (hKb Wa (w.heap.size+1) _ (.loop { rc .ready none with state:=.busy }) (by omega) la rfl) kp3) (hKb V (w.heap.size+1) _ (.loop (rc .ready none)) (by omega) l3 rfl))
  obtain⟨hr,hs⟩:=last (I (i+1)) .ready none rfl k3 (fun V' e=>by rw[e];exact hI.putObj _ i3 (by omega) l3 rfl)
  exact⟨_,_,hr,.inl ⟨rfl,hs,kp4⟩⟩
 | ret =>
  obtain⟨k3,i3⟩:=hend
  have l3:=k3.same _ _ (by omega) lb2 rfl
  obtain⟨hr,hs⟩:=last (Ix ()) .done (some .ret) rfl k3 (fun V' e=>by rw[e];exact hIx.putObj _ i3 (by omega) l3 rfl)
  exact⟨_,_,hr,.inr ⟨rfl,hs⟩⟩
 | exit id=>exact hend.elim
 | goto t=>exact hend.elim
 | panic ch=>exact hend.elim
 | outgrown=>exact hend.elim
attribute [local go_sem] Oper.semAt_some
def chiV(c:Chi):Value:=.agg #[.int .i64 c.goal,.int .i64 c.clause,.int .i64 c.heap,.int .i64 c.trail,.int .i64 c.goals]
def backK(l:List Chi)(i:Nat):Array Value:=#[.int .i64 ((l.length-1-i:Nat):Int),chiV (l.getD (l.length-1-i) zeroChi)]
set_option maxRecDepth 100000 in
set_option maxHeartbeats 1000000 in
theorem backK_turns{n:Nat}(hn:1≤n){w0:World}{B0:Nat}{ok:Nat→Prop}(l:List Chi){a:Option Addr}{cap:Nat}(hB:B0<w0.heap.size∧ok B0)(h0:w0.cell? ⟨B0,0,none⟩=some (.slice a l.length cap))(hr:RwAt w0 ok 5 l.length (flatK l) a cap) :
 Turns Fence.wide n Try.prog 110 #[.pointer (some ⟨B0,0,none⟩)] (backK l) (Keeps ok) l.length w0:=by
 intro lp J Jx W hW hJ hJx hY hJ0
 have hro:Fence.wide.round=none:=rfl
 have hl9:l.length≤9223372036854775807:=by have:=hr.cap;unfold maxLen at this;omega
 have HY:=lh hY;have HR:=lh hr
 have HKW:Hid (Keeps ok w0 W):=lh (Keeps.below hW ok)
 have HJ0:=lh hJ0
 have c0:=(HKW.out.cell (p:=⟨B0,0,none⟩) hB.2 hB.1).trans h0
 clear hY hJ hJx hr hJ0
 refine callsIn_of_wp Try.func110 rfl trivial ?_ hro
 simp only[Try.ntmps110,List.size_toArray,List.length_cons,List.length_nil,Nat.reduceAdd,Nat.reduceSub,Array.replicate_succ,Array.replicate_zero,List.push_toArray,List.append_toArray,List.nil_append,List.cons_append]
 gi_wp2
 gi_loopw [3] (fun p wr=>∃ j:Nat,j≤l.length∧p=.int .i64 ((l.length:Int)-1-j)∧Hid (J j wr)∧Hid (Keeps ok W wr)) (fun p _=>(intOf p+1).toNat)
 case atStart=>exact⟨0,Nat.zero_le _,by go_num,HJ0,lh (Keeps.below (Below.refl _ _) ok)⟩
 case round =>
  obtain⟨j,hj,rfl,HJ,HK⟩:=hrel
  have c1:=(HK.out.cell (p:=⟨B0,0,none⟩) hB.2 (Nat.lt_of_lt_of_le hB.1 hW.size)).trans c0
  by_cases hlt:j<l.length
  ·obtain⟨q,hq,hql⟩:∃ q:Nat,q=l.length-1-j∧q<l.length:=⟨l.length-1-j,rfl,by omega⟩
   have hqi:(l.length:Int)-1-(j:Int)=(q:Int):=by omega
   obtain⟨b,off,rfl,hokb,hb,hcs⟩:=HR.out.some (by decide) (Nat.lt_of_le_of_lt (Nat.zero_le _) hlt)
   have hK0:Keeps ok w0 wr:=HKW.out.trans HK.out
   obtain⟨g0,g1,g2,g3,g4⟩:=flatK_at l q hql
   have m0:=(hK0.cell (p:=⟨b,off+q*5,none⟩) hokb hb).trans (hcs _ _ g0)
   have m1:wr.cell? ⟨b,off+q*5+1,none⟩=_:=(hK0.cell (p:=⟨b,off+(q*5+1),none⟩) hokb hb).trans (hcs _ _ g1)
   have m2:wr.cell? ⟨b,off+q*5+2,none⟩=_:=(hK0.cell (p:=⟨b,off+(q*5+2),none⟩) hokb hb).trans (hcs _ _ g2)
   have m3:wr.cell? ⟨b,off+q*5+3,none⟩=_:=(hK0.cell (p:=⟨b,off+(q*5+3),none⟩) hokb hb).trans (hcs _ _ g3)
   have m4:wr.cell? ⟨b,off+q*5+4,none⟩=_:=(hK0.cell (p:=⟨b,off+(q*5+4),none⟩) hokb hb).trans (hcs _ _ g4)
   obtain⟨fn,tmps,assign,body,hy,hR⟩:=HY.out j wr hlt HJ.out
   have e:backK l j = #[.int .i64 (q:Int),.agg #[.int .i64 l[q].goal,.int .i64 l[q].clause,.int .i64 l[q].heap,.int .i64 l[q].trail,.int .i64 l[q].goals]]:=by
    unfold backK chiV;rw[← hq,List.getD_eq_getElem?_getD,List.getElem?_eq_getElem hql];rfl
   rw[e] at hy
   rw[hqi]
   have HQ:=lh hqi
   have hq0:(0:Int)≤(q:Int):=by omega
   clear hK0 hcs g0 g1 g2 g3 g4 hq e hqi
   gi_wp2
   refine hR.mono ?_
   rintro e W3 (⟨rfl,hJ3,hk3⟩ | ⟨rfl,hJx3⟩)
   ·have HJ3:=lh hJ3
    have HK3:=lh (HK.out.trans hk3)
    clear hJ3 hk3
    gi_wp2
    go_roundw
    case rel=>exact⟨j+1,by omega,by have:=HQ.out;go_num,HJ3,HK3⟩
    case measure=>have:=HQ.out;simp only[intOf];omega
   ·have HJ3:=lh hJx3
    clear hJx3
    gi_wp2
    refine bodyPost_ret (results_none rfl _ _ _) rfl ?_
    exact⟨⟨_,rfl⟩,.inr HJ3.out⟩
  ·have hje:j=l.length:=by omega
   have HE:Hid (J l.length wr):=lh (by rw[← hje];exact HJ.out)
   have hlo:(l.length:Int)-1-(j:Int) = -1:=by omega
   rw[hlo]
   clear hje
   gi_wp2
   go_end0
   exact⟨⟨_,rfl⟩,.inl HE.out⟩
end Go.Proofs.Ytikmgiapjigghab
namespace Go.Proofs.Ytikmgiapjigghab
open Go.RowKit
def ChLe(a b:Chi):Prop:=a.heap≤b.heap∧a.trail≤b.trail∧a.goals≤b.goals
theorem choices_le(np ng nh nt:Nat):∀ (l:List Chi) (was:Chi),ChoicesOk np ng nh nt was l→(∀ c,c∈l→ChLe was c∧c.heap≤nh∧c.trail≤nt∧c.goals≤ng)∧l.Pairwise ChLe:=by
 intro l
 induction l with
 | nil=>intro was _;exact⟨(fun c h=>nomatch h),List.Pairwise.nil⟩
 | cons c r ih =>
  rintro was ⟨h1,h2⟩
  obtain⟨i1,i2⟩:=ih c h2
  have hc:ChLe was c:=⟨h1.heap.1,h1.trail.1,h1.goals.1⟩
  refine⟨fun x hx=>?_,List.Pairwise.cons (fun x hx=>(i1 x hx).1) i2⟩
  rcases List.mem_cons.1 hx with rfl | hx
  ·exact⟨hc,h1.heap.2,h1.trail.2,h1.goals.2⟩
  ·obtain⟨⟨a,b,d⟩,e⟩:=i1 x hx
   exact⟨⟨Int.le_trans hc.1 a,Int.le_trans hc.2.1 b,Int.le_trans hc.2.2 d⟩,e⟩
def undoI(m:Mac)(l:List Chi):Mac:=l.foldl undoM m
theorem undoI_snoc(m:Mac)(l:List Chi)(c:Chi):undoI m (l++[c])=undoM (undoI m l) c:=by unfold undoI;rw[List.foldl_append];rfl
def ThereM(m:Mac):Prop:=There m.H m.G m.T m.Q
theorem lasting_iff:∀ (l:List Chi) (m:Mac),Lasting l m↔∀ i,i<l.length→ThereM (undoI m (l.take (i+1))):=by
 intro l
 induction l with
 | nil=>intro m;exact⟨fun _ i h=>absurd h (Nat.not_lt_zero i),fun _=>trivial⟩
 | cons c r ih =>
  intro m
  constructor
  ·rintro ⟨h1,h2⟩ i hi
   cases i with
   | zero=>exact h1
   | succ i=>exact(ih (undoM m c)).1 h2 i (by simpa using hi)
  ·intro h
   refine⟨h 0 (by simp),(ih (undoM m c)).2 fun i hi=>?_⟩
   exact h (i+1) (by simpa using hi)
structure UndoIs(m mi:Mac):Prop where
 g:∃ k,k≤m.G.length∧mi.G=m.G.take k
 t:∃ k,k≤m.T.length∧mi.T=m.T.take k
 c:mi.ch=m.ch
 q:mi.Q=m.Q
 a:mi.ans=m.ans
 n:mi.first=m.first∧mi.steps=m.steps∧mi.fin=m.fin
 h:mi.H.length≤m.H.length
def CanBack(mi:Mac)(l:List Chi):Prop:=∀ c,c∈l→(0≤c.heap∧c.heap≤(mi.H.length:Int))∧(0≤c.trail∧c.trail≤(mi.T.length:Int))∧0≤c.goals∧c.goals≤(mi.G.length:Int)
theorem take_take_ex{α:Type}{l s:List α}(h:∃ k,k≤l.length∧s=l.take k)(j:Nat):∃ k,k≤l.length∧s.take j=l.take k:=by
 obtain⟨k,h1,rfl⟩:=h
 exact⟨min j k,by omega,by rw[List.take_take]⟩
theorem UndoIs.refl(m:Mac):UndoIs m m:=⟨⟨_,Nat.le_refl _,(List.take_length).symm⟩,⟨_,Nat.le_refl _,(List.take_length).symm⟩,rfl,rfl,rfl,⟨rfl,rfl,rfl⟩,Nat.le_refl _⟩
theorem UndoIs.undo{m mi:Mac}(h:UndoIs m mi)(c:Chi):UndoIs m (undoM mi c) :=
 ⟨take_take_ex h.g _,take_take_ex h.t _,h.c,h.q,h.a,h.n,by have:=h.h;simp only[undoM,List.length_take,unbind_length];omega⟩
theorem CanBack.undo{mi:Mac}{c:Chi}{l:List Chi}(h:CanBack mi (c::l))(hl:∀ x,x∈l→ChLe x c):CanBack (undoM mi c) l:=fun x hx=>by
 obtain⟨⟨a1,a2⟩,⟨b1,b2⟩,d1,d2⟩:=h c List.mem_cons_self
 obtain⟨⟨x1,_⟩,⟨y1,_⟩,z1,_⟩:=h x (List.mem_cons_of_mem _ hx)
 obtain⟨k1,k2,k3⟩:=hl x hx
 refine⟨⟨x1,?_⟩,⟨y1,?_⟩,z1,?_⟩
 ·simp only[undoM,List.length_take,unbind_length];omega
 ·simp only[undoM,List.length_take];omega
 ·simp only[undoM,List.length_take];omega
theorem undoI_ok(m:Mac):∀ (l:List Chi) (mi:Mac),UndoIs m mi→CanBack mi l→l.Pairwise (fun a b=>ChLe b a)→∀ i,i≤l.length→UndoIs m (undoI mi (l.take i))∧CanBack (undoI mi (l.take i)) (l.drop i):=by
 intro l
 induction l with
 | nil =>
  intro mi h k _ i hi;simp only[List.length_nil] at hi;have:i=0:=by omega
  subst this;exact⟨h,k⟩
 | cons c r ih =>
  intro mi h k hp i hi
  cases i with
  | zero=>exact⟨h,k⟩
  | succ i =>
   obtain⟨p1,p2⟩:=List.pairwise_cons.1 hp
   exact ih (undoM mi c) (h.undo c) (k.undo p1) p2 i (by simpa using hi)
theorem back_ok{np:Nat}{m:Mac}(hc:ChoicesOk np m.G.length m.H.length m.T.length zeroChi m.ch)(i:Nat)(hi:i≤m.ch.length):UndoIs m (undoI m (m.ch.reverse.take i))∧CanBack (undoI m (m.ch.reverse.take i)) (m.ch.reverse.drop i):=by
 obtain⟨h1,h2⟩:=choices_le _ _ _ _ _ _ hc
 refine undoI_ok m _ m (UndoIs.refl m) (fun c hc=>?_) (List.pairwise_reverse.2 h2) i (by simpa using hi)
 obtain⟨⟨a,b,d⟩,e,f,g⟩:=h1 c (List.mem_reverse.1 hc)
 have a':0≤c.heap:=a
 have b':0≤c.trail:=b
 have d':0≤c.goals:=d
 exact⟨⟨a',e⟩,⟨b',f⟩,d',g⟩
theorem back_next{m:Mac}{i:Nat}(hi:i<m.ch.length):m.ch.reverse.take (i+1)=m.ch.reverse.take i++[m.ch.getD (m.ch.length-1-i) zeroChi]∧m.ch.getD (m.ch.length-1-i) zeroChi∈m.ch.reverse.drop i:=by
 have hr:i<m.ch.reverse.length:=by simpa using hi
 have e:m.ch.reverse[i]=m.ch.getD (m.ch.length-1-i) zeroChi:=by
  rw[List.getElem_reverse,List.getD_eq_getElem?_getD,List.getElem?_eq_getElem (by omega)];rfl
 refine⟨by rw[List.take_succ_eq_append_getElem hr,e],?_⟩
 rw[← e,List.drop_eq_getElem_cons hr]
 exact List.mem_cons_self
theorem Try.infoCells1:(Try.prog.info? 69).map (fun i=>(i.size,i.bytes))=some (3,32):=by kernel_rfl
theorem Try.infoCells2:((Try.prog.info? 69).bind (fun i=>i.zero)).map (fun z=>z.cells.size)=some 3:=by kernel_rfl
theorem infoZCells:∃ i z,Try.prog.info? 69=some i∧i.zero=some z∧i.size=3∧i.bytes=32∧z.cells.size=3:=by
 have h1:=Try.infoCells1;have h2:=Try.infoCells2
 obtain⟨i,hi,h3⟩:=Option.map_eq_some_iff.1 h1
 obtain⟨z,hz,h4⟩:=Option.map_eq_some_iff.1 h2
 rw[hi,Option.bind_some] at hz
 simp only[Prod.mk.injEq] at h3
 exact⟨i,z,hi,hz,h3.1,h3.2,h4⟩
set_option maxRecDepth 100000 in
set_option maxHeartbeats 400000 in
theorem CloneCellsW{w:World}{ok:Nat→Prop}{n:Nat}{vs:List Value}{a:Option Addr}{cap:Nat}(h:RwAt w ok 3 n vs a cap)(h1:∀ u∈vs,u.oneCell'=true)(hn:n*32≤140737488355328) :
 Calls Try.prog 56 #[.slice a n cap] w fun e w'=>(∃ v,e=.returned v∧w'.ownsRow w.heap.size 69 3 v n vs)∧Below w.heap.size w w':=by
 have qT:∀ (w:World) (a:Option Addr) (n c n' c':Nat),(binOp .eql 24 (.slice a n c) (.slice none n' c')).run Try.prog w=.ok (.bool a.isNone) w:=fun w a n c n' c'=>Lib.run_eql_slice_nil w _ _ a n c n' c' Try.underlying24
 cases a with
 | none =>
  obtain⟨rfl,rfl,rfl⟩:=h.none
  go_enter Try.func56,Try.ntmps56
  go_wp2_with fail
  go_ret
  exact⟨⟨_,rfl,World.ownsRow_nil _ _ _ _⟩,Below.refl _ _⟩
 | some ad =>
  obtain⟨i0,zc,hi0,hz0,hz1,hz2,hz3⟩:=infoZCells
  have hB:Below w.heap.size w (w.alloc (.cells #[] 69)):=(Below.refl _ _).alloc (Nat.le_refl _) _
  have HO:Hid ((w.alloc (.cells #[] 69)).ownsRow w.heap.size 69 3 (.slice (some ⟨w.heap.size,0,none⟩) 0 0) 0 []):=lh (World.ownsRow_lit (base:=w.heap.size) (e:=69) (size:=3) w #[] 0 (Nat.le_refl _) (Nat.zero_le _) rfl)
  have HC:=lh ((h.mono (ok':=fun b=>b<w.heap.size) fun b hb _=>hb).below hB).news
  have HL:=lh h.len
  have HB:=lh hB
  have H1:=lh h1
  clear h hB h1
  go_enter Try.func56,Try.ntmps56
  go_wp2_with (at_builtin;refine wpList_append_fresh _ rfl _ _ 24 rfl w.heap.size 69 i0 zc 3 32 Try.underlying24 hi0 hz0 hz1 hz2 hz3 (by decide) _ _ _ rfl HO.out ad n cap vs rfl HL.out HC.out H1.out ?c3 ?c4 ?c5 ?_)
  case c3=>unfold maxLen;omega
  case c4=>omega
  case c5=>simp
  intro v w1 hown hgrow hfr
  have HN:Hid (w1.ownsRow w.heap.size 69 3 v n vs):=lh (by have h:=hown;simpa using h)
  have HB2:=lh (HB.out.grown hgrow HB.out.size (fun j e=>(HO.out.lt j e).1))
  clear hown hgrow hfr
  go_wp2_with fail
  go_ret
  exact⟨⟨_,rfl,HN.out⟩,HB2.out⟩
theorem Try.infoGoals1:(Try.prog.info? 65).map (fun i=>(i.size,i.bytes))=some (3,24):=by kernel_rfl
theorem Try.infoGoals2:((Try.prog.info? 65).bind (fun i=>i.zero)).map (fun z=>z.cells.size)=some 3:=by kernel_rfl
theorem infoZGoals:∃ i z,Try.prog.info? 65=some i∧i.zero=some z∧i.size=3∧i.bytes=24∧z.cells.size=3:=by
 have h1:=Try.infoGoals1;have h2:=Try.infoGoals2
 obtain⟨i,hi,h3⟩:=Option.map_eq_some_iff.1 h1
 obtain⟨z,hz,h4⟩:=Option.map_eq_some_iff.1 h2
 rw[hi,Option.bind_some] at hz
 simp only[Prod.mk.injEq] at h3
 exact⟨i,z,hi,hz,h3.1,h3.2,h4⟩
set_option maxRecDepth 100000 in
set_option maxHeartbeats 400000 in
theorem CloneGoalsW{w:World}{ok:Nat→Prop}{n:Nat}{vs:List Value}{a:Option Addr}{cap:Nat}(h:RwAt w ok 3 n vs a cap)(h1:∀ u∈vs,u.oneCell'=true)(hn:n*24≤140737488355328) :
 Calls Try.prog 57 #[.slice a n cap] w fun e w'=>(∃ v,e=.returned v∧w'.ownsRow w.heap.size 65 3 v n vs)∧Below w.heap.size w w':=by
 have qT:∀ (w:World) (a:Option Addr) (n c n' c':Nat),(binOp .eql 25 (.slice a n c) (.slice none n' c')).run Try.prog w=.ok (.bool a.isNone) w:=fun w a n c n' c'=>Lib.run_eql_slice_nil w _ _ a n c n' c' Try.underlying25
 cases a with
 | none =>
  obtain⟨rfl,rfl,rfl⟩:=h.none
  go_enter Try.func57,Try.ntmps57
  go_wp2_with fail
  go_ret
  exact⟨⟨_,rfl,World.ownsRow_nil _ _ _ _⟩,Below.refl _ _⟩
 | some ad =>
  obtain⟨i0,zc,hi0,hz0,hz1,hz2,hz3⟩:=infoZGoals
  have hB:Below w.heap.size w (w.alloc (.cells #[] 65)):=(Below.refl _ _).alloc (Nat.le_refl _) _
  have HO:Hid ((w.alloc (.cells #[] 65)).ownsRow w.heap.size 65 3 (.slice (some ⟨w.heap.size,0,none⟩) 0 0) 0 []):=lh (World.ownsRow_lit (base:=w.heap.size) (e:=65) (size:=3) w #[] 0 (Nat.le_refl _) (Nat.zero_le _) rfl)
  have HC:=lh ((h.mono (ok':=fun b=>b<w.heap.size) fun b hb _=>hb).below hB).news
  have HL:=lh h.len
  have HB:=lh hB
  have H1:=lh h1
  clear h hB h1
  go_enter Try.func57,Try.ntmps57
  go_wp2_with (at_builtin;refine wpList_append_fresh _ rfl _ _ 25 rfl w.heap.size 65 i0 zc 3 24 Try.underlying25 hi0 hz0 hz1 hz2 hz3 (by decide) _ _ _ rfl HO.out ad n cap vs rfl HL.out HC.out H1.out ?c3 ?c4 ?c5 ?_)
  case c3=>unfold maxLen;omega
  case c4=>omega
  case c5=>simp
  intro v w1 hown hgrow hfr
  have HN:Hid (w1.ownsRow w.heap.size 65 3 v n vs):=lh (by have h:=hown;simpa using h)
  have HB2:=lh (HB.out.grown hgrow HB.out.size (fun j e=>(HO.out.lt j e).1))
  clear hown hgrow hfr
  go_wp2_with fail
  go_ret
  exact⟨⟨_,rfl,HN.out⟩,HB2.out⟩
theorem Try.infoChois1:(Try.prog.info? 67).map (fun i=>(i.size,i.bytes))=some (5,40):=by kernel_rfl
theorem Try.infoChois2:((Try.prog.info? 67).bind (fun i=>i.zero)).map (fun z=>z.cells.size)=some 5:=by kernel_rfl
theorem infoZChois:∃ i z,Try.prog.info? 67=some i∧i.zero=some z∧i.size=5∧i.bytes=40∧z.cells.size=5:=by
 have h1:=Try.infoChois1;have h2:=Try.infoChois2
 obtain⟨i,hi,h3⟩:=Option.map_eq_some_iff.1 h1
 obtain⟨z,hz,h4⟩:=Option.map_eq_some_iff.1 h2
 rw[hi,Option.bind_some] at hz
 simp only[Prod.mk.injEq] at h3
 exact⟨i,z,hi,hz,h3.1,h3.2,h4⟩
set_option maxRecDepth 100000 in
set_option maxHeartbeats 400000 in
theorem CloneChoisW{w:World}{ok:Nat→Prop}{n:Nat}{vs:List Value}{a:Option Addr}{cap:Nat}(h:RwAt w ok 5 n vs a cap)(h1:∀ u∈vs,u.oneCell'=true)(hn:n*40≤140737488355328) :
 Calls Try.prog 58 #[.slice a n cap] w fun e w'=>(∃ v,e=.returned v∧w'.ownsRow w.heap.size 67 5 v n vs)∧Below w.heap.size w w':=by
 have qT:∀ (w:World) (a:Option Addr) (n c n' c':Nat),(binOp .eql 26 (.slice a n c) (.slice none n' c')).run Try.prog w=.ok (.bool a.isNone) w:=fun w a n c n' c'=>Lib.run_eql_slice_nil w _ _ a n c n' c' Try.underlying26
 cases a with
 | none =>
  obtain⟨rfl,rfl,rfl⟩:=h.none
  go_enter Try.func58,Try.ntmps58
  go_wp2_with fail
  go_ret
  exact⟨⟨_,rfl,World.ownsRow_nil _ _ _ _⟩,Below.refl _ _⟩
 | some ad =>
  obtain⟨i0,zc,hi0,hz0,hz1,hz2,hz3⟩:=infoZChois
  have hB:Below w.heap.size w (w.alloc (.cells #[] 67)):=(Below.refl _ _).alloc (Nat.le_refl _) _
  have HO:Hid ((w.alloc (.cells #[] 67)).ownsRow w.heap.size 67 5 (.slice (some ⟨w.heap.size,0,none⟩) 0 0) 0 []):=lh (World.ownsRow_lit (base:=w.heap.size) (e:=67) (size:=5) w #[] 0 (Nat.le_refl _) (Nat.zero_le _) rfl)
  have HC:=lh ((h.mono (ok':=fun b=>b<w.heap.size) fun b hb _=>hb).below hB).news
  have HL:=lh h.len
  have HB:=lh hB
  have H1:=lh h1
  clear h hB h1
  go_enter Try.func58,Try.ntmps58
  go_wp2_with (at_builtin;refine wpList_append_fresh _ rfl _ _ 26 rfl w.heap.size 67 i0 zc 5 40 Try.underlying26 hi0 hz0 hz1 hz2 hz3 (by decide) _ _ _ rfl HO.out ad n cap vs rfl HL.out HC.out H1.out ?c3 ?c4 ?c5 ?_)
  case c3=>unfold maxLen;omega
  case c4=>omega
  case c5=>simp
  intro v w1 hown hgrow hfr
  have HN:Hid (w1.ownsRow w.heap.size 67 5 v n vs):=lh (by have h:=hown;simpa using h)
  have HB2:=lh (HB.out.grown hgrow HB.out.size (fun j e=>(HO.out.lt j e).1))
  clear hown hgrow hfr
  go_wp2_with fail
  go_ret
  exact⟨⟨_,rfl,HN.out⟩,HB2.out⟩
theorem Try.infoInts1:(Try.prog.info? 3).map (fun i=>(i.size,i.bytes))=some (1,8):=by kernel_rfl
theorem Try.infoInts2:((Try.prog.info? 3).bind (fun i=>i.zero)).map (fun z=>z.cells.size)=some 1:=by kernel_rfl
theorem infoZInts:∃ i z,Try.prog.info? 3=some i∧i.zero=some z∧i.size=1∧i.bytes=8∧z.cells.size=1:=by
 have h1:=Try.infoInts1;have h2:=Try.infoInts2
 obtain⟨i,hi,h3⟩:=Option.map_eq_some_iff.1 h1
 obtain⟨z,hz,h4⟩:=Option.map_eq_some_iff.1 h2
 rw[hi,Option.bind_some] at hz
 simp only[Prod.mk.injEq] at h3
 exact⟨i,z,hi,hz,h3.1,h3.2,h4⟩
set_option maxRecDepth 100000 in
set_option maxHeartbeats 400000 in
theorem CloneIntsW{w:World}{ok:Nat→Prop}{n:Nat}{vs:List Value}{a:Option Addr}{cap:Nat}(h:RwAt w ok 1 n vs a cap)(h1:∀ u∈vs,u.oneCell'=true)(hn:n*8≤140737488355328) :
 Calls Try.prog 59 #[.slice a n cap] w fun e w'=>(∃ v,e=.returned v∧w'.ownsRow w.heap.size 3 1 v n vs)∧Below w.heap.size w w':=by
 have qT:∀ (w:World) (a:Option Addr) (n c n' c':Nat),(binOp .eql 27 (.slice a n c) (.slice none n' c')).run Try.prog w=.ok (.bool a.isNone) w:=fun w a n c n' c'=>Lib.run_eql_slice_nil w _ _ a n c n' c' Try.underlying27
 cases a with
 | none =>
  obtain⟨rfl,rfl,rfl⟩:=h.none
  go_enter Try.func59,Try.ntmps59
  go_wp2_with fail
  go_ret
  exact⟨⟨_,rfl,World.ownsRow_nil _ _ _ _⟩,Below.refl _ _⟩
 | some ad =>
  obtain⟨i0,zc,hi0,hz0,hz1,hz2,hz3⟩:=infoZInts
  have hB:Below w.heap.size w (w.alloc (.cells #[] 3)):=(Below.refl _ _).alloc (Nat.le_refl _) _
  have HO:Hid ((w.alloc (.cells #[] 3)).ownsRow w.heap.size 3 1 (.slice (some ⟨w.heap.size,0,none⟩) 0 0) 0 []):=lh (World.ownsRow_lit (base:=w.heap.size) (e:=3) (size:=1) w #[] 0 (Nat.le_refl _) (Nat.zero_le _) rfl)
  have HC:=lh ((h.mono (ok':=fun b=>b<w.heap.size) fun b hb _=>hb).below hB).news
  have HL:=lh h.len
  have HB:=lh hB
  have H1:=lh h1
  clear h hB h1
  go_enter Try.func59,Try.ntmps59
  go_wp2_with (at_builtin;refine wpList_append_fresh _ rfl _ _ 27 rfl w.heap.size 3 i0 zc 1 8 Try.underlying27 hi0 hz0 hz1 hz2 hz3 (by decide) _ _ _ rfl HO.out ad n cap vs rfl HL.out HC.out H1.out ?c3 ?c4 ?c5 ?_)
  case c3=>unfold maxLen;omega
  case c4=>omega
  case c5=>simp
  intro v w1 hown hgrow hfr
  have HN:Hid (w1.ownsRow w.heap.size 3 1 v n vs):=lh (by have h:=hown;simpa using h)
  have HB2:=lh (HB.out.grown hgrow HB.out.size (fun j e=>(HO.out.lt j e).1))
  clear hown hgrow hfr
  go_wp2_with fail
  go_ret
  exact⟨⟨_,rfl,HN.out⟩,HB2.out⟩
end Go.Proofs.Ytikmgiapjigghab
namespace Go.Proofs.Ytikmgiapjigghab
open Go.RowKit Go.Shelf
attribute [local go_sem] Oper.semAt_some
def backN(l:List Int)(i:Nat):Array Value:=#[.int .i64 ((l.length-1-i:Nat):Int),.int .i64 (l.getD (l.length-1-i) 0)]
set_option maxRecDepth 100000 in
set_option maxHeartbeats 1000000 in
theorem backN_turns{n:Nat}(hn:1≤n){w0:World}{B0:Nat}{ok:Nat→Prop}(l:List Int){a:Option Addr}{cap:Nat}(hB:B0<w0.heap.size∧ok B0)(h0:w0.cell? ⟨B0,0,none⟩=some (.slice a l.length cap))(hr:IsAt w0 ok l a cap) :
 Turns Fence.wide n Try.prog 114 #[.pointer (some ⟨B0,0,none⟩)] (backN l) (Keeps ok) l.length w0:=by
 intro lp J Jx W hW hJ hJx hY hJ0
 have hro:Fence.wide.round=none:=rfl
 have hl9:l.length≤9223372036854775807:=by have:=hr.cap;unfold maxLen at this;omega
 have HY:=lh hY;have HR:=lh hr
 have HKW:Hid (Keeps ok w0 W):=lh (Keeps.below hW ok)
 have HJ0:=lh hJ0
 have c0:=(HKW.out.cell (p:=⟨B0,0,none⟩) hB.2 hB.1).trans h0
 clear hY hJ hJx hr hJ0
 refine callsIn_of_wp Try.func114 rfl trivial ?_ hro
 simp only[Try.ntmps114,List.size_toArray,List.length_cons,List.length_nil,Nat.reduceAdd,Nat.reduceSub,Array.replicate_succ,Array.replicate_zero,List.push_toArray,List.append_toArray,List.nil_append,List.cons_append]
 gi_wp2
 gi_loopw [3] (fun p wr=>∃ j:Nat,j≤l.length∧p=.int .i64 ((l.length:Int)-1-j)∧Hid (J j wr)∧Hid (Keeps ok W wr)) (fun p _=>(intOf p+1).toNat)
 case atStart=>exact⟨0,Nat.zero_le _,by go_num,HJ0,lh (Keeps.below (Below.refl _ _) ok)⟩
 case round =>
  obtain⟨j,hj,rfl,HJ,HK⟩:=hrel
  have c1:=(HK.out.cell (p:=⟨B0,0,none⟩) hB.2 (Nat.lt_of_lt_of_le hB.1 hW.size)).trans c0
  by_cases hlt:j<l.length
  ·obtain⟨q,hq,hql⟩:∃ q:Nat,q=l.length-1-j∧q<l.length:=⟨l.length-1-j,rfl,by omega⟩
   have hqi:(l.length:Int)-1-(j:Int)=(q:Int):=by omega
   obtain⟨b,off,rfl,hokb,hb,hcs⟩:=HR.out.at' q hql
   have hK0:Keeps ok w0 wr:=HKW.out.trans HK.out
   have m0:=(hK0.cell (p:=⟨b,off+q,none⟩) hokb hb).trans hcs
   obtain⟨fn,tmps,assign,body,hy,hR⟩:=HY.out j wr hlt HJ.out
   have e:backN l j = #[.int .i64 (q:Int),.int .i64 l[q]]:=by
    unfold backN;rw[← hq,List.getD_eq_getElem?_getD,List.getElem?_eq_getElem hql];rfl
   rw[e] at hy
   rw[hqi]
   have HQ:=lh hqi
   have hq0:(0:Int)≤(q:Int):=by omega
   clear hK0 hcs hq e hqi
   gi_wp2
   refine hR.mono ?_
   rintro e W3 (⟨rfl,hJ3,hk3⟩ | ⟨rfl,hJx3⟩)
   ·have HJ3:=lh hJ3
    have HK3:=lh (HK.out.trans hk3)
    clear hJ3 hk3
    gi_wp2
    go_roundw
    case rel=>exact⟨j+1,by omega,by have:=HQ.out;go_num,HJ3,HK3⟩
    case measure=>have:=HQ.out;simp only[intOf];omega
   ·have HJ3:=lh hJx3
    clear hJx3
    gi_wp2
    refine bodyPost_ret (results_none rfl _ _ _) rfl ?_
    exact⟨⟨_,rfl⟩,.inr HJ3.out⟩
  ·have hje:j=l.length:=by omega
   have HE:Hid (J l.length wr):=lh (by rw[← hje];exact HJ.out)
   have hlo:(l.length:Int)-1-(j:Int) = -1:=by omega
   rw[hlo]
   clear hje
   gi_wp2
   go_end0
   exact⟨⟨_,rfl⟩,.inl HE.out⟩
set_option maxRecDepth 100000 in
set_option maxHeartbeats 400000 in
theorem backN_in(F:Fence)(n:Nat)(hF:F.fn 96)(hro:F.round=none)(a:Option Addr)(len cap:Nat)(w:World) :
 CallsIn F n Try.prog 96 #[.slice a len cap] w fun e w'=>e=.returned (.func (.func 114) #[] #[.pointer (some ⟨w.heap.size,0,none⟩)])∧w'=w.alloc (.cells #[.slice a len cap] 27):=by
 refine callsIn_of_wp Try.func96 rfl hF ?_ hro
 simp only[Try.ntmps96,List.size_toArray,List.length_cons,List.length_nil,Nat.reduceAdd,Nat.reduceSub,Array.replicate_succ,Array.replicate_zero,List.push_toArray,List.append_toArray,List.nil_append,List.cons_append]
 gi_wp2
 go_ret
 exact⟨rfl,rfl⟩
end Go.Proofs.Ytikmgiapjigghab
