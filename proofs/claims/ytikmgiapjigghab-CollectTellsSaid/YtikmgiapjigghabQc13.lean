/- Walk: a binder's Same. -/
import Derived.Deep.QuietTactic
import Derived.BigQuiet
import Derived.Deep.RegionWith
import Derived.Test.YtikmgiapjigghabQc10
import Derived.Test.YtikmgiapjigghabQc12
set_option maxRecDepth 100000
set_option maxHeartbeats 8000000
namespace Go.Proofs.Ytikmgiapjigghab
open Go.RowKit
structure mH(w:World)(b:Nat)(c:HC):Prop where
 blk:w.heap[b]? = some (.cells #[.int .i64 c.k,.int .i64 c.n,.string c.name] 69 (0,0))
theorem mH.c0{w:World}{b:Nat}{c:HC}(h:mH w b c):w.cell? ⟨b,0,none⟩=some (.int .i64 c.k):=by simp[World.cell?,h.blk]
theorem mH.c1{w:World}{b:Nat}{c:HC}(h:mH w b c):w.cell? ⟨b,1,none⟩=some (.int .i64 c.n):=by simp[World.cell?,h.blk]
theorem mH.c2{w:World}{b:Nat}{c:HC}(h:mH w b c):w.cell? ⟨b,2,none⟩=some (.string c.name):=by simp[World.cell?,h.blk]
theorem mH.lt{w:World}{b:Nat}{c:HC}(h:mH w b c):b<w.heap.size:=(gS h.blk).1
theorem mH.keep{w w':World}{b:Nat}{c:HC}(h:mH w b c)(hb:w'.heap[b]? = w.heap[b]?):mH w' b c:=⟨hb.trans h.blk⟩
theorem bJ3(w:World)(c d:HC){v8 v9:Value}(h8:v8=.pointer (some ⟨w.heap.size,0,none⟩))(h9:v9=.pointer (some ⟨w.heap.size+1,0,none⟩)):∃b8 b9,v8=.pointer (some ⟨b8,0,none⟩)∧v9=.pointer (some ⟨b9,0,none⟩)∧w.heap.size≤b8∧w.heap.size≤b9 ∧
 mH ((w.alloc (.cells #[.int .i64 c.k,.int .i64 c.n,.string c.name] 69)).alloc (.cells #[.int .i64 d.k,.int .i64 d.n,.string d.name] 69)).drew b8 c∧mH ((w.alloc (.cells #[.int .i64 c.k,.int .i64 c.n,.string c.name] 69)).alloc (.cells #[.int .i64 d.k,.int .i64 d.n,.string d.name] 69)).drew b9 d∧Below w.heap.size w ((w.alloc (.cells #[.int .i64 c.k,.int .i64 c.n,.string c.name] 69)).alloc (.cells #[.int .i64 d.k,.int .i64 d.n,.string d.name] 69)).drew:=by
 refine⟨w.heap.size,w.heap.size+1,h8,h9,nR _,by omega,⟨?_⟩,⟨?_⟩,(((bR _ _).alloc (nR _) _).alloc (by simp) _).drew⟩
 ·show ((w.alloc _).alloc _).heap[w.heap.size]? = _
  rw[Below.heap_alloc _ _ _ (by simp)];exact heap_alloc_new w _
 ·have:=heap_alloc_new (w.alloc (.cells #[.int .i64 c.k,.int .i64 c.n,.string c.name] 69)) (.cells #[.int .i64 d.k,.int .i64 d.n,.string d.name] 69)
  rw[aSz] at this;exact this
theorem xI{α β:Type}(l:List α)(r:List β)(i:Nat):(l.zip r).drop i=(l.drop i).zip (r.drop i):=by
 rw[List.zip_eq_zipWith,List.zip_eq_zipWith,List.drop_zipWith]
def bO3(K:List HC)(B:List Nat)(f:Nat):qC→Prop
 | .ok K' B' f'=>dZ K'∧K'.length=K.length∧B'.length+f'≤B.length+f∧f'≤f
 | .no K' _ _=>dZ K'∧K'.length=K.length
 | .many K' _=>dZ K'∧K'.length=K.length
theorem uE:∀(f:Nat) (K:List HC) (B:List Nat) (ps:List (Nat×Nat)),dZ K→(∀p,p∈ps→p.1<K.length∧p.2<K.length)→bO3 K B f (dE K B f ps):=by
 intro f
 induction f using Nat.strongRecOn with
 | _ f ih =>
 intro K B ps hI hp;cases ps with
 | nil=>rw[gB];exact⟨hI,rfl,nR _,nR _⟩
 | cons p r =>
  cases f with
  | zero=>rw[gT];exact⟨hI,rfl⟩
  | succ f =>
   have h1:=hI.end (hp p List.mem_cons_self).1;have h2:=hI.end (hp p List.mem_cons_self).2;cases hs:aU K B f (aG K p.1) (aG K p.2) with
   | done o =>
    rw[gU _ hs];unfold aU cU at hs;split at hs
    ·cases hs
    ·split at hs
     ·split at hs
      ·cases hs;exact⟨hI,rfl⟩
      ·cases hs;exact⟨hI,rfl⟩
      ·cases hs
     ·split at hs
      ·split at hs
       ·cases hs;exact⟨hI,rfl⟩
       ·cases hs;exact⟨hI,rfl⟩
       ·cases hs
      ·split at hs
       ·cases hs;exact⟨hI,rfl⟩
       ·cases hs
   | go K' B' f' m =>
    rw[kO _ hs];obtain⟨a,b,c,d⟩:=lH hI h1.1 h1.2 h2.1 h2.2 hs;have hle:=fE hs;have:=ih f' (by omega) K' B' (m++r) a (fun q hq=>by
     rcases List.mem_append.1 hq with hq|hq
     ·rw[b];exact c q hq
     ·rw[b];exact hp q (List.mem_cons_of_mem _ hq))
    generalize dE K' B' f' (m++r)=o at *;cases o with
    | ok K2 B2 f2=>obtain⟨e1,e2,e3,e4⟩:=this;exact⟨e1,by rw[e2,b],by omega,by omega⟩
    | no K2 B2 f2=>obtain⟨e1,e2⟩:=this;exact⟨e1,by rw[e2,b]⟩
    | many K2 B2=>obtain⟨e1,e2⟩:=this;exact⟨e1,by rw[e2,b]⟩
theorem aA.freshB{w wr w':World}{bs g:Nat}{v vi:Value}(h1:aA (BM bs g v) w wr)(hf:cF w v vi)(h2:aA (BM bs g vi) wr w'):aA (BM bs g v) w w':=by
 refine⟨h2.os.trans h1.os,h2.tape.trans h1.tape,h2.output.trans h1.output,Nat.le_trans h1.size h2.size,fun b hb hn=>(h2.block b (nT hb h1.size) ?_).trans (h1.block b hb hn)⟩;rintro (e|e|e)
 ·exact hn (.inl e)
 ·exact hn (.inr (.inl e))
 ·rcases hf with e2|e2
  ·exact hn (.inr (.inr (by rw[←e2];exact e)))
  ·have:=e2 b e;omega
def xJ(T:TypeId)(w:World)(bs g cap:Nat)(tv:Value)(o:qC)(e:Ending)(w':World):Prop :=
 aA (BM bs g tv) w w'∧∃tv',cF w tv tv' ∧
 match o with
 | .ok K B f=>e=.returned (.tuple #[.bool true,.int .i64 0])∧BAt T w' bs g cap tv' K B (4000-f)
 | .no K B f=>e=.returned (.tuple #[.bool false,.int .i64 0])∧BAt T w' bs g cap tv' K B (4000-f)
 | .many K B=>e=.returned (.tuple #[.bool false,.int .i64 2])∧BAt T w' bs g cap tv' K B 4001
def bQ5(w:World)(c d:HC)(v8 v9:Value)(wx:World):Prop :=
 ∃b8 b9,v8=.pointer (some ⟨b8,0,none⟩)∧v9=.pointer (some ⟨b9,0,none⟩)∧w.heap.size≤b8∧w.heap.size≤b9∧mH wx b8 c∧mH wx b9 d∧Below w.heap.size w wx
theorem bL6{bs g cap:Nat}(f:Nat):∀(K:List HC) (Bd:List Nat) (tv:Value) (x y:Nat) (w:World),f≤4000→BAt 164 w bs g cap tv K Bd (4000-f)→dZ K→Bd.length+f≤1000000→x<K.length→y<K.length →
 Calls Try.prog 112 #[.pointer (some ⟨bs,0,none⟩),.int .i64 x,.int .i64 y] w (xJ 164 w bs g cap tv (dE K Bd f [(x,y)])):=by
 induction f using Nat.strongRecOn with
 | _ f ih =>
 intro K Bd tv x0 y0 w hf4 hst hI hL hx0 hy0;have IH:=lh ih;have HST:=lh hst;have HI:=lh hI;clear ih hst hI;go_enter Try.func112,Try.ntmps112;go_wp2_with fail;refine(aN8 HST.out (by omega)).mono ?_;rintro e w1 ⟨rfl,hs1,ht1⟩;cases f with
 | zero =>
  have hd:decide (4000-0+1≤4000)=false:=by decide
  have HS1:=lh hs1;have HT1:=lh ht1;clear hs1 ht1;rw[hd];go_wp2_with fail
  go_ret2
  rw[gT];exact⟨HT1.out,tv,.inl rfl,rfl,HS1.out⟩
 | succ f =>
  have hd:decide (4000-(f+1)+1≤4000)=true:=decide_eq_true (by omega);have hwk:4000-(f+1)+1=4000-f:=by omega
  rw[hd];rw[hwk] at hs1;have HS1:=lh hs1;have HT1:=lh ht1;obtain⟨c0,-,-,-,-⟩:=hs1.cells;obtain⟨m1,hm1⟩:=fI (HI.out.straight x0 hx0);obtain⟨m2,hm2⟩:=fI (HI.out.straight y0 hy0);have HE1:=lh (fun nq=>(aK1 (hs1.hp.below (bP w1 nq)) HI.out.cells hm1 hx0).mono (R':=fun e w'=>e=.returned (.int .i64 (aG K x0:Nat))∧w'=w1.drewN nq) fun _ _ h=>⟨h.1,h.2.symm⟩);have HE2:=lh (fun nq=>(aK1 (hs1.hp.below (bP w1 nq)) HI.out.cells hm2 hy0).mono (R':=fun e w'=>e=.returned (.int .i64 (aG K y0:Nat))∧w'=w1.drewN nq) fun _ _ h=>⟨h.1,h.2.symm⟩);have HX:=lh (HI.out.end hx0);have HY:=lh (HI.out.end hy0);have HM:Hid (∀o,aU K Bd f (aG K x0) (aG K y0)=.done o→dE K Bd (f+1) [(x0,y0)]=o):=lh (fun o h=>gU [] h);have HM2:Hid (∀K' B' f' m,aU K Bd f (aG K x0) (aG K y0)=.go K' B' f' m→dE K Bd (f+1) [(x0,y0)]=dE K' B' f' m):=lh (fun K' B' f' m h=>by have:=kO (p:=(x0,y0)) [] h;rwa [List.append_nil] at this);clear hs1 ht1 hd hwk hm1 hm2;generalize aG K x0=x at *;generalize aG K y0=y at *;generalize hM:dE K Bd (f+1) [(x0,y0)]=M at *;clear hM;have DQ:=bP w1;go_wp2_with fail
  go_quiet (first
   | (go_at_call_of 85 (Value.int .i64 (x0:Nat));exact Calls.quiet_of_same (HE1.out _))
   | (go_at_call_of 85 (Value.int .i64 (y0:Nat));exact Calls.quiet_of_same (HE2.out _)))
  rename_i nq;have hB:=DQ nq;generalize w1.drewN nq=w2 at *;have HS2:=lh (HS1.out.keep hB);have HT2:=lh (HT1.out.trans (aA.below hB));obtain⟨c0,c1,c2,cf,gf⟩:=HS2.out.cells;obtain⟨b',off',he,-,-,d0,d1,d2,-⟩:=HS2.out.hp.at' x HX.out.1;injection he with he;injection he with e1 e2;subst e1;subst e2;rw[Nat.zero_add] at d0 d1 d2;obtain⟨b'',off'',he,-,-,p0,p1,p2,-⟩:=HS2.out.hp.at' y HY.out.1;injection he with he;injection he with e1 e2;subst e1;subst e2;rw[Nat.zero_add] at p0 p1 p2;have hxl:=HX.out.1;have hyl:=HY.out.1;have hKl:K.length≤9223372036854775807:=by have:=HI.out.len;omega
  clear hB DQ HE1 HE2;go_upto_region 4 with fail
  go_cut[8,9] (fun v8 v9 wx=>bQ5 w2 (hc K x) (hc K y) v8 v9 wx)
  case first =>
   have hbl:=HS2.out.lt;have KH:Hid (∀u,Below w2.heap.size w2 u→(fun u=>u.cell? ⟨bs,0,none⟩=some (.slice (some ⟨g,0,none⟩) K.length cap)∧u.cell? ⟨g,x*3,none⟩=some (.int .i64 (hc K x).k)∧u.cell? ⟨g,x*3+1,none⟩=some (.int .i64 (hc K x).n)∧u.cell? ⟨g,x*3+2,none⟩=some (.string (hc K x).name)∧u.cell? ⟨g,y*3,none⟩=some (.int .i64 (hc K y).k)∧u.cell? ⟨g,y*3+1,none⟩=some (.int .i64 (hc K y).n)∧u.cell? ⟨g,y*3+2,none⟩=some (.string (hc K y).name)∧Below w2.heap.size w2 u) u):=lh (fun u hb=>⟨(hb.cell (p:=⟨bs,0,none⟩) hbl.1).trans c0,(hb.cell (p:=⟨g,_,none⟩) hbl.2).trans d0,(hb.cell (p:=⟨g,_,none⟩) hbl.2).trans d1,(hb.cell (p:=⟨g,_,none⟩) hbl.2).trans d2,(hb.cell (p:=⟨g,_,none⟩) hbl.2).trans p0,(hb.cell (p:=⟨g,_,none⟩) hbl.2).trans p1,(hb.cell (p:=⟨g,_,none⟩) hbl.2).trans p2,hb⟩);have NA:∀(u:World) (X:Obj),Below w2.heap.size w2 u→Below w2.heap.size w2 (u.alloc X):=fun u X h1=>h1.alloc h1.size _
   clear c0 d0 d1 d2 p0 p1 p2 hbl
   go_region_held3 (fun u=>u.cell? ⟨bs,0,none⟩=some (.slice (some ⟨g,0,none⟩) K.length cap)∧u.cell? ⟨g,x*3,none⟩=some (.int .i64 (hc K x).k)∧u.cell? ⟨g,x*3+1,none⟩=some (.int .i64 (hc K x).n)∧u.cell? ⟨g,x*3+2,none⟩=some (.string (hc K x).name)∧u.cell? ⟨g,y*3,none⟩=some (.int .i64 (hc K y).k)∧u.cell? ⟨g,y*3+1,none⟩=some (.int .i64 (hc K y).n)∧u.cell? ⟨g,y*3+2,none⟩=some (.string (hc K y).name)∧Below w2.heap.size w2 u)
    (first
     | (with_reducible assumption)
     | ((with_reducible refine KH.out _ ?_);repeat' (first|(with_reducible assumption)|(with_reducible exact Below.refl _ _)|(with_reducible refine Below.drew ?_)|(with_reducible refine NA _ _ ?_)|(with_reducible refine Below.setCell ?_ ?_ _)|(simp only[aSz,dSz,sSz];omega)|omega)))
    (fail)
   all_goals
    go_wp2_with fail;go_meet
    first
     | exact bJ3 w2 (hc K x) (hc K y) rfl rfl
     | (
      obtain⟨b8,b9,h1,h2,h3,h4,h5,h6,h7⟩:=bJ3 w2 (hc K y) (hc K x) rfl rfl;exact⟨b9,b8,h2,h1,h4,h3,h6,h5,h7⟩)
  case rest =>
   obtain⟨b8,b9,rfl,rfl,h8,h9,hb8,hb9,hbl⟩:=hcut;have HS3:=lh (HS2.out.keep hbl);have HT3:=lh (HT2.out.trans (aA.below hbl));have k0:=hb8.c0;have k1:=hb8.c1;have k2:=hb8.c2;have l0:=hb9.c0;have l1:=hb9.c1;have l2:=hb9.c2;have HB8:=lh hb8;have HB9:=lh hb9;have H8:Hid (w2.heap.size≤b8∧w2.heap.size≤b9):=lh ⟨h8,h9⟩;clear hb8 hb9 hbl h8 h9 c0 c1 c2 cf gf d0 d1 d2 p0 p1 p2;by_cases hk:(hc K x).k=1
   ·rw[hk] at k0
    by_cases hxy:x=y
    ·have HMM:Hid (M=.ok K Bd f):=lh (by
      have:=HM2.out K Bd f [] (by unfold aU;rw[if_pos ⟨hk,hxy⟩]);rw[gB] at this;exact this)
     have hxy':((x:Int) == (y:Int))=true:=by rw[beq_iff_eq];omega
     clear hk hxy;go_wp2_with fail
     go_ret2
     rw[HMM.out];exact⟨HT3.out,tv,.inl rfl,rfl,HS3.out⟩
    ·have hxy':((x:Int) == (y:Int))=false:=by rw[beq_eq_false_iff_ne];omega
     have HB:=lh (aX1 HI.out x y f wc (by omega) HS3.out hxl hyl (by omega));have HPS:Hid (aU K Bd f x y=cU K Bd x y f):=lh (by unfold aU;rw[if_neg (fun h=>hxy h.2),if_pos hk]);clear hk hxy;go_wp2_with fail;refine HB.out.mono ?_;intro e w4 hpost;unfold cU at HPS;have HLE:=lh ((lW K x f [y]).2);generalize aV K x f [y]=o at *;cases o with
     | yes f' =>
      obtain⟨ht4,rfl,hs4⟩:=hpost;have HS4:=lh hs4;have HT4:=lh ht4;have HMM:=lh (HM.out _ HPS.out);clear hs4 ht4;go_wp2_with fail
      go_ret2
      rw[HMM.out];exact⟨HT3.out.trans HT4.out,tv,.inl rfl,rfl,HS4.out⟩
     | many =>
      obtain⟨ht4,rfl,hs4⟩:=hpost;have HS4:=lh hs4;have HT4:=lh ht4;have HMM:=lh (HM.out _ HPS.out);clear hs4 ht4;go_wp2_with fail
      go_ret2
      rw[HMM.out];exact⟨HT3.out.trans HT4.out,tv,.inl rfl,rfl,HS4.out⟩
     | no f' =>
      obtain⟨ht4,rfl,tv',hfr,hs4⟩:=hpost;have HS4:=lh hs4;have HT4:=lh ht4;have HFR:=lh hfr;have hmin:min f' f=f':=Nat.min_eq_left (HLE.out f' rfl);have HMM:Hid (M=.ok (setN K (cM K x y).1 (cM K x y).2) (Bd++[(cM K x y).1]) f'):=lh (by
       have:=HM2.out _ _ _ _ HPS.out;rw[hmin,gB] at this;exact this)
      clear hs4 ht4 hfr hmin;go_wp2_with fail
      go_ret2
      rw[HMM.out];exact⟨HT3.out.trans HT4.out,tv',by
       rcases HFR.out with e|e
       ·exact .inl e
       ·exact .inr fun gg hgg=>by have:=e gg hgg;have:=HT3.out.size;omega,rfl,HS4.out⟩
   ·have hk':((hc K x).k == 1)=false:=by simpa using hk
    by_cases hk2:(hc K y).k=1
    ·rw[hk2] at l0
     have HB:=lh (aX1 HI.out y x f wc (by omega) HS3.out hyl hxl (by omega));have HPS:Hid (aU K Bd f x y=cU K Bd y x f):=lh (by unfold aU;rw[if_neg (fun h=>hk h.1),if_neg hk,if_pos hk2]);clear hk hk2;go_wp2_with fail;refine HB.out.mono ?_;intro e w4 hpost;unfold cU at HPS;have HLE:=lh ((lW K y f [x]).2);generalize aV K y f [x]=o at *;cases o with
     | yes f' =>
      obtain⟨ht4,rfl,hs4⟩:=hpost;have HS4:=lh hs4;have HT4:=lh ht4;have HMM:=lh (HM.out _ HPS.out);clear hs4 ht4;go_wp2_with fail
      go_ret2
      rw[HMM.out];exact⟨HT3.out.trans HT4.out,tv,.inl rfl,rfl,HS4.out⟩
     | many =>
      obtain⟨ht4,rfl,hs4⟩:=hpost;have HS4:=lh hs4;have HT4:=lh ht4;have HMM:=lh (HM.out _ HPS.out);clear hs4 ht4;go_wp2_with fail
      go_ret2
      rw[HMM.out];exact⟨HT3.out.trans HT4.out,tv,.inl rfl,rfl,HS4.out⟩
     | no f' =>
      obtain⟨ht4,rfl,tv',hfr,hs4⟩:=hpost;have HS4:=lh hs4;have HT4:=lh ht4;have HFR:=lh hfr;have hmin:min f' f=f':=Nat.min_eq_left (HLE.out f' rfl);have HMM:Hid (M=.ok (setN K (cM K y x).1 (cM K y x).2) (Bd++[(cM K y x).1]) f'):=lh (by
       have:=HM2.out _ _ _ _ HPS.out;rw[hmin,gB] at this;exact this)
      clear hs4 ht4 hfr hmin;go_wp2_with fail
      go_ret2
      rw[HMM.out];exact⟨HT3.out.trans HT4.out,tv',by
       rcases HFR.out with e|e
       ·exact .inl e
       ·exact .inr fun gg hgg=>by have:=e gg hgg;have:=HT3.out.size;omega,rfl,HS4.out⟩
    ·have hk2':((hc K y).k == 1)=false:=by simpa using hk2
     have HPS:Hid (aU K Bd f x y=if (hc K x).name≠(hc K y).name∨(hc K x).n≠(hc K y).n then .done (.no K Bd f) else .go K Bd f ((bD K x).zip (bD K y))):=lh (by
      unfold aU;rw[if_neg (fun h=>hk h.1),if_neg hk,if_neg hk2])
     obtain⟨n,hn,hn4,hxn⟩:∃n:Nat,(hc K x).n=(n:Int)∧n≤4∧x+n<K.length:=by
      rcases bV (HI.out.cells x hxl) with ⟨h1,_⟩|⟨_,_,h2,h3,h4,_⟩
      ·exact absurd h1 hk
      ·exact⟨(hc K x).n.toNat,by omega,h3,h4⟩
     obtain⟨n2,hn2,hn24,hyn⟩:∃n:Nat,(hc K y).n=(n:Int)∧n≤4∧y+n<K.length:=by
      rcases bV (HI.out.cells y hyl) with ⟨h1,_⟩|⟨_,_,h2,h3,h4,_⟩
      ·exact absurd h1 hk2
      ·exact⟨(hc K y).n.toNat,by omega,h3,h4⟩
     have HAX:=lh (fun k hk2=>oX (k:=k) hn hk2);have HAY:=lh (fun k hk2=>oX (k:=k) hn2 hk2);have HLX:Hid ((bD K x).length=n):=lh (by unfold bD;rw[hn];simp);have HLY:Hid ((bD K y).length=n2):=lh (by unfold bD;rw[hn2];simp);have HNN:=lh hn;have HNN2:=lh hn2;rw[hn] at k1;rw[hn2] at l1;clear hk hk2 hn hn2;by_cases hnm:(hc K x).name.toList=(hc K y).name.toList
     ·have HNM:Hid ((hc K x).name=(hc K y).name):=lh (by
       rw[ByteArray.toList_eq,ByteArray.toList_eq] at hnm;exact ByteArray.ext (Array.toList_inj.1 hnm))
      by_cases hnn:n=n2
      ·have hnn':((n:Int) != (n2:Int))=false:=by rw[hnn];simp
       have HMG:Hid (M=dE K Bd f ((bD K x).zip (bD K y))):=lh (HM2.out _ _ _ _ (by
        rw[HPS.out,if_neg];rintro (h|h)
        ·exact h HNM.out
        ·rw[HNN.out,HNN2.out,hnn] at h;exact h rfl))
       have HNQ:=lh hnn;clear hnn;go_wp2_with fail;clear k0 k1 k2 l0 l1 l2 hnm
       go_loopw[86] (fun v86 wr=>∃(i:Nat) (K':List HC) (B':List Nat) (tv':Value) (fk:Nat),i≤n∧v86=.int .i64 i∧Hid (M=dE K' B' fk (((bD K x).zip (bD K y)).drop i))∧BAt 164 wr bs g cap tv' K' B' (4000-fk)∧dZ K'∧Hid (K'.length=K.length)∧B'.length+fk≤1000000∧fk≤f∧Hid (cF w tv tv')∧Hid (aA (BM bs g tv) w wr)) (fun v86 _=>n-(intOf v86).toNat)
       case atStart=>exact⟨0,K,Bd,tv,f,Nat.zero_le _,rfl,HMG,HS3.out,HI.out,lh rfl,by omega,nR _,lh (.inl rfl),HT3⟩
       case round =>
        obtain⟨i,K',B',tv',fk,hi,rfl,HME,hbat,hinv,HKL,hbl,hfk,HFR,HTT⟩:=hrel;have HBA:=lh hbat;have HIV:=lh hinv;clear hbat hinv;by_cases hlt:i<n
        ·have hlt2:i<n2:=by rw[←HNQ.out];exact hlt
         have HCL:=lh (IH.out fk (by omega) K' B' tv' (x+1+i) (y+1+i) wr (by omega) HBA.out HIV.out hbl (by rw[HKL.out];omega) (by rw[HKL.out];omega));have hsplit:dE K' B' fk (((bD K x).zip (bD K y)).drop i)=(dE K' B' fk [(x+1+i,y+1+i)]).then fun K2 B2 f2=>dE K2 B2 f2 (((bD K x).zip (bD K y)).drop (i+1)):=by
          rw[←zI,List.singleton_append];congr 1;rw[xI,xI,HAX.out i hlt,HAY.out i hlt2,List.zip_cons_cons]
         have HSP:=lh hsplit;have HKP:=lh (uE fk K' B' [(x+1+i,y+1+i)] HIV.out (fun p hp=>by rw[List.mem_singleton] at hp;subst hp;exact⟨by rw[HKL.out];show x+1+i<_;omega,by rw[HKL.out];show y+1+i<_;omega⟩));have hcx:((x+1+i:Nat):Int)=(x:Int)+1+(i:Int):=by omega
         have hcy:((y+1+i:Nat):Int)=(y:Int)+1+(i:Int):=by omega
         rw[hcx,hcy] at HCL;clear hsplit hcx hcy;generalize dE K' B' fk [(x+1+i,y+1+i)]=o at *;go_wp2_with fail;refine HCL.out.mono ?_;intro e w4 hpost;cases o with
         | ok K2 B2 f2 =>
          obtain⟨ht4,tv4,hf4',rfl,hs4⟩:=hpost;obtain⟨q1,q2,q3,q4⟩:=HKP.out;have HS4:=lh hs4;have HT4:=lh ht4;have HF4:=lh hf4';have HQ1:=lh q1;have HQ2:=lh q2;have HM4:Hid (M=dE K2 B2 f2 (((bD K x).zip (bD K y)).drop (i+1))):=lh (by rw[HME.out,HSP.out];rfl);clear hs4 ht4 hf4' q1 q2;go_wp2_with fail;go_roundw
          case rel=>exact⟨i+1,K2,B2,tv4,f2,by omega,by go_num,HM4,HS4.out,HQ1.out,lh (by rw[HQ2.out,HKL.out]),by omega,by omega,lh (HFR.out.trans HF4.out HTT.out.size),lh (HTT.out.freshB HFR.out HT4.out)⟩
          case measure=>simp[intOf];omega
         | no K2 B2 f2 =>
          obtain⟨ht4,tv4,hf4',rfl,hs4⟩:=hpost;have HS4:=lh hs4;have HT4:=lh ht4;have HF4:=lh hf4';have HM4:Hid (M=.no K2 B2 f2):=lh (by rw[HME.out,HSP.out];rfl);clear hs4 ht4 hf4';go_wp2_with fail
          go_ret2
          rw[HM4.out];exact⟨HTT.out.freshB HFR.out HT4.out,tv4,HFR.out.trans HF4.out HTT.out.size,rfl,HS4.out⟩
         | many K2 B2 =>
          obtain⟨ht4,tv4,hf4',rfl,hs4⟩:=hpost;have HS4:=lh hs4;have HT4:=lh ht4;have HF4:=lh hf4';have HM4:Hid (M=.many K2 B2):=lh (by rw[HME.out,HSP.out];rfl);clear hs4 ht4 hf4';go_wp2_with fail
          go_ret2
          rw[HM4.out];exact⟨HTT.out.freshB HFR.out HT4.out,tv4,HFR.out.trans HF4.out HTT.out.size,rfl,HS4.out⟩
        ·have HM4:Hid (M=.ok K' B' fk):=lh (by
          rw[HME.out,List.drop_eq_nil_of_le (by rw[List.length_zip,HLX.out,HLY.out];omega),gB])
         go_wp2_with fail
         go_ret2
         rw[HM4.out];exact⟨HTT.out,tv',HFR.out,rfl,HBA.out⟩
      ·have hnn':((n:Int) != (n2:Int))=true:=by rw[bne_iff_ne];omega
       have HMM:Hid (M=.no K Bd f):=lh (HM.out _ (by
        rw[HPS.out,if_pos]
        right
        rw[HNN.out,HNN2.out];omega))
       clear hnn;go_wp2_with fail
       go_ret2
       rw[HMM.out];exact⟨HT3.out,tv,.inl rfl,rfl,HS3.out⟩
     ·have HMM:Hid (M=.no K Bd f):=lh (HM.out _ (by
       rw[HPS.out,if_pos]
       left
       exact fun h=>hnm (by rw[h])))
      go_wp2_with fail
      go_ret2
      rw[HMM.out];exact⟨HT3.out,tv,.inl rfl,rfl,HS3.out⟩
end Go.Proofs.Ytikmgiapjigghab
namespace Go.Proofs.Ytikmgiapjigghab
inductive St(H:List HC)(D:Int→Prop)(S:Int→Nat):Nat→Tm→Prop
 | var {c:Nat} {v:Int}:D v→c<H.length→aG H c=aG H (S v)→St H D S c (aQ v)
 | fn {c:Nat} {n:ByteArray} {l:List Tm}:c<H.length→(hc H (aG H c)).k≠1→(hc H (aG H c)).name=n→(hc H (aG H c)).n=(l.length:Int)→(∀i (h:i<l.length),St H D S (aG H c+1+i) l[i])→St H D S c (.mk 0 n l)
theorem St.lt{H:List HC}{D:Int→Prop}{S:Int→Nat}{c:Nat}{t:Tm}(h:St H D S c t):c<H.length:=by cases h <;> assumption
theorem St.at'{H:List HC}{D:Int→Prop}{S:Int→Nat}{c d:Nat}{t:Tm}(h:St H D S c t)(he:aG H d=aG H c)(hd:d<H.length):St H D S d t:=by
 cases h with
 | var h1 h2 h3=>exact .var h1 hd (he.trans h3)
 | fn h1 h2 h3 h4 h5=>exact .fn hd (by rw[he];exact h2) (by rw[he];exact h3) (by rw[he];exact h4) (by rw[he];exact h5)
structure fL(H:List HC)(σ:Sub)(D:Int→Prop)(S:Int→Nat):Prop where
 heap:dZ H
 store:gF σ
 cell:∀v,D v→1≤v∧S v<H.length
 kind:∀v,D v→(look σ (aQ v)).var≠0→(hc H (aG H (S v))).k=1∧D (look σ (aQ v)).var
 fn:∀v,D v→(look σ (aQ v)).var=0→St H D S (S v) (look σ (aQ v))
 cls:∀v w,D v→D w→(look σ (aQ v)).var≠0→(look σ (aQ w)).var≠0→((look σ (aQ v)).var=(look σ (aQ w)).var↔aG H (S v)=aG H (S w))
theorem St.wf{H:List HC}{D:Int→Prop}{S:Int→Nat}(hD:∀v,D v→1≤v){c:Nat}{t:Tm}(h:St H D S c t):WfT t:=by
 induction h with
 | var h1 _ _=>exact WfT.bare (by have:=hD _ h1;omega)
 | @fn c n l h1 h2 h3 h4 h5 ih =>
  intro p hp;rw[Tm.parts] at hp;rcases List.mem_cons.1 hp with rfl|hp
  ·exact⟨Int.le_refl _,fun e=>absurd rfl e⟩
  ·have:∀(r:List Tm),(∀x,x∈r→WfT x)→∀p,p∈Tm.partss r→0≤p.var∧(p.var≠0→p.args = []∧p.name=⟨#[]⟩):=by
    intro r
    induction r with
    | nil=>intro _ p hp;simp[Tm.partss] at hp
    | cons a r ihr =>
     intro hr p hp;rw[Tm.partss,List.mem_append] at hp;rcases hp with hp|hp
     ·exact hr a List.mem_cons_self p hp
     ·exact ihr (fun x hx=>hr x (List.mem_cons_of_mem _ hx)) p hp
   refine this l (fun x hx=>?_) p hp;obtain⟨i,hi,rfl⟩:=List.getElem_of_mem hx;exact ih i hi
theorem rC{H:List HC}{i:Nat}(h:¬cR H i):aG H i=i:=pV (m:=0) ⟨rfl,h⟩
section
variable {H:List HC} {σ:Sub} {D:Int→Prop} {S:Int→Nat}
theorem fL.pos(h:fL H σ D S):∀v,D v→1≤v:=fun v hv=>(h.cell v hv).1
theorem fL.rep(h:fL H σ D S){v:Int}(hx:(look σ (aQ v)).var≠0):look σ (aQ (look σ (aQ v)).var)=aQ (look σ (aQ v)).var :=
 iB (gD h.store hx)
theorem fL.look(h:fL H σ D S){c:Nat}{t:Tm}(hs:St H D S c t):St H D S (aG H c) (look σ t)∧aG H c<H.length∧aG H (aG H c)=aG H c∧¬cR H (aG H c) ∧
 ((look σ t).var≠0→(hc H (aG H c)).k=1∧D (look σ t).var∧look σ t=aQ (look σ t).var) ∧
 ((look σ t).var=0→(hc H (aG H c)).k≠1∧(hc H (aG H c)).name=(look σ t).name∧(hc H (aG H c)).n=((look σ t).args.length:Int)∧∀i (hi:i<(look σ t).args.length),St H D S (aG H c+1+i) (look σ t).args[i]):=by
 obtain⟨hl,hr⟩:=h.heap.end hs.lt;have hee:=rC hr;have hw:=hs.wf h.pos;have key:St H D S c (Go.Proofs.Ytikmgiapjigghab.look σ t):=by
  cases hs with
  | @var c v h1 h2 h3 =>
   by_cases hx:(Go.Proofs.Ytikmgiapjigghab.look σ (aQ v)).var=0
   ·exact(h.fn v h1 hx).at' h3 h2
   ·have e:=(h.store.look hw).isVar hx
    have h4:=h.kind v h1 hx;have hrep:=h.rep hx;have h5:=(h.cls v _ h1 h4.2 hx (by rw[hrep];exact hx)).1 (by rw[hrep];rfl);rw[e];exact .var h4.2 h2 (h3.trans h5)
  | fn h1 h2 h3 h4 h5=>rw[jD rfl];exact .fn h1 h2 h3 h4 h5
 have key2:=key.at' hee hl;refine⟨key2,hl,hee,hr,fun hx=>?_,fun hx=>?_⟩
 ·have e:=(h.store.look hw).isVar hx
  cases hs with
  | @var c v h1 h2 h3 =>
   have h4:=h.kind v h1 hx;rw[h3];exact⟨h4.1,h4.2,e⟩
  | fn h1 h2 h3 h4 h5=>rw[jD rfl] at hx;exact absurd rfl hx
 ·generalize Go.Proofs.Ytikmgiapjigghab.look σ t=u at *
  cases key2 with
  | var h1 h2 h3=>exact absurd hx (by have:=h.pos _ h1;show ¬_=_;simp only[Tm.var];omega)
  | fn h1 h2 h3 h4 h5 =>
   rw[hee] at h2 h3 h4 h5;exact⟨h2,h3,h4,h5⟩
theorem fL.same(h:fL H σ D S){c d:Nat}{s t:Tm}(hs:St H D S c s)(ht:St H D S d t)(h1:(Go.Proofs.Ytikmgiapjigghab.look σ s).var≠0)(h2:(Go.Proofs.Ytikmgiapjigghab.look σ t).var≠0) :
 ((Go.Proofs.Ytikmgiapjigghab.look σ s).var=(Go.Proofs.Ytikmgiapjigghab.look σ t).var↔aG H c=aG H d):=by
 cases hs with
 | fn=>rw[jD rfl] at h1;exact absurd rfl h1
 | @var c v a1 a2 a3 =>
  cases ht with
  | fn=>rw[jD rfl] at h2;exact absurd rfl h2
  | @var d w b1 b2 b3=>rw[a3,b3];exact h.cls v w a1 b1 h1 h2
def HW.toW:HW→bQ1
 | .yes f=>.yes f
 | .no f=>.no f
 | .many=>.many
def Sts(H:List HC)(D:Int→Prop)(S:Int→Nat)(ps:List (Nat×Tm)):Prop:=∀p,p∈ps→St H D S p.1 p.2
theorem Sts.args(h:fL H σ D S){c:Nat}{t:Tm}(hs:St H D S c t)(hx:(Go.Proofs.Ytikmgiapjigghab.look σ t).var=0) :
 ∃ps:List (Nat×Tm),ps.map (·.1)=bD H (aG H c)∧ps.map (·.2)=(Go.Proofs.Ytikmgiapjigghab.look σ t).args∧Sts H D S ps:=by
 obtain⟨_,_,_,_,_,h6⟩:=h.look hs;obtain⟨_,_,h7,h8⟩:=h6 hx;have hl:(bD H (aG H c)).length=(Go.Proofs.Ytikmgiapjigghab.look σ t).args.length:=by unfold bD;rw[h7];simp
 refine⟨(bD H (aG H c)).zip (Go.Proofs.Ytikmgiapjigghab.look σ t).args,List.map_fst_zip (Nat.le_of_eq hl),List.map_snd_zip (Nat.le_of_eq hl.symm),fun p hp=>?_⟩;obtain⟨i,hi,rfl⟩:=List.getElem_of_mem hp;rw[List.getElem_zip];have hi2:i<(Go.Proofs.Ytikmgiapjigghab.look σ t).args.length:=by rw[List.length_zip] at hi;omega
 have:=h8 i hi2;simpa[bD] using this
theorem fL.within(h:fL H σ D S){c:Nat}{s:Tm}(hs:St H D S c s)(h1:(Go.Proofs.Ytikmgiapjigghab.look σ s).var≠0):∀(f:Nat) (ps:List (Nat×Tm)),Sts H D S ps →
 (aV H (aG H c) f (ps.map (·.1))).toW=Go.Proofs.Ytikmgiapjigghab.within σ (Go.Proofs.Ytikmgiapjigghab.look σ s).var f (ps.map (·.2)):=by
 intro f
 induction f with
 | zero=>intro ps _;cases ps <;> rfl
 | succ f ih =>
  intro ps hp;cases ps with
  | nil=>rfl
  | cons p r =>
   have ht:=hp p List.mem_cons_self;have hr:Sts H D S r:=fun x hx=>hp x (List.mem_cons_of_mem _ hx)
   simp only[List.map_cons,aV,Go.Proofs.Ytikmgiapjigghab.within];obtain⟨k1,k2,k3,k4,k5,k6⟩:=h.look ht;by_cases hx:(Go.Proofs.Ytikmgiapjigghab.look σ p.2).var=0
   ·rw[if_neg (k6 hx).1,if_neg (by rw[hx];simp)]
    obtain⟨qs,q1,q2,q3⟩:=Sts.args h ht hx;rw[←q1,←q2,←List.map_append,←List.map_append];exact ih _ fun x hx'=>by
     rcases List.mem_append.1 hx' with h2|h2
     ·exact q3 x h2
     ·exact hr x h2
   ·rw[if_pos (k5 hx).1,if_pos hx]
    have e:=h.same ht hs hx h1;by_cases h2:aG H p.1=aG H c
    ·rw[if_pos h2,if_pos (e.2 h2)];rfl
    ·rw[if_neg h2,if_neg (fun h3=>h2 (e.1 h3)),ih r hr]
theorem rD(hI:dZ H){x y:Nat}(hx:x<H.length)(hxr:¬cR H x)(hk:(hc H x).k=1)(hyr:¬cR H y)(hne:y≠x){c:Nat}(hcl:c<H.length) :
 aG (setN H x y) c=if aG H c=x then y else aG H c:=by
 have hy0:¬cR (setN H x y) y:=fun e=>hyr (by unfold cR at e ⊢;rwa [dL hx,if_neg hne] at e)
 have key:∀(m:Nat) (i j:Nat),iU H m i j→∃m',iU (setN H x y) m' i (if j=x then y else j):=by
  intro m
  induction m with
  | zero =>
   rintro i j ⟨rfl,hn⟩;by_cases e:i=x
   ·subst e
    rw[if_pos rfl];have e2:(hc (setN H i y) i).n.toNat=y:=by rw[dL hx,if_pos rfl];simp
    refine⟨1,⟨?_,?_⟩,e2,by rw[e2];exact hy0⟩
    ·rw[dL hx,if_pos rfl];exact hk
    ·rw[dL hx,if_pos rfl];simp only;omega
   ·rw[if_neg e]
    exact⟨0,rfl,fun e2=>hn (by unfold cR at e2 ⊢;rwa [dL hx,if_neg e] at e2)⟩
  | succ m ih =>
   rintro i j ⟨hr,h⟩;have e:i≠x:=fun e=>hxr (e ▸ hr)
   obtain⟨m',hm'⟩:=ih _ _ h;refine⟨m' + 1,by unfold cR at hr ⊢;rwa [dL hx,if_neg e],?_⟩;rw[dL hx,if_neg e];exact hm'
 obtain⟨m,hm⟩:=fI (hI.straight c hcl);obtain⟨m',hm'⟩:=key m c _ hm;exact pV hm'
theorem St.setN(hI:dZ H)(hS:∀v,D v→S v<H.length){x y:Nat}(hx:x<H.length)(hxr:¬cR H x)(hk:(hc H x).k=1)(hyr:¬cR H y)(hne:y≠x){c:Nat}{t:Tm}(h:St H D S c t):St (Go.Proofs.Ytikmgiapjigghab.setN H x y) D S c t:=by
 have hE:=fun {c:Nat} (hcl:c<H.length)=>rD hI hx hxr hk hyr hne hcl
 induction h with
 | @var c v h1 h2 h3=>exact .var h1 (by rw[aL];exact h2) (by rw[hE h2,hE (hS v h1),h3])
 | @fn c n l h1 h2 h3 h4 h5 ih =>
  have e:aG H c≠x:=fun e=>h2 (by rw[e];exact hk)
  have e2:aG (Go.Proofs.Ytikmgiapjigghab.setN H x y) c=aG H c:=by rw[hE h1,if_neg e]
  refine .fn (by rw[aL];exact h1) ?_ ?_ ?_ ?_
  ·rw[e2,dL hx,if_neg e];exact h2
  ·rw[e2,dL hx,if_neg e];exact h3
  ·rw[e2,dL hx,if_neg e];exact h4
  ·rw[e2];exact ih
theorem fL.put(h:fL H σ D S){c d:Nat}{s t:Tm}(hs:St H D S c s)(ht:St H D S d t)(h1:(Go.Proofs.Ytikmgiapjigghab.look σ s).var≠0)(h0:(Go.Proofs.Ytikmgiapjigghab.look σ t).var=0)(hI':dZ (setN H (aG H c) (aG H d)))(hσ':gF (upd σ (Go.Proofs.Ytikmgiapjigghab.look σ s).var (Go.Proofs.Ytikmgiapjigghab.look σ t))) :
 fL (setN H (aG H c) (aG H d)) (upd σ (Go.Proofs.Ytikmgiapjigghab.look σ s).var (Go.Proofs.Ytikmgiapjigghab.look σ t)) D S:=by
 obtain⟨s1,s2,s3,s4,s5,_⟩:=h.look hs;obtain⟨t1,t2,t3,t4,_,t6⟩:=h.look ht;have hk:=(s5 h1).1;have hfk:=(t6 h0).1;have hne:aG H d≠aG H c:=fun e=>hfk (by rw[e];exact hk)
 have k1:∀t',Go.Proofs.Ytikmgiapjigghab.look (upd σ (Go.Proofs.Ytikmgiapjigghab.look σ s).var (Go.Proofs.Ytikmgiapjigghab.look σ t)) t'=if (Go.Proofs.Ytikmgiapjigghab.look σ t').var=(Go.Proofs.Ytikmgiapjigghab.look σ s).var then Go.Proofs.Ytikmgiapjigghab.look σ t else Go.Proofs.Ytikmgiapjigghab.look σ t':=aF5 h.store.rank.ends h1 (gD h.store h1) (.inl h0)
 have hE:=fun {c':Nat} (hcl:c'<H.length)=>rD h.heap s2 s4 hk t4 hne hcl
 have hSt:=fun {c':Nat} {t':Tm} (hh:St H D S c' t')=>St.setN h.heap (fun v hv=>(h.cell v hv).2) s2 s4 hk t4 hne hh
 have hD:=fun {v:Int} (hv:D v)=>St.var hv (h.cell v hv).2 rfl
 have hsm:=fun {v:Int} (hv:D v) (hx:(Go.Proofs.Ytikmgiapjigghab.look σ (aQ v)).var≠0)=>h.same (hD hv) hs hx h1
 refine⟨hI',hσ',fun v hv=>by rw[aL];exact h.cell v hv,fun v hv hx=>?_,fun v hv hx=>?_,fun v w hv hw hx hy=>?_⟩
 ·rw[k1] at hx ⊢
  by_cases e:(Go.Proofs.Ytikmgiapjigghab.look σ (aQ v)).var=(Go.Proofs.Ytikmgiapjigghab.look σ s).var
  ·rw[if_pos e] at hx;exact absurd h0 hx
  ·rw[if_neg e] at hx ⊢
   have e2:aG H (S v)≠aG H c:=fun e2=>e ((hsm hv hx).2 e2)
   rw[hE (h.cell v hv).2,if_neg e2,dL s2,if_neg e2];exact h.kind v hv hx
 ·rw[k1] at hx ⊢
  by_cases e:(Go.Proofs.Ytikmgiapjigghab.look σ (aQ v)).var=(Go.Proofs.Ytikmgiapjigghab.look σ s).var
  ·rw[if_pos e]
   have e2:aG H (S v)=aG H c:=(hsm hv (by rw[e];exact h1)).1 e;refine(hSt t1).at' ?_ (by rw[aL];exact(h.cell v hv).2);rw[hE (h.cell v hv).2,if_pos e2,hE t2,t3,if_neg hne]
  ·rw[if_neg e] at hx ⊢
   exact hSt (h.fn v hv hx)
 ·rw[k1] at hx hy;rw[k1,k1]
  by_cases e:(Go.Proofs.Ytikmgiapjigghab.look σ (aQ v)).var=(Go.Proofs.Ytikmgiapjigghab.look σ s).var
  ·rw[if_pos e] at hx;exact absurd h0 hx
  ·by_cases e3:(Go.Proofs.Ytikmgiapjigghab.look σ (aQ w)).var=(Go.Proofs.Ytikmgiapjigghab.look σ s).var
   ·rw[if_pos e3] at hy;exact absurd h0 hy
   ·rw[if_neg e] at hx;rw[if_neg e3] at hy
    rw[if_neg e,if_neg e3,hE (h.cell v hv).2,hE (h.cell w hw).2,if_neg (fun e2=>e ((hsm hv hx).2 e2)),if_neg (fun e2=>e3 ((hsm hw hy).2 e2))];exact h.cls v w hv hw hx hy
theorem aJ3{lv lw s1 t1 k uv:Int}{ev ew c d x y:Nat}(hne:s1≠t1)(hcd:c≠d)(hku:(k=s1∧uv=t1)∨(k=t1∧uv=s1))(hxy:(x=c∧y=d)∨(x=d∧y=c))
 (cc:lv=lw↔ev=ew) (a1:lv=s1↔ev=c) (a2:lw=s1↔ew=c) (b1:lv=t1↔ev=d) (b2:lw=t1↔ew=d) :
 ((if lv=k then uv else lv)=(if lw=k then uv else lw))↔((if ev=x then y else ev)=(if ew=x then y else ew)):=by
 by_cases p1:lv=s1
 ·have q1:=a1.1 p1
  by_cases p2:lw=s1
  ·have q2:=a2.1 p2
   rw[p1,p2,q1,q2];exact⟨fun _=>rfl,fun _=>rfl⟩
  ·have q2:¬ew=c:=fun e=>p2 (a2.2 e)
   by_cases p4:lw=t1
   ·have q4:=b2.1 p4
    rw[p1,p4,q1,q4];rcases hku with ⟨rfl,rfl⟩|⟨rfl,rfl⟩ <;> rcases hxy with ⟨rfl,rfl⟩|⟨rfl,rfl⟩ <;> simp
   ·have q4:¬ew=d:=fun e=>p4 (b2.2 e)
    rw[p1,q1];rcases hku with ⟨rfl,rfl⟩|⟨rfl,rfl⟩ <;> rcases hxy with ⟨rfl,rfl⟩|⟨rfl,rfl⟩ <;> simp[p2,p4,q2,q4] <;> omega
 ·have q1:¬ev=c:=fun e=>p1 (a1.2 e)
  by_cases p3:lv=t1
  ·have q3:=b1.1 p3
   by_cases p2:lw=s1
   ·have q2:=a2.1 p2
    rw[p3,p2,q3,q2];rcases hku with ⟨rfl,rfl⟩|⟨rfl,rfl⟩ <;> rcases hxy with ⟨rfl,rfl⟩|⟨rfl,rfl⟩ <;> simp
   ·have q2:¬ew=c:=fun e=>p2 (a2.2 e)
    by_cases p4:lw=t1
    ·have q4:=b2.1 p4
     rw[p3,p4,q3,q4];exact⟨fun _=>rfl,fun _=>rfl⟩
    ·have q4:¬ew=d:=fun e=>p4 (b2.2 e)
     rw[p3,q3];rcases hku with ⟨rfl,rfl⟩|⟨rfl,rfl⟩ <;> rcases hxy with ⟨rfl,rfl⟩|⟨rfl,rfl⟩ <;> simp[p2,p4,q2,q4] <;> omega
  ·have q3:¬ev=d:=fun e=>p3 (b1.2 e)
   have n1:¬lv=k:=by rcases hku with ⟨rfl,_⟩|⟨rfl,_⟩ <;> assumption
   have n2:¬ev=x:=by rcases hxy with ⟨rfl,_⟩|⟨rfl,_⟩ <;> assumption
   rw[if_neg n1,if_neg n2];by_cases p2:lw=s1
   ·have q2:=a2.1 p2
    rw[p2,q2];rcases hku with ⟨rfl,rfl⟩|⟨rfl,rfl⟩ <;> rcases hxy with ⟨rfl,rfl⟩|⟨rfl,rfl⟩ <;> simp[p1,p3,q1,q3]
   ·have q2:¬ew=c:=fun e=>p2 (a2.2 e)
    by_cases p4:lw=t1
    ·have q4:=b2.1 p4
     rw[p4,q4];rcases hku with ⟨rfl,rfl⟩|⟨rfl,rfl⟩ <;> rcases hxy with ⟨rfl,rfl⟩|⟨rfl,rfl⟩ <;> simp[p1,p3,q1,q3]
    ·have q4:¬ew=d:=fun e=>p4 (b2.2 e)
     have n3:¬lw=k:=by rcases hku with ⟨rfl,_⟩|⟨rfl,_⟩ <;> assumption
     have n4:¬ew=x:=by rcases hxy with ⟨rfl,_⟩|⟨rfl,_⟩ <;> assumption
     rw[if_neg n3,if_neg n4];exact cc
theorem fL.join(h:fL H σ D S){c d:Nat}{s t:Tm}(hs:St H D S c s)(ht:St H D S d t)(h1:(Go.Proofs.Ytikmgiapjigghab.look σ s).var≠0)(h2:(Go.Proofs.Ytikmgiapjigghab.look σ t).var≠0)(hne:(Go.Proofs.Ytikmgiapjigghab.look σ s).var≠(Go.Proofs.Ytikmgiapjigghab.look σ t).var){x y:Nat}{k:Int}{u:Tm}
 (hxy:(x=aG H c∧y=aG H d)∨(x=aG H d∧y=aG H c))
 (hk:(k=(Go.Proofs.Ytikmgiapjigghab.look σ s).var∧u=Go.Proofs.Ytikmgiapjigghab.look σ t)∨(k=(Go.Proofs.Ytikmgiapjigghab.look σ t).var∧u=Go.Proofs.Ytikmgiapjigghab.look σ s)) (hI':dZ (setN H x y)) (hσ':gF (upd σ k u)) :
 fL (setN H x y) (upd σ k u) D S:=by
 obtain⟨s1,s2,s3,s4,s5,_⟩:=h.look hs;obtain⟨t1,t2,t3,t4,t5,_⟩:=h.look ht;obtain⟨sk,sD,sv⟩:=s5 h1;obtain⟨tk,tD,tv⟩:=t5 h2;have hee:aG H c≠aG H d:=fun e=>hne ((h.same hs ht h1 h2).2 e)
 have hcd:x<H.length∧¬cR H x∧(hc H x).k=1∧¬cR H y∧y≠x∧(hc H y).k=1:=by
  rcases hxy with ⟨rfl,rfl⟩|⟨rfl,rfl⟩
  ·exact⟨s2,s4,sk,t4,fun e=>hee e.symm,tk⟩
  ·exact⟨t2,t4,tk,s4,hee,sk⟩
 obtain⟨x1,x2,x3,x4,x5,x6⟩:=hcd;have hk0:k≠0∧σ k=none∧u.var≠0∧u.var≠k∧σ u.var=none∧D u.var:=by
  rcases hk with ⟨rfl,rfl⟩|⟨rfl,rfl⟩
  ·exact⟨h1,gD h.store h1,h2,fun e=>hne e.symm,gD h.store h2,tD⟩
  ·exact⟨h2,gD h.store h2,h1,hne,gD h.store h1,sD⟩
 have k1:∀t',Go.Proofs.Ytikmgiapjigghab.look (upd σ k u) t'=if (Go.Proofs.Ytikmgiapjigghab.look σ t').var=k then u else Go.Proofs.Ytikmgiapjigghab.look σ t':=aF5 h.store.rank.ends hk0.1 hk0.2.1 (.inr ⟨hk0.2.2.2.1,hk0.2.2.2.2.1⟩)
 have hE:=fun {c':Nat} (hcl:c'<H.length)=>rD h.heap x1 x2 x3 x4 x5 hcl
 have hSt:=fun {c':Nat} {t':Tm} (hh:St H D S c' t')=>St.setN h.heap (fun v hv=>(h.cell v hv).2) x1 x2 x3 x4 x5 hh
 have hD:=fun {v:Int} (hv:D v)=>St.var hv (h.cell v hv).2 rfl
 have hsm:=fun {v:Int} (hv:D v) (hx:(Go.Proofs.Ytikmgiapjigghab.look σ (aQ v)).var≠0)=>h.same (hD hv) hs hx h1
 have hst:=fun {v:Int} (hv:D v) (hx:(Go.Proofs.Ytikmgiapjigghab.look σ (aQ v)).var≠0)=>h.same (hD hv) ht hx h2
 have hnz:∀v,(Go.Proofs.Ytikmgiapjigghab.look (upd σ k u) (aQ v)).var≠0→(Go.Proofs.Ytikmgiapjigghab.look σ (aQ v)).var≠0:=fun v hx=>by
  rw[k1] at hx;by_cases e:(Go.Proofs.Ytikmgiapjigghab.look σ (aQ v)).var=k
  ·rw[e];exact hk0.1
  ·rw[if_neg e] at hx;exact hx
 refine⟨hI',hσ',fun v hv=>by rw[aL];exact h.cell v hv,fun v hv hx=>?_,fun v hv hx=>?_,fun v w hv hw hx hy=>?_⟩
 ·have hx0:=hnz v hx
  have hkd:=h.kind v hv hx0;refine⟨?_,?_⟩
  ·rw[hE (h.cell v hv).2]
   by_cases e:aG H (S v)=x
   ·rw[if_pos e,dL x1,if_neg x5];exact x6
   ·rw[if_neg e,dL x1,if_neg e];exact hkd.1
  ·rw[k1]
   split
   ·exact hk0.2.2.2.2.2
   ·exact hkd.2
 ·rw[k1] at hx ⊢
  by_cases e:(Go.Proofs.Ytikmgiapjigghab.look σ (aQ v)).var=k
  ·rw[if_pos e] at hx;exact absurd hx hk0.2.2.1
  ·rw[if_neg e] at hx ⊢
   exact hSt (h.fn v hv hx)
 ·have ev:=hnz v hx
  have ew:=hnz w hy;have cc:=h.cls v w hv hw ev ew;have a1:=hsm hv ev;have a2:=hsm hw ew;have b1:=hst hv ev;have b2:=hst hw ew;have hku:(k=(Go.Proofs.Ytikmgiapjigghab.look σ s).var∧u.var=(Go.Proofs.Ytikmgiapjigghab.look σ t).var)∨(k=(Go.Proofs.Ytikmgiapjigghab.look σ t).var∧u.var=(Go.Proofs.Ytikmgiapjigghab.look σ s).var):=by
   rcases hk with ⟨rfl,rfl⟩|⟨rfl,rfl⟩
   ·exact .inl ⟨rfl,rfl⟩
   ·exact .inr ⟨rfl,rfl⟩
  rw[k1,k1,hE (h.cell v hv).2,hE (h.cell w hw).2];clear hx hy k1 hE hSt hD hsm hst hnz hk0 hk s1 s2 s3 s4 s5 t1 t2 t3 t4 t5 sk sD sv tk tD tv x1 x2 x3 x4 x5 x6 hI' hσ';simp only[apply_ite Tm.var];generalize (Go.Proofs.Ytikmgiapjigghab.look σ (aQ v)).var=lv at *;generalize (Go.Proofs.Ytikmgiapjigghab.look σ (aQ w)).var=lw at *;generalize (Go.Proofs.Ytikmgiapjigghab.look σ s).var=s1 at *;generalize (Go.Proofs.Ytikmgiapjigghab.look σ t).var=t1 at *;generalize u.var=uv at *;generalize aG H (S v)=ev' at *;generalize aG H (S w)=ew' at *;generalize aG H c=c' at *;generalize aG H d=d' at *;exact aJ3 hne hee hku hxy cc a1 a2 b1 b2
def nH(H:List HC)(D:Int→Prop)(S:Int→Nat):qC→aI0→Prop
 | .ok H' _ f,.ok σ _ g=>f=g∧fL H' σ D S∧H'.length=H.length∧∀c t,St H D S c t→St H' D S c t
 | .no H' _ f,.no _ _ g=>f=g∧dZ H'∧H'.length=H.length
 | .many _ _,.many _ _=>True
 | _,_=>False
def aC4(H:List HC)(D:Int→Prop)(S:Int→Nat):aX9→bD2→Prop
 | .done o,.done o'=>nH H D S o o'
 | .go H' _ f m,.go σ _ g n=>f=g∧fL H' σ D S∧H'.length=H.length∧(∀c t,St H D S c t→St H' D S c t)∧∃ps:List ((Nat×Tm)×(Nat×Tm)),m=ps.map (fun p=>(p.1.1,p.2.1))∧n=ps.map (fun p=>(p.1.2,p.2.2))∧∀p,p∈ps→St H' D S p.1.1 p.1.2∧St H' D S p.2.1 p.2.2
 | _,_=>False
theorem oC(h:fL H σ D S){c d:Nat}{s t:Tm}(hs:St H D S c s)(ht:St H D S d t)(h1:(Go.Proofs.Ytikmgiapjigghab.look σ s).var≠0)(hne:(Go.Proofs.Ytikmgiapjigghab.look σ t).var≠(Go.Proofs.Ytikmgiapjigghab.look σ s).var)(f:Nat)(B:List Nat)(L:List Int) :
 aC4 H D S (cU H B (aG H c) (aG H d) f) (cB σ L (Go.Proofs.Ytikmgiapjigghab.look σ s).var (Go.Proofs.Ytikmgiapjigghab.look σ t) f):=by
 obtain⟨s1,s2,s3,s4,s5,_⟩:=h.look hs;obtain⟨t1,t2,t3,t4,t5,t6⟩:=h.look ht;obtain⟨sk,sD,sv⟩:=s5 h1;have hss:=(h.store.look (hs.wf h.pos))
 have hst:=(h.store.look (ht.wf h.pos))
 have hee:aG H d≠aG H c:=fun e=>by
  by_cases hx:(Go.Proofs.Ytikmgiapjigghab.look σ t).var=0
  ·exact(t6 hx).1 (by rw[e];exact sk)
  ·exact hne ((h.same ht hs hx h1).2 e)
 have hw:=h.within hs h1 f [(aG H d,Go.Proofs.Ytikmgiapjigghab.look σ t)] (fun p hp=>by rw[List.mem_singleton] at hp;subst hp;exact t1);simp only[List.map_cons,List.map_nil] at hw;have hp1:1≤(Go.Proofs.Ytikmgiapjigghab.look σ s).var:=by have:=hss.pos;omega
 have hbs:dZ (setN H (cM H (aG H c) (aG H d)).1 (cM H (aG H c) (aG H d)).2)→gF (upd σ (fN (Go.Proofs.Ytikmgiapjigghab.look σ s).var (Go.Proofs.Ytikmgiapjigghab.look σ t)).1 (fN (Go.Proofs.Ytikmgiapjigghab.look σ s).var (Go.Proofs.Ytikmgiapjigghab.look σ t)).2) →
  fL (setN H (cM H (aG H c) (aG H d)).1 (cM H (aG H c) (aG H d)).2) (upd σ (fN (Go.Proofs.Ytikmgiapjigghab.look σ s).var (Go.Proofs.Ytikmgiapjigghab.look σ t)).1 (fN (Go.Proofs.Ytikmgiapjigghab.look σ s).var (Go.Proofs.Ytikmgiapjigghab.look σ t)).2) D S ∧
  ∀c' t',St H D S c' t'→St (setN H (cM H (aG H c) (aG H d)).1 (cM H (aG H c) (aG H d)).2) D S c' t':=by
  intro hI' hσ';by_cases hx:(Go.Proofs.Ytikmgiapjigghab.look σ t).var=0
  ·have e1:cM H (aG H c) (aG H d)=(aG H c,aG H d):=by unfold cM;rw[if_neg (fun e=>(t6 hx).1 e.1)]
   have e2:fN (Go.Proofs.Ytikmgiapjigghab.look σ s).var (Go.Proofs.Ytikmgiapjigghab.look σ t)=((Go.Proofs.Ytikmgiapjigghab.look σ s).var,Go.Proofs.Ytikmgiapjigghab.look σ t):=by unfold fN;rw[if_neg (by omega)]
   rw[e1] at hI';rw[e2] at hσ';rw[e1,e2];exact⟨h.put hs ht h1 hx hI' hσ',fun c' t' hh=>St.setN h.heap (fun v hv=>(h.cell v hv).2) s2 s4 sk t4 hee hh⟩
  ·obtain⟨tk,tD,tv⟩:=t5 hx
   have e1:(cM H (aG H c) (aG H d)).1=aG H c∧(cM H (aG H c) (aG H d)).2=aG H d∨(cM H (aG H c) (aG H d)).1=aG H d∧(cM H (aG H c) (aG H d)).2=aG H c:=by
    unfold cM;split
    ·exact .inr ⟨rfl,rfl⟩
    ·exact .inl ⟨rfl,rfl⟩
   have e2:(fN (Go.Proofs.Ytikmgiapjigghab.look σ s).var (Go.Proofs.Ytikmgiapjigghab.look σ t)).1=(Go.Proofs.Ytikmgiapjigghab.look σ s).var∧(fN (Go.Proofs.Ytikmgiapjigghab.look σ s).var (Go.Proofs.Ytikmgiapjigghab.look σ t)).2=Go.Proofs.Ytikmgiapjigghab.look σ t∨(fN (Go.Proofs.Ytikmgiapjigghab.look σ s).var (Go.Proofs.Ytikmgiapjigghab.look σ t)).1=(Go.Proofs.Ytikmgiapjigghab.look σ t).var∧(fN (Go.Proofs.Ytikmgiapjigghab.look σ s).var (Go.Proofs.Ytikmgiapjigghab.look σ t)).2=Go.Proofs.Ytikmgiapjigghab.look σ s:=by
    unfold fN;split
    ·exact .inr ⟨rfl,sv.symm⟩
    ·exact .inl ⟨rfl,rfl⟩
   refine⟨h.join hs ht h1 hx (fun e=>hne e.symm) e1 e2 hI' hσ',fun c' t' hh=>?_⟩;rcases e1 with ⟨e3,e4⟩|⟨e3,e4⟩
   ·rw[e3,e4];exact St.setN h.heap (fun v hv=>(h.cell v hv).2) s2 s4 sk t4 hee hh
   ·rw[e3,e4];exact St.setN h.heap (fun v hv=>(h.cell v hv).2) t2 t4 tk s4 (fun e=>hee e.symm) hh
 unfold cU cB;rw[←hw];cases hv:aV H (aG H c) f [aG H d] with
 | yes g=>exact⟨rfl,h.heap,rfl⟩
 | many=>exact trivial
 | no g =>
  have hI':=(xL h.heap s2 sk s4 t2 t4 hee hv).1;have hσ':=h.store.bind hp1 (gD h.store h1) hst (by
   by_cases hx:(Go.Proofs.Ytikmgiapjigghab.look σ t).var=0
   ·exact .inl hx
   ·exact .inr (gD h.store hx)) hne
  obtain⟨h5,h6⟩:=hbs hI' hσ';exact⟨rfl,h5,aL _ _ _,h6,[],rfl,rfl,fun p hp=>nomatch hp⟩
theorem oD(h:fL H σ D S){c d:Nat}{s t:Tm}(hs:St H D S c s)(ht:St H D S d t)(f:Nat)(B:List Nat)(L:List Int) :
 aC4 H D S (aU H B f (aG H c) (aG H d)) (aW σ L f (Go.Proofs.Ytikmgiapjigghab.look σ s) (Go.Proofs.Ytikmgiapjigghab.look σ t)):=by
 obtain⟨s1,s2,s3,s4,s5,s6⟩:=h.look hs;obtain⟨t1,t2,t3,t4,t5,t6⟩:=h.look ht;by_cases hx:(Go.Proofs.Ytikmgiapjigghab.look σ s).var=0
 ·obtain⟨sk,sn,sl,sa⟩:=s6 hx
  have ep:aU H B f (aG H c) (aG H d)=if (hc H (aG H d)).k=1 then cU H B (aG H d) (aG H c) f else if (hc H (aG H c)).name≠(hc H (aG H d)).name∨(hc H (aG H c)).n≠(hc H (aG H d)).n then .done (.no H B f) else .go H B f ((bD H (aG H c)).zip (bD H (aG H d))):=by
   unfold aU;rw[if_neg (fun e=>sk e.1),if_neg sk]
  rw[ep];by_cases hy:(Go.Proofs.Ytikmgiapjigghab.look σ t).var=0
  ·obtain⟨tk,tn,tl,ta⟩:=t6 hy
   rw[if_neg tk];by_cases hc':(Go.Proofs.Ytikmgiapjigghab.look σ s).name≠(Go.Proofs.Ytikmgiapjigghab.look σ t).name∨(Go.Proofs.Ytikmgiapjigghab.look σ s).args.length≠(Go.Proofs.Ytikmgiapjigghab.look σ t).args.length
   ·rw[if_pos (by rw[sn,tn,sl,tl];rcases hc' with e|e;exact .inl e;exact .inr (by omega)),aF6 hx hy hc']
    exact⟨rfl,h.heap,rfl⟩
   ·rw[if_neg (by rw[sn,tn,sl,tl];rintro (e|e);exact hc' (.inl e);exact hc' (.inr (by omega))),oH hx hy hc']
    obtain⟨ps,p1,p2,p3⟩:=Sts.args h hs hx;obtain⟨qs,q1,q2,q3⟩:=Sts.args h ht hy;refine⟨rfl,h,rfl,fun _ _ hh=>hh,ps.zip qs,?_,?_,fun p hp=>?_⟩
    ·rw[←p1,←q1,List.zip_map];rfl
    ·rw[←p2,←q2,List.zip_map];rfl
    ·exact⟨p3 _ (List.of_mem_zip hp).1,q3 _ (List.of_mem_zip hp).2⟩
  ·rw[if_pos (t5 hy).1,uS hx hy]
   exact oC h ht hs hy (by omega) f B L
 ·obtain⟨sk,sD,sv⟩:=s5 hx
  by_cases hy:(Go.Proofs.Ytikmgiapjigghab.look σ s).var=(Go.Proofs.Ytikmgiapjigghab.look σ t).var
  ·have e:aG H c=aG H d:=(h.same hs ht hx (by omega)).1 hy
   have ep:aU H B f (aG H c) (aG H d)=.go H B f []:=by unfold aU;rw[if_pos ⟨sk,e⟩]
   rw[ep,wJ hx hy];exact⟨rfl,h,rfl,fun _ _ hh=>hh,[],rfl,rfl,fun p hp=>nomatch hp⟩
  ·have e:aG H c≠aG H d:=fun e=>by
    by_cases hz:(Go.Proofs.Ytikmgiapjigghab.look σ t).var=0
    ·exact(t6 hz).1 (by rw[←e];exact sk)
    ·exact hy ((h.same hs ht hx hz).2 e)
   have ep:aU H B f (aG H c) (aG H d)=cU H B (aG H c) (aG H d) f:=by unfold aU;rw[if_neg (fun e2=>e e2.2),if_pos sk]
   rw[ep,uR hx hy];exact oC h hs ht hx (fun e2=>hy e2.symm) f B L
end
theorem nH.trans{H H':List HC}{D:Int→Prop}{S:Int→Nat}(hl:H'.length=H.length)(hst:∀c t,St H D S c t→St H' D S c t){o:qC}{o':aI0}(h:nH H' D S o o'):nH H D S o o':=by
 cases o <;> cases o' <;> simp only[nH] at h ⊢
 ·exact⟨h.1,h.2.1,h.2.2.1.trans hl,fun c t hh=>h.2.2.2 c t (hst c t hh)⟩
 ·exact⟨h.1,h.2.1,h.2.2.trans hl⟩
theorem xC{D:Int→Prop}{S:Int→Nat}:∀(f:Nat) (H:List HC) (σ:Sub) (B:List Nat) (L:List Int) (ps:List ((Nat×Tm)×(Nat×Tm))),fL H σ D S→(∀p,p∈ps→St H D S p.1.1 p.1.2∧St H D S p.2.1 p.2.2) →
 nH H D S (dE H B f (ps.map fun p=>(p.1.1,p.2.1))) (meet σ L f (ps.map fun p=>(p.1.2,p.2.2))):=by
 intro f
 induction f using Nat.strongRecOn with
 | _ f ih =>
 intro H σ B L ps h hp;cases ps with
 | nil=>rw[List.map_nil,List.map_nil,gB,jM];exact⟨rfl,h,rfl,fun _ _ hh=>hh⟩
 | cons p r =>
  rw[List.map_cons,List.map_cons];cases f with
  | zero=>rw[gT,kH];exact trivial
  | succ f =>
   obtain⟨p1,p2⟩:=hp p List.mem_cons_self;have hs:=oD h p1 p2 f B L;cases e1:aU H B f (aG H p.1.1) (aG H p.2.1) with
   | done o =>
    cases e2:aW σ L f (look σ p.1.2) (look σ p.2.2) with
    | done o' =>
     rw[e1,e2] at hs;rw[gU _ e1,kI _ e2];exact hs
    | go σ' L' g n=>rw[e1,e2] at hs;exact hs.elim
   | go H' B' f' m =>
    cases e2:aW σ L f (look σ p.1.2) (look σ p.2.2) with
    | done o'=>rw[e1,e2] at hs;exact hs.elim
    | go σ' L' g n =>
     rw[e1,e2] at hs;obtain⟨rfl,h',hl,hst,qs,rfl,rfl,hq⟩:=hs;rw[kO _ e1,kC _ e2,←List.map_append,←List.map_append];refine(ih f' (Nat.lt_succ_of_le (fE e1)) H' σ' B' L' (qs++r) h' fun q hq'=>?_).trans hl hst;rcases List.mem_append.1 hq' with hq'|hq'
     ·exact hq q hq'
     ·obtain⟨a1,a2⟩:=hp q (List.mem_cons_of_mem _ hq')
      exact⟨hst _ _ a1,hst _ _ a2⟩
end Go.Proofs.Ytikmgiapjigghab
