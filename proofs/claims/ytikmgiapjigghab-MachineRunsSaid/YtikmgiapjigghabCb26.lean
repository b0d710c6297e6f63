/- Walk: Show. -/
import Derived.Test.YtikmgiapjigghabCb03
import Derived.Test.YtikmgiapjigghabCb11
import Derived.Test.YtikmgiapjigghabCb13
import Derived.Test.YtikmgiapjigghabCb15
import Derived.Test.YtikmgiapjigghabCb16
import Derived.Test.YtikmgiapjigghabCb24
import Derived.Test.YtikmgiapjigghabCb25
namespace Go.Proofs.Ytikmgiapjigghab
open Go.RowKit
theorem numV_rng(s:List Int)(v:Int):1≤(numV s v).1∧(numV s v).1≤(s.length:Int)+1:=by
 have h1:=addV_mem s v
 have h2:=addV_len s v
 have h3:(addV s v).idxOf v<(addV s v).length:=List.idxOf_lt_length_iff.2 h1
 unfold numV
 simp only
 omega
set_option maxRecDepth 100000 in
set_option maxHeartbeats 4000000 in
theorem ShowW{ok:Nat→Prop}{K:List HC}{a:Option Addr}{cap:Nat}(hK:CellsOk K)(hS:Straight K)(hk4:K.length≤400000){nb bl:Nat}(m:Nat):∀ (s:List Int) (C:Nat→Prop) (mv cv:Value) (t:Nat) (w:World),m+s.length≤1000→t<K.length→HpAt w ok K a cap→NmAt w nb C s mv cv→w.heap[bl]? = some (.cells #[.int .i64 m] 3 (0,0)) →
 (¬ ok bl∧¬ C bl)→(∀ b,ok b→b<w.heap.size∧¬ C b) →
 Calls Try.prog 91 #[.slice a K.length cap,.int .i64 (t:Nat),.pointer (some ⟨bl,0,none⟩),.func (.func 92) #[.pointer (some ⟨nb,0,none⟩)] #[]] w (ShPost w nb bl C s (shL K m [t])):=by
 induction m using Nat.strongRecOn with
 | _ m ih =>
 intro s C mv cv t w hm ht hhp hnm hbl hsep hok
 have IH:=lh ih;have HK:=lh hK;have HS:=lh hS;have HT:=lh ht;have HP:=lh hhp;have HN:=lh hnm;have HBL:=lh hbl;have HSEP:=lh hsep;have HOK:=lh hok
 have hbll:bl<w.heap.size:=(Array.getElem?_eq_some_iff.1 hbl).1
 have k0:w.cell? ⟨bl,0,none⟩=some (.int .i64 m):=by simp[World.cell?,hbl]
 have kf:∀ o,w.frozen? ⟨bl,o,none⟩=false:=fun o=>by simp[World.frozen?,hbl]
 have hblA:(w.alloc (.cells #[.int .i64 0,.string ⟨#[]⟩,.slice none 0 0] 71)).heap[bl]? = some (.cells #[.int .i64 m] 3 (0,0)):=(Below.heap_alloc _ _ _ hbll).trans hbl
 have hA0:(w.alloc (.cells #[.int .i64 0,.string ⟨#[]⟩,.slice none 0 0] 71)).cell? ⟨bl,0,none⟩=some (.int .i64 m):=by simp[World.cell?,hblA]
 have hAf:∀ o,(w.alloc (.cells #[.int .i64 0,.string ⟨#[]⟩,.slice none 0 0] 71)).frozen? ⟨bl,o,none⟩=false:=fun o=>by simp[World.frozen?,hblA]
 have HBA:Hid (Box3 (w.alloc (.cells #[.int .i64 0,.string ⟨#[]⟩,.slice none 0 0] 71)) w.heap.size (.int .i64 0) (.string ⟨#[]⟩) (.slice none 0 0)):=lh (Box3.made w _ _ _)
 have HAB:Hid (Below w.heap.size w (w.alloc (.cells #[.int .i64 0,.string ⟨#[]⟩,.slice none 0 0] 71))):=lh ((Below.refl _ _).alloc (Nat.le_refl _) _)
 have HBLA:=lh hblA
 clear ih hK hS ht hhp hnm hbl hsep hok hblA
 cases m with
 | zero =>
  have HO:Hid (shL K 0 [t]=none):=lh (shL_zero _ _ _)
  go_enter Try.func91,Try.ntmps91
  go_wp2_with fail
  rw[HO.out]
  have BAB:Below (w.setCell ⟨bl,0,none⟩ (.int .i64 (-1))).heap.size (w.setCell ⟨bl,0,none⟩ (.int .i64 (-1))) ((w.setCell ⟨bl,0,none⟩ (.int .i64 (-1))).alloc (.cells #[.int .i64 0,.string ⟨#[]⟩,.slice none 0 0] 71)):=(Below.refl _ _).alloc (Nat.le_refl _) _
  have TT:Touch (fun b=>b=bl) w ((w.setCell ⟨bl,0,none⟩ (.int .i64 (-1))).alloc (.cells #[.int .i64 0,.string ⟨#[]⟩,.slice none 0 0] 71)):=(Touch.setCell _ rfl:Touch (fun b=>b=bl) w _).trans (Touch.below BAB)
  exact bodyPost_ret (v:=.tuple #[.agg #[.int .i64 0,.string ⟨#[]⟩,.slice none 0 0],.bool false]) (by simp[results,Try.results91,go_sem]) rfl
   ⟨TT.mono fun _ _ e=>.inr e,C,mv,cv,s,fun _ _=>Iff.rfl,HN.out.keep TT.size (fun b hc=>TT.block b (HN.out.old b hc) (fun e=>HSEP.out.2 (e ▸ hc))),rfl,-1,(BAB.block bl (by simpa using hbll)).trans (setCell_one w bl _ HBL.out)⟩
 | succ m =>
  have hm1:(m:Int)≤1000:=by omega
  have hm0:(0:Int)≤(m:Int):=by omega
  have hsub0:(m:Int)+1-1=(m:Int):=by omega
  have T0:Touch (fun b=>b=bl) w (w.setCell ⟨bl,0,none⟩ (.int .i64 m)):=Touch.setCell _ rfl
  have hsd:(w.setCell ⟨bl,0,none⟩ (.int .i64 m)).heap.size=w.heap.size:=by simp[World.setCell]
  have B1:Below (w.setCell ⟨bl,0,none⟩ (.int .i64 m)).heap.size (w.setCell ⟨bl,0,none⟩ (.int .i64 m)) ((w.setCell ⟨bl,0,none⟩ (.int .i64 m)).alloc (.cells #[.int .i64 0,.string ⟨#[]⟩,.slice none 0 0] 71)):=(Below.refl _ _).alloc (Nat.le_refl _) _
  have T1:Touch (fun b=>b=bl) w ((w.setCell ⟨bl,0,none⟩ (.int .i64 m)).alloc (.cells #[.int .i64 0,.string ⟨#[]⟩,.slice none 0 0] 71)):=T0.trans (Touch.below B1)
  have HZ1:Hid (Box3 ((w.setCell ⟨bl,0,none⟩ (.int .i64 m)).alloc (.cells #[.int .i64 0,.string ⟨#[]⟩,.slice none 0 0] 71)) w.heap.size (.int .i64 0) (.string ⟨#[]⟩) (.slice none 0 0)):=lh (Box3.made2 hsd.symm)
  have HBL1:Hid (((w.setCell ⟨bl,0,none⟩ (.int .i64 m)).alloc (.cells #[.int .i64 0,.string ⟨#[]⟩,.slice none 0 0] 71)).heap[bl]? = some (.cells #[.int .i64 m] 3 (0,0))):=lh ((B1.block bl (by simpa using hbll)).trans (setCell_one w bl _ HBL.out))
  have HP1:=lh (HP.out.keep (T1.keeps fun b hb e=>HSEP.out.1 (e ▸ hb)))
  have HN1:=lh (HN.out.keep T1.size (fun b hc=>T1.block b (HN.out.old b hc) (fun e=>HSEP.out.2 (e ▸ hc))))
  have HT1:=lh T1
  have HSZ1:Hid (((w.setCell ⟨bl,0,none⟩ (.int .i64 m)).alloc (.cells #[.int .i64 0,.string ⟨#[]⟩,.slice none 0 0] 71)).heap.size=w.heap.size+1):=lh (by simp[World.setCell])
  obtain⟨me,hme⟩:=end_spec (HS.out t HT.out)
  have HEW:=lh (EndW HP1.out HK.out hme HT.out)
  have hxl:endH K t<K.length:=hme.lt HK.out HT.out
  obtain⟨x,hx⟩:∃ x,endH K t=x:=⟨_,rfl⟩
  have HX:=lh hx
  rw[hx] at HEW hxl
  obtain⟨hb,hoff,ea,hokb,hbs,d0,d1,d2,hfx⟩:=HP1.out.at' x hxl
  have HFX:=lh hfx
  clear hme T0 hsd B1 T1 hfx hx
  by_cases hk:(hc K x).k=1
  ·have HO:Hid (shL K (m+1) [t]=some ([VarT ((x:Int)+1)],m)):=lh (by
    have:=HX.out
    subst this
    rw[shL_var hk,shL_nil];rfl)
   rw[hk] at d0
   clear hk
   subst ea
   go_enter Try.func91,Try.ntmps91
   go_wp2_with (go_at_call 85;refine HEW.out.mono ?_;rintro e w2 ⟨rfl,rfl⟩)
   have B2:Below ((w.setCell ⟨bl,0,none⟩ (.int .i64 m)).alloc (.cells #[.int .i64 0,.string ⟨#[]⟩,.slice none 0 0] 71)).heap.size ((w.setCell ⟨bl,0,none⟩ (.int .i64 m)).alloc (.cells #[.int .i64 0,.string ⟨#[]⟩,.slice none 0 0] 71)) (((w.setCell ⟨bl,0,none⟩ (.int .i64 m)).alloc (.cells #[.int .i64 0,.string ⟨#[]⟩,.slice none 0 0] 71)).alloc (.cells #[.int .i64 1,.int .i64 (hc K x).n,.string (hc K x).name] 69)):=(Below.refl _ _).alloc (Nat.le_refl _) _
   have HZ2:=lh (HZ1.out.below B2)
   have HN2:=lh (HN1.out.below B2)
   have HB2:Hid ((((w.setCell ⟨bl,0,none⟩ (.int .i64 m)).alloc (.cells #[.int .i64 0,.string ⟨#[]⟩,.slice none 0 0] 71)).alloc (.cells #[.int .i64 1,.int .i64 (hc K x).n,.string (hc K x).name] 69)).heap[bl]? = some (.cells #[.int .i64 m] 3 (0,0))):=lh ((B2.block bl (by have:=HSZ1.out;omega)).trans HBL1.out)
   have HT2:Hid (Touch (fun b=>b=bl) w (((w.setCell ⟨bl,0,none⟩ (.int .i64 m)).alloc (.cells #[.int .i64 0,.string ⟨#[]⟩,.slice none 0 0] 71)).alloc (.cells #[.int .i64 1,.int .i64 (hc K x).n,.string (hc K x).name] 69))):=lh (HT1.out.trans (Touch.below B2))
   have HS2:Hid ((((w.setCell ⟨bl,0,none⟩ (.int .i64 m)).alloc (.cells #[.int .i64 0,.string ⟨#[]⟩,.slice none 0 0] 71)).alloc (.cells #[.int .i64 1,.int .i64 (hc K x).n,.string (hc K x).name] 69)).heap.size=w.heap.size+2):=lh (by rw[aSz,HSZ1.out])
   clear B2 d0 d1 d2 k0 kf hA0 hAf HBA HAB HBLA HZ1 HN1 HBL1 HT1 HP1 HSZ1
   have HOF:=lh (OfW x HN2.out (by omega) (by omega))
   generalize ((w.setCell ⟨bl,0,none⟩ (.int .i64 m)).alloc (.cells #[.int .i64 0,.string ⟨#[]⟩,.slice none 0 0] 71)).alloc (.cells #[.int .i64 1,.int .i64 (hc K x).n,.string (hc K x).name] 69)=W at *
   refine HOF.out.mono ?_
   rintro e w3 ⟨rfl,C',mv',cv',hc',hn',ht'⟩
   have HC':=lh hc';have HN':=lh hn';have HT':=lh ht'
   have hl3:w.heap.size<W.heap.size:=HZ2.out.lt
   have hs3:=ht'.size
   have hrC:¬ C w.heap.size:=fun e=>by have:=HN.out.old _ e;omega
   obtain⟨z0,z1,z2,zf⟩:=(HZ2.out.keep (ht'.block _ hl3 hrC)).all
   have HRC:=lh hrC
   have hl4:w.heap.size<w3.heap.size:=by omega
   clear hc' hn' ht' hrC
   obtain⟨q,hq⟩:∃ q,(numV s ((x:Int)+1)).1=q:=⟨_,rfl⟩
   have HQ:=lh hq
   rw[hq]
   clear hq
   go_wp2_with fail
   rw[HO.out]
   have TP:=touch_put w3 w.heap.size (.int .i64 q) (.string ⟨#[]⟩) (.slice none 0 0)
   have hq64:I64 q:=by
    have:=numV_rng s ((x:Int)+1)
    rw[HQ.out] at this
    unfold I64;omega
   have HRE:(Tm.rens numV s [VarT ((x:Int)+1)]).1 = [.mk q ⟨#[]⟩ []]∧(Tm.rens numV s [VarT ((x:Int)+1)]).2=(numV s ((x:Int)+1)).2:=by
    have h0:(x:Int)+1≠0:=by omega
    simp[Tm.rens,Tm.ren,h0,HQ.out]
   have TA:Touch (fun b=>C b∨b=bl) w w3:=⟨HT'.out.os.trans HT2.out.os,HT'.out.tape.trans HT2.out.tape,HT'.out.output.trans HT2.out.output,Nat.le_trans HT2.out.size HT'.out.size,fun b hb hn=>(HT'.out.block b (Nat.lt_of_lt_of_le hb HT2.out.size) (fun e=>hn (.inl e))).trans (HT2.out.block b hb (fun e=>hn (.inr e)))⟩
   have hrC':¬ C' w.heap.size:=fun e=>HRC.out ((HC'.out _ hl3).1 e)
   exact bodyPost_ret (v:=.tuple #[.agg #[.int .i64 q,.string ⟨#[]⟩,.slice none 0 0],.bool true]) (by simp[results,Try.results91,go_sem,z0,z1,z2]) rfl
    ⟨⟨TP.os.trans TA.os,TP.tape.trans TA.tape,TP.output.trans TA.output,Nat.le_trans TA.size TP.size,fun b hb hn=>(TP.block b (Nat.lt_of_lt_of_le hb TA.size) (fun e=>by omega)).trans (TA.block b hb hn)⟩,
     C',mv',cv',_,fun b hb=>HC'.out b (by omega),HN'.out.keep TP.size (fun b hb=>TP.block b (HN'.out.old b hb) (fun e=>hrC' (e ▸ hb))),
     VarT q,none,0,HRE.1,rfl,⟨hq64,Nat.zero_le _⟩,Ts.empty' _ _,HRE.2.symm,(TP.block bl (by omega) (fun e=>by omega)).trans ((HT'.out.block bl (by omega) HSEP.out.2).trans HB2.out)⟩
  ·have HO:Hid (shL K (m+1) [t]=(shL K m (argsH K x)).map fun y=>([.mk 0 (hc K x).name y.1],y.2)):=lh (by
    have:=HX.out
    subst this
    rw[shL_fn hk]
    cases shL K m (argsH K (endH K t)) with
    | none=>rfl
    | some y=>simp only[Option.bind_some,Option.map_some,shL_nil])
   have hk1:((hc K x).k == 1)=false:=by simpa using hk
   obtain⟨n,hn,hn4,hxn⟩:∃ n:Nat,(hc K x).n=(n:Int)∧n≤4∧x+n<K.length:=by
    rcases cell_right (HK.out x hxl) with ⟨h1,_⟩ | ⟨_,_,h2,h3,h4,_⟩
    ·exact absurd h1 hk
    ·exact⟨(hc K x).n.toNat,by omega,h3,h4⟩
   have HAL:Hid ((argsH K x).length=n):=lh (by unfold argsH;rw[hn];simp)
   have HAI:Hid (∀ i (h:i<(argsH K x).length),(argsH K x)[i]=x+1+i):=lh (by intro i h;simp[argsH])
   have hnm9:(hc K x).name.size≤maxLen:=HFX.out.2.2
   generalize hc K x=cc at *
   obtain⟨ck,cn,nm⟩:=cc
   simp only at hn hk1 hk d0 d1 d2 HO hnm9
   subst hn
   have B2:Below ((w.setCell ⟨bl,0,none⟩ (.int .i64 m)).alloc (.cells #[.int .i64 0,.string ⟨#[]⟩,.slice none 0 0] 71)).heap.size ((w.setCell ⟨bl,0,none⟩ (.int .i64 m)).alloc (.cells #[.int .i64 0,.string ⟨#[]⟩,.slice none 0 0] 71)) ((((w.setCell ⟨bl,0,none⟩ (.int .i64 m)).alloc (.cells #[.int .i64 0,.string ⟨#[]⟩,.slice none 0 0] 71)).alloc (.cells #[.int .i64 ck,.int .i64 (n:Int),.string nm] 69)).alloc (.cells #[.int .i64 0,.string nm,.slice none 0 0] 71)):=((Below.refl _ _).alloc (Nat.le_refl _) _).alloc (by simp only[aSz];omega) _
   have hZ2:=HZ1.out.below B2
   have hN2:=HN1.out.below B2
   have hB2:((((w.setCell ⟨bl,0,none⟩ (.int .i64 m)).alloc (.cells #[.int .i64 0,.string ⟨#[]⟩,.slice none 0 0] 71)).alloc (.cells #[.int .i64 ck,.int .i64 (n:Int),.string nm] 69)).alloc (.cells #[.int .i64 0,.string nm,.slice none 0 0] 71)).heap[bl]? = some (.cells #[.int .i64 m] 3 (0,0)):=(B2.block bl (by have:=HSZ1.out;omega)).trans HBL1.out
   have hT2:Touch (fun b=>b=bl) w ((((w.setCell ⟨bl,0,none⟩ (.int .i64 m)).alloc (.cells #[.int .i64 0,.string ⟨#[]⟩,.slice none 0 0] 71)).alloc (.cells #[.int .i64 ck,.int .i64 (n:Int),.string nm] 69)).alloc (.cells #[.int .i64 0,.string nm,.slice none 0 0] 71)):=HT1.out.trans (Touch.below B2)
   have hS2:((((w.setCell ⟨bl,0,none⟩ (.int .i64 m)).alloc (.cells #[.int .i64 0,.string ⟨#[]⟩,.slice none 0 0] 71)).alloc (.cells #[.int .i64 ck,.int .i64 (n:Int),.string nm] 69)).alloc (.cells #[.int .i64 0,.string nm,.slice none 0 0] 71)).heap.size=w.heap.size+3:=by rw[aSz,aSz,HSZ1.out]
   have hO2:Box3 ((((w.setCell ⟨bl,0,none⟩ (.int .i64 m)).alloc (.cells #[.int .i64 0,.string ⟨#[]⟩,.slice none 0 0] 71)).alloc (.cells #[.int .i64 ck,.int .i64 (n:Int),.string nm] 69)).alloc (.cells #[.int .i64 0,.string nm,.slice none 0 0] 71)) (w.heap.size+2) (.int .i64 0) (.string nm) (.slice none 0 0):=Box3.made2 (by rw[aSz,HSZ1.out])
   have hP2:=HP1.out.below B2
   have HZ2:=lh hZ2;have HN2:=lh hN2;have HB2:=lh hB2;have HT2:=lh hT2;have HS2:=lh hS2;have HO2:=lh hO2;have HP2:=lh hP2
   clear B2 hZ2 hN2 hB2 hT2 hS2 hO2 hP2 HZ1 HN1 HBL1 HT1 HBA HAB HBLA hA0 hAf
   subst ea
   go_enter Try.func91,Try.ntmps91
   go_wp2_with (go_at_call 85;refine HEW.out.mono ?_;rintro e w2 ⟨rfl,rfl⟩)
   clear d0 d1 d2 HP1 HSZ1
   generalize (((w.setCell ⟨bl,0,none⟩ (.int .i64 m)).alloc (.cells #[.int .i64 0,.string ⟨#[]⟩,.slice none 0 0] 71)).alloc (.cells #[.int .i64 ck,.int .i64 (n:Int),.string nm] 69)).alloc (.cells #[.int .i64 0,.string nm,.slice none 0 0] 71)=wb at *
   have HCB:Hid (∀ b,C b→b<w.heap.size):=lh HN.out.old
   have HNI:Hid (I64 ((n:Int))):=lh (by unfold I64;omega)
   go_loopw[44] (fun y44 wr=>∃ (i:Nat) (L:List TmAt) (y:Value) (r:Nat) (s':List Int) (Ls:List Tm) (C':Nat→Prop) (mv' cv':Value),i≤n∧y44=.int .i64 i∧r≤m∧Hid (shL K m ((argsH K x).take i)=some (Ls,r))∧Hid (L.map (·.1)=(Tm.rens numV s Ls).1∧s'=(Tm.rens numV s Ls).2)∧BldC wb bl C (w.heap.size+2) nm L y C' wr∧NmAt wr nb C' s' mv' cv'∧wr.heap[bl]? = some (.cells #[.int .i64 r] 3 (0,0))) (fun y44 _=>n-(intOf y44).toNat)
   case atStart=>exact⟨0,[],.slice none 0 0,m,s,[],C,mv,cv,Nat.zero_le _,rfl,Nat.le_refl _,lh (shL_nil _ _),lh ⟨rfl,rfl⟩,BldC.start HO2.out HN2.out.old ⟨fun e=>by have:=HCB.out _ e;omega,by have:=HS2.out;omega,by omega⟩,HN2.out,HB2.out⟩
   case round =>
    obtain⟨i,L,y,r,s',Ls,C',mv',cv',hi,rfl,hr,HTH,HLL,hrel,hnr,hblr⟩:=hrel
    have HR:=lh hrel;have HNR:=lh hnr;have HBR:=lh hblr
    obtain⟨xa,xc,rfl⟩:=hrel.form
    have HMX:Hid (∀ b,C b∨b=bl→b<w.heap.size):=lh fun b e=>e.elim (HCB.out b) (fun e=>by omega)
    have HZR:=lh (HZ2.out.keep (hrel.touch.block _ HZ2.out.lt (fun e=>e.elim (fun e=>by omega) (fun e=>by have:=HMX.out _ e;omega))))
    obtain⟨z60,z61,z62,z63⟩:=HZR.out.all
    have HPR:=lh (HP2.out.keep (hrel.touch.keeps fun b hb e=>e.elim (fun e=>by have:=(HOK.out b hb).1;omega) (fun e=>e.elim (HOK.out b hb).2 (fun e=>HSEP.out.1 (e ▸ hb)))))
    have hwr:w.heap.size+2<wr.heap.size:=hrel.box.lt
    have hsb:wb.heap.size≤wr.heap.size:=hrel.touch.size
    have HLl:Hid (L.length=i∧i+r≤m∧s'.length+r≤s.length+m):=lh (by
     have h1:=shL_le _ _ _ HTH.out
     have h2:=shL_size _ _ _ HTH.out
     have h3:=congrArg List.length HLL.out.1
     have h4:=rens_len Ls s
     rw[← HLL.out.2] at h4
     rw[List.length_map,Tm.rens_length] at h3
     rw[List.length_take] at h1
     have:=HAL.out
     simp only at h1 h2;omega)
    have HCR:Hid (∀ b,b<wb.heap.size→(C' b↔C b)):=lh hrel.col
    clear hrel hnr hblr
    by_cases hlt:i<n
    ·have hxi:x+1+i<K.length:=by omega
     have HCL:=lh (IH.out r (by omega) s' C' mv' cv' (x+1+i) wr (by have:=HLl.out;omega) hxi HPR.out HNR.out HBR.out ⟨HSEP.out.1,fun e=>HSEP.out.2 ((HCR.out bl (by have:=HS2.out;omega)).1 e)⟩ (fun b hb=>⟨by have:=(HOK.out b hb).1;have:=HS2.out;omega,fun e=>(HOK.out b hb).2 ((HCR.out b (by have:=(HOK.out b hb).1;have:=HS2.out;omega)).1 e)⟩))
     have HSP:Hid (shL K m ((argsH K x).take (i+1))=(shL K r [x+1+i]).map fun z=>(Ls++z.1,z.2)):=lh (by
      have hh:i<(argsH K x).length:=by rw[HAL.out];exact hlt
      rw[List.take_succ_eq_append_getElem hh,HAI.out i hh,shL_append,HTH.out];rfl)
     have HSQ:Hid (shL K r [x+1+i]=none→shL K m (argsH K x)=none):=lh (fun hn=>by
      rw[← List.take_append_drop (i+1) (argsH K x),shL_append,HSP.out,hn];rfl)
     have HLE:=lh (fun z=>shL_le (H:=K) r [x+1+i] z)
     have e9:((x+1+i:Nat):Int)=(x:Int)+1+(i:Int):=by omega
     rw[e9] at HCL
     clear e9
     generalize shL K r [x+1+i]=o at *
     cases o with
     | none =>
      have HQ:=lh (HSQ.out rfl)
      clear HSQ HSP
      go_wp2_with (go_at_call 91;refine HCL.out.mono ?_;rintro e w3 ⟨ht3,C3,mv3,cv3,s3,hc3,hn3,rfl,k3,hb3⟩;have hl3:w.heap.size+2<w3.heap.size:=(by have:=ht3.size;omega);have hl30:w.heap.size<w3.heap.size:=(by omega);have hnm3:∀ b,b<wb.heap.size→¬ C b→b≠bl→¬ (C' b∨b=bl):=(fun b h1 h2 h3 e=>e.elim (fun e=>h2 ((HCR.out b h1).1 e)) h3);have hzr:Box3 w3 w.heap.size (.int .i64 0) (.string ⟨#[]⟩) (.slice none 0 0):=HZR.out.keep (ht3.block _ (by omega) (hnm3 _ (by have:=HS2.out;omega) (fun e=>by have:=HCB.out _ e;omega) (by omega)));obtain⟨y0,y1,y2,yf⟩:=hzr.all;have HT3:=lh ht3;have HN3:=lh hn3;have HC3:=lh hc3;have HB3:=lh hb3;clear ht3 hn3 hb3 hc3 hzr hnm3)
      rw[HO.out,HQ.out]
      have TA:Touch (fun b=>(w.heap.size+2=b∨C' b∧w.heap.size≤b)∨(C b∨b=bl)) w w3:=((HT2.out.mono fun _ _ e=>.inr (.inr e)).trans (HR.out.touch.mono fun _ _ e=>e.elim (fun e=>.inl (.inl e.symm)) .inr)).trans (HT3.out.mono fun b _ e=>e.elim (fun e=>by
       by_cases h:b<w.heap.size
       ·exact .inr (.inl ((HCR.out b (by have:=HS2.out;omega)).1 e))
       ·exact .inl (.inr ⟨e,by omega⟩)) (fun e=>.inr (.inr e)))
      have TP:=touch_put w3 w.heap.size (.int .i64 0) (.string ⟨#[]⟩) (.slice none 0 0)
      have BF:Below (((w3.setCell ⟨w.heap.size,0,none⟩ (.int .i64 0)).setCell ⟨w.heap.size,1,none⟩ (.string ⟨#[]⟩)).setCell ⟨w.heap.size,2,none⟩ (.slice none 0 0)).heap.size (((w3.setCell ⟨w.heap.size,0,none⟩ (.int .i64 0)).setCell ⟨w.heap.size,1,none⟩ (.string ⟨#[]⟩)).setCell ⟨w.heap.size,2,none⟩ (.slice none 0 0)) ((((w3.setCell ⟨w.heap.size,0,none⟩ (.int .i64 0)).setCell ⟨w.heap.size,1,none⟩ (.string ⟨#[]⟩)).setCell ⟨w.heap.size,2,none⟩ (.slice none 0 0)).alloc (.cells #[.int .i64 0,.string ⟨#[]⟩,.slice none 0 0] 71)):=(Below.refl _ _).alloc (Nat.le_refl _) _
      have hps:=TP.size
      have hws:=HT2.out.size
      have hw3:wr.heap.size≤w3.heap.size:=HT3.out.size
      have hcr3:∀ b,C3 b→b≠w.heap.size:=fun b e e2=>by
       subst e2
       have h1:=(HC3.out _ (by omega)).1 e
       have h2:=(HCR.out _ (by have:=HS2.out;omega)).1 h1
       have:=HCB.out _ h2;omega
      exact bodyPost_ret (v:=.tuple #[.agg #[.int .i64 0,.string ⟨#[]⟩,.slice none 0 0],.bool false]) (by simp[results,Try.results91,go_sem,y0,y1,y2,hl30]) rfl
       ⟨⟨BF.os.trans (TP.os.trans TA.os),BF.tape.trans (TP.tape.trans TA.tape),BF.output.trans (TP.output.trans TA.output),Nat.le_trans TA.size (Nat.le_trans TP.size BF.size),fun b hb hn=>(BF.block b (by omega)).trans ((TP.block b (by omega) (fun e=>by omega)).trans (TA.block b hb (fun e=>e.elim (fun e=>by omega) hn)))⟩,
        C3,mv3,cv3,s3,fun b hb=>(HC3.out b (by omega)).trans (HCR.out b (by omega)),HN3.out.keep (Nat.le_trans TP.size BF.size) (fun b hb=>(BF.block b (by have:=HN3.out.old b hb;omega)).trans (TP.block b (HN3.out.old b hb) (hcr3 b hb))),
        rfl,k3,(BF.block bl (by omega)).trans ((TP.block bl (by omega) (fun e=>by omega)).trans HB3.out)⟩
     | some z =>
      obtain⟨u1,u2⟩:=z
      have hzr:u2≤r:=by have:=(HLE.out _ rfl).1;simp only[List.length_singleton] at this;omega
      have HNT:Hid (shL K m ((argsH K x).take (i+1))=some (Ls++u1,u2)):=lh HSP.out
      clear HSQ HSP HLE
      obtain⟨i0,hi0,hz0',hz1',hz2'⟩:=info_parts Try.infoTm
      go_wp2_with (first
       | (go_at_call 91;refine HCL.out.mono ?_;rintro e w3 ⟨ht3,C3,mv3,cv3,s3,hc3,hn3,T,a3,c3,hTT,rfl,hf3,hts3,hs3,hb3⟩;have hl3:w.heap.size+2<w3.heap.size:=(by have:=ht3.size;omega);have hl30:w.heap.size<w3.heap.size:=(by omega);have hnm3:∀ b,b<wb.heap.size→¬ C b→b≠bl→¬ (C' b∨b=bl):=(fun b h1 h2 h3 e=>e.elim (fun e=>h2 ((HCR.out b h1).1 e)) h3);have hzr3:Box3 w3 w.heap.size (.int .i64 0) (.string ⟨#[]⟩) (.slice none 0 0):=HZR.out.keep (ht3.block _ (by omega) (hnm3 _ (by have:=HS2.out;omega) (fun e=>by have:=HCB.out _ e;omega) (by omega)));obtain⟨y0,y1,y2,yf⟩:=hzr3.all;have HBO:=HR.out.box.keep (ht3.block _ HR.out.box.lt (hnm3 _ (by have:=HS2.out;omega) (fun e=>by have:=HCB.out _ e;omega) (by omega)));have k2:=HBO.c2;have kf:=HBO.fz;have HO1:=lh (((ownsRow_block HR.out.own.own (fun gg hg=>ht3.block gg (HR.out.own.block hg).2 (fun e=>e.elim (fun e=>HR.out.xo gg hg e) (fun e=>by have:=(HR.out.own.block hg).1;have:=HS2.out;omega)))).alloc (.cells #[.int .i64 T.var,.string T.name,.slice a3 T.args.length c3] 71)).alloc (.cells #[.int .i64 T.var,.string T.name,.slice a3 T.args.length c3] 71));have HT3:=lh ht3;have HF3:=lh hf3;have HTS3:=lh hts3;have HN3:=lh hn3;have HC3:=lh hc3;have HB3:=lh hb3;have HTT:=lh hTT;have HS3:=lh hs3;clear ht3 hf3 hts3 hn3 hb3 hTT hc3 hs3 HBO hzr3 hnm3)
       | (at_builtin;have _g:=HO1;refine wpList_append_opt _ rfl _ _ 48 rfl wb.heap.size 71 i0 _ 3 48 Try.underlying48 hi0 hz0' hz1' hz2' rfl (by decide) _ _ _ rfl HO1.out (some ⟨w3.heap.size+1,0,none⟩) 1 1 ?d0 (flat [(T,a3,c3)]) rfl (by rw[flat_length];rfl) ?d1 (flat_one _) ?d2 ?d3 ?d4 ?_))
      ·intro h;cases h
      ·exact news3 _ T a3 c3 (by simp)
      ·have:=HLl.out;unfold maxLen;omega
      ·have:=HLl.out;omega
      ·have:=HR.out.touch.size;have:=HT3.out.size;simp only[aSz];omega
      ·intro v4 w4 hown4 hgrow4 hfr4
       have BX4:Below w3.heap.size w3 ((w3.alloc (.cells #[.int .i64 T.var,.string T.name,.slice a3 T.args.length c3] 71)).alloc (.cells #[.int .i64 T.var,.string T.name,.slice a3 T.args.length c3] 71)):=((Below.refl _ _).alloc (Nat.le_refl _) _).alloc (by simp only[aSz];omega) _
       have HNX:=lh (HR.out.next (Nat.le_refl _) HT3.out HC3.out HN3.out.old HF3.out HTS3.out BX4 hown4 hgrow4 hfr4)
       have HG4:=lh hgrow4
       have HXO:=lh (fun gg hg e=>HR.out.xo gg hg e)
       have HOB:=lh (fun gg hg=>HR.out.own.block (g:=gg) hg)
       obtain⟨g4,cap4,rfl⟩:=own_shape hown4 (by omega)
       have s2:=HNX.out.1.c2
       have sf:=HNX.out.1.fz
       have HB4:=lh BX4
       clear hown4 hgrow4 hfr4 k2 kf y0 y1 y2 yf BX4
       go_wp2_with fail
       go_roundw
       case measure=>simp[intOf];omega
       case rel =>
        have hkk:∀ b,b<w3.heap.size→b≠w.heap.size+2→(Value.slice xa L.length xc).ownBlock≠some b→(w4.setCell ⟨w.heap.size+2,2,none⟩ (.slice (some ⟨g4,0,none⟩) (L.length+1) cap4)).heap[b]? = w3.heap[b]?:=fun b h1 h2 h3=>by
         rw[Below.heap_setCell _ _ _ _ h2,HG4.out.block b (by have:=HB4.out.size;omega) (fun e2=>h3 e2.symm),HB4.out.block b h1]
        have hn9:∀ b,C3 b→(w4.setCell ⟨w.heap.size+2,2,none⟩ (.slice (some ⟨g4,0,none⟩) (L.length+1) cap4)).heap[b]? = w3.heap[b]?:=fun b e=>hkk b (HN3.out.old b e) (fun e2=>by
         subst e2
         have h1:=(HC3.out _ (by omega)).1 e
         have h2:=(HCR.out _ (by have:=HS2.out;omega)).1 h1
         have:=HCB.out _ h2;omega) (fun e2=>HXO.out b e2 ((HC3.out b (by have:=(HOB.out b e2).2;omega)).1 e))
        exact⟨i+1,L++[(T,a3,c3)],_,u2,s3,Ls++u1,C3,mv3,cv3,by omega,by go_num,by omega,HNT.out,lh ⟨by rw[List.map_append,Tm.rens_append,HLL.out.1,← HLL.out.2,HTT.out];rfl,by rw[HS3.out,Tm.rens_append,← HLL.out.2]⟩,HNX.out.2,
         HN3.out.keep (by have:=HB4.out.size;have:=HG4.out.size;simp[World.setCell];omega) hn9,(hkk bl (by omega) (by omega) (fun e2=>by have:=(HOB.out bl e2).1;have:=HS2.out;omega)).trans HB3.out⟩
    ·have HTA:Hid (shL K m (argsH K x)=some (Ls,r)):=lh (by
      have:=HTH.out
      rwa [List.take_of_length_le (by have:=HAL.out;omega)] at this)
     have HD:=lh (HR.out.done (w:=w) (br:=w.heap.size) (C0:=C) (HT2.out.mono fun _ _ e=>.inr e) (fun _ _=>Iff.rfl) (by omega) (by omega) (by have:=HS2.out;omega))
     obtain⟨q0,q1,q2,qf⟩:=HR.out.box.all
     go_wp2_with fail
     rw[HO.out,HTA.out]
     obtain⟨a9,c9,he,ht9,hb9⟩:=HD.out
     injection he with he1 he2 he3
     subst he1;subst he3
     have TP:=touch_put wr w.heap.size (.int .i64 0) (.string nm) (.slice xa L.length xc)
     have hRE:Tm.rens numV s [.mk 0 nm Ls]=([.mk 0 nm (L.map (·.1))],s'):=by
      simp[Tm.rens,Tm.ren,HLL.out.1,HLL.out.2]
     have hcr3:∀ b,C' b→b≠w.heap.size:=fun b e e2=>by
      subst e2
      have h2:=(HCR.out _ (by have:=HS2.out;omega)).1 e
      have:=HCB.out _ h2;omega
     exact bodyPost_ret (v:=.tuple #[.agg #[.int .i64 0,.string nm,.slice xa L.length xc],.bool true]) (by simp[results,Try.results91,go_sem,z60,z61,z62]) rfl
      ⟨hb9,C',mv',cv',s',fun b hb=>HCR.out b (by have:=HS2.out;omega),HNR.out.keep TP.size (fun b hb=>TP.block b (HNR.out.old b hb) (hcr3 b hb)),
       .mk 0 nm (List.map (fun y:TmAt=>y.1) L),xa,xc,by simp only;rw[hRE],by simp[Tm.var,Tm.name,Tm.args],⟨(by show -9223372036854775808≤(0:Int)∧(0:Int)≤9223372036854775807;omega),hnm9⟩,ht9,
       by simp only;rw[hRE],(TP.block bl (by omega) (fun e=>by omega)).trans HBR.out⟩
theorem NmAt.made(w:World):NmAt (w.alloc (.cells #[.map none,.slice none 0 0] 137)) w.heap.size (fun b=>b=w.heap.size) [] (.map none) (.slice none 0 0) :=
 ⟨heap_alloc_new w _,.inl ⟨rfl,rfl⟩,World.ownsRow_nil _ _ _ _,⟨rfl,fun _ hg=>nomatch hg⟩,fun b hb=>by subst hb;simp⟩
end Go.Proofs.Ytikmgiapjigghab
namespace Go.Proofs.Ytikmgiapjigghab

section
variable {H:List HC} {σ:Sub} {D:Int→Prop} {S:Int→Nat}
noncomputable def gC(H:List HC)(S:Int→Nat)(v:Int):Int:=(endH H (S v):Int)+1
theorem Hang.show(h:Hang H σ D S):∀ (m:Nat) (ps:List (Nat×Tm)),Sts H D S ps→shL H m (ps.map (·.1))=(thrL σ m (ps.map (·.2))).map fun x=>(x.1.map (Tm.mapv (gC H S)),x.2):=by
 intro m
 induction m using Nat.strongRecOn with
 | _ m ih =>
 intro ps hp
 cases ps with
 | nil=>rw[List.map_nil,List.map_nil,shL_nil,thrL_nil];rfl
 | cons p r =>
  have hs:=hp p List.mem_cons_self
  have hr:Sts H D S r:=fun x hx=>hp x (List.mem_cons_of_mem _ hx)
  rw[List.map_cons,List.map_cons]
  cases m with
  | zero=>rw[shL_zero,thrL_zero];rfl
  | succ m =>
   obtain⟨s1,s2,s3,s4,s5,s6⟩:=h.look hs
   by_cases hx:(Go.Proofs.Ytikmgiapjigghab.look σ p.2).var=0
   ·obtain⟨k1,k2,k3,k4⟩:=s6 hx
    rw[shL_fn k1,thrL_fn hx]
    obtain⟨qs,q1,q2,q3⟩:=Sts.args h hs hx
    rw[← q1,← q2,ih m (by omega) qs q3]
    cases ht:thrL σ m (qs.map (·.2)) with
    | none=>rfl
    | some y =>
     have hle:=(thrL_le _ _ _ ht).1
     simp only[Option.map_some,Option.bind_some]
     rw[ih y.2 (by omega) r hr]
     cases thrL σ y.2 (r.map (·.2)) with
     | none=>rfl
     | some z =>
      simp only[Option.map_some,List.map_cons]
      rw[Tm.mapv_fn (t:=.mk 0 (Go.Proofs.Ytikmgiapjigghab.look σ p.2).name y.1) rfl,k2];rfl
   ·obtain⟨k1,k2,k3⟩:=s5 hx
    have he:endH H p.1=endH H (S (Go.Proofs.Ytikmgiapjigghab.look σ p.2).var):=by
     rw[k3] at s1
     generalize (Go.Proofs.Ytikmgiapjigghab.look σ p.2).var=v at *
     cases s1 with
     | var h1 h2 h3=>rw[s3] at h3;exact h3
     | fn=>exact absurd rfl hx
    rw[shL_var k1,thrL_var hx,ih m (by omega) r hr]
    cases thrL σ m (r.map (·.2)) with
    | none=>rfl
    | some z =>
     simp only[Option.map_some,List.map_cons]
     rw[Tm.mapv_var (t:=VarT (Go.Proofs.Ytikmgiapjigghab.look σ p.2).var) hx]
     unfold gC
     rw[he];rfl
def Bare(σ:Sub)(D:Int→Prop)(T:Tm):Prop:=WfT T∧∀ p,p∈T.parts→p.var≠0→D p.var∧look σ (VarT p.var)=VarT p.var
theorem Bare.fn{n:ByteArray}{l:List Tm}(h:∀ t,t∈l→Bare σ D t):Bare σ D (.mk 0 n l):=by
 refine⟨fun p hp=>?_,fun p hp hv=>?_⟩
 ·rw[Tm.parts] at hp
  rcases List.mem_cons.1 hp with rfl | hp
  ·exact⟨Int.le_refl _,fun e=>absurd rfl e⟩
  ·obtain⟨t,ht,hp⟩:=Tm.partss_of hp
   exact(h t ht).1 p hp
 ·rw[Tm.parts] at hp
  rcases List.mem_cons.1 hp with rfl | hp
  ·exact absurd rfl hv
  ·obtain⟨t,ht,hp⟩:=Tm.partss_of hp
   exact(h t ht).2 p hp hv
theorem Hang.bare(h:Hang H σ D S):∀ (m:Nat) (ps:List (Nat×Tm)) (x:List Tm×Nat),Sts H D S ps→thrL σ m (ps.map (·.2))=some x→∀ T,T∈x.1→Bare σ D T:=by
 intro m
 induction m using Nat.strongRecOn with
 | _ m ih =>
 intro ps x hp he T hT
 cases ps with
 | nil=>rw[List.map_nil,thrL_nil] at he;cases he;cases hT
 | cons p r =>
  have hs:=hp p List.mem_cons_self
  have hr:Sts H D S r:=fun x hx=>hp x (List.mem_cons_of_mem _ hx)
  rw[List.map_cons] at he
  cases m with
  | zero=>rw[thrL_zero] at he;cases he
  | succ m =>
   obtain⟨s1,s2,s3,s4,s5,s6⟩:=h.look hs
   by_cases hx:(Go.Proofs.Ytikmgiapjigghab.look σ p.2).var=0
   ·rw[thrL_fn hx] at he
    obtain⟨y,hy,h2⟩:=Option.bind_eq_some_iff.1 he
    obtain⟨z,hz,rfl⟩:=Option.map_eq_some_iff.1 h2
    have hle:=(thrL_le _ _ _ hy).1
    obtain⟨qs,q1,q2,q3⟩:=Sts.args h hs hx
    rw[← q2] at hy
    rcases List.mem_cons.1 hT with rfl | hT
    ·exact Bare.fn fun t ht=>ih m (by omega) qs y q3 hy t ht
    ·exact ih y.2 (by omega) r z hr hz T hT
   ·obtain⟨k1,k2,k3⟩:=s5 hx
    rw[thrL_var hx] at he
    obtain⟨z,hz,rfl⟩:=Option.map_eq_some_iff.1 he
    rcases List.mem_cons.1 hT with rfl | hT
    ·have h1:=h.pos _ k2
     refine⟨WfT.bare (by omega),fun q hq _=>?_⟩
     simp only[Tm.parts,Tm.partss,List.mem_singleton] at hq
     subst hq
     exact⟨k2,look_free (look_root h.store hx)⟩
    ·exact ih m (by omega) r z hr hz T hT
end
end Go.Proofs.Ytikmgiapjigghab
namespace Go.Proofs.Ytikmgiapjigghab
open Go.RowKit
theorem hang_says{H:List HC}{σ:Sub}{D:Int→Prop}{Sc:Int→Nat}(h:Hang H σ D Sc)(ps:List (Nat×Tm))(hp:Sts H D Sc ps) :
 (shL H 200 (ps.map (·.1))).map (fun x=>(Tm.rens numV [] x.1).1)=(thrL σ 200 (ps.map (·.2))).map (fun x=>(Tm.rens numV [] x.1).1):=by
 rw[h.show 200 ps hp]
 cases hx:thrL σ 200 (ps.map (·.2)) with
 | none=>rfl
 | some x =>
  simp only[Option.map_some]
  congr 1
  have hb:=h.bare 200 ps x hp hx
  exact rens_inj (P:=fun v=>D v∧look σ (VarT v)=VarT v) (g:=gC H Sc) (fun v w hv hw' e=>by
   have hv0:=h.pos v hv.1;have hw0:=h.pos w hw'.1
   have hvv:(VarT v).var=v:=rfl
   have hww:(VarT w).var=w:=rfl
   have:=(h.cls v w hv.1 hw'.1 (by rw[hv.2,hvv];omega) (by rw[hw'.2,hww];omega)).2 (by unfold gC at e;omega)
   rw[hv.2,hw'.2] at this
   exact this) (fun v _=>by unfold gC;omega) x.1 (fun t ht=>(hb t ht).1) (fun t ht p hp' hv=>(hb t ht).2 p hp' hv)
theorem answ_sim{p:List Cl}(hp:∀ c,c∈p→ClG c){S:MS}{P:PS}(h:Core p S P)(hf:S.fin=0∧P.fin=0)(hs:S.steps=P.steps∧S.ans=P.ans){query:Nat}(hq:S.Q.length=query)(ha:S.ans.length+1≤40)(hroom:S.H.length+833≤400000∧S.G.length+6≤5000) :
 MvS p (mansw p S) (pansw p query P)∧Grown S (mansw p S):=by
 obtain⟨D,Sc,hsit⟩:=h.sit
 have hlen:=h.len
 have hw:∃ P0,Core p S P0:=⟨P,h⟩
 have hsay:=hang_says hsit.hang ((List.range query).map fun i=>(S.Q.getD i 0,VarT ((i:Int)+1))) (fun x hx=>by
  obtain⟨i,hi,rfl⟩:=List.mem_map.1 hx
  rw[List.mem_range,← hq] at hi
  have:=hsit.query i hi
  simp only
  rw[List.getD_eq_getElem?_getD,List.getElem?_eq_getElem hi]
  exact this)
 have e1:((List.range query).map fun i=>(S.Q.getD i 0,VarT ((i:Int)+1))).map (·.1)=S.Q:=by
  rw[List.map_map]
  refine List.ext_getElem (by simp[hq]) fun i h1 h2=>?_
  simp only[List.getElem_map,List.getElem_range,Function.comp]
  rw[List.getD_eq_getElem?_getD,List.getElem?_eq_getElem h2];rfl
 have e2:((List.range query).map fun i=>(S.Q.getD i 0,VarT ((i:Int)+1))).map (·.2)=varsL query:=by rw[List.map_map];rfl
 rw[e1,e2] at hsay
 have stop:∀ (k:Nat) (A:List (List Tm)),k≠0→MvS p { S with ans:=A,fin:=k } { P with ans:=A,fin:=k }∧Grown S { S with ans:=A,fin:=k }:=fun k A hk=>by
  have hc0:Core p { S with ans:=A,fin:=k } { P with ans:=A,fin:=k }:=⟨⟨D,Sc,hsit.congr rfl rfl rfl rfl⟩,h.ch.congr rfl rfl rfl rfl⟩
  exact⟨⟨rfl,hs.1,rfl,fun e=>absurd e hk,⟨_,hc0⟩⟩,⟨by simp only;omega,by simp only;omega,rfl,by simp only;omega⟩⟩
 unfold mansw pansw
 cases hx:shL S.H 200 S.Q with
 | none =>
  rw[hx] at hsay
  cases hy:thrL P.σ 200 (varsL query) with
  | some y=>rw[hy] at hsay;cases hsay
  | none =>
   have:=stop 3 S.ans (by decide)
   rw[hs.2] at this
   simp only
   have e3:({ S with fin:=3 }:MS) = { S with ans:=P.ans,fin:=3 }:=by rw[← hs.2]
   rw[e3]
   exact this
 | some x =>
  rw[hx] at hsay
  cases hy:thrL P.σ 200 (varsL query) with
  | none=>rw[hy] at hsay;cases hsay
  | some y =>
   rw[hy] at hsay
   simp only[Option.map_some,Option.some.injEq] at hsay
   simp only
   rw[hsay,hs.2]
   have hal:P.ans.length+1≤40:=by rw[← hs.2];exact ha
   by_cases h40:P.ans.length+1=40
   ·rw[if_pos (by omega),if_pos h40]
    exact stop 1 _ (by decide)
   ·rw[if_neg (by omega),if_neg h40,← hlen]
    have hc0:Core p { S with ans:=P.ans++[(Tm.rens numV [] y.1).1] } { P with ans:=P.ans++[(Tm.rens numV [] y.1).1] }:=⟨⟨D,Sc,hsit.congr rfl rfl rfl rfl⟩,h.ch.congr rfl rfl rfl rfl⟩
    obtain⟨r1,r2⟩:=back_sim hp S.ch.length { S with ans:=P.ans++[(Tm.rens numV [] y.1).1] } { P with ans:=P.ans++[(Tm.rens numV [] y.1).1] } hc0.ch.whole (Nat.le_refl _) hlen hf ⟨hs.1,rfl⟩ ⟨_,hc0⟩ hroom
    exact⟨r1,⟨r2.heap,r2.goals,r2.q,r2.trail⟩⟩
noncomputable def mstep(p:List Cl)(most:Int)(S:MS):MS :=
 if S.first=0 then mansw p S else if most≤(S.steps:Int) then { S with fin:=2 } else mtake p S
noncomputable def mrun(p:List Cl)(most:Int):Nat→MS→MS
 | 0,S=>S
 | n+1,S=>if S.fin=0 then mrun p most n (mstep p most S) else S
theorem Sit.first{S:MS}{n vars:Nat}{σ:Sub}{now:List Goal}{D:Int→Prop}{Sc:Int→Nat}(h:Sit S n vars σ now D Sc):n=0↔now = []:=by
 cases now with
 | nil=>exact⟨fun _=>rfl,fun _=>h.go⟩
 | cons g r =>
  obtain⟨x,h1,-⟩:=h.go
  exact⟨fun e=>by omega,fun e=>by cases e⟩
theorem step_sim{p:List Cl}(hp:∀ c,c∈p→ClG c){S:MS}{P:PS}(h:MvS p S P)(h0:P.fin=0){query:Nat}{most:Nat}(hq:S.Q.length=query)(ha:P.ans.length+1≤40)(hm:P.steps≤most)(hroom:S.H.length+833≤400000∧S.G.length+6≤5000) :
 MvS p (mstep p most S) (pstep p query most P)∧Grown S (mstep p most S):=by
 have hc:=h.core (h.fin.trans h0)
 have hf:S.fin=0∧P.fin=0:=⟨h.fin.trans h0,h0⟩
 obtain⟨D,Sc,hs⟩:=hc.sit
 unfold mstep pstep
 by_cases hn:P.now = []
 ·rw[if_pos (hs.first.2 hn),if_pos hn]
  exact answ_sim hp hc hf ⟨h.steps,h.ans⟩ hq (by rw[h.ans];exact ha) hroom
 ·rw[if_neg (fun e=>hn (hs.first.1 e)),if_neg hn]
  have hst:=h.steps
  by_cases he:(P.steps:Int)=most
  ·rw[if_pos he,if_pos (by rw[hst];omega)]
   have hc0:Core p { S with fin:=2 } { P with fin:=2 }:=⟨⟨D,Sc,hs.congr rfl rfl rfl rfl⟩,hc.ch.congr rfl rfl rfl rfl⟩
   exact⟨⟨rfl,h.steps,h.ans,(fun e=>by cases e),⟨_,hc0⟩⟩,⟨by simp only;omega,by simp only;omega,rfl,by simp only;omega⟩⟩
  ·rw[if_neg he,if_neg (by rw[hst];omega)]
   exact take_sim hp hc hn hf ⟨h.steps,h.ans⟩ hroom
def left(most:Nat)(P:PS):Nat:=(most-P.steps)+(40-P.ans.length)
set_option maxRecDepth 20000 in
theorem runs_sim{p:List Cl}(hp:∀ c,c∈p→ClG c)(hpk:POk p)(h30:p.length≤30){query most:Nat}(hmost:most≤400):∀ (n:Nat) (S:MS) (P:PS),MvS p S P→RInv p P→P.steps≤most→S.Q.length=query→S.H.length≤400000→S.G.length≤5000 →
 (P.fin=0→S.H.length+833*(left most P+1)≤400000∧S.G.length+6*(left most P+1)≤5000) →
 MvS p (mrun p most n S) (prun p query most n P)∧(mrun p most n S).H.length≤400000∧(mrun p most n S).G.length≤5000∧(mrun p most n S).Q=S.Q:=by
 intro n
 induction n with
 | zero=>intro S P h _ _ _ h1 h2 _;exact⟨h,h1,h2,rfl⟩
 | succ n ih =>
  intro S P h hr hs hq h1 h2 hroom
  unfold mrun prun
  by_cases h0:P.fin=0
  ·rw[if_pos h0,if_pos (h.fin.trans h0)]
   obtain⟨r1,r2⟩:=hroom h0
   have ha:=(hr.core h0).2
   obtain⟨q1,q2⟩:=step_sim hp h h0 (most:=most) hq (by omega) hs (by constructor <;> omega)
   obtain⟨i1,i2,i3⟩:=step_inv hpk h30 query hmost hr h0 hs
   have g1:=q2.heap;have g2:=q2.goals;have g3:=q2.q
   obtain⟨k1,k2,k3,k4⟩:=ih (mstep p most S) (pstep p query most P) q1 i1 i2 (by rw[g3];exact hq) (by omega) (by omega) (fun e=>by
    have h3:=i3 e
    unfold left at r1 r2 ⊢
    constructor <;> omega)
   exact⟨k1,k2,k3,k4.trans g3⟩
  ·rw[if_neg h0,if_neg (by rw[h.fin];exact h0)]
   exact⟨h,h1,h2,rfl⟩
def mnew(q:List Tm)(g:Nat):MS :=
 mpush q (putL [] (fun _=>none) (varsL g)).1.2 0 0 { H:=(putL [] (fun _=>none) (varsL g)).1.1,G:=[],first:=0,ch:=[],T:=[],Q:=(putL [] (fun _=>none) (varsL g)).2,steps:=0,fin:=0,ans:=[],f:=4000 }
theorem far_zero(t:Tm):WfT t→far 0 t=t:=by
 unfold far
 rw[show (fun v:Int=>v+0)=fun v=>v from funext fun v=>Int.add_zero v]
 induction t using Tm.ind with
 | h v n l ih =>
  intro hw
  by_cases hv:v=0
  ·subst hv
   rw[Tm.mapv_fn (t:=.mk 0 n l) rfl]
   have:l.map (Tm.mapv fun v=>v)=l:=by
    conv=>rhs;rw[← List.map_id l]
    exact List.map_congr_left fun x hx=>ih x hx (hw.arg (t:=.mk 0 n l) hx)
   show Tm.mk 0 n _=_
   simp only[Tm.args,this]
  ·rw[Tm.mapv_var (t:=.mk v n l) hv]
   exact(hw.isVar (t:=.mk v n l) hv).symm
theorem far_zeros{l:List Tm}(h:∀ t,t∈l→WfT t):l.map (far 0)=l:=by
 conv=>rhs;rw[← List.map_id l]
 exact List.map_congr_left fun t ht=>far_zero t (h t ht)
theorem hang_nil:Hang [] (fun _=>none) (fun _=>False) (fun _=>0) :=
 ⟨⟨by simp,fun i hi=>absurd hi (Nat.not_lt_zero _),fun i hi=>absurd hi (Nat.not_lt_zero _)⟩,SInv.none,fun _ h=>h.elim,fun _ h=>h.elim,fun _ h=>h.elim,fun _ _ h=>h.elim⟩
theorem right_names{t:Tm}(h:t.checkE=0):NamesOk t:=by
 intro p hp hv
 have h0:=(check_zero h).2
 rw[Tm.partsE_eq] at h0
 have h1:=firstE_zero _ h0 p hp
 unfold Tm.partE at h1
 obtain⟨v,n,l⟩:=p
 simp only[Tm.var,Tm.name,Tm.args] at hv h1 ⊢
 subst hv
 unfold Go.Proofs.Ytikmgiapjigghab.partE at h1
 rw[if_pos rfl] at h1
 split at h1
 ·cases h1
 ·split at h1
  ·cases h1
  ·split at h1
   ·cases h1
   ·rename_i a b c
    refine⟨?_,by omega,fun e=>c ⟨beq_iff_eq.2 e.1,e.2⟩⟩
    simpa using a
theorem tmg_of{t:Tm}(h:t.checkE=0):TmG t:=⟨check_fit h,right_names h,(check_zero h).1⟩
theorem clg_of{P:List Cl}(h:programE P=0):∀ c,c∈P→ClG c:=fun c hc=>by
 obtain⟨h1,h2⟩:=(program_zero h).2 c hc
 exact⟨tmg_of h1,fun b hb=>tmg_of (query_mem h2 hb),(query_zero h2).1⟩
theorem tmg_var{i:Nat}(h:i<12):TmG (VarT ((i:Int)+1)):=by
 refine⟨fit_var (by omega) (by omega),fun p hp hv=>?_,?_⟩
 ·have:(VarT ((i:Int)+1)).parts = [VarT ((i:Int)+1)]:=by unfold VarT;rw[Tm.parts];rfl
  rw[this,List.mem_singleton] at hp
  subst hp
  have:((i:Int)+1)=0:=hv
  omega
 ·unfold VarT;simp[Tm.size,Tm.sizes]
theorem stsL_at{H:List HC}{D:Int→Prop}{Sc:Int→Nat}:∀ {cs0:List Nat} {ts:List Tm},StsL H D Sc cs0 ts→cs0.length=ts.length∧∀ i (h1:i<cs0.length) (h2:i<ts.length),St H D Sc cs0[i] ts[i]:=by
 intro cs0
 induction cs0 with
 | nil=>intro ts h;cases ts with
  | nil=>exact⟨rfl,fun i h1=>absurd h1 (Nat.not_lt_zero _)⟩
  | cons t ts=>exact h.elim
 | cons a cs0 ih=>intro ts h;cases ts with
  | nil=>exact h.elim
  | cons t ts =>
   obtain⟨h1,h2⟩:=ih h.2
   refine⟨by simp[h1],fun i q1 q2=>?_⟩
   cases i with
   | zero=>exact h.1
   | succ i=>exact h2 i (by simpa using q1) (by simpa using q2)
theorem start_sim(p:List Cl){q:List Tm}(hq:queryE q=0){g:Nat}(hg:g≤12) :
 MvS p (mnew q g) (startP q)∧(mnew q g).H.length≤2142∧(mnew q g).G.length≤6∧(mnew q g).Q.length=g∧(mnew q g).fin=0:=by
 have hvg:∀ t,t∈varsL g→TmG t:=fun t ht=>by
  unfold varsL at ht
  obtain⟨i,hi,rfl⟩:=List.mem_map.1 ht
  rw[List.mem_range] at hi
  exact tmg_var (by omega)
 have hvl:(varsL g).length=g:=by simp[varsL]
 have hql:=(query_zero hq).1
 obtain⟨D1,S1,q1⟩:=putL_sim (σ:=fun _=>none) (k:=0) (Int.le_refl _) (varsL g) [] (fun _=>none) (fun _=>False) (fun _=>0) hang_nil ⟨(fun v c e=>by cases e),fun v _ _=>⟨fun h=>h,rfl⟩⟩ (fun v w c e=>by cases e) (fun v c e=>by cases e) hvg (by rw[hvl];simp;omega)
 have l1:=q1.len.2
 rw[hvl] at l1
 simp only[List.length_nil] at l1
 obtain⟨D2,S2,q2⟩:=putL_sim (σ:=fun _=>none) (k:=0) (Int.le_refl _) q _ _ D1 S1 q1.hang q1.rel q1.inj q1.dom (fun t ht=>tmg_of (query_mem hq ht)) (by omega)
 have l2:=q2.len.2
 have st1:=q1.st
 rw[far_zeros (fun t ht=>(hvg t ht).fit.wf)] at st1
 have st2:=q2.st
 rw[far_zeros (fun t ht=>(check_fit (query_mem hq ht)).wf)] at st2
 obtain⟨s1,s2⟩:=stsL_at st1
 obtain⟨c1,-⟩:=stsL_at st2
 rw[hvl] at s1
 obtain⟨p1,p2,⟨gg,p3,p4⟩,p5⟩:=push_rel (H:=(putL (putL [] (fun _=>none) (varsL g)).1.1 (putL [] (fun _=>none) (varsL g)).1.2 q).1.1) (D:=D2) (Sc:=S2) 0 (G:=[]) (nx:=0) (rest:=[]) rfl (Nat.le_refl _) (fun i h=>absurd h (Nat.not_lt_zero _)) _ _ st2
 have hGl:(pushG 0 (putL (putL [] (fun _=>none) (varsL g)).1.1 (putL [] (fun _=>none) (varsL g)).1.2 q).2.reverse ([],0)).1.length≤6:=by rw[p3,List.nil_append,p4,c1];exact hql
 have hfin:(mnew q g).fin=0:=by
  simp only[mnew,mpush]
  rw[if_neg (by omega)]
 have hc0:Core p (mnew q g) (startP q):=by
  refine⟨⟨D2,S2,q2.hang,?_,fun i hi=>?_,fun v hv=>?_,p5,fun x hx=>by cases hx⟩,trivial⟩
  ·rw[List.append_nil] at p1;exact p1
  ·have h3:=s2 i hi (by rw[hvl,← s1];exact hi)
   have h4:=q2.keep _ _ h3
   have e:(varsL g)[i]'(by rw[hvl,← s1];exact hi)=VarT ((i:Int)+1):=by simp[varsL]
   rw[e] at h4
   exact h4
  ·have hn:(putL (putL [] (fun _=>none) (varsL g)).1.1 (putL [] (fun _=>none) (varsL g)).1.2 q).1.2 v=none:=by
    cases hz:(putL (putL [] (fun _=>none) (varsL g)).1.1 (putL [] (fun _=>none) (varsL g)).1.2 q).1.2 v with
    | none=>rfl
    | some k =>
     have h5:=q2.dom _ _ hz
     have h6:((12:Nat):Int)<v:=hv
     omega
   have:=q2.rel.new v (by have h6:((12:Nat):Int)<v:=hv;omega) hn
   rwa [Int.add_zero] at this
 exact⟨⟨hfin,rfl,rfl,fun _=>hc0,⟨_,hc0⟩⟩,by simp only[mnew,mpush];omega,hGl,s1,hfin⟩
theorem mrun_solve{p:List Cl}(hp:programE p=0){q:List Tm}(hq:queryE q=0){most:Nat}(hm:most≤400) :
 MvS p (mrun p most 442 (mnew q (Tm.greats q).toNat)) (solveP p q most)∧(mrun p most 442 (mnew q (Tm.greats q).toNat)).H.length≤400000∧(mrun p most 442 (mnew q (Tm.greats q).toNat)).G.length≤5000:=by
 have hg:(Tm.greats q).toNat≤12:=by have:=query_great hq;omega
 obtain⟨h1,h2,h3,h4,h5⟩:=start_sim p hq hg
 obtain⟨k1,k2,k3,-⟩:=runs_sim (clg_of hp) (pok_of hp) (program_zero hp).1 hm 442 _ _ h1 (start_inv p hq) (Nat.zero_le _) h4 (by omega) (by omega) (fun _=>by
  have:left most (startP q)≤440:=by simp[left,startP];omega
  constructor <;> omega)
 exact⟨k1,k2,k3⟩
structure Gl where
 at':Int
 cut:Int
 next:Int
structure Chi where
 goal:Int
 clause:Int
 heap:Int
 trail:Int
 goals:Int
structure Mac where
 H:List HC
 G:List Gl
 first:Int
 ch:List Chi
 T:List Int
 Q:List Int
 steps:Int
 fin:Int
 ans:List (List Tm)
def flatG:List Gl→List Value
 | []=>[]
 | g::r=>.int .i64 g.at'::.int .i64 g.cut::.int .i64 g.next::flatG r
def flatK:List Chi→List Value
 | []=>[]
 | c::r=>.int .i64 c.goal::.int .i64 c.clause::.int .i64 c.heap::.int .i64 c.trail::.int .i64 c.goals::flatK r
theorem flatG_append(l r:List Gl):flatG (l++r)=flatG l++flatG r:=by
 induction l with
 | nil=>rfl
 | cons x l ih=>simp only[List.cons_append,flatG,ih]
theorem flatK_append(l r:List Chi):flatK (l++r)=flatK l++flatK r:=by
 induction l with
 | nil=>rfl
 | cons x l ih=>simp only[List.cons_append,flatK,ih]
theorem flatG_length(l:List Gl):(flatG l).length=l.length*3:=by
 induction l with
 | nil=>rfl
 | cons x l ih=>simp only[flatG,List.length_cons,ih];omega
theorem flatK_length(l:List Chi):(flatK l).length=l.length*5:=by
 induction l with
 | nil=>rfl
 | cons x l ih=>simp only[flatK,List.length_cons,ih];omega
theorem flatG_one(l:List Gl):∀ u∈flatG l,u.oneCell'=true:=by
 induction l with
 | nil=>intro u hu;cases hu
 | cons x l ih =>
  intro u hu
  simp only[flatG,List.mem_cons] at hu
  rcases hu with rfl | rfl | rfl | hu
  ·rfl
  ·rfl
  ·rfl
  ·exact ih u hu
theorem flatK_one(l:List Chi):∀ u∈flatK l,u.oneCell'=true:=by
 induction l with
 | nil=>intro u hu;cases hu
 | cons x l ih =>
  intro u hu
  simp only[flatK,List.mem_cons] at hu
  rcases hu with rfl | rfl | rfl | rfl | rfl | hu
  ·rfl
  ·rfl
  ·rfl
  ·rfl
  ·rfl
  ·exact ih u hu
theorem flatG_at(l:List Gl)(i:Nat)(h:i<l.length):(flatG l)[i*3]? = some (.int .i64 l[i].at')∧(flatG l)[i*3+1]? = some (.int .i64 l[i].cut)∧(flatG l)[i*3+2]? = some (.int .i64 l[i].next):=by
 induction l generalizing i with
 | nil=>cases h
 | cons x l ih =>
  cases i with
  | zero=>exact⟨rfl,rfl,rfl⟩
  | succ i =>
   have:=ih i (by simpa using h)
   rw[show (i+1)*3=i*3+1+1+1 by omega]
   exact this
theorem flatK_at(l:List Chi)(i:Nat)(h:i<l.length):(flatK l)[i*5]? = some (.int .i64 l[i].goal)∧(flatK l)[i*5+1]? = some (.int .i64 l[i].clause)∧(flatK l)[i*5+2]? = some (.int .i64 l[i].heap)∧(flatK l)[i*5+3]? = some (.int .i64 l[i].trail)∧(flatK l)[i*5+4]? = some (.int .i64 l[i].goals):=by
 induction l generalizing i with
 | nil=>cases h
 | cons x l ih =>
  cases i with
  | zero=>exact⟨rfl,rfl,rfl,rfl,rfl⟩
  | succ i =>
   have:=ih i (by simpa using h)
   rw[show (i+1)*5=i*5+1+1+1+1+1 by omega]
   exact this
theorem flatG_take(l:List Gl)(k:Nat):flatG (l.take k)=(flatG l).take (k*3):=by
 induction l generalizing k with
 | nil=>simp[flatG]
 | cons x l ih =>
  cases k with
  | zero=>simp[flatG]
  | succ k=>rw[show (k+1)*3=k*3+1+1+1 by omega,List.take_succ_cons];simp only[flatG,List.take_succ_cons,ih]
theorem flatK_take(l:List Chi)(k:Nat):flatK (l.take k)=(flatK l).take (k*5):=by
 induction l generalizing k with
 | nil=>simp[flatK]
 | cons x l ih =>
  cases k with
  | zero=>simp[flatK]
  | succ k=>rw[show (k+1)*5=k*5+1+1+1+1+1 by omega,List.take_succ_cons];simp only[flatK,List.take_succ_cons,ih]
structure RwAt(w:World)(ok:Nat→Prop)(k n:Nat)(vs:List Value)(a:Option Addr)(cap:Nat):Prop where
 cap:n≤cap∧cap≤maxLen∧(a=none→cap=0)
 len:vs.length=n*k
 at':∀ j (u:Value),vs[j]? = some u→∃ b off,a=some ⟨b,off,none⟩∧ok b∧b<w.heap.size∧w.cell? ⟨b,off+j,none⟩=some u
section
variable {w w':World} {ok ok':Nat→Prop} {k n:Nat} {vs:List Value} {a:Option Addr} {cap:Nat}
theorem RwAt.keep(h:RwAt w ok k n vs a cap)(hk:Keeps ok w w'):RwAt w' ok k n vs a cap :=
 ⟨h.cap,h.len,fun j u hu=>by
  obtain⟨b,off,h1,h2,h3,h4⟩:=h.at' j u hu
  exact⟨b,off,h1,h2,Nat.lt_of_lt_of_le h3 hk.size,(hk.cell (p:=⟨b,_,none⟩) h2 h3).trans h4⟩⟩
theorem RwAt.mono(hm:∀ b,b<w.heap.size→ok b→ok' b)(h:RwAt w ok k n vs a cap):RwAt w ok' k n vs a cap :=
 ⟨h.cap,h.len,fun j u hu=>by
  obtain⟨b,off,h1,h2,h3,h4⟩:=h.at' j u hu
  exact⟨b,off,h1,hm b h3 h2,h3,h4⟩⟩
theorem RwAt.below(h:RwAt w ok k n vs a cap)(hb:Below w.heap.size w w'):RwAt w' ok k n vs a cap:=h.keep (Keeps.below hb ok)
theorem RwAt.nil(w:World)(ok:Nat→Prop)(k:Nat):RwAt w ok k 0 [] none 0:=⟨⟨Nat.le_refl _,Nat.zero_le _,fun _=>rfl⟩,by simp,fun j u hu=>by cases hu⟩
theorem RwAt.news{ad:Addr}(h:RwAt w ok k n vs (some ad) cap):∀ j u,vs[j]? = some u→w.cell? (ad.add j)=some u:=fun j u hu=>by
 obtain⟨b,off,h1,h2,h3,h4⟩:=h.at' j u hu
 cases h1
 rw[addr_add];exact h4
theorem RwAt.none(h:RwAt w ok k n vs Option.none cap):n=0∧vs = []∧cap=0:=by
 have h1:=h.cap.2.2 rfl
 have h2:n=0:=by have:=h.cap.1;omega
 exact⟨h2,List.eq_nil_of_length_eq_zero (by rw[h.len,h2,Nat.zero_mul]),h1⟩
theorem RwAt.some(h:RwAt w ok k n vs a cap)(hk:0<k)(hn:0<n):∃ b off,a=Option.some ⟨b,off,Option.none⟩∧ok b∧b<w.heap.size∧∀ j u,vs[j]? = Option.some u→w.cell? ⟨b,off+j,Option.none⟩=Option.some u:=by
 have hl:0<vs.length:=by rw[h.len];exact Nat.mul_pos hn hk
 obtain⟨b,off,h1,h2,h3,_⟩:=h.at' 0 vs[0] (List.getElem?_eq_getElem hl)
 refine⟨b,off,h1,h2,h3,fun j u hu=>?_⟩
 obtain⟨b',off',e1,_,_,e4⟩:=h.at' j u hu
 rw[h1] at e1
 cases e1
 exact e4
theorem RwAt.of_row{base:Nat}{e:TypeId}{v:Value}(h:w.ownsRow base e k v n vs)(hl:vs.length=n*k)(hok:∀ b,v.ownBlock=Option.some b→ok b):∃ a cap,v=.slice a n cap∧RwAt w ok k n vs a cap:=by
 rcases h.2 with ⟨rfl,hn⟩ | ⟨g,cap,cur,rfl,hb,hg,hcap,hml,hsz,htk⟩
 ·subst hn
  have:vs = []:=List.eq_nil_of_length_eq_zero (by rw[hl,Nat.zero_mul])
  subst this
  exact⟨Option.none,0,rfl,RwAt.nil _ _ _⟩
 ·refine⟨_,cap,rfl,⟨hcap,hml,fun e=>nomatch e⟩,hl,fun j u hu=>?_⟩
  have hlt:g<w.heap.size:=(h.lt g rfl).2
  have:=h.cells (g:=g) rfl j u hu
  rw[addr_add,Nat.zero_add] at this
  exact⟨g,0,rfl,hok g rfl,hlt,by rw[Nat.zero_add];exact this⟩
end
structure MAd where
 h:Option Addr
 g:Option Addr
 c:Option Addr
 t:Option Addr
 q:Option Addr
 a:Option Addr
 hn:Nat
 gn:Nat
 cn:Nat
 tn:Nat
 qn:Nat
 an:Nat
def Mac.vals(m:Mac)(d:MAd):List Value :=
 [.slice d.h m.H.length d.hn,.slice d.g m.G.length d.gn,.int .i64 m.first,.slice d.c m.ch.length d.cn,.slice d.t m.T.length d.tn,.slice d.q m.Q.length d.qn,.int .i64 m.steps,.int .i64 m.fin,.slice d.a m.ans.length d.an]
structure MacAt(w:World)(ok:Nat→Prop)(m:Mac)(d:MAd):Prop where
 h:HpAt w ok m.H d.h d.hn
 g:RwAt w ok 3 m.G.length (flatG m.G) d.g d.gn
 c:RwAt w ok 5 m.ch.length (flatK m.ch) d.c d.cn
 t:IsAt w ok m.T d.t d.tn
 q:IsAt w ok m.Q d.q d.qn
 a:AsAt w ok m.ans d.a d.an
theorem MacAt.keep{w w':World}{ok:Nat→Prop}{m:Mac}{d:MAd}(h:MacAt w ok m d)(hk:Keeps ok w w'):MacAt w' ok m d :=
 ⟨h.h.keep hk,h.g.keep hk,h.c.keep hk,h.t.keep hk,h.q.keep hk,h.a.keep hk⟩
theorem MacAt.mono{w:World}{ok ok':Nat→Prop}{m:Mac}{d:MAd}(hm:∀ b,b<w.heap.size→ok b→ok' b)(h:MacAt w ok m d):MacAt w ok' m d :=
 ⟨h.h.mono hm,h.g.mono hm,h.c.mono hm,h.t.mono hm,h.q.mono hm,h.a.mono hm⟩
structure MBox(w:World)(b:Nat)(m:Mac)(d:MAd):Prop where
 blk:w.heap[b]? = some (.cells (m.vals d).toArray 30 (0,0))
theorem MBox.lt{w:World}{b:Nat}{m:Mac}{d:MAd}(h:MBox w b m d):b<w.heap.size:=(Array.getElem?_eq_some_iff.1 h.blk).1
theorem MBox.keep{w w':World}{b:Nat}{m:Mac}{d:MAd}(h:MBox w b m d)(hb:w'.heap[b]? = w.heap[b]?):MBox w' b m d:=⟨hb.trans h.blk⟩
theorem MBox.below{w w':World}{b:Nat}{m:Mac}{d:MAd}(h:MBox w b m d)(hb:Below w.heap.size w w'):MBox w' b m d:=h.keep (hb.block b h.lt)
theorem MBox.made(w:World)(m:Mac)(d:MAd):MBox (w.alloc (.cells (m.vals d).toArray 30)) w.heap.size m d:=⟨heap_alloc_new w _⟩
theorem MBox.all{w:World}{b:Nat}{m:Mac}{d:MAd}(h:MBox w b m d) :
 w.cell? ⟨b,0,none⟩=some (.slice d.h m.H.length d.hn)∧w.cell? ⟨b,1,none⟩=some (.slice d.g m.G.length d.gn)∧w.cell? ⟨b,2,none⟩=some (.int .i64 m.first)∧w.cell? ⟨b,3,none⟩=some (.slice d.c m.ch.length d.cn)∧w.cell? ⟨b,4,none⟩=some (.slice d.t m.T.length d.tn) ∧
 w.cell? ⟨b,5,none⟩=some (.slice d.q m.Q.length d.qn)∧w.cell? ⟨b,6,none⟩=some (.int .i64 m.steps)∧w.cell? ⟨b,7,none⟩=some (.int .i64 m.fin)∧w.cell? ⟨b,8,none⟩=some (.slice d.a m.ans.length d.an)∧∀ o,w.frozen? ⟨b,o,none⟩=false:=by
 have h':=h.blk
 exact⟨by simp[World.cell?,h',Mac.vals],by simp[World.cell?,h',Mac.vals],by simp[World.cell?,h',Mac.vals],by simp[World.cell?,h',Mac.vals],by simp[World.cell?,h',Mac.vals],by simp[World.cell?,h',Mac.vals],by simp[World.cell?,h',Mac.vals],by simp[World.cell?,h',Mac.vals],by simp[World.cell?,h',Mac.vals],fun o=>by simp[World.frozen?,h']⟩
def InH(n:Nat)(x:Int):Prop:=0≤x∧x<(n:Int)
instance (n:Nat) (x:Int):Decidable (InH n x):=inferInstanceAs (Decidable (_∧_))
def CellIn(H:List HC)(i:Nat):Prop:=((hc H i).k=1→InH H.length (hc H i).n)∧((hc H i).k=2→(i:Int)+(hc H i).n<(H.length:Int))
structure There(H:List HC)(G:List Gl)(T Q:List Int):Prop where
 cells:∀ i,i<H.length→CellIn H i
 goals:∀ g,g∈G→InH H.length g.at'
 trail:∀ x,x∈T→InH H.length x
 query:∀ x,x∈Q→InH H.length x
noncomputable def pd(p:Prop):Bool:=@decide p (Classical.propDecidable p)
theorem pd_true{p:Prop}(h:p):pd p=true:=@decide_eq_true p (Classical.propDecidable p) h
theorem pd_false{p:Prop}(h:¬ p):pd p=false:=@decide_eq_false p (Classical.propDecidable p) h
noncomputable def thereB(m:Mac):Bool:=pd (There m.H m.G m.T m.Q)
def unbind(top:Int):List Int→List HC→List HC
 | [],H=>H
 | x::r,H=>unbind top r (if x<top then H.set x.toNat ⟨1,x,⟨#[]⟩⟩ else H)
theorem unbind_length(top:Int):∀ (l:List Int) (H:List HC),(unbind top l H).length=H.length:=by
 intro l
 induction l with
 | nil=>intro H;rfl
 | cons x r ih=>intro H;simp only[unbind];rw[ih];split <;> simp
def undoM(m:Mac)(c:Chi):Mac:={ m with H:=(unbind c.heap (m.T.drop c.trail.toNat) m.H).take c.heap.toNat,T:=m.T.take c.trail.toNat,G:=m.G.take c.goals.toNat }
def Lasting:List Chi→Mac→Prop
 | [],_=>True
 | c::r,m=>There (undoM m c).H (undoM m c).G (undoM m c).T (undoM m c).Q∧Lasting r (undoM m c)
structure ChoiceOk(np ng nh nt:Nat)(was c:Chi):Prop where
 goal:1≤c.goal∧c.goal≤(ng:Int)
 clause:0≤c.clause∧c.clause≤(np:Int)
 heap:was.heap≤c.heap∧c.heap≤(nh:Int)
 trail:was.trail≤c.trail∧c.trail≤(nt:Int)
 goals:was.goals≤c.goals∧c.goals≤(ng:Int)
 own:c.goal≤c.goals
def ChoicesOk(np ng nh nt:Nat):Chi→List Chi→Prop
 | _,[]=>True
 | was,c::r=>ChoiceOk np ng nh nt was c∧ChoicesOk np ng nh nt c r
def zeroChi:Chi:=⟨0,0,0,0,0⟩
def GoalsOk(G:List Gl):Prop:=∀ i (h:i<G.length),0≤G[i].next∧G[i].next≤(i:Int)∧0≤G[i].cut
def RangeOk(m:Mac):Prop:=(0≤m.steps∧m.steps≤400)∧0≤m.fin∧m.fin≤4
noncomputable def checkM(p:List Cl)(m:Mac):Nat :=
 if programE p≠0 then programE p else if checkH m.H≠0 then checkH m.H
 else if 5000<m.G.length∨12<m.Q.length then 2
 else if thereB m=false then 5
 else if pd (GoalsOk m.G)=false then 4
 else if ¬ (0≤m.first∧m.first≤(m.G.length:Int)) then 4
 else if pd (ChoicesOk p.length m.G.length m.H.length m.T.length zeroChi m.ch)=false then 4
 else if pd (Lasting m.ch.reverse m)=false then 4
 else if pd (RangeOk m)=false then 3 else 0
set_option maxRecDepth 100000 in
set_option maxHeartbeats 400000 in
theorem withinW(n lo hi:Int)(w:World) :
 Calls Try.prog 53 #[.int .i64 n,.int .i64 lo,.int .i64 hi] w fun e w'=>e=.returned (.bool (betw n lo hi))∧w=w':=by
 go_enter Try.func53,Try.ntmps53
 go_wp2_with fail
 all_goals
  go_ret
  refine⟨ret_betw n lo hi _ ?_,rfl⟩
  simp <;> omega
theorem betw_inH(n:Nat)(x:Int):betw x 0 ((n:Int)-1)=decide (InH n x):=by
 unfold betw InH
 exact decide_eq_decide.2 (by omega)
set_option maxRecDepth 100000 in
set_option maxHeartbeats 400000 in
theorem NoW(B n cap:Nat)(a:Option Addr)(x:Int)(w:World)(h:w.cell? ⟨B,0,none⟩=some (.slice a n cap))(hn:n≤9223372036854775807) :
 Calls Try.prog 79 #[.int .i64 x,.pointer (some ⟨B,0,none⟩)] w fun e w'=>e=.returned (.bool (!decide (InH n x)))∧w'=w:=by
 have hb:=betw_inH n x
 go_enter Try.func79,Try.ntmps79
 go_wp2_with (go_at_call 53;refine(withinW _ _ _ _).mono ?_;rintro e w1 ⟨rfl,rfl⟩)
 go_ret
 refine⟨?_,rfl⟩
 rw[← hb]
 rfl
structure NoAt(w:World)(B B3 n cap:Nat)(a:Option Addr):Prop where
 mac:w.cell? ⟨B,0,none⟩=some (.slice a n cap)
 fn:w.cell? ⟨B3,0,none⟩=some (.func (.func 79) #[] #[.pointer (some ⟨B,0,none⟩)])
 lt:B<w.heap.size∧B3<w.heap.size
theorem NoAt.below{w w':World}{B B3 n cap:Nat}{a:Option Addr}(h:NoAt w B B3 n cap a)(hb:Below w.heap.size w w'):NoAt w' B B3 n cap a :=
 ⟨(hb.cell (p:=⟨B,0,none⟩) h.lt.1).trans h.mac,(hb.cell (p:=⟨B3,0,none⟩) h.lt.2).trans h.fn,Nat.lt_of_lt_of_le h.lt.1 hb.size,Nat.lt_of_lt_of_le h.lt.2 hb.size⟩
set_option maxRecDepth 100000 in
set_option maxHeartbeats 400000 in
theorem No2W{B B3 n cap:Nat}{a:Option Addr}(g:Gl){w:World}(h:NoAt w B B3 n cap a)(hn:n≤9223372036854775807) :
 Calls Try.prog 81 #[.agg #[.int .i64 g.at',.int .i64 g.cut,.int .i64 g.next],.pointer (some ⟨B3,0,none⟩)] w fun e w'=>e=.returned (.bool (!decide (InH n g.at')))∧Below w.heap.size w w':=by
 have hB:Below w.heap.size w (w.alloc (.cells #[.int .i64 g.at',.int .i64 g.cut,.int .i64 g.next] 65)):=(Below.refl _ _).alloc (Nat.le_refl _) _
 have H2:=lh (h.below hB)
 have HB:=lh hB
 obtain⟨m0,f0,-⟩:=h.below hB
 clear h hB
 go_enter Try.func81,Try.ntmps81
 go_wp2_with (go_at_call 79;refine(NoW B n cap a _ _ H2.out.mac hn).mono ?_;rintro e w1 ⟨rfl,rfl⟩)
 go_ret
 exact⟨rfl,HB.out⟩
set_option maxRecDepth 100000 in
set_option maxHeartbeats 400000 in
theorem IndexIntsW{B B3 n cap:Nat}{a:Option Addr}(l:List Int){w:World}{ok:Nat→Prop}{a2:Option Addr}{c2:Nat}(hl:IsAt w ok l a2 c2)(h:NoAt w B B3 n cap a)(hn:n≤9223372036854775807) :
 Calls Try.prog 109 #[.slice a2 l.length c2,.func (.func 79) #[] #[.pointer (some ⟨B,0,none⟩)]] w fun e w'=>(∃ r:Int,e=.returned (.int .i64 r)∧((r = -1∧∀ x,x∈l→InH n x)∨(0≤r∧∃ x,x∈l∧¬ InH n x)))∧w'=w:=by
 have HL:=lh hl
 have HN:=lh h
 have hcl:l.length≤9223372036854775807:=by have:=hl.cap;unfold maxLen at this;omega
 clear hl h
 go_enter Try.func109,Try.ntmps109
 go_wp2_with fail
 go_loopw[8] (fun x8 wr=>∃ i:Nat,i≤l.length∧x8=.int .i64 i∧wr=w∧Hid (∀ j (hj:j<l.length),j<i→InH n l[j])) (fun x8 _=>l.length-(intOf x8).toNat)
 case atStart=>exact⟨0,Nat.zero_le _,rfl,rfl,lh fun j _ h=>absurd h (Nat.not_lt_zero j)⟩
 case round =>
  obtain⟨i,hi,rfl,rfl,HI⟩:=hrel
  by_cases hlt:i<l.length
  ·obtain⟨b,off,rfl,-,hb,hc⟩:=HL.out.at' i hlt
   by_cases hx:InH n l[i]
   ·have hd:(!decide (InH n l[i]))=false:=by rw[decide_eq_true hx];rfl
    have HI2:Hid (∀ j (hj:j<l.length),j<i+1→InH n l[j]):=lh fun j hj h=>by
     by_cases e:j=i
     ·subst e;exact hx
     ·exact HI.out j hj (by omega)
    clear hx
    go_wp2_with (go_at_call 79;refine(NoW B n cap a _ _ HN.out.mac hn).mono ?_;rintro e w1 ⟨rfl,rfl⟩)
    go_roundw
    case measure=>simp only[intOf];omega
    case rel=>exact⟨i+1,by omega,by go_num,by trivial,HI2⟩
   ·have hd:(!decide (InH n l[i]))=true:=by rw[decide_eq_false hx];rfl
    have HX:Hid (∃ x,x∈l∧¬ InH n x):=lh ⟨_,List.getElem_mem hlt,hx⟩
    clear hx
    go_wp2_with (go_at_call 79;refine(NoW B n cap a _ _ HN.out.mac hn).mono ?_;rintro e w1 ⟨rfl,rfl⟩)
    go_ret
    exact⟨⟨_,rfl,.inr ⟨by omega,HX.out⟩⟩,rfl⟩
  ·have HX:Hid (∀ x,x∈l→InH n x):=lh fun x hx=>by
    obtain⟨j,hj,rfl⟩:=List.getElem_of_mem hx
    exact HI.out j hj (by omega)
   go_wp2_with fail
   go_ret
   exact⟨⟨_,rfl,.inl ⟨rfl,HX.out⟩⟩,rfl⟩
set_option maxRecDepth 100000 in
set_option maxHeartbeats 400000 in
theorem HasIntsW{B B3 n cap:Nat}{a:Option Addr}(l:List Int){w:World}{ok:Nat→Prop}{a2:Option Addr}{c2:Nat}(hl:IsAt w ok l a2 c2)(h:NoAt w B B3 n cap a)(hn:n≤9223372036854775807) :
 Calls Try.prog 82 #[.slice a2 l.length c2,.func (.func 79) #[] #[.pointer (some ⟨B,0,none⟩)]] w fun e w'=>e=.returned (.bool (!pd (∀ x,x∈l→InH n x)))∧w'=w:=by
 have HI:=lh (IndexIntsW l hl h hn)
 go_enter Try.func82,Try.ntmps82
 go_wp2_with (go_at_call 109;refine HI.out.mono ?_;rintro e w1 ⟨⟨r,rfl,hr⟩,rfl⟩)
 go_ret
 refine⟨?_,rfl⟩
 rcases hr with ⟨rfl,h1⟩ | ⟨h0,x,hx,h1⟩
 ·rw[pd_true h1];rfl
 ·rw[pd_false fun e=>h1 (e x hx)]
  refine congrArg (fun b=>Ending.returned (.bool b)) ?_
  simpa using h0
set_option maxRecDepth 100000 in
set_option maxHeartbeats 400000 in
theorem IndexGoalsW{B B3 n cap:Nat}{a:Option Addr}(l:List Gl){w:World}{ok:Nat→Prop}{a2:Option Addr}{c2:Nat}(hl:RwAt w ok 3 l.length (flatG l) a2 c2)(h:NoAt w B B3 n cap a)(hn:n≤9223372036854775807) :
 Calls Try.prog 108 #[.slice a2 l.length c2,.func (.func 81) #[] #[.pointer (some ⟨B3,0,none⟩)]] w fun e w'=>(∃ r:Int,e=.returned (.int .i64 r)∧((r = -1∧∀ x,x∈l→InH n x.at')∨(0≤r∧∃ x,x∈l∧¬ InH n x.at')))∧Below w.heap.size w w':=by
 have HL:=lh hl
 have HN:=lh h
 have hcl:l.length≤9223372036854775807:=by have:=hl.cap;unfold maxLen at this;omega
 clear hl h
 go_enter Try.func108,Try.ntmps108
 go_wp2_with fail
 go_loopw[8] (fun x8 wr=>∃ i:Nat,i≤l.length∧x8=.int .i64 i∧Hid (Below w.heap.size w wr)∧Hid (∀ j (hj:j<l.length),j<i→InH n l[j].at')) (fun x8 _=>l.length-(intOf x8).toNat)
 case atStart=>exact⟨0,Nat.zero_le _,rfl,lh (Below.refl _ _),lh fun j _ h=>absurd h (Nat.not_lt_zero j)⟩
 case round =>
  obtain⟨i,hi,rfl,HB,HI⟩:=hrel
  by_cases hlt:i<l.length
  ·obtain⟨b,off,rfl,-,hb,hc⟩:=(HL.out.mono (ok':=fun _=>True) fun _ _ _=>trivial).some (by decide) (Nat.lt_of_le_of_lt (Nat.zero_le _) hlt)
   obtain⟨g0,g1,g2⟩:=flatG_at l i hlt
   have c0:=(HB.out.cell (p:=⟨b,off+i*3,none⟩) hb).trans (hc _ _ g0)
   have c1:wr.cell? ⟨b,off+i*3+1,none⟩=_:=(HB.out.cell (p:=⟨b,off+(i*3+1),none⟩) hb).trans (hc _ _ g1)
   have c2:wr.cell? ⟨b,off+i*3+2,none⟩=_:=(HB.out.cell (p:=⟨b,off+(i*3+2),none⟩) hb).trans (hc _ _ g2)
   have HC:=lh (No2W l[i] (HN.out.below HB.out) hn)
   clear g0 g1 g2 hc
   by_cases hx:InH n l[i].at'
   ·rw[decide_eq_true hx] at HC
    have HI2:Hid (∀ j (hj:j<l.length),j<i+1→InH n l[j].at'):=lh fun j hj h=>by
     by_cases e:j=i
     ·subst e;exact hx
     ·exact HI.out j hj (by omega)
    clear hx
    go_wp2_with (go_at_call 81;refine HC.out.mono ?_;rintro e w1 ⟨rfl,hb1⟩;have HB1:=lh (HB.out.trans (hb1.mono HB.out.size));clear hb1)
    go_roundw
    case measure=>simp only[intOf];omega
    case rel=>exact⟨i+1,by omega,by go_num,HB1,HI2⟩
   ·rw[decide_eq_false hx] at HC
    have HX:Hid (∃ x,x∈l∧¬ InH n x.at'):=lh ⟨_,List.getElem_mem hlt,hx⟩
    clear hx
    go_wp2_with (go_at_call 81;refine HC.out.mono ?_;rintro e w1 ⟨rfl,hb1⟩;have HB1:=lh (HB.out.trans (hb1.mono HB.out.size));clear hb1)
    go_ret
    exact⟨⟨_,rfl,.inr ⟨by omega,HX.out⟩⟩,HB1.out⟩
  ·have HX:Hid (∀ x,x∈l→InH n x.at'):=lh fun x hx=>by
    obtain⟨j,hj,rfl⟩:=List.getElem_of_mem hx
    exact HI.out j hj (by omega)
   go_wp2_with fail
   go_ret
   exact⟨⟨_,rfl,.inl ⟨rfl,HX.out⟩⟩,HB.out⟩
set_option maxRecDepth 100000 in
set_option maxHeartbeats 400000 in
theorem HasGoalsW{B B3 n cap:Nat}{a:Option Addr}(l:List Gl){w:World}{ok:Nat→Prop}{a2:Option Addr}{c2:Nat}(hl:RwAt w ok 3 l.length (flatG l) a2 c2)(h:NoAt w B B3 n cap a)(hn:n≤9223372036854775807) :
 Calls Try.prog 80 #[.slice a2 l.length c2,.func (.func 81) #[] #[.pointer (some ⟨B3,0,none⟩)]] w fun e w'=>e=.returned (.bool (!pd (∀ x,x∈l→InH n x.at')))∧Below w.heap.size w w':=by
 have HI:=lh (IndexGoalsW l hl h hn)
 go_enter Try.func80,Try.ntmps80
 go_wp2_with (go_at_call 108;refine HI.out.mono ?_;rintro e w1 ⟨⟨r,rfl,hr⟩,hb1⟩;have HB1:=lh hb1;clear hb1)
 go_ret
 refine⟨?_,HB1.out⟩
 rcases hr with ⟨rfl,h1⟩ | ⟨h0,x,hx,h1⟩
 ·rw[pd_true h1];rfl
 ·rw[pd_false fun e=>h1 (e x hx)]
  refine congrArg (fun b=>Ending.returned (.bool b)) ?_
  simpa using h0
structure BkI(p:List Cl)(S:MS)(P:PS):Prop where
 ch:ChR p P.vars S S.ch.reverse P.ch.reverse
 fin:S.fin=0∧P.fin=0
 same:S.steps=P.steps∧S.ans=P.ans
 weak:∃ P0,Core p S P0
 room:S.H.length+833≤400000∧S.G.length+6≤5000
 tr:S.T.length≤100000000
 chb:S.ch.length≤100000000
structure BackOne(p:List Cl)(S:MS)(k:Nat)(c:Cn)(S1:MS):Prop where
 at':S.ch[k]? = some c
 within:Within S c
 is:S1 = { undoS { S with ch:=S.ch.take k } c with first:=c.goal,f:=4000 }
 call:∃ P1 gs t,CallIn p S1 P1 c.goal gs t
 fn:(hc S1.H (goalEnd S1 c.goal)).k=2
 num:1≤c.goal∧c.goal≤S1.G.length∧(gn S1 (c.goal-1)).at'<S1.H.length
 heap:HInv S1.H
 cl:c.clause≤p.length
 room:S1.H.length+833≤400000∧S1.G.length+6≤5000
 tr:S1.T.length≤100000000
 chb:S1.ch.length≤100000000
 eq:mback p (k+1) S=if (mcall p c.goal c.clause S1).2=true then (mcall p c.goal c.clause S1).1 else mback p k (mcall p c.goal c.clause S1).1
 next:(mcall p c.goal c.clause S1).2=false→(∃ P2,BkI p (mcall p c.goal c.clause S1).1 P2)∧(mcall p c.goal c.clause S1).1.ch.length=k
theorem back_one{p:List Cl}(hp:∀ c,c∈p→ClG c){k:Nat}{S:MS}{P:PS}(h:BkI p S P)(hk:S.ch.length=k+1):∃ c S1,BackOne p S k c S1:=by
 obtain⟨hch,hf,hs,hw,hroom,htr,hchb⟩:=h
 have hlen:=hch.len
 simp only[List.length_reverse] at hlen
 obtain⟨c,hc1⟩:∃ c,S.ch[k]? = some c:=⟨_,List.getElem?_eq_getElem (by omega)⟩
 obtain⟨d,hd1⟩:∃ d,P.ch[k]? = some d:=⟨_,List.getElem?_eq_getElem (by omega)⟩
 have hS:S.ch=S.ch.take (k+1):=by rw[← hk,List.take_length]
 have hP:P.ch=P.ch.take (k+1):=by rw[← hk,hlen,List.take_length]
 rw[hS,hP,rev_take hc1,rev_take hd1] at hch
 obtain⟨⟨w,⟨c1,c2⟩,⟨d1,d2⟩,D,Sc,hsit⟩,hch2⟩:=hch
 obtain⟨S1,hS1⟩:∃ S1:MS,S1 = { undoS { S with ch:=S.ch.take k } c with first:=c.goal,f:=4000 }:=⟨_,rfl⟩
 obtain⟨P1,hP1⟩:∃ P1:PS,P1 = { P with ch:=P.ch.take k,σ:=d.σ,L:=d.L,f:=4000 }:=⟨_,rfl⟩
 have e1:S1.H=(undoS S c).H:=by rw[hS1];rfl
 have e2:S1.T=(undoS S c).T:=by rw[hS1];rfl
 have e3:S1.G=(undoS S c).G:=by rw[hS1];rfl
 have e4:S1.Q=S.Q:=by rw[hS1];rfl
 have e5:S1.ch=S.ch.take k:=by rw[hS1];rfl
 have hl:=undo_len S c
 have hcall:CallIn p S1 P1 c.goal d.gs (look d.σ (headT d.gs)):=by
  refine⟨⟨D,Sc,?_⟩,?_,by rw[hS1],⟨by rw[hS1,hP1],by rw[hS1];exact Nat.le_refl _⟩,d1,⟨by rw[hP1],d2⟩,⟨by rw[hS1];exact hf.1,by rw[hP1];exact hf.2⟩,⟨by rw[hS1,hP1];exact hs.1,by rw[hS1,hP1];exact hs.2⟩⟩
  ·rw[hP1];exact hsit.congr e1 e2 e3 e4
  ·rw[e5,hP1];exact hch2.congr e1 e2 e3 e4
 have hroom1:S1.H.length+833≤400000∧S1.G.length+6≤5000:=by rw[e1,e3];omega
 obtain⟨D',Sc',g,r,hG⟩:=hcall.goal
 have ht:look d.σ (headT d.gs)=look P1.σ g.1:=by rw[hP1,hG.gs];rfl
 have hk2:=((hG.cell ht).2 d2).1
 have hnum:=hG.num
 have htr1:S1.T.length≤100000000:=by rw[e2];omega
 have hchl:S1.ch.length=k:=by rw[e5,List.length_take];omega
 refine⟨c,S1,hc1,w,hS1,⟨P1,_,_,hcall⟩,hk2,⟨hnum.2.1,hnum.2.2.1,hnum.2.2.2⟩,hG.sit.hang.heap,by rw[c1];omega,hroom1,htr1,by omega,mback_some hc1 hS1 hk2,fun hno=>?_⟩
 have hout:=call_sim hp _ d.cl S1 P1 rfl hcall hroom1
 rw[← c1] at hout
 obtain⟨h1,h2,h3⟩:=hout
 obtain⟨q1,q2,q3,q4,q5,q6,q7,q8⟩:=h3 hno
 exact⟨⟨_,⟨q1.ch,q1.fin,q1.same,q1.weak,by rw[q2,q4];exact hroom1,by rw[q3];exact htr1,by rw[q5];omega⟩⟩,by rw[q5];exact hchl⟩
end Go.Proofs.Ytikmgiapjigghab
