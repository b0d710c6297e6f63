/- Walk: the parts of a term, each ahead of its arguments. -/
import Derived.WalkSpells
import Derived.Lib.Hide
import Derived.WalkLawsBesides
import Derived.Test.YtikmgiapjigghabCb01
namespace Go.Proofs.Ytikmgiapjigghab
open Go.RowKit
mutual
def Tm.parts:Tm→List Tm
 | .mk v n l=>.mk v n l::Tm.partss l
def Tm.partss:List Tm→List Tm
 | []=>[]
 | t::r=>t.parts++Tm.partss r
end
theorem Tm.size_le_sizes(l:List Tm)(k:Nat)(h:k<l.length):Tm.sizes (l.take k)+l[k].size≤Tm.sizes l:=by
 rw[← Tm.sizes_take_succ l k h];exact Tm.sizes_take_le l _
theorem Try.infoTm:(Try.prog.info? 71).map (fun i=>(i.zero,i.size,i.bytes))=some (some (.agg #[.int .i64 0,.string ByteArray.empty,.slice none 0 0]),3,48):=by kernel_rfl
theorem Tm.size_arg{v:Int}{n:ByteArray}{l:List Tm}{m:Nat}(h:(Tm.mk v n l).size≤m)(k:Nat)(hk:k<l.length):l[k].size≤m:=by
 have:=Tm.size_le_sizes l k hk
 simp only[Tm.size] at h;omega
theorem size_break(l:List Tm)(k m s:Nat)(v:Int)(n:ByteArray)(h:s=min (1+Tm.sizes (l.take k)) (m+1))(hb:m<s):s=min (Tm.mk v n l).size (m+1):=by
 have:=Tm.sizes_take_le l k
 simp only[Tm.size];omega
theorem size_end(l:List Tm)(k m s:Nat)(v:Int)(n:ByteArray)(h:s=min (1+Tm.sizes (l.take k)) (m+1))(hb:l.length≤k):s=min (Tm.mk v n l).size (m+1):=by
 rw[List.take_of_length_le hb] at h
 simp only[Tm.size];omega
set_option maxRecDepth 100000 in
set_option maxHeartbeats 400000 in
theorem SizeW(t:Tm):∀ (m:Int) (w:World) (ok:Nat→Prop) (a:Option Addr) (cap:Nat),0≤m→m≤1000→Ts w ok t.args a cap →
 Calls Try.prog 97 #[.agg #[.int .i64 t.var,.string t.name,.slice a t.args.length cap],.int .i64 m] w fun e w'=>e=.returned (.int .i64 (min t.size (m.toNat+1):Nat))∧Below w.heap.size w w':=by
 induction t using Tm.ind with
 | h v n l ih =>
  intro m w ok a cap hm0 hm hrd
  obtain⟨m,rfl⟩:=Int.eq_ofNat_of_zero_le hm0
  have IH:=lh ih;clear ih
  simp only[Tm.var,Tm.name,Tm.args] at hrd ⊢
  have HRD:=lh hrd
  have hcap:=hrd.cap
  have hcl:l.length≤9223372036854775807:=by unfold maxLen at hcap;omega
  clear hcap hrd
  go_enter Try.func97,Try.ntmps97
  go_wp2_with fail
  go_loopw[5,11] (fun x i wr=>∃ (k s:Nat),k≤l.length∧i=.int .i64 k∧x=.int .i64 s∧1≤s∧s≤m+1∧Hid (s=min (1+Tm.sizes (l.take k)) (m+1))∧Below w.heap.size w wr∧w.heap.size<wr.heap.size) (fun _ i _=>l.length-(intOf i).toNat)
  case atStart=>exact⟨0,1,Nat.zero_le _,rfl,rfl,by omega,by omega,lh (by simp[Tm.sizes]),(Below.refl _ _).alloc (Nat.le_refl _) _,by simp⟩
  case round =>
   obtain⟨k,s,hk,rfl,rfl,hs1,hs2,HS,hb,hsz⟩:=hrel
   by_cases hlt:k<l.length
   ·obtain⟨b,off,a',cap',rfl,hok,hbs,hc,ht⟩:=HRD.out.at k hlt
    have hcv:=(hb.cell (p:=⟨b,off+k*3,none⟩) hbs).trans hc.var
    have hcn:=(hb.cell (p:=⟨b,off+k*3+1,none⟩) hbs).trans hc.name
    have hca:=(hb.cell (p:=⟨b,off+k*3+2,none⟩) hbs).trans hc.args
    have hmem:l[k]∈l:=List.getElem_mem hlt
    clear hc
    by_cases hbr:m<s
    ·go_wp2_with fail
     go_ret
     refine⟨?_,hb.alloc (Nat.le_of_lt hsz) _⟩
     exact retN (size_break l k m s v n HS.out hbr)
    ·go_wp2_with fail
     refine(IH.out _ hmem _ _ ok a' cap' (by omega) (by omega) (ht.keep ((Keeps.below hb ok).trans (Keeps.below ((Below.refl _ _).alloc (Nat.le_refl _) _) ok)))).mono ?_
     rintro e w' ⟨rfl,hb'⟩
     go_wp2_with fail
     go_roundw
     case rel=>exact⟨k+1,s+min l[k].size (m-s+1),by omega,by go_num,by go_num,by omega,by omega,lh (by rw[HS.out,Tm.sizes_take_succ l k hlt];rw[HS.out] at hbr;omega),(hb.alloc (Nat.le_of_lt hsz) _).trans (hb'.mono (by simp;omega)),by have:=hb'.size;simp at this;omega⟩
     case measure=>simp[intOf];omega
   ·go_wp2_with fail
    go_ret
    refine⟨?_,hb⟩
    exact retN (size_end l k m s v n HS.out (by omega))
end Go.Proofs.Ytikmgiapjigghab
