/- Walks: names of terms. -/
import Derived.WalkSpells
import Derived.Lib.Hide
import Derived.Lib.ConvBytes
import Derived.WalkLawsBesides
import Derived.Test.YtikmgiapjigghabCb01
import Derived.Test.YtikmgiapjigghabCb02
namespace Go.Proofs.Ytikmgiapjigghab
open Go.RowKit
def signB(c:UInt8):Bool:=c == 95 || (97≤c && c≤122) || (48≤c && c≤57)
theorem signB_iff(c:UInt8):signB c=true↔(c.toNat:Int)=95∨(97≤(c.toNat:Int)∧(c.toNat:Int)≤122)∨(48≤(c.toNat:Int)∧(c.toNat:Int)≤57):=by
 unfold signB
 rw[Bool.or_eq_true,Bool.or_eq_true,Bool.and_eq_true,Bool.and_eq_true,beq_iff_eq,decide_eq_true_iff,decide_eq_true_iff,decide_eq_true_iff,decide_eq_true_iff]
 rw[← UInt8.toNat_inj]
 simp only[UInt8.le_iff_toNat_le]
 have e1:(95:UInt8).toNat=95:=rfl
 have e2:(97:UInt8).toNat=97:=rfl
 have e3:(122:UInt8).toNat=122:=rfl
 have e4:(48:UInt8).toNat=48:=rfl
 have e5:(57:UInt8).toNat=57:=rfl
 rw[e1,e2,e3,e4,e5]
 omega
theorem ret_not_sign(c:UInt8)(b:Bool)(h:b=true↔¬ ((c.toNat:Int)=95∨(97≤(c.toNat:Int)∧(c.toNat:Int)≤122)∨(48≤(c.toNat:Int)∧(c.toNat:Int)≤57))):Ending.returned (.bool b)=.returned (.bool (!signB c)):=by
 have h2:=signB_iff c
 cases hs:signB c
 ·rw[hs] at h2
  rw[h.2 (fun h3=>by have:=h2.2 h3;cases this)];rfl
 ·cases b
  ·rfl
  ·exact absurd (h2.1 hs) (h.1 rfl)
set_option maxRecDepth 100000 in
set_option maxHeartbeats 400000 in
theorem Name1W(c:UInt8)(w:World) :
 Calls Try.prog 124 #[.int .u8 (c.toNat:Int)] w fun e w'=>e=.returned (.bool (!signB c))∧w=w':=by
 go_enter Try.func124,Try.ntmps124
 go_wp2_with fail
 all_goals
  go_ret
  refine⟨ret_not_sign c _ ?_,rfl⟩
  simp <;> omega
def badAt(l:List UInt8):Nat:=l.findIdx fun c=>!signB c
def badRet(l:List UInt8):Int:=if badAt l<l.length then (badAt l:Int) else -1
theorem badAt_lt(l:List UInt8)(k:Nat)(h:k<l.length)(hb:k<badAt l):signB l[k]=true:=by
 have:=List.not_of_lt_findIdx (p:=fun c=>!signB c) hb
 simpa[List.getD,h] using this
theorem badAt_eq(l:List UInt8)(k:Nat)(h:k<l.length)(hb:k≤badAt l)(hc:¬ k<badAt l):signB l[k]=false:=by
 have e:badAt l=k:=by omega
 have:=List.findIdx_getElem (p:=fun c=>!signB c) (xs:=l) (w:=by unfold badAt at e;omega)
 unfold badAt at e
 simpa[List.getD,h,e] using this
set_option maxRecDepth 100000 in
set_option maxHeartbeats 400000 in
theorem IndexFuncW(l:List UInt8)(b cap:Nat)(w:World)(hl:l.length≤maxLen)(hc:∀ j,j<l.length→w.cell? ⟨b,j,none⟩=some (.int .u8 (l.getD j 0).toNat)) :
 Calls Try.prog 127 #[.slice (some ⟨b,0,none⟩) l.length cap,.func (.func 124) #[] #[]] w fun e w'=>e=.returned (.int .i64 (badRet l))∧w=w':=by
 have hcl:l.length≤9223372036854775807:=by unfold maxLen at hl;omega
 clear hl
 have HC:=lh hc;clear hc
 go_enter Try.func127,Try.ntmps127
 go_wp2_with fail
 go_loopw[5,8] (fun _ i wr=>∃ k:Nat,k≤l.length∧k≤badAt l∧i=.int .i64 k∧w=wr) (fun _ i _=>l.length-(intOf i).toNat)
 case atStart=>exact⟨0,Nat.zero_le _,Nat.zero_le _,rfl,rfl⟩
 case round =>
  obtain⟨k,hk,hkb,rfl,rfl⟩:=hrel
  by_cases hlt:k<l.length
  ·have hck:=HC.out k hlt
   by_cases hb:k<badAt l
   ·have hs:signB l[k]=true:=badAt_lt l k hlt hb
    go_wp2_with (go_at_call 124;refine(Name1W _ _).mono ?_;rintro e w' ⟨rfl,rfl⟩)
    go_roundw
    case rel=>exact⟨k+1,by omega,by omega,by go_num,trivial⟩
    case measure=>simp[intOf];omega
   ·have hs:signB l[k]=false:=badAt_eq l k hlt hkb hb
    have hb':Hid (badAt l=k):=lh (by omega)
    go_wp2_with (go_at_call 124;refine(Name1W _ _).mono ?_;rintro e w' ⟨rfl,rfl⟩)
    go_ret
    exact⟨retI (by unfold badRet;rw[if_pos (by rw[hb'.out];exact hlt),hb'.out]),rfl⟩
  ·go_wp2_with fail
   go_ret
   exact⟨retI (by unfold badRet;rw[if_neg (by omega)]),rfl⟩
theorem bad_all(l:List UInt8):badAt l<l.length↔l.all signB=false:=by
 unfold badAt
 rw[List.findIdx_lt_length,List.all_eq_false]
 constructor
 ·rintro ⟨x,hx,h⟩;exact⟨x,hx,by simpa using h⟩
 ·rintro ⟨x,hx,h⟩;exact⟨x,hx,by simpa using h⟩
set_option maxRecDepth 100000 in
set_option maxHeartbeats 400000 in
theorem ContainsFuncW(l:List UInt8)(b cap:Nat)(w:World)(hl:l.length≤maxLen)(hc:∀ j,j<l.length→w.cell? ⟨b,j,none⟩=some (.int .u8 (l.getD j 0).toNat)) :
 Calls Try.prog 123 #[.slice (some ⟨b,0,none⟩) l.length cap,.func (.func 124) #[] #[]] w fun e w'=>e=.returned (.bool (!l.all signB))∧w=w':=by
 have HC:=lh hc;clear hc
 have hba:=lh (bad_all l)
 by_cases hb:badAt l<l.length
 ·have hr:badRet l=(badAt l:Int):=by unfold badRet;rw[if_pos hb]
  have ha:Hid (l.all signB=false):=lh ((bad_all l).1 hb)
  clear hb
  go_enter Try.func123,Try.ntmps123
  go_wp2_with (go_at_call 127;refine(IndexFuncW l _ _ _ hl HC.out).mono ?_;rintro e w' ⟨rfl,rfl⟩)
  go_ret
  exact⟨retB (by rw[ha.out];simp),rfl⟩
 ·have hr:badRet l = -1:=by unfold badRet;rw[if_neg hb]
  have ha:Hid (l.all signB=true):=lh (by
   cases h:l.all signB
   ·exact absurd ((bad_all l).2 h) hb
   ·rfl)
  clear hb
  go_enter Try.func123,Try.ntmps123
  go_wp2_with (go_at_call 127;refine(IndexFuncW l _ _ _ hl HC.out).mono ?_;rintro e w' ⟨rfl,rfl⟩)
  go_ret
  exact⟨retB (by rw[ha.out];simp),rfl⟩
def nameB(s:ByteArray):Bool :=
 s.toList == [33] || (decide (1≤s.size) && decide (s.size≤8) && decide (97≤(s.data.toList.getD 0 0).toNat) && decide ((s.data.toList.getD 0 0).toNat≤122) && s.data.toList.all signB)
theorem conv_some(w:World)(s:ByteArray):∃ (c:Nat) (w1:World),(convert 9 152 (.string s)).run Try.prog w=.ok (.slice (some ⟨w.heap.size,0,none⟩) s.size c) w1∧Below w.heap.size w w1 ∧
 ∀ j,j<s.data.toList.length→w1.cell? ⟨w.heap.size,j,none⟩=some (.int .u8 (s.data.toList.getD j 0).toNat) :=
 ⟨_,_,Lib.run_convert_string_bytes w 9 152 5 s Try.underlying9 Try.underlying152 Try.underlying5,
  ⟨rfl,rfl,rfl,by rw[Lib.bytesWorld_size];omega,fun k hk=>Lib.bytesWorld_at_old w 5 s k hk⟩,
  fun j hj=>Lib.bytesWorld_cell w 5 s j (by simpa using hj)⟩
theorem emptyB(s:ByteArray)(h:s.size=0):s=ByteArray.empty:=ByteArray.ext (Array.eq_empty_of_size_eq_zero h)
theorem head0(s:ByteArray)(h:0<s.size):s.data.toList.getD 0 0=s[0]:=by
 have h':0<s.data.toList.length:=by simpa using h
 rw[List.getD_eq_getElem?_getD,List.getElem?_eq_getElem h'];rfl
theorem nameB_33(s:ByteArray)(h:(s.toList == [33])=true):true=nameB s:=by unfold nameB;rw[h];rfl
theorem nameB_0(s:ByteArray)(h:(s.toList == [33])=false)(h0:¬ 0<s.size):false=nameB s:=by
 unfold nameB;rw[h,decide_eq_false (by omega:¬ 1≤s.size)];rfl
theorem nameB_9(s:ByteArray)(h:(s.toList == [33])=false)(h0:8<s.size):false=nameB s:=by
 unfold nameB;rw[h,decide_eq_false (by omega:¬ s.size≤8)];simp
theorem nameB_lo(s:ByteArray)(h:(s.toList == [33])=false)(h0:0<s.size)(hf:s[0].toNat<97):false=nameB s:=by
 unfold nameB;rw[h,head0 s h0,decide_eq_false (by omega:¬ 97≤s[0].toNat)];simp
theorem nameB_hi(s:ByteArray)(h:(s.toList == [33])=false)(h0:0<s.size)(hf:122<s[0].toNat):false=nameB s:=by
 unfold nameB;rw[h,head0 s h0,decide_eq_false (by omega:¬ s[0].toNat≤122)];simp
theorem nameB_all(s:ByteArray)(x:Bool)(h:(s.toList == [33])=false)(h0:0<s.size)(h8:s.size≤8)(hf:97≤s[0].toNat)(hg:s[0].toNat≤122)(hx:x=s.data.toList.all signB):x=nameB s:=by
 unfold nameB;rw[h,head0 s h0,decide_eq_true hf,decide_eq_true hg,decide_eq_true h8,decide_eq_true (by omega:1≤s.size),hx];simp
set_option maxRecDepth 100000 in
set_option maxHeartbeats 400000 in
theorem NameW(s:ByteArray)(w:World)(hs:s.size≤maxLen) :
 Calls Try.prog 117 #[.string s] w fun e w'=>e=.returned (.bool (nameB s))∧Below w.heap.size w w':=by
 by_cases h33:(s.toList == [33])=true
 ·have H:=lh (nameB_33 s h33)
  go_enter Try.func117,Try.ntmps117
  go_wp2_with fail
  go_ret
  exact⟨retB H.out,Below.refl _ _⟩
 have h34:(s.toList == [33])=false:=Bool.eq_false_iff.2 h33
 clear h33
 by_cases h0:0<s.size
 ·have hz:((s.size:Int) == 0)=false:=by rw[beq_eq_false_iff_ne];omega
  have hne:¬ s=ByteArray.empty:=by rintro rfl;simp at h0
  by_cases h8:8<s.size
  ·have H:=lh (nameB_9 s h34 h8)
   go_enter Try.func117,Try.ntmps117
   go_wp2_with fail
   go_ret
   exact⟨retB H.out,Below.refl _ _⟩
  ·by_cases hlo:s[0].toNat<97
   ·have H:=lh (nameB_lo s h34 h0 hlo)
    go_enter Try.func117,Try.ntmps117
    go_wp2_with fail
    go_ret
    exact⟨retB H.out,Below.refl _ _⟩
   ·by_cases hhi:122<s[0].toNat
    ·have H:=lh (nameB_hi s h34 h0 hhi)
     go_enter Try.func117,Try.ntmps117
     go_wp2_with fail
     go_ret
     exact⟨retB H.out,Below.refl _ _⟩
    ·obtain⟨c,w1,hconv,hb1,hc1⟩:=conv_some w s
     have HC:=lh hc1;clear hc1
     have hs':Hid (s.data.toList.length≤maxLen):=lh (by simpa using hs)
     have H:=lh (fun x=>nameB_all s x h34 h0 (by omega) (by omega) (by omega))
     clear hs
     go_enter Try.func117,Try.ntmps117
     go_wp2_with (go_at_call 123;refine(ContainsFuncW s.data.toList _ _ _ hs'.out HC.out).mono ?_;rintro e w' ⟨rfl,rfl⟩)
     go_ret
     exact⟨retB (H.out _ (by simp)),hb1⟩
 ·obtain rfl:s=ByteArray.empty:=emptyB s (by omega)
  have H:=lh (nameB_0 _ h34 h0)
  clear h0 hs
  go_enter Try.func117,Try.ntmps117
  go_wp2_with fail
  go_ret
  exact⟨retB H.out,Below.refl _ _⟩
def betw(n lo hi:Int):Bool:=decide (lo≤n∧n≤hi)
theorem ret_betw(n lo hi:Int)(b:Bool)(h:b=true↔lo≤n∧n≤hi):Ending.returned (.bool b)=.returned (.bool (betw n lo hi)):=by
 have:b=betw n lo hi:=by unfold betw;rw[Bool.eq_iff_iff,h,decide_eq_true_iff]
 rw[this]
def partE(v:Int)(n:ByteArray)(len:Nat):Nat :=
 if v=0 then
  (if nameB n=false then 1 else if 4<len then 2 else if (n.toList == [33])=true∧0<len then 1 else 0)
 else if v<1∨12<v then 3 else if n.size≠0∨0<len then 1 else 0
theorem partE_range{v:Int}{n:ByteArray}{len:Nat}(h:v≠0)(h1:v<1∨12<v):partE v n len=3:=by unfold partE;rw[if_neg h,if_pos h1]
theorem partE_var{v:Int}{n:ByteArray}{len:Nat}(h:v≠0)(h1:¬ (v<1∨12<v))(h2:n.size≠0∨0<len):partE v n len=1:=by unfold partE;rw[if_neg h,if_neg h1,if_pos h2]
theorem partE_varok{v:Int}{n:ByteArray}{len:Nat}(h:v≠0)(h1:¬ (v<1∨12<v))(h2:¬ (n.size≠0∨0<len)):partE v n len=0:=by unfold partE;rw[if_neg h,if_neg h1,if_neg h2]
theorem partE_name{n:ByteArray}{len:Nat}(h:nameB n=false):partE 0 n len=1:=by unfold partE;rw[if_pos rfl,if_pos h]
theorem partE_many{n:ByteArray}{len:Nat}(h:nameB n=true)(h1:4<len):partE 0 n len=2:=by unfold partE;rw[if_pos rfl,if_neg (by rw[h];simp),if_pos h1]
theorem partE_cut{n:ByteArray}{len:Nat}(h:nameB n=true)(h1:¬ 4<len)(h2:(n.toList == [33])=true)(h3:0<len):partE 0 n len=1:=by
 unfold partE;rw[if_pos rfl,if_neg (by rw[h];simp),if_neg h1,if_pos ⟨h2,h3⟩]
theorem partE_ok{n:ByteArray}{len:Nat}(h:nameB n=true)(h1:¬ 4<len)(h2:¬ ((n.toList == [33])=true∧0<len)):partE 0 n len=0:=by
 unfold partE;rw[if_pos rfl,if_neg (by rw[h];simp),if_neg h1,if_neg h2]
theorem toList_ne(n:ByteArray)(h:¬ n.size=0):¬ n.toList = []:=by
 rw[ByteArray.toList_eq]
 intro e
 apply h
 have:n.data.toList.length=0:=by rw[e];rfl
 simpa using this
set_option maxRecDepth 100000 in
set_option maxHeartbeats 400000 in
theorem partW(v:Int)(n:ByteArray)(a:Option Addr)(len cap:Nat)(w:World)(hn:n.size≤maxLen)(hlen:len≤maxLen) :
 Calls Try.prog 115 #[.agg #[.int .i64 v,.string n,.slice a len cap]] w fun e w'=>e=.returned (.int .i64 (partE v n len:Nat))∧Below w.heap.size w w':=by
 have hcl:len≤9223372036854775807:=by unfold maxLen at hlen;omega
 clear hlen
 have B0:=(Below.refl w.heap.size w).alloc (Nat.le_refl _) (.cells #[.int .i64 v,.string n,.slice a len cap] 71)
 by_cases hv:v=0
 ·subst hv
  by_cases h1:nameB n=true
  ·by_cases h2:4<len
   ·skip
    have H:=lh (partE_many h1 h2)
    go_enter Try.func115,Try.ntmps115
    go_wp2_with (go_at_call 117;refine(NameW n _ hn).mono ?_;rintro e w' ⟨rfl,hb⟩;obtain⟨hc,hf⟩:=bcell hb)
    all_goals (go_ret;exact⟨retN H.out.symm,B0.trans (hb.mono (by simp))⟩)
   ·by_cases h3:(n.toList == [33])=true
    ·by_cases h4:0<len
     ·skip
      have H:=lh (partE_cut h1 h2 h3 h4)
      go_enter Try.func115,Try.ntmps115
      go_wp2_with (go_at_call 117;refine(NameW n _ hn).mono ?_;rintro e w' ⟨rfl,hb⟩;obtain⟨hc,hf⟩:=bcell hb)
      all_goals (go_ret;exact⟨retN H.out.symm,B0.trans (hb.mono (by simp))⟩)
     ·skip
      have H:=lh (partE_ok h1 h2 (fun h=>h4 h.2))
      go_enter Try.func115,Try.ntmps115
      go_wp2_with (go_at_call 117;refine(NameW n _ hn).mono ?_;rintro e w' ⟨rfl,hb⟩;obtain⟨hc,hf⟩:=bcell hb)
      all_goals (go_ret;exact⟨retN H.out.symm,B0.trans (hb.mono (by simp))⟩)
    ·have h3':(n.toList == [33])=false:=Bool.eq_false_iff.2 h3
     clear h3
     have H:=lh (partE_ok h1 h2 (fun h=>by rw[h3'] at h;cases h.1))
     go_enter Try.func115,Try.ntmps115
     go_wp2_with (go_at_call 117;refine(NameW n _ hn).mono ?_;rintro e w' ⟨rfl,hb⟩;obtain⟨hc,hf⟩:=bcell hb)
     all_goals (go_ret;exact⟨retN H.out.symm,B0.trans (hb.mono (by simp))⟩)
  ·have h1':nameB n=false:=Bool.eq_false_iff.2 h1
   clear h1
   have H:=lh (partE_name (len:=len) h1')
   go_enter Try.func115,Try.ntmps115
   go_wp2_with (go_at_call 117;refine(NameW n _ hn).mono ?_;rintro e w' ⟨rfl,hb⟩;obtain⟨hc,hf⟩:=bcell hb)
   all_goals (go_ret;exact⟨retN H.out.symm,B0.trans (hb.mono (by simp))⟩)
 ·by_cases h1:v<1
  ·skip
   have H:=lh (partE_range (n:=n) (len:=len) hv (.inl h1))
   go_enter Try.func115,Try.ntmps115
   go_wp2_with fail
   all_goals (go_ret;exact⟨retN H.out.symm,B0⟩)
  ·by_cases h2:12<v
   ·skip
    have H:=lh (partE_range (n:=n) (len:=len) hv (.inr h2))
    go_enter Try.func115,Try.ntmps115
    go_wp2_with fail
    all_goals (go_ret;exact⟨retN H.out.symm,B0⟩)
   ·by_cases h3:n.size=0
    ·obtain rfl:=emptyB n h3
     by_cases h4:0<len
     ·skip
      clear h3 hn
      have H:=lh (partE_var (n:=ByteArray.empty) hv (by omega) (.inr h4))
      go_enter Try.func115,Try.ntmps115
      go_wp2_with fail
      all_goals (go_ret;exact⟨retN H.out.symm,B0⟩)
     ·skip
      clear hn
      have H:=lh (partE_varok (n:=ByteArray.empty) (len:=len) hv (by omega) (by rw[h3];omega))
      go_enter Try.func115,Try.ntmps115
      go_wp2_with fail
      all_goals (go_ret;exact⟨retN H.out.symm,B0⟩)
    ·have hne:=toList_ne n h3
     have H:=lh (partE_var (len:=len) hv (by omega) (.inl h3))
     go_enter Try.func115,Try.ntmps115
     go_wp2_with fail
     all_goals (go_ret;exact⟨retN H.out.symm,B0⟩)
mutual
def Tm.partsE:Tm→Nat
 | .mk v n l=>if partE v n l.length=0 then Tm.partssE l else partE v n l.length
def Tm.partssE:List Tm→Nat
 | []=>0
 | t::r=>if t.partsE=0 then Tm.partssE r else t.partsE
end
theorem Tm.partssE_at:∀ (l:List Tm) (k:Nat) (h:k<l.length),(∀ j (hj:j<k),(l[j]'(by omega)).partsE=0)→l[k].partsE≠0→Tm.partssE l=l[k].partsE
 | [],_,h,_,_=>by cases h
 | t::r,0,_,_,hk=>by
  have hk':t.partsE≠0:=hk
  rw[Tm.partssE,if_neg hk'];rfl
 | t::r,k+1,h,hj,hk=>by
  have h0:t.partsE=0:=hj 0 (by omega)
  rw[Tm.partssE,if_pos h0]
  exact Tm.partssE_at r k (by simpa using h) (fun j hjk=>by have:=hj (j+1) (by omega);simpa using this) (by simpa using hk)
theorem Tm.partssE_none:∀ (l:List Tm),(∀ j (hj:j<l.length),l[j].partsE=0)→Tm.partssE l=0
 | [],_=>rfl
 | t::r,h=>by
  have h0:t.partsE=0:=h 0 (by simp)
  rw[Tm.partssE,if_pos h0]
  exact Tm.partssE_none r (fun j hj=>by have:=h (j+1) (by simpa using hj);simpa using this)
theorem Tm.partsE_part{v:Int}{n:ByteArray}{l:List Tm}(h:partE v n l.length≠0):(Tm.mk v n l).partsE=partE v n l.length:=by rw[Tm.partsE,if_neg h]
theorem Tm.partsE_args{v:Int}{n:ByteArray}{l:List Tm}(h:partE v n l.length=0):(Tm.mk v n l).partsE=Tm.partssE l:=by rw[Tm.partsE,if_pos h]
theorem bne0{n:Nat}(h:n≠0):((n:Int) != 0)=true:=by rw[bne_iff_ne];omega
set_option maxRecDepth 100000 in
set_option maxHeartbeats 400000 in
theorem partsW(t:Tm):∀ (w:World) (ok:Nat→Prop) (a:Option Addr) (cap:Nat),t.fits→Ts w ok t.args a cap →
 Calls Try.prog 98 #[.agg #[.int .i64 t.var,.string t.name,.slice a t.args.length cap]] w fun e w'=>e=.returned (.int .i64 (t.partsE:Nat))∧Below w.heap.size w w':=by
 induction t using Tm.ind with
 | h v n l ih =>
  intro w ok a cap hfit hrd
  have IH:=lh ih;clear ih
  simp only[Tm.var,Tm.name,Tm.args] at hrd ⊢
  have HRD:=lh hrd
  have hcap:=hrd.cap
  have hn:n.size≤maxLen:=hfit.2
  have hlen:l.length≤maxLen:=by omega
  have hcl:l.length≤9223372036854775807:=by unfold maxLen at hcap;omega
  clear hcap hrd hfit
  have HN:=lh hn;have HL:=lh hlen;clear hn hlen
  have B0:=(Below.refl w.heap.size w).alloc (Nat.le_refl _) (.cells #[.int .i64 v,.string n,.slice a l.length cap] 71)
  by_cases hp:partE v n l.length=0
  ·have HE:=lh (Tm.partsE_args hp)
   go_enter Try.func98,Try.ntmps98
   go_wp2_with (go_at_call 115;refine(partW v n a _ cap _ HN.out HL.out).mono ?_;rintro e w1 ⟨rfl,hb⟩;obtain⟨hc,hf⟩:=bcell hb)
   have B1:=B0.trans (hb.mono (by simp))
   go_loopw[15] (fun i wr=>∃ k:Nat,k≤l.length∧i=.int .i64 k∧Hid (∀ j (hj:j<l.length),j<k→l[j].partsE=0)∧Below w.heap.size w wr∧w.heap.size<wr.heap.size) (fun i _=>l.length-(intOf i).toNat)
   case atStart=>exact⟨0,Nat.zero_le _,rfl,lh (fun j hj h0=>by omega),B1,by have:=hb.size;simp at this;omega⟩
   case round =>
    obtain⟨k,hk,rfl,HZ,hbr,hszr⟩:=hrel
    by_cases hlt:k<l.length
    ·obtain⟨b,off,a',cap',rfl,hokb,hbs,hc3,ht⟩:=HRD.out.at k hlt
     have hcv:=(hbr.cell (p:=⟨b,off+k*3,none⟩) hbs).trans hc3.var
     have hcn:=(hbr.cell (p:=⟨b,off+k*3+1,none⟩) hbs).trans hc3.name
     have hca:=(hbr.cell (p:=⟨b,off+k*3+2,none⟩) hbs).trans hc3.args
     have hmem:l[k]∈l:=List.getElem_mem hlt
     have HC3:=lh hc3.fits
     clear hc3 hc hf
     by_cases hz:l[k].partsE=0
     ·go_wp2_with fail
      refine(IH.out _ hmem _ ok a' cap' HC3.out (ht.keep ((Keeps.below hbr ok).trans (Keeps.below ((Below.refl _ _).alloc (Nat.le_refl _) _) ok)))).mono ?_
      rintro e w' ⟨rfl,hb'⟩
      obtain⟨hc',hf'⟩:=bcell hb'
      have HZ':Hid (∀ j (hj:j<l.length),j<k+1→l[j].partsE=0):=lh (fun j hj h=>by
       by_cases e:j=k
       ·subst e;exact hz
       ·exact HZ.out j hj (by omega))
      go_wp2_with fail
      go_roundw
      case rel=>exact⟨k+1,by omega,by go_num,HZ'.out,(hbr.alloc (Nat.le_of_lt hszr) _).trans (hb'.mono (by simp;omega)),by have:=hb'.size;simp at this;omega⟩
      case measure=>simp[intOf];omega
     ·have HR:Hid ((Tm.mk v n l).partsE=l[k].partsE):=lh (HE.out.trans (Tm.partssE_at l k hlt (fun j hj=>HZ.out j (by omega) hj) hz))
      have hz':=bne0 hz
      go_wp2_with fail
      refine(IH.out _ hmem _ ok a' cap' HC3.out (ht.keep ((Keeps.below hbr ok).trans (Keeps.below ((Below.refl _ _).alloc (Nat.le_refl _) _) ok)))).mono ?_
      rintro e w' ⟨rfl,hb'⟩
      obtain⟨hc',hf'⟩:=bcell hb'
      go_wp2_with fail
      go_ret
      exact⟨retN HR.out.symm,(hbr.alloc (Nat.le_of_lt hszr) _).trans (hb'.mono (by simp;omega))⟩
    ·have HR:Hid ((Tm.mk v n l).partsE=0):=lh (HE.out.trans (Tm.partssE_none l (fun j hj=>HZ.out j hj (by omega))))
     go_wp2_with fail
     go_ret
     exact⟨retN HR.out.symm,hbr⟩
  ·have HE:=lh (Tm.partsE_part hp)
   have hp':=bne0 hp
   go_enter Try.func98,Try.ntmps98
   go_wp2_with (go_at_call 115;refine(partW v n a _ cap _ HN.out HL.out).mono ?_;rintro e w1 ⟨rfl,hb⟩;obtain⟨hc,hf⟩:=bcell hb)
   go_ret
   exact⟨retN HE.out.symm,B0.trans (hb.mono (by simp))⟩
def Tm.checkE(t:Tm):Nat:=if 60<t.size then 2 else t.partsE
set_option maxRecDepth 100000 in
set_option maxHeartbeats 400000 in
theorem CheckW(t:Tm)(w:World)(ok:Nat→Prop)(a:Option Addr)(cap:Nat)(hfit:t.fits)(hrd:Ts w ok t.args a cap) :
 Calls Try.prog 74 #[.agg #[.int .i64 t.var,.string t.name,.slice a t.args.length cap]] w fun e w'=>e=.returned (.int .i64 (t.checkE:Nat))∧Below w.heap.size w w':=by
 have B0:=(Below.refl w.heap.size w).alloc (Nat.le_refl _) (.cells #[.int .i64 t.var,.string t.name,.slice a t.args.length cap] 71)
 have HRD:=lh hrd;have HF:=lh hfit;clear hrd hfit
 by_cases h:60<t.size
 ·have H:Hid (t.checkE=2):=lh (by unfold Tm.checkE;rw[if_pos h])
  have hm:min t.size (Int.toNat 60+1)=61:=by simp;omega
  clear h
  go_enter Try.func74,Try.ntmps74
  go_wp2_with (go_at_call 97;refine(SizeW t 60 _ ok a cap (by omega) (by omega) (HRD.out.keep (Keeps.below ((Below.refl _ _).alloc (Nat.le_refl _) _) ok))).mono ?_;rintro e w1 ⟨rfl,hb⟩;rw[hm])
  go_ret
  exact⟨retN H.out.symm,B0.trans (hb.mono (by simp))⟩
 ·have H:Hid (t.checkE=t.partsE):=lh (by unfold Tm.checkE;rw[if_neg h])
  have hm:min t.size (Int.toNat 60+1)=t.size:=by simp;omega
  go_enter Try.func74,Try.ntmps74
  go_wp2_with (first | (go_at_call 97;refine(SizeW t 60 _ ok a cap (by omega) (by omega) (HRD.out.keep (Keeps.below ((Below.refl _ _).alloc (Nat.le_refl _) _) ok))).mono ?_;rintro e w1 ⟨rfl,hb⟩;obtain⟨hc,hf⟩:=bcell hb;rw[hm]) | fail)
  refine(partsW t _ ok a cap HF.out (HRD.out.keep ((Keeps.below ((Below.refl _ _).alloc (Nat.le_refl _) _) ok).trans (Keeps.below hb ok)))).mono ?_
  rintro e w2 ⟨rfl,hb2⟩
  go_wp2_with fail
  go_ret
  exact⟨retN H.out.symm,(B0.trans (hb.mono (by simp))).trans (hb2.mono (by have:=hb.size;simp at this;omega))⟩
def Tm.partE(t:Tm):Nat:=Go.Proofs.Ytikmgiapjigghab.partE t.var t.name t.args.length
def firstE:List Tm→Nat
 | []=>0
 | t::r=>if t.partE=0 then firstE r else t.partE
theorem firstE_append(l r:List Tm):firstE (l++r)=if firstE l=0 then firstE r else firstE l:=by
 induction l with
 | nil=>simp[firstE]
 | cons a l ih =>
  show (if a.partE=0 then firstE (l++r) else a.partE)=(if (if a.partE=0 then firstE l else a.partE)=0 then firstE r else (if a.partE=0 then firstE l else a.partE))
  rw[ih]
  by_cases h:a.partE=0 <;> simp[h]
theorem Tm.partsE_eq(t:Tm):t.partsE=firstE t.parts:=by
 refine Tm.rec (motive_1:=fun t=>t.partsE=firstE t.parts) (motive_2:=fun l=>Tm.partssE l=firstE (Tm.partss l)) ?_ ?_ ?_ t
 ·intro v n l ih
  rw[Tm.partsE,Tm.parts,firstE,ih];rfl
 ·rfl
 ·intro a r h1 h2
  rw[Tm.partssE,Tm.partss,firstE_append,h1,h2]
structure Cl where
 head:Tm
 body:List Tm
structure Pr(w:World)(ok:Nat→Prop)(P:List Cl)(a:Option Addr)(cap:Nat):Prop where
 room:P.length≤cap∧cap≤maxLen∧(a=none→cap=0)
 elem:∀ i (h:i<P.length),∃ (b off:Nat) (a1 a2:Option Addr) (c1 c2:Nat),a=some ⟨b,off,none⟩∧ok b∧b<w.heap.size∧Cells3 w b (off+i*4) P[i].head a1 c1 ∧
  w.cell? ⟨b,off+i*4+3,none⟩=some (.slice a2 P[i].body.length c2)∧Ts w ok P[i].head.args a1 c1∧Ts w ok P[i].body a2 c2
theorem Pr.keep{w w':World}{ok:Nat→Prop}(hk:Keeps ok w w'){P:List Cl}{a:Option Addr}{cap:Nat}(h:Pr w ok P a cap):Pr w' ok P a cap:=by
 refine⟨h.room,fun i hi=>?_⟩
 obtain⟨b,off,a1,a2,c1,c2,h1,h2,h3,h4,h5,h6,h7⟩:=h.elem i hi
 exact⟨b,off,a1,a2,c1,c2,h1,h2,Nat.lt_of_lt_of_le h3 hk.size,⟨(hk.cell (p:=⟨b,_,none⟩) h2 h3).trans h4.var,(hk.cell (p:=⟨b,_,none⟩) h2 h3).trans h4.name,(hk.cell (p:=⟨b,_,none⟩) h2 h3).trans h4.args,h4.fits⟩,
  (hk.cell (p:=⟨b,_,none⟩) h2 h3).trans h5,h6.keep hk,h7.keep hk⟩
def firstN(l:List Nat):Nat:=(l.find? (·≠0)).getD 0
theorem firstN_at(l:List Nat)(k:Nat)(h:k<l.length)(hj:∀ j (hj:j<k),l[j]'(by omega)=0)(hk:l[k]≠0):firstN l=l[k]:=by
 unfold firstN
 rw[List.find?_eq_some_iff_getElem.2 ⟨by simpa using hk,k,h,rfl,fun j hjk=>by simpa using hj j hjk⟩];rfl
theorem firstN_none(l:List Nat)(h:∀ j (hj:j<l.length),l[j]=0):firstN l=0:=by
 unfold firstN
 rw[List.find?_eq_none.2 (fun x hx=>by obtain⟨j,hj,rfl⟩:=List.getElem_of_mem hx;simp[h j hj])];rfl
def queryE(q:List Tm):Nat:=if 6<q.length then 2 else firstN (q.map Tm.checkE)
theorem queryE_many{q:List Tm}(h:6<q.length):queryE q=2:=by unfold queryE;rw[if_pos h]
theorem queryE_at{q:List Tm}(h:¬ 6<q.length)(k:Nat)(hk:k<q.length)(hj:∀ j (hj:j<q.length),j<k→q[j].checkE=0)(hz:q[k].checkE≠0):queryE q=q[k].checkE:=by
 unfold queryE;rw[if_neg h,firstN_at (q.map Tm.checkE) k (by simpa using hk) (fun j hjk=>by simpa using hj j (by omega) hjk) (by simpa using hz)];simp
theorem queryE_none{q:List Tm}(h:¬ 6<q.length)(hj:∀ j (hj:j<q.length),q[j].checkE=0):queryE q=0:=by
 unfold queryE;rw[if_neg h,firstN_none (q.map Tm.checkE) (fun j hjk=>by simpa using hj j (by simpa using hjk))]
def ZeroTo(q:List Tm)(k:Nat):Prop:=∀ j (hj:j<q.length),j<k→q[j].checkE=0
theorem ZeroTo.next{q:List Tm}{k:Nat}(h:ZeroTo q k)(hk:k<q.length)(hz:q[k].checkE=0):ZeroTo q (k+1):=fun j hj hjk=>by
 by_cases e:j=k
 ·subst e;exact hz
 ·exact h j hj (by omega)
set_option maxRecDepth 100000 in
set_option maxHeartbeats 400000 in
theorem QueryW(q:List Tm)(w:World)(ok:Nat→Prop)(a:Option Addr)(cap:Nat)(hrd:Ts w ok q a cap) :
 Calls Try.prog 46 #[.slice a q.length cap] w fun e w'=>e=.returned (.int .i64 (queryE q:Nat))∧Below w.heap.size w w':=by
 have HRD:=lh hrd
 have hcap:=hrd.cap
 have hcl:q.length≤9223372036854775807:=by unfold maxLen at hcap;omega
 clear hcap hrd
 by_cases h6:6<q.length
 ·have H:=lh (queryE_many h6)
  go_enter Try.func46,Try.ntmps46
  go_wp2_with fail
  go_ret
  exact⟨retN H.out.symm,Below.refl _ _⟩
 ·go_enter Try.func46,Try.ntmps46
  go_wp2_with fail
  go_loopw[11] (fun i wr=>∃ k:Nat,k≤q.length∧i=.int .i64 k∧ZeroTo q k∧Below w.heap.size w wr) (fun i _=>q.length-(intOf i).toNat)
  case atStart=>exact⟨0,Nat.zero_le _,rfl,fun j hj h=>by omega,Below.refl _ _⟩
  case round =>
   obtain⟨k,hk,rfl,HZ,hbr⟩:=hrel
   by_cases hlt:k<q.length
   ·obtain⟨b,off,a',cap',rfl,hokb,hbs,hc3,ht⟩:=HRD.out.at k hlt
    have hcv:=(hbr.cell (p:=⟨b,off+k*3,none⟩) hbs).trans hc3.var
    have hcn:=(hbr.cell (p:=⟨b,off+k*3+1,none⟩) hbs).trans hc3.name
    have hca:=(hbr.cell (p:=⟨b,off+k*3+2,none⟩) hbs).trans hc3.args
    have HC3:=lh hc3.fits
    clear hc3
    by_cases hz:q[k].checkE=0
    ·go_wp2_with fail
     refine(CheckW q[k] _ ok a' cap' HC3.out (ht.keep ((Keeps.below hbr ok).trans (Keeps.below ((Below.refl _ _).alloc (Nat.le_refl _) _) ok)))).mono ?_
     rintro e w' ⟨rfl,hb'⟩
     obtain⟨hc',hf'⟩:=bcell hb'
     have HZ':=lh (HZ.next hlt hz)
     go_wp2_with fail
     go_roundw
     case rel=>exact⟨k+1,by omega,by go_num,HZ'.out,(hbr.alloc hbr.size _).trans (hb'.mono (by have:=hbr.size;simp;omega))⟩
     case measure=>simp[intOf];omega
    ·have HR:=lh (queryE_at h6 k hlt HZ hz)
     have hz':=bne0 hz
     go_wp2_with fail
     refine(CheckW q[k] _ ok a' cap' HC3.out (ht.keep ((Keeps.below hbr ok).trans (Keeps.below ((Below.refl _ _).alloc (Nat.le_refl _) _) ok)))).mono ?_
     rintro e w' ⟨rfl,hb'⟩
     obtain⟨hc',hf'⟩:=bcell hb'
     go_wp2_with fail
     go_ret
     exact⟨retN HR.out.symm,(hbr.alloc hbr.size _).trans (hb'.mono (by have:=hbr.size;simp;omega))⟩
   ·have HR:=lh (queryE_none h6 (fun j hj=>HZ j hj (by omega)))
    go_wp2_with fail
    go_ret
    exact⟨retN HR.out.symm,hbr⟩
def meansB(n:ByteArray)(len:Nat):Bool :=
 (decide (len=0) && (n.toList == [33] || n.toList == [116,114,117,101] || n.toList == [102,97,105,108])) || (decide (len=2) && n.toList == [101,113])
theorem beqT{a b:List UInt8}(h:a=b):(a == b)=true:=by rw[h];exact beq_self_eq_true b
theorem beqF{a b:List UInt8}(h:a≠b):(a == b)=false:=beq_eq_false_iff_ne.2 h
theorem means_cut{n:ByteArray}{len:Nat}(h:n.toList = [33]):meansB n len=decide (len=0):=by unfold meansB;rw[h];simp
theorem means_true{n:ByteArray}{len:Nat}(h:n.toList = [116,114,117,101]):meansB n len=decide (len=0):=by unfold meansB;rw[h];simp
theorem means_fail{n:ByteArray}{len:Nat}(h:n.toList = [102,97,105,108]):meansB n len=decide (len=0):=by unfold meansB;rw[h];simp
theorem means_same{n:ByteArray}{len:Nat}(h:n.toList = [101,113]):meansB n len=decide (len=2):=by unfold meansB;rw[h];simp
theorem means_no{n:ByteArray}{len:Nat}(h1:n.toList≠[33])(h2:n.toList≠[116,114,117,101])(h3:n.toList≠[102,97,105,108])(h4:n.toList≠[101,113]):meansB n len=false:=by
 unfold meansB;rw[beqF h1,beqF h2,beqF h3,beqF h4];simp
theorem dec_beq(len:Nat)(c:Nat):((len:Int) == (c:Int))=decide (len=c):=by
 rw[Bool.eq_iff_iff,beq_iff_eq,decide_eq_true_iff];omega
theorem name_kinds(n:ByteArray) :
 (n.toList = [33]∧(n.toList == [33])=true) ∨
 (n.toList = [116,114,117,101]∧(n.toList == [33])=false∧(n.toList == [116,114,117,101])=true) ∨
 (n.toList = [102,97,105,108]∧(n.toList == [33])=false∧(n.toList == [116,114,117,101])=false∧(n.toList == [102,97,105,108])=true) ∨
 (n.toList = [101,113]∧(n.toList == [33])=false∧(n.toList == [116,114,117,101])=false∧(n.toList == [102,97,105,108])=false∧(n.toList == [101,113])=true) ∨
 ((n.toList≠[33]∧n.toList≠[116,114,117,101]∧n.toList≠[102,97,105,108]∧n.toList≠[101,113])∧(n.toList == [33])=false∧(n.toList == [116,114,117,101])=false∧(n.toList == [102,97,105,108])=false∧(n.toList == [101,113])=false):=by
 by_cases h1:n.toList = [33]
 ·exact .inl ⟨h1,beqT h1⟩
 by_cases h2:n.toList = [116,114,117,101]
 ·exact .inr (.inl ⟨h2,beqF h1,beqT h2⟩)
 by_cases h3:n.toList = [102,97,105,108]
 ·exact .inr (.inr (.inl ⟨h3,beqF h1,beqF h2,beqT h3⟩))
 by_cases h4:n.toList = [101,113]
 ·exact .inr (.inr (.inr (.inl ⟨h4,beqF h1,beqF h2,beqF h3,beqT h4⟩)))
 ·exact .inr (.inr (.inr (.inr ⟨⟨h1,h2,h3,h4⟩,beqF h1,beqF h2,beqF h3,beqF h4⟩)))
set_option maxRecDepth 100000 in
set_option maxHeartbeats 400000 in
theorem MeansW(v:Int)(n:ByteArray)(a:Option Addr)(len cap:Nat)(w:World) :
 Calls Try.prog 86 #[.agg #[.int .i64 v,.string n,.slice a len cap]] w fun e w'=>e=.returned (.bool (meansB n len))∧Below w.heap.size w w':=by
 have B0:=(Below.refl w.heap.size w).alloc (Nat.le_refl _) (.cells #[.int .i64 v,.string n,.slice a len cap] 71)
 have H0:=lh (dec_beq len 0)
 have H2:=lh (dec_beq len 2)
 rcases name_kinds n with ⟨k,h1⟩ | ⟨k,h1,h2⟩ | ⟨k,h1,h2,h3⟩ | ⟨k,h1,h2,h3,h4⟩ | ⟨k,h1,h2,h3,h4⟩
 ·have H:=lh (means_cut (len:=len) k)
  clear k
  go_enter Try.func86,Try.ntmps86
  go_wp2_with fail
  go_ret
  exact⟨retB (H0.out.trans H.out.symm),B0⟩
 ·have H:=lh (means_true (len:=len) k)
  clear k
  go_enter Try.func86,Try.ntmps86
  go_wp2_with fail
  go_ret
  exact⟨retB (H0.out.trans H.out.symm),B0⟩
 ·have H:=lh (means_fail (len:=len) k)
  clear k
  go_enter Try.func86,Try.ntmps86
  go_wp2_with fail
  go_ret
  exact⟨retB (H0.out.trans H.out.symm),B0⟩
 ·have H:=lh (means_same (len:=len) k)
  clear k
  go_enter Try.func86,Try.ntmps86
  go_wp2_with fail
  go_ret
  exact⟨retB (H2.out.trans H.out.symm),B0⟩
 ·have H:=lh (means_no (len:=len) k.1 k.2.1 k.2.2.1 k.2.2.2)
  clear k
  go_enter Try.func86,Try.ntmps86
  go_wp2_with fail
  go_ret
  exact⟨retB H.out.symm,B0⟩
def clauseE(c:Cl):Nat :=
 if c.head.checkE≠0 then c.head.checkE else if c.head.var≠0 then 1 else if meansB c.head.name c.head.args.length=true then 4 else queryE c.body
theorem clauseE_head{c:Cl}(h:c.head.checkE≠0):clauseE c=c.head.checkE:=by unfold clauseE;rw[if_pos h]
theorem clauseE_var{c:Cl}(h:c.head.checkE=0)(h1:c.head.var≠0):clauseE c=1:=by unfold clauseE;rw[if_neg (by simp[h]),if_pos h1]
theorem clauseE_means{c:Cl}(h:c.head.checkE=0)(h1:c.head.var=0)(h2:meansB c.head.name c.head.args.length=true):clauseE c=4:=by unfold clauseE;rw[if_neg (by simp[h]),if_neg (by simp[h1]),if_pos h2]
theorem clauseE_body{c:Cl}(h:c.head.checkE=0)(h1:c.head.var=0)(h2:meansB c.head.name c.head.args.length=false):clauseE c=queryE c.body:=by unfold clauseE;rw[if_neg (by simp[h]),if_neg (by simp[h1]),if_neg (by simp[h2])]
def programE(P:List Cl):Nat:=if 30<P.length then 2 else firstN (P.map clauseE)
theorem programE_many{q:List Cl}(h:30<q.length):programE q=2:=by unfold programE;rw[if_pos h]
theorem programE_at{q:List Cl}(h:¬ 30<q.length)(k:Nat)(hk:k<q.length)(hj:∀ j (hj:j<q.length),j<k→clauseE q[j]=0)(hz:clauseE q[k]≠0):programE q=clauseE q[k]:=by
 unfold programE;rw[if_neg h,firstN_at (q.map clauseE) k (by simpa using hk) (fun j hjk=>by simpa using hj j (by omega) hjk) (by simpa using hz)];simp
theorem programE_none{q:List Cl}(h:¬ 30<q.length)(hj:∀ j (hj:j<q.length),clauseE q[j]=0):programE q=0:=by
 unfold programE;rw[if_neg h,firstN_none (q.map clauseE) (fun j hjk=>by simpa using hj j (by simpa using hjk))]
def ZeroCl(q:List Cl)(k:Nat):Prop:=∀ j (hj:j<q.length),j<k→clauseE q[j]=0
theorem ZeroCl.next{q:List Cl}{k:Nat}(h:ZeroCl q k)(hk:k<q.length)(hz:clauseE q[k]=0):ZeroCl q (k+1):=fun j hj hjk=>by
 by_cases e:j=k
 ·subst e;exact hz
 ·exact h j hj (by omega)
theorem clauseE_cases(c:Cl):(c.head.checkE≠0∧clauseE c=c.head.checkE)∨(c.head.checkE=0∧c.head.var≠0∧clauseE c=1)∨(c.head.checkE=0∧c.head.var=0∧meansB c.head.name c.head.args.length=true∧clauseE c=4) ∨
 (c.head.checkE=0∧c.head.var=0∧meansB c.head.name c.head.args.length=false∧clauseE c=queryE c.body):=by
 by_cases h:c.head.checkE=0
 ·by_cases h1:c.head.var=0
  ·cases h2:meansB c.head.name c.head.args.length
   ·exact .inr (.inr (.inr ⟨h,h1,rfl,clauseE_body h h1 h2⟩))
   ·exact .inr (.inr (.inl ⟨h,h1,rfl,clauseE_means h h1 h2⟩))
  ·exact .inr (.inl ⟨h,h1,clauseE_var h h1⟩)
 ·exact .inl ⟨h,clauseE_head h⟩
set_option maxRecDepth 100000 in
set_option maxHeartbeats 1000000 in
theorem clauseW(c:Cl)(w:World)(ok:Nat→Prop)(a1 a2:Option Addr)(c1 c2:Nat)(hfit:c.head.fits)(h1:Ts w ok c.head.args a1 c1)(h2:Ts w ok c.body a2 c2) :
 Calls Try.prog 73 #[.agg #[.int .i64 c.head.var,.string c.head.name,.slice a1 c.head.args.length c1,.slice a2 c.body.length c2]] w fun e w'=>e=.returned (.int .i64 (clauseE c:Nat))∧Below w.heap.size w w':=by
 have B0:=(Below.refl w.heap.size w).alloc (Nat.le_refl _) (.cells #[.int .i64 c.head.var,.string c.head.name,.slice a1 c.head.args.length c1,.slice a2 c.body.length c2] 106)
 have H1:=lh h1;have H2:=lh h2;have HF:=lh hfit;clear h1 h2 hfit
 rcases clauseE_cases c with ⟨k1,H⟩ | ⟨k1,k2,H⟩ | ⟨k1,k2,k3,H⟩ | ⟨k1,k2,k3,H⟩
 ·have HR:=lh H;clear H
  have k1':=bne0 k1
  go_enter Try.func73,Try.ntmps73
  go_wp2_with fail
  refine(CheckW c.head _ ok a1 c1 HF.out (H1.out.keep (Keeps.below ((Below.refl _ _).alloc (Nat.le_refl _) _) ok))).mono ?_
  rintro e w1 ⟨rfl,hb⟩;obtain⟨hc,hf⟩:=bcell hb
  go_wp2_with fail
  go_ret
  exact⟨retN HR.out.symm,B0.trans (hb.mono (by simp))⟩
 ·have HR:=lh H;clear H
  go_enter Try.func73,Try.ntmps73
  go_wp2_with fail
  refine(CheckW c.head _ ok a1 c1 HF.out (H1.out.keep (Keeps.below ((Below.refl _ _).alloc (Nat.le_refl _) _) ok))).mono ?_
  rintro e w1 ⟨rfl,hb⟩;obtain⟨hc,hf⟩:=bcell hb
  go_wp2_with fail
  go_ret
  exact⟨retN HR.out.symm,B0.trans (hb.mono (by simp))⟩
 ·have HR:=lh H;clear H
  have k2':(c.head.var != 0)=false:=by rw[k2];rfl
  clear k2
  go_enter Try.func73,Try.ntmps73
  go_wp2_with fail
  refine(CheckW c.head _ ok a1 c1 HF.out (H1.out.keep (Keeps.below ((Below.refl _ _).alloc (Nat.le_refl _) _) ok))).mono ?_
  rintro e w1 ⟨rfl,hb⟩;obtain⟨hc,hf⟩:=bcell hb
  go_wp2_with fail
  refine(MeansW c.head.var _ a1 _ c1 _).mono ?_
  rintro e w2 ⟨rfl,hb2⟩;obtain⟨hc2,hf2⟩:=bcell hb2
  have hs1:w.heap.size<w1.heap.size:=by have:=hb.size;simp at this;omega
  go_wp2_with fail
  go_ret
  exact⟨retN HR.out.symm,(B0.trans (hb.mono (by simp))).trans (hb2.mono (by omega))⟩
 ·have HR:=lh H;clear H
  have k2':(c.head.var != 0)=false:=by rw[k2];rfl
  clear k2
  go_enter Try.func73,Try.ntmps73
  go_wp2_with fail
  refine(CheckW c.head _ ok a1 c1 HF.out (H1.out.keep (Keeps.below ((Below.refl _ _).alloc (Nat.le_refl _) _) ok))).mono ?_
  rintro e w1 ⟨rfl,hb⟩;obtain⟨hc,hf⟩:=bcell hb
  go_wp2_with fail
  refine(MeansW c.head.var _ a1 _ c1 _).mono ?_
  rintro e w2 ⟨rfl,hb2⟩;obtain⟨hc2,hf2⟩:=bcell hb2
  have hs1:w.heap.size<w1.heap.size:=by have:=hb.size;simp at this;omega
  go_wp2_with fail
  refine(QueryW c.body _ ok a2 c2 (H2.out.keep (((Keeps.below ((Below.refl _ _).alloc (Nat.le_refl _) _) ok).trans (Keeps.below hb ok)).trans (Keeps.below hb2 ok)))).mono ?_
  rintro e w3 ⟨rfl,hb3⟩
  go_wp2_with fail
  go_ret
  exact⟨retN HR.out.symm,((B0.trans (hb.mono (by simp))).trans (hb2.mono (by omega))).trans (hb3.mono (by have:=hb2.size;omega))⟩
set_option maxRecDepth 100000 in
set_option maxHeartbeats 400000 in
theorem ClausesW(P:List Cl)(w:World)(ok:Nat→Prop)(a:Option Addr)(cap:Nat)(hrd:Pr w ok P a cap) :
 Calls Try.prog 45 #[.slice a P.length cap] w fun e w'=>e=.returned (.int .i64 (programE P:Nat))∧Below w.heap.size w w':=by
 have HRD:=lh hrd
 have hcap:=hrd.room
 have hcl:P.length≤9223372036854775807:=by unfold maxLen at hcap;omega
 clear hcap hrd
 by_cases h6:30<P.length
 ·have H:=lh (programE_many h6)
  go_enter Try.func45,Try.ntmps45
  go_wp2_with fail
  go_ret
  exact⟨retN H.out.symm,Below.refl _ _⟩
 ·go_enter Try.func45,Try.ntmps45
  go_wp2_with fail
  go_loopw[11] (fun i wr=>∃ k:Nat,k≤P.length∧i=.int .i64 k∧ZeroCl P k∧Below w.heap.size w wr) (fun i _=>P.length-(intOf i).toNat)
  case atStart=>exact⟨0,Nat.zero_le _,rfl,fun j hj h=>by omega,Below.refl _ _⟩
  case round =>
   obtain⟨k,hk,rfl,HZ,hbr⟩:=hrel
   by_cases hlt:k<P.length
   ·obtain⟨b,off,a1,a2,c1,c2,rfl,hokb,hbs,hc3,hc4,ht1,ht2⟩:=HRD.out.elem k hlt
    have hcv:=(hbr.cell (p:=⟨b,off+k*4,none⟩) hbs).trans hc3.var
    have hcn:=(hbr.cell (p:=⟨b,off+k*4+1,none⟩) hbs).trans hc3.name
    have hca:=(hbr.cell (p:=⟨b,off+k*4+2,none⟩) hbs).trans hc3.args
    have hcb:=(hbr.cell (p:=⟨b,off+k*4+3,none⟩) hbs).trans hc4
    have HC3:=lh hc3.fits
    clear hc3 hc4
    have hk1:Keeps ok w (wr.alloc (.cells #[.int .i64 P[k].head.var,.string P[k].head.name,.slice a1 P[k].head.args.length c1,.slice a2 P[k].body.length c2] 106)):=(Keeps.below hbr ok).trans (Keeps.below ((Below.refl _ _).alloc (Nat.le_refl _) _) ok)
    by_cases hz:clauseE P[k]=0
    ·go_wp2_with fail
     refine(clauseW P[k] _ ok a1 a2 c1 c2 HC3.out (ht1.keep hk1) (ht2.keep hk1)).mono ?_
     rintro e w' ⟨rfl,hb'⟩
     obtain⟨hc',hf'⟩:=bcell hb'
     have HZ':=lh (HZ.next hlt hz)
     go_wp2_with fail
     go_roundw
     case rel=>exact⟨k+1,by omega,by go_num,HZ'.out,(hbr.alloc hbr.size _).trans (hb'.mono (by have:=hbr.size;simp;omega))⟩
     case measure=>simp[intOf];omega
    ·have HR:=lh (programE_at h6 k hlt HZ hz)
     have hz':=bne0 hz
     go_wp2_with fail
     refine(clauseW P[k] _ ok a1 a2 c1 c2 HC3.out (ht1.keep hk1) (ht2.keep hk1)).mono ?_
     rintro e w' ⟨rfl,hb'⟩
     obtain⟨hc',hf'⟩:=bcell hb'
     go_wp2_with fail
     go_ret
     exact⟨retN HR.out.symm,(hbr.alloc hbr.size _).trans (hb'.mono (by have:=hbr.size;simp;omega))⟩
   ·have HR:=lh (programE_none h6 (fun j hj=>HZ j hj (by omega)))
    go_wp2_with fail
    go_ret
    exact⟨retN HR.out.symm,hbr⟩
end Go.Proofs.Ytikmgiapjigghab
