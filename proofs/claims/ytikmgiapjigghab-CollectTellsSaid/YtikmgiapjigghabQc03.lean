/- Walks: names of terms. -/
import Derived.WalkSpells
import Derived.Lib.Hide
import Derived.Lib.ConvBytes
import Derived.WalkLawsBesides
import Derived.Test.YtikmgiapjigghabQc01
import Derived.Test.YtikmgiapjigghabQc02
set_option maxRecDepth 100000
set_option maxHeartbeats 8000000
namespace Go.Proofs.Ytikmgiapjigghab
open Go.RowKit
def fQ(c:UInt8):Bool:=c == 95 || (97≤c && c≤122) || (48≤c && c≤57)
theorem nO(c:UInt8):fQ c=true↔(c.toNat:Int)=95∨(97≤(c.toNat:Int)∧(c.toNat:Int)≤122)∨(48≤(c.toNat:Int)∧(c.toNat:Int)≤57):=by
 unfold fQ;rw[Bool.or_eq_true,Bool.or_eq_true,Bool.and_eq_true,Bool.and_eq_true,beq_iff_eq,decide_eq_true_iff,decide_eq_true_iff,decide_eq_true_iff,decide_eq_true_iff];rw[←UInt8.toNat_inj];simp only[UInt8.le_iff_toNat_le];have e1:(95:UInt8).toNat=95:=rfl;have e2:(97:UInt8).toNat=97:=rfl;have e3:(122:UInt8).toNat=122:=rfl;have e4:(48:UInt8).toNat=48:=rfl;have e5:(57:UInt8).toNat=57:=rfl;rw[e1,e2,e3,e4,e5];omega
theorem aA2(c:UInt8)(b:Bool)(h:b=true↔¬((c.toNat:Int)=95∨(97≤(c.toNat:Int)∧(c.toNat:Int)≤122)∨(48≤(c.toNat:Int)∧(c.toNat:Int)≤57))):Ending.returned (.bool b)=.returned (.bool (!fQ c)):=by
 have h2:=nO c;cases hs:fQ c
 ·rw[hs] at h2
  rw[h.2 (fun h3=>by have:=h2.2 h3;cases this)];rfl
 ·cases b
  ·rfl
  ·exact absurd (h2.1 hs) (h.1 rfl)
theorem bC5(c:UInt8)(w:World) :
 Calls Try.prog 124 #[.int .u8 (c.toNat:Int)] w fun e w'=>e=.returned (.bool (!fQ c))∧w=w':=by
 go_enter Try.func124,Try.ntmps124;go_wp2_with fail
 all_goals
  go_ret;refine⟨aA2 c _ ?_,rfl⟩;simp <;> omega
def iL(l:List UInt8):Nat:=l.findIdx fun c=>!fQ c
def pH(l:List UInt8):Int:=if iL l<l.length then (iL l:Int) else -1
theorem aH2(l:List UInt8)(k:Nat)(h:k<l.length)(hb:k<iL l):fQ l[k]=true:=by
 have:=List.not_of_lt_findIdx (p:=fun c=>!fQ c) hb;simpa[List.getD,h] using this
theorem vK(l:List UInt8)(k:Nat)(h:k<l.length)(hb:k≤iL l)(hc:¬k<iL l):fQ l[k]=false:=by
 have e:iL l=k:=by omega
 have:=List.findIdx_getElem (p:=fun c=>!fQ c) (xs:=l) (w:=by unfold iL at e;omega);unfold iL at e;simpa[List.getD,h,e] using this
theorem vM(l:List UInt8)(b cap:Nat)(w:World)(hl:l.length≤maxLen)(hc:∀j,j<l.length→w.cell? ⟨b,j,none⟩=some (.int .u8 (l.getD j 0).toNat)) :
 Calls Try.prog 127 #[.slice (some ⟨b,0,none⟩) l.length cap,.func (.func 124) #[] #[]] w fun e w'=>e=.returned (.int .i64 (pH l))∧w=w':=by
 have hcl:l.length≤9223372036854775807:=by unfold maxLen at hl;omega
 clear hl;have HC:=lh hc;clear hc;go_enter Try.func127,Try.ntmps127;go_wp2_with fail
 go_loopw[5,8] (fun _ i wr=>∃k:Nat,k≤l.length∧k≤iL l∧i=.int .i64 k∧w=wr) (fun _ i _=>l.length-(intOf i).toNat)
 case atStart=>exact⟨0,Nat.zero_le _,Nat.zero_le _,rfl,rfl⟩
 case round =>
  obtain⟨k,hk,hkb,rfl,rfl⟩:=hrel;by_cases hlt:k<l.length
  ·have hck:=HC.out k hlt
   by_cases hb:k<iL l
   ·have hs:fQ l[k]=true:=aH2 l k hlt hb
    go_wp2_with (go_at_call 124;refine(bC5 _ _).mono ?_;rintro e w' ⟨rfl,rfl⟩);go_roundw
    case rel=>exact⟨k+1,by omega,by omega,by go_num,trivial⟩
    case measure=>simp[intOf];omega
   ·have hs:fQ l[k]=false:=vK l k hlt hkb hb
    have hb':Hid (iL l=k):=lh (by omega);go_wp2_with (go_at_call 124;refine(bC5 _ _).mono ?_;rintro e w' ⟨rfl,rfl⟩);go_ret;exact⟨bE3 (by unfold pH;rw[if_pos (by rw[hb'.out];exact hlt),hb'.out]),rfl⟩
  ·go_wp2_with fail
   go_ret;exact⟨bE3 (by unfold pH;rw[if_neg (by omega)]),rfl⟩
theorem tG(l:List UInt8):iL l<l.length↔l.all fQ=false:=by
 unfold iL;rw[List.findIdx_lt_length,List.all_eq_false]
 constructor
 ·rintro ⟨x,hx,h⟩;exact⟨x,hx,by simpa using h⟩
 ·rintro ⟨x,hx,h⟩;exact⟨x,hx,by simpa using h⟩
theorem wO(l:List UInt8)(b cap:Nat)(w:World)(hl:l.length≤maxLen)(hc:∀j,j<l.length→w.cell? ⟨b,j,none⟩=some (.int .u8 (l.getD j 0).toNat)) :
 Calls Try.prog 123 #[.slice (some ⟨b,0,none⟩) l.length cap,.func (.func 124) #[] #[]] w fun e w'=>e=.returned (.bool (!l.all fQ))∧w=w':=by
 have HC:=lh hc;clear hc;have hba:=lh (tG l);by_cases hb:iL l<l.length
 ·have hr:pH l=(iL l:Int):=by unfold pH;rw[if_pos hb]
  have ha:Hid (l.all fQ=false):=lh ((tG l).1 hb);clear hb;go_enter Try.func123,Try.ntmps123;go_wp2_with (go_at_call 127;refine(vM l _ _ _ hl HC.out).mono ?_;rintro e w' ⟨rfl,rfl⟩);go_ret;exact⟨eY (by rw[ha.out];simp),rfl⟩
 ·have hr:pH l = -1:=by unfold pH;rw[if_neg hb]
  have ha:Hid (l.all fQ=true):=lh (by
   cases h:l.all fQ
   ·exact absurd ((tG l).2 h) hb
   ·rfl)
  clear hb;go_enter Try.func123,Try.ntmps123;go_wp2_with (go_at_call 127;refine(vM l _ _ _ hl HC.out).mono ?_;rintro e w' ⟨rfl,rfl⟩);go_ret;exact⟨eY (by rw[ha.out];simp),rfl⟩
def dO(s:ByteArray):Bool :=
 s.toList == [33] || (decide (1≤s.size) && decide (s.size≤8) && decide (97≤(s.data.toList.getD 0 0).toNat) && decide ((s.data.toList.getD 0 0).toNat≤122) && s.data.toList.all fQ)
theorem aT3(w:World)(s:ByteArray):∃(c:Nat) (w1:World),(convert 9 152 (.string s)).run Try.prog w=.ok (.slice (some ⟨w.heap.size,0,none⟩) s.size c) w1∧Below w.heap.size w w1 ∧
 ∀j,j<s.data.toList.length→w1.cell? ⟨w.heap.size,j,none⟩=some (.int .u8 (s.data.toList.getD j 0).toNat) :=
 ⟨_,_,Lib.run_convert_string_bytes w 9 152 5 s Try.underlying9 Try.underlying152 Try.underlying5,
  ⟨rfl,rfl,rfl,by rw[Lib.bytesWorld_size];omega,fun k hk=>Lib.bytesWorld_at_old w 5 s k hk⟩,
  fun j hj=>Lib.bytesWorld_cell w 5 s j (by simpa using hj)⟩
theorem pI(s:ByteArray)(h:s.size=0):s=ByteArray.empty:=ByteArray.ext (Array.eq_empty_of_size_eq_zero h)
theorem bC6(s:ByteArray)(h:0<s.size):s.data.toList.getD 0 0=s[0]:=by
 have h':0<s.data.toList.length:=by simpa using h
 rw[List.getD_eq_getElem?_getD,List.getElem?_eq_getElem h'];rfl
theorem aH3(s:ByteArray)(h:(s.toList == [33])=true):true=dO s:=by unfold dO;rw[h];rfl
theorem aP2(s:ByteArray)(h:(s.toList == [33])=false)(h0:¬0<s.size):false=dO s:=by
 unfold dO;rw[h,decide_eq_false (by omega:¬1≤s.size)];rfl
theorem aP3(s:ByteArray)(h:(s.toList == [33])=false)(h0:8<s.size):false=dO s:=by
 unfold dO;rw[h,decide_eq_false (by omega:¬s.size≤8)];simp
theorem aH4(s:ByteArray)(h:(s.toList == [33])=false)(h0:0<s.size)(hf:s[0].toNat<97):false=dO s:=by
 unfold dO;rw[h,bC6 s h0,decide_eq_false (by omega:¬97≤s[0].toNat)];simp
theorem aH5(s:ByteArray)(h:(s.toList == [33])=false)(h0:0<s.size)(hf:122<s[0].toNat):false=dO s:=by
 unfold dO;rw[h,bC6 s h0,decide_eq_false (by omega:¬s[0].toNat≤122)];simp
theorem yK(s:ByteArray)(x:Bool)(h:(s.toList == [33])=false)(h0:0<s.size)(h8:s.size≤8)(hf:97≤s[0].toNat)(hg:s[0].toNat≤122)(hx:x=s.data.toList.all fQ):x=dO s:=by
 unfold dO;rw[h,bC6 s h0,decide_eq_true hf,decide_eq_true hg,decide_eq_true h8,decide_eq_true (by omega:1≤s.size),hx];simp
theorem mG(s:ByteArray)(w:World)(hs:s.size≤maxLen) :
 Calls Try.prog 117 #[.string s] w fun e w'=>e=.returned (.bool (dO s))∧Below w.heap.size w w':=by
 by_cases h33:(s.toList == [33])=true
 ·have H:=lh (aH3 s h33)
  go_enter Try.func117,Try.ntmps117;go_wp2_with fail;go_ret;exact⟨eY H.out,Below.refl _ _⟩
 have h34:(s.toList == [33])=false:=Bool.eq_false_iff.2 h33;clear h33;by_cases h0:0<s.size
 ·have hz:((s.size:Int) == 0)=false:=by rw[beq_eq_false_iff_ne];omega
  have hne:¬s=ByteArray.empty:=by rintro rfl;simp at h0
  by_cases h8:8<s.size
  ·have H:=lh (aP3 s h34 h8)
   go_enter Try.func117,Try.ntmps117;go_wp2_with fail;go_ret;exact⟨eY H.out,Below.refl _ _⟩
  ·by_cases hlo:s[0].toNat<97
   ·have H:=lh (aH4 s h34 h0 hlo)
    go_enter Try.func117,Try.ntmps117;go_wp2_with fail;go_ret;exact⟨eY H.out,Below.refl _ _⟩
   ·by_cases hhi:122<s[0].toNat
    ·have H:=lh (aH5 s h34 h0 hhi)
     go_enter Try.func117,Try.ntmps117;go_wp2_with fail;go_ret;exact⟨eY H.out,Below.refl _ _⟩
    ·obtain⟨c,w1,hconv,hb1,hc1⟩:=aT3 w s
     have HC:=lh hc1;clear hc1;have hs':Hid (s.data.toList.length≤maxLen):=lh (by simpa using hs);have H:=lh (fun x=>yK s x h34 h0 (by omega) (by omega) (by omega));clear hs;go_enter Try.func117,Try.ntmps117;go_wp2_with (go_at_call 123;refine(wO s.data.toList _ _ _ hs'.out HC.out).mono ?_;rintro e w' ⟨rfl,rfl⟩);go_ret;exact⟨eY (H.out _ (by simp)),hb1⟩
 ·obtain rfl:s=ByteArray.empty:=pI s (by omega)
  have H:=lh (aP2 _ h34 h0);clear h0 hs;go_enter Try.func117,Try.ntmps117;go_wp2_with fail;go_ret;exact⟨eY H.out,Below.refl _ _⟩
def bY(n lo hi:Int):Bool:=decide (lo≤n∧n≤hi)
theorem aH6(n lo hi:Int)(b:Bool)(h:b=true↔lo≤n∧n≤hi):Ending.returned (.bool b)=.returned (.bool (bY n lo hi)):=by
 have:b=bY n lo hi:=by unfold bY;rw[Bool.eq_iff_iff,h,decide_eq_true_iff]
 rw[this]
theorem aP(n lo hi:Int)(w:World) :
 Calls Try.prog 28 #[.int .i64 n,.int .i64 lo,.int .i64 hi] w fun e w'=>e=.returned (.bool (bY n lo hi))∧w=w':=by
 go_enter Try.func28,Try.ntmps28;go_wp2_with fail
 all_goals
  go_ret;refine⟨aH6 n lo hi _ ?_,rfl⟩;simp <;> omega
theorem bP6(s:ByteArray)(k:Nat)(h:k<s.size):s.data.toList[k]'(by simpa using h)=s[k]:=rfl
theorem aT4(s:ByteArray)(h0:0<s.size)(h1:97≤s[0].toNat)(h2:s[0].toNat≤122):1≤iL s.data.toList:=by
 by_cases h:iL s.data.toList=0
 ·have:=vK s.data.toList 0 (by simpa using h0) (by omega) (by omega)
  rw[bP6 s 0 h0] at this;have h3:=(nO s[0]).2 (.inr (.inl (by omega)));rw[this] at h3;cases h3
 ·omega
theorem aH7(c:UInt8)(h:fQ c=true):(bY c.toNat 97 122=true)∨(bY c.toNat 97 122=false∧bY c.toNat 48 57=true)∨(bY c.toNat 97 122=false∧bY c.toNat 48 57=false∧((c.toNat:Int) != 95)=false):=by
 have h2:=(nO c).1 h;unfold bY;by_cases h3:97≤(c.toNat:Int)∧(c.toNat:Int)≤122
 ·exact .inl (decide_eq_true h3)
 ·by_cases h4:48≤(c.toNat:Int)∧(c.toNat:Int)≤57
  ·exact .inr (.inl ⟨decide_eq_false h3,decide_eq_true h4⟩)
  ·refine .inr (.inr ⟨decide_eq_false h3,decide_eq_false h4,?_⟩)
   have:(c.toNat:Int)=95:=by omega
   rw[this];rfl
theorem tC(c:UInt8)(h:fQ c=false):bY c.toNat 97 122=false∧bY c.toNat 48 57=false∧((c.toNat:Int) != 95)=true:=by
 have h2:¬_:=fun h3=>by have:=(nO c).2 h3;rw[h] at this;cases this
 unfold bY;refine⟨decide_eq_false (fun h=>h2 (.inr (.inl h))),decide_eq_false (fun h=>h2 (.inr (.inr h))),?_⟩;rw[bne_iff_ne];exact fun h=>h2 (.inl h)
theorem eF(s:ByteArray)(w:World)(hs:s.size≤maxLen) :
 Calls Try.prog 66 #[.string s] w fun e w'=>e=.returned (.bool (dO s))∧w=w':=by
 by_cases h33:(s.toList == [33])=true
 ·have H:=lh (aH3 s h33)
  go_enter Try.func66,Try.ntmps66;go_wp2_with fail;go_ret;exact⟨eY H.out,rfl⟩
 have h34:(s.toList == [33])=false:=Bool.eq_false_iff.2 h33;clear h33;by_cases h0:0<s.size
 ·by_cases h8:8<s.size
  ·have H:=lh (aP3 s h34 h8)
   have hb:bY s.size 1 8=false:=by unfold bY;rw[decide_eq_false];omega
   go_enter Try.func66,Try.ntmps66;go_wp2_with (go_at_call 28;refine(aP _ _ _ _).mono ?_;rintro e w' ⟨rfl,rfl⟩);go_ret;exact⟨eY H.out,rfl⟩
  ·have hb:bY s.size 1 8=true:=by unfold bY;rw[decide_eq_true];omega
   by_cases hlo:s[0].toNat<97
   ·have H:=lh (aH4 s h34 h0 hlo)
    have hc:bY s[0].toNat 97 122=false:=by unfold bY;rw[decide_eq_false];omega
    go_enter Try.func66,Try.ntmps66;go_wp2_with (go_at_call 28;refine(aP _ _ _ _).mono ?_;rintro e w' ⟨rfl,rfl⟩);go_ret;exact⟨eY H.out,rfl⟩
   ·by_cases hhi:122<s[0].toNat
    ·have H:=lh (aH5 s h34 h0 hhi)
     have hc:bY s[0].toNat 97 122=false:=by unfold bY;rw[decide_eq_false];omega
     have hu:s[0].toNat<256:=s[0].toNat_lt;go_enter Try.func66,Try.ntmps66;go_wp2_with (go_at_call 28;refine(aP _ _ _ _).mono ?_;rintro e w' ⟨rfl,rfl⟩);go_ret;exact⟨eY H.out,rfl⟩
    ·have hc:bY s[0].toNat 97 122=true:=by unfold bY;rw[decide_eq_true];omega
     have H:=lh (fun x=>yK s x h34 h0 (by omega) (by omega) (by omega));clear hs;go_enter Try.func66,Try.ntmps66;go_wp2_with (go_at_call 28;refine(aP _ _ _ _).mono ?_;rintro e w' ⟨rfl,rfl⟩);have h1b:=aT4 s h0 (by omega) (by omega);have hsz:s.data.toList.length=s.size:=by simp
     have HB:=lh (tG s.data.toList);have HSZ:=lh hsz;clear hsz hlo hhi hc h34 hb
     go_loopw[3] (fun i wr=>∃k:Nat,1≤k∧k≤s.size∧k≤iL s.data.toList∧i=.int .i64 k∧w=wr) (fun i _=>s.size-(intOf i).toNat)
     case atStart=>exact⟨1,by omega,by omega,h1b,rfl,rfl⟩
     case round =>
      obtain⟨k,hk1,hk,hkb,rfl,rfl⟩:=hrel;by_cases hlt:k<s.size
      ·have hu:s[k].toNat<256:=s[k].toNat_lt
       have hgd:=lh (bP6 s k hlt);by_cases hb:k<iL s.data.toList
       ·have hs:=aH7 s[k] (by have:=aH2 s.data.toList k (by simpa using hlt) hb;rwa [hgd.out] at this)
        rcases hs with ⟨h1⟩|⟨h1,h2⟩|⟨h1,h2,h3⟩
        all_goals
         go_wp2_with (go_at_call 28;refine(aP _ _ _ _).mono ?_;rintro e w' ⟨rfl,rfl⟩);go_roundw
         case rel=>exact⟨k+1,by omega,by omega,by omega,by go_num,trivial⟩
         case measure=>simp[intOf];omega
       ·obtain⟨h1,h2,h3⟩:=tC s[k] (by have:=vK s.data.toList k (by simpa using hlt) hkb hb;rwa [hgd.out] at this)
        have hA:Hid (s.data.toList.all fQ=false):=lh (HB.out.1 (by rw[HSZ.out];omega));go_wp2_with (go_at_call 28;refine(aP _ _ _ _).mono ?_;rintro e w' ⟨rfl,rfl⟩);go_ret;exact⟨eY (H.out _ hA.out.symm),rfl⟩
      ·have hA:Hid (s.data.toList.all fQ=true):=lh (by
        cases h:s.data.toList.all fQ
        ·have:=HB.out.2 h;rw[HSZ.out] at this;omega
        ·rfl)
       go_wp2_with fail;go_ret;exact⟨eY (H.out _ hA.out.symm),rfl⟩
 ·obtain rfl:s=ByteArray.empty:=pI s (by omega)
  have H:=lh (aP2 _ h34 h0);have hb:bY 0 1 8=false:=by unfold bY;rw[decide_eq_false];omega
  clear h0 hs;go_enter Try.func66,Try.ntmps66;go_wp2_with (go_at_call 28;refine(aP _ _ _ _).mono ?_;rintro e w' ⟨rfl,rfl⟩);go_ret;exact⟨eY H.out,rfl⟩
def partE(v:Int)(n:ByteArray)(len:Nat):Nat :=
 if v=0 then
  (if dO n=false then 1 else if 4<len then 2 else if (n.toList == [33])=true∧0<len then 1 else 0)
 else if v<1∨12<v then 3 else if n.size≠0∨0<len then 1 else 0
theorem mJ{v:Int}{n:ByteArray}{len:Nat}(h:v≠0)(h1:v<1∨12<v):partE v n len=3:=by unfold partE;rw[if_neg h,if_pos h1]
theorem nE{v:Int}{n:ByteArray}{len:Nat}(h:v≠0)(h1:¬(v<1∨12<v))(h2:n.size≠0∨0<len):partE v n len=1:=by unfold partE;rw[if_neg h,if_neg h1,if_pos h2]
theorem rY{v:Int}{n:ByteArray}{len:Nat}(h:v≠0)(h1:¬(v<1∨12<v))(h2:¬(n.size≠0∨0<len)):partE v n len=0:=by unfold partE;rw[if_neg h,if_neg h1,if_neg h2]
theorem tK{n:ByteArray}{len:Nat}(h:dO n=false):partE 0 n len=1:=by unfold partE;rw[if_pos rfl,if_pos h]
theorem tL{n:ByteArray}{len:Nat}(h:dO n=true)(h1:4<len):partE 0 n len=2:=by unfold partE;rw[if_pos rfl,if_neg (by rw[h];simp),if_pos h1]
theorem wS{n:ByteArray}{len:Nat}(h:dO n=true)(h1:¬4<len)(h2:(n.toList == [33])=true)(h3:0<len):partE 0 n len=1:=by
 unfold partE;rw[if_pos rfl,if_neg (by rw[h];simp),if_neg h1,if_pos ⟨h2,h3⟩]
theorem pO{n:ByteArray}{len:Nat}(h:dO n=true)(h1:¬4<len)(h2:¬((n.toList == [33])=true∧0<len)):partE 0 n len=0:=by
 unfold partE;rw[if_pos rfl,if_neg (by rw[h];simp),if_neg h1,if_neg h2]
theorem nF(n:ByteArray)(h:¬n.size=0):¬n.toList = []:=by
 rw[ByteArray.toList_eq];intro e;apply h;have:n.data.toList.length=0:=by rw[e];rfl
 simpa using this
theorem bI8(v:Int)(n:ByteArray)(a:Option Addr)(len cap:Nat)(w:World)(hn:n.size≤maxLen)(hlen:len≤maxLen) :
 Calls Try.prog 115 #[.agg #[.int .i64 v,.string n,.slice a len cap]] w fun e w'=>e=.returned (.int .i64 (partE v n len:Nat))∧Below w.heap.size w w':=by
 have hcl:len≤9223372036854775807:=by unfold maxLen at hlen;omega
 clear hlen;have B0:=(Below.refl w.heap.size w).alloc (nR _) (.cells #[.int .i64 v,.string n,.slice a len cap] 71);by_cases hv:v=0
 ·subst hv
  by_cases h1:dO n=true
  ·by_cases h2:4<len
   ·skip
    have H:=lh (tL h1 h2);go_enter Try.func115,Try.ntmps115;go_wp2_with (go_at_call 117;refine(mG n _ hn).mono ?_;rintro e w' ⟨rfl,hb⟩;obtain⟨hc,hf⟩:=eA hb)
    all_goals (go_ret;exact⟨cJ H.out.symm,B0.trans (hb.mono (by simp))⟩)
   ·by_cases h3:(n.toList == [33])=true
    ·by_cases h4:0<len
     ·skip
      have H:=lh (wS h1 h2 h3 h4);go_enter Try.func115,Try.ntmps115;go_wp2_with (go_at_call 117;refine(mG n _ hn).mono ?_;rintro e w' ⟨rfl,hb⟩;obtain⟨hc,hf⟩:=eA hb)
      all_goals (go_ret;exact⟨cJ H.out.symm,B0.trans (hb.mono (by simp))⟩)
     ·skip
      have H:=lh (pO h1 h2 (fun h=>h4 h.2));go_enter Try.func115,Try.ntmps115;go_wp2_with (go_at_call 117;refine(mG n _ hn).mono ?_;rintro e w' ⟨rfl,hb⟩;obtain⟨hc,hf⟩:=eA hb)
      all_goals (go_ret;exact⟨cJ H.out.symm,B0.trans (hb.mono (by simp))⟩)
    ·have h3':(n.toList == [33])=false:=Bool.eq_false_iff.2 h3
     clear h3;have H:=lh (pO h1 h2 (fun h=>by rw[h3'] at h;cases h.1));go_enter Try.func115,Try.ntmps115;go_wp2_with (go_at_call 117;refine(mG n _ hn).mono ?_;rintro e w' ⟨rfl,hb⟩;obtain⟨hc,hf⟩:=eA hb)
     all_goals (go_ret;exact⟨cJ H.out.symm,B0.trans (hb.mono (by simp))⟩)
  ·have h1':dO n=false:=Bool.eq_false_iff.2 h1
   clear h1;have H:=lh (tK (len:=len) h1');go_enter Try.func115,Try.ntmps115;go_wp2_with (go_at_call 117;refine(mG n _ hn).mono ?_;rintro e w' ⟨rfl,hb⟩;obtain⟨hc,hf⟩:=eA hb)
   all_goals (go_ret;exact⟨cJ H.out.symm,B0.trans (hb.mono (by simp))⟩)
 ·by_cases h1:v<1
  ·skip
   have H:=lh (mJ (n:=n) (len:=len) hv (.inl h1));go_enter Try.func115,Try.ntmps115;go_wp2_with fail
   all_goals (go_ret;exact⟨cJ H.out.symm,B0⟩)
  ·by_cases h2:12<v
   ·skip
    have H:=lh (mJ (n:=n) (len:=len) hv (.inr h2));go_enter Try.func115,Try.ntmps115;go_wp2_with fail
    all_goals (go_ret;exact⟨cJ H.out.symm,B0⟩)
   ·by_cases h3:n.size=0
    ·obtain rfl:=pI n h3
     by_cases h4:0<len
     ·skip
      clear h3 hn;have H:=lh (nE (n:=ByteArray.empty) hv (by omega) (.inr h4));go_enter Try.func115,Try.ntmps115;go_wp2_with fail
      all_goals (go_ret;exact⟨cJ H.out.symm,B0⟩)
     ·skip
      clear hn;have H:=lh (rY (n:=ByteArray.empty) (len:=len) hv (by omega) (by rw[h3];omega));go_enter Try.func115,Try.ntmps115;go_wp2_with fail
      all_goals (go_ret;exact⟨cJ H.out.symm,B0⟩)
    ·have hne:=nF n h3
     have H:=lh (nE (len:=len) hv (by omega) (.inl h3));go_enter Try.func115,Try.ntmps115;go_wp2_with fail
     all_goals (go_ret;exact⟨cJ H.out.symm,B0⟩)
mutual
def Tm.partsE:Tm→Nat
 | .mk v n l=>if partE v n l.length=0 then Tm.partssE l else partE v n l.length
def Tm.partssE:List Tm→Nat
 | []=>0
 | t::r=>if t.partsE=0 then Tm.partssE r else t.partsE
end
theorem Tm.partssE_at:∀(l:List Tm) (k:Nat) (h:k<l.length),(∀j (hj:j<k),(l[j]'(by omega)).partsE=0)→l[k].partsE≠0→Tm.partssE l=l[k].partsE
 | [],_,h,_,_=>by cases h
 | t::r,0,_,_,hk=>by
  have hk':t.partsE≠0:=hk;rw[Tm.partssE,if_neg hk'];rfl
 | t::r,k+1,h,hj,hk=>by
  have h0:t.partsE=0:=hj 0 (by omega);rw[Tm.partssE,if_pos h0];exact Tm.partssE_at r k (by simpa using h) (fun j hjk=>by have:=hj (j+1) (by omega);simpa using this) (by simpa using hk)
theorem Tm.partssE_none:∀(l:List Tm),(∀j (hj:j<l.length),l[j].partsE=0)→Tm.partssE l=0
 | [],_=>rfl
 | t::r,h=>by
  have h0:t.partsE=0:=h 0 (by simp);rw[Tm.partssE,if_pos h0];exact Tm.partssE_none r (fun j hj=>by have:=h (j+1) (by simpa using hj);simpa using this)
theorem Tm.partsE_part{v:Int}{n:ByteArray}{l:List Tm}(h:partE v n l.length≠0):(Tm.mk v n l).partsE=partE v n l.length:=by rw[Tm.partsE,if_neg h]
theorem Tm.partsE_args{v:Int}{n:ByteArray}{l:List Tm}(h:partE v n l.length=0):(Tm.mk v n l).partsE=Tm.partssE l:=by rw[Tm.partsE,if_pos h]
theorem qW{n:Nat}(h:n≠0):((n:Int) != 0)=true:=by rw[bne_iff_ne];omega
theorem bK0(t:Tm):∀(w:World) (ok:Nat→Prop) (a:Option Addr) (cap:Nat),t.fits→Ts w ok t.args a cap →
 Calls Try.prog 98 #[.agg #[.int .i64 t.var,.string t.name,.slice a t.args.length cap]] w fun e w'=>e=.returned (.int .i64 (t.partsE:Nat))∧Below w.heap.size w w':=by
 induction t using Tm.ind with
 | h v n l ih =>
  intro w ok a cap hfit hrd;have IH:=lh ih;clear ih;simp only[Tm.var,Tm.name,Tm.args] at hrd ⊢;have HRD:=lh hrd;have hcap:=hrd.cap;have hn:n.size≤maxLen:=hfit.2;have hlen:l.length≤maxLen:=by omega
  have hcl:l.length≤9223372036854775807:=by unfold maxLen at hcap;omega
  clear hcap hrd hfit;have HN:=lh hn;have HL:=lh hlen;clear hn hlen;have B0:=(Below.refl w.heap.size w).alloc (nR _) (.cells #[.int .i64 v,.string n,.slice a l.length cap] 71);by_cases hp:partE v n l.length=0
  ·have HE:=lh (Tm.partsE_args hp)
   go_enter Try.func98,Try.ntmps98;go_wp2_with (go_at_call 115;refine(bI8 v n a _ cap _ HN.out HL.out).mono ?_;rintro e w1 ⟨rfl,hb⟩;obtain⟨hc,hf⟩:=eA hb);have B1:=B0.trans (hb.mono (by simp))
   go_loopw[15] (fun i wr=>∃k:Nat,k≤l.length∧i=.int .i64 k∧Hid (∀j (hj:j<l.length),j<k→l[j].partsE=0)∧Below w.heap.size w wr∧w.heap.size<wr.heap.size) (fun i _=>l.length-(intOf i).toNat)
   case atStart=>exact⟨0,Nat.zero_le _,rfl,lh (fun j hj h0=>by omega),B1,by have:=hb.size;simp at this;omega⟩
   case round =>
    obtain⟨k,hk,rfl,HZ,hbr,hszr⟩:=hrel;by_cases hlt:k<l.length
    ·obtain⟨b,off,a',cap',rfl,hokb,hbs,hc3,ht⟩:=HRD.out.at k hlt
     have hcv:=(hbr.cell (p:=⟨b,off+k*3,none⟩) hbs).trans hc3.var;have hcn:=(hbr.cell (p:=⟨b,off+k*3+1,none⟩) hbs).trans hc3.name;have hca:=(hbr.cell (p:=⟨b,off+k*3+2,none⟩) hbs).trans hc3.args;have hmem:l[k]∈l:=List.getElem_mem hlt;have HC3:=lh hc3.fits;clear hc3 hc hf;by_cases hz:l[k].partsE=0
     ·go_wp2_with fail
      refine(IH.out _ hmem _ ok a' cap' HC3.out (ht.keep ((aD.below hbr ok).trans (aD.below ((bR _ _).alloc (nR _) _) ok)))).mono ?_;rintro e w' ⟨rfl,hb'⟩;obtain⟨hc',hf'⟩:=eA hb';have HZ':Hid (∀j (hj:j<l.length),j<k+1→l[j].partsE=0):=lh (fun j hj h=>by
       by_cases e:j=k
       ·subst e;exact hz
       ·exact HZ.out j hj (by omega))
      go_wp2_with fail;go_roundw
      case rel=>exact⟨k+1,by omega,by go_num,HZ'.out,(hbr.alloc (Nat.le_of_lt hszr) _).trans (hb'.mono (by simp;omega)),by have:=hb'.size;simp at this;omega⟩
      case measure=>simp[intOf];omega
     ·have HR:Hid ((Tm.mk v n l).partsE=l[k].partsE):=lh (HE.out.trans (Tm.partssE_at l k hlt (fun j hj=>HZ.out j (by omega) hj) hz))
      have hz':=qW hz;go_wp2_with fail;refine(IH.out _ hmem _ ok a' cap' HC3.out (ht.keep ((aD.below hbr ok).trans (aD.below ((bR _ _).alloc (nR _) _) ok)))).mono ?_;rintro e w' ⟨rfl,hb'⟩;obtain⟨hc',hf'⟩:=eA hb';go_wp2_with fail;go_ret;exact⟨cJ HR.out.symm,(hbr.alloc (Nat.le_of_lt hszr) _).trans (hb'.mono (by simp;omega))⟩
    ·have HR:Hid ((Tm.mk v n l).partsE=0):=lh (HE.out.trans (Tm.partssE_none l (fun j hj=>HZ.out j hj (by omega))))
     go_wp2_with fail;go_ret;exact⟨cJ HR.out.symm,hbr⟩
  ·have HE:=lh (Tm.partsE_part hp)
   have hp':=qW hp;go_enter Try.func98,Try.ntmps98;go_wp2_with (go_at_call 115;refine(bI8 v n a _ cap _ HN.out HL.out).mono ?_;rintro e w1 ⟨rfl,hb⟩;obtain⟨hc,hf⟩:=eA hb);go_ret;exact⟨cJ HE.out.symm,B0.trans (hb.mono (by simp))⟩
def Tm.checkE(t:Tm):Nat:=if 60<t.size then 2 else t.partsE
theorem qX(t:Tm)(w:World)(ok:Nat→Prop)(a:Option Addr)(cap:Nat)(hfit:t.fits)(hrd:Ts w ok t.args a cap) :
 Calls Try.prog 74 #[.agg #[.int .i64 t.var,.string t.name,.slice a t.args.length cap]] w fun e w'=>e=.returned (.int .i64 (t.checkE:Nat))∧Below w.heap.size w w':=by
 have B0:=(Below.refl w.heap.size w).alloc (nR _) (.cells #[.int .i64 t.var,.string t.name,.slice a t.args.length cap] 71);have HRD:=lh hrd;have HF:=lh hfit;clear hrd hfit;by_cases h:60<t.size
 ·have H:Hid (t.checkE=2):=lh (by unfold Tm.checkE;rw[if_pos h])
  have hm:min t.size (Int.toNat 60+1)=61:=by simp;omega
  clear h;go_enter Try.func74,Try.ntmps74;go_wp2_with (go_at_call 97;refine(bJ9 t 60 _ ok a cap (by omega) (by omega) (HRD.out.keep (aD.below ((bR _ _).alloc (nR _) _) ok))).mono ?_;rintro e w1 ⟨rfl,hb⟩;rw[hm]);go_ret;exact⟨cJ H.out.symm,B0.trans (hb.mono (by simp))⟩
 ·have H:Hid (t.checkE=t.partsE):=lh (by unfold Tm.checkE;rw[if_neg h])
  have hm:min t.size (Int.toNat 60+1)=t.size:=by simp;omega
  go_enter Try.func74,Try.ntmps74;go_wp2_with (first|(go_at_call 97;refine(bJ9 t 60 _ ok a cap (by omega) (by omega) (HRD.out.keep (aD.below ((bR _ _).alloc (nR _) _) ok))).mono ?_;rintro e w1 ⟨rfl,hb⟩;obtain⟨hc,hf⟩:=eA hb;rw[hm])|fail);refine(bK0 t _ ok a cap HF.out (HRD.out.keep ((aD.below ((bR _ _).alloc (nR _) _) ok).trans (aD.below hb ok)))).mono ?_;rintro e w2 ⟨rfl,hb2⟩;go_wp2_with fail;go_ret;exact⟨cJ H.out.symm,(B0.trans (hb.mono (by simp))).trans (hb2.mono (by have:=hb.size;simp at this;omega))⟩
def Tm.partE(t:Tm):Nat:=Go.Proofs.Ytikmgiapjigghab.partE t.var t.name t.args.length
def eH:List Tm→Nat
 | []=>0
 | t::r=>if t.partE=0 then eH r else t.partE
theorem wB(l r:List Tm):eH (l++r)=if eH l=0 then eH r else eH l:=by
 induction l with
 | nil=>simp[eH]
 | cons a l ih =>
  show (if a.partE=0 then eH (l++r) else a.partE)=(if (if a.partE=0 then eH l else a.partE)=0 then eH r else (if a.partE=0 then eH l else a.partE))
  rw[ih];by_cases h:a.partE=0 <;> simp[h]
theorem Tm.partsE_eq(t:Tm):t.partsE=eH t.parts:=by
 refine Tm.rec (motive_1:=fun t=>t.partsE=eH t.parts) (motive_2:=fun l=>Tm.partssE l=eH (Tm.partss l)) ?_ ?_ ?_ t
 ·intro v n l ih
  rw[Tm.partsE,Tm.parts,eH,ih];rfl
 ·rfl
 ·intro a r h1 h2
  rw[Tm.partssE,Tm.partss,wB,h1,h2]
theorem wT:∀(l:List Tm) (k:Nat) (h:k<l.length),(∀j (hj:j<k),(l[j]'(by omega)).partE=0)→l[k].partE≠0→eH l=l[k].partE
 | [],_,h,_,_=>by cases h
 | t::r,0,_,_,hk=>by
  have hk':t.partE≠0:=hk;rw[eH,if_neg hk'];rfl
 | t::r,k+1,h,hj,hk=>by
  have h0:t.partE=0:=hj 0 (by omega);rw[eH,if_pos h0];exact wT r k (by simpa using h) (fun j hjk=>by have:=hj (j+1) (by omega);simpa using this) (by simpa using hk)
theorem rZ:∀(l:List Tm),(∀j (hj:j<l.length),l[j].partE=0)→eH l=0
 | [],_=>rfl
 | t::r,h=>by
  have h0:t.partE=0:=h 0 (by simp);rw[eH,if_pos h0];exact rZ r (fun j hj=>by have:=h (j+1) (by simpa using hj);simpa using this)
structure oM(w:World)(ok:Nat→Prop)(P:List Tm)(a:Option Addr)(cap k:Nat)(wr:World):Prop where
 row:Ts wr ok P a cap
 zero:∀j (hj:j<P.length),j<k→P[j].partE=0
 below:Below w.heap.size w wr
 size:w.heap.size<wr.heap.size
theorem oM.next{w:World}{ok:Nat→Prop}{P:List Tm}{a:Option Addr}{cap k:Nat}{wr:World}(h:oM w ok P a cap k wr)(hk:k<P.length)(hz:P[k].partE=0)(o:Obj):oM w ok P a cap (k+1) (wr.alloc o):=by
 refine⟨h.row.keep (aD.below ((bR _ _).alloc (nR _) _) ok),fun j hj hjk=>?_,h.below.alloc (Nat.le_of_lt h.size) _,by have:=h.size;simp;omega⟩;by_cases e:j=k
 ·subst e;exact hz
 ·exact h.zero j hj (by omega)
theorem oM.stop{w:World}{ok:Nat→Prop}{P:List Tm}{a:Option Addr}{cap k:Nat}{wr:World}(h:oM w ok P a cap k wr)(hk:k<P.length){c:Nat}(hz:P[k].partE=c)(hc:c≠0)(o:Obj):eH P=c∧Below w.heap.size w (wr.alloc o) :=
 ⟨by rw[wT P k hk (fun j hj=>h.zero j (by omega) hj) (by rw[hz];exact hc),hz],h.below.alloc (Nat.le_of_lt h.size) _⟩
theorem mK{n lo hi:Int}:bY n lo hi=true↔lo≤n∧n≤hi:=by unfold bY;exact decide_eq_true_iff
theorem gO(t:Tm)(w:World)(ok:Nat→Prop)(hok:∀b,w.heap.size≤b→ok b)(a:Option Addr)(cap:Nat)(hfit:t.fits)(hrd:Ts w ok t.args a cap) :
 Calls Try.prog 63 #[.agg #[.int .i64 t.var,.string t.name,.slice a t.args.length cap]] w fun e w'=>e=.returned (.int .i64 (t.checkE:Nat))∧Below w.heap.size w w':=by
 have B0:=(Below.refl w.heap.size w).alloc (nR _) (.cells #[.int .i64 t.var,.string t.name,.slice a t.args.length cap] 71);have HRD:=lh hrd;have HF:=lh hfit;clear hrd hfit;have HOK:=lh hok;clear hok;by_cases h:60<t.size
 ·have H:Hid (t.checkE=2):=lh (by unfold Tm.checkE;rw[if_pos h])
  have hm:min t.size (Int.toNat 60+1)=61:=by simp;omega
  clear h;go_enter Try.func63,Try.ntmps63;go_wp2_with (go_at_call 93;refine(aP7 t 60 _ ok a cap (by omega) (by omega) (HRD.out.keep (aD.below ((bR _ _).alloc (nR _) _) ok))).mono ?_;rintro e w1 ⟨rfl,hb⟩;rw[hm]);go_ret;exact⟨cJ H.out.symm,B0.trans (hb.mono (by simp))⟩
 ·have H:Hid (t.checkE=eH t.parts):=lh (by unfold Tm.checkE;rw[if_neg h,Tm.partsE_eq])
  have hm:min t.size (Int.toNat 60+1)=t.size:=by simp;omega
  go_enter Try.func63,Try.ntmps63;go_wp2_with (first|(go_at_call 93;refine(aP7 t 60 _ ok a cap (by omega) (by omega) (HRD.out.keep (aD.below ((bR _ _).alloc (nR _) _) ok))).mono ?_;rintro e w1 ⟨rfl,hb⟩;obtain⟨hc,hf⟩:=eA hb;rw[hm])|fail);refine(bC8 t _ ok a cap (by omega) (fun b hb1=>HOK.out b (by have:=hb.size;simp at this;omega)) HF.out (HRD.out.keep ((aD.below ((bR _ _).alloc (nR _) _) ok).trans (aD.below hb ok)))).mono ?_;rintro e w2 ⟨a2,cap2,rfl,hts,hb2⟩;have hlen:t.parts.length≤60:=by rw[Tm.parts_length];omega
  have B2:=(B0.trans (hb.mono (by simp))).trans (hb2.mono (by have:=hb.size;simp at this;omega));have R0:oM w ok t.parts a2 cap2 0 w2:=⟨hts,fun j _ h=>by omega,B2,by have:=hb.size;have:=hb2.size;simp at *;omega⟩
  clear hc hf h hm;generalize t.parts=P at *;go_wp2_with fail
  go_loopw[4] (fun i wr=>∃k:Nat,k≤P.length∧i=.int .i64 k∧oM w ok P a2 cap2 k wr) (fun i _=>P.length-(intOf i).toNat)
  case atStart=>exact⟨0,Nat.zero_le _,rfl,R0⟩
  case round =>
   obtain⟨k,hk,rfl,hrel⟩:=hrel;by_cases hlt:k<P.length
   ·obtain⟨b,off,a',cap',rfl,hokb,hbs,hc3,ht⟩:=hrel.row.at k hlt
    have hcv:=hc3.var;have hcn:=hc3.name;have hca:=hc3.args;have HN:Hid (P[k].name.size≤maxLen):=lh hc3.fits.2;have hcap:=hrel.row.at k hlt;have hlen4:P[k].args.length≤9223372036854775807:=by have:=ht.cap;unfold maxLen at this;omega
    clear hc3 hcap;by_cases hv:P[k].var=0
    ·by_cases h1:dO P[k].name=true
     ·by_cases h2:4<P[k].args.length
      ·skip
       have HS:=hrel.stop (c:=2) hlt (by unfold Tm.partE;rw[hv];exact tL h1 h2) (by decide);have HS1:=lh HS;clear HS;go_wp2_with (first|(go_at_call 28;refine(aP _ _ _ _).mono ?_;rintro e w' ⟨rfl,rfl⟩)|(go_at_call 66;refine(eF _ _ HN.out).mono ?_;rintro e w' ⟨rfl,rfl⟩))
       all_goals (go_ret;exact⟨cJ (by rw[H.out,(HS1.out (.cells #[] 0)).1]),(HS1.out _).2⟩)
      ·by_cases h3:(P[k].name.toList == [33])=true
       ·by_cases h4:0<P[k].args.length
        ·skip
         have HS:=hrel.stop (c:=1) hlt (by unfold Tm.partE;rw[hv];exact wS h1 h2 h3 h4) (by decide);have HS1:=lh HS;clear HS;go_wp2_with (first|(go_at_call 28;refine(aP _ _ _ _).mono ?_;rintro e w' ⟨rfl,rfl⟩)|(go_at_call 66;refine(eF _ _ HN.out).mono ?_;rintro e w' ⟨rfl,rfl⟩))
         all_goals (go_ret;exact⟨cJ (by rw[H.out,(HS1.out (.cells #[] 0)).1]),(HS1.out _).2⟩)
        ·skip
         have HS:=lh (hrel.next hlt (by unfold Tm.partE;rw[hv];exact pO h1 h2 (fun h=>h4 h.2)));go_wp2_with (first|(go_at_call 28;refine(aP _ _ _ _).mono ?_;rintro e w' ⟨rfl,rfl⟩)|(go_at_call 66;refine(eF _ _ HN.out).mono ?_;rintro e w' ⟨rfl,rfl⟩))
         all_goals
          go_roundw
          case rel=>exact⟨k+1,by omega,by go_num,HS.out _⟩
          case measure=>simp[intOf];omega
       ·have h3':(P[k].name.toList == [33])=false:=Bool.eq_false_iff.2 h3
        clear h3;have HS:=lh (hrel.next hlt (by unfold Tm.partE;rw[hv];exact pO h1 h2 (fun h=>by rw[h3'] at h;cases h.1)));go_wp2_with (first|(go_at_call 28;refine(aP _ _ _ _).mono ?_;rintro e w' ⟨rfl,rfl⟩)|(go_at_call 66;refine(eF _ _ HN.out).mono ?_;rintro e w' ⟨rfl,rfl⟩))
        all_goals
         go_roundw
         case rel=>exact⟨k+1,by omega,by go_num,HS.out _⟩
         case measure=>simp[intOf];omega
     ·have h1':dO P[k].name=false:=Bool.eq_false_iff.2 h1
      clear h1;have HS:=hrel.stop (c:=1) hlt (by unfold Tm.partE;rw[hv];exact tK h1') (by decide);have HS1:=lh HS;clear HS;go_wp2_with (first|(go_at_call 28;refine(aP _ _ _ _).mono ?_;rintro e w' ⟨rfl,rfl⟩)|(go_at_call 66;refine(eF _ _ HN.out).mono ?_;rintro e w' ⟨rfl,rfl⟩))
      all_goals (go_ret;exact⟨cJ (by rw[H.out,(HS1.out (.cells #[] 0)).1]),(HS1.out _).2⟩)
    ·by_cases h1:bY P[k].var 1 12=true
     ·have h1b:=mK.1 h1
      by_cases h3:P[k].name.size=0
      ·have hne:=pI _ h3
       have HE3:=lh h3;clear h3;by_cases h4:0<P[k].args.length
       ·skip
        have HS:=hrel.stop hlt (nE hv (by omega) (.inr h4)) (by decide);have HS1:=lh HS;clear HS;go_wp2_with (first|(go_at_call 28;refine(aP _ _ _ _).mono ?_;rintro e w' ⟨rfl,rfl⟩)|(go_at_call 66;refine(eF _ _ HN.out).mono ?_;rintro e w' ⟨rfl,rfl⟩))
        all_goals (go_ret;exact⟨cJ (by rw[H.out,(HS1.out (.cells #[] 0)).1]),(HS1.out _).2⟩)
       ·skip
        have HS:=lh (hrel.next hlt (rY hv (by omega) (by rw[HE3.out];omega)));go_wp2_with (first|(go_at_call 28;refine(aP _ _ _ _).mono ?_;rintro e w' ⟨rfl,rfl⟩)|(go_at_call 66;refine(eF _ _ HN.out).mono ?_;rintro e w' ⟨rfl,rfl⟩))
        all_goals
         go_roundw
         case rel=>exact⟨k+1,by omega,by go_num,HS.out _⟩
         case measure=>simp[intOf];omega
      ·have hne:=nF _ h3
       have HS:=hrel.stop hlt (nE hv (by omega) (.inl h3)) (by decide);have HS1:=lh HS;clear HS;go_wp2_with (first|(go_at_call 28;refine(aP _ _ _ _).mono ?_;rintro e w' ⟨rfl,rfl⟩)|(go_at_call 66;refine(eF _ _ HN.out).mono ?_;rintro e w' ⟨rfl,rfl⟩))
       all_goals (go_ret;exact⟨cJ (by rw[H.out,(HS1.out (.cells #[] 0)).1]),(HS1.out _).2⟩)
     ·have h1':bY P[k].var 1 12=false:=Bool.eq_false_iff.2 h1
      have h1b:¬(1≤P[k].var∧P[k].var≤12):=fun h=>h1 (mK.2 h)
      clear h1;have HS:=hrel.stop hlt (mJ hv (by omega)) (by decide);have HS1:=lh HS;clear HS;go_wp2_with (first|(go_at_call 28;refine(aP _ _ _ _).mono ?_;rintro e w' ⟨rfl,rfl⟩)|(go_at_call 66;refine(eF _ _ HN.out).mono ?_;rintro e w' ⟨rfl,rfl⟩))
      all_goals (go_ret;exact⟨cJ (by rw[H.out,(HS1.out (.cells #[] 0)).1]),(HS1.out _).2⟩)
   ·go_wp2_with fail
    go_ret;exact⟨cJ (by rw[H.out,rZ P (fun j hj=>hrel.zero j hj (by omega))]),hrel.below⟩
structure Cl where
 head:Tm
 body:List Tm
structure Pr(w:World)(ok:Nat→Prop)(P:List Cl)(a:Option Addr)(cap:Nat):Prop where
 room:P.length≤cap∧cap≤maxLen∧(a=none→cap=0)
 elem:∀i (h:i<P.length),∃(b off:Nat) (a1 a2:Option Addr) (c1 c2:Nat),a=some ⟨b,off,none⟩∧ok b∧b<w.heap.size∧jR w b (off+i*4) P[i].head a1 c1 ∧
  w.cell? ⟨b,off+i*4+3,none⟩=some (.slice a2 P[i].body.length c2)∧Ts w ok P[i].head.args a1 c1∧Ts w ok P[i].body a2 c2
theorem Pr.keep{w w':World}{ok:Nat→Prop}(hk:aD ok w w'){P:List Cl}{a:Option Addr}{cap:Nat}(h:Pr w ok P a cap):Pr w' ok P a cap:=by
 refine⟨h.room,fun i hi=>?_⟩;obtain⟨b,off,a1,a2,c1,c2,h1,h2,h3,h4,h5,h6,h7⟩:=h.elem i hi;exact⟨b,off,a1,a2,c1,c2,h1,h2,nT h3 hk.size,⟨(hk.cell (p:=⟨b,_,none⟩) h2 h3).trans h4.var,(hk.cell (p:=⟨b,_,none⟩) h2 h3).trans h4.name,(hk.cell (p:=⟨b,_,none⟩) h2 h3).trans h4.args,h4.fits⟩,
  (hk.cell (p:=⟨b,_,none⟩) h2 h3).trans h5,h6.keep hk,h7.keep hk⟩
def mM(l:List Nat):Nat:=(l.find? (·≠0)).getD 0
theorem wU(l:List Nat)(k:Nat)(h:k<l.length)(hj:∀j (hj:j<k),l[j]'(by omega)=0)(hk:l[k]≠0):mM l=l[k]:=by
 unfold mM;rw[List.find?_eq_some_iff_getElem.2 ⟨by simpa using hk,k,h,rfl,fun j hjk=>by simpa using hj j hjk⟩];rfl
theorem sA(l:List Nat)(h:∀j (hj:j<l.length),l[j]=0):mM l=0:=by
 unfold mM;rw[List.find?_eq_none.2 (fun x hx=>by obtain⟨j,hj,rfl⟩:=List.getElem_of_mem hx;simp[h j hj])];rfl
def dI(q:List Tm):Nat:=if 6<q.length then 2 else mM (q.map Tm.checkE)
theorem sB{q:List Tm}(h:6<q.length):dI q=2:=by unfold dI;rw[if_pos h]
theorem wV{q:List Tm}(h:¬6<q.length)(k:Nat)(hk:k<q.length)(hj:∀j (hj:j<q.length),j<k→q[j].checkE=0)(hz:q[k].checkE≠0):dI q=q[k].checkE:=by
 unfold dI;rw[if_neg h,wU (q.map Tm.checkE) k (by simpa using hk) (fun j hjk=>by simpa using hj j (by omega) hjk) (by simpa using hz)];simp
theorem sC{q:List Tm}(h:¬6<q.length)(hj:∀j (hj:j<q.length),q[j].checkE=0):dI q=0:=by
 unfold dI;rw[if_neg h,sA (q.map Tm.checkE) (fun j hjk=>by simpa using hj j (by simpa using hjk))]
def tN(q:List Tm)(k:Nat):Prop:=∀j (hj:j<q.length),j<k→q[j].checkE=0
theorem tN.next{q:List Tm}{k:Nat}(h:tN q k)(hk:k<q.length)(hz:q[k].checkE=0):tN q (k+1):=fun j hj hjk=>by
 by_cases e:j=k
 ·subst e;exact hz
 ·exact h j hj (by omega)
theorem aV5(q:List Tm)(w:World)(ok:Nat→Prop)(a:Option Addr)(cap:Nat)(hrd:Ts w ok q a cap) :
 Calls Try.prog 46 #[.slice a q.length cap] w fun e w'=>e=.returned (.int .i64 (dI q:Nat))∧Below w.heap.size w w':=by
 have HRD:=lh hrd;have hcap:=hrd.cap;have hcl:q.length≤9223372036854775807:=by unfold maxLen at hcap;omega
 clear hcap hrd;by_cases h6:6<q.length
 ·have H:=lh (sB h6)
  go_enter Try.func46,Try.ntmps46;go_wp2_with fail;go_ret;exact⟨cJ H.out.symm,Below.refl _ _⟩
 ·go_enter Try.func46,Try.ntmps46
  go_wp2_with fail
  go_loopw[11] (fun i wr=>∃k:Nat,k≤q.length∧i=.int .i64 k∧tN q k∧Below w.heap.size w wr) (fun i _=>q.length-(intOf i).toNat)
  case atStart=>exact⟨0,Nat.zero_le _,rfl,fun j hj h=>by omega,Below.refl _ _⟩
  case round =>
   obtain⟨k,hk,rfl,HZ,hbr⟩:=hrel;by_cases hlt:k<q.length
   ·obtain⟨b,off,a',cap',rfl,hokb,hbs,hc3,ht⟩:=HRD.out.at k hlt
    have hcv:=(hbr.cell (p:=⟨b,off+k*3,none⟩) hbs).trans hc3.var;have hcn:=(hbr.cell (p:=⟨b,off+k*3+1,none⟩) hbs).trans hc3.name;have hca:=(hbr.cell (p:=⟨b,off+k*3+2,none⟩) hbs).trans hc3.args;have HC3:=lh hc3.fits;clear hc3;by_cases hz:q[k].checkE=0
    ·go_wp2_with fail
     refine(qX q[k] _ ok a' cap' HC3.out (ht.keep ((aD.below hbr ok).trans (aD.below ((bR _ _).alloc (nR _) _) ok)))).mono ?_;rintro e w' ⟨rfl,hb'⟩;obtain⟨hc',hf'⟩:=eA hb';have HZ':=lh (HZ.next hlt hz);go_wp2_with fail;go_roundw
     case rel=>exact⟨k+1,by omega,by go_num,HZ'.out,(hbr.alloc hbr.size _).trans (hb'.mono (by have:=hbr.size;simp;omega))⟩
     case measure=>simp[intOf];omega
    ·have HR:=lh (wV h6 k hlt HZ hz)
     have hz':=qW hz;go_wp2_with fail;refine(qX q[k] _ ok a' cap' HC3.out (ht.keep ((aD.below hbr ok).trans (aD.below ((bR _ _).alloc (nR _) _) ok)))).mono ?_;rintro e w' ⟨rfl,hb'⟩;obtain⟨hc',hf'⟩:=eA hb';go_wp2_with fail;go_ret;exact⟨cJ HR.out.symm,(hbr.alloc hbr.size _).trans (hb'.mono (by have:=hbr.size;simp;omega))⟩
   ·have HR:=lh (sC h6 (fun j hj=>HZ j hj (by omega)))
    go_wp2_with fail;go_ret;exact⟨cJ HR.out.symm,hbr⟩
theorem sE(q:List Tm)(w:World)(ok:Nat→Prop)(hok:∀b,w.heap.size≤b→ok b)(a:Option Addr)(cap:Nat)(hrd:Ts w ok q a cap) :
 Calls Try.prog 65 #[.slice a q.length cap] w fun e w'=>e=.returned (.int .i64 (dI q:Nat))∧Below w.heap.size w w':=by
 have HRD:=lh hrd;have HOK:=lh hok;have hcap:=hrd.cap;have hcl:q.length≤9223372036854775807:=by unfold maxLen at hcap;omega
 clear hcap hrd hok;by_cases h6:6<q.length
 ·have H:=lh (sB h6)
  go_enter Try.func65,Try.ntmps65;go_wp2_with fail;go_ret;exact⟨cJ H.out.symm,Below.refl _ _⟩
 ·go_enter Try.func65,Try.ntmps65
  go_wp2_with fail
  go_loopw[3] (fun i wr=>∃k:Nat,k≤q.length∧i=.int .i64 k∧tN q k∧Below w.heap.size w wr) (fun i _=>q.length-(intOf i).toNat)
  case atStart=>exact⟨0,Nat.zero_le _,rfl,fun j hj h=>by omega,Below.refl _ _⟩
  case round =>
   obtain⟨k,hk,rfl,HZ,hbr⟩:=hrel;by_cases hlt:k<q.length
   ·obtain⟨b,off,a',cap',rfl,hokb,hbs,hc3,ht⟩:=HRD.out.at k hlt
    have hcv:=(hbr.cell (p:=⟨b,off+k*3,none⟩) hbs).trans hc3.var;have hcn:=(hbr.cell (p:=⟨b,off+k*3+1,none⟩) hbs).trans hc3.name;have hca:=(hbr.cell (p:=⟨b,off+k*3+2,none⟩) hbs).trans hc3.args;have HC3:=lh hc3.fits;clear hc3;by_cases hz:q[k].checkE=0
    ·go_wp2_with fail
     refine(gO q[k] _ ok (fun b hb=>HOK.out b (Nat.le_trans hbr.size hb)) a' cap' HC3.out (ht.keep (aD.below hbr ok))).mono ?_;rintro e w' ⟨rfl,hb'⟩;have HZ':=lh (HZ.next hlt hz);go_wp2_with fail;go_roundw
     case rel=>exact⟨k+1,by omega,by go_num,HZ'.out,hbr.trans (hb'.mono hbr.size)⟩
     case measure=>simp[intOf];omega
    ·have HR:=lh (wV h6 k hlt HZ hz)
     have hz':=qW hz;go_wp2_with fail;refine(gO q[k] _ ok (fun b hb=>HOK.out b (Nat.le_trans hbr.size hb)) a' cap' HC3.out (ht.keep (aD.below hbr ok))).mono ?_;rintro e w' ⟨rfl,hb'⟩;go_wp2_with fail;go_ret;exact⟨cJ HR.out.symm,hbr.trans (hb'.mono hbr.size)⟩
   ·have HR:=lh (sC h6 (fun j hj=>HZ j hj (by omega)))
    go_wp2_with fail;go_ret;exact⟨cJ HR.out.symm,hbr⟩
def cG(n:ByteArray)(len:Nat):Bool :=
 (decide (len=0) && (n.toList == [33] || n.toList == [116,114,117,101] || n.toList == [102,97,105,108])) || (decide (len=2) && n.toList == [101,113])
theorem aV6{a b:List UInt8}(h:a=b):(a == b)=true:=by rw[h];exact beq_self_eq_true b
theorem mN{a b:List UInt8}(h:a≠b):(a == b)=false:=beq_eq_false_iff_ne.2 h
theorem wW{n:ByteArray}{len:Nat}(h:n.toList = [33]):cG n len=decide (len=0):=by unfold cG;rw[h];simp
theorem tO{n:ByteArray}{len:Nat}(h:n.toList = [116,114,117,101]):cG n len=decide (len=0):=by unfold cG;rw[h];simp
theorem tQ{n:ByteArray}{len:Nat}(h:n.toList = [102,97,105,108]):cG n len=decide (len=0):=by unfold cG;rw[h];simp
theorem oQ{n:ByteArray}{len:Nat}(h:n.toList = [101,113]):cG n len=decide (len=2):=by unfold cG;rw[h];simp
theorem tR{n:ByteArray}{len:Nat}(h1:n.toList≠[33])(h2:n.toList≠[116,114,117,101])(h3:n.toList≠[102,97,105,108])(h4:n.toList≠[101,113]):cG n len=false:=by
 unfold cG;rw[mN h1,mN h2,mN h3,mN h4];simp
theorem aN2(len:Nat)(c:Nat):((len:Int) == (c:Int))=decide (len=c):=by
 rw[Bool.eq_iff_iff,beq_iff_eq,decide_eq_true_iff];omega
theorem oR(n:ByteArray) :
 (n.toList = [33]∧(n.toList == [33])=true) ∨
 (n.toList = [116,114,117,101]∧(n.toList == [33])=false∧(n.toList == [116,114,117,101])=true) ∨
 (n.toList = [102,97,105,108]∧(n.toList == [33])=false∧(n.toList == [116,114,117,101])=false∧(n.toList == [102,97,105,108])=true) ∨
 (n.toList = [101,113]∧(n.toList == [33])=false∧(n.toList == [116,114,117,101])=false∧(n.toList == [102,97,105,108])=false∧(n.toList == [101,113])=true) ∨
 ((n.toList≠[33]∧n.toList≠[116,114,117,101]∧n.toList≠[102,97,105,108]∧n.toList≠[101,113])∧(n.toList == [33])=false∧(n.toList == [116,114,117,101])=false∧(n.toList == [102,97,105,108])=false∧(n.toList == [101,113])=false):=by
 by_cases h1:n.toList = [33]
 ·exact .inl ⟨h1,aV6 h1⟩
 by_cases h2:n.toList = [116,114,117,101]
 ·exact .inr (.inl ⟨h2,mN h1,aV6 h2⟩)
 by_cases h3:n.toList = [102,97,105,108]
 ·exact .inr (.inr (.inl ⟨h3,mN h1,mN h2,aV6 h3⟩))
 by_cases h4:n.toList = [101,113]
 ·exact .inr (.inr (.inr (.inl ⟨h4,mN h1,mN h2,mN h3,aV6 h4⟩)))
 ·exact .inr (.inr (.inr (.inr ⟨⟨h1,h2,h3,h4⟩,mN h1,mN h2,mN h3,mN h4⟩)))
theorem aI8(v:Int)(n:ByteArray)(a:Option Addr)(len cap:Nat)(w:World) :
 Calls Try.prog 86 #[.agg #[.int .i64 v,.string n,.slice a len cap]] w fun e w'=>e=.returned (.bool (cG n len))∧Below w.heap.size w w':=by
 have B0:=(Below.refl w.heap.size w).alloc (nR _) (.cells #[.int .i64 v,.string n,.slice a len cap] 71);have H0:=lh (aN2 len 0);have H2:=lh (aN2 len 2);rcases oR n with ⟨k,h1⟩|⟨k,h1,h2⟩|⟨k,h1,h2,h3⟩|⟨k,h1,h2,h3,h4⟩|⟨k,h1,h2,h3,h4⟩
 ·have H:=lh (wW (len:=len) k)
  clear k;go_enter Try.func86,Try.ntmps86;go_wp2_with fail;go_ret;exact⟨eY (H0.out.trans H.out.symm),B0⟩
 ·have H:=lh (tO (len:=len) k)
  clear k;go_enter Try.func86,Try.ntmps86;go_wp2_with fail;go_ret;exact⟨eY (H0.out.trans H.out.symm),B0⟩
 ·have H:=lh (tQ (len:=len) k)
  clear k;go_enter Try.func86,Try.ntmps86;go_wp2_with fail;go_ret;exact⟨eY (H0.out.trans H.out.symm),B0⟩
 ·have H:=lh (oQ (len:=len) k)
  clear k;go_enter Try.func86,Try.ntmps86;go_wp2_with fail;go_ret;exact⟨eY (H2.out.trans H.out.symm),B0⟩
 ·have H:=lh (tR (len:=len) k.1 k.2.1 k.2.2.1 k.2.2.2)
  clear k;go_enter Try.func86,Try.ntmps86;go_wp2_with fail;go_ret;exact⟨eY H.out.symm,B0⟩
theorem oS(n:ByteArray)(len:Nat)(w:World) :
 Calls Try.prog 64 #[.string n,.int .i64 len] w fun e w'=>e=.returned (.bool (cG n len))∧w=w':=by
 by_cases h0:len=0
 ·subst h0
  rcases oR n with ⟨k,h1⟩|⟨k,h1,h2⟩|⟨k,h1,h2,h3⟩|⟨k,h1,h2,h3,h4⟩|⟨k,h1,h2,h3,h4⟩
  ·have H:=lh (wW (len:=0) k)
   clear k;go_enter Try.func64,Try.ntmps64;go_wp2_with fail;go_ret;exact⟨eY (by rw[H.out];rfl),rfl⟩
  ·have H:=lh (tO (len:=0) k)
   clear k;go_enter Try.func64,Try.ntmps64;go_wp2_with fail;go_ret;exact⟨eY (by rw[H.out];rfl),rfl⟩
  ·have H:=lh (tQ (len:=0) k)
   clear k;go_enter Try.func64,Try.ntmps64;go_wp2_with fail;go_ret;exact⟨eY (by rw[H.out];rfl),rfl⟩
  ·have H:=lh (oQ (len:=0) k)
   clear k;go_enter Try.func64,Try.ntmps64;go_wp2_with fail;go_ret;exact⟨eY (by rw[H.out];rfl),rfl⟩
  ·have H:=lh (tR (len:=0) k.1 k.2.1 k.2.2.1 k.2.2.2)
   clear k;go_enter Try.func64,Try.ntmps64;go_wp2_with fail;go_ret;exact⟨eY (by rw[H.out]),rfl⟩
 ·by_cases h2:len=2
  ·subst h2
   by_cases h4:n.toList = [101,113]
   ·have H:=lh (oQ (len:=2) h4)
    have h5:=aV6 h4;clear h4;go_enter Try.func64,Try.ntmps64;go_wp2_with fail;go_ret;exact⟨eY (by rw[H.out];rfl),rfl⟩
   ·have H:Hid (cG n 2=false):=lh (by unfold cG;rw[mN h4];simp)
    have h5:=mN h4;clear h4;go_enter Try.func64,Try.ntmps64;go_wp2_with fail;go_ret;exact⟨eY (by rw[H.out]),rfl⟩
  ·have H:Hid (cG n len=false):=lh (by unfold cG;rw[decide_eq_false h0,decide_eq_false h2];simp)
   have h3:¬(len:Int)=2:=by omega
   go_enter Try.func64,Try.ntmps64;go_wp2_with fail;go_ret;exact⟨eY (by rw[H.out]),rfl⟩
def dJ(c:Cl):Nat :=
 if c.head.checkE≠0 then c.head.checkE else if c.head.var≠0 then 1 else if cG c.head.name c.head.args.length=true then 4 else dI c.body
theorem yW{c:Cl}(h:c.head.checkE≠0):dJ c=c.head.checkE:=by unfold dJ;rw[if_pos h]
theorem aB3{c:Cl}(h:c.head.checkE=0)(h1:c.head.var≠0):dJ c=1:=by unfold dJ;rw[if_neg (by simp[h]),if_pos h1]
theorem wC{c:Cl}(h:c.head.checkE=0)(h1:c.head.var=0)(h2:cG c.head.name c.head.args.length=true):dJ c=4:=by unfold dJ;rw[if_neg (by simp[h]),if_neg (by simp[h1]),if_pos h2]
theorem yX{c:Cl}(h:c.head.checkE=0)(h1:c.head.var=0)(h2:cG c.head.name c.head.args.length=false):dJ c=dI c.body:=by unfold dJ;rw[if_neg (by simp[h]),if_neg (by simp[h1]),if_neg (by simp[h2])]
def aY(P:List Cl):Nat:=if 30<P.length then 2 else mM (P.map dJ)
theorem nZ{q:List Cl}(h:30<q.length):aY q=2:=by unfold aY;rw[if_pos h]
theorem jE{q:List Cl}(h:¬30<q.length)(k:Nat)(hk:k<q.length)(hj:∀j (hj:j<q.length),j<k→dJ q[j]=0)(hz:dJ q[k]≠0):aY q=dJ q[k]:=by
 unfold aY;rw[if_neg h,wU (q.map dJ) k (by simpa using hk) (fun j hjk=>by simpa using hj j (by omega) hjk) (by simpa using hz)];simp
theorem oA{q:List Cl}(h:¬30<q.length)(hj:∀j (hj:j<q.length),dJ q[j]=0):aY q=0:=by
 unfold aY;rw[if_neg h,sA (q.map dJ) (fun j hjk=>by simpa using hj j (by simpa using hjk))]
def tS(q:List Cl)(k:Nat):Prop:=∀j (hj:j<q.length),j<k→dJ q[j]=0
theorem tS.next{q:List Cl}{k:Nat}(h:tS q k)(hk:k<q.length)(hz:dJ q[k]=0):tS q (k+1):=fun j hj hjk=>by
 by_cases e:j=k
 ·subst e;exact hz
 ·exact h j hj (by omega)
theorem lG(c:Cl):(c.head.checkE≠0∧dJ c=c.head.checkE)∨(c.head.checkE=0∧c.head.var≠0∧dJ c=1)∨(c.head.checkE=0∧c.head.var=0∧cG c.head.name c.head.args.length=true∧dJ c=4) ∨
 (c.head.checkE=0∧c.head.var=0∧cG c.head.name c.head.args.length=false∧dJ c=dI c.body):=by
 by_cases h:c.head.checkE=0
 ·by_cases h1:c.head.var=0
  ·cases h2:cG c.head.name c.head.args.length
   ·exact .inr (.inr (.inr ⟨h,h1,rfl,yX h h1 h2⟩))
   ·exact .inr (.inr (.inl ⟨h,h1,rfl,wC h h1 h2⟩))
  ·exact .inr (.inl ⟨h,h1,aB3 h h1⟩)
 ·exact .inl ⟨h,yW h⟩
theorem aN3(c:Cl)(w:World)(ok:Nat→Prop)(a1 a2:Option Addr)(c1 c2:Nat)(hfit:c.head.fits)(h1:Ts w ok c.head.args a1 c1)(h2:Ts w ok c.body a2 c2) :
 Calls Try.prog 73 #[.agg #[.int .i64 c.head.var,.string c.head.name,.slice a1 c.head.args.length c1,.slice a2 c.body.length c2]] w fun e w'=>e=.returned (.int .i64 (dJ c:Nat))∧Below w.heap.size w w':=by
 have B0:=(Below.refl w.heap.size w).alloc (nR _) (.cells #[.int .i64 c.head.var,.string c.head.name,.slice a1 c.head.args.length c1,.slice a2 c.body.length c2] 106);have H1:=lh h1;have H2:=lh h2;have HF:=lh hfit;clear h1 h2 hfit;rcases lG c with ⟨k1,H⟩|⟨k1,k2,H⟩|⟨k1,k2,k3,H⟩|⟨k1,k2,k3,H⟩
 ·have HR:=lh H;clear H
  have k1':=qW k1;go_enter Try.func73,Try.ntmps73;go_wp2_with fail;refine(qX c.head _ ok a1 c1 HF.out (H1.out.keep (aD.below ((bR _ _).alloc (nR _) _) ok))).mono ?_;rintro e w1 ⟨rfl,hb⟩;obtain⟨hc,hf⟩:=eA hb;go_wp2_with fail;go_ret;exact⟨cJ HR.out.symm,B0.trans (hb.mono (by simp))⟩
 ·have HR:=lh H;clear H
  go_enter Try.func73,Try.ntmps73;go_wp2_with fail;refine(qX c.head _ ok a1 c1 HF.out (H1.out.keep (aD.below ((bR _ _).alloc (nR _) _) ok))).mono ?_;rintro e w1 ⟨rfl,hb⟩;obtain⟨hc,hf⟩:=eA hb;go_wp2_with fail;go_ret;exact⟨cJ HR.out.symm,B0.trans (hb.mono (by simp))⟩
 ·have HR:=lh H;clear H
  have k2':(c.head.var != 0)=false:=by rw[k2];rfl
  clear k2;go_enter Try.func73,Try.ntmps73;go_wp2_with fail;refine(qX c.head _ ok a1 c1 HF.out (H1.out.keep (aD.below ((bR _ _).alloc (nR _) _) ok))).mono ?_;rintro e w1 ⟨rfl,hb⟩;obtain⟨hc,hf⟩:=eA hb;go_wp2_with fail;refine(aI8 c.head.var _ a1 _ c1 _).mono ?_;rintro e w2 ⟨rfl,hb2⟩;obtain⟨hc2,hf2⟩:=eA hb2;have hs1:w.heap.size<w1.heap.size:=by have:=hb.size;simp at this;omega
  go_wp2_with fail;go_ret;exact⟨cJ HR.out.symm,(B0.trans (hb.mono (by simp))).trans (hb2.mono (by omega))⟩
 ·have HR:=lh H;clear H
  have k2':(c.head.var != 0)=false:=by rw[k2];rfl
  clear k2;go_enter Try.func73,Try.ntmps73;go_wp2_with fail;refine(qX c.head _ ok a1 c1 HF.out (H1.out.keep (aD.below ((bR _ _).alloc (nR _) _) ok))).mono ?_;rintro e w1 ⟨rfl,hb⟩;obtain⟨hc,hf⟩:=eA hb;go_wp2_with fail;refine(aI8 c.head.var _ a1 _ c1 _).mono ?_;rintro e w2 ⟨rfl,hb2⟩;obtain⟨hc2,hf2⟩:=eA hb2;have hs1:w.heap.size<w1.heap.size:=by have:=hb.size;simp at this;omega
  go_wp2_with fail;refine(aV5 c.body _ ok a2 c2 (H2.out.keep (((aD.below ((bR _ _).alloc (nR _) _) ok).trans (aD.below hb ok)).trans (aD.below hb2 ok)))).mono ?_;rintro e w3 ⟨rfl,hb3⟩;go_wp2_with fail;go_ret;exact⟨cJ HR.out.symm,((B0.trans (hb.mono (by simp))).trans (hb2.mono (by omega))).trans (hb3.mono (by have:=hb2.size;omega))⟩
theorem aB4(P:List Cl)(w:World)(ok:Nat→Prop)(a:Option Addr)(cap:Nat)(hrd:Pr w ok P a cap) :
 Calls Try.prog 45 #[.slice a P.length cap] w fun e w'=>e=.returned (.int .i64 (aY P:Nat))∧Below w.heap.size w w':=by
 have HRD:=lh hrd;have hcap:=hrd.room;have hcl:P.length≤9223372036854775807:=by unfold maxLen at hcap;omega
 clear hcap hrd;by_cases h6:30<P.length
 ·have H:=lh (nZ h6)
  go_enter Try.func45,Try.ntmps45;go_wp2_with fail;go_ret;exact⟨cJ H.out.symm,Below.refl _ _⟩
 ·go_enter Try.func45,Try.ntmps45
  go_wp2_with fail
  go_loopw[11] (fun i wr=>∃k:Nat,k≤P.length∧i=.int .i64 k∧tS P k∧Below w.heap.size w wr) (fun i _=>P.length-(intOf i).toNat)
  case atStart=>exact⟨0,Nat.zero_le _,rfl,fun j hj h=>by omega,Below.refl _ _⟩
  case round =>
   obtain⟨k,hk,rfl,HZ,hbr⟩:=hrel;by_cases hlt:k<P.length
   ·obtain⟨b,off,a1,a2,c1,c2,rfl,hokb,hbs,hc3,hc4,ht1,ht2⟩:=HRD.out.elem k hlt
    have hcv:=(hbr.cell (p:=⟨b,off+k*4,none⟩) hbs).trans hc3.var;have hcn:=(hbr.cell (p:=⟨b,off+k*4+1,none⟩) hbs).trans hc3.name;have hca:=(hbr.cell (p:=⟨b,off+k*4+2,none⟩) hbs).trans hc3.args;have hcb:=(hbr.cell (p:=⟨b,off+k*4+3,none⟩) hbs).trans hc4;have HC3:=lh hc3.fits;clear hc3 hc4;have hk1:aD ok w (wr.alloc (.cells #[.int .i64 P[k].head.var,.string P[k].head.name,.slice a1 P[k].head.args.length c1,.slice a2 P[k].body.length c2] 106)):=(aD.below hbr ok).trans (aD.below ((bR _ _).alloc (nR _) _) ok);by_cases hz:dJ P[k]=0
    ·go_wp2_with fail
     refine(aN3 P[k] _ ok a1 a2 c1 c2 HC3.out (ht1.keep hk1) (ht2.keep hk1)).mono ?_;rintro e w' ⟨rfl,hb'⟩;obtain⟨hc',hf'⟩:=eA hb';have HZ':=lh (HZ.next hlt hz);go_wp2_with fail;go_roundw
     case rel=>exact⟨k+1,by omega,by go_num,HZ'.out,(hbr.alloc hbr.size _).trans (hb'.mono (by have:=hbr.size;simp;omega))⟩
     case measure=>simp[intOf];omega
    ·have HR:=lh (jE h6 k hlt HZ hz)
     have hz':=qW hz;go_wp2_with fail;refine(aN3 P[k] _ ok a1 a2 c1 c2 HC3.out (ht1.keep hk1) (ht2.keep hk1)).mono ?_;rintro e w' ⟨rfl,hb'⟩;obtain⟨hc',hf'⟩:=eA hb';go_wp2_with fail;go_ret;exact⟨cJ HR.out.symm,(hbr.alloc hbr.size _).trans (hb'.mono (by have:=hbr.size;simp;omega))⟩
   ·have HR:=lh (oA h6 (fun j hj=>HZ j hj (by omega)))
    go_wp2_with fail;go_ret;exact⟨cJ HR.out.symm,hbr⟩
end Go.Proofs.Ytikmgiapjigghab
