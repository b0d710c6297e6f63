/- Walks: Vars, VarsOf, and what the statement on terms asks in any case. -/
import Derived.Deep.RegionHeld3
import Derived.Test.YtikmgiapjigghabQc04
set_option maxRecDepth 100000
set_option maxHeartbeats 8000000
namespace Go.Proofs.Ytikmgiapjigghab
open Go.RowKit
theorem fnW(n:ByteArray)(a:Option Addr)(len cap:Nat)(w:World) :
 Calls Try.prog 30 #[.string n,.slice a len cap] w fun e w'=>e=.returned (.agg #[.int .i64 0,.string n,.slice a len cap])∧Below w.heap.size w w':=by
 go_enter Try.func30,Try.ntmps30;go_wp2_with fail;exact bodyPost_ret (v:=.agg #[.int .i64 0,.string n,.slice a len cap]) (by simp[results,Try.results30,go_sem]) rfl ⟨rfl,(bR _ _).alloc (nR _) _⟩
theorem vaW(n:Int)(w:World) :
 Calls Try.prog 31 #[.int .i64 n] w fun e w'=>e=.returned (.agg #[.int .i64 n,.string ByteArray.empty,.slice none 0 0])∧Below w.heap.size w w':=by
 go_enter Try.func31,Try.ntmps31;go_wp2_with fail;exact bodyPost_ret (v:=.agg #[.int .i64 n,.string ByteArray.empty,.slice none 0 0]) (by simp[results,Try.results31,go_sem];rfl) rfl ⟨rfl,(bR _ _).alloc (nR _) _⟩
theorem Ts.empty(w:World)(ok:Nat→Prop):Ts w ok [] none 0 :=
 .mk [] none 0 ⟨nR _,Nat.zero_le _,fun _=>rfl⟩ (fun _=>(none,0)) (fun i hi=>by cases hi) (fun i hi=>by cases hi)
theorem vZ{w:World}{ok:Nat→Prop}(t:Tm){a:Option Addr}{cap:Nat}(ht:Ts w ok t.args a cap)(hf:t.fits)(hok:ok w.heap.size) :
 Ts (w.alloc (.cells #[.int .i64 t.var,.string t.name,.slice a t.args.length cap] 71)) ok [t] (some ⟨w.heap.size,0,none⟩) 1:=by
 have hk:aD ok w (w.alloc (.cells #[.int .i64 t.var,.string t.name,.slice a t.args.length cap] 71)):=aD.below ((bR _ _).alloc (nR _) _) ok;refine .mk [t] _ 1 ⟨nR _,by unfold maxLen;omega,fun h=>by cases h⟩ (fun _=>(a,cap)) (fun i hi=>?_) (fun i hi=>?_)
 ·have:i=0:=by simp at hi;omega
  subst this;refine⟨w.heap.size,0,rfl,hok,by simp,jR.mk ?_ ?_ ?_ hf⟩
  all_goals simp[World.cell?,World.alloc,-World.alloc_eq]
 ·have:i=0:=by simp at hi;omega
  subst this;exact ht.keep hk
theorem iO(v:Int)(n:ByteArray)(l:List Tm)(h1:-100≤v)(h2:v≤100)(hn:n.size≤100):(Tm.mk v n l).fits:=by
 unfold Tm.fits I64 maxLen;simp only[Tm.var,Tm.name];omega
theorem sY{l:List Nat}(h:mM l=0):∀j (hj:j<l.length),l[j]=0:=by
 unfold mM at h;cases h2:l.find? (·≠0) with
 | none =>
  intro j hj;have:=List.find?_eq_none.1 h2 l[j] (List.getElem_mem hj);simpa using this
 | some x =>
  rw[h2] at h;have:=List.find?_some h2;simp at this h;exact absurd h this
theorem mB{q:List Tm}(h:dI q=0):q.length≤6∧∀k (hk:k<q.length),q[k].checkE=0:=by
 unfold dI at h;by_cases h6:6<q.length
 ·rw[if_pos h6] at h;cases h
 ·rw[if_neg h6] at h
  exact⟨by omega,fun k hk=>by have:=sY h k (by simpa using hk);simpa using this⟩
theorem pL{t:Tm}(h:t.checkE=0):t.size≤60∧t.partsE=0:=by
 unfold Tm.checkE at h;by_cases h6:60<t.size
 ·rw[if_pos h6] at h;cases h
 ·rw[if_neg h6] at h;exact⟨by omega,h⟩
end Go.Proofs.Ytikmgiapjigghab
