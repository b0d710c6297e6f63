/- Plain: what the machine of the statements' first question comes to. -/
import Derived.Test.YtikmgiapjigghabQc21
import Derived.Test.YtikmgiapjigghabQc32
namespace Go.Proofs.Ytikmgiapjigghab
open Go.RowKit
theorem aR8(s:Int)(h:0≤s∧s≤400):eX bI jQ s=0:=by
 unfold eX;rw[if_neg (fun e=>e lQ),if_neg (fun e=>e bD3),if_pos h]
theorem aY6:lD bI (eM jQ)=iR:=by
 have h:=bP8;unfold gI at h;rw[if_neg (by intro h;cases h),if_neg (show ¬((eM jQ).steps:Int)=10 by decide)] at h;exact h
theorem aY7:gA bI 1 iR=vR:=by
 have h:=bP9;unfold gI at h;rw[if_pos (show iR.now = [] from rfl)] at h;exact h
theorem bF4:bG9 bI 1 (eM jQ)=vR:=by
 unfold bG9;rw[if_pos ⟨rfl,by intro h;cases h⟩,aY6];unfold vJ;rw[if_pos ⟨rfl,rfl⟩,aY7];unfold vJ;rw[if_neg (fun h=>by cases h.2)]
theorem fW.macbig{p:List Cl}{query most:Nat}{S:MS}{P:PS}(h:fW p query most S P)(hq:query≤12)(h0:P.fin=0)(ha:∀l,l∈S.ans→l.length*48≤140737488355328∧∀t,t∈l→rO t):gV S.mac:=by
 obtain⟨r1,r2,r3⟩:=h.room h0;have hc:=h.chb h0;have h40:=(h.inv.core h0).2;have hb:=h.big;refine⟨?_,?_,?_,?_,?_,?_,ha⟩
 ·show S.H.length*32≤_;omega
 ·show (S.G.map Gn.gl).length*24≤_;rw[List.length_map];omega
 ·show (S.ch.map Cn.chi).length*40≤_;rw[List.length_map];omega
 ·show (S.T.map _).length*8≤_;rw[List.length_map];omega
 ·show (S.Q.map _).length*8≤_;rw[List.length_map,h.q];omega
 ·show S.ans.length*24≤_;rw[h.mv.ans];omega
theorem xN:fW bI 1 10 (kA jQ 1) (eM jQ):=by
 have h:=aS9 bI bD3 (most:=10) (by decide);rw[yN] at h;exact h
structure bL8(S:MS):Prop where
 run:fW bI 1 10 S vR
 first:S.first≠0
 steps:S.steps=1
 fin:S.fin=0
 ans:S.ans = [[tmA]]
 check:aM bI S.mac=0
 big:gV S.mac
theorem aE4:bL8 (kW bI (kA jQ 1)):=by
 obtain⟨h1,h2⟩:=xN.one (PgI.of lQ) (by decide) (fun _=>by decide);rw[bF4] at h1;have hf:(kW bI (kA jQ 1)).fin=0:=h1.mv.fin;have ha:(kW bI (kA jQ 1)).ans = [[tmA]]:=h1.mv.ans;refine⟨h1,h2 hf,h1.mv.steps,hf,ha,?_,?_⟩
 ·exact sT lQ (h1.mv.core hf) h1.big.2 (by rw[h1.q];decide) (by rw[h1.mv.steps];decide) (by rw[hf];decide)
 ·refine h1.macbig (by decide) rfl fun l hl=>?_
  rw[ha,List.mem_singleton] at hl;subst hl;refine⟨by decide,fun t ht=>?_⟩;rw[List.mem_singleton] at ht;subst ht;intro p hp;have e:p=tmA:=by simpa[tmA,Tm.parts,Tm.partss] using hp
  subst e;decide
theorem aE5{w:World}{ok:Nat→Prop}{b6:Nat}(hb:∀o s,w.cell? ⟨b6,o,none⟩≠some (Value.string s)){l:List Tm}{a:Option Addr}{c:Nat}(h:Ts w ok l a c):Ts w (fun b=>ok b∧b≠b6) l a c:=by
 induction h with
 | mk l a cap hcap x hc hr ih =>
  exact .mk l a cap hcap x (fun i hi=>by
   obtain⟨b,off,h1,h2,h3,h4⟩:=hc i hi;exact⟨b,off,h1,⟨h2,fun e=>hb _ _ (e ▸ h4.name)⟩,h3,h4⟩) ih
theorem aY8{w:World}{ok:Nat→Prop}{b6:Nat}(hb:∀o s,w.cell? ⟨b6,o,none⟩≠some (Value.string s)){p:List Cl}{a:Option Addr}{c:Nat}(h:Pr w ok p a c):Pr w (fun b=>ok b∧b≠b6) p a c :=
 ⟨h.room,fun i hi=>by
  obtain⟨b,off,a1,a2,c1,c2,h1,h2,h3,h4,h5,h6,h7⟩:=h.elem i hi;exact⟨b,off,a1,a2,c1,c2,h1,⟨h2,fun e=>hb _ _ (e ▸ h4.name)⟩,h3,h4,h5,aE5 hb h6,aE5 hb h7⟩⟩
theorem aK3{w:World}{b:Nat}{m:Mac}{d:MAd}(h:cL w b m d):∀o s,w.cell? ⟨b,o,none⟩≠some (Value.string s):=by
 intro o s e;have hb:=h.blk;simp only[World.cell?,hb,Mac.vals] at e;rcases o with _|_|_|_|_|_|_|_|_|o <;> simp at e
end Go.Proofs.Ytikmgiapjigghab
