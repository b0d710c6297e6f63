/- Walks: the law TextParses. -/
import Derived.Test.YtikmgiapjigghabDoorTbTrg
import Derived.Test.YtikmgiapjigghabDoorTb10
namespace Go.Proofs.YtikmgiapjigghabDoor
open Go.RowKit

set_option maxRecDepth 100000 in
set_option maxHeartbeats 1600000 in
theorem TextParsesW (s : Bs) (hls : s.length ≤ 9223372036854775807) (w : World) :
    Calls Tryd.prog 4 #[.string (strB s)] w fun e w' => e = .returned (.bool true) ∧ Below w.heap.size w w' := by
  have UP := Lib.hid (fun u u' (h : Below w.heap.size w u) (h' : Below u.heap.size u u') => h.trans (h'.mono h.size))
  have HTB := Lib.hid (fun u => textBegunW u)
  have HPA := Lib.hid (ParseW s hls w)
  have HPG := Lib.hid (fun u => ParseGoalsW s hls u)
  have HRP := Lib.hid (fun u => ReadProgramW s u)
  have HRG := Lib.hid (fun u => ReadGoalsW s u)
  obtain ⟨p, n1, e1, hp⟩ : ∃ x m n, readP s = (x, m, n) := ⟨_, _, _, rfl⟩
  obtain ⟨q, n2, e2, hq⟩ : ∃ x m n, readG s = (x, m, n) := ⟨_, _, _, rfl⟩
  have RP := Lib.hid hp
  have RG := Lib.hid hq
  have HSP := Lib.hid (fun u a3 c3 a1 c1 ok (h1 : Pr u ok p a3 c3) (h2 : Pr u ok p a1 c1) => SameProgW p u ok a3 a1 c3 c1 h1 h2)
  have HST := Lib.hid (fun u ok x1 x2 d1 d2 (h1 : Ts u ok q x1 d1) (h2 : Ts u ok q x2 d2) => SameTermsW q q u ok x1 x2 d1 d2 h1 h2)
  rw [eqTs_true rfl] at HST
  clear hp hq hls
  go_enter Tryd.func4, Tryd.ntmps4
  go_wp2_with (first
    | (go_at_call 13; refine HPA.out.mono ?_; rintro e w1 ⟨a1, c1, he, hp1, hb⟩; rw [RP.out] at he hp1; simp only at he hp1; subst he; have B1 := Lib.hid hb; have P1 := Lib.hid (hp1.mono (ok' := fun _ => True) fun _ _ _ => trivial); clear hb hp1)
    | (go_at_call 14; refine (HPG.out w1).mono ?_; rintro e w2 ⟨a2, c2, he, hq1, hb⟩; rw [RG.out] at he hq1; simp only at he hq1; subst he; have B2 := Lib.hid (UP.out _ _ B1.out hb); have P2 := Lib.hid (P1.out.keep (Keeps.below hb _)); have Q2 := Lib.hid (hq1.mono (ok' := fun _ => True) fun _ _ _ => trivial); clear hb hq1)
    | (go_at_call 15; refine (HRP.out w2).mono ?_; rintro e w3 ⟨a3, c3, he, hp3, hb⟩; rw [RP.out] at he hp3; simp only at he hp3; subst he; have B3 := Lib.hid (UP.out _ _ B2.out hb); have P3 := Lib.hid (P2.out.keep (Keeps.below hb _)); have Q3 := Lib.hid (Q2.out.keep (Keeps.below hb _)); have R3 := Lib.hid (hp3.mono (ok' := fun _ => True) fun _ _ _ => trivial); clear hb hp3)
    | (go_at_call 16; refine (HRG.out w3).mono ?_; rintro e w4 ⟨a4, c4, he, hq4, hb⟩; rw [RG.out] at he hq4; simp only at he hq4; subst he; have B4 := Lib.hid (UP.out _ _ B3.out hb); have P4 := Lib.hid (P3.out.keep (Keeps.below hb _)); have Q4 := Lib.hid (Q3.out.keep (Keeps.below hb _)); have R4 := Lib.hid (R3.out.keep (Keeps.below hb _)); have S4 := Lib.hid (hq4.mono (ok' := fun _ => True) fun _ _ _ => trivial); clear hb hq4)
    | (go_at_call 12; refine (HTB.out w4).mono ?_; rintro e w5 ⟨rfl, hb⟩; have B5 := Lib.hid (UP.out _ _ B4.out hb); have P5 := Lib.hid (P4.out.keep (Keeps.below hb _)); have Q5 := Lib.hid (Q4.out.keep (Keeps.below hb _)); have R5 := Lib.hid (R4.out.keep (Keeps.below hb _)); have S5 := Lib.hid (S4.out.keep (Keeps.below hb _)); clear hb)
    | (go_at_call 17; refine (HSP.out w5 a1 c1 a3 c3 _ P5.out R5.out).mono ?_; rintro e w6 ⟨rfl, hb⟩; have B6 := Lib.hid (UP.out _ _ B5.out hb); have Q6 := Lib.hid (Q5.out.keep (Keeps.below hb _)); have S6 := Lib.hid (S5.out.keep (Keeps.below hb _)); clear hb)
    | (go_at_call 18; refine (HST.out w6 _ a2 a4 c2 c4 Q6.out S6.out).mono ?_; rintro e w7 ⟨rfl, hb⟩; have B7 := Lib.hid (UP.out _ _ B6.out hb); clear hb))
  go_ret
  exact ⟨rfl, B7.out⟩

end Go.Proofs.YtikmgiapjigghabDoor
