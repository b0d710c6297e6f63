/- Walks: the law TextBack. -/
import Derived.Deep.CutRange
import Derived.Test.YtikmgiapjigghabDoorTb10
namespace Go.Proofs.YtikmgiapjigghabDoor
open Go.RowKit

set_option maxRecDepth 100000 in
set_option maxHeartbeats 1600000 in
theorem TextBackW (p : List Cl) (q : List Tm) (s : Bs) (hls : s.length ≤ 9223372036854775807) (w : World) (a1 a2 : Option Addr) (c1 c2 : Nat) (hp : Pr w (fun _ => True) p a1 c1) (hq : Ts w (fun _ => True) q a2 c2) :
    Calls Tryd.prog 5 #[.slice a1 p.length c1, .slice a2 q.length c2, .string (strB s)] w fun e w' => e = .returned (.bool true) ∧ Below w.heap.size w w' := by
  have K1 := Lib.hid (fun u (h : Below w.heap.size w u) => hp.keep (Keeps.below h _))
  have K2 := Lib.hid (fun u (h : Below w.heap.size w u) => hq.keep (Keeps.below h _))
  have UP := Lib.hid (fun u u' (h : Below w.heap.size w u) (h' : Below u.heap.size u u') => h.trans (h'.mono h.size))
  have HTB := Lib.hid (fun u => textBegunW u)
  have HPR := Lib.hid (fun P a c u ok (h : Pr u ok P a c) => PrintW itoaAny (by omega) P u trivial ok a c h)
  have HGO := Lib.hid (fun Q a c u ok (h : Ts u ok Q a c) => GoalsW itoaAny (by omega) Q u trivial ok a c h)
  have HPA := Lib.hid (fun s hs u => ParseW s hs u)
  have HPG := Lib.hid (fun s hs u => ParseGoalsW s hs u)
  have HSP := Lib.hid (fun u a3 c3 ok (h1 : Pr u ok p a3 c3) (h2 : Pr u ok p a1 c1) => SameProgW p u ok a3 a1 c3 c1 h1 h2)
  have HST := Lib.hid (fun u ok x1 x2 d1 d2 (h1 : Ts u ok q x1 d1) (h2 : Ts u ok q x2 d2) => SameTermsW q q u ok x1 x2 d1 d2 h1 h2)
  rw [eqTs_true rfl] at HST
  have hps : (strB (printB p)).size = (printB p).length := strB_size _
  have hgs : (strB (goalsB q)).size = (goalsB q).length := strB_size _
  obtain ⟨b1, hb1⟩ : ∃ b, b = decide (programE p = 0 ∧ (printB p).length ≤ 6000) := ⟨_, rfl⟩
  obtain ⟨b2, hb2⟩ : ∃ b, b = decide (queryE q = 0 ∧ (goalsB q).length ≤ 6000) := ⟨_, rfl⟩
  have HB1 := Lib.hid hb1
  have HB2 := Lib.hid hb2
  have HLS := Lib.hid hls
  clear hp hq hb1 hb2 hls
  go_enter Tryd.func5, Tryd.ntmps5
  go_upto_region 4 with (first
    | (go_at_call 12; refine (HTB.out w).mono ?_; rintro e w1 ⟨rfl, hb⟩; have BA := Lib.hid hb; clear hb)
    | (go_at_call 6; refine (HPR.out p a1 c1 w1 _ (K1.out w1 BA.out)).mono ?_; rintro e w2 ⟨rfl, hb⟩; have BB := Lib.hid (UP.out _ _ BA.out hb); clear hb))
  go_cut [35] from 22 (fun s35 wx => s35 = .bool b1 ∧ Hid (Below w.heap.size w wx))
  case first =>
    by_cases h1 : programE p = 0
    · have e1 : ((programE p : Int) == 0) = true := by rw [h1]; rfl
      by_cases h2 : (printB p).length ≤ 6000
      · have e2 : ((printB p).length : Int) ≤ 6000 := by omega
        have e3 : b1 = true := by rw [HB1.out]; exact decide_eq_true ⟨h1, h2⟩
        clear h1 h2
        go_wp2_with fail
        go_meet
        case rel => exact ⟨by rw [e3], BB⟩
      · have e2 : ¬ ((printB p).length : Int) ≤ 6000 := by omega
        have e3 : b1 = false := by rw [HB1.out]; exact decide_eq_false fun h => h2 h.2
        clear h1 h2
        go_wp2_with fail
        go_meet
        case rel => exact ⟨by rw [e3], BB⟩
    · have e1 : ((programE p : Int) == 0) = false := by rw [beq_eq_false_iff_ne]; omega
      have e3 : b1 = false := by rw [HB1.out]; exact decide_eq_false fun h => h1 h.1
      clear h1
      go_wp2_with fail
      go_meet
      case rel => exact ⟨by rw [e3], BB⟩
  case rest =>
    obtain ⟨rfl, BC⟩ := hcut
    go_upto_if 35 with fail
    go_cut [] from 22 (fun wx => Hid (Below w.heap.size w wx))
    case first =>
      rcases Bool.eq_false_or_eq_true b1 with h | h
      · have hh := HB1.out
        rw [h] at hh
        obtain ⟨h1, h2⟩ := of_decide_eq_true hh.symm
        have hx : printB p = progTxt p := if_pos h1
        have HX := Lib.hid (HPA.out (printB p) (by omega))
        have HRD : Hid (readP (printB p) = (p, 0, 0)) := Lib.hid (by rw [hx]; rw [hx] at h2; exact back_prog h1 h2)
        subst h
        clear hh h1 h2 hx
        go_wp2_with (first
          | (go_at_call 13; refine (HX.out _).mono ?_; rintro e w3 ⟨a3, c3, he, hp3, hb⟩; rw [HRD.out] at he hp3; simp only at he hp3; subst he; have BD := Lib.hid (UP.out _ _ BC.out hb); have HP3 := Lib.hid hp3; clear hb hp3)
          | (go_at_call 17; refine (HSP.out w3 a3 c3 _ (HP3.out.mono fun _ _ _ => trivial) (K1.out w3 BD.out)).mono ?_; rintro e w4 ⟨rfl, hb⟩; have BE := Lib.hid (UP.out _ _ BD.out hb); clear hb))
        go_meet
        case rel => exact BE
      · subst h
        go_wp2_with fail
        go_meet
        case rel => exact BC
    case rest =>
      have BC := hcut
      go_upto_region 9 with (go_at_call 7; refine (HGO.out q a2 c2 wc _ (K2.out wc BC.out)).mono ?_; rintro e w2 ⟨rfl, hb⟩; have BB := Lib.hid (UP.out _ _ BC.out hb); clear hb)
      go_cut [61] from 22 (fun s61 wx => s61 = .bool b2 ∧ Hid (Below w.heap.size w wx))
      case first =>
        by_cases h1 : queryE q = 0
        · have e1 : ((queryE q : Int) == 0) = true := by rw [h1]; rfl
          by_cases h2 : (goalsB q).length ≤ 6000
          · have e2 : ((goalsB q).length : Int) ≤ 6000 := by omega
            have e3 : b2 = true := by rw [HB2.out]; exact decide_eq_true ⟨h1, h2⟩
            clear h1 h2
            go_wp2_with fail
            go_meet
            case rel => exact ⟨by rw [e3], BB⟩
          · have e2 : ¬ ((goalsB q).length : Int) ≤ 6000 := by omega
            have e3 : b2 = false := by rw [HB2.out]; exact decide_eq_false fun h => h2 h.2
            clear h1 h2
            go_wp2_with fail
            go_meet
            case rel => exact ⟨by rw [e3], BB⟩
        · have e1 : ((queryE q : Int) == 0) = false := by rw [beq_eq_false_iff_ne]; omega
          have e3 : b2 = false := by rw [HB2.out]; exact decide_eq_false fun h => h1 h.1
          clear h1
          go_wp2_with fail
          go_meet
          case rel => exact ⟨by rw [e3], BB⟩

      case rest =>
        obtain ⟨rfl, BC⟩ := hcut
        go_upto_if 61 with fail
        go_cut [] from 22 (fun wx => Hid (Below w.heap.size w wx))
        case first =>
          rcases Bool.eq_false_or_eq_true b2 with h | h
          · have hh := HB2.out
            rw [h] at hh
            obtain ⟨h1, h2⟩ := of_decide_eq_true hh.symm
            have hx : goalsB q = goalsTxt q := if_pos h1
            have HX := Lib.hid (HPG.out (goalsB q) (by omega))
            have hrd : readG (goalsB q) = (if goalsB q = trueB then [] else q, 0, 0) := by rw [hx]; rw [hx] at h2; exact back_goals h1 h2
            have tl := toL_true (strB (goalsB q))
            subst h
            clear hh h1 h2 hx
            by_cases hT : goalsB q = trueB
            · rw [if_pos hT] at hrd
              rw [decide_eq_true (by rw [hT]; rfl)] at tl
              have tn : ((strB (goalsB q)).toList != [116, 114, 117, 101]) = false := by rw [bne_eq_false_iff_eq]; exact eq_of_beq tl
              have HRD := Lib.hid hrd
              clear hrd hT
              go_wp2_with (go_at_call 14; refine (HX.out _).mono ?_; rintro e w3 ⟨a3, c3, he, hp3, hb⟩; rw [HRD.out] at he hp3; simp only [List.length_nil] at he hp3; subst he; have BD := Lib.hid (UP.out _ _ BC.out hb); clear hb hp3)
              go_meet
              case rel => exact BD
            · rw [if_neg hT] at hrd
              rw [decide_eq_false (fun e => hT (strB_inj (e.trans (show (⟨#[116, 114, 117, 101]⟩ : ByteArray) = strB trueB from rfl))))] at tl
              have tn : ((strB (goalsB q)).toList != [116, 114, 117, 101]) = true := by rw [bne_iff_ne]; exact ne_of_beq_false tl
              have HRD := Lib.hid hrd
              clear hrd hT
              go_wp2_with (first
                | (go_at_call 14; refine (HX.out _).mono ?_; rintro e w3 ⟨a3, c3, he, hp3, hb⟩; rw [HRD.out] at he hp3; simp only at he hp3; subst he; have BD := Lib.hid (UP.out _ _ BC.out hb); have HP3 := Lib.hid hp3; clear hb hp3)
                | (go_at_call 18; refine (HST.out w3 _ a3 a2 c3 c2 (HP3.out.mono fun _ _ _ => trivial) (K2.out w3 BD.out)).mono ?_; rintro e w4 ⟨rfl, hb⟩; have BE := Lib.hid (UP.out _ _ BD.out hb); clear hb))
              go_meet
              case rel => exact BE
          · subst h
            go_wp2_with fail
            go_meet
            case rel => exact BC
        case rest =>
          have BC := hcut
          have HX := Lib.hid (HPA.out s HLS.out wc)
          obtain ⟨x3, m3, n3, h3⟩ : ∃ x m n, readP s = (x, m, n) := ⟨_, _, _, rfl⟩
          have HR3 := Lib.hid h3
          clear h3
          go_upto_if 96 with (go_at_call 13; refine HX.out.mono ?_; rintro e w3 ⟨a3, c3, he, hp3, hb⟩; rw [HR3.out] at he hp3; simp only at he hp3; subst he; have BD := Lib.hid (UP.out _ _ BC.out hb); have HP3 := Lib.hid hp3; clear hb hp3)
          go_cut [] from 22 (fun wx => Hid (Below w.heap.size w wx))
          case first =>
            by_cases h1 : n3 = 0
            · have e1 : ((n3 : Int) == 0) = true := by rw [h1]; rfl
              have hrd := read_prog (h1 ▸ HR3.out)
              have HX4 : Hid (Calls Tryd.prog 6 #[.slice a3 x3.length c3] w3 fun e w' => e = .returned (.tuple #[.string (strB s), .int .i64 0]) ∧ Below w3.heap.size w3 w') := Lib.hid (by
                have h4 := HPR.out x3 a3 c3 w3 _ HP3.out
                have e4 : printB x3 = s := (if_pos hrd.1).trans hrd.2
                rw [e4, hrd.1] at h4
                exact h4)
              clear h1 hrd
              go_wp2_with (go_at_call 6; refine HX4.out.mono ?_; rintro e w4 ⟨rfl, hb⟩; have BE := Lib.hid (UP.out _ _ BD.out hb); clear hb)
              go_meet
              case rel => exact BE
            · have e1 : ((n3 : Int) == 0) = false := by rw [beq_eq_false_iff_ne]; omega
              clear h1
              go_wp2_with fail
              go_meet
              case rel => exact BD
          case rest =>
            have BC := hcut
            clear HX
            have HX := Lib.hid (HPG.out s HLS.out wc)
            obtain ⟨y3, m4, n4, h3⟩ : ∃ x m n, readG s = (x, m, n) := ⟨_, _, _, rfl⟩
            have HR4 := Lib.hid h3
            have hrg := read_goals h3
            clear h3
            by_cases h1 : n4 = 0
            · have e1 : ((n4 : Int) == 0) = true := by rw [h1]; rfl
              have e2 : ((n4 : Int) != 0) = false := by rw [h1]; rfl
              have HRG := Lib.hid (hrg.2 h1)
              have HX4 : Hid (∀ a c u ok, Ts u ok y3 a c → Calls Tryd.prog 7 #[.slice a y3.length c] u fun e w' => e = .returned (.tuple #[.string (strB s), .int .i64 0]) ∧ Below u.heap.size u w') := Lib.hid (fun a c u ok h => by
                have h4 := HGO.out y3 a c u ok h
                have e4 : goalsB y3 = s := (if_pos HRG.out.1).trans HRG.out.2
                rw [e4, HRG.out.1] at h4
                exact h4)
              clear h1 hrg
              go_wp2_with (first
                | (go_at_call 14; refine HX.out.mono ?_; rintro e w3 ⟨a3, c3, he, hp3, hb⟩; rw [HR4.out] at he hp3; simp only at he hp3; subst he; have BD := Lib.hid (UP.out _ _ BC.out hb); have HP3 := Lib.hid hp3; clear hb hp3)
                | (go_at_call 7; refine (HX4.out a3 c3 w3 _ HP3.out).mono ?_; rintro e w4 ⟨rfl, hb⟩; have BE := Lib.hid (UP.out _ _ BD.out hb); clear hb))
              go_ret
              exact ⟨rfl, BE.out⟩
            · have e1 : ((n4 : Int) == 0) = false := by rw [beq_eq_false_iff_ne]; omega
              have e2 : ((n4 : Int) != 0) = true := by rw [bne_iff_ne]; omega
              obtain rfl := hrg.1 h1
              clear h1 hrg
              go_wp2_with (go_at_call 14; refine HX.out.mono ?_; rintro e w3 ⟨a3, c3, he, hp3, hb⟩; rw [HR4.out] at he hp3; simp only [List.length_nil] at he hp3; subst he; have BD := Lib.hid (UP.out _ _ BC.out hb); clear hb hp3)
              go_ret
              exact ⟨rfl, BD.out⟩

end Go.Proofs.YtikmgiapjigghabDoor

