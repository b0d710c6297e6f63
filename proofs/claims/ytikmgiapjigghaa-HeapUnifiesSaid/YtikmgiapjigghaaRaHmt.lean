/- Walk: the reference's Meet on a heap. (Printed by a small program.) -/
import Derived.Test.YtikmgiapjigghaaRaHwm
namespace Go.Proofs.Ytikmgiapjigghaa
open Go.RowKit

/-- What Meet hands back. -/
def RMPost (w : World) (bs g cap : Nat) (tv : Value) (o : HOut) (e : Ending) (w' : World) : Prop :=
  Touch (BM bs g tv) w w' ∧ ∃ tv', Fresh w tv tv' ∧
  match o with
  | .ok K B f => e = .returned (.int .i64 1) ∧ BAt 61 w' bs g cap tv' K B (4000 - f)
  | .no K B f => e = .returned (.int .i64 0) ∧ BAt 61 w' bs g cap tv' K B (4000 - f)
  | .many K B => e = .returned (.int .i64 2) ∧ BAt 61 w' bs g cap tv' K B 4001

set_option maxRecDepth 100000 in
set_option maxHeartbeats 6000000 in
theorem RMeetW {bs g cap : Nat} (f : Nat) : ∀ (K : List HC) (Bd : List Nat) (tv : Value) (x y : Nat) (w : World), f ≤ 4000 → BAt 61 w bs g cap tv K Bd (4000 - f) → HInv K → Bd.length + f ≤ 1000000 → x < K.length → y < K.length →
    Calls Try.prog 41 #[.pointer (some ⟨bs, 0, none⟩), .int .i64 x, .int .i64 y] w (RMPost w bs g cap tv (meetH K Bd f [(x, y)])) := by
  induction f using Nat.strongRecOn with
  | _ f ih =>
  intro K Bd tv x0 y0 w hf4 hst hI hL hx0 hy0
  have IH := Lib.hid ih; have HI := Lib.hid hI
  clear ih hI
  cases f with
  | zero =>
    have hst' : BAt 61 w bs g cap tv K Bd 4000 := hst
    obtain ⟨c0, c1, c2, cf, -⟩ := hst'.cells
    have f2 := cf 2
    have HS : Hid (BAt 61 (w.setCell ⟨bs, 2, none⟩ (.int .i64 4001)) bs g cap tv K Bd 4001) := Lib.hid hst'.spent
    have HT : Hid (Touch (BM bs g tv) w (w.setCell ⟨bs, 2, none⟩ (.int .i64 4001))) := Lib.hid (Touch.setCell _ (.inl rfl))
    have c2' : w.cell? ⟨bs, 2, none⟩ = some (.int .i64 4000) := c2
    clear cf hst hst' c2
    go_enter Try.func41, Try.ntmps41
    go_wp2_with fail
    go_ret
    rw [meetH_zero]
    exact ⟨HT.out, tv, .inl rfl, rfl, HS.out⟩
  | succ f =>
    obtain ⟨wk, hwk⟩ : ∃ wk, 4000 - (f + 1) = wk := ⟨_, rfl⟩
    rw [hwk] at hst
    have hwf : wk + 1 = 4000 - f := by omega
    have hle : (wk : Int) + 1 ≤ 4000 := by omega
    obtain ⟨c0, c1, c2, cf, -⟩ := hst.cells
    have f2 := cf 2
    have hs1 := hst.spent
    rw [hwf] at hs1
    have HT1 : Hid (Touch (BM bs g tv) w (w.setCell ⟨bs, 2, none⟩ (.int .i64 ((wk : Int) + 1)))) := Lib.hid (Touch.setCell _ (.inl rfl))
    obtain ⟨k0, k1, k2, -, -⟩ := hs1.cells
    have k2' : (w.setCell ⟨bs, 2, none⟩ (.int .i64 ((wk : Int) + 1))).cell? ⟨bs, 2, none⟩ = some (.int .i64 ((wk : Int) + 1)) := by rw [k2, ← hwf]; rfl
    obtain ⟨m1, hm1⟩ := end_spec (HI.out.straight x0 hx0)
    obtain ⟨m2, hm2⟩ := end_spec (HI.out.straight y0 hy0)
    have HS1 := Lib.hid hs1
    have HX := Lib.hid (HI.out.end hx0); have HY := Lib.hid (HI.out.end hy0)
    have HM1 := Lib.hid hm1; have HM2' := Lib.hid hm2
    have HM : Hid (∀ o, pairHStep K Bd f (endH K x0) (endH K y0) = .done o → meetH K Bd (f + 1) [(x0, y0)] = o) := Lib.hid (fun o h => meetH_done [] h)
    have HM2 : Hid (∀ K' B' f' m, pairHStep K Bd f (endH K x0) (endH K y0) = .go K' B' f' m → meetH K Bd (f + 1) [(x0, y0)] = meetH K' B' f' m) := Lib.hid (fun K' B' f' m h => by have := meetH_go (p := (x0, y0)) [] h; rwa [List.append_nil] at this)
    clear hs1 hm1 hm2 cf hst hwk hwf k2
    go_enter Try.func41, Try.ntmps41
    go_wp2_with fail
    clear c0 c1 c2 f2
    generalize w.setCell ⟨bs, 2, none⟩ (.int .i64 ((wk : Int) + 1)) = w1 at *
    have HE1 := Lib.hid (fun nq => (EndOfW (HS1.out.hp.below (below_drewN w1 nq)) HI.out.cells HM1.out hx0).mono (R' := fun e w' => e = .returned (.int .i64 (endH K x0 : Nat)) ∧ w' = w1.drewN nq) fun _ _ h => ⟨h.1, h.2.symm⟩)
    have HE2 := Lib.hid (fun nq => (EndOfW (HS1.out.hp.below (below_drewN w1 nq)) HI.out.cells HM2'.out hy0).mono (R' := fun e w' => e = .returned (.int .i64 (endH K y0 : Nat)) ∧ w' = w1.drewN nq) fun _ _ h => ⟨h.1, h.2.symm⟩)
    clear HM1 HM2'
    generalize endH K x0 = x at *
    generalize endH K y0 = y at *
    generalize hM : meetH K Bd (f + 1) [(x0, y0)] = M at *
    clear hM
    have DQ := below_drewN w1
    go_quiet (first
      | (go_at_call_of 31 (Value.int .i64 (x0 : Nat)); exact Calls.quiet_of_same (HE1.out _))
      | (go_at_call_of 31 (Value.int .i64 (y0 : Nat)); exact Calls.quiet_of_same (HE2.out _)))
    rename_i nq
    have hB := DQ nq
    generalize w1.drewN nq = w2 at *
    have HS2 := Lib.hid (HS1.out.keep hB)
    have HT2 := Lib.hid (HT1.out.trans (Touch.below hB))
    clear k0 k1 k2' hB DQ HE1 HE2
    obtain ⟨c0, c1, c2, cf, gf⟩ := HS2.out.cells
    obtain ⟨b', off', he, -, -, d0, d1, d2, -⟩ := HS2.out.hp.at' x HX.out.1
    injection he with he
    injection he with e1 e2
    subst e1; subst e2
    rw [Nat.zero_add] at d0 d1 d2
    obtain ⟨b'', off'', he, -, -, p0, p1, p2, -⟩ := HS2.out.hp.at' y HY.out.1
    injection he with he
    injection he with e1 e2
    subst e1; subst e2
    rw [Nat.zero_add] at p0 p1 p2
    have hxl := HX.out.1; have hyl := HY.out.1
    have hKl : K.length ≤ 9223372036854775807 := by have := HI.out.len; omega
    have HK4 : Hid (K.length ≤ 400000) := Lib.hid HI.out.len
    have DQ := below_drewN w2
    by_cases hk : (hc K x).k = 1
    · rw [hk] at d0
      by_cases hk2 : (hc K y).k = 1
      · rw [hk2] at p0
        go_wp2_with fail
        go_quiet (fail)
        rename_i nq
        have hB := DQ nq
        generalize w2.drewN nq = w3 at *
        have HS3 := Lib.hid (HS2.out.keep hB)
        have HT3 := Lib.hid (HT2.out.trans (Touch.below hB))
        clear hB DQ c0 c1 c2 cf gf d0 d1 d2 p0 p1 p2
        by_cases hxy : x = y
        · have HMM : Hid (M = .ok K Bd f) := Lib.hid (by
            have := HM2.out K Bd f [] (by unfold pairHStep; rw [if_pos ⟨hk, hxy⟩])
            rw [meetH_nil] at this
            exact this)
          have hxy' : ((x : Int) == (y : Int)) = true := by rw [beq_iff_eq]; omega
          clear hk hk2 hxy
          go_wp2_with fail
          go_ret
          rw [HMM.out]
          exact ⟨HT3.out, tv, .inl rfl, rfl, HS3.out⟩
        · have hxy' : ((x : Int) == (y : Int)) = false := by rw [beq_eq_false_iff_ne]; omega
          have HK2 := Lib.hid hk2; have HK1 := Lib.hid hk; have HXY := Lib.hid hxy
          clear hk hk2 hxy
          have hTl : y < K.length := hyl
          have HW := Lib.hid (RWithinW HI.out x f y w3 (by omega) HS3.out hTl)
          have HPS : Hid (pairHStep K Bd f x y = bindHStep K Bd x y f) := Lib.hid (by unfold pairHStep; rw [if_neg (fun h => HXY.out h.2), if_pos HK1.out])
          go_wp2_with fail
          refine HW.out.mono ?_
          intro e w4 hpost
          unfold bindHStep at HPS
          have HLE := Lib.hid ((withinH_le K x f [y]).2)
          generalize withinH K x f [y] = o at *
          cases o with
          | yes f' =>
            obtain ⟨ht4, rfl, hs4⟩ := hpost
            have HS4 := Lib.hid hs4; have HT4 := Lib.hid ht4
            have HMM := Lib.hid (HM.out _ HPS.out)
            clear hs4 ht4
            go_wp2_with fail
            go_ret
            rw [HMM.out]
            exact ⟨HT3.out.trans HT4.out, tv, .inl rfl, rfl, HS4.out⟩
          | many =>
            obtain ⟨ht4, rfl, hs4⟩ := hpost
            have HS4 := Lib.hid hs4; have HT4 := Lib.hid ht4
            have HMM := Lib.hid (HM.out _ HPS.out)
            clear hs4 ht4
            go_wp2_with fail
            go_ret
            rw [HMM.out]
            exact ⟨HT3.out.trans HT4.out, tv, .inl rfl, rfl, HS4.out⟩
          | no f' =>
            obtain ⟨ht4, rfl, hs4⟩ := hpost
            have HS4 := Lib.hid hs4; have HT4 := Lib.hid ht4
            have hmin : min f' f = f' := Nat.min_eq_left (HLE.out f' rfl)
            have HMM : Hid (M = .ok (setN K (bindHS K x y).1 (bindHS K x y).2) (Bd ++ [(bindHS K x y).1]) f') := Lib.hid (by
              have := HM2.out _ _ _ _ HPS.out
              rw [hmin, meetH_nil] at this
              exact this)
            clear hs4 ht4 hmin
            by_cases hlt : x < y
            · have hltI : (x : Int) < (y : Int) := by omega
              have HB : Hid (bindHS K x y = (y, x)) := Lib.hid (by unfold bindHS; rw [if_pos ⟨HK2.out, hlt⟩])
              obtain ⟨c0, c1, c2, cf, gf⟩ := HS4.out.cells
              obtain ⟨b', off', he, -, -, -, p1, -, -⟩ := HS4.out.hp.at' y (by omega)
              injection he with he
              injection he with e1 e2
              subst e1; subst e2
              rw [Nat.zero_add] at p1
              obtain ⟨i0, hi, hz0, hz1, hz2⟩ := info_parts Try.infoInt
              have HP := Lib.hid (HS4.out.put (v := y) (t := x) (by omega) (by omega) HK4.out)
              obtain ⟨x0, x1, x2, xf, -⟩ := HP.out.cells
              have HO1 := Lib.hid (HP.out.bd.alloc (.cells #[.int .i64 (y : Nat)] 3))
              have HTP : Hid (Touch (BM bs g tv) w (w4.setCell ⟨g, y * 3 + 1, none⟩ (.int .i64 (x : Nat)))) := Lib.hid ((HT3.out.trans HT4.out).trans (Touch.setCell _ (.inr (.inl rfl))))
              go_wp2_with (first
                | (at_builtin; have _g := HO1; refine wpList_append_fresh _ rfl _ _ 44 rfl 0 3 i0 _ 1 8 Try.underlying44 hi hz0 hz1 hz2 rfl (by decide) _ _ _ rfl HO1.out ⟨w4.heap.size, 0, none⟩ 1 1 [.int .i64 (y : Nat)] rfl rfl ?a1 ?a2 ?a3 ?a4 ?a5 ?_))
              case a1 =>
                have := one_cell (w4.setCell ⟨g, y * 3 + 1, none⟩ (.int .i64 (x : Nat))) (.int .i64 (y : Nat)) 3
                rwa [sSz] at this
              case a2 => intro u hu; simp only [List.mem_singleton] at hu; subst hu; rfl
              case a3 => unfold maxLen; omega
              case a4 => omega
              case a5 => exact Nat.zero_le _
              · intro tv' w5 hown3 hg3 hfr3
                have hp := HP.out.push ((Below.refl _ _).alloc (Nat.le_refl _) (.cells #[.int .i64 (y : Nat)] 3)) hown3 hg3 hfr3
                have HPP := Lib.hid hp.2
                obtain ⟨g3, cap3, rfl⟩ := own_shape hown3 (by omega)
                have k1 : w5.cell? ⟨bs, 1, none⟩ = some tv := by simp [World.cell?, hp.1]
                have kf : ∀ o, w5.frozen? ⟨bs, o, none⟩ = false := fun o => by simp [World.frozen?, hp.1]
                clear hp hown3 hg3 hfr3
                go_wp2_with fail
                go_ret
                rw [HMM.out]
                exact ⟨HTP.out.trans HPP.out.2.1, _, by
                  rcases HPP.out.2.2 with e | e
                  · exact .inl e
                  · exact .inr fun gg hgg => by have := e gg hgg; rw [sSz] at this; have := (HT3.out.trans HT4.out).size; omega, rfl, by rw [HB.out]; exact HPP.out.1⟩
            · have hlt2 : y < x := by have := HXY.out; omega
              have HB : Hid (bindHS K x y = (x, y)) := Lib.hid (by unfold bindHS; rw [if_neg (fun h => hlt h.2)])
              obtain ⟨c0, c1, c2, cf, gf⟩ := HS4.out.cells
              obtain ⟨b', off', he, -, -, -, p1, -, -⟩ := HS4.out.hp.at' x (by omega)
              injection he with he
              injection he with e1 e2
              subst e1; subst e2
              rw [Nat.zero_add] at p1
              obtain ⟨i0, hi, hz0, hz1, hz2⟩ := info_parts Try.infoInt
              have HP := Lib.hid (HS4.out.put (v := x) (t := y) (by omega) (by omega) HK4.out)
              obtain ⟨x0, x1, x2, xf, -⟩ := HP.out.cells
              have HO1 := Lib.hid (HP.out.bd.alloc (.cells #[.int .i64 (x : Nat)] 3))
              have HTP : Hid (Touch (BM bs g tv) w (w4.setCell ⟨g, x * 3 + 1, none⟩ (.int .i64 (y : Nat)))) := Lib.hid ((HT3.out.trans HT4.out).trans (Touch.setCell _ (.inr (.inl rfl))))
              go_wp2_with (first
                | (at_builtin; have _g := HO1; refine wpList_append_fresh _ rfl _ _ 44 rfl 0 3 i0 _ 1 8 Try.underlying44 hi hz0 hz1 hz2 rfl (by decide) _ _ _ rfl HO1.out ⟨w4.heap.size, 0, none⟩ 1 1 [.int .i64 (x : Nat)] rfl rfl ?b1 ?b2 ?b3 ?b4 ?b5 ?_))
              case b1 =>
                have := one_cell (w4.setCell ⟨g, x * 3 + 1, none⟩ (.int .i64 (y : Nat))) (.int .i64 (x : Nat)) 3
                rwa [sSz] at this
              case b2 => intro u hu; simp only [List.mem_singleton] at hu; subst hu; rfl
              case b3 => unfold maxLen; omega
              case b4 => omega
              case b5 => exact Nat.zero_le _
              · intro tv' w5 hown3 hg3 hfr3
                have hp := HP.out.push ((Below.refl _ _).alloc (Nat.le_refl _) (.cells #[.int .i64 (x : Nat)] 3)) hown3 hg3 hfr3
                have HPP := Lib.hid hp.2
                obtain ⟨g3, cap3, rfl⟩ := own_shape hown3 (by omega)
                have k1 : w5.cell? ⟨bs, 1, none⟩ = some tv := by simp [World.cell?, hp.1]
                have kf : ∀ o, w5.frozen? ⟨bs, o, none⟩ = false := fun o => by simp [World.frozen?, hp.1]
                clear hp hown3 hg3 hfr3
                go_wp2_with fail
                go_ret
                rw [HMM.out]
                exact ⟨HTP.out.trans HPP.out.2.1, _, by
                  rcases HPP.out.2.2 with e | e
                  · exact .inl e
                  · exact .inr fun gg hgg => by have := e gg hgg; rw [sSz] at this; have := (HT3.out.trans HT4.out).size; omega, rfl, by rw [HB.out]; exact HPP.out.1⟩
      · have hk2' : ((hc K y).k == 1) = false := by simpa using hk2
        go_wp2_with fail
        go_quiet (fail)
        rename_i nq
        have hB := DQ nq
        generalize w2.drewN nq = w3 at *
        have HS3 := Lib.hid (HS2.out.keep hB)
        have HT3 := Lib.hid (HT2.out.trans (Touch.below hB))
        clear hB DQ c0 c1 c2 cf gf d0 d1 d2 p0 p1 p2
        have HK2 := Lib.hid hk2; have HK1 := Lib.hid hk
        clear hk hk2
        have hTl : y < K.length := hyl
        have HW := Lib.hid (RWithinW HI.out x f y w3 (by omega) HS3.out hTl)
        have HPS : Hid (pairHStep K Bd f x y = bindHStep K Bd x y f) := Lib.hid (by unfold pairHStep; rw [if_neg (fun h : (hc K x).k = 1 ∧ x = y => HK2.out (h.2 ▸ h.1)), if_pos HK1.out])
        go_wp2_with fail
        refine HW.out.mono ?_
        intro e w4 hpost
        unfold bindHStep at HPS
        have HLE := Lib.hid ((withinH_le K x f [y]).2)
        generalize withinH K x f [y] = o at *
        cases o with
        | yes f' =>
          obtain ⟨ht4, rfl, hs4⟩ := hpost
          have HS4 := Lib.hid hs4; have HT4 := Lib.hid ht4
          have HMM := Lib.hid (HM.out _ HPS.out)
          clear hs4 ht4
          go_wp2_with fail
          go_ret
          rw [HMM.out]
          exact ⟨HT3.out.trans HT4.out, tv, .inl rfl, rfl, HS4.out⟩
        | many =>
          obtain ⟨ht4, rfl, hs4⟩ := hpost
          have HS4 := Lib.hid hs4; have HT4 := Lib.hid ht4
          have HMM := Lib.hid (HM.out _ HPS.out)
          clear hs4 ht4
          go_wp2_with fail
          go_ret
          rw [HMM.out]
          exact ⟨HT3.out.trans HT4.out, tv, .inl rfl, rfl, HS4.out⟩
        | no f' =>
          obtain ⟨ht4, rfl, hs4⟩ := hpost
          have HS4 := Lib.hid hs4; have HT4 := Lib.hid ht4
          have hmin : min f' f = f' := Nat.min_eq_left (HLE.out f' rfl)
          have HMM : Hid (M = .ok (setN K (bindHS K x y).1 (bindHS K x y).2) (Bd ++ [(bindHS K x y).1]) f') := Lib.hid (by
            have := HM2.out _ _ _ _ HPS.out
            rw [hmin, meetH_nil] at this
            exact this)
          clear hs4 ht4 hmin
          have HB : Hid (bindHS K x y = (x, y)) := Lib.hid (by unfold bindHS; rw [if_neg (fun h => HK2.out h.1)])
          obtain ⟨c0, c1, c2, cf, gf⟩ := HS4.out.cells
          obtain ⟨b', off', he, -, -, -, p1, -, -⟩ := HS4.out.hp.at' x (by omega)
          injection he with he
          injection he with e1 e2
          subst e1; subst e2
          rw [Nat.zero_add] at p1
          obtain ⟨i0, hi, hz0, hz1, hz2⟩ := info_parts Try.infoInt
          have HP := Lib.hid (HS4.out.put (v := x) (t := y) (by omega) (by omega) HK4.out)
          obtain ⟨x0, x1, x2, xf, -⟩ := HP.out.cells
          have HO1 := Lib.hid (HP.out.bd.alloc (.cells #[.int .i64 (x : Nat)] 3))
          have HTP : Hid (Touch (BM bs g tv) w (w4.setCell ⟨g, x * 3 + 1, none⟩ (.int .i64 (y : Nat)))) := Lib.hid ((HT3.out.trans HT4.out).trans (Touch.setCell _ (.inr (.inl rfl))))
          go_wp2_with (first
            | (at_builtin; have _g := HO1; refine wpList_append_fresh _ rfl _ _ 44 rfl 0 3 i0 _ 1 8 Try.underlying44 hi hz0 hz1 hz2 rfl (by decide) _ _ _ rfl HO1.out ⟨w4.heap.size, 0, none⟩ 1 1 [.int .i64 (x : Nat)] rfl rfl ?c1 ?c2 ?c3 ?c4 ?c5 ?_))
          case c1 =>
            have := one_cell (w4.setCell ⟨g, x * 3 + 1, none⟩ (.int .i64 (y : Nat))) (.int .i64 (x : Nat)) 3
            rwa [sSz] at this
          case c2 => intro u hu; simp only [List.mem_singleton] at hu; subst hu; rfl
          case c3 => unfold maxLen; omega
          case c4 => omega
          case c5 => exact Nat.zero_le _
          · intro tv' w5 hown3 hg3 hfr3
            have hp := HP.out.push ((Below.refl _ _).alloc (Nat.le_refl _) (.cells #[.int .i64 (x : Nat)] 3)) hown3 hg3 hfr3
            have HPP := Lib.hid hp.2
            obtain ⟨g3, cap3, rfl⟩ := own_shape hown3 (by omega)
            have k1 : w5.cell? ⟨bs, 1, none⟩ = some tv := by simp [World.cell?, hp.1]
            have kf : ∀ o, w5.frozen? ⟨bs, o, none⟩ = false := fun o => by simp [World.frozen?, hp.1]
            clear hp hown3 hg3 hfr3
            go_wp2_with fail
            go_ret
            rw [HMM.out]
            exact ⟨HTP.out.trans HPP.out.2.1, _, by
              rcases HPP.out.2.2 with e | e
              · exact .inl e
              · exact .inr fun gg hgg => by have := e gg hgg; rw [sSz] at this; have := (HT3.out.trans HT4.out).size; omega, rfl, by rw [HB.out]; exact HPP.out.1⟩
    · have hk' : ((hc K x).k == 1) = false := by simpa using hk
      by_cases hk2 : (hc K y).k = 1
      · rw [hk2] at p0
        go_wp2_with fail
        go_quiet (fail)
        rename_i nq
        have hB := DQ nq
        generalize w2.drewN nq = w3 at *
        have HS3 := Lib.hid (HS2.out.keep hB)
        have HT3 := Lib.hid (HT2.out.trans (Touch.below hB))
        clear hB DQ c0 c1 c2 cf gf d0 d1 d2 p0 p1 p2
        have HK2 := Lib.hid hk2; have HK1 := Lib.hid hk
        clear hk hk2
        have hTl : x < K.length := hxl
        have HW := Lib.hid (RWithinW HI.out y f x w3 (by omega) HS3.out hTl)
        have HPS : Hid (pairHStep K Bd f x y = bindHStep K Bd y x f) := Lib.hid (by unfold pairHStep; rw [if_neg (fun h => HK1.out h.1), if_neg HK1.out, if_pos HK2.out])
        go_wp2_with fail
        refine HW.out.mono ?_
        intro e w4 hpost
        unfold bindHStep at HPS
        have HLE := Lib.hid ((withinH_le K y f [x]).2)
        generalize withinH K y f [x] = o at *
        cases o with
        | yes f' =>
          obtain ⟨ht4, rfl, hs4⟩ := hpost
          have HS4 := Lib.hid hs4; have HT4 := Lib.hid ht4
          have HMM := Lib.hid (HM.out _ HPS.out)
          clear hs4 ht4
          go_wp2_with fail
          go_ret
          rw [HMM.out]
          exact ⟨HT3.out.trans HT4.out, tv, .inl rfl, rfl, HS4.out⟩
        | many =>
          obtain ⟨ht4, rfl, hs4⟩ := hpost
          have HS4 := Lib.hid hs4; have HT4 := Lib.hid ht4
          have HMM := Lib.hid (HM.out _ HPS.out)
          clear hs4 ht4
          go_wp2_with fail
          go_ret
          rw [HMM.out]
          exact ⟨HT3.out.trans HT4.out, tv, .inl rfl, rfl, HS4.out⟩
        | no f' =>
          obtain ⟨ht4, rfl, hs4⟩ := hpost
          have HS4 := Lib.hid hs4; have HT4 := Lib.hid ht4
          have hmin : min f' f = f' := Nat.min_eq_left (HLE.out f' rfl)
          have HMM : Hid (M = .ok (setN K (bindHS K y x).1 (bindHS K y x).2) (Bd ++ [(bindHS K y x).1]) f') := Lib.hid (by
            have := HM2.out _ _ _ _ HPS.out
            rw [hmin, meetH_nil] at this
            exact this)
          clear hs4 ht4 hmin
          have HB : Hid (bindHS K y x = (y, x)) := Lib.hid (by unfold bindHS; rw [if_neg (fun h => HK1.out h.1)])
          obtain ⟨c0, c1, c2, cf, gf⟩ := HS4.out.cells
          obtain ⟨b', off', he, -, -, -, p1, -, -⟩ := HS4.out.hp.at' y (by omega)
          injection he with he
          injection he with e1 e2
          subst e1; subst e2
          rw [Nat.zero_add] at p1
          obtain ⟨i0, hi, hz0, hz1, hz2⟩ := info_parts Try.infoInt
          have HP := Lib.hid (HS4.out.put (v := y) (t := x) (by omega) (by omega) HK4.out)
          obtain ⟨x0, x1, x2, xf, -⟩ := HP.out.cells
          have HO1 := Lib.hid (HP.out.bd.alloc (.cells #[.int .i64 (y : Nat)] 3))
          have HTP : Hid (Touch (BM bs g tv) w (w4.setCell ⟨g, y * 3 + 1, none⟩ (.int .i64 (x : Nat)))) := Lib.hid ((HT3.out.trans HT4.out).trans (Touch.setCell _ (.inr (.inl rfl))))
          go_wp2_with (first
            | (at_builtin; have _g := HO1; refine wpList_append_fresh _ rfl _ _ 44 rfl 0 3 i0 _ 1 8 Try.underlying44 hi hz0 hz1 hz2 rfl (by decide) _ _ _ rfl HO1.out ⟨w4.heap.size, 0, none⟩ 1 1 [.int .i64 (y : Nat)] rfl rfl ?d1 ?d2 ?d3 ?d4 ?d5 ?_))
          case d1 =>
            have := one_cell (w4.setCell ⟨g, y * 3 + 1, none⟩ (.int .i64 (x : Nat))) (.int .i64 (y : Nat)) 3
            rwa [sSz] at this
          case d2 => intro u hu; simp only [List.mem_singleton] at hu; subst hu; rfl
          case d3 => unfold maxLen; omega
          case d4 => omega
          case d5 => exact Nat.zero_le _
          · intro tv' w5 hown3 hg3 hfr3
            have hp := HP.out.push ((Below.refl _ _).alloc (Nat.le_refl _) (.cells #[.int .i64 (y : Nat)] 3)) hown3 hg3 hfr3
            have HPP := Lib.hid hp.2
            obtain ⟨g3, cap3, rfl⟩ := own_shape hown3 (by omega)
            have k1 : w5.cell? ⟨bs, 1, none⟩ = some tv := by simp [World.cell?, hp.1]
            have kf : ∀ o, w5.frozen? ⟨bs, o, none⟩ = false := fun o => by simp [World.frozen?, hp.1]
            clear hp hown3 hg3 hfr3
            go_wp2_with fail
            go_ret
            rw [HMM.out]
            exact ⟨HTP.out.trans HPP.out.2.1, _, by
              rcases HPP.out.2.2 with e | e
              · exact .inl e
              · exact .inr fun gg hgg => by have := e gg hgg; rw [sSz] at this; have := (HT3.out.trans HT4.out).size; omega, rfl, by rw [HB.out]; exact HPP.out.1⟩
      · have hk2' : ((hc K y).k == 1) = false := by simpa using hk2
        have HPS : Hid (pairHStep K Bd f x y = if (hc K x).name ≠ (hc K y).name ∨ (hc K x).n ≠ (hc K y).n then .done (.no K Bd f) else .go K Bd f ((argsH K x).zip (argsH K y))) := Lib.hid (by
          unfold pairHStep; rw [if_neg (fun h => hk h.1), if_neg hk, if_neg hk2])
        obtain ⟨n, hn, hn4, hxn⟩ : ∃ n : Nat, (hc K x).n = (n : Int) ∧ n ≤ 4 ∧ x + n < K.length := by
          rcases cell_right (HI.out.cells x hxl) with ⟨h1, _⟩ | ⟨_, _, h2, h3, h4, _⟩
          · exact absurd h1 hk
          · exact ⟨(hc K x).n.toNat, by omega, h3, h4⟩
        obtain ⟨n2, hn2, hn24, hyn⟩ : ∃ n : Nat, (hc K y).n = (n : Int) ∧ n ≤ 4 ∧ y + n < K.length := by
          rcases cell_right (HI.out.cells y hyl) with ⟨h1, _⟩ | ⟨_, _, h2, h3, h4, _⟩
          · exact absurd h1 hk2
          · exact ⟨(hc K y).n.toNat, by omega, h3, h4⟩
        have HAX := Lib.hid (fun k hk2 => argsH_drop (k := k) hn hk2)
        have HAY := Lib.hid (fun k hk2 => argsH_drop (k := k) hn2 hk2)
        have HLX : Hid ((argsH K x).length = n) := Lib.hid (by unfold argsH; rw [hn]; simp)
        have HLY : Hid ((argsH K y).length = n2) := Lib.hid (by unfold argsH; rw [hn2]; simp)
        have HNN := Lib.hid hn; have HNN2 := Lib.hid hn2
        go_wp2_with fail
        go_quiet (fail)
        rename_i nq
        have hB := DQ nq
        generalize w2.drewN nq = w3 at *
        have HS3 := Lib.hid (HS2.out.keep hB)
        have HT3 := Lib.hid (HT2.out.trans (Touch.below hB))
        clear hB DQ c0 c1 c2 cf gf d0 d1 d2 p0 p1 p2
        obtain ⟨c0, c1, c2, cf, gf⟩ := HS3.out.cells
        obtain ⟨b', off', he, -, -, d0, d1, d2, -⟩ := HS3.out.hp.at' x hxl
        injection he with he
        injection he with e1 e2
        subst e1; subst e2
        rw [Nat.zero_add] at d0 d1 d2
        obtain ⟨b'', off'', he, -, -, p0, p1, p2, -⟩ := HS3.out.hp.at' y hyl
        injection he with he
        injection he with e1 e2
        subst e1; subst e2
        rw [Nat.zero_add] at p0 p1 p2
        rw [hn] at d1
        rw [hn2] at p1
        clear hk hk2 hn hn2 c1 c2 cf gf d0 p0 hk' hk2'
        have DQ := below_drewN w3
        have e3 : ∀ nq, (w3.drewN nq).cell? ⟨bs, 0, none⟩ = some (.slice (some ⟨g, 0, none⟩) K.length cap) ∧ (w3.drewN nq).cell? ⟨g, x * 3 + 1, none⟩ = some (.int .i64 (n : Int)) := fun nq => ⟨c0, d1⟩
        by_cases hnm : (hc K x).name.toList = (hc K y).name.toList
        · have HNM : Hid ((hc K x).name = (hc K y).name) := Lib.hid (by
            rw [ByteArray.toList_eq, ByteArray.toList_eq] at hnm
            exact ByteArray.ext (Array.toList_inj.1 hnm))
          by_cases hnn : n = n2
          · have hnn' : ((n : Int) != (n2 : Int)) = false := by rw [hnn]; simp
            have HMG : Hid (M = meetH K Bd f ((argsH K x).zip (argsH K y))) := Lib.hid (HM2.out _ _ _ _ (by
              rw [HPS.out, if_neg]
              rintro (h | h)
              · exact h HNM.out
              · rw [HNN.out, HNN2.out, hnn] at h; exact h rfl))
            have HNQ := Lib.hid hnn
            clear hnn
            go_wp2_with fail
            go_quiet (fail)
            rename_i nq
            have hB := DQ nq
            obtain ⟨g0, g1⟩ := e3 nq
            generalize w3.drewN nq = w4 at *
            have HS4 := Lib.hid (HS3.out.keep hB)
            have HT4 := Lib.hid (HT3.out.trans (Touch.below hB))
            clear hB DQ e3 c0 d1 d2 p1 p2 hnm
            go_wp2_with fail
            clear g0 g1
            go_loopw [13] (fun v13 wr => ∃ (i : Nat) (K' : List HC) (B' : List Nat) (tv' : Value) (fk : Nat), i ≤ n ∧ v13 = .int .i64 ((i : Int) + 1) ∧ Hid (M = meetH K' B' fk (((argsH K x).zip (argsH K y)).drop i)) ∧ BAt 61 wr bs g cap tv' K' B' (4000 - fk) ∧ HInv K' ∧ Hid (K'.length = K.length) ∧ B'.length + fk ≤ 1000000 ∧ fk ≤ f ∧ Hid (Fresh w tv tv') ∧ Hid (Touch (BM bs g tv) w wr)) (fun v13 _ => n + 1 - (intOf v13).toNat)
            case atStart => exact ⟨0, K, Bd, tv, f, Nat.zero_le _, rfl, HMG, HS4.out, HI.out, Lib.hid rfl, by omega, Nat.le_refl _, Lib.hid (.inl rfl), HT4⟩
            case round =>
              obtain ⟨i, K', B', tv', fk, hi, rfl, HME, hbat, hinv, HKL, hbl, hfk, HFR, HTT⟩ := hrel
              have HBA := Lib.hid hbat; have HIV := Lib.hid hinv
              clear hbat hinv
              by_cases hlt : i < n
              · have hlt2 : i < n2 := by rw [← HNQ.out]; exact hlt
                have HCL := Lib.hid (IH.out fk (by omega) K' B' tv' (x + 1 + i) (y + 1 + i) wr (by omega) HBA.out HIV.out hbl (by rw [HKL.out]; omega) (by rw [HKL.out]; omega))
                have hsplit : meetH K' B' fk (((argsH K x).zip (argsH K y)).drop i) = (meetH K' B' fk [(x + 1 + i, y + 1 + i)]).then fun K2 B2 f2 => meetH K2 B2 f2 (((argsH K x).zip (argsH K y)).drop (i + 1)) := by
                  rw [← meetH_append, List.singleton_append]
                  congr 1
                  rw [drop_zips, drop_zips, HAX.out i hlt, HAY.out i hlt2, List.zip_cons_cons]
                have HSP := Lib.hid hsplit
                have HKP := Lib.hid (meetH_keep fk K' B' [(x + 1 + i, y + 1 + i)] HIV.out (fun p hp => by rw [List.mem_singleton] at hp; subst hp; exact ⟨by rw [HKL.out]; show x + 1 + i < _; omega, by rw [HKL.out]; show y + 1 + i < _; omega⟩))
                have hcx : ((x + 1 + i : Nat) : Int) = (x : Int) + ((i : Int) + 1) := by omega
                have hcy : ((y + 1 + i : Nat) : Int) = (y : Int) + ((i : Int) + 1) := by omega
                rw [hcx, hcy] at HCL
                have hltI : (i : Int) + 1 ≤ (n : Int) := by omega
                clear hsplit hcx hcy
                generalize meetH K' B' fk [(x + 1 + i, y + 1 + i)] = o at *
                go_wp2_with fail
                refine HCL.out.mono ?_
                intro e w5 hpost
                cases o with
                | ok K2 B2 f2 =>
                  obtain ⟨ht4, tv4, hf4', rfl, hs4⟩ := hpost
                  obtain ⟨q1, q2, q3, q4⟩ := HKP.out
                  have HS5 := Lib.hid hs4; have HT5 := Lib.hid ht4; have HF4 := Lib.hid hf4'; have HQ1 := Lib.hid q1; have HQ2 := Lib.hid q2
                  have HM4 : Hid (M = meetH K2 B2 f2 (((argsH K x).zip (argsH K y)).drop (i + 1))) := Lib.hid (by rw [HME.out, HSP.out]; rfl)
                  clear hs4 ht4 hf4' q1 q2
                  go_wp2_with fail
                  go_roundw
                  case rel => exact ⟨i + 1, K2, B2, tv4, f2, by omega, by go_num, HM4, HS5.out, HQ1.out, Lib.hid (by rw [HQ2.out, HKL.out]), by omega, by omega, Lib.hid (HFR.out.trans HF4.out HTT.out.size), Lib.hid (HTT.out.freshB HFR.out HT5.out)⟩
                  case measure => simp [intOf]; omega
                | no K2 B2 f2 =>
                  obtain ⟨ht4, tv4, hf4', rfl, hs4⟩ := hpost
                  have HS5 := Lib.hid hs4; have HT5 := Lib.hid ht4; have HF4 := Lib.hid hf4'
                  have HM4 : Hid (M = .no K2 B2 f2) := Lib.hid (by rw [HME.out, HSP.out]; rfl)
                  clear hs4 ht4 hf4'
                  go_wp2_with fail
                  go_ret
                  rw [HM4.out]
                  exact ⟨HTT.out.freshB HFR.out HT5.out, tv4, HFR.out.trans HF4.out HTT.out.size, rfl, HS5.out⟩
                | many K2 B2 =>
                  obtain ⟨ht4, tv4, hf4', rfl, hs4⟩ := hpost
                  have HS5 := Lib.hid hs4; have HT5 := Lib.hid ht4; have HF4 := Lib.hid hf4'
                  have HM4 : Hid (M = .many K2 B2) := Lib.hid (by rw [HME.out, HSP.out]; rfl)
                  clear hs4 ht4 hf4'
                  go_wp2_with fail
                  go_ret
                  rw [HM4.out]
                  exact ⟨HTT.out.freshB HFR.out HT5.out, tv4, HFR.out.trans HF4.out HTT.out.size, rfl, HS5.out⟩
              · have HM4 : Hid (M = .ok K' B' fk) := Lib.hid (by
                  rw [HME.out, List.drop_eq_nil_of_le (by rw [List.length_zip, HLX.out, HLY.out]; omega), meetH_nil])
                have hge : (n : Int) < (i : Int) + 1 := by omega
                go_wp2_with fail
                go_ret
                rw [HM4.out]
                exact ⟨HTT.out, tv', HFR.out, rfl, HBA.out⟩
          · have hnn' : ((n : Int) != (n2 : Int)) = true := by rw [bne_iff_ne]; omega
            have HMM : Hid (M = .no K Bd f) := Lib.hid (HM.out _ (by
              rw [HPS.out, if_pos]
              right
              rw [HNN.out, HNN2.out]; omega))
            clear hnn
            go_wp2_with fail
            go_quiet (fail)
            rename_i nq
            have hB := DQ nq
            generalize w3.drewN nq = w4 at *
            go_wp2_with fail
            go_ret
            rw [HMM.out]
            exact ⟨HT3.out.trans (Touch.below hB), tv, .inl rfl, rfl, HS3.out.keep hB⟩
        · have HMM : Hid (M = .no K Bd f) := Lib.hid (HM.out _ (by
            rw [HPS.out, if_pos]
            left
            exact fun h => hnm (by rw [h])))
          go_wp2_with fail
          go_quiet (fail)
          rename_i nq
          have hB := DQ nq
          generalize w3.drewN nq = w4 at *
          go_wp2_with fail
          go_ret
          rw [HMM.out]
          exact ⟨HT3.out.trans (Touch.below hB), tv, .inl rfl, rfl, HS3.out.keep hB⟩

end Go.Proofs.Ytikmgiapjigghaa
