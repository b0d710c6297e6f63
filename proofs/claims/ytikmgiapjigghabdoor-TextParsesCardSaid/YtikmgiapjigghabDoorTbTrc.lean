/- Walks: the reference's termAt: a variable. -/
import Derived.Test.YtikmgiapjigghabDoorTbTrb
import Derived.Deep.DeepCutAuto
namespace Go.Proofs.YtikmgiapjigghabDoor
open Go.RowKit

theorem pVar_no {r : Bs} (h : ¬ (isDig (hd r) = true ∧ hd r ≠ 48)) : pVar r = .no r := by
  cases r with
  | nil => rfl
  | cons c r => simp only [pVar]; exact if_neg h
theorem pVar_one {r : Bs} (h : isDig (hd r) = true ∧ hd r ≠ 48) (h2 : isDig (hd r.tail) = false) : pVar r = .ok (.mk (numOf (hd r)) ⟨#[]⟩ []) r.tail := by
  cases r with
  | nil => exact absurd h.1 (by decide)
  | cons c r =>
    have h' : isDig c = true ∧ c ≠ 48 := h
    cases r with
    | nil => simp only [pVar]; rw [if_pos h']; rfl
    | cons d r =>
      have h3 : ¬ isDig d = true := by rw [show isDig d = false from h2]; decide
      simp only [pVar]; rw [if_pos h', if_neg h3]; rfl
theorem pVar_two {r : Bs} (h : isDig (hd r) = true ∧ hd r ≠ 48) (h2 : isDig (hd r.tail) = true) : pVar r = .ok (.mk (10 * numOf (hd r) + numOf (hd r.tail)) ⟨#[]⟩ []) r.tail.tail := by
  cases r with
  | nil => exact absurd h.1 (by decide)
  | cons c r =>
    have h' : isDig c = true ∧ c ≠ 48 := h
    cases r with
    | nil => exact absurd (show isDig 0 = true from h2) (by decide)
    | cons d r =>
      have h3 : isDig d = true := h2
      simp only [pVar]; rw [if_pos h', if_pos h3]; rfl

theorem betw_dig (c : UInt8) : betw (c.toNat : Int) 48 57 = isDig c := by unfold betw isDig; exact decide_eq_decide.2 (by omega)
theorem betw_low (c : UInt8) : betw (c.toNat : Int) 97 122 = isLow c := by unfold betw isLow; exact decide_eq_decide.2 (by omega)
theorem betw_dig9 (c : UInt8) : betw (c.toNat : Int) 49 57 = decide (isDig c = true ∧ c ≠ 48) := by
  unfold betw isDig
  refine decide_eq_decide.2 ?_
  rw [decide_eq_true_iff]
  constructor
  · intro h
    refine ⟨by omega, fun e => ?_⟩
    subst e
    simp at h
  · rintro ⟨h1, h2⟩
    have : c.toNat ≠ 48 := fun e => h2 (UInt8.toNat_inj.1 e)
    omega
theorem u8_eq (c d : UInt8) : (((c.toNat : Nat) : Int) == (d.toNat : Int)) = decide (c = d) := by
  by_cases h : c = d
  · subst h; simp
  · rw [decide_eq_false h, beq_eq_false_iff_ne]
    intro e
    exact h (UInt8.toNat_inj.1 (by omega))

theorem dig_range {c : UInt8} (h : isDig c = true) : 48 ≤ c.toNat ∧ c.toNat ≤ 57 := of_decide_eq_true h

theorem signAtX (s : Bs) (x : Int) (hx : 0 ≤ x) (u : World) : Calls Tryd.prog 36 #[.string (strB s), .int .i64 x] u fun e w' => e = .returned (.int .u8 ((hd (s.drop x.toNat)).toNat : Nat)) ∧ w' = u := by
  obtain ⟨k, rfl⟩ := Int.eq_ofNat_of_zero_le hx
  exact signAtW s k u

/-- A variable that was read. -/
theorem var_fin {s r' : Bs} {w : World} {v x y : Int} (hv : v = x) (h0 : 0 ≤ v) (h1 : v ≤ 99) (hr : y = ((s.length - r'.length : Nat) : Int)) (o : Obj) :
    RTPost s w (.ok (.mk x ⟨#[]⟩ []) r') (.returned (.tuple #[.agg #[.int .i64 v, .string ⟨#[]⟩, .slice none 0 0], .int .i64 y, .bool true])) (w.alloc o) := by
  subst hv hr
  exact ⟨(Below.refl _ _).alloc (Nat.le_refl _) _, fits_var h0 h1, none, 0, rfl, Ts.empty _ _⟩

theorem no_fin {s r' : Bs} {w w' : World} {y : Int} (hb : Below w.heap.size w w') (hr : y = ((s.length - r'.length : Nat) : Int)) :
    RTPost s w (.no r') (.returned (.tuple #[.agg #[.int .i64 0, .string ⟨#[]⟩, .slice none 0 0], .int .i64 y, .bool false])) w' := by
  subst hr
  exact ⟨hb, 0, ⟨#[]⟩, none, 0, 0, rfl⟩

theorem zero_fits : (Tm.mk 0 ⟨#[]⟩ []).fits := fits_lit 0 ⟨#[]⟩ [] (by omega) (by omega) (by decide)

set_option maxRecDepth 100000 in
set_option maxHeartbeats 1600000 in
theorem TermVarR {s : Bs} (hs : s.length ≤ 6000) (k : Nat) (w : World) (h86 : hd (s.drop k) = 86) (hk : k < s.length) :
    Calls Tryd.prog 35 #[.string (strB s), .int .i64 k] w (RTPost s w (pVar (s.drop (k + 1)))) := by
  have hsz : (strB s).size = s.length := strB_size s
  have HSX := Lib.hid (signAtX s)
  have T0 : Hid (((k : Nat) : Int).toNat = k) := Lib.hid (Int.toNat_natCast k)
  have T1 : Hid (((k : Int) + 1).toNat = k + 1) := Lib.hid (by omega)
  have T2 : Hid (((k : Int) + 2).toNat = k + 2) := Lib.hid (by omega)
  have HB1 := Lib.hid ((Below.refl w.heap.size w).alloc (Nat.le_refl _) (.cells #[.int .i64 0, .string ⟨#[]⟩, .slice none 0 0] 48))
  have HBX := Lib.hid (Box3.made w (.int .i64 0) (.string ⟨#[]⟩) (.slice none 0 0))
  have ht1 : (s.drop (k + 1)).tail = s.drop (k + 2) := by rw [List.tail_drop]
  have ht2 : (s.drop (k + 2)).tail = s.drop (k + 3) := by rw [List.tail_drop]
  have b1 := betw_dig9 (hd (s.drop (k + 1)))
  have b2 := betw_dig (hd (s.drop (k + 2)))
  obtain ⟨z0, z1, z2, zf⟩ := HBX.out.all
  by_cases hd1 : isDig (hd (s.drop (k + 1))) = true ∧ hd (s.drop (k + 1)) ≠ 48
  · rw [decide_eq_true hd1] at b1
    have hr1 := dig_range hd1.1
    have hk1 : k + 1 < s.length := Classical.byContradiction fun e => by rw [hd_end e] at hd1; exact absurd hd1.1 (by decide)
    cases hd2 : isDig (hd (s.drop (k + 2))) with
    | true =>
      rw [hd2] at b2
      have HE := Lib.hid (pVar_two hd1 (by rw [ht1]; exact hd2))
      rw [ht1, ht2] at HE
      have hr2 := dig_range hd2
      have hk2 : k + 2 < s.length := Classical.byContradiction fun e => by rw [hd_end e] at hd2; exact absurd hd2 (by decide)
      have hj2 : 0 ≤ (k : Int) + 2 ∧ (k : Int) + 2 < (s.length : Int) := by omega
      have hb2 : k + 2 < (strB s).size := by rw [hsz]; exact hk2
      have hg : (strB s)[k + 2] = hd (s.drop (k + 2)) := by rw [strB_get, hd_at hk2]
      have HN : Hid (numOf (hd (s.drop (k + 1))) = ((hd (s.drop (k + 1))).toNat : Int) - 48 ∧ numOf (hd (s.drop (k + 2))) = ((hd (s.drop (k + 2))).toNat : Int) - 48) := Lib.hid ⟨rfl, rfl⟩
      have HKK := Lib.hid hk2
      have H86 := Lib.hid h86
      clear hd1 hd2 ht1 ht2 hk1 h86
      obtain ⟨d1, h⟩ : ∃ d, hd (s.drop (k + 1)) = d := ⟨_, rfl⟩
      have D1 := Lib.hid h
      rw [h] at b1 hr1 HN HE
      clear h
      obtain ⟨d2, h⟩ : ∃ d, hd (s.drop (k + 2)) = d := ⟨_, rfl⟩
      have D2 := Lib.hid h
      rw [h] at b2 hr2 HN HE hg
      clear h
      go_enter Tryd.func35, Tryd.ntmps35
      go_wp2_with (first
        | (go_at_call 36; refine (HSX.out _ (by omega) _).mono ?_; rintro e w1 ⟨he, rfl⟩; simp only [T0.out, T1.out, T2.out, H86.out, D1.out, D2.out] at he; subst he)
        | (go_at_call 47; refine (betweenW _ _ _ _).mono ?_; rintro e w1 ⟨rfl, rfl⟩))
      obtain ⟨q0, q1, q2, -⟩ := (Box3.made w (.int .i64 (10 * ((d1.toNat : Int) - 48) + (d2.toNat : Int) - 48)) (.string ⟨#[]⟩) (.slice none 0 0)).all
      refine bodyPost_ret (v := .tuple #[.agg #[.int .i64 (10 * ((d1.toNat : Int) - 48) + (d2.toNat : Int) - 48), .string ⟨#[]⟩, .slice none 0 0], .int .i64 ((k : Int) + 2 + 1), .bool true]) (by simp [results, Tryd.results35, go_sem, q0, q1, q2]) rfl ?_
      rw [HE.out]
      refine var_fin (by rw [HN.out.1, HN.out.2]; omega) (by omega) (by omega) ?_ _
      have := HKK.out
      rw [List.length_drop]; omega
    | false =>
      rw [hd2] at b2
      have HE := Lib.hid (pVar_one hd1 (by rw [ht1]; exact hd2))
      rw [ht1] at HE
      have H86 := Lib.hid h86
      have HKK := Lib.hid hk1
      clear hd1 hd2 ht1 ht2 hk1 h86
      obtain ⟨d1, h⟩ : ∃ d, hd (s.drop (k + 1)) = d := ⟨_, rfl⟩
      have D1 := Lib.hid h
      rw [h] at b1 hr1 HE
      clear h
      obtain ⟨d2, h⟩ : ∃ d, hd (s.drop (k + 2)) = d := ⟨_, rfl⟩
      have D2 := Lib.hid h
      rw [h] at b2
      have hr2 := u8_lt d2
      clear h
      go_enter Tryd.func35, Tryd.ntmps35
      go_wp2_with (first
        | (go_at_call 36; refine (HSX.out _ (by omega) _).mono ?_; rintro e w1 ⟨he, rfl⟩; simp only [T0.out, T1.out, T2.out, H86.out, D1.out, D2.out] at he; subst he)
        | (go_at_call 47; refine (betweenW _ _ _ _).mono ?_; rintro e w1 ⟨rfl, rfl⟩))
      obtain ⟨q0, q1, q2, -⟩ := (Box3.made w (.int .i64 ((d1.toNat : Int) - 48)) (.string ⟨#[]⟩) (.slice none 0 0)).all
      refine bodyPost_ret (v := .tuple #[.agg #[.int .i64 ((d1.toNat : Int) - 48), .string ⟨#[]⟩, .slice none 0 0], .int .i64 ((k : Int) + 2), .bool true]) (by simp [results, Tryd.results35, go_sem, q0, q1, q2]) rfl ?_
      rw [HE.out]
      refine var_fin (v := (d1.toNat : Int) - 48) rfl (by omega) (by omega) ?_ _
      have := HKK.out
      rw [List.length_drop]; omega
  · rw [decide_eq_false hd1] at b1
    have HE := Lib.hid (pVar_no hd1)
    have H86 := Lib.hid h86
    clear hd1 ht1 ht2 h86 b2
    obtain ⟨d1, h⟩ : ∃ d, hd (s.drop (k + 1)) = d := ⟨_, rfl⟩
    have D1 := Lib.hid h
    rw [h] at b1
    have hr1 := u8_lt d1
    clear h
    go_enter Tryd.func35, Tryd.ntmps35
    go_wp2_with (first
      | (go_at_call 36; refine (HSX.out _ (by omega) _).mono ?_; rintro e w1 ⟨he, rfl⟩; simp only [T0.out, T1.out, H86.out, D1.out] at he; subst he)
      | (go_at_call 47; refine (betweenW _ _ _ _).mono ?_; rintro e w1 ⟨rfl, rfl⟩))

    refine bodyPost_ret (v := .tuple #[.agg #[.int .i64 0, .string ⟨#[]⟩, .slice none 0 0], .int .i64 ((k : Int) + 1), .bool false]) (by simp [results, Tryd.results35, go_sem, z0, z1, z2]) rfl ?_
    rw [HE.out]
    exact no_fin ((Below.refl _ _).alloc (Nat.le_refl _) _) (by rw [List.length_drop]; omega)

end Go.Proofs.YtikmgiapjigghabDoor
