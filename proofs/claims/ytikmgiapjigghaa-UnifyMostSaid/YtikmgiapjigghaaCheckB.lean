/- Walk: the reference's Check of a term. -/
import Derived.Test.YtikmgiapjigghaaCheckA
namespace Go.Proofs.Ytikmgiapjigghaa
open Go.RowKit

/-- What is wrong with one part. -/
def Tm.partE (t : Tm) : Nat := Go.Proofs.Ytikmgiapjigghaa.partE t.var t.name t.args.length

/-- The first thing that is wrong with parts. -/
def firstE : List Tm → Nat
  | [] => 0
  | t :: r => if t.partE = 0 then firstE r else t.partE

theorem firstE_append (l r : List Tm) : firstE (l ++ r) = if firstE l = 0 then firstE r else firstE l := by
  induction l with
  | nil => simp [firstE]
  | cons a l ih =>
    show (if a.partE = 0 then firstE (l ++ r) else a.partE) = (if (if a.partE = 0 then firstE l else a.partE) = 0 then firstE r else (if a.partE = 0 then firstE l else a.partE))
    rw [ih]
    by_cases h : a.partE = 0 <;> simp [h]

theorem Tm.partsE_eq (t : Tm) : t.partsE = firstE t.parts := by
  refine Tm.rec (motive_1 := fun t => t.partsE = firstE t.parts) (motive_2 := fun l => Tm.partssE l = firstE (Tm.partss l)) ?_ ?_ ?_ t
  · intro v n l ih
    rw [Tm.partsE, Tm.parts, firstE, ih]; rfl
  · rfl
  · intro a r h1 h2
    rw [Tm.partssE, Tm.partss, firstE_append, h1, h2]

theorem firstE_at : ∀ (l : List Tm) (k : Nat) (h : k < l.length), (∀ j (hj : j < k), (l[j]'(by omega)).partE = 0) → l[k].partE ≠ 0 → firstE l = l[k].partE
  | [], _, h, _, _ => by cases h
  | t :: r, 0, _, _, hk => by
    have hk' : t.partE ≠ 0 := hk
    rw [firstE, if_neg hk']; rfl
  | t :: r, k + 1, h, hj, hk => by
    have h0 : t.partE = 0 := hj 0 (by omega)
    rw [firstE, if_pos h0]
    exact firstE_at r k (by simpa using h) (fun j hjk => by have := hj (j + 1) (by omega); simpa using this) (by simpa using hk)

theorem firstE_none : ∀ (l : List Tm), (∀ j (hj : j < l.length), l[j].partE = 0) → firstE l = 0
  | [], _ => rfl
  | t :: r, h => by
    have h0 : t.partE = 0 := h 0 (by simp)
    rw [firstE, if_pos h0]
    exact firstE_none r (fun j hj => by have := h (j + 1) (by simpa using hj); simpa using this)

/-- What holds at the head of the loop over the parts. -/
structure ChkRel (w : World) (ok : Nat → Prop) (P : List Tm) (a : Option Addr) (cap k : Nat) (wr : World) : Prop where
  row : Ts wr ok P a cap
  zero : ∀ j (hj : j < P.length), j < k → P[j].partE = 0
  below : Below w.heap.size w wr
  size : w.heap.size < wr.heap.size

theorem ChkRel.next {w : World} {ok : Nat → Prop} {P : List Tm} {a : Option Addr} {cap k : Nat} {wr : World} (h : ChkRel w ok P a cap k wr) (hk : k < P.length) (hz : P[k].partE = 0) (o : Obj) : ChkRel w ok P a cap (k + 1) (wr.alloc o) := by
  refine ⟨h.row.keep (Keeps.below ((Below.refl _ _).alloc (Nat.le_refl _) _) ok), fun j hj hjk => ?_, h.below.alloc (Nat.le_of_lt h.size) _, by have := h.size; simp; omega⟩
  by_cases e : j = k
  · subst e; exact hz
  · exact h.zero j hj (by omega)

theorem ChkRel.stop {w : World} {ok : Nat → Prop} {P : List Tm} {a : Option Addr} {cap k : Nat} {wr : World} (h : ChkRel w ok P a cap k wr) (hk : k < P.length) {c : Nat} (hz : P[k].partE = c) (hc : c ≠ 0) (o : Obj) : firstE P = c ∧ Below w.heap.size w (wr.alloc o) :=
  ⟨by rw [firstE_at P k hk (fun j hj => h.zero j (by omega) hj) (by rw [hz]; exact hc), hz], h.below.alloc (Nat.le_of_lt h.size) _⟩

theorem betw_iff {n lo hi : Int} : betw n lo hi = true ↔ lo ≤ n ∧ n ≤ hi := by unfold betw; exact decide_eq_true_iff

set_option maxRecDepth 100000 in
set_option maxHeartbeats 1000000 in
theorem CheckTermW (t : Tm) (w : World) (ok : Nat → Prop) (hok : ∀ b, w.heap.size ≤ b → ok b) (a : Option Addr) (cap : Nat) (hfit : t.fits) (hrd : Ts w ok t.args a cap) :
    Calls Try.prog 18 #[.agg #[.int .i64 t.var, .string t.name, .slice a t.args.length cap]] w fun e w' => e = .returned (.int .i64 (t.checkE : Nat)) ∧ Below w.heap.size w w' := by
  have B0 := (Below.refl w.heap.size w).alloc (Nat.le_refl _) (.cells #[.int .i64 t.var, .string t.name, .slice a t.args.length cap] 24)
  have HRD := Lib.hid hrd; have HF := Lib.hid hfit; clear hrd hfit
  have HOK := Lib.hid hok; clear hok
  by_cases h : 60 < t.size
  · have H : Hid (t.checkE = 2) := Lib.hid (by unfold Tm.checkE; rw [if_pos h])
    have hm : min t.size (Int.toNat 60 + 1) = 61 := by simp; omega
    clear h
    go_enter Try.func18, Try.ntmps18
    go_wp2_with (go_at_call 60; refine (SizeOfW t 60 _ ok a cap (by omega) (by omega) (HRD.out.keep (Keeps.below ((Below.refl _ _).alloc (Nat.le_refl _) _) ok))).mono ?_; rintro e w1 ⟨rfl, hb⟩; rw [hm])
    go_ret
    exact ⟨retN H.out.symm, B0.trans (hb.mono (by simp))⟩
  · have H : Hid (t.checkE = firstE t.parts) := Lib.hid (by unfold Tm.checkE; rw [if_neg h, Tm.partsE_eq])
    have hm : min t.size (Int.toNat 60 + 1) = t.size := by simp; omega
    go_enter Try.func18, Try.ntmps18
    go_wp2_with (first | (go_at_call 60; refine (SizeOfW t 60 _ ok a cap (by omega) (by omega) (HRD.out.keep (Keeps.below ((Below.refl _ _).alloc (Nat.le_refl _) _) ok))).mono ?_; rintro e w1 ⟨rfl, hb⟩; obtain ⟨hc, hf⟩ := bcell hb; rw [hm]) | fail)
    refine (partsOfW t _ ok a cap (by omega) (fun b hb1 => HOK.out b (by have := hb.size; simp at this; omega)) HF.out (HRD.out.keep ((Keeps.below ((Below.refl _ _).alloc (Nat.le_refl _) _) ok).trans (Keeps.below hb ok)))).mono ?_
    rintro e w2 ⟨a2, cap2, rfl, hts, hb2⟩
    have hlen : t.parts.length ≤ 60 := by rw [Tm.parts_length]; omega
    have B2 := (B0.trans (hb.mono (by simp))).trans (hb2.mono (by have := hb.size; simp at this; omega))
    have R0 : ChkRel w ok t.parts a2 cap2 0 w2 := ⟨hts, fun j _ h => by omega, B2, by have := hb.size; have := hb2.size; simp at *; omega⟩
    clear hc hf h hm
    generalize t.parts = P at *
    go_wp2_with fail
    go_loopw [4] (fun i wr => ∃ k : Nat, k ≤ P.length ∧ i = .int .i64 k ∧ ChkRel w ok P a2 cap2 k wr) (fun i _ => P.length - (intOf i).toNat)
    case atStart => exact ⟨0, Nat.zero_le _, rfl, R0⟩
    case round =>
      obtain ⟨k, hk, rfl, hrel⟩ := hrel
      by_cases hlt : k < P.length
      · obtain ⟨b, off, a', cap', rfl, hokb, hbs, hc3, ht⟩ := hrel.row.at k hlt
        have hcv := hc3.var
        have hcn := hc3.name
        have hca := hc3.args
        have HN : Hid (P[k].name.size ≤ maxLen) := Lib.hid hc3.fits.2
        have hcap := hrel.row.at k hlt
        have hlen4 : P[k].args.length ≤ 9223372036854775807 := by have := ht.cap; unfold maxLen at this; omega
        clear hc3 hcap
        by_cases hv : P[k].var = 0
        · by_cases h1 : nameB P[k].name = true
          · by_cases h2 : 4 < P[k].args.length
            · skip
              have HS := hrel.stop (c := 2) hlt (by unfold Tm.partE; rw [hv]; exact partE_many h1 h2) (by decide)
              have HS1 := Lib.hid HS
              clear HS
              go_wp2_with (first | (go_at_call 61; refine (betweenW _ _ _ _).mono ?_; rintro e w' ⟨rfl, rfl⟩) | (go_at_call 62; refine (IsNameW _ _ HN.out).mono ?_; rintro e w' ⟨rfl, rfl⟩))
              all_goals (go_ret; exact ⟨retN (by rw [H.out, (HS1.out (.cells #[] 0)).1]), (HS1.out _).2⟩)
            · by_cases h3 : (P[k].name.toList == [33]) = true
              · by_cases h4 : 0 < P[k].args.length
                · skip
                  have HS := hrel.stop (c := 1) hlt (by unfold Tm.partE; rw [hv]; exact partE_cut h1 h2 h3 h4) (by decide)
                  have HS1 := Lib.hid HS
                  clear HS
                  go_wp2_with (first | (go_at_call 61; refine (betweenW _ _ _ _).mono ?_; rintro e w' ⟨rfl, rfl⟩) | (go_at_call 62; refine (IsNameW _ _ HN.out).mono ?_; rintro e w' ⟨rfl, rfl⟩))
                  all_goals (go_ret; exact ⟨retN (by rw [H.out, (HS1.out (.cells #[] 0)).1]), (HS1.out _).2⟩)
                · skip
                  have HS := Lib.hid (hrel.next hlt (by unfold Tm.partE; rw [hv]; exact partE_ok h1 h2 (fun h => h4 h.2)))
                  go_wp2_with (first | (go_at_call 61; refine (betweenW _ _ _ _).mono ?_; rintro e w' ⟨rfl, rfl⟩) | (go_at_call 62; refine (IsNameW _ _ HN.out).mono ?_; rintro e w' ⟨rfl, rfl⟩))
                  all_goals
                    go_roundw
                    case rel => exact ⟨k + 1, by omega, by go_num, HS.out _⟩
                    case measure => simp [intOf]; omega
              · have h3' : (P[k].name.toList == [33]) = false := Bool.eq_false_iff.2 h3
                clear h3
                have HS := Lib.hid (hrel.next hlt (by unfold Tm.partE; rw [hv]; exact partE_ok h1 h2 (fun h => by rw [h3'] at h; cases h.1)))
                go_wp2_with (first | (go_at_call 61; refine (betweenW _ _ _ _).mono ?_; rintro e w' ⟨rfl, rfl⟩) | (go_at_call 62; refine (IsNameW _ _ HN.out).mono ?_; rintro e w' ⟨rfl, rfl⟩))
                all_goals
                  go_roundw
                  case rel => exact ⟨k + 1, by omega, by go_num, HS.out _⟩
                  case measure => simp [intOf]; omega
          · have h1' : nameB P[k].name = false := Bool.eq_false_iff.2 h1
            clear h1
            have HS := hrel.stop (c := 1) hlt (by unfold Tm.partE; rw [hv]; exact partE_name h1') (by decide)
            have HS1 := Lib.hid HS
            clear HS
            go_wp2_with (first | (go_at_call 61; refine (betweenW _ _ _ _).mono ?_; rintro e w' ⟨rfl, rfl⟩) | (go_at_call 62; refine (IsNameW _ _ HN.out).mono ?_; rintro e w' ⟨rfl, rfl⟩))
            all_goals (go_ret; exact ⟨retN (by rw [H.out, (HS1.out (.cells #[] 0)).1]), (HS1.out _).2⟩)
        · by_cases h1 : betw P[k].var 1 12 = true
          · have h1b := betw_iff.1 h1
            by_cases h3 : P[k].name.size = 0
            · have hne := emptyB _ h3
              have HE3 := Lib.hid h3
              clear h3
              by_cases h4 : 0 < P[k].args.length
              · skip
                have HS := hrel.stop hlt (partE_var hv (by omega) (.inr h4)) (by decide)
                have HS1 := Lib.hid HS
                clear HS
                go_wp2_with (first | (go_at_call 61; refine (betweenW _ _ _ _).mono ?_; rintro e w' ⟨rfl, rfl⟩) | (go_at_call 62; refine (IsNameW _ _ HN.out).mono ?_; rintro e w' ⟨rfl, rfl⟩))
                all_goals (go_ret; exact ⟨retN (by rw [H.out, (HS1.out (.cells #[] 0)).1]), (HS1.out _).2⟩)
              · skip
                have HS := Lib.hid (hrel.next hlt (partE_varok hv (by omega) (by rw [HE3.out]; omega)))
                go_wp2_with (first | (go_at_call 61; refine (betweenW _ _ _ _).mono ?_; rintro e w' ⟨rfl, rfl⟩) | (go_at_call 62; refine (IsNameW _ _ HN.out).mono ?_; rintro e w' ⟨rfl, rfl⟩))
                all_goals
                  go_roundw
                  case rel => exact ⟨k + 1, by omega, by go_num, HS.out _⟩
                  case measure => simp [intOf]; omega
            · have hne := toList_ne _ h3
              have HS := hrel.stop hlt (partE_var hv (by omega) (.inl h3)) (by decide)
              have HS1 := Lib.hid HS
              clear HS
              go_wp2_with (first | (go_at_call 61; refine (betweenW _ _ _ _).mono ?_; rintro e w' ⟨rfl, rfl⟩) | (go_at_call 62; refine (IsNameW _ _ HN.out).mono ?_; rintro e w' ⟨rfl, rfl⟩))
              all_goals (go_ret; exact ⟨retN (by rw [H.out, (HS1.out (.cells #[] 0)).1]), (HS1.out _).2⟩)
          · have h1' : betw P[k].var 1 12 = false := Bool.eq_false_iff.2 h1
            have h1b : ¬ (1 ≤ P[k].var ∧ P[k].var ≤ 12) := fun h => h1 (betw_iff.2 h)
            clear h1
            have HS := hrel.stop hlt (partE_range hv (by omega)) (by decide)
            have HS1 := Lib.hid HS
            clear HS
            go_wp2_with (first | (go_at_call 61; refine (betweenW _ _ _ _).mono ?_; rintro e w' ⟨rfl, rfl⟩) | (go_at_call 62; refine (IsNameW _ _ HN.out).mono ?_; rintro e w' ⟨rfl, rfl⟩))
            all_goals (go_ret; exact ⟨retN (by rw [H.out, (HS1.out (.cells #[] 0)).1]), (HS1.out _).2⟩)
      · go_wp2_with fail
        go_ret
        exact ⟨retN (by rw [H.out, firstE_none P (fun j hj => hrel.zero j hj (by omega))]), hrel.below⟩

end Go.Proofs.Ytikmgiapjigghaa
