/- Walk: what the statements on Unify ask first. -/
import Derived.Test.YtikmgiapjigghaaUOf
import Derived.Deep.RegionHeld3
namespace Go.Proofs.Ytikmgiapjigghaa
open Go.RowKit

theorem ts_lit2 {w : World} {ok : Nat → Prop} (t u : Tm) {a b : Option Addr} {c d : Nat} (ht : Ts w ok t.args a c) (hu : Ts w ok u.args b d) (hf : t.fits) (hg : u.fits) (hok : ok w.heap.size) :
    Ts (w.alloc (.cells #[.int .i64 t.var, .string t.name, .slice a t.args.length c, .int .i64 u.var, .string u.name, .slice b u.args.length d] 24)) ok [t, u] (some ⟨w.heap.size, 0, none⟩) 2 := by
  have hk : Keeps ok w (w.alloc (.cells #[.int .i64 t.var, .string t.name, .slice a t.args.length c, .int .i64 u.var, .string u.name, .slice b u.args.length d] 24)) := Keeps.below ((Below.refl _ _).alloc (Nat.le_refl _) _) ok
  refine .mk [t, u] _ 2 ⟨Nat.le_refl _, by unfold maxLen; omega, fun h => by cases h⟩ (fun i => if i = 0 then (a, c) else (b, d)) (fun i hi => ?_) (fun i hi => ?_)
  · rcases (by simp at hi; omega : i = 0 ∨ i = 1) with rfl | rfl
    · refine ⟨w.heap.size, 0, rfl, hok, by simp, Cells3.mk ?_ ?_ ?_ hf⟩
      all_goals simp [World.cell?, World.alloc, -World.alloc_eq]
    · refine ⟨w.heap.size, 0, rfl, hok, by simp, Cells3.mk ?_ ?_ ?_ hg⟩
      all_goals simp [World.cell?, World.alloc, -World.alloc_eq]
  · rcases (by simp at hi; omega : i = 0 ∨ i = 1) with rfl | rfl
    · exact ht.keep hk
    · exact hu.keep hk

theorem k_tmL : tmL.checkE = 0 := by decide +kernel
theorem k_tmR : tmR.checkE = 0 := by decide +kernel
theorem begun_uA : uA tmL tmR = .ok ((List.range 12).map outB) 5 := by
  unfold uA
  rw [if_neg (fun h => h k_tmL), if_neg (fun h => h k_tmR), begun_uP]
  rfl

/-- Cells of two terms that lie still. -/
structure TwoT (w : World) (b o c r : Nat) (x0 x1 x2 y0 y1 y2 : Value) (w' : World) : Prop where
  below : Below w.heap.size w w'
  a0 : w'.cell? ⟨b, o, none⟩ = some x0
  a1 : w'.cell? ⟨b, o + 1, none⟩ = some x1
  a2 : w'.cell? ⟨b, o + 2, none⟩ = some x2
  b0 : w'.cell? ⟨c, r, none⟩ = some y0
  b1 : w'.cell? ⟨c, r + 1, none⟩ = some y1
  b2 : w'.cell? ⟨c, r + 2, none⟩ = some y2
  lt : b < w.heap.size ∧ c < w.heap.size

theorem TwoT.next {w : World} {b o c r : Nat} {x0 x1 x2 y0 y1 y2 : Value} {w1 w2 : World} (h : TwoT w b o c r x0 x1 x2 y0 y1 y2 w1) (hb : Below w1.heap.size w1 w2) : TwoT w b o c r x0 x1 x2 y0 y1 y2 w2 := by
  have h1 := Nat.lt_of_lt_of_le h.lt.1 h.below.size
  have h2 := Nat.lt_of_lt_of_le h.lt.2 h.below.size
  exact ⟨h.below.trans (hb.mono h.below.size), (hb.cell (p := ⟨b, _, none⟩) h1).trans h.a0, (hb.cell (p := ⟨b, _, none⟩) h1).trans h.a1, (hb.cell (p := ⟨b, _, none⟩) h1).trans h.a2,
    (hb.cell (p := ⟨c, _, none⟩) h2).trans h.b0, (hb.cell (p := ⟨c, _, none⟩) h2).trans h.b1, (hb.cell (p := ⟨c, _, none⟩) h2).trans h.b2, h.lt⟩

theorem TwoT.all {w : World} {b o c r : Nat} {x0 x1 x2 y0 y1 y2 : Value} {w1 : World} (h : TwoT w b o c r x0 x1 x2 y0 y1 y2 w1) :
    w1.cell? ⟨b, o, none⟩ = some x0 ∧ w1.cell? ⟨b, o + 1, none⟩ = some x1 ∧ w1.cell? ⟨b, o + 2, none⟩ = some x2 ∧ w1.cell? ⟨c, r, none⟩ = some y0 ∧ w1.cell? ⟨c, r + 1, none⟩ = some y1 ∧ w1.cell? ⟨c, r + 2, none⟩ = some y2 ∧ TwoT w b o c r x0 x1 x2 y0 y1 y2 w1 :=
  ⟨h.a0, h.a1, h.a2, h.b0, h.b1, h.b2, h⟩

theorem TwoT.of {w : World} {b o c r : Nat} {x0 x1 x2 y0 y1 y2 : Value} {w1 : World} (h : w1.cell? ⟨b, o, none⟩ = some x0 ∧ w1.cell? ⟨b, o + 1, none⟩ = some x1 ∧ w1.cell? ⟨b, o + 2, none⟩ = some x2 ∧ w1.cell? ⟨c, r, none⟩ = some y0 ∧ w1.cell? ⟨c, r + 1, none⟩ = some y1 ∧ w1.cell? ⟨c, r + 2, none⟩ = some y2 ∧ TwoT w b o c r x0 x1 x2 y0 y1 y2 w1) : TwoT w b o c r x0 x1 x2 y0 y1 y2 w1 := h.2.2.2.2.2.2

theorem TwoT.drew {w : World} {b o c r : Nat} {x0 x1 x2 y0 y1 y2 : Value} {w1 : World} (h : TwoT w b o c r x0 x1 x2 y0 y1 y2 w1) : TwoT w b o c r x0 x1 x2 y0 y1 y2 w1.drew := h.next ((Below.refl _ _).drew)

set_option maxRecDepth 100000 in
set_option maxHeartbeats 2000000 in
theorem unifyBegunW (w : World) : Calls Try.prog 24 #[] w fun e w' => e = .returned (.bool true) ∧ Below w.heap.size w w' := by
  go_enter Try.func24, Try.ntmps24
  go_wp2_with fail
  refine (vaW _ _).mono ?_
  rintro e w1 ⟨rfl, hb1⟩
  go_wp2_with fail
  refine (vaW _ _).mono ?_
  rintro e w2 ⟨rfl, hb2⟩
  go_wp2_with fail
  refine (fnW _ _ _ _ _).mono ?_
  rintro e w3 ⟨rfl, hb3⟩
  have T1 := Lib.hid ((ts_lit2 (w := w2) (ok := fun _ => True) (VarT 2) (VarT 3) (Ts.empty _ _) (Ts.empty _ _) (fits_lit _ _ _ (by decide) (by decide) (by decide)) (fits_lit _ _ _ (by decide) (by decide) (by decide)) trivial).keep (Keeps.below hb3 _))
  have B3 : Hid (Below w.heap.size w w3) := Lib.hid (by
    have h2 := hb1.trans (hb2.mono hb1.size)
    have h3 := h2.alloc h2.size (.cells #[.int .i64 2, .string ⟨#[]⟩, .slice none 0 0, .int .i64 3, .string ⟨#[]⟩, .slice none 0 0] 24)
    exact h3.trans (hb3.mono h3.size))
  clear hb1 hb2 hb3
  go_wp2_with fail
  refine (vaW _ _).mono ?_
  rintro e w4 ⟨rfl, hb4⟩
  go_wp2_with fail
  refine (fnW _ _ _ _ _).mono ?_
  rintro e w5 ⟨rfl, hb5⟩
  go_wp2_with fail
  refine (fnW _ _ _ _ _).mono ?_
  rintro e w6 ⟨rfl, hb6⟩
  have T2 := Lib.hid ((ts_lit2 (w := w5) (ok := fun _ => True) (VarT 1) tmA (Ts.empty _ _) (Ts.empty _ _) (fits_lit _ _ _ (by decide) (by decide) (by decide)) (fits_lit _ _ _ (by decide) (by decide) (by decide)) trivial).keep (Keeps.below hb6 _))
  have hb36 : Below w3.heap.size w3 w6 := by
    have h2 := hb4.trans (hb5.mono hb4.size)
    have h3 := h2.alloc h2.size (.cells #[.int .i64 1, .string ⟨#[]⟩, .slice none 0 0, .int .i64 0, .string ⟨#[97]⟩, .slice none 0 0] 24)
    exact h3.trans (hb6.mono h3.size)
  have T1' := Lib.hid (T1.out.keep (Keeps.below hb36 _))
  have B6 : Hid (Below w.heap.size w w6) := Lib.hid (B3.out.trans (hb36.mono B3.out.size))
  have HU := Lib.hid (UnifyW (w := w6) (ok := fun b => b < w6.heap.size) (fun b hb => hb) (s := tmL) (t := tmR) (fits_lit _ _ _ (by decide) (by decide) (by decide)) (fits_lit _ _ _ (by decide) (by decide) (by decide)) (T1'.out.mono fun b hb _ => hb) (T2.out.mono fun b hb _ => hb))
  rw [begun_uA] at HU
  clear hb4 hb5 hb6 hb36 T1 T1' T2 B3
  go_wp2_with fail
  refine HU.out.mono ?_
  rintro e w7 ⟨hb7, a, cap, rfl, hts⟩
  have B7 : Hid (Below w.heap.size w w7) := Lib.hid (B6.out.trans (hb7.mono B6.out.size))
  have hlen : ((List.range 12).map outB).length = 12 := by simp
  obtain ⟨b1, o1, a1, cap1, rfl, -, hl1, hc1, ht1⟩ := hts.at 1 (by simp)
  obtain ⟨b2, o2, a2, cap2, he2, -, hl2, hc2, ht2⟩ := hts.at 2 (by simp)
  injection he2 with he3
  injection he3 with e1 e2
  subst e1; subst e2
  simp only [List.getElem_map, List.getElem_range] at hc1 hc2 ht1 ht2
  have q0 := hc1.var; have q1 := hc1.name; have q2 := hc1.args
  have p0 := hc2.var; have p1 := hc2.name; have p2 := hc2.args
  have e1 : outB 1 = VarT 1 := rfl
  have e2 : outB 2 = tmA := rfl
  rw [e1] at q0 q1 q2 ht1
  rw [e2] at p0 p1 p2 ht2
  have HT1 := Lib.hid ht1; have HT2 := Lib.hid ht2
  have T0 : TwoT w7 b1 (o1 + 1 * 3) b1 (o1 + 2 * 3) (.int .i64 1) (.string ⟨#[]⟩) (.slice a1 0 cap1) (.int .i64 0) (.string ⟨#[97]⟩) (.slice a2 0 cap2) w7 := ⟨Below.refl _ _, q0, q1, q2, p0, p1, p2, hl1, hl1⟩
  clear hts hc1 hc2 ht1 ht2 e1 e2 hb7 q0 q1 q2 p0 p1 p2 HU
  rw [hlen]
  go_wp2_with fail
  have C1 : Hid (∀ w' : World, TwoT w7 b1 (o1 + 1 * 3) b1 (o1 + 2 * 3) (.int .i64 1) (.string ⟨#[]⟩) (.slice a1 0 cap1) (.int .i64 0) (.string ⟨#[97]⟩) (.slice a2 0 cap2) w' → Calls Try.prog 26 #[.agg #[.int .i64 1, .string ⟨#[]⟩, .slice a1 0 cap1], .agg #[.int .i64 1, .string ByteArray.empty, .slice none 0 0]] w' fun e w'' => e = .returned (.bool true) ∧ Below w'.heap.size w' w'') := Lib.hid fun w' h => by
    have := SameTermOf (VarT 1) (SameTermsW _) (VarT 1) w' (fun b => b < w7.heap.size ∨ True) a1 none cap1 0 ((HT1.out.mono fun _ _ _ => .inr trivial).keep (Keeps.below h.below _)) (Ts.empty' _ _)
    rw [eqT_true rfl] at this
    exact this
  have C2 : Hid (∀ w' : World, TwoT w7 b1 (o1 + 1 * 3) b1 (o1 + 2 * 3) (.int .i64 1) (.string ⟨#[]⟩) (.slice a1 0 cap1) (.int .i64 0) (.string ⟨#[97]⟩) (.slice a2 0 cap2) w' → Calls Try.prog 26 #[.agg #[.int .i64 0, .string ⟨#[97]⟩, .slice a2 0 cap2], .agg #[.int .i64 0, .string ⟨#[97]⟩, .slice none 0 0]] w' fun e w'' => e = .returned (.bool true) ∧ Below w'.heap.size w' w'') := Lib.hid fun w' h => by
    have := SameTermOf tmA (SameTermsW _) tmA w' (fun b => b < w7.heap.size ∨ True) a2 none cap2 0 ((HT2.out.mono fun _ _ _ => .inr trivial).keep (Keeps.below h.below _)) (Ts.empty' _ _)
    rw [eqT_true rfl] at this
    exact this
  go_region_held3 (fun w' => w'.cell? ⟨b1, o1 + 1 * 3, none⟩ = some (.int .i64 1) ∧ w'.cell? ⟨b1, o1 + 1 * 3 + 1, none⟩ = some (.string ⟨#[]⟩) ∧ w'.cell? ⟨b1, o1 + 1 * 3 + 2, none⟩ = some (.slice a1 0 cap1) ∧ w'.cell? ⟨b1, o1 + 2 * 3, none⟩ = some (.int .i64 0) ∧ w'.cell? ⟨b1, o1 + 2 * 3 + 1, none⟩ = some (.string ⟨#[97]⟩) ∧ w'.cell? ⟨b1, o1 + 2 * 3 + 2, none⟩ = some (.slice a2 0 cap2) ∧ TwoT w7 b1 (o1 + 1 * 3) b1 (o1 + 2 * 3) (.int .i64 1) (.string ⟨#[]⟩) (.slice a1 0 cap1) (.int .i64 0) (.string ⟨#[97]⟩) (.slice a2 0 cap2) w')
    (first | exact TwoT.all (TwoT.drew (by assumption)) | exact TwoT.all (TwoT.next (TwoT.of (by assumption)) hb))
    (first
      | (go_at_call 57; refine (vaW _ _).mono ?_; rintro e w' ⟨rfl, hb⟩)
      | (go_at_call 49; refine (fnW _ _ _ _ _).mono ?_; rintro e w' ⟨rfl, hb⟩)
      | (go_at_call 26; (with_reducible refine (C1.out _ (TwoT.of (by assumption))).mono ?_); rintro e w' ⟨rfl, hb⟩)
      | (go_at_call 26; (with_reducible refine (C2.out _ (TwoT.of (by assumption))).mono ?_); rintro e w' ⟨rfl, hb⟩))
  all_goals
    have HB := Lib.hid (TwoT.of (by assumption)).below
    go_wp2_with fail
    go_ret
    exact ⟨rfl, B7.out.trans (HB.out.mono B7.out.size)⟩

end Go.Proofs.Ytikmgiapjigghaa
