/- Walk: what the statements on heaps ask first. -/
import Derived.Deep.DeepCutAuto
import Derived.Test.YtikmgiapjigghaaRa16
import Derived.Test.YtikmgiapjigghaaRa18
import Derived.Test.YtikmgiapjigghaaRa19
import Derived.Test.YtikmgiapjigghaaRa20
namespace Go.Proofs.Ytikmgiapjigghaa
open Go.RowKit

noncomputable def told1 : List Int := toldV (putT [] (fun _ => none) tmR).1.2 12
noncomputable def told2 : List Int := toldV (putT hG1 (fun _ => none) tmS).1.2 12
theorem told1_len : told1.length = 12 := by simp [told1, toldV]

theorem bA1 : bA [] tmR (checkH []) = .ok hG1 0 told1 := by
  unfold bA
  rw [checkH_of inv0, if_neg (fun h => h rfl), if_neg (fun h => h k1), put1.1, put1.2, if_neg (by decide)]
  rfl
theorem bA2 : bA hG1 tmS (checkH hG1) = .ok hG2 5 told2 := by
  unfold bA
  rw [checkH_of inv1, if_neg (fun h => h rfl), if_neg (fun h => h k2), put2.1, put2.2, if_neg (by decide)]
  rfl
theorem ready_ok {H : List HC} (h : HInv H) {l : List Int} (hl : ∀ j (hj : j < l.length), isC H l[j]) : readyL H l = 0 := by
  unfold readyL
  rw [if_neg (fun e => e (checkH_of h)), if_pos (isB_iff.2 hl)]
theorem isc5 {H : List HC} (h : 5 < H.length) : ∀ j (hj : j < [(0 : Int), 5].length), isC H [(0 : Int), 5][j] := by
  intro j hj
  rcases (by simp at hj; omega : j = 0 ∨ j = 1) with rfl | rfl
  · exact ⟨by simp, by simp; omega⟩
  · exact ⟨by simp, by simp; omega⟩
theorem isc1 {H : List HC} {i : Int} (h0 : 0 ≤ i) (h : i < H.length) : ∀ j (hj : j < [i].length), isC H [i][j] := by
  intro j hj
  have : j = 0 := by simp at hj; omega
  subst this
  exact ⟨h0, h⟩
theorem hUA1 : hUA hG2 0 5 = .ok hG3 [3, 9] 5 := by
  unfold hUA
  rw [ready_ok inv2 (isc5 (by decide)), if_neg (fun h => h rfl)]
  show (match meetH hG2 [] 4000 [(0, 5)] with | .no _ _ f => HUA.no (4000 - f) | .many _ _ => .err 2 | .ok K' B f => .ok K' B (4000 - f)) = _
  rw [meetB]
theorem readA1 : readA hG3 5 = .ok tmT [] := by
  unfold readA
  rw [ready_ok inv3 (isc1 (by decide) (by decide)), if_neg (fun h => h rfl)]
  show (match shL hG3 200 [5] with | none => RdA.err 2 | some x => rdOf (Tm.rens numV [] x.1)) = _
  rw [showB]
  rfl
theorem derefV1 : derefV hG3 0 = 0 := by
  unfold derefV
  rw [if_pos (ready_ok inv3 (isc1 (by decide) (by decide)))]
  show ((endH hG3 0 : Nat) : Int) = 0
  rw [e4_0]; rfl

end Go.Proofs.Ytikmgiapjigghaa

/- Walk: what the statements on heaps ask first. -/
namespace Go.Proofs.Ytikmgiapjigghaa
open Go.RowKit

theorem HpAt.nil (w : World) (ok : Nat → Prop) : HpAt w ok [] none 0 := ⟨⟨Nat.le_refl _, Nat.zero_le _, fun _ => rfl⟩, fun i hi => absurd hi (Nat.not_lt_zero i)⟩

/-- Cells of a term that lie still. -/
structure OneT (w : World) (b : Nat) (x0 x1 x2 : Value) (w' : World) : Prop where
  below : Below w.heap.size w w'
  a0 : w'.cell? ⟨b, 0, none⟩ = some x0
  a1 : w'.cell? ⟨b, 1, none⟩ = some x1
  a2 : w'.cell? ⟨b, 2, none⟩ = some x2
  lt : b < w.heap.size

theorem OneT.next {w : World} {b : Nat} {x0 x1 x2 : Value} {w1 w2 : World} (h : OneT w b x0 x1 x2 w1) (hb : Below w1.heap.size w1 w2) : OneT w b x0 x1 x2 w2 := by
  have h1 := Nat.lt_of_lt_of_le h.lt h.below.size
  exact ⟨h.below.trans (hb.mono h.below.size), (hb.cell (p := ⟨b, _, none⟩) h1).trans h.a0, (hb.cell (p := ⟨b, _, none⟩) h1).trans h.a1, (hb.cell (p := ⟨b, _, none⟩) h1).trans h.a2, h.lt⟩
theorem OneT.all {w : World} {b : Nat} {x0 x1 x2 : Value} {w1 : World} (h : OneT w b x0 x1 x2 w1) : w1.cell? ⟨b, 0, none⟩ = some x0 ∧ w1.cell? ⟨b, 1, none⟩ = some x1 ∧ w1.cell? ⟨b, 2, none⟩ = some x2 ∧ OneT w b x0 x1 x2 w1 := ⟨h.a0, h.a1, h.a2, h⟩
theorem OneT.of {w : World} {b : Nat} {x0 x1 x2 : Value} {w1 : World} (h : w1.cell? ⟨b, 0, none⟩ = some x0 ∧ w1.cell? ⟨b, 1, none⟩ = some x1 ∧ w1.cell? ⟨b, 2, none⟩ = some x2 ∧ OneT w b x0 x1 x2 w1) : OneT w b x0 x1 x2 w1 := h.2.2.2
theorem OneT.drew {w : World} {b : Nat} {x0 x1 x2 : Value} {w1 : World} (h : OneT w b x0 x1 x2 w1) : OneT w b x0 x1 x2 w1.drew := h.next ((Below.refl _ _).drew)

set_option maxRecDepth 100000 in
set_option maxHeartbeats 4000000 in
theorem heapBegunW (w : World) : Calls Try.prog 33 #[] w fun e w' => e = .returned (.bool true) ∧ Below w.heap.size w w' := by
  have L1 := told1_len
  go_enter Try.func33, Try.ntmps33
  go_wp2_with fail
  refine (vaW _ _).mono ?_
  rintro e w1 ⟨rfl, hb1⟩
  go_wp2_with fail
  refine (fnW _ _ _ _ _).mono ?_
  rintro e w2 ⟨rfl, hb2⟩
  go_wp2_with fail
  refine (fnW _ _ _ _ _).mono ?_
  rintro e w3 ⟨rfl, hb3⟩
  have T1 := Lib.hid ((ts_lit2 (w := w2) (ok := fun _ => True) (VarT 1) tmA (Ts.empty _ _) (Ts.empty _ _) (fits_lit _ _ _ (by decide) (by decide) (by decide)) (fits_lit _ _ _ (by decide) (by decide) (by decide)) trivial).keep (Keeps.below hb3 _))
  have B3 : Hid (Below w.heap.size w w3) := Lib.hid (by
    have h2 := hb1.trans (hb2.mono hb1.size)
    have h3 := h2.alloc h2.size (.cells #[.int .i64 1, .string ⟨#[]⟩, .slice none 0 0, .int .i64 0, .string ⟨#[97]⟩, .slice none 0 0] 24)
    exact h3.trans (hb3.mono h3.size))
  clear hb1 hb2 hb3
  have HB1 := Lib.hid (BuildW (w := w3) (K := []) (HpAt.nil _ _) (t := tmR) (fits_lit _ _ _ (by decide) (by decide) (by decide)) T1.out)
  rw [bA1] at HB1
  go_wp2_with fail
  refine HB1.out.mono ?_
  rintro e w4 ⟨hb4, a4, cap4, v4, c4, rfl, hh4, hl4⟩
  have HH4 := Lib.hid (hh4.mono (ok' := fun _ => True) fun _ _ _ => trivial)
  have B4 : Hid (Below w.heap.size w w4) := Lib.hid (B3.out.trans (hb4.mono B3.out.size))
  clear hb4 hh4 hl4 HB1 T1 B3
  rw [L1]
  go_wp2_with fail
  refine (fnW _ _ _ _ _).mono ?_
  rintro e w5 ⟨rfl, hb5⟩
  go_wp2_with fail
  refine (vaW _ _).mono ?_
  rintro e w6 ⟨rfl, hb6⟩
  go_wp2_with fail
  refine (fnW _ _ _ _ _).mono ?_
  rintro e w7 ⟨rfl, hb7⟩
  have T2 := Lib.hid ((ts_lit2 (w := w6) (ok := fun _ => True) tmB (VarT 2) (Ts.empty _ _) (Ts.empty _ _) (fits_lit _ _ _ (by decide) (by decide) (by decide)) (fits_lit _ _ _ (by decide) (by decide) (by decide)) trivial).keep (Keeps.below hb7 _))
  have hb47 : Below w4.heap.size w4 w7 := by
    have h2 := hb5.trans (hb6.mono hb5.size)
    have h3 := h2.alloc h2.size (.cells #[.int .i64 0, .string ⟨#[98]⟩, .slice none 0 0, .int .i64 2, .string ⟨#[]⟩, .slice none 0 0] 24)
    exact h3.trans (hb7.mono h3.size)
  have B7 : Hid (Below w.heap.size w w7) := Lib.hid (B4.out.trans (hb47.mono B4.out.size))
  have HB2 := Lib.hid (BuildW (w := w7) (K := hG1) (HH4.out.below hb47) (t := tmS) (fits_lit _ _ _ (by decide) (by decide) (by decide)) T2.out)
  rw [bA2] at HB2
  clear hb5 hb6 hb7 hb47 B4 T2 HH4
  go_wp2_with fail
  refine HB2.out.mono ?_
  rintro e w8 ⟨hb8, a8, cap8, v8, c8, rfl, hh8, hl8⟩
  have HH8 := Lib.hid (hh8.mono (ok' := fun _ => True) fun _ _ _ => trivial)
  have B8 : Hid (Below w.heap.size w w8) := Lib.hid (B7.out.trans (hb8.mono B7.out.size))
  have HU := Lib.hid (HUnifyW HH8.out 0 5)
  rw [hUA1] at HU
  clear hb8 hh8 hl8 HB2 B7
  go_wp2_with fail
  refine HU.out.mono ?_
  rintro e w9 ⟨hb9, a9, cap9, v9, c9, rfl, hh9, hl9⟩
  have HH9 := Lib.hid (hh9.mono (ok' := fun _ => True) fun _ _ _ => trivial)
  have B9 : Hid (Below w.heap.size w w9) := Lib.hid (B8.out.trans (hb9.mono B8.out.size))
  have HR := Lib.hid (ReadW HH9.out 5)
  rw [readA1] at HR
  clear hb9 hh9 hl9 HU HH8 B8
  go_wp2_with fail
  refine HR.out.mono ?_
  rintro e w10 ⟨hb10, a10, cap10, v10, c10, rfl, hf10, ht10, hl10⟩
  have HT10 := Lib.hid ht10
  have B10 : Hid (Below w.heap.size w w10) := Lib.hid (B9.out.trans (hb10.mono B9.out.size))
  have HH10 := Lib.hid (HH9.out.below hb10)
  clear hb10 ht10 hl10 hf10 HR HH9 B9
  simp only [show tmT.var = 0 from rfl, show tmT.name = ⟨#[102]⟩ from rfl, show tmT.args.length = 2 from rfl, List.length_nil]
  have BX : Below w10.heap.size w10 (w10.alloc (.cells #[.int .i64 0, .string ⟨#[102]⟩, .slice a10 2 cap10] 24)) := (Below.refl _ _).alloc (Nat.le_refl _) _
  have HX : Hid (Box3 (w10.alloc (.cells #[.int .i64 0, .string ⟨#[102]⟩, .slice a10 2 cap10] 24)) w10.heap.size (.int .i64 0) (.string ⟨#[102]⟩) (.slice a10 2 cap10)) := Lib.hid (Box3.made w10 _ _ _)
  have HTX := Lib.hid (HT10.out.keep (Keeps.below BX _))
  have HHX := Lib.hid (HH10.out.below BX)
  have BWX : Hid (Below w.heap.size w (w10.alloc (.cells #[.int .i64 0, .string ⟨#[102]⟩, .slice a10 2 cap10] 24))) := Lib.hid (B10.out.trans (BX.mono B10.out.size))
  have HD := Lib.hid (DerefW HHX.out 0)
  rw [derefV1, ready_ok inv3 (isc1 (by decide) (by decide))] at HD
  clear BX HT10 HH10 B10
  go_wp2_with fail
  refine HD.out.mono ?_
  rintro e w11 ⟨rfl, hb11⟩
  have O0 : OneT w11 w10.heap.size (.int .i64 0) (.string ⟨#[102]⟩) (.slice a10 2 cap10) w11 := by
    have h := HX.out.below hb11
    exact ⟨Below.refl _ _, h.c0, h.c1, h.c2, h.lt⟩
  have HT11 := Lib.hid (HTX.out.keep (Keeps.below hb11 _))
  have HH11 := Lib.hid (HHX.out.below hb11)
  have B11 : Hid (Below w.heap.size w w11) := Lib.hid (BWX.out.trans (hb11.mono BWX.out.size))
  have C1 : Hid (∀ (w' : World) (b : Option Addr) (c : Nat), OneT w11 w10.heap.size (.int .i64 0) (.string ⟨#[102]⟩) (.slice a10 2 cap10) w' → Hid (Ts w' (fun _ => True) [tmB, tmA] b c) → Calls Try.prog 26 #[.agg #[.int .i64 0, .string ⟨#[102]⟩, .slice a10 2 cap10], .agg #[.int .i64 0, .string ⟨#[102]⟩, .slice b 2 c]] w' fun e w'' => e = .returned (.bool true) ∧ Below w'.heap.size w' w'') := Lib.hid fun w' b c h ht => by
    have := SameTermOf tmT (SameTermsW _) tmT w' (fun _ => True) a10 b cap10 c ((HT11.out.mono fun _ _ _ => trivial).keep (Keeps.below h.below _)) ht.out
    rw [eqT_true rfl] at this
    exact this
  have C2 : Hid (∀ (w' : World), OneT w11 w10.heap.size (.int .i64 0) (.string ⟨#[102]⟩) (.slice a10 2 cap10) w' → Calls Try.prog 34 #[.slice a9 hG3.length cap9] w' fun e w'' => e = .returned (.int .i64 0) ∧ Below w'.heap.size w' w'') := Lib.hid fun w' h => by
    have := HCheckW (HH11.out.below h.below)
    rw [checkH_of inv3] at this
    exact this
  clear hb11 HX HTX HHX BWX HD
  go_wp2_with fail
  go_region_held3 (fun w' => w'.cell? ⟨w10.heap.size, 0, none⟩ = some (.int .i64 0) ∧ w'.cell? ⟨w10.heap.size, 1, none⟩ = some (.string ⟨#[102]⟩) ∧ w'.cell? ⟨w10.heap.size, 2, none⟩ = some (.slice a10 2 cap10) ∧ OneT w11 w10.heap.size (.int .i64 0) (.string ⟨#[102]⟩) (.slice a10 2 cap10) w')
    (first | exact OneT.all (OneT.drew (by assumption)) | exact OneT.all (OneT.next (OneT.of (by assumption)) hb) | exact OneT.all (OneT.next (OneT.of (by assumption)) ((Below.refl _ _).alloc (Nat.le_refl _) _)))
    (first
      | (go_at_call 49; refine (fnW _ _ _ _ _).mono ?_; rintro e w' ⟨rfl, hb⟩; try have HTT := Lib.hid ((ts_lit2 (ok := fun _ => True) tmB tmA (Ts.empty _ _) (Ts.empty _ _) (fits_lit _ _ _ (by decide) (by decide) (by decide)) (fits_lit _ _ _ (by decide) (by decide) (by decide)) trivial).keep (Keeps.below hb _)))
      | (go_at_call 26; (with_reducible refine (C1.out _ _ _ (OneT.of (by assumption)) (by assumption)).mono ?_); rintro e w' ⟨rfl, hb⟩)
      | (go_at_call 34; (with_reducible refine (C2.out _ (OneT.of (by assumption))).mono ?_); rintro e w' ⟨rfl, hb⟩))
  all_goals
    have HB := Lib.hid (OneT.of (by assumption)).below
    go_wp2_with fail
    go_ret
    exact ⟨rfl, B11.out.trans (HB.out.mono B11.out.size)⟩

end Go.Proofs.Ytikmgiapjigghaa

/- Walk: the statement HeapReads. -/
namespace Go.Proofs.Ytikmgiapjigghaa
open Go.RowKit

/-- The three things that are read. -/
def rdQ : RdA → Tm × List Int × Nat
  | .err n => (.mk 0 ⟨#[]⟩ [], [], n)
  | .ok t l => (t, l, 0)

theorem RdPost.form {w : World} {o : RdA} {e : Ending} {w' : World} (h : RdPost w o e w') :
    ∃ a c a2 c2, e = .returned (.tuple #[.agg #[.int .i64 (rdQ o).1.var, .string (rdQ o).1.name, .slice a (rdQ o).1.args.length c], .slice a2 (rdQ o).2.1.length c2, .int .i64 (rdQ o).2.2]) ∧ (rdQ o).1.fits ∧ Ts w' (fun b => w.heap.size ≤ b) (rdQ o).1.args a c ∧ IsAt w' (fun b => w.heap.size ≤ b) (rdQ o).2.1 a2 c2 ∧ Below w.heap.size w w' := by
  obtain ⟨hb, h⟩ := h
  cases o with
  | err n => exact ⟨none, 0, none, 0, h, ⟨by show I64 0; unfold I64; omega, Nat.zero_le _⟩, Ts.empty' _ _, IsAt.nil _ _, hb⟩
  | ok t l => obtain ⟨a, c, a2, c2, h1, h2, h3, h4⟩ := h; exact ⟨a, c, a2, c2, h1, h2, h3, h4, hb⟩

theorem readA_ok {K : List HC} {i : Nat} (h : readyL K [(i : Int)] = 0) : readA K (i : Int) = rdS (shL K 200 [i]) := by
  unfold readA
  rw [if_neg (fun e => e h), Int.toNat_natCast]
  cases shL K 200 [i] <;> rfl

theorem readA_err {K : List HC} {i : Int} (h : readyL K [i] ≠ 0) : readA K i = .err (readyL K [i]) := by unfold readA; rw [if_pos h]

theorem isB_one {K : List HC} {i : Int} : isB K [i] = true ↔ 0 ≤ i ∧ i < (K.length : Int) := by
  rw [isB_iff]
  exact ⟨fun h => h 0 (by simp), fun h j hj => by
    have : j = 0 := by simp at hj; omega
    subst this; exact h⟩

set_option maxRecDepth 100000 in
set_option maxHeartbeats 4000000 in
theorem HeapReadsW (K : List HC) (i : Int) (w : World) (a : Option Addr) (cap : Nat) (h : HpAt w (fun _ => True) K a cap) :
    Calls Try.prog 6 #[.slice a K.length cap, .int .i64 i] w fun e w' => e = .returned (.bool true) ∧ Below w.heap.size w w' := by
  have HP := Lib.hid h
  have hcl : K.length ≤ 9223372036854775807 := by have := h.cap; unfold maxLen at this; omega
  clear h
  go_enter Try.func6, Try.ntmps6
  go_wp2_with fail
  refine (DerefW HP.out i).mono ?_
  rintro e w1 ⟨rfl, hb1⟩
  have HB1 := Lib.hid hb1
  clear hb1
  obtain ⟨dv, hdv⟩ : ∃ dv, derefV K i = dv := ⟨_, rfl⟩
  obtain ⟨rv, hrv⟩ : ∃ rv, readyL K [i] = rv := ⟨_, rfl⟩
  obtain ⟨qv, hqv⟩ : ∃ qv, rdQ (readA K i) = qv := ⟨_, rfl⟩
  obtain ⟨cv, hcv⟩ : ∃ cv, checkH K = cv := ⟨_, rfl⟩
  rw [hdv, hrv]
  have HDV := Lib.hid hdv; have HRV := Lib.hid hrv; have HQV := Lib.hid hqv; have HCV := Lib.hid hcv
  clear hdv hrv hqv hcv
  go_wp2_with fail
  refine (ReadW (HP.out.below HB1.out) i).mono ?_
  rintro e w2 hp2
  obtain ⟨a2, c2, a3, c3, he2, hf2, ht2, hi2, hb2⟩ := hp2.form
  rw [HQV.out] at he2 hf2 ht2 hi2
  subst he2
  obtain ⟨T, L, n⟩ := qv
  simp only at hf2 ht2 hi2 ⊢
  have HB2 : Hid (Below w.heap.size w w2) := Lib.hid (HB1.out.trans (hb2.mono HB1.out.size))
  have HF2 := Lib.hid hf2
  have HT2 : Hid (Ts w2 (fun b => b < w2.heap.size) T.args a2 c2) := Lib.hid (ht2.mono fun _ h _ => h)
  have HI2 : Hid (IsAt w2 (fun b => b < w2.heap.size) L a3 c3) := Lib.hid (hi2.mono fun _ h _ => h)
  clear hp2 hf2 ht2 hi2 hb2
  go_wp2_with fail
  have BX : Below w2.heap.size w2 (w2.alloc (.cells #[.int .i64 T.var, .string T.name, .slice a2 T.args.length c2] 24)) := (Below.refl _ _).alloc (Nat.le_refl _) _
  have HX3 : Hid (Box3 (w2.alloc (.cells #[.int .i64 T.var, .string T.name, .slice a2 T.args.length c2] 24)) w2.heap.size (.int .i64 T.var) (.string T.name) (.slice a2 T.args.length c2)) := Lib.hid (Box3.made w2 _ _ _)
  have HB3 := Lib.hid (HB2.out.trans (BX.mono HB2.out.size))
  have HT3 := Lib.hid (HT2.out.keep (Keeps.below BX _)); have HI3 := Lib.hid (HI2.out.below BX)
  clear BX HT2 HI2
  generalize w2.alloc (.cells #[.int .i64 T.var, .string T.name, .slice a2 T.args.length c2] 24) = w3 at *
  refine (CheckHeapW (HP.out.below HB3.out)).mono ?_
  rintro e w4 ⟨rfl, hb4⟩
  rw [HCV.out]
  have HB4 : Hid (Below w.heap.size w w4) := Lib.hid (HB3.out.trans (hb4.mono HB3.out.size))
  have HX4 := Lib.hid (HX3.out.below hb4); have HT4 := Lib.hid (HT3.out.keep (Keeps.below hb4 _)); have HI4 := Lib.hid (HI3.out.below hb4)
  clear hb4 HX3 HT3 HI3
  obtain ⟨bb, hbb⟩ : ∃ bb : Bool, bb = decide (cv = 0 ∧ ¬ (0 ≤ i ∧ i < (K.length : Int))) := ⟨_, rfl⟩
  have HBB := Lib.hid hbb
  clear hbb
  go_upto_region 5 with fail
  go_cut [43] (fun v43 wx => v43 = .bool bb ∧ w4 = wx)
  case first =>
    by_cases hc : cv = 0
    · subst hc
      by_cases h0 : i < 0
      · have hd : decide (i < 0) = true := decide_eq_true h0
        go_wp2_with fail
        go_meet
        exact ⟨by rw [show bb = true by rw [HBB.out]; exact decide_eq_true (by refine ⟨?_, ?_⟩; all_goals first | trivial | omega)], rfl⟩
      · have hd : decide (i < 0) = false := decide_eq_false h0
        by_cases h1 : (K.length : Int) ≤ i
        · have hd2 : decide ((K.length : Int) ≤ i) = true := decide_eq_true h1
          go_wp2_with fail
          go_meet
          exact ⟨by rw [show bb = true by rw [HBB.out]; exact decide_eq_true (by refine ⟨?_, ?_⟩; all_goals first | trivial | omega)], rfl⟩
        · have hd2 : decide ((K.length : Int) ≤ i) = false := decide_eq_false h1
          go_wp2_with fail
          go_meet
          exact ⟨by rw [show bb = false by rw [HBB.out]; exact decide_eq_false (fun h => h.2 (by omega))], rfl⟩
    · have hcz : ((cv : Int) == 0) = false := by rw [beq_eq_false_iff_ne]; omega
      have HC := Lib.hid hc
      clear hc
      go_wp2_with fail
      go_meet
      exact ⟨by rw [HBB.out, decide_eq_false (fun h => HC.out h.1)], rfl⟩
  case rest =>
    obtain ⟨rfl, rfl⟩ := hcut
    have HR : Hid (rv = if bb = true then 5 else cv) := Lib.hid (by
      rw [← HRV.out, HBB.out]
      unfold readyL
      rw [HCV.out]
      by_cases hc : cv = 0
      · rw [if_neg (fun e => e hc)]
        by_cases hb : 0 ≤ i ∧ i < (K.length : Int)
        · rw [if_pos (isB_one.2 hb), if_neg (by simp [hc]; omega), hc]
        · rw [if_neg (fun e => hb (isB_one.1 e)), if_pos (by simp [hc]; omega)]
      · rw [if_pos hc, if_neg (by simp [hc])])
    obtain ⟨x0, x1, x2, xf⟩ := HX4.out.all
    have BY : Below w4.heap.size w4 (w4.alloc (.cells #[.int .i64 0, .string ⟨#[]⟩, .slice none 0 0] 24)) := (Below.refl _ _).alloc (Nat.le_refl _) _
    have HY5 : Hid (Box3 (w4.alloc (.cells #[.int .i64 0, .string ⟨#[]⟩, .slice none 0 0] 24)) w4.heap.size (.int .i64 0) (.string ⟨#[]⟩) (.slice none 0 0)) := Lib.hid (Box3.made w4 _ _ _)
    have HX5 := Lib.hid (HX4.out.below BY); have HT5 := Lib.hid (HT4.out.keep (Keeps.below BY _)); have HI5 := Lib.hid (HI4.out.below BY)
    have HB5 := Lib.hid (HB4.out.trans (BY.mono HB4.out.size))
    have HLT := Lib.hid HX4.out.lt
    clear BY HX4 HT4 HI4 x0 x1 x2 xf
    by_cases hz : rv = 0
    · subst hz
      have hbf : bb = false := by
        have := HR.out
        cases hbb : bb with
        | true => rw [if_pos hbb] at this; cases this
        | false => rfl
      have hcv0 : cv = 0 := by
        have := HR.out
        rw [hbf] at this
        exact this.symm
      subst hbf; subst hcv0
      have HZ := Lib.hid (readyL_zero HRV.out)
      obtain ⟨i', hi'⟩ : ∃ i' : Nat, i = (i' : Int) := ⟨i.toNat, by have := (HZ.out.2 0 (by simp)).1; simp only [List.getElem_cons_zero] at this; omega⟩
      have hlt : i' < K.length := by have := (HZ.out.2 0 (by simp)).2; simp only [List.getElem_cons_zero] at this; omega
      subst hi'
      have HQ : Hid (rdQ (rdS (shL K 200 [i'])) = (T, L, n)) := Lib.hid (by rw [← readA_ok HRV.out]; exact HQV.out)
      obtain ⟨m, hm⟩ := end_spec (HZ.out.1.straight i' hlt)
      have HEQ : Hid (endH K i' = dv.toNat ∧ dv = (endH K i' : Int)) := Lib.hid (by
        have := HDV.out
        unfold derefV at this
        rw [if_pos HRV.out, Int.toNat_natCast] at this
        omega)
      have HM := Lib.hid hm
      clear hm
      go_wp2_with fail
      generalize w4.alloc (.cells #[.int .i64 0, .string ⟨#[]⟩, .slice none 0 0] 24) = w5 at *
      refine (EndOfW (HP.out.below HB5.out) HZ.out.1.cells HM.out hlt).mono ?_
      rintro e w6 ⟨rfl, rfl⟩
      rw [← HEQ.out.2]
      go_wp2_with fail
      refine (ReadOfW (HP.out.below HB5.out) HZ.out.1 hlt).mono ?_
      rintro e w6 hp6
      obtain ⟨a4, c4, a5, c5, he6, hf6, ht6, hi6, hb6⟩ := hp6.form
      rw [HQ.out] at he6 ht6 hi6
      subst he6
      simp only at ht6 hi6 ⊢
      have HB6 : Hid (Below w.heap.size w w6) := Lib.hid (HB5.out.trans (hb6.mono HB5.out.size))
      have HY6 := Lib.hid (HY5.out.below hb6); have HX6 := Lib.hid (HX5.out.below hb6); have HT6 := Lib.hid (HT5.out.keep (Keeps.below hb6 _)); have HI6 := Lib.hid (HI5.out.below hb6)
      have HU6 : Hid (Ts w6 (fun b => w4.heap.size < b) T.args a4 c4) := Lib.hid (ht6.mono fun _ _ h => by have := HY5.out.lt; omega)
      have HJ6 : Hid (IsAt w6 (fun b => w4.heap.size < b) L a5 c5) := Lib.hid (hi6.mono fun _ _ h => by have := HY5.out.lt; omega)
      have hl6 : w4.heap.size < w6.heap.size := HY6.out.lt
      obtain ⟨y0, y1, y2, yf⟩ := HY6.out.all
      clear hp6 hf6 ht6 hi6 hb6 HX5 HT5 HI5 HY5
      go_wp2_with fail
      have TP := touch_put w6 w4.heap.size (.int .i64 T.var) (.string T.name) (.slice a4 T.args.length c4)
      have HX7 := HX6.out.keep (TP.block _ HX6.out.lt (by have := HLT.out; omega))
      have HY7 := HY6.out.zput (.int .i64 T.var) (.string T.name) (.slice a4 T.args.length c4)
      have HT7 : Ts _ (fun _ => True) T.args a2 c2 := (HT6.out.keep (TP.keeps fun b hb e => by have := HLT.out; omega)).mono fun _ _ _ => trivial
      have HI7 : IsAt _ (fun _ => True) L a3 c3 := (HI6.out.keep (TP.keeps fun b hb e => by have := HLT.out; omega)).mono fun _ _ _ => trivial
      have HU7 : Ts _ (fun _ => True) T.args a4 c4 := (HU6.out.keep (TP.keeps fun b hb e => by omega)).mono fun _ _ _ => trivial
      have HJ7 : IsAt _ (fun _ => True) L a5 c5 := (HJ6.out.keep (TP.keeps fun b hb e => by omega)).mono fun _ _ _ => trivial
      have HB7 := Lib.hid (below_put HB6.out (show w.heap.size ≤ w4.heap.size by have := HB4.out.size; omega) (.int .i64 T.var) (.string T.name) (.slice a4 T.args.length c4))
      have HX7 := Lib.hid HX7; have HY7 := Lib.hid HY7; have HT7 := Lib.hid HT7; have HI7 := Lib.hid HI7; have HU7 := Lib.hid HU7; have HJ7 := Lib.hid HJ7
      clear TP y0 y1 y2 yf HT6 HI6 HU6 HJ6 HX6 HY6
      generalize ((w6.setCell ⟨w4.heap.size, 0, none⟩ (.int .i64 T.var)).setCell ⟨w4.heap.size, 1, none⟩ (.string T.name)).setCell ⟨w4.heap.size, 2, none⟩ (.slice a4 T.args.length c4) = w7 at *
      refine (heapBegunW _).mono ?_
      rintro e w8 ⟨rfl, hb8⟩
      have HB8 : Hid (Below w.heap.size w w8) := Lib.hid (HB7.out.trans (hb8.mono HB7.out.size))
      have HK8 := Lib.hid hb8
      clear hb8
      go_wp2_with fail
      refine (HCheckW (HP.out.below HB8.out)).mono ?_
      rintro e w9 ⟨rfl, hb9⟩
      rw [HCV.out]
      have HB9 : Hid (Below w.heap.size w w9) := Lib.hid (HB8.out.trans (hb9.mono HB8.out.size))
      have HK9 : Hid (Below w7.heap.size w7 w9) := Lib.hid (HK8.out.trans (hb9.mono HK8.out.size))
      obtain ⟨x0, x1, x2, xf⟩ := (HX7.out.below HK9.out).all
      obtain ⟨y0, y1, y2, yf⟩ := (HY7.out.below HK9.out).all
      have hl2 : w2.heap.size < w9.heap.size := (HX7.out.below HK9.out).lt
      have hl4 : w4.heap.size < w9.heap.size := (HY7.out.below HK9.out).lt
      have HST := Lib.hid (SameTermOf T (SameTermsW T.args) T w9 (fun _ => True) a2 a4 c2 c4 (HT7.out.keep (Keeps.below HK9.out _)) (HU7.out.keep (Keeps.below HK9.out _)))
      have HET : Hid (eqT T T = true) := Lib.hid (eqT_true rfl)
      clear hb9
      go_wp2_with (go_at_call 26; refine HST.out.mono ?_; rw [HET.out]; rintro e w10 ⟨rfl, hb10⟩; have HB10 := Lib.hid hb10; clear hb10)
      refine (SameIntsW ((HI7.out.below HK9.out).below HB10.out) ((HJ7.out.below HK9.out).below HB10.out)).mono ?_
      rintro e w11 ⟨rfl, hb11⟩
      have HDL : Hid (decide (L = L) = true) := Lib.hid (decide_eq_true rfl)
      rw [HDL.out]
      have HB11 : Hid (Below w.heap.size w w11) := Lib.hid ((HB9.out.trans (HB10.out.mono HB9.out.size)).trans (hb11.mono (HB9.out.trans (HB10.out.mono HB9.out.size)).size))
      clear hb11
      go_wp2_with fail
      go_ret
      exact ⟨rfl, HB11.out⟩
    · have HQ : Hid ((T, L, n) = ((.mk 0 ⟨#[]⟩ [] : Tm), ([] : List Int), rv)) := Lib.hid (by
        rw [← HQV.out, readA_err (by rw [HRV.out]; exact hz), HRV.out]; rfl)
      have hq := HQ.out
      injection hq with hT hq
      injection hq with hL hn
      have hd0 : dv = 0 := by
        rw [← HDV.out]
        unfold derefV
        rw [if_neg (by rw [HRV.out]; exact hz)]
      have HTT := Lib.hid hT; have HLL := Lib.hid hL
      clear hT hL
      subst hn; subst hd0
      have hrz : ((n : Int) == 0) = false := by rw [beq_eq_false_iff_ne]; omega
      clear hz HQ HQV HDV
      by_cases hb : bb = true
      · have hn5 : n = 5 := by rw [HR.out, if_pos hb]
        subst hb
        subst hn5
        clear HR hrz
        go_wp2_with fail
        generalize w4.alloc (.cells #[.int .i64 0, .string ⟨#[]⟩, .slice none 0 0] 24) = w5 at *
        refine (heapBegunW _).mono ?_
        rintro e w8 ⟨rfl, hb8⟩
        have HB8 : Hid (Below w.heap.size w w8) := Lib.hid (HB5.out.trans (hb8.mono HB5.out.size))
        have HK8 := Lib.hid hb8
        clear hb8
        go_wp2_with fail
        refine (HCheckW (HP.out.below HB8.out)).mono ?_
        rintro e w9 ⟨rfl, hb9⟩
        rw [HCV.out]
        have HB9 : Hid (Below w.heap.size w w9) := Lib.hid (HB8.out.trans (hb9.mono HB8.out.size))
        have HK9 : Hid (Below w5.heap.size w5 w9) := Lib.hid (HK8.out.trans (hb9.mono HK8.out.size))
        obtain ⟨x0, x1, x2, xf⟩ := (HX5.out.below HK9.out).all
        obtain ⟨y0, y1, y2, yf⟩ := (HY5.out.below HK9.out).all
        have hl2 : w2.heap.size < w9.heap.size := (HX5.out.below HK9.out).lt
        have hl4 : w4.heap.size < w9.heap.size := (HY5.out.below HK9.out).lt
        have HST := Lib.hid (SameTermOf T (SameTermsW T.args) (.mk 0 ⟨#[]⟩ []) w9 (fun _ => True) a2 none c2 0 ((HT5.out.mono fun _ _ _ => trivial).keep (Keeps.below HK9.out _)) (Ts.empty' _ _))
        have HET : Hid (eqT T (.mk 0 ⟨#[]⟩ []) = true) := Lib.hid (eqT_true HTT.out)
        clear hb9
        go_wp2_with (go_at_call 26; refine HST.out.mono ?_; rw [HET.out]; rintro e w10 ⟨rfl, hb10⟩; have HB10 := Lib.hid hb10; clear hb10)
        refine (SameIntsW ((HI5.out.below HK9.out).below HB10.out) (IsAt.nil _ (fun _ => True))).mono ?_
        rintro e w11 ⟨rfl, hb11⟩
        have HDL : Hid (decide (L = []) = true) := Lib.hid (decide_eq_true HLL.out)
        rw [HDL.out]
        have HB11 : Hid (Below w.heap.size w w11) := Lib.hid ((HB9.out.trans (HB10.out.mono HB9.out.size)).trans (hb11.mono (HB9.out.trans (HB10.out.mono HB9.out.size)).size))
        clear hb11
        go_wp2_with fail
        go_ret
        exact ⟨rfl, HB11.out⟩
      · have hbf : bb = false := by simpa using hb
        have hnc : n = cv := by rw [HR.out, if_neg hb]
        clear HR hb
        subst hbf
        subst hnc
        go_wp2_with fail
        generalize w4.alloc (.cells #[.int .i64 0, .string ⟨#[]⟩, .slice none 0 0] 24) = w5 at *
        refine (heapBegunW _).mono ?_
        rintro e w8 ⟨rfl, hb8⟩
        have HB8 : Hid (Below w.heap.size w w8) := Lib.hid (HB5.out.trans (hb8.mono HB5.out.size))
        have HK8 := Lib.hid hb8
        clear hb8
        go_wp2_with fail
        refine (HCheckW (HP.out.below HB8.out)).mono ?_
        rintro e w9 ⟨rfl, hb9⟩
        rw [HCV.out]
        have HB9 : Hid (Below w.heap.size w w9) := Lib.hid (HB8.out.trans (hb9.mono HB8.out.size))
        have HK9 : Hid (Below w5.heap.size w5 w9) := Lib.hid (HK8.out.trans (hb9.mono HK8.out.size))
        obtain ⟨x0, x1, x2, xf⟩ := (HX5.out.below HK9.out).all
        obtain ⟨y0, y1, y2, yf⟩ := (HY5.out.below HK9.out).all
        have hl2 : w2.heap.size < w9.heap.size := (HX5.out.below HK9.out).lt
        have hl4 : w4.heap.size < w9.heap.size := (HY5.out.below HK9.out).lt
        have HST := Lib.hid (SameTermOf T (SameTermsW T.args) (.mk 0 ⟨#[]⟩ []) w9 (fun _ => True) a2 none c2 0 ((HT5.out.mono fun _ _ _ => trivial).keep (Keeps.below HK9.out _)) (Ts.empty' _ _))
        have HET : Hid (eqT T (.mk 0 ⟨#[]⟩ []) = true) := Lib.hid (eqT_true HTT.out)
        clear hb9
        go_wp2_with (go_at_call 26; refine HST.out.mono ?_; rw [HET.out]; rintro e w10 ⟨rfl, hb10⟩; have HB10 := Lib.hid hb10; clear hb10)
        refine (SameIntsW ((HI5.out.below HK9.out).below HB10.out) (IsAt.nil _ (fun _ => True))).mono ?_
        rintro e w11 ⟨rfl, hb11⟩
        have HDL : Hid (decide (L = []) = true) := Lib.hid (decide_eq_true HLL.out)
        rw [HDL.out]
        have HB11 : Hid (Below w.heap.size w w11) := Lib.hid ((HB9.out.trans (HB10.out.mono HB9.out.size)).trans (hb11.mono (HB9.out.trans (HB10.out.mono HB9.out.size)).size))
        clear hb11
        go_wp2_with fail
        go_ret
        exact ⟨rfl, HB11.out⟩

end Go.Proofs.Ytikmgiapjigghaa
