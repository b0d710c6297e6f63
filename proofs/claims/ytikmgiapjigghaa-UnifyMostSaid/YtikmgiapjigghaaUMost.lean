/- Proved: the statement UnifyMostSaid: whatever two terms and whatever list of terms it is handed, 'UnifyMost' answers true, and each argument reads behind the call as it read before. No condition. -/
import Derived.Test.YtikmgiapjigghaaUMostP
import Derived.Test.YtikmgiapjigghaaOpen
import Derived.Deep.RegionWith
import Derived.Test.YtikmgiapjigghaaMeetW
import Derived.Deep.DeepCutAuto
namespace Go.Proofs.Ytikmgiapjigghaa
open Go.ChangeShapes Go.WideShapes Go.ChangeAt Go.RowKit

/-- What Unify handed back, and what is known of it. -/
def UKnow (s t : Tm) (l : List Tm) (b : Bool) (n : Nat) : Prop :=
  (n ≠ 0 ∧ l = []) ∨ (n = 0 ∧ s.checkE = 0 ∧ t.checkE = 0 ∧ ((b = false ∧ l = [] ∧ ∀ S, s.putIn S ≠ t.putIn S) ∨
    (b = true ∧ l.length = 12 ∧ (∀ x, x ∈ l → Fit 13 x ∧ x.size ≤ 200) ∧ (∀ S : Int → Tm, (∀ i (h : i < l.length), S ((i : Int) + 1) = l[i]) → s.putIn S = t.putIn S) ∧ ∀ S, s.putIn S = t.putIn S → ∀ i (h : i < l.length), l[i].putIn S = S ((i : Int) + 1))))

theorem UPost.know {w : World} {ok : Nat → Prop} {s t : Tm} {e : Ending} {w' : World} (h : UPost w ok (uA s t) e w') :
    ∃ l a cap b k n, e = .returned (.tuple #[.slice a l.length cap, .bool b, .int .i64 (k : Nat), .int .i64 (n : Nat)]) ∧ Ts w' (OkN ok w) l a cap ∧ Below w.heap.size w w' ∧ UKnow s t l b n := by
  have hm := uA_most s t
  obtain ⟨hb, h⟩ := h
  generalize uA s t = o at *
  cases o with
  | err n => exact ⟨[], none, 0, false, 0, n, h, Ts.empty' _ _, hb, .inl ⟨hm, rfl⟩⟩
  | no k => exact ⟨[], none, 0, false, k, 0, h, Ts.empty' _ _, hb, .inr ⟨rfl, hm.1, hm.2.1, .inl ⟨rfl, rfl, hm.2.2⟩⟩⟩
  | ok l k => obtain ⟨a, cap, h1, h2⟩ := h; exact ⟨l, a, cap, true, k, 0, h1, h2, hb, .inr ⟨rfl, hm.1, hm.2.1, .inr ⟨rfl, hm.2.2⟩⟩⟩

/-- The flag behind the loop over what is to be put in. -/
def AllOk (B : List Tm) (i : Nat) (sm : Bool) : Prop := sm = true ↔ B.length = 12 ∧ ∀ j (h : j < B.length), j < i → B[j].checkE = 0

theorem AllOk.stop {B : List Tm} {i : Nat} (h : AllOk B i false) (j : Nat) (hj : i ≤ j) : AllOk B j false := by
  unfold AllOk at *
  constructor
  · intro e; cases e
  · rintro ⟨h1, h2⟩
    exact h.2 ⟨h1, fun k hk hki => h2 k hk (by omega)⟩

set_option maxRecDepth 100000 in
set_option maxHeartbeats 2000000 in
theorem UnifyMostW (s t : Tm) (B : List Tm) (w : World) (a1 a2 a3 : Option Addr) (c1 c2 c3 : Nat) (hs : s.fits) (ht : t.fits) (h1 : Ts w (fun _ => True) s.args a1 c1) (h2 : Ts w (fun _ => True) t.args a2 c2) (h3 : Ts w (fun _ => True) B a3 c3) :
    Calls Try.prog 5 #[.agg #[.int .i64 s.var, .string s.name, .slice a1 s.args.length c1], .agg #[.int .i64 t.var, .string t.name, .slice a2 t.args.length c2], .slice a3 B.length c3] w fun e w' => e = .returned (.bool true) ∧ Below w.heap.size w w' := by
  have HS := Lib.hid hs; have HT := Lib.hid ht; have H1 := Lib.hid h1; have H2 := Lib.hid h2; have H3 := Lib.hid h3
  have hBl : B.length ≤ 9223372036854775807 := by have := h3.cap; unfold maxLen at this; omega
  clear hs ht h1 h2 h3
  have hA0 : Box3 ((w.alloc (.cells #[.int .i64 s.var, .string s.name, .slice a1 s.args.length c1] 24)).alloc (.cells #[.int .i64 t.var, .string t.name, .slice a2 t.args.length c2] 24)) w.heap.size (.int .i64 s.var) (.string s.name) (.slice a1 s.args.length c1) := (Box3.made w _ _ _).alloc _
  have hA1 : Box3 ((w.alloc (.cells #[.int .i64 s.var, .string s.name, .slice a1 s.args.length c1] 24)).alloc (.cells #[.int .i64 t.var, .string t.name, .slice a2 t.args.length c2] 24)) (w.heap.size + 1) (.int .i64 t.var) (.string t.name) (.slice a2 t.args.length c2) := Box3.made2 (by simp)
  have hB0 : Below w.heap.size w ((w.alloc (.cells #[.int .i64 s.var, .string s.name, .slice a1 s.args.length c1] 24)).alloc (.cells #[.int .i64 t.var, .string t.name, .slice a2 t.args.length c2] 24)) := ((Below.refl _ _).alloc (Nat.le_refl _) _).alloc (by simp) _
  have HA0 := Lib.hid hA0; have HA1 := Lib.hid hA1; have HB0 := Lib.hid hB0
  clear hA0 hA1 hB0
  go_enter Try.func5, Try.ntmps5
  go_wp2_with fail
  generalize ((w.alloc (.cells #[.int .i64 s.var, .string s.name, .slice a1 s.args.length c1] 24)).alloc (.cells #[.int .i64 t.var, .string t.name, .slice a2 t.args.length c2] 24)) = W0 at *
  refine (unifyBegunW _).mono ?_
  rintro e w1 ⟨rfl, hb1⟩
  have HB1 : Hid (Below w.heap.size w w1) := Lib.hid (HB0.out.trans (hb1.mono HB0.out.size))
  have hX0 := HA0.out.below hb1; have hX1 := HA1.out.below hb1
  have x0 := hX0.c0; have x1 := hX0.c1; have x2 := hX0.c2
  have y0 := hX1.c0; have y1 := hX1.c1; have y2 := hX1.c2
  have HX0 := Lib.hid hX0; have HX1 := Lib.hid hX1
  clear hb1 hX0 hX1 HA0 HA1
  go_wp2_with fail
  refine (UnifyW (ok := fun b => b < w.heap.size) (fun b hb => by have := HB1.out.size; omega) HS.out HT.out ((H1.out.mono fun b hb _ => hb).keep (Keeps.below HB1.out _)) ((H2.out.mono fun b hb _ => hb).keep (Keeps.below HB1.out _))).mono ?_
  rintro e w2 hp
  obtain ⟨l, a4, c4, b, k, n, rfl, hts, hb2, hkn⟩ := hp.know
  have HL := Lib.hid (hts.mono (ok' := fun _ => True) fun _ _ _ => trivial)
  have HB2 : Hid (Below w.heap.size w w2) := Lib.hid (HB1.out.trans (hb2.mono HB1.out.size))
  have hX0 := HX0.out.below hb2; have hX1 := HX1.out.below hb2
  have HY0 := Lib.hid hX0; have HY1 := Lib.hid hX1
  clear hb2 hX0 hX1 hts hp x0 x1 x2 y0 y1 y2 HX0 HX1
  rcases hkn with ⟨hn, rfl⟩ | ⟨rfl, hs0, ht0, hkn⟩
  · have hn' : ((n : Int) != 0) = true := bne0 hn
    clear hn
    go_wp2_with fail
    go_ret
    exact ⟨rfl, HB2.out⟩
  · have HS0 := Lib.hid hs0; have HT0 := Lib.hid ht0; have HKN := Lib.hid hkn
    clear hs0 ht0 hkn
    have hllen : l.length ≤ 9223372036854775807 := by have := HL.out.cap; unfold maxLen at this; omega
    go_wp2_with fail
    go_loopw [11, 12] (fun v11 v12 wr => ∃ (i : Nat) (sm : Bool), i ≤ B.length ∧ v12 = .int .i64 i ∧ v11 = .bool sm ∧ Hid (AllOk B i sm) ∧ Below w2.heap.size w2 wr) (fun _ v12 _ => B.length - (intOf v12).toNat)
    case atStart =>
      exact ⟨0, ((B.length : Int) == 12), Nat.zero_le _, rfl, rfl, Lib.hid (by
        unfold AllOk
        rw [beq_iff_eq]
        exact ⟨fun h => ⟨by omega, fun j _ h => by omega⟩, fun h => by have := h.1; omega⟩), Below.refl _ _⟩
    case round =>
      obtain ⟨i, sm, hi, rfl, rfl, HOKI, hbel⟩ := hrel
      have HBEL := Lib.hid hbel
      have H3R := Lib.hid (H3.out.keep (Keeps.below (HB2.out.trans (hbel.mono HB2.out.size)) _))
      have hsz2 := HB2.out.size
      clear hbel
      by_cases hlt : i < B.length
      · obtain ⟨bb, off, a', cap', rfl, -, hbs, hc3, ht3⟩ := H3R.out.at i hlt
        have q0 := hc3.var; have q1 := hc3.name; have q2 := hc3.args
        have HCT := Lib.hid (CheckTermW B[i] wr (fun _ => True) (fun _ _ => trivial) a' cap' hc3.fits ht3)
        clear hc3 ht3 hsz2
        cases sm with
        | false =>
          go_wp2_with fail
          go_roundw
          case measure => simp [intOf]; omega
          case rel => exact ⟨i + 1, false, by omega, by go_num, rfl, Lib.hid (HOKI.out.stop _ (Nat.le_succ i)), HBEL.out⟩
        | true =>
          by_cases hz : B[i].checkE = 0
          · have hz' : ((B[i].checkE : Int) == 0) = true := by rw [hz]; rfl
            have HN : Hid (AllOk B (i + 1) true) := Lib.hid (by
              have h := HOKI.out
              unfold AllOk at *
              have h2 := h.1 rfl
              exact ⟨fun _ => ⟨h2.1, fun j hj hji => by
                by_cases e : j = i
                · subst e; exact hz
                · exact h2.2 j hj (by omega)⟩, fun _ => rfl⟩)
            clear hz
            go_wp2_with (go_at_call 18; refine HCT.out.mono ?_; rintro e w3 ⟨rfl, hb3⟩)
            go_roundw
            case measure => simp [intOf]; omega
            case rel => exact ⟨i + 1, true, by omega, by go_num, rfl, HN, HBEL.out.trans (hb3.mono HBEL.out.size)⟩
          · have hz' : ((B[i].checkE : Int) == 0) = false := by rw [beq_eq_false_iff_ne]; omega
            have HN : Hid (AllOk B (i + 1) false) := Lib.hid (by
              unfold AllOk
              exact ⟨fun e => (by cases e), fun h => absurd (h.2 i hlt (Nat.lt_succ_self i)) hz⟩)
            clear hz
            go_wp2_with (go_at_call 18; refine HCT.out.mono ?_; rintro e w3 ⟨rfl, hb3⟩)
            go_roundw
            case measure => simp [intOf]; omega
            case rel => exact ⟨i + 1, false, by omega, by go_num, rfl, HN, HBEL.out.trans (hb3.mono HBEL.out.size)⟩
      · have hie : i = B.length := by omega
        subst hie
        have HSM : Hid (sm = true → B.length = 12 ∧ ∀ j (h : j < B.length), B[j].checkE = 0) := Lib.hid (fun e => ⟨(HOKI.out.1 e).1, fun j h => (HOKI.out.1 e).2 j h h⟩)
        have HW3 : Hid (Below w.heap.size w wr) := Lib.hid (HB2.out.trans (HBEL.out.mono HB2.out.size))
        have HZ0 := Lib.hid (HY0.out.below HBEL.out); have HZ1 := Lib.hid (HY1.out.below HBEL.out)
        have HLR := Lib.hid (HL.out.keep (Keeps.below HBEL.out _))
        clear HOKI HBEL HY0 HY1 HB2 HL hsz2 hi
        generalize wr = wv at *
        go_upto_region 11 with fail
        go_cut [11] (fun v11 wx => ∃ sm' : Bool, v11 = .bool sm' ∧ Hid (sm' = true → sm = true ∧ s.putIn (byL B) = t.putIn (byL B)) ∧ Below wv.heap.size wv wx)
        case first =>
          cases sm with
          | false =>
            have DQ := below_drewN wv
            go_wp2_with fail
            go_quiet (fail)
            rename_i nq
            have hB := DQ nq
            generalize wv.drewN nq = X at *
            go_wp2_with fail
            go_meet
            exact ⟨false, rfl, Lib.hid (fun e => nomatch e), hB⟩
          | true =>
            have HB12 := Lib.hid (HSM.out rfl).1
            have CA : Hid (∀ W, Below wv.heap.size wv W → Calls Try.prog 27 #[.agg #[.int .i64 s.var, .string s.name, .slice a1 s.args.length c1], .slice a3 B.length c3] W _) := Lib.hid (fun W hW => PutInC hW HB12.out HS.out (by have := (check_zero HS0.out).1; omega) (check_fit HS0.out) (H1.out.keep (Keeps.below HW3.out _)) (H3.out.keep (Keeps.below HW3.out _)))
            have CB : Hid (∀ W, Below wv.heap.size wv W → Calls Try.prog 27 #[.agg #[.int .i64 t.var, .string t.name, .slice a2 t.args.length c2], .slice a3 B.length c3] W _) := Lib.hid (fun W hW => PutInC hW HB12.out HT.out (by have := (check_zero HT0.out).1; omega) (check_fit HT0.out) (H2.out.keep (Keeps.below HW3.out _)) (H3.out.keep (Keeps.below HW3.out _)))
            have T0 : TwoT wv w.heap.size 0 (w.heap.size + 1) 0 (.int .i64 s.var) (.string s.name) (.slice a1 s.args.length c1) (.int .i64 t.var) (.string t.name) (.slice a2 t.args.length c2) wv := ⟨Below.refl _ _, HZ0.out.c0, HZ0.out.c1, HZ0.out.c2, HZ1.out.c0, HZ1.out.c1, HZ1.out.c2, HZ0.out.lt, HZ1.out.lt⟩
            go_region_held3 (fun u => u.cell? ⟨w.heap.size, 0, none⟩ = some (.int .i64 s.var) ∧ u.cell? ⟨w.heap.size, 1, none⟩ = some (.string s.name) ∧ u.cell? ⟨w.heap.size, 2, none⟩ = some (.slice a1 s.args.length c1) ∧ u.cell? ⟨w.heap.size + 1, 0, none⟩ = some (.int .i64 t.var) ∧ u.cell? ⟨w.heap.size + 1, 1, none⟩ = some (.string t.name) ∧ u.cell? ⟨w.heap.size + 1, 2, none⟩ = some (.slice a2 t.args.length c2) ∧ TwoT wv w.heap.size 0 (w.heap.size + 1) 0 (.int .i64 s.var) (.string s.name) (.slice a1 s.args.length c1) (.int .i64 t.var) (.string t.name) (.slice a2 t.args.length c2) u)
              (first
                | exact TwoT.all (TwoT.drew (by assumption))
                | exact TwoT.all (TwoT.next (TwoT.of (by assumption)) hbS)
                | exact TwoT.all (TwoT.next (TwoT.of (by assumption)) hbA)
                | exact TwoT.all (TwoT.next (TwoT.of (by assumption)) hbB))
              (first
                | (go_at_call_of 27 (Value.string s.name); refine (CA.out _ (TwoT.of (by assumption)).below).mono ?_; rintro e wA ⟨pA, cA, rfl, kA, hbA⟩)
                | (go_at_call_of 27 (Value.string t.name); refine (CB.out _ (TwoT.of (by assumption)).below).mono ?_; rintro e wB ⟨pB, cB, rfl, kB, hbB⟩)
                | (go_at_call 26
                   refine (SameTermOf (s.putIn (byL B)) (SameTermsW _) (t.putIn (byL B)) _ (fun _ => True) pA pB cA cB (kA _ ?kA) (kB _ ?kB)).mono ?_
                   all_goals (repeat' (first | (with_reducible exact Below.refl _ _) | (with_reducible refine Below.drew ?_) | (with_reducible refine Below.up ?_ hbA ?_) | (with_reducible refine Below.up ?_ hbB ?_) | (simp only [dSz]; omega) | omega))
                   rintro e wS ⟨rfl, hbS⟩))
            all_goals
              go_wp2_with fail
              go_meet
              exact ⟨_, rfl, Lib.hid (fun e => ⟨trivial, eqT_iff.1 e⟩), (TwoT.of (by assumption)).below⟩
        case rest =>
          obtain ⟨sm', rfl, HSN, hbx⟩ := hcut
          have HWC : Hid (Below w.heap.size w wc) := Lib.hid (HW3.out.trans (hbx.mono HW3.out.size))
          have HV0 := Lib.hid (HZ0.out.below hbx); have HV1 := Lib.hid (HZ1.out.below hbx)
          have HLC := Lib.hid (HLR.out.keep (Keeps.below hbx _))
          clear hbx HZ0 HZ1 HLR
          rcases HKN.out with ⟨rfl, rfl, hno⟩ | ⟨rfl, hl12, hlf, hl1, hl2⟩
          · have hsf : sm' = false := by
              cases sm' with
              | false => rfl
              | true => exact absurd (HSN.out rfl).2 (hno _)
            subst hsf
            clear HKN hno
            go_wp2_with fail
            go_ret
            exact ⟨rfl, HWC.out⟩
          · have hl12' : ((l.length : Int) != 12) = false := by rw [hl12]; rfl
            have HL12 := Lib.hid hl12; have HLF := Lib.hid hlf; have HLQ := Lib.hid hl1; have HLU := Lib.hid hl2
            clear HKN hl12 hlf hl1 hl2
            go_upto_region 14 with fail
            go_cut [78] (fun v78 wx => v78 = .bool false ∧ Below wc.heap.size wc wx)
            case first =>
              have HEQ : Hid (s.putIn (byL l) = t.putIn (byL l)) := Lib.hid (HLQ.out _ (byL_at l))
              have CA : Hid (∀ W, Below wc.heap.size wc W → Calls Try.prog 27 #[.agg #[.int .i64 s.var, .string s.name, .slice a1 s.args.length c1], .slice a4 l.length c4] W _) := Lib.hid (fun W hW => PutInC hW HL12.out HS.out (by have := (check_zero HS0.out).1; omega) (check_fit HS0.out) (H1.out.keep (Keeps.below HWC.out _)) HLC.out)
              have CB : Hid (∀ W, Below wc.heap.size wc W → Calls Try.prog 27 #[.agg #[.int .i64 t.var, .string t.name, .slice a2 t.args.length c2], .slice a4 l.length c4] W _) := Lib.hid (fun W hW => PutInC hW HL12.out HT.out (by have := (check_zero HT0.out).1; omega) (check_fit HT0.out) (H2.out.keep (Keeps.below HWC.out _)) HLC.out)
              have T0 : TwoT wc w.heap.size 0 (w.heap.size + 1) 0 (.int .i64 s.var) (.string s.name) (.slice a1 s.args.length c1) (.int .i64 t.var) (.string t.name) (.slice a2 t.args.length c2) wc := ⟨Below.refl _ _, HV0.out.c0, HV0.out.c1, HV0.out.c2, HV1.out.c0, HV1.out.c1, HV1.out.c2, HV0.out.lt, HV1.out.lt⟩
              go_region_held3 (fun u => u.cell? ⟨w.heap.size, 0, none⟩ = some (.int .i64 s.var) ∧ u.cell? ⟨w.heap.size, 1, none⟩ = some (.string s.name) ∧ u.cell? ⟨w.heap.size, 2, none⟩ = some (.slice a1 s.args.length c1) ∧ u.cell? ⟨w.heap.size + 1, 0, none⟩ = some (.int .i64 t.var) ∧ u.cell? ⟨w.heap.size + 1, 1, none⟩ = some (.string t.name) ∧ u.cell? ⟨w.heap.size + 1, 2, none⟩ = some (.slice a2 t.args.length c2) ∧ TwoT wc w.heap.size 0 (w.heap.size + 1) 0 (.int .i64 s.var) (.string s.name) (.slice a1 s.args.length c1) (.int .i64 t.var) (.string t.name) (.slice a2 t.args.length c2) u)
                (first
                  | exact TwoT.all (TwoT.drew (by assumption))
                  | exact TwoT.all (TwoT.next (TwoT.of (by assumption)) hbS)
                  | exact TwoT.all (TwoT.next (TwoT.of (by assumption)) hbA)
                  | exact TwoT.all (TwoT.next (TwoT.of (by assumption)) hbB))
                (first
                  | (go_at_call_of 27 (Value.string s.name); refine (CA.out _ (TwoT.of (by assumption)).below).mono ?_; rintro e wA ⟨pA, cA, rfl, kA, hbA⟩)
                  | (go_at_call_of 27 (Value.string t.name); refine (CB.out _ (TwoT.of (by assumption)).below).mono ?_; rintro e wB ⟨pB, cB, rfl, kB, hbB⟩)
                  | (go_at_call 26
                     refine (SameTermOf (s.putIn (byL l)) (SameTermsW _) (t.putIn (byL l)) _ (fun _ => True) pA pB cA cB (kA _ ?kC) (kB _ ?kD)).mono ?_
                     all_goals (repeat' (first | (with_reducible exact Below.refl _ _) | (with_reducible refine Below.drew ?_) | (with_reducible refine Below.up ?_ hbA ?_) | (with_reducible refine Below.up ?_ hbB ?_) | (simp only [dSz]; omega) | omega))
                     rw [eqT_true HEQ.out]
                     rintro e wS ⟨rfl, hbS⟩))
              all_goals
                go_wp2_with fail
                go_meet
                exact ⟨rfl, (TwoT.of (by assumption)).below⟩
            case rest =>
              obtain ⟨rfl, hby⟩ := hcut
              have HBY := Lib.hid hby
              clear hby
              generalize wc = wy at *
              have HWY : Hid (Below w.heap.size w wy) := Lib.hid (HWC.out.trans (HBY.out.mono HWC.out.size))
              have HLY := Lib.hid (HLC.out.keep (Keeps.below HBY.out _))
              have H3Y := Lib.hid (H3.out.keep (Keeps.below HWY.out _))
              clear HWC HBY HLC HV0 HV1
              go_wp2_with fail
              go_loopw [13] (fun v13 wr => ∃ i : Nat, i ≤ l.length ∧ v13 = .int .i64 i ∧ Below wy.heap.size wy wr) (fun v13 _ => l.length - (intOf v13).toNat)
              case atStart => exact ⟨0, Nat.zero_le _, rfl, Below.refl _ _⟩
              case round =>
                obtain ⟨i, hi, rfl, hbel⟩ := hrel
                have HBEL := Lib.hid hbel
                have HLZ := Lib.hid (HLY.out.keep (Keeps.below hbel _))
                have H3Z := Lib.hid (H3Y.out.keep (Keeps.below hbel _))
                clear hbel
                by_cases hlt : i < l.length
                · cases sm' with
                  | false =>
                    go_wp2_with fail
                    go_ret
                    exact ⟨rfl, HWY.out.trans (HBEL.out.mono HWY.out.size)⟩
                  | true =>
                    have hB12 := (HSM.out (HSN.out rfl).1).1
                    have HB12 := Lib.hid hB12
                    have hltB : i < B.length := by rw [hB12, ← HL12.out]; exact hlt
                    obtain ⟨bl, ol, a5, c5, rfl, -, hbl, hc5, ht5⟩ := HLZ.out.at i hlt
                    obtain ⟨bb, ob, a6, c6, rfl, -, hbb, hc6, ht6⟩ := H3Z.out.at i hltB
                    have T0 : TwoT wr bl (ol + i * 3) bb (ob + i * 3) (.int .i64 l[i].var) (.string l[i].name) (.slice a5 l[i].args.length c5) (.int .i64 B[i].var) (.string B[i].name) (.slice a6 B[i].args.length c6) wr := ⟨Below.refl _ _, hc5.var, hc5.name, hc5.args, hc6.var, hc6.name, hc6.args, hbl, hbb⟩
                    have HF5 := Lib.hid hc5.fits
                    have HT5 := Lib.hid ht5; have HT6 := Lib.hid ht6
                    have HEQ : Hid (l[i].putIn (byL B) = B[i]) := Lib.hid (by rw [HLU.out (byL B) (HSN.out rfl).2 i hlt, byL_at B i hltB])
                    have HLI := Lib.hid (HLF.out l[i] (List.getElem_mem hlt))
                    have CA : Hid (∀ W, Below wr.heap.size wr W → Calls Try.prog 27 #[.agg #[.int .i64 l[i].var, .string l[i].name, .slice a5 l[i].args.length c5], .slice (some ⟨bb, ob, none⟩) B.length c3] W _) := Lib.hid (fun W hW => PutInC hW HB12.out HF5.out HLI.out.2 HLI.out.1 HT5.out H3Z.out)
                    rw [HEQ.out] at CA
                    clear hc5 hc6 ht5 ht6 hB12
                    go_wp2_with fail
                    go_region_held3 (fun u => u.cell? ⟨bl, ol + i * 3, none⟩ = some (.int .i64 l[i].var) ∧ u.cell? ⟨bl, ol + i * 3 + 1, none⟩ = some (.string l[i].name) ∧ u.cell? ⟨bl, ol + i * 3 + 2, none⟩ = some (.slice a5 l[i].args.length c5) ∧ u.cell? ⟨bb, ob + i * 3, none⟩ = some (.int .i64 B[i].var) ∧ u.cell? ⟨bb, ob + i * 3 + 1, none⟩ = some (.string B[i].name) ∧ u.cell? ⟨bb, ob + i * 3 + 2, none⟩ = some (.slice a6 B[i].args.length c6) ∧ TwoT wr bl (ol + i * 3) bb (ob + i * 3) (.int .i64 l[i].var) (.string l[i].name) (.slice a5 l[i].args.length c5) (.int .i64 B[i].var) (.string B[i].name) (.slice a6 B[i].args.length c6) u)
                      (first
                        | exact TwoT.all (TwoT.drew (by assumption))
                        | exact TwoT.all (TwoT.next (TwoT.of (by assumption)) hbS)
                        | exact TwoT.all (TwoT.next (TwoT.of (by assumption)) hbA))
                      (first
                        | (go_at_call 27; refine (CA.out _ (TwoT.of (by assumption)).below).mono ?_; rintro e wA ⟨pA, cA, rfl, kA, hbA⟩)
                        | (go_at_call 26
                           refine (SameTermOf B[i] (SameTermsW _) B[i] _ (fun _ => True) pA a6 cA c6 (kA _ ?kE) (HT6.out.keep (Keeps.below (TwoT.of (by assumption)).below _))).mono ?_
                           all_goals (repeat' (first | (with_reducible exact Below.refl _ _) | (with_reducible refine Below.drew ?_) | (with_reducible refine Below.up ?_ hbA ?_) | (simp only [dSz]; omega) | omega))
                           rw [eqT_true rfl]
                           rintro e wS ⟨rfl, hbS⟩))
                    all_goals
                      have HB := Lib.hid (TwoT.of (by assumption)).below
                      go_wp2_with fail
                      go_roundw
                      case measure => simp [intOf]; omega
                      case rel => exact ⟨i + 1, by omega, by go_num, HBEL.out.trans (HB.out.mono HBEL.out.size)⟩
                · go_wp2_with fail
                  go_ret
                  exact ⟨rfl, HWY.out.trans (HBEL.out.mono HWY.out.size)⟩

set_option maxRecDepth 100000 in
theorem unifyMost_lifted (os : Os) (started : os.Started) (H : Type) (enc : TypeId × Value → H) :
    ReturnsInHanded {} Try.checked os 5 .any (Rows.unifyMostSpec.pre6 enc Try.prog Try.f5 Rows.unifyMostRow.domain false) (Rows.unifyMostSpec.post enc Try.prog Try.f5 false true false false) := by
  refine returnsInHanded_of_change (C := Try.checked) Try.own started (by kernel_rfl) Try.func5
    (ChangeSpec.witness6 (enc := enc) (C := Try.checked) false ⟨#[], #[.agg #[.int .i64 0, .string ByteArray.empty, .slice none 0 0], .agg #[.int .i64 0, .string ByteArray.empty, .slice none 0 0], .slice none 0 0], []⟩ 8 (by kernel_rfl) (by kernel_rfl) (by kernel_rfl) (by kernel_rfl)) ?_
  intro W base args ds gs before hval0 hW hcnd _
  have hval : ∀ (j : Nat) t v, Try.f5.params[j]? = some t → args[j]? = some v → Value.okWide Try.prog W .any base t v := hval0
  have hW' := hW
  obtain ⟨p, q, hA0, hV, rfl, hfz, hnd⟩ := hW
  have hA : DataW.TrodAll enc Try.prog W 0 (fun _ => true) true Try.f5.params.toList args.toList ds p := hA0
  rw [Try.params5] at hA hval
  obtain ⟨v0, vs0, d0, ds0, p0, q0, hargs, rfl, rfl, h0, r0⟩ := trodAll_cons hA
  obtain ⟨v1, vs1, d1, ds1, p1, q1, rfl, rfl, rfl, h1, r1⟩ := trodAll_cons r0
  obtain ⟨v2, vs2, d2, ds2, p2, q2, rfl, rfl, rfl, h2, r2⟩ := trodAll_cons r1
  obtain ⟨rfl, rfl, rfl⟩ := trodAll_nil r2
  obtain rfl : args = #[v0, v1, v2] := by cases args; simp_all
  obtain ⟨rfl, rfl⟩ := trodVars_none hV
  have lt0 : ∀ x ∈ p0, x.block < W.heap.size := by obtain ⟨m, hm⟩ := h0; exact DataW.trod_lt m _ _ _ hm
  have lt1 : ∀ x ∈ p1, x.block < W.heap.size := by obtain ⟨m, hm⟩ := h1; exact DataW.trod_lt m _ _ _ hm
  have lt2 : ∀ x ∈ p2, x.block < W.heap.size := by obtain ⟨m, hm⟩ := h2; exact DataW.trod_lt m _ _ _ hm
  have k0 := h0; have k1 := h1; have k2 := h2
  obtain ⟨cs, rfl, _⟩ := okWide_struct Try.underlying24 (hval 0 24 v0 rfl rfl)
  obtain ⟨cs2, rfl, _⟩ := okWide_struct Try.underlying24 (hval 1 24 v1 rfl rfl)
  obtain ⟨s2, n2, c2, rfl⟩ := okWide_slice Try.underlying22 (hval 2 22 v2 rfl rfl)
  obtain ⟨m0, hm0⟩ := h0
  obtain ⟨m1, hm1⟩ := h1
  obtain ⟨m2, hm2⟩ := h2
  obtain ⟨tv, tn, tc, ty, tm, _, e0, ev, es, hm3⟩ := trod_tm hm0
  obtain ⟨tl, ta, tcap, e3, ht0⟩ := trod_ts _ _ _ hm3
  obtain ⟨uv, un, uc, uy, um, _, f0, fv, fs, hm4⟩ := trod_tm hm1
  obtain ⟨ul, ua, ucap, f3, ht1⟩ := trod_ts _ _ _ hm4
  obtain ⟨Q, a2, cap2, e2, ht2⟩ := trod_ts _ _ _ hm2
  simp only [Value.cells, List.cons.injEq, and_true, Value.slice.injEq] at e2 e3 f3
  obtain ⟨rfl, rfl, rfl⟩ := e2
  subst e3; subst f3
  obtain rfl : cs = #[.int .i64 tv, .string tn, .slice ta tl.length tcap] := by
    cases cs; simp only [Value.cells] at e0; rw [e0]
  obtain rfl : cs2 = #[.int .i64 uv, .string un, .slice ua ul.length ucap] := by
    cases cs2; simp only [Value.cells] at f0; rw [f0]
  clear hA0 hval0 hval
  refine (UnifyMostW (.mk tv tn tl) (.mk uv un ul) Q W ta ua s2 tcap ucap c2 ⟨ev, es⟩ ⟨fv, fs⟩ ht0 ht1 ht2).mono fun e W' ⟨he, bel⟩ => ?_
  subst he
  exact ⟨_, rfl, _, _, _, [], _, [], hW', trodAll_mk1 (shut_bool Try.underlying4 _),
    (trodAll_cons_mk (Below.trod Try.laidOut (by kernel_rfl) (of_decide_eq_true (by kernel_rfl)) k0 bel lt0)
      (trodAll_cons_mk (Below.trod Try.laidOut (by kernel_rfl) (of_decide_eq_true (by kernel_rfl)) k1 bel lt1)
        (trodAll_cons_mk (Below.trod Try.laidOut (by kernel_rfl) (of_decide_eq_true (by kernel_rfl)) k2 bel lt2) trodAll_mk0))), rfl, bel.frame _, fun h => by cases h⟩

theorem unifyMost_holds : Rows.UnifyMostSaid :=
  OpenClaim.holds_of_wide 5 Try.f5 rfl rfl rfl rfl rfl rfl rfl ⟨rfl, rfl, rfl, rfl, rfl⟩ rfl rfl rfl rfl rfl (by kernel_rfl) Try.func5 (by kernel_rfl)
    (of_decide_eq_true (by kernel_rfl)) (by unfold Func.isWrapper; first | (rw [if_pos (by decide +kernel)]; kernel_rfl) | (rw [if_neg (by decide +kernel)]; exact ⟨rfl, rfl⟩))
    (fun os started H enc _ => unifyMost_lifted os started H enc)

#print axioms unifyMost_holds
end Go.Proofs.Ytikmgiapjigghaa
