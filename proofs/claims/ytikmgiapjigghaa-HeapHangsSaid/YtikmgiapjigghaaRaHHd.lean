/- Walk: the statement HeapHangs. -/
import Derived.Test.YtikmgiapjigghaaRaHHp
import Derived.Test.YtikmgiapjigghaaRa21
namespace Go.Proofs.Ytikmgiapjigghaa
open Go.RowKit

/-- The four things that Unify answers. -/
def uQ : UA → List Tm × Bool × Nat × Nat
  | .err n => ([], false, 0, n)
  | .no k => ([], false, k, 0)
  | .ok l k => (l, true, k, 0)

theorem UPost.form4 {w : World} {ok : Nat → Prop} {o : UA} {e : Ending} {w' : World} (h : UPost w ok o e w') :
    ∃ a cap, e = .returned (.tuple #[.slice a (uQ o).1.length cap, .bool (uQ o).2.1, .int .i64 ((uQ o).2.2.1 : Nat), .int .i64 ((uQ o).2.2.2 : Nat)]) ∧ Ts w' (OkN ok w) (uQ o).1 a cap ∧ Below w.heap.size w w' := by
  obtain ⟨hb, h⟩ := h
  cases o with
  | err n => exact ⟨none, 0, h, Ts.empty' _ _, hb⟩
  | no k => exact ⟨none, 0, h, Ts.empty' _ _, hb⟩
  | ok l k => obtain ⟨a, cap, h1, h2⟩ := h; exact ⟨a, cap, h1, h2, hb⟩

/-- Three terms that lie still, while one block of numbers may turn. -/
structure TriT (wv : World) (nb b1 b2 b3 : Nat) (x0 x1 x2 y0 y1 y2 z0 z1 z2 : Value) (u : World) : Prop where
  touch : Touch (fun b => b = nb) wv u
  a : Box3 wv b1 x0 x1 x2
  b : Box3 wv b2 y0 y1 y2
  c : Box3 wv b3 z0 z1 z2
  ne : b1 ≠ nb ∧ b2 ≠ nb ∧ b3 ≠ nb

section
variable {wv : World} {nb b1 b2 b3 : Nat} {x0 x1 x2 y0 y1 y2 z0 z1 z2 : Value} {u u' : World}
theorem TriT.next (h : TriT wv nb b1 b2 b3 x0 x1 x2 y0 y1 y2 z0 z1 z2 u) (ht : Touch (fun b => b = nb) u u') : TriT wv nb b1 b2 b3 x0 x1 x2 y0 y1 y2 z0 z1 z2 u' := ⟨h.touch.trans ht, h.a, h.b, h.c, h.ne⟩
theorem TriT.drew (h : TriT wv nb b1 b2 b3 x0 x1 x2 y0 y1 y2 z0 z1 z2 u) : TriT wv nb b1 b2 b3 x0 x1 x2 y0 y1 y2 z0 z1 z2 u.drew := h.next (Touch.below (Below.refl _ _).drew)
theorem TriT.all (h : TriT wv nb b1 b2 b3 x0 x1 x2 y0 y1 y2 z0 z1 z2 u) :
    u.cell? ⟨b1, 0, none⟩ = some x0 ∧ u.cell? ⟨b1, 1, none⟩ = some x1 ∧ u.cell? ⟨b1, 2, none⟩ = some x2 ∧ u.cell? ⟨b2, 0, none⟩ = some y0 ∧ u.cell? ⟨b2, 1, none⟩ = some y1 ∧ u.cell? ⟨b2, 2, none⟩ = some y2 ∧ u.cell? ⟨b3, 0, none⟩ = some z0 ∧ u.cell? ⟨b3, 1, none⟩ = some z1 ∧ u.cell? ⟨b3, 2, none⟩ = some z2 ∧ TriT wv nb b1 b2 b3 x0 x1 x2 y0 y1 y2 z0 z1 z2 u := by
  have ha := h.a.keep (h.touch.block _ h.a.lt h.ne.1)
  have hb := h.b.keep (h.touch.block _ h.b.lt h.ne.2.1)
  have hc := h.c.keep (h.touch.block _ h.c.lt h.ne.2.2)
  exact ⟨ha.c0, ha.c1, ha.c2, hb.c0, hb.c1, hb.c2, hc.c0, hc.c1, hc.c2, h⟩
theorem TriT.of (h : u.cell? ⟨b1, 0, none⟩ = some x0 ∧ u.cell? ⟨b1, 1, none⟩ = some x1 ∧ u.cell? ⟨b1, 2, none⟩ = some x2 ∧ u.cell? ⟨b2, 0, none⟩ = some y0 ∧ u.cell? ⟨b2, 1, none⟩ = some y1 ∧ u.cell? ⟨b2, 2, none⟩ = some y2 ∧ u.cell? ⟨b3, 0, none⟩ = some z0 ∧ u.cell? ⟨b3, 1, none⟩ = some z1 ∧ u.cell? ⟨b3, 2, none⟩ = some z2 ∧ TriT wv nb b1 b2 b3 x0 x1 x2 y0 y1 y2 z0 z1 z2 u) : TriT wv nb b1 b2 b3 x0 x1 x2 y0 y1 y2 z0 z1 z2 u := h.2.2.2.2.2.2.2.2.2
end

def zN : Array Value := ((List.replicate 13 0).map fun v : Int => Value.int .i64 v).toArray

theorem made_13 (w : World) : (Instr.makeSlice 44 (.int .i64 13) (.int .i64 13)).run Try.prog w = .ok (.slice (some ⟨w.heap.size, 0, none⟩) 13 13) (w.alloc (.cells zN 3)) := made_ints w 13 (by decide)

set_option maxRecDepth 100000 in
set_option maxHeartbeats 6000000 in
theorem HeapHangsW (s t : Tm) (w : World) (a1 a2 : Option Addr) (c1 c2 : Nat) (hs : s.fits) (ht : t.fits) (h1 : Ts w (fun _ => True) s.args a1 c1) (h2 : Ts w (fun _ => True) t.args a2 c2) :
    Calls Try.prog 11 #[.agg #[.int .i64 s.var, .string s.name, .slice a1 s.args.length c1], .agg #[.int .i64 t.var, .string t.name, .slice a2 t.args.length c2]] w fun e w' => e = .returned (.bool true) ∧ Below w.heap.size w w' := by
  have HS := Lib.hid hs; have HT := Lib.hid ht
  have H1 : Hid (Ts w (fun b => b < w.heap.size) s.args a1 c1) := Lib.hid (h1.mono fun b hb _ => hb)
  have H2 : Hid (Ts w (fun b => b < w.heap.size) t.args a2 c2) := Lib.hid (h2.mono fun b hb _ => hb)
  have HKN := Lib.hid (hang_know s t)
  clear hs ht h1 h2
  have hA0 : Box3 ((w.alloc (.cells #[.int .i64 s.var, .string s.name, .slice a1 s.args.length c1] 24)).alloc (.cells #[.int .i64 t.var, .string t.name, .slice a2 t.args.length c2] 24)) w.heap.size (.int .i64 s.var) (.string s.name) (.slice a1 s.args.length c1) := (Box3.made w _ _ _).alloc _
  have hA1 : Box3 ((w.alloc (.cells #[.int .i64 s.var, .string s.name, .slice a1 s.args.length c1] 24)).alloc (.cells #[.int .i64 t.var, .string t.name, .slice a2 t.args.length c2] 24)) (w.heap.size + 1) (.int .i64 t.var) (.string t.name) (.slice a2 t.args.length c2) := Box3.made2 (by simp)
  have hB0 : Below w.heap.size w ((w.alloc (.cells #[.int .i64 s.var, .string s.name, .slice a1 s.args.length c1] 24)).alloc (.cells #[.int .i64 t.var, .string t.name, .slice a2 t.args.length c2] 24)) := ((Below.refl _ _).alloc (Nat.le_refl _) _).alloc (by simp) _
  have HA0 := Lib.hid hA0; have HA1 := Lib.hid hA1; have HB0 := Lib.hid hB0
  clear hA0 hA1 hB0
  go_enter Try.func11, Try.ntmps11
  go_wp2_with fail
  generalize ((w.alloc (.cells #[.int .i64 s.var, .string s.name, .slice a1 s.args.length c1] 24)).alloc (.cells #[.int .i64 t.var, .string t.name, .slice a2 t.args.length c2] 24)) = W0 at *
  refine (heapBegunW _).mono ?_
  rintro e w1 ⟨rfl, hb1⟩
  have HB1 : Hid (Below w.heap.size w w1) := Lib.hid (HB0.out.trans (hb1.mono HB0.out.size))
  have HX0 := Lib.hid (HA0.out.below hb1); have HX1 := Lib.hid (HA1.out.below hb1)
  clear hb1 HA0 HA1
  go_wp2_with fail
  refine (unifyBegunW _).mono ?_
  rintro e w2 ⟨rfl, hb2⟩
  have HB2 : Hid (Below w.heap.size w w2) := Lib.hid (HB1.out.trans (hb2.mono HB1.out.size))
  have HY0 := Lib.hid (HX0.out.below hb2); have HY1 := Lib.hid (HX1.out.below hb2)
  have x0 := HY0.out.c0; have x1 := HY0.out.c1; have x2 := HY0.out.c2
  have y0 := HY1.out.c0; have y1 := HY1.out.c1; have y2 := HY1.out.c2
  clear hb2 HX0 HX1
  go_wp2_with fail
  refine (fnW _ _ _ _ _).mono ?_
  rintro e w3 ⟨rfl, hb3⟩
  have T3 := (ts_lit2 (w := w2) (ok := fun _ => True) s t (((H1.out.keep (Keeps.below HB2.out _)).mono fun _ _ _ => trivial)) (((H2.out.keep (Keeps.below HB2.out _)).mono fun _ _ _ => trivial)) HS.out HT.out trivial).keep (Keeps.below hb3 _)
  have hb23 : Below w2.heap.size w2 w3 := ((Below.refl _ _).alloc (Nat.le_refl _) _).trans (hb3.mono (by simp))
  have HB3 : Hid (Below w.heap.size w w3) := Lib.hid (HB2.out.trans (hb23.mono HB2.out.size))
  have HZ0 := Lib.hid (HY0.out.below hb23); have HZ1 := Lib.hid (HY1.out.below hb23)
  have HBW := Lib.hid (BuildW (w := w3) (K := []) (a := none) (cap := 0) (HpAt.nil _ _) (t := twoT s t) (a2 := some ⟨w2.heap.size, 0, none⟩) (c2 := 2) (show (twoT s t).fits from ⟨by show I64 0; unfold I64; omega, by show twoN.size ≤ _; decide⟩) T3)
  clear x0 x1 x2 y0 y1 y2 hb3 hb23 T3 HY0 HY1
  go_wp2_with (go_at_call 36; refine HBW.out.mono ?_; rintro e w4 hp4; obtain ⟨a3, c3, a4, c4, rfl, hh4, -, hb4⟩ := hp4.form; have HH4 := Lib.hid hh4; have HB4 : Hid (Below w.heap.size w w4) := Lib.hid (HB3.out.trans (hb4.mono HB3.out.size)); have hu0 := HZ0.out.below hb4; have hu1 := HZ1.out.below hb4; obtain ⟨x0, x1, x2, xf⟩ := hu0.all; obtain ⟨y0, y1, y2, yf⟩ := hu1.all; have HU0 := Lib.hid hu0; have HU1 := Lib.hid hu1; clear hp4 hh4 hb4 hu0 hu1)
  obtain ⟨q1, hq1⟩ : ∃ q1, bQ (bA [] (twoT s t) (checkH [])) = q1 := ⟨_, rfl⟩
  rw [hq1] at HH4 ⊢
  obtain ⟨H, c, l0, n1⟩ := q1
  simp only at HH4 ⊢
  have HQ1 := Lib.hid hq1
  clear hq1 HBW HZ0 HZ1
  have HUW := Lib.hid (UnifyW (w := w4) (ok := fun b => b < w.heap.size) (fun b hb => by have := HB4.out.size; omega) HS.out HT.out (H1.out.keep (Keeps.below HB4.out _)) (H2.out.keep (Keeps.below HB4.out _)))
  refine HUW.out.mono ?_
  rintro e w5 hp5
  obtain ⟨a5, c5, rfl, hts5, hb5⟩ := hp5.form4
  have HB5 : Hid (Below w.heap.size w w5) := Lib.hid (HB4.out.trans (hb5.mono HB4.out.size))
  have HV0 := Lib.hid (HU0.out.below hb5); have HH5 := Lib.hid (HH4.out.below hb5)
  obtain ⟨q2, hq2⟩ : ∃ q2, uQ (uA s t) = q2 := ⟨_, rfl⟩
  rw [hq2] at hts5 ⊢
  obtain ⟨l, ok, k, n2⟩ := q2
  simp only at hts5 ⊢
  have HL5 := Lib.hid (hts5.mono (ok' := fun b => b < w5.heap.size) fun b hb _ => hb)
  have HQ2 := Lib.hid hq2
  clear hp5 hts5 hb5 hq2 HUW HH4 HU0 HU1 x0 x1 x2 xf y0 y1 y2 yf
  by_cases hn1 : n1 = 0
  · subst hn1
    by_cases hn2 : n2 = 0
    · subst hn2
      have e0 : ((0 : Nat) : Int) = 0 := rfl
      rw [e0]
      rcases HKN.out with ⟨n, e1, hn⟩ | ⟨n, e1, hn⟩ | ⟨K, l1, e1, hd, hr, hc⟩
      · have := HQ1.out; rw [e1] at this; exact absurd (congrArg (fun q => q.2.2.2) this) hn
      · have := HQ2.out; rw [e1] at this; exact absurd (congrArg (fun q => q.2.2.2) this) hn
      · have hq := HQ1.out
        rw [e1] at hq
        simp only [bQ, Prod.mk.injEq, and_true] at hq
        obtain ⟨rfl, rfl, rfl⟩ := hq
        have HDW := Lib.hid (DerefW HH5.out 0)
        rw [hd, hr, e0] at HDW
        rw [e0]
        have HC := Lib.hid hc
        clear hd hr hc e1 HQ1 HKN
        go_wp2_with (go_at_call 28; refine HDW.out.mono ?_; rintro e w6 ⟨rfl, hb6⟩; have HB6 : Hid (Below w.heap.size w w6) := Lib.hid (HB5.out.trans (hb6.mono HB5.out.size)); have HV6 := Lib.hid (HV0.out.below hb6); have HH6 := Lib.hid (HH5.out.below hb6); have HL6 := Lib.hid (HL5.out.keep (Keeps.below hb6 _)); clear hb6)
        have HUW := Lib.hid (HUnifyW HH6.out 1 2)
        rcases HC.out with ⟨k2, e1, e2⟩ | ⟨l2, k2, K', B, e1, e2, h12, ha0, hv12, hsz, hrd⟩
        · have hq := HQ2.out
          rw [e1] at hq
          simp only [uQ, Prod.mk.injEq, and_true] at hq
          obtain ⟨rfl, rfl, rfl⟩ := hq
          rw [e2] at HUW
          have hkk : ((k2 : Int) != (k2 : Int)) = false := by simp
          clear e1 e2 HQ2 HC
          refine HUW.out.mono ?_
          rintro e w7 ⟨hb7, rfl⟩
          have HB7 : Hid (Below w.heap.size w w7) := Lib.hid (HB6.out.trans (hb7.mono HB6.out.size))
          clear hb7
          go_wp2_with fail
          go_ret
          exact ⟨rfl, HB7.out⟩
        · have hq := HQ2.out
          rw [e1] at hq
          simp only [uQ, Prod.mk.injEq, and_true] at hq
          obtain ⟨rfl, rfl, rfl⟩ := hq
          rw [e2] at HUW
          have hkk : ((k2 : Int) != (k2 : Int)) = false := by simp
          have HRD := Lib.hid hrd; have HA0 := Lib.hid ha0; have HV12 := Lib.hid hv12; have HSZ := Lib.hid hsz; have HL12 := Lib.hid h12
          clear e1 e2 HQ2 HC hrd ha0 hv12 hsz h12
          refine HUW.out.mono ?_
          rintro e w7 ⟨hb7, a7, c7, a8, c8, rfl, hh7, -⟩
          have HB7 : Hid (Below w.heap.size w w7) := Lib.hid (HB6.out.trans (hb7.mono HB6.out.size))
          have HV7 := Lib.hid (HV6.out.below hb7); have HH7 := Lib.hid hh7; have HL7 := Lib.hid (HL6.out.keep (Keeps.below hb7 _))
          have HR1 := Lib.hid (ReadW HH7.out 1)
          have HB67 := Lib.hid hb7
          clear hb7 hh7
          rcases HRD.out with ⟨r1, r2⟩ | ⟨T, L1, L2, r1, r2, hT⟩
          · rw [r1] at HR1
            have HR2 : Hid (∀ u, Below w7.heap.size w7 u → Calls Try.prog 29 #[.slice a7 K'.length c7, .int .i64 2] u (RdPost u (.err 2))) := Lib.hid (fun u hu => by have := ReadW (HH7.out.below hu) 2; rw [r2] at this; exact this)
            clear r1 r2 HRD
            go_wp2_with (go_at_call_of 29 (Value.int .i64 1); refine HR1.out.mono ?_; rintro e w8 ⟨hb8, rfl⟩; have HB8 := Lib.hid hb8; have HB8' : Hid (Below w.heap.size w w8) := Lib.hid (HB7.out.trans (hb8.mono HB7.out.size)); clear hb8)
            have hA : Below w7.heap.size w7 (w8.alloc (.cells #[.int .i64 0, .string ⟨#[]⟩, .slice none 0 0] 24)) := HB8.out.alloc HB8.out.size _
            refine (HR2.out _ hA).mono ?_
            rintro e w9 ⟨hb9, rfl⟩
            have HB9 : Hid (Below w.heap.size w w9) := Lib.hid (by
              have h1 := HB7.out.trans (hA.mono HB7.out.size)
              exact h1.trans (hb9.mono h1.size))
            clear hA hb9
            go_wp2_with fail
            go_ret
            exact ⟨rfl, HB9.out.alloc HB9.out.size _⟩
          · rw [r1] at HR1
            have HR2 : Hid (∀ u, Below w7.heap.size w7 u → Calls Try.prog 29 #[.slice a7 K'.length c7, .int .i64 2] u (RdPost u (.ok T L2))) := Lib.hid (fun u hu => by have := ReadW (HH7.out.below hu) 2; rw [r2] at this; exact this)
            have HTT := Lib.hid hT
            clear r1 r2 HRD hT
            go_wp2_with (go_at_call_of 29 (Value.int .i64 1); refine HR1.out.mono ?_; rintro e w8 ⟨hb8, aT, cT, a9, c9, rfl, hfT, htT, -⟩; have HB8 := Lib.hid hb8; have HTT8 := Lib.hid htT; clear hb8 htT hfT)
            have hA : Below w7.heap.size w7 (w8.alloc (.cells #[.int .i64 T.var, .string T.name, .slice aT T.args.length cT] 24)) := HB8.out.alloc HB8.out.size _
            have HA8 := Lib.hid hA
            refine (HR2.out _ hA).mono ?_
            rintro e w9 ⟨hb9, bT, dT, a10, c10, rfl, -, htT2, -⟩
            have HB9 := Lib.hid hb9; have HTT9 := Lib.hid htT2
            have hmk := made_13 (w9.alloc (.cells #[.int .i64 T.var, .string T.name, .slice bT T.args.length dT] 24))
            clear hA hb9 htT2
            go_wp2_with fail
            have h89 : w8.heap.size + 1 ≤ w9.heap.size := by have := HB9.out.size; simpa using this
            have h08 : w.heap.size < w8.heap.size := by have := HV7.out.lt; have := HB8.out.size; omega
            have BV : Below w9.heap.size w9 ((w9.alloc (.cells #[.int .i64 T.var, .string T.name, .slice bT T.args.length dT] 24)).alloc (.cells zN 3)) := ((Below.refl _ _).alloc (Nat.le_refl _) _).alloc (by simp) _
            have hB18 : Box3 w9 w8.heap.size (.int .i64 T.var) (.string T.name) (.slice aT T.args.length cT) := (Box3.made w8 _ _ _).below HB9.out
            have HX18 := Lib.hid (hB18.below BV)
            have HX20 : Hid (Box3 ((w9.alloc (.cells #[.int .i64 T.var, .string T.name, .slice bT T.args.length dT] 24)).alloc (.cells zN 3)) w9.heap.size (.int .i64 T.var) (.string T.name) (.slice bT T.args.length dT)) := Lib.hid ((Box3.made w9 _ _ _).alloc _)
            have h79 : Below w7.heap.size w7 w9 := HA8.out.trans (HB9.out.mono HA8.out.size)
            have HX2 := Lib.hid ((HV7.out.below h79).below BV)
            have HB79 : Hid (Below w.heap.size w w9) := Lib.hid (HB7.out.trans (h79.mono HB7.out.size))
            have HTA := Lib.hid (((HTT8.out.mono (ok' := fun b => b < w9.heap.size) fun b hb _ => by omega).keep (Keeps.below ((Below.refl _ _).alloc (Nat.le_refl _) _) _)).keep (Keeps.below HB9.out _) |>.keep (Keeps.below BV _))
            have HTB := Lib.hid ((HTT9.out.mono (ok' := fun b => b < w9.heap.size) fun b hb _ => hb).keep (Keeps.below BV _))
            have HTL := Lib.hid ((((HL7.out.mono (ok' := fun b => b < w9.heap.size) fun b hb _ => by have := h79.size; omega).keep (Keeps.below h79 _))).keep (Keeps.below BV _))
            have HTS := Lib.hid ((((H1.out.mono (ok' := fun b => b < w9.heap.size) fun b hb _ => by have := HB79.out.size; omega).keep (Keeps.below HB79.out _))).keep (Keeps.below BV _))
            have HIV : Hid (IntsAt ((w9.alloc (.cells #[.int .i64 T.var, .string T.name, .slice bT T.args.length dT] 24)).alloc (.cells zN 3)) (w9.heap.size + 1) (nmL 12 [])) := Lib.hid ⟨by
              have := heap_alloc_new (w9.alloc (.cells #[.int .i64 T.var, .string T.name, .slice bT T.args.length dT] 24)) (.cells zN 3)
              rw [nmL_nil]
              simpa [zN] using this⟩
            have HVS : Hid (((w9.alloc (.cells #[.int .i64 T.var, .string T.name, .slice bT T.args.length dT] 24)).alloc (.cells zN 3)).heap.size = w9.heap.size + 2) := Lib.hid (by simp)
            have HBV := Lib.hid BV
            clear BV hB18 h79 hmk
            generalize (w9.alloc (.cells #[.int .i64 T.var, .string T.name, .slice bT T.args.length dT] 24)).alloc (.cells zN 3) = wv at *
            have HPI : Hid (∀ W, Below wv.heap.size wv W → Calls Try.prog 27 #[.agg #[.int .i64 s.var, .string s.name, .slice a1 s.args.length c1], .slice a5 l2.length c5] W fun e w' => ∃ pa pc, e = .returned (.agg #[.int .i64 (s.putIn (byL l2)).var, .string (s.putIn (byL l2)).name, .slice pa (s.putIn (byL l2)).args.length pc]) ∧ (s.putIn (byL l2)).fits ∧ (∀ w3, Below w'.heap.size w' w3 → Ts w3 (fun b => b < w3.heap.size ∧ b ≠ w9.heap.size + 1) (s.putIn (byL l2)).args pa pc) ∧ Below W.heap.size W w') := Lib.hid (fun W hW => by
              refine (PutInW (S := byL l2) (byL_at l2) s W (fun b => b < w9.heap.size) a1 c1 (fun b hb => by have := hW.size; have := HVS.out; omega) (by have := (check_zero HA0.out).1; omega) HS.out (HTS.out.keep (Keeps.below hW _)) ⟨fun p hp hv => by have h3 := ((check_fit HA0.out).wf p hp).1; have h4 := ((check_fit HA0.out).bd p hp).1; have := HL12.out; omega, HTL.out.keep (Keeps.below hW _)⟩).mono ?_
              rintro e w' ⟨pa, pc, rfl, hf, hts, hb⟩
              refine ⟨pa, pc, rfl, hf, fun w3 h3 => (hts.keep (Keeps.below h3 _)).mono fun b hb hk => ⟨hb, ?_⟩, hb⟩
              have := hW.size; have := HVS.out
              rcases hk with hk | hk <;> omega)
            have HAN : Hid (∀ u pA cA, (s.putIn (byL l2)).fits → Ts u (fun b => b < u.heap.size ∧ b ≠ w9.heap.size + 1) (s.putIn (byL l2)).args pA cA → IntsAt u (w9.heap.size + 1) (nmL 12 []) → Calls Try.prog 50 #[.agg #[.int .i64 (s.putIn (byL l2)).var, .string (s.putIn (byL l2)).name, .slice pA (s.putIn (byL l2)).args.length cA], .slice (some ⟨w9.heap.size + 1, 0, none⟩) 13 13] u fun e w' => Touch (fun b => b = w9.heap.size + 1) u w' ∧ ∃ a c, e = .returned (.agg #[.int .i64 T.var, .string T.name, .slice a T.args.length c]) ∧ ∀ w3, Below w'.heap.size w' w3 → Ts w3 (fun _ => True) T.args a c) := Lib.hid (fun u pA cA hf hts hin => by
              refine (AnewW (nb := w9.heap.size + 1) (s.putIn (byL l2)) u (fun b => b < u.heap.size ∧ b ≠ w9.heap.size + 1) [] pA cA (fun b hb => hb) HSZ.out hf HV12.out SeenOk.nil hts hin).mono ?_
              rintro e w' ⟨ht, -, a, c, rfl, -, hts2⟩
              rw [HTT.out] at hts2 ⊢
              exact ⟨ht, a, c, rfl, fun w3 h3 => (hts2.keep (Keeps.below h3 _)).mono fun _ _ _ => trivial⟩)
            have HIN : Hid (∀ u, Below wv.heap.size wv u → IntsAt u (w9.heap.size + 1) (nmL 12 [])) := Lib.hid (fun u hu => HIV.out.below hu)
            have T0 : TriT wv (w9.heap.size + 1) w8.heap.size w9.heap.size w.heap.size (.int .i64 T.var) (.string T.name) (.slice aT T.args.length cT) (.int .i64 T.var) (.string T.name) (.slice bT T.args.length dT) (.int .i64 s.var) (.string s.name) (.slice a1 s.args.length c1) wv := ⟨Touch.refl _ _, HX18.out, HX20.out, HX2.out, by omega, by omega, by omega⟩
            go_region_held3 (fun u => u.cell? ⟨w8.heap.size, 0, none⟩ = some (.int .i64 T.var) ∧ u.cell? ⟨w8.heap.size, 1, none⟩ = some (.string T.name) ∧ u.cell? ⟨w8.heap.size, 2, none⟩ = some (.slice aT T.args.length cT) ∧ u.cell? ⟨w9.heap.size, 0, none⟩ = some (.int .i64 T.var) ∧ u.cell? ⟨w9.heap.size, 1, none⟩ = some (.string T.name) ∧ u.cell? ⟨w9.heap.size, 2, none⟩ = some (.slice bT T.args.length dT) ∧ u.cell? ⟨w.heap.size, 0, none⟩ = some (.int .i64 s.var) ∧ u.cell? ⟨w.heap.size, 1, none⟩ = some (.string s.name) ∧ u.cell? ⟨w.heap.size, 2, none⟩ = some (.slice a1 s.args.length c1) ∧ TriT wv (w9.heap.size + 1) w8.heap.size w9.heap.size w.heap.size (.int .i64 T.var) (.string T.name) (.slice aT T.args.length cT) (.int .i64 T.var) (.string T.name) (.slice bT T.args.length dT) (.int .i64 s.var) (.string s.name) (.slice a1 s.args.length c1) u)
              (first
                | exact TriT.all (TriT.drew (by assumption))
                | exact TriT.all (TriT.next (TriT.of (by assumption)) (Touch.below hbE))
                | exact TriT.all (TriT.next (TriT.of (by assumption)) htN)
                | exact TriT.all (TriT.next (TriT.of (by assumption)) (Touch.below hbA))
                | exact TriT.all (TriT.next (TriT.of (by assumption)) (Touch.below hbS)))
              (first
                | (go_at_call_of 26 (Value.slice bT T.args.length dT)
                   refine (SameTermOf T (SameTermsW _) T _ (fun b => b < w9.heap.size) aT bT cT dT (HTA.out.keep ((TriT.of (by assumption)).touch.keeps fun b hb e => by omega)) (HTB.out.keep ((TriT.of (by assumption)).touch.keeps fun b hb e => by omega))).mono ?_
                   rw [eqT_true rfl]
                   rintro e wS ⟨rfl, hbS⟩
                   have zS : wv.heap.size ≤ wS.heap.size := by
                     have := hbS.size
                     try simp only [dSz] at this
                     omega)
                | (go_at_call 27
                   refine (HPI.out _ ?kP).mono ?_
                   all_goals (repeat' (first | (with_reducible exact Below.refl _ _) | (with_reducible refine Below.drew ?_) | (with_reducible refine Below.up ?_ hbS ?_) | (simp only [dSz]; omega) | omega))
                   rintro e wA ⟨pA, cA, rfl, hfA, kA, hbA⟩)
                | (go_at_call 50
                   refine (HAN.out _ pA cA hfA (kA _ ?kA) (HIN.out _ ?kB)).mono ?_
                   all_goals (repeat' (first | (with_reducible exact Below.refl _ _) | (with_reducible refine Below.drew ?_) | (with_reducible refine Below.up ?_ hbA ?_) | (with_reducible refine Below.up ?_ hbS ?_) | (simp only [dSz]; omega) | omega))
                   rintro e wN ⟨htN, aN, cN, rfl, kN⟩)
                | (go_at_call 26
                   refine (SameTermOf T (SameTermsW _) T _ (fun _ => True) aT aN cT cN ((HTA.out.keep ((TriT.of (by assumption)).touch.keeps fun b hb e => by omega)).mono fun _ _ _ => trivial) (kN _ ?kC)).mono ?_
                   all_goals (repeat' (first | (with_reducible exact Below.refl _ _) | (with_reducible refine Below.drew ?_) | (simp only [dSz]; omega) | omega))
                   rw [eqT_true rfl]
                   rintro e wE ⟨rfl, hbE⟩))
            all_goals
              have HT := Lib.hid (TriT.of (by assumption)).touch
              go_wp2_with fail
              go_ret
              exact ⟨rfl, (HB79.out.trans (HBV.out.mono HB79.out.size)).trans (HT.out.toBelow (by have := HVS.out; have := HB79.out.size; omega) fun b e => by have := HB79.out.size; omega)⟩
    · have hn2' : ((n2 : Int) != 0) = true := bne0 hn2
      clear hn2
      go_wp2_with fail
      go_ret
      exact ⟨rfl, HB5.out⟩
  · have hn1' : ((n1 : Int) != 0) = true := bne0 hn1
    clear hn1
    go_wp2_with fail
    go_ret
    exact ⟨rfl, HB5.out⟩

end Go.Proofs.Ytikmgiapjigghaa
