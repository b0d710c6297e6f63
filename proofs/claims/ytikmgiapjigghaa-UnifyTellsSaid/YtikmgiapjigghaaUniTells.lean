/- Proved: the statement UnifyTellsSaid: whatever two terms it is handed, 'UnifyTells' answers true, and each argument reads behind the call as it read before. No condition. -/
import Derived.Test.YtikmgiapjigghaaUBeg
import Derived.Test.YtikmgiapjigghaaOpen
namespace Go.Proofs.Ytikmgiapjigghaa
open Go.ChangeShapes Go.WideShapes Go.ChangeAt Go.RowKit

theorem uA_ref {a b : Tm} (ha : a.checkE = 0) (hb : b.checkE = 0) : uOutA (uR a b) = uA a b := by
  unfold uA
  rw [if_neg (fun h => h ha), if_neg (fun h => h hb), uP_eq (check_fit ha) (check_fit hb)]

theorem uA_err1 {a b : Tm} (ha : a.checkE ≠ 0) : uA a b = .err a.checkE := by unfold uA; rw [if_pos ha]
theorem uA_err2 {a b : Tm} (ha : a.checkE = 0) (hb : b.checkE ≠ 0) : uA a b = .err b.checkE := by unfold uA; rw [if_neg (fun h => h ha), if_pos hb]

/-- The four things that Unify answers. -/
def uQ : UA → List Tm × Bool × Nat × Nat
  | .err n => ([], false, 0, n)
  | .no k => ([], false, k, 0)
  | .ok l k => (l, true, k, 0)

theorem UPost.form {w : World} {ok : Nat → Prop} {o : UA} {e : Ending} {w' : World} (h : UPost w ok o e w') :
    ∃ a cap, e = .returned (.tuple #[.slice a (uQ o).1.length cap, .bool (uQ o).2.1, .int .i64 (uQ o).2.2.1, .int .i64 (uQ o).2.2.2]) ∧ Ts w' (OkN ok w) (uQ o).1 a cap ∧ Below w.heap.size w w' := by
  obtain ⟨hb, h⟩ := h
  cases o with
  | err n => exact ⟨none, 0, h, Ts.empty' _ _, hb⟩
  | no k => exact ⟨none, 0, h, Ts.empty' _ _, hb⟩
  | ok l k => obtain ⟨a, cap, h1, h2⟩ := h; exact ⟨a, cap, h1, h2, hb⟩

set_option maxRecDepth 100000 in
set_option maxHeartbeats 2000000 in
theorem UnifyTellsW (s t : Tm) (w : World) (a1 a2 : Option Addr) (c1 c2 : Nat) (hs : s.fits) (ht : t.fits) (h1 : Ts w (fun _ => True) s.args a1 c1) (h2 : Ts w (fun _ => True) t.args a2 c2) :
    Calls Try.prog 4 #[.agg #[.int .i64 s.var, .string s.name, .slice a1 s.args.length c1], .agg #[.int .i64 t.var, .string t.name, .slice a2 t.args.length c2]] w fun e w' => e = .returned (.bool true) ∧ Below w.heap.size w w' := by
  have HS := Lib.hid hs; have HT := Lib.hid ht
  have H1 : Hid (Ts w (fun b => b < w.heap.size) s.args a1 c1) := Lib.hid (h1.mono fun b hb _ => hb)
  have H2 : Hid (Ts w (fun b => b < w.heap.size) t.args a2 c2) := Lib.hid (h2.mono fun b hb _ => hb)
  clear hs ht h1 h2
  have hA0 : Box3 ((w.alloc (.cells #[.int .i64 s.var, .string s.name, .slice a1 s.args.length c1] 24)).alloc (.cells #[.int .i64 t.var, .string t.name, .slice a2 t.args.length c2] 24)) w.heap.size (.int .i64 s.var) (.string s.name) (.slice a1 s.args.length c1) := (Box3.made w _ _ _).alloc _
  have hA1 : Box3 ((w.alloc (.cells #[.int .i64 s.var, .string s.name, .slice a1 s.args.length c1] 24)).alloc (.cells #[.int .i64 t.var, .string t.name, .slice a2 t.args.length c2] 24)) (w.heap.size + 1) (.int .i64 t.var) (.string t.name) (.slice a2 t.args.length c2) := Box3.made2 (by simp)
  have hB0 : Below w.heap.size w ((w.alloc (.cells #[.int .i64 s.var, .string s.name, .slice a1 s.args.length c1] 24)).alloc (.cells #[.int .i64 t.var, .string t.name, .slice a2 t.args.length c2] 24)) := ((Below.refl _ _).alloc (Nat.le_refl _) _).alloc (by simp) _
  have HA0 := Lib.hid hA0; have HA1 := Lib.hid hA1; have HB0 := Lib.hid hB0
  clear hA0 hA1 hB0
  go_enter Try.func4, Try.ntmps4
  go_wp2_with fail
  generalize ((w.alloc (.cells #[.int .i64 s.var, .string s.name, .slice a1 s.args.length c1] 24)).alloc (.cells #[.int .i64 t.var, .string t.name, .slice a2 t.args.length c2] 24)) = W0 at *
  refine (UnifyW (ok := fun b => b < w.heap.size) (fun b hb => by have := HB0.out.size; omega) HS.out HT.out (H1.out.keep (Keeps.below HB0.out _)) (H2.out.keep (Keeps.below HB0.out _))).mono ?_
  rintro e w1 hp1
  obtain ⟨a3, c3, rfl, hts1, hb1⟩ := hp1.form
  have HTS1 := Lib.hid (hts1.mono (ok' := fun _ => True) fun _ _ _ => trivial)
  have HB1 : Hid (Below w.heap.size w w1) := Lib.hid (HB0.out.trans (hb1.mono HB0.out.size))
  have HX0 := Lib.hid (HA0.out.below hb1); have HX1 := Lib.hid (HA1.out.below hb1)
  have x0 := HX0.out.c0; have x1 := HX0.out.c1; have x2 := HX0.out.c2
  clear hb1 HA0 HA1 hp1 hts1
  have HCA := Lib.hid (CheckTermW s w1 (fun _ => True) (fun _ _ => trivial) a1 c1 HS.out ((H1.out.mono fun _ _ _ => trivial).keep (Keeps.below HB1.out _)))
  by_cases ha : s.checkE = 0
  · by_cases hb : t.checkE = 0
    · have hr := uA_ref ha hb
      have HF1 := Lib.hid (check_fit ha); have HF2 := Lib.hid (check_fit hb)
      rw [ha] at HCA
      have HZB : Hid (t.checkE = 0) := Lib.hid hb
      have HR := Lib.hid hr
      clear ha hb hr
      go_wp2_with fail
      refine HCA.out.mono ?_
      rintro e w2 ⟨rfl, hb2⟩
      have HB2 : Hid (Below w.heap.size w w2) := Lib.hid (HB1.out.trans (hb2.mono HB1.out.size))
      have HT2 := Lib.hid (HTS1.out.keep (Keeps.below hb2 _))
      have hX0 := HX0.out.below hb2; have hX1 := HX1.out.below hb2
      have y0 := hX1.c0; have y1 := hX1.c1; have y2 := hX1.c2
      have HY0 := Lib.hid hX0; have HY1 := Lib.hid hX1
      clear hb2 hX0 hX1 x0 x1 x2 HTS1 HX0 HX1 HCA
      go_wp2_with fail
      refine (CheckTermW t w2 (fun _ => True) (fun _ _ => trivial) a2 c2 HT.out ((H2.out.mono fun _ _ _ => trivial).keep (Keeps.below HB2.out _))).mono ?_
      rw [HZB.out]
      rintro e w3 ⟨rfl, hb3⟩
      have HB3 : Hid (Below w.heap.size w w3) := Lib.hid (HB2.out.trans (hb3.mono HB2.out.size))
      have HT3 := Lib.hid (HT2.out.keep (Keeps.below hb3 _))
      have hX0 := HY0.out.below hb3; have hX1 := HY1.out.below hb3
      have x0 := hX0.c0; have x1 := hX0.c1; have x2 := hX0.c2
      have z0 := hX1.c0; have z1 := hX1.c1; have z2 := hX1.c2
      clear hb3 hX0 hX1 y0 y1 y2 HY0 HY1 HT2
      go_wp2_with fail
      refine (UnifyOfW (ok := fun b => b < w.heap.size) (fun b hb => by have := HB3.out.size; omega) HS.out HT.out (H1.out.keep (Keeps.below HB3.out _)) (H2.out.keep (Keeps.below HB3.out _)) HF1.out HF2.out).mono ?_
      rw [HR.out]
      rintro e w4 hp4
      obtain ⟨a4, c4, rfl, hts4, hb4⟩ := hp4.form
      have HTS4 := Lib.hid (hts4.mono (ok' := fun _ => True) fun _ _ _ => trivial)
      have HT4 := Lib.hid (HT3.out.keep (Keeps.below hb4 _))
      have HB4 : Hid (Below w.heap.size w w4) := Lib.hid (HB3.out.trans (hb4.mono HB3.out.size))
      clear hb4 hts4 hp4 x0 x1 x2 z0 z1 z2 HR HT3
      generalize uQ (uA s t) = q at *
      obtain ⟨l, b, k, n⟩ := q
      simp only at HTS4 HT4 ⊢
      go_wp2_with fail
      refine (unifyBegunW _).mono ?_
      rintro e w5 ⟨rfl, hb5⟩
      have HB5 : Hid (Below w.heap.size w w5) := Lib.hid (HB4.out.trans (hb5.mono HB4.out.size))
      have HSM := Lib.hid (SameTermsW l l w5 (fun _ => True) a3 a4 c3 c4 (HT4.out.keep (Keeps.below hb5 _)) (HTS4.out.keep (Keeps.below hb5 _)))
      clear hb5
      go_wp2_with (go_at_call 25; refine HSM.out.mono ?_; rw [eqTs_true rfl]; rintro e w6 ⟨rfl, hb6⟩)
      go_ret
      exact ⟨rfl, HB5.out.trans (hb6.mono HB5.out.size)⟩
    · have hq : uQ (uA s t) = ([], false, 0, t.checkE) := by rw [uA_err2 ha hb]; rfl
      rw [hq] at HTS1 ⊢
      have hb' : ((t.checkE : Int) == 0) = false := by rw [beq_eq_false_iff_ne]; omega
      rw [ha] at HCA
      clear hq ha hb
      simp only at HTS1 ⊢
      go_wp2_with fail
      refine HCA.out.mono ?_
      rintro e w2 ⟨rfl, hb2⟩
      have HB2 : Hid (Below w.heap.size w w2) := Lib.hid (HB1.out.trans (hb2.mono HB1.out.size))
      have HT2 := Lib.hid (HTS1.out.keep (Keeps.below hb2 _))
      have hX1 := HX1.out.below hb2
      have y0 := hX1.c0; have y1 := hX1.c1; have y2 := hX1.c2
      clear hb2 hX1 x0 x1 x2 HTS1 HX0 HX1 HCA
      go_wp2_with fail
      refine (CheckTermW t w2 (fun _ => True) (fun _ _ => trivial) a2 c2 HT.out ((H2.out.mono fun _ _ _ => trivial).keep (Keeps.below HB2.out _))).mono ?_
      rintro e w3 ⟨rfl, hb3⟩
      have HB3 : Hid (Below w.heap.size w w3) := Lib.hid (HB2.out.trans (hb3.mono HB2.out.size))
      have HT3 := Lib.hid (HT2.out.keep (Keeps.below hb3 _))
      clear hb3 y0 y1 y2 HT2
      go_wp2_with fail
      refine (unifyBegunW _).mono ?_
      rintro e w5 ⟨rfl, hb5⟩
      have HB5 : Hid (Below w.heap.size w w5) := Lib.hid (HB3.out.trans (hb5.mono HB3.out.size))
      have HSM := Lib.hid (SameTermsW [] [] w5 (fun _ => True) a3 none c3 0 (HT3.out.keep (Keeps.below hb5 _)) (Ts.empty' _ _))
      clear hb5
      go_wp2_with (go_at_call 25; refine HSM.out.mono ?_; rw [eqTs_true rfl]; rintro e w6 ⟨rfl, hb6⟩)
      go_ret
      exact ⟨rfl, HB5.out.trans (hb6.mono HB5.out.size)⟩
  · have hq : uQ (uA s t) = ([], false, 0, s.checkE) := by rw [uA_err1 ha]; rfl
    rw [hq] at HTS1 ⊢
    have ha' : ((s.checkE : Int) == 0) = false := by rw [beq_eq_false_iff_ne]; omega
    clear hq ha
    simp only at HTS1 ⊢
    go_wp2_with fail
    refine HCA.out.mono ?_
    rintro e w2 ⟨rfl, hb2⟩
    have HB2 : Hid (Below w.heap.size w w2) := Lib.hid (HB1.out.trans (hb2.mono HB1.out.size))
    have HT2 := Lib.hid (HTS1.out.keep (Keeps.below hb2 _))
    clear hb2 x0 x1 x2 HTS1 HX0 HX1 HCA
    go_wp2_with fail
    refine (unifyBegunW _).mono ?_
    rintro e w5 ⟨rfl, hb5⟩
    have HB5 : Hid (Below w.heap.size w w5) := Lib.hid (HB2.out.trans (hb5.mono HB2.out.size))
    have HSM := Lib.hid (SameTermsW [] [] w5 (fun _ => True) a3 none c3 0 (HT2.out.keep (Keeps.below hb5 _)) (Ts.empty' _ _))
    clear hb5
    go_wp2_with (go_at_call 25; refine HSM.out.mono ?_; rw [eqTs_true rfl]; rintro e w6 ⟨rfl, hb6⟩)
    go_ret
    exact ⟨rfl, HB5.out.trans (hb6.mono HB5.out.size)⟩

set_option maxRecDepth 100000 in
theorem unifyTells_lifted (os : Os) (started : os.Started) (H : Type) (enc : TypeId × Value → H) :
    ReturnsInHanded {} Try.checked os 4 .any (Rows.unifyTellsSpec.pre6 enc Try.prog Try.f4 Rows.unifyTellsRow.domain false) (Rows.unifyTellsSpec.post enc Try.prog Try.f4 false true false false) := by
  refine returnsInHanded_of_change (C := Try.checked) Try.own started (by kernel_rfl) Try.func4
    (ChangeSpec.witness6 (enc := enc) (C := Try.checked) false ⟨#[], #[.agg #[.int .i64 0, .string ByteArray.empty, .slice none 0 0], .agg #[.int .i64 0, .string ByteArray.empty, .slice none 0 0]], []⟩ 8 (by kernel_rfl) (by kernel_rfl) (by kernel_rfl) (by kernel_rfl)) ?_
  intro W base args ds gs before hval0 hW hcnd _
  have hval : ∀ (j : Nat) t v, Try.f4.params[j]? = some t → args[j]? = some v → Value.okWide Try.prog W .any base t v := hval0
  have hW' := hW
  obtain ⟨p, q, hA0, hV, rfl, hfz, hnd⟩ := hW
  have hA : DataW.TrodAll enc Try.prog W 0 (fun _ => true) true Try.f4.params.toList args.toList ds p := hA0
  rw [Try.params4] at hA hval
  obtain ⟨v0, vs0, d0, ds0, p0, q0, hargs, rfl, rfl, h0, r0⟩ := trodAll_cons hA
  obtain ⟨v1, vs1, d1, ds1, p1, q1, rfl, rfl, rfl, h1, r1⟩ := trodAll_cons r0
  obtain ⟨rfl, rfl, rfl⟩ := trodAll_nil r1
  obtain rfl : args = #[v0, v1] := by cases args; simp_all
  obtain ⟨rfl, rfl⟩ := trodVars_none hV
  have lt0 : ∀ x ∈ p0, x.block < W.heap.size := by obtain ⟨m, hm⟩ := h0; exact DataW.trod_lt m _ _ _ hm
  have lt1 : ∀ x ∈ p1, x.block < W.heap.size := by obtain ⟨m, hm⟩ := h1; exact DataW.trod_lt m _ _ _ hm
  have k0 := h0; have k1 := h1
  obtain ⟨cs, rfl, _⟩ := okWide_struct Try.underlying24 (hval 0 24 v0 rfl rfl)
  obtain ⟨cs2, rfl, _⟩ := okWide_struct Try.underlying24 (hval 1 24 v1 rfl rfl)
  obtain ⟨m0, hm0⟩ := h0
  obtain ⟨m1, hm1⟩ := h1
  obtain ⟨tv, tn, tc, ty, tm, _, e0, ev, es, hm3⟩ := trod_tm hm0
  obtain ⟨tl, ta, tcap, e3, ht0⟩ := trod_ts _ _ _ hm3
  obtain ⟨uv, un, uc, uy, um, _, f0, fv, fs, hm4⟩ := trod_tm hm1
  obtain ⟨ul, ua, ucap, f3, ht1⟩ := trod_ts _ _ _ hm4
  simp only [List.cons.injEq, and_true] at e3 f3
  subst e3; subst f3
  obtain rfl : cs = #[.int .i64 tv, .string tn, .slice ta tl.length tcap] := by
    cases cs; simp only [Value.cells] at e0; rw [e0]
  obtain rfl : cs2 = #[.int .i64 uv, .string un, .slice ua ul.length ucap] := by
    cases cs2; simp only [Value.cells] at f0; rw [f0]
  clear hA0 hval0 hval
  refine (UnifyTellsW (.mk tv tn tl) (.mk uv un ul) W ta ua tcap ucap ⟨ev, es⟩ ⟨fv, fs⟩ ht0 ht1).mono fun e W' ⟨he, bel⟩ => ?_
  subst he
  exact ⟨_, rfl, _, _, _, [], _, [], hW', trodAll_mk1 (shut_bool Try.underlying4 _),
    (trodAll_cons_mk (Below.trod Try.laidOut (by kernel_rfl) (of_decide_eq_true (by kernel_rfl)) k0 bel lt0)
      (trodAll_cons_mk (Below.trod Try.laidOut (by kernel_rfl) (of_decide_eq_true (by kernel_rfl)) k1 bel lt1) trodAll_mk0)), rfl, bel.frame _, fun h => by cases h⟩

theorem unifyTells_holds : Rows.UnifyTellsSaid :=
  OpenClaim.holds_of_wide 4 Try.f4 rfl rfl rfl rfl rfl rfl rfl ⟨rfl, rfl, rfl, rfl, rfl⟩ rfl rfl rfl rfl rfl (by kernel_rfl) Try.func4 (by kernel_rfl)
    (of_decide_eq_true (by kernel_rfl)) (by unfold Func.isWrapper; first | (rw [if_pos (by decide +kernel)]; kernel_rfl) | (rw [if_neg (by decide +kernel)]; exact ⟨rfl, rfl⟩))
    (fun os started H enc _ => unifyTells_lifted os started H enc)

#print axioms unifyTells_holds
end Go.Proofs.Ytikmgiapjigghaa
