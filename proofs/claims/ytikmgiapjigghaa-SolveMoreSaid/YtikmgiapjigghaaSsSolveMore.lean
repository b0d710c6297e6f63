/- Proved: the statement SolveMoreSaid: whatever program, query and two numbers of steps it is handed, 'SolveMore' answers true, and each argument reads behind the call as it read before. No condition. -/
import Derived.Test.YtikmgiapjigghaaSs17
import Derived.Test.YtikmgiapjigghaaSs18
import Derived.Deep.CutBlock
namespace Go.Proofs.Ytikmgiapjigghaa
open Go.ChangeShapes Go.WideShapes Go.ChangeAt Go.RowKit

theorem solveE_zero {p : List Cl} {q : List Tm} {steps : Int} (h : solveE p q steps = 0) : programE p = 0 ∧ queryE q = 0 ∧ 0 ≤ steps ∧ steps ≤ 400 := by
  unfold solveE at h
  by_cases h1 : programE p = 0
  · rw [if_neg (fun h => h h1)] at h
    by_cases h2 : queryE q = 0
    · rw [if_neg (fun h => h h2)] at h
      by_cases h3 : steps < 0 ∨ 400 < steps
      · rw [if_pos h3] at h; cases h
      · exact ⟨h1, h2, by omega, by omega⟩
    · rw [if_pos h2] at h; exact absurd h h2
  · rw [if_pos h1] at h; exact absurd h h1

theorem solveR_zero {p : List Cl} {q : List Tm} {steps : Int} (h : solveE p q steps = 0) : solveR p q steps = ((solveP p q steps.toNat).ans, (solveP p q steps.toNat).fin, (solveP p q steps.toNat).steps) := by unfold solveR; rw [if_pos h]

/-- What the statement says of two results. -/
def MoreLaw (steps more : Int) (r s : List (List Tm) × Nat × Nat) (e f : Nat) : Prop :=
  e ≠ 0 ∨ (e = 0 ∧ f ≠ 0) ∨ (e = 0 ∧ f = 0 ∧ more < steps) ∨ (e = 0 ∧ f = 0 ∧ ¬ more < steps ∧ r.2.1 ≠ 2 ∧ r = s) ∨ (e = 0 ∧ f = 0 ∧ ¬ more < steps ∧ r.2.1 = 2 ∧ (r.2.2 : Int) = steps ∧ r.1 <+: s.1)

theorem moreLaw (p : List Cl) (q : List Tm) (steps more : Int) : MoreLaw steps more (solveR p q steps) (solveR p q more) (solveE p q steps) (solveE p q more) := by
  unfold MoreLaw
  by_cases he : solveE p q steps = 0
  · right
    by_cases hf : solveE p q more = 0
    · right
      by_cases hm : more < steps
      · exact .inl ⟨he, hf, hm⟩
      · right
        obtain ⟨h1, h2, h3, h4⟩ := solveE_zero he
        obtain ⟨-, -, h5, h6⟩ := solveE_zero hf
        rw [solveR_zero he, solveR_zero hf]
        rcases solve_more h1 h2 (most := steps.toNat) (more := more.toNat) (by omega) (by omega) with ⟨k1, k2⟩ | ⟨k1, k2, k3⟩
        · exact .inl ⟨he, hf, hm, k1, by rw [k2]⟩
        · exact .inr ⟨he, hf, hm, k1, by simp only; omega, k3⟩
    · exact .inl ⟨he, hf⟩
  · exact .inl he

theorem AsAt.below {w w' : World} {ok : Nat → Prop} {l : List (List Tm)} {a : Option Addr} {c : Nat} (h : AsAt w ok l a c) (hb : Below w.heap.size w w') : AsAt w' (fun _ => True) l a c := (h.mono fun _ _ _ => trivial).keep (Keeps.below hb _)

/-- A result's box. -/
structure RBox (w : World) (b : Nat) (x0 x1 x2 : Value) : Prop where
  lt : b < w.heap.size
  c0 : w.cell? ⟨b, 0, none⟩ = some x0
  c1 : w.cell? ⟨b, 1, none⟩ = some x1
  c2 : w.cell? ⟨b, 2, none⟩ = some x2

theorem RBox.below {w u : World} {b : Nat} {x0 x1 x2 : Value} (h : RBox w b x0 x1 x2) (hb : Below w.heap.size w u) : RBox u b x0 x1 x2 :=
  ⟨Nat.lt_of_lt_of_le h.lt hb.size, (hb.cell (p := ⟨b, _, none⟩) h.lt).trans h.c0, (hb.cell (p := ⟨b, _, none⟩) h.lt).trans h.c1, (hb.cell (p := ⟨b, _, none⟩) h.lt).trans h.c2⟩

theorem RBox.made (w : World) (x0 x1 x2 : Value) : RBox (w.alloc (.cells #[x0, x1, x2] 66)) w.heap.size x0 x1 x2 := by
  refine ⟨by simp, ?_, ?_, ?_⟩
  all_goals simp [World.cell?, World.alloc, -World.alloc_eq]

/-- What lies still while the last region runs. -/
structure MoT (w : World) (b c : Nat) (x0 x2 y0 : Value) (w' : World) : Prop where
  below : Below w.heap.size w w'
  a0 : w'.cell? ⟨b, 0, none⟩ = some x0
  a2 : w'.cell? ⟨b, 2, none⟩ = some x2
  c0 : w'.cell? ⟨c, 0, none⟩ = some y0
  lb : b < w.heap.size
  lc : c < w.heap.size

theorem MoT.next {w : World} {b c : Nat} {x0 x2 y0 : Value} {w1 w2 : World} (h : MoT w b c x0 x2 y0 w1) (hb : Below w1.heap.size w1 w2) : MoT w b c x0 x2 y0 w2 := by
  have h1 := Nat.lt_of_lt_of_le h.lb h.below.size
  have h2 := Nat.lt_of_lt_of_le h.lc h.below.size
  exact ⟨h.below.trans (hb.mono h.below.size), (hb.cell (p := ⟨b, _, none⟩) h1).trans h.a0, (hb.cell (p := ⟨b, _, none⟩) h1).trans h.a2, (hb.cell (p := ⟨c, _, none⟩) h2).trans h.c0, h.lb, h.lc⟩
theorem MoT.all {w : World} {b c : Nat} {x0 x2 y0 : Value} {w1 : World} (h : MoT w b c x0 x2 y0 w1) : w1.cell? ⟨b, 0, none⟩ = some x0 ∧ w1.cell? ⟨b, 2, none⟩ = some x2 ∧ w1.cell? ⟨c, 0, none⟩ = some y0 ∧ MoT w b c x0 x2 y0 w1 := ⟨h.a0, h.a2, h.c0, h⟩
theorem MoT.of {w : World} {b c : Nat} {x0 x2 y0 : Value} {w1 : World} (h : w1.cell? ⟨b, 0, none⟩ = some x0 ∧ w1.cell? ⟨b, 2, none⟩ = some x2 ∧ w1.cell? ⟨c, 0, none⟩ = some y0 ∧ MoT w b c x0 x2 y0 w1) : MoT w b c x0 x2 y0 w1 := h.2.2.2
theorem MoT.drew {w : World} {b c : Nat} {x0 x2 y0 : Value} {w1 : World} (h : MoT w b c x0 x2 y0 w1) : MoT w b c x0 x2 y0 w1.drew := h.next ((Below.refl _ _).drew)

set_option maxRecDepth 100000 in
set_option maxHeartbeats 2000000 in
theorem SolveMoreW (p : List Cl) (q : List Tm) (steps more : Int) (w : World) (pa qa : Option Addr) (pc qc : Nat) (hst : I64 steps) (hmo : I64 more) (h1 : Pr w (fun _ => True) p pa pc) (h2 : Ts w (fun _ => True) q qa qc) :
    Calls Try.prog 10 #[.slice pa p.length pc, .slice qa q.length qc, .int .i64 steps, .int .i64 more] w fun e w' => e = .returned (.bool true) ∧ Below w.heap.size w w' := by
  have HST := Lib.hid hst; have HMO := Lib.hid hmo
  have H1 : Hid (Pr w (fun b => b < w.heap.size) p pa pc) := Lib.hid (h1.mono fun b hb _ => hb)
  have H2 : Hid (Ts w (fun b => b < w.heap.size) q qa qc) := Lib.hid (h2.mono fun b hb _ => hb)
  have HL := Lib.hid (moreLaw p q steps more)
  have hi1 : -9223372036854775808 ≤ steps ∧ steps ≤ 9223372036854775807 := hst
  have hi2 : -9223372036854775808 ≤ more ∧ more ≤ 9223372036854775807 := hmo
  clear h1 h2 hst hmo
  go_enter Try.func10, Try.ntmps10
  go_wp2_with fail
  refine (solveBegunW _).mono ?_
  rintro e w1 ⟨rfl, hb1⟩
  have B1 := Lib.hid hb1
  have HS1 := Lib.hid (SolveW p q steps HST.out (w := w1) (ok := fun b => b < w.heap.size) (fun b hb => Nat.lt_of_lt_of_le hb B1.out.size) (H1.out.keep (Keeps.below B1.out _)) (H2.out.keep (Keeps.below B1.out _)))
  clear hb1
  generalize solveR p q steps = r at *
  generalize solveE p q steps = e1 at *
  obtain ⟨l1, m1, n1⟩ := r
  go_wp2_with fail
  refine HS1.out.mono ?_
  rintro e w2 ⟨hb2, a1, c1, rfl, has1⟩
  have B2 := Lib.hid (B1.out.trans (hb2.mono B1.out.size))
  simp only at has1 ⊢
  have K3 : Below w2.heap.size w2 (w2.alloc (.cells #[.slice a1 l1.length c1, .int .i64 m1, .int .i64 n1] 66)) := (Below.refl _ _).alloc (Nat.le_refl _) _
  have B3 := Lib.hid (B2.out.trans (K3.mono B2.out.size))
  have HX1 := Lib.hid (RBox.made w2 (.slice a1 l1.length c1) (.int .i64 m1) (.int .i64 n1))
  have HA1 := Lib.hid (has1.below K3)
  clear hb2 has1 K3 B2 HS1
  go_wp2_with fail
  generalize (w2.alloc (.cells #[.slice a1 l1.length c1, .int .i64 m1, .int .i64 n1] 66)) = w3 at *
  have HS2 := Lib.hid (SolveW p q more HMO.out (w := w3) (ok := fun b => b < w.heap.size) (fun b hb => Nat.lt_of_lt_of_le hb B3.out.size) (H1.out.keep (Keeps.below B3.out _)) (H2.out.keep (Keeps.below B3.out _)))
  generalize solveR p q more = s at *
  generalize solveE p q more = e2 at *
  obtain ⟨l2, m2, n2⟩ := s
  refine HS2.out.mono ?_
  rintro e w4 ⟨hb4, a2, c2, rfl, has2⟩
  simp only at has2 ⊢
  have B4 := Lib.hid (B3.out.trans (hb4.mono B3.out.size))
  have HX1' := Lib.hid (HX1.out.below hb4)
  have HA1' := Lib.hid (HA1.out.below hb4)
  have K5 : Below w4.heap.size w4 (w4.alloc (.cells #[.slice a2 l2.length c2, .int .i64 m2, .int .i64 n2] 66)) := (Below.refl _ _).alloc (Nat.le_refl _) _
  have B5 := Lib.hid (B4.out.trans (K5.mono B4.out.size))
  have HX2 := Lib.hid (RBox.made w4 (.slice a2 l2.length c2) (.int .i64 m2) (.int .i64 n2))
  have HA2 := Lib.hid (has2.below K5)
  have HX3 := Lib.hid (HX1'.out.below K5)
  have HA3 := Lib.hid (HA1'.out.below K5)
  clear hb4 has2 K5 HX1 HA1 HX1' HA1' B3 B4 HS2
  go_upto_region 5 with fail
  have HL' := HL.out
  unfold MoreLaw at HL'
  clear HL
  rcases HL' with he | ⟨he, hf⟩ | ⟨he, hf, hm⟩ | ⟨he, hf, hm, hr, hs⟩ | ⟨he, hf, hm, hr, hn, hpre⟩
  · have t1 : ((e1 : Int) != 0) = true := by rw [bne_iff_ne]; omega
    clear he
    go_wp2_with fail
    go_ret
    exact ⟨rfl, B5.out⟩
  · subst he
    have t1 : ((e2 : Int) != 0) = true := by rw [bne_iff_ne]; omega
    clear hf
    go_wp2_with fail
    go_ret
    exact ⟨rfl, B5.out⟩
  · subst he; subst hf
    go_wp2_with fail
    go_ret
    exact ⟨rfl, B5.out⟩
  · subst he; subst hf
    simp only [Prod.mk.injEq] at hs
    obtain ⟨rfl, rfl, rfl⟩ := hs
    simp only at hr
    have t1 : ((m1 : Int) != 2) = true := by rw [bne_iff_ne]; omega
    have hm' : steps ≤ more := by omega
    have x0 := HX3.out.c0; have x1 := HX3.out.c1; have x2 := HX3.out.c2
    have y0 := HX2.out.c0; have y1 := HX2.out.c1; have y2 := HX2.out.c2
    generalize (w4.alloc (.cells #[.slice a2 l1.length c2, .int .i64 m1, .int .i64 n1] 66)) = w5 at *
    have HSR := Lib.hid (SameResultW (l1, m1, n1) (l1, m1, n1) w5 (fun _ => True) a1 a2 c1 c2 HA3.out HA2.out)
    rw [eqR_true rfl] at HSR
    clear hr hm
    go_wp2_with fail
    refine HSR.out.mono ?_
    rintro e w6 ⟨rfl, hb6⟩
    go_wp2_with fail
    go_ret
    exact ⟨rfl, B5.out.trans (hb6.mono B5.out.size)⟩
  · subst he; subst hf
    simp only at hr hn hpre
    subst hr
    have hm' : steps ≤ more := by omega
    have t2 : ((n1 : Int) == steps) = true := by rw [beq_iff_eq]; exact hn
    have hll : l1.length ≤ l2.length := hpre.length_le
    have hc1 : l1.length ≤ 9223372036854775807 := by have := HA3.out.room; unfold maxLen at this; omega
    have hc2 : l2.length ≤ c2 ∧ c2 ≤ 9223372036854775807 := by have := HA2.out.room; unfold maxLen at this; omega
    have x0 := HX3.out.c0; have x1 := HX3.out.c1; have x2 := HX3.out.c2
    have y0 := HX2.out.c0; have y1 := HX2.out.c1; have y2 := HX2.out.c2
    generalize (w4.alloc (.cells #[.slice a2 l2.length c2, .int .i64 m2, .int .i64 n2] 66)) = w5 at *
    have HT := Lib.hid (HA2.out.take hll (cap' := c2) (by omega) (Nat.le_refl _) HA2.out.room.2.2)
    have HC : Hid (∀ u, Below w5.heap.size w5 u → Calls Try.prog 48 #[.slice a2 l1.length c2, .slice a1 l1.length c1] u fun e w' => e = .returned (.bool true) ∧ Below u.heap.size u w') := Lib.hid (fun u hu => by
      have h := SameAnswersW (l2.take l1.length) l1 u (fun _ => True) a2 a1 c2 c1 (HT.out.below hu) (HA3.out.below hu)
      rw [eqAs_true (List.prefix_iff_eq_take.1 hpre).symm, List.length_take, Nat.min_eq_left hll] at h
      exact h)
    have T0 : MoT w5 w2.heap.size w4.heap.size (.slice a1 l1.length c1) (.int .i64 n1) (.slice a2 l2.length c2) w5 := ⟨Below.refl _ _, x0, x2, y0, HX3.out.lt, HX2.out.lt⟩
    have T0H := Lib.hid T0
    have hb0 : (0 : Int) ≤ (l1.length : Int) := by omega
    have hb1 : (l1.length : Int) ≤ (c2 : Int) := by omega
    have hb2 : (l1.length : Int) ≤ (l2.length : Int) := by omega
    clear hm hpre hn T0
    go_wp2_with fail
    have T0 := T0H.out
    clear T0H
    go_region_held3 (fun w' => w'.cell? ⟨w2.heap.size, 0, none⟩ = some (.slice a1 l1.length c1) ∧ w'.cell? ⟨w2.heap.size, 2, none⟩ = some (.int .i64 n1) ∧ w'.cell? ⟨w4.heap.size, 0, none⟩ = some (.slice a2 l2.length c2) ∧ MoT w5 w2.heap.size w4.heap.size (.slice a1 l1.length c1) (.int .i64 n1) (.slice a2 l2.length c2) w')
      (first | exact MoT.all (MoT.drew (by assumption)) | exact MoT.all (MoT.next (MoT.of (by assumption)) hb))
      (first
        | (go_at_call 48; (with_reducible refine (HC.out _ (MoT.of (by assumption)).below).mono ?_); rintro e w' ⟨rfl, hb⟩))
    all_goals
      have HB := Lib.hid (MoT.of (by assumption)).below
      go_wp2_with fail
      go_ret
      exact ⟨rfl, B5.out.trans (HB.out.mono B5.out.size)⟩

set_option maxRecDepth 100000 in
theorem solveMore_lifted (os : Os) (started : os.Started) (H : Type) (enc : TypeId × Value → H) :
    ReturnsInHanded {} Try.checked os 10 .any (Rows.solveMoreSpec.pre6 enc Try.prog Try.f10 Rows.solveMoreRow.domain false) (Rows.solveMoreSpec.post enc Try.prog Try.f10 false true false false) := by
  refine returnsInHanded_of_change (C := Try.checked) Try.own started (by kernel_rfl) Try.func10
    (ChangeSpec.witness6 (enc := enc) (C := Try.checked) false ⟨#[], #[.slice none 0 0, .slice none 0 0, .int .i64 0, .int .i64 0], []⟩ 8 (by kernel_rfl) (by kernel_rfl) (by kernel_rfl) (by kernel_rfl)) ?_
  intro W base args ds gs before hval0 hW hcnd _
  have hval : ∀ (j : Nat) t v, Try.f10.params[j]? = some t → args[j]? = some v → Value.okWide Try.prog W .any base t v := hval0
  have hW' := hW
  obtain ⟨p, q, hA0, hV, rfl, hfz, hnd⟩ := hW
  have hA : DataW.TrodAll enc Try.prog W 0 (fun _ => true) true Try.f10.params.toList args.toList ds p := hA0
  rw [Try.params10] at hA hval
  obtain ⟨v0, vs0, d0, ds0, p0, q0, hargs, rfl, rfl, h0, r0⟩ := trodAll_cons hA
  obtain ⟨v1, vs1, d1, ds1, p1, q1, rfl, rfl, rfl, h1, r1⟩ := trodAll_cons r0
  obtain ⟨v2, vs2, d2, ds2, p2, q2, rfl, rfl, rfl, h2, r2⟩ := trodAll_cons r1
  obtain ⟨v3, vs3, d3, ds3, p3, q3, rfl, rfl, rfl, h3, r3⟩ := trodAll_cons r2
  obtain ⟨rfl, rfl, rfl⟩ := trodAll_nil r3
  obtain rfl : args = #[v0, v1, v2, v3] := by cases args; simp_all
  obtain ⟨rfl, rfl⟩ := trodVars_none hV
  have lt0 : ∀ x ∈ p0, x.block < W.heap.size := by obtain ⟨m, hm⟩ := h0; exact DataW.trod_lt m _ _ _ hm
  have lt1 : ∀ x ∈ p1, x.block < W.heap.size := by obtain ⟨m, hm⟩ := h1; exact DataW.trod_lt m _ _ _ hm
  have lt2 : ∀ x ∈ p2, x.block < W.heap.size := by obtain ⟨m, hm⟩ := h2; exact DataW.trod_lt m _ _ _ hm
  have lt3 : ∀ x ∈ p3, x.block < W.heap.size := by obtain ⟨m, hm⟩ := h3; exact DataW.trod_lt m _ _ _ hm
  have k0 := h0; have k1 := h1; have k2 := h2; have k3 := h3
  obtain ⟨s0, n0, c0, rfl⟩ := okWide_slice Try.underlying26 (hval 0 26 v0 rfl rfl)
  obtain ⟨s1, n1, c1, rfl⟩ := okWide_slice Try.underlying22 (hval 1 22 v1 rfl rfl)
  obtain ⟨x2, rfl⟩ := okWide_int Try.underlying3 (hval 2 3 v2 rfl rfl)
  obtain ⟨x3, rfl⟩ := okWide_int Try.underlying3 (hval 3 3 v3 rfl rfl)
  obtain ⟨m0, hm0⟩ := h0
  obtain ⟨m1, hm1⟩ := h1
  obtain ⟨m2, hm2⟩ := h2
  obtain ⟨m3, hm3⟩ := h3
  obtain ⟨y2, e2', _, hy2⟩ := DataW.trod_int Try.underlying3 hm2
  obtain ⟨y3, e3', _, hy3⟩ := DataW.trod_int Try.underlying3 hm3
  simp only [Value.cells, List.cons.injEq, and_true, Value.int.injEq, true_and] at e2' e3'
  have hx2 : I64 x2 := by rw [e2']; exact wf_i64 hy2
  have hx3 : I64 x3 := by rw [e3']; exact wf_i64 hy3
  obtain ⟨P, a1, cap1, e1, ht1⟩ := trod_pr hm0
  obtain ⟨Q, a2, cap2, e2, ht2⟩ := trod_ts _ _ _ hm1
  simp only [Value.cells, List.cons.injEq, and_true, Value.slice.injEq] at e1 e2
  obtain ⟨rfl, rfl, rfl⟩ := e1
  obtain ⟨rfl, rfl, rfl⟩ := e2
  clear hA0 hval0 hval
  refine (SolveMoreW P Q x2 x3 W s0 s1 c0 c1 hx2 hx3 ht1 ht2).mono fun e W' ⟨he, bel⟩ => ?_
  subst he
  exact ⟨_, rfl, _, _, _, [], _, [], hW', trodAll_mk1 (shut_bool Try.underlying4 _),
    (trodAll_cons_mk (Below.trod Try.laidOut (by kernel_rfl) (of_decide_eq_true (by kernel_rfl)) k0 bel lt0)
      (trodAll_cons_mk (Below.trod Try.laidOut (by kernel_rfl) (of_decide_eq_true (by kernel_rfl)) k1 bel lt1)
        (trodAll_cons_mk (Below.trod Try.laidOut (by kernel_rfl) (of_decide_eq_true (by kernel_rfl)) k2 bel lt2)
          (trodAll_cons_mk (Below.trod Try.laidOut (by kernel_rfl) (of_decide_eq_true (by kernel_rfl)) k3 bel lt3) trodAll_mk0)))), rfl, bel.frame _, fun h => by cases h⟩

theorem solveMore_holds : Rows.SolveMoreSaid :=
  OpenClaim.holds_of_wide 10 Try.f10 rfl rfl rfl rfl rfl rfl rfl ⟨rfl, rfl, rfl, rfl, rfl⟩ rfl rfl rfl rfl rfl (by kernel_rfl) Try.func10 (by kernel_rfl)
    (of_decide_eq_true (by kernel_rfl)) (by unfold Func.isWrapper; first | (rw [if_pos (by decide +kernel)]; kernel_rfl) | (rw [if_neg (by decide +kernel)]; exact ⟨rfl, rfl⟩))
    (fun os started H enc _ => solveMore_lifted os started H enc)

#print axioms solveMore_holds
end Go.Proofs.Ytikmgiapjigghaa
