/- Proved: the statement SolveSolvesSaid: whatever program, query and number of steps it is handed, 'SolveSolves' answers true, and each argument reads behind the call as it read before. No condition. -/
import Derived.Test.YtikmgiapjigghaaSs17
import Derived.Test.YtikmgiapjigghaaSs18
namespace Go.Proofs.Ytikmgiapjigghaa
open Go.ChangeShapes Go.WideShapes Go.ChangeAt Go.RowKit

theorem solve_parts {p : List Cl} {q : List Tm} {steps : Int} (h : solveE p q steps = 0) : programE p = 0 ∧ queryE q = 0 ∧ 0 ≤ steps ∧ steps ≤ 400 := by
  unfold solveE at h
  by_cases h1 : programE p = 0
  · rw [if_neg (fun h => h h1)] at h
    by_cases h2 : queryE q = 0
    · rw [if_neg (fun h => h h2)] at h
      by_cases h3 : steps < 0 ∨ 400 < steps
      · rw [if_pos h3] at h; cases h
      · exact ⟨h1, h2, by omega, by omega⟩
    · rw [if_pos h2] at h; exact absurd h h2
  · rw [if_pos h1] at h; exact absurd h h1

theorem asAt_off {w : World} {ok : Nat → Prop} {l : List (List Tm)} {a : Option Addr} {c b6 : Nat} (h : AsAt w ok l a c) (ha : ∀ b off, a = some ⟨b, off, none⟩ → b ≠ b6) (hb : ∀ o s, w.cell? ⟨b6, o, none⟩ ≠ some (Value.string s)) : AsAt w (fun b => ok b ∧ b ≠ b6) l a c := by
  refine ⟨h.room, fun i hi => ?_⟩
  obtain ⟨b, off, a1, c1, h1, h2, h3, h4, h5⟩ := h.elem i hi
  exact ⟨b, off, a1, c1, h1, ⟨h2, ha b off h1⟩, h3, h4, ts_avoid hb h5⟩

/-- A result's box. -/
structure RBoxS (w : World) (b : Nat) (x0 x1 x2 : Value) : Prop where
  blk : w.heap[b]? = some (.cells #[x0, x1, x2] 66 (0, 0))

theorem RBoxS.lt {w : World} {b : Nat} {x0 x1 x2 : Value} (h : RBoxS w b x0 x1 x2) : b < w.heap.size := (Array.getElem?_eq_some_iff.1 h.blk).1
theorem RBoxS.below {w u : World} {b : Nat} {x0 x1 x2 : Value} (h : RBoxS w b x0 x1 x2) (hb : Below w.heap.size w u) : RBoxS u b x0 x1 x2 := ⟨(hb.block b h.lt).trans h.blk⟩
theorem RBoxS.all {w : World} {b : Nat} {x0 x1 x2 : Value} (h : RBoxS w b x0 x1 x2) : w.cell? ⟨b, 0, none⟩ = some x0 ∧ w.cell? ⟨b, 1, none⟩ = some x1 ∧ w.cell? ⟨b, 2, none⟩ = some x2 ∧ ∀ o, w.frozen? ⟨b, o, none⟩ = false := by
  have h' := h.blk
  exact ⟨by simp [World.cell?, h'], by simp [World.cell?, h'], by simp [World.cell?, h'], fun o => by simp [World.frozen?, h']⟩
theorem RBoxS.put {w : World} {b : Nat} {x0 x1 x2 : Value} (h : RBoxS w b x0 x1 x2) (y0 y1 y2 : Value) : RBoxS (((w.setCell ⟨b, 0, none⟩ y0).setCell ⟨b, 1, none⟩ y1).setCell ⟨b, 2, none⟩ y2) b y0 y1 y2 := by
  refine ⟨?_⟩
  rw [heap_setCell_at _ _ _ _ (heap_setCell_at _ _ _ _ (heap_setCell_at _ _ _ _ h.blk))]
  rfl
theorem RBoxS.other {w : World} {b c : Nat} {x0 x1 x2 : Value} (h : RBoxS w b x0 x1 x2) (hn : c ≠ b) (y0 y1 y2 : Value) : RBoxS (((w.setCell ⟨c, 0, none⟩ y0).setCell ⟨c, 1, none⟩ y1).setCell ⟨c, 2, none⟩ y2) b x0 x1 x2 := by
  refine ⟨?_⟩
  rw [Below.heap_setCell _ _ _ _ (fun e => hn e.symm), Below.heap_setCell _ _ _ _ (fun e => hn e.symm), Below.heap_setCell _ _ _ _ (fun e => hn e.symm)]
  exact h.blk

set_option maxRecDepth 100000 in
set_option maxHeartbeats 4000000 in
theorem SolveSolvesW (p : List Cl) (q : List Tm) (steps : Int) (w : World) (pa qa : Option Addr) (pc qc : Nat) (hst : I64 steps) (h1 : Pr w (fun _ => True) p pa pc) (h2 : Ts w (fun _ => True) q qa qc) :
    Calls Try.prog 9 #[.slice pa p.length pc, .slice qa q.length qc, .int .i64 steps] w fun e w' => e = .returned (.bool true) ∧ Below w.heap.size w w' := by
  have HST := Lib.hid hst
  have H1 : Hid (Pr w (fun b => b < w.heap.size) p pa pc) := Lib.hid (h1.mono fun b hb _ => hb)
  have H2 : Hid (Ts w (fun b => b < w.heap.size) q qa qc) := Lib.hid (h2.mono fun b hb _ => hb)
  have hi1 : -9223372036854775808 ≤ steps ∧ steps ≤ 9223372036854775807 := hst
  have HS1 := Lib.hid (SolveW p q steps HST.out (w := w) (ok := fun b => b < w.heap.size) (fun b hb => hb) H1.out H2.out)
  have HCS : Hid (∀ u, Below w.heap.size w u → Calls Try.prog 43 #[.slice pa p.length pc, .slice qa q.length qc, .int .i64 steps] u fun e w' => e = .returned (.int .i64 (solveE p q steps : Nat)) ∧ Below u.heap.size u w') := Lib.hid (fun u hu => CheckSolveW p q steps HST.out ((H1.out.keep (Keeps.below hu _)).mono fun _ _ _ => trivial) ((H2.out.keep (Keeps.below hu _)).mono fun _ _ _ => trivial))
  have HZ : Hid (solveE p q steps = 0 → ∃ most : Nat, steps = (most : Int) ∧ (∀ u, Below w.heap.size w u → Calls Try.prog 44 #[.slice pa p.length pc, .slice qa q.length qc, .int .i64 most] u (Emb.SoPost u (solveR p q steps)))) := Lib.hid (fun hz => by
    obtain ⟨h3, h4, h5, h6⟩ := solve_parts hz
    refine ⟨steps.toNat, by omega, fun u hu => ?_⟩
    have h := Emb.SolveOfW (most := steps.toNat) h3 h4 (by omega) (w := u) (ok := fun b => b < w.heap.size) (fun b hb => Nat.lt_of_lt_of_le hb hu.size) (H1.out.keep (Keeps.below hu _)) (H2.out.keep (Keeps.below hu _))
    obtain ⟨e1, e2, e3⟩ := solve_same h3 h4 steps.toNat
    rw [← e1, ← e2, ← e3] at h
    unfold solveR; rw [if_pos hz]; exact h)
  have HN : Hid (solveE p q steps ≠ 0 → solveR p q steps = ([], 0, 0)) := Lib.hid solveR_err
  clear h1 h2 hst
  generalize solveR p q steps = r at *
  generalize solveE p q steps = n at *
  obtain ⟨l, m, k⟩ := r
  go_enter Try.func9, Try.ntmps9
  go_wp2_with fail
  refine HS1.out.mono ?_
  rintro e w2 ⟨hb2, a1, c1, rfl, has1⟩
  simp only at has1 ⊢
  have K3 : Below w2.heap.size w2 (w2.alloc (.cells #[.slice a1 l.length c1, .int .i64 m, .int .i64 k] 66)) := (Below.refl _ _).alloc (Nat.le_refl _) _
  have B3 := Lib.hid (hb2.trans (K3.mono hb2.size))
  have HX3 : Hid (RBoxS (w2.alloc (.cells #[.slice a1 l.length c1, .int .i64 m, .int .i64 k] 66)) w2.heap.size (.slice a1 l.length c1) (.int .i64 m) (.int .i64 k)) := Lib.hid ⟨heap_alloc_new _ _⟩
  have HA3 : Hid (AsAt (w2.alloc (.cells #[.slice a1 l.length c1, .int .i64 m, .int .i64 k] 66)) (fun b => b < w2.heap.size) l a1 c1) := Lib.hid (has1.keep (Keeps.below K3 _))
  clear hb2 has1 K3 HS1
  go_upto_region 2 with fail
  generalize (w2.alloc (.cells #[.slice a1 l.length c1, .int .i64 m, .int .i64 k] 66)) = w3 at *
  generalize w2.heap.size = b7 at *
  by_cases hz : n = 0
  · subst hz
    obtain ⟨most, hmost, hso⟩ := HZ.out rfl
    have HSO := Lib.hid hso
    subst hmost
    clear hso HN HZ
    go_wp2_with (go_at_call 43; refine (HCS.out _ B3.out).mono ?_; rintro e w4 ⟨rfl, hb4⟩; have HB4 := Lib.hid hb4; clear hb4)
    have K5 : Below w4.heap.size w4 (w4.alloc (.cells #[.slice none 0 0, .int .i64 0, .int .i64 0] 66)) := (Below.refl _ _).alloc (Nat.le_refl _) _
    have HB5 : Hid (Below w3.heap.size w3 (w4.alloc (.cells #[.slice none 0 0, .int .i64 0, .int .i64 0] 66))) := Lib.hid (HB4.out.trans (K5.mono HB4.out.size))
    have HX5 : Hid (RBoxS (w4.alloc (.cells #[.slice none 0 0, .int .i64 0, .int .i64 0] 66)) w4.heap.size (.slice none 0 0) (.int .i64 0) (.int .i64 0)) := Lib.hid ⟨heap_alloc_new _ _⟩
    have HL5 : Hid (w3.heap.size ≤ w4.heap.size ∧ (w4.alloc (.cells #[.slice none 0 0, .int .i64 0, .int .i64 0] 66)).heap.size = w4.heap.size + 1) := Lib.hid ⟨HB4.out.size, by simp⟩
    have HB35 : Hid (Below w.heap.size w (w4.alloc (.cells #[.slice none 0 0, .int .i64 0, .int .i64 0] 66))) := Lib.hid (B3.out.trans (HB5.out.mono B3.out.size))
    clear K5 HB4
    generalize (w4.alloc (.cells #[.slice none 0 0, .int .i64 0, .int .i64 0] 66)) = w5 at *
    generalize w4.heap.size = bz at *
    go_upto_region 6 with (go_at_call 44; refine (HSO.out _ HB35.out).mono ?_; rintro e w6 ⟨hb6, a2, c2, rfl, hof6, has6⟩; have HB6 := Lib.hid hb6; have HX6 := Lib.hid (HX5.out.below hb6); have HOF := Lib.hid hof6; have HAS6 := Lib.hid has6; obtain ⟨z0, z1, z2, zf⟩ := (HX5.out.below hb6).all; have lz6 : bz < w6.heap.size := (HX5.out.below hb6).lt; clear hb6 hof6 has6)
    have hstr : ∀ o s, w6.cell? ⟨bz, o, none⟩ ≠ some (Value.string s) := fun o s e => by
      have h := HX6.out.blk
      simp only [World.cell?, h] at e
      rcases o with _ | _ | _ | o
      · cases e
      · cases e
      · cases e
      · simp at e
    have TP := touch_put w6 bz (.slice a2 l.length c2) (.int .i64 m) (.int .i64 k)
    have hA2 : AsAt (((w6.setCell ⟨bz, 0, none⟩ (.slice a2 l.length c2)).setCell ⟨bz, 1, none⟩ (.int .i64 m)).setCell ⟨bz, 2, none⟩ (.int .i64 k)) (fun _ => True) l a2 c2 := ((asAt_off HAS6.out (b6 := bz) (fun b off e => by have := HOF.out b off e; have := HL5.out; omega) hstr).keep (TP.keeps fun b hb e => hb.2 e)).mono fun _ _ _ => trivial
    have hB7 : Below w3.heap.size w3 w6 := HB5.out.trans (HB6.out.mono HB5.out.size)
    have hA1 : AsAt (((w6.setCell ⟨bz, 0, none⟩ (.slice a2 l.length c2)).setCell ⟨bz, 1, none⟩ (.int .i64 m)).setCell ⟨bz, 2, none⟩ (.int .i64 k)) (fun _ => True) l a1 c1 := ((HA3.out.keep (Keeps.below hB7 _)).keep (TP.keeps fun b hb e => by have := HX3.out.lt; have := HL5.out; omega)).mono fun _ _ _ => trivial
    have HX7 := Lib.hid ((HX3.out.below hB7).other (c := bz) (by have := HX3.out.lt; have := HL5.out; omega) (.slice a2 l.length c2) (.int .i64 m) (.int .i64 k))
    have HX8 := Lib.hid (HX6.out.put (.slice a2 l.length c2) (.int .i64 m) (.int .i64 k))
    have HBA : Hid (Below w.heap.size w (((w6.setCell ⟨bz, 0, none⟩ (.slice a2 l.length c2)).setCell ⟨bz, 1, none⟩ (.int .i64 m)).setCell ⟨bz, 2, none⟩ (.int .i64 k))) := Lib.hid (below_put (B3.out.trans (hB7.mono B3.out.size)) (by have := B3.out.size; have := HL5.out; omega) _ _ _)
    have HA1 := Lib.hid hA1; have HA2 := Lib.hid hA2
    clear hstr TP hA1 hA2 hB7 z0 z1 z2 zf lz6 HX5 HX6 HX3 HAS6 HA3 HOF HSO
    generalize (((w6.setCell ⟨bz, 0, none⟩ (.slice a2 l.length c2)).setCell ⟨bz, 1, none⟩ (.int .i64 m)).setCell ⟨bz, 2, none⟩ (.int .i64 k)) = w7 at *
    go_wp2_with (first
      | (go_at_call 45; refine (solveBegunW _).mono ?_; rintro e w8 ⟨rfl, hb8⟩; have HB8 := Lib.hid hb8; obtain ⟨x0, x1, x2, xf⟩ := (HX7.out.below hb8).all; obtain ⟨z0, z1, z2, zf⟩ := (HX8.out.below hb8).all; have HRI := Lib.hid (ResultIsW (l, m, k) 0 (l, m, k) (fun _ => rfl) (fun h => absurd rfl h) w8 (fun _ => True) a1 a2 c1 c2 (HA1.out.keep (Keeps.below hb8 _)) (HA2.out.keep (Keeps.below hb8 _))); clear hb8)
      | (go_at_call 46; refine HRI.out.mono ?_; rintro e w9 ⟨rfl, hb9⟩; have HB9 := Lib.hid hb9; clear hb9))
    go_ret
    exact ⟨rfl, HBA.out.trans ((HB8.out.trans (HB9.out.mono HB8.out.size)).mono HBA.out.size)⟩
  · have hr := HN.out hz
    simp only [Prod.mk.injEq] at hr
    obtain ⟨rfl, rfl, rfl⟩ := hr
    have t1 : ((n : Int) == 0) = false := by rw [beq_eq_false_iff_ne]; omega
    have HNZ := Lib.hid hz
    clear HN HZ hz
    go_wp2_with (go_at_call 43; refine (HCS.out _ B3.out).mono ?_; rintro e w4 ⟨rfl, hb4⟩; have HB4 := Lib.hid hb4; clear hb4)
    have K5 : Below w4.heap.size w4 (w4.alloc (.cells #[.slice none 0 0, .int .i64 0, .int .i64 0] 66)) := (Below.refl _ _).alloc (Nat.le_refl _) _
    have HB5 : Hid (Below w3.heap.size w3 (w4.alloc (.cells #[.slice none 0 0, .int .i64 0, .int .i64 0] 66))) := Lib.hid (HB4.out.trans (K5.mono HB4.out.size))
    have HX5 : Hid (RBoxS (w4.alloc (.cells #[.slice none 0 0, .int .i64 0, .int .i64 0] 66)) w4.heap.size (.slice none 0 0) (.int .i64 0) (.int .i64 0)) := Lib.hid ⟨heap_alloc_new _ _⟩
    have HX7 := Lib.hid (HX3.out.below HB5.out)
    have HA1 := Lib.hid ((HA3.out.keep (Keeps.below HB5.out _)).mono (ok' := fun _ => True) fun _ _ _ => trivial)
    have HBA : Hid (Below w.heap.size w (w4.alloc (.cells #[.slice none 0 0, .int .i64 0, .int .i64 0] 66))) := Lib.hid (B3.out.trans (HB5.out.mono B3.out.size))
    clear K5 HB4 HB5 HX3 HA3
    generalize (w4.alloc (.cells #[.slice none 0 0, .int .i64 0, .int .i64 0] 66)) = w7 at *
    generalize w4.heap.size = bz at *
    go_wp2_with (first
      | (go_at_call 45; refine (solveBegunW _).mono ?_; rintro e w8 ⟨rfl, hb8⟩; have HB8 := Lib.hid hb8; obtain ⟨x0, x1, x2, xf⟩ := (HX7.out.below hb8).all; obtain ⟨z0, z1, z2, zf⟩ := (HX5.out.below hb8).all; have HRI := Lib.hid (ResultIsW ([], 0, 0) n ([], 0, 0) (fun _ => rfl) (fun _ => rfl) w8 (fun _ => True) a1 none c1 0 (HA1.out.keep (Keeps.below hb8 _)) (AsAt.none _ _)); clear hb8)
      | (go_at_call 46; refine HRI.out.mono ?_; rintro e w9 ⟨rfl, hb9⟩; have HB9 := Lib.hid hb9; clear hb9))
    go_ret
    exact ⟨rfl, HBA.out.trans ((HB8.out.trans (HB9.out.mono HB8.out.size)).mono HBA.out.size)⟩

set_option maxRecDepth 100000 in
theorem solveSolves_lifted (os : Os) (started : os.Started) (H : Type) (enc : TypeId × Value → H) :
    ReturnsInHanded {} Try.checked os 9 .any (Rows.solveSolvesSpec.pre6 enc Try.prog Try.f9 Rows.solveSolvesRow.domain false) (Rows.solveSolvesSpec.post enc Try.prog Try.f9 false true false false) := by
  refine returnsInHanded_of_change (C := Try.checked) Try.own started (by kernel_rfl) Try.func9
    (ChangeSpec.witness6 (enc := enc) (C := Try.checked) false ⟨#[], #[.slice none 0 0, .slice none 0 0, .int .i64 0], []⟩ 8 (by kernel_rfl) (by kernel_rfl) (by kernel_rfl) (by kernel_rfl)) ?_
  intro W base args ds gs before hval0 hW hcnd _
  have hval : ∀ (j : Nat) t v, Try.f9.params[j]? = some t → args[j]? = some v → Value.okWide Try.prog W .any base t v := hval0
  have hW' := hW
  obtain ⟨p, q, hA0, hV, rfl, hfz, hnd⟩ := hW
  have hA : DataW.TrodAll enc Try.prog W 0 (fun _ => true) true Try.f9.params.toList args.toList ds p := hA0
  rw [Try.params9] at hA hval
  obtain ⟨v0, vs0, d0, ds0, p0, q0, hargs, rfl, rfl, h0, r0⟩ := trodAll_cons hA
  obtain ⟨v1, vs1, d1, ds1, p1, q1, rfl, rfl, rfl, h1, r1⟩ := trodAll_cons r0
  obtain ⟨v2, vs2, d2, ds2, p2, q2, rfl, rfl, rfl, h2, r2⟩ := trodAll_cons r1
  obtain ⟨rfl, rfl, rfl⟩ := trodAll_nil r2
  obtain rfl : args = #[v0, v1, v2] := by cases args; simp_all
  obtain ⟨rfl, rfl⟩ := trodVars_none hV
  have lt0 : ∀ x ∈ p0, x.block < W.heap.size := by obtain ⟨m, hm⟩ := h0; exact DataW.trod_lt m _ _ _ hm
  have lt1 : ∀ x ∈ p1, x.block < W.heap.size := by obtain ⟨m, hm⟩ := h1; exact DataW.trod_lt m _ _ _ hm
  have lt2 : ∀ x ∈ p2, x.block < W.heap.size := by obtain ⟨m, hm⟩ := h2; exact DataW.trod_lt m _ _ _ hm
  have k0 := h0; have k1 := h1; have k2 := h2
  obtain ⟨s0, n0, c0, rfl⟩ := okWide_slice Try.underlying26 (hval 0 26 v0 rfl rfl)
  obtain ⟨s1, n1, c1, rfl⟩ := okWide_slice Try.underlying22 (hval 1 22 v1 rfl rfl)
  obtain ⟨x2, rfl⟩ := okWide_int Try.underlying3 (hval 2 3 v2 rfl rfl)
  obtain ⟨m0, hm0⟩ := h0
  obtain ⟨m1, hm1⟩ := h1
  obtain ⟨m2, hm2⟩ := h2
  obtain ⟨y2, e2', _, hy2⟩ := DataW.trod_int Try.underlying3 hm2
  simp only [Value.cells, List.cons.injEq, and_true, Value.int.injEq, true_and] at e2'
  have hx2 : I64 x2 := by rw [e2']; exact wf_i64 hy2
  obtain ⟨P, a1, cap1, e1, ht1⟩ := trod_pr hm0
  obtain ⟨Q, a2, cap2, e2, ht2⟩ := trod_ts _ _ _ hm1
  simp only [Value.cells, List.cons.injEq, and_true, Value.slice.injEq] at e1 e2
  obtain ⟨rfl, rfl, rfl⟩ := e1
  obtain ⟨rfl, rfl, rfl⟩ := e2
  clear hA0 hval0 hval
  refine (SolveSolvesW P Q x2 W s0 s1 c0 c1 hx2 ht1 ht2).mono fun e W' ⟨he, bel⟩ => ?_
  subst he
  exact ⟨_, rfl, _, _, _, [], _, [], hW', trodAll_mk1 (shut_bool Try.underlying4 _),
    (trodAll_cons_mk (Below.trod Try.laidOut (by kernel_rfl) (of_decide_eq_true (by kernel_rfl)) k0 bel lt0)
      (trodAll_cons_mk (Below.trod Try.laidOut (by kernel_rfl) (of_decide_eq_true (by kernel_rfl)) k1 bel lt1)
        (trodAll_cons_mk (Below.trod Try.laidOut (by kernel_rfl) (of_decide_eq_true (by kernel_rfl)) k2 bel lt2) trodAll_mk0))), rfl, bel.frame _, fun h => by cases h⟩

theorem solveSolves_holds : Rows.SolveSolvesSaid :=
  OpenClaim.holds_of_wide 9 Try.f9 rfl rfl rfl rfl rfl rfl rfl ⟨rfl, rfl, rfl, rfl, rfl⟩ rfl rfl rfl rfl rfl (by kernel_rfl) Try.func9 (by kernel_rfl)
    (of_decide_eq_true (by kernel_rfl)) (by unfold Func.isWrapper; first | (rw [if_pos (by decide +kernel)]; kernel_rfl) | (rw [if_neg (by decide +kernel)]; exact ⟨rfl, rfl⟩))
    (fun os started H enc _ => solveSolves_lifted os started H enc)

#print axioms solveSolves_holds
end Go.Proofs.Ytikmgiapjigghaa
