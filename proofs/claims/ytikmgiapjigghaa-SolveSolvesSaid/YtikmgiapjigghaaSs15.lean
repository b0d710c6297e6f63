/- Walk: Try of the reference's search. -/
import Derived.Deep.RegionWith
import Derived.Deep.LoopGhost
import Derived.Deep.CutBlock
import Derived.StillTailTactics
import Derived.Deep.DeepCutAuto
import Derived.Test.YtikmgiapjigghaaSs10
import Derived.Test.YtikmgiapjigghaaSs13
import Derived.Test.YtikmgiapjigghaaSs14
namespace Go.Proofs.Ytikmgiapjigghaa.Emb
open Go.RowKit Go.Proofs.Ytikmgiapjigghaa

set_option maxRecDepth 100000 in
set_option maxHeartbeats 40000000 in
theorem TryW {p : List Cl} (hp : POk p) (hsz : ∀ c, c ∈ p → c.head.size ≤ 100000 ∧ ∀ b, b ∈ c.body → b.size ≤ 100000) (h30 : ∀ c, c ∈ p → c.body.length ≤ 1000) {w : World} {xs : Nat} {C : Nat → Prop} {bv kv av : Value} {pa ta : Option Addr} {pc tc : Nat} {query : Nat} {R : RS} {B : List TmAt} (h : RSAt w xs C bv kv av pa ta pc tc p query R B (4000 - R.f))
    {t : Tm} (hi : TInv p R.todo t R) {i : Nat} (hip : i ≤ p.length) :
    Calls Try.prog 115 #[.pointer (some ⟨xs, 0, none⟩), .int .i64 i] w (TryPost w xs C av pa pc p query (rtry p R.todo t i R)) := by
  have hBl := h.n
  have hB1 : 1 ≤ B.length := by have := hi.n; omega
  obtain ⟨g, cap, hbv, hrat⟩ := h.st.toAt hB1
  subst hbv
  obtain ⟨g0, rest, htd⟩ : ∃ g0 rest, R.todo = g0 :: rest := by
    cases hR : R.todo with
    | nil => exact absurd hR hi.ne
    | cons a r => exact ⟨a, r, rfl⟩
  obtain ⟨b0, off0, a0, c0, hta, hok0, hb0, hc30, hcut0, hts0⟩ := h.todo.elem 0 (by rw [htd]; simp)
  subst hta
  have e00 : R.todo[0]'(by rw [htd]; simp) = g0 := by simp [htd]
  rw [e00] at hc30 hcut0 hts0
  obtain ⟨t0, cut⟩ := g0
  simp only at hc30 hcut0 hts0
  have k0 := hc30.var; have k1 := hc30.name; have k2 := hc30.args
  rw [show off0 + 0 * 4 = off0 by omega] at k0 k1 k2
  obtain ⟨q0, q1, q2, q3, q4, q5, q6, q7, q8, qf⟩ := h.cells
  obtain ⟨ln, hln⟩ := look_spec (h.fb.inv.rank.ends) t0
  have hlk : look R.τ t0 = t := by rw [← hi.look, htd]; rfl
  rw [h.tau, hlk] at hln
  have hfit0 : Fit B.length t0 := by rw [hBl]; exact hi.td (t0, cut) (by rw [htd]; exact List.mem_cons_self)
  have HLW : Hid (∀ u, Below w.heap.size w u → Calls Try.prog 71 #[.pointer (some ⟨xs, 1, none⟩), .agg #[.int .i64 t0.var, .string t0.name, .slice a0 t0.args.length c0]] u (fun e w' => ∃ a1 c1, e = .returned (.agg #[.int .i64 t.var, .string t.name, .slice a1 t.args.length c1]) ∧ t.fits ∧ Ts w' (OkC w C) t.args a1 c1 ∧ Below w.heap.size w w' ∧ ∀ b x0 x1 x2, Box3 u b x0 x1 x2 → Box3 w' b x0 x1 x2)) := Lib.hid (fun u hu => by
    refine (LookAtW (hrat.keep hu) (fun j hj => inB_of (by have := h.fb.each _ (List.mem_map_of_mem (f := (·.1)) (List.getElem_mem hj)); simpa using this)) (by rw [h.tau]; exact hln) hc30.fits (hts0.keep (Keeps.below hu _)) (inB_of hfit0)).mono ?_
    rintro e w' ⟨a1, c1, he, hf, hts, hb⟩
    exact ⟨a1, c1, he, hf, hts, hu.trans (hb.mono hu.size), fun b x0 x1 x2 hx => hx.below hb⟩)
  have H := Lib.hid h; have HP := Lib.hid hp; have HSZ := Lib.hid hsz; have H30 := Lib.hid h30; have HI := Lib.hid hi; have HTD := Lib.hid htd; have HBL := Lib.hid hBl; have HB1 := Lib.hid hB1
  have hpl : p.length ≤ 9223372036854775807 := by have := h.prog.room; unfold maxLen at this; omega
  have htl : (0 : Int) < (R.todo.length : Int) := by rw [htd]; simp
  have hbl6 : B.length ≤ 900000 := by have := hi.n; omega
  have lxs := h.xlt
  clear h hp hsz h30 hi htd hBl hrat hok0 hc30 hcut0 hts0 hln hlk hfit0 e00
  go_enter Try.func115, Try.ntmps115
  go_upto_region 1 with fail
  go_cut [5] (fun v5 wx => ∃ b5 a1 c1, v5 = .pointer (some ⟨b5, 0, none⟩) ∧ w.heap.size ≤ b5 ∧ Box3 wx b5 (.int .i64 t.var) (.string t.name) (.slice a1 t.args.length c1) ∧ Below w.heap.size w wx ∧ t.fits ∧ Ts wx (OkC w C) t.args a1 c1)
  case first =>
    go_region_with (first
      | (go_at_call 71; refine (HLW.out _ (by with_reducible exact (Below.refl _ _).drew)).mono ?_; rintro e w1 ⟨a1, c1, rfl, hf1, ht1, hb1, hbx⟩; have HF1 := Lib.hid hf1; have HT1 := Lib.hid ht1; have HB1' := Lib.hid hb1; clear hf1 ht1 hb1 hbx)
      | (go_at_call 71; refine (HLW.out _ (by with_reducible exact ((Below.refl _ _).alloc (Nat.le_refl _) _).drew)).mono ?_; rintro e w1 ⟨a1, c1, rfl, hf1, ht1, hb1, hbx⟩; have HF1 := Lib.hid hf1; have HT1 := Lib.hid ht1; have HB1' := Lib.hid hb1; have hz := hbx _ _ _ _ ((Box3.made w (.int .i64 0) (.string ⟨#[]⟩) (.slice none 0 0)).below (Below.refl _ _).drew); have HZ := Lib.hid hz; obtain ⟨z0, z1, z2, zf⟩ := hz.all; have zl := hz.lt; clear hz hf1 ht1 hb1 hbx))
    all_goals
      go_wp2_with fail
      go_meet
      first
        | exact ⟨_, a1, c1, rfl, HB1'.out.size, Box3.made _ _ _ _, HB1'.out.alloc HB1'.out.size _, HF1.out, HT1.out.keep (Keeps.below ((Below.refl _ _).alloc (Nat.le_refl _) _) _)⟩
        | exact ⟨_, a1, c1, rfl, Nat.le_refl _, HZ.out.put _ _ _, below_put HB1'.out (Nat.le_refl _) _ _ _, HF1.out, HT1.out.keep ((touch_put _ _ _ _ _).keeps fun b hb e => by have := hb.1; omega)⟩
  case rest =>
    obtain ⟨b5, a1, c1, rfl, hb5, hx5, hbx, hf1, ht1⟩ := hcut
    have HX5 := Lib.hid hx5; have HBX := Lib.hid hbx; have HF5 := Lib.hid hf1
    have HQ := Lib.hid (H.out.below hbx)
    have HT5 : Hid (Ts wc (OkC wc C) t.args a1 c1) := Lib.hid (ht1.mono fun b _ hb => OkC.next hbx.size (SameC.refl _ _) hb)
    have hn5 : ¬ C b5 := fun e => by have := H.out.lt _ e; omega
    have HN5 := Lib.hid hn5
    have l5 : b5 < wc.heap.size := hx5.lt
    have lx : xs < wc.heap.size := HQ.out.xlt
    have hcl := HQ.out.st.row.cellAt
    have hfz := HQ.out.st.row.frozenAt
    clear hx5 hbx hf1 ht1 hn5 q0 q1 q2 q3 q4 q5 q6 q7 q8 qf k0 k1 k2 HLW
    generalize wc = wq at *
    obtain ⟨q0, q1, q2, q3, q4, q5, q6, q7, q8, qf⟩ := HQ.out.cells
    obtain ⟨x0, x1, x2, xf⟩ := HX5.out.all
    have hok1 : B.length ≤ cap ∧ cap ≤ maxLen := by
      rcases HQ.out.st.row.2 with ⟨e, _⟩ | ⟨g', cap', cur, e, _, _, h1, h2, _⟩
      · cases e
      · simp only [Value.slice.injEq, Option.some.injEq, Addr.mk.injEq] at e
        obtain ⟨-, -, rfl⟩ := e
        exact ⟨h1, h2⟩
    have HOWN : Hid ((wq.alloc (.cells #[] 24)).ownsRow wq.heap.size 24 3 (.slice (some ⟨wq.heap.size, 0, none⟩) 0 0) 0 []) := Lib.hid (World.ownsRow_lit (base := wq.heap.size) (e := 24) (size := 3) wq #[] 0 (Nat.le_refl _) (Nat.zero_le _) rfl)
    have hbA : Below wq.heap.size wq (wq.alloc (.cells #[] 24)) := (Below.refl _ _).alloc (Nat.le_refl _) _
    have HBA := Lib.hid hbA
    have HNEWS : Hid (∀ j u, (flat B)[j]? = some u → (wq.alloc (.cells #[] 24)).cell? ((⟨g, 0, none⟩ : Addr).add j) = some u) := Lib.hid (fun j u hu => by
      have hj : j < B.length * 3 := by rw [← flat_length]; exact (List.getElem?_eq_some_iff.1 hu).1
      rw [addr_add]
      exact (HBA.out.cell (p := ⟨g, 0 + j, none⟩) (HQ.out.st.row.lt g rfl).2).trans (by rw [Nat.zero_add, hcl j hj, hu]))
    have HLEN : Hid ((flat B).length = B.length * 3) := Lib.hid (flat_length B)
    obtain ⟨i0, hi0, hz0, hz1, hz2⟩ := info_parts Try.infoTm
    clear hcl hbA hok1
    go_upto_region 2 with fail
    go_cut [6] (fun v6 wx => (∃ gw capw, v6 = .slice (some ⟨gw, 0, none⟩) B.length capw) ∧ Below wq.heap.size wq wx ∧ wx.ownsRow wq.heap.size 24 3 v6 B.length (flat B))
    case first =>
      go_wp2_with (at_builtin; refine wpList_append_opt _ rfl _ _ 22 rfl wq.heap.size 24 i0 _ 3 48 Try.underlying22 hi0 hz0 hz1 hz2 rfl (by decide) _ 0 [] rfl HOWN.out (some ⟨g, 0, none⟩) B.length cap (by intro h; cases h) (flat B) rfl HLEN.out (by rintro ad ⟨⟩; exact HNEWS.out) (flat_one B) (by unfold maxLen; omega) (by omega) (by simp) ?_)
      intro v6 w6 hown6 hg6 hf6
      have hown7 : w6.ownsRow wq.heap.size 24 3 v6 B.length (flat B) := by simpa using hown6
      obtain ⟨gw, capw, rfl⟩ := own_shape hown7 HB1.out
      have hbel : Below wq.heap.size wq w6 := HBA.out.trans ((Touch.grown (M := fun b => b = wq.heap.size) hg6 (fun k e => by simpa [Value.ownBlock] using e.symm)).toBelow HBA.out.size (fun b e => by omega))
      have HO7 := Lib.hid hown7; have HB7 := Lib.hid hbel
      clear hown6 hg6 hf6 hown7 hbel
      go_wp2_with fail
      go_meet
      exact ⟨⟨_, _, rfl⟩, HB7.out, HO7.out⟩
    case rest =>
      obtain ⟨⟨gw, capw, rfl⟩, hb6, hown6⟩ := hcut
      have HB6 := Lib.hid hb6
      have HW6 : Hid (WasAt wc C (.slice (some ⟨gw, 0, none⟩) B.length capw) B) := Lib.hid ⟨row_le hown6, (HQ.out.st.each.keep (Keeps.below hb6 _)).mono fun b _ hb => OkC.next hb6.size (SameC.refl _ _) hb, fun g' hg' e => by
        have h1 := (hown6.lt g' hg').1; have h2 := HQ.out.lt _ e; omega⟩
      have HQ6 := Lib.hid (HQ.out.below hb6)
      have HT6 : Hid (Ts wc (OkC wc C) t.args a1 c1) := Lib.hid ((HT5.out.keep (Keeps.below hb6 _)).mono fun b _ hb => OkC.next hb6.size (SameC.refl _ _) hb)
      have HX6 := Lib.hid (HX5.out.below hb6)
      clear hown6 q0 q1 q2 q3 q4 q5 q6 q7 q8 qf x0 x1 x2 xf HOWN HBA HNEWS HLEN hi0 hz0 hz1 hz2 hfz
      have hs6 := hb6.size
      clear hb6
      generalize wc = wp at *
      obtain ⟨q0, q1, q2, q3, q4, q5, q6, q7, q8, qf⟩ := HQ6.out.cells
      obtain ⟨x0, x1, x2, xf⟩ := HX6.out.all
      have HFW : Hid (∀ u, Below wp.heap.size wp u → ∀ j, j ≤ p.length → Calls Try.prog 137 #[.slice pa p.length pc, .agg #[.int .i64 t.var, .string t.name, .slice a1 t.args.length c1], .int .i64 j] u (fun e w' => e = .returned (.int .i64 (nextF p t j : Nat)) ∧ Below wp.heap.size wp w')) := Lib.hid (fun u hu j hj => (FittingW (HQ6.out.prog.keep (Keeps.below hu _)) t a1 c1 j hj).mono fun e w' ⟨he, hb⟩ => ⟨he, hu.trans (hb.mono hu.size)⟩)
      go_upto_region 3 with fail
      go_cut [7] (fun v7 wx => v7 = .int .i64 (nextF p t i : Nat) ∧ Below wp.heap.size wp wx)
      case first =>
        go_still_tail 6, (by kernel_rfl)
        change wpList _ _ _ _ _ wp.drew
        go_wp2_with (go_at_call 137; refine (HFW.out _ (by with_reducible exact (Below.refl _ _).drew) i hip).mono ?_; rintro e w2 ⟨rfl, hb2⟩; have HB2 := Lib.hid hb2; clear hb2)
        all_goals
          go_wp2_with fail
          go_meet
          exact ⟨rfl, HB2.out⟩
      case rest =>
        obtain ⟨rfl, hb3⟩ := hcut
        have HB3 := Lib.hid hb3
        clear hb3 q0 q1 q2 q3 q4 q5 q6 q7 q8 qf x0 x1 x2 xf
        have hnx := nextF_ge p t (p.length - i) i rfl
        go_wp2_with fail
        go_loopg [7] (p.length - nextF p t i) (fun gk v7 wr => ∃ (j f : Nat) (Cj : Nat → Prop) (bvj : Value), Hid (gk = p.length - j) ∧ j ≤ p.length ∧ v7 = .int .i64 j ∧ Hid (∀ hj : j < p.length, FitC p[j] t) ∧ Hid (f ≤ 4000) ∧ Hid (RSAt wr xs Cj bvj kv av pa (some ⟨b0, off0, none⟩) pc tc p query { R with f := f } B (4000 - f)) ∧ Hid (Touch C wp wr ∧ SameC wp C Cj) ∧ Hid (rtry p R.todo t j { R with f := f } = rtry p R.todo t i R))
        case atStart =>
          exact ⟨nextF p t i, R.f, C, .slice (some ⟨g, 0, none⟩) B.length cap, Lib.hid rfl, hnx.2 hip, rfl, Lib.hid (fun hj => nextF_is p t (p.length - i) i rfl hj), Lib.hid HI.out.f, Lib.hid (HQ6.out.below HB3.out), Lib.hid ⟨Touch.below HB3.out, SameC.refl _ _⟩, Lib.hid (rtry_next (p.length - i) i rfl).symm⟩
        case round =>
          obtain ⟨j, f, Cj, bvj, HGK, hj, rfl, HFJ, HF4, HSR, HTR, HRE⟩ := hrel
          have HWJ := Lib.hid (HW6.out.next HTR.out.1 HTR.out.2)
          have HTJ : Hid (Ts wr (OkC wr Cj) t.args a1 c1) := Lib.hid ((HT6.out.keep (Touch.keepsC HTR.out.1)).mono fun b _ hb => OkC.next HTR.out.1.size HTR.out.2 hb)
          have lp5 : b5 < wp.heap.size := Nat.lt_of_lt_of_le l5 hs6
          have HXJ := Lib.hid (HX6.out.keep (HTR.out.1.block _ lp5 HN5.out))
          have HNJ : Hid (¬ Cj b5) := Lib.hid (fun e => HN5.out ((HTR.out.2 b5 lp5).1 e))
          have ljr : b5 < wr.heap.size := HXJ.out.lt
          obtain ⟨x0, x1, x2, xf⟩ := HXJ.out.all
          obtain ⟨q0, q1, q2, q3, q4, q5, q6, q7, q8, qf⟩ := HSR.out.cells
          have lxr := HSR.out.xlt
          clear hnx
          by_cases hlt : j < p.length
          · obtain ⟨bp, off, a2, a3, c2, c3, hpa, hokp, hbp, hc3, hc4, ht3, ht4⟩ := HSR.out.prog.elem j hlt
            subst hpa
            have HHF := Lib.hid hc3.fits; have HC3 := Lib.hid hc3; have HC4 := Lib.hid hc4; have HOKP := Lib.hid hokp
            have hj0 : (0 : Int) ≤ (j : Int) := by omega
            have hj1 : (j : Int) < (p.length : Int) := by omega
            have HTH := Lib.hid ht3; have HTB := Lib.hid ht4
            clear hc3 hc4 ht3 ht4 hokp
            have e1 : ((j + 1 : Nat) : Int) = (j : Int) + 1 := by omega
            have HFX : Hid (∀ u, Below wr.heap.size wr u → Calls Try.prog 137 #[.slice (some ⟨bp, off, none⟩) p.length pc, .agg #[.int .i64 t.var, .string t.name, .slice a1 t.args.length c1], .int .i64 ((j : Int) + 1)] u (fun e w' => e = .returned (.int .i64 (nextF p t (j + 1) : Nat)) ∧ Below wr.heap.size wr w')) := Lib.hid (fun u hu => by
              have h := FittingW (HSR.out.prog.keep (Keeps.below hu _)) t a1 c1 (j + 1) hlt
              rw [e1] at h
              exact h.mono fun e w' ⟨he, hb⟩ => ⟨he, hu.trans (hb.mono hu.size)⟩)
            clear e1
            go_upto_region 5 with fail
            go_cut [8] (fun v8 wx => v8 = .int .i64 (nextF p t (j + 1) : Nat) ∧ Below wr.heap.size wr wx)
            case first =>
              have hja : (j : Int) + 1 ≤ 9223372036854775807 := by omega
              go_still_tail 7, (by kernel_rfl)
              change wpList _ _ _ _ _ wr.drew
              go_wp2_with (go_at_call 137; refine (HFX.out _ (by with_reducible exact (Below.refl _ _).drew)).mono ?_; rintro e wn ⟨rfl, hbn⟩; have HBN := Lib.hid hbn; clear hbn)
              all_goals
                go_wp2_with fail
                go_meet
                exact ⟨rfl, HBN.out⟩
            case rest =>
              obtain ⟨rfl, hb5'⟩ := hcut
              have HSA := Lib.hid (HSR.out.below hb5')
              have HBA := Lib.hid hb5'
              have HXA := Lib.hid (HXJ.out.below hb5')
              have hsa := hb5'.size
              clear q0 q1 q2 q3 q4 q5 q6 q7 q8 qf x0 x1 x2 xf hb5' HFX
              generalize wc = wa at *
              obtain ⟨q0, q1, q2, q3, q4, q5, q6, q7, q8, qf⟩ := HSA.out.cells
              have HMW := Lib.hid (MoreW HSA.out.st (n := 12) (by omega) (by omega))
              go_upto_region 7 with (go_at_call 104; refine HMW.out.mono ?_; rintro e wm ⟨rfl, bvm, hrm, htm, hfm⟩; have HRM := Lib.hid hrm; have HTM := Lib.hid htm; have HFM := Lib.hid hfm; clear hrm htm hfm)
              have hfb2 : FB ((B ++ fresh B.length 12).map (·.1)) := by
                rw [List.map_append]
                have := FB.more HSA.out.fb 12
                rwa [List.length_map] at this
              have hl2 : (B ++ fresh B.length 12).length = B.length + 12 := by simp [fresh]
              have hsub2 : subB ((B ++ fresh B.length 12).map (·.1)) = R.τ := by
                rw [List.map_append]
                have h1 := subB_more (ls := B.map (·.1)) 12
                rw [List.length_map] at h1
                rw [h1]
                exact HSA.out.tau
              obtain ⟨Cm, hsm, htm, hrm⟩ := HSA.out.state HTM.out HFM.out HRM.out hfb2 f
              rw [hsub2, hl2] at hrm
              obtain ⟨gm, capm, hbvm, hrat⟩ := hrm.st.toAt (by rw [hl2]; omega)
              subst hbvm
              have hcon : Touch Cj wr wm ∧ SameC wr Cj Cm := ⟨(Touch.below HBA.out).trans htm, ((SameC.refl _ _ : SameC wr Cj Cj).trans hsm hsa)⟩
              have HCON := Lib.hid hcon
              have hkp := Touch.keepsC hcon.1
              have hmo : ∀ b, OkC wr Cj b → OkC wm Cm b := fun b => OkC.next hcon.1.size hcon.2
              have HXM := Lib.hid (HXJ.out.keep (hcon.1.block _ ljr HNJ.out))
              have HTM2 := Lib.hid ((HTJ.out.keep hkp).mono fun b _ => hmo b)
              have HTHM := Lib.hid ((HTH.out.keep hkp).mono fun b _ => hmo b)
              have HTBM := Lib.hid ((HTB.out.keep hkp).mono fun b _ => hmo b)
              have p0 := (hkp.cell (p := ⟨bp, off + j * 4, none⟩) HOKP.out hbp).trans HC3.out.var
              have p1 := (hkp.cell (p := ⟨bp, off + j * 4 + 1, none⟩) HOKP.out hbp).trans HC3.out.name
              have p2 := (hkp.cell (p := ⟨bp, off + j * 4 + 2, none⟩) HOKP.out hbp).trans HC3.out.args
              have p3 := (hkp.cell (p := ⟨bp, off + j * 4 + 3, none⟩) HOKP.out hbp).trans HC4.out
              have HP3 := Lib.hid p3
              have HRS := Lib.hid hrm
              have HRT := Lib.hid hrat
              have hfp := HP.out p[j] (List.getElem_mem hlt)
              have HFP := Lib.hid hfp
              have hs9 := hcon.1.size
              have HB13 : Hid (13 ≤ B.length) := Lib.hid (by have := HI.out.n; have := HBL.out; omega)
              obtain ⟨x0, x1, x2, xf⟩ := HXM.out.all
              clear q0 q1 q2 q3 q4 q5 q6 q7 q8 qf hsm htm hrm hrat hcon hkp hmo HMW HRM HTM HFM p3
              obtain ⟨q0, q1, q2, q3, q4, q5, q6, q7, q8, qf⟩ := HRS.out.cells
              have HFR : Hid (∀ u, Below wm.heap.size wm u → Calls Try.prog 127 #[.agg #[.int .i64 p[j].head.var, .string p[j].head.name, .slice a2 p[j].head.args.length c2], .int .i64 ((B.length : Int) - 1)] u (fun e w' => ∃ a c, e = .returned (.agg #[.int .i64 (far ((B.length : Int) - 1) p[j].head).var, .string (far ((B.length : Int) - 1) p[j].head).name, .slice a (far ((B.length : Int) - 1) p[j].head).args.length c]) ∧ (far ((B.length : Int) - 1) p[j].head).fits ∧ Ts w' (OkC w' Cm) (far ((B.length : Int) - 1) p[j].head).args a c ∧ Below wm.heap.size wm w')) := Lib.hid (fun u hu => by
                refine (FarW (K := (B.length : Int) - 1) p[j].head u (OkC wm Cm) a2 c2 (fun b hb => Nat.lt_of_lt_of_le hb.1 hu.size) (HSZ.out p[j] (List.getElem_mem hlt)).1 HHF.out (HTHM.out.keep (Keeps.below hu _)) (fun q hq hv => by have := fit_parts hfp.1 hq hv; unfold I64; omega)).mono ?_
                rintro e w' ⟨a, c, he, hf, hts, hb⟩
                have hbz := hu.trans (hb.mono hu.size)
                refine ⟨a, c, he, hf, hts.mono fun b hb' hk => ⟨hb', ?_⟩, hbz⟩
                rcases hk with hk | hk
                · exact hk.2
                · exact fun e => by have := HRS.out.lt _ e; have := hu.size; omega)
              have HMT : Hid (∀ u a c, Below wm.heap.size wm u → (far ((B.length : Int) - 1) p[j].head).fits → Ts u (OkC u Cm) (far ((B.length : Int) - 1) p[j].head).args a c → Calls Try.prog 70 #[.pointer (some ⟨xs, 1, none⟩), .agg #[.int .i64 (far ((B.length : Int) - 1) p[j].head).var, .string (far ((B.length : Int) - 1) p[j].head).name, .slice a (far ((B.length : Int) - 1) p[j].head).args.length c], .agg #[.int .i64 t.var, .string t.name, .slice a1 t.args.length c1]] u (fun e w' => ∃ n : Int, e = .returned (.int .i64 n) ∧ MeetRPost (zOf p (some ⟨bp, off, none⟩) pc (some ⟨b0, off0, none⟩) tc kv av query { R with f := f }) u (OkC u Cm) xs gm capm (B.length + 12) (meetR R.τ f [(far ((B.length : Int) - 1) p[j].head, t)]) (.returned (.int .i64 n)) w')) := Lib.hid (fun u a c hu hf hts => by
                obtain ⟨g', cap', e', hr'⟩ := (HRS.out.below hu).st.toAt (by rw [hl2]; omega)
                simp only [Value.slice.injEq, Option.some.injEq, Addr.mk.injEq, true_and, and_true] at e'
                obtain ⟨rfl, rfl⟩ := e'
                have hm := MeetW HF4.out hr' hfb2 hf HF5.out hts ((HTM2.out.keep (Keeps.below hu _)).mono fun b hb' hk => ⟨Nat.lt_of_lt_of_le hk.1 hu.size, hk.2⟩) (by rw [hl2]; exact far_fit HB13.out hfp.1) (by rw [hl2, HBL.out]; exact HI.out.t.mono (by omega))
                rw [hsub2, hl2] at hm
                refine hm.mono fun e w' hp => ?_
                have hform : ∃ n : Int, e = .returned (.int .i64 n) := by
                  obtain ⟨_, B', _, _, h3⟩ := hp
                  revert h3
                  cases meetR R.τ f [(far ((B.length : Int) - 1) p[j].head, t)] with
                  | ok _ _ _ => exact fun h => ⟨_, h.1⟩
                  | no _ _ _ => exact fun h => ⟨_, h.1⟩
                  | many _ _ => exact fun h => ⟨_, h.1⟩
                obtain ⟨n, rfl⟩ := hform
                exact ⟨n, rfl, hp⟩)
              clear hfp
              go_cut [10] (fun v10 wx => ∃ (u : World) (n : Int), v10 = .int .i64 n ∧ Below wm.heap.size wm u ∧ MeetRPost (zOf p (some ⟨bp, off, none⟩) pc (some ⟨b0, off0, none⟩) tc kv av query { R with f := f }) u (OkC u Cm) xs gm capm (B.length + 12) (meetR R.τ f [(far ((B.length : Int) - 1) p[j].head, t)]) (.returned (.int .i64 n)) wx)
              case first =>
                clear hfb2 hl2 hsub2
                go_region_with (first
                  | (go_at_call 127; refine (HFR.out _ (by with_reducible exact (Below.refl _ _).drew)).mono ?_; rintro e wM ⟨aM, cM, rfl, hfM, htM, hbM⟩; have HFM := Lib.hid hfM; have HTMM := Lib.hid htM; have HBM := Lib.hid hbM; obtain ⟨m0, m1, m2, mf⟩ := (HXM.out.below hbM).all; clear hfM htM hbM)
                  | (go_at_call 70; refine (HMT.out _ _ _ HBM.out HFM.out HTMM.out).mono ?_; rintro e wS ⟨nS, rfl, hpS⟩; have HPS := Lib.hid hpS; clear hpS))
                all_goals
                  go_wp2_with fail
                  go_meet
                  exact ⟨wM, nS, rfl, HBM.out, HPS.out⟩
              case rest =>
                obtain ⟨u, n, rfl, hu, hps⟩ := hcut
                rw [← hl2] at hps
                obtain ⟨C3, B3, htn, hmet⟩ := (HRS.out.below hu).met hps
                have hall : Turn wr Cj wc C3 := (Turn.mk HCON.out.1 HCON.out.2).trans ((Turn.below hu).trans htn)
                have HALL := Lib.hid hall
                have HTN : Hid (Turn w C wc C3) := Lib.hid ((Turn.below HBX.out).trans ((Turn.below HB6.out).trans ((Turn.mk HTR.out.1 HTR.out.2).trans hall)))
                have HXC := Lib.hid (hall.box HXJ.out HNJ.out)
                have HWC := Lib.hid (HWJ.out.next hall.touch hall.same)
                have HTBC := Lib.hid (hall.ts HTB.out)
                have HTNP : Hid (Turn wp C wc C3) := Lib.hid ((Turn.mk HTR.out.1 HTR.out.2).trans hall)
                have hszr : wr.heap.size ≤ wc.heap.size := hall.touch.size
                clear hps hu htn hall hfb2 hl2 hsub2 HRS HRT HFR HMT HSR HXA HXM HTM2 HTHM HTBM HCON HBA HP3 HSA q0 q1 q2 q3 q4 q5 q6 q7 q8 qf x0 x1 x2 xf p0 p1 p2 HTH HWJ HTJ
                generalize wc = wz at *
                obtain ⟨x0, x1, x2, xf⟩ := HXC.out.1.all
                obtain ⟨mo, hmo⟩ : ∃ mo, meetR R.τ f [(far ((B.length : Int) - 1) p[j].head, t)] = mo := ⟨_, rfl⟩
                rw [hmo] at hmet
                rw [HBL.out] at hmo
                have HMO := Lib.hid hmo
                clear hmo
                cases mo with
                | ok σ' L' f' =>
                  obtain ⟨rfl, hr⟩ := hmet
                  obtain ⟨K, hK, hKr, hKe⟩ := hr.kept
                  obtain ⟨ka, kc, hkv, hkl⟩ := row_form hKr
                  have hKl : K.length = R.kept.length := by rw [← hK, List.length_map]
                  have hkb : R.kept.length ≤ 900000 := HI.out.kept
                  rw [hKl] at hkv
                  subst hkv
                  have HR := Lib.hid hr
                  have HKR := Lib.hid hKr; have HKE := Lib.hid hKe; have HKM := Lib.hid hK; have HKL := Lib.hid hKl
                  obtain ⟨nn, hnn⟩ : ∃ nn, nextF p t (j + 1) = nn := ⟨_, rfl⟩
                  have HNN := Lib.hid hnn
                  rw [hnn]
                  obtain ⟨q0, q1, q2, q3, q4, q5, q6, q7, q8, qf⟩ := hr.cells
                  have lxz := hr.xlt
                  have lgw : gw < wz.heap.size := (HWC.out.row.lt gw rfl).2
                  clear hr hnn hK hKr hKe hKl hkl
                  go_upto_if 93 with fail
                  go_cut [] (fun wx => ∃ C4 kv', Turn wz C3 wx C4 ∧ RSAt wx xs C4 (.slice (some ⟨gm, 0, none⟩) (B.length + 12) capm) kv' av (some ⟨bp, off, none⟩) (some ⟨b0, off0, none⟩) pc tc p query { R with τ := σ', n := B.length + 12, f := f', kept := if nn < p.length then R.kept ++ [⟨R.τ, R.n, R.todo, nn⟩] else R.kept } B3 (4000 - f'))
                  case first =>
                    by_cases hn : nn < p.length
                    · have hn1 : (nn : Int) < (p.length : Int) := by omega
                      have HNP := Lib.hid hn
                      obtain ⟨i0, zc, hi0, hz0, hz1, hz2, hz3⟩ := infoKp
                      have HOWN : Hid ((wz.alloc (.cells #[.slice (some ⟨gw, 0, none⟩) B.length capw, .slice (some ⟨b0, off0, none⟩) R.todo.length tc, .int .i64 nn] 191)).drew.ownsRow 0 191 3 (.slice ka R.kept.length kc) R.kept.length (flatK K)) := Lib.hid (by
                        have h := HKR.out.alloc (.cells #[.slice (some ⟨gw, 0, none⟩) B.length capw, .slice (some ⟨b0, off0, none⟩) R.todo.length tc, .int .i64 nn] 191)
                        rw [HKL.out] at h; exact h)
                      have HNW : Hid (∀ j u, ([.slice (some ⟨gw, 0, none⟩) B.length capw, .slice (some ⟨b0, off0, none⟩) R.todo.length tc, .int .i64 nn] : List Value)[j]? = some u → (wz.alloc (.cells #[.slice (some ⟨gw, 0, none⟩) B.length capw, .slice (some ⟨b0, off0, none⟩) R.todo.length tc, .int .i64 nn] 191)).drew.cell? ((⟨wz.heap.size, 0, none⟩ : Addr).add j) = some u) := Lib.hid (fun j u h => three_cells wz _ _ _ _ j u h)
                      have HBX2 : Hid (Below wz.heap.size wz (wz.alloc (.cells #[.slice (some ⟨gw, 0, none⟩) B.length capw, .slice (some ⟨b0, off0, none⟩) R.todo.length tc, .int .i64 nn] 191)).drew) := Lib.hid ((Below.refl _ _).alloc (Nat.le_refl _) _).drew
                      have HKAT : Hid (KAt wz (OkC wz C3) ⟨some ⟨gw, 0, none⟩, capw, B.map (·.1), some ⟨b0, off0, none⟩, tc, R.todo, nn⟩) := Lib.hid (by
                        obtain ⟨a', cap', e', hts⟩ := ts_of_row' HWC.out.row (fun b hb => (⟨(HWC.out.row.lt b hb).2, HWC.out.no b hb⟩ : OkC wz C3 b)) HWC.out.each
                        simp only [Value.slice.injEq] at e'
                        obtain ⟨rfl, -, rfl⟩ := e'
                        exact ⟨H.out.fb, hts, HR.out.todo⟩)
                      have HKC : Hid ((⟨some ⟨gw, 0, none⟩, capw, B.map (·.1), some ⟨b0, off0, none⟩, tc, R.todo, nn⟩ : KEnt).ch = ⟨R.τ, R.n, R.todo, nn⟩) := Lib.hid (by simp only [KEnt.ch, List.length_map]; rw [H.out.tau, HBL.out])
                      clear hn
                      go_wp2_with fail
                      go_region_law ((refine step_append_opt _ (by rfl) _ _ _ (by rfl) 0 191 i0 _ 3 56 Try.underlying140 hi0 hz0 hz1 hz2 hz3 (by decide) (.slice ka R.kept.length kc) R.kept.length (flatK K) (by rfl) HOWN.out (some ⟨wz.heap.size, 0, none⟩) 1 1 (by intro h; cases h) [.slice (some ⟨gw, 0, none⟩) B.length capw, .slice (some ⟨b0, off0, none⟩) R.todo.length tc, .int .i64 nn] (by rfl) rfl (by intro ad had; cases had; exact HNW.out) (by intro u hu; simp only [List.mem_cons, List.not_mem_nil, or_false] at hu; rcases hu with rfl | rfl | rfl <;> rfl) (by unfold maxLen; omega) (by omega) (Nat.zero_le _) ?_
                                      intro v1 w1 hown1 hgrow1 hfr1
                                      obtain ⟨g1, cap1, rfl⟩ := own_shape hown1 (by omega)
                                      obtain ⟨htp, Cp, hsp, hrp⟩ := HR.out.push HKM.out HKE.out HKAT.out HBX2.out (by rw [HKL.out]; simp only [List.length_map]; exact hown1) hgrow1 hfr1
                                      rw [HKC.out] at hrp
                                      have HPT := Lib.hid (Turn.mk htp hsp); have HPR2 := Lib.hid hrp
                                      have hbk : w1.heap[xs]? = wz.heap[xs]? := (hgrow1.block xs (by have := HBX2.out.size; omega) (fun e => HR.out.sep.k e.symm)).trans (HBX2.out.block xs lxz)
                                      have y4 : w1.cell? ⟨xs, 4, none⟩ = some (.slice ka R.kept.length kc) := by simp only [World.cell?, hbk]; exact q4
                                      have yf : ∀ o, w1.frozen? ⟨xs, o, none⟩ = false := fun o => by simp only [World.frozen?, hbk]; exact qf o
                                      clear htp hsp hrp hown1 hgrow1 hfr1 hbk))
                      all_goals
                        go_wp2_with fail
                        go_meet
                        exact ⟨Cp, _, HPT.out, by rw [if_pos HNP.out]; exact HPR2.out⟩
                    · have hn1 : (p.length : Int) ≤ (nn : Int) := by omega
                      go_wp2_with fail
                      go_meet
                      exact ⟨C3, _, Turn.refl _ _, by rw [if_neg hn]; exact HR.out⟩
                  case rest =>
                    obtain ⟨C4, kv', ht4, hr4⟩ := hcut
                    have HR4 := Lib.hid hr4
                    have HTN4 : Hid (Turn w C wc C4) := Lib.hid (HTN.out.trans ht4)
                    obtain ⟨bp', off', a5, a6, c5, c6, hpa', hokp', hbp', hc5, hc6, ht5, ht6⟩ := hr4.prog.elem j hlt
                    simp only [Option.some.injEq, Addr.mk.injEq, and_true] at hpa'
                    obtain ⟨rfl, rfl⟩ := hpa'
                    have HC6 := Lib.hid hc6; have HT6B := Lib.hid ht6
                    have HLT4 : Hid (∀ b, C4 b → b < wc.heap.size) := Lib.hid hr4.lt
                    have HDN : Hid (∀ R' : RS, R' = { R with τ := σ', n := B.length + 12, f := f', kept := if nn < p.length then R.kept ++ [⟨R.τ, R.n, R.todo, nn⟩] else R.kept, todo := bodyG ((B.length : Int) - 1) R.kept.length p[j].body ++ rest } → rtry p R.todo t i R = (R', true)) := Lib.hid (fun R' hR' => by
                      rw [← HRE.out]
                      refine rtry_done hlt (HFJ.out hlt) ?_
                      unfold rclause; simp only; rw [HMO.out, HNN.out, hR', HBL.out, HTD.out]; rfl)
                    have hbl5 : p[j].body.length ≤ 1000 := H30.out _ (List.getElem_mem hlt)
                    have hbl7 : (p[j].body.length : Int) ≤ 9223372036854775807 := by omega
                    have hsz4 : wz.heap.size ≤ wc.heap.size := ht4.touch.size
                    have HTODO := Lib.hid hr4.todo
                    clear ht4 hr4 hc5 hc6 ht5 ht6 hokp' q0 q1 q2 q3 q4 q5 q6 q7 q8 qf x0 x1 x2 xf HR HKR HKE HKM HKL HWC HTBC HXC HTN HALL HTNP
                    generalize wc = wd at *
                    obtain ⟨bd, hbd⟩ : ∃ bd, p[j].body = bd := ⟨_, rfl⟩
                    have HBD := Lib.hid hbd
                    have HSZB : Hid (∀ b, b ∈ bd → b.size ≤ 100000) := Lib.hid (by rw [← hbd]; exact (HSZ.out _ (List.getElem_mem hlt)).2)
                    have HFPB : Hid (∀ b, b ∈ bd → Fit 13 b) := Lib.hid (by rw [← hbd]; exact HFP.out.2)
                    rw [hbd] at HC6 HT6B HDN hbl5 hbl7
                    clear hbd
                    have hq0 := HR4.out.cells.1
                    have hc6' := HC6.out
                    go_wp2_with fail
                    obtain ⟨wo, rfl⟩ : ∃ x, x = wr := ⟨_, rfl⟩
                    go_loopg [12, 13] bd.length (fun gk v12 v13 wx => ∃ (k : Nat) (L : List TdE), Hid (gk = bd.length - k) ∧ k ≤ bd.length ∧ v13 = .int .i64 k ∧ Hid (OwnTd wx wd.heap.size C4 v12 L) ∧ Hid (L.map (·.1) = bodyG ((B.length : Int) - 1) R.kept.length (bd.take k)) ∧ Hid (Below wd.heap.size wd wx))
                    case atStart => exact ⟨0, [], Lib.hid (by omega), Nat.zero_le _, rfl, Lib.hid (OwnTd.nil _ _ _), Lib.hid (by simp [bodyG]), Lib.hid (Below.refl _ _)⟩
                    case round =>
                      obtain ⟨k, L, HGL, hk, rfl, HOW, HLM, HBW⟩ := hrel
                      obtain ⟨va, vc, rfl⟩ := HOW.out.form
                      have HR5 := Lib.hid (HR4.out.below HBW.out)
                      obtain ⟨q0, q1, q2, q3, q4, q5, q6, q7, q8, qf⟩ := HR5.out.cells
                      have p3 := (HBW.out.cell (p := ⟨bp, off + j * 4 + 3, none⟩) hbp').trans HC6.out
                      have hLl : L.length = k := by
                        have := congrArg List.length HLM.out
                        simp only [List.length_map, bodyG, List.length_take] at this
                        omega
                      have HLL := Lib.hid hLl
                      have hLb : L.length ≤ 1000 := by omega
                      have lxr5 := HR5.out.xlt
                      clear hLl hq0 hc6'
                      by_cases hkl : k < bd.length
                      · have hk0 : (0 : Int) ≤ (k : Int) := by omega
                        have hk1 : (k : Int) < (bd.length : Int) := by omega
                        obtain ⟨b6, off6, a7, c7, ha6, hok6, hb6, hc7, ht7⟩ := HT6B.out.at k hkl
                        subst ha6
                        have r0 := (HBW.out.cell (p := ⟨b6, off6 + k * 3, none⟩) hb6).trans hc7.var
                        have r1 := (HBW.out.cell (p := ⟨b6, off6 + k * 3 + 1, none⟩) hb6).trans hc7.name
                        have r2 := (HBW.out.cell (p := ⟨b6, off6 + k * 3 + 2, none⟩) hb6).trans hc7.args
                        have HFF := Lib.hid hc7.fits
                        have HT7 : Hid (Ts wr (fun b => OkC wr C4 b ∧ (Value.slice va L.length vc).ownBlock ≠ some b) bd[k].args a7 c7) := Lib.hid ((ht7.keep (Keeps.below HBW.out _)).mono fun b _ hb => ⟨⟨Nat.lt_of_lt_of_le hb.1 HBW.out.size, hb.2⟩, fun e => by have := (HOW.out.own.lt b e).1; have := hb.1; omega⟩)
                        have HFW2 := Lib.hid (FarW (K := (B.length : Int) - 1) bd[k] wr (fun b => OkC wr C4 b ∧ (Value.slice va L.length vc).ownBlock ≠ some b) a7 c7 (fun b hb => hb.1.1) (HSZB.out _ (List.getElem_mem hkl)) HFF.out HT7.out (fun q hq hv => by have := fit_parts (HFPB.out _ (List.getElem_mem hkl)) hq hv; unfold I64; omega))
                        obtain ⟨i0, zc, hi0, hz0, hz1, hz2, hz3⟩ := infoTd
                        clear hc7 ht7 hok6
                        go_wp2_with (first
                          | (go_at_call 127; refine HFW2.out.mono ?_; rintro e w1 ⟨aF, cF, rfl, hfF, htF, hbF⟩; have HFF2 := Lib.hid hfF; have HTF := Lib.hid htF; have HBF := Lib.hid hbF; have HOWN : Hid ((w1.alloc (.cells #[.int .i64 (far ((B.length : Int) - 1) bd[k]).var, .string (far ((B.length : Int) - 1) bd[k]).name, .slice aF (far ((B.length : Int) - 1) bd[k]).args.length cF, .int .i64 R.kept.length] 144)).ownsRow wd.heap.size 144 4 (.slice va L.length vc) L.length (flatT L)) := Lib.hid ((ownsRow_below HOW.out.own hbF).alloc _); clear hfF htF hbF)
                          | (at_builtin; refine wpList_append_opt _ rfl _ _ 139 rfl wd.heap.size 144 i0 zc 4 56 Try.underlying139 hi0 hz0 hz1 hz2 hz3 (by decide) _ L.length (flatT L) rfl HOWN.out (some ⟨w1.heap.size, 0, none⟩) 1 1 (by intro h; cases h) [.int .i64 (far ((B.length : Int) - 1) bd[k]).var, .string (far ((B.length : Int) - 1) bd[k]).name, .slice aF (far ((B.length : Int) - 1) bd[k]).args.length cF, .int .i64 R.kept.length] rfl rfl ?e1 ?e2 ?e3 ?e4 ?e5 ?_))
                        any_goals (first | exact four_cells _ _ _ _ _ _ | (intro u hu; simp only [List.mem_cons, List.not_mem_nil, or_false] at hu; rcases hu with rfl | rfl | rfl | rfl <;> rfl) | (unfold maxLen; omega) | omega | (have := HBW.out.size; have := HBF.out.size; simp; omega))
                        intro v2 w2 hown2 hg2 hf2
                        have hA : Below wr.heap.size wr (w1.alloc (.cells #[.int .i64 (far ((B.length : Int) - 1) bd[k]).var, .string (far ((B.length : Int) - 1) bd[k]).name, .slice aF (far ((B.length : Int) - 1) bd[k]).args.length cF, .int .i64 R.kept.length] 144)) := HBF.out.alloc HBF.out.size _
                        have hnew : OwnTd w2 wd.heap.size C4 v2 (L ++ [((far ((B.length : Int) - 1) bd[k], R.kept.length), aF, cF)]) := HOW.out.append (R := [((far ((B.length : Int) - 1) bd[k], R.kept.length), aF, cF)]) hA (TdEach.one HFF2.out ((HTF.out.keep (Keeps.below ((Below.refl _ _).alloc (Nat.le_refl _) _) _)).mono fun b hb hk' => by
                          have hs1 := HBF.out.size
                          rcases hk' with hk' | hk'
                          · exact ⟨⟨hb, hk'.1.2⟩, hk'.2⟩
                          · exact ⟨⟨hb, fun e => by have := HLT4.out b e; have := HBW.out.size; omega⟩, fun e => by have := (HOW.out.own.lt b e).2; omega⟩)) hown2 hg2 hf2
                        have HNEW := Lib.hid hnew
                        have HBN : Hid (Below wd.heap.size wd w2) := Lib.hid ((HBW.out.trans (hA.mono HBW.out.size)).trans ((Touch.grown (M := fun b => (Value.slice va L.length vc).ownBlock = some b) hg2 (fun k e => e)).toBelow (HBW.out.trans (hA.mono HBW.out.size)).size (fun b e => (HOW.out.own.lt b e).1)))
                        have HLM2 : Hid ((L ++ [((far ((B.length : Int) - 1) bd[k], R.kept.length), aF, cF)]).map (·.1) = bodyG ((B.length : Int) - 1) R.kept.length (bd.take (k + 1))) := Lib.hid (by
                          rw [List.map_append, HLM.out, List.take_succ_eq_append_getElem hkl]
                          unfold bodyG
                          rw [List.map_append]
                          rfl)
                        clear hA hnew hown2 hg2 hf2 hi0 hz0 hz1 hz2 hz3
                        go_wp2_with fail
                        go_roundg (bd.length - (k + 1))
                        case measure => have := HGL.out; omega
                        case rel => exact ⟨k + 1, _, Lib.hid rfl, by omega, by go_num, HNEW, HLM2, HBN⟩
                      · have hkk : k = bd.length := by omega
                        have hbelT : Below wr.heap.size wr wr := Below.refl _ _
                        have hrl : R.todo.length = rest.length + 1 := by rw [HTD.out]; simp
                        have HTODW : Hid (TdAt wr (OkC wd C4) ((t0, cut) :: rest) (some ⟨b0, off0, none⟩) tc) := Lib.hid (by have h := HTODO.out.keep (Keeps.below HBW.out _); simp only [HTD.out] at h; exact h)
                        have htcl : rest.length + 1 ≤ tc ∧ tc ≤ maxLen := by have := HTODW.out.room; simp only [List.length_cons] at this; omega
                        have hrl9 : rest.length ≤ 900000 := by have := HI.out.len; omega
                        have hml := htcl.2
                        unfold maxLen at hml
                        rw [hrl] at q3
                        have hrest1 : (1 : Int) ≤ ((rest.length + 1 : Nat) : Int) := by omega
                        have HRL := Lib.hid hrl
                        have HLM3 : Hid (L.map (·.1) = bodyG ((B.length : Int) - 1) R.kept.length bd) := Lib.hid (by rw [HLM.out, hkk, List.take_length])
                        obtain ⟨i0, zc, hi0, hz0, hz1, hz2, hz3⟩ := infoTd
                        obtain ⟨nl, hnl⟩ : ∃ nl, bodyG ((B.length : Int) - 1) R.kept.length bd ++ rest = nl := ⟨_, rfl⟩
                        have HNL := Lib.hid hnl
                        rw [hnl] at HDN
                        clear hrl hbelT hkk hnl
                        by_cases htc : tc = 1
                        ·
                          subst htc
                          obtain ⟨L2, hL2, hE2, hC2⟩ := (HTODW.out.tail (a' := some ⟨b0, off0, none⟩) (.inl ⟨List.eq_nil_of_length_eq_zero (by omega), rfl⟩)).open
                          have HL2 := Lib.hid hL2; have HE2 := Lib.hid hE2; have HC2 := Lib.hid hC2
                          have hL2l : L2.length = rest.length := by rw [← hL2, List.length_map]
                          have HLL2 := Lib.hid hL2l
                          have hr0 : rest.length = 0 := by omega
                          have HR0 := Lib.hid hr0
                          rw [hr0] at q3
                          clear hL2 hE2 hC2 hL2l htcl hr0 hrest1 hrl9
                          go_wp2_with (at_builtin; refine wpList_append_opt _ rfl _ _ 139 rfl wd.heap.size 144 i0 zc 4 56 Try.underlying139 hi0 hz0 hz1 hz2 hz3 (by decide) _ L.length (flatT L) rfl HOW.out.own (some ⟨b0, off0, none⟩) 0 0 (by intro h; cases h) (flatT L2) ?cx ?c1 HC2.out (flatT_one L2) (by unfold maxLen; omega) (by omega) HBW.out.size ?_)
                          case c1 => have h9 := flatT_length L2; rw [HLL2.out, HR0.out] at h9; exact List.eq_nil_of_length_eq_zero h9
                          intro v3 w3 hown3 hg3 hf3
                          obtain ⟨a9, cap9, rfl, htd9, hb9⟩ := HOW.out.finish HBW.out HLT4.out HLM3.out HL2.out HNL.out HE2.out (by rw [HR0.out]; exact hown3) hg3 hf3
                          have hr9 := HR4.out.below hb9
                          obtain ⟨ht10, C10, hs10, hr10⟩ := hr9.setTodo htd9
                          obtain ⟨z0, z1, z2, z3, z4, z5, z6, z7, z8, zf⟩ := hr9.cells
                          have HF10 : Hid (Turn w C _ C10) := Lib.hid (HTN4.out.trans ((Turn.below hb9).trans (Turn.mk ht10 hs10)))
                          have HR10 := Lib.hid hr10
                          clear hown3 hg3 hf3 htd9 hb9 hr9 ht10 hs10 hr10 hi0 hz0 hz1 hz2 hz3
                          go_wp2_with fail
                          go_ret
                          rw [HDN.out _ rfl]
                          exact TryPost.done HF10.out (f := f') rfl HR10.out
                        ·
                          obtain ⟨L2, hL2, hE2, hC2⟩ := (HTODW.out.tail (a' := some ⟨b0, off0 + 4, none⟩) (.inr rfl)).open
                          have HL2 := Lib.hid hL2; have HE2 := Lib.hid hE2; have HC2 := Lib.hid hC2
                          have hL2l : L2.length = rest.length := by rw [← hL2, List.length_map]
                          have HLL2 := Lib.hid hL2l
                          clear hL2 hE2 hC2 htcl hL2l
                          go_wp2_with (at_builtin; refine wpList_append_opt _ rfl _ _ 139 rfl wd.heap.size 144 i0 zc 4 56 Try.underlying139 hi0 hz0 hz1 hz2 hz3 (by decide) _ L.length (flatT L) rfl HOW.out.own (some ⟨b0, off0 + 4, none⟩) rest.length (tc - 1) (by intro h; cases h) (flatT L2) ?dx ?d1 HC2.out (flatT_one L2) (by unfold maxLen; omega) (by omega) HBW.out.size ?_)
                          case d1 => rw [flatT_length, HLL2.out]
                          intro v3 w3 hown3 hg3 hf3
                          obtain ⟨a9, cap9, rfl, htd9, hb9⟩ := HOW.out.finish HBW.out HLT4.out HLM3.out HL2.out HNL.out HE2.out hown3 hg3 hf3
                          have hr9 := HR4.out.below hb9
                          obtain ⟨ht10, C10, hs10, hr10⟩ := hr9.setTodo htd9
                          obtain ⟨z0, z1, z2, z3, z4, z5, z6, z7, z8, zf⟩ := hr9.cells
                          have HF10 : Hid (Turn w C _ C10) := Lib.hid (HTN4.out.trans ((Turn.below hb9).trans (Turn.mk ht10 hs10)))
                          have HR10 := Lib.hid hr10
                          clear hown3 hg3 hf3 htd9 hb9 hr9 ht10 hs10 hr10 hi0 hz0 hz1 hz2 hz3
                          go_wp2_with fail
                          go_ret
                          rw [HDN.out _ rfl]
                          exact TryPost.done HF10.out (f := f') rfl HR10.out
                | no σ' L' f' =>
                  obtain ⟨rfl, hr⟩ := hmet
                  have HR := Lib.hid hr
                  obtain ⟨q0, q1, q2, q3, q4, q5, q6, q7, q8, qf⟩ := hr.cells
                  have lxz := hr.xlt
                  clear hr
                  have HPR : Hid (rtry p R.todo t (j + 1) { R with f := f' } = rtry p R.todo t i R) := Lib.hid (by
                    rw [← HRE.out]
                    refine (rtry_go hlt (HFJ.out hlt) ?_).symm
                    unfold rclause; simp only; rw [HMO.out])
                  have HFF : Hid (f' ≤ 4000) := Lib.hid (by
                    have := meetR_left f R.τ [(far ((R.n : Int) - 1) p[j].head, t)]
                    rw [HMO.out] at this
                    have := HF4.out; simp only [leftM] at *; omega)
                  have hn2 := nextF_ge p t (p.length - (j + 1)) (j + 1) rfl
                  have HN2 := Lib.hid hn2
                  have HOWN : Hid ((wz.alloc (.cells #[] 24)).ownsRow wz.heap.size 24 3 (.slice (some ⟨wz.heap.size, 0, none⟩) 0 0) 0 []) := Lib.hid (World.ownsRow_lit (base := wz.heap.size) (e := 24) (size := 3) wz #[] 0 (Nat.le_refl _) (Nat.zero_le _) rfl)
                  have hbA : Below wz.heap.size wz (wz.alloc (.cells #[] 24)) := (Below.refl _ _).alloc (Nat.le_refl _) _
                  have HBA := Lib.hid hbA
                  have HNEWS : Hid (∀ j u, (flat B)[j]? = some u → (wz.alloc (.cells #[] 24)).cell? ((⟨gw, 0, none⟩ : Addr).add j) = some u) := Lib.hid (fun j u hu => by
                    have hj : j < B.length * 3 := by rw [← flat_length]; exact (List.getElem?_eq_some_iff.1 hu).1
                    rw [addr_add]
                    exact (HBA.out.cell (p := ⟨gw, 0 + j, none⟩) (HWC.out.row.lt gw rfl).2).trans (by rw [Nat.zero_add, HWC.out.row.cellAt j hj, hu]))
                  have HLEN : Hid ((flat B).length = B.length * 3) := Lib.hid (flat_length B)
                  obtain ⟨i0, hi0, hz0, hz1, hz2⟩ := info_parts Try.infoTm
                  clear hbA hn2
                  go_wp2_with (at_builtin; refine wpList_append_opt _ rfl _ _ 22 rfl wz.heap.size 24 i0 _ 3 48 Try.underlying22 hi0 hz0 hz1 hz2 rfl (by decide) _ 0 [] rfl HOWN.out (some ⟨gw, 0, none⟩) B.length capw (by intro h; cases h) (flat B) rfl HLEN.out (by rintro ad ⟨⟩; exact HNEWS.out) (flat_one B) (by unfold maxLen; omega) (by omega) (by simp) ?_)
                  intro v6 w6 hown6 hg6 hf6
                  have hown7 : w6.ownsRow wz.heap.size 24 3 v6 B.length (flat B) := by simpa using hown6
                  have hbel : Below wz.heap.size wz w6 := HBA.out.trans ((Touch.grown (M := fun b => b = wz.heap.size) hg6 (fun k e => by simpa [Value.ownBlock] using e.symm)).toBelow HBA.out.size (fun b e => by omega))
                  obtain ⟨g7, cap7, rfl⟩ := own_shape hown7 HB1.out
                  obtain ⟨ht7, C7, hs7, hr7⟩ := HR.out.setBy hbel hown7 HWC.out.each H.out.fb (f' := f')
                  have hq4 := (hbel.cell (p := ⟨xs, 1, none⟩) lxz).trans q1
                  have hqf : ∀ o, w6.frozen? ⟨xs, o, none⟩ = false := fun o => (hbel.frozen (p := ⟨xs, o, none⟩) lxz).trans (qf o)
                  have HR7 : Hid (RSAt (w6.setCell ⟨xs, 1, none⟩ (.slice (some ⟨g7, 0, none⟩) B.length cap7)) xs C7 (.slice (some ⟨g7, 0, none⟩) B.length cap7) kv av (some ⟨bp, off, none⟩) (some ⟨b0, off0, none⟩) pc tc p query { R with f := f' } B (4000 - f')) := Lib.hid (hr7.plain H.out.tau.symm H.out.n.symm rfl rfl rfl rfl rfl)
                  have HT7 : Hid (Turn wz C3 (w6.setCell ⟨xs, 1, none⟩ (.slice (some ⟨g7, 0, none⟩) B.length cap7)) C7) := Lib.hid ⟨ht7, hs7⟩
                  clear hown6 hg6 hf6 hown7 hbel ht7 hs7 hr7 HOWN HBA HNEWS HLEN hi0 hz0 hz1 hz2
                  have HLT := Lib.hid hlt
                  go_wp2_with fail
                  go_roundg (p.length - nextF p t (j + 1))
                  case measure => have := HN2.out.1; have := HLT.out; have := HGK.out; omega
                  case rel => exact ⟨nextF p t (j + 1), f', C7, .slice (some ⟨g7, 0, none⟩) B.length cap7, Lib.hid rfl, HN2.out.2 (by have := HLT.out; omega), rfl, Lib.hid (fun hj => nextF_is p t (p.length - (j + 1)) (j + 1) rfl hj), HFF, HR7, Lib.hid ⟨(HTNP.out.trans HT7.out).touch, (HTNP.out.trans HT7.out).same⟩, Lib.hid (by rw [← HPR.out]; exact (rtry_next (p.length - (j + 1)) (j + 1) rfl).symm)⟩
                | many σ' L' =>
                  obtain ⟨rfl, hr⟩ := hmet
                  obtain ⟨q0, q1, q2, q3, q4, q5, q6, q7, q8, qf⟩ := hr.cells
                  obtain ⟨ht4, C4, hs4, hr4⟩ := hr.setFin 3
                  have HR4 := Lib.hid hr4; have HT4 := Lib.hid ((Turn.mk ht4 hs4 : Turn wz C3 _ C4))
                  clear hr ht4 hs4 hr4
                  have HPR : Hid (rtry p R.todo t i R = ({ R with f := 0, fin := 3 }, true)) := Lib.hid (by
                    rw [← HRE.out]
                    refine rtry_done hlt (HFJ.out hlt) ?_
                    unfold rclause; simp only; rw [HMO.out])
                  go_wp2_with fail
                  go_ret
                  rw [HPR.out]
                  exact ⟨rfl, (HTN.out.trans HT4.out).touch, C4, (HTN.out.trans HT4.out).same, _, kv, _, tc, { R with τ := σ', n := B.length + 12, f := f, fin := 3 }, B3, 4001, ⟨rfl, rfl, rfl, fun e => by cases e⟩, HR4.out, fun e => by cases e⟩
          · have HST : Hid (rtry p R.todo t i R = ({ R with f := f }, false)) := Lib.hid (by rw [← HRE.out]; exact rtry_stop hlt)
            go_wp2_with fail
            go_ret
            rw [HST.out]
            exact ⟨rfl, (Touch.below HBX.out).trans (touchC_next ((Touch.below HB6.out).trans HTR.out.1) (SameC.refl _ _) (Touch.refl _ _)), Cj, ((SameC.refl _ _ : SameC w C C).trans (SameC.refl wq C) HBX.out.size |>.trans HTR.out.2 (Nat.le_trans HBX.out.size HB6.out.size)), bvj, kv, _, tc, { R with f := f }, B, 4000 - f, REq.refl _, HSR.out, fun _ => rfl⟩

end Go.Proofs.Ytikmgiapjigghaa.Emb

/- Walk: Back of the reference's search. -/
namespace Go.Proofs.Ytikmgiapjigghaa.Emb
open Go.RowKit Go.Proofs.Ytikmgiapjigghaa

/-- What a turn of the reference's search leaves. -/
def BkRPost (w : World) (xs : Nat) (C : Nat → Prop) (pa : Option Addr) (pc : Nat) (p : List Cl) (query : Nat) (R : RS) (e : Ending) (w' : World) : Prop :=
  (∃ v, e = .returned v) ∧ Touch C w w' ∧ ∃ C', SameC w C C' ∧ ∃ (bv' kv' av' : Value) (ta' : Option Addr) (tc' : Nat) (R' : RS) (B' : List TmAt) (wk' : Nat), REq R R' ∧ RSAt w' xs C' bv' kv' av' pa ta' pc tc' p query R' B' wk'

/-- The last choice, in memory. -/
theorem RSAt.last {w : World} {xs : Nat} {C : Nat → Prop} {bv kv av : Value} {pa ta : Option Addr} {pc tc : Nat} {p : List Cl} {query : Nat} {R : RS} {B : List TmAt} {wk : Nat} (h : RSAt w xs C bv kv av pa ta pc tc p query R B wk) {n : Nat} (hn : R.kept.length = n + 1) :
    ∃ (g cap : Nat) (k : KEnt), kv = .slice (some ⟨g, 0, none⟩) (n + 1) cap ∧ n + 1 ≤ cap ∧ cap ≤ 9223372036854775807 ∧ (∀ o, w.frozen? ⟨g, o, none⟩ = false) ∧ R.kept[n]? = some k.ch ∧ KAt w (OkC w C) k ∧
      w.cell? ⟨g, n * 3, none⟩ = some (.slice k.ba k.B.length k.bc) ∧ w.cell? ⟨g, n * 3 + 1, none⟩ = some (.slice k.ta k.todo.length k.tc) ∧ w.cell? ⟨g, n * 3 + 2, none⟩ = some (.int .i64 k.cl) := by
  obtain ⟨K, k1, k2, k3⟩ := h.kept
  have hl : K.length = n + 1 := by rw [← hn, ← k1, List.length_map]
  have hn' : n < K.length := by omega
  obtain ⟨h1, h2, h3⟩ := flatK_at K n hn'
  have hfl := flatK_length K
  obtain ⟨g, cap, hg⟩ := own_shape k2 (by omega)
  subst hg
  have hcap : K.length ≤ cap ∧ cap ≤ maxLen := by
    rcases k2.2 with ⟨e, _⟩ | ⟨g', cap', cur, e, _, _, h1, h2, _⟩
    · cases e
    · simp only [Value.slice.injEq, Option.some.injEq, Addr.mk.injEq] at e
      obtain ⟨-, -, rfl⟩ := e
      exact ⟨h1, h2⟩
  unfold maxLen at hcap
  refine ⟨g, cap, K[n], by rw [hl], by omega, by omega, fun o => k2.frozenAt o, ?_, k3 _ (List.getElem_mem hn'), ?_, ?_, ?_⟩
  · rw [← k1, List.getElem?_map, List.getElem?_eq_getElem hn']; rfl
  · exact (k2.cellAt _ (by omega)).trans h1
  · exact (k2.cellAt _ (by omega)).trans h2
  · exact (k2.cellAt _ (by omega)).trans h3

/-- What Back needs of the search. -/
structure BI (p : List Cl) (R : RS) : Prop where
  kept : ∀ c, c ∈ R.kept → KI p R.steps c
  kl : R.kept.length ≤ R.steps
  st : R.steps ≤ 400
  fin : R.fin = 0

/-- What Try needs, of a choice that is taken. -/
theorem BI.call {p : List Cl} {R : RS} (h : BI p R) {n : Nat} (hn : R.kept.length = n + 1) {c : RCh} (hc : R.kept[n]? = some c) (hl : ∀ t, Fit c.n t → Fit c.n (look c.τ t)) :
    TInv p c.todo (look c.τ (headT c.todo)) { R with kept := R.kept.take n, τ := c.τ, n := c.n, f := 4000, todo := c.todo } := by
  have hm : c ∈ R.kept := List.mem_of_getElem? hc
  have hk := h.kept c hm
  have hst := h.st
  have hlen := hk.len
  have hnn := hk.n
  refine ⟨hk.ne, rfl, hl _ (fit_headT hk.ne hk.td), hk.td, by simp only; omega, Nat.le_refl _, ?_, by omega, h.fin⟩
  have := h.kl
  simp only [List.length_take]; omega

set_option maxRecDepth 100000 in
set_option maxHeartbeats 20000000 in
theorem BackW {p : List Cl} (hp : POk p) (hsz : ∀ c, c ∈ p → c.head.size ≤ 100000 ∧ ∀ b, b ∈ c.body → b.size ≤ 100000) (h6 : Bd6 p) {w : World} {xs : Nat} {C : Nat → Prop} {bv kv av : Value} {pa ta : Option Addr} {pc tc : Nat} {query : Nat} {R : RS} {B : List TmAt} {wk : Nat} (h : RSAt w xs C bv kv av pa ta pc tc p query R B wk) (hb : BI p R) :
    Calls Try.prog 114 #[.pointer (some ⟨xs, 0, none⟩)] w (BkRPost w xs C pa pc p query (rback p R.kept.length R)) := by
  have H := Lib.hid h; have HP := Lib.hid hp; have HSZ := Lib.hid hsz; have H6 := Lib.hid h6; have HB := Lib.hid hb
  clear h hp hsz h6 hb
  go_enter Try.func114, Try.ntmps114
  go_wp2_with fail
  go_loopg [] R.kept.length (fun k wr => ∃ (S : RS) (td : List Goal) (Cj : Nat → Prop) (bvj kvj : Value) (taj : Option Addr) (tcj : Nat) (Bj : List TmAt) (wkj : Nat), k = S.kept.length ∧ Hid (RSAt wr xs Cj bvj kvj av pa taj pc tcj p query { S with todo := td } Bj wkj) ∧ Hid (Turn w C wr Cj) ∧ Hid (BI p S) ∧ Hid (rback p S.kept.length S = rback p R.kept.length R))
  case atStart => exact ⟨R, R.todo, C, bv, kv, ta, tc, B, wk, rfl, H, Lib.hid (Turn.refl _ _), HB, Lib.hid rfl⟩
  case round =>
    obtain ⟨S, td, Cj, bvj, kvj, taj, tcj, Bj, wkj, hk, HSJ, HTJ, HBJ, HEJ⟩ := hrel
    obtain ⟨q0, q1, q2, q3, q4, q5, q6, q7, q8, qf⟩ := HSJ.out.cells
    have lxs := HSJ.out.xlt
    cases gk with
    | zero =>
      obtain ⟨ka, kc, rfl⟩ : ∃ ka kc, kvj = .slice ka 0 kc := by
        obtain ⟨K, hK, hr, _⟩ := HSJ.out.kept
        obtain ⟨ca, cc, e, _⟩ := row_form hr
        have : K.length = 0 := by rw [← List.length_map (f := KEnt.ch), hK]; exact hk.symm
        exact ⟨ca, cc, by rw [e, this]⟩
      have HE1 : Hid (rback p R.kept.length R = { S with fin := 1 }) := Lib.hid (by rw [← HEJ.out, ← hk]; rfl)
      obtain ⟨ht1, C1, hs1, hr1⟩ := HSJ.out.setFin 1
      have HR1 := Lib.hid hr1; have HT1 := Lib.hid (Turn.mk ht1 hs1 : Turn wr Cj _ C1)
      clear hk ht1 hs1 hr1
      go_wp2_with fail
      refine bodyPost_ret (v := .tuple #[]) (by simp [results, Try.results114, go_sem]) rfl ?_
      rw [HE1.out]
      exact ⟨⟨_, rfl⟩, (HTJ.out.trans HT1.out).touch, C1, (HTJ.out.trans HT1.out).same, _, _, _, _, _, { S with fin := 1, todo := td }, _, _, ⟨rfl, rfl, rfl, fun e => by cases e⟩, HR1.out⟩
    | succ n =>
      have hkn : S.kept.length = n + 1 := hk.symm
      obtain ⟨g, cap, k, hkv, hcap1, hcap2, hgf, hget, hkat, g0, g1, g2⟩ := HSJ.out.last (n := n) hkn
      subst hkv
      have HKAT := Lib.hid hkat; have HGET := Lib.hid hget; have HKN := Lib.hid hkn
      have hn0 : (0 : Int) ≤ (n : Int) := by omega
      have hcapi : (n : Int) ≤ (cap : Int) := by omega
      have hnn : (n : Int) < ((n + 1 : Nat) : Int) := by omega
      have hlp : (0 : Int) < ((n + 1 : Nat) : Int) := by omega
      have hsub : (((n + 1 : Nat) : Int) - 1) = (n : Int) := by omega
      have hm64 : n + 1 ≤ 9223372036854775807 := by omega
      have lgg : g < wr.heap.size := HSJ.out.lt g (HSJ.out.col g (.inr (.inr (.inl rfl))))
      clear hk hkn hkat hget
      go_upto_region 1 with fail
      go_cut [2] (fun v2 wx => ∃ b2, v2 = .pointer (some ⟨b2, 0, none⟩) ∧ wr.heap.size ≤ b2 ∧ wx.heap[b2]? = some (.cells #[.slice k.ba k.B.length k.bc, .slice k.ta k.todo.length k.tc, .int .i64 k.cl] 191 (0, 0)) ∧ Below wr.heap.size wr wx)
      case first =>
        go_region
        all_goals
          go_wp2_with fail
          go_meet
          exact ⟨_, rfl, Nat.le_refl _, heap_alloc_new _ _, ((Below.refl _ _).drew).alloc (Nat.le_refl _) _⟩
      case rest =>
        obtain ⟨b2, rfl, hb2, hbx, hbl⟩ := hcut
        have HSA := Lib.hid (HSJ.out.below hbl)
        have HBX := Lib.hid hbx
        have HTA : Hid (Turn wr Cj wc Cj) := Lib.hid (Turn.below hbl)
        have HN2 : Hid (¬ Cj b2) := Lib.hid (fun e => by have := HSJ.out.lt _ e; omega)
        clear hbx hbl q0 q1 q2 q3 q4 q5 q6 q7 q8 qf g0 g1 g2 hgf
        generalize wc = wa at *
        obtain ⟨q0, q1, q2, q3, q4, q5, q6, q7, q8, qf⟩ := HSA.out.cells
        go_upto_region 2 with fail
        go_cut [] (fun wx => ∃ u, Below wa.heap.size wa u ∧ wx = u.setCell ⟨xs, 4, none⟩ (.slice (some ⟨g, 0, none⟩) n cap))
        case first =>
          go_region
          all_goals
            go_wp2_with fail
            go_meet
            exact ⟨_, (Below.refl _ _).drew, rfl⟩
        case rest =>
          obtain ⟨u, hu, rfl⟩ := hcut
          obtain ⟨htc, Cb, hsc, hrc⟩ := (HSA.out.below hu).cut (k := n) (by simp only; rw [HKN.out]; omega)
          have hcv : cutV (.slice (some ⟨g, 0, none⟩) (n + 1) cap) n = .slice (some ⟨g, 0, none⟩) n cap := rfl
          rw [hcv] at htc hrc
          have HSB := Lib.hid hrc
          have HTB : Hid (Turn wr Cj (u.setCell ⟨xs, 4, none⟩ (.slice (some ⟨g, 0, none⟩) n cap)) Cb) := Lib.hid (HTA.out.trans ((Turn.below hu).trans (Turn.mk htc hsc)))
          have hta : Turn wa Cj (u.setCell ⟨xs, 4, none⟩ (.slice (some ⟨g, 0, none⟩) n cap)) Cb := (Turn.below hu).trans (Turn.mk htc hsc)
          have hl2 := (Array.getElem?_eq_some_iff.1 HBX.out).1
          have HNB : Hid (¬ Cb b2) := Lib.hid (fun e => HN2.out ((hta.same b2 hl2).1 e))
          have HBY := Lib.hid ((hta.touch.block b2 hl2 HN2.out).trans HBX.out)
          clear hu htc hsc hrc hcv hta hl2 q0 q1 q2 q3 q4 q5 q6 q7 q8 qf HSA HBX
          generalize u.setCell ⟨xs, 4, none⟩ (.slice (some ⟨g, 0, none⟩) n cap) = wb at *
          obtain ⟨q0, q1, q2, q3, q4, q5, q6, q7, q8, qf⟩ := HSB.out.cells
          have hby := HBY.out
          have y0 : wb.cell? ⟨b2, 0, none⟩ = some (.slice k.ba k.B.length k.bc) := by simp [World.cell?, hby]
          have y1 : wb.cell? ⟨b2, 1, none⟩ = some (.slice k.ta k.todo.length k.tc) := by simp [World.cell?, hby]
          have y2 : wb.cell? ⟨b2, 2, none⟩ = some (.int .i64 k.cl) := by simp [World.cell?, hby]
          have lb2 : b2 < wb.heap.size := (Array.getElem?_eq_some_iff.1 hby).1
          have lxb := HSB.out.xlt
          have HKB : Hid (KAt wb (OkC wb Cb) k) := Lib.hid (HKAT.out.next (Touch.keepsC HTB.out.touch) fun b hb => OkC.next HTB.out.touch.size HTB.out.same hb)
          clear hby
          obtain ⟨L, hL, hLe, hLc⟩ := HKB.out.2.1.open
          have hki := HBJ.out.kept k.ch (List.mem_of_getElem? HGET.out)
          have hkn1 : 13 ≤ k.B.length := hki.n.1
          have hkn2 : k.B.length ≤ 900000 := by have := hki.n.2; have := HBJ.out.st; have e : k.ch.n = k.B.length := rfl; omega
          obtain ⟨adb, hba⟩ := HKB.out.2.1.some (by omega)
          have HKI := Lib.hid hki
          have hLl : L.length = k.B.length := by rw [← hL, List.length_map]
          have HLL := Lib.hid hLl; have HLB := Lib.hid hL; have HLE := Lib.hid hLe
          have HOWN : Hid ((wb.alloc (.cells #[] 24)).ownsRow wb.heap.size 24 3 (.slice (some ⟨wb.heap.size, 0, none⟩) 0 0) 0 []) := Lib.hid (World.ownsRow_lit (base := wb.heap.size) (e := 24) (size := 3) wb #[] 0 (Nat.le_refl _) (Nat.zero_le _) rfl)
          have hbA : Below wb.heap.size wb (wb.alloc (.cells #[] 24)) := (Below.refl _ _).alloc (Nat.le_refl _) _
          have HBA := Lib.hid hbA
          have HNEWS : Hid (∀ j u, (flat L)[j]? = some u → (wb.alloc (.cells #[] 24)).cell? (adb.add j) = some u) := Lib.hid (fun j u hu => by
            have h1 := hLc adb hba j u hu
            exact (HBA.out.cell (p := adb.add j) (World.block_lt_of_cell? wb _ h1)).trans h1)
          have HLEN : Hid ((flat L).length = k.B.length * 3) := Lib.hid (by rw [flat_length, hLl])
          obtain ⟨i0, hi0, hz0, hz1, hz2⟩ := info_parts Try.infoTm
          rw [hba] at y0
          clear hL hLe hLc hki hLl hbA hba
          go_wp2_with (at_builtin; refine wpList_append_opt _ rfl _ _ 22 rfl wb.heap.size 24 i0 _ 3 48 Try.underlying22 hi0 hz0 hz1 hz2 rfl (by decide) _ 0 [] rfl HOWN.out (some adb) k.B.length k.bc (by intro h; cases h) (flat L) rfl HLEN.out (by rintro ad ⟨⟩; exact HNEWS.out) (flat_one L) (by unfold maxLen; omega) (by omega) (by simp) ?_)
          intro v6 w6 hown6 hg6 hf6
          have hown7 : w6.ownsRow wb.heap.size 24 3 v6 L.length (flat L) := by rw [HLL.out]; simpa using hown6
          have hbel : Below wb.heap.size wb w6 := HBA.out.trans ((Touch.grown (M := fun b => b = wb.heap.size) hg6 (fun k e => by simpa [Value.ownBlock] using e.symm)).toBelow HBA.out.size (fun b e => by omega))
          obtain ⟨g7, cap7, hv6⟩ := own_shape hown7 (by rw [HLL.out]; omega)
          rw [HLL.out] at hv6
          subst hv6
          obtain ⟨ht7, C7, hs7, hr7⟩ := HSB.out.setBy hbel hown7 HLE.out (by rw [HLB.out]; exact HKB.out.1) (f' := 4000)
          obtain ⟨ht8, C8, hs8, hr8⟩ := hr7.setWork 0
          have htn8 : Turn wb Cb ((w6.setCell ⟨xs, 1, none⟩ (.slice (some ⟨g7, 0, none⟩) k.B.length cap7)).setCell ⟨xs, 2, none⟩ (.int .i64 0)) C8 := (Turn.mk ht7 hs7).trans (Turn.mk ht8 hs8)
          have HR8 : Hid (RSAt ((w6.setCell ⟨xs, 1, none⟩ (.slice (some ⟨g7, 0, none⟩) k.B.length cap7)).setCell ⟨xs, 2, none⟩ (.int .i64 0)) xs C8 (.slice (some ⟨g7, 0, none⟩) k.B.length cap7) (.slice (some ⟨g, 0, none⟩) n cap) av pa taj pc tcj p query { S with kept := S.kept.take n, τ := subB k.B, n := k.B.length, f := 4000, todo := td } L 0) := Lib.hid (hr8.plain (by rw [HLB.out]) HLL.out.symm rfl rfl rfl rfl rfl)
          have hne : b2 ≠ xs := fun e => HNB.out (HSB.out.col b2 (.inl e))
          obtain ⟨v0, v1, v2, v3, v4, v5, v6', v7, v8, vf⟩ := (HSB.out.below hbel).cells
          have HTN8 := Lib.hid htn8
          have HBZ := Lib.hid ((htn8.touch.block b2 lb2 HNB.out).trans HBY.out)
          have HNZ : Hid (¬ C8 b2) := Lib.hid (fun e => HNB.out ((htn8.same b2 lb2).1 e))
          have HKZ : Hid (KAt ((w6.setCell ⟨xs, 1, none⟩ (.slice (some ⟨g7, 0, none⟩) k.B.length cap7)).setCell ⟨xs, 2, none⟩ (.int .i64 0)) (OkC _ C8) k) := Lib.hid (HKB.out.next (Touch.keepsC htn8.touch) fun b hb => OkC.next htn8.touch.size htn8.same hb)
          have HNE := Lib.hid hne
          clear hown6 hg6 hf6 hown7 hbel ht7 hs7 hr7 ht8 hs8 hr8 htn8 hne HOWN HBA HNEWS HLEN hi0 hz0 hz1 hz2 q0 q1 q2 q3 q4 q5 q6 q7 q8 qf y0 y1 y2 HSB HBY
          go_upto_region 4 with fail
          generalize ((w6.setCell ⟨xs, 1, none⟩ (.slice (some ⟨g7, 0, none⟩) k.B.length cap7)).setCell ⟨xs, 2, none⟩ (.int .i64 0)) = w8 at *
          clear v0 v1 v2 v3 v4 v5 v6' v7 v8 vf
          obtain ⟨q0, q1, q2, q3, q4, q5, q6, q7, q8, qf⟩ := HR8.out.cells
          have hby := HBZ.out
          have y1 : w8.cell? ⟨b2, 1, none⟩ = some (.slice k.ta k.todo.length k.tc) := by simp [World.cell?, hby]
          have y2 : w8.cell? ⟨b2, 2, none⟩ = some (.int .i64 k.cl) := by simp [World.cell?, hby]
          have lb8 : b2 < w8.heap.size := (Array.getElem?_eq_some_iff.1 hby).1
          obtain ⟨ht9, C9, hs9, hr9⟩ := HR8.out.setTodo HKZ.out.2.2
          have HT9 : Hid (Turn w8 C8 _ C9) := Lib.hid (Turn.mk ht9 hs9)
          have HR9 : Hid (RSAt (w8.setCell ⟨xs, 3, none⟩ (.slice k.ta k.todo.length k.tc)) xs C9 (.slice (some ⟨g7, 0, none⟩) k.B.length cap7) (.slice (some ⟨g, 0, none⟩) n cap) av pa k.ta pc k.tc p query { S with kept := S.kept.take n, τ := subB k.B, n := k.B.length, f := 4000, todo := k.todo } L 0) := Lib.hid hr9
          have HBW := Lib.hid ((ht9.block b2 lb8 HNZ.out).trans HBZ.out)
          clear hby ht9 hs9 hr9
          go_upto_region 5 with fail
          generalize (w8.setCell ⟨xs, 3, none⟩ (.slice k.ta k.todo.length k.tc)) = w9 at *
          clear q0 q1 q2 q3 q4 q5 q6 q7 q8 qf y1 y2
          have hby := HBW.out
          have y2 : w9.cell? ⟨b2, 2, none⟩ = some (.int .i64 k.cl) := by simp [World.cell?, hby]
          clear hby
          have HTI := Lib.hid (HBJ.out.call HKN.out HGET.out (fun t ht => by
            have h1 : FB k.B := HKB.out.1
            exact h1.look ht))
          have HTW : Hid (Calls Try.prog 115 #[.pointer (some ⟨xs, 0, none⟩), .int .i64 k.cl] w9 (TryPost w9 xs C9 av pa pc p query (rtry p k.todo (look (subB k.B) (headT k.todo)) k.cl { S with kept := S.kept.take n, τ := subB k.B, n := k.B.length, f := 4000, todo := k.todo }))) := Lib.hid (TryW HP.out HSZ.out (fun c hc => by have := H6.out c hc; omega) HR9.out HTI.out (i := k.cl) HKI.out.cl)
          have HTT : Hid (Turn w C w9 C9) := Lib.hid (HTJ.out.trans (HTB.out.trans (HTN8.out.trans HT9.out)))
          have HRB : Hid (∀ r, rtry p k.todo (look (subB k.B) (headT k.todo)) k.cl { S with kept := S.kept.take n, τ := subB k.B, n := k.B.length, f := 4000 } = r → rback p R.kept.length R = if r.2 = true then r.1 else rback p n r.1) := Lib.hid (fun r hr => by
            rw [← HEJ.out, HKN.out]
            simp only [rback]
            rw [HGET.out]
            simp only
            have e1 : k.ch.todo = k.todo := rfl
            have e2 : k.ch.τ = subB k.B := rfl
            have e3 : k.ch.cl = k.cl := rfl
            have e4 : k.ch.n = k.B.length := rfl
            rw [e1, e2, e3, e4, hr])
          have hcs := rtry_both p k.todo (look (subB k.B) (headT k.todo)) k.todo (p.length - k.cl) k.cl { S with kept := S.kept.take n, τ := subB k.B, n := k.B.length, f := 4000 } rfl
          have hfin := HBJ.out.fin
          have HF0 := Lib.hid hfin
          have hnl : (S.kept.take n).length = n := by rw [List.length_take, HKN.out]; omega
          have HNL := Lib.hid hnl
          clear hfin hnl
          rcases hcs with ⟨f, h1, h2, hf⟩ | ⟨h1, h2⟩ | ⟨τ, f, j, hj, h1, h2, hf⟩
          · simp only at h2
            rw [h2] at HTW
            have HB1 := Lib.hid (HRB.out _ h1)
            clear h1 h2
            go_wp2_with (go_at_call 115; refine HTW.out.mono ?_; rintro e wk2 ⟨rfl, htk, Ck, hsk, bvk, kvk, tak, tck, Rk, Bk, wkk, hre, hrk, -⟩; have HTK := Lib.hid (Turn.mk htk hsk : Turn w9 C9 wk2 Ck); have HRK := Lib.hid hrk; have HRE := Lib.hid hre; clear htk hsk hre hrk)
            have hrk2 := HRE.out.2.2.2 HF0.out
            have HRK2 : Hid (RSAt wk2 xs Ck bvk kvk av pa tak pc tck p query { S with kept := S.kept.take n, τ := subB k.B, n := k.B.length, f := f, todo := k.todo } Bk wkk) := Lib.hid (by have h := HRK.out; rw [hrk2] at h; exact h)
            clear hrk2
            go_roundg n
            case measure => omega
            case rel => exact ⟨{ S with kept := S.kept.take n, τ := subB k.B, n := k.B.length, f := f }, k.todo, Ck, bvk, kvk, tak, tck, Bk, wkk, HNL.out.symm, HRK2, Lib.hid (HTT.out.trans HTK.out), Lib.hid ⟨fun c hc => HBJ.out.kept c (List.mem_of_mem_take hc), by have := HBJ.out.kl; have := HKN.out; simp only [HNL.out]; omega, HBJ.out.st, HF0.out⟩, Lib.hid (by simp only [HNL.out]; rw [HB1.out]; rfl)⟩
          · simp only at h2
            rw [h2] at HTW
            have HB1 := Lib.hid (HRB.out _ h1)
            clear h1 h2
            go_wp2_with (go_at_call 115; refine HTW.out.mono ?_; rintro e wk2 ⟨rfl, htk, Ck, hsk, bvk, kvk, tak, tck, Rk, Bk, wkk, hre, hrk, -⟩; have HTK := Lib.hid (Turn.mk htk hsk : Turn w9 C9 wk2 Ck); have HRK := Lib.hid hrk; have HRE := Lib.hid hre; clear htk hsk hre hrk)
            refine bodyPost_ret (v := .tuple #[]) (by simp [results, Try.results114, go_sem]) rfl ?_
            rw [HB1.out]
            exact ⟨⟨_, rfl⟩, (HTT.out.trans HTK.out).touch, Ck, (HTT.out.trans HTK.out).same, bvk, kvk, av, tak, tck, Rk, Bk, wkk, ⟨HRE.out.1, HRE.out.2.1, HRE.out.2.2.1, fun e => by cases e⟩, HRK.out⟩
          · simp only at h2
            rw [h2] at HTW
            have HB1 := Lib.hid (HRB.out _ h1)
            clear h1 h2
            go_wp2_with (go_at_call 115; refine HTW.out.mono ?_; rintro e wk2 ⟨rfl, htk, Ck, hsk, bvk, kvk, tak, tck, Rk, Bk, wkk, hre, hrk, -⟩; have HTK := Lib.hid (Turn.mk htk hsk : Turn w9 C9 wk2 Ck); have HRK := Lib.hid hrk; have HRE := Lib.hid hre; clear htk hsk hre hrk)
            refine bodyPost_ret (v := .tuple #[]) (by simp [results, Try.results114, go_sem]) rfl ?_
            rw [HB1.out]
            exact ⟨⟨_, rfl⟩, (HTT.out.trans HTK.out).touch, Ck, (HTT.out.trans HTK.out).same, bvk, kvk, av, tak, tck, Rk, Bk, wkk, HRE.out, HRK.out⟩

end Go.Proofs.Ytikmgiapjigghaa.Emb

/- Plain: the reference's search stays in bounds. -/
namespace Go.Proofs.Ytikmgiapjigghaa.Emb
open Go.RowKit Go.Proofs.Ytikmgiapjigghaa

/-- What a turn keeps: it ended, or is in bounds. -/
structure Next (p : List Cl) (R R' : RS) (d : Nat) : Prop where
  run : R'.fin = 0 → RI p R'
  steps : R'.steps = R.steps + d
  ans : R'.ans = R.ans

theorem rback_next {p : List Cl} (hp : POk p) (h6 : Bd6 p) : ∀ (n : Nat) (S : RS), S.kept.length = n → BI p S → Next p S (rback p n S) 0 := by
  intro n
  induction n with
  | zero => intro S _ _; exact ⟨(fun e => by cases e), rfl, rfl⟩
  | succ n ih =>
    intro S hn hb
    have hlt : n < S.kept.length := by omega
    have hg : S.kept[n]? = some S.kept[n] := List.getElem?_eq_getElem hlt
    have hk := hb.kept _ (List.getElem_mem hlt)
    have hl : (S.kept.take n).length = n := by rw [List.length_take]; omega
    simp only [rback, hg]
    rcases rtry_cases p S.kept[n].todo (look S.kept[n].τ (headT S.kept[n].todo)) (p.length - S.kept[n].cl) S.kept[n].cl { S with kept := S.kept.take n, τ := S.kept[n].τ, n := S.kept[n].n, f := 4000 } rfl with ⟨f, h1, h2⟩ | h1 | ⟨τ, f, j, hj, h1, h2⟩
    · rw [h1]
      have h3 := ih { S with kept := S.kept.take n, τ := S.kept[n].τ, n := S.kept[n].n, f := f } hl ⟨fun c hc => hb.kept c (List.mem_of_mem_take hc), by have := hb.kl; simp only; omega, hb.st, hb.fin⟩
      exact ⟨h3.run, h3.steps, h3.ans⟩
    · rw [h1]
      exact ⟨(fun e => by cases e), rfl, rfl⟩
    · rw [h1]
      refine ⟨fun _ => ?_, rfl, rfl⟩
      exact went_inv hp h6 (S := { S with kept := S.kept.take n, τ := S.kept[n].τ, n := S.kept[n].n, f := 4000 }) hk.ne hk.td hk.n hk.len (fun c hc => hb.kept c (List.mem_of_mem_take hc)) (by have := hb.kl; simp only; omega) hj h2

theorem KI.up {p : List Cl} {m m' : Nat} {c : RCh} (h : KI p m c) (hm : m ≤ m') : KI p m' c := ⟨h.ne, h.td, ⟨h.n.1, by have := h.n; omega⟩, by have := h.len; omega, h.cl⟩

theorem tail_inv {p : List Cl} {S : RS} (h : RI p S) {τ : Sub} {f k : Nat} (hf : f ≤ 4000) : RI p { S with τ := τ, steps := S.steps + 1, f := f, kept := S.kept.take k, todo := S.todo.tail } :=
  ⟨fun g hg => h.td g (List.mem_of_mem_tail hg), by have := h.n; simp only; omega, by have := h.len; simp only [List.length_tail]; omega, fun c hc => (h.kept c (List.mem_of_mem_take hc)).up (by simp only; omega), by have := h.kl; simp only [List.length_take]; omega, hf⟩

theorem rtake_next {p : List Cl} (hp : POk p) (h6 : Bd6 p) {S : RS} (h : RI p S) (h0 : S.fin = 0) (hne : S.todo ≠ []) (hst : S.steps < 400) : Next p S (rtake p S) 1 := by
  have hb : ∀ (τ : Sub) (f : Nat) (td : List Goal), Next p S (rback p S.kept.length { S with τ := τ, steps := S.steps + 1, f := f, todo := td }) 1 := fun τ f td => by
    have := rback_next hp h6 S.kept.length { S with τ := τ, steps := S.steps + 1, f := f, todo := td } rfl ⟨fun c hc => (h.kept c hc).up (by simp only; omega), by have := h.kl; simp only; omega, hst, h0⟩
    exact ⟨this.run, this.steps, this.ans⟩
  have htl : ∀ (τ : Sub) (f : Nat), f ≤ 4000 → Next p S { S with τ := τ, steps := S.steps + 1, f := f, todo := S.todo.tail } 1 := fun τ f hf => by
    have := tail_inv h (τ := τ) (k := S.kept.length) hf
    rw [List.take_length] at this
    exact ⟨fun _ => this, rfl, rfl⟩
  unfold rtake
  simp only
  split
  · exact ⟨(fun e => by cases e), rfl, rfl⟩
  · split
    · have hk := h.kl
      have hn := h.n
      have hl := h.len
      rcases rtry_cases p S.todo (look S.τ (headT S.todo)) (p.length - 0) 0 { S with steps := S.steps + 1, f := 4000 } rfl with ⟨f, h1, h2⟩ | h1 | ⟨τ, f, j, hj, h1, h2⟩
      · rw [h1]
        exact hb S.τ f S.todo
      · rw [h1]
        exact ⟨(fun e => by cases e), rfl, rfl⟩
      · rw [h1]
        refine ⟨fun _ => ?_, rfl, rfl⟩
        exact went_inv hp h6 (S := { S with steps := S.steps + 1, f := 4000 }) hne h.td (by simp only; omega) (by simp only; omega) (fun c hc => (h.kept c hc).up (by simp only; omega)) (by simp only; omega) hj h2
    · split
      · exact ⟨fun _ => tail_inv h (Nat.le_refl _), rfl, rfl⟩
      · split
        · exact htl S.τ 4000 (Nat.le_refl _)
        · split
          · exact hb S.τ 4000 S.todo.tail
          · have hm := meetR_left 4000 S.τ [((look S.τ (headT S.todo)).args.getD 0 default, (look S.τ (headT S.todo)).args.getD 1 default)]
            split
            · rename_i τ L f he
              rw [he] at hm
              exact htl τ f hm
            · rename_i τ L f he
              exact hb S.τ f S.todo.tail
            · exact ⟨(fun e => by cases e), rfl, rfl⟩

/-- What an answer leaves. -/
theorem rtell_next {p : List Cl} (hp : POk p) (h6 : Bd6 p) {S : RS} (query : Nat) (h : RI p S) (h0 : S.fin = 0) (hst : S.steps ≤ 400) (ha : S.ans.length < 40) :
    ((rtell p query S).fin = 0 → RI p (rtell p query S) ∧ (rtell p query S).ans.length < 40) ∧ (rtell p query S).steps = S.steps ∧ S.ans.length ≤ (rtell p query S).ans.length := by
  unfold rtell
  split
  · exact ⟨(fun e => by cases e), rfl, Nat.le_refl _⟩
  · split
    · exact ⟨(fun e => by cases e), rfl, by simp⟩
    · rename_i x _ hx
      have := rback_next hp h6 S.kept.length { S with ans := S.ans ++ [(Tm.rens numV [] x.1).1] } rfl ⟨h.kept, h.kl, hst, h0⟩
      have ha2 := this.ans
      simp only at ha2
      refine ⟨fun e => ⟨this.run e, ?_⟩, this.steps, ?_⟩
      · rw [ha2]; simp only [List.length_append, List.length_singleton]; omega
      · rw [ha2]; simp

end Go.Proofs.Ytikmgiapjigghaa.Emb
