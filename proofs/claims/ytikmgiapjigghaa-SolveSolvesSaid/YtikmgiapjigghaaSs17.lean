/- Walk: the searcher takes a goal. -/
import Derived.Deep.CutBlock
import Derived.Test.YtikmgiapjigghaaSs11
import Derived.Test.YtikmgiapjigghaaSs12
import Derived.Test.YtikmgiapjigghaaSs13
import Derived.Test.YtikmgiapjigghaaSs14
import Derived.Test.YtikmgiapjigghaaSs15
import Derived.Test.YtikmgiapjigghaaSs16
namespace Go.Proofs.Ytikmgiapjigghaa
open Go.RowKit

/-- What holds behind the switch of taking: is there something to go back for? -/
def TkMid (w : World) (br bs bm : Nat) (tv cv av : Value) (pa : Option Addr) (pc : Nat) (p : List Cl) (query : Nat) (S : PS) (b : Bool) (wx : World) : Prop :=
  ∃ (S' : PS) (tv' cv' : Value) (np' : Option Addr) (wk' : Nat), Touch (SM br bs bm tv cv av) w wx ∧ Fresh w tv tv' ∧ Fresh w cv cv' ∧ SAt wx br bs bm tv' cv' av np' pa pc p query S' wk' ∧
    ((b = true ∨ S'.fin ≠ 0) → ptake p S = S') ∧ (b = false → S'.fin = 0 → ptake p S = pback p S'.ch.length S' ∧ BInv p S' ∧ S'.vars + 12 * potC p.length S'.ch ≤ 1000000 ∧ S'.steps ≤ 400)

theorem ptake_wrong {p : List Cl} {S : PS} {t : Tm} (ht : look S.σ (headT S.now) = t) (h : t.var ≠ 0) : ptake p S = { S with steps := S.steps + 1, f := 4000, fin := 4 } := by
  subst ht; simp only [ptake]; rw [if_pos h]
theorem ptake_call {p : List Cl} {S : PS} {t : Tm} (ht : look S.σ (headT S.now) = t) (h : t.var = 0) (hm : meansB t.name t.args.length = false) {r : PS × Bool} (hr : pcall p S.now t 0 { S with steps := S.steps + 1, f := 4000 } = r) :
    ptake p S = if r.2 = true then r.1 else pback p r.1.ch.length r.1 := by
  subst ht; simp only [ptake]; rw [if_neg (show ¬ (look S.σ (headT S.now)).var ≠ 0 from fun e => e h), if_pos hm, hr]
theorem ptake_cut {p : List Cl} {S : PS} {t : Tm} (ht : look S.σ (headT S.now) = t) (h : t.var = 0) (hm : meansB t.name t.args.length = true) (h1 : t.name = ⟨#[33]⟩) :
    ptake p S = { S with steps := S.steps + 1, f := 4000, ch := S.ch.take ((S.now.head?.map (·.2)).getD 0), now := S.now.tail } := by
  subst ht; simp only [ptake]; rw [if_neg (show ¬ (look S.σ (headT S.now)).var ≠ 0 from fun e => e h), if_neg (by rw [hm]; decide), if_pos h1]
theorem ptake_true {p : List Cl} {S : PS} {t : Tm} (ht : look S.σ (headT S.now) = t) (h : t.var = 0) (hm : meansB t.name t.args.length = true) (h1 : t.name ≠ ⟨#[33]⟩) (h2 : t.name = ⟨#[116, 114, 117, 101]⟩) :
    ptake p S = { S with steps := S.steps + 1, f := 4000, now := S.now.tail } := by
  subst ht; simp only [ptake]; rw [if_neg (show ¬ (look S.σ (headT S.now)).var ≠ 0 from fun e => e h), if_neg (by rw [hm]; decide), if_neg h1, if_pos h2]
theorem ptake_fail {p : List Cl} {S : PS} {t : Tm} (ht : look S.σ (headT S.now) = t) (h : t.var = 0) (hm : meansB t.name t.args.length = true) (h1 : t.name ≠ ⟨#[33]⟩) (h2 : t.name ≠ ⟨#[116, 114, 117, 101]⟩) (h3 : t.name = ⟨#[102, 97, 105, 108]⟩) :
    ptake p S = pback p S.ch.length { S with steps := S.steps + 1, f := 4000 } := by
  subst ht; simp only [ptake]; rw [if_neg (show ¬ (look S.σ (headT S.now)).var ≠ 0 from fun e => e h), if_neg (by rw [hm]; decide), if_neg h1, if_neg h2, if_pos h3]
/-- What taking a goal that makes two terms the same leaves. -/
noncomputable def eqOut (p : List Cl) (S : PS) : MOut → PS
  | .ok σ L f => { S with steps := S.steps + 1, σ := σ, L := L, f := f, now := S.now.tail }
  | .no _ _ f => pback p S.ch.length { S with steps := S.steps + 1, f := f, now := S.now.tail }
  | .many _ _ => { S with steps := S.steps + 1, f := 0, fin := 3, now := S.now.tail }

theorem ptake_eq {p : List Cl} {S : PS} {t : Tm} (ht : look S.σ (headT S.now) = t) (h : t.var = 0) (hm : meansB t.name t.args.length = true) (h1 : t.name ≠ ⟨#[33]⟩) (h2 : t.name ≠ ⟨#[116, 114, 117, 101]⟩) (h3 : t.name ≠ ⟨#[102, 97, 105, 108]⟩) {x y : Tm} (hxy : t.args = [x, y])
    {o : MOut} (ho : meet S.σ S.L 4000 [(x, y)] = o) :
    ptake p S = eqOut p S o := by
  have ho' : meet S.σ S.L 4000 [(t.args.getD 0 default, t.args.getD 1 default)] = o := by rw [hxy]; exact ho
  subst ht; simp only [ptake]; rw [if_neg (show ¬ (look S.σ (headT S.now)).var ≠ 0 from fun e => e h), if_neg (by rw [hm]; decide), if_neg h1, if_neg h2, if_neg h3, ho']
  cases o <;> rfl

theorem bytes_of {n : ByteArray} {l : List UInt8} (h : n.toList = l) : n = ⟨l.toArray⟩ := by
  cases n with
  | mk d =>
    have : d.toList = l := by rw [← h, ByteArray.toList_eq]
    rw [← this]

theorem bytes_ne {n : ByteArray} {l : List UInt8} (h : (n.toList == l) = false) : n ≠ ⟨l.toArray⟩ := fun e => by
  rw [beq_eq_false_iff_ne] at h
  exact h (by rw [e, ByteArray.toList_eq])

theorem row_cap {w : World} {base : Nat} {e : TypeId} {size : Nat} {v : Value} {n : Nat} {xs : List Value} (h : w.ownsRow base e size v n xs) : ∃ a c, v = .slice a n c ∧ n ≤ c ∧ c ≤ 9223372036854775807 := by
  obtain ⟨_, h2⟩ := h
  rcases h2 with ⟨rfl, rfl⟩ | ⟨g, cap, cur, rfl, _, _, h3, h4, _, _⟩
  · exact ⟨none, 0, rfl, Nat.le_refl _, by omega⟩
  · exact ⟨_, cap, rfl, h3, by unfold maxLen at h4; omega⟩

/-- What two terms bound can be taken back. -/
theorem meet_undo {p : List Cl} {S : PS} (hP : PInv p S) {x y : Tm} (hx : Fit (S.vars + 1) x) (hy : Fit (S.vars + 1) y) (hv : S.vars ≤ 1000000) (hst : S.steps ≤ 400) {σ : Sub} {L : List Int} (hmo : (∃ f, meet S.σ S.L 4000 [(x, y)] = .no σ L f) ∨ meet S.σ S.L 4000 [(x, y)] = .many σ L) (hii : SInv σ) :
    TrailOk σ L ∧ (∀ z, z ∈ L → I64 z) ∧ S.L.length ≤ L.length ∧ L.length ≤ 1000000 ∧ undo σ L S.L.length = S.σ ∧ L.take S.L.length = S.L := by
  have hw2 : ∀ q ∈ [(x, y)], Fit (S.vars + 1) q.1 ∧ Fit (S.vars + 1) q.2 := fun q hq => by rw [List.mem_singleton] at hq; subst hq; exact ⟨hx, hy⟩
  have hg := meet_grow 4000 S.σ S.L [(x, y)] hP.sinv (fun q hq => ⟨(hw2 q hq).1.wf, (hw2 q hq).2.wf⟩)
  have hk := meet_keyB (n := S.vars + 1) 4000 S.σ S.L [(x, y)] hP.sinv (fun v u e => (hP.dom v u e).1) hw2
  have hG : Grow S.σ S.L σ L ∧ L.length ≤ S.L.length + 4000 ∧ ∀ z, z ∈ L → z ∈ S.L ∨ z.toNat < S.vars + 1 := by
    rcases hmo with ⟨f, h⟩ | h
    · rw [h] at hg hk
      exact ⟨hg.1, by have := hg.2; omega, hk⟩
    · rw [h] at hg hk
      exact ⟨hg.1, by have := hg.2; omega, hk⟩
  obtain ⟨h1, h2, h3⟩ := hG
  have hT := h1.ok hP.trail
  refine ⟨hT, fun z hz => ?_, h1.back.2.2, by have := hP.len; omega, h1.back.1, h1.back.2.1⟩
  obtain ⟨u, hu⟩ := Option.ne_none_iff_exists'.1 (hT.2 z hz)
  have h4 := (hii.each z u hu).1
  have h5 : z.toNat < S.vars + 1 := by
    rcases h3 z hz with h5 | h5
    · obtain ⟨u2, hu2⟩ := Option.ne_none_iff_exists'.1 (hP.trail.2 z h5)
      exact (hP.dom z u2 hu2).2
    · exact h5
  unfold I64; omega

theorem take_min {α : Type} (l : List α) (k : Nat) : l.take (min k l.length) = l.take k := by
  rcases Nat.le_total k l.length with h | h
  · rw [Nat.min_eq_left h]
  · rw [Nat.min_eq_right h, List.take_length, List.take_of_length_le h]

set_option maxRecDepth 100000 in
set_option maxHeartbeats 4000000 in
theorem TakeW {p : List Cl} (hp : POk p) (hsz : ∀ c, c ∈ p → c.head.size ≤ 100000 ∧ ∀ b, b ∈ c.body → b.size ≤ 100000) {w : World} {br bs bm : Nat} {tv cv av : Value} {np pa : Option Addr} {pc : Nat} {query : Nat} {S : PS} {wk : Nat} (h : SAt w br bs bm tv cv av np pa pc p query S wk)
    (hi : RInv p S) (h30 : p.length ≤ 30) (h0 : S.fin = 0) (hne : S.now ≠ []) (hst : S.steps < 400) :
    Calls Try.prog 113 #[.pointer (some ⟨br, 0, none⟩)] w (BkPost w br bs bm tv cv av pa pc p query (ptake p S)) := by
  obtain ⟨ta, tc, htv, hLl⟩ := row_form h.st.trail
  subst htv
  obtain ⟨ca, cc, hcv, hcc, hcm⟩ : ∃ ca cc, cv = .slice ca S.ch.length cc ∧ S.ch.length ≤ cc ∧ cc ≤ 9223372036854775807 := by
    obtain ⟨Q, hQ, hr, _⟩ := h.ch
    obtain ⟨ca, cc, e1, e2, e3⟩ := row_cap hr
    have : Q.length = S.ch.length := by rw [← hQ, List.length_map]
    exact ⟨ca, cc, by rw [e1, this], by omega, e3⟩
  subst hcv
  obtain ⟨hP, -⟩ := hi.core h0
  have hpot := hi.pot
  have hci := hP.call hne
  obtain ⟨g0, rest, hnow⟩ : ∃ g0 rest, S.now = g0 :: rest := by
    cases hc : S.now with
    | nil => exact absurd hc hne
    | cons a r => exact ⟨a, r, rfl⟩
  have hgat := h.now
  rw [hnow] at hgat
  cases hgat with
  | cons gb t0 cut a0 c0 r0 _ hgb hgok hgf hgt hgr =>
  obtain ⟨t, ht⟩ : ∃ t, look S.σ (headT S.now) = t := ⟨_, rfl⟩
  have ht0 : headT S.now = t0 := by rw [hnow]; rfl
  obtain ⟨ln, hln⟩ := look_spec hci.sinv.rank.ends t0
  have hln' : LookN S.σ ln t0 t := by rw [← ht, ht0]; exact hln
  have HLN := Lib.hid hln'
  -- the world behind the first two lines
  have hs1 := h.setSteps (S.steps + 1)
  have hs2 := (hs1.setWork 0).1
  have ht1 : Touch (SM br bs bm (.slice ta S.L.length tc) (.slice ca S.ch.length cc) av) w (w.setCell ⟨br, 8, none⟩ (.int .i64 ((S.steps + 1 : Nat) : Int))) := (Touch.setCell (M := fun b => b = br) _ rfl).mono fun b _ e => .inl e
  have htz := ht1.trans (hs1.setWork 0).2
  have e1 : ((S.steps + 1 : Nat) : Int) = (S.steps : Int) + 1 := by omega
  rw [e1] at hs1 hs2 htz
  have HS2 : Hid (SAt ((w.setCell ⟨br, 8, none⟩ (.int .i64 ((S.steps : Int) + 1))).setCell ⟨bs, 2, none⟩ (.int .i64 0)) br bs bm (.slice ta S.L.length tc) (.slice ca S.ch.length cc) av (some ⟨gb, 0, none⟩) pa pc p query { S with steps := S.steps + 1, f := 4000 } 0) := Lib.hid (hs2.plain rfl rfl rfl rfl rfl rfl rfl rfl)
  have HTZ : Hid (Touch (SM br bs bm (.slice ta S.L.length tc) (.slice ca S.ch.length cc) av) w ((w.setCell ⟨br, 8, none⟩ (.int .i64 ((S.steps : Int) + 1))).setCell ⟨bs, 2, none⟩ (.int .i64 0))) := Lib.hid htz
  have HOZ := Lib.hid (okS_step htz (Fresh.self _ (.slice ta S.L.length tc)) (Fresh.self _ (.slice ca S.ch.length cc)) (Fresh.self _ av))
  obtain ⟨q0, q1, q2, q3, q4, q5, q6, q7, q8, qf⟩ := h.cells
  obtain ⟨s0', s1', s2', sf'⟩ := hs1.st.cells
  obtain ⟨u0, u1, u2, u3, u4, u5, u6, u7, u8, uf⟩ := hs1.cells
  obtain ⟨z0, z1, z2, z3, z4, z5, z6, z7, z8, zf⟩ := hs2.cells
  obtain ⟨s0, s1, s2, sf⟩ := hs2.st.cells
  have hgbz := (htz.block gb hgok.1 hgok.2).trans hgb
  have lgb : gb < ((w.setCell ⟨br, 8, none⟩ (.int .i64 ((S.steps : Int) + 1))).setCell ⟨bs, 2, none⟩ (.int .i64 0)).heap.size := (Array.getElem?_eq_some_iff.1 hgbz).1
  have HGB := Lib.hid hgbz
  have HGOK := Lib.hid (HOZ.out.2 gb hgok)
  have HGF := Lib.hid hgf
  have HGT := Lib.hid ((hgt.keep HOZ.out.1).mono fun b _ => HOZ.out.2 b)
  have HGR := Lib.hid ((hgr.keep HOZ.out.1).mono fun b _ => HOZ.out.2 b)
  have HP := Lib.hid hp; have HSZ := Lib.hid hsz; have HPI := Lib.hid hP; have HCI := Lib.hid hci; have HPOT := Lib.hid hpot; have H0 := Lib.hid h0; have HNOW := Lib.hid hnow; have HTT := Lib.hid ht; have HST := Lib.hid hst; have H30 := Lib.hid h30; have HNE := Lib.hid hne
  have hsteps : S.steps < 400 := hst
  have hl0 := H0.out
  clear h hp hsz hi h30 h0 hne hst hP hpot hci hnow hln hln' ht ht0 hs1 hs2 ht1 htz hgb hgok hgf hgt hgr hgbz e1
  go_enter Try.func113, Try.ntmps113
  go_upto_region 3 with fail
  generalize hwz : ((w.setCell ⟨br, 8, none⟩ (.int .i64 ((S.steps : Int) + 1))).setCell ⟨bs, 2, none⟩ (.int .i64 0)) = wz at *
  clear hwz q0 q1 q2 q3 q4 q5 q6 q7 q8 qf s0' s1' s2' sf' u0 u1 u2 u3 u4 u5 u6 u7 u8 uf
  have hgb := HGB.out
  have k0 : wz.cell? ⟨gb, 0, none⟩ = some (.int .i64 t0.var) := by simp [World.cell?, hgb]
  have k1 : wz.cell? ⟨gb, 1, none⟩ = some (.string t0.name) := by simp [World.cell?, hgb]
  have k2 : wz.cell? ⟨gb, 2, none⟩ = some (.slice a0 t0.args.length c0) := by simp [World.cell?, hgb]
  clear hgb
  have HLW : Hid (∀ u, Below wz.heap.size wz u → Calls Try.prog 102 #[.pointer (some ⟨bs, 0, none⟩), .agg #[.int .i64 t0.var, .string t0.name, .slice a0 t0.args.length c0]] u (fun e w' => ∃ a1 c1, e = .returned (.agg #[.int .i64 t.var, .string t.name, .slice a1 t.args.length c1]) ∧ t.fits ∧ Ts w' (OkS wz br bs bm (.slice ta S.L.length tc) (.slice ca S.ch.length cc) av) t.args a1 c1 ∧ Below wz.heap.size wz w' ∧ ∀ b x0 x1 x2, Box3 u b x0 x1 x2 → Box3 w' b x0 x1 x2)) := Lib.hid (fun u hu => by
    refine (LookW (HS2.out.st.keep hu) HLN.out HGF.out (HGT.out.keep (Keeps.below hu _))).mono ?_
    rintro e w' ⟨a1, c1, he, hf, hts, hb⟩
    exact ⟨a1, c1, he, hf, hts, hu.trans (hb.mono hu.size), fun b x0 x1 x2 hx => hx.below hb⟩)
  go_cut [3] (fun v3 wx => ∃ b3 a1 c1, v3 = .pointer (some ⟨b3, 0, none⟩) ∧ wz.heap.size ≤ b3 ∧ Box3 wx b3 (.int .i64 t.var) (.string t.name) (.slice a1 t.args.length c1) ∧ Below wz.heap.size wz wx ∧ t.fits ∧ Ts wx (OkS wz br bs bm (.slice ta S.L.length tc) (.slice ca S.ch.length cc) av) t.args a1 c1)
  case first =>
    have lbr3 := HS2.out.lt
    have lbs3 := HS2.out.st.lt
    go_region_with (first
      | (go_at_call 102; refine (HLW.out _ (by with_reducible exact (Below.refl _ _).drew)).mono ?_; rintro e w1 ⟨a1, c1, rfl, hf1, ht1, hb1, hbx⟩; have HF1 := Lib.hid hf1; have HT1 := Lib.hid ht1; have HB1 := Lib.hid hb1; clear hf1 ht1 hb1 hbx)
      | (go_at_call 102; refine (HLW.out _ (by with_reducible exact ((Below.refl _ _).alloc (Nat.le_refl _) _).drew)).mono ?_; rintro e w1 ⟨a1, c1, rfl, hf1, ht1, hb1, hbx⟩; have HF1 := Lib.hid hf1; have HT1 := Lib.hid ht1; have HB1 := Lib.hid hb1; have hz := hbx _ _ _ _ ((Box3.made wz (.int .i64 0) (.string ⟨#[]⟩) (.slice none 0 0)).below (Below.refl _ _).drew); have HZ := Lib.hid hz; obtain ⟨y0, y1, y2, yf⟩ := hz.all; have yl := hz.lt; clear hz hf1 ht1 hb1 hbx))
    all_goals
      go_wp2_with fail
      go_meet
      first
        | exact ⟨_, a1, c1, rfl, HB1.out.size, Box3.made _ _ _ _, HB1.out.alloc HB1.out.size _, HF1.out, HT1.out.keep (Keeps.below ((Below.refl _ _).alloc (Nat.le_refl _) _) _)⟩
        | exact ⟨_, a1, c1, rfl, Nat.le_refl _, HZ.out.put _ _ _, below_put HB1.out (Nat.le_refl _) _ _ _, HF1.out, HT1.out.keep ((touch_put _ _ _ _ _).keeps fun b hb e => by have := hb.1; omega)⟩
  case rest =>
    obtain ⟨b3, a1, c1, rfl, hb3, hx3, hbx, hf1, ht1⟩ := hcut
    have HX3 := Lib.hid hx3; have HF3 := Lib.hid hf1
    have HSA := Lib.hid (HS2.out.below hbx)
    have hMO : ∀ b, b < wc.heap.size → OkS wz br bs bm (.slice ta S.L.length tc) (.slice ca S.ch.length cc) av b → OkS wc br bs bm (.slice ta S.L.length tc) (.slice ca S.ch.length cc) av b := fun b _ hb => ⟨Nat.lt_of_lt_of_le hb.1 hbx.size, hb.2⟩
    have HT3 := Lib.hid (ht1.mono hMO)
    have HGRA := Lib.hid ((HGR.out.keep (Keeps.below hbx _)).mono hMO)
    have hgb := (hbx.block gb lgb).trans HGB.out
    have HGA : Hid (GAt wc (OkS wc br bs bm (.slice ta S.L.length tc) (.slice ca S.ch.length cc) av) (some ⟨gb, 0, none⟩) S.now) := Lib.hid (by
      rw [HNOW.out]
      exact .cons gb t0 cut a0 c0 r0 rest hgb (hMO gb (Nat.lt_of_lt_of_le lgb hbx.size) HGOK.out) HGF.out ((HGT.out.keep (Keeps.below hbx _)).mono hMO) HGRA.out)
    have HTA := Lib.hid (HTZ.out.trans (Touch.below hbx))
    have hsz0 : w.heap.size ≤ wc.heap.size := HTA.out.size
    have lb3 : b3 < wc.heap.size := hx3.lt
    have HN3 : Hid (∀ b, SM br bs bm (.slice ta S.L.length tc) (.slice ca S.ch.length cc) av b → b ≠ b3) := Lib.hid (fun b e => by have := SM_lt HS2.out e; omega)
    have k3 : wc.cell? ⟨gb, 3, none⟩ = some (.int .i64 cut) := by simp [World.cell?, hgb]
    have k4 : wc.cell? ⟨gb, 4, none⟩ = some (.pointer r0) := by simp [World.cell?, hgb]
    have HGBA := Lib.hid hgb
    have lgb2 : gb < wc.heap.size := Nat.lt_of_lt_of_le lgb hbx.size
    have HGNM : Hid (¬ SM br bs bm (.slice ta S.L.length tc) (.slice ca S.ch.length cc) av gb) := Lib.hid HGOK.out.2
    clear hx3 hbx hf1 ht1 hMO hgb k0 k1 k2 z0 z1 z2 z3 z4 z5 z6 z7 z8 zf s0 s1 s2 sf HLW HS2 HTZ HOZ HGB HGOK HGT HGR
    generalize wc = wa at *
    obtain ⟨q0, q1, q2, q3, q4, q5, q6, q7, q8, qf⟩ := HSA.out.cells
    obtain ⟨s0, s1, s2, sf⟩ := HSA.out.st.cells
    obtain ⟨x0, x1, x2, xf⟩ := HX3.out.all
    have hgbr : gb ≠ br := fun e => HGNM.out (.inl e)
    have hgbr2 : br ≠ gb := fun e => HGNM.out (.inl e.symm)
    go_upto_block 0 with fail
    go_cut [4] (fun v4 wx => ∃ b, v4 = .bool b ∧ TkMid w br bs bm (.slice ta S.L.length tc) (.slice ca S.ch.length cc) av pa pc p query S b wx)
    case first =>
      by_cases hv : t.var = 0
      · have hv1 : (t.var != 0) = false := by rw [hv]; rfl
        have HV : Hid (t.var = 0) := Lib.hid hv
        clear hv
        by_cases hm : meansB t.name t.args.length = false
        · --BEGIN CALL
          have hMW : ∀ u, Calls Try.prog 100 #[.agg #[.int .i64 t.var, .string t.name, .slice a1 t.args.length c1]] u fun e w' => e = .returned (.bool false) ∧ Below u.heap.size u w' := fun u => by
            have := MeansW t.var t.name a1 t.args.length c1 u
            rw [hm] at this; exact this
          have HMW := Lib.hid hMW
          obtain ⟨r, hr⟩ : ∃ r, pcall p S.now t 0 { S with steps := S.steps + 1, f := 4000 } = r := ⟨_, rfl⟩
          have hci : CInv p S.now t { S with steps := S.steps + 1, f := 4000 } := HTT.out ▸ HCI.out
          have hinv := call_inv HP.out p.length 0 { S with steps := S.steps + 1, f := 4000 } (by omega) (Nat.zero_le _) hci
          have HPT := Lib.hid (ptake_call HTT.out HV.out hm hr)
          have HCL : Hid (∀ u, Below wa.heap.size wa u → Calls Try.prog 134 #[.pointer (some ⟨br, 0, none⟩), .pointer (some ⟨gb, 0, none⟩), .int .i64 0] u (ClPost u br bs bm (.slice ta S.L.length tc) (.slice ca S.ch.length cc) av pa pc p query r)) := Lib.hid (fun u hu => by
            have hc := CallW (S := { S with steps := S.steps + 1, f := 4000 }) HP.out HSZ.out (HSA.out.below hu) ((HGA.out.keep (Keeps.below hu _)).mono (fun b _ hb => (⟨Nat.lt_of_lt_of_le hb.1 hu.size, hb.2⟩ : OkS u br bs bm (.slice ta S.L.length tc) (.slice ca S.ch.length cc) av b))) (t := t) HTT.out hci H0.out (i := 0) (Nat.zero_le _) (by have := HPOT.out; have := H30.out; simp only; omega) (by simp only; omega)
            rw [hr] at hc; exact hc)
          rw [hr] at hinv
          have HINV := Lib.hid hinv
          obtain ⟨r1, b⟩ := r
          clear hMW hinv hr hci hm
          go_wp2_with (first
            | (go_at_call 100; refine (HMW.out _).mono ?_; rintro e wM ⟨rfl, hbM⟩; have HBM := Lib.hid hbM; clear hbM)
            | (go_at_call 134; refine (HCL.out _ HBM.out).mono ?_; rintro e wk ⟨rfl, htk, tvk, cvk, npk, wkk, hfk, hgk, hsk⟩; have HTK := Lib.hid htk; have HFK := Lib.hid hfk; have HGK := Lib.hid hgk; have HSK := Lib.hid hsk; clear htk hfk hgk hsk))
          go_meet
          refine ⟨b, rfl, r1, tvk, cvk, npk, wkk, (HTA.out.trans (Touch.below HBM.out)).trans HTK.out, HFK.out.old (Nat.le_trans hsz0 HBM.out.size), HGK.out.old (Nat.le_trans hsz0 HBM.out.size), HSK.out, fun e => ?_, fun e h => ?_⟩
          · rw [HPT.out]
            cases b with
            | true => rfl
            | false =>
              rcases HINV.out.2.2.2.2.2 with h | h
              · exact absurd (h.trans H0.out) (e.resolve_left (by decide))
              · cases h.2
          · subst e
            rw [HPT.out]
            exact ⟨rfl, (HINV.out.1.2 rfl).toB, by have := HINV.out.2.1; have := HPOT.out; have := H30.out; omega, by have := HINV.out.2.2.2.1; omega⟩
        · have HM : Hid (meansB t.name t.args.length = true) := Lib.hid (by simpa using hm)
          have HMW : Hid (∀ u, Calls Try.prog 100 #[.agg #[.int .i64 t.var, .string t.name, .slice a1 t.args.length c1]] u fun e w' => e = .returned (.bool true) ∧ Below u.heap.size u w') := Lib.hid (fun u => by
            have := MeansW t.var t.name a1 t.args.length c1 u
            rw [HM.out] at this; exact this)
          clear hm
          have HFA : Hid (∀ u, Below wa.heap.size wa u → u.cell? ⟨br, 4, none⟩ = some (.slice ca S.ch.length cc) ∧ u.cell? ⟨br, 1, none⟩ = some (.pointer (some ⟨bs, 0, none⟩)) ∧ (∀ o, u.frozen? ⟨br, o, none⟩ = false) ∧ u.cell? ⟨gb, 3, none⟩ = some (.int .i64 cut) ∧ u.cell? ⟨gb, 4, none⟩ = some (.pointer r0) ∧ u.cell? ⟨b3, 0, none⟩ = some (.int .i64 t.var) ∧ u.cell? ⟨b3, 1, none⟩ = some (.string t.name) ∧ u.cell? ⟨b3, 2, none⟩ = some (.slice a1 t.args.length c1) ∧ u.cell? ⟨bs, 1, none⟩ = some (.slice ta S.L.length tc) ∧ u.cell? ⟨br, 5, none⟩ = some (.pointer (some ⟨gb, 0, none⟩))) := Lib.hid (fun u hu => by
            obtain ⟨r0', r1', r2', r3', r4', r5', r6', r7', r8', rf'⟩ := (HSA.out.below hu).cells
            obtain ⟨s0', s1', s2', sf'⟩ := (HSA.out.below hu).st.cells
            obtain ⟨x0', x1', x2', xf'⟩ := (HX3.out.below hu).all
            exact ⟨r4', r1', rf', (hu.cell (p := ⟨gb, 3, none⟩) lgb2).trans k3, (hu.cell (p := ⟨gb, 4, none⟩) lgb2).trans k4, x0', x1', x2', s1', r5'⟩)
          have HTL : Hid (S.now.tail = rest) := Lib.hid (by rw [HNOW.out]; rfl)
          have HB1 : Hid (∀ f now, BInv p { S with steps := S.steps + 1, f := f, now := now }) := Lib.hid (fun f now => HPI.out.toB1)
          -- the goals behind the first one
          have HNX : Hid (∀ (u : World) (tv' cv' : Value) (np' : Option Addr) (S' : PS) (wk' : Nat), SAt u br bs bm tv' cv' av np' pa pc p query S' wk' → Touch (SM br bs bm (.slice ta S.L.length tc) (.slice ca S.ch.length cc) av) wa u → Fresh wa (.slice ta S.L.length tc) tv' → Fresh wa (.slice ca S.ch.length cc) cv' → SAt (u.setCell ⟨br, 5, none⟩ (.pointer r0)) br bs bm tv' cv' av r0 pa pc p query { S' with now := S.now.tail } wk' ∧ Touch (SM br bs bm (.slice ta S.L.length tc) (.slice ca S.ch.length cc) av) w (u.setCell ⟨br, 5, none⟩ (.pointer r0)) ∧ Fresh w (.slice ta S.L.length tc) tv' ∧ Fresh w (.slice ca S.ch.length cc) cv') := Lib.hid (fun u tv' cv' np' S' wk' h1 h2 h3 h4 => by
            have hO := okS_step h2 h3 h4 (Fresh.self _ av)
            rw [HTL.out]
            exact ⟨h1.setNow ((HGRA.out.keep hO.1).mono fun b _ => hO.2 b), HTA.out.trans (h2.trans ((Touch.setCell (M := fun b => b = br) _ rfl).mono fun b _ e => .inl e)), h3.old hsz0, h4.old hsz0⟩)
          rcases name_kinds t.name with ⟨k, h1⟩ | ⟨k, h1, h2⟩ | ⟨k, h1, h2, h3⟩ | ⟨k, h1, h2, h3, h4⟩ | ⟨k, h1, h2, h3, h4⟩
          · --BEGIN CUT
            have HPT := Lib.hid (ptake_cut (p := p) HTT.out HV.out HM.out (bytes_of k))
            have hcut : (S.now.head?.map (·.2)).getD 0 = cut := by rw [HNOW.out]; rfl
            rw [hcut] at HPT
            clear k hcut
            by_cases hcl : S.ch.length < cut
            · have hcl1 : (S.ch.length : Int) < (cut : Int) := by omega
              have HCT : Hid (S.ch.take cut = S.ch.take S.ch.length) := Lib.hid (by rw [List.take_length, List.take_of_length_le (by omega)])
              clear hcl
              go_wp2_with (go_at_call 100; refine (HMW.out _).mono ?_; rintro e wM ⟨rfl, hbM⟩; have HBM := Lib.hid hbM; obtain ⟨j1, j2, j3, j4, j5, j6, j7, j8, j9, j10⟩ := HFA.out _ hbM; clear hbM)
              go_region
              all_goals
                go_wp2_with fail
                go_meet
                obtain ⟨hcs, hct, hcf⟩ := (HSA.out.below HBM.out).cut (k := S.ch.length) (Nat.le_refl _)
                obtain ⟨n1, n2, n3, n4⟩ := HNX.out _ _ _ _ _ _ (hcs.below ((Below.refl _ _).drew)) (((Touch.below HBM.out).trans hct).trans (Touch.below ((Below.refl _ _).drew))) (Fresh.self _ _) (.inl (cutV_own _ _))
                exact ⟨true, rfl, _, _, _, _, _, n2, n3, n4, n1, fun _ => by rw [HPT.out, HCT.out], fun e => by cases e⟩
            · have hcl1 : ¬ (S.ch.length : Int) < (cut : Int) := by omega
              have hcl2 : (cut : Int) ≤ (cc : Int) := by omega
              have HCL : Hid (cut ≤ S.ch.length) := Lib.hid (by omega)
              go_wp2_with (go_at_call 100; refine (HMW.out _).mono ?_; rintro e wM ⟨rfl, hbM⟩; have HBM := Lib.hid hbM; obtain ⟨j1, j2, j3, j4, j5, j6, j7, j8, j9, j10⟩ := HFA.out _ hbM; clear hbM)
              go_region
              all_goals
                go_wp2_with fail
                go_meet
                obtain ⟨hcs, hct, hcf⟩ := (HSA.out.below HBM.out).cut (k := cut) HCL.out
                obtain ⟨n1, n2, n3, n4⟩ := HNX.out _ _ _ _ _ _ (hcs.below ((Below.refl _ _).drew)) (((Touch.below HBM.out).trans hct).trans (Touch.below ((Below.refl _ _).drew))) (Fresh.self _ _) (.inl (cutV_own _ _))
                exact ⟨true, rfl, _, _, _, _, _, n2, n3, n4, n1, fun _ => HPT.out, fun e => by cases e⟩
          · --BEGIN TRUE
            have HPT := Lib.hid (ptake_true (p := p) HTT.out HV.out HM.out (bytes_ne h1) (bytes_of k))
            clear k
            go_wp2_with (go_at_call 100; refine (HMW.out _).mono ?_; rintro e wM ⟨rfl, hbM⟩; have HBM := Lib.hid hbM; obtain ⟨j1, j2, j3, j4, j5, j6, j7, j8, j9, j10⟩ := HFA.out _ hbM; clear hbM)
            go_meet
            obtain ⟨n1, n2, n3, n4⟩ := HNX.out _ _ _ _ _ _ (HSA.out.below HBM.out) (Touch.below HBM.out) (Fresh.self _ _) (Fresh.self _ _)
            exact ⟨true, rfl, _, _, _, _, _, n2, n3, n4, n1, fun _ => HPT.out, fun e => by cases e⟩
          · --BEGIN FAIL
            have HPT := Lib.hid (ptake_fail (p := p) HTT.out HV.out HM.out (bytes_ne h1) (bytes_ne h2) (bytes_of k))
            clear k
            go_wp2_with (go_at_call 100; refine (HMW.out _).mono ?_; rintro e wM ⟨rfl, hbM⟩; have HBM := Lib.hid hbM; obtain ⟨j1, j2, j3, j4, j5, j6, j7, j8, j9, j10⟩ := HFA.out _ hbM; clear hbM)
            go_meet
            refine ⟨false, rfl, _, _, _, _, _, HTA.out.trans (Touch.below HBM.out), Fresh.self _ _, Fresh.self _ _, HSA.out.below HBM.out, fun e => ?_, fun _ _ => ⟨HPT.out, HB1.out 4000 S.now, by have := HPOT.out; simp only; omega, by simp only; omega⟩⟩
            exact absurd H0.out (e.resolve_left (by decide))
          · --BEGIN EQ
            have hl2 := means_two (t := t) (by rw [HM.out]; decide) (bytes_ne h1) (bytes_ne h2) (bytes_ne h3)
            obtain ⟨x, y, hxy⟩ : ∃ x y, t.args = [x, y] := by
              match hA : t.args, hl2 with
              | [x, y], _ => exact ⟨x, y, rfl⟩
            obtain ⟨mo, hmo⟩ : ∃ mo, meet S.σ S.L 4000 [(x, y)] = mo := ⟨_, rfl⟩
            have HPT := Lib.hid (ptake_eq (p := p) HTT.out HV.out HM.out (bytes_ne h1) (bytes_ne h2) (bytes_ne h3) hxy hmo)
            have hfa : ∀ z, z ∈ t.args → Fit (S.vars + 1) z := fun z hz => by
              have hf : Fit (S.vars + 1) t := by rw [← HTT.out]; exact HCI.out.t
              exact hf.arg hz
            have hfx := hfa x (by rw [hxy]; simp)
            have hfy := hfa y (by rw [hxy]; simp)
            have hts := HT3.out
            rw [hxy] at hts
            obtain ⟨b5, off5, a5, c5, ha5, hok5, hb5, hc5, ht5⟩ := hts.at 0 (by simp)
            obtain ⟨b6, off6, a6, c6, ha6, hok6, hb6, hc6, ht6⟩ := hts.at 1 (by simp)
            subst ha5
            simp only [Option.some.injEq, Addr.mk.injEq, and_true] at ha6
            obtain ⟨rfl, rfl⟩ := ha6
            have hx3 : Cells3 wa b5 off5 x a5 c5 := by simpa using hc5
            have hy3 : Cells3 wa b5 (off5 + 3) y a6 c6 := by simpa using hc6
            have p0 := hx3.var; have p1 := hx3.name; have p2 := hx3.args
            have p3 := hy3.var; have p4 := hy3.name; have p5 := hy3.args
            have HT5 : Hid (Ts wa (OkS wa br bs bm (.slice ta S.L.length tc) (.slice ca S.ch.length cc) av) x.args a5 c5) := Lib.hid (by simpa using ht5)
            have HT6 : Hid (Ts wa (OkS wa br bs bm (.slice ta S.L.length tc) (.slice ca S.ch.length cc) av) y.args a6 c6) := Lib.hid (by simpa using ht6)
            have hSMW : ∀ u, Below wa.heap.size wa u → Calls Try.prog 135 #[.pointer (some ⟨br, 0, none⟩), .agg #[.int .i64 x.var, .string x.name, .slice a5 x.args.length c5], .agg #[.int .i64 y.var, .string y.name, .slice a6 y.args.length c6]] u (SmPost wa br bs bm (.slice ta S.L.length tc) (.slice ca S.ch.length cc) av (some ⟨gb, 0, none⟩) pa pc p query { S with steps := S.steps + 1, f := 4000 } (meet S.σ S.L 4000 [(x, y)])) := fun u hu =>
              (SameSW (S := { S with steps := S.steps + 1, f := 4000 }) (HSA.out.below hu) (Nat.le_refl _) HPI.out.sinv (by have := HPI.out.len; simp only; omega) hx3.fits hy3.fits ((HT5.out.keep (Keeps.below hu _)).mono fun b _ hb => ⟨Nat.lt_of_lt_of_le hb.1 hu.size, hb.2⟩) ((HT6.out.keep (Keeps.below hu _)).mono fun b _ hb => ⟨Nat.lt_of_lt_of_le hb.1 hu.size, hb.2⟩) hfx.wf hfy.wf).mono fun e w' hp => hp.up hu
            have HMB0 := Lib.hid (fun (σ : Sub) (L : List Int) => meet_undo HPI.out hfx hfy (by have := HPOT.out; omega) (by omega) (σ := σ) (L := L))
            rw [hmo] at hSMW HMB0
            have HSMW := Lib.hid hSMW
            have x2' : wa.cell? ⟨b3, 2, none⟩ = some (.slice (some ⟨b5, off5, none⟩) 2 c1) := by rw [x2, hl2]
            have HFA2 : Hid (∀ u, Below wa.heap.size wa u → u.cell? ⟨b3, 2, none⟩ = some (.slice (some ⟨b5, off5, none⟩) 2 c1)) := Lib.hid (fun u hu => (hu.cell (p := ⟨b3, 2, none⟩) lb3).trans x2')
            rw [hl2] at HFA HMW x2
            clear hSMW hx3 hy3 hc5 hc6 ht5 ht6 hts hfx hfy hfa hok5 hok6 hb6 hmo x2' hxy k
            cases mo with
            | ok σ2 L2 f2 =>
              go_wp2_with (go_at_call 100; refine (HMW.out _).mono ?_; rintro e wM ⟨rfl, hbM⟩; have HBM := Lib.hid hbM; obtain ⟨j1, j2, j3, j4, j5, j6, j7, j8, j9, j10⟩ := HFA.out _ hbM; have m0 := (hbM.cell (p := ⟨b5, off5, none⟩) hb5).trans p0; have m1 := (hbM.cell (p := ⟨b5, off5 + 1, none⟩) hb5).trans p1; have m2 := (hbM.cell (p := ⟨b5, off5 + 2, none⟩) hb5).trans p2; have m3 := (hbM.cell (p := ⟨b5, off5 + 3, none⟩) hb5).trans p3; have m4 := (hbM.cell (p := ⟨b5, off5 + 4, none⟩) hb5).trans p4; have m5 := (hbM.cell (p := ⟨b5, off5 + 5, none⟩) hb5).trans p5; clear hbM)
              go_region_with (go_at_call 135; refine (HSMW.out _ (by with_reducible exact HBM.out.drew)).mono ?_; rintro e wS ⟨htS, tvS, hfS, he, hsS, hiS⟩; subst he; have HTS := Lib.hid htS; have HFS := Lib.hid hfS; have HSS := Lib.hid hsS; have HIS := Lib.hid hiS; have hgS := (htS.block gb lgb2 HGNM.out).trans HGBA.out; have w4 : wS.cell? ⟨gb, 4, none⟩ = some (.pointer r0) := (by simp [World.cell?, hgS]); obtain ⟨v0, v1, v2, v3, v4, v5, v6, v7, v8, vf⟩ := hsS.cells; clear htS hfS hsS hiS hgS)
              all_goals
                go_wp2_with fail
                go_meet
                obtain ⟨n1, n2, n3, n4⟩ := HNX.out _ _ _ _ _ _ HSS.out HTS.out HFS.out (Fresh.self _ _)
                exact ⟨true, rfl, _, _, _, _, _, n2, n3, n4, n1, fun _ => HPT.out, fun e => by cases e⟩
            | no σ2 L2 f2 =>
              go_wp2_with (go_at_call 100; refine (HMW.out _).mono ?_; rintro e wM ⟨rfl, hbM⟩; have HBM := Lib.hid hbM; obtain ⟨j1, j2, j3, j4, j5, j6, j7, j8, j9, j10⟩ := HFA.out _ hbM; have m0 := (hbM.cell (p := ⟨b5, off5, none⟩) hb5).trans p0; have m1 := (hbM.cell (p := ⟨b5, off5 + 1, none⟩) hb5).trans p1; have m2 := (hbM.cell (p := ⟨b5, off5 + 2, none⟩) hb5).trans p2; have m3 := (hbM.cell (p := ⟨b5, off5 + 3, none⟩) hb5).trans p3; have m4 := (hbM.cell (p := ⟨b5, off5 + 4, none⟩) hb5).trans p4; have m5 := (hbM.cell (p := ⟨b5, off5 + 5, none⟩) hb5).trans p5; clear hbM)
              go_region_with (go_at_call 135; refine (HSMW.out _ (by with_reducible exact HBM.out.drew)).mono ?_; rintro e wS ⟨htS, tvS, hfS, he, hsS, hiS⟩; subst he; have HTS := Lib.hid htS; have HFS := Lib.hid hfS; have HSS := Lib.hid hsS; have HIS := Lib.hid hiS; have hgS := (htS.block gb lgb2 HGNM.out).trans HGBA.out; have w4 : wS.cell? ⟨gb, 4, none⟩ = some (.pointer r0) := (by simp [World.cell?, hgS]); obtain ⟨v0, v1, v2, v3, v4, v5, v6, v7, v8, vf⟩ := hsS.cells; clear htS hfS hsS hiS hgS)
              all_goals
                have HMB := Lib.hid (HMB0.out σ2 L2 (.inl ⟨_, rfl⟩) HIS.out)
                have HUW := Lib.hid (UndoW HSS.out.st HMB.out.1 HMB.out.2.1 HMB.out.2.2.1 HMB.out.2.2.2.1)
                go_wp2_with (go_at_call 136; refine HUW.out.mono ?_; rintro e wu ⟨⟨uv, rfl⟩, htu, hsu⟩; have hfu : Fresh wS tvS (cutV tvS S.L.length) := .inl (cutV_own _ _); rw [HMB.out.2.2.2.2.1, HMB.out.2.2.2.2.2] at hsu; have HSU := Lib.hid (HSS.out.store htu hfu hsu); have HTU := Lib.hid (touch_next HTS.out HFS.out (Fresh.self _ _) (Fresh.self _ _) (htu.mono fun b _ e => .inr (.inl e) : Touch (SM br bs bm tvS (.slice ca S.ch.length cc) av) wS wu)); have HFU := Lib.hid (HFS.out.trans hfu HTS.out.size); have hgU := (HTU.out.block gb lgb2 HGNM.out).trans HGBA.out; have w5 : wu.cell? ⟨gb, 4, none⟩ = some (.pointer r0) := (by simp [World.cell?, hgU]); obtain ⟨u0, u1, u2, u3, u4, u5, u6, u7, u8, uf⟩ := HSU.out.cells; clear htu hsu hfu hgU)
                go_meet
                obtain ⟨n1, n2, n3, n4⟩ := HNX.out _ _ _ _ _ _ HSU.out HTU.out HFU.out (Fresh.self _ _)
                refine ⟨false, rfl, _, _, _, _, _, n2, n3, n4, n1, fun e => ?_, fun _ _ => ⟨HPT.out, HB1.out f2 S.now.tail, by have := HPOT.out; simp only; omega, by simp only; omega⟩⟩
                exact absurd H0.out (e.resolve_left (by decide))
            | many σ2 L2 =>
              go_wp2_with (go_at_call 100; refine (HMW.out _).mono ?_; rintro e wM ⟨rfl, hbM⟩; have HBM := Lib.hid hbM; obtain ⟨j1, j2, j3, j4, j5, j6, j7, j8, j9, j10⟩ := HFA.out _ hbM; have m0 := (hbM.cell (p := ⟨b5, off5, none⟩) hb5).trans p0; have m1 := (hbM.cell (p := ⟨b5, off5 + 1, none⟩) hb5).trans p1; have m2 := (hbM.cell (p := ⟨b5, off5 + 2, none⟩) hb5).trans p2; have m3 := (hbM.cell (p := ⟨b5, off5 + 3, none⟩) hb5).trans p3; have m4 := (hbM.cell (p := ⟨b5, off5 + 4, none⟩) hb5).trans p4; have m5 := (hbM.cell (p := ⟨b5, off5 + 5, none⟩) hb5).trans p5; clear hbM)
              go_region_with (go_at_call 135; refine (HSMW.out _ (by with_reducible exact HBM.out.drew)).mono ?_; rintro e wS ⟨htS, tvS, hfS, he, hsS, hiS⟩; subst he; have HTS := Lib.hid htS; have HFS := Lib.hid hfS; have HSS := Lib.hid hsS; have HIS := Lib.hid hiS; have hgS := (htS.block gb lgb2 HGNM.out).trans HGBA.out; have w4 : wS.cell? ⟨gb, 4, none⟩ = some (.pointer r0) := (by simp [World.cell?, hgS]); obtain ⟨v0, v1, v2, v3, v4, v5, v6, v7, v8, vf⟩ := hsS.cells; clear htS hfS hsS hiS hgS)
              all_goals
                have HMB := Lib.hid (HMB0.out σ2 L2 (.inr rfl) HIS.out)
                have HUW := Lib.hid (UndoW HSS.out.st HMB.out.1 HMB.out.2.1 HMB.out.2.2.1 HMB.out.2.2.2.1)
                go_wp2_with (go_at_call 136; refine HUW.out.mono ?_; rintro e wu ⟨⟨uv, rfl⟩, htu, hsu⟩; have hfu : Fresh wS tvS (cutV tvS S.L.length) := .inl (cutV_own _ _); rw [HMB.out.2.2.2.2.1, HMB.out.2.2.2.2.2] at hsu; have HSU := Lib.hid (HSS.out.store htu hfu hsu); have HTU := Lib.hid (touch_next HTS.out HFS.out (Fresh.self _ _) (Fresh.self _ _) (htu.mono fun b _ e => .inr (.inl e) : Touch (SM br bs bm tvS (.slice ca S.ch.length cc) av) wS wu)); have HFU := Lib.hid (HFS.out.trans hfu HTS.out.size); have hgU := (HTU.out.block gb lgb2 HGNM.out).trans HGBA.out; have w5 : wu.cell? ⟨gb, 4, none⟩ = some (.pointer r0) := (by simp [World.cell?, hgU]); obtain ⟨u0, u1, u2, u3, u4, u5, u6, u7, u8, uf⟩ := HSU.out.cells; clear htu hsu hfu hgU)
                go_meet
                obtain ⟨n1, n2, n3, n4⟩ := HNX.out _ _ _ _ _ _ HSU.out HTU.out HFU.out (Fresh.self _ _)
                refine ⟨false, rfl, _, _, _, _, _, n2, n3, n4, n1, fun e => HPT.out, fun _ h => ?_⟩
                cases h
          · exact absurd (HM.out.symm.trans (means_no k.1 k.2.1 k.2.2.1 k.2.2.2)) (by decide)
      · --BEGIN WRONG
        have hv1 : (t.var != 0) = true := by rw [bne_iff_ne]; exact hv
        have HPT := Lib.hid (ptake_wrong (p := p) HTT.out hv)
        have HSW := Lib.hid (HSA.out.setFin 4)
        have HTW : Hid (Touch (SM br bs bm (.slice ta S.L.length tc) (.slice ca S.ch.length cc) av) wa (wa.setCell ⟨br, 7, none⟩ (.int .i64 (4 : Nat)))) := Lib.hid ((Touch.setCell (M := fun b => b = br) _ rfl).mono fun b _ e => .inl e)
        clear hv
        go_wp2_with fail
        go_meet
        exact ⟨true, rfl, _, _, _, _, _, HTA.out.trans HTW.out, Fresh.self _ _, Fresh.self _ _, HSW.out, fun _ => HPT.out, fun e => by cases e⟩
    case rest =>
      obtain ⟨b, rfl, S', tv', cv', np', wk', ht', hf', hg', hs', he1, he2⟩ := hcut
      have HT := Lib.hid ht'; have HF := Lib.hid hf'; have HG := Lib.hid hg'; have HS := Lib.hid hs'; have HE1 := Lib.hid he1; have HE2 := Lib.hid he2
      clear ht' hf' hg' he1 he2 q0 q1 q2 q3 q4 q5 q6 q7 q8 qf s0 s1 s2 sf x0 x1 x2 xf k3 k4
      obtain ⟨q0, q1, q2, q3, q4, q5, q6, q7, q8, qf⟩ := hs'.cells
      clear hs'
      cases b with
      | true =>
        go_wp2_with fail
        refine bodyPost_ret (v := .tuple #[]) (by simp [results, Try.results113, go_sem]) rfl ?_
        rw [HE1.out (.inl (by first | rfl | trivial))]
        exact ⟨⟨_, rfl⟩, HT.out, tv', cv', np', wk', HF.out, HG.out, HS.out⟩
      | false =>
        by_cases hfin : S'.fin = 0
        · obtain ⟨e1, e2, e3, e4⟩ := HE2.out (by first | rfl | trivial) hfin
          have hq7 : ((S'.fin : Int) == 0) = true := by rw [hfin]; rfl
          have HBK := Lib.hid (BackW HP.out HSZ.out HS.out e2 hfin e3 e4)
          go_wp2_with (go_at_call 133; refine HBK.out.mono ?_; rintro e wb ⟨⟨vb, rfl⟩, htb, tvb, cvb, npb, wkb, hfb, hgb, hsb⟩; have HTB := Lib.hid htb; have HFB := Lib.hid hfb; have HGB := Lib.hid hgb; have HSB := Lib.hid hsb; clear htb hfb hgb hsb)
          refine bodyPost_ret (v := .tuple #[]) (by simp [results, Try.results113, go_sem]) rfl ?_
          rw [e1]
          exact ⟨⟨_, rfl⟩, touch_next HT.out HF.out HG.out (Fresh.self _ _) HTB.out, tvb, cvb, npb, wkb, HF.out.trans HFB.out HT.out.size, HG.out.trans HGB.out HT.out.size, HSB.out⟩
        · have hq7 : ((S'.fin : Int) == 0) = false := by rw [beq_eq_false_iff_ne]; omega
          have HE := Lib.hid (HE1.out (.inr hfin))
          clear hfin
          go_wp2_with fail
          refine bodyPost_ret (v := .tuple #[]) (by simp [results, Try.results113, go_sem]) rfl ?_
          rw [HE.out]
          exact ⟨⟨_, rfl⟩, HT.out, tv', cv', np', wk', HF.out, HG.out, HS.out⟩

end Go.Proofs.Ytikmgiapjigghaa

/- Walk: Take of the reference's search. -/
namespace Go.Proofs.Ytikmgiapjigghaa.Emb
open Go.RowKit Go.Proofs.Ytikmgiapjigghaa

theorem rtake_wrong {p : List Cl} {S : RS} {t : Tm} (ht : look S.τ (headT S.todo) = t) (h : t.var ≠ 0) : rtake p S = { S with steps := S.steps + 1, f := 4000, fin := 4 } := by
  subst ht; simp only [rtake]; rw [if_pos h]
theorem rtake_call {p : List Cl} {S : RS} {t : Tm} (ht : look S.τ (headT S.todo) = t) (h : t.var = 0) (hm : meansB t.name t.args.length = false) {r : RS × Bool} (hr : rtry p S.todo t 0 { S with steps := S.steps + 1, f := 4000 } = r) :
    rtake p S = if r.2 = true then r.1 else rback p r.1.kept.length r.1 := by
  subst ht; simp only [rtake]; rw [if_neg (show ¬ (look S.τ (headT S.todo)).var ≠ 0 from fun e => e h), if_pos hm, hr]
theorem rtake_cut {p : List Cl} {S : RS} {t : Tm} (ht : look S.τ (headT S.todo) = t) (h : t.var = 0) (hm : meansB t.name t.args.length = true) (h1 : t.name = ⟨#[33]⟩) :
    rtake p S = { S with steps := S.steps + 1, f := 4000, kept := S.kept.take ((S.todo.head?.map (·.2)).getD 0), todo := S.todo.tail } := by
  subst ht; simp only [rtake]; rw [if_neg (show ¬ (look S.τ (headT S.todo)).var ≠ 0 from fun e => e h), if_neg (by rw [hm]; decide), if_pos h1]
theorem rtake_true {p : List Cl} {S : RS} {t : Tm} (ht : look S.τ (headT S.todo) = t) (h : t.var = 0) (hm : meansB t.name t.args.length = true) (h1 : t.name ≠ ⟨#[33]⟩) (h2 : t.name = ⟨#[116, 114, 117, 101]⟩) :
    rtake p S = { S with steps := S.steps + 1, f := 4000, todo := S.todo.tail } := by
  subst ht; simp only [rtake]; rw [if_neg (show ¬ (look S.τ (headT S.todo)).var ≠ 0 from fun e => e h), if_neg (by rw [hm]; decide), if_neg h1, if_pos h2]
theorem rtake_fail {p : List Cl} {S : RS} {t : Tm} (ht : look S.τ (headT S.todo) = t) (h : t.var = 0) (hm : meansB t.name t.args.length = true) (h1 : t.name ≠ ⟨#[33]⟩) (h2 : t.name ≠ ⟨#[116, 114, 117, 101]⟩) (h3 : t.name = ⟨#[102, 97, 105, 108]⟩) :
    rtake p S = rback p S.kept.length { S with steps := S.steps + 1, f := 4000, todo := S.todo.tail } := by
  subst ht; simp only [rtake]; rw [if_neg (show ¬ (look S.τ (headT S.todo)).var ≠ 0 from fun e => e h), if_neg (by rw [hm]; decide), if_neg h1, if_neg h2, if_pos h3]
/-- What taking a goal that makes two terms the same leaves. -/
noncomputable def eqOutR (p : List Cl) (S : RS) : MOut → RS
  | .ok τ _ f => { S with steps := S.steps + 1, τ := τ, f := f, todo := S.todo.tail }
  | .no _ _ f => rback p S.kept.length { S with steps := S.steps + 1, f := f, todo := S.todo.tail }
  | .many _ _ => { S with steps := S.steps + 1, f := 0, fin := 3, todo := S.todo.tail }

theorem rtake_eq {p : List Cl} {S : RS} {t : Tm} (ht : look S.τ (headT S.todo) = t) (h : t.var = 0) (hm : meansB t.name t.args.length = true) (h1 : t.name ≠ ⟨#[33]⟩) (h2 : t.name ≠ ⟨#[116, 114, 117, 101]⟩) (h3 : t.name ≠ ⟨#[102, 97, 105, 108]⟩) {x y : Tm} (hxy : t.args = [x, y])
    {o : MOut} (ho : meetR S.τ 4000 [(x, y)] = o) :
    rtake p S = eqOutR p S o := by
  have ho' : meetR S.τ 4000 [(t.args.getD 0 default, t.args.getD 1 default)] = o := by rw [hxy]; exact ho
  subst ht; simp only [rtake]; rw [if_neg (show ¬ (look S.τ (headT S.todo)).var ≠ 0 from fun e => e h), if_neg (by rw [hm]; decide), if_neg h1, if_neg h2, if_neg h3, ho']
  cases o <;> rfl

/-- What stands in the reference's list when it goes back is not looked at. -/
theorem rback_tau (p : List Cl) (S : RS) (τ : Sub) : REq (rback p S.kept.length S) (rback p S.kept.length { S with τ := τ }) := by
  obtain ⟨n, hn⟩ : ∃ n, S.kept.length = n := ⟨_, rfl⟩
  cases n with
  | zero => rw [hn]; exact ⟨rfl, rfl, rfl, fun e => by cases e⟩
  | succ n =>
    rw [hn]
    simp only [rback]
    have hlt : n < S.kept.length := by omega
    rw [List.getElem?_eq_getElem hlt]
    exact REq.refl _

theorem REq.trans {A B D : RS} (h : REq A B) (k : REq B D) : REq A D :=
  ⟨k.1.trans h.1, k.2.1.trans h.2.1, k.2.2.1.trans h.2.2.1, fun e => (k.2.2.2 (h.2.1.trans e)).trans (h.2.2.2 e)⟩

/-- A turn behind a turn. -/
theorem BkRPost.from {w w1 w' : World} {xs : Nat} {C C1 : Nat → Prop} {pa : Option Addr} {pc : Nat} {p : List Cl} {query : Nat} {R R1 : RS} {e : Ending} (hT : Turn w C w1 C1) (hR : REq R R1) (h : BkRPost w1 xs C1 pa pc p query R1 e w') : BkRPost w xs C pa pc p query R e w' := by
  obtain ⟨he, ht, C2, hs, bv, kv, av, ta, tc, R2, B2, wk2, hr, ha⟩ := h
  have hall := hT.trans (Turn.mk ht hs)
  exact ⟨he, hall.touch, C2, hall.same, bv, kv, av, ta, tc, R2, B2, wk2, hR.trans hr, ha⟩

set_option maxRecDepth 100000 in
set_option maxHeartbeats 8000000 in
theorem TakeW {p : List Cl} (hp : POk p) (hsz : ∀ c, c ∈ p → c.head.size ≤ 100000 ∧ ∀ b, b ∈ c.body → b.size ≤ 100000) (h6 : Bd6 p) {w : World} {xs : Nat} {C : Nat → Prop} {bv kv av : Value} {pa ta : Option Addr} {pc tc : Nat} {query : Nat} {R : RS} {B : List TmAt} {wk : Nat} (h : RSAt w xs C bv kv av pa ta pc tc p query R B wk)
    (hi : RI p R) (h0 : R.fin = 0) (hne : R.todo ≠ []) (hst : R.steps < 400) :
    Calls Try.prog 86 #[.pointer (some ⟨xs, 0, none⟩)] w (BkRPost w xs C pa pc p query (rtake p R)) := by
  obtain ⟨g0, rest, htd⟩ : ∃ g0 rest, R.todo = g0 :: rest := by
    cases hR : R.todo with
    | nil => exact absurd hR hne
    | cons a r => exact ⟨a, r, rfl⟩
  obtain ⟨b0, off0, a0, c0, hta, hok0, hb0, hc30, hcut0, hts0⟩ := h.todo.elem 0 (by rw [htd]; simp)
  subst hta
  have e00 : R.todo[0]'(by rw [htd]; simp) = g0 := by simp [htd]
  rw [e00] at hc30 hcut0 hts0
  obtain ⟨t0, cut⟩ := g0
  simp only at hc30 hcut0 hts0
  have k0 := hc30.var; have k1 := hc30.name; have k2 := hc30.args
  rw [show off0 + 0 * 4 = off0 by omega] at k0 k1 k2
  have k3 := hcut0
  rw [show off0 + 0 * 4 + 3 = off0 + 3 by omega] at k3
  obtain ⟨q0, q1, q2, q3, q4, q5, q6, q7, q8, qf⟩ := h.cells
  obtain ⟨t, ht⟩ : ∃ t, look R.τ (headT R.todo) = t := ⟨_, rfl⟩
  have htl : (0 : Int) < (R.todo.length : Int) := by rw [htd]; simp
  have htc := h.todo.room
  have hBl := h.n
  have hB1 : 1 ≤ B.length := by have := hi.n; omega
  -- the world behind the first three lines
  obtain ⟨ht1, C1, hc1, hr1⟩ := h.setSteps (R.steps + 1)
  obtain ⟨ht2, C2, hc2, hr2⟩ := hr1.setWork 0
  have hT2 : Turn w C _ C2 := (Turn.mk ht1 hc1).trans (Turn.mk ht2 hc2)
  have e1 : ((R.steps + 1 : Nat) : Int) = (R.steps : Int) + 1 := by omega
  rw [e1] at hr2 hT2
  have e2 : ((0 : Nat) : Int) = 0 := rfl
  rw [e2] at hr2 hT2
  have hs2 : ((w.setCell ⟨xs, 8, none⟩ (.int .i64 ((R.steps : Int) + 1))).setCell ⟨xs, 2, none⟩ (.int .i64 0)).heap.size = w.heap.size := by simp
  have hG : Below ((w.setCell ⟨xs, 8, none⟩ (.int .i64 ((R.steps : Int) + 1))).setCell ⟨xs, 2, none⟩ (.int .i64 0)).heap.size ((w.setCell ⟨xs, 8, none⟩ (.int .i64 ((R.steps : Int) + 1))).setCell ⟨xs, 2, none⟩ (.int .i64 0)) (((w.setCell ⟨xs, 8, none⟩ (.int .i64 ((R.steps : Int) + 1))).setCell ⟨xs, 2, none⟩ (.int .i64 0)).alloc (.cells #[.int .i64 t0.var, .string t0.name, .slice a0 t0.args.length c0, .int .i64 cut] 144)) := (Below.refl _ _).alloc (Nat.le_refl _) _
  have HSG : Hid (RSAt (((w.setCell ⟨xs, 8, none⟩ (.int .i64 ((R.steps : Int) + 1))).setCell ⟨xs, 2, none⟩ (.int .i64 0)).alloc (.cells #[.int .i64 t0.var, .string t0.name, .slice a0 t0.args.length c0, .int .i64 cut] 144)) xs C2 bv kv av pa (some ⟨b0, off0, none⟩) pc tc p query { R with steps := R.steps + 1, f := 4000 } B 0) := Lib.hid ((hr2.plain (R' := { R with steps := R.steps + 1, f := 4000 }) rfl rfl rfl rfl rfl rfl rfl).below hG)
  have hTG : Turn w C _ C2 := hT2.trans (Turn.below hG)
  have HGB : Hid ((((w.setCell ⟨xs, 8, none⟩ (.int .i64 ((R.steps : Int) + 1))).setCell ⟨xs, 2, none⟩ (.int .i64 0)).alloc (.cells #[.int .i64 t0.var, .string t0.name, .slice a0 t0.args.length c0, .int .i64 cut] 144)).heap[w.heap.size]? = some (.cells #[.int .i64 t0.var, .string t0.name, .slice a0 t0.args.length c0, .int .i64 cut] 144 (0, 0))) := Lib.hid (by
    have h1 := heap_alloc_new ((w.setCell ⟨xs, 8, none⟩ (.int .i64 ((R.steps : Int) + 1))).setCell ⟨xs, 2, none⟩ (.int .i64 0)) (.cells #[.int .i64 t0.var, .string t0.name, .slice a0 t0.args.length c0, .int .i64 cut] 144)
    rw [hs2] at h1; exact h1)
  have HNB : Hid (¬ C2 w.heap.size) := Lib.hid (fun e => by have h1 := hr2.lt _ e; rw [hs2] at h1; omega)
  have hlk : look R.τ t0 = t := by rw [← ht, htd]; rfl
  obtain ⟨ln, hln⟩ := look_spec (h.fb.inv.rank.ends) t0
  rw [h.tau, hlk] at hln
  have hfit0 : Fit R.n t0 := hi.td (t0, cut) (by rw [htd]; exact List.mem_cons_self)
  have hft : Fit R.n t := by
    have h1 := h.fb.look (t := t0) (by rw [List.length_map, h.n]; exact hfit0)
    rw [List.length_map, h.n, h.tau, hlk] at h1
    exact h1
  have htsz := hTG.ts hts0
  have HTG := Lib.hid hTG
  obtain ⟨g, cap, hbv, hrat⟩ := HSG.out.st.toAt hB1
  subst hbv
  have HLW : Hid (∀ u, Below (((w.setCell ⟨xs, 8, none⟩ (.int .i64 ((R.steps : Int) + 1))).setCell ⟨xs, 2, none⟩ (.int .i64 0)).alloc (.cells #[.int .i64 t0.var, .string t0.name, .slice a0 t0.args.length c0, .int .i64 cut] 144)).heap.size (((w.setCell ⟨xs, 8, none⟩ (.int .i64 ((R.steps : Int) + 1))).setCell ⟨xs, 2, none⟩ (.int .i64 0)).alloc (.cells #[.int .i64 t0.var, .string t0.name, .slice a0 t0.args.length c0, .int .i64 cut] 144)) u → Calls Try.prog 71 #[.pointer (some ⟨xs, 1, none⟩), .agg #[.int .i64 t0.var, .string t0.name, .slice a0 t0.args.length c0]] u (fun e w' => ∃ a1 c1, e = .returned (.agg #[.int .i64 t.var, .string t.name, .slice a1 t.args.length c1]) ∧ t.fits ∧ Ts w' (OkC (((w.setCell ⟨xs, 8, none⟩ (.int .i64 ((R.steps : Int) + 1))).setCell ⟨xs, 2, none⟩ (.int .i64 0)).alloc (.cells #[.int .i64 t0.var, .string t0.name, .slice a0 t0.args.length c0, .int .i64 cut] 144)) C2) t.args a1 c1 ∧ Below (((w.setCell ⟨xs, 8, none⟩ (.int .i64 ((R.steps : Int) + 1))).setCell ⟨xs, 2, none⟩ (.int .i64 0)).alloc (.cells #[.int .i64 t0.var, .string t0.name, .slice a0 t0.args.length c0, .int .i64 cut] 144)).heap.size (((w.setCell ⟨xs, 8, none⟩ (.int .i64 ((R.steps : Int) + 1))).setCell ⟨xs, 2, none⟩ (.int .i64 0)).alloc (.cells #[.int .i64 t0.var, .string t0.name, .slice a0 t0.args.length c0, .int .i64 cut] 144)) w' ∧ ∀ b x0 x1 x2, Box3 u b x0 x1 x2 → Box3 w' b x0 x1 x2)) := Lib.hid (fun u hu => by
    refine (LookAtW (hrat.keep hu) (fun j hj => inB_of (by have := h.fb.each _ (List.mem_map_of_mem (f := (·.1)) (List.getElem_mem hj)); simpa using this)) (by rw [h.tau]; exact hln) hc30.fits (htsz.keep (Keeps.below hu _)) (inB_of (by rw [h.n]; exact hfit0))).mono ?_
    rintro e w' ⟨a1, c1, he, hf, hts, hb⟩
    exact ⟨a1, c1, he, hf, hts, hu.trans (hb.mono hu.size), fun b x0 x1 x2 hx => hx.below hb⟩)
  have HP := Lib.hid hp; have HSZ := Lib.hid hsz; have H6 := Lib.hid h6; have HI := Lib.hid hi; have HTD := Lib.hid htd; have H0 := Lib.hid h0; have HNE := Lib.hid hne; have HST := Lib.hid hst; have HTT := Lib.hid ht; have HFT := Lib.hid hft; have HTC := Lib.hid htc
  have hsteps : R.steps < 400 := hst
  have lxs := h.xlt
  clear h hp hsz h6 hi htd h0 hne hst ht hft htc ht1 hc1 hr1 ht2 hc2 hr2 hT2 hG hTG hlk hln hfit0 htsz hrat hts0 hcut0 hc30 hok0 e00 e1 e2 hB1 hBl
  go_enter Try.func86, Try.ntmps86
  go_upto_region 3 with fail
  generalize hwz : (((w.setCell ⟨xs, 8, none⟩ (.int .i64 ((R.steps : Int) + 1))).setCell ⟨xs, 2, none⟩ (.int .i64 0)).alloc (.cells #[.int .i64 t0.var, .string t0.name, .slice a0 t0.args.length c0, .int .i64 cut] 144)) = wz at *
  clear hwz hs2 q0 q1 q2 q3 q4 q5 q6 q7 q8 qf k0 k1 k2 k3
  have hgb := HGB.out
  have k0 : wz.cell? ⟨w.heap.size, 0, none⟩ = some (.int .i64 t0.var) := by simp [World.cell?, hgb]
  have k1 : wz.cell? ⟨w.heap.size, 1, none⟩ = some (.string t0.name) := by simp [World.cell?, hgb]
  have k2 : wz.cell? ⟨w.heap.size, 2, none⟩ = some (.slice a0 t0.args.length c0) := by simp [World.cell?, hgb]
  have k3 : wz.cell? ⟨w.heap.size, 3, none⟩ = some (.int .i64 cut) := by simp [World.cell?, hgb]
  have lgb : w.heap.size < wz.heap.size := (Array.getElem?_eq_some_iff.1 hgb).1
  clear hgb
  have lxz := HSG.out.xlt
  go_cut [3] (fun v3 wx => ∃ b3 a1 c1, v3 = .pointer (some ⟨b3, 0, none⟩) ∧ wz.heap.size ≤ b3 ∧ Box3 wx b3 (.int .i64 t.var) (.string t.name) (.slice a1 t.args.length c1) ∧ Below wz.heap.size wz wx ∧ t.fits ∧ Ts wx (OkC wz C2) t.args a1 c1)
  case first =>
    go_region_with (first
      | (go_at_call 71; refine (HLW.out _ (by with_reducible exact (Below.refl _ _).drew)).mono ?_; rintro e w1 ⟨a1, c1, rfl, hf1, ht1, hb1, hbx⟩; have HF1 := Lib.hid hf1; have HT1 := Lib.hid ht1; have HB1' := Lib.hid hb1; clear hf1 ht1 hb1 hbx)
      | (go_at_call 71; refine (HLW.out _ (by with_reducible exact ((Below.refl _ _).alloc (Nat.le_refl _) _).drew)).mono ?_; rintro e w1 ⟨a1, c1, rfl, hf1, ht1, hb1, hbx⟩; have HF1 := Lib.hid hf1; have HT1 := Lib.hid ht1; have HB1' := Lib.hid hb1; have hz := hbx _ _ _ _ ((Box3.made wz (.int .i64 0) (.string ⟨#[]⟩) (.slice none 0 0)).below (Below.refl _ _).drew); have HZ := Lib.hid hz; obtain ⟨z0, z1, z2, zf⟩ := hz.all; have zl := hz.lt; clear hz hf1 ht1 hb1 hbx))
    all_goals
      go_wp2_with fail
      go_meet
      first
        | exact ⟨_, a1, c1, rfl, HB1'.out.size, Box3.made _ _ _ _, HB1'.out.alloc HB1'.out.size _, HF1.out, HT1.out.keep (Keeps.below ((Below.refl _ _).alloc (Nat.le_refl _) _) _)⟩
        | exact ⟨_, a1, c1, rfl, Nat.le_refl _, HZ.out.put _ _ _, below_put HB1'.out (Nat.le_refl _) _ _ _, HF1.out, HT1.out.keep ((touch_put _ _ _ _ _).keeps fun b hb e => by have := hb.1; omega)⟩
  case rest =>
    obtain ⟨b3, a1, c1, rfl, hb3, hx3, hbx, hf3, ht3⟩ := hcut
    have HX3 := Lib.hid hx3; have HF3 := Lib.hid hf3
    have HSA := Lib.hid (HSG.out.below hbx)
    have HT3 : Hid (Ts wc (OkC wc C2) t.args a1 c1) := Lib.hid (ht3.mono fun b _ hb => OkC.next hbx.size (SameC.refl _ _) hb)
    have HN3 : Hid (¬ C2 b3) := Lib.hid (fun e => by have := HSG.out.lt _ e; omega)
    have HTA := Lib.hid (HTG.out.trans (Turn.below hbx))
    have hgb := (hbx.block w.heap.size lgb).trans HGB.out
    have HGA := Lib.hid hgb
    have g0 : wc.cell? ⟨w.heap.size, 1 + 2, none⟩ = some (.int .i64 cut) := by simp [World.cell?, hgb]
    have g1 : wc.cell? ⟨w.heap.size, 3, none⟩ = some (.int .i64 cut) := g0
    have lga : w.heap.size < wc.heap.size := Nat.lt_of_lt_of_le lgb hbx.size
    clear hx3 hf3 hbx ht3 hgb k0 k1 k2 k3 HSG HLW HTG HGB g0
    generalize wc = wa at *
    obtain ⟨q0, q1, q2, q3, q4, q5, q6, q7, q8, qf⟩ := HSA.out.cells
    obtain ⟨x0, x1, x2, xf⟩ := HX3.out.all
    have lb3 : b3 < wa.heap.size := HX3.out.lt
    have lxa := HSA.out.xlt
    by_cases hv : t.var = 0
    · have HV := Lib.hid hv
      have hv1 : (t.var != 0) = false := by rw [hv]; rfl
      clear hv
      by_cases hm : meansB t.name t.args.length = false
      · --BEGIN CALL
        have HBW : Hid (∀ u, Calls Try.prog 64 #[.string t.name, .int .i64 t.args.length] u fun e w' => e = .returned (.bool false) ∧ u = w') := Lib.hid (fun u => by
          have := IsBuiltinW t.name t.args.length u
          rw [hm] at this; exact this)
        have HTI : Hid (TInv p R.todo t { R with steps := R.steps + 1, f := 4000 }) := Lib.hid ⟨HNE.out, HTT.out, HFT.out, HI.out.td, by have := HI.out.n; simp only; omega, Nat.le_refl _, by have := HI.out.kl; simp only; omega, by have := HI.out.len; omega, H0.out⟩
        have HTW : Hid (Calls Try.prog 115 #[.pointer (some ⟨xs, 0, none⟩), .int .i64 0] wa (TryPost wa xs C2 av pa pc p query (rtry p R.todo t 0 { R with steps := R.steps + 1, f := 4000 }))) := Lib.hid (TryW HP.out HSZ.out (fun c hc => by have := H6.out c hc; omega) (R := { R with steps := R.steps + 1, f := 4000 }) HSA.out HTI.out (i := 0) (Nat.zero_le _))
        have hcs := rtry_cases p R.todo t (p.length - 0) 0 { R with steps := R.steps + 1, f := 4000 } rfl
        rcases hcs with ⟨f, h1, hf⟩ | h1 | ⟨τ, f, j, hj, h1, hf⟩
        · have HPT := Lib.hid (rtake_call HTT.out HV.out hm h1)
          rw [h1] at HTW
          have HBI : Hid (BI p { R with steps := R.steps + 1, f := f }) := Lib.hid ⟨fun c hc => (HI.out.kept c hc).up (by simp only; omega), by have := HI.out.kl; simp only; omega, by simp only; omega, H0.out⟩
          clear hm h1
          go_wp2_with (first
            | (go_at_call 64; refine (HBW.out _).mono ?_; rintro e wM ⟨rfl, rfl⟩)
            | (go_at_call 115; refine HTW.out.mono ?_; rintro e wk2 ⟨rfl, htk, Ck, hsk, bvk, kvk, tak, tck, Rk, Bk, wkk, hre, hrk, -⟩; have HTK := Lib.hid (Turn.mk htk hsk : Turn wa C2 wk2 Ck); have hrk2 := hre.2.2.2 H0.out; subst hrk2; have HRK := Lib.hid hrk; clear htk hsk hre hrk)
            | (go_at_call 114; refine (BackW HP.out HSZ.out H6.out HRK.out HBI.out).mono ?_; rintro e wB hpB; have HPB := Lib.hid hpB; obtain ⟨⟨vB, rfl⟩, -⟩ := hpB))
          refine bodyPost_ret (v := .tuple #[]) (by simp [results, Try.results86, go_sem]) rfl ?_
          rw [HPT.out]
          have hpB := HPB.out
          exact (BkRPost.from (HTA.out.trans HTK.out) (REq.refl _) ⟨⟨_, rfl⟩, hpB.2⟩)
        · have HPT := Lib.hid (rtake_call HTT.out HV.out hm h1)
          rw [h1] at HTW
          clear hm h1
          go_wp2_with (first
            | (go_at_call 64; refine (HBW.out _).mono ?_; rintro e wM ⟨rfl, rfl⟩)
            | (go_at_call 115; refine HTW.out.mono ?_; rintro e wk2 ⟨rfl, htk, Ck, hsk, bvk, kvk, tak, tck, Rk, Bk, wkk, hre, hrk, -⟩; have HTK := Lib.hid (Turn.mk htk hsk : Turn wa C2 wk2 Ck); have HRE := Lib.hid hre; have HRK := Lib.hid hrk; clear htk hsk hre hrk))
          refine bodyPost_ret (v := .tuple #[]) (by simp [results, Try.results86, go_sem]) rfl ?_
          rw [HPT.out]
          exact ⟨⟨_, rfl⟩, (HTA.out.trans HTK.out).touch, Ck, (HTA.out.trans HTK.out).same, bvk, kvk, av, tak, tck, Rk, Bk, wkk, HRE.out, HRK.out⟩
        · have HPT := Lib.hid (rtake_call HTT.out HV.out hm h1)
          rw [h1] at HTW
          clear hm h1
          go_wp2_with (first
            | (go_at_call 64; refine (HBW.out _).mono ?_; rintro e wM ⟨rfl, rfl⟩)
            | (go_at_call 115; refine HTW.out.mono ?_; rintro e wk2 ⟨rfl, htk, Ck, hsk, bvk, kvk, tak, tck, Rk, Bk, wkk, hre, hrk, -⟩; have HTK := Lib.hid (Turn.mk htk hsk : Turn wa C2 wk2 Ck); have HRE := Lib.hid hre; have HRK := Lib.hid hrk; clear htk hsk hre hrk))
          refine bodyPost_ret (v := .tuple #[]) (by simp [results, Try.results86, go_sem]) rfl ?_
          rw [HPT.out]
          exact ⟨⟨_, rfl⟩, (HTA.out.trans HTK.out).touch, Ck, (HTA.out.trans HTK.out).same, bvk, kvk, av, tak, tck, Rk, Bk, wkk, HRE.out, HRK.out⟩
      · have HM : Hid (meansB t.name t.args.length = true) := Lib.hid (by simpa using hm)
        have HBW : Hid (∀ u, Calls Try.prog 64 #[.string t.name, .int .i64 t.args.length] u fun e w' => e = .returned (.bool true) ∧ u = w') := Lib.hid (fun u => by
          have := IsBuiltinW t.name t.args.length u
          rw [HM.out] at this; exact this)
        clear hm
        have hrl : R.todo.length = rest.length + 1 := by rw [HTD.out]; simp
        have HTODW : Hid (TdAt wa (OkC wa C2) ((t0, cut) :: rest) (some ⟨b0, off0, none⟩) tc) := Lib.hid (by have h := HSA.out.todo; simp only [HTD.out] at h; exact h)
        have htcl : rest.length + 1 ≤ tc ∧ tc ≤ maxLen := by have := HTODW.out.room; simp only [List.length_cons] at this; omega
        have hrl9 : rest.length ≤ 900000 := by have := HI.out.len; omega
        have hml := htcl.2
        unfold maxLen at hml
        rw [hrl] at q3
        have hrest1 : (1 : Int) ≤ ((rest.length + 1 : Nat) : Int) := by omega
        clear hrl
        go_upto_region 9 with (go_at_call 64; refine (HBW.out _).mono ?_; rintro e wM ⟨rfl, rfl⟩)
        go_cut [] (fun wx => ∃ Cb tb, Turn wa C2 wx Cb ∧ RSAt wx xs Cb (.slice (some ⟨g, 0, none⟩) B.length cap) kv av pa tb pc (tc - 1) p query { R with steps := R.steps + 1, f := 4000, todo := rest } B 0)
        case first =>
          by_cases htc : tc = 1
          · subst htc
            have hr0 : rest.length = 0 := by omega
            obtain ⟨ht4, C4, hs4, hr4⟩ := HSA.out.setTodo (HTODW.out.tail (a' := some ⟨b0, off0, none⟩) (.inl ⟨List.eq_nil_of_length_eq_zero hr0, rfl⟩))
            rw [hr0] at q3 ht4 hr4 hrest1
            have HT4 := Lib.hid (Turn.mk ht4 hs4 : Turn wa C2 _ C4); have HR4 := Lib.hid hr4
            clear ht4 hs4 hr4 htcl hr0 hrl9
            go_wp2_with fail
            go_meet
            exact ⟨C4, _, HT4.out, HR4.out⟩
          · obtain ⟨ht4, C4, hs4, hr4⟩ := HSA.out.setTodo (HTODW.out.tail (a' := some ⟨b0, off0 + 4, none⟩) (.inr rfl))
            have HT4 := Lib.hid (Turn.mk ht4 hs4 : Turn wa C2 _ C4); have HR4 := Lib.hid hr4
            clear ht4 hs4 hr4
            go_wp2_with fail
            go_meet
            exact ⟨C4, _, HT4.out, HR4.out⟩
        case rest =>
          obtain ⟨Cb, tb, htb, hrb⟩ := hcut
          have HTB := Lib.hid (HTA.out.trans htb)
          have HSB := Lib.hid hrb
          have HX4 := Lib.hid (htb.box HX3.out HN3.out)
          have HTS := Lib.hid (htb.ts HT3.out)
          have hcol : ¬ C2 w.heap.size := HNB.out
          have hgb := (htb.touch.block w.heap.size lga hcol).trans HGA.out
          have g1 : wc.cell? ⟨w.heap.size, 1, none⟩ = wc.cell? ⟨w.heap.size, 1, none⟩ := rfl
          have g3 : wc.cell? ⟨w.heap.size, 3, none⟩ = some (.int .i64 cut) := by simp [World.cell?, hgb]
          clear g1 hcol hgb htb hrb q0 q1 q2 q3 q4 q5 q6 q7 q8 qf x0 x1 x2 xf HSA HX3 HN3 HT3 HTA HGA HNB htcl hml hrest1 hrl9 HTODW
          generalize wc = wb at *
          obtain ⟨q0, q1, q2, q3, q4, q5, q6, q7, q8, qf⟩ := HSB.out.cells
          obtain ⟨x0, x1, x2, xf⟩ := HX4.out.1.all
          have lb4 : b3 < wb.heap.size := HX4.out.1.lt
          have lxb := HSB.out.xlt
          have hcutd : (R.todo.head?.map (·.2)).getD 0 = cut := by rw [HTD.out]; rfl
          have htail : R.todo.tail = rest := by rw [HTD.out]; rfl
          rcases name_kinds t.name with ⟨k, h1⟩ | ⟨k, h1, h2⟩ | ⟨k, h1, h2, h3⟩ | ⟨k, h1, h2, h3, h4⟩ | ⟨k, h1, h2, h3, h4⟩
          · --BEGIN CUT
            have HPT := Lib.hid (rtake_cut (p := p) HTT.out HV.out HM.out (bytes_of k))
            rw [hcutd, htail] at HPT
            have f1 : (t.name.toList == [102, 97, 105, 108]) = false := by rw [k]; rfl
            have f2 : (t.name.toList == [101, 113]) = false := by rw [k]; rfl
            clear k hcutd htail
            by_cases hcl : cut < R.kept.length
            · have hcl1 : (cut : Int) < (R.kept.length : Int) := by omega
              obtain ⟨K, hK, hKr, _⟩ := HSB.out.kept
              have hKl : K.length = R.kept.length := by rw [← List.length_map (f := KEnt.ch), hK]
              obtain ⟨gk, kc, hkv⟩ := own_shape hKr (by omega)
              have hkc : R.kept.length ≤ kc ∧ kc ≤ 9223372036854775807 := by
                obtain ⟨a', c', e', h5, h6⟩ := row_cap hKr
                rw [hkv] at e'
                simp only [Value.slice.injEq] at e'
                omega
              rw [hKl] at hkv
              subst hkv
              obtain ⟨htc, C5, hsc, hrc⟩ := HSB.out.cut (k := cut) (by simp only; omega)
              have hcv : cutV (.slice (some ⟨gk, 0, none⟩) R.kept.length kc) cut = .slice (some ⟨gk, 0, none⟩) cut kc := rfl
              rw [hcv] at htc hrc
              have HFIN : Hid (∀ u, Below (wb.setCell ⟨xs, 4, none⟩ (.slice (some ⟨gk, 0, none⟩) cut kc)).heap.size (wb.setCell ⟨xs, 4, none⟩ (.slice (some ⟨gk, 0, none⟩) cut kc)) u → BkRPost w xs C pa pc p query (rtake p R) (.returned (.tuple #[])) u) := Lib.hid (fun u hu => by
                have hT := HTB.out.trans ((Turn.mk htc hsc).trans (Turn.below hu))
                rw [HPT.out]
                exact ⟨⟨_, rfl⟩, hT.touch, C5, hT.same, _, _, _, _, _, _, _, _, REq.refl _, hrc.below hu⟩)
              have hck : (cut : Int) ≤ (kc : Int) := by omega
              have hc0 : (0 : Int) ≤ (cut : Int) := by omega
              clear hK hKr hKl hcv htc hsc hrc hcl
              go_wp2_with fail
              go_region
              all_goals
                go_wp2_with fail
                go_region
                all_goals
                  go_wp2_with fail
                  refine bodyPost_ret (v := .tuple #[]) (by simp [results, Try.results86, go_sem]) rfl ?_
                  exact HFIN.out _ (by first | exact Below.refl _ _ | exact (Below.refl _ _).drew | exact (Below.refl _ _).drew.drew)
            · have hcl1 : ¬ (cut : Int) < (R.kept.length : Int) := by omega
              obtain ⟨K, hK, hKr, _⟩ := HSB.out.kept
              have hKl : K.length = R.kept.length := by rw [← List.length_map (f := KEnt.ch), hK]
              obtain ⟨ka, kc, hkv, hk1, hk2⟩ := row_cap hKr
              rw [hKl] at hkv
              subst hkv
              have HFIN : Hid (∀ u, Below wb.heap.size wb u → BkRPost w xs C pa pc p query (rtake p R) (.returned (.tuple #[])) u) := Lib.hid (fun u hu => by
                have hT := HTB.out.trans (Turn.below hu)
                rw [HPT.out, List.take_of_length_le (by omega)]
                exact ⟨⟨_, rfl⟩, hT.touch, Cb, hT.same, _, _, _, _, _, _, _, _, REq.refl _, HSB.out.below hu⟩)
              clear hK hKr hKl hcl
              go_wp2_with fail
              go_region
              all_goals
                go_wp2_with fail
                refine bodyPost_ret (v := .tuple #[]) (by simp [results, Try.results86, go_sem]) rfl ?_
                exact HFIN.out _ (by first | exact Below.refl _ _ | exact (Below.refl _ _).drew | exact (Below.refl _ _).drew.drew)
          · --BEGIN TRUE
            have HPT := Lib.hid (rtake_true (p := p) HTT.out HV.out HM.out (bytes_ne h1) (bytes_of k))
            rw [htail] at HPT
            have f1 : (t.name.toList == [102, 97, 105, 108]) = false := by rw [k]; rfl
            have f2 : (t.name.toList == [101, 113]) = false := by rw [k]; rfl
            clear k hcutd htail
            go_wp2_with fail
            refine bodyPost_ret (v := .tuple #[]) (by simp [results, Try.results86, go_sem]) rfl ?_
            rw [HPT.out]
            exact ⟨⟨_, rfl⟩, HTB.out.touch, Cb, HTB.out.same, _, _, _, _, _, _, _, _, REq.refl _, HSB.out⟩
          · --BEGIN FAIL
            have HPT := Lib.hid (rtake_fail (p := p) HTT.out HV.out HM.out (bytes_ne h1) (bytes_ne h2) (bytes_of k))
            rw [htail] at HPT
            have HBI : Hid (BI p { R with steps := R.steps + 1, f := 4000, todo := rest }) := Lib.hid ⟨fun c hc => (HI.out.kept c hc).up (by simp only; omega), by have := HI.out.kl; simp only; omega, by simp only; omega, H0.out⟩
            clear k hcutd htail
            go_wp2_with (go_at_call 114; refine (BackW HP.out HSZ.out H6.out HSB.out HBI.out).mono ?_; rintro e wB hpB; have HPB := Lib.hid hpB; obtain ⟨⟨vB, rfl⟩, -⟩ := hpB)
            refine bodyPost_ret (v := .tuple #[]) (by simp [results, Try.results86, go_sem]) rfl ?_
            rw [HPT.out]
            have hpB := HPB.out
            exact (BkRPost.from HTB.out (REq.refl _) ⟨⟨_, rfl⟩, hpB.2⟩)
          · --BEGIN EQ
            have hl2 := means_two (t := t) (by rw [HM.out]; decide) (bytes_ne h1) (bytes_ne h2) (bytes_ne h3)
            obtain ⟨x, y, hxy⟩ : ∃ x y, t.args = [x, y] := by
              match hA : t.args, hl2 with
              | [x, y], _ => exact ⟨x, y, rfl⟩
            obtain ⟨mo, hmo⟩ : ∃ mo, meetR R.τ 4000 [(x, y)] = mo := ⟨_, rfl⟩
            have HPT := Lib.hid (rtake_eq (p := p) HTT.out HV.out HM.out (bytes_ne h1) (bytes_ne h2) (bytes_ne h3) hxy hmo)
            have hfx : Fit R.n x := HFT.out.arg (by rw [hxy]; simp)
            have hfy : Fit R.n y := HFT.out.arg (by rw [hxy]; simp)
            have hts := HTS.out
            rw [hxy] at hts
            obtain ⟨b5, off5, a5, c5, ha5, hok5, hb5, hc5, ht5⟩ := hts.at 0 (by simp)
            obtain ⟨b6, off6, a6, c6, ha6, hok6, hb6, hc6, ht6⟩ := hts.at 1 (by simp)
            subst ha5
            simp only [Option.some.injEq, Addr.mk.injEq, and_true] at ha6
            obtain ⟨rfl, rfl⟩ := ha6
            have hx3 : Cells3 wb b5 off5 x a5 c5 := by simpa using hc5
            have hy3 : Cells3 wb b5 (off5 + 3) y a6 c6 := by simpa using hc6
            have p0 := hx3.var; have p1 := hx3.name; have p2 := hx3.args
            have p3 := hy3.var; have p4 := hy3.name; have p5 := hy3.args
            have HT5 : Hid (Ts wb (OkC wb Cb) x.args a5 c5) := Lib.hid (by simpa using ht5)
            have HT6 : Hid (Ts wb (OkC wb Cb) y.args a6 c6) := Lib.hid (by simpa using ht6)
            have HXF := Lib.hid hx3.fits; have HYF := Lib.hid hy3.fits
            have HFX := Lib.hid hfx; have HFY := Lib.hid hfy
            have HMT : Hid (∀ u, Below wb.heap.size wb u → Calls Try.prog 70 #[.pointer (some ⟨xs, 1, none⟩), .agg #[.int .i64 x.var, .string x.name, .slice a5 x.args.length c5], .agg #[.int .i64 y.var, .string y.name, .slice a6 y.args.length c6]] u (fun e w' => ∃ n : Int, e = .returned (.int .i64 n) ∧ MeetRPost (zOf p pa pc tb (tc - 1) kv av query { R with steps := R.steps + 1, f := 4000, todo := rest }) u (OkC u Cb) xs g cap B.length (meetR R.τ 4000 [(x, y)]) (.returned (.int .i64 n)) w')) := Lib.hid (fun u hu => by
              obtain ⟨g', cap', e', hr'⟩ := (HSB.out.below hu).st.toAt (by have := HSB.out.n; have := HI.out.n; simp only at *; omega)
              simp only [Value.slice.injEq, Option.some.injEq, Addr.mk.injEq, true_and, and_true] at e'
              obtain ⟨rfl, rfl⟩ := e'
              have hn := HSB.out.n
              simp only at hn
              have hm := MeetW (f := 4000) (Nat.le_refl _) hr' HSB.out.fb HXF.out HYF.out ((HT5.out.keep (Keeps.below hu _)).mono fun b hb' hk => ⟨Nat.lt_of_lt_of_le hk.1 hu.size, hk.2⟩) ((HT6.out.keep (Keeps.below hu _)).mono fun b hb' hk => ⟨Nat.lt_of_lt_of_le hk.1 hu.size, hk.2⟩) (by rw [hn]; exact HFX.out) (by rw [hn]; exact HFY.out)
              have htau := HSB.out.tau
              simp only at htau
              rw [htau] at hm
              refine hm.mono fun e w' hp => ?_
              have hform : ∃ n : Int, e = .returned (.int .i64 n) := by
                obtain ⟨_, B', _, _, h3⟩ := hp
                revert h3
                cases meetR R.τ 4000 [(x, y)] with
                | ok _ _ _ => exact fun h => ⟨_, h.1⟩
                | no _ _ _ => exact fun h => ⟨_, h.1⟩
                | many _ _ => exact fun h => ⟨_, h.1⟩
              obtain ⟨n, rfl⟩ := hform
              exact ⟨n, rfl, hp⟩)
            have x2' : wb.cell? ⟨b3, 2, none⟩ = some (.slice (some ⟨b5, off5, none⟩) 2 c1) := by rw [x2, hl2]
            clear x2 hx3 hy3 hc5 hc6 ht5 ht6 hts hfx hfy hok5 hok6 hb6 hxy k hl2 hcutd
            go_upto_region 17 with fail
            go_cut [4] (fun v4 wx => ∃ (u : World) (n : Int), v4 = .int .i64 n ∧ Below wb.heap.size wb u ∧ MeetRPost (zOf p pa pc tb (tc - 1) kv av query { R with steps := R.steps + 1, f := 4000, todo := rest }) u (OkC u Cb) xs g cap B.length (meetR R.τ 4000 [(x, y)]) (.returned (.int .i64 n)) wx)
            case first =>
              go_still_tail 11, (by kernel_rfl)
              change wpList _ _ _ _ _ wb.drew
              go_wp2_with (go_at_call 70; refine (HMT.out _ (by with_reducible exact (Below.refl _ _).drew)).mono ?_; rintro e wS ⟨nS, rfl, hpS⟩; have HPS := Lib.hid hpS; clear hpS)
              all_goals
                go_wp2_with fail
                go_meet
                exact ⟨_, nS, rfl, (Below.refl _ _).drew, HPS.out⟩
            case rest =>
              obtain ⟨u, n, rfl, hu, hps⟩ := hcut
              obtain ⟨C5, B5, htn, hmet⟩ := (HSB.out.below hu).met hps
              have HT7 := Lib.hid (HTB.out.trans ((Turn.below hu).trans htn))
              rw [hmo] at hmet
              clear hu hps htn q0 q1 q2 q3 q4 q5 q6 q7 q8 qf x0 x1 xf x2' g3 p0 p1 p2 p3 p4 p5 HMT hmo HSB HX4 HTS HT5 HT6 lb4 lxb hb5
              generalize wc = wm at *
              cases mo with
              | ok σ' L' f' =>
                obtain ⟨rfl, hr⟩ := hmet
                have HR := Lib.hid hr
                obtain ⟨q0, q1, q2, q3, q4, q5, q6, q7, q8, qf⟩ := hr.cells
                have lxm := hr.xlt
                clear hr
                go_wp2_with fail
                refine bodyPost_ret (v := .tuple #[]) (by simp [results, Try.results86, go_sem]) rfl ?_
                rw [HPT.out]
                simp only [eqOutR]
                rw [htail]
                exact ⟨⟨_, rfl⟩, HT7.out.touch, C5, HT7.out.same, _, _, _, _, _, _, _, _, REq.refl _, HR.out⟩
              | no σ' L' f' =>
                obtain ⟨rfl, hr⟩ := hmet
                have HR := Lib.hid hr
                obtain ⟨q0, q1, q2, q3, q4, q5, q6, q7, q8, qf⟩ := hr.cells
                have lxm := hr.xlt
                have HBI : Hid (BI p { R with steps := R.steps + 1, τ := σ', f := f', todo := rest }) := Lib.hid ⟨fun c hc => (HI.out.kept c hc).up (by simp only; omega), by have := HI.out.kl; simp only; omega, by simp only; omega, H0.out⟩
                clear hr
                go_wp2_with (go_at_call 114; refine (BackW HP.out HSZ.out H6.out HR.out HBI.out).mono ?_; rintro e wB hpB; have HPB := Lib.hid hpB; obtain ⟨⟨vB, rfl⟩, -⟩ := hpB)
                refine bodyPost_ret (v := .tuple #[]) (by simp [results, Try.results86, go_sem]) rfl ?_
                rw [HPT.out]
                simp only [eqOutR]
                rw [htail]
                have hpB := HPB.out
                exact (BkRPost.from HT7.out (rback_tau p { R with steps := R.steps + 1, f := f', todo := rest } σ') ⟨⟨_, rfl⟩, hpB.2⟩)
              | many σ' L' =>
                obtain ⟨rfl, hr⟩ := hmet
                obtain ⟨ht8, C8, hs8, hr8⟩ := hr.setFin 3
                obtain ⟨q0, q1, q2, q3, q4, q5, q6, q7, q8, qf⟩ := hr.cells
                have lxm := hr.xlt
                have HT8 := Lib.hid (HT7.out.trans (Turn.mk ht8 hs8)); have HR8 := Lib.hid hr8
                clear hr ht8 hs8 hr8
                go_wp2_with fail
                refine bodyPost_ret (v := .tuple #[]) (by simp [results, Try.results86, go_sem]) rfl ?_
                rw [HPT.out]
                simp only [eqOutR]
                exact ⟨⟨_, rfl⟩, HT8.out.touch, C8, HT8.out.same, _, _, _, _, _, { R with steps := R.steps + 1, τ := σ', f := 4000, todo := rest, fin := 3 }, _, _, ⟨rfl, rfl, rfl, fun e => by cases e⟩, HR8.out⟩
          · exact absurd (HM.out.symm.trans (means_no k.1 k.2.1 k.2.2.1 k.2.2.2)) (by decide)
    · --BEGIN WRONG
      have hv1 : (t.var != 0) = true := by rw [bne_iff_ne]; exact hv
      have HPT := Lib.hid (rtake_wrong (p := p) HTT.out hv)
      obtain ⟨htf, C4, hsf, hrf⟩ := HSA.out.setFin 4
      have HTF := Lib.hid (HTA.out.trans (Turn.mk htf hsf)); have HRF := Lib.hid hrf
      clear hv htf hsf hrf
      go_wp2_with fail
      refine bodyPost_ret (v := .tuple #[]) (by simp [results, Try.results86, go_sem]) rfl ?_
      rw [HPT.out]
      exact ⟨⟨_, rfl⟩, HTF.out.touch, C4, HTF.out.same, _, _, _, _, _, _, _, _, REq.refl _, HRF.out⟩

end Go.Proofs.Ytikmgiapjigghaa.Emb

/- Walk: the searcher tells an answer. -/
namespace Go.Proofs.Ytikmgiapjigghaa
open Go.RowKit

/-- What telling an answer leaves. -/
def AnPost (w : World) (br bs bm : Nat) (tv cv av : Value) (pa : Option Addr) (pc : Nat) (p : List Cl) (query : Nat) (S' : PS) (e : Ending) (w' : World) : Prop :=
  (∃ v, e = .returned v) ∧ Touch (SM br bs bm tv cv av) w w' ∧ ∃ (tv' cv' av' : Value) (np' : Option Addr) (wk' : Nat), Fresh w tv tv' ∧ Fresh w cv cv' ∧ Fresh w av av' ∧ SAt w' br bs bm tv' cv' av' np' pa pc p query S' wk'

theorem varsL_succ (n : Nat) : varsL (n + 1) = varsL n ++ [VarT ((n : Int) + 1)] := by simp [varsL, List.range_succ]
theorem varsL_take (n m : Nat) (h : n ≤ m) : (varsL m).take n = varsL n := by
  unfold varsL
  rw [← List.map_take, List.take_range, Nat.min_eq_left h]

theorem Try.infoAn1 : (Try.prog.info? 146).map (fun i => (i.size, i.bytes)) = some (1, 24) := by kernel_rfl
theorem Try.infoAn2 : ((Try.prog.info? 146).bind (fun i => i.zero)).map (fun z => z.cells.size) = some 1 := by kernel_rfl
theorem infoAn : ∃ i z, Try.prog.info? 146 = some i ∧ i.zero = some z ∧ i.size = 1 ∧ i.bytes = 24 ∧ z.cells.size = 1 := by
  have h1 := Try.infoAn1; have h2 := Try.infoAn2
  obtain ⟨i, hi, h3⟩ := Option.map_eq_some_iff.1 h1
  obtain ⟨z, hz, h4⟩ := Option.map_eq_some_iff.1 h2
  rw [hi, Option.bind_some] at hz
  simp only [Prod.mk.injEq] at h3
  exact ⟨i, z, hi, hz, h3.1, h3.2, h4⟩

theorem make_mapN (w : World) : (Instr.makeMap 115 none).run Try.prog w = .ok (.map (some w.heap.size)) (w.alloc (.map #[] 0)) := by kernel_rfl

set_option maxRecDepth 100000 in
set_option maxHeartbeats 4000000 in
theorem AnswerW {p : List Cl} (hp : POk p) (hsz : ∀ c, c ∈ p → c.head.size ≤ 100000 ∧ ∀ b, b ∈ c.body → b.size ≤ 100000) {w : World} {br bs bm : Nat} {tv cv av : Value} {np pa : Option Addr} {pc : Nat} {query : Nat} {S : PS} {wk : Nat} (h : SAt w br bs bm tv cv av np pa pc p query S wk)
    (hi : RInv p S) (h0 : S.fin = 0) (hq : query ≤ 12) :
    Calls Try.prog 112 #[.pointer (some ⟨br, 0, none⟩)] w (AnPost w br bs bm tv cv av pa pc p query (pansw p query S)) := by
  obtain ⟨hP, hA40⟩ := hi.core h0
  have hpot := hi.pot
  have hst := hi.steps
  obtain ⟨q0, q1, q2, q3, q4, q5, q6, q7, q8, qf⟩ := h.cells
  have H := Lib.hid h; have HP := Lib.hid hp; have HSZ := Lib.hid hsz; have HPI := Lib.hid hP; have HPOT := Lib.hid hpot; have H0 := Lib.hid h0; have HST := Lib.hid hst; have H40 := Lib.hid hA40
  have hmk := make_mapN w
  clear h hp hsz hi h0 hP hpot hst hA40
  go_enter Try.func112, Try.ntmps112
  go_wp2_with fail
  -- LOOP
  have hW1 : Below w.heap.size w (((w.alloc (.map #[] 0)).alloc (.cells #[.map (some w.heap.size)] 115)).alloc (.cells #[.int .i64 200] 3)) := (((Below.refl _ _).alloc (Nat.le_refl _) _).alloc (by simp) _).alloc (by simp; omega) _
  have hszb : (((w.alloc (.map #[] 0)).alloc (.cells #[.map (some w.heap.size)] 115)).alloc (.cells #[.int .i64 200] 3)).heap.size = w.heap.size + 3 := by simp
  have hNB : NmI (w.heap.size + 1) w.heap.size (((w.alloc (.map #[] 0)).alloc (.cells #[.map (some w.heap.size)] 115)).alloc (.cells #[.int .i64 200] 3)) [] := by
    refine ⟨?_, ?_, by omega⟩
    · rw [Below.heap_alloc _ _ _ (by simp)]
      have := heap_alloc_new (w.alloc (.map #[] 0)) (.cells #[.map (some w.heap.size)] 115)
      simpa using this
    · have h1 := IMap.made (P := Try.prog) (kt := 3) w
      have e : nameG [] = fun _ => none := by funext x; simp [nameG]
      rw [e]
      exact h1.kept ((Below.heap_alloc _ _ _ (by simp; omega)).trans (Below.heap_alloc _ _ _ (by simp)))
  have hBL : (((w.alloc (.map #[] 0)).alloc (.cells #[.map (some w.heap.size)] 115)).alloc (.cells #[.int .i64 200] 3)).heap[w.heap.size + 2]? = some (.cells #[.int .i64 200] 3 (0, 0)) := by
    have := heap_alloc_new ((w.alloc (.map #[] 0)).alloc (.cells #[.map (some w.heap.size)] 115)) (.cells #[.int .i64 200] 3)
    simpa using this
  have HW1 := Lib.hid hW1; have HNB := Lib.hid hNB; have HBL := Lib.hid hBL; have HSZB := Lib.hid hszb
  clear hW1 hNB hBL hszb q0 q1 q2 q3 q4 q5 q6 q7 q8 qf hmk
  generalize (((w.alloc (.map #[] 0)).alloc (.cells #[.map (some w.heap.size)] 115)).alloc (.cells #[.int .i64 200] 3)) = wb at *
  obtain ⟨M, hM⟩ : ∃ M : Nat → Prop, M = fun b => b = w.heap.size + 1 ∨ b = w.heap.size ∨ b = w.heap.size + 2 := ⟨_, rfl⟩
  have HMM : Hid (∀ b, M b ↔ (b = w.heap.size + 1 ∨ b = w.heap.size ∨ b = w.heap.size + 2)) := Lib.hid (fun b => by rw [hM])
  have HMlt : Hid (∀ b, M b → b < wb.heap.size ∧ w.heap.size ≤ b) := Lib.hid (fun b hb => by have := (HMM.out b).1 hb; have := HSZB.out; omega)
  clear hM
  go_loopw [4, 5] (fun y4 y5 wr => ∃ (n : Nat) (L : List TmAt) (Ls : List Tm) (r : Nat) (s' : List Int), n ≤ query ∧ y5 = .int .i64 ((n : Int) + 1) ∧ Hid (thrL S.σ 200 (varsL n) = some (Ls, r)) ∧ Hid (L.map (·.1) = (Tm.rens numV [] Ls).1 ∧ s' = (Tm.rens numV [] Ls).2) ∧ Hid (OwnTs wr wb.heap.size (OkN (OkS w br bs bm tv cv av) wb) y4 L) ∧ Hid (NmI (w.heap.size + 1) w.heap.size wr s') ∧ Hid (wr.heap[w.heap.size + 2]? = some (.cells #[.int .i64 r] 3 (0, 0))) ∧ Hid (Touch M wb wr)) (fun _ y5 _ => 13 - (intOf y5).toNat)
  case atStart => exact ⟨0, [], [], 200, [], Nat.zero_le _, rfl, Lib.hid (by simp [varsL, thrL_nil]), Lib.hid ⟨rfl, rfl⟩, Lib.hid (OwnTs.nil _ _ _), HNB, HBL, Lib.hid (Touch.refl _ _)⟩
  case round =>
    obtain ⟨n, L, Ls, r, s', hn, rfl, HTH, HLL, HOW, HNM, HBR, HTR⟩ := hrel
    obtain ⟨xa, xc, rfl⟩ := HOW.out.form
    have HBE : Hid (Below w.heap.size w wr) := Lib.hid (HW1.out.trans (HTR.out.toBelow HW1.out.size fun b hb => (HMlt.out b hb).2))
    have HSR := Lib.hid (H.out.below HBE.out)
    obtain ⟨q0, q1, q2, q3, q4, q5, q6, q7, q8, qf⟩ := HSR.out.cells
    have HLl : Hid (L.length = n ∧ n + r ≤ 200 ∧ s'.length + r ≤ 200) := Lib.hid (by
      have h1 := (thrL_le _ _ _ HTH.out).2
      have h2 := thrL_room _ _ _ HTH.out
      have h3 := congrArg List.length HLL.out.1
      have h5 := thrL_sizeN _ _ _ HTH.out
      have h6 := rensN_len Ls []
      rw [← HLL.out.2] at h6
      rw [List.length_map, Tm.rens_length] at h3
      have h7 : (varsL n).length = n := by simp [varsL]
      rw [h7] at h1 h2
      simp only [List.length_nil] at h1 h2 h5 h6; omega)
    have hszr : wb.heap.size ≤ wr.heap.size := HTR.out.size
    by_cases hlt : n < query
    · have hlt1 : (n : Int) + 1 ≤ (query : Int) := by omega
      have hn0 : (0 : Int) ≤ (n : Int) := by omega
      have hn12 : (n : Int) ≤ 12 := by omega
      have HCL : Hid (Calls Try.prog 67 #[.pointer (some ⟨bs, 0, none⟩), .agg #[.int .i64 ((n : Int) + 1), .string ⟨#[]⟩, .slice none 0 0], .pointer (some ⟨w.heap.size + 2, 0, none⟩), .func (.func 132) #[] #[.pointer (some ⟨w.heap.size + 1, 0, none⟩)]] wr
          (ThrPost wr (OkS w br bs bm tv cv av) (w.heap.size + 2) (fun b => b = w.heap.size + 1 ∨ b = w.heap.size) numV (NmI (w.heap.size + 1) w.heap.size) s' (thrL S.σ r [VarT ((n : Int) + 1)]))) := Lib.hid (by
        have hnM : ∀ b, w.heap.size ≤ b → ¬ StM bs bm tv b ∧ ¬ OkS w br bs bm tv cv av b := fun b hb => ⟨fun e => by have := SM_lt H.out (.inr (.inl e)); omega, fun e => by have := e.1; omega⟩
        exact ThroughNW (Inv := NmI (w.heap.size + 1) w.heap.size) (Md := fun b => b = w.heap.size + 1 ∨ b = w.heap.size) nameW (fun w w' s => NmI.keep w w' s) HPI.out.sinv.rank.ends r s' (VarT ((n : Int) + 1)) none 0 wr (by have := HLl.out; omega) (H.out.st.keep HBE.out) HNM.out HBR.out (hnM _ (by omega)) (fun b hb => ⟨by have := HSZB.out; omega, (hnM b (by omega)).1, (hnM b (by omega)).2, by omega⟩) ⟨(by show I64 ((n : Int) + 1); unfold I64; omega), Nat.zero_le _⟩ (Ts.empty' _ _))
      have HSP : Hid (thrL S.σ 200 (varsL (n + 1)) = (thrL S.σ r [VarT ((n : Int) + 1)]).map fun z => (Ls ++ z.1, z.2)) := Lib.hid (by rw [varsL_succ, thrL_append, HTH.out]; rfl)
      have HSQ : Hid (thrL S.σ r [VarT ((n : Int) + 1)] = none → thrL S.σ 200 (varsL query) = none) := Lib.hid (fun hn => by
        rw [← List.take_append_drop (n + 1) (varsL query), varsL_take _ _ (by omega), thrL_append, HSP.out, hn]; rfl)
      have HMT : Hid (∀ b, ThrM (w.heap.size + 2) (fun b => b = w.heap.size + 1 ∨ b = w.heap.size) b → M b) := Lib.hid (fun b hb => (HMM.out b).2 (by
        rcases hb with e | e | e
        · exact .inr (.inr e)
        · exact .inl e
        · exact .inr (.inl e)))
      generalize thrL S.σ r [VarT ((n : Int) + 1)] = o at *
      cases o with
      | none =>
        have HQ := Lib.hid (HSQ.out rfl)
        clear HSQ HSP
        go_wp2_with (go_at_call 67; refine HCL.out.mono ?_; rintro e w3 ⟨ht3, rfl, -⟩; have HT3 := Lib.hid (ht3.mono fun b _ hb => HMT.out b hb : Touch M wr w3); have HB3 := Lib.hid (HBE.out.trans ((ht3.mono fun b _ hb => HMT.out b hb : Touch M wr w3).toBelow HBE.out.size fun b hb => (HMlt.out b hb).2)); obtain ⟨r0, r1, r2, r3, r4, r5, r6, r7, r8, rf⟩ := (H.out.below HB3.out).cells; have lbr3 := (H.out.below HB3.out).lt; clear ht3)
        refine bodyPost_ret (v := .tuple #[]) (by simp [results, Try.results112, go_sem]) rfl ?_
        have hs4 := ((H.out.below HB3.out).setFin 3).below ((Below.refl _ _).alloc (Nat.le_refl _) (.cells #[.int .i64 0, .string ⟨#[]⟩, .slice none 0 0] 24))
        have ht4 : Touch (SM br bs bm tv cv av) w3 (w3.setCell ⟨br, 7, none⟩ (.int .i64 3)) := (Touch.setCell (M := fun b => b = br) _ rfl).mono fun b _ e => .inl e
        have he : pansw p query S = { S with fin := 3 } := by simp only [pansw]; rw [HQ.out]
        rw [he]
        exact ⟨⟨_, rfl⟩, ((Touch.below HB3.out).trans ht4).trans (Touch.below ((Below.refl _ _).alloc (Nat.le_refl _) _)), tv, cv, av, np, wk, Fresh.self _ _, Fresh.self _ _, Fresh.self _ _, hs4⟩
      | some z =>
        obtain ⟨u1, u2⟩ := z
        have HNT : Hid (thrL S.σ 200 (varsL (n + 1)) = some (Ls ++ u1, u2)) := Lib.hid HSP.out
        clear HSQ HSP
        obtain ⟨i0, hi0, hz0', hz1', hz2'⟩ := info_parts Try.infoTm
        have hqb : L.length ≤ 1000 := by have := HLl.out; omega
        go_wp2_with (first
          | (go_at_call 67; refine HCL.out.mono ?_; rintro e w3 ⟨ht3, T, a3, c3, hTT, rfl, hf3, hts3, hi3, hb3⟩; have HT3 := Lib.hid (ht3.mono fun b _ hb => HMT.out b hb : Touch M wr w3); have HB3 := Lib.hid (HBE.out.trans ((ht3.mono fun b _ hb => HMT.out b hb : Touch M wr w3).toBelow HBE.out.size fun b hb => (HMlt.out b hb).2)); have HO1 := Lib.hid (((ownsRow_block HOW.out.own (fun gg hg => ht3.block gg (HOW.out.block hg).2 (fun e => by have := (HMlt.out _ (HMT.out _ e)).1; have := (HOW.out.block hg).1; omega))).alloc (.cells #[.int .i64 T.var, .string T.name, .slice a3 T.args.length c3] 24)).alloc (.cells #[.int .i64 T.var, .string T.name, .slice a3 T.args.length c3] 24)); have HF3 := Lib.hid hf3; have HTS3 := Lib.hid hts3; have HI3 := Lib.hid hi3; have HB9 := Lib.hid hb3; have HTT := Lib.hid hTT; have hsz3 : wr.heap.size ≤ w3.heap.size := ht3.size; clear ht3 hf3 hts3 hi3 hb3 hTT)
          | (at_builtin; have _g := HO1; (refine wpList_append_opt _ rfl _ _ 146 rfl wb.heap.size 24 i0 _ 3 48 Try.underlying146 hi0 hz0' hz1' hz2' rfl (by decide) _ _ _ rfl HO1.out (some ⟨w3.heap.size + 1, 0, none⟩) 1 1 ?d0 (flat [(T, a3, c3)]) rfl (by rw [flat_length]; rfl) ?d1 (flat_one _) ?d2 ?d3 ?d4 ?_)))
        any_goals (first | (intro h; cases h; done) | exact news3 _ T a3 c3 (by simp) | (unfold maxLen; omega) | omega | (simp only [aSz]; omega))
        intro v4 w4 hown4 hgrow4 hfr4
        have BX4 : Below w3.heap.size w3 ((w3.alloc (.cells #[.int .i64 T.var, .string T.name, .slice a3 T.args.length c3] 24)).alloc (.cells #[.int .i64 T.var, .string T.name, .slice a3 T.args.length c3] 24)) := ((Below.refl _ _).alloc (Nat.le_refl _) _).alloc (by simp only [aSz]; omega) _
        have HNX := Lib.hid (HOW.out.moreM HTR.out (fun b hb => ⟨by have := hb.1; have := HSZB.out; omega, fun e => by have := (HMlt.out b e).2; have := hb.1; omega⟩) (fun b hb => (HMlt.out b hb).1) (Nat.le_refl _) HT3.out HF3.out HTS3.out BX4 hown4 hgrow4 hfr4)
        have HKM : Hid (∀ b, M b → w4.heap[b]? = w3.heap[b]?) := Lib.hid (fun b hb => by
          have h1 := (HMlt.out b hb).1
          rw [hgrow4.block b (by have := BX4.size; omega) (fun e => by have := (HOW.out.block (g := b) e.symm).1; omega), BX4.block b (by omega)])
        have HS4 : Hid (w3.heap.size ≤ w4.heap.size) := Lib.hid (Nat.le_trans BX4.size hgrow4.size)
        clear hown4 hgrow4 hfr4 BX4
        go_wp2_with fail
        go_roundw
        case measure => simp [intOf]; omega
        case rel =>
          exact ⟨n + 1, L ++ [(T, a3, c3)], Ls ++ u1, u2, (Tm.rens numV s' u1).2, by omega, by go_num, HNT, Lib.hid ⟨by rw [List.map_append, Tm.rens_append, HLL.out.1, ← HLL.out.2, HTT.out]; rfl, by rw [Tm.rens_append, ← HLL.out.2]⟩, Lib.hid HNX.out.1,
            Lib.hid (NmI.keep _ _ _ HI3.out (fun b hb => HKM.out b ((HMM.out b).2 (by rcases hb with e | e; exact .inl e; exact .inr (.inl e)))) HS4.out), Lib.hid ((HKM.out _ ((HMM.out _).2 (.inr (.inr rfl)))).trans HB9.out), Lib.hid HNX.out.2⟩
    · -- TELL
      have HTA : Hid (thrL S.σ 200 (varsL query) = some (Ls, r)) := Lib.hid (by
        have := HTH.out
        rwa [show n = query by omega] at this)
      have hex : ∃ l a c, Value.slice xa L.length xc = .slice a l.length c ∧ l = (Tm.rens numV [] Ls).1 ∧ Ts wr (OkS wr br bs bm tv cv av) l a c := by
        obtain ⟨a, c, e1, e2⟩ := HOW.out.ret (w := wb) (Nat.le_refl _)
        refine ⟨L.map (·.1), a, c, e1, HLL.out.1, e2.mono fun b hb hk => ⟨hb, fun e => ?_⟩⟩
        rcases hk with hk | hk
        · exact hk.2 e
        · have := SM_lt H.out e; have := HSZB.out; omega
      obtain ⟨l, la, lc, hle, hll, hlt2⟩ := hex
      have HLT := Lib.hid hlt2
      rw [hle]
      obtain ⟨A, hA, hrow, hAt⟩ := HSR.out.ans
      obtain ⟨aa, ac, hav, hac, hacm⟩ := row_cap hrow
      have hAl : A.length = S.ans.length := by rw [← hA, List.length_map]
      rw [hAl] at hav hac
      have HA := Lib.hid hA; have HROW := Lib.hid hrow; have HAT := Lib.hid hAt; have HAL := Lib.hid hAl
      subst hav
      have hA4 : A.length ≤ 40 := by have := H40.out; omega
      have hown := Lib.hid (HROW.out.alloc (.cells #[.slice la l.length lc] 146))
      obtain ⟨i0, zc, hi0, hz0, hz1, hz2, hz3⟩ := infoAn
      have HPA : Hid (∀ S', S' = { S with ans := S.ans ++ [l] } → (S.ans.length + 1 = 40 → pansw p query S = { S' with fin := 1 }) ∧ (S.ans.length + 1 ≠ 40 → pansw p query S = pback p S'.ch.length S')) := Lib.hid (fun S' hS' => by
        subst hS'
        constructor
        · intro h; simp only [pansw]; rw [HTA.out]; simp only; rw [if_pos h, ← hll]
        · intro h; simp only [pansw]; rw [HTA.out]; simp only; rw [if_neg h, ← hll])
      have hge : (query : Int) < (n : Int) + 1 := by omega
      clear hA hrow hAt hac hle hAl hlt2 hlt hll
      go_wp2_with (at_builtin; (refine wpList_append_fresh _ rfl _ _ 64 rfl 0 146 i0 zc 1 24 Try.underlying64 hi0 hz0 hz1 hz2 hz3 (by decide) _ _ _ rfl hown.out ⟨wr.heap.size, 0, none⟩ 1 1 [.slice la l.length lc] rfl rfl ?c1 ?c2 ?c3 ?c4 ?c5 ?_))
      any_goals (first | exact one_cell _ _ _ | (intro u hu; simp only [List.mem_singleton] at hu; subst hu; rfl) | rfl | (unfold maxLen; omega) | omega)
      intro av' X3 hown3 hg3 hfr3
      obtain ⟨g3, cap3, rfl⟩ := own_shape hown3 (by omega)
      have hp := HSR.out.tell HA.out HAT.out HLT.out hown3 hg3 hfr3
      have HPL := Lib.hid hp
      have hbk : X3.heap[br]? = wr.heap[br]? := (hg3.block br (by have := HSR.out.lt; simp; omega) (fun e => HSR.out.sep.ra e.symm)).trans (Below.heap_alloc _ _ _ HSR.out.lt)
      have y6 : X3.cell? ⟨br, 6, none⟩ = some (.slice aa S.ans.length ac) := by simp [World.cell?, hbk, HSR.out.blk]
      have yf : ∀ o, X3.frozen? ⟨br, o, none⟩ = false := fun o => by simp [World.frozen?, hbk, HSR.out.blk]
      obtain ⟨y0, y1, y2, y3, y4, y5, yy6, y7, y8, yyf⟩ := hp.1.cells
      clear hp hown3 hg3 hfr3 hown hbk yy6 yyf
      have HTW : Hid (Touch (SM br bs bm tv cv (.slice aa S.ans.length ac)) w (X3.setCell ⟨br, 6, none⟩ (.slice (some ⟨g3, 0, none⟩) (A.length + 1) cap3)) ∧ Fresh w (.slice aa S.ans.length ac) (.slice (some ⟨g3, 0, none⟩) (A.length + 1) cap3)) := Lib.hid ⟨(Touch.below HBE.out).trans HPL.out.2.1, HPL.out.2.2.old HBE.out.size⟩
      by_cases h40 : S.ans.length + 1 = 40
      · have hx1 : ((A.length : Int) + 1 == 40) = true := by rw [beq_iff_eq]; have := HAL.out; omega
        have hx2 : (((A.length + 1 : Nat) : Int) == 40) = true := by rw [beq_iff_eq]; have := HAL.out; omega
        have HE := Lib.hid ((HPA.out _ rfl).1 h40)
        clear h40
        go_wp2_with fail
        refine bodyPost_ret (v := .tuple #[]) (by simp [results, Try.results112, go_sem]) rfl ?_
        rw [HE.out]
        exact ⟨⟨_, rfl⟩, HTW.out.1.trans ((Touch.setCell (M := fun b => b = br) _ rfl).mono fun b _ e => .inl e), tv, cv, _, np, wk, Fresh.self _ _, Fresh.self _ _, HTW.out.2, HPL.out.1.setFin 1⟩
      · have hx1 : ((A.length : Int) + 1 == 40) = false := by rw [beq_eq_false_iff_ne]; have := HAL.out; omega
        have hx2 : (((A.length + 1 : Nat) : Int) == 40) = false := by rw [beq_eq_false_iff_ne]; have := HAL.out; omega
        have HE := Lib.hid ((HPA.out _ rfl).2 h40)
        clear h40
        have HBK := Lib.hid (BackW HP.out HSZ.out HPL.out.1 (⟨HPI.out.sinv, HPI.out.dom, HPI.out.trail, HPI.out.snap, HPI.out.mono, HPI.out.len, HPI.out.base⟩ : BInv p { S with ans := S.ans ++ [l] }) H0.out (by have := HPOT.out; simp only; omega) HST.out)
        go_wp2_with (go_at_call 133; refine HBK.out.mono ?_; rintro e wk2 ⟨⟨vb, rfl⟩, htb, tvb, cvb, npb, wkb, hfb, hgb, hsb⟩; have HTB := Lib.hid htb; have HFB := Lib.hid hfb; have HGB := Lib.hid hgb; have HSB := Lib.hid hsb; clear htb hfb hgb hsb)
        refine bodyPost_ret (v := .tuple #[]) (by simp [results, Try.results112, go_sem]) rfl ?_
        rw [HE.out]
        exact ⟨⟨_, rfl⟩, touch_next HTW.out.1 (Fresh.self _ _) (Fresh.self _ _) HTW.out.2 HTB.out, tvb, cvb, _, npb, wkb, HFB.out.old HTW.out.1.size, HGB.out.old HTW.out.1.size, HTW.out.2, HSB.out⟩

end Go.Proofs.Ytikmgiapjigghaa

/- Walk: Tell of the reference's search. -/
namespace Go.Proofs.Ytikmgiapjigghaa.Emb
open Go.RowKit Go.Proofs.Ytikmgiapjigghaa

theorem seen_step (s : List Int) (l : List Tm) (k : Nat) (h : k < l.length) : seen s (l.take (k + 1)) = if l[k].var ≠ 0 then addV (seen s (l.take k)) l[k].var else seen s (l.take k) := by
  rw [List.take_succ_eq_append_getElem h, seen_append]; rfl

theorem seen_len (l : List Tm) : ∀ s : List Int, (seen s l).length ≤ s.length + l.length := by
  induction l with
  | nil => intro s; exact Nat.le_refl _
  | cons p r ih =>
    intro s
    simp only [seen]
    have h1 := ih (if p.var ≠ 0 then addV s p.var else s)
    have h2 : (if p.var ≠ 0 then addV s p.var else s).length ≤ s.length + 1 := by
      split
      · exact addV_len s p.var
      · omega
    simp only [List.length_cons]; omega

set_option maxRecDepth 100000 in
set_option maxHeartbeats 8000000 in
theorem TellW {p : List Cl} (hp : POk p) (hsz : ∀ c, c ∈ p → c.head.size ≤ 100000 ∧ ∀ b, b ∈ c.body → b.size ≤ 100000) (h6 : Bd6 p) {w : World} {xs : Nat} {C : Nat → Prop} {bv kv av : Value} {pa ta : Option Addr} {pc tc : Nat} {query : Nat} {R : RS} {B : List TmAt} {wk : Nat} (h : RSAt w xs C bv kv av pa ta pc tc p query R B wk)
    (hi : RI p R) (h0 : R.fin = 0) (hst : R.steps ≤ 400) (h40 : R.ans.length < 40) (hq : query ≤ 12) :
    Calls Try.prog 85 #[.pointer (some ⟨xs, 0, none⟩)] w (BkRPost w xs C pa pc p query (rtell p query R)) := by
  have hBl := h.n
  have hB1 : 1 ≤ B.length := by have := hi.n; omega
  obtain ⟨g, cap, hbv, hrat0⟩ := h.st.toAt hB1
  subst hbv
  obtain ⟨q0, q1, q2, q3, q4, q5, q6, q7, q8, qf⟩ := h.cells
  have hbl9 : B.length ≤ 900000 := by have := hi.n; omega
  obtain ⟨M, hM⟩ : ∃ M, B.length = M + 1 := ⟨B.length - 1, by omega⟩
  have hM12 : 12 ≤ M := by have := hi.n; omega
  have hmk := made_ints w B.length (by omega)
  have e1 : ((List.replicate B.length 0).map fun v : Int => Value.int .i64 v).toArray = Array.replicate B.length (.int .i64 0) := by simp
  rw [e1] at hmk
  have hIN : IntsAt (w.alloc (.cells (Array.replicate B.length (Value.int .i64 0)) 3)) w.heap.size (nmL M []) := ⟨by
    rw [nmL_nil, ← hM, heap_alloc_new]; simp⟩
  have hW1 : Below w.heap.size w (w.alloc (.cells (Array.replicate B.length (Value.int .i64 0)) 3)) := (Below.refl _ _).alloc (Nat.le_refl _) _
  have hszb : (w.alloc (.cells (Array.replicate B.length (Value.int .i64 0)) 3)).heap.size = w.heap.size + 1 := by simp
  have H := Lib.hid h; have HP := Lib.hid hp; have HSZ := Lib.hid hsz; have H6 := Lib.hid h6; have HI := Lib.hid hi; have H0 := Lib.hid h0; have HST := Lib.hid hst; have H40 := Lib.hid h40; have HQ := Lib.hid hq
  have HBL := Lib.hid hBl; have HM := Lib.hid hM; have HM12 := Lib.hid hM12
  have HIN := Lib.hid hIN; have HW1 := Lib.hid hW1; have HSZB := Lib.hid hszb
  clear h hp hsz h6 hi h0 hst h40 hBl hM hM12 hIN hW1 hszb e1 hrat0
  obtain ⟨i0, hi0, hz0, hz1, hz2⟩ := info_parts Try.infoTm
  go_enter Try.func85, Try.ntmps85
  go_wp2_with fail
  clear hmk q0 q1 q2 q3 q4 q5 q6 q7 q8 qf
  generalize (w.alloc (.cells (Array.replicate B.length (Value.int .i64 0)) 3)) = wb at *
  obtain ⟨nb, hnb⟩ : ∃ nb, w.heap.size = nb := ⟨_, rfl⟩
  have HNB := Lib.hid hnb
  have HI1 : Hid (IntsAt wb nb (nmL M [])) := Lib.hid (by rw [← hnb]; exact HIN.out)
  have HBN : Hid (nb < wb.heap.size) := Lib.hid (by rw [HSZB.out]; omega)
  rw [hnb]
  clear hnb HIN
  go_loopw [2, 4, 5, 6] (fun y2 y4 y5 y6 wr => ∃ (n : Nat) (L : List TmAt) (Ls : List Tm) (r : Nat) (s' : List Int), n ≤ query ∧ y6 = .int .i64 ((n : Int) + 1) ∧ y5 = .int .i64 r ∧ y4 = .int .i64 s'.length ∧ Hid (thrL R.τ 200 (varsL n) = some (Ls, r)) ∧ Hid (L.map (·.1) = (Tm.rens numV [] Ls).1 ∧ s' = (Tm.rens numV [] Ls).2) ∧ Hid (OwnTs wr wb.heap.size (OkN (OkC w C) wb) y2 L) ∧ Hid (IntsAt wr nb (nmL M s')) ∧ Hid (Touch (fun b => b = nb) wb wr)) (fun _ _ _ y6 _ => 13 - (intOf y6).toNat)
  case atStart => exact ⟨0, [], [], 200, [], Nat.zero_le _, rfl, rfl, rfl, Lib.hid (by simp [varsL, thrL_nil]), Lib.hid ⟨rfl, rfl⟩, Lib.hid (OwnTs.nil _ _ _), HI1, Lib.hid (Touch.refl _ _)⟩
  case round =>
    obtain ⟨n, L, Ls, r, s', hn, rfl, rfl, rfl, HTH, HLL, HOW, HNM, HTR⟩ := hrel
    obtain ⟨xa, xc, rfl⟩ := HOW.out.form
    have HBE : Hid (Below w.heap.size w wr) := Lib.hid (HW1.out.trans (HTR.out.toBelow HW1.out.size fun b hb => by have := HNB.out; omega))
    have HSR := Lib.hid (H.out.below HBE.out)
    obtain ⟨q0, q1, q2, q3, q4, q5, q6, q7, q8, qf⟩ := HSR.out.cells
    have HLl : Hid (L.length = n ∧ n + r ≤ 200 ∧ s'.length + r ≤ 200) := Lib.hid (by
      have h1 := (thrL_le _ _ _ HTH.out).2
      have h2 := thrL_room _ _ _ HTH.out
      have h3 := congrArg List.length HLL.out.1
      have h5 := thrL_sizeN _ _ _ HTH.out
      have h6 := rensN_len Ls []
      rw [← HLL.out.2] at h6
      rw [List.length_map, Tm.rens_length] at h3
      have h7 : (varsL n).length = n := by simp [varsL]
      rw [h7] at h1 h2
      simp only [List.length_nil] at h1 h2 h5 h6; omega)
    have hszr : wb.heap.size ≤ wr.heap.size := HTR.out.size
    by_cases hlt : n < query
    · have hlt1 : (n : Int) + 1 ≤ (query : Int) := by omega
      have hn0 : (0 : Int) ≤ (n : Int) := by omega
      have hn12 : (n : Int) ≤ 12 := by have := HQ.out; omega
      have hr200 : r ≤ 200 := by have := HLl.out; omega
      have HCL : Hid (Calls Try.prog 72 #[.pointer (some ⟨xs, 1, none⟩), .agg #[.int .i64 ((n : Int) + 1), .string ⟨#[]⟩, .slice none 0 0], .int .i64 r] wr (FullPost wr (OkC w C) r (thrL R.τ r [VarT ((n : Int) + 1)]))) := Lib.hid (by
        obtain ⟨g', cap', e', hr'⟩ := (H.out.st.keep HBE.out).toAt (by have := HM.out; omega)
        simp only [Value.slice.injEq, Option.some.injEq, Addr.mk.injEq, true_and, and_true] at e'
        obtain ⟨rfl, rfl⟩ := e'
        have hf := FullW (Z := zOf p pa pc ta tc kv av query R) H.out.fb r (VarT ((n : Int) + 1)) none 0 wr (by omega) hr' ⟨(by show I64 ((n : Int) + 1); unfold I64; omega), Nat.zero_le _⟩ (Ts.empty' _ _) (fit_var (by omega) (by have := HM.out; have := HM12.out; omega))
        rw [H.out.tau] at hf
        exact hf)
      have HSP : Hid (thrL R.τ 200 (varsL (n + 1)) = (thrL R.τ r [VarT ((n : Int) + 1)]).map fun z => (Ls ++ z.1, z.2)) := Lib.hid (by rw [varsL_succ, thrL_append, HTH.out]; rfl)
      have HSQ : Hid (thrL R.τ r [VarT ((n : Int) + 1)] = none → thrL R.τ 200 (varsL query) = none) := Lib.hid (fun hn => by
        rw [← List.take_append_drop (n + 1) (varsL query), varsL_take _ _ (by omega), thrL_append, HSP.out, hn]; rfl)
      have HZL : Hid (∀ z, thrL R.τ r [VarT ((n : Int) + 1)] = some z → Tm.sizes z.1 + z.2 ≤ r ∧ ∀ T, T ∈ z.1 → Fit B.length T) := Lib.hid (fun z hz => ⟨thrL_size _ _ _ hz, fun T hT => by
        have hd : ∀ v u, R.τ v = some u → Fit B.length u := fun v u e => by
          rw [← H.out.tau] at e
          have := H.out.fb.each u (subB_mem e)
          rwa [List.length_map] at this
        exact thrL_fit (H.out.tau ▸ H.out.fb.inv.rank.ends) hd _ _ _ (fun t ht => by rw [List.mem_singleton] at ht; subst ht; exact fit_var (by omega) (by have := HM.out; have := HM12.out; omega)) hz T hT⟩)
      generalize thrL R.τ r [VarT ((n : Int) + 1)] = o at *
      cases o with
      | none =>
        have HQ2 := Lib.hid (HSQ.out rfl)
        clear HSQ HSP HZL
        go_wp2_with (go_at_call 72; refine HCL.out.mono ?_; rintro e w3 ⟨rfl, hb3⟩; have HB3 := Lib.hid (HBE.out.trans (hb3.mono HBE.out.size)); obtain ⟨r0, r1, r2, r3, r4, r5, r6, r7, r8, rf⟩ := (H.out.below HB3.out).cells; have lx3 := (H.out.below HB3.out).xlt; clear hb3)
        refine bodyPost_ret (v := .tuple #[]) (by simp [results, Try.results85, go_sem]) rfl ?_
        obtain ⟨htf, C4, hsf, hrf⟩ := (H.out.below HB3.out).setFin 3
        have hT4 := ((Turn.below HB3.out : Turn w C _ C).trans (Turn.mk htf hsf)).trans (Turn.below ((Below.refl _ _).alloc (Nat.le_refl _) (.cells #[.int .i64 0, .string ⟨#[]⟩, .slice none 0 0] 24)))
        have he : rtell p query R = { R with fin := 3 } := by simp only [rtell]; rw [HQ2.out]
        rw [he]
        exact ⟨⟨_, rfl⟩, hT4.touch, C4, hT4.same, _, _, _, _, _, _, _, _, REq.refl _, hrf.below ((Below.refl _ _).alloc (Nat.le_refl _) _)⟩
      | some z =>
        obtain ⟨u1, u2⟩ := z
        have HNT : Hid (thrL R.τ 200 (varsL (n + 1)) = some (Ls ++ u1, u2)) := Lib.hid HSP.out
        have HZ1 := Lib.hid (HZL.out _ rfl)
        clear HSQ HSP HZL
        have hu2 : u2 ≤ r := by have := HZ1.out.1; simp only at this; omega
        have hsub2 : (r : Int) - ((r : Int) - (u2 : Int)) = (u2 : Int) := by omega
        go_upto_region 10 with (go_at_call 72; refine HCL.out.mono ?_; rintro e w3 ⟨T, a3, c3, hTT, rfl, hf3, hts3, hb3⟩; have HB3 := Lib.hid hb3; have HF3 := Lib.hid hf3; have HT3 := Lib.hid hts3; have HTT := Lib.hid hTT; clear hf3 hts3 hb3 hTT)
        have hTz : u1 = [T] := HTT.out
        have HTS : Hid (T.size + u2 ≤ r) := Lib.hid (by have := HZ1.out.1; rw [hTz] at this; simp only [Tm.sizes] at this; omega)
        have HCE : Hid (Fit B.length T) := Lib.hid (HZ1.out.2 T (by rw [hTz]; exact List.mem_cons_self))
        have hB4 : Below w3.heap.size w3 (w3.alloc (.cells #[.int .i64 T.var, .string T.name, .slice a3 T.args.length c3] 24)) := (Below.refl _ _).alloc (Nat.le_refl _) _
        have HB5 : Hid (Below wr.heap.size wr (w3.alloc (.cells #[.int .i64 T.var, .string T.name, .slice a3 T.args.length c3] 24))) := Lib.hid (HB3.out.trans (hB4.mono HB3.out.size))
        have HBT : Hid (Box3 (w3.alloc (.cells #[.int .i64 T.var, .string T.name, .slice a3 T.args.length c3] 24)) w3.heap.size (.int .i64 T.var) (.string T.name) (.slice a3 T.args.length c3)) := Lib.hid (Box3.made w3 _ _ _)
        have HT5 : Hid (Ts (w3.alloc (.cells #[.int .i64 T.var, .string T.name, .slice a3 T.args.length c3] 24)) (OkN (OkC w C) wr) T.args a3 c3) := Lib.hid (HT3.out.keep (Keeps.below hB4 _))
        have HL3 : Hid (wr.heap.size ≤ w3.heap.size) := Lib.hid HB3.out.size
        clear hB4 HT3 HB3 HCL HZ1
        generalize (w3.alloc (.cells #[.int .i64 T.var, .string T.name, .slice a3 T.args.length c3] 24)) = w5 at *
        generalize w3.heap.size = b7 at *
        obtain ⟨t0, t1, t2, tf⟩ := HBT.out.all
        have HNR : Hid (nb < wr.heap.size) := Lib.hid (Nat.lt_of_lt_of_le HBN.out hszr)
        have HOKE : Hid (∀ b, OkN (OkC w C) wr b → b ≠ nb) := Lib.hid (fun b hb e => by
          rcases hb with hb | hb
          · have := hb.1; have := HNB.out; omega
          · have := HNR.out; omega)
        clear q0 q1 q2 q3 q4 q5 q6 q7 q8 qf
        go_wp2_with fail
        refine (partsOfW T w5 (fun b => b ≠ nb) a3 c3 (by have := HTS.out; omega) (fun b hb => by have := HNR.out; have := HB5.out.size; omega) HF3.out (HT5.out.mono fun b _ hb => HOKE.out b hb)).mono ?_
        rintro e w6 ⟨ppa, ppc, rfl, hpts, hb6⟩
        have HPT := Lib.hid hpts
        have HB6 := Lib.hid hb6
        clear hpts hb6
        go_wp2_with fail
        have HPL : Hid (T.parts.length ≤ 200) := Lib.hid (by rw [Tm.parts_length]; have := HTS.out; omega)
        have hpl9 : T.parts.length ≤ 9223372036854775807 := by have := HPL.out; omega
        have HNM6 : Hid (IntsAt w6 nb (nmL M s')) := Lib.hid ((HNM.out.below HB5.out).below HB6.out)
        have HX6 := Lib.hid (HBT.out.below HB6.out)
        have HT6 : Hid (Ts w6 (OkN (OkC w C) wr) T.args a3 c3) := Lib.hid (HT5.out.keep (Keeps.below HB6.out _))
        have HT9 : Hid (Below wr.heap.size wr w6) := Lib.hid (HB5.out.trans (HB6.out.mono HB5.out.size))
        have hs'l : s'.length ≤ 200 := by have := HLl.out; omega
        clear HBT HT5 t0 t1 t2 tf
        obtain ⟨w0, hw0⟩ : ∃ z, z = wr := ⟨_, rfl⟩
        subst hw0
        go_loopw [4, 11] (fun v4 v11 wq => ∃ (k : Nat) (s : List Int), k ≤ T.parts.length ∧ v11 = .int .i64 k ∧ v4 = .int .i64 s.length ∧ s.length ≤ s'.length + k ∧ Hid (s = seen s' (T.parts.take k)) ∧ Hid (IntsAt wq nb (nmL M s)) ∧ Hid (Touch (fun b => b = nb) w6 wq)) (fun _ v11 _ => T.parts.length - (intOf v11).toNat)
        case atStart => exact ⟨0, s', Nat.zero_le _, rfl, rfl, Nat.le_refl _, Lib.hid rfl, HNM6, Lib.hid (Touch.refl _ _)⟩
        case round =>
          obtain ⟨k, s, hk, rfl, rfl, hsk, HSE, HNQ, HTO⟩ := hrel
          by_cases hlt2 : k < T.parts.length
          · --BEGIN INNER
            obtain ⟨b, off, a', cap', rfl, hokb, hbs, hc, -⟩ := HPT.out.at k hlt2
            have HSS := Lib.hid (seen_step s' T.parts k hlt2)
            have hcf := HCE.out.bd _ (List.getElem_mem hlt2)
            have hcp := (HCE.out.wf _ (List.getElem_mem hlt2)).1
            have m0 := (World.cell?_of_block (a := ⟨b, off + k * 3, none⟩) (HTO.out.block b hbs hokb)).trans hc.var
            clear hc hokb hbs
            by_cases hv : T.parts[k].var = 0
            · have HS2 : Hid (s = seen s' (T.parts.take (k + 1))) := Lib.hid (by rw [HSS.out, if_neg (fun h => h hv)]; exact HSE.out)
              rw [hv] at m0
              clear hv HSS hcf hcp
              go_wp2_with fail
              go_roundw
              case measure => simp [intOf]; omega
              case rel => exact ⟨k + 1, s, by omega, by go_num, rfl, by omega, HS2, HNQ, HTO⟩
            · obtain ⟨v, hvv, hv1, hvn⟩ : ∃ v : Nat, T.parts[k].var = (v : Int) ∧ 1 ≤ v ∧ v < B.length := ⟨T.parts[k].var.toNat, by omega, by omega, by have := hcf.1; omega⟩
              rw [hvv] at m0
              have hvz : ((v : Int) != 0) = true := by rw [bne_iff_ne]; omega
              have hvl : v < (nmL M s).length := by rw [nmL_len]; have := HM.out; omega
              have hget := HNQ.out.get v hvl
              have HZR := Lib.hid (nmL_zero (s := s) hvl)
              have hvI : (v : Int) < (B.length : Int) := by omega
              have hv0 : (0 : Int) ≤ (v : Int) := by omega
              obtain ⟨xv, hxv⟩ : ∃ xv, (nmL M s)[v] = xv := ⟨_, rfl⟩
              rw [hxv] at hget HZR
              have HADD : Hid (seen s' (T.parts.take (k + 1)) = addV s (v : Int)) := Lib.hid (by rw [HSS.out, if_pos hv, hvv, ← HSE.out])
              clear hv hvv hxv HSS hcf hcp
              by_cases hm : (v : Int) ∈ s
              · have hxz : (xv == 0) = false := by
                  rw [beq_eq_false_iff_ne]
                  exact fun e => HZR.out.1 e hm
                have HS2 : Hid (s = seen s' (T.parts.take (k + 1))) := Lib.hid (by rw [HADD.out]; unfold addV; rw [if_pos hm])
                clear hm
                go_wp2_with fail
                go_roundw
                case measure => simp [intOf]; omega
                case rel => exact ⟨k + 1, s, by omega, by go_num, rfl, by omega, HS2, HNQ, HTO⟩
              · have hx0 : xv = 0 := HZR.out.2 hm
                subst hx0
                have HS2 : Hid (s ++ [(v : Int)] = seen s' (T.parts.take (k + 1))) := Lib.hid (by rw [HADD.out]; unfold addV; rw [if_neg hm])
                have HNP := Lib.hid (nmL_put (n := M) hm)
                have hsl : s.length ≤ 1000 := by have := HPL.out; omega
                have qf := HNQ.out.fz
                have hPUT : IntsAt (wr.setCell ⟨nb, v, none⟩ (.int .i64 ((s.length : Int) + 1))) nb (nmL M (s ++ [(v : Int)])) := by
                  have := HNQ.out.set v ((s.length : Int) + 1)
                  rwa [HNP.out] at this
                have HPUT := Lib.hid hPUT
                have lnb := HNQ.out.lt
                clear hm hPUT
                go_wp2_with fail
                go_roundw
                case measure => simp [intOf]; omega
                case rel => exact ⟨k + 1, s ++ [(v : Int)], by omega, by go_num, by simp, by simp; omega, HS2, HPUT, Lib.hid (HTO.out.trans (Touch.setCell _ rfl))⟩
          · --BEGIN NAMED
            have hkn : k = T.parts.length := by omega
            have HSF : Hid (s = seen s' T.parts) := Lib.hid (by rw [HSE.out, List.take_of_length_le (by omega)])
            have hXR := HX6.out.keep (HTO.out.block _ HX6.out.lt (by have := HL3.out; have := HNR.out; omega))
            obtain ⟨t0, t1, t2, tf⟩ := hXR.all
            have HXL := Lib.hid hXR.lt
            have HTR2 : Hid (Ts wr (OkN (OkC w C) w0) T.args a3 c3) := Lib.hid (HT6.out.keep (HTO.out.keeps fun b hb e => HOKE.out b hb e))
            have HWQ : Hid (Touch (fun b => b = nb) w0 wr) := Lib.hid ((Touch.below HT9.out).trans HTO.out)
            have HNW := Lib.hid (NamedW (N := fun j => (nmL M s).getD j 0) (nb := nb) (no := 0) (nn := B.length) (nc := B.length) T wr (fun b => OkN (OkC w C) w0 b ∧ b < wr.heap.size) a3 c3 (fun b hb => hb.2) (by have := HTS.out; omega) HF3.out (HTR2.out.mono fun b hb hk => ⟨hk, hb⟩) ⟨fun p hp hv => by
              have h1 := HCE.out.bd _ hp
              have h2 := (HCE.out.wf _ hp).1
              exact ⟨h2, h1.1⟩, fun j hj => by
              have hjl : j < (nmL M s).length := by rw [nmL_len]; have := HM.out; omega
              refine ⟨?_, ?_⟩
              · rw [Nat.zero_add, HNQ.out.get j hjl, List.getD_eq_getElem?_getD, List.getElem?_eq_getElem hjl]; rfl
              · rw [List.getD_eq_getElem?_getD, List.getElem?_eq_getElem hjl, Option.getD_some, nmL_get]
                split
                · have : s.idxOf (j : Int) ≤ s.length := List.idxOf_le_length
                  have := HPL.out
                  unfold numIn I64; omega
                · unfold I64; omega⟩)
            have HMV : Hid (Tm.mapv (fun x => (nmL M s).getD x.toNat 0) T = T.mapv (numIn (seen s' T.parts))) := Lib.hid (mapv_congr T fun p hp hv => by
              have h1 := (HCE.out.bd _ hp).1
              have h2 := (HCE.out.wf _ hp).1
              obtain ⟨v, hvv⟩ : ∃ v : Nat, p.var = (v : Int) := ⟨p.var.toNat, by omega⟩
              have hvl : v < (nmL M s).length := by rw [nmL_len]; have := HM.out; omega
              rw [hvv, Int.toNat_natCast, List.getD_eq_getElem?_getD, List.getElem?_eq_getElem hvl, Option.getD_some, nmL_get, if_pos (by rw [HSF.out, ← hvv]; exact seen_mem _ _ hp hv), HSF.out])
            rw [HMV.out] at HNW
            have HRN : Hid ((Tm.ren numV s' T).1 = T.mapv (numIn (seen s' T.parts)) ∧ (Tm.ren numV s' T).2 = seen s' T.parts) := Lib.hid (by
              obtain ⟨h1, h2⟩ := ren_num T s' HCE.out.wf
              exact ⟨h2 _ (List.prefix_refl _), h1⟩)
            have hqb : L.length ≤ 1000 := by have := HLl.out; omega
            have HTz := Lib.hid hTz
            clear hXR HMV hTz hkn
            generalize T.mapv (numIn (seen s' T.parts)) = T2 at *
            have hlnb : wb.heap.size ≤ wr.heap.size := Nat.le_trans hszr HWQ.out.size
            go_wp2_with (first
              | (go_at_call 73; refine HNW.out.mono ?_; rintro e w9 ⟨a4, c4, rfl, hf4, hts4, hb4⟩; have HB9 := Lib.hid hb4; have HF9 := Lib.hid hf4; have HT9' := Lib.hid hts4; have HO1 := Lib.hid ((ownsRow_below (ownsRow_block HOW.out.own (fun gg hg => HWQ.out.block gg (HOW.out.block hg).2 (fun e => by have := HBN.out; have := (HOW.out.block hg).1; omega))) hb4).alloc (.cells #[.int .i64 T2.var, .string T2.name, .slice a4 T2.args.length c4] 24)); have hsz9 : wb.heap.size ≤ w9.heap.size := Nat.le_trans hlnb hb4.size; clear hb4 hf4 hts4)
              | (at_builtin; have _g := HO1; (refine wpList_append_opt _ rfl _ _ 146 rfl wb.heap.size 24 i0 _ 3 48 Try.underlying146 hi0 hz0 hz1 hz2 rfl (by decide) _ _ _ rfl HO1.out (some ⟨w9.heap.size, 0, none⟩) 1 1 ?d0 (flat [(T2, a4, c4)]) rfl (by rw [flat_length]; rfl) ?d1 (flat_one _) ?d2 ?d3 ?d4 ?_)))
            any_goals (first | (intro h; cases h; done) | exact news3 _ T2 a4 c4 (by simp) | (unfold maxLen; omega) | omega | (simp only [aSz]; omega))
            intro v4 w4 hown4 hgrow4 hfr4
            have BX4 : Below w9.heap.size w9 (w9.alloc (.cells #[.int .i64 T2.var, .string T2.name, .slice a4 T2.args.length c4] 24)) := (Below.refl _ _).alloc (Nat.le_refl _) _
            have hTB : Touch (fun b => b = nb) w0 w9 := HWQ.out.trans (Touch.below HB9.out)
            have HNX := Lib.hid (HOW.out.moreM HTR.out (fun b hb => ⟨by have := hb.1; have := HSZB.out; omega, fun e => by have := hb.1; have := HNB.out; omega⟩) (fun b hb => by rw [hb]; exact HBN.out) (Nat.le_refl _) hTB HF9.out (HT9'.out.mono fun b hb hk => by
              rcases hk with hk | hk
              · exact hk.1
              · exact .inr (by have := HWQ.out.size; omega)) BX4 hown4 hgrow4 hfr4)
            have HNZ : Hid (IntsAt w4 nb (nmL M s)) := Lib.hid (HNQ.out.keep (by
              have h1 : nb < wr.heap.size := HNQ.out.lt
              have h2 := HB9.out.size
              rw [hgrow4.block nb (by have := BX4.size; omega) (fun e => by have := (HOW.out.block (g := nb) e.symm).1; have := HBN.out; omega), BX4.block nb (by omega), HB9.out.block nb h1]))
            clear hown4 hgrow4 hfr4 BX4 hTB
            go_wp2_with fail
            go_roundw
            case measure => simp [intOf]; omega
            case rel =>
              refine ⟨n + 1, L ++ [(T2, a4, c4)], Ls ++ u1, u2, s, by omega, by go_num, by (first | (go_num; done) | (congr 1; omega)), rfl, HNT, Lib.hid ?_, Lib.hid HNX.out.1, HNZ, Lib.hid HNX.out.2⟩
              rw [List.map_append, Tm.rens_append, HLL.out.1, ← HLL.out.2, HTz.out]
              simp only [Tm.rens, List.map_cons, List.map_nil]
              exact ⟨by rw [HRN.out.1], by rw [HRN.out.2, HSF.out]⟩
    · --BEGIN END
      have HTA : Hid (thrL R.τ 200 (varsL query) = some (Ls, r)) := Lib.hid (by
        have := HTH.out
        rwa [show n = query by omega] at this)
      have hex : ∃ l a c, Value.slice xa L.length xc = .slice a l.length c ∧ l = (Tm.rens numV [] Ls).1 ∧ Ts wr (OkC wr C) l a c := by
        obtain ⟨a, c, e1, e2⟩ := HOW.out.ret (w := wb) (Nat.le_refl _)
        refine ⟨L.map (·.1), a, c, e1, HLL.out.1, e2.mono fun b hb hk => ⟨hb, fun e => ?_⟩⟩
        rcases hk with hk | hk
        · exact hk.2 e
        · have := H.out.lt _ e; have := HSZB.out; omega
      obtain ⟨l, la, lc, hle, hll, hlt2⟩ := hex
      have HLT := Lib.hid hlt2
      rw [hle]
      obtain ⟨A, hA, hrow, hAt⟩ := HSR.out.ans
      obtain ⟨aa, ac, hav, hac, hacm⟩ := row_cap hrow
      have hAl : A.length = R.ans.length := by rw [← hA, List.length_map]
      rw [hAl] at hav hac
      have HA := Lib.hid hA; have HROW := Lib.hid hrow; have HAT := Lib.hid hAt; have HAL := Lib.hid hAl
      subst hav
      have hA4 : A.length ≤ 40 := by have := H40.out; omega
      have hown := Lib.hid (HROW.out.alloc (.cells #[.slice la l.length lc] 146))
      obtain ⟨j0, zc, hj0, hy0, hy1, hy2, hy3⟩ := infoAn
      have HPA : Hid (∀ S', S' = { R with ans := R.ans ++ [l] } → (R.ans.length + 1 = 40 → rtell p query R = { S' with fin := 1 }) ∧ (R.ans.length + 1 ≠ 40 → rtell p query R = rback p S'.kept.length S')) := Lib.hid (fun S' hS' => by
        subst hS'
        constructor
        · intro h; simp only [rtell]; rw [HTA.out]; simp only; rw [if_pos h, ← hll]
        · intro h; simp only [rtell]; rw [HTA.out]; simp only; rw [if_neg h, ← hll])
      have hge : (query : Int) < (n : Int) + 1 := by omega
      have lxr := HSR.out.xlt
      clear hA hrow hAt hac hle hAl hlt2 hlt hll
      go_wp2_with (at_builtin; (refine wpList_append_fresh _ rfl _ _ 64 rfl 0 146 j0 zc 1 24 Try.underlying64 hj0 hy0 hy1 hy2 hy3 (by decide) _ _ _ rfl hown.out ⟨wr.heap.size, 0, none⟩ 1 1 [.slice la l.length lc] rfl rfl ?c1 ?c2 ?c3 ?c4 ?c5 ?_))
      any_goals (first | exact one_cell _ _ _ | (intro u hu; simp only [List.mem_singleton] at hu; subst hu; rfl) | rfl | (unfold maxLen; omega) | omega)
      intro av' X3 hown3 hg3 hfr3
      obtain ⟨g3, cap3, rfl⟩ := own_shape hown3 (by omega)
      obtain ⟨htp, C4, hsp, hrp⟩ := HSR.out.tell HA.out HAT.out HLT.out ((Below.refl _ _).alloc (Nat.le_refl _) _) hown3 hg3 hfr3
      have HRP := Lib.hid hrp
      have HTP : Hid (Turn w C _ C4) := Lib.hid ((Turn.below HBE.out : Turn w C wr C).trans (Turn.mk htp hsp))
      have hbk : X3.heap[xs]? = wr.heap[xs]? := (hg3.block xs (by simp; omega) (fun e => HSR.out.sep.a e.symm)).trans (Below.heap_alloc _ _ _ lxr)
      have hblk := HSR.out.st.blk
      simp only [zOf] at hblk
      have y6 : X3.cell? ⟨xs, 6, none⟩ = some (.slice aa R.ans.length ac) := by simp [World.cell?, hbk, hblk]
      have yf : ∀ o, X3.frozen? ⟨xs, o, none⟩ = false := fun o => by simp [World.frozen?, hbk, hblk]
      obtain ⟨y0, y1, y2, y3, y4, y5, yy6, y7, y8, yyf⟩ := hrp.cells
      clear htp hsp hrp hown3 hg3 hfr3 hown hbk hblk yy6 yyf
      by_cases h40 : R.ans.length + 1 = 40
      · have hx1 : ((A.length : Int) + 1 == 40) = true := by rw [beq_iff_eq]; have := HAL.out; omega
        have hx2 : (((A.length + 1 : Nat) : Int) == 40) = true := by rw [beq_iff_eq]; have := HAL.out; omega
        have HE := Lib.hid ((HPA.out _ rfl).1 h40)
        obtain ⟨htf, C5, hsf, hrf⟩ := HRP.out.setFin 1
        have HTF := Lib.hid (HTP.out.trans (Turn.mk htf hsf)); have HRF := Lib.hid hrf
        clear h40 htf hsf hrf
        go_wp2_with fail
        refine bodyPost_ret (v := .tuple #[]) (by simp [results, Try.results85, go_sem]) rfl ?_
        rw [HE.out]
        exact ⟨⟨_, rfl⟩, HTF.out.touch, C5, HTF.out.same, _, _, _, _, _, _, _, _, REq.refl _, HRF.out⟩
      · have hx1 : ((A.length : Int) + 1 == 40) = false := by rw [beq_eq_false_iff_ne]; have := HAL.out; omega
        have hx2 : (((A.length + 1 : Nat) : Int) == 40) = false := by rw [beq_eq_false_iff_ne]; have := HAL.out; omega
        have HE := Lib.hid ((HPA.out _ rfl).2 h40)
        clear h40
        have HBI : Hid (BI p { R with ans := R.ans ++ [l] }) := Lib.hid ⟨HI.out.kept, HI.out.kl, HST.out, H0.out⟩
        go_wp2_with (go_at_call 114; refine (BackW HP.out HSZ.out H6.out HRP.out HBI.out).mono ?_; rintro e wB hpB; have HPB := Lib.hid hpB; obtain ⟨⟨vB, rfl⟩, -⟩ := hpB)
        refine bodyPost_ret (v := .tuple #[]) (by simp [results, Try.results85, go_sem]) rfl ?_
        rw [HE.out]
        have hpB := HPB.out
        exact (BkRPost.from HTP.out (REq.refl _) ⟨⟨_, rfl⟩, hpB.2⟩)

end Go.Proofs.Ytikmgiapjigghaa.Emb

/- Walk: the searcher runs. -/
namespace Go.Proofs.Ytikmgiapjigghaa
open Go.RowKit

theorem GAt.nil_iff {w : World} {ok : Nat → Prop} {np : Option Addr} {l : List Goal} (h : GAt w ok np l) : (l = [] ∧ np = none) ∨ (l ≠ [] ∧ ∃ b, np = some ⟨b, 0, none⟩) := by
  cases h with
  | nil => exact .inl ⟨rfl, rfl⟩
  | cons b t cut a c r l h1 h2 h3 h4 h5 => exact .inr ⟨by simp, b, rfl⟩

set_option maxRecDepth 100000 in
set_option maxHeartbeats 4000000 in
theorem RunW {p : List Cl} (hp : POk p) (hsz : ∀ c, c ∈ p → c.head.size ≤ 100000 ∧ ∀ b, b ∈ c.body → b.size ≤ 100000) (h30 : p.length ≤ 30) {w : World} {br bs bm : Nat} {tv cv av : Value} {np pa : Option Addr} {pc : Nat} {query : Nat} (hq : query ≤ 12) {S : PS} {wk : Nat} (h : SAt w br bs bm tv cv av np pa pc p query S wk)
    (hi : RInv p S) {most : Nat} (hm : most ≤ 400) (hst : S.steps ≤ most) {n : Nat} (hn : S.fin = 0 → (most - S.steps) + (40 - S.ans.length) < n) :
    Calls Try.prog 84 #[.pointer (some ⟨br, 0, none⟩), .int .i64 most] w (AnPost w br bs bm tv cv av pa pc p query (prun p query most n S)) := by
  have H := Lib.hid h; have HP := Lib.hid hp; have HSZ := Lib.hid hsz; have HI := Lib.hid hi; have H30 := Lib.hid h30; have HQ := Lib.hid hq; have HM := Lib.hid hm; have HST := Lib.hid hst; have HN := Lib.hid hn
  clear h hp hsz hi h30 hq hm hst hn
  go_enter Try.func84, Try.ntmps84
  go_wp2_with fail
  go_loopg [] n (fun k wr => ∃ (S' : PS) (tvj cvj avj : Value) (npj : Option Addr) (wkj : Nat), Hid (SAt wr br bs bm tvj cvj avj npj pa pc p query S' wkj) ∧ Hid (Touch (SM br bs bm tv cv av) w wr) ∧ Hid (Fresh w tv tvj ∧ Fresh w cv cvj ∧ Fresh w av avj) ∧ Hid (RInv p S') ∧ Hid (S'.steps ≤ most) ∧ Hid (prun p query most k S' = prun p query most n S) ∧ Hid (S'.fin = 0 → (most - S'.steps) + (40 - S'.ans.length) < k))
  case atStart => exact ⟨S, tv, cv, av, np, wk, H, Lib.hid (Touch.refl _ _), Lib.hid ⟨Fresh.self _ _, Fresh.self _ _, Fresh.self _ _⟩, HI, HST, Lib.hid rfl, HN⟩
  case round =>
    obtain ⟨S', tvj, cvj, avj, npj, wkj, HSJ, HTJ, HFJ, HIJ, HSTJ, HEJ, HNJ⟩ := hrel
    obtain ⟨q0, q1, q2, q3, q4, q5, q6, q7, q8, qf⟩ := HSJ.out.cells
    by_cases hfin : S'.fin = 0
    · have HFIN := Lib.hid hfin
      have hq7 : ((S'.fin : Int) == 0) = true := by rw [hfin]; rfl
      obtain ⟨k, hk⟩ : ∃ k, gk = k + 1 := ⟨gk - 1, by have := HNJ.out hfin; omega⟩
      have HGK := Lib.hid hk
      clear hk
      have HE1 : Hid (prun p query most k (pstep p query most S') = prun p query most n S) := Lib.hid (by
        have h1 := HEJ.out
        rw [HGK.out] at h1
        have h2 : prun p query most (k + 1) S' = prun p query most k (pstep p query most S') := by conv => lhs; unfold prun; rw [if_pos HFIN.out]
        exact h2.symm.trans h1)
      have hinv := step_inv HP.out H30.out query HM.out HIJ.out hfin HSTJ.out
      have HV : Hid (RInv p (pstep p query most S') ∧ (pstep p query most S').steps ≤ most ∧ ((pstep p query most S').fin = 0 → (most - (pstep p query most S').steps) + (40 - (pstep p query most S').ans.length) < k)) := Lib.hid ⟨hinv.1, hinv.2.1, fun e => by have h1 := hinv.2.2 e; have h2 := HNJ.out HFIN.out; rw [HGK.out] at h2; omega⟩
      clear hinv hfin
      have HKM : Hid (k < gk) := Lib.hid (by rw [HGK.out]; omega)
      rcases HSJ.out.now.nil_iff with ⟨hnow, rfl⟩ | ⟨hnow, gb, rfl⟩
      · have HPS : Hid (pstep p query most S' = pansw p query S') := Lib.hid (by unfold pstep; rw [if_pos hnow])
        rw [HPS.out] at HE1 HV
        clear hnow
        have HAN := Lib.hid (AnswerW HP.out HSZ.out HSJ.out HIJ.out HFIN.out HQ.out)
        go_wp2_with (go_at_call 112; refine HAN.out.mono ?_; rintro e wb ⟨⟨vb, rfl⟩, htb, tvb, cvb, avb, npb, wkb, hfb, hgb, hab, hsb⟩; have HTB := Lib.hid htb; have HFB := Lib.hid hfb; have HGB := Lib.hid hgb; have HAB := Lib.hid hab; have HSB := Lib.hid hsb; clear htb hfb hgb hab hsb)
        go_roundg k
        case measure => exact HKM.out
        case rel => exact ⟨_, tvb, cvb, avb, npb, wkb, HSB, Lib.hid (touch_next HTJ.out HFJ.out.1 HFJ.out.2.1 HFJ.out.2.2 HTB.out), Lib.hid ⟨HFJ.out.1.trans HFB.out HTJ.out.size, HFJ.out.2.1.trans HGB.out HTJ.out.size, HFJ.out.2.2.trans HAB.out HTJ.out.size⟩, Lib.hid HV.out.1, Lib.hid HV.out.2.1, HE1, Lib.hid HV.out.2.2⟩
      · by_cases hms : S'.steps = most
        · have HPS : Hid (pstep p query most S' = { S' with fin := 2 }) := Lib.hid (by unfold pstep; rw [if_neg hnow, if_pos (by omega)])
          rw [HPS.out] at HE1 HV
          have hq8 : ((S'.steps : Int) == (most : Int)) = true := by rw [beq_iff_eq]; omega
          clear hnow hms
          go_wp2_with fail
          go_roundg k
          case measure => exact HKM.out
          case rel => exact ⟨_, tvj, cvj, avj, _, wkj, Lib.hid (HSJ.out.setFin 2), Lib.hid (touch_next HTJ.out HFJ.out.1 HFJ.out.2.1 HFJ.out.2.2 ((Touch.setCell (M := fun b => b = br) _ rfl).mono fun b _ e => .inl e)), HFJ, Lib.hid HV.out.1, Lib.hid HV.out.2.1, HE1, Lib.hid HV.out.2.2⟩
        · have HPS : Hid (pstep p query most S' = ptake p S') := Lib.hid (by unfold pstep; rw [if_neg hnow, if_neg (by omega)])
          rw [HPS.out] at HE1 HV
          have hq8 : ((S'.steps : Int) == (most : Int)) = false := by rw [beq_eq_false_iff_ne]; omega
          have HTW := Lib.hid (TakeW HP.out HSZ.out HSJ.out HIJ.out H30.out HFIN.out hnow (by have := HSTJ.out; have := HM.out; omega))
          clear hnow hms
          go_wp2_with (go_at_call 113; refine HTW.out.mono ?_; rintro e wb ⟨⟨vb, rfl⟩, htb, tvb, cvb, npb, wkb, hfb, hgb, hsb⟩; have HTB := Lib.hid htb; have HFB := Lib.hid hfb; have HGB := Lib.hid hgb; have HSB := Lib.hid hsb; clear htb hfb hgb hsb)
          go_roundg k
          case measure => exact HKM.out
          case rel => exact ⟨_, tvb, cvb, avj, npb, wkb, HSB, Lib.hid (touch_next HTJ.out HFJ.out.1 HFJ.out.2.1 HFJ.out.2.2 HTB.out), Lib.hid ⟨HFJ.out.1.trans HFB.out HTJ.out.size, HFJ.out.2.1.trans HGB.out HTJ.out.size, HFJ.out.2.2⟩, Lib.hid HV.out.1, Lib.hid HV.out.2.1, HE1, Lib.hid HV.out.2.2⟩
    · have hq7 : ((S'.fin : Int) == 0) = false := by rw [beq_eq_false_iff_ne]; omega
      have HE1 : Hid (prun p query most n S = S') := Lib.hid (by rw [← HEJ.out]; exact prun_end gk hfin)
      clear hfin
      go_wp2_with fail
      refine bodyPost_ret (v := .tuple #[]) (by simp [results, Try.results84, go_sem]) rfl ?_
      rw [HE1.out]
      exact ⟨⟨_, rfl⟩, HTJ.out, tvj, cvj, avj, npj, wkj, HFJ.out.1, HFJ.out.2.1, HFJ.out.2.2, HSJ.out⟩

end Go.Proofs.Ytikmgiapjigghaa

/- Walk: Solve. -/
namespace Go.Proofs.Ytikmgiapjigghaa
open Go.RowKit

/-- The errno of Solve. -/
def solveE (p : List Cl) (q : List Tm) (steps : Int) : Nat :=
  if programE p ≠ 0 then programE p else if queryE q ≠ 0 then queryE q else if steps < 0 ∨ 400 < steps then 3 else 0

/-- What Solve answers beside it. -/
noncomputable def solveR (p : List Cl) (q : List Tm) (steps : Int) : List (List Tm) × Nat × Nat :=
  if solveE p q steps = 0 then ((solveP p q steps.toNat).ans, (solveP p q steps.toNat).fin, (solveP p q steps.toNat).steps) else ([], 0, 0)

theorem ts_avoid {w : World} {ok : Nat → Prop} {b6 : Nat} (hb : ∀ o s, w.cell? ⟨b6, o, none⟩ ≠ some (Value.string s)) {l : List Tm} {a : Option Addr} {c : Nat} (h : Ts w ok l a c) : Ts w (fun b => ok b ∧ b ≠ b6) l a c := by
  induction h with
  | mk l a cap hcap x hc hr ih =>
    exact .mk l a cap hcap x (fun i hi => by
      obtain ⟨b, off, h1, h2, h3, h4⟩ := hc i hi
      exact ⟨b, off, h1, ⟨h2, fun e => hb _ _ (e ▸ h4.name)⟩, h3, h4⟩) ih

/-- What Solve hands back. -/
def SvPost (w : World) (r : List (List Tm) × Nat × Nat) (n : Nat) (e : Ending) (w' : World) : Prop :=
  Below w.heap.size w w' ∧ ∃ a c, e = .returned (.tuple #[.agg #[.slice a r.1.length c, .int .i64 r.2.1, .int .i64 r.2.2], .int .i64 n]) ∧ AsAt w' (fun b => b < w'.heap.size) r.1 a c

theorem solveR_err {p : List Cl} {q : List Tm} {steps : Int} (h : solveE p q steps ≠ 0) : solveR p q steps = ([], 0, 0) := by unfold solveR; rw [if_neg h]

theorem AsAt.none (w : World) (ok : Nat → Prop) : AsAt w ok [] .none 0 := ⟨⟨Nat.le_refl _, Nat.zero_le _, fun _ => rfl⟩, fun i hi => by cases hi⟩

/-- A searcher that is made. -/
theorem SAt.made {w w4 : World} {ok : Nat → Prop} (hok : ∀ b, ok b → b < w.heap.size) {bs bm : Nat} (hbs : w.heap.size ≤ bs) (hbm : w.heap.size ≤ bm) (hB : Below w.heap.size w w4) (hst : StAt w4 ok bs bm (.slice none 0 0) (fun _ => none) [] 0) {p : List Cl} {pa : Option Addr} {pc : Nat} (hp : Pr w ok p pa pc) (query : Nat) (q : List Tm) :
    SAt (w4.alloc (.cells #[.slice pa p.length pc, .pointer (some ⟨bs, 0, none⟩), .int .i64 12, .int .i64 query, .slice none 0 0, .pointer none, .slice none 0 0, .int .i64 0, .int .i64 0] 135)) w4.heap.size bs bm (.slice none 0 0) (.slice none 0 0) (.slice none 0 0) none pa pc p query { startP q with now := [] } 0 := by
  have hBA : Below w4.heap.size w4 (w4.alloc (.cells #[.slice pa p.length pc, .pointer (some ⟨bs, 0, none⟩), .int .i64 12, .int .i64 query, .slice none 0 0, .pointer none, .slice none 0 0, .int .i64 0, .int .i64 0] 135)) := (Below.refl _ _).alloc (Nat.le_refl _) _
  have hn : ∀ b, (Value.slice none 0 0).ownBlock ≠ some b := fun b e => by simp [Value.ownBlock] at e
  have hlt : bs < w4.heap.size ∧ bm < w4.heap.size := ⟨hst.lt, hst.blocks.1⟩
  have hk : ∀ b, b < (w4.alloc (.cells #[.slice pa p.length pc, .pointer (some ⟨bs, 0, none⟩), .int .i64 12, .int .i64 query, .slice none 0 0, .pointer none, .slice none 0 0, .int .i64 0, .int .i64 0] 135)).heap.size → ok b → OkS (w4.alloc (.cells #[.slice pa p.length pc, .pointer (some ⟨bs, 0, none⟩), .int .i64 12, .int .i64 query, .slice none 0 0, .pointer none, .slice none 0 0, .int .i64 0, .int .i64 0] 135)) w4.heap.size bs bm (.slice none 0 0) (.slice none 0 0) (.slice none 0 0) b := fun b h1 h2 => ⟨h1, fun e => by
    have := hok b h2
    have := hB.size
    rcases e with e | (e | e | e) | e | e
    · omega
    · omega
    · omega
    · exact hn _ e
    · exact hn _ e
    · exact hn _ e⟩
  refine ⟨heap_alloc_new _ _, (hst.keep hBA).okmono hk fun b => OkS.st, ((hp.keep (Keeps.below hB _)).keep (Keeps.below hBA _)).mono hk, .nil, ⟨[], rfl, World.ownsRow_nil _ _ _ _, fun q hq => by cases hq⟩, ⟨[], rfl, World.ownsRow_nil _ _ _ _, fun q hq => by cases hq⟩, ?_⟩
  exact ⟨by omega, by omega, hn _, hn _, hn _, ⟨hn _, hn _, fun g e => absurd e (hn _)⟩, ⟨hn _, hn _, fun g e => absurd e (hn _)⟩, fun g e => absurd e (hn _)⟩

/-- A zero result's box. -/
def Box3R (w : World) (b : Nat) : Prop := w.heap[b]? = some (.cells #[.slice none 0 0, .int .i64 0, .int .i64 0] 66 (0, 0))

theorem Box3R.below {w u : World} {b : Nat} (h : Box3R w b) (hb : Below w.heap.size w u) : Box3R u b := (hb.block b (Array.getElem?_eq_some_iff.1 h).1).trans h

theorem Box3R.all {w : World} {b : Nat} (h : Box3R w b) : w.cell? ⟨b, 0, none⟩ = some (.slice none 0 0) ∧ w.cell? ⟨b, 1, none⟩ = some (.int .i64 0) ∧ w.cell? ⟨b, 2, none⟩ = some (.int .i64 0) ∧ ∀ o, w.frozen? ⟨b, o, none⟩ = false := by
  unfold Box3R at h
  exact ⟨by simp [World.cell?, h], by simp [World.cell?, h], by simp [World.cell?, h], fun o => by simp [World.frozen?, h]⟩

set_option maxRecDepth 100000 in
set_option maxHeartbeats 4000000 in
theorem SolveErrW (p : List Cl) (q : List Tm) (steps : Int) (hst : I64 steps) {w : World} {ok : Nat → Prop} {pa qa : Option Addr} {pc qc : Nat} (hp : Pr w ok p pa pc) (hq : Ts w ok q qa qc) (hz : solveE p q steps ≠ 0) :
    Calls Try.prog 42 #[.slice pa p.length pc, .slice qa q.length qc, .int .i64 steps] w (SvPost w (solveR p q steps) (solveE p q steps)) := by
  have hpl : p.length ≤ 9223372036854775807 := by have := hp.room; unfold maxLen at this; omega
  have hql : q.length ≤ 9223372036854775807 := by have := hq.cap; unfold maxLen at this; omega
  have hB0 : Below w.heap.size w (w.alloc (.cells #[.slice none 0 0, .int .i64 0, .int .i64 0] 66)) := (Below.refl _ _).alloc (Nat.le_refl _) _
  have HB0 := Lib.hid hB0
  have HX0 : Hid (Box3R (w.alloc (.cells #[.slice none 0 0, .int .i64 0, .int .i64 0] 66)) w.heap.size) := Lib.hid (heap_alloc_new _ _)
  have HP := Lib.hid (hp.keep (Keeps.below hB0 ok)); have HQ := Lib.hid (hq.keep (Keeps.below hB0 ok)); have HST := Lib.hid hst
  rw [solveR_err hz]
  have HZ := Lib.hid hz
  have hi1 : -9223372036854775808 ≤ steps ∧ steps ≤ 9223372036854775807 := by unfold I64 at hst; omega
  clear hp hq hst hB0 hz
  go_enter Try.func42, Try.ntmps42
  go_upto_region 1 with fail
  generalize (w.alloc (.cells #[.slice none 0 0, .int .i64 0, .int .i64 0] 66)) = W0 at *
  have HC : Hid (∀ u, Below W0.heap.size W0 u → Calls Try.prog 19 #[.slice pa p.length pc] u fun e w' => e = .returned (.int .i64 (programE p : Nat)) ∧ Below W0.heap.size W0 w') := Lib.hid (fun u hu => (ClausesW p u ok pa pc (HP.out.keep (Keeps.below hu _))).mono fun e w' h => ⟨h.1, hu.trans (h.2.mono hu.size)⟩)
  have HQY : Hid (∀ u, Below W0.heap.size W0 u → Calls Try.prog 21 #[.slice qa q.length qc] u fun e w' => e = .returned (.int .i64 (queryE q : Nat)) ∧ Below W0.heap.size W0 w') := Lib.hid (fun u hu => (QueryW q u ok qa qc (HQ.out.keep (Keeps.below hu _))).mono fun e w' h => ⟨h.1, hu.trans (h.2.mono hu.size)⟩)
  have HBR : Hid (Below W0.heap.size W0 W0) := Lib.hid (Below.refl _ _)
  have HEND : Hid (∀ (n : Nat) (u : World), Below W0.heap.size W0 u → n = solveE p q steps → SvPost w ([], 0, 0) (solveE p q steps) (.returned (.tuple #[.agg #[.slice none 0 0, .int .i64 0, .int .i64 0], .int .i64 n])) (((u.setCell ⟨w.heap.size, 0, none⟩ (.slice none 0 0)).setCell ⟨w.heap.size, 1, none⟩ (.int .i64 0)).setCell ⟨w.heap.size, 2, none⟩ (.int .i64 0))) := Lib.hid (fun n u hu hn => by
    subst hn
    exact ⟨below_put (HB0.out.trans (hu.mono HB0.out.size)) (Nat.le_refl _) _ _ _, none, 0, rfl, AsAt.none _ _⟩)
  by_cases hp0 : programE p = 0
  · by_cases hq0 : queryE q = 0
    · have hs : steps < 0 ∨ 400 < steps := by
        have hz := HZ.out
        unfold solveE at hz
        rw [if_neg (fun h => h hp0), if_neg (fun h => h hq0)] at hz
        by_cases h : steps < 0 ∨ 400 < steps
        · exact h
        · rw [if_neg h] at hz; exact absurd rfl hz
      have hE : 3 = solveE p q steps := by unfold solveE; rw [if_neg (fun h => h hp0), if_neg (fun h => h hq0), if_pos hs]
      have HE := Lib.hid hE
      rw [hp0] at HC
      rw [hq0] at HQY
      clear hE hp0 hq0
      rcases hs with hs | hs
      · go_wp2_with (first
          | (go_at_call 19; refine (HC.out _ HBR.out).mono ?_; rintro e w1 ⟨rfl, hb1⟩; have HB1 := Lib.hid hb1; clear hb1)
          | (go_at_call 21; refine (HQY.out _ HB1.out).mono ?_; rintro e w2 ⟨rfl, hb2⟩; have HB2 := Lib.hid hb2; obtain ⟨x0, x1, x2, xf⟩ := (HX0.out.below hb2).all; clear hb2))
        refine bodyPost_ret (v := .tuple #[.agg #[.slice none 0 0, .int .i64 0, .int .i64 0], .int .i64 3]) (by simp [results, Try.results42, go_sem, x0, x1, x2]) rfl ?_
        exact HEND.out 3 _ HB2.out HE.out
      · have hs0 : ¬ steps < 0 := by omega
        go_wp2_with (first
          | (go_at_call 19; refine (HC.out _ HBR.out).mono ?_; rintro e w1 ⟨rfl, hb1⟩; have HB1 := Lib.hid hb1; clear hb1)
          | (go_at_call 21; refine (HQY.out _ HB1.out).mono ?_; rintro e w2 ⟨rfl, hb2⟩; have HB2 := Lib.hid hb2; obtain ⟨x0, x1, x2, xf⟩ := (HX0.out.below hb2).all; clear hb2))
        refine bodyPost_ret (v := .tuple #[.agg #[.slice none 0 0, .int .i64 0, .int .i64 0], .int .i64 3]) (by simp [results, Try.results42, go_sem, x0, x1, x2]) rfl ?_
        exact HEND.out 3 _ HB2.out HE.out
    · have hE : queryE q = solveE p q steps := by unfold solveE; rw [if_neg (fun h => h hp0), if_pos hq0]
      have HE := Lib.hid hE
      rw [hp0] at HC
      obtain ⟨n, hn⟩ : ∃ n, queryE q = n := ⟨_, rfl⟩
      rw [hn] at HQY hq0 HE
      have e1 : ((n : Int) == 0) = false := by rw [beq_eq_false_iff_ne]; omega
      have e2 : ((n : Int) != 0) = true := by rw [bne_iff_ne]; omega
      clear hE hp0 hn
      go_wp2_with (first
        | (go_at_call 19; refine (HC.out _ HBR.out).mono ?_; rintro e w1 ⟨rfl, hb1⟩; have HB1 := Lib.hid hb1; clear hb1)
        | (go_at_call 21; refine (HQY.out _ HB1.out).mono ?_; rintro e w2 ⟨rfl, hb2⟩; have HB2 := Lib.hid hb2; obtain ⟨x0, x1, x2, xf⟩ := (HX0.out.below hb2).all; clear hb2))
      refine bodyPost_ret (v := .tuple #[.agg #[.slice none 0 0, .int .i64 0, .int .i64 0], .int .i64 n]) (by simp [results, Try.results42, go_sem, x0, x1, x2]) rfl ?_
      exact HEND.out n _ HB2.out HE.out
  · have hE : programE p = solveE p q steps := by unfold solveE; rw [if_pos hp0]
    have HE := Lib.hid hE
    obtain ⟨n, hn⟩ : ∃ n, programE p = n := ⟨_, rfl⟩
    rw [hn] at HC hp0 HE
    have e1 : ((n : Int) == 0) = false := by rw [beq_eq_false_iff_ne]; omega
    have e2 : ((n : Int) != 0) = true := by rw [bne_iff_ne]; omega
    clear hE hn HQY
    go_wp2_with (go_at_call 19; refine (HC.out _ HBR.out).mono ?_; rintro e w2 ⟨rfl, hb2⟩; have HB2 := Lib.hid hb2; obtain ⟨x0, x1, x2, xf⟩ := (HX0.out.below hb2).all; clear hb2)
    refine bodyPost_ret (v := .tuple #[.agg #[.slice none 0 0, .int .i64 0, .int .i64 0], .int .i64 n]) (by simp [results, Try.results42, go_sem, x0, x1, x2]) rfl ?_
    exact HEND.out n _ HB2.out HE.out

set_option maxRecDepth 100000 in
set_option maxHeartbeats 4000000 in
theorem SolveW (p : List Cl) (q : List Tm) (steps : Int) (hst : I64 steps) {w : World} {ok : Nat → Prop} (hok : ∀ b, ok b → b < w.heap.size) {pa qa : Option Addr} {pc qc : Nat} (hp : Pr w ok p pa pc) (hq : Ts w ok q qa qc) :
    Calls Try.prog 42 #[.slice pa p.length pc, .slice qa q.length qc, .int .i64 steps] w (SvPost w (solveR p q steps) (solveE p q steps)) := by
  have hpl : p.length ≤ 9223372036854775807 := by have := hp.room; unfold maxLen at this; omega
  have hql : q.length ≤ 9223372036854775807 := by have := hq.cap; unfold maxLen at this; omega
  have hB0 : Below w.heap.size w (w.alloc (.cells #[.slice none 0 0, .int .i64 0, .int .i64 0] 66)) := (Below.refl _ _).alloc (Nat.le_refl _) _
  have HB0 := Lib.hid hB0
  have HX0 : Hid ((w.alloc (.cells #[.slice none 0 0, .int .i64 0, .int .i64 0] 66)).heap[w.heap.size]? = some (.cells #[.slice none 0 0, .int .i64 0, .int .i64 0] 66 (0, 0))) := Lib.hid (heap_alloc_new _ _)
  have HP := Lib.hid (hp.keep (Keeps.below hB0 ok)); have HQ := Lib.hid (hq.keep (Keeps.below hB0 ok)); have HST := Lib.hid hst
  have HPP := Lib.hid hp; have HQQ := Lib.hid hq
  have HOK : Hid (∀ b, ok b → b < (w.alloc (.cells #[.slice none 0 0, .int .i64 0, .int .i64 0] 66)).heap.size) := Lib.hid (fun b hb => Nat.lt_of_lt_of_le (hok b hb) hB0.size)
  have HSZ0 : Hid ((w.alloc (.cells #[.slice none 0 0, .int .i64 0, .int .i64 0] 66)).heap.size = w.heap.size + 1) := Lib.hid (by simp)
  clear hp hq hok hst hB0
  have x00 : (w.alloc (.cells #[.slice none 0 0, .int .i64 0, .int .i64 0] 66)).cell? ⟨w.heap.size, 0, none⟩ = some (.slice none 0 0) := by have h := HX0.out; simp only [World.cell?, h]; rfl
  have x01 : (w.alloc (.cells #[.slice none 0 0, .int .i64 0, .int .i64 0] 66)).cell? ⟨w.heap.size, 1, none⟩ = some (.int .i64 0) := by have h := HX0.out; simp only [World.cell?, h]; rfl
  have x02 : (w.alloc (.cells #[.slice none 0 0, .int .i64 0, .int .i64 0] 66)).cell? ⟨w.heap.size, 2, none⟩ = some (.int .i64 0) := by have h := HX0.out; simp only [World.cell?, h]; rfl
  by_cases hz : solveE p q steps = 0
  · have hp0 : programE p = 0 := by
      unfold solveE at hz
      by_cases h : programE p = 0
      · exact h
      · rw [if_pos h] at hz; exact absurd hz h
    have hq0 : queryE q = 0 := by
      unfold solveE at hz
      rw [if_neg (fun h => h hp0)] at hz
      by_cases h : queryE q = 0
      · exact h
      · rw [if_pos h] at hz; exact absurd hz h
    have hs0 : 0 ≤ steps ∧ steps ≤ 400 := by
      unfold solveE at hz
      rw [if_neg (fun h => h hp0), if_neg (fun h => h hq0)] at hz
      by_cases h : steps < 0 ∨ 400 < steps
      · rw [if_pos h] at hz; cases hz
      · omega
    obtain ⟨most, rfl⟩ : ∃ m : Nat, steps = (m : Int) := ⟨steps.toNat, by omega⟩
    have HP0 := Lib.hid hp0; have HQ0 := Lib.hid hq0; have HS0 : Hid (most ≤ 400) := Lib.hid (by omega)
    have HR : Hid (solveR p q most = ((solveP p q most).ans, (solveP p q most).fin, (solveP p q most).steps)) := Lib.hid (by unfold solveR; rw [if_pos hz]; rfl)
    have HZ := Lib.hid hz
    have h1 := hs0.1; have h2 := hs0.2
    obtain ⟨gq, hgq⟩ : ∃ g : Nat, (Tm.greats q).toNat = g := ⟨_, rfl⟩
    have hgi : Tm.greats q = (gq : Int) := by rw [← hgq]; have := Tm.greats_pos q; omega
    have HG12 : Hid (gq ≤ 12) := Lib.hid (by have := query_great hq0; omega)
    have HGQ := Lib.hid hgq
    have HGI := Lib.hid hgi
    clear hp0 hq0 hs0 hz hgq hgi x00 x01 x02
    go_enter Try.func42, Try.ntmps42
    go_upto_region 1 with fail
    generalize (w.alloc (.cells #[.slice none 0 0, .int .i64 0, .int .i64 0] 66)) = W0 at *
    have HC : Hid (∀ u, Below W0.heap.size W0 u → Calls Try.prog 19 #[.slice pa p.length pc] u fun e w' => e = .returned (.int .i64 0) ∧ Below W0.heap.size W0 w') := Lib.hid (fun u hu => (ClausesW p u ok pa pc (HP.out.keep (Keeps.below hu _))).mono fun e w' h => ⟨by rw [h.1, HP0.out]; rfl, hu.trans (h.2.mono hu.size)⟩)
    have HQY : Hid (∀ u, Below W0.heap.size W0 u → Calls Try.prog 21 #[.slice qa q.length qc] u fun e w' => e = .returned (.int .i64 0) ∧ Below W0.heap.size W0 w') := Lib.hid (fun u hu => (QueryW q u ok qa qc (HQ.out.keep (Keeps.below hu _))).mono fun e w' h => ⟨by rw [h.1, HQ0.out]; rfl, hu.trans (h.2.mono hu.size)⟩)
    have HGR : Hid (∀ u, Below W0.heap.size W0 u → Calls Try.prog 55 #[.slice qa q.length qc] u fun e w' => e = .returned (.int .i64 (gq : Nat)) ∧ Below u.heap.size u w') := Lib.hid (fun u hu => by
      have := GreatestW q u ok qa qc (HQ.out.keep (Keeps.below hu _))
      rw [HGI.out] at this; exact this)
    have HBR : Hid (Below W0.heap.size W0 W0) := Lib.hid (Below.refl _ _)
    go_wp2_with (first
      | (go_at_call 19; refine (HC.out _ HBR.out).mono ?_; rintro e w1 ⟨rfl, hb1⟩; have HB1 := Lib.hid hb1; clear hb1)
      | (go_at_call 21; refine (HQY.out _ HB1.out).mono ?_; rintro e w2 ⟨rfl, hb2⟩; have HB2 := Lib.hid hb2; clear hb2)
      | (go_at_call 65; refine (NewW w2 ok (fun b hb => by have := HOK.out b hb; have := HB2.out.size; omega)).mono ?_; rintro e w3 ⟨rfl, hst3, hb3⟩; have HS3 := Lib.hid hst3; have HB3 := Lib.hid (HB2.out.trans (hb3.mono HB2.out.size)); clear hst3 hb3)
      | (go_at_call 55; refine (HGR.out _ HB3.out).mono ?_; rintro e w4 ⟨rfl, hb4⟩; have HS4 := Lib.hid (HS3.out.keep hb4); have HB4 := Lib.hid (HB3.out.trans (hb4.mono HB3.out.size)); clear hb4))
    have HSV := Lib.hid (SAt.made HOK.out (bs := w2.heap.size + 1) (bm := w2.heap.size) (by have := HB2.out.size; omega) HB2.out.size HB4.out HS4.out HP.out gq q)
    have HB5 : Hid (Below W0.heap.size W0 (w4.alloc (.cells #[.slice pa p.length pc, .pointer (some ⟨w2.heap.size + 1, 0, none⟩), .int .i64 12, .int .i64 gq, .slice none 0 0, .pointer none, .slice none 0 0, .int .i64 0, .int .i64 0] 135))) := Lib.hid (HB4.out.alloc HB4.out.size _)
    have HSB : Hid (W0.heap.size ≤ w2.heap.size ∧ w2.heap.size + 1 < w4.heap.size) := Lib.hid ⟨HB2.out.size, HS4.out.lt⟩
    have HSM : Hid (∀ b, SM w4.heap.size (w2.heap.size + 1) w2.heap.size (.slice none 0 0) (.slice none 0 0) (.slice none 0 0) b → W0.heap.size ≤ b) := Lib.hid (fun b e => by
      have := HSB.out
      rcases e with e | (e | e | e) | e | e
      · omega
      · omega
      · omega
      · simp [Value.ownBlock] at e
      · simp [Value.ownBlock] at e
      · simp [Value.ownBlock] at e)
    have HQ5 := Lib.hid (HQ.out.keep (Keeps.below HB5.out ok))
    have HOKS : Hid (∀ b, ok b → OkS (w4.alloc (.cells #[.slice pa p.length pc, .pointer (some ⟨w2.heap.size + 1, 0, none⟩), .int .i64 12, .int .i64 gq, .slice none 0 0, .pointer none, .slice none 0 0, .int .i64 0, .int .i64 0] 135)) w4.heap.size (w2.heap.size + 1) w2.heap.size (.slice none 0 0) (.slice none 0 0) (.slice none 0 0) b) := Lib.hid (fun b hb => ⟨Nat.lt_of_lt_of_le (HOK.out b hb) HB5.out.size, fun e => by have := HSM.out b e; have := HOK.out b hb; omega⟩)
    generalize (w4.alloc (.cells #[.slice pa p.length pc, .pointer (some ⟨w2.heap.size + 1, 0, none⟩), .int .i64 12, .int .i64 gq, .slice none 0 0, .pointer none, .slice none 0 0, .int .i64 0, .int .i64 0] 135)) = w5 at *
    generalize w2.heap.size + 1 = bs at *
    generalize w2.heap.size = bm at *
    generalize w4.heap.size = br at *
    have HTQ : Hid (Ts w5 (OkS w5 br bs bm (.slice none 0 0) (.slice none 0 0) (.slice none 0 0)) q qa qc) := Lib.hid (HQ5.out.mono fun b _ hb => HOKS.out b hb)
    have HQFIT : Hid (∀ t, t ∈ q → t.fits) := Lib.hid (fun t ht => by
      obtain ⟨i, hi, rfl⟩ := List.getElem_of_mem ht
      obtain ⟨b, off, a', cap', _, _, _, hc, _⟩ := HQ.out.at i hi
      exact hc.fits)
    clear HQ5 HOKS
    go_loopg [10] q.length (fun m v10 wr => ∃ (npm : Option Addr), m ≤ q.length ∧ v10 = .int .i64 ((m : Int) - 1) ∧ Hid (Touch (SM br bs bm (.slice none 0 0) (.slice none 0 0) (.slice none 0 0)) w5 wr) ∧ Hid (SAt wr br bs bm (.slice none 0 0) (.slice none 0 0) (.slice none 0 0) npm pa pc p gq { startP q with now := (q.drop m).map fun t => (t, 0) } 0))
    case atStart => exact ⟨none, Nat.le_refl _, rfl, Lib.hid (Touch.refl _ _), Lib.hid (by rw [List.drop_length]; exact HSV.out)⟩
    case round =>
      obtain ⟨npm, hm, rfl, HTM, HSMX⟩ := hrel
      obtain ⟨q0, q1, q2, q3, q4, q5, q6, q7, q8, qf⟩ := HSMX.out.cells
      cases gk with
      | zero =>
        clear hm
        have HRW := Lib.hid (RunW (pok_of HP0.out) (psize_of HP0.out) (program_zero HP0.out).1 HG12.out (HSMX.out.plain (S' := startP q) rfl rfl rfl rfl rfl rfl rfl rfl) (start_inv p HQ0.out) HS0.out (Nat.zero_le _) (n := 442) (fun _ => by simp [startP]; have := HS0.out; omega))
        have hx6 := (HTM.out.block w.heap.size (by have := HB5.out.size; have := HSZ0.out; omega) (fun e => by have := HSM.out _ e; have := HSZ0.out; omega)).trans ((HB5.out.block w.heap.size (by have := HSZ0.out; omega)).trans HX0.out)
        have HX6 := Lib.hid hx6
        have lb6 : w.heap.size < wr.heap.size := (Array.getElem?_eq_some_iff.1 hx6).1
        have HN6 : Hid (¬ SM br bs bm (.slice none 0 0) (.slice none 0 0) (.slice none 0 0) w.heap.size) := Lib.hid (fun e => by have := HSM.out _ e; have := HSZ0.out; omega)
        clear hx6
        go_wp2_with (go_at_call 84; refine HRW.out.mono ?_; rintro e wz ⟨⟨vz, rfl⟩, htz, tvz, cvz, avz, npz, wkz, hfz, hgz, haz, hsz⟩; obtain ⟨A, hA, hrow, hAt⟩ := hsz.ans; obtain ⟨aa, ac, hav, -, -⟩ := row_cap hrow; subst hav; have HTZ := Lib.hid htz; have HFA := Lib.hid haz; have HSZ := Lib.hid hsz; have HA1 := Lib.hid hA; have HA2 := Lib.hid hrow; have HA3 := Lib.hid hAt; have hx7 := (htz.block w.heap.size lb6 HN6.out).trans HX6.out; have HX7 := Lib.hid hx7; have x0 : wz.cell? ⟨w.heap.size, 0, none⟩ = some (.slice none 0 0) := (by simp [World.cell?, hx7]); have x1 : wz.cell? ⟨w.heap.size, 1, none⟩ = some (.int .i64 0) := (by simp [World.cell?, hx7]); have x2 : wz.cell? ⟨w.heap.size, 2, none⟩ = some (.int .i64 0) := (by simp [World.cell?, hx7]); have xf : ∀ o, wz.frozen? ⟨w.heap.size, o, none⟩ = false := (fun o => by simp [World.frozen?, hx7]); obtain ⟨z0, z1, z2, z3, z4, z5, z6, z7, z8, zf⟩ := hsz.cells; have lbz := hsz.lt; clear htz haz hsz hfz hgz hx7 hA hrow hAt)
        have HLZ : Hid (wr.heap.size ≤ wz.heap.size) := Lib.hid HTZ.out.size
        have TP := touch_put wz w.heap.size (.slice aa A.length ac) (.int .i64 ((prun p gq most 442 (startP q)).fin : Nat)) (.int .i64 ((prun p gq most 442 (startP q)).steps : Nat))
        have hbw : Below w.heap.size w wz := HB0.out.trans ((HB5.out.trans (((HTM.out.trans HTZ.out).toBelow HB5.out.size HSM.out).mono (Nat.le_refl _))).mono HB0.out.size)
        have hstr : ∀ o s, wz.cell? ⟨w.heap.size, o, none⟩ ≠ some (Value.string s) := fun o s e => by
          have h := HX7.out
          simp only [World.cell?, h] at e
          rcases o with _ | _ | _ | o
          · cases e
          · cases e
          · cases e
          · simp at e
        have hown : ∀ b, (Value.slice aa A.length ac).ownBlock = some b → b < wz.heap.size ∧ b ≠ w.heap.size := fun b hb => by
          refine ⟨(HA2.out.lt b hb).2, fun e => ?_⟩
          rcases HFA.out with h | h
          · rw [h] at hb; simp [Value.ownBlock] at hb
          · have := h b hb; omega
        obtain ⟨la, lc, hle, has⟩ := AsAt.of_row (ok := fun b => b < wz.heap.size ∧ b ≠ w.heap.size) HA2.out hown (fun x hx => (ts_avoid hstr (HA3.out x hx)).mono fun b _ hb => ⟨hb.1.1, hb.2⟩)
        have hRA : solveR p q most = (A.map (·.2), (prun p gq most 442 (startP q)).fin, (prun p gq most 442 (startP q)).steps) := by
          rw [HR.out, HA1.out]; unfold solveP; rw [HGQ.out]
        rw [hRA, HZ.out]
        have has2 := (has.keep (TP.keeps fun b hb e => hb.2 e)).mono (ok' := fun b => b < (((wz.setCell ⟨w.heap.size, 0, none⟩ (.slice aa A.length ac)).setCell ⟨w.heap.size, 1, none⟩ (.int .i64 ((prun p gq most 442 (startP q)).fin : Nat))).setCell ⟨w.heap.size, 2, none⟩ (.int .i64 ((prun p gq most 442 (startP q)).steps : Nat))).heap.size) fun b h _ => h
        have hbf := below_put hbw (Nat.le_refl _) (.slice aa A.length ac) (.int .i64 ((prun p gq most 442 (startP q)).fin : Nat)) (.int .i64 ((prun p gq most 442 (startP q)).steps : Nat))
        have lb7 : w.heap.size < wz.heap.size := by have := HLZ.out; omega
        rw [hle]
        rw [hle] at has2 hbf
        exact bodyPost_ret (v := .tuple #[.agg #[.slice la (A.map (·.2)).length lc, .int .i64 ((prun p gq most 442 (startP q)).fin : Nat), .int .i64 ((prun p gq most 442 (startP q)).steps : Nat)], .int .i64 0]) (by simp [results, Try.results42, go_sem, x0, x1, x2]) rfl ⟨hbf, la, lc, rfl, has2⟩
      | succ m =>
        have hmq : m < q.length := hm
        have e : (((m + 1 : Nat) : Int) - 1) = (m : Int) := by omega
        rw [e]
        have hm1 : (m : Int) < (q.length : Int) := by omega
        have HOX := okS_step HTM.out (Fresh.self w5 (.slice none 0 0)) (Fresh.self w5 (.slice none 0 0)) (Fresh.self w5 (.slice none 0 0))
        obtain ⟨b5, off5, a5, c5, ha5, hok5, hb5, hc5, ht5⟩ := ((HTQ.out.keep HOX.1).mono fun b _ => HOX.2 b).at m hmq
        subst ha5
        have p0 := hc5.var; have p1 := hc5.name; have p2 := hc5.args
        obtain ⟨tq, htq⟩ : ∃ t, q[m] = t := ⟨_, rfl⟩
        have HTM5 := Lib.hid ht5; have HFT := Lib.hid hc5.fits
        rw [htq] at p0 p1 p2 HTM5 HFT
        have HTQM := Lib.hid htq
        have hbne : b5 ≠ br := fun e => hok5.2 (.inl e)
        have lbr := HSMX.out.lt
        clear hc5 ht5 HOX e hok5 htq hm
        go_wp2_with fail
        go_region
        all_goals
          go_wp2_with fail
          have HST2 : Hid (SAt (((wr.setCell ⟨br, 5, none⟩ (.pointer (some ⟨wr.heap.size, 0, none⟩))).alloc (.cells #[.int .i64 tq.var, .string tq.name, .slice a5 tq.args.length c5, .int .i64 0, .pointer npm] 137)).drew) br bs bm (.slice none 0 0) (.slice none 0 0) (.slice none 0 0) (some ⟨wr.heap.size, 0, none⟩) pa pc p gq { startP q with now := (q.drop m).map fun t => (t, 0) } 0) := Lib.hid (by
            rw [alloc_set wr lbr]
            have hBa : Below wr.heap.size wr (wr.alloc (.cells #[.int .i64 tq.var, .string tq.name, .slice a5 tq.args.length c5, .int .i64 0, .pointer npm] 137)) := (Below.refl _ _).alloc (Nat.le_refl _) _
            have h1 := HSMX.out.below hBa
            have hl := fun b (hb : SM br bs bm (.slice none 0 0) (.slice none 0 0) (.slice none 0 0) b) => SM_lt HSMX.out hb
            have h2 := h1.setNow (np' := some ⟨wr.heap.size, 0, none⟩) (l := (tq, 0) :: (q.drop (m + 1)).map fun t => (t, 0)) (.cons _ _ _ a5 c5 npm _ (heap_alloc_new _ _) ⟨by simp, fun e => by have := hl _ e; omega⟩ HFT.out ((HTM5.out.keep (Keeps.below hBa _)).mono fun b _ hb => ⟨Nat.lt_of_lt_of_le hb.1 hBa.size, hb.2⟩) h1.now)
            rw [List.drop_eq_getElem_cons hmq, HTQM.out]
            exact h2.below ((Below.refl _ _).drew))
          have HTT2 : Hid (Touch (SM br bs bm (.slice none 0 0) (.slice none 0 0) (.slice none 0 0)) w5 (((wr.setCell ⟨br, 5, none⟩ (.pointer (some ⟨wr.heap.size, 0, none⟩))).alloc (.cells #[.int .i64 tq.var, .string tq.name, .slice a5 tq.args.length c5, .int .i64 0, .pointer npm] 137)).drew)) := Lib.hid ((HTM.out.trans ((Touch.setCell (M := fun b => b = br) _ rfl).mono fun b _ e => .inl e)).trans (Touch.below (((Below.refl _ _).alloc (Nat.le_refl _) _).drew)))
          go_roundg m
          case measure => omega
          case rel => exact ⟨_, by omega, rfl, HTT2, HST2⟩
  · exact SolveErrW p q steps HST.out HPP.out HQQ.out hz

end Go.Proofs.Ytikmgiapjigghaa

/- Walk: SolveOf of the reference. -/
namespace Go.Proofs.Ytikmgiapjigghaa.Emb
open Go.RowKit Go.Proofs.Ytikmgiapjigghaa

/-- A search that tells goes on by one answer. -/
theorem rtell_one {p : List Cl} (hp : POk p) (h6 : Bd6 p) {S : RS} (query : Nat) (h : RI p S) (h0 : S.fin = 0) (hst : S.steps ≤ 400) :
    (rtell p query S).fin = 0 → (rtell p query S).ans.length = S.ans.length + 1 := by
  unfold rtell
  split
  · exact fun e => by cases e
  · split
    · exact fun e => by cases e
    · rename_i x _ hx
      have := rback_next hp h6 S.kept.length { S with ans := S.ans ++ [(Tm.rens numV [] x.1).1] } rfl ⟨h.kept, h.kl, hst, h0⟩
      intro _
      rw [this.ans]; simp

/-- What holds from turn to turn of the reference's search. -/
structure RunI (p : List Cl) (most k : Nat) (R : RS) : Prop where
  core : R.fin = 0 → RI p R ∧ R.ans.length < 40
  steps : R.steps ≤ most
  fuel : R.fin = 0 → (most - R.steps) + (40 - R.ans.length) < k

theorem RunI.step {p : List Cl} (hp : POk p) (h6 : Bd6 p) {query most k : Nat} (hm : most ≤ 400) {R : RS} (h : RunI p most (k + 1) R) (h0 : R.fin = 0) : RunI p most k (rstep p query most R) := by
  obtain ⟨h1, h2⟩ := h.core h0
  have hs := h.steps
  have hf := h.fuel h0
  unfold rstep
  by_cases ht : R.todo = []
  · rw [if_pos ht]
    obtain ⟨a, b, c⟩ := rtell_next hp h6 query h1 h0 (by omega) h2
    have d := rtell_one hp h6 query h1 h0 (by omega)
    exact ⟨a, by rw [b]; exact hs, fun e => by have := d e; rw [b]; omega⟩
  · rw [if_neg ht]
    by_cases hms : (R.steps : Int) = most
    · rw [if_pos hms]
      exact ⟨(fun e => by cases e), hs, (fun e => by cases e)⟩
    · rw [if_neg hms]
      have := rtake_next hp h6 h1 h0 ht (by omega)
      exact ⟨fun e => ⟨this.run e, by rw [this.ans]; exact h2⟩, by rw [this.steps]; omega, fun e => by rw [this.steps, this.ans]; omega⟩

theorem rrun_end {p : List Cl} {query : Nat} {most : Int} : ∀ (k : Nat) {R : RS}, R.fin ≠ 0 → rrun p query most k R = R := by
  intro k R h
  cases k with
  | zero => rfl
  | succ k => unfold rrun; rw [if_neg h]

theorem rrun_step {p : List Cl} {query : Nat} {most : Int} {k : Nat} {R : RS} (h : R.fin = 0) : rrun p query most (k + 1) R = rrun p query most k (rstep p query most R) := by
  conv => lhs; unfold rrun; rw [if_pos h]

theorem bd6_of {p : List Cl} (h : programE p = 0) : Bd6 p := fun c hc => (query_zero ((program_zero h).2 c hc).2).1

theorem start_RI (p : List Cl) {q : List Tm} (h : queryE q = 0) {most : Nat} : RunI p most (most + 41) (startR q) := by
  refine ⟨fun _ => ⟨⟨fun g hg => ?_, by simp [startR], by have := (query_zero h).1; simp [startR]; omega, (fun c hc => by cases hc), Nat.le_refl _, Nat.le_refl _⟩, by simp [startR]⟩, Nat.zero_le _, fun _ => by simp [startR]⟩
  obtain ⟨t, ht, rfl⟩ := List.mem_map.1 hg
  exact check_fit (query_mem h ht)

/-- What the reference's search ends in. -/
noncomputable def solveQ (p : List Cl) (q : List Tm) (most : Nat) : RS := rrun p (Tm.greats q).toNat most 442 (startR q)

/-- What SolveOf hands back. -/
def SoPost (w : World) (r : List (List Tm) × Nat × Nat) (e : Ending) (w' : World) : Prop :=
  Below w.heap.size w w' ∧ ∃ a c, e = .returned (.agg #[.slice a r.1.length c, .int .i64 r.2.1, .int .i64 r.2.2]) ∧ (∀ b off, a = some ⟨b, off, none⟩ → w.heap.size < b) ∧ AsAt w' (fun b => b < w'.heap.size) r.1 a c

/-- The cells of a search whose goals are laid. -/
def boxS (pa : Option Addr) (p : List Cl) (pc g cap query : Nat) (tv : Value) : Array Value := #[.slice pa p.length pc, .slice (some ⟨g, 0, none⟩) 13 cap, .int .i64 0, tv, .slice none 0 0, .int .i64 query, .slice none 0 0, .int .i64 0, .int .i64 0]

theorem OwnTd.box {w : World} {base : Nat} {C : Nat → Prop} {x : Value} {L : List TdE} (h : OwnTd w base C x L) {xs : Nat} (hC : C xs) (hx : xs < base) (o : Nat) (v : Value) : OwnTd (w.setCell ⟨xs, o, none⟩ v) base C x L := by
  have ht : Touch (fun b => b = xs) w (w.setCell ⟨xs, o, none⟩ v) := Touch.setCell _ rfl
  refine ⟨Touch.row ht h.own fun g hg e => by have := (h.own.lt g hg).1; omega, (h.each.keep (ht.keeps fun b hb e => hb.1.2 (e ▸ hC))).mono fun b _ hb => ⟨⟨Nat.lt_of_lt_of_le hb.1.1 ht.size, hb.1.2⟩, hb.2⟩⟩

/-- A search that is made. -/
theorem RSAt.made {w : World} {xs g cap : Nat} {ok : Nat → Prop} {p : List Cl} {pa ta : Option Addr} {pc tc query : Nat} {q : List Tm} (hb : w.heap[xs]? = some (.cells (boxS pa p pc g cap query (.slice ta q.length tc)) 142 (0, 0)))
    (hrow : w.ownsRow 0 24 3 (.slice (some ⟨g, 0, none⟩) 13 cap) 13 (flat (fresh 0 13))) (heach : TsEach w ok (fresh 0 13)) (hgx : g ≠ xs) (hok : ∀ b, ok b → b < w.heap.size ∧ ¬ (b = xs ∨ b = g)) (hP : Pr w ok p pa pc)
    (htd : TdAt w (OkC w (fun b => b = xs ∨ b = g)) (q.map fun t => (t, 0)) ta tc) :
    RSAt w xs (fun b => b = xs ∨ b = g) (.slice (some ⟨g, 0, none⟩) 13 cap) (.slice none 0 0) (.slice none 0 0) pa ta pc tc p query (startR q) (fresh 0 13) 0 := by
  have hk : ∀ b, b < w.heap.size → ok b → OkC w (fun b => b = xs ∨ b = g) b := fun b _ h => hok b h
  have hf : (fresh 0 13).length = 13 := by simp [fresh]
  refine ⟨⟨by rw [hb]; simp [boxS, zOf, startR], by rw [hf]; exact hrow, heach.mono hk, by simp only [Value.ownBlock]; exact fun e => hgx (Option.some.inj e), fun b hb' => ⟨hb'.1, fun e => hb'.2 (.inl e), fun e => hb'.2 (.inr (Option.some.inj e).symm)⟩⟩, ?_, by rw [hf]; rfl, fresh_FB, hP.mono hk, htd, ⟨[], rfl, World.ownsRow_nil _ _ _ _, fun k hk' => by cases hk'⟩, ⟨[], rfl, World.ownsRow_nil _ _ _ _, fun k hk' => by cases hk'⟩, ?_, ?_, ?_⟩
  · rw [fresh_sub]; rfl
  · exact ⟨by simp [Value.ownBlock], by simp [Value.ownBlock], fun g' _ => by simp [Value.ownBlock], fun g' _ => by simp [Value.ownBlock], fun g' h => by simp [Value.ownBlock] at h⟩
  · rintro b (e | e | e | e)
    · exact .inl e
    · exact .inr (Option.some.inj e).symm
    · simp [Value.ownBlock] at e
    · simp [Value.ownBlock] at e
  · rintro b (e | e)
    · subst e; exact (Array.getElem?_eq_some_iff.1 hb).1
    · subst e; exact (hrow.lt b rfl).2

theorem boxS_cells {w : World} {xs : Nat} {pa : Option Addr} {p : List Cl} {pc g cap query : Nat} {tv : Value} (h : w.heap[xs]? = some (.cells (boxS pa p pc g cap query tv) 142 (0, 0))) : w.cell? ⟨xs, 3, none⟩ = some tv ∧ ∀ o, w.frozen? ⟨xs, o, none⟩ = false := ⟨by simp [World.cell?, h, boxS], fun o => by simp [World.frozen?, h]⟩

set_option maxRecDepth 100000 in
set_option maxHeartbeats 8000000 in
theorem SolveOfW {p : List Cl} {q : List Tm} (hp0 : programE p = 0) (hq0 : queryE q = 0) {most : Nat} (hm : most ≤ 400) {w : World} {ok : Nat → Prop} (hok : ∀ b, ok b → b < w.heap.size) {pa qa : Option Addr} {pc qc : Nat} (hP : Pr w ok p pa pc) (hQ : Ts w ok q qa qc) :
    Calls Try.prog 44 #[.slice pa p.length pc, .slice qa q.length qc, .int .i64 most] w (SoPost w ((solveQ p q most).ans, (solveQ p q most).fin, (solveQ p q most).steps)) := by
  obtain ⟨gq, hgq⟩ : ∃ g : Nat, (Tm.greats q).toNat = g := ⟨_, rfl⟩
  have hgi : Tm.greats q = (gq : Int) := by rw [← hgq]; have := Tm.greats_pos q; omega
  have HG12 : Hid (gq ≤ 12) := Lib.hid (by have := query_great hq0; omega)
  have hpl : p.length ≤ 9223372036854775807 := by have := hP.room; unfold maxLen at this; omega
  have hql : q.length ≤ 9223372036854775807 := by have := hQ.cap; unfold maxLen at this; omega
  have hq6 : q.length ≤ 6 := (query_zero hq0).1
  have hB0 : Below w.heap.size w (w.alloc (.cells #[.slice none 0 0, .int .i64 0, .int .i64 0] 66)) := (Below.refl _ _).alloc (Nat.le_refl _) _
  have HB0 := Lib.hid hB0
  have HX0 : Hid (Box3R (w.alloc (.cells #[.slice none 0 0, .int .i64 0, .int .i64 0] 66)) w.heap.size) := Lib.hid (heap_alloc_new _ _)
  have HSZ0 : Hid ((w.alloc (.cells #[.slice none 0 0, .int .i64 0, .int .i64 0] 66)).heap.size = w.heap.size + 1) := Lib.hid (by simp)
  have HP := Lib.hid (hP.keep (Keeps.below hB0 ok)); have HQ := Lib.hid (hQ.keep (Keeps.below hB0 ok)); have HOK := Lib.hid hok
  have HP0 := Lib.hid hp0; have HQ0 := Lib.hid hq0; have HM := Lib.hid hm
  have HSQ : Hid (solveQ p q most = rrun p gq most 442 (startR q)) := Lib.hid (by unfold solveQ; rw [hgq])
  have HGI := Lib.hid hgi
  clear hP hQ hok hB0 hp0 hq0 hgq hgi
  obtain ⟨i0, zc, hi0, hz0, hz1, hz2, hz3⟩ := infoTd
  go_enter Try.func44, Try.ntmps44
  go_upto_region 1 with fail
  generalize (w.alloc (.cells #[.slice none 0 0, .int .i64 0, .int .i64 0] 66)) = W0 at *
  have HBG : Hid (BeginPost W0 ok = BeginPost W0 ok) := Lib.hid rfl
  have HBW : Hid (Calls Try.prog 69 #[] W0 (BeginPost W0 ok)) := Lib.hid (BeginW W0 ok (fun b hb => by have := HOK.out b hb; have := HSZ0.out; omega))
  have HVR : Hid (∀ u, Below W0.heap.size W0 u → Calls Try.prog 15 #[.slice qa q.length qc] u fun e w' => e = .returned (.int .i64 (gq : Nat)) ∧ Below u.heap.size u w') := Lib.hid (fun u hu => by
    have h := VarsOfW q (query_sizes HQ0.out) u (fun _ => True) (fun _ _ => trivial) qa qc ((HQ.out.keep (Keeps.below hu _)).mono fun _ _ _ => trivial)
    rw [HGI.out] at h; exact h)
  go_wp2_with (first
    | (go_at_call 69; refine HBW.out.mono ?_; rintro e w1 ⟨g, cap, rfl, hg1, hrow1, heach1, hb1⟩; have HG1 := Lib.hid hg1; have HR1 := Lib.hid hrow1; have HE1 := Lib.hid heach1; have HB1 := Lib.hid hb1; clear hg1 hrow1 heach1 hb1)
    | (go_at_call 15; refine (HVR.out _ HB1.out).mono ?_; rintro e w2 ⟨rfl, hb2⟩; have HB2 := Lib.hid hb2; clear hb2))
  have hA : Below w2.heap.size w2 (w2.alloc (.cells (boxS pa p pc g cap gq (.slice none 0 0)) 142)) := (Below.refl _ _).alloc (Nat.le_refl _) _
  have HBX : Hid ((w2.alloc (.cells (boxS pa p pc g cap gq (.slice none 0 0)) 142)).heap[w2.heap.size]? = some (.cells (boxS pa p pc g cap gq (.slice none 0 0)) 142 (0, 0))) := Lib.hid (heap_alloc_new _ _)
  have HBS : Hid (Below W0.heap.size W0 (w2.alloc (.cells (boxS pa p pc g cap gq (.slice none 0 0)) 142))) := Lib.hid (HB1.out.trans ((HB2.out.trans (hA.mono HB2.out.size)).mono HB1.out.size))
  have HRS : Hid ((w2.alloc (.cells (boxS pa p pc g cap gq (.slice none 0 0)) 142)).ownsRow 0 24 3 (.slice (some ⟨g, 0, none⟩) 13 cap) 13 (flat (fresh 0 13))) := Lib.hid (ownsRow_below (ownsRow_below HR1.out HB2.out) hA)
  have HES : Hid (TsEach (w2.alloc (.cells (boxS pa p pc g cap gq (.slice none 0 0)) 142)) ok (fresh 0 13)) := Lib.hid ((HE1.out.keep (Keeps.below HB2.out _)).keep (Keeps.below hA _))
  have HGX : Hid (g < w2.heap.size ∧ W0.heap.size ≤ g ∧ W0.heap.size ≤ w2.heap.size) := Lib.hid ⟨Nat.lt_of_lt_of_le (HR1.out.lt g rfl).2 HB2.out.size, HG1.out, Nat.le_trans HB1.out.size HB2.out.size⟩
  have HSS : Hid ((w2.alloc (.cells (boxS pa p pc g cap gq (.slice none 0 0)) 142)).heap.size = w2.heap.size + 1) := Lib.hid (by simp)
  have heq : (w2.alloc (.cells (boxS pa p pc g cap gq (.slice none 0 0)) 142)) = (w2.alloc (.cells #[.slice pa p.length pc, .slice (some ⟨g, 0, none⟩) 13 cap, .int .i64 0, .slice none 0 0, .slice none 0 0, .int .i64 gq, .slice none 0 0, .int .i64 0, .int .i64 0] 142)) := rfl
  rw [heq] at HBX HBS HRS HES HSS
  clear hA heq HB1 HB2 HR1 HE1 HG1
  generalize (w2.alloc (.cells #[.slice pa p.length pc, .slice (some ⟨g, 0, none⟩) 13 cap, .int .i64 0, .slice none 0 0, .slice none 0 0, .int .i64 gq, .slice none 0 0, .int .i64 0, .int .i64 0] 142)) = ws at *
  generalize w2.heap.size = xs at *
  go_loopw [8] (fun y8 wr => ∃ (k : Nat) (L : List TdE) (tv : Value), k ≤ q.length ∧ y8 = .int .i64 k ∧ Hid (wr.heap[xs]? = some (.cells (boxS pa p pc g cap gq tv) 142 (0, 0))) ∧ Hid (OwnTd wr ws.heap.size (fun b => b = xs ∨ b = g) tv L) ∧ Hid (L.map (·.1) = (q.take k).map fun t => (t, 0)) ∧ Hid (Touch (fun b => b = xs) ws wr)) (fun y8 _ => q.length - (intOf y8).toNat)
  case atStart => exact ⟨0, [], .slice none 0 0, Nat.zero_le _, rfl, HBX, Lib.hid (OwnTd.nil _ _ _), Lib.hid rfl, Lib.hid (Touch.refl _ _)⟩
  case round =>
    obtain ⟨k, L, tv, hk, rfl, HBK, HOW, HLM, HTO⟩ := hrel
    obtain ⟨va, vc, rfl⟩ := HOW.out.form
    obtain ⟨y3, yf⟩ := boxS_cells HBK.out
    have hLl : L.length = k := by
      have := congrArg List.length HLM.out
      simp only [List.length_map, List.length_take] at this
      omega
    have hLb : L.length ≤ 1000 := by omega
    have hszr : ws.heap.size ≤ wr.heap.size := HTO.out.size
    have lxr : xs < wr.heap.size := (Array.getElem?_eq_some_iff.1 HBK.out).1
    by_cases hlt : k < q.length
    · --BEGIN LAY
      have hk0 : (0 : Int) ≤ (k : Int) := by omega
      have hk1 : (k : Int) < (q.length : Int) := by omega
      obtain ⟨b6, off6, a7, c7, ha6, hok6, hb6, hc7, ht7⟩ := HQ.out.at k hlt
      subst ha6
      have hb6s : b6 < ws.heap.size := Nat.lt_of_lt_of_le hb6 HBS.out.size
      have hne6 : b6 ≠ xs := by have := HOK.out b6 hok6; have := HSZ0.out; have := HGX.out; omega
      have hblk6 : wr.heap[b6]? = W0.heap[b6]? := (HTO.out.block b6 hb6s hne6).trans (HBS.out.block b6 hb6)
      have r0 := (World.cell?_of_block (a := ⟨b6, off6 + k * 3, none⟩) hblk6).trans hc7.var
      have r1 := (World.cell?_of_block (a := ⟨b6, off6 + k * 3 + 1, none⟩) hblk6).trans hc7.name
      have r2 := (World.cell?_of_block (a := ⟨b6, off6 + k * 3 + 2, none⟩) hblk6).trans hc7.args
      have HFF := Lib.hid hc7.fits
      have hbR : Below wr.heap.size wr ((wr.alloc (.cells #[.int .i64 q[k].var, .string q[k].name, .slice a7 q[k].args.length c7, .int .i64 0] 144)).drew) := ((Below.refl _ _).alloc (Nat.le_refl _) _).drew
      have HBR := Lib.hid hbR
      have HT7 : Hid (Ts wr (fun b => OkC wr (fun b => b = xs ∨ b = g) b ∧ (Value.slice va L.length vc).ownBlock ≠ some b) q[k].args a7 c7) := Lib.hid (((ht7.keep (Keeps.below HBS.out _)).keep (HTO.out.keeps fun b hb e => by have := HOK.out b hb; have := HSZ0.out; have := HGX.out; omega)).mono fun b hb' hb => ⟨⟨hb', fun e => by have := HOK.out b hb; have := HSZ0.out; have := HGX.out; omega⟩, fun e => by have := (HOW.out.own.lt b e).1; have := HOK.out b hb; have := HSZ0.out; have := HGX.out; have := HSS.out; omega⟩)
      have HROW : Hid (((wr.alloc (.cells #[.int .i64 q[k].var, .string q[k].name, .slice a7 q[k].args.length c7, .int .i64 0] 144)).drew).ownsRow ws.heap.size 144 4 (.slice va L.length vc) L.length (flatT L)) := Lib.hid (ownsRow_below HOW.out.own hbR)
      have lb6 : b6 < wr.heap.size := by omega
      have KH : Hid (∀ u, Below wr.heap.size wr u → u.cell? ⟨b6, off6 + k * 3, none⟩ = some (.int .i64 q[k].var)) := Lib.hid (fun u hu => (hu.cell (p := ⟨b6, _, none⟩) lb6).trans r0)
      have HLK := Lib.hid hLl
      clear hc7 ht7 hok6 hblk6 hbR hLl
      go_wp2_with fail
      go_region_law (first
        | (refine step_append_opt _ (by rfl) _ _ _ (by rfl) ws.heap.size 144 i0 zc 4 56 Try.underlying139 hi0 hz0 hz1 hz2 hz3 (by decide) (.slice va L.length vc) L.length (flatT L) (by rfl) HROW.out (some ⟨wr.heap.size, 0, none⟩) 1 1 (by intro h; cases h) [.int .i64 q[k].var, .string q[k].name, .slice a7 q[k].args.length c7, .int .i64 0] (by rfl) rfl (by exact four_cells _ _ _ _ _ _) (by intro u hu; simp only [List.mem_cons, List.not_mem_nil, or_false] at hu; rcases hu with rfl | rfl | rfl | rfl <;> rfl) (by unfold maxLen; omega) (by omega) (by have := HBR.out.size; omega) ?_
           intro v9 w9 hown9 hg9 hf9
           obtain ⟨g9, cap9, rfl⟩ := own_shape hown9 (by omega)
           have hnew : OwnTd w9 ws.heap.size (fun b => b = xs ∨ b = g) (.slice (some ⟨g9, 0, none⟩) (L.length + 1) cap9) (L ++ [((q[k], 0), a7, c7)]) := HOW.out.append (R := [((q[k], 0), a7, c7)]) HBR.out (TdEach.one HFF.out ((HT7.out.keep (Keeps.below HBR.out _)).mono fun b hb hk' => ⟨⟨hb, hk'.1.2⟩, hk'.2⟩)) hown9 hg9 hf9
           have hb9 : w9.heap[xs]? = wr.heap[xs]? := (hg9.block _ (by have := HBR.out.size; omega) (fun e => by have := (HOW.out.own.lt _ e.symm).1; have := HSS.out; omega)).trans (HBR.out.block _ lxr)
           have HB9 := Lib.hid (hb9.trans HBK.out)
           have HNEW := Lib.hid hnew
           have HT9 : Hid (Touch (fun b => b = xs) ws w9) := Lib.hid (by
             have h1 : Touch (fun b => b = xs) ws ((wr.alloc (.cells #[.int .i64 q[k].var, .string q[k].name, .slice a7 q[k].args.length c7, .int .i64 0] 144)).drew) := HTO.out.trans (Touch.below HBR.out)
             have h2 : Touch (fun b => (Value.slice va L.length vc).ownBlock = some b) _ w9 := Touch.grown hg9 fun k e => e
             exact ⟨h2.os.trans h1.os, h2.tape.trans h1.tape, h2.output.trans h1.output, Nat.le_trans h1.size h2.size, fun b hb hn => (h2.block b (Nat.lt_of_lt_of_le hb h1.size) (fun e => by have := (HOW.out.own.lt b e).1; omega)).trans (h1.block b hb hn)⟩)
           obtain ⟨m3, mf⟩ := boxS_cells HB9.out
           have lx9 : xs < w9.heap.size := (Array.getElem?_eq_some_iff.1 HB9.out).1
           clear hown9 hg9 hf9 hnew hb9))
      all_goals
        go_wp2_with fail
        go_roundw
        case measure => simp [intOf]; omega
        case rel =>
          exact ⟨k + 1, _, _, by omega, by go_num, Lib.hid (by rw [heap_setCell_at _ _ _ _ HB9.out]; rfl), Lib.hid (HNEW.out.box (.inl rfl) (by have := HSS.out; omega) _ _), Lib.hid (by rw [List.map_append, HLM.out, List.take_succ_eq_append_getElem hlt, List.map_append]; rfl), Lib.hid (HT9.out.trans (Touch.setCell _ rfl))⟩
    · --BEGIN RUN
      have hkn : k = q.length := by omega
      obtain ⟨ta, tc, htv, htd⟩ := HOW.out.done (fun b e => by have := HSS.out; have := HGX.out; rcases e with e | e <;> omega)
      have hlm : L.map (·.1) = q.map fun t => (t, 0) := by rw [HLM.out, hkn, List.take_length]
      rw [hlm] at htv htd
      have hlq : (q.map fun t => (t, (0 : Nat))).length = q.length := List.length_map ..
      rw [hlq] at htv
      have HBK2 := HBK.out
      rw [htv] at HBK2
      have hks : Keeps ok ws wr := HTO.out.keeps fun b hb e => by have := HOK.out b hb; have := HSZ0.out; have := HGX.out; omega
      have hmade : RSAt wr xs (fun b => b = xs ∨ b = g) (.slice (some ⟨g, 0, none⟩) 13 cap) (.slice none 0 0) (.slice none 0 0) pa ta pc tc p gq (startR q) (fresh 0 13) 0 :=
        RSAt.made (ok := ok) HBK2 (Touch.row HTO.out HRS.out (fun gg hg e => by simp only [Value.ownBlock, Option.some.injEq] at hg; have := HGX.out; omega)) (HES.out.keep hks) (by have := HGX.out; omega) (fun b hb => ⟨by have := HOK.out b hb; have := HSZ0.out; have := HBS.out.size; omega, fun e => by have := HOK.out b hb; have := HSZ0.out; have := HGX.out; omega⟩) ((HP.out.keep (Keeps.below HBS.out _)).keep hks) htd
      have HMD := Lib.hid hmade
      have HBE : Hid (Below w.heap.size w wr) := Lib.hid (HB0.out.trans ((HBS.out.trans (HTO.out.toBelow HBS.out.size fun b e => by have := HGX.out; omega)).mono HB0.out.size))
      have hx6 := (HTO.out.block w.heap.size (by have := HBS.out.size; have := HSZ0.out; omega) (fun e => by have := HGX.out; have := HSZ0.out; omega)).trans ((HBS.out.block w.heap.size (by have := HSZ0.out; omega)).trans HX0.out)
      have HX6 := Lib.hid hx6
      have lb6 : w.heap.size < wr.heap.size := (Array.getElem?_eq_some_iff.1 hx6).1
      have HN6 : Hid (¬ (w.heap.size = xs ∨ w.heap.size = g)) := Lib.hid (by have := HGX.out; have := HSZ0.out; omega)
      clear hkn htv htd hlm hlq HBK2 hks hmade hx6 y3 yf hLl
      obtain ⟨w0, hw0⟩ : ∃ z, z = wr := ⟨_, rfl⟩
      subst hw0
      go_wp2_with fail
      go_loopg [] 442 (fun gk wr => ∃ (R R' : RS) (Cj : Nat → Prop) (bvj kvj avj : Value) (taj : Option Addr) (tcj : Nat) (Bj : List TmAt) (wkj : Nat), Hid (REq R R') ∧ Hid (RSAt wr xs Cj bvj kvj avj pa taj pc tcj p gq R' Bj wkj) ∧ Hid (Turn w0 (fun b => b = xs ∨ b = g) wr Cj) ∧ Hid (RunI p most gk R) ∧ Hid (rrun p gq most gk R = rrun p gq most 442 (startR q)))
      case atStart => exact ⟨_, _, _, _, _, _, _, _, _, _, Lib.hid (REq.refl _), HMD, Lib.hid (Turn.refl _ _), Lib.hid (by
        have h := start_RI p HQ0.out (most := most)
        exact ⟨h.core, h.steps, fun e => by have := h.fuel e; have := HM.out; omega⟩), Lib.hid rfl⟩
      case round =>
        obtain ⟨R, R', Cj, bvj, kvj, avj, taj, tcj, Bj, wkj, HRE, HSJ, HTJ, HIJ, HEJ⟩ := hrel
        obtain ⟨q0, q1, q2, q3, q4, q5, q6, q7, q8, qf⟩ := HSJ.out.cells
        have lxj := HSJ.out.xlt
        by_cases hfin : R.fin = 0
        · have hR : R' = R := HRE.out.2.2.2 hfin
          subst hR
          have HFIN := Lib.hid hfin
          have hq7 : ((R'.fin : Int) == 0) = true := by rw [hfin]; rfl
          obtain ⟨k2, hk2⟩ : ∃ k2, gk = k2 + 1 := ⟨gk - 1, by have := HIJ.out.fuel hfin; omega⟩
          have HGK := Lib.hid hk2
          have HIN := Lib.hid ((hk2 ▸ HIJ.out : RunI p most (k2 + 1) R').step (pok_of HP0.out) (bd6_of HP0.out) (query := gq) HM.out hfin)
          have HE1 : Hid (rrun p gq most k2 (rstep p gq most R') = rrun p gq most 442 (startR q)) := Lib.hid (by rw [← HEJ.out, hk2]; exact (rrun_step hfin).symm)
          have HKM : Hid (k2 < gk) := Lib.hid (by omega)
          clear hfin hk2
          by_cases hnow : R'.todo = []
          · have HPS : Hid (rstep p gq most R' = rtell p gq R') := Lib.hid (by unfold rstep; rw [if_pos hnow])
            have hq3 : ((R'.todo.length : Int) == 0) = true := by rw [hnow]; rfl
            rw [HPS.out] at HE1 HIN
            clear hnow
            have HTW := Lib.hid (TellW (pok_of HP0.out) (psize_of HP0.out) (bd6_of HP0.out) HSJ.out (HIJ.out.core HFIN.out).1 HFIN.out (by have := HIJ.out.steps; have := HM.out; omega) (HIJ.out.core HFIN.out).2 HG12.out)
            go_wp2_with (go_at_call 85; refine HTW.out.mono ?_; rintro e wb ⟨⟨vb, rfl⟩, htb, Cb, hsb, bvb, kvb, avb, tab, tcb, Rb, Bb, wkb, hreb, hrb⟩; have HTB := Lib.hid (Turn.mk htb hsb : Turn wr Cj wb Cb); have HREB := Lib.hid hreb; have HRB := Lib.hid hrb; clear htb hsb hreb hrb)
            go_roundg k2
            case measure => exact HKM.out
            case rel => exact ⟨_, _, _, _, _, _, _, _, _, _, HREB, HRB, Lib.hid (HTJ.out.trans HTB.out), HIN, HE1⟩
          · have hq3 : ((R'.todo.length : Int) == 0) = false := by
              rw [beq_eq_false_iff_ne]
              intro e
              exact hnow (List.eq_nil_of_length_eq_zero (by omega))
            by_cases hms : R'.steps = most
            · have HPS : Hid (rstep p gq most R' = { R' with fin := 2 }) := Lib.hid (by unfold rstep; rw [if_neg hnow, if_pos (by omega)])
              rw [HPS.out] at HE1 HIN
              have hq8 : ((R'.steps : Int) == (most : Int)) = true := by rw [beq_iff_eq]; omega
              obtain ⟨htf, Cf, hsf, hrf⟩ := HSJ.out.setFin 2
              have HTF := Lib.hid (HTJ.out.trans (Turn.mk htf hsf)); have HRF := Lib.hid hrf
              clear hnow hms htf hsf hrf
              go_wp2_with fail
              go_roundg k2
              case measure => exact HKM.out
              case rel => exact ⟨_, _, _, _, _, _, _, _, _, _, Lib.hid (REq.refl _), HRF, HTF, HIN, HE1⟩
            · have HPS : Hid (rstep p gq most R' = rtake p R') := Lib.hid (by unfold rstep; rw [if_neg hnow, if_neg (by omega)])
              rw [HPS.out] at HE1 HIN
              have hq8 : ((R'.steps : Int) == (most : Int)) = false := by rw [beq_eq_false_iff_ne]; omega
              have HTW := Lib.hid (TakeW (pok_of HP0.out) (psize_of HP0.out) (bd6_of HP0.out) HSJ.out (HIJ.out.core HFIN.out).1 HFIN.out hnow (by have := HIJ.out.steps; have := HM.out; omega))
              clear hnow hms
              go_wp2_with (go_at_call 86; refine HTW.out.mono ?_; rintro e wb ⟨⟨vb, rfl⟩, htb, Cb, hsb, bvb, kvb, avb, tab, tcb, Rb, Bb, wkb, hreb, hrb⟩; have HTB := Lib.hid (Turn.mk htb hsb : Turn wr Cj wb Cb); have HREB := Lib.hid hreb; have HRB := Lib.hid hrb; clear htb hsb hreb hrb)
              go_roundg k2
              case measure => exact HKM.out
              case rel => exact ⟨_, _, _, _, _, _, _, _, _, _, HREB, HRB, Lib.hid (HTJ.out.trans HTB.out), HIN, HE1⟩
        · have hq7 : ((R'.fin : Int) == 0) = false := by rw [beq_eq_false_iff_ne]; have := HRE.out.2.1; omega
          have HE1 : Hid (rrun p gq most 442 (startR q) = R) := Lib.hid (by rw [← HEJ.out]; exact rrun_end gk hfin)
          clear hfin
          obtain ⟨A, hA, hrow, hAt⟩ := HSJ.out.ans
          obtain ⟨aa, ac, hav, -, -⟩ := row_cap hrow
          subst hav
          have hAl : A.length = R'.ans.length := by rw [← hA, List.length_map]
          have hx7 := (HTJ.out.touch.block w.heap.size lb6 HN6.out).trans HX6.out
          have x0 : wr.cell? ⟨w.heap.size, 0, none⟩ = some (.slice none 0 0) := by simp [World.cell?, hx7]
          have x1 : wr.cell? ⟨w.heap.size, 1, none⟩ = some (.int .i64 0) := by simp [World.cell?, hx7]
          have x2 : wr.cell? ⟨w.heap.size, 2, none⟩ = some (.int .i64 0) := by simp [World.cell?, hx7]
          have xf : ∀ o, wr.frozen? ⟨w.heap.size, o, none⟩ = false := fun o => by simp [World.frozen?, hx7]
          have lbz : w.heap.size < wr.heap.size := (Array.getElem?_eq_some_iff.1 hx7).1
          have HX7 := Lib.hid hx7; have HA1 := Lib.hid hA; have HA2 := Lib.hid hrow; have HA3 := Lib.hid hAt; have HAL := Lib.hid hAl
          clear hx7 hA hrow hAt hAl
          go_wp2_with fail
          have TP := touch_put wr w.heap.size (.slice aa A.length ac) (.int .i64 (R'.fin : Nat)) (.int .i64 (R'.steps : Nat))
          have hbw : Below w.heap.size w wr := HBE.out.trans (HTJ.out.touch.toBelow HBE.out.size fun b e => by have := HGX.out; have := HSZ0.out; rcases e with e | e <;> omega)
          have hstr : ∀ o s, wr.cell? ⟨w.heap.size, o, none⟩ ≠ some (Value.string s) := fun o s e => by
            have h := HX7.out
            simp only [World.cell?, h] at e
            rcases o with _ | _ | _ | o
            · cases e
            · cases e
            · cases e
            · simp at e
          have hown : ∀ b, (Value.slice aa A.length ac).ownBlock = some b → b < wr.heap.size ∧ b ≠ w.heap.size := fun b hb => by
            refine ⟨(HA2.out.lt b hb).2, fun e => ?_⟩
            have h1 := HSJ.out.col b (.inr (.inr (.inr hb)))
            rw [e] at h1
            exact HN6.out ((HTJ.out.same _ lb6).1 h1)
          have hla : ∀ b off, aa = some ⟨b, off, none⟩ → w.heap.size < b := fun b off e => by
            rcases HA2.out.2 with ⟨e1, -⟩ | ⟨g2, cap2, cur, e1, -⟩
            · simp only [Value.slice.injEq] at e1; rw [e1.1] at e; cases e
            · simp only [Value.slice.injEq] at e1
              rw [e1.1] at e
              simp only [Option.some.injEq, Addr.mk.injEq, and_true] at e
              have hbb : (Value.slice aa A.length ac).ownBlock = some g2 := by rw [e1.1, e1.2.2]; rfl
              have h1 := HSJ.out.col g2 (.inr (.inr (.inr hbb)))
              rcases Nat.lt_or_ge w.heap.size b with h2 | h2
              · exact h2
              · have h3 := (HTJ.out.same g2 (by omega)).1 h1
                have := HGX.out; have := HSZ0.out
                rcases h3 with h3 | h3 <;> omega
          obtain ⟨la, lc, hle, has⟩ := AsAt.of_row (ok := fun b => b < wr.heap.size ∧ b ≠ w.heap.size) HA2.out hown (fun x hx => (ts_avoid hstr (HA3.out x hx)).mono fun b _ hb => ⟨hb.1.1, hb.2⟩)
          have hRA : ((solveQ p q most).ans, (solveQ p q most).fin, (solveQ p q most).steps) = (A.map (·.2), R'.fin, R'.steps) := by
            rw [HSQ.out, HE1.out, HA1.out, HRE.out.1, HRE.out.2.1, HRE.out.2.2.1]
          rw [hRA]
          have has2 := (has.keep (TP.keeps fun b hb e => hb.2 e)).mono (ok' := fun b => b < (((wr.setCell ⟨w.heap.size, 0, none⟩ (.slice aa A.length ac)).setCell ⟨w.heap.size, 1, none⟩ (.int .i64 (R'.fin : Nat))).setCell ⟨w.heap.size, 2, none⟩ (.int .i64 (R'.steps : Nat))).heap.size) fun b h _ => h
          have hbf := below_put hbw (Nat.le_refl _) (.slice aa A.length ac) (.int .i64 (R'.fin : Nat)) (.int .i64 (R'.steps : Nat))
          have hle2 : aa = la := by simp only [Value.slice.injEq] at hle; exact hle.1
          rw [hle2] at hla
          rw [hle]
          rw [hle] at has2 hbf
          exact bodyPost_ret (v := .agg #[.slice la (A.map (·.2)).length lc, .int .i64 (R'.fin : Nat), .int .i64 (R'.steps : Nat)]) (by simp [results, Try.results44, go_sem, x0, x1, x2]) rfl ⟨hbf, la, lc, rfl, hla, has2⟩

end Go.Proofs.Ytikmgiapjigghaa.Emb

/- Walks: CheckSolve and what a result must be; plain: the program's search and the reference's answer the same. -/
namespace Go.Proofs.Ytikmgiapjigghaa
open Go.RowKit

theorem mapv_self (t : Tm) : WfT t → t.mapv (fun v => v) = t := by
  induction t using Tm.ind with
  | h v n l ih =>
    intro hw
    by_cases hv : v = 0
    · subst hv
      rw [Tm.mapv_fn (t := .mk 0 n l) rfl]
      have : l.map (Tm.mapv fun v => v) = l := by
        conv => rhs; rw [← List.map_id l]
        exact List.map_congr_left fun x hx => ih x hx (hw.arg (t := .mk 0 n l) hx)
      show Tm.mk 0 n _ = _
      simp only [Tm.args, this]
    · rw [Tm.mapv_var (t := .mk v n l) hv]
      exact (hw.isVar (t := .mk v n l) hv).symm

theorem start_rel {q : List Tm} (hq : queryE q = 0) : SRel (startP q) (startR q) := by
  refine ⟨rfl, rfl, rfl, fun _ => ⟨⟨fun v => v, ⟨⟨fun _ => none, Sim.start, ⟨⟨fun v h _ => h, fun v w _ _ _ _ e => e⟩, SInv.none, SInv.none, (fun v u e => by cases e), fun v _ _ => rfl, fun v h => absurd rfl h, fun x h => absurd rfl h⟩⟩, fun v h1 h2 => by simp only [startP, startR] at *; omega, Nat.le_refl _, fun v _ _ => rfl⟩, ?_, fun g hg => ?_⟩, rfl, fun i h _ => by cases h⟩⟩
  · simp only [startP, startR, List.map_map]
    refine List.map_congr_left fun t ht => ?_
    simp only [Function.comp_apply]
    rw [mapv_self t (check_fit (query_mem hq ht)).wf]
  · simp only [startR] at hg ⊢
    obtain ⟨t, ht, rfl⟩ := List.mem_map.1 hg
    exact check_fit (query_mem hq ht)

/-- The program's answers are the reference's. -/
theorem solve_same {p : List Cl} (hp : programE p = 0) {q : List Tm} (hq : queryE q = 0) (most : Nat) :
    (solveP p q most).ans = (Emb.solveQ p q most).ans ∧ (solveP p q most).fin = (Emb.solveQ p q most).fin ∧ (solveP p q most).steps = (Emb.solveQ p q most).steps := by
  have hs : SRel (startP q) (startR q) := start_rel hq
  have h := run_rel (pok_of hp) (query := (Tm.greats q).toNat) (by have := query_great hq; omega) (most : Int) 442 _ _ hs
  exact ⟨h.ans, h.fin, h.steps⟩

set_option maxRecDepth 100000 in
set_option maxHeartbeats 1000000 in
theorem CheckSolveW (p : List Cl) (q : List Tm) (steps : Int) (hst : I64 steps) {w : World} {pa qa : Option Addr} {pc qc : Nat} (hp : Pr w (fun _ => True) p pa pc) (hq : Ts w (fun _ => True) q qa qc) :
    Calls Try.prog 43 #[.slice pa p.length pc, .slice qa q.length qc, .int .i64 steps] w fun e w' => e = .returned (.int .i64 (solveE p q steps : Nat)) ∧ Below w.heap.size w w' := by
  have hi1 : -9223372036854775808 ≤ steps ∧ steps ≤ 9223372036854775807 := hst
  have HC : Hid (∀ u, Below w.heap.size w u → Calls Try.prog 20 #[.slice pa p.length pc] u fun e w' => e = .returned (.int .i64 (programE p : Nat)) ∧ Below w.heap.size w w') := Lib.hid (fun u hu => (CheckProgramW p u (fun _ => True) (fun _ _ => trivial) pa pc (hp.keep (Keeps.below hu _))).mono fun e w' h => ⟨h.1, hu.trans (h.2.mono hu.size)⟩)
  have HQY : Hid (∀ u, Below w.heap.size w u → Calls Try.prog 14 #[.slice qa q.length qc] u fun e w' => e = .returned (.int .i64 (queryE q : Nat)) ∧ Below w.heap.size w w') := Lib.hid (fun u hu => (CheckQueryW q u (fun _ => True) (fun _ _ => trivial) qa qc (hq.keep (Keeps.below hu _))).mono fun e w' h => ⟨h.1, hu.trans (h.2.mono hu.size)⟩)
  have HBR : Hid (Below w.heap.size w w) := Lib.hid (Below.refl _ _)
  have hpl : p.length ≤ 9223372036854775807 := by have := hp.room; unfold maxLen at this; omega
  have hql : q.length ≤ 9223372036854775807 := by have := hq.cap; unfold maxLen at this; omega
  clear hp hq hst
  by_cases hp0 : programE p = 0
  · by_cases hq0 : queryE q = 0
    · rw [hp0] at HC
      rw [hq0] at HQY
      by_cases hs : steps < 0 ∨ 400 < steps
      · have hE : solveE p q steps = 3 := by unfold solveE; rw [if_neg (fun h => h hp0), if_neg (fun h => h hq0), if_pos hs]
        have HE := Lib.hid hE
        have hbt : betw steps 0 400 = false := by
          cases h : betw steps 0 400 with
          | false => rfl
          | true => have := betw_iff.1 h; omega
        have HBT : Hid (∀ u, Calls Try.prog 61 #[.int .i64 steps, .int .i64 0, .int .i64 400] u fun e w' => e = .returned (.bool false) ∧ u = w') := Lib.hid (fun u => by have := betweenW steps 0 400 u; rw [hbt] at this; exact this)
        clear hE hp0 hq0 hs hbt
        go_enter Try.func43, Try.ntmps43
        go_wp2_with (first
          | (go_at_call 20; refine (HC.out _ HBR.out).mono ?_; rintro e w1 ⟨rfl, hb1⟩; have HB1 := Lib.hid hb1; clear hb1)
          | (go_at_call 14; refine (HQY.out _ HB1.out).mono ?_; rintro e w2 ⟨rfl, hb2⟩; have HB2 := Lib.hid hb2; clear hb2)
          | (go_at_call 61; refine (HBT.out _).mono ?_; rintro e w3 ⟨rfl, rfl⟩))
        go_ret
        exact ⟨by rw [HE.out]; rfl, HB2.out⟩
      · have hE : solveE p q steps = 0 := by unfold solveE; rw [if_neg (fun h => h hp0), if_neg (fun h => h hq0), if_neg hs]
        have HE := Lib.hid hE
        have hbt : betw steps 0 400 = true := betw_iff.2 (by omega)
        have HBT : Hid (∀ u, Calls Try.prog 61 #[.int .i64 steps, .int .i64 0, .int .i64 400] u fun e w' => e = .returned (.bool true) ∧ u = w') := Lib.hid (fun u => by have := betweenW steps 0 400 u; rw [hbt] at this; exact this)
        clear hE hp0 hq0 hs hbt
        go_enter Try.func43, Try.ntmps43
        go_wp2_with (first
          | (go_at_call 20; refine (HC.out _ HBR.out).mono ?_; rintro e w1 ⟨rfl, hb1⟩; have HB1 := Lib.hid hb1; clear hb1)
          | (go_at_call 14; refine (HQY.out _ HB1.out).mono ?_; rintro e w2 ⟨rfl, hb2⟩; have HB2 := Lib.hid hb2; clear hb2)
          | (go_at_call 61; refine (HBT.out _).mono ?_; rintro e w3 ⟨rfl, rfl⟩))
        go_ret
        exact ⟨by rw [HE.out]; rfl, HB2.out⟩
    · have hE : solveE p q steps = queryE q := by unfold solveE; rw [if_neg (fun h => h hp0), if_pos hq0]
      have HE := Lib.hid hE
      rw [hp0] at HC
      obtain ⟨n, hn⟩ : ∃ n, queryE q = n := ⟨_, rfl⟩
      rw [hn] at HQY hq0 HE
      have e1 : ((n : Int) == 0) = false := by rw [beq_eq_false_iff_ne]; omega
      clear hE hp0 hn hq0
      go_enter Try.func43, Try.ntmps43
      go_wp2_with (first
        | (go_at_call 20; refine (HC.out _ HBR.out).mono ?_; rintro e w1 ⟨rfl, hb1⟩; have HB1 := Lib.hid hb1; clear hb1)
        | (go_at_call 14; refine (HQY.out _ HB1.out).mono ?_; rintro e w2 ⟨rfl, hb2⟩; have HB2 := Lib.hid hb2; clear hb2))
      go_ret
      exact ⟨by rw [HE.out]; rfl, HB2.out⟩
  · have hE : solveE p q steps = programE p := by unfold solveE; rw [if_pos hp0]
    have HE := Lib.hid hE
    obtain ⟨n, hn⟩ : ∃ n, programE p = n := ⟨_, rfl⟩
    rw [hn] at HC hp0 HE
    have e1 : ((n : Int) == 0) = false := by rw [beq_eq_false_iff_ne]; omega
    clear hE hn hp0 HQY
    go_enter Try.func43, Try.ntmps43
    go_wp2_with (go_at_call 20; refine (HC.out _ HBR.out).mono ?_; rintro e w1 ⟨rfl, hb1⟩; have HB1 := Lib.hid hb1; clear hb1)
    go_ret
    exact ⟨by rw [HE.out]; rfl, HB1.out⟩

set_option maxRecDepth 100000 in
set_option maxHeartbeats 1000000 in
/-- A result that is what it must be. -/
theorem ResultIsW (r : List (List Tm) × Nat × Nat) (n : Nat) (s : List (List Tm) × Nat × Nat) (h0 : n = 0 → r = s) (hn : n ≠ 0 → r = ([], 0, 0)) (w : World) (ok : Nat → Prop) (a1 a2 : Option Addr) (c1 c2 : Nat) (h1 : AsAt w ok r.1 a1 c1) (h2 : AsAt w ok s.1 a2 c2) :
    Calls Try.prog 46 #[.agg #[.slice a1 r.1.length c1, .int .i64 r.2.1, .int .i64 r.2.2], .int .i64 n, .int .i64 n, .agg #[.slice a2 s.1.length c2, .int .i64 s.2.1, .int .i64 s.2.2]] w fun e w' => e = .returned (.bool true) ∧ Below w.heap.size w w' := by
  obtain ⟨l, m, k⟩ := r
  obtain ⟨l2, m2, k2⟩ := s
  simp only at h1 h2 h0 hn ⊢
  have B0 : Below w.heap.size w ((w.alloc (.cells #[.slice a1 l.length c1, .int .i64 m, .int .i64 k] 66)).alloc (.cells #[.slice a2 l2.length c2, .int .i64 m2, .int .i64 k2] 66)) := ((Below.refl _ _).alloc (Nat.le_refl _) _).alloc (by simp) _
  have B1 : Below w.heap.size w ((w.alloc (.cells #[.slice a1 l.length c1, .int .i64 m, .int .i64 k] 66)).alloc (.cells #[.slice none 0 0, .int .i64 0, .int .i64 0] 66)) := ((Below.refl _ _).alloc (Nat.le_refl _) _).alloc (by simp) _
  have HB0 := Lib.hid B0; have HB1 := Lib.hid B1
  by_cases hz : n = 0
  · obtain ⟨e1, e2, e3⟩ : l = l2 ∧ m = m2 ∧ k = k2 := by have := h0 hz; simp only [Prod.mk.injEq] at this; exact this
    subst e1 e2 e3 hz
    have HSR := Lib.hid (SameResultW (l, m, k) (l, m, k) _ ok a1 a2 c1 c2 (h1.keep (Keeps.below B0 ok)) (h2.keep (Keeps.below B0 ok)))
    rw [eqR_true rfl] at HSR
    clear h0 hn h1 h2 B0 B1 HB1
    go_enter Try.func46, Try.ntmps46
    go_wp2_with (go_at_call 47; refine HSR.out.mono ?_; rintro e w6 ⟨rfl, hb6⟩; have HB6 := Lib.hid hb6; clear hb6)
    go_ret
    exact ⟨rfl, HB0.out.trans (HB6.out.mono HB0.out.size)⟩
  · obtain ⟨e1, e2, e3⟩ : l = [] ∧ m = 0 ∧ k = 0 := by have := hn hz; simp only [Prod.mk.injEq] at this; exact this
    subst e1 e2 e3
    have HSR := Lib.hid (SameResultW ([], 0, 0) ([], 0, 0) _ ok a1 none c1 0 (h1.keep (Keeps.below B1 ok)) (AsAt.none _ _))
    rw [eqR_true rfl] at HSR
    have t1 : ((n : Int) != 0) = true := by rw [bne_iff_ne]; omega
    clear h0 hn h1 h2 B0 B1 HB0 hz
    go_enter Try.func46, Try.ntmps46
    go_wp2_with (go_at_call 47; refine HSR.out.mono ?_; rintro e w6 ⟨rfl, hb6⟩; have HB6 := Lib.hid hb6; clear hb6)
    go_ret
    exact ⟨rfl, HB1.out.trans (HB6.out.mono HB1.out.size)⟩

end Go.Proofs.Ytikmgiapjigghaa

/- Walk: what the statements on Solve ask first. -/
namespace Go.Proofs.Ytikmgiapjigghaa
open Go.RowKit

theorem begun_solveE : solveE sampleL askL 10 = 0 := by
  unfold solveE
  rw [if_neg (fun h => h sample_ok), if_neg (fun h => h ask_ok), if_neg (by omega)]

theorem begun_solveR : solveR sampleL askL 10 = ([[tmA], [tmB]], 1, 2) := by
  unfold solveR
  rw [if_pos begun_solveE]
  rw [show (10 : Int).toNat = 10 from rfl, begun_solve]
  rfl

/-- What lies still while the region runs. -/
structure SbT (w : World) (b : Nat) (g o g2 o2 : Nat) (x0 x1 : Value) (y0 y1 y2 : Value) (w' : World) : Prop where
  below : Below w.heap.size w w'
  c0 : w'.cell? ⟨b, 0, none⟩ = some x0
  c1 : w'.cell? ⟨b, 1, none⟩ = some (.int .i64 1)
  c2 : w'.cell? ⟨b, 2, none⟩ = some (.int .i64 2)
  a1 : w'.cell? ⟨g, o + 1, none⟩ = some x1
  t0 : w'.cell? ⟨g2, o2, none⟩ = some y0
  t1 : w'.cell? ⟨g2, o2 + 1, none⟩ = some y1
  t2 : w'.cell? ⟨g2, o2 + 2, none⟩ = some y2
  lt : b < w'.heap.size ∧ g < w'.heap.size ∧ g2 < w'.heap.size

theorem SbT.next {w : World} {b g o g2 o2 : Nat} {x0 x1 y0 y1 y2 : Value} {w1 w2 : World} (h : SbT w b g o g2 o2 x0 x1 y0 y1 y2 w1) (hb : Below w1.heap.size w1 w2) : SbT w b g o g2 o2 x0 x1 y0 y1 y2 w2 := by
  obtain ⟨l1, l2, l3⟩ := h.lt
  have hs := hb.size
  exact ⟨h.below.trans (hb.mono h.below.size), (hb.cell (p := ⟨b, _, none⟩) l1).trans h.c0, (hb.cell (p := ⟨b, _, none⟩) l1).trans h.c1, (hb.cell (p := ⟨b, _, none⟩) l1).trans h.c2, (hb.cell (p := ⟨g, _, none⟩) l2).trans h.a1, (hb.cell (p := ⟨g2, _, none⟩) l3).trans h.t0, (hb.cell (p := ⟨g2, _, none⟩) l3).trans h.t1, (hb.cell (p := ⟨g2, _, none⟩) l3).trans h.t2, by omega, by omega, by omega⟩

theorem SbT.all {w : World} {b g o g2 o2 : Nat} {x0 x1 y0 y1 y2 : Value} {w' : World} (h : SbT w b g o g2 o2 x0 x1 y0 y1 y2 w') :
    w'.cell? ⟨b, 0, none⟩ = some x0 ∧ w'.cell? ⟨b, 1, none⟩ = some (.int .i64 1) ∧ w'.cell? ⟨b, 2, none⟩ = some (.int .i64 2) ∧ w'.cell? ⟨g, o + 1, none⟩ = some x1 ∧ w'.cell? ⟨g2, o2, none⟩ = some y0 ∧ w'.cell? ⟨g2, o2 + 1, none⟩ = some y1 ∧ w'.cell? ⟨g2, o2 + 2, none⟩ = some y2 ∧ SbT w b g o g2 o2 x0 x1 y0 y1 y2 w' :=
  ⟨h.c0, h.c1, h.c2, h.a1, h.t0, h.t1, h.t2, h⟩
theorem SbT.of {w : World} {b g o g2 o2 : Nat} {x0 x1 y0 y1 y2 : Value} {w' : World} (h : w'.cell? ⟨b, 0, none⟩ = some x0 ∧ w'.cell? ⟨b, 1, none⟩ = some (.int .i64 1) ∧ w'.cell? ⟨b, 2, none⟩ = some (.int .i64 2) ∧ w'.cell? ⟨g, o + 1, none⟩ = some x1 ∧ w'.cell? ⟨g2, o2, none⟩ = some y0 ∧ w'.cell? ⟨g2, o2 + 1, none⟩ = some y1 ∧ w'.cell? ⟨g2, o2 + 2, none⟩ = some y2 ∧ SbT w b g o g2 o2 x0 x1 y0 y1 y2 w') : SbT w b g o g2 o2 x0 x1 y0 y1 y2 w' := h.2.2.2.2.2.2.2
theorem SbT.drew {w : World} {b g o g2 o2 : Nat} {x0 x1 y0 y1 y2 : Value} {w1 : World} (h : SbT w b g o g2 o2 x0 x1 y0 y1 y2 w1) : SbT w b g o g2 o2 x0 x1 y0 y1 y2 w1.drew := h.next ((Below.refl _ _).drew)

set_option maxRecDepth 100000 in
set_option maxHeartbeats 2000000 in
theorem solveBegunW (w : World) : Calls Try.prog 45 #[] w fun e w' => e = .returned (.bool true) ∧ Below w.heap.size w w' := by
  go_enter Try.func45, Try.ntmps45
  go_wp2_with fail
  refine (sampleW _).mono ?_
  rintro e w1 ⟨pa, rfl, hpr, hb1⟩
  have HPR := Lib.hid hpr; have B1 := Lib.hid hb1
  clear hpr hb1
  go_wp2_with fail
  refine (vaW _ _).mono ?_
  rintro e w2 ⟨rfl, hb2⟩
  go_wp2_with fail
  refine (fnW _ _ _ _ _).mono ?_
  rintro e w3 ⟨rfl, hb3⟩
  have T1 := (ts_lit (w := w2) (ok := fun _ => True) (VarT 1) (Ts.empty _ _) (fits_lit _ _ _ (by decide) (by decide) (by decide)) trivial).keep (Keeps.below hb3 _)
  have T2 := ts_lit (w := w3) (tP (VarT 1)) T1 (fits_lit _ _ _ (by decide) (by decide) (by decide)) trivial
  have K13 := (hb2.alloc hb2.size (.cells #[.int .i64 1, .string ⟨#[]⟩, .slice none 0 0] 24)).trans (hb3.mono (by have := hb2.size; simp; omega))
  have K14 := K13.alloc K13.size (.cells #[.int .i64 0, .string ⟨#[112]⟩, .slice (some ⟨w2.heap.size, 0, none⟩) 1 1] 24)
  have B4 := Lib.hid (B1.out.trans (K14.mono B1.out.size))
  have HP4 := (HPR.out.keep (Keeps.below K14 _)).mono fun b _ hb => Nat.lt_of_lt_of_le hb K14.size
  have HSV := Lib.hid (SolveW sampleL askL 10 (by unfold I64; omega) (w := (w3.alloc (.cells #[.int .i64 0, .string ⟨#[112]⟩, .slice (some ⟨w2.heap.size, 0, none⟩) 1 1] 24))) (fun b hb => hb) HP4 (T2.mono fun b hb _ => hb))
  rw [begun_solveE, begun_solveR] at HSV
  clear HPR B1 hb2 hb3 T1 T2 K13 K14 HP4
  go_wp2_with fail
  refine HSV.out.mono ?_
  rintro e w5 ⟨hb5, a, c, rfl, has⟩
  have B5 := Lib.hid (B4.out.trans (hb5.mono B4.out.size))
  obtain ⟨g, o, a1, c1, ha, -, hg, hc, hts⟩ := has.elem 1 (by simp)
  subst ha
  obtain ⟨g2, o2, a3, c3, ha2, -, hg2, hq, hts2⟩ := hts.at 0 (by simp)
  subst ha2
  have HT := Lib.hid hts2
  simp only [List.getElem_cons_succ, List.getElem_cons_zero] at hc hq hts2 HT
  have T0 : SbT w5 w5.heap.size g o g2 o2 (.slice (some ⟨g, o, none⟩) 2 c) (.slice (some ⟨g2, o2, none⟩) 1 c1) (.int .i64 0) (.string ⟨#[98]⟩) (.slice a3 0 c3) (w5.alloc (.cells #[.slice (some ⟨g, o, none⟩) 2 c, .int .i64 1, .int .i64 2] 66)) := by
    have hbl := fun (b x : Nat) (h : b < w5.heap.size) => (Below.refl w5.heap.size w5 |>.alloc (Nat.le_refl _) (.cells #[.slice (some ⟨g, o, none⟩) 2 c, .int .i64 1, .int .i64 2] 66)).cell (p := ⟨b, x, none⟩) h
    have e0 : o2 + 0 * 3 = o2 := by omega
    have h0 := hq.var; have h1 := hq.name; have h2 := hq.args
    rw [e0] at h0 h1 h2
    refine ⟨(Below.refl _ _).alloc (Nat.le_refl _) _, ?_, ?_, ?_, (hbl g _ hg).trans hc, (hbl g2 _ hg2).trans h0, (hbl g2 _ hg2).trans h1, (hbl g2 _ hg2).trans h2, by simp, by simp; omega, by simp; omega⟩
    all_goals simp [World.cell?, World.alloc, -World.alloc_eq]
  have C1 : Hid (∀ w' : World, SbT w5 w5.heap.size g o g2 o2 (.slice (some ⟨g, o, none⟩) 2 c) (.slice (some ⟨g2, o2, none⟩) 1 c1) (.int .i64 0) (.string ⟨#[98]⟩) (.slice a3 0 c3) w' → Calls Try.prog 26 #[.agg #[.int .i64 0, .string ⟨#[98]⟩, .slice a3 0 c3], .agg #[.int .i64 0, .string ⟨#[98]⟩, .slice none 0 0]] w' fun e w'' => e = .returned (.bool true) ∧ Below w'.heap.size w' w'') := Lib.hid fun w' h => by
    have := SameTermOf tmB (SameTermsW _) tmB w' (fun _ => True) a3 none c3 0 ((HT.out.mono fun _ _ _ => trivial).keep (Keeps.below h.below _)) (Ts.empty' _ _)
    rw [eqT_true rfl] at this
    exact this
  have T0H := Lib.hid T0
  clear hb5 has hc hts hg hq hg2 hts2 HT HSV T0
  go_wp2_with fail
  have T0 := T0H.out
  clear T0H
  go_region_held3 (fun w' => w'.cell? ⟨w5.heap.size, 0, none⟩ = some (.slice (some ⟨g, o, none⟩) 2 c) ∧ w'.cell? ⟨w5.heap.size, 1, none⟩ = some (.int .i64 1) ∧ w'.cell? ⟨w5.heap.size, 2, none⟩ = some (.int .i64 2) ∧ w'.cell? ⟨g, o + 1, none⟩ = some (.slice (some ⟨g2, o2, none⟩) 1 c1) ∧ w'.cell? ⟨g2, o2, none⟩ = some (.int .i64 0) ∧ w'.cell? ⟨g2, o2 + 1, none⟩ = some (.string ⟨#[98]⟩) ∧ w'.cell? ⟨g2, o2 + 2, none⟩ = some (.slice a3 0 c3) ∧ SbT w5 w5.heap.size g o g2 o2 (.slice (some ⟨g, o, none⟩) 2 c) (.slice (some ⟨g2, o2, none⟩) 1 c1) (.int .i64 0) (.string ⟨#[98]⟩) (.slice a3 0 c3) w')
    (first | exact SbT.all (SbT.drew (by assumption)) | exact SbT.all (SbT.next (SbT.of (by assumption)) hb))
    (first
      | (go_at_call 49; refine (fnW _ _ _ _ _).mono ?_; rintro e w' ⟨rfl, hb⟩)
      | (go_at_call 26; (with_reducible refine (C1.out _ (SbT.of (by assumption))).mono ?_); rintro e w' ⟨rfl, hb⟩))
  all_goals
    have HB := Lib.hid (SbT.of (by assumption)).below
    go_wp2_with fail
    go_ret
    exact ⟨rfl, B5.out.trans (HB.out.mono B5.out.size)⟩

end Go.Proofs.Ytikmgiapjigghaa
