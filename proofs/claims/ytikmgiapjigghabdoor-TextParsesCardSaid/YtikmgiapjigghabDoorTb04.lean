/- Walk: the reference's check of a program. -/
import Derived.Deep.RegionWith
import Derived.Test.YtikmgiapjigghabDoorTb03
namespace Go.Proofs.YtikmgiapjigghabDoor
open Go.RowKit

set_option maxRecDepth 100000 in
set_option maxHeartbeats 1000000 in
theorem CheckProgramW (P : List Cl) (w : World) (ok : Nat → Prop) (hok : ∀ b, w.heap.size ≤ b → ok b) (a : Option Addr) (cap : Nat) (hrd : Pr w ok P a cap) :
    Calls Tryd.prog 8 #[.slice a P.length cap] w fun e w' => e = .returned (.int .i64 (programE P : Nat)) ∧ Below w.heap.size w w' := by
  have HRD := Lib.hid hrd
  have HOK := Lib.hid hok
  have hcap := hrd.room
  have hcl : P.length ≤ 9223372036854775807 := by unfold maxLen at hcap; omega
  clear hcap hrd hok
  by_cases h6 : 30 < P.length
  · have H := Lib.hid (programE_many h6)
    go_enter Tryd.func8, Tryd.ntmps8
    go_wp2_with fail
    go_ret
    exact ⟨retN H.out.symm, Below.refl _ _⟩
  · go_enter Tryd.func8, Tryd.ntmps8
    go_wp2_with fail
    go_loopw [3] (fun i wr => ∃ k : Nat, k ≤ P.length ∧ i = .int .i64 k ∧ ZeroCl P k ∧ Below w.heap.size w wr) (fun i _ => P.length - (intOf i).toNat)
    case atStart => exact ⟨0, Nat.zero_le _, rfl, fun j hj h => by omega, Below.refl _ _⟩
    case round =>
      obtain ⟨k, hk, rfl, HZ, hbr⟩ := hrel
      by_cases hlt : k < P.length
      · obtain ⟨b, off, a1, a2, c1, c2, rfl, hokb, hbs, hc3, hc4, ht1, ht2⟩ := HRD.out.elem k hlt
        have hcv := (hbr.cell (p := ⟨b, off + k * 4, none⟩) hbs).trans hc3.var
        have hcn := (hbr.cell (p := ⟨b, off + k * 4 + 1, none⟩) hbs).trans hc3.name
        have hca := (hbr.cell (p := ⟨b, off + k * 4 + 2, none⟩) hbs).trans hc3.args
        have hcb := (hbr.cell (p := ⟨b, off + k * 4 + 3, none⟩) hbs).trans hc4
        have HC3 := Lib.hid hc3.fits
        clear hc3 hc4
        have hbw : b < wr.heap.size := Nat.lt_of_lt_of_le hbs hbr.size
        have hk1 : Keeps ok w (wr.alloc (.cells #[.int .i64 P[k].head.var, .string P[k].head.name, .slice a1 P[k].head.args.length c1] 48)) := (Keeps.below hbr ok).trans (Keeps.below ((Below.refl _ _).alloc (Nat.le_refl _) _) ok)
        have B1 := Lib.hid (hbr.alloc hbr.size (.cells #[.int .i64 P[k].head.var, .string P[k].head.name, .slice a1 P[k].head.args.length c1] 48))
        have HO1 : Hid (∀ b, wr.heap.size ≤ b → ok b) := Lib.hid fun b hb => HOK.out b (Nat.le_trans hbr.size hb)
        rcases clauseE_cases P[k] with ⟨k1, H⟩ | ⟨k1, k2, H⟩ | ⟨k1, k2, k3, H⟩ | ⟨k1, k2, k3, H⟩
        · have HR := Lib.hid ((programE_at h6 k hlt HZ (by rw [H]; exact k1)).trans H); clear H
          have k1' := bne0 k1
          go_wp2_with fail
          refine (CheckTermW P[k].head _ ok (fun b hb => HO1.out b (by simp at hb; omega)) a1 c1 HC3.out (ht1.keep hk1)).mono ?_
          rintro e w1 ⟨rfl, hb⟩; obtain ⟨hc, hf⟩ := bcell hb
          go_wp2_with fail
          go_ret
          exact ⟨retN HR.out.symm, B1.out.trans (hb.mono (by have := hbr.size; simp; omega))⟩
        · have HR := Lib.hid ((programE_at h6 k hlt HZ (by rw [H]; decide)).trans H); clear H
          have k2' : (P[k].head.var != 0) = true := by rw [bne_iff_ne]; exact k2
          clear k2
          go_wp2_with fail
          refine (CheckTermW P[k].head _ ok (fun b hb => HO1.out b (by simp at hb; omega)) a1 c1 HC3.out (ht1.keep hk1)).mono ?_
          rintro e w1 ⟨rfl, hb⟩; obtain ⟨hc, hf⟩ := bcell hb
          go_wp2_with fail
          go_ret
          exact ⟨retN HR.out.symm, B1.out.trans (hb.mono (by have := hbr.size; simp; omega))⟩
        · have HR := Lib.hid ((programE_at h6 k hlt HZ (by rw [H]; decide)).trans H); clear H
          have k2' : (P[k].head.var != 0) = false := by rw [k2]; rfl
          clear k2
          go_wp2_with fail
          refine (CheckTermW P[k].head _ ok (fun b hb => HO1.out b (by simp at hb; omega)) a1 c1 HC3.out (ht1.keep hk1)).mono ?_
          rintro e w1 ⟨rfl, hb⟩; obtain ⟨hc, hf⟩ := bcell hb
          go_wp2_with fail
          refine (IsBuiltinW _ _ _).mono ?_
          rintro e w2 ⟨rfl, rfl⟩
          go_wp2_with fail
          go_ret
          exact ⟨retN HR.out.symm, B1.out.trans (hb.mono (by have := hbr.size; simp; omega))⟩
        · have k2' : (P[k].head.var != 0) = false := by rw [k2]; rfl
          clear k2
          have HE := Lib.hid H
          clear H
          by_cases hz : queryE P[k].body = 0
          · have HZ' := Lib.hid (HZ.next hlt (HE.out.trans hz))
            go_wp2_with fail
            refine (CheckTermW P[k].head _ ok (fun b hb => HO1.out b (by simp at hb; omega)) a1 c1 HC3.out (ht1.keep hk1)).mono ?_
            rintro e w1 ⟨rfl, hb⟩; obtain ⟨hc, hf⟩ := bcell hb
            go_wp2_with fail
            refine (IsBuiltinW _ _ _).mono ?_
            rintro e w2 ⟨rfl, rfl⟩
            have hs1 : wr.heap.size < w1.heap.size := by have := hb.size; simp at this; omega
            go_wp2_with fail
            refine (CheckQueryW P[k].body _ ok (fun b hb => HO1.out b (by omega)) a2 c2 (ht2.keep (hk1.trans (Keeps.below hb ok)))).mono ?_
            rintro e w3 ⟨rfl, hb3⟩
            go_wp2_with fail
            go_roundw
            case rel => exact ⟨k + 1, by omega, by go_num, HZ'.out, (B1.out.trans (hb.mono (by have := hbr.size; simp; omega))).trans (hb3.mono (by have := hbr.size; omega))⟩
            case measure => simp [intOf]; omega
          · have HR := Lib.hid ((programE_at h6 k hlt HZ (by rw [HE.out]; exact hz)).trans HE.out)
            have hz' := bne0 hz
            go_wp2_with fail
            refine (CheckTermW P[k].head _ ok (fun b hb => HO1.out b (by simp at hb; omega)) a1 c1 HC3.out (ht1.keep hk1)).mono ?_
            rintro e w1 ⟨rfl, hb⟩; obtain ⟨hc, hf⟩ := bcell hb
            go_wp2_with fail
            refine (IsBuiltinW _ _ _).mono ?_
            rintro e w2 ⟨rfl, rfl⟩
            have hs1 : wr.heap.size < w1.heap.size := by have := hb.size; simp at this; omega
            go_wp2_with fail
            refine (CheckQueryW P[k].body _ ok (fun b hb => HO1.out b (by omega)) a2 c2 (ht2.keep (hk1.trans (Keeps.below hb ok)))).mono ?_
            rintro e w3 ⟨rfl, hb3⟩
            go_wp2_with fail
            go_ret
            exact ⟨retN HR.out.symm, (B1.out.trans (hb.mono (by have := hbr.size; simp; omega))).trans (hb3.mono (by have := hbr.size; omega))⟩
      · have HR := Lib.hid (programE_none h6 (fun j hj => HZ j hj (by omega)))
        go_wp2_with fail
        go_ret
        exact ⟨retN HR.out.symm, hbr⟩

end Go.Proofs.YtikmgiapjigghabDoor

/- Walks: are two terms the same, are two lists of terms. -/
namespace Go.Proofs.YtikmgiapjigghabDoor
open Go.RowKit

/-- Are they? -/
noncomputable def eqTs (l l2 : List Tm) : Bool := @decide (l = l2) (Classical.propDecidable _)
noncomputable def eqT (t u : Tm) : Bool := @decide (t = u) (Classical.propDecidable _)

theorem eqTs_true {l l2 : List Tm} (h : l = l2) : eqTs l l2 = true := by unfold eqTs; exact @decide_eq_true _ (Classical.propDecidable _) h
theorem eqTs_false {l l2 : List Tm} (h : l ≠ l2) : eqTs l l2 = false := by unfold eqTs; exact @decide_eq_false _ (Classical.propDecidable _) h
theorem eqT_true {l l2 : Tm} (h : l = l2) : eqT l l2 = true := by unfold eqT; exact @decide_eq_true _ (Classical.propDecidable _) h
theorem eqT_false {l l2 : Tm} (h : l ≠ l2) : eqT l l2 = false := by unfold eqT; exact @decide_eq_false _ (Classical.propDecidable _) h
theorem eqTs_iff {l l2 : List Tm} : eqTs l l2 = true ↔ l = l2 := by unfold eqTs; exact @decide_eq_true_iff _ (Classical.propDecidable _)
theorem eqT_iff {l l2 : Tm} : eqT l l2 = true ↔ l = l2 := by unfold eqT; exact @decide_eq_true_iff _ (Classical.propDecidable _)

theorem Tm.ext' {t u : Tm} (h1 : t.var = u.var) (h2 : t.name = u.name) (h3 : t.args = u.args) : t = u := by
  cases t; cases u; simp only [Tm.var, Tm.name, Tm.args] at h1 h2 h3; rw [h1, h2, h3]

/-- The contract of SameTerms at one list. -/
def SameTermsAt (l : List Tm) : Prop := ∀ (l2 : List Tm) (w : World) (ok : Nat → Prop) (a1 a2 : Option Addr) (c1 c2 : Nat), Ts w ok l a1 c1 → Ts w ok l2 a2 c2 →
    Calls Tryd.prog 18 #[.slice a1 l.length c1, .slice a2 l2.length c2] w fun e w' => e = .returned (.bool (eqTs l l2)) ∧ Below w.heap.size w w'

set_option maxRecDepth 100000 in
set_option maxHeartbeats 1000000 in
theorem SameTermOf (t : Tm) (h : SameTermsAt t.args) (u : Tm) (w : World) (ok : Nat → Prop) (a1 a2 : Option Addr) (c1 c2 : Nat) (h1 : Ts w ok t.args a1 c1) (h2 : Ts w ok u.args a2 c2) :
    Calls Tryd.prog 39 #[.agg #[.int .i64 t.var, .string t.name, .slice a1 t.args.length c1], .agg #[.int .i64 u.var, .string u.name, .slice a2 u.args.length c2]] w fun e w' => e = .returned (.bool (eqT t u)) ∧ Below w.heap.size w w' := by
  have H := Lib.hid h; have H1 := Lib.hid h1; have H2 := Lib.hid h2
  clear h h1 h2
  have B0 : Below w.heap.size w ((w.alloc (.cells #[.int .i64 t.var, .string t.name, .slice a1 t.args.length c1] 48)).alloc (.cells #[.int .i64 u.var, .string u.name, .slice a2 u.args.length c2] 48)) := ((Below.refl _ _).alloc (Nat.le_refl _) _).alloc (by simp) _
  have HB0 := Lib.hid B0
  clear B0
  by_cases hv : t.var = u.var
  · have hv' : (t.var == u.var) = true := by rw [hv]; simp
    have HV := Lib.hid hv
    clear hv
    by_cases hn : t.name.toList = u.name.toList
    · have HN : Hid (t.name = u.name) := Lib.hid (by
        rw [ByteArray.toList_eq, ByteArray.toList_eq] at hn
        exact ByteArray.ext (Array.toList_inj.1 hn))
      have HE : Hid (eqT t u = eqTs t.args u.args) := Lib.hid (by
        rw [Bool.eq_iff_iff, eqT_iff, eqTs_iff]
        exact ⟨fun e => by rw [e], fun e => Tm.ext' HV.out HN.out e⟩)
      have HC := Lib.hid (H.out u.args _ ok a1 a2 c1 c2 (H1.out.keep (Keeps.below HB0.out ok)) (H2.out.keep (Keeps.below HB0.out ok)))
      have hn' : (t.name.toList == u.name.toList) = true := by rw [hn]; simp
      go_enter Tryd.func39, Tryd.ntmps39
      go_wp2_with fail
      refine HC.out.mono ?_
      rintro e w1 ⟨rfl, hb⟩
      go_wp2_with fail
      go_ret
      exact ⟨retB (by rw [HE.out]), HB0.out.trans (hb.mono (by simp; omega))⟩
    · have HE : Hid (eqT t u = false) := Lib.hid (eqT_false (fun e => hn (by rw [e])))
      have hn' : (t.name.toList == u.name.toList) = false := beqF hn
      go_enter Tryd.func39, Tryd.ntmps39
      go_wp2_with fail
      go_ret
      exact ⟨retB (by rw [HE.out]), HB0.out⟩
  · have hv' : (t.var == u.var) = false := beq_eq_false_iff_ne.2 hv
    have HE : Hid (eqT t u = false) := Lib.hid (eqT_false (fun e => hv (by rw [e])))
    clear hv
    go_enter Tryd.func39, Tryd.ntmps39
    go_wp2_with fail
    go_ret
    exact ⟨retB (by rw [HE.out]), HB0.out⟩

set_option maxRecDepth 100000 in
set_option maxHeartbeats 1000000 in
theorem SameTermsStep (l : List Tm) (ih : ∀ t, t ∈ l → SameTermsAt t.args) : SameTermsAt l := by
  intro l2 w ok a1 a2 c1 c2 h1 h2
  have IH := Lib.hid ih; have H1 := Lib.hid h1; have H2 := Lib.hid h2
  have hc1 : l.length ≤ 9223372036854775807 := by have := h1.cap; unfold maxLen at this; omega
  have hc2 : l2.length ≤ 9223372036854775807 := by have := h2.cap; unfold maxLen at this; omega
  clear ih h1 h2
  by_cases hl : l.length = l2.length
  · have hl' : ((l.length : Int) != (l2.length : Int)) = false := by rw [hl]; simp
    have HL := Lib.hid hl
    clear hl
    go_enter Tryd.func18, Tryd.ntmps18
    go_wp2_with fail
    go_loopw [5] (fun i wr => ∃ k : Nat, k ≤ l.length ∧ i = .int .i64 k ∧ Hid (l.take k = l2.take k) ∧ Below w.heap.size w wr) (fun i _ => l.length - (intOf i).toNat)
    case atStart => exact ⟨0, Nat.zero_le _, rfl, Lib.hid (by simp), Below.refl _ _⟩
    case round =>
      obtain ⟨k, hk, rfl, HE, hbr⟩ := hrel
      by_cases hlt : k < l.length
      · have hlt2 : k < l2.length := by rw [← HL.out]; exact hlt
        obtain ⟨g1, o1, d1, e1, rfl, hok1, hs1, hq1, ht1⟩ := H1.out.at k hlt
        obtain ⟨g2, o2, d2, e2, rfl, hok2, hs2, hq2, ht2⟩ := H2.out.at k hlt2
        have m0 := (hbr.cell (p := ⟨g1, o1 + k * 3, none⟩) hs1).trans hq1.var
        have m1 := (hbr.cell (p := ⟨g1, o1 + k * 3 + 1, none⟩) hs1).trans hq1.name
        have m2 := (hbr.cell (p := ⟨g1, o1 + k * 3 + 2, none⟩) hs1).trans hq1.args
        have n0 := (hbr.cell (p := ⟨g2, o2 + k * 3, none⟩) hs2).trans hq2.var
        have n1 := (hbr.cell (p := ⟨g2, o2 + k * 3 + 1, none⟩) hs2).trans hq2.name
        have n2 := (hbr.cell (p := ⟨g2, o2 + k * 3 + 2, none⟩) hs2).trans hq2.args
        have hmem : l[k] ∈ l := List.getElem_mem hlt
        have HC := Lib.hid (SameTermOf l[k] (IH.out _ hmem) l2[k] wr.drew ok d1 d2 e1 e2 (ht1.keep (Keeps.below hbr.drew ok)) (ht2.keep (Keeps.below hbr.drew ok)))
        clear hq1 hq2 ht1 ht2
        by_cases heq : l[k] = l2[k]
        · have ht := eqT_true heq
          have HE' : Hid (l.take (k + 1) = l2.take (k + 1)) := Lib.hid (by rw [List.take_succ_eq_append_getElem hlt, List.take_succ_eq_append_getElem hlt2, HE.out, heq])
          clear heq
          go_wp2_with fail
          go_region_with (go_at_call 39; refine HC.out.mono ?_; rintro e w1 ⟨rfl, hb⟩)
          all_goals
            go_wp2_with fail
            go_roundw
            case rel => exact ⟨k + 1, by omega, by go_num, HE'.out, hbr.drew.trans (hb.mono hbr.size)⟩
            case measure => simp [intOf]; omega
        · have ht := eqT_false heq
          have HR : Hid (eqTs l l2 = false) := Lib.hid (eqTs_false (fun e => heq (by simp [e])))
          clear heq
          go_wp2_with fail
          go_region_with (go_at_call 39; refine HC.out.mono ?_; rintro e w1 ⟨rfl, hb⟩)
          all_goals
            go_wp2_with fail
            go_ret
            exact ⟨retB (by rw [HR.out]), hbr.drew.trans (hb.mono hbr.size)⟩
      · have HR : Hid (eqTs l l2 = true) := Lib.hid (eqTs_true (by
          have := HE.out
          rwa [List.take_of_length_le (by omega), List.take_of_length_le (by rw [← HL.out]; omega)] at this))
        go_wp2_with fail
        go_ret
        exact ⟨retB (by rw [HR.out]), hbr⟩
  · have hl' : ((l.length : Int) != (l2.length : Int)) = true := by rw [bne_iff_ne]; omega
    have HR : Hid (eqTs l l2 = false) := Lib.hid (eqTs_false (fun e => hl (by rw [e])))
    clear hl
    go_enter Tryd.func18, Tryd.ntmps18
    go_wp2_with fail
    go_ret
    exact ⟨retB (by rw [HR.out]), Below.refl _ _⟩

theorem SameTermsW (l : List Tm) : SameTermsAt l := by
  have h : ∀ t : Tm, SameTermsAt t.args := fun t => by
    induction t using Tm.ind with
    | h v n l ih => exact SameTermsStep l ih
  exact SameTermsStep l fun t _ => h t


end Go.Proofs.YtikmgiapjigghabDoor
