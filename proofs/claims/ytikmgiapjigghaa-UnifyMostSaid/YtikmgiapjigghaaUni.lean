/- What chapter 3's work is, as plain functions: looking through variables, whether one stands in terms. -/
import Derived.Test.YtikmgiapjigghaaStore
namespace Go.Proofs.Ytikmgiapjigghaa
open Go.RowKit

/-- What variables are. -/
abbrev Sub := Int → Option Tm

theorem LookN.det {σ : Sub} : ∀ {n m : Nat} {t u v : Tm}, LookN σ n t u → LookN σ m t v → u = v
  | 0, 0, _, _, _, h, k => h.1.trans k.1.symm
  | 0, m + 1, t, _, _, h, k => by
    obtain ⟨h1, t', h2, _⟩ := k
    rcases h.2 with h3 | h3
    · exact absurd h3 h1
    · rw [h2] at h3; cases h3
  | n + 1, 0, t, _, _, h, k => by
    obtain ⟨h1, t', h2, _⟩ := h
    rcases k.2 with h3 | h3
    · exact absurd h3 h1
    · rw [h2] at h3; cases h3
  | n + 1, m + 1, t, _, _, h, k => by
    obtain ⟨_, t', h2, h3⟩ := h
    obtain ⟨_, t'', h4, h5⟩ := k
    rw [h2] at h4; cases h4
    exact LookN.det h3 h5

/-- From each term Look comes to an end. -/
def Ends (σ : Sub) : Prop := ∀ t, ∃ n u, LookN σ n t u

instance : Inhabited Tm := ⟨.mk 0 ByteArray.empty []⟩

/-- Where Look ends. -/
noncomputable def look (σ : Sub) (t : Tm) : Tm := Classical.epsilon fun u => ∃ n, LookN σ n t u

theorem look_spec {σ : Sub} (h : Ends σ) (t : Tm) : ∃ n, LookN σ n t (look σ t) := by
  obtain ⟨n, u, hu⟩ := h t
  exact Classical.epsilon_spec (p := fun u => ∃ n, LookN σ n t u) ⟨u, n, hu⟩

theorem look_eq {σ : Sub} {n : Nat} {t u : Tm} (h : LookN σ n t u) : look σ t = u := by
  have : ∃ m, LookN σ m t (look σ t) := Classical.epsilon_spec (p := fun u => ∃ n, LookN σ n t u) ⟨u, n, h⟩
  obtain ⟨m, hm⟩ := this
  exact LookN.det hm h

/-- What looking for a variable in terms comes to: yes, no, or too much work; and how much may be done still. -/
inductive WOut where
  | yes (f : Nat)
  | no (f : Nat)
  | many

/-- Does a variable stand in terms? -/
noncomputable def within (σ : Sub) (v : Int) : Nat → List Tm → WOut
  | f, [] => .no f
  | 0, _ :: _ => .many
  | f + 1, t :: r => if (look σ t).var ≠ 0 then (if (look σ t).var = v then .yes f else within σ v f r) else within σ v f ((look σ t).args ++ r)

/-- What comes behind, if it was not found. -/
def WOut.then (o : WOut) (g : Nat → WOut) : WOut :=
  match o with
  | .no f => g f
  | o => o

theorem within_append (σ : Sub) (v : Int) : ∀ (f : Nat) (l r : List Tm), within σ v f (l ++ r) = (within σ v f l).then fun f' => within σ v f' r := by
  intro f
  induction f with
  | zero =>
    intro l r
    cases l with
    | nil => simp [within, WOut.then]
    | cons a l => simp [within, WOut.then]
  | succ f ih =>
    intro l r
    cases l with
    | nil => simp [within, WOut.then]
    | cons a l =>
      simp only [List.cons_append, within]
      by_cases h1 : (look σ a).var ≠ 0
      · rw [if_pos h1, if_pos h1]
        by_cases h2 : (look σ a).var = v
        · rw [if_pos h2, if_pos h2]; rfl
        · rw [if_neg h2, if_neg h2, ih]
      · rw [if_neg h1, if_neg h1, ← List.append_assoc, ih]

theorem within_le (σ : Sub) (v : Int) : ∀ (f : Nat) (l : List Tm), (∀ f', within σ v f l = .yes f' → f' ≤ f) ∧ (∀ f', within σ v f l = .no f' → f' ≤ f) := by
  intro f
  induction f with
  | zero =>
    intro l
    cases l with
    | nil => simp [within]
    | cons a l => simp [within]
  | succ f ih =>
    intro l
    cases l with
    | nil => simp [within]
    | cons a l =>
      simp only [within]
      by_cases h1 : (look σ a).var ≠ 0
      · rw [if_pos h1]
        by_cases h2 : (look σ a).var = v
        · rw [if_pos h2]; simp
        · rw [if_neg h2]
          exact ⟨fun f' h => Nat.le_succ_of_le ((ih l).1 f' h), fun f' h => Nat.le_succ_of_le ((ih l).2 f' h)⟩
      · rw [if_neg h1]
        exact ⟨fun f' h => Nat.le_succ_of_le ((ih _).1 f' h), fun f' h => Nat.le_succ_of_le ((ih _).2 f' h)⟩

theorem StAt.notM {w : World} {ok : Nat → Prop} {bs bm : Nat} {tv : Value} {σ : Int → Option Tm} {L : List Int} {wk : Nat} (h : StAt w ok bs bm tv σ L wk) {b : Nat} (hb : w.heap.size ≤ b) : ¬ StM bs bm tv b := by
  rintro (rfl | rfl | e)
  · have := h.lt; omega
  · have := h.blocks.1; omega
  · have := h.blocks.2 b e; omega

/-- What touches neither the store's blocks nor the terms' leaves the store. -/
theorem StAt.touch {w w' : World} {ok : Nat → Prop} {bs bm : Nat} {tv : Value} {σ : Int → Option Tm} {L : List Int} {wk : Nat} (h : StAt w ok bs bm tv σ L wk) {M : Nat → Prop} (ht : Touch M w w') (hM : ∀ b, M b → ¬ StM bs bm tv b ∧ ¬ ok b) : StAt w' ok bs bm tv σ L wk := by
  obtain ⟨f, h1, h2⟩ := h.map
  have hk : Keeps ok w w' := ht.keeps fun b hb hm => (hM b hm).2 hb
  refine ⟨(ht.block bs h.lt (fun hm => (hM _ hm).1 (.inl rfl))).trans h.blk, ?_, ⟨f, h1.kept (ht.block bm h1.lt (fun hm => (hM _ hm).1 (.inr (.inl rfl)))), fun k => (h2 k).keep hk⟩, h.ne, fun b hb => ⟨Nat.lt_of_lt_of_le (h.okb b hb).1 ht.size, (h.okb b hb).2⟩⟩
  refine ⟨h.trail.1, ?_⟩
  rcases h.trail.2 with h3 | ⟨g, cap, cur, rfl, h4, h5, r⟩
  · exact .inl h3
  · exact .inr ⟨g, cap, cur, rfl, h4, (ht.block g (Array.getElem?_eq_some_iff.1 h5).1 (fun hm => (hM _ hm).1 (.inr (.inr rfl)))).trans h5, r⟩

theorem touch_put (w : World) (b : Nat) (y0 y1 y2 : Value) : Touch (fun x => x = b) w (((w.setCell ⟨b, 0, none⟩ y0).setCell ⟨b, 1, none⟩ y1).setCell ⟨b, 2, none⟩ y2) :=
  ⟨rfl, rfl, rfl, by simp [World.setCell], fun b' _ hn => other_put hn _ _ _⟩

/-- What stands hands back, and what became of the store. -/
def StandsPost (w : World) (ok : Nat → Prop) (bs bm : Nat) (tv : Value) (σ : Sub) (L : List Int) (o : WOut) (e : Ending) (w' : World) : Prop :=
  Touch (StM bs bm tv) w w' ∧
  match o with
  | .yes f => e = .returned (.tuple #[.bool true, .int .i64 0]) ∧ StAt w' ok bs bm tv σ L (4000 - f)
  | .no f => e = .returned (.tuple #[.bool false, .int .i64 0]) ∧ StAt w' ok bs bm tv σ L (4000 - f)
  | .many => e = .returned (.tuple #[.bool false, .int .i64 2]) ∧ StAt w' ok bs bm tv σ L 4001

set_option maxRecDepth 100000 in
set_option maxHeartbeats 1000000 in
theorem standsW {ok : Nat → Prop} {bs bm : Nat} {tv : Value} {σ : Sub} {L : List Int} (hE : Ends σ) (v : Int) (f : Nat) : ∀ (t : Tm) (a : Option Addr) (cap : Nat) (w : World), f ≤ 4000 → StAt w ok bs bm tv σ L (4000 - f) → t.fits → Ts w ok t.args a cap →
    Calls Try.prog 129 #[.pointer (some ⟨bs, 0, none⟩), .int .i64 v, .agg #[.int .i64 t.var, .string t.name, .slice a t.args.length cap]] w (StandsPost w ok bs bm tv σ L (within σ v f [t])) := by
  induction f using Nat.strongRecOn with
  | _ f ih =>
  intro t a cap w hf4 hst hfit hts
  have IH := Lib.hid ih; have HE := Lib.hid hE; have HST := Lib.hid hst; have HF := Lib.hid hfit; have HT := Lib.hid hts
  clear ih hE hst hfit hts
  have B0 : Below w.heap.size w (w.alloc (.cells #[.int .i64 t.var, .string t.name, .slice a t.args.length cap] 24)) := (Below.refl _ _).alloc (Nat.le_refl _) _
  have S0 := Lib.hid (HST.out.keep B0)
  go_enter Try.func129, Try.ntmps129
  go_wp2_with fail
  refine (spendW S0.out (by omega)).mono ?_
  rintro e w1 ⟨rfl, hs1, ht1⟩
  cases f with
  | zero =>
    have hd : decide (4000 - 0 + 1 ≤ 4000) = false := by decide
    have HW : Hid (within σ v 0 [t] = .many) := Lib.hid (by simp [within])
    have HS1 := Lib.hid hs1; have HT1 := Lib.hid ht1
    clear hs1 ht1
    rw [hd]
    go_wp2_with fail
    go_ret2
    rw [HW.out]
    exact ⟨(Touch.below B0).trans HT1.out, rfl, HS1.out⟩
  | succ f =>
    have hd : decide (4000 - (f + 1) + 1 ≤ 4000) = true := decide_eq_true (by omega)
    have hwk : 4000 - (f + 1) + 1 = 4000 - f := by omega
    rw [hd]
    rw [hwk] at hs1
    have hbx : Box3 w1 w.heap.size (.int .i64 t.var) (.string t.name) (.slice a t.args.length cap) := (Box3.made w _ _ _).keep (ht1.block _ (by simp) (HST.out.notM (Nat.le_refl _)))
    have b0 := hbx.c0; have b1 := hbx.c1; have b2 := hbx.c2; have bz := hbx.fz
    have T1 := Lib.hid ((Touch.below (M := StM bs bm tv) B0).trans ht1)
    have hK1 := Lib.hid (HST.out.keeps T1.out)
    have HS1 := Lib.hid hs1
    clear hs1 ht1 hd hwk
    obtain ⟨n, hn⟩ := look_spec HE.out t
    have HN := Lib.hid hn
    clear hn
    go_wp2_with fail
    refine (LookW HS1.out HN.out HF.out (HT.out.keep hK1.out)).mono ?_
    rintro e w2 ⟨a', cap', rfl, hf', ht', hb2⟩
    have hbx2 := hbx.below hb2
    have b0 := hbx2.c0; have b1 := hbx2.c1; have b2 := hbx2.c2; have bz := hbx2.fz
    have S2 := Lib.hid (HS1.out.keep hb2)
    have T2 := Lib.hid (T1.out.trans (Touch.below hb2))
    have hsz : w.heap.size < w2.heap.size := hbx2.lt
    have HF' := Lib.hid hf'; have HT' := Lib.hid ht'; have HB2 := Lib.hid hb2
    clear hf' ht' hb2
    generalize hx : look σ t = x at *
    have HX := Lib.hid hx
    clear hx
    have hput := hbx2.put (.int .i64 x.var) (.string x.name) (.slice a' x.args.length cap')
    have HP := Lib.hid hput
    clear hput
    have S3 : Hid (StAt (((w2.setCell ⟨w.heap.size, 0, none⟩ (.int .i64 x.var)).setCell ⟨w.heap.size, 1, none⟩ (.string x.name)).setCell ⟨w.heap.size, 2, none⟩ (.slice a' x.args.length cap')) ok bs bm tv σ L (4000 - f)) :=
      Lib.hid (S2.out.touch (touch_put _ _ _ _ _) (fun b hb => by subst hb; exact ⟨HST.out.notM (Nat.le_refl _), fun hk => by have := (HST.out.okb _ hk).1; omega⟩))
    have T3 : Hid (Touch (StM bs bm tv) w (((w2.setCell ⟨w.heap.size, 0, none⟩ (.int .i64 x.var)).setCell ⟨w.heap.size, 1, none⟩ (.string x.name)).setCell ⟨w.heap.size, 2, none⟩ (.slice a' x.args.length cap'))) :=
      Lib.hid (by
        refine ⟨T2.out.os, T2.out.tape, T2.out.output, Nat.le_trans T2.out.size (touch_put w2 w.heap.size _ _ _).size, fun b hb hn => ?_⟩
        exact ((touch_put w2 w.heap.size _ _ _).block b (by omega) (fun e => by omega)).trans (T2.out.block b hb hn))
    by_cases hv : x.var ≠ 0
    · have hv' : (x.var != 0) = true := by rw [bne_iff_ne]; exact hv
      have HW : Hid (within σ v (f + 1) [t] = if x.var = v then .yes f else .no f) := Lib.hid (by
        rw [within, HX.out, if_pos hv]
        by_cases h2 : x.var = v
        · rw [if_pos h2, if_pos h2]
        · rw [if_neg h2, if_neg h2]; cases f <;> rfl)
      clear hv
      by_cases h2 : x.var = v
      · have h2' : (x.var == v) = true := by rw [beq_iff_eq]; exact h2
        have HW2 := Lib.hid (HW.out.trans (if_pos h2))
        clear h2
        go_wp2_with fail
        go_ret2
        rw [HW2.out]
        exact ⟨T3.out, rfl, S3.out⟩
      · have h2' : (x.var == v) = false := by rw [beq_eq_false_iff_ne]; exact h2
        have HW2 := Lib.hid (HW.out.trans (if_neg h2))
        clear h2
        go_wp2_with fail
        go_ret2
        rw [HW2.out]
        exact ⟨T3.out, rfl, S3.out⟩
    · have hv' : (x.var != 0) = false := by
        have : x.var = 0 := Decidable.of_not_not hv
        rw [this]; rfl
      have HW : Hid (within σ v (f + 1) [t] = within σ v f x.args) := Lib.hid (by rw [within, HX.out, if_neg hv, List.append_nil])
      clear hv
      have p0 := HP.out.c0; have p1 := HP.out.c1; have p2 := HP.out.c2
      have hlen : x.args.length ≤ 9223372036854775807 := by have := HT'.out.cap; unfold maxLen at this; omega
      have HT3 : Hid (Ts (((w2.setCell ⟨w.heap.size, 0, none⟩ (.int .i64 x.var)).setCell ⟨w.heap.size, 1, none⟩ (.string x.name)).setCell ⟨w.heap.size, 2, none⟩ (.slice a' x.args.length cap')) ok x.args a' cap') :=
        Lib.hid (HT'.out.keep ((touch_put _ _ _ _ _).keeps fun b hb e => by have := (HST.out.okb _ hb).1; omega))
      go_wp2_with fail
      clear p0 p1 p2 HP HT' S2 T2 T1 HS1 HB2 b0 b1 b2 bz hbx hbx2 hK1 S0 HN HX hsz HF'
      generalize (((w2.setCell ⟨w.heap.size, 0, none⟩ (.int .i64 x.var)).setCell ⟨w.heap.size, 1, none⟩ (.string x.name)).setCell ⟨w.heap.size, 2, none⟩ (.slice a' x.args.length cap')) = w3 at *
      generalize x.args = l at *
      go_loopw [28] (fun i wr => ∃ k fk, k ≤ l.length ∧ i = .int .i64 (k : Nat) ∧ fk ≤ f ∧ Hid (within σ v f l = within σ v fk (l.drop k)) ∧ StAt wr ok bs bm tv σ L (4000 - fk) ∧ Touch (StM bs bm tv) w3 wr) (fun i _ => l.length - (intOf i).toNat)
      case atStart => exact ⟨0, f, Nat.zero_le _, rfl, Nat.le_refl _, Lib.hid rfl, S3.out, Touch.refl _ _⟩
      case round =>
        obtain ⟨k, fk, hk, rfl, hfk, HWk, hsk, htk⟩ := hrel
        have hkk : Keeps ok w3 wr := S3.out.keeps htk
        have SK := Lib.hid hsk; have TK := Lib.hid htk; have KK := Lib.hid hkk
        clear hsk htk hkk
        by_cases hlt : k < l.length
        · obtain ⟨b, off, a2, cap2, rfl, hokb, hbs, hc3, ht3⟩ := HT3.out.at k hlt
          have hcv := (KK.out.cell (p := ⟨b, off + k * 3, none⟩) hokb hbs).trans hc3.var
          have hcn := (KK.out.cell (p := ⟨b, off + k * 3 + 1, none⟩) hokb hbs).trans hc3.name
          have hca := (KK.out.cell (p := ⟨b, off + k * 3 + 2, none⟩) hokb hbs).trans hc3.args
          have HF2 := Lib.hid hc3.fits
          have HT2 := Lib.hid ht3
          clear hc3 ht3
          have BA : Below wr.heap.size wr (wr.alloc (.cells #[.int .i64 l[k].var, .string l[k].name, .slice a2 l[k].args.length cap2] 24)) := (Below.refl _ _).alloc (Nat.le_refl _) _
          have SA := Lib.hid (SK.out.keep BA)
          have hsplit : within σ v fk (l.drop k) = (within σ v fk [l[k]]).then fun f' => within σ v f' (l.drop (k + 1)) := by
            rw [← within_append, List.singleton_append, ← List.drop_eq_getElem_cons hlt]
          have HSP := Lib.hid hsplit
          clear hsplit
          go_wp2_with fail
          refine (IH.out fk (by omega) l[k] a2 cap2 _ (by omega) SA.out HF2.out (HT2.out.keep (KK.out.trans (Keeps.below BA ok)))).mono ?_
          intro e w4 hpost
          have HLE := Lib.hid (within_le σ v fk [l[k]])
          generalize within σ v fk [l[k]] = o at *
          cases o with
          | yes f' =>
            obtain ⟨ht4, rfl, hs4⟩ := hpost
            have HS4 := Lib.hid hs4; have HT4 := Lib.hid ht4
            have HR : Hid (within σ v f l = .yes f') := Lib.hid (by rw [HWk.out, HSP.out]; rfl)
            clear hs4 ht4
            go_wp2_with fail
            go_ret2
            rw [HW.out, HR.out]
            exact ⟨T3.out.trans ((TK.out.trans (Touch.below BA)).trans HT4.out), rfl, HS4.out⟩
          | no f' =>
            obtain ⟨ht4, rfl, hs4⟩ := hpost
            have HS4 := Lib.hid hs4; have HT4 := Lib.hid ht4
            have HR : Hid (within σ v f l = within σ v f' (l.drop (k + 1))) := Lib.hid (by rw [HWk.out, HSP.out]; rfl)
            have hf' : f' ≤ fk := HLE.out.2 f' rfl
            clear hs4 ht4
            go_wp2_with fail
            go_roundw
            case rel => exact ⟨k + 1, f', by omega, by go_num, by omega, HR.out, HS4.out, (TK.out.trans (Touch.below BA)).trans HT4.out⟩
            case measure => simp [intOf]; omega
          | many =>
            obtain ⟨ht4, rfl, hs4⟩ := hpost
            have HS4 := Lib.hid hs4; have HT4 := Lib.hid ht4
            have HR : Hid (within σ v f l = .many) := Lib.hid (by rw [HWk.out, HSP.out]; rfl)
            clear hs4 ht4
            go_wp2_with fail
            go_ret2
            rw [HW.out, HR.out]
            exact ⟨T3.out.trans ((TK.out.trans (Touch.below BA)).trans HT4.out), rfl, HS4.out⟩
        · have HR : Hid (within σ v f l = .no fk) := Lib.hid (by rw [HWk.out, List.drop_eq_nil_of_le (by omega)]; cases fk <;> rfl)
          go_wp2_with fail
          go_ret2
          rw [HW.out, HR.out]
          exact ⟨T3.out.trans TK.out, rfl, SK.out⟩

end Go.Proofs.Ytikmgiapjigghaa
