/- Walks: the reference's listAt. -/
import Derived.Test.YtikmgiapjigghabDoorTbTra
namespace Go.Proofs.YtikmgiapjigghabDoor
open Go.RowKit

/-- What termAt ends with. -/
def RTPost (s : Bs) (w : World) (x : PR Tm) (e : Ending) (w' : World) : Prop :=
  Below w.heap.size w w' ∧
  match x with
  | .ok t r' => t.fits ∧ ∃ a cap, e = .returned (.tuple #[.agg #[.int .i64 t.var, .string t.name, .slice a t.args.length cap], .int .i64 ((s.length - r'.length : Nat) : Int), .bool true]) ∧ Ts w' (fun i => w.heap.size ≤ i) t.args a cap
  | .no r' => ∃ v n a m c, e = .returned (.tuple #[.agg #[.int .i64 v, .string n, .slice a m c], .int .i64 ((s.length - r'.length : Nat) : Int), .bool false])

/-- What listAt ends with. -/
def RLPost (s : Bs) (w : World) (x : PR (List Tm)) (e : Ending) (w' : World) : Prop :=
  Below w.heap.size w w' ∧
  match x with
  | .ok l r' => ∃ a cap, e = .returned (.tuple #[.slice a l.length cap, .int .i64 ((s.length - r'.length : Nat) : Int), .bool true]) ∧ Ts w' (fun i => w.heap.size ≤ i) l a cap
  | .no r' => e = .returned (.tuple #[.slice none 0 0, .int .i64 ((s.length - r'.length : Nat) : Int), .bool false])

def RTAt (s : Bs) (L : Nat) : Prop := ∀ (k : Nat) (w : World), k ≤ s.length → s.length - k ≤ L → Calls Tryd.prog 35 #[.string (strB s), .int .i64 k] w (RTPost s w (pTerm (s.drop k)))
def RLAt (s : Bs) (L : Nat) : Prop := ∀ (k : Nat) (w : World), k ≤ s.length → s.length - k ≤ L → Calls Tryd.prog 38 #[.string (strB s), .int .i64 k] w (RLPost s w (pList (s.drop k)))

/-- What is left to do of a list, so many terms being there, from a place on. -/
def pFrom (acc : List Tm) (r : Bs) : PR (List Tm) := (pTerm r).bind fun t r' => pMore (acc ++ [t]) r'

theorem pFrom_nil (r : Bs) : pList r = pFrom [] r := pList_more r
theorem pFrom_go {acc : List Tm} {r : Bs} {t : Tm} {r1 : Bs} (h : pTerm r = .ok t r1) (h44 : hd r1 = 44) : pFrom acc r = (pNeed [44, 32] r1).bind fun _ r2 => pFrom (acc ++ [t]) r2 := by
  unfold pFrom
  rw [h]
  show pMore (acc ++ [t]) r1 = _
  rw [pMore_step h44]
theorem pFrom_end {acc : List Tm} {r : Bs} {t : Tm} {r1 : Bs} (h : pTerm r = .ok t r1) (h44 : hd r1 ≠ 44) : pFrom acc r = .ok (acc ++ [t]) r1 := by
  unfold pFrom
  rw [h]
  show pMore (acc ++ [t]) r1 = _
  rw [pMore_none h44]
theorem pFrom_no {acc : List Tm} {r r1 : Bs} (h : pTerm r = .no r1) : pFrom acc r = .no r1 := by unfold pFrom; rw [h]; rfl

theorem u8_ne44 (c : UInt8) : (((c.toNat : Nat) : Int) != 44) = decide (c ≠ 44) := by
  by_cases h : c = 44
  · subst h; rfl
  · rw [decide_eq_true h, bne_iff_ne]
    intro e
    exact h (UInt8.toNat_inj.1 (by rw [show (44 : UInt8).toNat = 44 from rfl]; omega))

set_option maxRecDepth 100000 in
set_option maxHeartbeats 1600000 in
theorem ListStepR {s : Bs} {L : Nat} (hs : s.length ≤ 6000) (ih : RTAt s L) : RLAt s L := by
  intro k w hk hL
  have IH := Lib.hid ih
  clear ih
  obtain ⟨i0, hi0, hz0, hz1, hz2⟩ := info_parts Tryd.infoTm
  go_enter Tryd.func38, Tryd.ntmps38
  go_wp2_with fail
  go_loopw [1, 7] (fun x1 x7 wr => ∃ (l : List TmAt) (k1 : Nat), k ≤ k1 ∧ k1 ≤ s.length ∧ l.length ≤ k1 ∧ x1 = .int .i64 k1 ∧ Hid (OwnTs wr w.heap.size (fun i => w.heap.size ≤ i) x7 l) ∧ Hid (Below w.heap.size w wr) ∧ Hid (pList (s.drop k) = pFrom (l.map (·.1)) (s.drop k1))) (fun x1 _ _ => s.length - (intOf x1).toNat)
  case atStart => exact ⟨[], k, Nat.le_refl _, hk, Nat.zero_le _, rfl, Lib.hid (OwnTs.nil _ _ _), Lib.hid (Below.refl _ _), Lib.hid (pFrom_nil _)⟩
  case round =>
    obtain ⟨l, k1, hkk, hk1, hl1, rfl, HO, HB, HE⟩ := hrel
    obtain ⟨xa, xc, rfl, hrb⟩ := row_form HO.out.own
    have HT := Lib.hid (IH.out k1 wr hk1 (by omega))
    generalize hx : pTerm (s.drop k1) = x at HT
    cases x with
    | no r1 =>
      have HE2 : Hid (pList (s.drop k) = .no r1) := Lib.hid (by rw [HE.out]; exact pFrom_no hx)
      clear hx
      go_wp2_with (go_at_call 35; refine HT.out.mono ?_; rintro e w1 ⟨hb1, v0, n0, z0, m0, c0, rfl⟩; have HB1 := Lib.hid (HB.out.trans (hb1.mono HB.out.size)); clear hb1)
      refine bodyPost_ret (v := .tuple #[.slice none 0 0, .int .i64 ((s.length - r1.length : Nat) : Int), .bool false]) (by simp [results, Tryd.results38, go_sem]) rfl ?_
      rw [HE2.out]
      exact ⟨HB1.out.trans ((Below.refl _ _).alloc HB1.out.size _), rfl⟩
    | ok t r1 =>
      have hsf := pTerm_suf hx
      have hle := pTerm_len hx
      rw [List.length_drop] at hle
      have hr1 : r1.length ≤ s.length := by omega
      have hd1 : s.drop (s.length - r1.length) = r1 := suf_at hsf
      have HD1 := Lib.hid hd1
      have hsg := signAtW s (s.length - r1.length)
      rw [hd1] at hsg
      have HSG := Lib.hid hsg
      have hmu := fun u => mustAtW [44, 32] (by simp) s hs (s.length - r1.length) (by omega) u
      rw [hd1] at hmu
      have HMU := Lib.hid hmu
      clear hsg hmu hd1
      clear hsf
      go_wp2_with (first
        | (go_at_call 35; refine HT.out.mono ?_; rintro e w1 ⟨hb1, hf, a, cap, rfl, hts⟩; have HB1 := Lib.hid (HB.out.trans (hb1.mono HB.out.size)); have HF := Lib.hid hf; have hbx : Below w1.heap.size w1 (w1.alloc (.cells #[.int .i64 t.var, .string t.name, .slice a t.args.length cap] 48)) := (Below.refl _ _).alloc (Nat.le_refl _) _; have hby : Below w1.heap.size w1 ((w1.alloc (.cells #[.int .i64 t.var, .string t.name, .slice a t.args.length cap] 48)).alloc (.cells #[.int .i64 t.var, .string t.name, .slice a t.args.length cap] 48)) := hbx.alloc (by simp) _; have HBY := Lib.hid hby; have HO5 := Lib.hid ((HO.out.below hb1).below hby); have HTS6 := Lib.hid (TsEach.one hf ((hts.mono (ok' := Free (.slice xa l.length xc) (fun i => w.heap.size ≤ i)) fun i hi ho => ⟨Nat.le_trans HB.out.size ho, fun e => by have := (HO.out.block e).2; omega⟩).keep (Keeps.below hby _))); have HSZ := Lib.hid hb1.size; clear hf hts hb1 hbx hby)
        | (at_builtin; (refine wpList_append_fresh _ rfl _ _ 24 rfl w.heap.size 48 i0 _ 3 48 Tryd.underlying24 hi0 hz0 hz1 hz2 rfl (by decide) _ _ _ rfl HO5.out.own ⟨w1.heap.size + 1, 0, none⟩ 1 1 (flat [(t, a, cap)]) rfl rfl ?c1 (flat_one _) ?c3 ?c4 ?c5 ?_)))
      case c1 =>
        have h := three_cell (w1.alloc (.cells #[.int .i64 t.var, .string t.name, .slice a t.args.length cap] 48)) (.int .i64 t.var) (.string t.name) (.slice a t.args.length cap) 48
        rw [show (w1.alloc (.cells #[.int .i64 t.var, .string t.name, .slice a t.args.length cap] 48)).heap.size = w1.heap.size + 1 by simp] at h
        exact h
      case c3 => unfold maxLen; omega
      case c4 => omega
      case c5 => have := HB1.out.size; simp; omega
      intro v6 w6 hown hgrow hfr
      have HO6 := Lib.hid (HO5.out.append HTS6.out hown hgrow hfr)
      have HB6 : Hid (Below w.heap.size w w6) := Lib.hid ((HB1.out.trans (HBY.out.mono HB1.out.size)).grown hgrow (Nat.le_trans HB1.out.size HBY.out.size) fun g e => (HO5.out.block e).1)
      clear hown hgrow hfr
      by_cases h44 : hd r1 = 44
      · have e44 : (((hd r1).toNat : Int) != 44) = false := by rw [u8_ne44, h44]; rfl
        have HS : Hid (pList (s.drop k) = (pNeed [44, 32] r1).bind fun _ r2 => pFrom ((l ++ [(t, a, cap)]).map (·.1)) r2) := Lib.hid (by rw [HE.out, pFrom_go hx h44, List.map_append]; rfl)
        clear h44 hx
        generalize hy : pNeed [44, 32] r1 = y at HMU HS
        cases y with
        | no r2 =>
          clear hy
          go_wp2_with (first
            | (go_at_call 36; refine (HSG.out _).mono ?_; rintro e w7 ⟨rfl, rfl⟩)
            | (go_at_call 37; refine (HMU.out _).mono ?_; rintro e w8 ⟨hb8, rfl⟩; have HB8 := Lib.hid (HB6.out.trans (hb8.mono HB6.out.size)); clear hb8))
          refine bodyPost_ret (v := .tuple #[.slice none 0 0, .int .i64 ((s.length - r2.length : Nat) : Int), .bool false]) (by simp [results, Tryd.results38, go_sem]) rfl ?_
          rw [HS.out]
          exact ⟨HB8.out, rfl⟩
        | ok u r2 =>
          have hln := congrArg List.length (pNeed_len _ _ _ hy)
          rw [List.length_append] at hln
          simp only [List.length_cons, List.length_nil] at hln
          have hdr : s.drop (s.length - r2.length) = r2 := suf_at (k := s.length - r1.length) (by rw [HD1.out]; exact pNeed_suf hy)
          have HDR := Lib.hid hdr
          have HLN := Lib.hid hln
          clear hy hdr hln
          go_wp2_with (first
            | (go_at_call 36; refine (HSG.out _).mono ?_; rintro e w7 ⟨rfl, rfl⟩)
            | (go_at_call 37; refine (HMU.out _).mono ?_; rintro e w8 ⟨hb8, rfl⟩; have HB8 := Lib.hid (HB6.out.trans (hb8.mono HB6.out.size)); have HO8 := Lib.hid (HO6.out.below hb8); clear hb8))
          go_roundw
          case measure => have hln := HLN.out; simp only [intOf]; omega
          case rel =>
            have hln := HLN.out
            refine ⟨l ++ [(t, a, cap)], s.length - r2.length, by omega, by omega, by rw [List.length_append, List.length_singleton]; omega, rfl, HO8, HB8, Lib.hid ?_⟩
            rw [HS.out, HDR.out]; rfl
      · have e44 : (((hd r1).toNat : Int) != 44) = true := by rw [u8_ne44]; exact decide_eq_true h44
        have HS : Hid (pList (s.drop k) = .ok ((l ++ [(t, a, cap)]).map (·.1)) r1) := Lib.hid (by rw [HE.out, pFrom_end hx h44, List.map_append]; rfl)
        clear h44 hx
        obtain ⟨da, dc, hd1', hd2⟩ := HO6.out.done (fun _ h => h)
        subst hd1'
        have HD2 := Lib.hid hd2
        clear hd2
        go_wp2_with (go_at_call 36; refine (HSG.out _).mono ?_; rintro e w7 ⟨rfl, rfl⟩)
        refine bodyPost_ret (v := .tuple #[.slice da ((l ++ [(t, a, cap)]).map (·.1)).length dc, .int .i64 ((s.length - r1.length : Nat) : Int), .bool true]) (by simp [results, Tryd.results38, go_sem]) rfl ?_
        rw [HS.out]
        exact ⟨HB6.out, da, dc, rfl, HD2.out⟩

end Go.Proofs.YtikmgiapjigghabDoor
