/- Walks: the reference's termAt. -/
import Derived.Test.YtikmgiapjigghabDoorTbTrc
namespace Go.Proofs.YtikmgiapjigghabDoor
open Go.RowKit

theorem below_set3 {B c : Nat} {w w' : World} (h : Below B w w') (hc : B ≤ c) (x0 x1 x2 : Value) : Below B w (((w'.setCell ⟨c, 0, none⟩ x0).setCell ⟨c, 1, none⟩ x1).setCell ⟨c, 2, none⟩ x2) :=
  ((h.setCell (p := ⟨c, 0, none⟩) hc _).setCell (p := ⟨c, 1, none⟩) hc _).setCell (p := ⟨c, 2, none⟩) hc _

/-- The two boxes: what is handed back, and the term that is made. -/
structure TwoB (w wx : World) (nm : Bs) : Prop where
  res : Box3 wx w.heap.size (.int .i64 0) (.string ⟨#[]⟩) (.slice none 0 0)
  tm : Box3 wx (w.heap.size + 1) (.int .i64 0) (.string (strB nm)) (.slice none 0 0)
  bel : Below w.heap.size w wx

theorem TwoB.start (w : World) : TwoB w ((w.alloc (.cells #[.int .i64 0, .string ⟨#[]⟩, .slice none 0 0] 48)).alloc (.cells #[.int .i64 0, .string ⟨#[33]⟩, .slice none 0 0] 48)) [33] :=
  ⟨(Box3.made w _ _ _).alloc _, ⟨by have h := heap_alloc_new (w.alloc (.cells #[.int .i64 0, .string ⟨#[]⟩, .slice none 0 0] 48)) (.cells #[.int .i64 0, .string ⟨#[33]⟩, .slice none 0 0] 48); rw [show (w.alloc (.cells #[.int .i64 0, .string ⟨#[]⟩, .slice none 0 0] 48)).heap.size = w.heap.size + 1 by simp] at h; exact h⟩, ((Below.refl _ _).alloc (Nat.le_refl _) _).alloc (by simp) _⟩

theorem TwoB.next {w wx wy : World} {nm : Bs} (h : TwoB w wx nm) (hb : Below wx.heap.size wx wy) : TwoB w wy nm :=
  ⟨h.res.below hb, h.tm.below hb, h.bel.trans (hb.mono h.bel.size)⟩

theorem TwoB.name {w wx : World} {nm nm2 : Bs} (h : TwoB w wx nm) : TwoB w (wx.setCell ⟨w.heap.size + 1, 1, none⟩ (.string (strB nm2))) nm2 :=
  ⟨h.res.keep (Below.heap_setCell _ _ _ _ (by simp)), ⟨by rw [heap_setCell_at _ _ _ _ h.tm.blk]; rfl⟩, h.bel.setCell (p := ⟨w.heap.size + 1, 1, none⟩) (Nat.le_succ _) _⟩

theorem word_max (f : Nat → UInt8 → Bool) (s : Bs) (k : Nat) (hk : k ≤ s.length) : k + wordLen f 0 (s.drop k) ≤ s.length := by
  have := wordLen_le f (s.drop k) 0
  rw [List.length_drop] at this
  omega

theorem name_yes {s : Bs} {k i : Nat} (h : nameAt i (hd (s.drop (k + i))) = true) : k + i < s.length ∧ wordLen nameAt i (s.drop (k + i)) = 1 + wordLen nameAt (i + 1) (s.drop (k + (i + 1))) := by
  have hlt : k + i < s.length := Classical.byContradiction fun e => by
    rw [hd_end e] at h
    simp [nameAt, show isLow 0 = false from by decide, show isDig 0 = false from by decide] at h
  refine ⟨hlt, wordLen_yes nameAt s i (k + i) hlt (by rw [hd_at hlt] at h; exact h)⟩
theorem name_no {s : Bs} {k i : Nat} (h : nameAt i (hd (s.drop (k + i))) = false) : wordLen nameAt i (s.drop (k + i)) = 0 := by
  by_cases hlt : k + i < s.length
  · exact wordLen_no nameAt s i (k + i) hlt (by rw [hd_at hlt] at h; exact h)
  · rw [List.drop_of_length_le (by omega)]; rfl

theorem name_fits {nm : Bs} (h : nm.length ≤ 6000) (l : List Tm) : (Tm.mk 0 (strB nm) l).fits :=
  ⟨by show I64 0; unfold I64; omega, by show (strB nm).size ≤ maxLen; rw [strB_size]; unfold maxLen; omega⟩

/-- How far the name goes by the loop's test. -/
theorem name_test (i : Nat) (c : UInt8) : nameAt i c = (isLow c || (decide (0 < i) && (isDig c || decide (c = 95)))) := by
  unfold nameAt
  rw [show (c == 95) = decide (c = 95) from rfl]

set_option maxRecDepth 100000 in
set_option maxHeartbeats 1600000 in
theorem TermStepR {s : Bs} {L : Nat} (hs : s.length ≤ 6000) (ih : ∀ L', L' < L → RLAt s L') : RTAt s L := by
  intro k w hk hL
  have hsz : (strB s).size = s.length := strB_size s
  by_cases h86 : hd (s.drop k) = 86
  · have hlt : k < s.length := Classical.byContradiction fun e => by rw [hd_end e] at h86; exact absurd h86 (by decide)
    have h := TermVarR hs k w h86 hlt
    rw [pTerm_var h86, List.tail_drop]
    exact h
  · have HSX := Lib.hid (signAtX s)
    have T0 : Hid (((k : Nat) : Int).toNat = k) := Lib.hid (Int.toNat_natCast k)
    have e86 : (((hd (s.drop k)).toNat : Int) == 86) = false := by
      have := u8_eq (hd (s.drop k)) 86
      rw [decide_eq_false h86] at this
      exact this
    have e33 : (((hd (s.drop k)).toNat : Int) == 33) = decide (hd (s.drop k) = 33) := u8_eq (hd (s.drop k)) 33
    have H86 := Lib.hid h86
    have HTB := Lib.hid (TwoB.start w)
    have IH := Lib.hid ih
    clear h86 ih
    obtain ⟨c0, h0⟩ : ∃ c, hd (s.drop k) = c := ⟨_, rfl⟩
    have D0 := Lib.hid h0
    rw [h0] at e86 e33
    clear h0
    obtain ⟨b33, hb⟩ : ∃ b, decide (c0 = 33) = b := ⟨_, rfl⟩
    rw [hb] at e33
    have HB33 := Lib.hid hb
    clear hb
    go_enter Tryd.func35, Tryd.ntmps35
    go_upto_if 55 with (go_at_call 36; refine (HSX.out _ (by omega) _).mono ?_; rintro e w1 ⟨he, rfl⟩; simp only [T0.out, D0.out] at he; subst he)
    go_cut [1] from 14 (fun s1 wx => ∃ (k1 : Nat) (nm : Bs), s1 = .int .i64 k1 ∧ k1 ≤ s.length ∧ k < k1 ∧ nm.length ≤ 6000 ∧ Hid (pTerm (s.drop k) = pArgs nm (s.drop k1)) ∧ Hid (TwoB w wx nm))
    case first =>
      cases b33 with
      | true =>
        have h33 : c0 = 33 := of_decide_eq_true HB33.out
        have hd33 : hd (s.drop k) = 33 := D0.out.trans h33
        have hlt : k < s.length := Classical.byContradiction fun e => by rw [hd_end e] at hd33; exact absurd hd33 (by decide)
        have HE : Hid (pTerm (s.drop k) = pArgs [33] (s.drop (k + 1))) := Lib.hid (by rw [pTerm_cut hd33, List.tail_drop])
        clear h33 hd33
        go_wp2_with fail
        go_meet
        case rel => exact ⟨k + 1, [33], by go_num, hlt, Nat.lt_succ_self _, by decide, HE, HTB⟩
      | false =>
        have H33 : Hid (hd (s.drop k) ≠ 33) := Lib.hid (fun e => of_decide_eq_false HB33.out (D0.out.symm.trans e))
        go_wp2_with fail
        go_loopw [1] (fun x1 wr => ∃ (i : Nat), k + i ≤ s.length ∧ x1 = .int .i64 ((k + i : Nat) : Int) ∧ Hid (wordLen nameAt 0 (s.drop k) = i + wordLen nameAt i (s.drop (k + i))) ∧ Hid (TwoB w wr [33])) (fun x1 _ => s.length - (intOf x1).toNat)
        case atStart => exact ⟨0, by omega, rfl, Lib.hid (by simp), HTB⟩
        case round =>
          obtain ⟨i, hki, rfl, HE, HT⟩ := hrel
          have TI : Hid (((k : Int) + (i : Int)).toNat = k + i) := Lib.hid (by omega)
          obtain ⟨c, hc⟩ : ∃ c, hd (s.drop (k + i)) = c := ⟨_, rfl⟩
          have DC := Lib.hid hc
          have bl := betw_low c
          have bd := betw_dig c
          have eu : ((c.toNat : Int) == 95) = decide (c = 95) := u8_eq c 95
          have hc8 := u8_lt c
          have hnt := name_test i c
          obtain ⟨x1, h1⟩ : ∃ b, isLow c = b := ⟨_, rfl⟩
          obtain ⟨x2, h2⟩ : ∃ b, isDig c = b := ⟨_, rfl⟩
          obtain ⟨x3, h3⟩ : ∃ b, decide (c = 95) = b := ⟨_, rfl⟩
          rw [h1] at bl hnt
          rw [h2] at bd hnt
          rw [h3] at eu hnt
          have HNT := Lib.hid hnt
          clear h1 h2 h3 hnt hc
          obtain ⟨nb, hn⟩ : ∃ b, nameAt i c = b := ⟨_, rfl⟩
          rw [hn] at HNT
          have HNB := Lib.hid hn
          clear hn
          go_upto_region 16 with fail
          go_cut [81] (fun s81 wx => s81 = .bool nb ∧ wx = wr)
          case first =>
            cases x1 with
            | true =>
              have hnb : nb = true := HNT.out
              go_wp2_with (first
              | (go_at_call 36; refine (HSX.out _ (by omega) _).mono ?_; rintro e w1 ⟨he, rfl⟩; simp only [TI.out, DC.out] at he; subst he)
              | (go_at_call 47; refine (betweenW _ _ _ _).mono ?_; rintro e w1 ⟨rfl, rfl⟩))
              go_meet
              case rel => exact ⟨by rw [hnb], rfl⟩

            | false =>
              by_cases hi : 0 < i
              · have hgt : (k : Int) < ((k + i : Nat) : Int) := by omega
                cases x2 with
                | true =>
                  have hnb : nb = true := by rw [HNT.out, decide_eq_true hi]; rfl
                  go_wp2_with (first
              | (go_at_call 36; refine (HSX.out _ (by omega) _).mono ?_; rintro e w1 ⟨he, rfl⟩; simp only [TI.out, DC.out] at he; subst he)
              | (go_at_call 47; refine (betweenW _ _ _ _).mono ?_; rintro e w1 ⟨rfl, rfl⟩))
                  go_meet
                  case rel => exact ⟨by rw [hnb], rfl⟩

                | false =>
                  cases x3 with
                  | true =>
                    have hnb : nb = true := by rw [HNT.out, decide_eq_true hi]; rfl
                    go_wp2_with (first
              | (go_at_call 36; refine (HSX.out _ (by omega) _).mono ?_; rintro e w1 ⟨he, rfl⟩; simp only [TI.out, DC.out] at he; subst he)
              | (go_at_call 47; refine (betweenW _ _ _ _).mono ?_; rintro e w1 ⟨rfl, rfl⟩))
                    go_meet
                    case rel => exact ⟨by rw [hnb], rfl⟩

                  | false =>
                    have hnb : nb = false := by rw [HNT.out, decide_eq_true hi]; rfl
                    go_wp2_with (first
              | (go_at_call 36; refine (HSX.out _ (by omega) _).mono ?_; rintro e w1 ⟨he, rfl⟩; simp only [TI.out, DC.out] at he; subst he)
              | (go_at_call 47; refine (betweenW _ _ _ _).mono ?_; rintro e w1 ⟨rfl, rfl⟩))
                    go_meet
                    case rel => exact ⟨by rw [hnb], rfl⟩

              · have hgt : ¬ (k : Int) < ((k + i : Nat) : Int) := by omega
                have hnb : nb = false := by rw [HNT.out, decide_eq_false hi]; rfl
                go_wp2_with (first
              | (go_at_call 36; refine (HSX.out _ (by omega) _).mono ?_; rintro e w1 ⟨he, rfl⟩; simp only [TI.out, DC.out] at he; subst he)
              | (go_at_call 47; refine (betweenW _ _ _ _).mono ?_; rintro e w1 ⟨rfl, rfl⟩))
                go_meet
                case rel => exact ⟨by rw [hnb], rfl⟩

          case rest =>
            obtain ⟨rfl, rfl⟩ := hcut
            cases nb with
            | true =>
              obtain ⟨hlt, hw⟩ := name_yes (s := s) (k := k) (i := i) (by rw [DC.out, HNB.out])
              have HE2 : Hid (wordLen nameAt 0 (s.drop k) = (i + 1) + wordLen nameAt (i + 1) (s.drop (k + (i + 1)))) := Lib.hid (by rw [HE.out, hw, Nat.add_assoc])
              clear hw
              go_wp2_with fail
              go_roundw
              case measure => simp only [intOf]; omega
              case rel => exact ⟨i + 1, by omega, by go_num, HE2, HT⟩
            | false =>
              have hw := name_no (s := s) (k := k) (i := i) (by rw [DC.out, HNB.out])
              rcases name_word (s.drop k) with ⟨e1, e2⟩ | ⟨n, e1, e2⟩
              · have hi0 : i = 0 := by have := HE.out; rw [hw, e1] at this; omega
                have hq : (((k + i : Nat) : Int) == (k : Int)) = true := by rw [hi0]; simp
                have HEN : Hid (pTerm (s.drop k) = .no (s.drop k)) := Lib.hid (by rw [pTerm_name H86.out H33.out, e2]; rfl)
                clear e1 e2 hw
                obtain ⟨z0, z1, z2, zf⟩ := HT.out.res.all
                go_wp2_with fail
                refine bodyPost_ret (v := .tuple #[.agg #[.int .i64 0, .string ⟨#[]⟩, .slice none 0 0], .int .i64 ((k + i : Nat) : Int), .bool false]) (by simp [results, Tryd.results35, go_sem, z0, z1, z2]) rfl ?_
                rw [HEN.out]
                exact no_fin (below_set3 HT.out.bel (Nat.le_refl _) _ _ _) (by rw [left_at hk, hi0]; rfl)
              · have hi0 : i = n + 1 := by have := HE.out; rw [hw, e1] at this; omega
                have hq : (((k + i : Nat) : Int) == (k : Int)) = false := by rw [beq_eq_false_iff_ne]; omega
                have HEN : Hid (pTerm (s.drop k) = pArgs ((s.drop k).take i) (s.drop (k + i))) := Lib.hid (by rw [pTerm_name H86.out H33.out, e2, hi0, List.drop_drop]; rfl)
                clear e1 e2 hw
                obtain ⟨z0, z1, z2, zf⟩ := HT.out.tm.all
                go_wp2_with fail
                go_meet
                case rel =>
                  refine ⟨k + i, (s.drop k).take i, rfl, hki, by omega, by rw [List.length_take, List.length_drop]; omega, HEN, Lib.hid ?_⟩
                  have he : (strB s).extract k (k + (n + 1)) = strB ((s.drop k).take i) := by
                    rw [strB_extract, hi0, List.drop_take, show k + (n + 1) - k = n + 1 by omega]
                  rw [he]
                  exact HT.out.name
    case rest =>
      obtain ⟨k1, nm, rfl, hk1, hkk, hnm, HE, HT⟩ := hcut
      have T1 : Hid (((k1 : Nat) : Int).toNat = k1) := Lib.hid (Int.toNat_natCast k1)
      have e40 : (((hd (s.drop k1)).toNat : Int) != 40) = decide (hd (s.drop k1) ≠ 40) := by
        have := u8_eq (hd (s.drop k1)) 40
        rw [bne, show (40 : Int) = ((40 : UInt8).toNat : Int) from rfl, this]
        by_cases h : hd (s.drop k1) = 40 <;> simp [h]
      obtain ⟨c1, hc⟩ : ∃ c, hd (s.drop k1) = c := ⟨_, rfl⟩
      have D1 := Lib.hid hc
      rw [hc] at e40
      clear hc
      obtain ⟨z0, z1, z2, zf⟩ := HT.out.res.all
      obtain ⟨y0, y1, y2, yf⟩ := HT.out.tm.all
      by_cases h40 : c1 = 40
      · have hlt : k1 < s.length := Classical.byContradiction fun e => by
          have h := D1.out
          rw [hd_end e, h40] at h
          exact absurd h (by decide)
        have HA := Lib.hid (pArgs_open (nm := nm) (D1.out.trans h40))
        rw [List.tail_drop] at HA
        rw [decide_eq_false (fun e => e h40)] at e40
        have hl := fun u => IH.out (L - 1) (by omega) (k1 + 1) u hlt (by omega)
        rw [show ((k1 + 1 : Nat) : Int) = (k1 : Int) + 1 by omega] at hl
        have HL := Lib.hid hl
        have HK1 := Lib.hid hlt
        clear h40 hl hlt
        generalize hx : pList (s.drop (k1 + 1)) = x at HL HA
        cases x with
        | no r1 =>
          clear hx
          go_wp2_with (first
            | (go_at_call 36; refine (HSX.out _ (by omega) _).mono ?_; rintro e w1 ⟨he, rfl⟩; simp only [T1.out, D1.out] at he; subst he)
            | (go_at_call 38; refine (HL.out _).mono ?_; rintro e w2 ⟨hb2, rfl⟩; have HT2 := Lib.hid (HT.out.next hb2); obtain ⟨k0, k1', k2, kf⟩ := HT2.out.res.all; clear hb2))
          refine bodyPost_ret (v := .tuple #[.agg #[.int .i64 0, .string ⟨#[]⟩, .slice none 0 0], .int .i64 ((s.length - r1.length : Nat) : Int), .bool false]) (by simp [results, Tryd.results35, go_sem, k0, k1', k2]) rfl ?_
          rw [HE.out, HA.out]
          exact no_fin (below_set3 HT2.out.bel (Nat.le_refl _) _ _ _) rfl
        | ok l r1 =>
          have hsf := pList_suf hx
          have hle := pList_len hx
          have hd1 : s.drop (s.length - r1.length) = r1 := suf_at hsf
          have hmu := fun u => mustAtW [41] (by simp) s hs (s.length - r1.length) (by omega) u
          rw [hd1] at hmu
          have HMU := Lib.hid hmu
          clear hx hsf hle hd1 hmu
          have HA2 : Hid (pArgs nm (s.drop k1) = (pNeed [41] r1).bind fun _ r'' => .ok (.mk 0 ⟨nm.toArray⟩ l) r'') := Lib.hid HA.out
          clear HA
          generalize pNeed [41] r1 = y at HMU HA2
          have HFT := Lib.hid (name_fits hnm l)
          cases y with
          | no r2 =>
            go_wp2_with (first
              | (go_at_call 36; refine (HSX.out _ (by omega) _).mono ?_; rintro e w1 ⟨he, rfl⟩; simp only [T1.out, D1.out] at he; subst he)
              | (go_at_call 38; refine (HL.out _).mono ?_; rintro e w2 ⟨hb2, a, cap, rfl, hts⟩; have HT2 := Lib.hid (HT.out.next hb2); have HTS := Lib.hid hts; obtain ⟨k0, k1', k2, kf⟩ := HT2.out.tm.all; have HB3 := Lib.hid (HT2.out.tm.set2 (.slice a l.length cap)); clear hb2 hts)
              | (go_at_call 37; refine (HMU.out _).mono ?_; rintro e w4 ⟨hb4, rfl⟩; have HB4 := Lib.hid (HB3.out.below hb4); have HR4 := Lib.hid ((HT2.out.res.keep (Below.heap_setCell w2 ⟨w.heap.size + 1, 2, none⟩ (.slice a l.length cap) _ (by simp))).below hb4); obtain ⟨m0, m1, m2, mf⟩ := HB4.out.all; obtain ⟨n0, n1, n2, nf⟩ := HR4.out.all; have HW4 := Lib.hid (((HT2.out.bel.setCell (p := ⟨w.heap.size + 1, 2, none⟩) (Nat.le_succ _) (.slice a l.length cap))).trans (hb4.mono (by have := HT2.out.bel.size; simpa [World.setCell] using this))); clear hb4))
            refine bodyPost_ret (v := .tuple #[.agg #[.int .i64 0, .string (strB nm), .slice a l.length cap], .int .i64 ((s.length - r2.length : Nat) : Int), .bool false]) (by simp [results, Tryd.results35, go_sem, n0, n1, n2]) rfl ?_
            rw [HE.out, HA2.out]
            exact ⟨below_set3 HW4.out (Nat.le_refl _) _ _ _, _, _, _, _, _, rfl⟩
          | ok u r2 =>
            go_wp2_with (first
              | (go_at_call 36; refine (HSX.out _ (by omega) _).mono ?_; rintro e w1 ⟨he, rfl⟩; simp only [T1.out, D1.out] at he; subst he)
              | (go_at_call 38; refine (HL.out _).mono ?_; rintro e w2 ⟨hb2, a, cap, rfl, hts⟩; have HT2 := Lib.hid (HT.out.next hb2); have HTS := Lib.hid hts; have HLW := Lib.hid HT.out.res.lt; have HLT := Lib.hid HT.out.tm.lt; obtain ⟨k0, k1', k2, kf⟩ := HT2.out.tm.all; have HB3 := Lib.hid (HT2.out.tm.set2 (.slice a l.length cap)); clear hb2 hts)
              | (go_at_call 37; refine (HMU.out _).mono ?_; rintro e w4 ⟨hb4, rfl⟩; have HBB := Lib.hid hb4; have HB4 := Lib.hid (HB3.out.below hb4); have HR4 := Lib.hid ((HT2.out.res.keep (Below.heap_setCell w2 ⟨w.heap.size + 1, 2, none⟩ (.slice a l.length cap) _ (by simp))).below hb4); obtain ⟨m0, m1, m2, mf⟩ := HB4.out.all; obtain ⟨n0, n1, n2, nf⟩ := HR4.out.all; have HW4 := Lib.hid (((HT2.out.bel.setCell (p := ⟨w.heap.size + 1, 2, none⟩) (Nat.le_succ _) (.slice a l.length cap))).trans (hb4.mono (by have := HT2.out.bel.size; simpa [World.setCell] using this))); clear hb4))
            refine bodyPost_ret (v := .tuple #[.agg #[.int .i64 0, .string (strB nm), .slice a l.length cap], .int .i64 ((s.length - r2.length : Nat) : Int), .bool true]) (by simp [results, Tryd.results35, go_sem, n0, n1, n2]) rfl ?_
            rw [HE.out, HA2.out]
            refine ⟨below_set3 HW4.out (Nat.le_refl _) _ _ _, HFT.out, a, cap, rfl, ?_⟩
            have hlw := HLW.out; have hlt := HLT.out
            have t1 := HTS.out.keep ((Touch.setCell (M := fun i => i = w.heap.size + 1) (p := ⟨w.heap.size + 1, 2, none⟩) (.slice a l.length cap) rfl).keeps fun i hi e => by omega)
            have t2 := t1.keep (Keeps.below HBB.out _)
            have t3 := t2.keep ((set3 w4 w.heap.size (.int .i64 0) (.string (strB nm)) (.slice a l.length cap)).keeps fun i hi e => by omega)
            exact t3.mono fun i _ hi => by omega
      · have HA := Lib.hid (pArgs_none (nm := nm) (r := s.drop k1) (fun e => h40 (D1.out.symm.trans e)))
        rw [decide_eq_true h40] at e40
        clear h40
        go_wp2_with (go_at_call 36; refine (HSX.out _ (by omega) _).mono ?_; rintro e w1 ⟨he, rfl⟩; simp only [T1.out, D1.out] at he; subst he)
        refine bodyPost_ret (v := .tuple #[.agg #[.int .i64 0, .string (strB nm), .slice none 0 0], .int .i64 (k1 : Int), .bool true]) (by simp [results, Tryd.results35, go_sem, z0, z1, z2]) rfl ?_
        rw [HE.out, HA.out]
        exact ⟨below_set3 HT.out.bel (Nat.le_refl _) _ _ _, name_fits hnm [], none, 0, by rw [left_at hk1]; rfl, Ts.empty _ _⟩

end Go.Proofs.YtikmgiapjigghabDoor
