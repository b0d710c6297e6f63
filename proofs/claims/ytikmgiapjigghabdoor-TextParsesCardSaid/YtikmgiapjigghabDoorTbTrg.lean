/- Walks: the reference's ReadProgram. -/
import Derived.Test.YtikmgiapjigghabDoorTbTrf
namespace Go.Proofs.YtikmgiapjigghabDoor
open Go.RowKit

set_option maxRecDepth 100000 in
set_option maxHeartbeats 1600000 in
theorem ReadProgramW (s : Bs) (w : World) : Calls Tryd.prog 15 #[.string (strB s)] w (ParsedP s w) := by
  have hsz : (strB s).size = s.length := strB_size s
  by_cases hs : 6000 < s.length
  · have HR : Hid (readP s = ([], 0, 2)) := Lib.hid (if_pos hs)
    have h1 : (6000 : Int) < (s.length : Int) := by omega
    clear hs
    go_enter Tryd.func15, Tryd.ntmps15
    go_wp2_with fail
    refine bodyPost_ret (v := .tuple #[.slice none 0 0, .int .i64 0, .int .i64 2]) (by simp [results, Tryd.results15, go_sem]) rfl ?_
    exact ParsedP.none HR.out (Below.refl _ _)
  · have h1 : ¬ (6000 : Int) < (s.length : Int) := by omega
    have hs6 : s.length ≤ 6000 := by omega
    have HS := Lib.hid hs
    clear hs
    obtain ⟨i0, zc, hi0, hz0, hz1, hz2, hz3⟩ := infoClz
    go_enter Tryd.func15, Tryd.ntmps15
    go_wp2_with fail
    go_loopw [5, 6] (fun x5 x6 wr => ∃ (l : List ClAt) (k1 : Nat), k1 ≤ s.length ∧ l.length ≤ k1 ∧ x6 = .int .i64 k1 ∧ Hid (OwnCs wr w.heap.size (fun i => w.heap.size ≤ i) x5 l) ∧ Hid (Below w.heap.size w wr) ∧ Hid (pProg s = pGo (l.map (·.1)) (s.drop k1))) (fun _ x6 _ => s.length - (intOf x6).toNat)
    case atStart => exact ⟨[], 0, Nat.zero_le _, Nat.zero_le _, rfl, Lib.hid (OwnCs.nil _ _ _), Lib.hid (Below.refl _ _), Lib.hid (by rw [List.drop_zero]; exact pGo_start s)⟩
    case round =>
      obtain ⟨l, k1, hk1, hl1, rfl, HO, HB, HE⟩ := hrel
      obtain ⟨xa, xc, rfl, -⟩ := row_form HO.out.own
      by_cases hlt : k1 < s.length
      · have hlt1 : (k1 : Int) < (s.length : Int) := by omega
        have HNE := Lib.hid (drop_ne hlt)
        have HT := Lib.hid (termAtR hs6 k1 hk1 wr)
        generalize hx : pTerm (s.drop k1) = x at HT
        cases x with
        | no r1 =>
          have HE2 : Hid (pProg s = .no r1) := Lib.hid (by rw [HE.out]; exact pGo_no HNE.out (pC_no hx))
          clear hx
          go_wp2_with (go_at_call 35; refine HT.out.mono ?_; rintro e w1 ⟨hb1, v0, n0, z0, m0, c0, rfl⟩; have HB1 := Lib.hid (HB.out.trans (hb1.mono HB.out.size)); clear hb1)
          refine bodyPost_ret (v := .tuple #[.slice none 0 0, .int .i64 ((s.length - r1.length : Nat) : Int), .int .i64 1]) (by simp [results, Tryd.results15, go_sem]) rfl ?_
          exact ParsedP.none (readP_no HS.out HE2.out) (HB1.out.trans ((Below.refl _ _).alloc HB1.out.size _))
        | ok t r1 =>
          have hsf := pTerm_suf hx
          have hle := pTerm_len hx
          rw [List.length_drop] at hle
          have hr1 : r1.length ≤ s.length := by omega
          have hd1 : s.drop (s.length - r1.length) = r1 := suf_at hsf
          have hsg := signAtW s (s.length - r1.length)
          rw [hd1] at hsg
          have HSG := Lib.hid hsg
          have HD1 := Lib.hid hd1
          have HX := Lib.hid hx
          have e32 : (((hd r1).toNat : Int) == 32) = decide (hd r1 = 32) := u8_eq (hd r1) 32
          obtain ⟨b32, hb⟩ : ∃ b, decide (hd r1 = 32) = b := ⟨_, rfl⟩
          rw [hb] at e32
          have HB32 := Lib.hid hb
          clear hsg hd1 hsf hb hx
          go_upto_if 34 with (first
            | (go_at_call 35; refine HT.out.mono ?_; rintro e w1 ⟨hb1, hf, a, cap, rfl, hts⟩; have HB1 := Lib.hid hb1.size; have HQ := Lib.hid (QSt.made HO.out HB.out hb1 hf hts (.cells #[.int .i64 t.var, .string t.name, .slice a t.args.length cap] 48)); clear hf hts hb1)
            | (go_at_call 36; refine (HSG.out _).mono ?_; rintro e w2 ⟨rfl, rfl⟩))
          go_cut [8] (fun s8 wx => ∃ (q : List Tm) (a2 : Option Addr) (c2 : Nat) (r3 : Bs), s8 = .int .i64 ((s.length - r3.length : Nat) : Int) ∧ r3.length + 1 ≤ s.length - k1 ∧ Hid (s.drop (s.length - r3.length) = r3) ∧ Hid (pClause (s.drop k1) = pRest t q r3) ∧ Hid (QSt w (.slice xa l.length xc) l (⟨t, q⟩, (a, cap), (a2, c2)) (w1.heap.size + 1) wx))
          case first =>
            cases b32 with
            | false =>
              have HP : Hid (pClause (s.drop k1) = pRest t [] r1) := Lib.hid (pC_none HX.out (of_decide_eq_false HB32.out))
              go_wp2_with fail
              go_meet
              case rel => exact ⟨[], none, 0, r1, rfl, hle, HD1, HP, HQ⟩
            | true =>
              have h32 : hd r1 = 32 := of_decide_eq_true HB32.out
              have hmu := fun u => mustAtW [32, 58, 45, 32] (by simp) s hs6 (s.length - r1.length) (by omega) u
              rw [HD1.out] at hmu
              have HMU := Lib.hid hmu
              clear hmu
              generalize hn : pNeed [32, 58, 45, 32] r1 = y at HMU
              cases y with
              | no r2 =>
                have HE2 : Hid (pProg s = .no r2) := Lib.hid (by rw [HE.out]; exact pGo_no HNE.out (pC_b1 HX.out h32 hn))
                clear hn h32
                go_wp2_with (go_at_call 37; refine (HMU.out _).mono ?_; rintro e w3 ⟨hb3, rfl⟩; have HB3 := Lib.hid (HQ.out.bel.trans (hb3.mono HQ.out.bel.size)); clear hb3)
                refine bodyPost_ret (v := .tuple #[.slice none 0 0, .int .i64 ((s.length - r2.length : Nat) : Int), .int .i64 1]) (by simp [results, Tryd.results15, go_sem]) rfl ?_
                exact ParsedP.none (readP_no HS.out HE2.out) HB3.out
              | ok u r2 =>
                have hsf := pNeed_suf hn
                have hd2 : s.drop (s.length - r2.length) = r2 := suf_at (k := s.length - r1.length) (by rw [HD1.out]; exact hsf)
                have hl2 := hsf.length_le
                have hla := fun u => listAtR hs6 (s.length - r2.length) (by omega) u
                rw [hd2] at hla
                have HLA := Lib.hid hla
                have HN := Lib.hid hn
                have HD2 := Lib.hid hd2
                have HSF := Lib.hid hsf
                clear hla hn hd2 hsf
                generalize hm : pList r2 = m at HLA
                cases m with
                | no r3 =>
                  have HE2 : Hid (pProg s = .no r3) := Lib.hid (by rw [HE.out]; exact pGo_no HNE.out (pC_b2 HX.out h32 HN.out hm))
                  clear hm h32
                  go_wp2_with (first
                    | (go_at_call 37; refine (HMU.out _).mono ?_; rintro e w3 ⟨hb3, rfl⟩; have HQ3 := Lib.hid (HQ.out.below hb3); obtain ⟨y0, y1, y2, y3, yf⟩ := HQ3.out.box.all; clear hb3)
                    | (go_at_call 38; refine (HLA.out _).mono ?_; rintro e w4 ⟨hb4, rfl⟩; have HQ4 := Lib.hid (HQ3.out.below hb4); obtain ⟨z0, z1, z2, z3, zf⟩ := HQ4.out.box.all; clear hb4))
                  refine bodyPost_ret (v := .tuple #[.slice none 0 0, .int .i64 ((s.length - r3.length : Nat) : Int), .int .i64 1]) (by simp [results, Tryd.results15, go_sem]) rfl ?_
                  exact ParsedP.none (readP_no HS.out HE2.out) (HQ4.out.bel.setCell (p := ⟨w1.heap.size + 1, 3, none⟩) HQ.out.new _)
                | ok q r3 =>
                  have HP : Hid (pClause (s.drop k1) = pRest t q r3) := Lib.hid (pC_body HX.out h32 HN.out hm)
                  have hsf3 := pList_suf hm
                  have hl3 := hsf3.length_le
                  have HD3 : Hid (s.drop (s.length - r3.length) = r3) := Lib.hid (suf_at (k := s.length - r2.length) (by rw [HD2.out]; exact hsf3))
                  clear hm h32 hsf3
                  go_wp2_with (first
                    | (go_at_call 37; refine (HMU.out _).mono ?_; rintro e w3 ⟨hb3, rfl⟩; have HQ3 := Lib.hid (HQ.out.below hb3); obtain ⟨y0, y1, y2, y3, yf⟩ := HQ3.out.box.all; clear hb3)
                    | (go_at_call 38; refine (HLA.out _).mono ?_; rintro e w4 ⟨hb4, a2, c2, rfl, hts⟩; have HQ4 := Lib.hid (HQ3.out.below hb4); have HQ5 := Lib.hid (HQ4.out.body hts HQ3.out.box.lt fun g hg => (HQ3.out.own.block hg).2); obtain ⟨z0, z1, z2, z3, zf⟩ := HQ4.out.box.all; clear hb4 hts))
                  go_meet
                  case rel => exact ⟨q, a2, c2, r3, rfl, by omega, HD3, HP, HQ5⟩
          case rest =>
            obtain ⟨q, a2, c2, r3, rfl, hr3, HD3, HP, HQ⟩ := hcut
            obtain ⟨y0, y1, y2, y3, yf⟩ := HQ.out.box.all
            have hmu := fun u => mustAtW [46, 10] (by simp) s hs6 (s.length - r3.length) (by omega) u
            rw [HD3.out] at hmu
            have HM2 := Lib.hid hmu
            clear hmu
            generalize hn : pNeed [46, 10] r3 = y at HM2
            cases y with
            | no r4 =>
              have HE2 : Hid (pProg s = .no r4) := Lib.hid (by rw [HE.out]; refine pGo_no HNE.out ?_; rw [HP.out]; unfold pRest; rw [hn]; rfl)
              clear hn
              go_wp2_with (go_at_call 37; refine (HM2.out _).mono ?_; rintro e w3 ⟨hb3, rfl⟩; have HB3 := Lib.hid (HQ.out.bel.trans (hb3.mono HQ.out.bel.size)); clear hb3)
              refine bodyPost_ret (v := .tuple #[.slice none 0 0, .int .i64 ((s.length - r4.length : Nat) : Int), .int .i64 1]) (by simp [results, Tryd.results15, go_sem]) rfl ?_
              exact ParsedP.none (readP_no HS.out HE2.out) HB3.out
            | ok u r4 =>
              have HE2 : Hid (pProg s = pGo (l.map (·.1) ++ [⟨t, q⟩]) r4) := Lib.hid (by rw [HE.out]; refine pGo_ok HNE.out ?_; rw [HP.out]; unfold pRest; rw [hn]; rfl)
              have hsf4 := pNeed_suf hn
              have hl4 := hsf4.length_le
              have HD4 : Hid (s.drop (s.length - r4.length) = r4) := Lib.hid (suf_at (k := s.length - r3.length) (by rw [HD3.out]; exact hsf4))
              clear hn hsf4 y0 y1 y2 y3 yf
              go_wp2_with (first
                | (go_at_call 37; refine (HM2.out _).mono ?_; rintro e w3 ⟨hb3, rfl⟩; have HQ3 := Lib.hid (HQ.out.below hb3); obtain ⟨y0, y1, y2, y3, yf⟩ := HQ3.out.box.all; clear hb3)
                | (at_builtin; (refine wpList_append_fresh _ rfl _ _ 23 rfl w.heap.size 50 i0 zc 4 72 Tryd.underlying23 hi0 hz0 hz1 hz2 hz3 (by decide) _ _ _ rfl (HQ3.out.below ((Below.refl _ _).alloc (Nat.le_refl _) _)).own.own ⟨w3.heap.size, 0, none⟩ 1 1 (flatC [((⟨t, q⟩ : Cl), (a, cap), (a2, c2))]) rfl rfl ?c1 (flatC_one _) ?c3 ?c4 ?c5 ?_)))
              case c1 => exact four_cell _ _ _ _ _ _
              case c3 => unfold maxLen; omega
              case c4 => omega
              case c5 => have := HQ3.out.bel.size; simp; omega
              intro v9 w9 hown hgrow hfr
              obtain ⟨hA1, hA2⟩ := HQ3.out.append _ hown hgrow hfr
              have HA1 := Lib.hid hA1
              have HA2 := Lib.hid hA2
              clear hown hgrow hfr hA1 hA2
              go_wp2_with fail
              go_roundw
              case rel => exact ⟨l ++ [((⟨t, q⟩ : Cl), (a, cap), (a2, c2))], s.length - r4.length, by omega, by rw [List.length_append, List.length_singleton]; omega, rfl, HA1, HA2, Lib.hid (by rw [HE2.out, HD4.out, List.map_append]; rfl)⟩
              case measure => simp only [intOf]; omega
      · have hlt1 : ¬ (k1 : Int) < (s.length : Int) := by omega
        have he : pProg s = .ok (l.map (·.1)) [] := by rw [HE.out, List.drop_of_length_le (by omega)]; exact pGo_nil _
        have HR := Lib.hid (readP_ok HS.out he)
        clear he
        obtain ⟨da, dc, hd1, hd2⟩ := HO.out.done (fun _ h => h)
        rw [hd1]
        have HPR := Lib.hid hd2
        clear hd1 hd2
        generalize l.map (·.1) = P at *
        have HCP := Lib.hid (CheckProgramW P wr _ (fun b hb => Nat.le_trans HB.out.size hb) da dc HPR.out)
        by_cases hz : programE P = 0
        · rw [hz] at HCP
          have HR2 : Hid (readP s = (P, 0, 0)) := Lib.hid (by rw [HR.out]; exact if_pos hz)
          clear hz
          go_wp2_with (go_at_call 8; refine HCP.out.mono ?_; rintro e w2 ⟨rfl, hb2⟩; have HB2 := Lib.hid (HB.out.trans (hb2.mono HB.out.size)); have HPR2 := Lib.hid (HPR.out.keep (Keeps.below hb2 _)); clear hb2)
          refine bodyPost_ret (v := .tuple #[.slice da P.length dc, .int .i64 0, .int .i64 0]) (by simp [results, Tryd.results15, go_sem]) rfl ?_
          unfold ParsedP
          rw [HR2.out]
          exact ⟨da, dc, rfl, HPR2.out, HB2.out⟩
        · have HR2 : Hid (readP s = ([], 0, programE P)) := Lib.hid (by rw [HR.out]; exact if_neg hz)
          obtain ⟨n, hn⟩ : ∃ n, programE P = n := ⟨_, rfl⟩
          rw [hn] at HCP HR2 hz
          have e1 : ((n : Int) != 0) = true := by rw [bne_iff_ne]; omega
          clear hz hn
          go_wp2_with (go_at_call 8; refine HCP.out.mono ?_; rintro e w2 ⟨rfl, hb2⟩; have HB2 := Lib.hid (HB.out.trans (hb2.mono HB.out.size)); clear hb2)
          refine bodyPost_ret (v := .tuple #[.slice none 0 0, .int .i64 0, .int .i64 n]) (by simp [results, Tryd.results15, go_sem]) rfl ?_
          exact ParsedP.none HR2.out HB2.out

end Go.Proofs.YtikmgiapjigghabDoor
