/- Walks: the parser's term. -/
import Derived.Lib.AtoiErrMem
import Derived.Defers
import Derived.Recover
import Derived.Lib.SliceRun
import Derived.Test.YtikmgiapjigghabDoorTb04
import Derived.Test.YtikmgiapjigghabDoorTb09
namespace Go.Proofs.YtikmgiapjigghabDoor
open Go.RowKit

/-- A term that another call has parsed, in its result's variable. -/
theorem up_ok {b : Nat} {s : Bs} {w wa w' : World} {t : Tm} {r2 : Bs} {a : Option Addr} {cap : Nat} (hf : t.fits) (hts : Ts w' (fun i => wa.heap.size ≤ i) t.args a cap) (hp : PB w' b s (s.length - r2.length)) (ht : Touch (fun i => i = b) wa w')
    (hT : Touch (NewOr b w.heap.size) w wa) (hb : b < w.heap.size) (hsz : w.heap.size + 1 ≤ wa.heap.size) (x0 x1 x2 : Value) :
    TermPost b s w (.ok t r2) (.returned (.agg #[.int .i64 t.var, .string t.name, .slice a t.args.length cap])) (((w'.setCell ⟨w.heap.size, 0, none⟩ x0).setCell ⟨w.heap.size, 1, none⟩ x1).setCell ⟨w.heap.size, 2, none⟩ x2) := by
  have H3 := set3 w' w.heap.size x0 x1 x2
  refine ⟨hf, ⟨a, cap, rfl, (hts.keep (H3.keeps fun _ hi hm => by omega)).mono fun _ _ hi => by omega⟩, hp.keep (H3.block b hp.lt (Nat.ne_of_lt hb)), ?_⟩
  exact ((hT.trans (ht.mono fun _ _ e => .inl e)).trans (H3.mono fun _ _ e => .inr (Nat.le_of_eq e.symm))).old
theorem up_no {b : Nat} {s : Bs} {w wa w' : World} {r2 : Bs} (ht : Touch (fun i => i = b) wa w') (hT : Touch (NewOr b w.heap.size) w wa) : TermPost b s w (.no r2) (.panicked (plc (s.length - r2.length))) w' :=
  ⟨rfl, (hT.trans (ht.mono fun _ _ e => .inl e)).old⟩

theorem fits_var {v : Int} (h0 : 0 ≤ v) (h1 : v ≤ 99) : (Tm.mk v ⟨#[]⟩ []).fits := fits_lit v ⟨#[]⟩ [] (by omega) (by omega) (by decide)

set_option maxRecDepth 100000 in
set_option maxHeartbeats 800000 in
theorem TermStepP {s : Bs} {b L : Nat} (hs : s.length ≤ 6000) (ih : ∀ L', L' < L → ArgsAtP s b L') : TermAtP s b L := by
  intro k w hk hL hp
  have HX := Lib.hid hp
  have B1 : Below w.heap.size w (w.alloc (.cells #[.int .i64 0, .string ⟨#[]⟩, .slice none 0 0] 48)) := (Below.refl _ _).alloc (Nat.le_refl _) _
  have HB1 := Lib.hid B1
  have HSZ : Hid ((w.alloc (.cells #[.int .i64 0, .string ⟨#[]⟩, .slice none 0 0] 48)).heap.size = w.heap.size + 1) := Lib.hid (by simp)
  have HP1 := Lib.hid (hp.below B1)
  have HR1 := Lib.hid (Box3.made w (.int .i64 0) (.string ⟨#[]⟩) (.slice none 0 0))
  have HBW : Hid (b < w.heap.size) := Lib.hid hp.lt
  clear hp B1
  have HV := Lib.hid (SeesW 86 (by decide) s k hk _ b HP1.out)
  by_cases h86 : hd (s.drop k) = 86
  · obtain ⟨hlt, ht⟩ := hd_some (by decide) h86
    have HE : Hid (pTerm (s.drop k) = pVar (s.drop (k + 1))) := Lib.hid (by rw [pTerm_var h86, ht])
    rw [decide_eq_true h86] at HV
    have hk1 : k + 1 ≤ s.length := hlt
    have HW := Lib.hid (fun u hu => word_digit s (k + 1) hk1 hs u b hu)
    clear h86 ht ih hL
    rcases var_word (s.drop (k + 1)) with ⟨e1, e2⟩ | ⟨n, v, e1, e2, e3, e4, e5, e6⟩
    · rw [e1] at HW
      rw [e2] at HE
      clear e1 e2
      go_enter Tryd.func53, Tryd.ntmps53
      go_wp2_with (first
        | (go_at_call 54; refine HV.out.mono ?_; rintro e w1 ⟨rfl, hb1⟩; have HB2 := Lib.hid hb1; obtain ⟨q0, q1, qf⟩ := (HP1.out.below hb1).all; have HP3 := Lib.hid ((HP1.out.below hb1).set' (k + 1) ((k : Int) + 1) (by omega)); clear hb1)
        | (go_at_call 63; refine (HW.out _ HP3.out).mono ?_; rintro e w3 ⟨rfl, ht3⟩; have HT3 := Lib.hid ht3; clear ht3))
      refine show _ ∧ TermPost b s w _ (.panicked _) _ from ⟨rfl, ?_⟩
      rw [HE.out]
      have H := up_no (s := s) (r2 := s.drop (k + 1)) HT3.out ((Touch.below (M := NewOr b w.heap.size) (HB1.out.trans (HB2.out.mono HB1.out.size))).trans (Touch.setCell (p := ⟨b, 1, none⟩) (.int .i64 ((k : Int) + 1)) (.inl rfl)))
      rw [drop_at hk1] at H
      exact H
    · rw [e1] at HW
      rw [e6] at HE
      have HA := Lib.hid (fun u => Tryd.strconv_Atoi (strB ((s.drop (k + 1)).take (n + 1))) v (by rw [strB_size, List.length_take]; omega) (by rw [strB_toList]; exact e3) u)
      have HV2 : Hid ((Tm.mk v ⟨#[]⟩ []).fits) := Lib.hid (fits_var e4 e5)
      have HN : Hid (k + 1 + (n + 1) ≤ s.length) := Lib.hid (by
        have := wordLen_le digitAt (s.drop (k + 1)) 0
        rw [e1, List.length_drop] at this
        omega)
      clear e1 e2 e3 e4 e5 e6
      go_enter Tryd.func53, Tryd.ntmps53
      go_wp2_with (first
        | (go_at_call 54; refine HV.out.mono ?_; rintro e w1 ⟨rfl, hb1⟩; have HB2 := Lib.hid hb1; obtain ⟨q0, q1, qf⟩ := (HP1.out.below hb1).all; have HP3 := Lib.hid ((HP1.out.below hb1).set' (k + 1) ((k : Int) + 1) (by omega)); have HR3 := Lib.hid (HR1.out.below hb1); clear hb1)
        | (go_at_call 63; refine (HW.out _ HP3.out).mono ?_; rintro e w3 ⟨rfl, hp4, ht3⟩; have HT3 := Lib.hid ht3; have HP4 := Lib.hid hp4; clear ht3 hp4)
        | (go_at_call 62; refine (HA.out _).mono ?_; rintro e w4 ⟨rfl, tt, hw4⟩; have HB4 : Hid (Below w3.heap.size w3 w4) := Lib.hid (by rw [hw4]; exact Lib.bytesWorld_below _ _ _); have HR5 := Lib.hid (((HR3.out.keep (Below.heap_setCell w1 ⟨b, 1, none⟩ (.int .i64 ((k : Int) + 1)) _ (by have := HBW.out; simp; omega))).keep (HT3.out.block _ (by have := HR3.out.lt; simpa [World.setCell] using this) (by have := HBW.out; omega))).below HB4.out); obtain ⟨z0, z1, z2, zf⟩ := HR5.out.all; clear hw4))
      refine bodyPost_ret (v := .agg #[.int .i64 v, .string ⟨#[]⟩, .slice none 0 0]) (by simp [results, Tryd.results53, go_sem, z0, z1, z2]) rfl ?_
      rw [HE.out]
      have H2 := ((Touch.below (M := NewOr b w.heap.size) (HB1.out.trans (HB2.out.mono HB1.out.size))).trans (Touch.setCell (p := ⟨b, 1, none⟩) (.int .i64 ((k : Int) + 1)) (.inl rfl))).trans (HT3.out.mono fun i _ e => .inl e)
      have H5 := HP4.out.below HB4.out
      have hN := HN.out
      have H := up_ok (s := s) (r2 := (s.drop (k + 1)).drop (n + 1)) HV2.out (Ts.empty w4 _) (by rw [List.length_drop, List.length_drop, show s.length - (s.length - (k + 1) - (n + 1)) = k + 1 + (n + 1) by omega]; exact H5) (Touch.refl _ w4) (H2.trans (Touch.below (HB4.out))) HBW.out (by have := HR5.out.lt; omega) (.int .i64 v) (.string ⟨#[]⟩) (.slice none 0 0)
      exact H
  · rw [decide_eq_false h86] at HV
    have HC := Lib.hid (fun u hu => SeesW 33 (by decide) s k hk u b hu)
    by_cases h33 : hd (s.drop k) = 33
    · obtain ⟨hlt, ht⟩ := hd_some (by decide) h33
      have HE : Hid (pTerm (s.drop k) = pArgs [33] (s.drop (k + 1))) := Lib.hid (by rw [pTerm_cut h33, ht])
      rw [decide_eq_true h33] at HC
      have hk1 : k + 1 ≤ s.length := hlt
      have hL1 : s.length - (k + 1) ≤ L - 1 := by omega
      have HA := Lib.hid (ih (L - 1) (by omega) [33] (k + 1))
      have hn1 : ([33] : Bs).length ≤ 6000 := by decide
      clear h86 h33 ht ih
      generalize pArgs [33] (s.drop (k + 1)) = x at HA HE
      cases x with
      | no r2 =>
        go_enter Tryd.func53, Tryd.ntmps53
        go_wp2_with (first
          | (go_at_call_of 54 (ByteArray.mk #[86]); refine HV.out.mono ?_; rintro e w1 ⟨rfl, hb1⟩; have HB2 := Lib.hid hb1; have HP2 := Lib.hid (HP1.out.below hb1); have HR2 := Lib.hid (HR1.out.below hb1); clear hb1)
          | (go_at_call_of 54 (ByteArray.mk #[33]); refine (HC.out _ HP2.out).mono ?_; rintro e w2 ⟨rfl, hb2⟩; have HB3 := Lib.hid (HB2.out.trans (hb2.mono HB2.out.size)); have HP3 := Lib.hid (HP2.out.below hb2); have HR3 := Lib.hid (HR2.out.below hb2); obtain ⟨q0, q1, qf⟩ := HP3.out.all; have HP4 := Lib.hid (HP3.out.set' (k + 1) ((k : Int) + 1) (by omega)); clear hb2)
          | (go_at_call 66; refine (HA.out _ hn1 hk1 hL1 HP4.out).mono ?_; rintro e w3 ⟨rfl, ht3⟩; have HT3 := Lib.hid ht3; clear ht3))
        refine show _ ∧ TermPost b s w _ (.panicked _) _ from ⟨rfl, ?_⟩
        rw [HE.out]
        exact up_no HT3.out ((Touch.below (M := NewOr b w.heap.size) (HB1.out.trans (HB3.out.mono HB1.out.size))).trans (Touch.setCell (p := ⟨b, 1, none⟩) (.int .i64 ((k : Int) + 1)) (.inl rfl)))
      | ok t r2 =>
        go_enter Tryd.func53, Tryd.ntmps53
        go_wp2_with (first
          | (go_at_call_of 54 (ByteArray.mk #[86]); refine HV.out.mono ?_; rintro e w1 ⟨rfl, hb1⟩; have HB2 := Lib.hid hb1; have HP2 := Lib.hid (HP1.out.below hb1); have HR2 := Lib.hid (HR1.out.below hb1); clear hb1)
          | (go_at_call_of 54 (ByteArray.mk #[33]); refine (HC.out _ HP2.out).mono ?_; rintro e w2 ⟨rfl, hb2⟩; have HB3 := Lib.hid (HB2.out.trans (hb2.mono HB2.out.size)); have HP3 := Lib.hid (HP2.out.below hb2); have HR3 := Lib.hid (HR2.out.below hb2); obtain ⟨q0, q1, qf⟩ := HP3.out.all; have HP4 := Lib.hid (HP3.out.set' (k + 1) ((k : Int) + 1) (by omega)); clear hb2)
          | (go_at_call 66; refine (HA.out _ hn1 hk1 hL1 HP4.out).mono ?_; rintro e w3 ⟨hf, ⟨a, cap, rfl, hts⟩, hp5, ht3⟩; have HT3 := Lib.hid ht3; have HTS := Lib.hid hts; have HP5 := Lib.hid hp5; have HF := Lib.hid hf; have HR5 := Lib.hid ((HR3.out.keep (Below.heap_setCell w2 ⟨b, 1, none⟩ (.int .i64 ((k : Int) + 1)) _ (by have := HBW.out; simp; omega))).keep (ht3.block _ (by have := HR3.out.lt; simpa [World.setCell] using this) (by have := HBW.out; omega))); obtain ⟨z0, z1, z2, zf⟩ := HR5.out.all; clear ht3 hts hp5 hf))
        refine bodyPost_ret (v := .agg #[.int .i64 t.var, .string t.name, .slice a t.args.length cap]) (by simp [results, Tryd.results53, go_sem, z0, z1, z2]) rfl ?_
        rw [HE.out]
        exact up_ok HF.out HTS.out HP5.out HT3.out ((Touch.below (M := NewOr b w.heap.size) (HB1.out.trans (HB3.out.mono HB1.out.size))).trans (Touch.setCell (p := ⟨b, 1, none⟩) (.int .i64 ((k : Int) + 1)) (.inl rfl))) HBW.out (by have := HR3.out.lt; simp [World.setCell]; omega) (.int .i64 t.var) (.string t.name) (.slice a t.args.length cap)
    · have HE : Hid (pTerm (s.drop k) = (pName (s.drop k)).bind fun nm r' => pArgs nm r') := Lib.hid (pTerm_name h86 h33)
      rw [decide_eq_false h33] at HC
      have HW := Lib.hid (fun u hu => word_name s k hk hs u b hu)
      clear h86 h33
      rcases name_word (s.drop k) with ⟨e1, e2⟩ | ⟨n, e1, e2⟩
      · rw [e1] at HW
        rw [e2] at HE
        clear e1 e2 ih
        go_enter Tryd.func53, Tryd.ntmps53
        go_wp2_with (first
          | (go_at_call_of 54 (ByteArray.mk #[86]); refine HV.out.mono ?_; rintro e w1 ⟨rfl, hb1⟩; have HB2 := Lib.hid hb1; have HP2 := Lib.hid (HP1.out.below hb1); have HR2 := Lib.hid (HR1.out.below hb1); clear hb1)
          | (go_at_call_of 54 (ByteArray.mk #[33]); refine (HC.out _ HP2.out).mono ?_; rintro e w2 ⟨rfl, hb2⟩; have HB3 := Lib.hid (HB2.out.trans (hb2.mono HB2.out.size)); have HP3 := Lib.hid (HP2.out.below hb2); have HR3 := Lib.hid (HR2.out.below hb2); clear hb2)
          | (go_at_call 63; refine (HW.out _ HP3.out).mono ?_; rintro e w3 ⟨rfl, ht3⟩; have HT3 := Lib.hid ht3; clear ht3))
        refine show _ ∧ TermPost b s w _ (.panicked _) _ from ⟨rfl, ?_⟩
        rw [HE.out]
        have H := up_no (s := s) (r2 := s.drop k) HT3.out (Touch.below (M := NewOr b w.heap.size) (HB1.out.trans (HB3.out.mono HB1.out.size)))
        rw [drop_at hk] at H
        exact H
      · have hN : k + (n + 1) ≤ s.length := by
          have := wordLen_le nameAt (s.drop k) 0
          rw [e1, List.length_drop] at this
          omega
        have hL1 : s.length - (k + (n + 1)) ≤ L - 1 := by omega
        have hn1 : ((s.drop k).take (n + 1)).length ≤ 6000 := by rw [List.length_take, List.length_drop]; omega
        have HA := Lib.hid (ih (L - 1) (by omega) ((s.drop k).take (n + 1)) (k + (n + 1)))
        rw [e1] at HW
        have HE2 : Hid (pTerm (s.drop k) = pArgs ((s.drop k).take (n + 1)) (s.drop (k + (n + 1)))) := Lib.hid (by
          rw [HE.out, e2]
          show pArgs _ ((s.drop k).drop (n + 1)) = _
          rw [List.drop_drop])
        clear e1 e2 ih HE
        generalize pArgs ((s.drop k).take (n + 1)) (s.drop (k + (n + 1))) = x at HA HE2
        cases x with
        | no r2 =>
          go_enter Tryd.func53, Tryd.ntmps53
          go_wp2_with (first
            | (go_at_call_of 54 (ByteArray.mk #[86]); refine HV.out.mono ?_; rintro e w1 ⟨rfl, hb1⟩; have HB2 := Lib.hid hb1; have HP2 := Lib.hid (HP1.out.below hb1); have HR2 := Lib.hid (HR1.out.below hb1); clear hb1)
            | (go_at_call_of 54 (ByteArray.mk #[33]); refine (HC.out _ HP2.out).mono ?_; rintro e w2 ⟨rfl, hb2⟩; have HB3 := Lib.hid (HB2.out.trans (hb2.mono HB2.out.size)); have HP3 := Lib.hid (HP2.out.below hb2); have HR3 := Lib.hid (HR2.out.below hb2); clear hb2)
            | (go_at_call 63; refine (HW.out _ HP3.out).mono ?_; rintro e w3 ⟨rfl, hp4, ht3⟩; have HT3 := Lib.hid ht3; have HP4 := Lib.hid hp4; clear ht3 hp4)
            | (go_at_call 66; refine (HA.out _ hn1 hN hL1 HP4.out).mono ?_; rintro e w5 ⟨rfl, ht5⟩; have HT5 := Lib.hid ht5; clear ht5))
          refine show _ ∧ TermPost b s w _ (.panicked _) _ from ⟨rfl, ?_⟩
          rw [HE2.out]
          exact up_no HT5.out ((Touch.below (M := NewOr b w.heap.size) (HB1.out.trans (HB3.out.mono HB1.out.size))).trans (HT3.out.mono fun _ _ e => .inl e))
        | ok t r2 =>
          go_enter Tryd.func53, Tryd.ntmps53
          go_wp2_with (first
            | (go_at_call_of 54 (ByteArray.mk #[86]); refine HV.out.mono ?_; rintro e w1 ⟨rfl, hb1⟩; have HB2 := Lib.hid hb1; have HP2 := Lib.hid (HP1.out.below hb1); have HR2 := Lib.hid (HR1.out.below hb1); clear hb1)
            | (go_at_call_of 54 (ByteArray.mk #[33]); refine (HC.out _ HP2.out).mono ?_; rintro e w2 ⟨rfl, hb2⟩; have HB3 := Lib.hid (HB2.out.trans (hb2.mono HB2.out.size)); have HP3 := Lib.hid (HP2.out.below hb2); have HR3 := Lib.hid (HR2.out.below hb2); clear hb2)
            | (go_at_call 63; refine (HW.out _ HP3.out).mono ?_; rintro e w3 ⟨rfl, hp4, ht3⟩; have HT3 := Lib.hid ht3; have HP4 := Lib.hid hp4; have HR4 := Lib.hid (HR3.out.keep (ht3.block _ HR3.out.lt (by have := HBW.out; omega))); clear ht3 hp4)
            | (go_at_call 66; refine (HA.out _ hn1 hN hL1 HP4.out).mono ?_; rintro e w5 ⟨hf, ⟨a, cap, rfl, hts⟩, hp5, ht5⟩; have HT5 := Lib.hid ht5; have HTS := Lib.hid hts; have HP5 := Lib.hid hp5; have HF := Lib.hid hf; have HR5 := Lib.hid (HR4.out.keep (ht5.block _ HR4.out.lt (by have := HBW.out; omega))); obtain ⟨z0, z1, z2, zf⟩ := HR5.out.all; clear ht5 hts hp5 hf))
          refine bodyPost_ret (v := .agg #[.int .i64 t.var, .string t.name, .slice a t.args.length cap]) (by simp [results, Tryd.results53, go_sem, z0, z1, z2]) rfl ?_
          rw [HE2.out]
          exact up_ok HF.out HTS.out HP5.out HT5.out ((Touch.below (M := NewOr b w.heap.size) (HB1.out.trans (HB3.out.mono HB1.out.size))).trans (HT3.out.mono fun _ _ e => .inl e)) HBW.out (by have := HR4.out.lt; omega) (.int .i64 t.var) (.string t.name) (.slice a t.args.length cap)

end Go.Proofs.YtikmgiapjigghabDoor

/- Walks: the parser's list. -/
namespace Go.Proofs.YtikmgiapjigghabDoor
open Go.RowKit

/-- What is left to do of a list, so many terms being there. -/
def pMore (acc : List Tm) (r : Bs) : PR (List Tm) :=
  if hd r = 44 then (pNeed [44, 32] r).bind fun _ r'' => (pList r'').bind fun l r3 => .ok (acc ++ l) r3 else .ok acc r

theorem pList_more (r : Bs) : pList r = (pTerm r).bind fun t r' => pMore [t] r' := by
  rw [pList_eq]
  exact bind_congr fun t r1 _ => rfl

theorem pMore_none {acc : List Tm} {r : Bs} (h : hd r ≠ 44) : pMore acc r = .ok acc r := if_neg h

theorem pMore_step {acc : List Tm} {r : Bs} (h : hd r = 44) : pMore acc r = (pNeed [44, 32] r).bind fun _ r2 => (pTerm r2).bind fun t r3 => pMore (acc ++ [t]) r3 := by
  conv => lhs; unfold pMore
  rw [if_pos h]
  refine bind_congr fun u r2 _ => ?_
  rw [pList_more]
  cases pTerm r2 with
  | no r3 => rfl
  | ok t r3 =>
    show ((pMore [t] r3).bind fun l r3 => PR.ok (acc ++ l) r3) = pMore (acc ++ [t]) r3
    unfold pMore
    by_cases h2 : hd r3 = 44
    · rw [if_pos h2, if_pos h2]
      cases pNeed [44, 32] r3 with
      | no r4 => rfl
      | ok u r4 =>
        show (((pList r4).bind fun l r5 => PR.ok ([t] ++ l) r5).bind fun l r3 => PR.ok (acc ++ l) r3) = (pList r4).bind fun l r3 => PR.ok (acc ++ [t] ++ l) r3
        cases pList r4 with
        | no r5 => rfl
        | ok l r5 =>
          show PR.ok (acc ++ ([t] ++ l)) r5 = PR.ok (acc ++ [t] ++ l) r5
          rw [List.append_assoc]
    · rw [if_neg h2, if_neg h2]; rfl

theorem OwnTs.touch {b : Nat} {w w' : World} {base : Nat} {x : Value} {L : List TmAt} (h : OwnTs w base (fun i => base ≤ i) x L) (ht : Touch (fun i => i = b) w w') (hb : b < base) : OwnTs w' base (fun i => base ≤ i) x L :=
  ⟨ownsRow_block h.own fun g hg => ht.block g (h.block hg).2 (by have := (h.block hg).1; omega), h.each.keep (ht.keeps fun i hi hm => by have := hi.1; omega)⟩

theorem OwnTs.first {w : World} {base : Nat} {t : Tm} {a : Option Addr} {cap : Nat} (hf : t.fits) (h : Ts w (fun i => base ≤ i) t.args a cap) (hb : base ≤ w.heap.size) :
    OwnTs (w.alloc (.cells #[.int .i64 t.var, .string t.name, .slice a t.args.length cap] 48)) base (fun i => base ≤ i) (.slice (some ⟨w.heap.size, 0, none⟩) 1 1) [(t, a, cap)] := by
  refine ⟨World.ownsRow_lit (base := base) (e := 48) (size := 3) w _ 1 hb (by unfold maxLen; omega) rfl, ?_⟩
  refine TsEach.one hf ((h.mono (ok' := Free (.slice (some ⟨w.heap.size, 0, none⟩) 1 1) (fun i => base ≤ i)) fun i hi ho => ⟨ho, fun e => ?_⟩).keep (Keeps.below ((Below.refl _ _).alloc (Nat.le_refl _) _) _))
  simp only [Value.ownBlock, Option.some.injEq] at e
  omega

/-- What is new is the caller's. -/
theorem Ts.newer {w : World} {l : List Tm} {a : Option Addr} {cap m n : Nat} (h : Ts w (fun i => m ≤ i) l a cap) (hn : n ≤ m) : Ts w (fun i => n ≤ i) l a cap := h.mono fun _ _ hi => Nat.le_trans hn hi

theorem three_cell (w : World) (x0 x1 x2 : Value) (e : TypeId) : ∀ j u, [x0, x1, x2][j]? = some u → (w.alloc (.cells #[x0, x1, x2] e)).cell? ((⟨w.heap.size, 0, none⟩ : Addr).add j) = some u := by
  intro j u hu
  have hj := (List.getElem?_eq_some_iff.1 hu).1
  simp only [List.length_cons, List.length_nil] at hj
  rcases (by omega : j = 0 ∨ j = 1 ∨ j = 2) with rfl | rfl | rfl
  all_goals
    simp at hu
    subst hu
    simp [Addr.add, World.cell?, World.alloc, -World.alloc_eq]

set_option maxRecDepth 100000 in
set_option maxHeartbeats 800000 in
theorem ListStepP {s : Bs} {b L : Nat} (hs : s.length ≤ 6000) (ih : TermAtP s b L) : ListAtP s b L := by
  intro k w hk hL hp
  have HX := Lib.hid hp
  have HBW : Hid (b < w.heap.size) := Lib.hid hp.lt
  have HE := Lib.hid (pList_more (s.drop k))
  have HT := Lib.hid (ih k w hk hL hp)
  have IH := Lib.hid ih
  clear hp ih
  obtain ⟨i0, hi0, hz0, hz1, hz2⟩ := info_parts Tryd.infoTm
  generalize hx : pTerm (s.drop k) = x at HT HE
  cases x with
  | no r1 =>
    clear hx
    go_enter Tryd.func33, Tryd.ntmps33
    go_wp2_with (go_at_call 53; refine HT.out.mono ?_; rintro e w1 ⟨rfl, ht1⟩; have HT1 := Lib.hid ht1; clear ht1)
    refine show _ ∧ ListPost b s w _ (.panicked _) _ from ⟨rfl, ?_⟩
    rw [HE.out]
    exact ⟨rfl, HT1.out⟩
  | ok t r1 =>
    have HSF := Lib.hid (pTerm_suf hx)
    have HLE := Lib.hid (pTerm_len hx)
    clear hx
    go_enter Tryd.func33, Tryd.ntmps33
    go_wp2_with (go_at_call 53; refine HT.out.mono ?_; rintro e w1 ⟨hf, ⟨a, cap, rfl, hts⟩, hp1, ht1⟩; have HT1 := Lib.hid ht1; have HTS := Lib.hid hts; have HP1 := Lib.hid hp1; have HF := Lib.hid hf; clear hf hts hp1 ht1)
    have HOW := Lib.hid (OwnTs.first HF.out HTS.out HT1.out.size)
    have HPW := Lib.hid (HP1.out.below ((Below.refl w1.heap.size w1).alloc (Nat.le_refl _) (.cells #[.int .i64 t.var, .string t.name, .slice a t.args.length cap] 48)))
    have HTW := Lib.hid (HT1.out.trans (Touch.below (M := fun i => i = b) ((Below.refl w1.heap.size w1).alloc (Nat.le_refl _) (.cells #[.int .i64 t.var, .string t.name, .slice a t.args.length cap] 48))))
    have HK1 : Hid (k ≤ s.length - r1.length ∧ s.length - r1.length ≤ s.length ∧ s.drop (s.length - r1.length) = r1 ∧ 1 ≤ s.length - r1.length) := Lib.hid ⟨suf_le HSF.out hk, by omega, suf_at HSF.out, by have := HLE.out; rw [List.length_drop] at this; omega⟩
    go_loopw [3] (fun x3 wr => ∃ (l : List TmAt) (k1 : Nat), k ≤ k1 ∧ k1 ≤ s.length ∧ l.length ≤ k1 ∧ 1 ≤ l.length ∧ Hid (OwnTs wr w.heap.size (fun i => w.heap.size ≤ i) x3 l) ∧ Hid (PB wr b s k1) ∧ Hid (Touch (fun i => i = b) w wr) ∧ Hid (pList (s.drop k) = pMore (l.map (·.1)) (s.drop k1))) (fun _ wr => s.length - (match wr.cell? ⟨b, 1, none⟩ with | some x => (intOf x).toNat | none => 0))
    case atStart =>
      refine ⟨[(t, a, cap)], s.length - r1.length, HK1.out.1, HK1.out.2.1, HK1.out.2.2.2, Nat.le_refl _, HOW, HPW, HTW, Lib.hid ?_⟩
      rw [HE.out, HK1.out.2.2.1]; rfl
    case round =>
      obtain ⟨l, k1, hkk, hk1, hl1, hl2, HO, HP, HT, HE1⟩ := hrel
      obtain ⟨xa, xc, rfl, hrb⟩ := row_form HO.out.own
      have HC := Lib.hid (SeesW 44 (by decide) s k1 hk1 wr b HP.out)
      have y1 := HP.out.all.2.1
      by_cases h44 : hd (s.drop k1) = 44
      · rw [decide_eq_true h44] at HC
        have HN := Lib.hid (fun u hu => NeedW [44, 32] (by simp) s k1 hk1 hs u b hu)
        have HS : Hid (pList (s.drop k) = (pNeed [44, 32] (s.drop k1)).bind fun _ r2 => (pTerm r2).bind fun t r3 => pMore (l.map (·.1) ++ [t]) r3) := Lib.hid (by rw [HE1.out, pMore_step h44])
        clear h44
        generalize hy : pNeed [44, 32] (s.drop k1) = y at HN HS
        cases y with
        | no r2 =>
          clear hy
          go_wp2_with (first
            | (go_at_call 54; refine HC.out.mono ?_; rintro e w2 ⟨rfl, hb2⟩; have HP2 := Lib.hid (HP.out.below hb2); have HT2 := Lib.hid (HT.out.trans (Touch.below hb2)); have HO2 := Lib.hid (HO.out.below hb2); clear hb2)
            | (go_at_call 55; refine (HN.out _ HP2.out).mono ?_; rintro e w3 ⟨rfl, ht3⟩; have HT3 := Lib.hid ht3; clear ht3))
          refine show _ ∧ ListPost b s w _ (.panicked _) _ from ⟨rfl, ?_⟩
          rw [HS.out]
          exact ⟨rfl, HT2.out.trans HT3.out⟩
        | ok u r2 =>
          have hsf := pNeed_suf hy
          have hln := congrArg List.length (pNeed_len _ _ _ hy)
          rw [List.length_append, List.length_drop] at hln
          have hk2 : s.length - r2.length = k1 + 2 := by
            have := hsf.length_le
            rw [List.length_drop] at this
            simp only [List.length_cons, List.length_nil] at hln
            omega
          have hk2' : k1 + 2 ≤ s.length := by
            simp only [List.length_cons, List.length_nil] at hln
            omega
          have hdr : s.drop (k1 + 2) = r2 := by rw [← hk2]; exact suf_at hsf
          have HT4 := Lib.hid (fun u hu => IH.out (k1 + 2) u hk2' (by omega) hu)
          rw [hdr] at HT4
          have HK2 := Lib.hid hk2
          have HDR := Lib.hid (suf_at hsf)
          clear hy hsf hln hdr
          generalize hz : pTerm r2 = z at HT4
          cases z with
          | no r3 =>
            have HE3 : Hid (pList (s.drop k) = .no r3) := Lib.hid (by rw [HS.out]; show (pTerm r2).bind _ = _; rw [hz]; rfl)
            clear hz
            go_wp2_with (first
              | (go_at_call 54; refine HC.out.mono ?_; rintro e w2 ⟨rfl, hb2⟩; have HP2 := Lib.hid (HP.out.below hb2); have HT2 := Lib.hid (HT.out.trans (Touch.below hb2)); have HO2 := Lib.hid (HO.out.below hb2); clear hb2)
              | (go_at_call 55; refine (HN.out _ HP2.out).mono ?_; rintro e w3 ⟨rfl, hp3, ht3⟩; have HP3 := Lib.hid hp3; have HT3 := Lib.hid (HT2.out.trans ht3); have HO3 := Lib.hid (HO2.out.touch ht3 HBW.out); clear hp3 ht3)
              | (go_at_call 53; refine (HT4.out _ (HK2.out ▸ HP3.out)).mono ?_; rintro e w4 ⟨rfl, ht4⟩; have HT5 := Lib.hid ht4; clear ht4))
            refine show _ ∧ ListPost b s w _ (.panicked _) _ from ⟨rfl, ?_⟩
            rw [HE3.out]
            exact ⟨rfl, HT3.out.trans HT5.out⟩
          | ok t2 r3 =>
            have HE3 : Hid (pList (s.drop k) = pMore (l.map (·.1) ++ [t2]) r3) := Lib.hid (by rw [HS.out]; show (pTerm r2).bind _ = _; rw [hz]; rfl)
            have hsf3 := pTerm_suf hz
            have hle3 := pTerm_len hz
            clear hz
            go_wp2_with (first
              | (go_at_call 54; refine HC.out.mono ?_; rintro e w2 ⟨rfl, hb2⟩; have HP2 := Lib.hid (HP.out.below hb2); have HT2 := Lib.hid (HT.out.trans (Touch.below hb2)); have HO2 := Lib.hid (HO.out.below hb2); clear hb2)
              | (go_at_call 55; refine (HN.out _ HP2.out).mono ?_; rintro e w3 ⟨rfl, hp3, ht3⟩; have HP3 := Lib.hid hp3; have HT3 := Lib.hid (HT2.out.trans ht3); have HO3 := Lib.hid (HO2.out.touch ht3 HBW.out); clear hp3 ht3)
              | (go_at_call 53; refine (HT4.out _ (HK2.out ▸ HP3.out)).mono ?_; rintro e w4 ⟨hf, ⟨a2, cap2, rfl, hts⟩, hp4, ht4⟩; have HT5 := Lib.hid (HT3.out.trans ht4); have HTS5 := Lib.hid hts; have HP5 := Lib.hid hp4; have HF5 := Lib.hid hf; have HO5 := Lib.hid ((HO3.out.touch ht4 HBW.out).below ((Below.refl _ _).alloc (Nat.le_refl _) (.cells #[.int .i64 t2.var, .string t2.name, .slice a2 t2.args.length cap2] 48))); have HTS6 := Lib.hid (TsEach.one hf ((hts.mono (ok' := Free (.slice xa l.length xc) (fun i => w.heap.size ≤ i)) fun i hi ho => ⟨Nat.le_trans HT3.out.size ho, fun e => by have := (HO3.out.block e).2; omega⟩).keep (Keeps.below ((Below.refl _ _).alloc (Nat.le_refl _) (.cells #[.int .i64 t2.var, .string t2.name, .slice a2 t2.args.length cap2] 48)) _))); clear hf hts hp4 ht4)
              | (at_builtin; (refine wpList_append_fresh _ rfl _ _ 24 rfl w.heap.size 48 i0 _ 3 48 Tryd.underlying24 hi0 hz0 hz1 hz2 rfl (by decide) _ _ _ rfl HO5.out.own ⟨w4.heap.size, 0, none⟩ 1 1 (flat [(t2, a2, cap2)]) rfl rfl ?c1 (flat_one _) ?c3 ?c4 ?c5 ?_)))
            case c1 => exact three_cell _ _ _ _ _
            case c3 => unfold maxLen; omega
            case c4 => omega
            case c5 => have := HT5.out.size; simp; omega
            intro v6 w6 hown hgrow hfr
            have HO6 := Lib.hid (HO5.out.append HTS6.out hown hgrow hfr)
            have HP6 : Hid (PB w6 b s (s.length - r3.length)) := Lib.hid ((HP5.out.below ((Below.refl _ _).alloc (Nat.le_refl _) (.cells #[.int .i64 t2.var, .string t2.name, .slice a2 t2.args.length cap2] 48))).keep (hgrow.block b (by have := HP5.out.lt; simp; omega) (fun e => by have := (HO5.out.block e.symm).1; have := HBW.out; omega)))
            have HT6 : Hid (Touch (fun i => i = b) w w6) := Lib.hid ((((HT5.out.mono (M' := NewOr b w.heap.size) fun _ _ e => .inl e).trans (Touch.below ((Below.refl _ _).alloc (Nat.le_refl _) (.cells #[.int .i64 t2.var, .string t2.name, .slice a2 t2.args.length cap2] 48)))).trans (Touch.grown hgrow fun g e => .inr (HO5.out.block e).1)).old)
            clear hown hgrow hfr
            go_wp2_with fail
            have hlen3 : r3.length + 1 ≤ r2.length := hle3
            go_roundw
            case rel =>
              refine ⟨l ++ [(t2, a2, cap2)], s.length - r3.length, by omega, by omega, by rw [List.length_append, List.length_singleton]; omega, by rw [List.length_append, List.length_singleton]; omega, HO6, HP6, HT6, Lib.hid ?_⟩
              have hd3 : s.drop (s.length - r3.length) = r3 := suf_at (k := s.length - r2.length) (by rw [HK2.out]; rw [← HK2.out, HDR.out]; exact hsf3)
              rw [HE3.out, hd3, List.map_append]; rfl
            case measure =>
              rw [HP6.out.all.2.1, y1]
              simp only [intOf]
              omega
      · have HE2 : Hid (pList (s.drop k) = .ok (l.map (·.1)) (s.drop k1)) := Lib.hid (by rw [HE1.out, pMore_none h44])
        rw [decide_eq_false h44] at HC
        clear h44
        go_wp2_with (go_at_call 54; refine HC.out.mono ?_; rintro e w2 ⟨rfl, hb2⟩; have HB2 := Lib.hid hb2; clear hb2)
        go_ret
        rw [HE2.out]
        obtain ⟨da, dc, hd1, hd2⟩ := (HO.out.below HB2.out).done (fun _ h => h)
        simp only [Value.slice.injEq] at hd1
        obtain ⟨rfl, hd3, rfl⟩ := hd1
        refine ⟨⟨xa, xc, ?_, hd2⟩, ?_, HT.out.trans (Touch.below HB2.out)⟩
        · rw [List.length_map]; rfl
        · rw [drop_at hk1]; exact HP.out.below HB2.out

end Go.Proofs.YtikmgiapjigghabDoor

/- Rows of clauses that a call made itself; all of the parser's terms. -/
namespace Go.Proofs.YtikmgiapjigghabDoor
open Go.RowKit

theorem parseAll {s : Bs} {b : Nat} (hs : s.length ≤ 6000) : ∀ L, ListAtP s b L ∧ TermAtP s b L ∧ ArgsAtP s b L := by
  intro L
  induction L using Nat.strongRecOn with
  | ind L ih =>
    have h1 := ArgsStep hs fun L' h => (ih L' h).1
    have h2 := TermStepP hs fun L' h => (ih L' h).2.2
    exact ⟨ListStepP hs h2, h2, h1⟩
theorem listP {s : Bs} {b : Nat} (hs : s.length ≤ 6000) {k : Nat} (hk : k ≤ s.length) (w : World) (hp : PB w b s k) : Calls Tryd.prog 33 #[.pointer (some ⟨b, 0, none⟩)] w (ListPost b s w (pList (s.drop k))) := (parseAll hs _).1 k w hk (Nat.le_refl _) hp
theorem termP {s : Bs} {b : Nat} (hs : s.length ≤ 6000) {k : Nat} (hk : k ≤ s.length) (w : World) (hp : PB w b s k) : Calls Tryd.prog 53 #[.pointer (some ⟨b, 0, none⟩)] w (TermPost b s w (pTerm (s.drop k))) := (parseAll hs _).2.1 k w hk (Nat.le_refl _) hp

/-- A clause together with where its lists stand. -/
abbrev ClAt := Cl × (Option Addr × Nat) × (Option Addr × Nat)

/-- The four cells of each. -/
def flatC : List ClAt → List Value
  | [] => []
  | x :: r => .int .i64 x.1.head.var :: .string x.1.head.name :: .slice x.2.1.1 x.1.head.args.length x.2.1.2 :: .slice x.2.2.1 x.1.body.length x.2.2.2 :: flatC r

theorem flatC_append (l r : List ClAt) : flatC (l ++ r) = flatC l ++ flatC r := by
  induction l with
  | nil => rfl
  | cons x l ih => simp [flatC, ih]
theorem flatC_length (l : List ClAt) : (flatC l).length = l.length * 4 := by
  induction l with
  | nil => rfl
  | cons x l ih => simp [flatC, ih]; omega
theorem flatC_one (l : List ClAt) : ∀ u ∈ flatC l, u.oneCell' = true := by
  induction l with
  | nil => intro u hu; cases hu
  | cons x l ih =>
    intro u hu
    simp only [flatC, List.mem_cons] at hu
    rcases hu with rfl | rfl | rfl | rfl | hu
    · rfl
    · rfl
    · rfl
    · rfl
    · exact ih u hu
theorem flatC_at (l : List ClAt) (i : Nat) (h : i < l.length) : (flatC l)[i * 4]? = some (.int .i64 l[i].1.head.var) ∧ (flatC l)[i * 4 + 1]? = some (.string l[i].1.head.name) ∧ (flatC l)[i * 4 + 2]? = some (.slice l[i].2.1.1 l[i].1.head.args.length l[i].2.1.2) ∧ (flatC l)[i * 4 + 3]? = some (.slice l[i].2.2.1 l[i].1.body.length l[i].2.2.2) := by
  induction l generalizing i with
  | nil => cases h
  | cons x l ih =>
    cases i with
    | zero => simp [flatC]
    | succ i =>
      have := ih i (by simpa using h)
      rw [show (i + 1) * 4 = i * 4 + 4 from by omega]
      simpa [flatC] using this

/-- Each clause of a row reads. -/
def CsEach (w : World) (ok : Nat → Prop) (L : List ClAt) : Prop := ∀ x, x ∈ L → x.1.head.fits ∧ Ts w ok x.1.head.args x.2.1.1 x.2.1.2 ∧ Ts w ok x.1.body x.2.2.1 x.2.2.2

theorem CsEach.keep {w w' : World} {ok : Nat → Prop} (hk : Keeps ok w w') {L : List ClAt} (h : CsEach w ok L) : CsEach w' ok L := fun x hx => ⟨(h x hx).1, (h x hx).2.1.keep hk, (h x hx).2.2.keep hk⟩
theorem CsEach.mono {w : World} {ok ok' : Nat → Prop} (h : ∀ b, b < w.heap.size → ok b → ok' b) {L : List ClAt} (hl : CsEach w ok L) : CsEach w ok' L := fun x hx => ⟨(hl x hx).1, (hl x hx).2.1.mono h, (hl x hx).2.2.mono h⟩
theorem CsEach.append {w : World} {ok : Nat → Prop} {L R : List ClAt} (h : CsEach w ok L) (k : CsEach w ok R) : CsEach w ok (L ++ R) := fun x hx => by
  rcases List.mem_append.1 hx with hx | hx
  · exact h x hx
  · exact k x hx

theorem Pr.of_row {w : World} {ok : Nat → Prop} {base : Nat} {v : Value} {L : List ClAt} (h : w.ownsRow base 50 4 v L.length (flatC L)) (hok : ∀ b, base ≤ b → ok b) (he : CsEach w ok L) :
    ∃ a cap, v = .slice a (L.map (·.1)).length cap ∧ Pr w ok (L.map (·.1)) a cap := by
  rcases h.2 with ⟨rfl, hn⟩ | ⟨g, cap, cur, rfl, hb, hg, hcap, hml, hsz, htk⟩
  · have : L = [] := List.eq_nil_of_length_eq_zero hn
    subst this
    exact ⟨none, 0, rfl, ⟨⟨Nat.le_refl _, Nat.zero_le _, fun _ => rfl⟩, fun i hi => by cases hi⟩⟩
  · refine ⟨some ⟨g, 0, none⟩, cap, by simp, ?_⟩
    have hcell : ∀ j u, (flatC L)[j]? = some u → w.cell? ⟨g, j, none⟩ = some u := by
      intro j u hu
      have hj : j < L.length * 4 := by rw [← flatC_length]; exact (List.getElem?_eq_some_iff.1 hu).1
      rw [h.cellAt j hj, hu]
    have hgs : g < w.heap.size := (Array.getElem?_eq_some_iff.1 hg).1
    refine ⟨⟨by simpa using hcap, hml, fun h => by cases h⟩, fun i hi => ?_⟩
    have hi' : i < L.length := by simpa using hi
    obtain ⟨h1, h2, h3, h4⟩ := flatC_at L i hi'
    obtain ⟨e1, e2, e3⟩ := he _ (List.getElem_mem hi')
    refine ⟨g, 0, L[i].2.1.1, L[i].2.2.1, L[i].2.1.2, L[i].2.2.2, rfl, hok g hb, hgs, ?_, ?_, ?_, ?_⟩
    all_goals simp only [List.getElem_map, Nat.zero_add]
    · exact ⟨hcell _ _ h1, hcell _ _ h2, hcell _ _ h3, e1⟩
    · exact hcell _ _ h4
    · exact e2
    · exact e3

/-- A slice of clauses that a call makes, piece by piece. -/
structure OwnCs (w : World) (base : Nat) (ok : Nat → Prop) (x : Value) (L : List ClAt) : Prop where
  own : w.ownsRow base 50 4 x L.length (flatC L)
  each : CsEach w (Free x ok) L

theorem OwnCs.nil (w : World) (base : Nat) (ok : Nat → Prop) : OwnCs w base ok (.slice none 0 0) [] := ⟨World.ownsRow_nil _ _ _ _, fun x hx => by cases hx⟩
theorem OwnCs.block {w : World} {base : Nat} {ok : Nat → Prop} {x : Value} {L : List ClAt} (h : OwnCs w base ok x L) {g : Nat} (hg : x.ownBlock = some g) : base ≤ g ∧ g < w.heap.size := h.own.lt g hg
theorem OwnCs.below {w w' : World} {base : Nat} {ok : Nat → Prop} {x : Value} {L : List ClAt} (h : OwnCs w base ok x L) (hb : Below w.heap.size w w') : OwnCs w' base ok x L :=
  ⟨ownsRow_below h.own hb, h.each.keep (Keeps.below hb _)⟩
theorem OwnCs.touch {M : Nat → Prop} {w w' : World} {base : Nat} {ok : Nat → Prop} {x : Value} {L : List ClAt} (h : OwnCs w base ok x L) (ht : Touch M w w') (hb : ∀ i, base ≤ i → ¬ M i) (hc : ∀ i, ok i → ¬ M i) : OwnCs w' base ok x L :=
  ⟨ownsRow_block h.own fun g hg => ht.block g (h.block hg).2 (hb g (h.block hg).1), h.each.keep (ht.keeps fun i hi hm => hc i hi.1 hm)⟩
theorem OwnCs.append {w w' : World} {base : Nat} {ok : Nat → Prop} {x x' : Value} {L L2 : List ClAt} (h : OwnCs w base ok x L) (h2 : CsEach w (Free x ok) L2)
    (ho : w'.ownsRow base 50 4 x' (L.length + L2.length) (flatC L ++ flatC L2)) (hg : w.grownBy w' x.ownBlock) (hf : Fresh w x x') : OwnCs w' base ok x' (L ++ L2) := by
  refine ⟨by rw [flatC_append, List.length_append]; exact ho, ?_⟩
  have h3 : CsEach w (fun b => Free x ok b ∧ b < w.heap.size) (L ++ L2) := (h.each.append h2).mono fun b hb h => ⟨h, hb⟩
  have h4 : Keeps (fun b => Free x ok b ∧ b < w.heap.size) w w' := ⟨hg.size, fun b hb hs => hg.block b hs (fun e => hb.1.2 e.symm)⟩
  refine (h3.keep h4).mono fun b _ hb => ⟨hb.1.1, ?_⟩
  rcases hf with hf | hf
  · rw [hf]; exact hb.1.2
  · intro e; have := hf b e; omega
theorem OwnCs.done {w : World} {base : Nat} {ok : Nat → Prop} {x : Value} {L : List ClAt} (h : OwnCs w base ok x L) (hok : ∀ b, base ≤ b → ok b) : ∃ a cap, x = .slice a (L.map (·.1)).length cap ∧ Pr w ok (L.map (·.1)) a cap :=
  Pr.of_row h.own hok (h.each.mono fun _ _ hb => hb.1)

/-- What is left to do of a program, so many clauses being there. -/
def pGo (acc : List Cl) (r : Bs) : PR (List Cl) := (pProg r).bind fun p r2 => .ok (acc ++ p) r2

theorem pGo_nil (acc : List Cl) : pGo acc [] = .ok acc [] := by
  show PR.ok (acc ++ []) [] = _; rw [List.append_nil]
theorem pGo_step {acc : List Cl} {r : Bs} (h : r ≠ []) : pGo acc r = (pClause r).bind fun c r1 => pGo (acc ++ [c]) r1 := by
  unfold pGo
  rw [pProg_cons h]
  cases pClause r with
  | no r1 => rfl
  | ok c r1 =>
    show ((pProg r1).bind fun p r2 => PR.ok (c :: p) r2).bind (fun p r2 => PR.ok (acc ++ p) r2) = (pProg r1).bind fun p r2 => PR.ok (acc ++ [c] ++ p) r2
    cases pProg r1 with
    | no r2 => rfl
    | ok p r2 =>
      show PR.ok (acc ++ (c :: p)) r2 = PR.ok (acc ++ [c] ++ p) r2
      rw [List.append_assoc]; rfl
theorem pGo_start (r : Bs) : pProg r = pGo [] r := by
  unfold pGo
  cases pProg r with
  | no r2 => rfl
  | ok p r2 => rfl

theorem four_cell (w : World) (x0 x1 x2 x3 : Value) (e : TypeId) : ∀ j u, [x0, x1, x2, x3][j]? = some u → (w.alloc (.cells #[x0, x1, x2, x3] e)).cell? ((⟨w.heap.size, 0, none⟩ : Addr).add j) = some u := by
  intro j u hu
  have hj := (List.getElem?_eq_some_iff.1 hu).1
  simp only [List.length_cons, List.length_nil] at hj
  rcases (by omega : j = 0 ∨ j = 1 ∨ j = 2 ∨ j = 3) with rfl | rfl | rfl | rfl
  all_goals
    simp at hu
    subst hu
    simp [Addr.add, World.cell?, World.alloc, -World.alloc_eq]

end Go.Proofs.YtikmgiapjigghabDoor

/- Walks: the parser's program. (Written by mk_tqi.py.) -/
namespace Go.Proofs.YtikmgiapjigghabDoor
open Go.RowKit

section
variable {r r1 r2 r3 r4 : Bs} {t : Tm} {l : List Tm} {u v : Unit}
theorem pC_no (h : pTerm r = .no r1) : pClause r = .no r1 := by unfold pClause; rw [h]; rfl
theorem pC_b1 (h : pTerm r = .ok t r1) (h32 : hd r1 = 32) (hn : pNeed [32, 58, 45, 32] r1 = .no r2) : pClause r = .no r2 := by
  unfold pClause; rw [h]; show (pBody r1).bind _ = _; unfold pBody; rw [if_pos h32, hn]; rfl
theorem pC_b2 (h : pTerm r = .ok t r1) (h32 : hd r1 = 32) (hn : pNeed [32, 58, 45, 32] r1 = .ok u r2) (hl : pList r2 = .no r3) : pClause r = .no r3 := by
  unfold pClause; rw [h]; show (pBody r1).bind _ = _; unfold pBody; rw [if_pos h32, hn]; show (pList r2).bind _ = _; rw [hl]; rfl
theorem pC_b3 (h : pTerm r = .ok t r1) (h32 : hd r1 = 32) (hn : pNeed [32, 58, 45, 32] r1 = .ok u r2) (hl : pList r2 = .ok l r3) (hm : pNeed [46, 10] r3 = .no r4) : pClause r = .no r4 := by
  unfold pClause; rw [h]; show (pBody r1).bind _ = _; unfold pBody; rw [if_pos h32, hn]; show (pList r2).bind _ = _; rw [hl]; show (pNeed [46, 10] r3).bind _ = _; rw [hm]; rfl
theorem pC_b4 (h : pTerm r = .ok t r1) (h32 : hd r1 = 32) (hn : pNeed [32, 58, 45, 32] r1 = .ok u r2) (hl : pList r2 = .ok l r3) (hm : pNeed [46, 10] r3 = .ok v r4) : pClause r = .ok ⟨t, l⟩ r4 := by
  unfold pClause; rw [h]; show (pBody r1).bind _ = _; unfold pBody; rw [if_pos h32, hn]; show (pList r2).bind _ = _; rw [hl]; show (pNeed [46, 10] r3).bind _ = _; rw [hm]; rfl
theorem pC_n3 (h : pTerm r = .ok t r1) (h32 : hd r1 ≠ 32) (hm : pNeed [46, 10] r1 = .no r4) : pClause r = .no r4 := by
  unfold pClause; rw [h]; show (pBody r1).bind _ = _; unfold pBody; rw [if_neg h32]; show (pNeed [46, 10] r1).bind _ = _; rw [hm]; rfl
theorem pC_n4 (h : pTerm r = .ok t r1) (h32 : hd r1 ≠ 32) (hm : pNeed [46, 10] r1 = .ok v r4) : pClause r = .ok ⟨t, []⟩ r4 := by
  unfold pClause; rw [h]; show (pBody r1).bind _ = _; unfold pBody; rw [if_neg h32]; show (pNeed [46, 10] r1).bind _ = _; rw [hm]; rfl
end

/-- Four cells of a block of one's own: a clause's variable. -/
structure Box4 (w : World) (b : Nat) (x0 x1 x2 x3 : Value) : Prop where
  blk : w.heap[b]? = some (.cells #[x0, x1, x2, x3] 50 (0, 0))
theorem Box4.all {w : World} {b : Nat} {x0 x1 x2 x3 : Value} (h : Box4 w b x0 x1 x2 x3) : w.cell? ⟨b, 0, none⟩ = some x0 ∧ w.cell? ⟨b, 1, none⟩ = some x1 ∧ w.cell? ⟨b, 2, none⟩ = some x2 ∧ w.cell? ⟨b, 3, none⟩ = some x3 ∧ ∀ o, w.frozen? ⟨b, o, none⟩ = false := by
  have h' := h.blk
  exact ⟨by simp [World.cell?, h'], by simp [World.cell?, h'], by simp [World.cell?, h'], by simp [World.cell?, h'], fun o => by simp [World.frozen?, h']⟩
theorem Box4.lt {w : World} {b : Nat} {x0 x1 x2 x3 : Value} (h : Box4 w b x0 x1 x2 x3) : b < w.heap.size := (Array.getElem?_eq_some_iff.1 h.blk).1
theorem Box4.keep {w w' : World} {b : Nat} {x0 x1 x2 x3 : Value} (h : Box4 w b x0 x1 x2 x3) (hb : w'.heap[b]? = w.heap[b]?) : Box4 w' b x0 x1 x2 x3 := ⟨hb.trans h.blk⟩
theorem Box4.below {w w' : World} {b : Nat} {x0 x1 x2 x3 : Value} (h : Box4 w b x0 x1 x2 x3) (hb : Below w.heap.size w w') : Box4 w' b x0 x1 x2 x3 := h.keep (hb.block b h.lt)
theorem Box4.touch {c : Nat} {w w' : World} {b : Nat} {x0 x1 x2 x3 : Value} (h : Box4 w b x0 x1 x2 x3) (hb : Touch (fun i => i = c) w w') (hne : b ≠ c) : Box4 w' b x0 x1 x2 x3 := h.keep (hb.block b h.lt hne)
theorem Box4.made (w : World) (x0 x1 x2 x3 : Value) : Box4 (w.alloc (.cells #[x0, x1, x2, x3] 50)) w.heap.size x0 x1 x2 x3 := ⟨heap_alloc_new w _⟩
theorem Box4.set3 {w : World} {b : Nat} {x0 x1 x2 x3 : Value} (h : Box4 w b x0 x1 x2 x3) (v : Value) : Box4 (w.setCell ⟨b, 3, none⟩ v) b x0 x1 x2 v := ⟨by rw [heap_setCell_at _ _ _ _ h.blk]; rfl⟩

/-- The clauses that are there, while a clause is parsed into its variable. -/
structure PSt (W : World) (b : Nat) (s : Bs) (x : Value) (l : List ClAt) (c : ClAt) (bx : Nat) (k : Nat) (w : World) : Prop where
  own : OwnCs w W.heap.size (fun i => W.heap.size ≤ i ∧ i ≠ bx) x l
  cs : CsEach w (Free x (fun i => W.heap.size ≤ i ∧ i ≠ bx)) [c]
  ne : x.ownBlock ≠ some bx
  pb : PB w b s k
  touch : Touch (fun i => i = b) W w
  hb : b < W.heap.size
  new : W.heap.size ≤ bx ∧ bx < w.heap.size

section
variable {W w w' : World} {b : Nat} {s : Bs} {x : Value} {l : List ClAt} {c : ClAt} {bx k k' : Nat}
theorem PSt.move (h : PSt W b s x l c bx k w) (ht : Touch (fun i => i = b) w w') (hp : PB w' b s k') : PSt W b s x l c bx k' w' :=
  ⟨h.own.touch ht (fun i hi e => by have := h.hb; omega) (fun i hi e => by have := h.hb; have := hi.1; omega), h.cs.keep (ht.keeps fun i hi e => by have := h.hb; have := hi.1.1; omega), h.ne, hp, h.touch.trans ht, h.hb, h.new.1, Nat.lt_of_lt_of_le h.new.2 ht.size⟩
theorem PSt.below (h : PSt W b s x l c bx k w) (hb : Below w.heap.size w w') : PSt W b s x l c bx k w' := h.move (Touch.below hb) (h.pb.below hb)
theorem PSt.box (h : PSt W b s x l c bx k w) (v : Value) : PSt W b s x l c bx k (w.setCell ⟨bx, 3, none⟩ v) := by
  have ht : Touch (fun i => i = bx) w (w.setCell ⟨bx, 3, none⟩ v) := Touch.setCell (p := ⟨bx, 3, none⟩) v rfl
  have hne : b ≠ bx := by have := h.hb; have := h.new.1; omega
  refine ⟨⟨ownsRow_block h.own.own fun g hg => ht.block g (h.own.block hg).2 (fun e => h.ne (e ▸ hg)), h.own.each.keep (ht.keeps fun i hi e => hi.1.2 e)⟩, h.cs.keep (ht.keeps fun i hi e => hi.1.2 e), h.ne, h.pb.keep (ht.block b h.pb.lt hne), ?_, h.hb, h.new.1, by simpa [World.setCell] using h.new.2⟩
  exact ((h.touch.mono (M' := NewOr b W.heap.size) fun _ _ e => .inl e).trans (ht.mono fun i _ e => .inr (by rw [e]; exact h.new.1))).old
theorem PSt.made {t : Tm} {a : Option Addr} {cap m : Nat} (ho : OwnCs w W.heap.size (fun i => W.heap.size ≤ i) x l) (hm : W.heap.size ≤ m) (hx : ∀ g, x.ownBlock = some g → g < m) (hf : t.fits) (hts : Ts w (fun i => m ≤ i) t.args a cap) (hp : PB w b s k) (ht : Touch (fun i => i = b) W w) (hb : b < W.heap.size) (o : Obj) :
    PSt W b s x l (⟨t, []⟩, (a, cap), (none, 0)) w.heap.size k (w.alloc o) := by
  have hB : Below w.heap.size w (w.alloc o) := (Below.refl _ _).alloc (Nat.le_refl _) _
  refine ⟨⟨ownsRow_below ho.own hB, (ho.each.mono (ok' := Free x (fun i => W.heap.size ≤ i ∧ i ≠ w.heap.size)) fun i hi h => ⟨⟨h.1, by omega⟩, h.2⟩).keep (Keeps.below hB _)⟩, ?_, fun e => by have := (ho.block e).2; omega, hp.below hB, ht.trans (Touch.below hB), hb, ht.size, by simp⟩
  intro y hy
  rw [List.mem_singleton] at hy
  subst hy
  exact ⟨hf, (hts.mono (ok' := Free x (fun i => W.heap.size ≤ i ∧ i ≠ w.heap.size)) fun i hi h => ⟨⟨Nat.le_trans hm h, by omega⟩, fun e => by have := hx i e; omega⟩).keep (Keeps.below hB _), Ts.empty _ _⟩
theorem PSt.body {t : Tm} {q : List Tm} {a a2 : Option Addr} {cap cap2 m : Nat} (h : PSt W b s x l (⟨t, []⟩, (a, cap), (none, 0)) bx k w) (hts : Ts w (fun i => m ≤ i) q a2 cap2) (h1 : bx < m) (hx : ∀ g, x.ownBlock = some g → g < m) : PSt W b s x l (⟨t, q⟩, (a, cap), (a2, cap2)) bx k w := by
  refine ⟨h.own, fun y hy => ?_, h.ne, h.pb, h.touch, h.hb, h.new⟩
  rw [List.mem_singleton] at hy
  subst hy
  obtain ⟨e1, e2, _⟩ := h.cs _ (List.mem_singleton.2 rfl)
  exact ⟨e1, e2, hts.mono fun i _ hi => ⟨⟨by have := h.new.1; omega, by omega⟩, fun e => by have := hx i e; omega⟩⟩
theorem PSt.append {x' : Value} (h : PSt W b s x l c bx k w) (o : Obj) (ho : w'.ownsRow W.heap.size 50 4 x' (l.length + [c].length) (flatC l ++ flatC [c])) (hg : (w.alloc o).grownBy w' x.ownBlock) (hf : Fresh (w.alloc o) x x') :
    OwnCs w' W.heap.size (fun i => W.heap.size ≤ i) x' (l ++ [c]) ∧ PB w' b s k ∧ Touch (fun i => i = b) W w' := by
  have hB : Below w.heap.size w (w.alloc o) := (Below.refl _ _).alloc (Nat.le_refl _) _
  have h2 := h.below hB
  have h3 := h2.own.append h2.cs ho hg hf
  refine ⟨⟨h3.own, h3.each.mono fun i _ hi => ⟨hi.1.1, hi.2⟩⟩, h2.pb.keep (hg.block b h2.pb.lt (fun e => by have := (h2.own.block e.symm).1; have := h.hb; omega)), ?_⟩
  exact ((h2.touch.mono (M' := NewOr b W.heap.size) fun _ _ e => .inl e).trans (Touch.grown hg fun g e => .inr (h2.own.block e).1)).old
end

theorem Tryd.infoClz : (Tryd.prog.info? 50).map (fun i => (i.size, i.bytes)) = some (4, 72) := by kernel_rfl
theorem Tryd.infoClz2 : ((Tryd.prog.info? 50).bind (fun i => i.zero)).map (fun z => z.cells.size) = some 4 := by kernel_rfl
theorem infoClz : ∃ i z, Tryd.prog.info? 50 = some i ∧ i.zero = some z ∧ i.size = 4 ∧ i.bytes = 72 ∧ z.cells.size = 4 := by
  have h1 := Tryd.infoClz; have h2 := Tryd.infoClz2
  obtain ⟨i, hi, h3⟩ := Option.map_eq_some_iff.1 h1
  obtain ⟨z, hz, h4⟩ := Option.map_eq_some_iff.1 h2
  rw [hi, Option.bind_some] at hz
  simp only [Prod.mk.injEq] at h3
  exact ⟨i, z, hi, hz, h3.1, h3.2, h4⟩

/-- What a program's parse ends with. -/
def ProgPost (b : Nat) (s : Bs) (w : World) (x : PR (List Cl)) (e : Ending) (w' : World) : Prop :=
  match x with
  | .ok p r' => (∃ a cap, e = .returned (.slice a p.length cap) ∧ Pr w' (fun i => w.heap.size ≤ i) p a cap) ∧ PB w' b s (s.length - r'.length) ∧ Touch (fun i => i = b) w w'
  | .no r' => e = .panicked (plc (s.length - r'.length)) ∧ Touch (fun i => i = b) w w'

set_option maxRecDepth 100000 in
set_option maxHeartbeats 1600000 in
theorem ProgW {s : Bs} {b : Nat} (hs : s.length ≤ 6000) {k : Nat} (hk : k ≤ s.length) (w : World) (hp : PB w b s k) :
    Calls Tryd.prog 31 #[.pointer (some ⟨b, 0, none⟩)] w (ProgPost b s w (pProg (s.drop k))) := by
  have HX := Lib.hid hp
  have HBW : Hid (b < w.heap.size) := Lib.hid hp.lt
  have hsz : (strB s).size = s.length := strB_size s
  clear hp
  obtain ⟨i0, zc, hi0, hz0, hz1, hz2, hz3⟩ := infoClz
  go_enter Tryd.func31, Tryd.ntmps31
  go_wp2_with fail
  go_loopw [3] (fun x3 wr => ∃ (l : List ClAt) (k1 : Nat), k1 ≤ s.length ∧ l.length ≤ k1 ∧ Hid (OwnCs wr w.heap.size (fun i => w.heap.size ≤ i) x3 l) ∧ Hid (PB wr b s k1) ∧ Hid (Touch (fun i => i = b) w wr) ∧ Hid (pProg (s.drop k) = pGo (l.map (·.1)) (s.drop k1))) (fun _ wr => s.length - (match wr.cell? ⟨b, 1, none⟩ with | some x => (intOf x).toNat | none => 0))
  case atStart => exact ⟨[], k, hk, Nat.zero_le _, Lib.hid (OwnCs.nil _ _ _), HX, Lib.hid (Touch.refl _ _), Lib.hid (pGo_start _)⟩
  case round =>
    obtain ⟨l, k1, hk1, hl1, HO, HP, HT, HE1⟩ := hrel
    obtain ⟨xa, xc, rfl, hrb⟩ := row_form HO.out.own
    obtain ⟨q0, q1, qf⟩ := HP.out.all
    by_cases hlt : k1 < s.length
    · have hne : s.drop k1 ≠ [] := fun e => by have := congrArg List.length e; rw [List.length_drop] at this; simp at this; omega
      have HS : Hid (pProg (s.drop k) = (pClause (s.drop k1)).bind fun c r1 => pGo (l.map (·.1) ++ [c]) r1) := Lib.hid (by rw [HE1.out, pGo_step hne])
      have hj1 : (k1 : Int) < (s.length : Int) := by omega
      have HTM := Lib.hid (fun u hu => termP hs hk1 u (b := b) hu)
      clear hne
      go_wp2_with fail
      go_quiet (fail)
      have HP0 := Lib.hid (HP.out.drewN nq)
      have HO0 := Lib.hid (HO.out.below (below_drewN (Below.refl _ _) nq))
      have HT0 := Lib.hid (touch_drewN HT.out nq)
      generalize hx : pTerm (s.drop k1) = x at HTM
      cases x with
      | no r1 =>
        have HE3 : Hid (pProg (s.drop k) = .no r1) := Lib.hid (by rw [HS.out, pC_no hx]; rfl)
        clear hx
        go_wp2_with (go_at_call 53; refine (HTM.out _ HP0.out).mono ?_; rintro e w2 ⟨rfl, ht2⟩; have HT2 := Lib.hid (HT0.out.trans ht2); clear ht2)
        refine show _ ∧ ProgPost b s w _ (.panicked _) _ from ⟨rfl, ?_⟩
        rw [HE3.out]
        exact ⟨rfl, HT2.out⟩
      | ok t r1 =>
        have HX1 := Lib.hid hx
        have hsf1 := pTerm_suf hx
        have hln1 := pTerm_len hx
        have hd1 := suf_at hsf1
        have hk2 : s.length - r1.length ≤ s.length := by omega
        have HC := Lib.hid (fun u hu => SeesW 32 (by decide) s (s.length - r1.length) hk2 u b hu)
        rw [hd1] at HC
        clear hx
        by_cases h32 : hd r1 = 32
        · rw [decide_eq_true h32] at HC
          have HN1 := Lib.hid (fun u hu => NeedW [32, 58, 45, 32] (by simp) s (s.length - r1.length) hk2 hs u b hu)
          rw [hd1] at HN1
          generalize hm1 : pNeed [32, 58, 45, 32] r1 = m1 at HN1
          cases m1 with
          | no r2 =>
            have HE3 : Hid (pProg (s.drop k) = .no r2) := Lib.hid (by rw [HS.out, pC_b1 HX1.out h32 hm1]; rfl)
            clear hm1 h32
            go_wp2_with (first
              | (go_at_call 53; refine (HTM.out _ HP0.out).mono ?_; rintro e w2 ⟨hf, ⟨a, cap, rfl, hts⟩, hp2, ht2⟩; have HF := Lib.hid hf; have HTS := Lib.hid hts; have HQ2 := Lib.hid (PSt.made (HO0.out.touch ht2 (fun i hi e => by have := HBW.out; omega) (fun i hi e => by have := HBW.out; omega)) HT0.out.size (fun g hg => (HO0.out.block hg).2) hf hts hp2 (HT0.out.trans ht2) HBW.out (.cells #[.int .i64 t.var, .string t.name, .slice a t.args.length cap, .slice none 0 0] 50)); have HX2 := Lib.hid (Box4.made w2 (.int .i64 t.var) (.string t.name) (.slice a t.args.length cap) (.slice none 0 0)); have HNO := Lib.hid (fun g (hg : (Value.slice xa l.length xc).ownBlock = some g) => Nat.lt_of_lt_of_le (HO0.out.block hg).2 (Nat.le_refl _)); have HS2 := Lib.hid ht2.size; clear hf hts hp2 ht2)
              | (go_at_call 54; refine (HC.out _ HQ2.out.pb).mono ?_; rintro e w3 ⟨rfl, hb3⟩; have HQ3 := Lib.hid (HQ2.out.below hb3); have HX3 := Lib.hid (HX2.out.below hb3); obtain ⟨y0, y1, y2, y3, yf⟩ := HX3.out.all; clear hb3)
              | (go_at_call 55; refine (HN1.out _ HQ3.out.pb).mono ?_; rintro e w4 ⟨rfl, ht4⟩; have HT4 := Lib.hid (HQ3.out.touch.trans ht4); clear ht4))
            refine show _ ∧ ProgPost b s w _ (.panicked _) _ from ⟨rfl, ?_⟩
            rw [HE3.out]
            exact ⟨rfl, HT4.out⟩
          | ok u r2 =>
            have hsf2 := (pNeed_suf hm1).trans hsf1
            have hd2 := suf_at hsf2
            have hk3 : s.length - r2.length ≤ s.length := by omega
            have HL := Lib.hid (fun u hu => listP hs hk3 u (b := b) hu)
            rw [hd2] at HL
            have hln2 := congrArg List.length (pNeed_len _ _ _ hm1)
            rw [List.length_append] at hln2
            simp only [List.length_cons, List.length_nil] at hln2
            generalize hl : pList r2 = y at HL
            cases y with
            | no r3 =>
              have HE3 : Hid (pProg (s.drop k) = .no r3) := Lib.hid (by rw [HS.out, pC_b2 HX1.out h32 hm1 hl]; rfl)
              clear hm1 h32 hl
              go_wp2_with (first
                | (go_at_call 53; refine (HTM.out _ HP0.out).mono ?_; rintro e w2 ⟨hf, ⟨a, cap, rfl, hts⟩, hp2, ht2⟩; have HF := Lib.hid hf; have HTS := Lib.hid hts; have HQ2 := Lib.hid (PSt.made (HO0.out.touch ht2 (fun i hi e => by have := HBW.out; omega) (fun i hi e => by have := HBW.out; omega)) HT0.out.size (fun g hg => (HO0.out.block hg).2) hf hts hp2 (HT0.out.trans ht2) HBW.out (.cells #[.int .i64 t.var, .string t.name, .slice a t.args.length cap, .slice none 0 0] 50)); have HX2 := Lib.hid (Box4.made w2 (.int .i64 t.var) (.string t.name) (.slice a t.args.length cap) (.slice none 0 0)); have HNO := Lib.hid (fun g (hg : (Value.slice xa l.length xc).ownBlock = some g) => Nat.lt_of_lt_of_le (HO0.out.block hg).2 (Nat.le_refl _)); have HS2 := Lib.hid ht2.size; clear hf hts hp2 ht2)
                | (go_at_call 54; refine (HC.out _ HQ2.out.pb).mono ?_; rintro e w3 ⟨rfl, hb3⟩; have HQ3 := Lib.hid (HQ2.out.below hb3); have HX3 := Lib.hid (HX2.out.below hb3); obtain ⟨y0, y1, y2, y3, yf⟩ := HX3.out.all; clear hb3)
                | (go_at_call_of 55 (ByteArray.mk #[32, 58, 45, 32]); refine (HN1.out _ HQ3.out.pb).mono ?_; rintro e w4 ⟨rfl, hp4, ht4⟩; have HQ4 := Lib.hid (HQ3.out.move ht4 hp4); have HX4 := Lib.hid (HX3.out.touch ht4 (by have := HBW.out; have := HQ3.out.new.1; omega)); clear hp4 ht4)
                | (go_at_call 33; refine (HL.out _ HQ4.out.pb).mono ?_; rintro e w5 ⟨rfl, ht5⟩; have HT5 := Lib.hid (HQ4.out.touch.trans ht5); clear ht5))
              refine show _ ∧ ProgPost b s w _ (.panicked _) _ from ⟨rfl, ?_⟩
              rw [HE3.out]
              exact ⟨rfl, HT5.out⟩
            | ok q r3 =>
              have hsf3 := (pList_suf hl).trans hsf2
              have hd3 := suf_at hsf3
              have hln3 := pList_len hl
              have hk4 : s.length - r3.length ≤ s.length := by omega
              have HN2 := Lib.hid (fun u hu => NeedW [46, 10] (by simp) s (s.length - r3.length) hk4 hs u b hu)
              rw [hd3] at HN2
              generalize hm : pNeed [46, 10] r3 = m at HN2
              cases m with
              | no r4 =>
                have HE3 : Hid (pProg (s.drop k) = .no r4) := Lib.hid (by rw [HS.out, pC_b3 HX1.out h32 hm1 hl hm]; rfl)
                clear hm1 h32 hl hm
                go_wp2_with (first
                  | (go_at_call 53; refine (HTM.out _ HP0.out).mono ?_; rintro e w2 ⟨hf, ⟨a, cap, rfl, hts⟩, hp2, ht2⟩; have HF := Lib.hid hf; have HTS := Lib.hid hts; have HQ2 := Lib.hid (PSt.made (HO0.out.touch ht2 (fun i hi e => by have := HBW.out; omega) (fun i hi e => by have := HBW.out; omega)) HT0.out.size (fun g hg => (HO0.out.block hg).2) hf hts hp2 (HT0.out.trans ht2) HBW.out (.cells #[.int .i64 t.var, .string t.name, .slice a t.args.length cap, .slice none 0 0] 50)); have HX2 := Lib.hid (Box4.made w2 (.int .i64 t.var) (.string t.name) (.slice a t.args.length cap) (.slice none 0 0)); have HNO := Lib.hid (fun g (hg : (Value.slice xa l.length xc).ownBlock = some g) => Nat.lt_of_lt_of_le (HO0.out.block hg).2 (Nat.le_refl _)); have HS2 := Lib.hid ht2.size; clear hf hts hp2 ht2)
                  | (go_at_call 54; refine (HC.out _ HQ2.out.pb).mono ?_; rintro e w3 ⟨rfl, hb3⟩; have HQ3 := Lib.hid (HQ2.out.below hb3); have HX3 := Lib.hid (HX2.out.below hb3); obtain ⟨y0, y1, y2, y3, yf⟩ := HX3.out.all; clear hb3)
                  | (go_at_call_of 55 (ByteArray.mk #[32, 58, 45, 32]); refine (HN1.out _ HQ3.out.pb).mono ?_; rintro e w4 ⟨rfl, hp4, ht4⟩; have HQ4 := Lib.hid (HQ3.out.move ht4 hp4); have HX4 := Lib.hid (HX3.out.touch ht4 (by have := HBW.out; have := HQ3.out.new.1; omega)); clear hp4 ht4)
                  | (go_at_call 33; refine (HL.out _ HQ4.out.pb).mono ?_; rintro e w5 ⟨⟨a2, cap2, rfl, hts5⟩, hp5, ht5⟩; have HQ5 := Lib.hid (((HQ4.out.move ht5 hp5).body hts5 HQ4.out.new.2 (fun g hg => (HQ4.out.own.block hg).2)).box (.slice a2 q.length cap2)); have HX5 := Lib.hid (HX4.out.touch ht5 (by have := HBW.out; have := HQ3.out.new.1; omega)); obtain ⟨v0, v1, v2, v3, vf⟩ := HX5.out.all; have HX6 := Lib.hid (HX5.out.set3 (.slice a2 q.length cap2)); clear hts5 hp5 ht5)
                  | (go_at_call 55; refine (HN2.out _ HQ5.out.pb).mono ?_; rintro e w6 ⟨rfl, ht6⟩; have HT6 := Lib.hid (HQ5.out.touch.trans ht6); clear ht6))
                refine show _ ∧ ProgPost b s w _ (.panicked _) _ from ⟨rfl, ?_⟩
                rw [HE3.out]
                exact ⟨rfl, HT6.out⟩
              | ok v r4 =>
                have HE3 : Hid (pProg (s.drop k) = pGo (l.map (·.1) ++ [⟨t, q⟩]) r4) := Lib.hid (by rw [HS.out, pC_b4 HX1.out h32 hm1 hl hm]; rfl)
                have HD4 := Lib.hid (suf_at ((pNeed_suf hm).trans hsf3))
                have hln4 := congrArg List.length (pNeed_len _ _ _ hm)
                rw [List.length_append] at hln4
                simp only [List.length_cons, List.length_nil] at hln4
                rw [List.length_drop] at hln1
                clear hm1 h32 hl hm
                go_wp2_with (first
                  | (go_at_call 53; refine (HTM.out _ HP0.out).mono ?_; rintro e w2 ⟨hf, ⟨a, cap, rfl, hts⟩, hp2, ht2⟩; have HF := Lib.hid hf; have HTS := Lib.hid hts; have HQ2 := Lib.hid (PSt.made (HO0.out.touch ht2 (fun i hi e => by have := HBW.out; omega) (fun i hi e => by have := HBW.out; omega)) HT0.out.size (fun g hg => (HO0.out.block hg).2) hf hts hp2 (HT0.out.trans ht2) HBW.out (.cells #[.int .i64 t.var, .string t.name, .slice a t.args.length cap, .slice none 0 0] 50)); have HX2 := Lib.hid (Box4.made w2 (.int .i64 t.var) (.string t.name) (.slice a t.args.length cap) (.slice none 0 0)); have HNO := Lib.hid (fun g (hg : (Value.slice xa l.length xc).ownBlock = some g) => Nat.lt_of_lt_of_le (HO0.out.block hg).2 (Nat.le_refl _)); have HS2 := Lib.hid ht2.size; clear hf hts hp2 ht2)
                  | (go_at_call 54; refine (HC.out _ HQ2.out.pb).mono ?_; rintro e w3 ⟨rfl, hb3⟩; have HQ3 := Lib.hid (HQ2.out.below hb3); have HX3 := Lib.hid (HX2.out.below hb3); obtain ⟨y0, y1, y2, y3, yf⟩ := HX3.out.all; clear hb3)
                  | (go_at_call_of 55 (ByteArray.mk #[32, 58, 45, 32]); refine (HN1.out _ HQ3.out.pb).mono ?_; rintro e w4 ⟨rfl, hp4, ht4⟩; have HQ4 := Lib.hid (HQ3.out.move ht4 hp4); have HX4 := Lib.hid (HX3.out.touch ht4 (by have := HBW.out; have := HQ3.out.new.1; omega)); clear hp4 ht4)
                  | (go_at_call 33; refine (HL.out _ HQ4.out.pb).mono ?_; rintro e w5 ⟨⟨a2, cap2, rfl, hts5⟩, hp5, ht5⟩; have HQ5 := Lib.hid (((HQ4.out.move ht5 hp5).body hts5 HQ4.out.new.2 (fun g hg => (HQ4.out.own.block hg).2)).box (.slice a2 q.length cap2)); have HX5 := Lib.hid (HX4.out.touch ht5 (by have := HBW.out; have := HQ3.out.new.1; omega)); obtain ⟨v0, v1, v2, v3, vf⟩ := HX5.out.all; have HX6 := Lib.hid (HX5.out.set3 (.slice a2 q.length cap2)); clear hts5 hp5 ht5)
                  | (go_at_call 55; refine (HN2.out _ HQ5.out.pb).mono ?_; rintro e w6 ⟨rfl, hp6, ht6⟩; have HQ6 := Lib.hid (HQ5.out.move ht6 hp6); have HX7 := Lib.hid (HX6.out.touch ht6 (by have := HBW.out; have := HQ3.out.new.1; omega)); obtain ⟨z0, z1, z2, z3, zf⟩ := HX7.out.all; clear hp6 ht6)
                  | (at_builtin; (refine wpList_append_fresh _ rfl _ _ 23 rfl w.heap.size 50 i0 zc 4 72 Tryd.underlying23 hi0 hz0 hz1 hz2 hz3 (by decide) _ _ _ rfl (HQ6.out.below ((Below.refl _ _).alloc (Nat.le_refl _) _)).own.own ⟨w6.heap.size, 0, none⟩ 1 1 (flatC [((⟨t, q⟩ : Cl), (a, cap), (a2, cap2))]) rfl rfl ?c1 (flatC_one _) ?c3 ?c4 ?c5 ?_)))
                case c1 => exact four_cell _ _ _ _ _ _
                case c3 => unfold maxLen; omega
                case c4 => omega
                case c5 => have := HQ6.out.touch.size; simp; omega
                intro v9 w9 hown hgrow hfr
                obtain ⟨hA1, hA2, hA3⟩ := HQ6.out.append _ hown hgrow hfr
                have HA1 := Lib.hid hA1
                have HA2 := Lib.hid hA2
                have HA3 := Lib.hid hA3
                clear hown hgrow hfr hA1 hA2 hA3
                go_wp2_with fail
                go_roundw
                case rel => exact ⟨l ++ [((⟨t, q⟩ : Cl), (a, cap), (a2, cap2))], s.length - r4.length, by omega, by rw [List.length_append, List.length_singleton]; omega, HA1, HA2, HA3, Lib.hid (by rw [HE3.out, HD4.out, List.map_append]; rfl)⟩
                case measure =>
                  rw [HA2.out.all.2.1, q1]
                  simp only [intOf]
                  omega
        · rw [decide_eq_false h32] at HC
          have HN := Lib.hid (fun u hu => NeedW [46, 10] (by simp) s (s.length - r1.length) hk2 hs u b hu)
          rw [hd1] at HN
          generalize hm : pNeed [46, 10] r1 = m at HN
          cases m with
          | no r4 =>
            have HE3 : Hid (pProg (s.drop k) = .no r4) := Lib.hid (by rw [HS.out, pC_n3 HX1.out h32 hm]; rfl)
            clear hm h32
            go_wp2_with (first
              | (go_at_call 53; refine (HTM.out _ HP0.out).mono ?_; rintro e w2 ⟨hf, ⟨a, cap, rfl, hts⟩, hp2, ht2⟩; have HF := Lib.hid hf; have HTS := Lib.hid hts; have HQ2 := Lib.hid (PSt.made (HO0.out.touch ht2 (fun i hi e => by have := HBW.out; omega) (fun i hi e => by have := HBW.out; omega)) HT0.out.size (fun g hg => (HO0.out.block hg).2) hf hts hp2 (HT0.out.trans ht2) HBW.out (.cells #[.int .i64 t.var, .string t.name, .slice a t.args.length cap, .slice none 0 0] 50)); have HX2 := Lib.hid (Box4.made w2 (.int .i64 t.var) (.string t.name) (.slice a t.args.length cap) (.slice none 0 0)); have HNO := Lib.hid (fun g (hg : (Value.slice xa l.length xc).ownBlock = some g) => Nat.lt_of_lt_of_le (HO0.out.block hg).2 (Nat.le_refl _)); have HS2 := Lib.hid ht2.size; clear hf hts hp2 ht2)
              | (go_at_call 54; refine (HC.out _ HQ2.out.pb).mono ?_; rintro e w3 ⟨rfl, hb3⟩; have HQ3 := Lib.hid (HQ2.out.below hb3); have HX3 := Lib.hid (HX2.out.below hb3); obtain ⟨y0, y1, y2, y3, yf⟩ := HX3.out.all; clear hb3)
              | (go_at_call 55; refine (HN.out _ HQ3.out.pb).mono ?_; rintro e w4 ⟨rfl, ht4⟩; have HT4 := Lib.hid (HQ3.out.touch.trans ht4); clear ht4))
            refine show _ ∧ ProgPost b s w _ (.panicked _) _ from ⟨rfl, ?_⟩
            rw [HE3.out]
            exact ⟨rfl, HT4.out⟩
          | ok u r4 =>
            have HE3 : Hid (pProg (s.drop k) = pGo (l.map (·.1) ++ [⟨t, []⟩]) r4) := Lib.hid (by rw [HS.out, pC_n4 HX1.out h32 hm]; rfl)
            have HD4 := Lib.hid (suf_at ((pNeed_suf hm).trans hsf1))
            have hln4 := congrArg List.length (pNeed_len _ _ _ hm)
            rw [List.length_append] at hln4
            simp only [List.length_cons, List.length_nil] at hln4
            rw [List.length_drop] at hln1
            clear hm h32
            go_wp2_with (first
              | (go_at_call 53; refine (HTM.out _ HP0.out).mono ?_; rintro e w2 ⟨hf, ⟨a, cap, rfl, hts⟩, hp2, ht2⟩; have HF := Lib.hid hf; have HTS := Lib.hid hts; have HQ2 := Lib.hid (PSt.made (HO0.out.touch ht2 (fun i hi e => by have := HBW.out; omega) (fun i hi e => by have := HBW.out; omega)) HT0.out.size (fun g hg => (HO0.out.block hg).2) hf hts hp2 (HT0.out.trans ht2) HBW.out (.cells #[.int .i64 t.var, .string t.name, .slice a t.args.length cap, .slice none 0 0] 50)); have HX2 := Lib.hid (Box4.made w2 (.int .i64 t.var) (.string t.name) (.slice a t.args.length cap) (.slice none 0 0)); have HNO := Lib.hid (fun g (hg : (Value.slice xa l.length xc).ownBlock = some g) => Nat.lt_of_lt_of_le (HO0.out.block hg).2 (Nat.le_refl _)); have HS2 := Lib.hid ht2.size; clear hf hts hp2 ht2)
              | (go_at_call 54; refine (HC.out _ HQ2.out.pb).mono ?_; rintro e w3 ⟨rfl, hb3⟩; have HQ3 := Lib.hid (HQ2.out.below hb3); have HX3 := Lib.hid (HX2.out.below hb3); obtain ⟨y0, y1, y2, y3, yf⟩ := HX3.out.all; clear hb3)
              | (go_at_call 55; refine (HN.out _ HQ3.out.pb).mono ?_; rintro e w4 ⟨rfl, hp4, ht4⟩; have HQ4 := Lib.hid (HQ3.out.move ht4 hp4); have HX4 := Lib.hid (HX3.out.touch ht4 (by have := HBW.out; have := HQ3.out.new.1; omega)); obtain ⟨z0, z1, z2, z3, zf⟩ := HX4.out.all; clear hp4 ht4)
              | (at_builtin; (refine wpList_append_fresh _ rfl _ _ 23 rfl w.heap.size 50 i0 zc 4 72 Tryd.underlying23 hi0 hz0 hz1 hz2 hz3 (by decide) _ _ _ rfl (HQ4.out.below ((Below.refl _ _).alloc (Nat.le_refl _) _)).own.own ⟨w4.heap.size, 0, none⟩ 1 1 (flatC [((⟨t, []⟩ : Cl), (a, cap), ((none : Option Addr), 0))]) rfl rfl ?c1 (flatC_one _) ?c3 ?c4 ?c5 ?_)))
            case c1 => exact four_cell _ _ _ _ _ _
            case c3 => unfold maxLen; omega
            case c4 => omega
            case c5 => have := HQ4.out.touch.size; simp; omega
            intro v6 w6 hown hgrow hfr
            obtain ⟨hA1, hA2, hA3⟩ := HQ4.out.append _ hown hgrow hfr
            have HA1 := Lib.hid hA1
            have HA2 := Lib.hid hA2
            have HA3 := Lib.hid hA3
            clear hown hgrow hfr hA1 hA2 hA3
            go_wp2_with fail
            go_roundw
            case rel => exact ⟨l ++ [((⟨t, []⟩ : Cl), (a, cap), ((none : Option Addr), 0))], s.length - r4.length, by omega, by rw [List.length_append, List.length_singleton]; omega, HA1, HA2, HA3, Lib.hid (by rw [HE3.out, HD4.out, List.map_append]; rfl)⟩
            case measure =>
              rw [HA2.out.all.2.1, q1]
              simp only [intOf]
              omega
    · have hj1 : decide ((k1 : Int) < (s.length : Int)) = false := by simp; omega
      have HE3 : Hid (pProg (s.drop k) = .ok (l.map (·.1)) []) := Lib.hid (by rw [HE1.out, List.drop_of_length_le (l := s) (i := k1) (by omega), pGo_nil])
      go_wp2_with fail
      go_quiet (fail)
      go_wp2_with fail
      go_ret
      rw [HE3.out]
      obtain ⟨da, dc, hd1, hd2⟩ := (HO.out.below (below_drewN (Below.refl _ _) nq)).done (fun _ h => h)
      simp only [Value.slice.injEq] at hd1
      obtain ⟨rfl, hd3, rfl⟩ := hd1
      refine ⟨⟨xa, xc, ?_, hd2⟩, ?_, touch_drewN HT.out nq⟩
      · rw [List.length_map]; rfl
      · rw [show s.length - ([] : Bs).length = k1 by simp; omega]; exact HP.out.drewN nq

end Go.Proofs.YtikmgiapjigghabDoor

/- Walks: the parser's deferred closure. -/
namespace Go.Proofs.YtikmgiapjigghabDoor
open Go.RowKit

set_option maxRecDepth 100000 in
set_option maxHeartbeats 400000 in
theorem catchIdle (p q : Addr) (w : World) :
    CallsD Tryd.prog 52 #[.pointer (some p), .pointer (some q)] .returning w fun e u' w' => e = .returned (.tuple #[]) ∧ u' = .returning ∧ w' = w := by
  refine callsD_of_wpS Tryd.func52 rfl fun c₀ cs hu => ?_
  apply wpS_seq
  apply wpS_region
  simp [wpOpsS, go_sem, recoverD, hu, Tryd.ntmps52, Exit.thenS]
  refine wpS_of_wp ?_
  go_wp2_with fail
  cases c₀
  simp_all [bodyPostS, results, Tryd.results52]

theorem assertPlace (n : Int) (w : World) : (Instr.typeAssert (.iface 84 (.int .i64 n)) 20 84 true).run Tryd.prog w = .ok (.tuple #[.int .i64 n, .bool true]) w := by kernel_rfl

set_option maxRecDepth 100000 in
set_option maxHeartbeats 400000 in
theorem catchPlace (A E : Nat) (n : Int) (older : List PanicEntry) (w : World) (x y : Int) (hne : A ≠ E) (hA : w.heap[A]? = some (.cells #[.int .i64 x] 3 (0, 0))) (hE : w.heap[E]? = some (.cells #[.int .i64 y] 25 (0, 0))) :
    CallsD Tryd.prog 52 #[.pointer (some ⟨A, 0, none⟩), .pointer (some ⟨E, 0, none⟩)] (.panicking ({ v := .iface 84 (.int .i64 n), recovered := false } :: older)) w fun e u' w' =>
      e = .returned (.tuple #[]) ∧ u' = .panicking ({ v := .iface 84 (.int .i64 n), recovered := true } :: older) ∧ w' = (w.setCell ⟨A, 0, none⟩ (.int .i64 n)).setCell ⟨E, 0, none⟩ (.int .i64 1) := by
  have hc : w.cell? ⟨A, 0, none⟩ = some (.int .i64 x) := by rw [Lib.cell_of_heap hA]; rfl
  have hz : w.frozen? ⟨A, 0, none⟩ = false := Lib.frozen_of_heap hA 0
  have hE2 : (w.setCell ⟨A, 0, none⟩ (.int .i64 n)).heap[E]? = some (.cells #[.int .i64 y] 25 (0, 0)) := by rw [Below.heap_setCell _ _ _ _ hne.symm]; exact hE
  have kc : (w.setCell ⟨A, 0, none⟩ (.int .i64 n)).cell? ⟨E, 0, none⟩ = some (.int .i64 y) := by rw [Lib.cell_of_heap hE2]; rfl
  have kz : (w.setCell ⟨A, 0, none⟩ (.int .i64 n)).frozen? ⟨E, 0, none⟩ = false := Lib.frozen_of_heap hE2 0
  have hta := assertPlace n
  refine callsD_of_wpS Tryd.func52 rfl fun c₀ cs hu => ?_
  apply wpS_seq
  apply wpS_region
  simp [wpOpsS, go_sem, recoverD, hu, Tryd.ntmps52, Exit.thenS, Array.replicate]
  apply wpS_seq
  apply wpS_region
  simp [wpOpsS, go_sem, Exit.thenS]
  refine wpS_cond (t := true) (by simp [Act.eval]) ?_
  simp only [if_true]
  refine wpS_of_wp ?_
  go_wp2_with fail
  cases c₀
  simp_all [bodyPostS, results, Tryd.results52]

end Go.Proofs.YtikmgiapjigghabDoor

/- Walks: the program's parse of a program. -/
namespace Go.Proofs.YtikmgiapjigghabDoor
open Go.RowKit

/-- What a closure that parses a program ends with. -/
def DoPostP (b o : Nat) (s : Bs) (w : World) (x : PR (List Cl)) (e : Ending) (w' : World) : Prop :=
  match x with
  | .ok p r' => e = .returned (.tuple #[]) ∧ (∃ a cap, w'.heap[o]? = some (.cells #[.slice a p.length cap] 23 (0, 0)) ∧ Pr w' (fun i => w.heap.size ≤ i) p a cap) ∧ PB w' b s (s.length - r'.length) ∧ Touch (fun i => i = b ∨ i = o) w w'
  | .no r' => e = .panicked (plc (s.length - r'.length)) ∧ Touch (fun i => i = b ∨ i = o) w w'

set_option maxRecDepth 100000 in
set_option maxHeartbeats 400000 in
theorem DoPW {s : Bs} {b o : Nat} {a0 : Option Addr} {n0 c0 : Nat} (hs : s.length ≤ 6000) (w : World) (hp : PB w b s 0) (ho : w.heap[o]? = some (.cells #[.slice a0 n0 c0] 23 (0, 0))) (hne : o ≠ b) :
    Calls Tryd.prog 30 #[.pointer (some ⟨b, 0, none⟩), .pointer (some ⟨o, 0, none⟩)] w (DoPostP b o s w (pProg s)) := by
  have HM := Lib.hid (ProgW hs (Nat.zero_le _) w hp)
  rw [List.drop_zero] at HM
  have HO := Lib.hid ho
  have HNE := Lib.hid hne
  have HLT : Hid (o < w.heap.size) := Lib.hid (Array.getElem?_eq_some_iff.1 ho).1
  clear hp ho hne
  generalize pProg s = x at HM
  cases x with
  | no r =>
    go_enter Tryd.func30, Tryd.ntmps30
    go_wp2_with (go_at_call 31; refine HM.out.mono ?_; rintro e w1 ⟨rfl, ht1⟩; have HT1 := Lib.hid ht1; clear ht1)
    refine show _ ∧ DoPostP b o s w _ (.panicked _) _ from ⟨rfl, ?_⟩
    exact ⟨rfl, HT1.out.mono fun _ _ e => .inl e⟩
  | ok p r =>
    go_enter Tryd.func30, Tryd.ntmps30
    go_wp2_with (go_at_call 31; refine HM.out.mono ?_; rintro e w1 ⟨⟨a, cap, rfl, hpr⟩, hp1, ht1⟩; have HT1 := Lib.hid ht1; have HPR := Lib.hid hpr; have HP1 := Lib.hid hp1; have HO1 : Hid (w1.heap[o]? = some (.cells #[.slice a0 n0 c0] 23 (0, 0))) := Lib.hid ((ht1.block o HLT.out HNE.out).trans HO.out); have k0 : w1.cell? ⟨o, 0, none⟩ = some (.slice a0 n0 c0) := (by rw [Lib.cell_of_heap HO1.out]; rfl); have kz : w1.frozen? ⟨o, 0, none⟩ = false := Lib.frozen_of_heap HO1.out 0; clear ht1 hpr hp1)
    go_end0
    have H2 := Touch.setCell (M := fun i => i = o) (w := w1) (p := ⟨o, 0, none⟩) (.slice a p.length cap) rfl
    have hl := HLT.out
    refine ⟨rfl, ⟨a, cap, ?_, HPR.out.keep (H2.keeps fun i hi e => by omega)⟩, HP1.out.keep (H2.block b HP1.out.lt fun e => HNE.out e.symm), (HT1.out.mono fun _ _ e => .inl e).trans (H2.mono fun _ _ e => .inr e)⟩
    rw [heap_setCell_at _ _ _ _ HO1.out]; rfl

/-- Where a parse ends and with which errno. -/
def endOf {α : Type} (s : Bs) : PR α → Nat × Nat
  | .no r => (s.length - r.length, 1)
  | .ok _ r => if r = [] then (0, 0) else (s.length - r.length, 1)

/-- What a parse of a program ends with. -/
def ParsePostP (o : Nat) (s : Bs) (w : World) (x : PR (List Cl)) (e : Ending) (w' : World) : Prop :=
  e = .returned (.tuple #[.int .i64 (endOf s x).1, .int .i64 (endOf s x).2]) ∧ Touch (fun i => i = o) w w' ∧
  ∀ p, x = .ok p [] → ∃ a cap, w'.heap[o]? = some (.cells #[.slice a p.length cap] 23 (0, 0)) ∧ Pr w' (fun i => w.heap.size ≤ i) p a cap

set_option maxRecDepth 100000 in
set_option maxHeartbeats 400000 in
theorem parseBig (s : Bs) (hs : 6000 < s.length) (hl : s.length ≤ 9223372036854775807) (d : Value) (w : World) :
    Calls Tryd.prog 29 #[.string (strB s), d] w fun e w' => e = .returned (.tuple #[.int .i64 0, .int .i64 2]) ∧ Below w.heap.size w w' := by
  have hsz : (strB s).size = s.length := strB_size s
  have h1 : (6000 : Int) < (s.length : Int) := by omega
  go_enter_defers Tryd.func29, Tryd.ntmps29
  go_wp2_with fail
  simp [bodyPostD, Leaves, results, Tryd.results29, go_sem]
  exact ((Below.refl _ _).alloc (Nat.le_refl _) _).alloc (by simp) _

/-- The two results' variables. -/
structure TwoR (w : World) (A : Nat) (x y : Int) : Prop where
  at' : w.heap[A]? = some (.cells #[.int .i64 x] 3 (0, 0))
  er : w.heap[A + 1]? = some (.cells #[.int .i64 y] 25 (0, 0))
theorem TwoR.cells {w : World} {A : Nat} {x y : Int} (h : TwoR w A x y) : w.cell? ⟨A, 0, none⟩ = some (.int .i64 x) ∧ w.cell? ⟨A + 1, 0, none⟩ = some (.int .i64 y) ∧ w.frozen? ⟨A, 0, none⟩ = false ∧ w.frozen? ⟨A + 1, 0, none⟩ = false :=
  ⟨by rw [Lib.cell_of_heap h.at']; rfl, by rw [Lib.cell_of_heap h.er]; rfl, Lib.frozen_of_heap h.at' 0, Lib.frozen_of_heap h.er 0⟩
theorem TwoR.touch {M : Nat → Prop} {w w' : World} {A : Nat} {x y : Int} (h : TwoR w A x y) (ht : Touch M w w') (h1 : ¬ M A) (h2 : ¬ M (A + 1)) : TwoR w' A x y :=
  ⟨(ht.block _ (Array.getElem?_eq_some_iff.1 h.at').1 h1).trans h.at', (ht.block _ (Array.getElem?_eq_some_iff.1 h.er).1 h2).trans h.er⟩
theorem TwoR.set {w : World} {A : Nat} {x y : Int} (h : TwoR w A x y) (a b : Int) : TwoR ((w.setCell ⟨A, 0, none⟩ (.int .i64 a)).setCell ⟨A + 1, 0, none⟩ (.int .i64 b)) A a b := by
  refine ⟨?_, ?_⟩
  · rw [Below.heap_setCell _ _ _ _ (by simp), heap_setCell_at _ _ _ _ h.at']; rfl
  · rw [heap_setCell_at _ _ _ _ (by rw [Below.heap_setCell _ _ _ _ (by simp)]; exact h.er)]; rfl

/-- The world in which the parser begins. -/
def parseW (w : World) (s : Bs) : World := ((w.alloc (.cells #[.int .i64 0] 3)).alloc (.cells #[.int .i64 0] 25)).alloc (.cells #[.string (strB s), .int .i64 0] 87)
theorem parseW_size (w : World) (s : Bs) : (parseW w s).heap.size = w.heap.size + 3 := by simp [parseW]
theorem parseW_below (w : World) (s : Bs) : Below w.heap.size w (parseW w s) := (((Below.refl _ _).alloc (Nat.le_refl _) _).alloc (by simp) _).alloc (by simp; omega) _
theorem parseW_two (w : World) (s : Bs) : TwoR (parseW w s) w.heap.size 0 0 := by
  have e1 : (w.alloc (.cells #[.int .i64 0] 3)).heap.size = w.heap.size + 1 := by simp
  have b1 : Below (w.alloc (.cells #[.int .i64 0] 3)).heap.size (w.alloc (.cells #[.int .i64 0] 3)) (parseW w s) := ((Below.refl _ _).alloc (Nat.le_refl _) _).alloc (by simp) _
  have b2 : Below ((w.alloc (.cells #[.int .i64 0] 3)).alloc (.cells #[.int .i64 0] 25)).heap.size ((w.alloc (.cells #[.int .i64 0] 3)).alloc (.cells #[.int .i64 0] 25)) (parseW w s) := (Below.refl _ _).alloc (Nat.le_refl _) _
  refine ⟨(b1.block w.heap.size (by simp)).trans (heap_alloc_new w _), ?_⟩
  rw [← e1]
  exact (b2.block _ (by simp)).trans (heap_alloc_new (w.alloc (.cells #[.int .i64 0] 3)) _)
theorem parseW_pb (w : World) (s : Bs) : PB (parseW w s) (w.heap.size + 1 + 1) s 0 := by
  have e2 : ((w.alloc (.cells #[.int .i64 0] 3)).alloc (.cells #[.int .i64 0] 25)).heap.size = w.heap.size + 1 + 1 := by simp
  rw [← e2]
  exact ⟨heap_alloc_new ((w.alloc (.cells #[.int .i64 0] 3)).alloc (.cells #[.int .i64 0] 25)) _⟩

/-- What parse turns. -/
theorem parseW_touch {w w1 : World} {s : Bs} {o : Nat} (ht : Touch (fun i => i = w.heap.size + 1 + 1 ∨ i = o) (parseW w s) w1) (x y : Value) : Touch (fun i => i = o) w ((w1.setCell ⟨w.heap.size, 0, none⟩ x).setCell ⟨w.heap.size + 1, 0, none⟩ y) := by
  have h1 := (Touch.below (M := NewOr o w.heap.size) (parseW_below w s)).trans (ht.mono fun i _ e => by
    rcases e with e | e
    · exact .inr (by omega)
    · exact .inl e)
  exact ((h1.trans (Touch.setCell (p := ⟨w.heap.size, 0, none⟩) x (.inr (Nat.le_refl _)))).trans (Touch.setCell (p := ⟨w.heap.size + 1, 0, none⟩) y (.inr (Nat.le_succ _)))).old
theorem two_touch (w1 : World) (A : Nat) (x y : Value) : Touch (fun i => i = A ∨ i = A + 1) w1 ((w1.setCell ⟨A, 0, none⟩ x).setCell ⟨A + 1, 0, none⟩ y) :=
  (Touch.setCell (M := fun i => i = A ∨ i = A + 1) (p := ⟨A, 0, none⟩) x (.inl rfl)).trans (Touch.setCell (p := ⟨A + 1, 0, none⟩) y (.inr rfl))

set_option maxRecDepth 100000 in
set_option maxHeartbeats 400000 in
theorem parsePW (s : Bs) (hs : s.length ≤ 6000) (o : Nat) {a0 : Option Addr} {n0 c0 : Nat} (w : World) (ho : w.heap[o]? = some (.cells #[.slice a0 n0 c0] 23 (0, 0))) :
    Calls Tryd.prog 29 #[.string (strB s), .func (.func 30) #[] #[.pointer (some ⟨o, 0, none⟩)]] w (ParsePostP o s w (pProg s)) := by
  have hsz : (strB s).size = s.length := strB_size s
  have h1 : ¬ (6000 : Int) < (s.length : Int) := by omega
  have HOL : Hid (o < w.heap.size) := Lib.hid (Array.getElem?_eq_some_iff.1 ho).1
  have HPB := Lib.hid (parseW_pb w s)
  have HTW := Lib.hid (parseW_two w s)
  have HBL := Lib.hid (parseW_below w s)
  have HD := Lib.hid (DoPW hs (parseW w s) HPB.out ((HBL.out.block o HOL.out).trans ho) (by have := HOL.out; omega))
  clear ho
  generalize hx : pProg s = x at HD
  have HXX := Lib.hid hx
  clear hx
  have hmf : ∀ (fn : Fn) (first cap : Array Value) (w : World), (Instr.makeFunc fn first cap).run Tryd.prog w = .ok (.func fn first cap) w := fun _ _ _ _ => rfl
  cases x with
  | no r =>
    go_enter_defers Tryd.func29, Tryd.ntmps29
    go_wp2_with (go_at_call 30; refine (show Calls Tryd.prog _ _ (parseW w s) _ from HD.out.mono ?_); rintro e w1 ⟨rfl, ht1⟩; have HT1 := Lib.hid ht1; have HT2 := Lib.hid (HTW.out.touch ht1 (by have := HOL.out; omega) (by have := HOL.out; omega)); clear ht1)
    unfold plc
    refine leaves_cons (f := 52) (args := #[.pointer (some ⟨w.heap.size, 0, none⟩), .pointer (some ⟨w.heap.size + 1, 0, none⟩)]) (by simp) (by simp [go_sem]) ?_
    refine (catchPlace w.heap.size (w.heap.size + 1) _ [] w1 0 0 (by omega) HT2.out.at' HT2.out.er).mono ?_
    rintro e u' w'' ⟨rfl, rfl, rfl⟩
    obtain ⟨z0, z1, _, _⟩ := (HT2.out.set ((s.length - r.length : Nat) : Int) 1).cells
    simp [Leaves, settle, results, Tryd.results29, go_sem, z0, z1]
    exact ⟨rfl, parseW_touch HT1.out _ _, fun p h => by cases h⟩
  | ok p r =>
    by_cases hr : r = []
    · have hj : ¬ (((s.length - r.length : Nat) : Int)) < (s.length : Int) := by rw [hr]; simp
      have HR := Lib.hid hr
      clear hr
      go_enter_defers Tryd.func29, Tryd.ntmps29
      go_wp2_with (go_at_call 30; refine (show Calls Tryd.prog _ _ (parseW w s) _ from HD.out.mono ?_); rintro e w1 ⟨rfl, ⟨a, cap, ho1, hpr⟩, hp1, ht1⟩; have HT1 := Lib.hid ht1; have HT2 := Lib.hid (HTW.out.touch ht1 (by have := HOL.out; omega) (by have := HOL.out; omega)); have HP1 := Lib.hid hp1; have HO1 := Lib.hid ho1; have HPR := Lib.hid hpr; obtain ⟨y0, y1, yf⟩ := hp1.all; obtain ⟨z0, z1, z2, z3⟩ := HT2.out.cells; clear ht1 hp1 ho1 hpr)
      refine leaves_cons (f := 52) (args := #[.pointer (some ⟨w.heap.size, 0, none⟩), .pointer (some ⟨w.heap.size + 1, 0, none⟩)]) (by simp) (by simp [go_sem]) ?_
      refine (catchIdle _ _ _).mono ?_
      rintro e u' w'' ⟨rfl, rfl, rfl⟩
      obtain ⟨k0, k1, _, _⟩ := (HT2.out.set 0 0).cells
      simp [Leaves, settle, results, Tryd.results29, go_sem, k0, k1]
      have hr := HR.out
      subst hr
      have h2 := two_touch w1 w.heap.size (.int .i64 0) (.int .i64 0)
      have hol := HOL.out
      have hsz3 := parseW_size w s
      refine ⟨rfl, parseW_touch HT1.out _ _, fun q h => ?_⟩
      simp only [PR.ok.injEq, and_true] at h
      subst h
      refine ⟨a, cap, (h2.block o (Array.getElem?_eq_some_iff.1 HO1.out).1 (by omega)).trans HO1.out, (HPR.out.keep (h2.keeps fun i hi e => by omega)).mono fun i _ hi => by omega⟩
    · have hj : (((s.length - r.length : Nat) : Int)) < (s.length : Int) := by
        have hrl : 0 < r.length := Nat.pos_of_ne_zero fun e => hr (List.eq_nil_of_length_eq_zero e)
        have hle : 0 < s.length := Nat.pos_of_ne_zero fun e => by
          have e2 := HXX.out
          rw [List.eq_nil_of_length_eq_zero e, pProg_nil] at e2
          simp only [PR.ok.injEq] at e2
          exact hr e2.2.symm
        omega
      go_enter_defers Tryd.func29, Tryd.ntmps29
      go_wp2_with (go_at_call 30; refine (show Calls Tryd.prog _ _ (parseW w s) _ from HD.out.mono ?_); rintro e w1 ⟨rfl, ⟨a, cap, ho1, hpr⟩, hp1, ht1⟩; have HT1 := Lib.hid ht1; have HT2 := Lib.hid (HTW.out.touch ht1 (by have := HOL.out; omega) (by have := HOL.out; omega)); have HP1 := Lib.hid hp1; obtain ⟨y0, y1, yf⟩ := hp1.all; clear ht1 hp1 ho1 hpr)
      refine leaves_cons (f := 52) (args := #[.pointer (some ⟨w.heap.size, 0, none⟩), .pointer (some ⟨w.heap.size + 1, 0, none⟩)]) (by simp) (by simp [go_sem]) ?_
      refine (catchPlace w.heap.size (w.heap.size + 1) _ [] w1 0 0 (by omega) HT2.out.at' HT2.out.er).mono ?_
      rintro e u' w'' ⟨rfl, rfl, rfl⟩
      obtain ⟨z0, z1, _, _⟩ := (HT2.out.set ((s.length - r.length : Nat) : Int) 1).cells
      simp [Leaves, settle, results, Tryd.results29, go_sem, z0, z1]
      refine ⟨by rw [show endOf s (PR.ok p r) = (s.length - r.length, 1) from if_neg hr]; rfl, parseW_touch HT1.out _ _, fun q h => ?_⟩
      simp only [PR.ok.injEq] at h
      exact absurd h.2 hr

end Go.Proofs.YtikmgiapjigghabDoor

/- Walks: the program's parse of goals. (Written out of XTqk by a program.) -/
namespace Go.Proofs.YtikmgiapjigghabDoor
open Go.RowKit

/-- What a closure that parses goals ends with. -/
def DoPostG (b o : Nat) (s : Bs) (w : World) (x : PR (List Tm)) (e : Ending) (w' : World) : Prop :=
  match x with
  | .ok p r' => e = .returned (.tuple #[]) ∧ (∃ a cap, w'.heap[o]? = some (.cells #[.slice a p.length cap] 24 (0, 0)) ∧ Ts w' (fun i => w.heap.size ≤ i) p a cap) ∧ PB w' b s (s.length - r'.length) ∧ Touch (fun i => i = b ∨ i = o) w w'
  | .no r' => e = .panicked (plc (s.length - r'.length)) ∧ Touch (fun i => i = b ∨ i = o) w w'

set_option maxRecDepth 100000 in
set_option maxHeartbeats 400000 in
theorem DoGW {s : Bs} {b o : Nat} {a0 : Option Addr} {n0 c0 : Nat} (hs : s.length ≤ 6000) (w : World) (hp : PB w b s 0) (ho : w.heap[o]? = some (.cells #[.slice a0 n0 c0] 24 (0, 0))) (hne : o ≠ b) :
    Calls Tryd.prog 32 #[.pointer (some ⟨b, 0, none⟩), .pointer (some ⟨o, 0, none⟩)] w (DoPostG b o s w (pList s)) := by
  have HM := Lib.hid (listP hs (Nat.zero_le _) w hp)
  rw [List.drop_zero] at HM
  have HO := Lib.hid ho
  have HNE := Lib.hid hne
  have HLT : Hid (o < w.heap.size) := Lib.hid (Array.getElem?_eq_some_iff.1 ho).1
  clear hp ho hne
  generalize pList s = x at HM
  cases x with
  | no r =>
    go_enter Tryd.func32, Tryd.ntmps32
    go_wp2_with (go_at_call 33; refine HM.out.mono ?_; rintro e w1 ⟨rfl, ht1⟩; have HT1 := Lib.hid ht1; clear ht1)
    refine show _ ∧ DoPostG b o s w _ (.panicked _) _ from ⟨rfl, ?_⟩
    exact ⟨rfl, HT1.out.mono fun _ _ e => .inl e⟩
  | ok p r =>
    go_enter Tryd.func32, Tryd.ntmps32
    go_wp2_with (go_at_call 33; refine HM.out.mono ?_; rintro e w1 ⟨⟨a, cap, rfl, hpr⟩, hp1, ht1⟩; have HT1 := Lib.hid ht1; have HPR := Lib.hid hpr; have HP1 := Lib.hid hp1; have HO1 : Hid (w1.heap[o]? = some (.cells #[.slice a0 n0 c0] 24 (0, 0))) := Lib.hid ((ht1.block o HLT.out HNE.out).trans HO.out); have k0 : w1.cell? ⟨o, 0, none⟩ = some (.slice a0 n0 c0) := (by rw [Lib.cell_of_heap HO1.out]; rfl); have kz : w1.frozen? ⟨o, 0, none⟩ = false := Lib.frozen_of_heap HO1.out 0; clear ht1 hpr hp1)
    go_end0
    have H2 := Touch.setCell (M := fun i => i = o) (w := w1) (p := ⟨o, 0, none⟩) (.slice a p.length cap) rfl
    have hl := HLT.out
    refine ⟨rfl, ⟨a, cap, ?_, HPR.out.keep (H2.keeps fun i hi e => by omega)⟩, HP1.out.keep (H2.block b HP1.out.lt fun e => HNE.out e.symm), (HT1.out.mono fun _ _ e => .inl e).trans (H2.mono fun _ _ e => .inr e)⟩
    rw [heap_setCell_at _ _ _ _ HO1.out]; rfl

/-- What a parse of goals ends with. -/
def ParsePostG (o : Nat) (s : Bs) (w : World) (x : PR (List Tm)) (e : Ending) (w' : World) : Prop :=
  e = .returned (.tuple #[.int .i64 (endOf s x).1, .int .i64 (endOf s x).2]) ∧ Touch (fun i => i = o) w w' ∧
  ∀ p, x = .ok p [] → ∃ a cap, w'.heap[o]? = some (.cells #[.slice a p.length cap] 24 (0, 0)) ∧ Ts w' (fun i => w.heap.size ≤ i) p a cap

set_option maxRecDepth 100000 in
set_option maxHeartbeats 400000 in
theorem parseGW (s : Bs) (hs : s.length ≤ 6000) (o : Nat) {a0 : Option Addr} {n0 c0 : Nat} (w : World) (ho : w.heap[o]? = some (.cells #[.slice a0 n0 c0] 24 (0, 0))) :
    Calls Tryd.prog 29 #[.string (strB s), .func (.func 32) #[] #[.pointer (some ⟨o, 0, none⟩)]] w (ParsePostG o s w (pList s)) := by
  have hsz : (strB s).size = s.length := strB_size s
  have h1 : ¬ (6000 : Int) < (s.length : Int) := by omega
  have HOL : Hid (o < w.heap.size) := Lib.hid (Array.getElem?_eq_some_iff.1 ho).1
  have HPB := Lib.hid (parseW_pb w s)
  have HTW := Lib.hid (parseW_two w s)
  have HBL := Lib.hid (parseW_below w s)
  have HD := Lib.hid (DoGW hs (parseW w s) HPB.out ((HBL.out.block o HOL.out).trans ho) (by have := HOL.out; omega))
  clear ho
  generalize hx : pList s = x at HD
  have HXX := Lib.hid hx
  clear hx
  have hmf : ∀ (fn : Fn) (first cap : Array Value) (w : World), (Instr.makeFunc fn first cap).run Tryd.prog w = .ok (.func fn first cap) w := fun _ _ _ _ => rfl
  cases x with
  | no r =>
    go_enter_defers Tryd.func29, Tryd.ntmps29
    go_wp2_with (go_at_call 32; refine (show Calls Tryd.prog _ _ (parseW w s) _ from HD.out.mono ?_); rintro e w1 ⟨rfl, ht1⟩; have HT1 := Lib.hid ht1; have HT2 := Lib.hid (HTW.out.touch ht1 (by have := HOL.out; omega) (by have := HOL.out; omega)); clear ht1)
    unfold plc
    refine leaves_cons (f := 52) (args := #[.pointer (some ⟨w.heap.size, 0, none⟩), .pointer (some ⟨w.heap.size + 1, 0, none⟩)]) (by simp) (by simp [go_sem]) ?_
    refine (catchPlace w.heap.size (w.heap.size + 1) _ [] w1 0 0 (by omega) HT2.out.at' HT2.out.er).mono ?_
    rintro e u' w'' ⟨rfl, rfl, rfl⟩
    obtain ⟨z0, z1, _, _⟩ := (HT2.out.set ((s.length - r.length : Nat) : Int) 1).cells
    simp [Leaves, settle, results, Tryd.results29, go_sem, z0, z1]
    exact ⟨rfl, parseW_touch HT1.out _ _, fun p h => by cases h⟩
  | ok p r =>
    by_cases hr : r = []
    · have hj : ¬ (((s.length - r.length : Nat) : Int)) < (s.length : Int) := by rw [hr]; simp
      have HR := Lib.hid hr
      clear hr
      go_enter_defers Tryd.func29, Tryd.ntmps29
      go_wp2_with (go_at_call 32; refine (show Calls Tryd.prog _ _ (parseW w s) _ from HD.out.mono ?_); rintro e w1 ⟨rfl, ⟨a, cap, ho1, hpr⟩, hp1, ht1⟩; have HT1 := Lib.hid ht1; have HT2 := Lib.hid (HTW.out.touch ht1 (by have := HOL.out; omega) (by have := HOL.out; omega)); have HP1 := Lib.hid hp1; have HO1 := Lib.hid ho1; have HPR := Lib.hid hpr; obtain ⟨y0, y1, yf⟩ := hp1.all; obtain ⟨z0, z1, z2, z3⟩ := HT2.out.cells; clear ht1 hp1 ho1 hpr)
      refine leaves_cons (f := 52) (args := #[.pointer (some ⟨w.heap.size, 0, none⟩), .pointer (some ⟨w.heap.size + 1, 0, none⟩)]) (by simp) (by simp [go_sem]) ?_
      refine (catchIdle _ _ _).mono ?_
      rintro e u' w'' ⟨rfl, rfl, rfl⟩
      obtain ⟨k0, k1, _, _⟩ := (HT2.out.set 0 0).cells
      simp [Leaves, settle, results, Tryd.results29, go_sem, k0, k1]
      have hr := HR.out
      subst hr
      have h2 := two_touch w1 w.heap.size (.int .i64 0) (.int .i64 0)
      have hol := HOL.out
      have hsz3 := parseW_size w s
      refine ⟨rfl, parseW_touch HT1.out _ _, fun q h => ?_⟩
      simp only [PR.ok.injEq, and_true] at h
      subst h
      refine ⟨a, cap, (h2.block o (Array.getElem?_eq_some_iff.1 HO1.out).1 (by omega)).trans HO1.out, (HPR.out.keep (h2.keeps fun i hi e => by omega)).mono fun i _ hi => by omega⟩
    · have hj : (((s.length - r.length : Nat) : Int)) < (s.length : Int) := by
        have hrl : 0 < r.length := Nat.pos_of_ne_zero fun e => hr (List.eq_nil_of_length_eq_zero e)
        have hle : 0 < s.length := Nat.pos_of_ne_zero fun e => by
          have e2 := HXX.out
          rw [List.eq_nil_of_length_eq_zero e, pList_more] at e2
          cases e2
        omega
      go_enter_defers Tryd.func29, Tryd.ntmps29
      go_wp2_with (go_at_call 32; refine (show Calls Tryd.prog _ _ (parseW w s) _ from HD.out.mono ?_); rintro e w1 ⟨rfl, ⟨a, cap, ho1, hpr⟩, hp1, ht1⟩; have HT1 := Lib.hid ht1; have HT2 := Lib.hid (HTW.out.touch ht1 (by have := HOL.out; omega) (by have := HOL.out; omega)); have HP1 := Lib.hid hp1; obtain ⟨y0, y1, yf⟩ := hp1.all; clear ht1 hp1 ho1 hpr)
      refine leaves_cons (f := 52) (args := #[.pointer (some ⟨w.heap.size, 0, none⟩), .pointer (some ⟨w.heap.size + 1, 0, none⟩)]) (by simp) (by simp [go_sem]) ?_
      refine (catchPlace w.heap.size (w.heap.size + 1) _ [] w1 0 0 (by omega) HT2.out.at' HT2.out.er).mono ?_
      rintro e u' w'' ⟨rfl, rfl, rfl⟩
      obtain ⟨z0, z1, _, _⟩ := (HT2.out.set ((s.length - r.length : Nat) : Int) 1).cells
      simp [Leaves, settle, results, Tryd.results29, go_sem, z0, z1]
      refine ⟨by rw [show endOf s (PR.ok p r) = (s.length - r.length, 1) from if_neg hr]; rfl, parseW_touch HT1.out _ _, fun q h => ?_⟩
      simp only [PR.ok.injEq] at h
      exact absurd h.2 hr

end Go.Proofs.YtikmgiapjigghabDoor

/- Walks: the program's Parse. -/
namespace Go.Proofs.YtikmgiapjigghabDoor
open Go.RowKit

theorem Pr.empty (w : World) (ok : Nat → Prop) : Pr w ok [] none 0 := ⟨⟨Nat.le_refl _, Nat.zero_le _, fun _ => rfl⟩, fun i hi => by cases hi⟩

/-- What Parse ends with. -/
def ParsedP (s : Bs) (w : World) (e : Ending) (w' : World) : Prop := ∃ a cap, e = .returned (.tuple #[.slice a (readP s).1.length cap, .int .i64 ((readP s).2.1 : Nat), .int .i64 ((readP s).2.2 : Nat)]) ∧ Pr w' (fun i => w.heap.size ≤ i) (readP s).1 a cap ∧ Below w.heap.size w w'

set_option maxRecDepth 100000 in
set_option maxHeartbeats 800000 in
theorem ParseW (s : Bs) (hl : s.length ≤ 9223372036854775807) (w : World) : Calls Tryd.prog 13 #[.string (strB s)] w (ParsedP s w) := by
  have hmf : ∀ (fn : Fn) (first cap : Array Value) (w : World), (Instr.makeFunc fn first cap).run Tryd.prog w = .ok (.func fn first cap) w := fun _ _ _ _ => rfl
  have HB1 := Lib.hid ((Below.refl w.heap.size w).alloc (Nat.le_refl _) (.cells #[.slice none 0 0] 23))
  have HO := Lib.hid (heap_alloc_new w (.cells #[.slice none 0 0] 23))
  by_cases hs : 6000 < s.length
  · have HR : Hid (readP s = ([], 0, 2)) := Lib.hid (if_pos hs)
    have HP := Lib.hid (fun d u => parseBig s hs hl d u)
    clear hs hl
    go_enter Tryd.func13, Tryd.ntmps13
    go_wp2_with (go_at_call 29; refine (HP.out _ _).mono ?_; rintro e w1 ⟨rfl, hb1⟩; have HB2 := Lib.hid hb1; clear hb1)
    refine bodyPost_ret (v := .tuple #[.slice none 0 0, .int .i64 0, .int .i64 2]) (by simp [results, Tryd.results13, go_sem]) rfl ?_
    unfold ParsedP
    rw [HR.out]
    exact ⟨none, 0, rfl, Pr.empty _ _, HB1.out.trans (HB2.out.mono HB1.out.size)⟩
  · have HP := Lib.hid (parsePW s (by omega) w.heap.size _ HO.out)
    have HR : Hid (readP s = match pProg s with | .no r => ([], s.length - r.length, 1) | .ok p _ => if programE p = 0 then (p, 0, 0) else ([], 0, programE p)) := Lib.hid (if_neg hs)
    clear hs hl
    generalize hx : pProg s = x at HP HR
    cases x with
    | no r =>
      clear hx
      go_enter Tryd.func13, Tryd.ntmps13
      go_wp2_with (go_at_call 29; refine HP.out.mono ?_; rintro e w1 ⟨he, ht1, -⟩; rw [show endOf s (PR.no r : PR (List Cl)) = (s.length - r.length, 1) from rfl] at he; simp only at he; subst he; have HT1 := Lib.hid ht1; clear ht1)
      refine bodyPost_ret (v := .tuple #[.slice none 0 0, .int .i64 ((s.length - r.length : Nat) : Int), .int .i64 1]) (by simp [results, Tryd.results13, go_sem]) rfl ?_
      unfold ParsedP
      rw [HR.out]
      exact ⟨none, 0, rfl, Pr.empty _ _, HB1.out.trans (HT1.out.toBelow HB1.out.size fun b hb => by omega)⟩
    | ok p r =>
      obtain ⟨-, rfl⟩ := pProg_back s.length s r p (Nat.le_refl _) hx
      clear hx
      by_cases hz : programE p = 0
      · have HR2 : Hid (readP s = (p, 0, 0)) := Lib.hid (by rw [HR.out]; exact if_pos hz)
        have HZ := Lib.hid hz
        clear HR hz
        go_enter Tryd.func13, Tryd.ntmps13
        go_wp2_with (first
          | (go_at_call 29; refine HP.out.mono ?_; rintro e w1 ⟨he, ht1, hp1⟩; rw [show endOf s (PR.ok p [] : PR (List Cl)) = (0, 0) from rfl] at he; simp only at he; subst he; have HT1 := Lib.hid ht1; obtain ⟨a, cap, ho1, hpr⟩ := hp1 p rfl; have HO1 := Lib.hid ho1; have HPR := Lib.hid hpr; have k0 : w1.cell? ⟨w.heap.size, 0, none⟩ = some (.slice a p.length cap) := (by rw [Lib.cell_of_heap ho1]; rfl); clear ht1 hp1 ho1 hpr)
          | (go_at_call 19; refine (ClausesW p w1 _ a cap HPR.out).mono ?_; rintro e w2 ⟨rfl, hb2⟩; rw [HZ.out]; have HB2 := Lib.hid hb2; have k1 : w2.cell? ⟨w.heap.size, 0, none⟩ = some (.slice a p.length cap) := (by rw [Lib.cell_of_heap ((hb2.block _ (Array.getElem?_eq_some_iff.1 HO1.out).1).trans HO1.out)]; rfl); clear hb2))
        refine bodyPost_ret (v := .tuple #[.slice a p.length cap, .int .i64 0, .int .i64 0]) (by simp [results, Tryd.results13, go_sem]) rfl ?_
        unfold ParsedP
        rw [HR2.out]
        exact ⟨a, cap, rfl, (HPR.out.keep (Keeps.below HB2.out _)).mono fun i _ hi => Nat.le_trans HB1.out.size hi, HB1.out.trans ((HT1.out.toBelow HB1.out.size fun b hb => by omega).trans (HB2.out.mono (Nat.le_trans HB1.out.size HT1.out.size)))⟩
      · have HR2 : Hid (readP s = ([], 0, programE p)) := Lib.hid (by rw [HR.out]; exact if_neg hz)
        clear HR
        obtain ⟨n, hn⟩ : ∃ n, programE p = n := ⟨_, rfl⟩
        have HCW := Lib.hid (fun u ok a cap h => ClausesW p u ok a cap h)
        rw [hn] at HCW HR2 hz
        have e1 : ((n : Int) != 0) = true := by rw [bne_iff_ne]; omega
        have e2 : ((n : Int) == 0) = false := by rw [beq_eq_false_iff_ne]; omega
        clear hz hn
        go_enter Tryd.func13, Tryd.ntmps13
        go_wp2_with (first
          | (go_at_call 29; refine HP.out.mono ?_; rintro e w1 ⟨he, ht1, hp1⟩; rw [show endOf s (PR.ok p [] : PR (List Cl)) = (0, 0) from rfl] at he; simp only at he; subst he; have HT1 := Lib.hid ht1; obtain ⟨a, cap, ho1, hpr⟩ := hp1 p rfl; have HO1 := Lib.hid ho1; have HPR := Lib.hid hpr; have k0 : w1.cell? ⟨w.heap.size, 0, none⟩ = some (.slice a p.length cap) := (by rw [Lib.cell_of_heap ho1]; rfl); clear ht1 hp1 ho1 hpr)
          | (go_at_call 19; refine (HCW.out w1 _ a cap HPR.out).mono ?_; rintro e w2 ⟨rfl, hb2⟩; have HB2 := Lib.hid hb2; clear hb2))
        refine bodyPost_ret (v := .tuple #[.slice none 0 0, .int .i64 0, .int .i64 n]) (by simp [results, Tryd.results13, go_sem]) rfl ?_
        unfold ParsedP
        rw [HR2.out]
        exact ⟨none, 0, rfl, Pr.empty _ _, HB1.out.trans ((HT1.out.toBelow HB1.out.size fun b hb => by omega).trans (HB2.out.mono (Nat.le_trans HB1.out.size HT1.out.size)))⟩

end Go.Proofs.YtikmgiapjigghabDoor

/- Walks: the program's ParseGoals, of two goals. -/
namespace Go.Proofs.YtikmgiapjigghabDoor
open Go.RowKit

set_option maxRecDepth 100000 in
set_option maxHeartbeats 400000 in
theorem CloneW (l : List Tm) (w : World) (ok : Nat → Prop) (hok : ∀ b, w.heap.size ≤ b → ok b) (ad : Addr) (cap : Nat) (h : Ts w ok l (some ad) cap) (hl : l.length ≤ 6000) :
    Calls Tryd.prog 34 #[.slice (some ad) l.length cap] w fun e w' => (∃ a c, e = .returned (.slice a l.length c) ∧ Ts w' ok l a c) ∧ Below w.heap.size w w' := by
  have qT : ∀ (w : World) (a : Option Addr) (n c n' c' : Nat), (binOp .eql 24 (.slice a n c) (.slice none n' c')).run Tryd.prog w = .ok (.bool a.isNone) w := fun w a n c n' c' => Lib.run_eql_slice_nil w _ _ a n c n' c' Tryd.underlying24
  obtain ⟨i0, hi, hz0, hz1, hz2⟩ := info_parts Tryd.infoTm
  have hB : Below w.heap.size w (w.alloc (.cells #[] 48)) := (Below.refl _ _).alloc (Nat.le_refl _) _
  obtain ⟨L, hL, hE, hc⟩ := ((h.mono (ok' := fun b => ok b ∧ b < w.heap.size) fun b hb ho => ⟨ho, hb⟩).keep (Keeps.below hB _)).open
  have hlen : L.length = l.length := by rw [← hL, List.length_map]
  have HO : Hid (OwnTs (w.alloc (.cells #[] 48)) w.heap.size ok (.slice (some ⟨w.heap.size, 0, none⟩) 0 0) []) := Lib.hid ⟨World.ownsRow_lit (base := w.heap.size) (e := 48) (size := 3) w #[] 0 (Nat.le_refl _) (Nat.zero_le _) rfl, TsEach.nil _ _⟩
  have HB := Lib.hid hB
  have HE : Hid (TsEach (w.alloc (.cells #[] 48)) (Free (.slice (some ⟨w.heap.size, 0, none⟩) 0 0) ok) L) := Lib.hid (hE.mono fun b hb ho => ⟨ho.1, fun e => by simp only [Value.ownBlock, Option.some.injEq] at e; omega⟩)
  have HC := Lib.hid (hc ad rfl)
  have HL := Lib.hid hlen
  have HLM := Lib.hid hL
  have HOK := Lib.hid hok
  clear hB hE hc h hL hok hlen
  go_enter Tryd.func34, Tryd.ntmps34
  go_wp2_with (at_builtin; refine wpList_append_fresh _ rfl _ _ 24 rfl w.heap.size 48 i0 _ 3 48 Tryd.underlying24 hi hz0 hz1 hz2 rfl (by decide) _ _ _ rfl HO.out.own ad l.length cap (flat L) rfl (by rw [flat_length, HL.out]) HC.out (flat_one L) ?c3 ?c4 ?c5 ?_)
  case c3 => unfold maxLen; rw [List.length_nil]; omega
  case c4 => rw [List.length_nil]; omega
  case c5 => simp
  intro v w1 hown hgrow hfr
  have HN := Lib.hid (HO.out.append HE.out (by show w1.ownsRow _ _ 3 v (0 + L.length) _; rw [Nat.zero_add, HL.out]; exact hown) hgrow hfr)
  have HB2 := Lib.hid (HB.out.grown hgrow HB.out.size (fun j e => (HO.out.block e).1))
  clear hown hgrow hfr
  go_wp2_with fail
  go_ret
  obtain ⟨da, dc, hd1, hd2⟩ := HN.out.done (fun b hb => HOK.out b hb)
  rw [List.nil_append, HLM.out] at hd1 hd2
  subst hd1
  exact ⟨⟨da, dc, rfl, hd2⟩, HB2.out⟩

set_option maxRecDepth 100000 in
set_option maxHeartbeats 800000 in
theorem ParseGoalsTwo (s : Bs) (hs : s.length ≤ 6000) (l : List Tm) (hx : pList s = .ok l []) (hz : queryE l = 0) (h1 : l.length ≠ 1) (h0 : 1 ≤ l.length) (w : World) :
    Calls Tryd.prog 14 #[.string (strB s)] w fun e w' => (∃ a cap, e = .returned (.tuple #[.slice a l.length cap, .int .i64 0, .int .i64 0]) ∧ Ts w' (fun i => w.heap.size ≤ i) l a cap) ∧ Below w.heap.size w w' := by
  have hmf : ∀ (fn : Fn) (first cap : Array Value) (w : World), (Instr.makeFunc fn first cap).run Tryd.prog w = .ok (.func fn first cap) w := fun _ _ _ _ => rfl
  have HB1 := Lib.hid ((Below.refl w.heap.size w).alloc (Nat.le_refl _) (.cells #[.slice none 0 0] 24))
  have HO := Lib.hid (heap_alloc_new w (.cells #[.slice none 0 0] 24))
  have HP := Lib.hid (parseGW s hs w.heap.size _ HO.out)
  rw [hx] at HP
  have hl6 : l.length ≤ 6 := (query_zero hz).1
  have e1 : ((l.length : Int) == 1) = false := by rw [beq_eq_false_iff_ne]; omega
  have HZ := Lib.hid hz
  have HL0 := Lib.hid h0
  clear hx hz h1 h0 hs
  go_enter Tryd.func14, Tryd.ntmps14
  go_wp2_with (first
    | (go_at_call 29; refine HP.out.mono ?_; rintro e w1 ⟨he, ht1, hp1⟩; rw [show endOf s (PR.ok l [] : PR (List Tm)) = (0, 0) from rfl] at he; simp only at he; subst he; have HT1 := Lib.hid ht1; obtain ⟨a, cap, ho1, hts⟩ := hp1 l rfl; obtain ⟨ad, rfl⟩ := hts.some HL0.out; have HO1 := Lib.hid ho1; have HTS := Lib.hid hts; have k0 : w1.cell? ⟨w.heap.size, 0, none⟩ = some (.slice (some ad) l.length cap) := (by rw [Lib.cell_of_heap ho1]; rfl); clear ht1 hp1 ho1 hts)
    | (go_at_call 24; refine (QueryW l w1 _ (some ad) cap HTS.out).mono ?_; rintro e w2 ⟨rfl, hb2⟩; rw [HZ.out]; have HB2 := Lib.hid hb2; have HTS2 := Lib.hid (HTS.out.keep (Keeps.below hb2 _)); have HS2 : Hid ((w.alloc (.cells #[.slice none 0 0] 24)).heap.size ≤ w2.heap.size) := Lib.hid (Nat.le_trans HT1.out.size hb2.size); have k1 : w2.cell? ⟨w.heap.size, 0, none⟩ = some (.slice (some ad) l.length cap) := (by rw [Lib.cell_of_heap ((hb2.block _ (Array.getElem?_eq_some_iff.1 HO1.out).1).trans HO1.out)]; rfl); clear hb2)
    | (go_at_call 34; refine (CloneW l w2 _ (fun b hb => Nat.le_trans HS2.out hb) ad cap HTS2.out (by omega)).mono ?_; rintro e w3 ⟨⟨a3, c3, rfl, hts3⟩, hb3⟩; have HTS3 := Lib.hid hts3; have HB3 := Lib.hid hb3; clear hts3 hb3))
  refine bodyPost_ret (v := .tuple #[.slice a3 l.length c3, .int .i64 0, .int .i64 0]) (by simp [results, Tryd.results14, go_sem]) rfl ?_
  exact ⟨⟨a3, c3, rfl, HTS3.out.mono fun i _ hi => Nat.le_trans HB1.out.size hi⟩, HB1.out.trans ((HT1.out.toBelow HB1.out.size fun b hb => by omega).trans ((HB2.out.mono (Nat.le_trans HB1.out.size HT1.out.size)).trans (HB3.out.mono (Nat.le_trans HB1.out.size HS2.out))))⟩

end Go.Proofs.YtikmgiapjigghabDoor

/- Walks: the program's ParseGoals. -/
namespace Go.Proofs.YtikmgiapjigghabDoor
open Go.RowKit

theorem true_list : pList trueB = .ok [trueT] [] := by kernel_rfl

/-- A text of one goal that bears the name alone. -/
theorem one_true {s : Bs} {t : Tm} (h : pList s = .ok [t] []) : (t.name = ⟨#[116, 114, 117, 101]⟩ ∧ t.args = []) ↔ s = trueB := by
  constructor
  · rintro ⟨h1, h2⟩
    obtain ⟨hs, -⟩ := pList_back h
    rw [List.append_nil] at hs
    have hs2 : s = t.txt := by rw [hs]; show t.txt ++ Tm.txtr [] = _; simp [Tm.txtr]
    obtain ⟨v, n, l⟩ := t
    simp only [Tm.name, Tm.args] at h1 h2
    subst h1 h2
    by_cases hv : v = 0
    · subst hv
      rw [hs2, Tm.txt_zero, if_pos rfl]
      simp [trueB]
    · exfalso
      have h86 : hd s = 86 := by rw [hs2, Tm.txt_var hv]; rfl
      rw [pList_more, pTerm_var h86] at h
      obtain ⟨u, r1, e1, e2⟩ := PR.bind_ok h
      obtain ⟨k, rfl, -, -, -⟩ := pVar_back e1
      have hm : ∀ (acc : List Tm) (r : Bs) (l : List Tm) (r' : Bs), pMore acc r = .ok l r' → ∃ x, l = acc ++ x := fun acc r l r' e => by
        unfold pMore at e
        split at e
        · obtain ⟨_, r2, _, e4⟩ := PR.bind_ok e
          obtain ⟨l2, r3, _, e6⟩ := PR.bind_ok e4
          simp only [PR.ok.injEq] at e6
          exact ⟨l2, e6.1.symm⟩
        · simp only [PR.ok.injEq] at e
          exact ⟨[], by rw [List.append_nil]; exact e.1.symm⟩
      obtain ⟨x, hx⟩ := hm _ _ _ _ e2
      simp only [List.cons_append, List.nil_append, List.cons.injEq, Tm.mk.injEq] at hx
      have := congrArg (fun b : ByteArray => b.data) hx.1.2.1
      simp at this
  · intro e
    subst e
    rw [true_list] at h
    simp only [PR.ok.injEq, List.cons.injEq, and_true] at h
    subst h
    exact ⟨rfl, rfl⟩

/-- What ParseGoals ends with. -/
def GoalsP (s : Bs) (w : World) (e : Ending) (w' : World) : Prop := ∃ a cap, e = .returned (.tuple #[.slice a (readG s).1.length cap, .int .i64 ((readG s).2.1 : Nat), .int .i64 ((readG s).2.2 : Nat)]) ∧ Ts w' (fun i => w.heap.size ≤ i) (readG s).1 a cap ∧ Below w.heap.size w w'

theorem GoalsP.none {s : Bs} {w w' : World} {n e : Nat} (h : readG s = ([], n, e)) (hb : Below w.heap.size w w') : GoalsP s w (.returned (.tuple #[.slice none 0 0, .int .i64 (n : Nat), .int .i64 (e : Nat)])) w' := by
  unfold GoalsP
  rw [h]
  exact ⟨Option.none, 0, rfl, Ts.empty _ _, hb⟩

theorem CloneNilW (w : World) : Calls Tryd.prog 34 #[.slice none 0 0] w fun e w' => e = .returned (.slice none 0 0) ∧ w' = w := by
  have qT : ∀ (w : World) (a : Option Addr) (n c n' c' : Nat), (binOp .eql 24 (.slice a n c) (.slice none n' c')).run Tryd.prog w = .ok (.bool a.isNone) w := fun w a n c n' c' => Lib.run_eql_slice_nil w _ _ a n c n' c' Tryd.underlying24
  go_enter Tryd.func34, Tryd.ntmps34
  go_wp2_with fail
  go_ret
  exact ⟨rfl, rfl⟩

theorem readG_one {s : Bs} (hs : ¬ 6000 < s.length) {t : Tm} (hx : pList s = .ok [t] []) (hz : queryE [t] = 0) : readG s = if t.name = ⟨#[116, 114, 117, 101]⟩ ∧ t.args = [] then ([], 0, 0) else ([t], 0, 0) := by
  unfold readG
  rw [if_neg hs, hx]
  simp only
  rw [if_neg (by simp), if_pos hz]
  by_cases h : t.name = ⟨#[116, 114, 117, 101]⟩ ∧ t.args = []
  · rw [if_pos h, if_pos ((one_true hx).1 h)]
  · rw [if_neg h, if_neg fun e => h ((one_true hx).2 e)]

theorem toL_true (n : ByteArray) : (n.toList == [116, 114, 117, 101]) = decide (n = ⟨#[116, 114, 117, 101]⟩) := by
  by_cases h : n = ⟨#[116, 114, 117, 101]⟩
  · subst h; decide +kernel
  · rw [decide_eq_false h, beq_eq_false_iff_ne]
    intro e
    apply h
    rw [ByteArray.toList_eq] at e
    apply ByteArray.ext
    apply Array.toList_inj.1
    exact e

set_option maxRecDepth 100000 in
set_option maxHeartbeats 800000 in
theorem ParseGoalsOne (s : Bs) (hs : s.length ≤ 6000) (t : Tm) (hx : pList s = .ok [t] []) (hz : queryE [t] = 0) (w : World) :
    Calls Tryd.prog 14 #[.string (strB s)] w (GoalsP s w) := by
  have hmf : ∀ (fn : Fn) (first cap : Array Value) (w : World), (Instr.makeFunc fn first cap).run Tryd.prog w = .ok (.func fn first cap) w := fun _ _ _ _ => rfl
  have HB1 := Lib.hid ((Below.refl w.heap.size w).alloc (Nat.le_refl _) (.cells #[.slice none 0 0] 24))
  have HO := Lib.hid (heap_alloc_new w (.cells #[.slice none 0 0] 24))
  have HP := Lib.hid (parseGW s hs w.heap.size _ HO.out)
  have HR := Lib.hid (readG_one (by omega) hx hz)
  rw [hx] at HP
  have HZ := Lib.hid hz
  have HCN := Lib.hid CloneNilW
  clear hx hz hs
  have tl := toL_true t.name
  by_cases h1 : t.name = ⟨#[116, 114, 117, 101]⟩
  · rw [decide_eq_true h1] at tl
    have HE1 := Lib.hid h1
    clear h1
    by_cases h2 : t.args = []
    · have HR2 : Hid (readG s = ([], 0, 0)) := Lib.hid (by rw [HR.out, if_pos ⟨HE1.out, h2⟩])
      have e2 : ((t.args.length : Int) == 0) = true := by rw [h2]; rfl
      clear h2
      go_enter Tryd.func14, Tryd.ntmps14
      go_wp2_with (first
        | (go_at_call 29; refine HP.out.mono ?_; rintro e w1 ⟨he, ht1, hp1⟩; rw [show endOf s (PR.ok [t] [] : PR (List Tm)) = (0, 0) from rfl] at he; simp only at he; subst he; have HT1 := Lib.hid ht1; obtain ⟨a, cap, ho1, hts⟩ := hp1 [t] rfl; obtain ⟨b, off, a', cap', rfl, hok, hlt, hcl, -⟩ := hts.at 0 (by simp); rw [Nat.zero_mul, Nat.add_zero] at hcl; have HO1 := Lib.hid ho1; have HTS := Lib.hid hts; have HCL := Lib.hid hcl; have HLT := Lib.hid hlt; have HOK := Lib.hid hok; have k0 : w1.cell? ⟨w.heap.size, 0, none⟩ = some (.slice (some ⟨b, off, none⟩) 1 cap) := (by rw [Lib.cell_of_heap ho1]; rfl); clear ht1 hp1 ho1 hts hcl hlt hok)
        | (go_at_call 24; refine (QueryW [t] w1 _ (some ⟨b, off, none⟩) cap HTS.out).mono ?_; rintro e w2 ⟨rfl, hb2⟩; rw [HZ.out]; have HB2 := Lib.hid hb2; have hh1 := (hb2.block _ (Array.getElem?_eq_some_iff.1 HO1.out).1).trans HO1.out; have k1 : w2.cell? ⟨w.heap.size, 0, none⟩ = some (.slice (some ⟨b, off, none⟩) 1 cap) := (by rw [Lib.cell_of_heap hh1]; rfl); have kz : w2.frozen? ⟨w.heap.size, 0, none⟩ = false := Lib.frozen_of_heap hh1 0; have c1 : w2.cell? ⟨b, off + 1, none⟩ = some (.string t.name) := (hb2.cell (p := ⟨b, off + 1, none⟩) HLT.out).trans HCL.out.name; have c2 : w2.cell? ⟨b, off + 2, none⟩ = some (.slice a' t.args.length cap') := (hb2.cell (p := ⟨b, off + 2, none⟩) HLT.out).trans HCL.out.args; clear hb2 hh1)
        | (go_at_call 34; refine (HCN.out _).mono ?_; rintro e w3 ⟨rfl, rfl⟩))
      refine bodyPost_ret (v := .tuple #[.slice none 0 0, .int .i64 0, .int .i64 0]) (by simp [results, Tryd.results14, go_sem]) rfl ?_
      refine GoalsP.none HR2.out ?_
      exact HB1.out.trans (((HT1.out.toBelow HB1.out.size fun b hb => by omega).trans (HB2.out.mono (Nat.le_trans HB1.out.size HT1.out.size))).trans (Below.setCell (B := w.heap.size) (Below.refl _ _) (p := ⟨w.heap.size, 0, none⟩) (Nat.le_refl _) _))
    · have HR2 : Hid (readG s = ([t], 0, 0)) := Lib.hid (by rw [HR.out, if_neg fun e => h2 e.2])
      have e2 : ((t.args.length : Int) == 0) = false := by
        rw [beq_eq_false_iff_ne]
        have : t.args.length ≠ 0 := fun e => h2 (List.eq_nil_of_length_eq_zero e)
        omega
      clear h2
      go_enter Tryd.func14, Tryd.ntmps14
      go_wp2_with (first
        | (go_at_call 29; refine HP.out.mono ?_; rintro e w1 ⟨he, ht1, hp1⟩; rw [show endOf s (PR.ok [t] [] : PR (List Tm)) = (0, 0) from rfl] at he; simp only at he; subst he; have HT1 := Lib.hid ht1; obtain ⟨a, cap, ho1, hts⟩ := hp1 [t] rfl; obtain ⟨b, off, a', cap', rfl, hok, hlt, hcl, -⟩ := hts.at 0 (by simp); rw [Nat.zero_mul, Nat.add_zero] at hcl; have HO1 := Lib.hid ho1; have HTS := Lib.hid hts; have HCL := Lib.hid hcl; have HLT := Lib.hid hlt; have HOK := Lib.hid hok; have k0 : w1.cell? ⟨w.heap.size, 0, none⟩ = some (.slice (some ⟨b, off, none⟩) 1 cap) := (by rw [Lib.cell_of_heap ho1]; rfl); clear ht1 hp1 ho1 hts hcl hlt hok)
        | (go_at_call 24; refine (QueryW [t] w1 _ (some ⟨b, off, none⟩) cap HTS.out).mono ?_; rintro e w2 ⟨rfl, hb2⟩; rw [HZ.out]; have HB2 := Lib.hid hb2; have HTS2 := Lib.hid (HTS.out.keep (Keeps.below hb2 _)); have HS2 : Hid ((w.alloc (.cells #[.slice none 0 0] 24)).heap.size ≤ w2.heap.size) := Lib.hid (Nat.le_trans HT1.out.size hb2.size); have hh1 := (hb2.block _ (Array.getElem?_eq_some_iff.1 HO1.out).1).trans HO1.out; have k1 : w2.cell? ⟨w.heap.size, 0, none⟩ = some (.slice (some ⟨b, off, none⟩) 1 cap) := (by rw [Lib.cell_of_heap hh1]; rfl); have kz : w2.frozen? ⟨w.heap.size, 0, none⟩ = false := Lib.frozen_of_heap hh1 0; have c1 : w2.cell? ⟨b, off + 1, none⟩ = some (.string t.name) := (hb2.cell (p := ⟨b, off + 1, none⟩) HLT.out).trans HCL.out.name; have c2 : w2.cell? ⟨b, off + 2, none⟩ = some (.slice a' t.args.length cap') := (hb2.cell (p := ⟨b, off + 2, none⟩) HLT.out).trans HCL.out.args; clear hb2 hh1)
        | (go_at_call 34; refine (CloneW [t] w2 _ (fun b hb => Nat.le_trans HS2.out hb) ⟨b, off, none⟩ cap HTS2.out (by simp)).mono ?_; rintro e w3 ⟨⟨a3, c3, rfl, hts3⟩, hb3⟩; have HTS3 := Lib.hid hts3; have HB3 := Lib.hid hb3; clear hts3 hb3))
      refine bodyPost_ret (v := .tuple #[.slice a3 1 c3, .int .i64 0, .int .i64 0]) (by simp [results, Tryd.results14, go_sem]) rfl ?_
      unfold GoalsP
      rw [HR2.out]
      exact ⟨a3, c3, rfl, HTS3.out.mono fun i _ hi => Nat.le_trans HB1.out.size hi, HB1.out.trans ((HT1.out.toBelow HB1.out.size fun b hb => by omega).trans ((HB2.out.mono (Nat.le_trans HB1.out.size HT1.out.size)).trans (HB3.out.mono (Nat.le_trans HB1.out.size HS2.out))))⟩
  · rw [decide_eq_false h1] at tl
    have HR2 : Hid (readG s = ([t], 0, 0)) := Lib.hid (by rw [HR.out, if_neg fun e => h1 e.1])
    clear h1
    go_enter Tryd.func14, Tryd.ntmps14
    go_wp2_with (first
      | (go_at_call 29; refine HP.out.mono ?_; rintro e w1 ⟨he, ht1, hp1⟩; rw [show endOf s (PR.ok [t] [] : PR (List Tm)) = (0, 0) from rfl] at he; simp only at he; subst he; have HT1 := Lib.hid ht1; obtain ⟨a, cap, ho1, hts⟩ := hp1 [t] rfl; obtain ⟨b, off, a', cap', rfl, hok, hlt, hcl, -⟩ := hts.at 0 (by simp); rw [Nat.zero_mul, Nat.add_zero] at hcl; have HO1 := Lib.hid ho1; have HTS := Lib.hid hts; have HCL := Lib.hid hcl; have HLT := Lib.hid hlt; have HOK := Lib.hid hok; have k0 : w1.cell? ⟨w.heap.size, 0, none⟩ = some (.slice (some ⟨b, off, none⟩) 1 cap) := (by rw [Lib.cell_of_heap ho1]; rfl); clear ht1 hp1 ho1 hts hcl hlt hok)
      | (go_at_call 24; refine (QueryW [t] w1 _ (some ⟨b, off, none⟩) cap HTS.out).mono ?_; rintro e w2 ⟨rfl, hb2⟩; rw [HZ.out]; have HB2 := Lib.hid hb2; have HTS2 := Lib.hid (HTS.out.keep (Keeps.below hb2 _)); have HS2 : Hid ((w.alloc (.cells #[.slice none 0 0] 24)).heap.size ≤ w2.heap.size) := Lib.hid (Nat.le_trans HT1.out.size hb2.size); have hh1 := (hb2.block _ (Array.getElem?_eq_some_iff.1 HO1.out).1).trans HO1.out; have k1 : w2.cell? ⟨w.heap.size, 0, none⟩ = some (.slice (some ⟨b, off, none⟩) 1 cap) := (by rw [Lib.cell_of_heap hh1]; rfl); have kz : w2.frozen? ⟨w.heap.size, 0, none⟩ = false := Lib.frozen_of_heap hh1 0; have c1 : w2.cell? ⟨b, off + 1, none⟩ = some (.string t.name) := (hb2.cell (p := ⟨b, off + 1, none⟩) HLT.out).trans HCL.out.name; have c2 : w2.cell? ⟨b, off + 2, none⟩ = some (.slice a' t.args.length cap') := (hb2.cell (p := ⟨b, off + 2, none⟩) HLT.out).trans HCL.out.args; clear hb2 hh1)
      | (go_at_call 34; refine (CloneW [t] w2 _ (fun b hb => Nat.le_trans HS2.out hb) ⟨b, off, none⟩ cap HTS2.out (by simp)).mono ?_; rintro e w3 ⟨⟨a3, c3, rfl, hts3⟩, hb3⟩; have HTS3 := Lib.hid hts3; have HB3 := Lib.hid hb3; clear hts3 hb3))
    refine bodyPost_ret (v := .tuple #[.slice a3 1 c3, .int .i64 0, .int .i64 0]) (by simp [results, Tryd.results14, go_sem]) rfl ?_
    unfold GoalsP
    rw [HR2.out]
    exact ⟨a3, c3, rfl, HTS3.out.mono fun i _ hi => Nat.le_trans HB1.out.size hi, HB1.out.trans ((HT1.out.toBelow HB1.out.size fun b hb => by omega).trans ((HB2.out.mono (Nat.le_trans HB1.out.size HT1.out.size)).trans (HB3.out.mono (Nat.le_trans HB1.out.size HS2.out))))⟩

end Go.Proofs.YtikmgiapjigghabDoor

/- Walks: the program's ParseGoals, whatever it is handed. -/
namespace Go.Proofs.YtikmgiapjigghabDoor
open Go.RowKit

set_option maxRecDepth 100000 in
set_option maxHeartbeats 800000 in
theorem ParseGoalsW (s : Bs) (hl : s.length ≤ 9223372036854775807) (w : World) : Calls Tryd.prog 14 #[.string (strB s)] w (GoalsP s w) := by
  have hmf : ∀ (fn : Fn) (first cap : Array Value) (w : World), (Instr.makeFunc fn first cap).run Tryd.prog w = .ok (.func fn first cap) w := fun _ _ _ _ => rfl
  have HB1 := Lib.hid ((Below.refl w.heap.size w).alloc (Nat.le_refl _) (.cells #[.slice none 0 0] 24))
  have HO := Lib.hid (heap_alloc_new w (.cells #[.slice none 0 0] 24))
  by_cases hs : 6000 < s.length
  · have HR : Hid (readG s = ([], 0, 2)) := Lib.hid (if_pos hs)
    have HP := Lib.hid (fun d u => parseBig s hs hl d u)
    clear hs hl
    go_enter Tryd.func14, Tryd.ntmps14
    go_wp2_with (go_at_call 29; refine (HP.out _ _).mono ?_; rintro e w1 ⟨rfl, hb1⟩; have HB2 := Lib.hid hb1; clear hb1)
    refine bodyPost_ret (v := .tuple #[.slice none 0 0, .int .i64 0, .int .i64 2]) (by simp [results, Tryd.results14, go_sem]) rfl ?_
    exact GoalsP.none HR.out (HB1.out.trans (HB2.out.mono HB1.out.size))
  · have HP := Lib.hid (parseGW s (by omega) w.heap.size _ HO.out)
    have HR : Hid (readG s = match pList s with
        | .no r => ([], s.length - r.length, 1)
        | .ok l r => if r ≠ [] then ([], s.length - r.length, 1) else if queryE l = 0 then (if s = trueB then ([], 0, 0) else (l, 0, 0)) else ([], 0, queryE l)) := Lib.hid (if_neg hs)
    have HS := Lib.hid hs
    clear hs hl
    generalize hx : pList s = x at HP HR
    cases x with
    | no r =>
      clear hx
      go_enter Tryd.func14, Tryd.ntmps14
      go_wp2_with (go_at_call 29; refine HP.out.mono ?_; rintro e w1 ⟨he, ht1, -⟩; rw [show endOf s (PR.no r : PR (List Tm)) = (s.length - r.length, 1) from rfl] at he; simp only at he; subst he; have HT1 := Lib.hid ht1; clear ht1)
      refine bodyPost_ret (v := .tuple #[.slice none 0 0, .int .i64 ((s.length - r.length : Nat) : Int), .int .i64 1]) (by simp [results, Tryd.results14, go_sem]) rfl ?_
      exact GoalsP.none HR.out (HB1.out.trans (HT1.out.toBelow HB1.out.size fun b hb => by omega))
    | ok l r =>
      by_cases hr : r = []
      · subst hr
        have h0 : 1 ≤ l.length := by
          obtain ⟨-, h⟩ := pList_back hx
          exact Nat.pos_of_ne_zero fun e => h (List.eq_nil_of_length_eq_zero e)
        by_cases hz : queryE l = 0
        · by_cases h1 : l.length = 1
          · obtain ⟨t, rfl⟩ := List.length_eq_one_iff.1 h1
            exact ParseGoalsOne s (by have := HS.out; omega) t hx hz w
          · refine (ParseGoalsTwo s (by have := HS.out; omega) l hx hz h1 h0 w).mono ?_
            rintro e w' ⟨⟨a, cap, rfl, hts⟩, hb⟩
            have hne : ¬ s = trueB := fun e => by
              rw [e, true_list] at hx
              simp only [PR.ok.injEq, and_true] at hx
              exact h1 (by rw [← hx]; rfl)
            have hr2 : readG s = (l, 0, 0) := by
              rw [HR.out]
              show (if ([] : Bs) ≠ [] then _ else _) = _
              rw [if_neg (by simp), if_pos hz, if_neg hne]
            unfold GoalsP
            rw [hr2]
            exact ⟨a, cap, rfl, hts, hb⟩
        · have HR2 : Hid (readG s = ([], 0, queryE l)) := Lib.hid (by
            rw [HR.out]
            show (if ([] : Bs) ≠ [] then _ else _) = _
            rw [if_neg (by simp), if_neg hz])
          clear HR hx
          obtain ⟨n, hn⟩ : ∃ n, queryE l = n := ⟨_, rfl⟩
          have HCW := Lib.hid (fun u ok a cap h => QueryW l u ok a cap h)
          rw [hn] at HCW HR2 hz
          have e1 : ((n : Int) != 0) = true := by rw [bne_iff_ne]; omega
          have e2 : ((n : Int) == 0) = false := by rw [beq_eq_false_iff_ne]; omega
          clear hz hn h0
          go_enter Tryd.func14, Tryd.ntmps14
          go_wp2_with (first
            | (go_at_call 29; refine HP.out.mono ?_; rintro e w1 ⟨he, ht1, hp1⟩; rw [show endOf s (PR.ok l [] : PR (List Tm)) = (0, 0) from rfl] at he; simp only at he; subst he; have HT1 := Lib.hid ht1; obtain ⟨a, cap, ho1, hts⟩ := hp1 l rfl; have HTS := Lib.hid hts; have k0 : w1.cell? ⟨w.heap.size, 0, none⟩ = some (.slice a l.length cap) := (by rw [Lib.cell_of_heap ho1]; rfl); clear ht1 hp1 ho1 hts)
            | (go_at_call 24; refine (HCW.out w1 _ a cap HTS.out).mono ?_; rintro e w2 ⟨rfl, hb2⟩; have HB2 := Lib.hid hb2; clear hb2))
          refine bodyPost_ret (v := .tuple #[.slice none 0 0, .int .i64 0, .int .i64 n]) (by simp [results, Tryd.results14, go_sem]) rfl ?_
          exact GoalsP.none HR2.out (HB1.out.trans ((HT1.out.toBelow HB1.out.size fun b hb => by omega).trans (HB2.out.mono (Nat.le_trans HB1.out.size HT1.out.size))))
      · have HR2 : Hid (readG s = ([], s.length - r.length, 1)) := Lib.hid (by
          rw [HR.out]
          exact if_pos hr)
        have HE : Hid (endOf s (PR.ok l r : PR (List Tm)) = (s.length - r.length, 1)) := Lib.hid (if_neg hr)
        clear hx HR
        go_enter Tryd.func14, Tryd.ntmps14
        go_wp2_with (go_at_call 29; refine HP.out.mono ?_; rintro e w1 ⟨he, ht1, -⟩; rw [HE.out] at he; simp only at he; subst he; have HT1 := Lib.hid ht1; clear ht1)
        refine bodyPost_ret (v := .tuple #[.slice none 0 0, .int .i64 ((s.length - r.length : Nat) : Int), .int .i64 1]) (by simp [results, Tryd.results14, go_sem]) rfl ?_
        exact GoalsP.none HR2.out (HB1.out.trans (HT1.out.toBelow HB1.out.size fun b hb => by omega))

end Go.Proofs.YtikmgiapjigghabDoor

/- Walks: the reference's SameProgram, at the same program. -/
namespace Go.Proofs.YtikmgiapjigghabDoor
open Go.RowKit

set_option maxRecDepth 100000 in
set_option maxHeartbeats 800000 in
theorem SameProgW (P : List Cl) (w : World) (ok : Nat → Prop) (a1 a2 : Option Addr) (c1 c2 : Nat) (h1 : Pr w ok P a1 c1) (h2 : Pr w ok P a2 c2) :
    Calls Tryd.prog 17 #[.slice a1 P.length c1, .slice a2 P.length c2] w fun e w' => e = .returned (.bool true) ∧ Below w.heap.size w w' := by
  have H1 := Lib.hid h1; have H2 := Lib.hid h2
  have hcl : P.length ≤ 9223372036854775807 := by have := h1.room; unfold maxLen at this; omega
  clear h1 h2
  go_enter Tryd.func17, Tryd.ntmps17
  go_wp2_with fail
  go_loopw [5] (fun x5 wr => ∃ k : Nat, k ≤ P.length ∧ x5 = .int .i64 k ∧ Hid (Below w.heap.size w wr)) (fun x5 _ => P.length - (intOf x5).toNat)
  case atStart => exact ⟨0, Nat.zero_le _, rfl, Lib.hid (Below.refl _ _)⟩
  case round =>
    obtain ⟨k, hk, rfl, HB⟩ := hrel
    by_cases hlt : k < P.length
    · obtain ⟨b, off, x1, x2, d1, d2, rfl, -, hbs, hc, hd, ht1, ht2⟩ := H1.out.elem k hlt
      obtain ⟨b', off', x1', x2', d1', d2', rfl, -, hbs', hc', hd', ht1', ht2'⟩ := H2.out.elem k hlt
      have KH : Hid (∀ u, Below w.heap.size w u → (fun u => u.cell? ⟨b, off + k * 4, none⟩ = some (.int .i64 P[k].head.var) ∧ u.cell? ⟨b, off + k * 4 + 1, none⟩ = some (.string P[k].head.name) ∧ u.cell? ⟨b, off + k * 4 + 2, none⟩ = some (.slice x1 P[k].head.args.length d1) ∧ u.cell? ⟨b, off + k * 4 + 3, none⟩ = some (.slice x2 P[k].body.length d2) ∧ u.cell? ⟨b', off' + k * 4, none⟩ = some (.int .i64 P[k].head.var) ∧ u.cell? ⟨b', off' + k * 4 + 1, none⟩ = some (.string P[k].head.name) ∧ u.cell? ⟨b', off' + k * 4 + 2, none⟩ = some (.slice x1' P[k].head.args.length d1') ∧ u.cell? ⟨b', off' + k * 4 + 3, none⟩ = some (.slice x2' P[k].body.length d2') ∧ Below w.heap.size w u) u) := Lib.hid (fun u hu => ⟨(hu.cell (p := ⟨b, off + k * 4, none⟩) hbs).trans hc.var, (hu.cell (p := ⟨b, off + k * 4 + 1, none⟩) hbs).trans hc.name, (hu.cell (p := ⟨b, off + k * 4 + 2, none⟩) hbs).trans hc.args, (hu.cell (p := ⟨b, off + k * 4 + 3, none⟩) hbs).trans hd, (hu.cell (p := ⟨b', off' + k * 4, none⟩) hbs').trans hc'.var, (hu.cell (p := ⟨b', off' + k * 4 + 1, none⟩) hbs').trans hc'.name, (hu.cell (p := ⟨b', off' + k * 4 + 2, none⟩) hbs').trans hc'.args, (hu.cell (p := ⟨b', off' + k * 4 + 3, none⟩) hbs').trans hd', hu⟩)
      have NX : ∀ u u', Below w.heap.size w u → Below u.heap.size u u' → Below w.heap.size w u' := fun u u' h1 h2 => h1.trans (h2.mono h1.size)
      have HT := Lib.hid (fun u (hu : Below w.heap.size w u) => SameTermOf P[k].head (SameTermsW _) P[k].head u ok x1 x1' d1 d1' (ht1.keep (Keeps.below hu _)) (ht1'.keep (Keeps.below hu _)))
      have HS := Lib.hid (fun u (hu : Below w.heap.size w u) => SameTermsW P[k].body P[k].body u ok x2 x2' d2 d2' (ht2.keep (Keeps.below hu _)) (ht2'.keep (Keeps.below hu _)))
      rw [eqT_true rfl] at HT
      rw [eqTs_true rfl] at HS
      have hnot : ∀ (x : Bool) (w : World), (Op.unary .not (.bool x)).run Tryd.prog w = .ok (.bool (!x)) w := fun _ _ => rfl
      clear hc hd ht1 ht2 hc' hd' ht1' ht2'
      have hb0 := HB.out
      go_wp2_with fail
      go_region_held3 (fun u => u.cell? ⟨b, off + k * 4, none⟩ = some (.int .i64 P[k].head.var) ∧ u.cell? ⟨b, off + k * 4 + 1, none⟩ = some (.string P[k].head.name) ∧ u.cell? ⟨b, off + k * 4 + 2, none⟩ = some (.slice x1 P[k].head.args.length d1) ∧ u.cell? ⟨b, off + k * 4 + 3, none⟩ = some (.slice x2 P[k].body.length d2) ∧ u.cell? ⟨b', off' + k * 4, none⟩ = some (.int .i64 P[k].head.var) ∧ u.cell? ⟨b', off' + k * 4 + 1, none⟩ = some (.string P[k].head.name) ∧ u.cell? ⟨b', off' + k * 4 + 2, none⟩ = some (.slice x1' P[k].head.args.length d1') ∧ u.cell? ⟨b', off' + k * 4 + 3, none⟩ = some (.slice x2' P[k].body.length d2') ∧ Below w.heap.size w u)
        (first
          | (with_reducible assumption)
          | ((with_reducible refine KH.out _ ?_); repeat' (first | (with_reducible assumption) | (with_reducible refine Below.drew ?_) | (with_reducible exact Below.refl _ _) | omega)))
        (first
          | (go_at_call 39; refine (HT.out _ (And.right (And.right (And.right (And.right (And.right (And.right (And.right (And.right (by assumption)))))))))).mono ?_; rintro e wA ⟨rfl, hbA⟩; have chA : Below w.heap.size w wA := NX _ _ (And.right (And.right (And.right (And.right (And.right (And.right (And.right (And.right (by assumption))))))))) hbA)
          | (go_at_call 18; refine (HS.out _ (And.right (And.right (And.right (And.right (And.right (And.right (And.right (And.right (by assumption)))))))))).mono ?_; rintro e wB ⟨rfl, hbB⟩; have chB : Below w.heap.size w wB := NX _ _ (And.right (And.right (And.right (And.right (And.right (And.right (And.right (And.right (by assumption))))))))) hbB))
      all_goals
        go_wp2_with fail
        go_roundw
        case measure => simp [intOf]; omega
        case rel => exact ⟨k + 1, by omega, by go_num, Lib.hid chB⟩
    · go_wp2_with fail
      go_ret
      exact ⟨rfl, HB.out⟩

end Go.Proofs.YtikmgiapjigghabDoor

/- Walks: textBegun. -/
namespace Go.Proofs.YtikmgiapjigghabDoor
open Go.RowKit

theorem itoaAny : ItoaOk (fun _ => True) 99 := ⟨fun _ _ _ _ => trivial, fun u n _ hn => (Tryd.strconv_Itoa_small n (by omega) u).mono fun e w' h => ⟨by rw [h.1, digs_dec]; rfl, by rw [h.2]; exact Below.refl _ _⟩⟩

theorem sample_ok : programE sampleL = 0 := by decide +kernel
def smpTxt : Bs := [112, 40, 97, 41, 46, 10, 112, 40, 86, 49, 41, 32, 58, 45, 32, 101, 113, 40, 86, 49, 44, 32, 98, 41, 46, 10]
theorem digs1 : digs 1 = [49] := digs_one (by omega)
theorem prog_smp : progTxt sampleL = smpTxt := by
  simp [progTxt, sampleL, clTxt, tP, tEq, tmA, tmB, VarT, txtL, Tm.txtr, Tm.txt, digs1, smpTxt]
theorem print_smp : printB sampleL = smpTxt := by unfold printB; rw [if_pos sample_ok]; exact prog_smp
theorem read_smp : readP smpTxt = (sampleL, 0, 0) := by rw [← prog_smp]; exact back_prog sample_ok (by rw [prog_smp]; decide)

def twoTxt : Bs := [112, 40, 86, 50, 41, 44, 32, 33]
def twoL : List Tm := [tP (VarT 2), .mk 0 ⟨#[33]⟩ []]
theorem two_ok : queryE twoL = 0 := by decide +kernel
theorem two_list : pList twoTxt = .ok twoL [] := by kernel_rfl

set_option maxRecDepth 100000 in
set_option maxHeartbeats 800000 in
theorem textBegunW (w : World) : Calls Tryd.prog 12 #[] w fun e w' => e = .returned (.bool true) ∧ Below w.heap.size w w' := by
  have hPR := Lib.hid (fun u ok a h => PrintW itoaAny (by omega) sampleL u trivial ok a 2 h)
  have hPA := Lib.hid (fun u => ParseW smpTxt (by decide) u)
  have hGO := Lib.hid (fun u => GoalsW itoaAny (by omega) [] u trivial (fun _ => True) none 0 (Ts.empty _ _))
  have hPG := Lib.hid (fun u => ParseGoalsTwo twoTxt (by decide) twoL two_list two_ok (by decide) (by decide) u)
  rw [print_smp, sample_ok] at hPR
  have g0 : goalsB [] = trueB := by decide +kernel
  have g1 : queryE [] = 0 := by decide +kernel
  rw [g0, g1] at hGO
  have f1 : (strB smpTxt).toList = [112, 40, 97, 41, 46, 10, 112, 40, 86, 49, 41, 32, 58, 45, 32, 101, 113, 40, 86, 49, 44, 32, 98, 41, 46, 10] := by kernel_rfl
  have f2 : (strB trueB).toList = [116, 114, 117, 101] := by kernel_rfl
  have e3 : ((twoL.length : Int) == 2) = true := by decide
  go_enter Tryd.func12, Tryd.ntmps12
  go_wp2_with (first
    | (go_at_call 28; refine (sampleW _).mono ?_; rintro e w1 ⟨a1, rfl, hp1, hb1⟩; have HP1 := Lib.hid hp1; have HB1 := Lib.hid hb1; clear hp1 hb1)
    | (go_at_call 6; refine (hPR.out w1 _ (some a1) HP1.out).mono ?_; rintro e w2 ⟨rfl, hb2⟩; have HB2 := Lib.hid (HB1.out.trans (hb2.mono HB1.out.size)); clear hb2)
    | (go_at_call 13; refine (hPA.out w2).mono ?_; rintro e w3 ⟨a3, c3, he, hp3, hb3⟩; rw [read_smp] at he hp3; simp only at he hp3; subst he; have HP3 := Lib.hid hp3; have HB3 := Lib.hid (HB2.out.trans (hb3.mono HB2.out.size)); clear hp3 hb3)
    | (go_at_call 7; refine (hGO.out w3).mono ?_; rintro e w4 ⟨rfl, hb4⟩; have HB4 := Lib.hid (HB3.out.trans (hb4.mono HB3.out.size)); have HC4 := Lib.hid hb4; clear hb4)
    | (go_at_call 14; refine (hPG.out w4).mono ?_; rintro e w5 ⟨⟨a5, c5, rfl, -⟩, hb5⟩; have HB5 := Lib.hid (HB4.out.trans (hb5.mono HB4.out.size)); have HC5 := Lib.hid (HC4.out.trans (hb5.mono HC4.out.size)); clear hb5)
    | (go_at_call 17; refine (SameProgW sampleL _ (fun _ => True) a3 (some a1) c3 2 ((HP3.out.mono fun _ _ _ => trivial).keep (Keeps.below (HC5.out.trans (HB1.out.mono HC5.out.size)) _)) (HP1.out.mono fun _ _ _ => trivial)).mono ?_; rintro e w7 ⟨rfl, hb7⟩; have HB7 := Lib.hid ((HB5.out.trans (HB1.out.mono HB5.out.size)).trans (hb7.mono (HB5.out.trans (HB1.out.mono HB5.out.size)).size)); clear hb7))
  go_ret
  exact ⟨rfl, HB7.out⟩

end Go.Proofs.YtikmgiapjigghabDoor
