/- Walks: the reference's ReadGoals. -/
import Derived.Test.YtikmgiapjigghabDoorTbTrd
namespace Go.Proofs.YtikmgiapjigghabDoor
open Go.RowKit

theorem readAll {s : Bs} (hs : s.length ≤ 6000) : ∀ L, RTAt s L ∧ RLAt s L := by
  intro L
  induction L using Nat.strongRecOn with
  | _ L ih =>
    have h := TermStepR hs fun L' hL => (ih L' hL).2
    exact ⟨h, ListStepR hs h⟩

theorem termAtR {s : Bs} (hs : s.length ≤ 6000) (k : Nat) (hk : k ≤ s.length) (w : World) : Calls Tryd.prog 35 #[.string (strB s), .int .i64 k] w (RTPost s w (pTerm (s.drop k))) := (readAll hs s.length).1 k w hk (by omega)
theorem listAtR {s : Bs} (hs : s.length ≤ 6000) (k : Nat) (hk : k ≤ s.length) (w : World) : Calls Tryd.prog 38 #[.string (strB s), .int .i64 k] w (RLPost s w (pList (s.drop k))) := (readAll hs s.length).2 k w hk (by omega)

set_option maxRecDepth 100000 in
set_option maxHeartbeats 800000 in
theorem ReadGoalsW (s : Bs) (w : World) : Calls Tryd.prog 16 #[.string (strB s)] w (GoalsP s w) := by
  have hsz : (strB s).size = s.length := strB_size s
  by_cases hs : 6000 < s.length
  · have HR : Hid (readG s = ([], 0, 2)) := Lib.hid (if_pos hs)
    have h1 : (6000 : Int) < (s.length : Int) := by omega
    clear hs
    go_enter Tryd.func16, Tryd.ntmps16
    go_wp2_with fail
    refine bodyPost_ret (v := .tuple #[.slice none 0 0, .int .i64 0, .int .i64 2]) (by simp [results, Tryd.results16, go_sem]) rfl ?_
    exact GoalsP.none HR.out (Below.refl _ _)
  · have HR : Hid (readG s = match pList s with
        | .no r => ([], s.length - r.length, 1)
        | .ok l r => if r ≠ [] then ([], s.length - r.length, 1) else if queryE l = 0 then (if s = trueB then ([], 0, 0) else (l, 0, 0)) else ([], 0, queryE l)) := Lib.hid (if_neg hs)
    have h1 : ¬ (6000 : Int) < (s.length : Int) := by omega
    have hl := listAtR (s := s) (by omega) 0 (Nat.zero_le _) w
    rw [List.drop_zero] at hl
    have HL := Lib.hid hl
    clear hs hl
    generalize hx : pList s = x at HL HR
    cases x with
    | no r =>
      clear hx
      go_enter Tryd.func16, Tryd.ntmps16
      go_wp2_with (go_at_call 38; refine HL.out.mono ?_; rintro e w1 ⟨hb1, rfl⟩; have HB1 := Lib.hid hb1; clear hb1)
      refine bodyPost_ret (v := .tuple #[.slice none 0 0, .int .i64 ((s.length - r.length : Nat) : Int), .int .i64 1]) (by simp [results, Tryd.results16, go_sem]) rfl ?_
      exact GoalsP.none HR.out HB1.out
    | ok l r =>
      have hsuf := pList_suf (r := s) hx
      by_cases hr : r = []
      · subst hr
        have hj : ¬ (((s.length - ([] : Bs).length : Nat) : Int)) < (s.length : Int) := by simp
        have HCQ := Lib.hid (fun a c u ok (hok : ∀ b, u.heap.size ≤ b → ok b) (h : Ts u ok l a c) => CheckQueryW l u ok hok a c h)
        have HR2 : Hid (readG s = if queryE l = 0 then (if s = trueB then ([], 0, 0) else (l, 0, 0)) else ([], 0, queryE l)) := Lib.hid (by
          rw [HR.out]
          show (if ([] : Bs) ≠ [] then _ else _) = _
          rw [if_neg (by simp)])
        clear HR hx hsuf
        by_cases hz : queryE l = 0
        · rw [hz] at HCQ
          rw [if_pos hz] at HR2
          clear hz
          have tl := toL_true (strB s)
          by_cases hT : s = trueB
          · rw [decide_eq_true (by rw [hT]; rfl)] at tl
            rw [if_pos hT] at HR2
            clear hT
            go_enter Tryd.func16, Tryd.ntmps16
            go_wp2_with (first
              | (go_at_call 38; refine HL.out.mono ?_; rintro e w1 ⟨hb1, a, c, rfl, hts⟩; have HB1 := Lib.hid hb1; have HTS := Lib.hid hts; clear hb1 hts)
              | (go_at_call 9; refine (HCQ.out a c w1 _ (fun b hb => Nat.le_trans HB1.out.size hb) HTS.out).mono ?_; rintro e w2 ⟨rfl, hb2⟩; have HB2 := Lib.hid (HB1.out.trans (hb2.mono HB1.out.size)); clear hb2))
            refine bodyPost_ret (v := .tuple #[.slice none 0 0, .int .i64 0, .int .i64 0]) (by simp [results, Tryd.results16, go_sem]) rfl ?_
            exact GoalsP.none HR2.out HB2.out
          · rw [decide_eq_false (fun e => hT (strB_inj (e.trans (show (⟨#[116, 114, 117, 101]⟩ : ByteArray) = strB trueB from rfl))))] at tl
            rw [if_neg hT] at HR2
            clear hT
            go_enter Tryd.func16, Tryd.ntmps16
            go_wp2_with (first
              | (go_at_call 38; refine HL.out.mono ?_; rintro e w1 ⟨hb1, a, c, rfl, hts⟩; have HB1 := Lib.hid hb1; have HTS := Lib.hid hts; clear hb1 hts)
              | (go_at_call 9; refine (HCQ.out a c w1 _ (fun b hb => Nat.le_trans HB1.out.size hb) HTS.out).mono ?_; rintro e w2 ⟨rfl, hb2⟩; have HB2 := Lib.hid (HB1.out.trans (hb2.mono HB1.out.size)); have HTS2 := Lib.hid (HTS.out.keep (Keeps.below hb2 _)); clear hb2))
            refine bodyPost_ret (v := .tuple #[.slice a l.length c, .int .i64 0, .int .i64 0]) (by simp [results, Tryd.results16, go_sem]) rfl ?_
            unfold GoalsP
            rw [HR2.out]
            exact ⟨a, c, rfl, HTS2.out, HB2.out⟩
        · rw [if_neg hz] at HR2
          obtain ⟨n, hn⟩ : ∃ n, queryE l = n := ⟨_, rfl⟩
          rw [hn] at HCQ HR2 hz
          have e1 : ((n : Int) != 0) = true := by rw [bne_iff_ne]; omega
          clear hz hn
          go_enter Tryd.func16, Tryd.ntmps16
          go_wp2_with (first
            | (go_at_call 38; refine HL.out.mono ?_; rintro e w1 ⟨hb1, a, c, rfl, hts⟩; have HB1 := Lib.hid hb1; have HTS := Lib.hid hts; clear hb1 hts)
            | (go_at_call 9; refine (HCQ.out a c w1 _ (fun b hb => Nat.le_trans HB1.out.size hb) HTS.out).mono ?_; rintro e w2 ⟨rfl, hb2⟩; have HB2 := Lib.hid (HB1.out.trans (hb2.mono HB1.out.size)); clear hb2))
          refine bodyPost_ret (v := .tuple #[.slice none 0 0, .int .i64 0, .int .i64 n]) (by simp [results, Tryd.results16, go_sem]) rfl ?_
          exact GoalsP.none HR2.out HB2.out
      · have HR2 : Hid (readG s = ([], s.length - r.length, 1)) := Lib.hid (by rw [HR.out]; exact if_pos hr)
        have hj : (((s.length - r.length : Nat) : Int)) < (s.length : Int) := by
          have hrl : 0 < r.length := Nat.pos_of_ne_zero fun e => hr (List.eq_nil_of_length_eq_zero e)
          have := hsuf.length_le
          omega
        clear hx HR hr hsuf
        go_enter Tryd.func16, Tryd.ntmps16
        go_wp2_with (go_at_call 38; refine HL.out.mono ?_; rintro e w1 ⟨hb1, a, c, rfl, hts⟩; have HB1 := Lib.hid hb1; clear hb1 hts)
        refine bodyPost_ret (v := .tuple #[.slice none 0 0, .int .i64 ((s.length - r.length : Nat) : Int), .int .i64 1]) (by simp [results, Tryd.results16, go_sem]) rfl ?_
        exact GoalsP.none HR2.out HB1.out

end Go.Proofs.YtikmgiapjigghabDoor
