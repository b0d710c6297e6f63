/- Walks: the reference's signAt and mustAt. -/
import Derived.Test.YtikmgiapjigghabDoorTb10
namespace Go.Proofs.YtikmgiapjigghabDoor
open Go.RowKit

theorem hd_at {s : Bs} {k : Nat} (h : k < s.length) : hd (s.drop k) = s[k] := by rw [List.drop_eq_getElem_cons h]; rfl
theorem hd_end {s : Bs} {k : Nat} (h : ¬ k < s.length) : hd (s.drop k) = 0 := by rw [List.drop_of_length_le (by omega)]; rfl

set_option maxRecDepth 100000 in
set_option maxHeartbeats 400000 in
theorem signAtW (s : Bs) (k : Nat) (w : World) :
    Calls Tryd.prog 36 #[.string (strB s), .int .i64 k] w fun e w' => e = .returned (.int .u8 ((hd (s.drop k)).toNat : Nat)) ∧ w' = w := by
  have hsz : (strB s).size = s.length := strB_size s
  by_cases hj : k < s.length
  · have hj1 : (k : Int) < (s.length : Int) := by omega
    have hj2 : 0 ≤ (k : Int) ∧ (k : Int) < (s.length : Int) := by omega
    have hb1 : k < (strB s).size := by rw [hsz]; exact hj
    have hg : (strB s)[k] = hd (s.drop k) := by rw [strB_get, hd_at hj]
    go_enter Tryd.func36, Tryd.ntmps36
    go_wp2_with fail
    go_ret
    refine ⟨?_, rfl⟩
    rw [← hg]
    rfl
  · have hj1 : ¬ (k : Int) < (s.length : Int) := by omega
    rw [hd_end hj]
    go_enter Tryd.func36, Tryd.ntmps36
    go_wp2_with fail
    go_ret
    exact ⟨rfl, rfl⟩

/-- What mustAt ends with. -/
def MustP (s : Bs) (w : World) (x : PR Unit) (e : Ending) (w' : World) : Prop :=
  Below w.heap.size w w' ∧
  match x with
  | .ok _ r' => e = .returned (.tuple #[.int .i64 ((s.length - r'.length : Nat) : Int), .bool true])
  | .no r' => e = .returned (.tuple #[.int .i64 ((s.length - r'.length : Nat) : Int), .bool false])

theorem left_at {s : Bs} {k : Nat} (h : k ≤ s.length) : s.length - (s.drop k).length = k := by rw [List.length_drop]; omega

set_option maxRecDepth 100000 in
set_option maxHeartbeats 800000 in
theorem mustAtW (x : Bs) (hx : x.length ≤ 100) (s : Bs) (hs : s.length ≤ 6000) (k : Nat) (hk : k ≤ s.length) (w : World) :
    Calls Tryd.prog 37 #[.string (strB s), .int .i64 k, .string (strB x)] w (MustP s w (pNeed x (s.drop k))) := by
  have hsz : (strB s).size = s.length := strB_size s
  have hxz : (strB x).size = x.length := strB_size x
  go_enter Tryd.func37, Tryd.ntmps37
  go_wp2_with fail
  go_loopw [8] (fun x8 wr => ∃ (i : Nat), i ≤ x.length ∧ k + i ≤ s.length ∧ x8 = .int .i64 i ∧ Hid (pNeed x (s.drop k) = pNeed (x.drop i) (s.drop (k + i))) ∧ Hid (Below w.heap.size w wr)) (fun x8 _ => x.length - (intOf x8).toNat)
  case atStart => exact ⟨0, Nat.zero_le _, by omega, rfl, Lib.hid rfl, Lib.hid (Below.refl _ _)⟩
  case round =>
    obtain ⟨i, hi, hki, rfl, HE, HB⟩ := hrel
    by_cases hlt : i < x.length
    · by_cases hj : k + i < s.length
      · have hj1 : decide ((s.length : Int) ≤ (k : Int) + (i : Int)) = false := by simp; omega
        have hj2 : 0 ≤ (k : Int) + (i : Int) ∧ (k : Int) + (i : Int) < (s.length : Int) := by omega
        have hi2 : 0 ≤ (i : Int) ∧ (i : Int) < (x.length : Int) := by omega
        have hb1 : k + i < (strB s).size := by rw [hsz]; exact hj
        have hb2 : i < (strB x).size := by rw [hxz]; exact hlt
        by_cases hq : s[k + i] = x[i]
        · have hq' : ((((strB s)[k + i]).toNat : Int) != (((strB x)[i]).toNat : Int)) = false := by
            rw [strB_get, strB_get, bne_eq_false_iff_eq]; exact congrArg (fun c : UInt8 => (c.toNat : Int)) hq
          have HE2 : Hid (pNeed x (s.drop k) = pNeed (x.drop (i + 1)) (s.drop (k + (i + 1)))) := Lib.hid (by rw [HE.out]; exact need_eq x s i (k + i) hlt hj hq)
          clear hq
          go_wp2_with fail
          go_quiet (fail)
          go_wp2_with fail
          go_roundw
          case measure => simp [intOf]; omega
          case rel => exact ⟨i + 1, by omega, by omega, by go_num, HE2, Lib.hid (below_drewN HB.out _)⟩
        · have hq' : ((((strB s)[k + i]).toNat : Int) != (((strB x)[i]).toNat : Int)) = true := by
            rw [strB_get, strB_get, bne_iff_ne]
            intro e
            exact hq (UInt8.toNat_inj.1 (by omega))
          have HE2 : Hid (pNeed x (s.drop k) = .no (s.drop (k + i))) := Lib.hid (by rw [HE.out]; exact need_ne x s i (k + i) hlt hj hq)
          clear hq
          go_wp2_with fail
          go_quiet (fail)
          go_wp2_with fail
          refine bodyPost_ret (v := .tuple #[.int .i64 ((k : Int) + (i : Int)), .bool false]) (by simp [results, Tryd.results37, go_sem]) rfl ?_
          rw [HE2.out]
          refine ⟨below_drewN HB.out _, ?_⟩
          show Ending.returned _ = _
          rw [left_at hki]
          simp
      · have hj1 : decide ((s.length : Int) ≤ (k : Int) + (i : Int)) = true := by simp; omega
        have HE2 : Hid (pNeed x (s.drop k) = .no (s.drop (k + i))) := Lib.hid (by rw [HE.out, List.drop_of_length_le (l := s) (by omega)]; exact need_nil x i hlt)
        go_wp2_with fail
        go_quiet (fail)
        go_wp2_with fail
        refine bodyPost_ret (v := .tuple #[.int .i64 ((k : Int) + (i : Int)), .bool false]) (by simp [results, Tryd.results37, go_sem]) rfl ?_
        rw [HE2.out]
        refine ⟨below_drewN HB.out _, ?_⟩
        show Ending.returned _ = _
        rw [left_at hki]
        simp
    · have HE2 : Hid (pNeed x (s.drop k) = .ok () (s.drop (k + i))) := Lib.hid (by rw [HE.out, List.drop_of_length_le (l := x) (by omega)]; rfl)
      have hii : i = x.length := by omega
      go_wp2_with fail
      refine bodyPost_ret (v := .tuple #[.int .i64 ((k : Int) + (x.length : Int)), .bool true]) (by simp [results, Tryd.results37, go_sem]) rfl ?_
      rw [HE2.out]
      refine ⟨HB.out, ?_⟩
      show Ending.returned _ = _
      rw [left_at hki, hii]
      simp

end Go.Proofs.YtikmgiapjigghabDoor
