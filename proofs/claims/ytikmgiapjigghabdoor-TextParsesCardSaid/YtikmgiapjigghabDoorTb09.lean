/- Walks: the parser's small functions. -/
import Derived.WalkLawsBesides
import Derived.BigQuiet
import Derived.Test.YtikmgiapjigghabDoorTb05
import Derived.Test.YtikmgiapjigghabDoorTb08
namespace Go.Proofs.YtikmgiapjigghabDoor
open Go.RowKit

/-- A parser's box. -/
structure PB (w : World) (b : Nat) (s : Bs) (at' : Nat) : Prop where
  blk : w.heap[b]? = some (.cells #[.string (strB s), .int .i64 at'] 87 (0, 0))

theorem PB.all {w : World} {b : Nat} {s : Bs} {k : Nat} (h : PB w b s k) : w.cell? ⟨b, 0, none⟩ = some (.string (strB s)) ∧ w.cell? ⟨b, 1, none⟩ = some (.int .i64 k) ∧ ∀ o, w.frozen? ⟨b, o, none⟩ = false := by
  have h' := h.blk
  exact ⟨by simp [World.cell?, h'], by simp [World.cell?, h'], fun o => by simp [World.frozen?, h']⟩
theorem PB.lt {w : World} {b : Nat} {s : Bs} {k : Nat} (h : PB w b s k) : b < w.heap.size := (Array.getElem?_eq_some_iff.1 h.blk).1
theorem PB.below {w w' : World} {b : Nat} {s : Bs} {k : Nat} (h : PB w b s k) (hb : Below w.heap.size w w') : PB w' b s k := ⟨(hb.block b h.lt).trans h.blk⟩
theorem PB.set {w : World} {b : Nat} {s : Bs} {k : Nat} (h : PB w b s k) (m : Nat) : PB (w.setCell ⟨b, 1, none⟩ (.int .i64 m)) b s m := ⟨by rw [heap_setCell_at _ _ _ _ h.blk]; rfl⟩

theorem prefix_hd (c : UInt8) (r : Bs) (hc : c ≠ 0) : [c].isPrefixOf r = decide (hd r = c) := by
  cases r with
  | nil => simp [hd, List.isPrefixOf, Ne.symm hc]
  | cons d r =>
    simp only [hd, List.isPrefixOf, List.headD_cons, Bool.and_true]
    rw [show (c == d) = decide (c = d) from rfl]
    exact decide_eq_decide.2 eq_comm

theorem strB_extract (s : Bs) (i j : Nat) : (strB s).extract i j = strB ((s.take j).drop i) := by
  apply ByteArray.ext
  simp only [strB, ByteArray.data_extract, List.extract_toArray, List.extract_eq_take_drop, List.drop_take]

set_option maxRecDepth 100000 in
set_option maxHeartbeats 400000 in
theorem SeesW (c : UInt8) (hc : c ≠ 0) (s : Bs) (k : Nat) (hk : k ≤ s.length) (w : World) (b : Nat) (h : PB w b s k) :
    Calls Tryd.prog 54 #[.pointer (some ⟨b, 0, none⟩), .string (strB [c])] w fun e w' => e = .returned (.bool (decide (hd (s.drop k) = c))) ∧ Below w.heap.size w w' := by
  obtain ⟨y0, y1, yf⟩ := h.all
  have hsz : (strB s).size = s.length := strB_size s
  have HP : Hid (∀ u, Calls Tryd.prog 69 #[.string ((strB s).extract k s.length), .string (strB [c])] u fun e w' => e = .returned (.bool (decide (hd (s.drop k) = c))) ∧ w' = u) := Lib.hid (fun u => by
    have h1 := Tryd.strings_HasPrefix ((strB s).extract k s.length) (strB [c]) u
    rw [strB_extract, strB_toList, strB_toList, List.take_length] at h1
    unfold Lib.hasPrefix at h1
    rw [prefix_hd c _ hc] at h1
    rw [strB_extract, List.take_length]
    exact h1)
  go_enter Tryd.func54, Tryd.ntmps54
  go_wp2_with fail
  go_region_with (go_at_call 69; refine (HP.out _).mono ?_; rintro e w1 ⟨rfl, rfl⟩)
  all_goals
    go_wp2_with fail
    go_ret
    exact ⟨rfl, (Below.refl _ _).drew⟩

/-- The place at which a text can't go on. -/
def plc (n : Nat) : List PanicEntry := [{ v := .iface 84 (.int .i64 n), recovered := false }]

/-- What 'need' ends with. -/
def NeedPost (b : Nat) (s : Bs) (w : World) (x : PR Unit) (e : Ending) (w' : World) : Prop :=
  match x with
  | .ok _ r' => e = .returned (.tuple #[]) ∧ PB w' b s (s.length - r'.length) ∧ Touch (fun i => i = b) w w'
  | .no r' => e = .panicked (plc (s.length - r'.length)) ∧ Touch (fun i => i = b) w w'

theorem strB_get (s : Bs) (j : Nat) (h : j < (strB s).size) : (strB s)[j] = s[j]'(by rw [strB_size] at h; exact h) := by
  simp [strB, ByteArray.getElem_eq_getElem_data]

theorem need_nil (x : Bs) (i : Nat) (hi : i < x.length) : pNeed (x.drop i) [] = .no [] := by
  rw [List.drop_eq_getElem_cons hi]; rfl
theorem need_ne (x s : Bs) (i j : Nat) (hi : i < x.length) (hj : j < s.length) (h : s[j] ≠ x[i]) : pNeed (x.drop i) (s.drop j) = .no (s.drop j) := by
  rw [List.drop_eq_getElem_cons hi, List.drop_eq_getElem_cons hj]; simp only [pNeed]; rw [if_neg h]
theorem need_eq (x s : Bs) (i j : Nat) (hi : i < x.length) (hj : j < s.length) (h : s[j] = x[i]) : pNeed (x.drop i) (s.drop j) = pNeed (x.drop (i + 1)) (s.drop (j + 1)) := by
  rw [List.drop_eq_getElem_cons hi, List.drop_eq_getElem_cons hj]; simp only [pNeed]; rw [if_pos h]

theorem plc_min (s : Bs) (k i : Nat) (h : k + i ≤ s.length) (hs : s.length ≤ 6000) : [{ v := Value.iface 84 (.int .i64 (min (IntKind.i64.wrap ((k : Int) + (i : Int))) (s.length : Int))), recovered := false : PanicEntry }] = plc (s.length - (s.drop (k + i)).length) := by
  have e : IntKind.i64.wrap ((k : Int) + (i : Int)) = ((k + i : Nat) : Int) := by
    unfold IntKind.wrap
    simp [go_sem]
    omega
  unfold plc
  rw [e, List.length_drop, show min ((k + i : Nat) : Int) (s.length : Int) = ((s.length - (s.length - (k + i)) : Nat) : Int) by omega]

set_option maxRecDepth 100000 in
set_option maxHeartbeats 800000 in
theorem NeedW (x : Bs) (hx : x.length ≤ 100) (s : Bs) (k : Nat) (hk : k ≤ s.length) (hs : s.length ≤ 6000) (w : World) (b : Nat) (h : PB w b s k) :
    Calls Tryd.prog 55 #[.pointer (some ⟨b, 0, none⟩), .string (strB x)] w (NeedPost b s w (pNeed x (s.drop k))) := by
  have hsz : (strB s).size = s.length := strB_size s
  have hxz : (strB x).size = x.length := strB_size x
  have HX := Lib.hid h
  clear h
  go_enter Tryd.func55, Tryd.ntmps55
  go_wp2_with fail
  go_loopw [7] (fun x7 wr => ∃ (i : Nat), i ≤ x.length ∧ k + i ≤ s.length ∧ x7 = .int .i64 i ∧ Hid (pNeed x (s.drop k) = pNeed (x.drop i) (s.drop (k + i))) ∧ Hid (Below w.heap.size w wr)) (fun x7 _ => x.length - (intOf x7).toNat)
  case atStart => exact ⟨0, Nat.zero_le _, by omega, rfl, Lib.hid rfl, Lib.hid (Below.refl _ _)⟩
  case round =>
    obtain ⟨i, hi, hki, rfl, HE, HB⟩ := hrel
    obtain ⟨y0, y1, yf⟩ := (HX.out.below HB.out).all
    by_cases hlt : i < x.length
    · by_cases hj : k + i < s.length
      · have hj1 : decide ((s.length : Int) ≤ (k : Int) + (i : Int)) = false := by simp; omega
        have hj2 : 0 ≤ (k : Int) + (i : Int) ∧ (k : Int) + (i : Int) < (s.length : Int) := by omega
        have hi2 : 0 ≤ (i : Int) ∧ (i : Int) < (x.length : Int) := by omega
        have hb1 : k + i < (strB s).size := by rw [hsz]; exact hj
        have hb2 : i < (strB x).size := by rw [hxz]; exact hlt
        by_cases hq : s[k + i] = x[i]
        · have hq' : ((((strB s)[k + i]).toNat : Int) != (((strB x)[i]).toNat : Int)) = false := by
            rw [strB_get, strB_get, bne_eq_false_iff_eq]; exact congrArg (fun c : UInt8 => (c.toNat : Int)) hq
          have HE2 : Hid (pNeed x (s.drop k) = pNeed (x.drop (i + 1)) (s.drop (k + (i + 1)))) := Lib.hid (by rw [HE.out]; exact need_eq x s i (k + i) hlt hj hq)
          clear hq
          go_wp2_with fail
          go_quiet (fail)
          go_wp2_with fail
          go_roundw
          case measure => simp [intOf]; omega
          case rel => exact ⟨i + 1, by omega, by omega, by go_num, HE2, Lib.hid (below_drewN HB.out _)⟩
        · have hq' : ((((strB s)[k + i]).toNat : Int) != (((strB x)[i]).toNat : Int)) = true := by
            rw [strB_get, strB_get, bne_iff_ne]
            intro e
            exact hq (UInt8.toNat_inj.1 (by omega))
          have HE2 : Hid (pNeed x (s.drop k) = .no (s.drop (k + i))) := Lib.hid (by rw [HE.out]; exact need_ne x s i (k + i) hlt hj hq)
          clear hq
          go_wp2_with fail
          go_quiet (fail)
          go_wp2_with fail
          refine wp_region_any (by kernel_rfl) ?_
          try (change wpAny _ _ _ _ _ _ _ (World.drew _))
          refine wpAny_take (i := 0) (v := ?vv1) rfl (by kernel_rfl) (by kernel_rfl) (by kernel_rfl) (fun _ _ _ h => h) (Or.inl ⟨by rfl, ?hy1⟩) ?rest1
          case hy1 => (intro w; go_simp; try with_reducible rfl)
          refine wpAny_take (i := 1) (v := ?vv2) rfl (by kernel_rfl) (by kernel_rfl) (by kernel_rfl) (fun _ _ _ h => h) (Or.inl ⟨by rfl, ?hy2⟩) ?rest2
          case hy2 => (intro w; go_simp; try with_reducible rfl)
          refine wpAny_take (i := 2) (v := ?vv3) rfl (by kernel_rfl) (by kernel_rfl) (by kernel_rfl) (fun _ _ _ h => h) (Or.inl ⟨by rfl, ?hy3⟩) ?rest3
          case hy3 => (intro w; go_simp; try with_reducible rfl)
          refine wpAny_take (i := 4) (v := ?vv4) rfl (by kernel_rfl) (by kernel_rfl) (by kernel_rfl) (fun _ _ _ h => h) (Or.inl ⟨by rfl, ?hy4⟩) ?rest4
          case hy4 => (intro w; go_simp; try with_reducible rfl)
          refine wpAny_take (i := 6) (v := ?vv5) rfl (by kernel_rfl) (by kernel_rfl) (by kernel_rfl) (fun _ _ _ h => h) (Or.inl ⟨by rfl, ?hy5⟩) ?rest5
          case hy5 => (intro w; go_simp; try with_reducible rfl)
          refine wpAny_take (i := 7) (v := ?vv6) rfl (by kernel_rfl) (by kernel_rfl) (by kernel_rfl) (fun _ _ _ h => h) (Or.inl ⟨by rfl, ?hy6⟩) ?rest6
          case hy6 => (intro w; go_simp; try with_reducible rfl)
          refine wpAny_take (i := 8) (v := ?vv7) rfl (by kernel_rfl) (by kernel_rfl) (by kernel_rfl) (fun _ _ _ h => h) (Or.inl ⟨by rfl, ?hy7⟩) ?rest7
          case hy7 => (intro w; go_simp; try with_reducible rfl)
          refine wpAny_ready (rs := [3, 9]) (by kernel_rfl) (by simp) ?_
          refine AllReady.cons rfl (fun K hK => ?_) (AllReady.cons rfl (fun K hK => ?_) AllReady.nil)
          · go_simp
            refine hK _ _ ?_
            clear hK K
            refine wpAny_take (i := 5) (v := ?vv8) rfl (by kernel_rfl) (by kernel_rfl) (by kernel_rfl) (fun _ _ _ h => h) (Or.inl ⟨by rfl, ?hy8⟩) ?rest8
            case hy8 => (intro w; go_simp; try with_reducible rfl)
            refine wpAny_ready (rs := [9]) (by kernel_rfl) (by simp) ?_
            refine AllReady.cons rfl (fun K hK => ?_) AllReady.nil
            go_simp
            refine hK _ _ ?_
            clear hK K
            refine wpAny_ready (rs := [10]) (by kernel_rfl) (by simp) ?_
            refine AllReady.cons rfl (fun K hK => ?_) AllReady.nil
            go_simp
            refine hK _ _ ?_
            clear hK K
            refine wpAny_ready (rs := [11]) (by kernel_rfl) (by simp) ?_
            refine AllReady.cons rfl (fun K hK => ?_) AllReady.nil
            go_simp
            refine hK _ _ ?_
            clear hK K
            refine wpAny_ready (rs := [12]) (by kernel_rfl) (by simp) ?_
            refine AllReady.cons rfl (fun K hK => ?_) AllReady.nil
            go_simp
            refine hK _ _ ?_
            clear hK K
            refine wpAny_ready (rs := [13]) (by kernel_rfl) (by simp) ?_
            refine AllReady.cons rfl (fun K hK => ?_) AllReady.nil
            go_simp
            refine show _ ∧ NeedPost b s w _ (.panicked _) _ from ⟨rfl, ?_⟩
            rw [HE2.out, plc_min s k i hki hs]
            exact ⟨rfl, Touch.below (below_drewN HB.out _)⟩
          · go_simp
            refine hK _ _ ?_
            clear hK K
            refine wpAny_take (i := 10) (v := ?vv9) rfl (by kernel_rfl) (by kernel_rfl) (by kernel_rfl) (fun _ _ _ h => h) (Or.inl ⟨by rfl, ?hy9⟩) ?rest9
            case hy9 => (intro w; go_simp; try with_reducible rfl)
            refine wpAny_ready (rs := [3]) (by kernel_rfl) (by simp) ?_
            refine AllReady.cons rfl (fun K hK => ?_) AllReady.nil
            go_simp
            refine hK _ _ ?_
            clear hK K
            refine wpAny_take (i := 5) (v := ?vv10) rfl (by kernel_rfl) (by kernel_rfl) (by kernel_rfl) (fun _ _ _ h => h) (Or.inl ⟨by rfl, ?hy10⟩) ?rest10
            case hy10 => (intro w; go_simp; try with_reducible rfl)
            refine wpAny_ready (rs := [11]) (by kernel_rfl) (by simp) ?_
            refine AllReady.cons rfl (fun K hK => ?_) AllReady.nil
            go_simp
            refine hK _ _ ?_
            clear hK K
            refine wpAny_ready (rs := [12]) (by kernel_rfl) (by simp) ?_
            refine AllReady.cons rfl (fun K hK => ?_) AllReady.nil
            go_simp
            refine hK _ _ ?_
            clear hK K
            refine wpAny_ready (rs := [13]) (by kernel_rfl) (by simp) ?_
            refine AllReady.cons rfl (fun K hK => ?_) AllReady.nil
            go_simp
            refine show _ ∧ NeedPost b s w _ (.panicked _) _ from ⟨rfl, ?_⟩
            rw [HE2.out, plc_min s k i hki hs]
            exact ⟨rfl, Touch.below (below_drewN HB.out _)⟩
      · have hj1 : decide ((s.length : Int) ≤ (k : Int) + (i : Int)) = true := by simp; omega
        have HE2 : Hid (pNeed x (s.drop k) = .no (s.drop (k + i))) := Lib.hid (by rw [HE.out, List.drop_of_length_le (l := s) (by omega)]; exact need_nil x i hlt)
        go_wp2_with fail
        go_quiet (fail)
        go_wp2_with fail
        refine wp_region_any (by kernel_rfl) ?_
        try (change wpAny _ _ _ _ _ _ _ (World.drew _))
        refine wpAny_take (i := 0) (v := ?vv11) rfl (by kernel_rfl) (by kernel_rfl) (by kernel_rfl) (fun _ _ _ h => h) (Or.inl ⟨by rfl, ?hy11⟩) ?rest11
        case hy11 => (intro w; go_simp; try with_reducible rfl)
        refine wpAny_take (i := 1) (v := ?vv12) rfl (by kernel_rfl) (by kernel_rfl) (by kernel_rfl) (fun _ _ _ h => h) (Or.inl ⟨by rfl, ?hy12⟩) ?rest12
        case hy12 => (intro w; go_simp; try with_reducible rfl)
        refine wpAny_take (i := 2) (v := ?vv13) rfl (by kernel_rfl) (by kernel_rfl) (by kernel_rfl) (fun _ _ _ h => h) (Or.inl ⟨by rfl, ?hy13⟩) ?rest13
        case hy13 => (intro w; go_simp; try with_reducible rfl)
        refine wpAny_take (i := 4) (v := ?vv14) rfl (by kernel_rfl) (by kernel_rfl) (by kernel_rfl) (fun _ _ _ h => h) (Or.inl ⟨by rfl, ?hy14⟩) ?rest14
        case hy14 => (intro w; go_simp; try with_reducible rfl)
        refine wpAny_take (i := 6) (v := ?vv15) rfl (by kernel_rfl) (by kernel_rfl) (by kernel_rfl) (fun _ _ _ h => h) (Or.inl ⟨by rfl, ?hy15⟩) ?rest15
        case hy15 => (intro w; go_simp; try with_reducible rfl)
        refine wpAny_take (i := 7) (v := ?vv16) rfl (by kernel_rfl) (by kernel_rfl) (by kernel_rfl) (fun _ _ _ h => h) (Or.inl ⟨by rfl, ?hy16⟩) ?rest16
        case hy16 => (intro w; go_simp; try with_reducible rfl)
        refine wpAny_take (i := 8) (v := ?vv17) rfl (by kernel_rfl) (by kernel_rfl) (by kernel_rfl) (fun _ _ _ h => h) (Or.inl ⟨by rfl, ?hy17⟩) ?rest17
        case hy17 => (intro w; go_simp; try with_reducible rfl)
        refine wpAny_ready (rs := [3, 9]) (by kernel_rfl) (by simp) ?_
        refine AllReady.cons rfl (fun K hK => ?_) (AllReady.cons rfl (fun K hK => ?_) AllReady.nil)
        · go_simp
          refine hK _ _ ?_
          clear hK K
          refine wpAny_take (i := 5) (v := ?vv18) rfl (by kernel_rfl) (by kernel_rfl) (by kernel_rfl) (fun _ _ _ h => h) (Or.inl ⟨by rfl, ?hy18⟩) ?rest18
          case hy18 => (intro w; go_simp; try with_reducible rfl)
          refine wpAny_ready (rs := [9]) (by kernel_rfl) (by simp) ?_
          refine AllReady.cons rfl (fun K hK => ?_) AllReady.nil
          go_simp
          refine hK _ _ ?_
          clear hK K
          refine wpAny_ready (rs := [10]) (by kernel_rfl) (by simp) ?_
          refine AllReady.cons rfl (fun K hK => ?_) AllReady.nil
          go_simp
          refine hK _ _ ?_
          clear hK K
          refine wpAny_ready (rs := [11]) (by kernel_rfl) (by simp) ?_
          refine AllReady.cons rfl (fun K hK => ?_) AllReady.nil
          go_simp
          refine hK _ _ ?_
          clear hK K
          refine wpAny_ready (rs := [12]) (by kernel_rfl) (by simp) ?_
          refine AllReady.cons rfl (fun K hK => ?_) AllReady.nil
          go_simp
          refine hK _ _ ?_
          clear hK K
          refine wpAny_ready (rs := [13]) (by kernel_rfl) (by simp) ?_
          refine AllReady.cons rfl (fun K hK => ?_) AllReady.nil
          go_simp
          refine show _ ∧ NeedPost b s w _ (.panicked _) _ from ⟨rfl, ?_⟩
          rw [HE2.out, plc_min s k i hki hs]
          exact ⟨rfl, Touch.below (below_drewN HB.out _)⟩
        · go_simp
          refine hK _ _ ?_
          clear hK K
          refine wpAny_take (i := 10) (v := ?vv19) rfl (by kernel_rfl) (by kernel_rfl) (by kernel_rfl) (fun _ _ _ h => h) (Or.inl ⟨by rfl, ?hy19⟩) ?rest19
          case hy19 => (intro w; go_simp; try with_reducible rfl)
          refine wpAny_ready (rs := [3]) (by kernel_rfl) (by simp) ?_
          refine AllReady.cons rfl (fun K hK => ?_) AllReady.nil
          go_simp
          refine hK _ _ ?_
          clear hK K
          refine wpAny_take (i := 5) (v := ?vv20) rfl (by kernel_rfl) (by kernel_rfl) (by kernel_rfl) (fun _ _ _ h => h) (Or.inl ⟨by rfl, ?hy20⟩) ?rest20
          case hy20 => (intro w; go_simp; try with_reducible rfl)
          refine wpAny_ready (rs := [11]) (by kernel_rfl) (by simp) ?_
          refine AllReady.cons rfl (fun K hK => ?_) AllReady.nil
          go_simp
          refine hK _ _ ?_
          clear hK K
          refine wpAny_ready (rs := [12]) (by kernel_rfl) (by simp) ?_
          refine AllReady.cons rfl (fun K hK => ?_) AllReady.nil
          go_simp
          refine hK _ _ ?_
          clear hK K
          refine wpAny_ready (rs := [13]) (by kernel_rfl) (by simp) ?_
          refine AllReady.cons rfl (fun K hK => ?_) AllReady.nil
          go_simp
          refine show _ ∧ NeedPost b s w _ (.panicked _) _ from ⟨rfl, ?_⟩
          rw [HE2.out, plc_min s k i hki hs]
          exact ⟨rfl, Touch.below (below_drewN HB.out _)⟩
    · have hix : i = x.length := by omega
      have HE2 : Hid (pNeed x (s.drop k) = .ok () (s.drop (k + x.length))) := Lib.hid (by rw [HE.out, hix, List.drop_length]; rfl)
      have HP := Lib.hid ((HX.out.below HB.out).set (k + x.length))
      go_wp2_with fail
      go_end0
      rw [HE2.out]
      refine ⟨rfl, ?_, (Touch.below HB.out).trans (Touch.setCell _ rfl)⟩
      rw [List.length_drop, show s.length - (s.length - (k + x.length)) = k + x.length by omega]
      exact HP.out

end Go.Proofs.YtikmgiapjigghabDoor

/- Walks: the parser's word. (Written by mk_tqb.py.) -/
namespace Go.Proofs.YtikmgiapjigghabDoor
open Go.RowKit

/-- How many signs may stand there. -/
def wordLen (f : Nat → UInt8 → Bool) : Nat → Bs → Nat
  | _, [] => 0
  | i, c :: r => if f i c = true then 1 + wordLen f (i + 1) r else 0

theorem wordLen_le (f : Nat → UInt8 → Bool) : ∀ (r : Bs) (i : Nat), wordLen f i r ≤ r.length := by
  intro r
  induction r with
  | nil => intro i; simp [wordLen]
  | cons c r ih =>
    intro i
    have := ih (i + 1)
    simp only [wordLen, List.length_cons]
    split <;> omega

theorem wordLen_yes (f : Nat → UInt8 → Bool) (s : Bs) (i j : Nat) (hj : j < s.length) (h : f i s[j] = true) : wordLen f i (s.drop j) = 1 + wordLen f (i + 1) (s.drop (j + 1)) := by
  rw [List.drop_eq_getElem_cons hj]; simp only [wordLen]; rw [if_pos h]
theorem wordLen_no (f : Nat → UInt8 → Bool) (s : Bs) (i j : Nat) (hj : j < s.length) (h : f i s[j] = false) : wordLen f i (s.drop j) = 0 := by
  rw [List.drop_eq_getElem_cons hj]; simp only [wordLen]; rw [if_neg (by rw [h]; decide)]

def digitAt (i : Nat) (c : UInt8) : Bool := isDig c && decide (i < 2) && (decide (0 < i) || c != 48)
def nameAt (i : Nat) (c : UInt8) : Bool := isLow c || (decide (0 < i) && (isDig c || c == 95))

theorem u8_lt (c : UInt8) : c.toNat < 256 := c.toNat_lt

set_option maxRecDepth 100000 in
set_option maxHeartbeats 800000 in
theorem digitW (c : UInt8) (w : World) : Calls Tryd.prog 65 #[.int .u8 (c.toNat : Nat)] w fun e w' => e = .returned (.bool (isDig c)) ∧ w' = w := by
  go_enter Tryd.func65, Tryd.ntmps65
  go_wp2_with fail
  all_goals
    rename_i hc
    go_ret
    refine ⟨?_, rfl⟩
    first
      | (rw [show isDig c = false from decide_eq_false (by omega)]; rfl)
      | (rw [show isDig c = decide ((c.toNat : Int) ≤ 57) from decide_eq_decide.2 (by omega)]; rfl)

set_option maxRecDepth 100000 in
set_option maxHeartbeats 800000 in
theorem letterW (c : UInt8) (w : World) : Calls Tryd.prog 68 #[.int .u8 (c.toNat : Nat)] w fun e w' => e = .returned (.bool (isLow c)) ∧ w' = w := by
  go_enter Tryd.func68, Tryd.ntmps68
  go_wp2_with fail
  all_goals
    rename_i hc
    go_ret
    refine ⟨?_, rfl⟩
    first
      | (rw [show isLow c = false from decide_eq_false (by omega)]; rfl)
      | (rw [show isLow c = decide ((c.toNat : Int) ≤ 122) from decide_eq_decide.2 (by omega)]; rfl)

theorem bne_u8 (c : UInt8) (n : Nat) (d : UInt8) (hd : d.toNat = n) : (((c.toNat : Nat) : Int) != (n : Int)) = (c != d) := by
  by_cases h : c = d
  · subst h; rw [hd]; simp
  · rw [show (c != d) = true from bne_iff_ne.2 h, bne_iff_ne]
    intro e
    exact h (UInt8.toNat_inj.1 (by omega))
theorem beq_u8 (c : UInt8) (n : Nat) (d : UInt8) (hd : d.toNat = n) : (((c.toNat : Nat) : Int) == (n : Int)) = (c == d) := by
  have := bne_u8 c n d hd
  simp only [bne] at this
  exact Bool.not_inj this

set_option maxRecDepth 100000 in
set_option maxHeartbeats 800000 in
theorem digitAtW (i : Nat) (c : UInt8) (w : World) : Calls Tryd.prog 64 #[.int .i64 i, .int .u8 (c.toNat : Nat)] w fun e w' => e = .returned (.bool (digitAt i c)) ∧ w' = w := by
  have HD := Lib.hid (digitW c w)
  have h48 : (((c.toNat : Nat) : Int) != 48) = (c != 48) := bne_u8 c 48 48 rfl
  have HI : Hid (digitAt i c = (isDig c && decide (i < 2) && (decide (0 < i) || c != 48))) := Lib.hid rfl
  generalize isDig c = d at HD HI
  cases d
  all_goals
    go_enter Tryd.func64, Tryd.ntmps64
    go_wp2_with (go_at_call 65; refine HD.out.mono ?_; rintro e w1 ⟨rfl, rfl⟩)
    all_goals
      go_ret
      refine ⟨?_, rfl⟩
      rw [HI.out]
      refine congrArg Ending.returned (congrArg Value.bool ?_)
      first
        | (simp; done)
        | (have h0 : i = 0 := by omega
           simp [h0]; done)
        | (have h0 : i < 2 := by omega
           have h1 : 0 < i := by omega
           simp [h0, h1]; done)
        | (have h0 : ¬ i < 2 := by omega
           simp [h0]; done)

set_option maxRecDepth 100000 in
set_option maxHeartbeats 800000 in
theorem nameAtW (i : Nat) (c : UInt8) (w : World) : Calls Tryd.prog 67 #[.int .i64 i, .int .u8 (c.toNat : Nat)] w fun e w' => e = .returned (.bool (nameAt i c)) ∧ w' = w := by
  have HL := Lib.hid (letterW c w)
  have HD := Lib.hid (digitW c w)
  have h95 : (((c.toNat : Nat) : Int) == 95) = (c == 95) := beq_u8 c 95 95 rfl
  have HI : Hid (nameAt i c = (isLow c || (decide (0 < i) && (isDig c || c == 95)))) := Lib.hid rfl
  generalize isDig c = d at HD HI
  generalize isLow c = l at HL HI
  cases l <;> cases d
  all_goals
    go_enter Tryd.func67, Tryd.ntmps67
    go_wp2_with (first | (go_at_call 65; refine HD.out.mono ?_; rintro e w1 ⟨rfl, rfl⟩) | (go_at_call 68; refine HL.out.mono ?_; rintro e w1 ⟨rfl, rfl⟩))
    all_goals
      go_ret
      refine ⟨?_, rfl⟩
      rw [HI.out]
      refine congrArg Ending.returned (congrArg Value.bool ?_)
      first
        | (simp; done)
        | (have h0 : i = 0 := by omega
           simp [h0]; done)
        | (have h1 : 0 < i := by omega
           simp [h1]; done)

end Go.Proofs.YtikmgiapjigghabDoor

/- Walks: the parser's word, with each of its two closures. (Written by mk_tqc.py.) -/
namespace Go.Proofs.YtikmgiapjigghabDoor
open Go.RowKit

/-- What 'word' ends with: so many signs. -/
def WordPost (b : Nat) (s : Bs) (k : Nat) (w : World) (n : Nat) (e : Ending) (w' : World) : Prop :=
  if n = 0 then e = .panicked (plc k) ∧ Touch (fun i => i = b) w w'
  else e = .returned (.string (strB ((s.drop k).take n))) ∧ PB w' b s (k + n) ∧ Touch (fun i => i = b) w w'

theorem PB.set' {w : World} {b : Nat} {s : Bs} {k : Nat} (h : PB w b s k) (m : Nat) (x : Int) (hx : x = m) : PB (w.setCell ⟨b, 1, none⟩ (.int .i64 x)) b s m := by subst hx; exact h.set m
theorem PB.drewN {w : World} {b : Nat} {s : Bs} {k : Nat} (h : PB w b s k) (n : Nat) : PB (w.drewN n) b s k := ⟨h.blk⟩
theorem touch_drewN {M : Nat → Prop} {w w' : World} (h : Touch M w w') (n : Nat) : Touch M w (w'.drewN n) := h.trans (Touch.below (below_drewN (Below.refl _ _) n))

set_option maxRecDepth 100000 in
set_option maxHeartbeats 400000 in
theorem word_digit (s : Bs) (k : Nat) (hk : k ≤ s.length) (hs : s.length ≤ 6000) (w : World) (b : Nat) (h : PB w b s k) :
    Calls Tryd.prog 63 #[.pointer (some ⟨b, 0, none⟩), .func (.func 64) #[] #[]] w (WordPost b s k w (wordLen digitAt 0 (s.drop k))) := by
  have hsz : (strB s).size = s.length := strB_size s
  have HX := Lib.hid h
  obtain ⟨y0, y1, yf⟩ := h.all
  clear h
  go_enter Tryd.func63, Tryd.ntmps63
  go_wp2_with fail
  clear y0 y1 yf
  go_loopw [] (fun wr => ∃ (i : Nat), k + i ≤ s.length ∧ Hid (wordLen digitAt 0 (s.drop k) = i + wordLen digitAt i (s.drop (k + i))) ∧ Hid (PB wr b s (k + i)) ∧ Hid (Touch (fun j => j = b) w wr)) (fun wr => s.length - (match wr.cell? ⟨b, 1, none⟩ with | some x => (intOf x).toNat | none => 0))
  case atStart => exact ⟨0, by omega, Lib.hid (by simp), HX, Lib.hid (Touch.refl _ _)⟩
  case round =>
    obtain ⟨i, hki, HE, HP, HT⟩ := hrel
    obtain ⟨y0, y1, yf⟩ := HP.out.all
    by_cases hj : k + i < s.length
    · have hj1 : (k : Int) + (i : Int) < (s.length : Int) := by omega
      have hj2 : 0 ≤ (k : Int) + (i : Int) ∧ (k : Int) + (i : Int) < (s.length : Int) := by omega
      have hb1 : k + i < (strB s).size := by rw [hsz]; exact hj
      have HC : Hid (∀ u, Calls Tryd.prog 64 #[.int .i64 ((k : Int) + (i : Int) - (k : Int)), .int .u8 (((strB s)[k + i]).toNat : Nat)] u fun e w' => e = .returned (.bool (digitAt i (strB s)[k + i])) ∧ w' = u) := Lib.hid (fun u => by
        rw [show (k : Int) + (i : Int) - (k : Int) = (i : Int) by omega]; exact digitAtW i ((strB s)[k + i]) u)
      have hg := strB_get s (k + i) hb1
      by_cases hq : digitAt i s[k + i] = true
      · have HE2 : Hid (wordLen digitAt 0 (s.drop k) = (i + 1) + wordLen digitAt (i + 1) (s.drop (k + (i + 1)))) := Lib.hid (by rw [HE.out, wordLen_yes digitAt s i (k + i) hj hq, Nat.add_assoc, Nat.add_assoc])
        have hq' : digitAt i (strB s)[k + i] = true := by rw [hg]; exact hq
        rw [hq'] at HC
        clear hq hq' hg
        go_wp2_with fail
        go_quiet (first | (go_at_call 64; refine Calls.quiet_of_same (HC.out _)))
        go_wp2_with fail
        have HP2 := Lib.hid ((HP.out.drewN nq).set' (k + (i + 1)) ((k : Int) + (i : Int) + 1) (by omega))
        have HT2 := Lib.hid ((touch_drewN HT.out nq).trans (Touch.setCell (M := fun j => j = b) (p := ⟨b, 1, none⟩) (.int .i64 ((k : Int) + (i : Int) + 1)) rfl))
        go_roundw
        case rel => exact ⟨i + 1, by omega, HE2, HP2, HT2⟩
        case measure =>
          rw [HP2.out.all.2.1, y1]
          simp only [intOf]
          omega
      · have HE2 : Hid (wordLen digitAt 0 (s.drop k) = i) := Lib.hid (by rw [HE.out, wordLen_no digitAt s i (k + i) hj (eq_false_of_ne_true hq), Nat.add_zero])
        have hq' : digitAt i (strB s)[k + i] = false := by rw [hg]; exact eq_false_of_ne_true hq
        rw [hq'] at HC
        clear hq hq' hg
        have hk1 : (k : Int) ≤ (k : Int) + (i : Int) := by omega
        have hk2 : (k : Int) + (i : Int) ≤ (s.length : Int) := by omega
        by_cases hi0 : i = 0
        · have hz : ((k : Int) + (i : Int) == (k : Int)) = true := by rw [beq_iff_eq]; omega
          have HZ := Lib.hid hi0
          clear hi0
          go_wp2_with fail
          go_quiet (first | (go_at_call 64; refine Calls.quiet_of_same (HC.out _)))
          go_wp2_with fail
          refine show _ ∧ WordPost b s k w _ (.panicked _) _ from ⟨rfl, ?_⟩
          rw [HE2.out, HZ.out]
          exact ⟨rfl, touch_drewN HT.out _⟩
        · have hz : ((k : Int) + (i : Int) == (k : Int)) = false := by rw [beq_eq_false_iff_ne]; omega
          go_wp2_with fail
          go_quiet (first | (go_at_call 64; refine Calls.quiet_of_same (HC.out _)))
          go_wp2_with fail
          go_region_with fail
          all_goals
            go_wp2_with fail
            go_ret
            rw [HE2.out]
            unfold WordPost
            rw [if_neg hi0]
            refine ⟨?_, (HP.out.drewN _), touch_drewN HT.out _⟩
            exact congrArg (fun x => Ending.returned (Value.string x)) (show (strB s).extract k (k + i) = strB ((s.drop k).take i) by rw [strB_extract, List.drop_take, Nat.add_sub_cancel_left])
    · have hj1 : decide ((k : Int) + (i : Int) < (s.length : Int)) = false := by simp; omega
      have HE2 : Hid (wordLen digitAt 0 (s.drop k) = i) := Lib.hid (by rw [HE.out, List.drop_of_length_le (l := s) (by omega)]; rfl)
      have hk1 : (k : Int) ≤ (k : Int) + (i : Int) := by omega
      have hk2 : (k : Int) + (i : Int) ≤ (s.length : Int) := by omega
      by_cases hi0 : i = 0
      · have hz : ((k : Int) + (i : Int) == (k : Int)) = true := by rw [beq_iff_eq]; omega
        have HZ := Lib.hid hi0
        clear hi0
        go_wp2_with fail
        go_quiet (fail)
        go_wp2_with fail
        refine show _ ∧ WordPost b s k w _ (.panicked _) _ from ⟨rfl, ?_⟩
        rw [HE2.out, HZ.out]
        exact ⟨rfl, touch_drewN HT.out _⟩
      · have hz : ((k : Int) + (i : Int) == (k : Int)) = false := by rw [beq_eq_false_iff_ne]; omega
        go_wp2_with fail
        go_quiet (fail)
        go_wp2_with fail
        go_region_with fail
        all_goals
          go_wp2_with fail
          go_ret
          rw [HE2.out]
          unfold WordPost
          rw [if_neg hi0]
          refine ⟨?_, (HP.out.drewN _), touch_drewN HT.out _⟩
          exact congrArg (fun x => Ending.returned (Value.string x)) (show (strB s).extract k (k + i) = strB ((s.drop k).take i) by rw [strB_extract, List.drop_take, Nat.add_sub_cancel_left])


set_option maxRecDepth 100000 in
set_option maxHeartbeats 400000 in
theorem word_name (s : Bs) (k : Nat) (hk : k ≤ s.length) (hs : s.length ≤ 6000) (w : World) (b : Nat) (h : PB w b s k) :
    Calls Tryd.prog 63 #[.pointer (some ⟨b, 0, none⟩), .func (.func 67) #[] #[]] w (WordPost b s k w (wordLen nameAt 0 (s.drop k))) := by
  have hsz : (strB s).size = s.length := strB_size s
  have HX := Lib.hid h
  obtain ⟨y0, y1, yf⟩ := h.all
  clear h
  go_enter Tryd.func63, Tryd.ntmps63
  go_wp2_with fail
  clear y0 y1 yf
  go_loopw [] (fun wr => ∃ (i : Nat), k + i ≤ s.length ∧ Hid (wordLen nameAt 0 (s.drop k) = i + wordLen nameAt i (s.drop (k + i))) ∧ Hid (PB wr b s (k + i)) ∧ Hid (Touch (fun j => j = b) w wr)) (fun wr => s.length - (match wr.cell? ⟨b, 1, none⟩ with | some x => (intOf x).toNat | none => 0))
  case atStart => exact ⟨0, by omega, Lib.hid (by simp), HX, Lib.hid (Touch.refl _ _)⟩
  case round =>
    obtain ⟨i, hki, HE, HP, HT⟩ := hrel
    obtain ⟨y0, y1, yf⟩ := HP.out.all
    by_cases hj : k + i < s.length
    · have hj1 : (k : Int) + (i : Int) < (s.length : Int) := by omega
      have hj2 : 0 ≤ (k : Int) + (i : Int) ∧ (k : Int) + (i : Int) < (s.length : Int) := by omega
      have hb1 : k + i < (strB s).size := by rw [hsz]; exact hj
      have HC : Hid (∀ u, Calls Tryd.prog 67 #[.int .i64 ((k : Int) + (i : Int) - (k : Int)), .int .u8 (((strB s)[k + i]).toNat : Nat)] u fun e w' => e = .returned (.bool (nameAt i (strB s)[k + i])) ∧ w' = u) := Lib.hid (fun u => by
        rw [show (k : Int) + (i : Int) - (k : Int) = (i : Int) by omega]; exact nameAtW i ((strB s)[k + i]) u)
      have hg := strB_get s (k + i) hb1
      by_cases hq : nameAt i s[k + i] = true
      · have HE2 : Hid (wordLen nameAt 0 (s.drop k) = (i + 1) + wordLen nameAt (i + 1) (s.drop (k + (i + 1)))) := Lib.hid (by rw [HE.out, wordLen_yes nameAt s i (k + i) hj hq, Nat.add_assoc, Nat.add_assoc])
        have hq' : nameAt i (strB s)[k + i] = true := by rw [hg]; exact hq
        rw [hq'] at HC
        clear hq hq' hg
        go_wp2_with fail
        go_quiet (first | (go_at_call 67; refine Calls.quiet_of_same (HC.out _)))
        go_wp2_with fail
        have HP2 := Lib.hid ((HP.out.drewN nq).set' (k + (i + 1)) ((k : Int) + (i : Int) + 1) (by omega))
        have HT2 := Lib.hid ((touch_drewN HT.out nq).trans (Touch.setCell (M := fun j => j = b) (p := ⟨b, 1, none⟩) (.int .i64 ((k : Int) + (i : Int) + 1)) rfl))
        go_roundw
        case rel => exact ⟨i + 1, by omega, HE2, HP2, HT2⟩
        case measure =>
          rw [HP2.out.all.2.1, y1]
          simp only [intOf]
          omega
      · have HE2 : Hid (wordLen nameAt 0 (s.drop k) = i) := Lib.hid (by rw [HE.out, wordLen_no nameAt s i (k + i) hj (eq_false_of_ne_true hq), Nat.add_zero])
        have hq' : nameAt i (strB s)[k + i] = false := by rw [hg]; exact eq_false_of_ne_true hq
        rw [hq'] at HC
        clear hq hq' hg
        have hk1 : (k : Int) ≤ (k : Int) + (i : Int) := by omega
        have hk2 : (k : Int) + (i : Int) ≤ (s.length : Int) := by omega
        by_cases hi0 : i = 0
        · have hz : ((k : Int) + (i : Int) == (k : Int)) = true := by rw [beq_iff_eq]; omega
          have HZ := Lib.hid hi0
          clear hi0
          go_wp2_with fail
          go_quiet (first | (go_at_call 67; refine Calls.quiet_of_same (HC.out _)))
          go_wp2_with fail
          refine show _ ∧ WordPost b s k w _ (.panicked _) _ from ⟨rfl, ?_⟩
          rw [HE2.out, HZ.out]
          exact ⟨rfl, touch_drewN HT.out _⟩
        · have hz : ((k : Int) + (i : Int) == (k : Int)) = false := by rw [beq_eq_false_iff_ne]; omega
          go_wp2_with fail
          go_quiet (first | (go_at_call 67; refine Calls.quiet_of_same (HC.out _)))
          go_wp2_with fail
          go_region_with fail
          all_goals
            go_wp2_with fail
            go_ret
            rw [HE2.out]
            unfold WordPost
            rw [if_neg hi0]
            refine ⟨?_, (HP.out.drewN _), touch_drewN HT.out _⟩
            exact congrArg (fun x => Ending.returned (Value.string x)) (show (strB s).extract k (k + i) = strB ((s.drop k).take i) by rw [strB_extract, List.drop_take, Nat.add_sub_cancel_left])
    · have hj1 : decide ((k : Int) + (i : Int) < (s.length : Int)) = false := by simp; omega
      have HE2 : Hid (wordLen nameAt 0 (s.drop k) = i) := Lib.hid (by rw [HE.out, List.drop_of_length_le (l := s) (by omega)]; rfl)
      have hk1 : (k : Int) ≤ (k : Int) + (i : Int) := by omega
      have hk2 : (k : Int) + (i : Int) ≤ (s.length : Int) := by omega
      by_cases hi0 : i = 0
      · have hz : ((k : Int) + (i : Int) == (k : Int)) = true := by rw [beq_iff_eq]; omega
        have HZ := Lib.hid hi0
        clear hi0
        go_wp2_with fail
        go_quiet (fail)
        go_wp2_with fail
        refine show _ ∧ WordPost b s k w _ (.panicked _) _ from ⟨rfl, ?_⟩
        rw [HE2.out, HZ.out]
        exact ⟨rfl, touch_drewN HT.out _⟩
      · have hz : ((k : Int) + (i : Int) == (k : Int)) = false := by rw [beq_eq_false_iff_ne]; omega
        go_wp2_with fail
        go_quiet (fail)
        go_wp2_with fail
        go_region_with fail
        all_goals
          go_wp2_with fail
          go_ret
          rw [HE2.out]
          unfold WordPost
          rw [if_neg hi0]
          refine ⟨?_, (HP.out.drewN _), touch_drewN HT.out _⟩
          exact congrArg (fun x => Ending.returned (Value.string x)) (show (strB s).extract k (k + i) = strB ((s.drop k).take i) by rw [strB_extract, List.drop_take, Nat.add_sub_cancel_left])


end Go.Proofs.YtikmgiapjigghabDoor

/- Plain: what the parser's word takes is what the model's does; what is left is a tail of what was. -/
namespace Go.Proofs.YtikmgiapjigghabDoor
open Go.RowKit

theorem pVar_suf {r r' : Bs} {t : Tm} (h : pVar r = .ok t r') : r' <:+ r := by
  cases r with
  | nil => cases h
  | cons c r =>
    simp only [pVar] at h
    split at h
    · cases r with
      | nil => simp only [PR.ok.injEq] at h; rw [← h.2]; exact List.nil_suffix
      | cons d r =>
        simp only at h
        split at h
        · simp only [PR.ok.injEq] at h; rw [← h.2]; exact (List.suffix_cons d r).trans (List.suffix_cons c _)
        · simp only [PR.ok.injEq] at h; rw [← h.2]; exact List.suffix_cons c _
    · cases h
theorem pName_suf {r r' nm : Bs} (h : pName r = .ok nm r') : r' <:+ r := by
  cases r with
  | nil => cases h
  | cons c r =>
    simp only [pName] at h
    split at h
    · simp only [PR.ok.injEq] at h
      rw [← h.2]
      exact (List.dropWhile_suffix isRest).trans (List.suffix_cons c r)
    · cases h
theorem pNeed_suf {x r r' : Bs} (h : pNeed x r = .ok () r') : r' <:+ r := ⟨x, (pNeed_len x r r' h).symm⟩
theorem tail_suf (r : Bs) : r.tail <:+ r := List.tail_suffix r

theorem p_suf : ∀ n : Nat, (∀ r t r', pT n r = .ok t r' → r' <:+ r) ∧ (∀ nm r t r', pA n nm r = .ok t r' → r' <:+ r) ∧ (∀ r l r', pL n r = .ok l r' → r' <:+ r) := by
  intro n
  induction n with
  | zero => exact ⟨(fun r t r' h => by simp [pT] at h), (fun nm r t r' h => by simp [pA] at h), (fun r t r' h => by simp [pL] at h)⟩
  | succ n ih =>
    obtain ⟨i1, i2, i3⟩ := ih
    refine ⟨fun r t r' h => ?_, fun nm r t r' h => ?_, fun r l r' h => ?_⟩
    · simp only [pT] at h
      split at h
      · exact (pVar_suf h).trans (tail_suf r)
      · split at h
        · exact (i2 _ _ _ _ h).trans (tail_suf r)
        · obtain ⟨nm, r1, h1, h2⟩ := PR.bind_ok h
          exact (i2 _ _ _ _ h2).trans (pName_suf h1)
    · simp only [pA] at h
      split at h
      · obtain ⟨l, r1, h1, h2⟩ := PR.bind_ok h
        obtain ⟨u, r2, h3, h4⟩ := PR.bind_ok h2
        simp only [PR.ok.injEq] at h4
        rw [← h4.2]
        exact ((pNeed_suf h3).trans (i3 _ _ _ h1)).trans (tail_suf r)
      · simp only [PR.ok.injEq] at h; rw [← h.2]; exact List.suffix_refl _
    · simp only [pL] at h
      obtain ⟨t, r1, h1, h2⟩ := PR.bind_ok h
      have := i1 _ _ _ h1
      split at h2
      · obtain ⟨u, r2, h3, h4⟩ := PR.bind_ok h2
        obtain ⟨l2, r3, h5, h6⟩ := PR.bind_ok h4
        simp only [PR.ok.injEq] at h6
        rw [← h6.2]
        exact ((i3 _ _ _ h5).trans (pNeed_suf h3)).trans this
      · simp only [PR.ok.injEq] at h2; rw [← h2.2]; exact this

theorem pTerm_suf {r r' : Bs} {t : Tm} (h : pTerm r = .ok t r') : r' <:+ r := (p_suf _).1 _ _ _ h
theorem pArgs_suf {nm r r' : Bs} {t : Tm} (h : pArgs nm r = .ok t r') : r' <:+ r := (p_suf _).2.1 _ _ _ _ h
theorem pList_suf {r r' : Bs} {l : List Tm} (h : pList r = .ok l r') : r' <:+ r := (p_suf _).2.2 _ _ _ h

/-- Where one stands in a text, by what is left of it. -/
theorem suf_at {s r' : Bs} {k : Nat} (h : r' <:+ s.drop k) : s.drop (s.length - r'.length) = r' := (List.suffix_iff_eq_drop.1 (h.trans (List.drop_suffix k s))).symm
theorem suf_le {s r' : Bs} {k : Nat} (h : r' <:+ s.drop k) : k ≤ s.length → k ≤ s.length - r'.length := fun hk => by
  have := h.length_le
  rw [List.length_drop] at this
  omega

theorem wordLen_rest (r : Bs) (i : Nat) : wordLen nameAt (i + 1) r = (r.takeWhile isRest).length := by
  induction r generalizing i with
  | nil => rfl
  | cons c r ih =>
    have e : nameAt (i + 1) c = isRest c := by simp [nameAt, isRest, Bool.or_assoc]
    simp only [wordLen, List.takeWhile_cons]
    rw [e]
    by_cases h : isRest c = true
    · rw [if_pos h, if_pos h, ih, List.length_cons]; omega
    · rw [if_neg h, if_neg h]; rfl

theorem name_word (r : Bs) : (wordLen nameAt 0 r = 0 ∧ pName r = .no r) ∨ (∃ n, wordLen nameAt 0 r = n + 1 ∧ pName r = .ok (r.take (n + 1)) (r.drop (n + 1))) := by
  cases r with
  | nil => exact .inl ⟨rfl, rfl⟩
  | cons c r =>
    have e : nameAt 0 c = isLow c := by simp [nameAt]
    by_cases h : isLow c = true
    · refine .inr ⟨(r.takeWhile isRest).length, ?_, ?_⟩
      · simp only [wordLen]; rw [e, if_pos h, wordLen_rest, Nat.add_comm]
      · simp only [pName]
        rw [if_pos h, List.take_succ_cons, List.drop_succ_cons]
        have h1 := List.takeWhile_append_dropWhile (p := isRest) (l := r)
        have h2 : r.take (r.takeWhile isRest).length = r.takeWhile isRest := (List.prefix_iff_eq_take.1 (List.takeWhile_prefix isRest)).symm
        have h3 : r.drop (r.takeWhile isRest).length = r.dropWhile isRest := by
          have := List.drop_left (l₁ := r.takeWhile isRest) (l₂ := r.dropWhile isRest)
          rwa [h1] at this
        rw [h2, h3]
    · refine .inl ⟨?_, ?_⟩
      · simp only [wordLen]; rw [e, if_neg h]
      · simp only [pName]; rw [if_neg h]

theorem atoi_one (c : UInt8) (h : isDig c = true) : Lib.atoi [c] = some (numOf c) := by
  have h1 : 48 ≤ c.toNat ∧ c.toNat ≤ 57 := of_decide_eq_true h
  have n1 : (c == 45) = false := by rw [beq_eq_false_iff_ne]; rintro rfl; simp at h1
  have n2 : (c == 43) = false := by rw [beq_eq_false_iff_ne]; rintro rfl; simp at h1
  simp only [Lib.atoi, n1, n2, Bool.false_eq_true, if_false, Lib.decNat, List.isEmpty_cons, Lib.decFrom, Lib.digitVal, if_pos h1, Option.map_some, numOf]
  congr 1
  omega
theorem atoi_two (c d : UInt8) (h : isDig c = true) (k : isDig d = true) : Lib.atoi [c, d] = some (10 * numOf c + numOf d) := by
  have h1 : 48 ≤ c.toNat ∧ c.toNat ≤ 57 := of_decide_eq_true h
  have h2 : 48 ≤ d.toNat ∧ d.toNat ≤ 57 := of_decide_eq_true k
  have n1 : (c == 45) = false := by rw [beq_eq_false_iff_ne]; rintro rfl; simp at h1
  have n2 : (c == 43) = false := by rw [beq_eq_false_iff_ne]; rintro rfl; simp at h1
  simp only [Lib.atoi, n1, n2, Bool.false_eq_true, if_false, Lib.decNat, List.isEmpty_cons, Lib.decFrom, Lib.digitVal, if_pos h1, if_pos h2, Option.map_some, numOf]
  congr 1
  omega

theorem var_word (r : Bs) : (wordLen digitAt 0 r = 0 ∧ pVar r = .no r) ∨ (∃ n v, wordLen digitAt 0 r = n + 1 ∧ n ≤ 1 ∧ Lib.atoi (r.take (n + 1)) = some v ∧ 0 ≤ v ∧ v ≤ 99 ∧ pVar r = .ok (.mk v ⟨#[]⟩ []) (r.drop (n + 1))) := by
  cases r with
  | nil => exact .inl ⟨rfl, rfl⟩
  | cons c r =>
    have e : digitAt 0 c = (isDig c && c != 48) := by simp [digitAt]
    by_cases h : isDig c = true ∧ c ≠ 48
    · have e1 : digitAt 0 c = true := by rw [e, h.1, Bool.true_and, bne_iff_ne]; exact h.2
      have hc : 48 ≤ c.toNat ∧ c.toNat ≤ 57 := of_decide_eq_true h.1
      cases r with
      | nil =>
        refine .inr ⟨0, numOf c, ?_, by omega, atoi_one c h.1, by unfold numOf; omega, by unfold numOf; omega, ?_⟩
        · simp only [wordLen]; rw [if_pos e1]
        · simp only [pVar]; rw [if_pos h]; rfl
      | cons d r =>
        have e2 : digitAt 1 d = isDig d := by simp [digitAt]
        by_cases hd : isDig d = true
        · have hd' : 48 ≤ d.toNat ∧ d.toNat ≤ 57 := of_decide_eq_true hd
          refine .inr ⟨1, 10 * numOf c + numOf d, ?_, by omega, atoi_two c d h.1 hd, by unfold numOf; omega, by unfold numOf; omega, ?_⟩
          · simp only [wordLen]
            rw [if_pos e1, e2, if_pos hd]
            have : wordLen digitAt (0 + 1 + 1) r = 0 := by
              cases r with
              | nil => rfl
              | cons x r =>
                have e3 : digitAt (0 + 1 + 1) x = false := by simp [digitAt]
                simp only [wordLen]; rw [e3]; rfl
            omega
          · simp only [pVar]; rw [if_pos h, if_pos hd]; rfl
        · refine .inr ⟨0, numOf c, ?_, by omega, atoi_one c h.1, by unfold numOf; omega, by unfold numOf; omega, ?_⟩
          · simp only [wordLen]; rw [if_pos e1, e2, if_neg hd]
          · simp only [pVar]; rw [if_pos h, if_neg hd]; rfl
    · refine .inl ⟨?_, ?_⟩
      · simp only [wordLen]
        rw [if_neg]
        intro h1
        rw [e, Bool.and_eq_true, bne_iff_ne] at h1
        exact h h1
      · simp only [pVar]; rw [if_neg h]

end Go.Proofs.YtikmgiapjigghabDoor

/- Walks: the parser's args. -/
namespace Go.Proofs.YtikmgiapjigghabDoor
open Go.RowKit

/-- What a term's parse ends with. -/
def TermPost (b : Nat) (s : Bs) (w : World) (x : PR Tm) (e : Ending) (w' : World) : Prop :=
  match x with
  | .ok t r' => t.fits ∧ (∃ a cap, e = .returned (.agg #[.int .i64 t.var, .string t.name, .slice a t.args.length cap]) ∧ Ts w' (fun i => w.heap.size ≤ i) t.args a cap) ∧ PB w' b s (s.length - r'.length) ∧ Touch (fun i => i = b) w w'
  | .no r' => e = .panicked (plc (s.length - r'.length)) ∧ Touch (fun i => i = b) w w'

/-- What a list's parse ends with. -/
def ListPost (b : Nat) (s : Bs) (w : World) (x : PR (List Tm)) (e : Ending) (w' : World) : Prop :=
  match x with
  | .ok l r' => (∃ a cap, e = .returned (.slice a l.length cap) ∧ Ts w' (fun i => w.heap.size ≤ i) l a cap) ∧ PB w' b s (s.length - r'.length) ∧ Touch (fun i => i = b) w w'
  | .no r' => e = .panicked (plc (s.length - r'.length)) ∧ Touch (fun i => i = b) w w'

def ListAtP (s : Bs) (b L : Nat) : Prop := ∀ (k : Nat) (w : World), k ≤ s.length → s.length - k ≤ L → PB w b s k → Calls Tryd.prog 33 #[.pointer (some ⟨b, 0, none⟩)] w (ListPost b s w (pList (s.drop k)))
def TermAtP (s : Bs) (b L : Nat) : Prop := ∀ (k : Nat) (w : World), k ≤ s.length → s.length - k ≤ L → PB w b s k → Calls Tryd.prog 53 #[.pointer (some ⟨b, 0, none⟩)] w (TermPost b s w (pTerm (s.drop k)))
def ArgsAtP (s : Bs) (b L : Nat) : Prop := ∀ (nm : Bs) (k : Nat) (w : World), nm.length ≤ 6000 → k ≤ s.length → s.length - k ≤ L → PB w b s k → Calls Tryd.prog 66 #[.pointer (some ⟨b, 0, none⟩), .string (strB nm)] w (TermPost b s w (pArgs nm (s.drop k)))

theorem hd_some {s : Bs} {k : Nat} {c : UInt8} (hc : c ≠ 0) (h : hd (s.drop k) = c) : k < s.length ∧ (s.drop k).tail = s.drop (k + 1) := by
  have h1 : k < s.length := by
    rcases Nat.lt_or_ge k s.length with h1 | h1
    · exact h1
    · rw [List.drop_of_length_le h1] at h; exact absurd h.symm hc
  exact ⟨h1, by rw [List.drop_eq_getElem_cons h1, List.tail_cons]⟩

theorem Box3.set2 {w : World} {b : Nat} {x0 x1 x2 : Value} (h : Box3 w b x0 x1 x2) (v : Value) : Box3 (w.setCell ⟨b, 2, none⟩ v) b x0 x1 v := ⟨by rw [heap_setCell_at _ _ _ _ h.blk]; rfl⟩
theorem PB.keep {w w' : World} {b : Nat} {s : Bs} {k : Nat} (h : PB w b s k) (hb : w'.heap[b]? = w.heap[b]?) : PB w' b s k := ⟨hb.trans h.blk⟩
theorem set3 (w : World) (c : Nat) (x0 x1 x2 : Value) : Touch (fun i => i = c) w (((w.setCell ⟨c, 0, none⟩ x0).setCell ⟨c, 1, none⟩ x1).setCell ⟨c, 2, none⟩ x2) :=
  ((Touch.setCell (M := fun i => i = c) (p := ⟨c, 0, none⟩) x0 rfl).trans (Touch.setCell (M := fun i => i = c) (p := ⟨c, 1, none⟩) x1 rfl)).trans (Touch.setCell (M := fun i => i = c) (p := ⟨c, 2, none⟩) x2 rfl)
/-- What may turn: the parser's box, and what is new. -/
def NewOr (b B : Nat) (i : Nat) : Prop := i = b ∨ B ≤ i
theorem Touch.old {b : Nat} {w w' : World} (h : Touch (NewOr b w.heap.size) w w') : Touch (fun i => i = b) w w' := h.mono fun i hi hm => hm.resolve_right (by omega)
theorem drop_at {s : Bs} {k : Nat} (hk : k ≤ s.length) : s.length - (s.drop k).length = k := by rw [List.length_drop]; omega

theorem fits_name {nm : Bs} {l : List Tm} (h : nm.length ≤ 6000) : (Tm.mk 0 (strB nm) l).fits := by
  unfold Tm.fits I64 maxLen
  simp only [Tm.var, Tm.name, strB_size]
  omega

set_option maxRecDepth 100000 in
set_option maxHeartbeats 800000 in
theorem ArgsStep {s : Bs} {b L : Nat} (hs : s.length ≤ 6000) (ih : ∀ L', L' < L → ListAtP s b L') : ArgsAtP s b L := by
  intro nm k w hn hk hL hp
  have HX := Lib.hid hp
  have B1 : Below w.heap.size w ((w.alloc (.cells #[.int .i64 0, .string ⟨#[]⟩, .slice none 0 0] 48)).alloc (.cells #[.int .i64 0, .string (strB nm), .slice none 0 0] 48)) := ((Below.refl _ _).alloc (Nat.le_refl _) _).alloc (by simp) _
  have HB1 := Lib.hid B1
  have HP1 := Lib.hid (hp.below B1)
  have HR1 : Hid (Box3 ((w.alloc (.cells #[.int .i64 0, .string ⟨#[]⟩, .slice none 0 0] 48)).alloc (.cells #[.int .i64 0, .string (strB nm), .slice none 0 0] 48)) w.heap.size (.int .i64 0) (.string ⟨#[]⟩) (.slice none 0 0)) := Lib.hid ((Box3.made w _ _ _).alloc _)
  have HT1 : Hid (Box3 ((w.alloc (.cells #[.int .i64 0, .string ⟨#[]⟩, .slice none 0 0] 48)).alloc (.cells #[.int .i64 0, .string (strB nm), .slice none 0 0] 48)) (w.heap.size + 1) (.int .i64 0) (.string (strB nm)) (.slice none 0 0)) := Lib.hid (by
    have := Box3.made (w.alloc (.cells #[.int .i64 0, .string ⟨#[]⟩, .slice none 0 0] 48)) (.int .i64 0) (.string (strB nm)) (.slice none 0 0)
    simpa using this)
  have HBW : Hid (b < w.heap.size) := Lib.hid hp.lt
  have HF : Hid (∀ l, (Tm.mk 0 (strB nm) l).fits) := Lib.hid fun l => fits_name hn
  clear hp B1 hn
  have HS := Lib.hid (SeesW 40 (by decide) s k hk _ b HP1.out)
  by_cases h40 : hd (s.drop k) = 40
  · obtain ⟨hlt, ht⟩ := hd_some (by decide) h40
    have HL := Lib.hid (ih (L - 1) (by omega) (k + 1))
    have HE : Hid (pArgs nm (s.drop k) = (pList (s.drop (k + 1))).bind fun l r' => (pNeed [41] r').bind fun _ r'' => .ok (.mk 0 ⟨nm.toArray⟩ l) r'') := Lib.hid (by rw [pArgs_open h40, ht])
    rw [h40] at HS
    clear h40 ht ih
    have HSZ : Hid (∀ w1, Below ((w.alloc (.cells #[.int .i64 0, .string ⟨#[]⟩, .slice none 0 0] 48)).alloc (.cells #[.int .i64 0, .string (strB nm), .slice none 0 0] 48)).heap.size ((w.alloc (.cells #[.int .i64 0, .string ⟨#[]⟩, .slice none 0 0] 48)).alloc (.cells #[.int .i64 0, .string (strB nm), .slice none 0 0] 48)) w1 → w.heap.size + 2 ≤ w1.heap.size) := Lib.hid (fun w1 h => by have := h.size; simp at this; omega)
    have hk1 : k + 1 ≤ s.length := hlt
    have hL1 : s.length - (k + 1) ≤ L - 1 := by omega
    generalize hx : pList (s.drop (k + 1)) = x at HL HE
    cases x with
    | no r1 =>
      clear hx
      go_enter Tryd.func66, Tryd.ntmps66
      go_wp2_with (first
        | (go_at_call 54; refine HS.out.mono ?_; rintro e w1 ⟨rfl, hb1⟩; have HB2 := Lib.hid hb1; obtain ⟨q0, q1, qf⟩ := (HP1.out.below hb1).all; have HP3 := Lib.hid ((HP1.out.below hb1).set' (k + 1) ((k : Int) + 1) (by omega)); have HT2 := Lib.hid (HT1.out.below hb1); have HR2 := Lib.hid (HR1.out.below hb1); clear hb1)
        | (go_at_call 33; refine (HL.out _ hk1 hL1 HP3.out).mono ?_; rintro e w3 ⟨rfl, ht3⟩; have HT3 := Lib.hid ht3; clear ht3))
      refine show _ ∧ TermPost b s w _ (.panicked _) _ from ⟨rfl, ?_⟩
      rw [HE.out]
      have H2 := ((Touch.below (M := NewOr b w.heap.size) (HB1.out.trans (HB2.out.mono HB1.out.size))).trans (Touch.setCell (p := ⟨b, 1, none⟩) (.int .i64 ((k : Int) + 1)) (.inl rfl))).trans (HT3.out.mono fun i _ e => .inl e)
      exact ⟨rfl, H2.old⟩
    | ok l r1 =>
      have hsf := pList_suf hx
      clear hx
      have HK := Lib.hid (suf_at hsf)
      have hkk : s.length - r1.length ≤ s.length := by omega
      have HN := Lib.hid (fun u hu => NeedW [41] (by simp) s (s.length - r1.length) hkk hs u b hu)
      rw [HK.out] at HN
      have HSF := Lib.hid hsf
      clear hsf
      generalize hy : pNeed [41] r1 = y at *
      cases y with
      | no r2 =>
        have HE2 : Hid (pArgs nm (s.drop k) = .no r2) := Lib.hid (by rw [HE.out]; show (pNeed [41] r1).bind _ = _; rw [hy]; rfl)
        clear hy
        go_enter Tryd.func66, Tryd.ntmps66
        go_wp2_with (first
          | (go_at_call 54; refine HS.out.mono ?_; rintro e w1 ⟨rfl, hb1⟩; have HB2 := Lib.hid hb1; obtain ⟨q0, q1, qf⟩ := (HP1.out.below hb1).all; have HP3 := Lib.hid ((HP1.out.below hb1).set' (k + 1) ((k : Int) + 1) (by omega)); have HT2 := Lib.hid (HT1.out.below hb1); have HR2 := Lib.hid (HR1.out.below hb1); clear hb1)
          | (go_at_call 33; refine (HL.out _ hk1 hL1 HP3.out).mono ?_; rintro e w3 ⟨⟨a, cap, rfl, hts⟩, hpb, ht3⟩; have HT3 := Lib.hid ht3; have HTS := Lib.hid hts; have HP4 := Lib.hid ((hpb.keep (Below.heap_setCell w3 ⟨w.heap.size + 1, 2, none⟩ (.slice a l.length cap) _ (by have := HBW.out; simp; omega)))); have HBX := Lib.hid (((HT2.out.keep (Below.heap_setCell w1 ⟨b, 1, none⟩ (.int .i64 ((k : Int) + 1)) _ (by have := HBW.out; simp; omega))).keep (ht3.block _ (by have := HSZ.out _ HB2.out; simp [World.setCell]; omega) (by have := HBW.out; simp; omega)))); obtain ⟨z0, z1, z2, zf⟩ := HBX.out.all; clear hts hpb ht3)
          | (go_at_call 55; refine (HN.out _ HP4.out).mono ?_; rintro e w5 ⟨rfl, ht5⟩; have HT5 := Lib.hid ht5; clear ht5))
        refine show _ ∧ TermPost b s w _ (.panicked _) _ from ⟨rfl, ?_⟩
        rw [HE2.out]
        have H2 := ((Touch.below (M := NewOr b w.heap.size) (HB1.out.trans (HB2.out.mono HB1.out.size))).trans (Touch.setCell (p := ⟨b, 1, none⟩) (.int .i64 ((k : Int) + 1)) (.inl rfl))).trans (HT3.out.mono fun i _ e => .inl e)
        have H4 := (H2.trans (Touch.setCell (p := ⟨w.heap.size + 1, 2, none⟩) (.slice a l.length cap) (.inr (Nat.le_succ _)))).trans (HT5.out.mono fun i _ e => .inl e)
        exact ⟨rfl, H4.old⟩
      | ok u r2 =>
        have HE2 : Hid (pArgs nm (s.drop k) = .ok (.mk 0 (strB nm) l) r2) := Lib.hid (by rw [HE.out]; show (pNeed [41] r1).bind _ = _; rw [hy]; rfl)
        clear hy
        go_enter Tryd.func66, Tryd.ntmps66
        go_wp2_with (first
          | (go_at_call 54; refine HS.out.mono ?_; rintro e w1 ⟨rfl, hb1⟩; have HB2 := Lib.hid hb1; obtain ⟨q0, q1, qf⟩ := (HP1.out.below hb1).all; have HP3 := Lib.hid ((HP1.out.below hb1).set' (k + 1) ((k : Int) + 1) (by omega)); have HT2 := Lib.hid (HT1.out.below hb1); have HR2 := Lib.hid (HR1.out.below hb1); clear hb1)
          | (go_at_call 33; refine (HL.out _ hk1 hL1 HP3.out).mono ?_; rintro e w3 ⟨⟨a, cap, rfl, hts⟩, hpb, ht3⟩; have HT3 := Lib.hid ht3; have HTS := Lib.hid hts; have HP4 := Lib.hid ((hpb.keep (Below.heap_setCell w3 ⟨w.heap.size + 1, 2, none⟩ (.slice a l.length cap) _ (by have := HBW.out; simp; omega)))); have HBX := Lib.hid (((HT2.out.keep (Below.heap_setCell w1 ⟨b, 1, none⟩ (.int .i64 ((k : Int) + 1)) _ (by have := HBW.out; simp; omega))).keep (ht3.block _ (by have := HSZ.out _ HB2.out; simp [World.setCell]; omega) (by have := HBW.out; simp; omega)))); obtain ⟨z0, z1, z2, zf⟩ := HBX.out.all; clear hts hpb ht3)
          | (go_at_call 55; refine (HN.out _ HP4.out).mono ?_; rintro e w5 ⟨rfl, hp5, ht5⟩; have HT5 := Lib.hid ht5; have HP5 := Lib.hid hp5; have HBY := Lib.hid ((HBX.out.set2 (.slice a l.length cap)).keep (ht5.block _ (by have := HBX.out.lt; simp [World.setCell]; omega) (by have := HBW.out; simp; omega))); obtain ⟨v0, v1, v2, vf⟩ := HBY.out.all; have HRY := Lib.hid (((((HR2.out.keep (Below.heap_setCell w1 ⟨b, 1, none⟩ (.int .i64 ((k : Int) + 1)) _ (by have := HBW.out; simp; omega))).keep (HT3.out.block _ (by have := HSZ.out _ HB2.out; simp [World.setCell]; omega) (by have := HBW.out; simp; omega)))).keep (Below.heap_setCell w3 ⟨w.heap.size + 1, 2, none⟩ (.slice a l.length cap) _ (by simp))).keep (ht5.block _ (by have := HBX.out.lt; simp [World.setCell]; omega) (by have := HBW.out; simp; omega))); obtain ⟨r0, r1', r2', rf⟩ := HRY.out.all; clear hp5 ht5))
        refine bodyPost_ret (v := .agg #[.int .i64 0, .string (strB nm), .slice a l.length cap]) (by simp [results, Tryd.results66, go_sem, r0, r1', r2']) rfl ?_
        rw [HE2.out]
        have H2 := ((Touch.below (M := NewOr b w.heap.size) (HB1.out.trans (HB2.out.mono HB1.out.size))).trans (Touch.setCell (p := ⟨b, 1, none⟩) (.int .i64 ((k : Int) + 1)) (.inl rfl))).trans (HT3.out.mono fun i _ e => .inl e)
        have H3 := set3 w5 w.heap.size (.int .i64 0) (.string (strB nm)) (.slice a l.length cap)
        have H4 := ((H2.trans (Touch.setCell (p := ⟨w.heap.size + 1, 2, none⟩) (.slice a l.length cap) (.inr (Nat.le_succ _)))).trans (HT5.out.mono fun i _ e => .inl e)).trans (H3.mono fun i _ e => .inr (Nat.le_of_eq e.symm))
        have K := ((Touch.setCell (M := fun i => i = b ∨ i = w.heap.size ∨ i = w.heap.size + 1) (w := w3) (p := ⟨w.heap.size + 1, 2, none⟩) (.slice a l.length cap) (.inr (.inr rfl))).trans (HT5.out.mono fun i _ e => .inl e)).trans (H3.mono fun i _ e => .inr (.inl e))
        have hs1 := HSZ.out _ HB2.out
        have hb := HBW.out
        refine ⟨HF.out _, ⟨a, cap, rfl, ?_⟩, ?_, H4.old⟩
        · refine (HTS.out.keep (K.keeps fun i hi hm => ?_)).mono (fun i _ hi => ?_)
          · simp only [World.setCell, Array.size_modify] at hi
            omega
          · simp only [World.setCell, Array.size_modify] at hi
            omega
        · exact HP5.out.keep (H3.block b HP5.out.lt (Nat.ne_of_lt hb))
  · have HE : Hid (pArgs nm (s.drop k) = .ok (.mk 0 (strB nm) []) (s.drop k)) := Lib.hid (pArgs_none h40)
    rw [decide_eq_false h40] at HS
    clear h40 ih
    go_enter Tryd.func66, Tryd.ntmps66
    go_wp2_with (go_at_call 54; refine HS.out.mono ?_; rintro e w1 ⟨rfl, hb1⟩; have HB2 := Lib.hid hb1; obtain ⟨z0, z1, z2, zf⟩ := (HT1.out.below hb1).all; obtain ⟨r0, r1, r2, rf⟩ := (HR1.out.below hb1).all; clear hb1)
    refine bodyPost_ret (v := .agg #[.int .i64 0, .string (strB nm), .slice none 0 0]) (by simp [results, Tryd.results66, go_sem, r0, r1, r2]) rfl ?_
    rw [HE.out]
    have H3 := set3 w1 w.heap.size (.int .i64 0) (.string (strB nm)) (.slice none 0 0)
    have H2 := (Touch.below (M := NewOr b w.heap.size) (HB1.out.trans (HB2.out.mono HB1.out.size))).trans (H3.mono fun i _ e => .inr (Nat.le_of_eq e.symm))
    refine ⟨HF.out _, ⟨none, 0, rfl, Ts.empty _ _⟩, ?_, H2.old⟩
    rw [drop_at hk]
    have h4 := HP1.out.below HB2.out
    exact h4.keep (H3.block b h4.lt (Nat.ne_of_lt HBW.out))

end Go.Proofs.YtikmgiapjigghabDoor
