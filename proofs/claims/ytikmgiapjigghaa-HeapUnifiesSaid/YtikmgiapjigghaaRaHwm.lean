/- Walk: the reference's Within on a heap. -/
import Derived.Test.YtikmgiapjigghaaRa15
namespace Go.Proofs.Ytikmgiapjigghaa
open Go.RowKit

/-- What Within hands back. -/
def RWPost (w : World) (bs g cap : Nat) (tv : Value) (K : List HC) (Bd : List Nat) (o : HW) (e : Ending) (w' : World) : Prop :=
  Touch (BM bs g tv) w w' ∧
  match o with
  | .yes f => e = .returned (.int .i64 1) ∧ BAt 61 w' bs g cap tv K Bd (4000 - f)
  | .no f => e = .returned (.int .i64 0) ∧ BAt 61 w' bs g cap tv K Bd (4000 - f)
  | .many => e = .returned (.int .i64 2) ∧ BAt 61 w' bs g cap tv K Bd 4001

set_option maxRecDepth 100000 in
set_option maxHeartbeats 1000000 in
theorem RWithinW {bs g cap : Nat} {tv : Value} {K : List HC} {Bd : List Nat} (hI : HInv K) (v : Nat) (f : Nat) : ∀ (t : Nat) (w : World), f ≤ 4000 → BAt 61 w bs g cap tv K Bd (4000 - f) → t < K.length →
    Calls Try.prog 83 #[.pointer (some ⟨bs, 0, none⟩), .int .i64 v, .int .i64 t] w (RWPost w bs g cap tv K Bd (withinH K v f [t])) := by
  induction f using Nat.strongRecOn with
  | _ f ih =>
  intro t w hf4 hst ht
  have IH := Lib.hid ih; have HI := Lib.hid hI
  clear ih hI
  cases f with
  | zero =>
    have hst' : BAt 61 w bs g cap tv K Bd 4000 := hst
    obtain ⟨c0, c1, c2, cf, -⟩ := hst'.cells
    have f2 := cf 2
    have HW' : Hid (withinH K v 0 [t] = .many) := Lib.hid (by simp [withinH])
    have HS : Hid (BAt 61 (w.setCell ⟨bs, 2, none⟩ (.int .i64 4001)) bs g cap tv K Bd 4001) := Lib.hid hst'.spent
    have HT : Hid (Touch (BM bs g tv) w (w.setCell ⟨bs, 2, none⟩ (.int .i64 4001))) := Lib.hid (Touch.setCell _ (.inl rfl))
    have c2' : w.cell? ⟨bs, 2, none⟩ = some (.int .i64 4000) := c2
    clear cf hst hst' c2
    go_enter Try.func83, Try.ntmps83
    go_wp2_with fail
    go_ret
    rw [HW'.out]
    exact ⟨HT.out, rfl, HS.out⟩
  | succ f =>
    obtain ⟨wk, hwk⟩ : ∃ wk, 4000 - (f + 1) = wk := ⟨_, rfl⟩
    rw [hwk] at hst
    have hwf : wk + 1 = 4000 - f := by omega
    have hle : (wk : Int) + 1 ≤ 4000 := by omega
    obtain ⟨c0, c1, c2, cf, -⟩ := hst.cells
    have f2 := cf 2
    have hs1 := hst.spent
    rw [hwf] at hs1
    have HT1 : Hid (Touch (BM bs g tv) w (w.setCell ⟨bs, 2, none⟩ (.int .i64 ((wk : Int) + 1)))) := Lib.hid (Touch.setCell _ (.inl rfl))
    obtain ⟨k0, k1, k2, -, -⟩ := hs1.cells
    have k2' : (w.setCell ⟨bs, 2, none⟩ (.int .i64 ((wk : Int) + 1))).cell? ⟨bs, 2, none⟩ = some (.int .i64 ((wk : Int) + 1)) := by rw [k2, ← hwf]; rfl
    obtain ⟨m, hm⟩ := end_spec (HI.out.straight t ht)
    have hel := HI.out.end ht
    have HWI : Hid (withinH K v (f + 1) [t] = if (hc K (endH K t)).k = 1 then (if endH K t = v then .yes f else .no f) else withinH K v f (argsH K (endH K t))) := Lib.hid (by
      simp only [withinH, List.append_nil])
    have HEW := Lib.hid (EndOfW hs1.hp HI.out.cells hm ht)
    have HS1 := Lib.hid hs1
    clear hs1 hm cf hst hwk hwf k2
    generalize endH K t = x at *
    obtain ⟨b', off', he, -, -, d0, d1, d2, -⟩ := HS1.out.hp.at' x hel.1
    injection he with he
    injection he with e1 e2
    subst e1; subst e2
    rw [Nat.zero_add] at d0 d1 d2
    have hxl := hel.1
    have hKl : K.length ≤ 9223372036854775807 := by have := HI.out.len; omega
    clear hel
    by_cases hk : (hc K x).k = 1
    · rw [hk] at d0
      by_cases hxv : x = v
      · have HR : Hid (withinH K v (f + 1) [t] = .yes f) := Lib.hid (by rw [HWI.out, if_pos hk, if_pos hxv])
        have hxv' : ((x : Int) == (v : Int)) = true := by rw [beq_iff_eq]; omega
        clear hk hxv
        go_enter Try.func83, Try.ntmps83
        go_wp2_with (go_at_call 31; refine HEW.out.mono ?_; rintro e w2 ⟨rfl, rfl⟩)
        go_ret
        rw [HR.out]
        exact ⟨HT1.out, rfl, HS1.out⟩
      · have HR : Hid (withinH K v (f + 1) [t] = .no f) := Lib.hid (by rw [HWI.out, if_pos hk, if_neg hxv])
        have hxv' : ((x : Int) == (v : Int)) = false := by rw [beq_eq_false_iff_ne]; omega
        clear hk hxv
        go_enter Try.func83, Try.ntmps83
        go_wp2_with (go_at_call 31; refine HEW.out.mono ?_; rintro e w2 ⟨rfl, rfl⟩)
        go_ret
        rw [HR.out]
        exact ⟨HT1.out, rfl, HS1.out⟩
    · have hk' : ((hc K x).k == 1) = false := by simpa using hk
      have HWA : Hid (withinH K v (f + 1) [t] = withinH K v f (argsH K x)) := Lib.hid (by rw [HWI.out, if_neg hk])
      obtain ⟨n, hn, hn4, hxn⟩ : ∃ n : Nat, (hc K x).n = (n : Int) ∧ n ≤ 4 ∧ x + n < K.length := by
        rcases cell_right (HI.out.cells x hxl) with ⟨h1, _⟩ | ⟨_, _, h2, h3, h4, _⟩
        · exact absurd h1 hk
        · exact ⟨(hc K x).n.toNat, by omega, h3, h4⟩
      have HAD := Lib.hid (fun k hk2 => argsH_drop (k := k) hn hk2)
      have HAL : Hid ((argsH K x).length = n) := Lib.hid (by unfold argsH; rw [hn]; simp)
      have HN := Lib.hid hn
      rw [hn] at d1
      clear hk hn HWI
      go_enter Try.func83, Try.ntmps83
      go_wp2_with (go_at_call 31; refine HEW.out.mono ?_; rintro e w2 ⟨rfl, rfl⟩)
      clear c0 c1 c2 f2 k0 k1 k2' d0 d1 d2
      go_loopw [7] (fun y wr => ∃ k fk, k ≤ n ∧ y = .int .i64 ((k : Int) + 1) ∧ fk ≤ f ∧ Hid (withinH K v f (argsH K x) = withinH K v fk ((argsH K x).drop k)) ∧ BAt 61 wr bs g cap tv K Bd (4000 - fk) ∧ Touch (BM bs g tv) w wr) (fun y _ => n + 1 - (intOf y).toNat)
      case atStart => exact ⟨0, f, Nat.zero_le _, rfl, Nat.le_refl _, Lib.hid rfl, HS1.out, HT1.out⟩
      case round =>
        obtain ⟨k, fk, hk, rfl, hfk, HWk, hsk, htk⟩ := hrel
        have SK := Lib.hid hsk; have TK := Lib.hid htk
        obtain ⟨c0, -, -, -, -⟩ := hsk.cells
        obtain ⟨b', off', he, -, -, -, d1, -, -⟩ := hsk.hp.at' x hxl
        injection he with he
        injection he with e1 e2
        subst e1; subst e2
        rw [Nat.zero_add, HN.out] at d1
        clear hsk htk
        by_cases hlt : k < n
        · have hsplit : withinH K v fk ((argsH K x).drop k) = (withinH K v fk [x + 1 + k]).then fun f' => withinH K v f' ((argsH K x).drop (k + 1)) := by
            rw [HAD.out k hlt, ← withinH_append, List.singleton_append]
          have HSP := Lib.hid hsplit
          have HCL := Lib.hid (IH.out fk (by omega) (x + 1 + k) wr (by omega) SK.out (by omega))
          have HLE := Lib.hid (withinH_le K v fk [x + 1 + k])
          have hcast : ((x + 1 + k : Nat) : Int) = (x : Int) + ((k : Int) + 1) := by omega
          rw [hcast] at HCL
          have hlt' : (k : Int) + 1 ≤ (n : Int) := by omega
          clear hsplit hcast
          generalize withinH K v fk [x + 1 + k] = o at *
          go_wp2_with fail
          refine HCL.out.mono ?_
          intro e w4 hpost
          clear c0 d1
          cases o with
          | yes f' =>
            obtain ⟨ht4, rfl, hs4⟩ := hpost
            have HS4 := Lib.hid hs4; have HT4 := Lib.hid ht4
            have HR : Hid (withinH K v f (argsH K x) = .yes f') := Lib.hid (by rw [HWk.out, HSP.out]; rfl)
            clear hs4 ht4
            go_wp2_with fail
            go_ret
            rw [HWA.out, HR.out]
            exact ⟨TK.out.trans HT4.out, rfl, HS4.out⟩
          | no f' =>
            obtain ⟨ht4, rfl, hs4⟩ := hpost
            have HS4 := Lib.hid hs4; have HT4 := Lib.hid ht4
            have HR : Hid (withinH K v f (argsH K x) = withinH K v f' ((argsH K x).drop (k + 1))) := Lib.hid (by rw [HWk.out, HSP.out]; rfl)
            have hf' : f' ≤ fk := HLE.out.2 f' rfl
            clear hs4 ht4
            go_wp2_with fail
            go_roundw
            case rel => exact ⟨k + 1, f', by omega, by go_num, by omega, HR, HS4.out, TK.out.trans HT4.out⟩
            case measure => simp [intOf]; omega
          | many =>
            obtain ⟨ht4, rfl, hs4⟩ := hpost
            have HS4 := Lib.hid hs4; have HT4 := Lib.hid ht4
            have HR : Hid (withinH K v f (argsH K x) = .many) := Lib.hid (by rw [HWk.out, HSP.out]; rfl)
            clear hs4 ht4
            go_wp2_with fail
            go_ret
            rw [HWA.out, HR.out]
            exact ⟨TK.out.trans HT4.out, rfl, HS4.out⟩
        · have HR : Hid (withinH K v f (argsH K x) = .no fk) := Lib.hid (by rw [HWk.out, List.drop_eq_nil_of_le (by rw [HAL.out]; omega)]; cases fk <;> rfl)
          have hge : (n : Int) < (k : Int) + 1 := by omega
          go_wp2_with fail
          go_ret
          rw [HWA.out, HR.out]
          exact ⟨TK.out, rfl, SK.out⟩

end Go.Proofs.Ytikmgiapjigghaa
