/- Walks: Check of a term, the program's and the reference's. -/
import Derived.Test.YtikmgiapjigghaaParts
import Derived.Test.YtikmgiapjigghaaSize
import Derived.Test.YtikmgiapjigghaaName
namespace Go.Proofs.Ytikmgiapjigghaa
open Go.RowKit

/-- What is wrong with a part of a term by itself. -/
def partE (v : Int) (n : ByteArray) (len : Nat) : Nat :=
  if v = 0 then
    (if nameB n = false then 1 else if 4 < len then 2 else if (n.toList == [33]) = true ∧ 0 < len then 1 else 0)
  else if v < 1 ∨ 12 < v then 3 else if n.size ≠ 0 ∨ 0 < len then 1 else 0

theorem partE_range {v : Int} {n : ByteArray} {len : Nat} (h : v ≠ 0) (h1 : v < 1 ∨ 12 < v) : partE v n len = 3 := by unfold partE; rw [if_neg h, if_pos h1]
theorem partE_var {v : Int} {n : ByteArray} {len : Nat} (h : v ≠ 0) (h1 : ¬ (v < 1 ∨ 12 < v)) (h2 : n.size ≠ 0 ∨ 0 < len) : partE v n len = 1 := by unfold partE; rw [if_neg h, if_neg h1, if_pos h2]
theorem partE_varok {v : Int} {n : ByteArray} {len : Nat} (h : v ≠ 0) (h1 : ¬ (v < 1 ∨ 12 < v)) (h2 : ¬ (n.size ≠ 0 ∨ 0 < len)) : partE v n len = 0 := by unfold partE; rw [if_neg h, if_neg h1, if_neg h2]
theorem partE_name {n : ByteArray} {len : Nat} (h : nameB n = false) : partE 0 n len = 1 := by unfold partE; rw [if_pos rfl, if_pos h]
theorem partE_many {n : ByteArray} {len : Nat} (h : nameB n = true) (h1 : 4 < len) : partE 0 n len = 2 := by unfold partE; rw [if_pos rfl, if_neg (by rw [h]; simp), if_pos h1]
theorem partE_cut {n : ByteArray} {len : Nat} (h : nameB n = true) (h1 : ¬ 4 < len) (h2 : (n.toList == [33]) = true) (h3 : 0 < len) : partE 0 n len = 1 := by
  unfold partE; rw [if_pos rfl, if_neg (by rw [h]; simp), if_neg h1, if_pos ⟨h2, h3⟩]
theorem partE_ok {n : ByteArray} {len : Nat} (h : nameB n = true) (h1 : ¬ 4 < len) (h2 : ¬ ((n.toList == [33]) = true ∧ 0 < len)) : partE 0 n len = 0 := by
  unfold partE; rw [if_pos rfl, if_neg (by rw [h]; simp), if_neg h1, if_neg h2]

theorem toList_ne (n : ByteArray) (h : ¬ n.size = 0) : ¬ n.toList = [] := by
  rw [ByteArray.toList_eq]
  intro e
  apply h
  have : n.data.toList.length = 0 := by rw [e]; rfl
  simpa using this

set_option maxRecDepth 100000 in
set_option maxHeartbeats 400000 in
theorem partW (v : Int) (n : ByteArray) (a : Option Addr) (len cap : Nat) (w : World) (hn : n.size ≤ maxLen) (hlen : len ≤ maxLen) :
    Calls Try.prog 99 #[.agg #[.int .i64 v, .string n, .slice a len cap]] w fun e w' => e = .returned (.int .i64 (partE v n len : Nat)) ∧ Below w.heap.size w w' := by
  have hcl : len ≤ 9223372036854775807 := by unfold maxLen at hlen; omega
  clear hlen
  have B0 := (Below.refl w.heap.size w).alloc (Nat.le_refl _) (.cells #[.int .i64 v, .string n, .slice a len cap] 24)
  by_cases hv : v = 0
  · subst hv
    by_cases h1 : nameB n = true
    · by_cases h2 : 4 < len
      · skip
        have H := Lib.hid (partE_many h1 h2)
        go_enter Try.func99, Try.ntmps99
        go_wp2_with (go_at_call 128; refine (NameW n _ hn).mono ?_; rintro e w' ⟨rfl, hb⟩; obtain ⟨hc, hf⟩ := bcell hb)
        all_goals (go_ret; exact ⟨retN H.out.symm, B0.trans (hb.mono (by simp))⟩)
      · by_cases h3 : (n.toList == [33]) = true
        · by_cases h4 : 0 < len
          · skip
            have H := Lib.hid (partE_cut h1 h2 h3 h4)
            go_enter Try.func99, Try.ntmps99
            go_wp2_with (go_at_call 128; refine (NameW n _ hn).mono ?_; rintro e w' ⟨rfl, hb⟩; obtain ⟨hc, hf⟩ := bcell hb)
            all_goals (go_ret; exact ⟨retN H.out.symm, B0.trans (hb.mono (by simp))⟩)
          · skip
            have H := Lib.hid (partE_ok h1 h2 (fun h => h4 h.2))
            go_enter Try.func99, Try.ntmps99
            go_wp2_with (go_at_call 128; refine (NameW n _ hn).mono ?_; rintro e w' ⟨rfl, hb⟩; obtain ⟨hc, hf⟩ := bcell hb)
            all_goals (go_ret; exact ⟨retN H.out.symm, B0.trans (hb.mono (by simp))⟩)
        · have h3' : (n.toList == [33]) = false := Bool.eq_false_iff.2 h3
          clear h3
          have H := Lib.hid (partE_ok h1 h2 (fun h => by rw [h3'] at h; cases h.1))
          go_enter Try.func99, Try.ntmps99
          go_wp2_with (go_at_call 128; refine (NameW n _ hn).mono ?_; rintro e w' ⟨rfl, hb⟩; obtain ⟨hc, hf⟩ := bcell hb)
          all_goals (go_ret; exact ⟨retN H.out.symm, B0.trans (hb.mono (by simp))⟩)
    · have h1' : nameB n = false := Bool.eq_false_iff.2 h1
      clear h1
      have H := Lib.hid (partE_name (len := len) h1')
      go_enter Try.func99, Try.ntmps99
      go_wp2_with (go_at_call 128; refine (NameW n _ hn).mono ?_; rintro e w' ⟨rfl, hb⟩; obtain ⟨hc, hf⟩ := bcell hb)
      all_goals (go_ret; exact ⟨retN H.out.symm, B0.trans (hb.mono (by simp))⟩)
  · by_cases h1 : v < 1
    · skip
      have H := Lib.hid (partE_range (n := n) (len := len) hv (.inl h1))
      go_enter Try.func99, Try.ntmps99
      go_wp2_with fail
      all_goals (go_ret; exact ⟨retN H.out.symm, B0⟩)
    · by_cases h2 : 12 < v
      · skip
        have H := Lib.hid (partE_range (n := n) (len := len) hv (.inr h2))
        go_enter Try.func99, Try.ntmps99
        go_wp2_with fail
        all_goals (go_ret; exact ⟨retN H.out.symm, B0⟩)
      · by_cases h3 : n.size = 0
        · obtain rfl := emptyB n h3
          by_cases h4 : 0 < len
          · skip
            clear h3 hn
            have H := Lib.hid (partE_var (n := ByteArray.empty) hv (by omega) (.inr h4))
            go_enter Try.func99, Try.ntmps99
            go_wp2_with fail
            all_goals (go_ret; exact ⟨retN H.out.symm, B0⟩)
          · skip
            clear hn
            have H := Lib.hid (partE_varok (n := ByteArray.empty) (len := len) hv (by omega) (by rw [h3]; omega))
            go_enter Try.func99, Try.ntmps99
            go_wp2_with fail
            all_goals (go_ret; exact ⟨retN H.out.symm, B0⟩)
        · have hne := toList_ne n h3
          have H := Lib.hid (partE_var (len := len) hv (by omega) (.inl h3))
          go_enter Try.func99, Try.ntmps99
          go_wp2_with fail
          all_goals (go_ret; exact ⟨retN H.out.symm, B0⟩)

mutual
/-- The first thing that is wrong with a term's parts. -/
def Tm.partsE : Tm → Nat
  | .mk v n l => if partE v n l.length = 0 then Tm.partssE l else partE v n l.length
def Tm.partssE : List Tm → Nat
  | [] => 0
  | t :: r => if t.partsE = 0 then Tm.partssE r else t.partsE
end

theorem Tm.partssE_at : ∀ (l : List Tm) (k : Nat) (h : k < l.length), (∀ j (hj : j < k), (l[j]'(by omega)).partsE = 0) → l[k].partsE ≠ 0 → Tm.partssE l = l[k].partsE
  | [], _, h, _, _ => by cases h
  | t :: r, 0, _, _, hk => by
    have hk' : t.partsE ≠ 0 := hk
    rw [Tm.partssE, if_neg hk']; rfl
  | t :: r, k + 1, h, hj, hk => by
    have h0 : t.partsE = 0 := hj 0 (by omega)
    rw [Tm.partssE, if_pos h0]
    exact Tm.partssE_at r k (by simpa using h) (fun j hjk => by have := hj (j + 1) (by omega); simpa using this) (by simpa using hk)

theorem Tm.partssE_none : ∀ (l : List Tm), (∀ j (hj : j < l.length), l[j].partsE = 0) → Tm.partssE l = 0
  | [], _ => rfl
  | t :: r, h => by
    have h0 : t.partsE = 0 := h 0 (by simp)
    rw [Tm.partssE, if_pos h0]
    exact Tm.partssE_none r (fun j hj => by have := h (j + 1) (by simpa using hj); simpa using this)

theorem Tm.partsE_part {v : Int} {n : ByteArray} {l : List Tm} (h : partE v n l.length ≠ 0) : (Tm.mk v n l).partsE = partE v n l.length := by rw [Tm.partsE, if_neg h]
theorem Tm.partsE_args {v : Int} {n : ByteArray} {l : List Tm} (h : partE v n l.length = 0) : (Tm.mk v n l).partsE = Tm.partssE l := by rw [Tm.partsE, if_pos h]

theorem bne0 {n : Nat} (h : n ≠ 0) : ((n : Int) != 0) = true := by rw [bne_iff_ne]; omega

set_option maxRecDepth 100000 in
set_option maxHeartbeats 400000 in
theorem partsW (t : Tm) : ∀ (w : World) (ok : Nat → Prop) (a : Option Addr) (cap : Nat), t.fits → Ts w ok t.args a cap →
    Calls Try.prog 59 #[.agg #[.int .i64 t.var, .string t.name, .slice a t.args.length cap]] w fun e w' => e = .returned (.int .i64 (t.partsE : Nat)) ∧ Below w.heap.size w w' := by
  induction t using Tm.ind with
  | h v n l ih =>
    intro w ok a cap hfit hrd
    have IH := Lib.hid ih; clear ih
    simp only [Tm.var, Tm.name, Tm.args] at hrd ⊢
    have HRD := Lib.hid hrd
    have hcap := hrd.cap
    have hn : n.size ≤ maxLen := hfit.2
    have hlen : l.length ≤ maxLen := by omega
    have hcl : l.length ≤ 9223372036854775807 := by unfold maxLen at hcap; omega
    clear hcap hrd hfit
    have HN := Lib.hid hn; have HL := Lib.hid hlen; clear hn hlen
    have B0 := (Below.refl w.heap.size w).alloc (Nat.le_refl _) (.cells #[.int .i64 v, .string n, .slice a l.length cap] 24)
    by_cases hp : partE v n l.length = 0
    · have HE := Lib.hid (Tm.partsE_args hp)
      go_enter Try.func59, Try.ntmps59
      go_wp2_with (go_at_call 99; refine (partW v n a _ cap _ HN.out HL.out).mono ?_; rintro e w1 ⟨rfl, hb⟩; obtain ⟨hc, hf⟩ := bcell hb)
      have B1 := B0.trans (hb.mono (by simp))
      go_loopw [15] (fun i wr => ∃ k : Nat, k ≤ l.length ∧ i = .int .i64 k ∧ Hid (∀ j (hj : j < l.length), j < k → l[j].partsE = 0) ∧ Below w.heap.size w wr ∧ w.heap.size < wr.heap.size) (fun i _ => l.length - (intOf i).toNat)
      case atStart => exact ⟨0, Nat.zero_le _, rfl, Lib.hid (fun j hj h0 => by omega), B1, by have := hb.size; simp at this; omega⟩
      case round =>
        obtain ⟨k, hk, rfl, HZ, hbr, hszr⟩ := hrel
        by_cases hlt : k < l.length
        · obtain ⟨b, off, a', cap', rfl, hokb, hbs, hc3, ht⟩ := HRD.out.at k hlt
          have hcv := (hbr.cell (p := ⟨b, off + k * 3, none⟩) hbs).trans hc3.var
          have hcn := (hbr.cell (p := ⟨b, off + k * 3 + 1, none⟩) hbs).trans hc3.name
          have hca := (hbr.cell (p := ⟨b, off + k * 3 + 2, none⟩) hbs).trans hc3.args
          have hmem : l[k] ∈ l := List.getElem_mem hlt
          have HC3 := Lib.hid hc3.fits
          clear hc3 hc hf
          by_cases hz : l[k].partsE = 0
          · go_wp2_with fail
            refine (IH.out _ hmem _ ok a' cap' HC3.out (ht.keep ((Keeps.below hbr ok).trans (Keeps.below ((Below.refl _ _).alloc (Nat.le_refl _) _) ok)))).mono ?_
            rintro e w' ⟨rfl, hb'⟩
            obtain ⟨hc', hf'⟩ := bcell hb'
            have HZ' : Hid (∀ j (hj : j < l.length), j < k + 1 → l[j].partsE = 0) := Lib.hid (fun j hj h => by
              by_cases e : j = k
              · subst e; exact hz
              · exact HZ.out j hj (by omega))
            go_wp2_with fail
            go_roundw
            case rel => exact ⟨k + 1, by omega, by go_num, HZ'.out, (hbr.alloc (Nat.le_of_lt hszr) _).trans (hb'.mono (by simp; omega)), by have := hb'.size; simp at this; omega⟩
            case measure => simp [intOf]; omega
          · have HR : Hid ((Tm.mk v n l).partsE = l[k].partsE) := Lib.hid (HE.out.trans (Tm.partssE_at l k hlt (fun j hj => HZ.out j (by omega) hj) hz))
            have hz' := bne0 hz
            go_wp2_with fail
            refine (IH.out _ hmem _ ok a' cap' HC3.out (ht.keep ((Keeps.below hbr ok).trans (Keeps.below ((Below.refl _ _).alloc (Nat.le_refl _) _) ok)))).mono ?_
            rintro e w' ⟨rfl, hb'⟩
            obtain ⟨hc', hf'⟩ := bcell hb'
            go_wp2_with fail
            go_ret
            exact ⟨retN HR.out.symm, (hbr.alloc (Nat.le_of_lt hszr) _).trans (hb'.mono (by simp; omega))⟩
        · have HR : Hid ((Tm.mk v n l).partsE = 0) := Lib.hid (HE.out.trans (Tm.partssE_none l (fun j hj => HZ.out j hj (by omega))))
          go_wp2_with fail
          go_ret
          exact ⟨retN HR.out.symm, hbr⟩
    · have HE := Lib.hid (Tm.partsE_part hp)
      have hp' := bne0 hp
      go_enter Try.func59, Try.ntmps59
      go_wp2_with (go_at_call 99; refine (partW v n a _ cap _ HN.out HL.out).mono ?_; rintro e w1 ⟨rfl, hb⟩; obtain ⟨hc, hf⟩ := bcell hb)
      go_ret
      exact ⟨retN HE.out.symm, B0.trans (hb.mono (by simp))⟩

/-- What Check says of a term. -/
def Tm.checkE (t : Tm) : Nat := if 60 < t.size then 2 else t.partsE

set_option maxRecDepth 100000 in
set_option maxHeartbeats 400000 in
theorem CheckW (t : Tm) (w : World) (ok : Nat → Prop) (a : Option Addr) (cap : Nat) (hfit : t.fits) (hrd : Ts w ok t.args a cap) :
    Calls Try.prog 17 #[.agg #[.int .i64 t.var, .string t.name, .slice a t.args.length cap]] w fun e w' => e = .returned (.int .i64 (t.checkE : Nat)) ∧ Below w.heap.size w w' := by
  have B0 := (Below.refl w.heap.size w).alloc (Nat.le_refl _) (.cells #[.int .i64 t.var, .string t.name, .slice a t.args.length cap] 24)
  have HRD := Lib.hid hrd; have HF := Lib.hid hfit; clear hrd hfit
  by_cases h : 60 < t.size
  · have H : Hid (t.checkE = 2) := Lib.hid (by unfold Tm.checkE; rw [if_pos h])
    have hm : min t.size (Int.toNat 60 + 1) = 61 := by simp; omega
    clear h
    go_enter Try.func17, Try.ntmps17
    go_wp2_with (go_at_call 58; refine (SizeW t 60 _ ok a cap (by omega) (by omega) (HRD.out.keep (Keeps.below ((Below.refl _ _).alloc (Nat.le_refl _) _) ok))).mono ?_; rintro e w1 ⟨rfl, hb⟩; rw [hm])
    go_ret
    exact ⟨retN H.out.symm, B0.trans (hb.mono (by simp))⟩
  · have H : Hid (t.checkE = t.partsE) := Lib.hid (by unfold Tm.checkE; rw [if_neg h])
    have hm : min t.size (Int.toNat 60 + 1) = t.size := by simp; omega
    go_enter Try.func17, Try.ntmps17
    go_wp2_with (first | (go_at_call 58; refine (SizeW t 60 _ ok a cap (by omega) (by omega) (HRD.out.keep (Keeps.below ((Below.refl _ _).alloc (Nat.le_refl _) _) ok))).mono ?_; rintro e w1 ⟨rfl, hb⟩; obtain ⟨hc, hf⟩ := bcell hb; rw [hm]) | fail)
    refine (partsW t _ ok a cap HF.out (HRD.out.keep ((Keeps.below ((Below.refl _ _).alloc (Nat.le_refl _) _) ok).trans (Keeps.below hb ok)))).mono ?_
    rintro e w2 ⟨rfl, hb2⟩
    go_wp2_with fail
    go_ret
    exact ⟨retN H.out.symm, (B0.trans (hb.mono (by simp))).trans (hb2.mono (by have := hb.size; simp at this; omega))⟩

end Go.Proofs.Ytikmgiapjigghaa
