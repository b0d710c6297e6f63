/- Programs as plain data; walks: Query, Clauses and what they call, the program's and the reference's. -/
import Derived.Test.YtikmgiapjigghaaCheckB
namespace Go.Proofs.Ytikmgiapjigghaa
open Go.RowKit

/-- A clause as plain data. -/
structure Cl where
  head : Tm
  body : List Tm

/-- A program in a world. -/
structure Pr (w : World) (ok : Nat → Prop) (P : List Cl) (a : Option Addr) (cap : Nat) : Prop where
  room : P.length ≤ cap ∧ cap ≤ maxLen ∧ (a = none → cap = 0)
  elem : ∀ i (h : i < P.length), ∃ (b off : Nat) (a1 a2 : Option Addr) (c1 c2 : Nat), a = some ⟨b, off, none⟩ ∧ ok b ∧ b < w.heap.size ∧ Cells3 w b (off + i * 4) P[i].head a1 c1 ∧
    w.cell? ⟨b, off + i * 4 + 3, none⟩ = some (.slice a2 P[i].body.length c2) ∧ Ts w ok P[i].head.args a1 c1 ∧ Ts w ok P[i].body a2 c2

theorem Pr.keep {w w' : World} {ok : Nat → Prop} (hk : Keeps ok w w') {P : List Cl} {a : Option Addr} {cap : Nat} (h : Pr w ok P a cap) : Pr w' ok P a cap := by
  refine ⟨h.room, fun i hi => ?_⟩
  obtain ⟨b, off, a1, a2, c1, c2, h1, h2, h3, h4, h5, h6, h7⟩ := h.elem i hi
  exact ⟨b, off, a1, a2, c1, c2, h1, h2, Nat.lt_of_lt_of_le h3 hk.size, ⟨(hk.cell (p := ⟨b, _, none⟩) h2 h3).trans h4.var, (hk.cell (p := ⟨b, _, none⟩) h2 h3).trans h4.name, (hk.cell (p := ⟨b, _, none⟩) h2 h3).trans h4.args, h4.fits⟩,
    (hk.cell (p := ⟨b, _, none⟩) h2 h3).trans h5, h6.keep hk, h7.keep hk⟩

/-- The first of some numbers that is not 0. -/
def firstN (l : List Nat) : Nat := (l.find? (· ≠ 0)).getD 0

theorem firstN_at (l : List Nat) (k : Nat) (h : k < l.length) (hj : ∀ j (hj : j < k), l[j]'(by omega) = 0) (hk : l[k] ≠ 0) : firstN l = l[k] := by
  unfold firstN
  rw [List.find?_eq_some_iff_getElem.2 ⟨by simpa using hk, k, h, rfl, fun j hjk => by simpa using hj j hjk⟩]; rfl

theorem firstN_none (l : List Nat) (h : ∀ j (hj : j < l.length), l[j] = 0) : firstN l = 0 := by
  unfold firstN
  rw [List.find?_eq_none.2 (fun x hx => by obtain ⟨j, hj, rfl⟩ := List.getElem_of_mem hx; simp [h j hj])]; rfl

/-- What Query says. -/
def queryE (q : List Tm) : Nat := if 6 < q.length then 2 else firstN (q.map Tm.checkE)

theorem queryE_many {q : List Tm} (h : 6 < q.length) : queryE q = 2 := by unfold queryE; rw [if_pos h]
theorem queryE_at {q : List Tm} (h : ¬ 6 < q.length) (k : Nat) (hk : k < q.length) (hj : ∀ j (hj : j < q.length), j < k → q[j].checkE = 0) (hz : q[k].checkE ≠ 0) : queryE q = q[k].checkE := by
  unfold queryE; rw [if_neg h, firstN_at (q.map Tm.checkE) k (by simpa using hk) (fun j hjk => by simpa using hj j (by omega) hjk) (by simpa using hz)]; simp
theorem queryE_none {q : List Tm} (h : ¬ 6 < q.length) (hj : ∀ j (hj : j < q.length), q[j].checkE = 0) : queryE q = 0 := by
  unfold queryE; rw [if_neg h, firstN_none (q.map Tm.checkE) (fun j hjk => by simpa using hj j (by simpa using hjk))]

/-- All that stand ahead are right. -/
def ZeroTo (q : List Tm) (k : Nat) : Prop := ∀ j (hj : j < q.length), j < k → q[j].checkE = 0
theorem ZeroTo.next {q : List Tm} {k : Nat} (h : ZeroTo q k) (hk : k < q.length) (hz : q[k].checkE = 0) : ZeroTo q (k + 1) := fun j hj hjk => by
  by_cases e : j = k
  · subst e; exact hz
  · exact h j hj (by omega)

set_option maxRecDepth 100000 in
set_option maxHeartbeats 400000 in
theorem QueryW (q : List Tm) (w : World) (ok : Nat → Prop) (a : Option Addr) (cap : Nat) (hrd : Ts w ok q a cap) :
    Calls Try.prog 21 #[.slice a q.length cap] w fun e w' => e = .returned (.int .i64 (queryE q : Nat)) ∧ Below w.heap.size w w' := by
  have HRD := Lib.hid hrd
  have hcap := hrd.cap
  have hcl : q.length ≤ 9223372036854775807 := by unfold maxLen at hcap; omega
  clear hcap hrd
  by_cases h6 : 6 < q.length
  · have H := Lib.hid (queryE_many h6)
    go_enter Try.func21, Try.ntmps21
    go_wp2_with fail
    go_ret
    exact ⟨retN H.out.symm, Below.refl _ _⟩
  · go_enter Try.func21, Try.ntmps21
    go_wp2_with fail
    go_loopw [11] (fun i wr => ∃ k : Nat, k ≤ q.length ∧ i = .int .i64 k ∧ ZeroTo q k ∧ Below w.heap.size w wr) (fun i _ => q.length - (intOf i).toNat)
    case atStart => exact ⟨0, Nat.zero_le _, rfl, fun j hj h => by omega, Below.refl _ _⟩
    case round =>
      obtain ⟨k, hk, rfl, HZ, hbr⟩ := hrel
      by_cases hlt : k < q.length
      · obtain ⟨b, off, a', cap', rfl, hokb, hbs, hc3, ht⟩ := HRD.out.at k hlt
        have hcv := (hbr.cell (p := ⟨b, off + k * 3, none⟩) hbs).trans hc3.var
        have hcn := (hbr.cell (p := ⟨b, off + k * 3 + 1, none⟩) hbs).trans hc3.name
        have hca := (hbr.cell (p := ⟨b, off + k * 3 + 2, none⟩) hbs).trans hc3.args
        have HC3 := Lib.hid hc3.fits
        clear hc3
        by_cases hz : q[k].checkE = 0
        · go_wp2_with fail
          refine (CheckW q[k] _ ok a' cap' HC3.out (ht.keep ((Keeps.below hbr ok).trans (Keeps.below ((Below.refl _ _).alloc (Nat.le_refl _) _) ok)))).mono ?_
          rintro e w' ⟨rfl, hb'⟩
          obtain ⟨hc', hf'⟩ := bcell hb'
          have HZ' := Lib.hid (HZ.next hlt hz)
          go_wp2_with fail
          go_roundw
          case rel => exact ⟨k + 1, by omega, by go_num, HZ'.out, (hbr.alloc hbr.size _).trans (hb'.mono (by have := hbr.size; simp; omega))⟩
          case measure => simp [intOf]; omega
        · have HR := Lib.hid (queryE_at h6 k hlt HZ hz)
          have hz' := bne0 hz
          go_wp2_with fail
          refine (CheckW q[k] _ ok a' cap' HC3.out (ht.keep ((Keeps.below hbr ok).trans (Keeps.below ((Below.refl _ _).alloc (Nat.le_refl _) _) ok)))).mono ?_
          rintro e w' ⟨rfl, hb'⟩
          obtain ⟨hc', hf'⟩ := bcell hb'
          go_wp2_with fail
          go_ret
          exact ⟨retN HR.out.symm, (hbr.alloc hbr.size _).trans (hb'.mono (by have := hbr.size; simp; omega))⟩
      · have HR := Lib.hid (queryE_none h6 (fun j hj => HZ j hj (by omega)))
        go_wp2_with fail
        go_ret
        exact ⟨retN HR.out.symm, hbr⟩

set_option maxRecDepth 100000 in
set_option maxHeartbeats 400000 in
theorem CheckQueryW (q : List Tm) (w : World) (ok : Nat → Prop) (hok : ∀ b, w.heap.size ≤ b → ok b) (a : Option Addr) (cap : Nat) (hrd : Ts w ok q a cap) :
    Calls Try.prog 14 #[.slice a q.length cap] w fun e w' => e = .returned (.int .i64 (queryE q : Nat)) ∧ Below w.heap.size w w' := by
  have HRD := Lib.hid hrd
  have HOK := Lib.hid hok
  have hcap := hrd.cap
  have hcl : q.length ≤ 9223372036854775807 := by unfold maxLen at hcap; omega
  clear hcap hrd hok
  by_cases h6 : 6 < q.length
  · have H := Lib.hid (queryE_many h6)
    go_enter Try.func14, Try.ntmps14
    go_wp2_with fail
    go_ret
    exact ⟨retN H.out.symm, Below.refl _ _⟩
  · go_enter Try.func14, Try.ntmps14
    go_wp2_with fail
    go_loopw [3] (fun i wr => ∃ k : Nat, k ≤ q.length ∧ i = .int .i64 k ∧ ZeroTo q k ∧ Below w.heap.size w wr) (fun i _ => q.length - (intOf i).toNat)
    case atStart => exact ⟨0, Nat.zero_le _, rfl, fun j hj h => by omega, Below.refl _ _⟩
    case round =>
      obtain ⟨k, hk, rfl, HZ, hbr⟩ := hrel
      by_cases hlt : k < q.length
      · obtain ⟨b, off, a', cap', rfl, hokb, hbs, hc3, ht⟩ := HRD.out.at k hlt
        have hcv := (hbr.cell (p := ⟨b, off + k * 3, none⟩) hbs).trans hc3.var
        have hcn := (hbr.cell (p := ⟨b, off + k * 3 + 1, none⟩) hbs).trans hc3.name
        have hca := (hbr.cell (p := ⟨b, off + k * 3 + 2, none⟩) hbs).trans hc3.args
        have HC3 := Lib.hid hc3.fits
        clear hc3
        by_cases hz : q[k].checkE = 0
        · go_wp2_with fail
          refine (CheckTermW q[k] _ ok (fun b hb => HOK.out b (Nat.le_trans hbr.size hb)) a' cap' HC3.out (ht.keep (Keeps.below hbr ok))).mono ?_
          rintro e w' ⟨rfl, hb'⟩
          have HZ' := Lib.hid (HZ.next hlt hz)
          go_wp2_with fail
          go_roundw
          case rel => exact ⟨k + 1, by omega, by go_num, HZ'.out, hbr.trans (hb'.mono hbr.size)⟩
          case measure => simp [intOf]; omega
        · have HR := Lib.hid (queryE_at h6 k hlt HZ hz)
          have hz' := bne0 hz
          go_wp2_with fail
          refine (CheckTermW q[k] _ ok (fun b hb => HOK.out b (Nat.le_trans hbr.size hb)) a' cap' HC3.out (ht.keep (Keeps.below hbr ok))).mono ?_
          rintro e w' ⟨rfl, hb'⟩
          go_wp2_with fail
          go_ret
          exact ⟨retN HR.out.symm, hbr.trans (hb'.mono hbr.size)⟩
      · have HR := Lib.hid (queryE_none h6 (fun j hj => HZ j hj (by omega)))
        go_wp2_with fail
        go_ret
        exact ⟨retN HR.out.symm, hbr⟩

/-- Does a name with so many arguments mean something as a goal? -/
def meansB (n : ByteArray) (len : Nat) : Bool :=
  (decide (len = 0) && (n.toList == [33] || n.toList == [116, 114, 117, 101] || n.toList == [102, 97, 105, 108])) || (decide (len = 2) && n.toList == [101, 113])

theorem beqT {a b : List UInt8} (h : a = b) : (a == b) = true := by rw [h]; exact beq_self_eq_true b
theorem beqF {a b : List UInt8} (h : a ≠ b) : (a == b) = false := beq_eq_false_iff_ne.2 h

theorem means_cut {n : ByteArray} {len : Nat} (h : n.toList = [33]) : meansB n len = decide (len = 0) := by unfold meansB; rw [h]; simp
theorem means_true {n : ByteArray} {len : Nat} (h : n.toList = [116, 114, 117, 101]) : meansB n len = decide (len = 0) := by unfold meansB; rw [h]; simp
theorem means_fail {n : ByteArray} {len : Nat} (h : n.toList = [102, 97, 105, 108]) : meansB n len = decide (len = 0) := by unfold meansB; rw [h]; simp
theorem means_same {n : ByteArray} {len : Nat} (h : n.toList = [101, 113]) : meansB n len = decide (len = 2) := by unfold meansB; rw [h]; simp
theorem means_no {n : ByteArray} {len : Nat} (h1 : n.toList ≠ [33]) (h2 : n.toList ≠ [116, 114, 117, 101]) (h3 : n.toList ≠ [102, 97, 105, 108]) (h4 : n.toList ≠ [101, 113]) : meansB n len = false := by
  unfold meansB; rw [beqF h1, beqF h2, beqF h3, beqF h4]; simp

theorem dec_beq (len : Nat) (c : Nat) : ((len : Int) == (c : Int)) = decide (len = c) := by
  rw [Bool.eq_iff_iff, beq_iff_eq, decide_eq_true_iff]; omega

/-- The five kinds of a name, each with all that is said of it by its signs. -/
theorem name_kinds (n : ByteArray) :
    (n.toList = [33] ∧ (n.toList == [33]) = true) ∨
    (n.toList = [116, 114, 117, 101] ∧ (n.toList == [33]) = false ∧ (n.toList == [116, 114, 117, 101]) = true) ∨
    (n.toList = [102, 97, 105, 108] ∧ (n.toList == [33]) = false ∧ (n.toList == [116, 114, 117, 101]) = false ∧ (n.toList == [102, 97, 105, 108]) = true) ∨
    (n.toList = [101, 113] ∧ (n.toList == [33]) = false ∧ (n.toList == [116, 114, 117, 101]) = false ∧ (n.toList == [102, 97, 105, 108]) = false ∧ (n.toList == [101, 113]) = true) ∨
    ((n.toList ≠ [33] ∧ n.toList ≠ [116, 114, 117, 101] ∧ n.toList ≠ [102, 97, 105, 108] ∧ n.toList ≠ [101, 113]) ∧ (n.toList == [33]) = false ∧ (n.toList == [116, 114, 117, 101]) = false ∧ (n.toList == [102, 97, 105, 108]) = false ∧ (n.toList == [101, 113]) = false) := by
  by_cases h1 : n.toList = [33]
  · exact .inl ⟨h1, beqT h1⟩
  by_cases h2 : n.toList = [116, 114, 117, 101]
  · exact .inr (.inl ⟨h2, beqF h1, beqT h2⟩)
  by_cases h3 : n.toList = [102, 97, 105, 108]
  · exact .inr (.inr (.inl ⟨h3, beqF h1, beqF h2, beqT h3⟩))
  by_cases h4 : n.toList = [101, 113]
  · exact .inr (.inr (.inr (.inl ⟨h4, beqF h1, beqF h2, beqF h3, beqT h4⟩)))
  · exact .inr (.inr (.inr (.inr ⟨⟨h1, h2, h3, h4⟩, beqF h1, beqF h2, beqF h3, beqF h4⟩)))

set_option maxRecDepth 100000 in
set_option maxHeartbeats 400000 in
theorem MeansW (v : Int) (n : ByteArray) (a : Option Addr) (len cap : Nat) (w : World) :
    Calls Try.prog 100 #[.agg #[.int .i64 v, .string n, .slice a len cap]] w fun e w' => e = .returned (.bool (meansB n len)) ∧ Below w.heap.size w w' := by
  have B0 := (Below.refl w.heap.size w).alloc (Nat.le_refl _) (.cells #[.int .i64 v, .string n, .slice a len cap] 24)
  have H0 := Lib.hid (dec_beq len 0)
  have H2 := Lib.hid (dec_beq len 2)
  rcases name_kinds n with ⟨k, h1⟩ | ⟨k, h1, h2⟩ | ⟨k, h1, h2, h3⟩ | ⟨k, h1, h2, h3, h4⟩ | ⟨k, h1, h2, h3, h4⟩
  · have H := Lib.hid (means_cut (len := len) k)
    clear k
    go_enter Try.func100, Try.ntmps100
    go_wp2_with fail
    go_ret
    exact ⟨retB (H0.out.trans H.out.symm), B0⟩
  · have H := Lib.hid (means_true (len := len) k)
    clear k
    go_enter Try.func100, Try.ntmps100
    go_wp2_with fail
    go_ret
    exact ⟨retB (H0.out.trans H.out.symm), B0⟩
  · have H := Lib.hid (means_fail (len := len) k)
    clear k
    go_enter Try.func100, Try.ntmps100
    go_wp2_with fail
    go_ret
    exact ⟨retB (H0.out.trans H.out.symm), B0⟩
  · have H := Lib.hid (means_same (len := len) k)
    clear k
    go_enter Try.func100, Try.ntmps100
    go_wp2_with fail
    go_ret
    exact ⟨retB (H2.out.trans H.out.symm), B0⟩
  · have H := Lib.hid (means_no (len := len) k.1 k.2.1 k.2.2.1 k.2.2.2)
    clear k
    go_enter Try.func100, Try.ntmps100
    go_wp2_with fail
    go_ret
    exact ⟨retB H.out.symm, B0⟩

set_option maxRecDepth 100000 in
set_option maxHeartbeats 400000 in
theorem IsBuiltinW (n : ByteArray) (len : Nat) (w : World) :
    Calls Try.prog 64 #[.string n, .int .i64 len] w fun e w' => e = .returned (.bool (meansB n len)) ∧ w = w' := by
  by_cases h0 : len = 0
  · subst h0
    rcases name_kinds n with ⟨k, h1⟩ | ⟨k, h1, h2⟩ | ⟨k, h1, h2, h3⟩ | ⟨k, h1, h2, h3, h4⟩ | ⟨k, h1, h2, h3, h4⟩
    · have H := Lib.hid (means_cut (len := 0) k)
      clear k
      go_enter Try.func64, Try.ntmps64
      go_wp2_with fail
      go_ret
      exact ⟨retB (by rw [H.out]; rfl), rfl⟩
    · have H := Lib.hid (means_true (len := 0) k)
      clear k
      go_enter Try.func64, Try.ntmps64
      go_wp2_with fail
      go_ret
      exact ⟨retB (by rw [H.out]; rfl), rfl⟩
    · have H := Lib.hid (means_fail (len := 0) k)
      clear k
      go_enter Try.func64, Try.ntmps64
      go_wp2_with fail
      go_ret
      exact ⟨retB (by rw [H.out]; rfl), rfl⟩
    · have H := Lib.hid (means_same (len := 0) k)
      clear k
      go_enter Try.func64, Try.ntmps64
      go_wp2_with fail
      go_ret
      exact ⟨retB (by rw [H.out]; rfl), rfl⟩
    · have H := Lib.hid (means_no (len := 0) k.1 k.2.1 k.2.2.1 k.2.2.2)
      clear k
      go_enter Try.func64, Try.ntmps64
      go_wp2_with fail
      go_ret
      exact ⟨retB (by rw [H.out]), rfl⟩
  · by_cases h2 : len = 2
    · subst h2
      by_cases h4 : n.toList = [101, 113]
      · have H := Lib.hid (means_same (len := 2) h4)
        have h5 := beqT h4
        clear h4
        go_enter Try.func64, Try.ntmps64
        go_wp2_with fail
        go_ret
        exact ⟨retB (by rw [H.out]; rfl), rfl⟩
      · have H : Hid (meansB n 2 = false) := Lib.hid (by unfold meansB; rw [beqF h4]; simp)
        have h5 := beqF h4
        clear h4
        go_enter Try.func64, Try.ntmps64
        go_wp2_with fail
        go_ret
        exact ⟨retB (by rw [H.out]), rfl⟩
    · have H : Hid (meansB n len = false) := Lib.hid (by unfold meansB; rw [decide_eq_false h0, decide_eq_false h2]; simp)
      have h3 : ¬ (len : Int) = 2 := by omega
      go_enter Try.func64, Try.ntmps64
      go_wp2_with fail
      go_ret
      exact ⟨retB (by rw [H.out]), rfl⟩

end Go.Proofs.Ytikmgiapjigghaa
