/- Walks: clauses and programs. -/
import Derived.Test.YtikmgiapjigghaaClsA
namespace Go.Proofs.Ytikmgiapjigghaa
open Go.RowKit

/-- What is wrong with a clause. -/
def clauseE (c : Cl) : Nat :=
  if c.head.checkE ≠ 0 then c.head.checkE else if c.head.var ≠ 0 then 1 else if meansB c.head.name c.head.args.length = true then 4 else queryE c.body

theorem clauseE_head {c : Cl} (h : c.head.checkE ≠ 0) : clauseE c = c.head.checkE := by unfold clauseE; rw [if_pos h]
theorem clauseE_var {c : Cl} (h : c.head.checkE = 0) (h1 : c.head.var ≠ 0) : clauseE c = 1 := by unfold clauseE; rw [if_neg (by simp [h]), if_pos h1]
theorem clauseE_means {c : Cl} (h : c.head.checkE = 0) (h1 : c.head.var = 0) (h2 : meansB c.head.name c.head.args.length = true) : clauseE c = 4 := by unfold clauseE; rw [if_neg (by simp [h]), if_neg (by simp [h1]), if_pos h2]
theorem clauseE_body {c : Cl} (h : c.head.checkE = 0) (h1 : c.head.var = 0) (h2 : meansB c.head.name c.head.args.length = false) : clauseE c = queryE c.body := by unfold clauseE; rw [if_neg (by simp [h]), if_neg (by simp [h1]), if_neg (by simp [h2])]

/-- What Clauses says. -/
def programE (P : List Cl) : Nat := if 30 < P.length then 2 else firstN (P.map clauseE)

theorem programE_many {q : List Cl} (h : 30 < q.length) : programE q = 2 := by unfold programE; rw [if_pos h]
theorem programE_at {q : List Cl} (h : ¬ 30 < q.length) (k : Nat) (hk : k < q.length) (hj : ∀ j (hj : j < q.length), j < k → clauseE q[j] = 0) (hz : clauseE q[k] ≠ 0) : programE q = clauseE q[k] := by
  unfold programE; rw [if_neg h, firstN_at (q.map clauseE) k (by simpa using hk) (fun j hjk => by simpa using hj j (by omega) hjk) (by simpa using hz)]; simp
theorem programE_none {q : List Cl} (h : ¬ 30 < q.length) (hj : ∀ j (hj : j < q.length), clauseE q[j] = 0) : programE q = 0 := by
  unfold programE; rw [if_neg h, firstN_none (q.map clauseE) (fun j hjk => by simpa using hj j (by simpa using hjk))]

/-- All clauses ahead are right. -/
def ZeroCl (q : List Cl) (k : Nat) : Prop := ∀ j (hj : j < q.length), j < k → clauseE q[j] = 0
theorem ZeroCl.next {q : List Cl} {k : Nat} (h : ZeroCl q k) (hk : k < q.length) (hz : clauseE q[k] = 0) : ZeroCl q (k + 1) := fun j hj hjk => by
  by_cases e : j = k
  · subst e; exact hz
  · exact h j hj (by omega)

theorem clauseE_cases (c : Cl) : (c.head.checkE ≠ 0 ∧ clauseE c = c.head.checkE) ∨ (c.head.checkE = 0 ∧ c.head.var ≠ 0 ∧ clauseE c = 1) ∨ (c.head.checkE = 0 ∧ c.head.var = 0 ∧ meansB c.head.name c.head.args.length = true ∧ clauseE c = 4) ∨
    (c.head.checkE = 0 ∧ c.head.var = 0 ∧ meansB c.head.name c.head.args.length = false ∧ clauseE c = queryE c.body) := by
  by_cases h : c.head.checkE = 0
  · by_cases h1 : c.head.var = 0
    · cases h2 : meansB c.head.name c.head.args.length
      · exact .inr (.inr (.inr ⟨h, h1, rfl, clauseE_body h h1 h2⟩))
      · exact .inr (.inr (.inl ⟨h, h1, rfl, clauseE_means h h1 h2⟩))
    · exact .inr (.inl ⟨h, h1, clauseE_var h h1⟩)
  · exact .inl ⟨h, clauseE_head h⟩

set_option maxRecDepth 100000 in
set_option maxHeartbeats 1000000 in
theorem clauseW (c : Cl) (w : World) (ok : Nat → Prop) (a1 a2 : Option Addr) (c1 c2 : Nat) (hfit : c.head.fits) (h1 : Ts w ok c.head.args a1 c1) (h2 : Ts w ok c.body a2 c2) :
    Calls Try.prog 63 #[.agg #[.int .i64 c.head.var, .string c.head.name, .slice a1 c.head.args.length c1, .slice a2 c.body.length c2]] w fun e w' => e = .returned (.int .i64 (clauseE c : Nat)) ∧ Below w.heap.size w w' := by
  have B0 := (Below.refl w.heap.size w).alloc (Nat.le_refl _) (.cells #[.int .i64 c.head.var, .string c.head.name, .slice a1 c.head.args.length c1, .slice a2 c.body.length c2] 90)
  have H1 := Lib.hid h1; have H2 := Lib.hid h2; have HF := Lib.hid hfit; clear h1 h2 hfit
  rcases clauseE_cases c with ⟨k1, H⟩ | ⟨k1, k2, H⟩ | ⟨k1, k2, k3, H⟩ | ⟨k1, k2, k3, H⟩
  · have HR := Lib.hid H; clear H
    have k1' := bne0 k1
    go_enter Try.func63, Try.ntmps63
    go_wp2_with fail
    refine (CheckW c.head _ ok a1 c1 HF.out (H1.out.keep (Keeps.below ((Below.refl _ _).alloc (Nat.le_refl _) _) ok))).mono ?_
    rintro e w1 ⟨rfl, hb⟩; obtain ⟨hc, hf⟩ := bcell hb
    go_wp2_with fail
    go_ret
    exact ⟨retN HR.out.symm, B0.trans (hb.mono (by simp))⟩
  · have HR := Lib.hid H; clear H
    go_enter Try.func63, Try.ntmps63
    go_wp2_with fail
    refine (CheckW c.head _ ok a1 c1 HF.out (H1.out.keep (Keeps.below ((Below.refl _ _).alloc (Nat.le_refl _) _) ok))).mono ?_
    rintro e w1 ⟨rfl, hb⟩; obtain ⟨hc, hf⟩ := bcell hb
    go_wp2_with fail
    go_ret
    exact ⟨retN HR.out.symm, B0.trans (hb.mono (by simp))⟩
  · have HR := Lib.hid H; clear H
    have k2' : (c.head.var != 0) = false := by rw [k2]; rfl
    clear k2
    go_enter Try.func63, Try.ntmps63
    go_wp2_with fail
    refine (CheckW c.head _ ok a1 c1 HF.out (H1.out.keep (Keeps.below ((Below.refl _ _).alloc (Nat.le_refl _) _) ok))).mono ?_
    rintro e w1 ⟨rfl, hb⟩; obtain ⟨hc, hf⟩ := bcell hb
    go_wp2_with fail
    refine (MeansW c.head.var _ a1 _ c1 _).mono ?_
    rintro e w2 ⟨rfl, hb2⟩; obtain ⟨hc2, hf2⟩ := bcell hb2
    have hs1 : w.heap.size < w1.heap.size := by have := hb.size; simp at this; omega
    go_wp2_with fail
    go_ret
    exact ⟨retN HR.out.symm, (B0.trans (hb.mono (by simp))).trans (hb2.mono (by omega))⟩
  · have HR := Lib.hid H; clear H
    have k2' : (c.head.var != 0) = false := by rw [k2]; rfl
    clear k2
    go_enter Try.func63, Try.ntmps63
    go_wp2_with fail
    refine (CheckW c.head _ ok a1 c1 HF.out (H1.out.keep (Keeps.below ((Below.refl _ _).alloc (Nat.le_refl _) _) ok))).mono ?_
    rintro e w1 ⟨rfl, hb⟩; obtain ⟨hc, hf⟩ := bcell hb
    go_wp2_with fail
    refine (MeansW c.head.var _ a1 _ c1 _).mono ?_
    rintro e w2 ⟨rfl, hb2⟩; obtain ⟨hc2, hf2⟩ := bcell hb2
    have hs1 : w.heap.size < w1.heap.size := by have := hb.size; simp at this; omega
    go_wp2_with fail
    refine (QueryW c.body _ ok a2 c2 (H2.out.keep (((Keeps.below ((Below.refl _ _).alloc (Nat.le_refl _) _) ok).trans (Keeps.below hb ok)).trans (Keeps.below hb2 ok)))).mono ?_
    rintro e w3 ⟨rfl, hb3⟩
    go_wp2_with fail
    go_ret
    exact ⟨retN HR.out.symm, ((B0.trans (hb.mono (by simp))).trans (hb2.mono (by omega))).trans (hb3.mono (by have := hb2.size; omega))⟩

set_option maxRecDepth 100000 in
set_option maxHeartbeats 400000 in
theorem ClausesW (P : List Cl) (w : World) (ok : Nat → Prop) (a : Option Addr) (cap : Nat) (hrd : Pr w ok P a cap) :
    Calls Try.prog 19 #[.slice a P.length cap] w fun e w' => e = .returned (.int .i64 (programE P : Nat)) ∧ Below w.heap.size w w' := by
  have HRD := Lib.hid hrd
  have hcap := hrd.room
  have hcl : P.length ≤ 9223372036854775807 := by unfold maxLen at hcap; omega
  clear hcap hrd
  by_cases h6 : 30 < P.length
  · have H := Lib.hid (programE_many h6)
    go_enter Try.func19, Try.ntmps19
    go_wp2_with fail
    go_ret
    exact ⟨retN H.out.symm, Below.refl _ _⟩
  · go_enter Try.func19, Try.ntmps19
    go_wp2_with fail
    go_loopw [11] (fun i wr => ∃ k : Nat, k ≤ P.length ∧ i = .int .i64 k ∧ ZeroCl P k ∧ Below w.heap.size w wr) (fun i _ => P.length - (intOf i).toNat)
    case atStart => exact ⟨0, Nat.zero_le _, rfl, fun j hj h => by omega, Below.refl _ _⟩
    case round =>
      obtain ⟨k, hk, rfl, HZ, hbr⟩ := hrel
      by_cases hlt : k < P.length
      · obtain ⟨b, off, a1, a2, c1, c2, rfl, hokb, hbs, hc3, hc4, ht1, ht2⟩ := HRD.out.elem k hlt
        have hcv := (hbr.cell (p := ⟨b, off + k * 4, none⟩) hbs).trans hc3.var
        have hcn := (hbr.cell (p := ⟨b, off + k * 4 + 1, none⟩) hbs).trans hc3.name
        have hca := (hbr.cell (p := ⟨b, off + k * 4 + 2, none⟩) hbs).trans hc3.args
        have hcb := (hbr.cell (p := ⟨b, off + k * 4 + 3, none⟩) hbs).trans hc4
        have HC3 := Lib.hid hc3.fits
        clear hc3 hc4
        have hk1 : Keeps ok w (wr.alloc (.cells #[.int .i64 P[k].head.var, .string P[k].head.name, .slice a1 P[k].head.args.length c1, .slice a2 P[k].body.length c2] 90)) := (Keeps.below hbr ok).trans (Keeps.below ((Below.refl _ _).alloc (Nat.le_refl _) _) ok)
        by_cases hz : clauseE P[k] = 0
        · go_wp2_with fail
          refine (clauseW P[k] _ ok a1 a2 c1 c2 HC3.out (ht1.keep hk1) (ht2.keep hk1)).mono ?_
          rintro e w' ⟨rfl, hb'⟩
          obtain ⟨hc', hf'⟩ := bcell hb'
          have HZ' := Lib.hid (HZ.next hlt hz)
          go_wp2_with fail
          go_roundw
          case rel => exact ⟨k + 1, by omega, by go_num, HZ'.out, (hbr.alloc hbr.size _).trans (hb'.mono (by have := hbr.size; simp; omega))⟩
          case measure => simp [intOf]; omega
        · have HR := Lib.hid (programE_at h6 k hlt HZ hz)
          have hz' := bne0 hz
          go_wp2_with fail
          refine (clauseW P[k] _ ok a1 a2 c1 c2 HC3.out (ht1.keep hk1) (ht2.keep hk1)).mono ?_
          rintro e w' ⟨rfl, hb'⟩
          obtain ⟨hc', hf'⟩ := bcell hb'
          go_wp2_with fail
          go_ret
          exact ⟨retN HR.out.symm, (hbr.alloc hbr.size _).trans (hb'.mono (by have := hbr.size; simp; omega))⟩
      · have HR := Lib.hid (programE_none h6 (fun j hj => HZ j hj (by omega)))
        go_wp2_with fail
        go_ret
        exact ⟨retN HR.out.symm, hbr⟩

end Go.Proofs.Ytikmgiapjigghaa
