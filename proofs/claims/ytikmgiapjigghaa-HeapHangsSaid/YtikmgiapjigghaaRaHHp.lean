/- Plain: what the statement HeapHangs wants, case by case. -/
import Derived.Test.YtikmgiapjigghaaRaHBp
import Derived.Test.YtikmgiapjigghaaRaHan
namespace Go.Proofs.Ytikmgiapjigghaa
open Go.RowKit

/-- Both terms in one. -/
def twoT (a b : Tm) : Tm := .mk 0 twoN [a, b]

theorem checkH_of_inv {K : List HC} (h : HInv K) : checkH K = 0 := checkH_ok (by have := h.len; omega) (firstCell_zero _ h.cells) h.straight

theorem readyL_ok {K : List HC} {l : List Int} (h : HInv K) (hl : ∀ j (hj : j < l.length), isC K l[j]) : readyL K l = 0 := by
  unfold readyL; rw [if_neg (fun e => e (checkH_of_inv h)), if_pos (isB_iff.2 hl)]

theorem HInv.nil : HInv [] := ⟨Nat.zero_le _, fun _ hi => absurd hi (Nat.not_lt_zero _), fun _ hi => absurd hi (Nat.not_lt_zero _)⟩

theorem parts_sub : ∀ (l : List Tm) (p : Tm), p ∈ Tm.partss l → ∃ x, x ∈ l ∧ p ∈ x.parts := by
  intro l
  induction l with
  | nil => intro p h; simp [Tm.partss] at h
  | cons a r ih =>
    intro p h
    rw [Tm.partss, List.mem_append] at h
    rcases h with h | h
    · exact ⟨a, List.mem_cons_self, h⟩
    · obtain ⟨x, h1, h2⟩ := ih p h
      exact ⟨x, List.mem_cons_of_mem _ h1, h2⟩

theorem Fit.put {n : Nat} {S : Int → Tm} (t : Tm) : Fit n t → (∀ p, p ∈ t.parts → p.var ≠ 0 → Fit n (S p.var) ∧ (S p.var).size ≤ 200) → Fit n (t.putIn S) ∧ (t.putIn S).size ≤ t.size * 200 := by
  induction t using Tm.ind with
  | h v nm l ih =>
    intro hf hS
    have h1 := Tm.size_pos (.mk v nm l)
    by_cases hv : v = 0
    · subst hv
      rw [Tm.putIn_fn (t := .mk 0 nm l) rfl]
      simp only [Tm.name, Tm.args]
      have ha : ∀ x, x ∈ l → Fit n (x.putIn S) ∧ (x.putIn S).size ≤ x.size * 200 := fun x hx => ih x hx (hf.arg (t := .mk 0 nm l) hx) fun p hp => hS p (Tm.parts_arg (t := .mk 0 nm l) hx hp)
      refine ⟨⟨fun p hp => ?_, fun p hp => ?_⟩, ?_⟩
      · rw [Tm.parts] at hp
        rcases List.mem_cons.1 hp with rfl | hp
        · exact ⟨Int.le_refl _, fun e => absurd rfl e⟩
        · obtain ⟨y, hy, hp⟩ := parts_sub _ _ hp
          obtain ⟨x, hx, rfl⟩ := List.mem_map.1 hy
          exact (ha x hx).1.wf p hp
      · rw [Tm.parts] at hp
        rcases List.mem_cons.1 hp with rfl | hp
        · have := hf.bd _ (Tm.self_mem _)
          simp only [Tm.var, Tm.args] at this ⊢
          rw [List.length_map]; exact this
        · obtain ⟨y, hy, hp⟩ := parts_sub _ _ hp
          obtain ⟨x, hx, rfl⟩ := List.mem_map.1 hy
          exact (ha x hx).1.bd p hp
      · have : ∀ r : List Tm, (∀ x, x ∈ r → (x.putIn S).size ≤ x.size * 200) → Tm.sizes (r.map (Tm.putIn S)) ≤ Tm.sizes r * 200 := by
          intro r
          induction r with
          | nil => intro _; simp [Tm.sizes]
          | cons x r ihr =>
            intro h
            have h2 := h x List.mem_cons_self
            have h3 := ihr fun y hy => h y (List.mem_cons_of_mem _ hy)
            simp only [List.map_cons, Tm.sizes]
            omega
        have h4 := this l fun x hx => (ha x hx).2
        simp only [Tm.size]
        omega
    · rw [Tm.putIn_var (t := .mk v nm l) hv]
      obtain ⟨h2, h3⟩ := hS _ (Tm.self_mem _) hv
      exact ⟨h2, by simp only [Tm.var] at h3 ⊢; omega⟩

/-- All cases of the statement. -/
def HangK (a b : Tm) : Prop :=
  (∃ n, bA [] (twoT a b) (checkH []) = .err n ∧ n ≠ 0) ∨ (∃ n, uA a b = .err n ∧ n ≠ 0) ∨
  ∃ K l0, bA [] (twoT a b) (checkH []) = .ok K 0 l0 ∧ derefV K 0 = 0 ∧ readyL K [0] = 0 ∧
    ((∃ k, uA a b = .no k ∧ hUA K 1 2 = .no k) ∨
     ∃ l k K' B, uA a b = .ok l k ∧ hUA K 1 2 = .ok K' B k ∧ l.length = 12 ∧ a.checkE = 0 ∧ Vars12 (a.putIn (byL l)) ∧ (a.putIn (byL l)).size ≤ 100000 ∧
       ((readA K' 1 = .err 2 ∧ readA K' 2 = .err 2) ∨ ∃ T L1 L2, readA K' 1 = .ok T L1 ∧ readA K' 2 = .ok T L2 ∧ (Tm.ren numV [] (a.putIn (byL l))).1 = T))

theorem hang_know (a b : Tm) : HangK a b := by
  have hc0 : checkH [] = 0 := checkH_of_inv HInv.nil
  by_cases h2 : (twoT a b).checkE = 0
  · by_cases ha : a.checkE = 0
    · by_cases hb : b.checkE = 0
      · right
        obtain ⟨K, hK, hcz, hI, hend, hlen, hm⟩ := hangs h2 (check_names h2) (check_fit ha) (check_fit hb)
        have hu : uA a b = uOutA (uP a b) := by unfold uA; rw [if_neg (fun h => h ha), if_neg (fun h => h hb)]
        have hmost := uA_most a b
        have hbA : bA [] (twoT a b) (checkH []) = .ok K 0 (toldV (putT [] (fun _ => none) (twoT a b)).1.2 12) := by
          unfold bA twoT
          rw [if_neg (fun e => e hc0), if_neg (fun e => e h2), hK, hcz, if_neg (by have := hI.len; omega)]
        have hr0 : readyL K [0] = 0 := readyL_ok hI fun j hj => by
          have : j = 0 := by simp at hj; omega
          subst this
          exact ⟨Int.le_refl _, by simp only [List.getElem_cons_zero]; omega⟩
        have hr12 : readyL K [1, 2] = 0 := readyL_ok hI fun j hj => by
          rcases (by simp at hj; omega : j = 0 ∨ j = 1) with rfl | rfl
          · exact ⟨by simp only [List.getElem_cons_zero]; omega, by simp only [List.getElem_cons_zero]; omega⟩
          · exact ⟨by simp only [List.getElem_cons_succ, List.getElem_cons_zero]; omega, by simp only [List.getElem_cons_succ, List.getElem_cons_zero]; omega⟩
        have hd : derefV K 0 = 0 := by
          unfold derefV
          rw [if_pos hr0, show (0 : Int).toNat = 0 from rfl, hend]; rfl
        have hUd : hUA K 1 2 = match meetH K [] 4000 [(1, 2)] with
          | .no _ _ f => .no (4000 - f)
          | .many _ _ => .err 2
          | .ok K' B f => .ok K' B (4000 - f) := by
          unfold hUA; rw [if_neg (fun h => h hr12)]; rfl
        cases hp : uP a b with
        | many => exact .inl ⟨2, by rw [hu, hp]; rfl, by decide⟩
        | no k =>
          rw [hp] at hm
          obtain ⟨K', B, f, h3, h4⟩ := hm
          exact .inr ⟨K, _, hbA, hd, hr0, .inl ⟨k, by rw [hu, hp]; rfl, by rw [hUd, h3, ← h4]⟩⟩
        | ok l k =>
          rw [hp] at hm
          obtain ⟨K', B, f, h3, h4, hl', hI', hq⟩ := hm
          have huk : uA a b = .ok l k := by rw [hu, hp]; rfl
          rw [huk] at hmost
          obtain ⟨-, -, hl12, hfit, -, -⟩ := hmost
          have hput := Fit.put (S := byL l) a (check_fit ha) fun p hp' hv => by
            have h5 := (check_fit ha).bd p hp'
            have h6 := ((check_fit ha).wf p hp').1
            have h7 : p.var.toNat - 1 < l.length := by omega
            have h8 := byL_at l (p.var.toNat - 1) h7
            rw [show ((p.var.toNat - 1 : Nat) : Int) + 1 = p.var by omega] at h8
            rw [h8]
            exact hfit _ (List.getElem_mem _)
          have hr' : ∀ i : Int, 0 ≤ i → i < 3 → readyL K' [i] = 0 := fun i h5 h6 => readyL_ok hI' fun j hj => by
            have : j = 0 := by simp at hj; omega
            subst this
            exact ⟨by simp only [List.getElem_cons_zero]; omega, by simp only [List.getElem_cons_zero]; omega⟩
          refine .inr ⟨K, _, hbA, hd, hr0, .inr ⟨l, k, K', B, huk, by rw [hUd, h3, ← h4], hl12, ha, ⟨hput.1.wf, fun p hp' hv => ?_⟩, ?_, ?_⟩⟩
          · have h5 := hput.1.bd p hp'
            have h6 := (hput.1.wf p hp').1
            omega
          · have h5 := (check_zero ha).1
            have h6 := hput.2
            omega
          · have hrd : ∀ i : Int, 0 ≤ i → i < 3 → readA K' i = match shL K' 200 [i.toNat] with
              | none => .err 2
              | some x => rdOf (Tm.rens numV [] x.1) := fun i h5 h6 => by
              unfold readA
              rw [if_neg (fun h => h (hr' i h5 h6))]
              cases shL K' 200 [i.toNat] <;> rfl
            rcases hq with ⟨h5, h6⟩ | ⟨T1, k1, T2, k2, h5, h6, h7, h8⟩
            · left
              exact ⟨by rw [hrd 1 (by decide) (by decide), show (1 : Int).toNat = 1 from rfl, h5], by rw [hrd 2 (by decide) (by decide), show (2 : Int).toNat = 2 from rfl, h6]⟩
            · right
              refine ⟨(Tm.ren numV [] T1).1, (Tm.ren numV [] T1).2.map (fun v => v - 1), (Tm.ren numV [] T2).2.map (fun v => v - 1), ?_, ?_, h8.symm⟩
              · rw [hrd 1 (by decide) (by decide), show (1 : Int).toNat = 1 from rfl, h5]; rfl
              · rw [hrd 2 (by decide) (by decide), show (2 : Int).toNat = 2 from rfl, h6, h7]; rfl
      · right; left
        exact ⟨_, by unfold uA; rw [if_neg (fun h => h ha), if_pos hb], hb⟩
    · right; left
      exact ⟨_, by unfold uA; rw [if_pos ha], ha⟩
  · left
    exact ⟨_, by unfold bA; rw [if_neg (fun e => e hc0), if_pos h2], h2⟩

end Go.Proofs.Ytikmgiapjigghaa
