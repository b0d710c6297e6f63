/- What the reference's Meet does, as a plain function; what binding does to a State's list. -/
import Derived.Test.YtikmgiapjigghaaRefA
namespace Go.Proofs.Ytikmgiapjigghaa
open Go.RowKit

theorem subB_set {ls : List Tm} {v : Int} {t : Tm} (h1 : 0 ≤ v) (h2 : v.toNat < ls.length) (h3 : t.var ≠ v) : subB (ls.set v.toNat t) = upd (subB ls) v t := by
  funext x
  unfold upd
  by_cases e : x = v
  · subst e
    rw [if_pos rfl, subB_some h1 (by rw [List.length_set]; exact h2) (by rw [List.getElem_set_self]; exact h3), List.getElem_set_self]
  · rw [if_neg e]
    unfold subB
    by_cases hx : 0 ≤ x ∧ x.toNat < ls.length
    · have hx' : 0 ≤ x ∧ x.toNat < (ls.set v.toNat t).length := by rw [List.length_set]; exact hx
      have hne : v.toNat ≠ x.toNat := by omega
      rw [dif_pos hx, dif_pos hx']
      simp only [List.getElem_set_ne hne]
    · have hx' : ¬ (0 ≤ x ∧ x.toNat < (ls.set v.toNat t).length) := by rw [List.length_set]; exact hx
      rw [dif_neg hx, dif_neg hx']

theorem SInv.to {σ : Sub} (h : SInv σ) {v : Int} {t : Tm} (hv : 1 ≤ v) (hvn : σ v = none) (ht : WfT t) (htn : t.var = 0 ∨ σ t.var = none) (hne : t.var ≠ v) : SInv (upd σ v t) := by
  refine ⟨h.rank.upd hvn (fun h0 => ⟨hne, htn.resolve_left h0⟩), fun x u hx => ?_⟩
  unfold upd at hx
  by_cases e : x = v
  · rw [if_pos e] at hx; cases hx; exact ⟨by omega, ht⟩
  · rw [if_neg e] at hx; exact h.each x u hx

theorem FB.bind {ls : List Tm} (h : FB ls) {v : Int} {t : Tm} (hv : 1 ≤ v) (hl : v.toNat < ls.length) (hvn : subB ls v = none) (ht : Fit ls.length t) (htn : t.var = 0 ∨ subB ls t.var = none) (hne : t.var ≠ v) : FB (ls.set v.toNat t) := by
  refine ⟨?_, fun x hx => ?_⟩
  · rw [subB_set (by omega) hl hne]
    exact h.inv.to hv hvn ht.wf htn hne
  · rw [List.length_set]
    rcases List.mem_or_eq_of_mem_set hx with h1 | rfl
    · exact h.each x h1
    · exact ht

/-- Where Look ends is no variable, or one that is nothing. -/
theorem LookN.stop {σ : Sub} : ∀ {n : Nat} {t u : Tm}, LookN σ n t u → u.var = 0 ∨ σ u.var = none
  | 0, _, _, h => by obtain ⟨rfl, h⟩ := h; exact h
  | _ + 1, _, _, h => by obtain ⟨_, _, _, h⟩ := h; exact LookN.stop h

theorem look_stop {σ : Sub} (h : Ends σ) (t : Tm) : (look σ t).var = 0 ∨ σ (look σ t).var = none := by
  obtain ⟨n, hn⟩ := look_spec h t
  exact hn.stop

/-- The reference binds the variable that it came upon first. -/
noncomputable def bindStepR (σ : Sub) (v : Int) (t : Tm) (f : Nat) : MStep :=
  match within σ v f [t] with
  | .yes f' => .done (.no σ [] f')
  | .many => .done (.many σ [])
  | .no f' => .go (upd σ v t) [] (min f' f) []

/-- What is done with two terms that were looked at. -/
noncomputable def pairStepR (σ : Sub) (f : Nat) (x y : Tm) : MStep :=
  if x.var ≠ 0 ∧ x.var = y.var then .go σ [] f []
  else if x.var ≠ 0 then bindStepR σ x.var y f
  else if y.var ≠ 0 then bindStepR σ y.var x f
  else if x.name ≠ y.name ∨ x.args.length ≠ y.args.length then .done (.no σ [] f)
  else .go σ [] f (x.args.zip y.args)

theorem bindStepR_le {σ : Sub} {v : Int} {t : Tm} {f : Nat} {σ' : Sub} {L' : List Int} {f' : Nat} {m : List (Tm × Tm)} (h : bindStepR σ v t f = .go σ' L' f' m) : f' ≤ f := by
  unfold bindStepR at h
  cases hw : within σ v f [t] with
  | yes g => rw [hw] at h; cases h
  | many => rw [hw] at h; cases h
  | no g => rw [hw] at h; cases h; omega

theorem pairStepR_le {σ : Sub} {x y : Tm} {f : Nat} {σ' : Sub} {L' : List Int} {f' : Nat} {m : List (Tm × Tm)} (h : pairStepR σ f x y = .go σ' L' f' m) : f' ≤ f := by
  unfold pairStepR at h
  split at h
  · cases h; exact Nat.le_refl _
  · split at h
    · exact bindStepR_le h
    · split at h
      · exact bindStepR_le h
      · split at h
        · cases h
        · cases h; exact Nat.le_refl _

/-- The reference's Meet: pairs that are to be made alike, one after another. -/
noncomputable def meetR (σ : Sub) (f : Nat) (ps : List (Tm × Tm)) : MOut :=
  match f, ps with
  | f, [] => .ok σ [] f
  | 0, _ :: _ => .many σ []
  | f + 1, p :: r =>
    match h : pairStepR σ f (look σ p.1) (look σ p.2) with
    | .done o => o
    | .go σ' _ f' more =>
      have : f' < f + 1 := Nat.lt_succ_of_le (pairStepR_le h)
      meetR σ' f' (more ++ r)
termination_by f

/-- Cells of a list of pairs. -/
def flat2 : List (TmAt × TmAt) → List Value
  | [] => []
  | p :: r => flat [p.1, p.2] ++ flat2 r

theorem flat2_length (l : List (TmAt × TmAt)) : (flat2 l).length = l.length * 6 := by
  induction l with
  | nil => rfl
  | cons p r ih => simp only [flat2, List.length_append, flat_length, ih, List.length_cons, List.length_nil]; omega

theorem flat2_append (l r : List (TmAt × TmAt)) : flat2 (l ++ r) = flat2 l ++ flat2 r := by
  induction l with
  | nil => rfl
  | cons p l ih => simp only [List.cons_append, flat2, ih, List.append_assoc]

theorem flat2_one (l : List (TmAt × TmAt)) : ∀ u ∈ flat2 l, u.oneCell' = true := by
  induction l with
  | nil => intro u hu; cases hu
  | cons p l ih =>
    intro u hu
    rcases List.mem_append.1 hu with h | h
    · exact flat_one _ u h
    · exact ih u h

end Go.Proofs.Ytikmgiapjigghaa
