/- Plain: terms that are right fit; what Unify answers of two given terms. -/
import Derived.Test.YtikmgiapjigghaaMostP
namespace Go.Proofs.Ytikmgiapjigghaa
open Go.RowKit

theorem firstE_zero : ∀ (l : List Tm), firstE l = 0 → ∀ p, p ∈ l → p.partE = 0 := by
  intro l
  induction l with
  | nil => intro _ p hp; cases hp
  | cons t r ih =>
    intro h p hp
    have h' : (if t.partE = 0 then firstE r else t.partE) = 0 := h
    by_cases e : t.partE = 0
    · rw [if_pos e] at h'
      rcases List.mem_cons.1 hp with rfl | hp
      · exact e
      · exact ih h' p hp
    · rw [if_neg e] at h'; exact absurd h' e

/-- A term that is right. -/
theorem check_fit {t : Tm} (h : t.checkE = 0) : Fit 13 t := by
  have h0 : t.partsE = 0 := by
    unfold Tm.checkE at h
    by_cases h6 : 60 < t.size
    · rw [if_pos h6] at h; cases h
    · rw [if_neg h6] at h; exact h
  rw [Tm.partsE_eq] at h0
  have hz := firstE_zero _ h0
  have hp : ∀ p, p ∈ t.parts → (0 ≤ p.var ∧ (p.var ≠ 0 → p.args = [] ∧ p.name = ⟨#[]⟩)) ∧ p.var.toNat < 13 ∧ p.args.length ≤ 100000 := by
    intro p hp
    have h1 := hz p hp
    unfold Tm.partE at h1
    obtain ⟨v, n, l⟩ := p
    simp only [Tm.var, Tm.name, Tm.args] at h1 ⊢
    unfold Go.Proofs.Ytikmgiapjigghaa.partE at h1
    by_cases hv : v = 0
    · subst hv
      refine ⟨⟨by omega, fun h => absurd rfl h⟩, by omega, ?_⟩
      rw [if_pos rfl] at h1
      split at h1
      · cases h1
      · split at h1
        · cases h1
        · omega
    · rw [if_neg hv] at h1
      split at h1
      · cases h1
      · rename_i h2
        split at h1
        · cases h1
        · rename_i h3
          have hl : l.length = 0 := by omega
          have hn : n.size = 0 := by omega
          refine ⟨⟨by omega, fun _ => ⟨List.eq_nil_of_length_eq_zero hl, ?_⟩⟩, by omega, by omega⟩
          cases n with
          | mk d => simp only [ByteArray.size] at hn; rw [Array.eq_empty_of_size_eq_zero hn]
  exact ⟨fun p h => (hp p h).1, fun p h => (hp p h).2⟩

theorem outs_of {σ : Sub} {T : Nat → Tm} : ∀ n : Nat, (∀ i : Nat, i < n → ∃ k, thrL σ 200 [VarT ((i : Int) + 1)] = some ([T i], k)) → outs σ n = some ((List.range n).map T) := by
  intro n
  induction n with
  | zero => intro _; rfl
  | succ n ih =>
    intro h
    obtain ⟨k, hk⟩ := h n (Nat.lt_succ_self n)
    simp only [outs]
    rw [ih (fun i hi => h i (by omega)), hk, List.range_succ, List.map_append]
    rfl

def tmA : Tm := .mk 0 ⟨#[97]⟩ []
def tmL : Tm := .mk 0 ⟨#[102]⟩ [VarT 2, VarT 3]
def tmR : Tm := .mk 0 ⟨#[102]⟩ [VarT 1, tmA]
def sub1 : Sub := upd (fun _ => none) 2 (VarT 1)
def sub2 : Sub := upd sub1 3 tmA
def outB (i : Nat) : Tm := if i = 1 then VarT 1 else if i = 2 then tmA else VarT ((i : Int) + 1)

theorem begun_step1 : pairStep (fun _ => none) [] 3999 (look (fun _ => none) tmL) (look (fun _ => none) tmR) = .go (fun _ => none) [] 3999 [(VarT 2, VarT 1), (VarT 3, tmA)] := by
  rw [look_fn (t := tmL) rfl, look_fn (t := tmR) rfl, pairStep_args rfl rfl (by intro h; rcases h with h | h; exact h rfl; exact h rfl)]
  rfl

theorem begun_step2 : pairStep (fun _ => none) [] 3998 (look (fun _ => none) (VarT 2)) (look (fun _ => none) (VarT 1)) = .go sub1 [2] 3997 [] := by
  rw [look_free (t := VarT 2) rfl, look_free (t := VarT 1) rfl, pairStep_x (by decide) (by decide)]
  unfold bindStep
  rw [show (VarT 2).var = 2 from rfl, within_var (v := 2) (t := VarT 1) (by decide) rfl (by decide) 3997]
  rfl

theorem begun_step3 : pairStep sub1 [2] 3996 (look sub1 (VarT 3)) (look sub1 tmA) = .go sub2 [2, 3] 3995 [] := by
  rw [look_free (t := VarT 3) rfl, look_fn (t := tmA) rfl, pairStep_x (by decide) (by decide)]
  unfold bindStep
  have h : within sub1 3 3996 [tmA] = .no 3995 := by
    show within sub1 3 (3995 + 1) [tmA] = .no 3995
    simp only [within]
    rw [look_fn (t := tmA) rfl]
    simp [tmA, Tm.var, Tm.args, within]
  rw [show (VarT 3).var = 3 from rfl, h]
  rfl

theorem begun_meet : meet (fun _ => none) [] 4000 [(tmL, tmR)] = .ok sub2 [2, 3] 3995 := by
  rw [show (4000 : Nat) = 3999 + 1 from rfl, meet_go [] begun_step1]
  show meet (fun _ => none) [] (3998 + 1) ((VarT 2, VarT 1) :: [(VarT 3, tmA)]) = _
  rw [meet_go _ begun_step2]
  show meet sub1 [2] (3996 + 1) ((VarT 3, tmA) :: []) = _
  rw [meet_go _ begun_step3]
  exact meet_nil _ _ _

theorem sub2_ne {v : Int} (h2 : v ≠ 2) (h3 : v ≠ 3) : sub2 v = none := by unfold sub2 sub1 upd; rw [if_neg h3, if_neg h2]

theorem begun_outs : outs sub2 12 = some ((List.range 12).map outB) := by
  refine outs_of 12 fun i hi => ?_
  by_cases h1 : i = 1
  · subst h1
    have hl : look sub2 (VarT 2) = VarT 1 := look_eq (n := 1) ⟨by decide, VarT 1, rfl, rfl, .inr (sub2_ne (by decide) (by decide))⟩
    refine ⟨199, ?_⟩
    rw [show (((1 : Nat) : Int) + 1) = 2 from rfl, show (200 : Nat) = 199 + 1 from rfl, thrL_var (by rw [hl]; decide), thrL_nil, hl]
    rfl
  · by_cases h2 : i = 2
    · subst h2
      have hl : look sub2 (VarT 3) = tmA := look_eq (n := 1) ⟨by decide, tmA, rfl, rfl, .inl rfl⟩
      refine ⟨199, ?_⟩
      rw [show (((2 : Nat) : Int) + 1) = 3 from rfl, show (200 : Nat) = 199 + 1 from rfl, thrL_fn (by rw [hl]; rfl), hl]
      show (thrL sub2 199 []).bind _ = _
      rw [thrL_nil]
      simp only [Option.bind_some, thrL_nil]
      rfl
    · have hl : look sub2 (VarT ((i : Int) + 1)) = VarT ((i : Int) + 1) := look_free (t := VarT ((i : Int) + 1)) (sub2_ne (v := (i : Int) + 1) (by omega) (by omega))
      refine ⟨199, ?_⟩
      rw [show (200 : Nat) = 199 + 1 from rfl, thrL_var (by rw [hl]; show (i : Int) + 1 ≠ 0; omega), thrL_nil, hl]
      simp only [outB, if_neg h1, if_neg h2]
      rfl

theorem begun_uP : uP tmL tmR = .ok ((List.range 12).map outB) 5 := by
  unfold uP
  rw [begun_meet]
  simp only [begun_outs]

end Go.Proofs.Ytikmgiapjigghaa
