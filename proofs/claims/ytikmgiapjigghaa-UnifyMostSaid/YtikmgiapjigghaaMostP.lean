/- Plain: what Unify puts in makes both the same, and whatever makes both the same is made of it. -/
import Derived.Test.YtikmgiapjigghaaThrP
namespace Go.Proofs.Ytikmgiapjigghaa
open Go.RowKit

mutual
/-- A term with terms put in for its variables. -/
def Tm.putIn (S : Int → Tm) : Tm → Tm
  | .mk v n l => if v ≠ 0 then S v else .mk 0 n (Tm.putIns S l)
def Tm.putIns (S : Int → Tm) : List Tm → List Tm
  | [] => []
  | t :: r => t.putIn S :: Tm.putIns S r
end
theorem Tm.putIns_eq (S : Int → Tm) (l : List Tm) : Tm.putIns S l = l.map (Tm.putIn S) := by
  induction l with
  | nil => rfl
  | cons t r ih => rw [Tm.putIns, ih]; rfl
theorem Tm.putIn_var {S : Int → Tm} {t : Tm} (h : t.var ≠ 0) : t.putIn S = S t.var := by
  cases t; simp only [Tm.var] at h; simp only [Tm.putIn, if_pos h, Tm.var]
theorem Tm.putIn_fn {S : Int → Tm} {t : Tm} (h : t.var = 0) : t.putIn S = .mk 0 t.name (t.args.map (Tm.putIn S)) := by
  cases t; simp only [Tm.var] at h; subst h
  simp only [Tm.putIn, Tm.name, Tm.args, Tm.putIns_eq]; rfl

/-- What is put in says of each variable of a store what the store says. -/
def Respects (S : Int → Tm) (σ : Sub) : Prop := ∀ v u, v ≠ 0 → σ v = some u → S v = u.putIn S

theorem Respects.look {S : Int → Tm} {σ : Sub} (h : Respects S σ) (hE : Ends σ) (t : Tm) : (look σ t).putIn S = t.putIn S := by
  obtain ⟨n, hn⟩ := look_spec hE t
  generalize Go.Proofs.Ytikmgiapjigghaa.look σ t = u at *
  induction n generalizing t with
  | zero => obtain ⟨rfl, _⟩ := hn; rfl
  | succ n ih =>
    obtain ⟨h1, t', h2, h3⟩ := hn
    rw [ih t' h3, Tm.putIn_var h1, h _ _ h1 h2]

theorem Tm.size_mem {l : List Tm} {t : Tm} (h : t ∈ l) : t.size ≤ Tm.sizes l := by
  induction l with
  | nil => cases h
  | cons a l ih =>
    simp only [Tm.sizes]
    rcases List.mem_cons.1 h with rfl | h
    · omega
    · have := ih h; omega

theorem within_size {S : Int → Tm} {σ : Sub} (h : Respects S σ) (hE : Ends σ) {v : Int} : ∀ (f : Nat) (l : List Tm) (f' : Nat), within σ v f l = .yes f' → ∃ t ∈ l, (S v).size ≤ (t.putIn S).size := by
  intro f
  induction f with
  | zero => intro l f' he; cases l <;> simp [within] at he
  | succ f ih =>
    intro l f' he
    cases l with
    | nil => simp [within] at he
    | cons t r =>
      simp only [within] at he
      have hl := h.look hE t
      by_cases h1 : (look σ t).var ≠ 0
      · rw [if_pos h1] at he
        by_cases h2 : (look σ t).var = v
        · refine ⟨t, List.mem_cons_self, ?_⟩
          rw [← hl, Tm.putIn_var h1, h2]; exact Nat.le_refl _
        · rw [if_neg h2] at he
          obtain ⟨x, hx, h3⟩ := ih r f' he
          exact ⟨x, List.mem_cons_of_mem _ hx, h3⟩
      · rw [if_neg h1] at he
        obtain ⟨x, hx, h3⟩ := ih _ f' he
        rcases List.mem_append.1 hx with h4 | h4
        · refine ⟨t, List.mem_cons_self, Nat.le_trans h3 ?_⟩
          rw [← hl, Tm.putIn_fn (Decidable.of_not_not h1), Tm.size]
          have := Tm.size_mem (List.mem_map.2 ⟨x, h4, rfl⟩ : x.putIn S ∈ (look σ t).args.map (Tm.putIn S))
          omega
        · exact ⟨x, List.mem_cons_of_mem _ h4, h3⟩

theorem Respects.put {S : Int → Tm} {σ : Sub} (h : Respects S σ) {k : Int} {u : Tm} (he : S k = u.putIn S) : Respects S (upd σ k u) := by
  intro v x hv hx
  unfold Go.Proofs.Ytikmgiapjigghaa.upd at hx
  by_cases e : v = k
  · rw [if_pos e] at hx; cases hx; rw [e]; exact he
  · rw [if_neg e] at hx; exact h v x hv hx

theorem Respects.sub {S : Int → Tm} {σ : Sub} {k : Int} {u : Tm} (h : Respects S (upd σ k u)) (hk : σ k = none) (hk0 : k ≠ 0) : Respects S σ ∧ S k = u.putIn S := by
  refine ⟨fun v x hv hx => h v x hv ?_, h k u hk0 ?_⟩
  · have : v ≠ k := fun e => by rw [e, hk] at hx; cases hx
    unfold Go.Proofs.Ytikmgiapjigghaa.upd; rw [if_neg this]; exact hx
  · unfold Go.Proofs.Ytikmgiapjigghaa.upd; rw [if_pos rfl]

theorem map_zip {l l2 : List Tm} {S : Int → Tm} (h : l.map (Tm.putIn S) = l2.map (Tm.putIn S)) : ∀ p ∈ l.zip l2, p.1.putIn S = p.2.putIn S := by
  induction l generalizing l2 with
  | nil => intro p hp; cases hp
  | cons a l ih =>
    cases l2 with
    | nil => cases h
    | cons b l2 =>
      simp only [List.map_cons, List.cons.injEq] at h
      intro p hp
      rw [List.zip_cons_cons] at hp
      rcases List.mem_cons.1 hp with rfl | hp
      · exact h.1
      · exact ih h.2 p hp

theorem zip_map {l l2 : List Tm} {S : Int → Tm} (hl : l.length = l2.length) (h : ∀ p ∈ l.zip l2, p.1.putIn S = p.2.putIn S) : l.map (Tm.putIn S) = l2.map (Tm.putIn S) := by
  induction l generalizing l2 with
  | nil => cases l2 with
    | nil => rfl
    | cons b l2 => cases hl
  | cons a l ih =>
    cases l2 with
    | nil => cases hl
    | cons b l2 =>
      simp only [List.map_cons]
      rw [h (a, b) (by rw [List.zip_cons_cons]; exact List.mem_cons_self), ih (by simpa using hl) (fun p hp => h p (by rw [List.zip_cons_cons]; exact List.mem_cons_of_mem _ hp))]

/-- A step that is not done, or has too much work. -/
def StepIs (Q : Sub → List (Tm × Tm) → Prop) : MStep → Prop
  | .done (.no _ _ _) => False
  | .done (.ok _ _ _) => False
  | .done (.many _ _) => True
  | .go σ' _ _ m => Q σ' m

theorem StepIs.imp {Q R : Sub → List (Tm × Tm) → Prop} (h : ∀ σ m, Q σ m → R σ m) : ∀ {x : MStep}, StepIs Q x → StepIs R x
  | .done (.no _ _ _), k => k
  | .done (.ok _ _ _), k => k
  | .done (.many _ _), k => k
  | .go _ _ _ _, k => h _ _ k

/-- A way to make one variable that is nothing the same as another term. -/
theorem bindStep_mgu {S : Int → Tm} {σ : Sub} (h : Respects S σ) (hi : SInv σ) {v : Int} {t : Tm} (hv : v ≠ 0) (hvp : 0 ≤ v) (hr : t.var = 0 ∨ σ t.var = none) (hne : t.var ≠ v) (he : S v = t.putIn S) (L : List Int) (f : Nat) :
    StepIs (fun σ' m => Respects S σ' ∧ m = []) (bindStep σ L v t f) := by
  unfold bindStep
  cases hw : within σ v f [t] with
  | many => trivial
  | yes g =>
    simp only
    cases f with
    | zero => simp [within] at hw
    | succ f =>
      by_cases h0 : t.var = 0
      · simp only [within] at hw
        rw [look_fn h0, if_neg (by rw [h0]; simp), List.append_nil] at hw
        obtain ⟨x, hx, h1⟩ := within_size h hi.rank.ends f _ _ hw
        have h2 := Tm.size_mem (List.mem_map.2 ⟨x, hx, rfl⟩ : x.putIn S ∈ t.args.map (Tm.putIn S))
        rw [he, Tm.putIn_fn h0, Tm.size] at h1
        omega
      · rw [within_var h0 (hr.resolve_left h0) hne] at hw; cases hw
  | no g =>
    refine ⟨?_, rfl⟩
    unfold bindS
    by_cases hlt : v < t.var
    · rw [if_pos hlt]
      refine h.put ?_
      rw [Tm.putIn_var (t := .mk v ⟨#[]⟩ []) hv, ← Tm.putIn_var (S := S) (t := t) (by omega)]
      exact he.symm
    · rw [if_neg hlt]
      exact h.put he

theorem bindStep_inv {σ : Sub} (hi : SInv σ) {v : Int} {t : Tm} (hv : 1 ≤ v) (hvn : σ v = none) (ht : WfT t) (hr : t.var = 0 ∨ σ t.var = none) (hne : t.var ≠ v) {L : List Int} {f : Nat} {σ' : Sub} {L' : List Int} {f' : Nat} {m : List (Tm × Tm)} (he : bindStep σ L v t f = .go σ' L' f' m) : SInv σ' := by
  unfold bindStep at he
  cases hw : within σ v f [t] with
  | yes g => rw [hw] at he; cases he
  | many => rw [hw] at he; cases he
  | no g => rw [hw] at he; cases he; exact hi.bind hv hvn ht hr hne

/-- One step: the store stays a right one, terms stay right ones. -/
theorem pairStep_inv {σ : Sub} (hi : SInv σ) {s t : Tm} (hs : WfT s) (ht : WfT t) {L : List Int} {f : Nat} {σ' : Sub} {L' : List Int} {f' : Nat} {m : List (Tm × Tm)} (he : pairStep σ L f (look σ s) (look σ t) = .go σ' L' f' m) : SInv σ' ∧ ∀ p ∈ m, WfT p.1 ∧ WfT p.2 := by
  have a1 := hi.look hs; have a2 := hi.look ht
  have e1 := look_end hi.rank.ends s; have e2 := look_end hi.rank.ends t
  unfold pairStep at he
  split at he
  · cases he; exact ⟨hi, fun p hp => by cases hp⟩
  · rename_i h1
    split at he
    · rename_i h2
      have hm : m = [] := by unfold bindStep at he; split at he <;> cases he; rfl
      exact ⟨bindStep_inv hi (by have := a1.pos; omega) (e1.resolve_left h2) a2 e2 (fun e => h1 ⟨h2, e.symm⟩) he, fun p hp => by rw [hm] at hp; cases hp⟩
    · rename_i h2
      split at he
      · rename_i h3
        have hm : m = [] := by unfold bindStep at he; split at he <;> cases he; rfl
        exact ⟨bindStep_inv hi (by have := a2.pos; omega) (e2.resolve_left h3) a1 e1 (fun e => by omega) he, fun p hp => by rw [hm] at hp; cases hp⟩
      · split at he
        · cases he
        · cases he
          exact ⟨hi, fun p hp => ⟨a1.arg (List.of_mem_zip hp).1, a2.arg (List.of_mem_zip hp).2⟩⟩

theorem pairStep_mgu {S : Int → Tm} {σ : Sub} (h : Respects S σ) (hi : SInv σ) {s t : Tm} (hs : WfT s) (ht : WfT t) (he : s.putIn S = t.putIn S) (L : List Int) (f : Nat) :
    StepIs (fun σ' m => Respects S σ' ∧ ∀ p ∈ m, p.1.putIn S = p.2.putIn S) (pairStep σ L f (look σ s) (look σ t)) := by
  have a1 := hi.look hs; have a2 := hi.look ht
  have e1 := look_end hi.rank.ends s; have e2 := look_end hi.rank.ends t
  rw [← h.look hi.rank.ends s, ← h.look hi.rank.ends t] at he
  generalize look σ s = x at *
  generalize look σ t = y at *
  unfold pairStep
  by_cases h1 : x.var ≠ 0 ∧ x.var = y.var
  · rw [if_pos h1]; exact ⟨h, fun p hp => by cases hp⟩
  · rw [if_neg h1]
    by_cases h2 : x.var ≠ 0
    · rw [if_pos h2]
      have := bindStep_mgu h hi h2 a1.pos e2 (fun e => h1 ⟨h2, e.symm⟩) (by rw [← Tm.putIn_var (S := S) h2]; exact he) L f
      exact this.imp fun σ m h => ⟨h.1, fun p hp => by rw [h.2] at hp; cases hp⟩
    · rw [if_neg h2]
      by_cases h3 : y.var ≠ 0
      · rw [if_pos h3]
        have := bindStep_mgu h hi h3 a2.pos e1 (fun e => by omega) (by rw [← Tm.putIn_var (S := S) h3]; exact he.symm) L f
        exact this.imp fun σ m h => ⟨h.1, fun p hp => by rw [h.2] at hp; cases hp⟩
      · rw [if_neg h3]
        rw [Tm.putIn_fn (Decidable.of_not_not h2), Tm.putIn_fn (Decidable.of_not_not h3)] at he
        injection he with _ hn hl
        by_cases h4 : x.name ≠ y.name ∨ x.args.length ≠ y.args.length
        · rw [if_pos h4]
          have hll := congrArg List.length hl
          simp only [List.length_map] at hll
          rcases h4 with h4 | h4
          · exact h4 hn
          · exact h4 hll
        · rw [if_neg h4]
          exact ⟨h, map_zip hl⟩

/-- Whatever makes all pairs the same is made of what the store says; if there is such a thing, Same does not say no. -/
theorem meet_mgu {S : Int → Tm} : ∀ (f : Nat) (σ : Sub) (L : List Int) (ps : List (Tm × Tm)), Respects S σ → SInv σ → (∀ p ∈ ps, WfT p.1 ∧ WfT p.2) → (∀ p ∈ ps, p.1.putIn S = p.2.putIn S) →
    match meet σ L f ps with
    | .no _ _ _ => False
    | .many _ _ => True
    | .ok σ' _ _ => Respects S σ' := by
  intro f
  induction f using Nat.strongRecOn with
  | _ f ih =>
  intro σ L ps h hi hw hp
  cases ps with
  | nil => rw [meet_nil]; exact h
  | cons p r =>
    cases f with
    | zero => rw [meet_zero]; trivial
    | succ f =>
      have hq := hw p List.mem_cons_self
      have hs := pairStep_mgu h hi hq.1 hq.2 (hp p List.mem_cons_self) L f
      cases h1 : pairStep σ L f (look σ p.1) (look σ p.2) with
      | done o =>
        rw [meet_done _ h1]
        rw [h1] at hs
        cases o with
        | ok _ _ _ => exact hs.elim
        | no _ _ _ => exact hs
        | many _ _ => exact hs
      | go σ1 L1 f1 m =>
        rw [meet_go _ h1]
        rw [h1] at hs
        obtain ⟨i1, i2⟩ := pairStep_inv hi hq.1 hq.2 h1
        refine ih f1 (Nat.lt_succ_of_le (pairStep_le h1)) σ1 L1 _ hs.1 i1 (fun q hq => ?_) (fun q hq => ?_)
        · rcases List.mem_append.1 hq with h5 | h5
          · exact i2 q h5
          · exact hw q (List.mem_cons_of_mem _ h5)
        · rcases List.mem_append.1 hq with h5 | h5
          · exact hs.2 q h5
          · exact hp q (List.mem_cons_of_mem _ h5)

theorem bindStep_back {S : Int → Tm} {σ : Sub} {v : Int} {t : Tm} (hv : v ≠ 0) (hvn : σ v = none) (hr : t.var = 0 ∨ σ t.var = none) (hp : 0 ≤ v) {L : List Int} {f : Nat} {σ' : Sub} {L' : List Int} {f' : Nat} {m : List (Tm × Tm)} (he : bindStep σ L v t f = .go σ' L' f' m) (h : Respects S σ') :
    Respects S σ ∧ S v = t.putIn S := by
  unfold bindStep at he
  cases hw : within σ v f [t] with
  | yes g => rw [hw] at he; cases he
  | many => rw [hw] at he; cases he
  | no g =>
    rw [hw] at he; cases he
    unfold bindS at h
    by_cases hlt : v < t.var
    · rw [if_pos hlt] at h
      obtain ⟨h1, h2⟩ := h.sub (hr.resolve_left (by omega)) (by omega)
      refine ⟨h1, ?_⟩
      rw [Tm.putIn_var (t := .mk v ⟨#[]⟩ []) hv] at h2
      rw [Tm.putIn_var (by omega)]
      exact h2.symm
    · rw [if_neg hlt] at h
      exact h.sub hvn hv

theorem pairStep_back {S : Int → Tm} {σ : Sub} (hi : SInv σ) {s t : Tm} (hs : WfT s) (ht : WfT t) {L : List Int} {f : Nat} {σ' : Sub} {L' : List Int} {f' : Nat} {m : List (Tm × Tm)} (he : pairStep σ L f (look σ s) (look σ t) = .go σ' L' f' m) (h : Respects S σ') (hm : ∀ p ∈ m, p.1.putIn S = p.2.putIn S) :
    Respects S σ ∧ s.putIn S = t.putIn S := by
  have a1 := hi.look hs; have a2 := hi.look ht
  have e1 := look_end hi.rank.ends s; have e2 := look_end hi.rank.ends t
  have key : Respects S σ ∧ (look σ s).putIn S = (look σ t).putIn S := by
    generalize look σ s = x at *
    generalize look σ t = y at *
    unfold pairStep at he
    by_cases h1 : x.var ≠ 0 ∧ x.var = y.var
    · rw [if_pos h1] at he
      cases he
      exact ⟨h, by rw [Tm.putIn_var h1.1, Tm.putIn_var (by rw [← h1.2]; exact h1.1), h1.2]⟩
    · rw [if_neg h1] at he
      by_cases h2 : x.var ≠ 0
      · rw [if_pos h2] at he
        obtain ⟨b1, b2⟩ := bindStep_back h2 (e1.resolve_left h2) e2 a1.pos he h
        exact ⟨b1, by rw [Tm.putIn_var h2]; exact b2⟩
      · rw [if_neg h2] at he
        by_cases h3 : y.var ≠ 0
        · rw [if_pos h3] at he
          obtain ⟨b1, b2⟩ := bindStep_back h3 (e2.resolve_left h3) e1 a2.pos he h
          exact ⟨b1, by rw [Tm.putIn_var h3]; exact b2.symm⟩
        · rw [if_neg h3] at he
          by_cases h4 : x.name ≠ y.name ∨ x.args.length ≠ y.args.length
          · rw [if_pos h4] at he; cases he
          · rw [if_neg h4] at he
            cases he
            refine ⟨h, ?_⟩
            rw [Tm.putIn_fn (Decidable.of_not_not h2), Tm.putIn_fn (Decidable.of_not_not h3), Decidable.of_not_not fun e => h4 (.inl e), zip_map (Decidable.of_not_not fun e => h4 (.inr e)) hm]
  exact ⟨key.1, by rw [← key.1.look hi.rank.ends s, ← key.1.look hi.rank.ends t]; exact key.2⟩

/-- What the store says at the end makes all pairs the same. -/
theorem meet_back {S : Int → Tm} : ∀ (f : Nat) (σ : Sub) (L : List Int) (ps : List (Tm × Tm)) (σ' : Sub) (L' : List Int) (f' : Nat), SInv σ → (∀ p ∈ ps, WfT p.1 ∧ WfT p.2) → meet σ L f ps = .ok σ' L' f' → Respects S σ' →
    Respects S σ ∧ ∀ p ∈ ps, p.1.putIn S = p.2.putIn S := by
  intro f
  induction f using Nat.strongRecOn with
  | _ f ih =>
  intro σ L ps σ' L' f' hi hw he h
  cases ps with
  | nil => rw [meet_nil] at he; cases he; exact ⟨h, fun p hp => by cases hp⟩
  | cons p r =>
    cases f with
    | zero => rw [meet_zero] at he; cases he
    | succ f =>
      have hq := hw p List.mem_cons_self
      cases h1 : pairStep σ L f (look σ p.1) (look σ p.2) with
      | done o =>
        rw [meet_done _ h1] at he
        subst he
        unfold pairStep bindStep at h1
        split at h1
        · cases h1
        · split at h1
          · split at h1 <;> cases h1
          · split at h1
            · split at h1 <;> cases h1
            · split at h1 <;> cases h1
      | go σ1 L1 f1 m =>
        rw [meet_go _ h1] at he
        obtain ⟨i1, i2⟩ := pairStep_inv hi hq.1 hq.2 h1
        obtain ⟨j1, j2⟩ := ih f1 (Nat.lt_succ_of_le (pairStep_le h1)) σ1 L1 _ σ' L' f' i1 (fun q hq => by
          rcases List.mem_append.1 hq with h5 | h5
          · exact i2 q h5
          · exact hw q (List.mem_cons_of_mem _ h5)) he h
        obtain ⟨k1, k2⟩ := pairStep_back hi hq.1 hq.2 h1 j1 (fun q hq => j2 q (List.mem_append_left _ hq))
        refine ⟨k1, fun q hq => ?_⟩
        rcases List.mem_cons.1 hq with rfl | hq
        · exact k2
        · exact j2 q (List.mem_append_right _ hq)

theorem meet_inv : ∀ (f : Nat) (σ : Sub) (L : List Int) (ps : List (Tm × Tm)) (σ' : Sub) (L' : List Int) (f' : Nat), SInv σ → (∀ p ∈ ps, WfT p.1 ∧ WfT p.2) → meet σ L f ps = .ok σ' L' f' → SInv σ' := by
  intro f
  induction f using Nat.strongRecOn with
  | _ f ih =>
  intro σ L ps σ' L' f' hi hw he
  cases ps with
  | nil => rw [meet_nil] at he; cases he; exact hi
  | cons p r =>
    cases f with
    | zero => rw [meet_zero] at he; cases he
    | succ f =>
      have hq := hw p List.mem_cons_self
      cases h1 : pairStep σ L f (look σ p.1) (look σ p.2) with
      | done o =>
        rw [meet_done _ h1] at he
        subst he
        unfold pairStep bindStep at h1
        split at h1
        · cases h1
        · split at h1
          · split at h1 <;> cases h1
          · split at h1
            · split at h1 <;> cases h1
            · split at h1 <;> cases h1
      | go σ1 L1 f1 m =>
        rw [meet_go _ h1] at he
        obtain ⟨i1, i2⟩ := pairStep_inv hi hq.1 hq.2 h1
        exact ih f1 (Nat.lt_succ_of_le (pairStep_le h1)) σ1 L1 _ σ' L' f' i1 (fun q hq => by
          rcases List.mem_append.1 hq with h5 | h5
          · exact i2 q h5
          · exact hw q (List.mem_cons_of_mem _ h5)) he

theorem thrL_put {S : Int → Tm} {σ : Sub} (h : Respects S σ) (hE : Ends σ) : ∀ (m : Nat) (l : List Tm) (x : List Tm × Nat), thrL σ m l = some x → x.1.map (Tm.putIn S) = l.map (Tm.putIn S) := by
  intro m
  induction m using Nat.strongRecOn with
  | _ m ih =>
  intro l x he
  cases l with
  | nil => rw [thrL_nil] at he; cases he; rfl
  | cons t r =>
    cases m with
    | zero => rw [thrL_zero] at he; cases he
    | succ m =>
      have hl := h.look hE t
      by_cases hv : (look σ t).var = 0
      · rw [thrL_fn hv] at he
        obtain ⟨y, hy, h2⟩ := Option.bind_eq_some_iff.1 he
        obtain ⟨z, hz, rfl⟩ := Option.map_eq_some_iff.1 h2
        have hle := (thrL_le _ _ _ hy).1
        simp only [List.map_cons]
        rw [ih y.2 (by omega) r z hz, Tm.putIn_fn (by rfl), ← hl, Tm.putIn_fn hv]
        have := ih m (by omega) _ y hy
        show Tm.mk 0 (look σ t).name (y.1.map (Tm.putIn S)) :: _ = _
        rw [this]
      · rw [thrL_var hv] at he
        obtain ⟨z, hz, rfl⟩ := Option.map_eq_some_iff.1 he
        simp only [List.map_cons]
        rw [ih m (by omega) r z hz, Tm.putIn_var (t := VarT (look σ t).var) hv, ← hl, Tm.putIn_var hv]; rfl

theorem thrL_det {σ : Sub} : ∀ (m : Nat) (l : List Tm) (x : List Tm × Nat) (m' : Nat) (x' : List Tm × Nat), thrL σ m l = some x → thrL σ m' l = some x' → x.1 = x'.1 := by
  intro m
  induction m using Nat.strongRecOn with
  | _ m ih =>
  intro l x m' x' he he'
  cases l with
  | nil => rw [thrL_nil] at he he'; cases he; cases he'; rfl
  | cons t r =>
    cases m with
    | zero => rw [thrL_zero] at he; cases he
    | succ m =>
      cases m' with
      | zero => rw [thrL_zero] at he'; cases he'
      | succ m' =>
        by_cases hv : (look σ t).var = 0
        · rw [thrL_fn hv] at he he'
          obtain ⟨y, hy, h2⟩ := Option.bind_eq_some_iff.1 he
          obtain ⟨z, hz, rfl⟩ := Option.map_eq_some_iff.1 h2
          obtain ⟨y', hy', h2'⟩ := Option.bind_eq_some_iff.1 he'
          obtain ⟨z', hz', rfl⟩ := Option.map_eq_some_iff.1 h2'
          have hle := (thrL_le _ _ _ hy).1
          simp only
          rw [ih m (by omega) _ y m' y' hy hy', ih y.2 (by omega) r z _ z' hz hz']
        · rw [thrL_var hv] at he he'
          obtain ⟨z, hz, rfl⟩ := Option.map_eq_some_iff.1 he
          obtain ⟨z', hz', rfl⟩ := Option.map_eq_some_iff.1 he'
          simp only
          rw [ih m (by omega) r z m' z' hz hz']

/-- What is through and through is what is put in by the variables' own terms. -/
theorem thrL_self {S : Int → Tm} {σ : Sub} {n : Nat} (hS : ∀ v : Int, 1 ≤ v → v.toNat < n → ∃ k, thrL σ 200 [VarT v] = some ([S v], k)) :
    ∀ (m : Nat) (l : List Tm) (x : List Tm × Nat), (∀ t ∈ l, Fit n t) → thrL σ m l = some x → x.1 = l.map (Tm.putIn S) := by
  intro m
  induction m using Nat.strongRecOn with
  | _ m ih =>
  intro l x hl he
  cases l with
  | nil => rw [thrL_nil] at he; cases he; rfl
  | cons t r =>
    have ht := hl t List.mem_cons_self
    have hr : ∀ t ∈ r, Fit n t := fun x hx => hl x (List.mem_cons_of_mem _ hx)
    rw [thrL_cons] at he
    obtain ⟨y, hy, h2⟩ := Option.bind_eq_some_iff.1 he
    obtain ⟨z, hz, rfl⟩ := Option.map_eq_some_iff.1 h2
    have hm : 0 < m := by
      cases m with
      | zero => rw [thrL_zero] at hy; cases hy
      | succ m => omega
    have hy2 : y.2 < m := by
      cases m with
      | zero => omega
      | succ m =>
        by_cases hv : (look σ t).var = 0
        · rw [thrL_fn hv] at hy
          obtain ⟨y1, hy1, h3⟩ := Option.bind_eq_some_iff.1 hy
          obtain ⟨z1, hz1, rfl⟩ := Option.map_eq_some_iff.1 h3
          have := (thrL_le _ _ _ hy1).1; have := (thrL_le _ _ _ hz1).1
          simp only; omega
        · rw [thrL_var hv] at hy
          obtain ⟨z1, hz1, rfl⟩ := Option.map_eq_some_iff.1 hy
          have := (thrL_le _ _ _ hz1).1
          simp only; omega
    simp only [List.map_cons]
    rw [ih y.2 hy2 r z hr hz]
    have hh : y.1 = [t.putIn S] := by
      by_cases h0 : t.var = 0
      · cases m with
        | zero => omega
        | succ m =>
          have hv : (look σ t).var = 0 := by rw [look_fn h0]; exact h0
          rw [thrL_fn hv] at hy
          obtain ⟨y1, hy1, h3⟩ := Option.bind_eq_some_iff.1 hy
          obtain ⟨z1, hz1, rfl⟩ := Option.map_eq_some_iff.1 h3
          rw [thrL_nil] at hz1; cases hz1
          rw [look_fn h0] at hy1 ⊢
          rw [ih m (by omega) _ y1 (fun x hx => ht.arg hx) hy1, Tm.putIn_fn h0]
      · have e := ht.wf.isVar h0
        have hp := ht.pos
        obtain ⟨k, hk⟩ := hS t.var (by omega) hp.2
        rw [e] at hy
        have := thrL_det _ _ _ _ _ hy hk
        rw [this, Tm.putIn_var h0]
    rw [hh]; rfl

theorem outs_at {σ : Sub} : ∀ (n : Nat) (l : List Tm), outs σ n = some l → l.length = n ∧ ∀ i (h : i < l.length), ∃ k, thrL σ 200 [VarT ((i : Int) + 1)] = some ([l[i]], k) := by
  intro n
  induction n with
  | zero => intro l h; cases h; exact ⟨rfl, fun i h => by cases h⟩
  | succ n ih =>
    intro l h
    simp only [outs] at h
    obtain ⟨l0, h0, h1⟩ := Option.bind_eq_some_iff.1 h
    obtain ⟨x, hx, rfl⟩ := Option.map_eq_some_iff.1 h1
    obtain ⟨i1, i2⟩ := ih l0 h0
    have hl := (thrL_le _ _ _ hx).2
    simp only [List.length_cons, List.length_nil, Nat.zero_add] at hl
    obtain ⟨X, k⟩ := x
    simp only at hl ⊢
    obtain ⟨T, rfl⟩ := List.length_eq_one_iff.1 hl
    refine ⟨by simp [i1], fun i hi => ?_⟩
    simp only [List.length_append, List.length_singleton] at hi
    by_cases e : i < l0.length
    · rw [List.getElem_append_left e]; exact i2 i e
    · have : i = l0.length := by omega
      subst this
      rw [List.getElem_concat_length rfl]
      exact ⟨k, by rw [i1]; exact hx⟩

theorem bindStep_dom {σ : Sub} {n : Nat} (hd : ∀ v u, σ v = some u → Fit n u) {v : Int} {t : Tm} (hv : 0 ≤ v ∧ v.toNat < n) (ht : Fit n t) {L : List Int} {f : Nat} {σ' : Sub} {L' : List Int} {f' : Nat} {m : List (Tm × Tm)} (he : bindStep σ L v t f = .go σ' L' f' m) : (∀ v u, σ' v = some u → Fit n u) ∧ m = [] := by
  unfold bindStep at he
  cases hw : within σ v f [t] with
  | yes g => rw [hw] at he; cases he
  | many => rw [hw] at he; cases he
  | no g =>
    rw [hw] at he; cases he
    refine ⟨?_, rfl⟩
    unfold bindS
    by_cases hlt : v < t.var
    · rw [if_pos hlt]; exact upd_dom hd (fit_var hv.1 hv.2)
    · rw [if_neg hlt]; exact upd_dom hd ht

theorem pairStep_dom {σ : Sub} {n : Nat} (hd : ∀ v u, σ v = some u → Fit n u) {x y : Tm} (hx : Fit n x) (hy : Fit n y) {L : List Int} {f : Nat} {σ' : Sub} {L' : List Int} {f' : Nat} {m : List (Tm × Tm)} (he : pairStep σ L f x y = .go σ' L' f' m) :
    (∀ v u, σ' v = some u → Fit n u) ∧ ∀ p ∈ m, Fit n p.1 ∧ Fit n p.2 := by
  unfold pairStep at he
  split at he
  · cases he; exact ⟨hd, fun p hp => by cases hp⟩
  · split at he
    · have := bindStep_dom hd hx.pos hy he
      exact ⟨this.1, fun p hp => by rw [this.2] at hp; cases hp⟩
    · split at he
      · have := bindStep_dom hd hy.pos hx he
        exact ⟨this.1, fun p hp => by rw [this.2] at hp; cases hp⟩
      · split at he
        · cases he
        · cases he
          exact ⟨hd, fun p hp => ⟨hx.arg (List.of_mem_zip hp).1, hy.arg (List.of_mem_zip hp).2⟩⟩

theorem meet_dom {n : Nat} : ∀ (f : Nat) (σ : Sub) (L : List Int) (ps : List (Tm × Tm)) (σ' : Sub) (L' : List Int) (f' : Nat), SInv σ → (∀ v u, σ v = some u → Fit n u) → (∀ p ∈ ps, Fit n p.1 ∧ Fit n p.2) → meet σ L f ps = .ok σ' L' f' → ∀ v u, σ' v = some u → Fit n u := by
  intro f
  induction f using Nat.strongRecOn with
  | _ f ih =>
  intro σ L ps σ' L' f' hi hd hw he
  cases ps with
  | nil => rw [meet_nil] at he; cases he; exact hd
  | cons p r =>
    cases f with
    | zero => rw [meet_zero] at he; cases he
    | succ f =>
      have hq := hw p List.mem_cons_self
      cases h1 : pairStep σ L f (look σ p.1) (look σ p.2) with
      | done o =>
        rw [meet_done _ h1] at he
        subst he
        unfold pairStep bindStep at h1
        split at h1
        · cases h1
        · split at h1
          · split at h1 <;> cases h1
          · split at h1
            · split at h1 <;> cases h1
            · split at h1 <;> cases h1
      | go σ1 L1 f1 m =>
        rw [meet_go _ h1] at he
        obtain ⟨i1, _⟩ := pairStep_inv hi hq.1.wf hq.2.wf h1
        obtain ⟨d1, d2⟩ := pairStep_dom hd (fit_look hi.rank.ends hd hq.1) (fit_look hi.rank.ends hd hq.2) h1
        exact ih f1 (Nat.lt_succ_of_le (pairStep_le h1)) σ1 L1 _ σ' L' f' i1 d1 (fun q hq => by
          rcases List.mem_append.1 hq with h5 | h5
          · exact d2 q h5
          · exact hw q (List.mem_cons_of_mem _ h5)) he

theorem bindStep_keys {σ : Sub} {n : Nat} (hk : ∀ v u, σ v = some u → v.toNat < n) {v : Int} {t : Tm} (hv : v.toNat < n) (ht : t.var.toNat < n) {L : List Int} {f : Nat} {σ' : Sub} {L' : List Int} {f' : Nat} {m : List (Tm × Tm)} (he : bindStep σ L v t f = .go σ' L' f' m) : ∀ v u, σ' v = some u → v.toNat < n := by
  unfold bindStep at he
  cases hw : within σ v f [t] with
  | yes g => rw [hw] at he; cases he
  | many => rw [hw] at he; cases he
  | no g =>
    rw [hw] at he; cases he
    intro x u hx
    unfold upd at hx
    by_cases e : x = (bindS v t).1
    · rw [e]; unfold bindS; split
      · exact ht
      · exact hv
    · rw [if_neg e] at hx; exact hk x u hx

theorem pairStep_keys {σ : Sub} {n : Nat} (hk : ∀ v u, σ v = some u → v.toNat < n) {x y : Tm} (hx : Fit n x) (hy : Fit n y) {L : List Int} {f : Nat} {σ' : Sub} {L' : List Int} {f' : Nat} {m : List (Tm × Tm)} (he : pairStep σ L f x y = .go σ' L' f' m) : ∀ v u, σ' v = some u → v.toNat < n := by
  unfold pairStep at he
  split at he
  · cases he; exact hk
  · split at he
    · exact bindStep_keys hk hx.pos.2 hy.pos.2 he
    · split at he
      · exact bindStep_keys hk hy.pos.2 hx.pos.2 he
      · split at he
        · cases he
        · cases he; exact hk

theorem meet_keys {n : Nat} : ∀ (f : Nat) (σ : Sub) (L : List Int) (ps : List (Tm × Tm)) (σ' : Sub) (L' : List Int) (f' : Nat), SInv σ → (∀ v u, σ v = some u → Fit n u) → (∀ v u, σ v = some u → v.toNat < n) → (∀ p ∈ ps, Fit n p.1 ∧ Fit n p.2) → meet σ L f ps = .ok σ' L' f' → ∀ v u, σ' v = some u → v.toNat < n := by
  intro f
  induction f using Nat.strongRecOn with
  | _ f ih =>
  intro σ L ps σ' L' f' hi hd hk hw he
  cases ps with
  | nil => rw [meet_nil] at he; cases he; exact hk
  | cons p r =>
    cases f with
    | zero => rw [meet_zero] at he; cases he
    | succ f =>
      have hq := hw p List.mem_cons_self
      cases h1 : pairStep σ L f (look σ p.1) (look σ p.2) with
      | done o =>
        rw [meet_done _ h1] at he
        subst he
        unfold pairStep bindStep at h1
        split at h1
        · cases h1
        · split at h1
          · split at h1 <;> cases h1
          · split at h1
            · split at h1 <;> cases h1
            · split at h1 <;> cases h1
      | go σ1 L1 f1 m =>
        rw [meet_go _ h1] at he
        obtain ⟨i1, _⟩ := pairStep_inv hi hq.1.wf hq.2.wf h1
        have f1' := fit_look hi.rank.ends hd hq.1; have f2' := fit_look hi.rank.ends hd hq.2
        obtain ⟨d1, d2⟩ := pairStep_dom hd f1' f2' h1
        exact ih f1 (Nat.lt_succ_of_le (pairStep_le h1)) σ1 L1 _ σ' L' f' i1 d1 (pairStep_keys hk f1' f2' h1) (fun q hq => by
          rcases List.mem_append.1 hq with h5 | h5
          · exact d2 q h5
          · exact hw q (List.mem_cons_of_mem _ h5)) he

/-- What the statement says of an answer of Unify. -/
theorem uP_most {a b : Tm} (ha : Fit 13 a) (hb : Fit 13 b) :
    match uP a b with
    | .no _ => ∀ S, a.putIn S ≠ b.putIn S
    | .many => True
    | .ok l _ => l.length = 12 ∧ (∀ S : Int → Tm, (∀ i (h : i < l.length), S ((i : Int) + 1) = l[i]) → a.putIn S = b.putIn S) ∧ ∀ S, a.putIn S = b.putIn S → ∀ i (h : i < l.length), l[i].putIn S = S ((i : Int) + 1) := by
  have hi : SInv (fun _ => none) := Sim.start.inv
  have hw : ∀ p ∈ [(a, b)], WfT p.1 ∧ WfT p.2 := fun p hp => by rw [List.mem_singleton] at hp; subst hp; exact ⟨ha.wf, hb.wf⟩
  have hw2 : ∀ p ∈ [(a, b)], Fit 13 p.1 ∧ Fit 13 p.2 := fun p hp => by rw [List.mem_singleton] at hp; subst hp; exact ⟨ha, hb⟩
  have hm := fun (S : Int → Tm) (he : a.putIn S = b.putIn S) => meet_mgu (S := S) 4000 (fun _ => none) [] [(a, b)] (fun v u _ h => by cases h) hi hw (fun p hp => by rw [List.mem_singleton] at hp; subst hp; exact he)
  unfold uP
  cases h1 : meet (fun _ => none) [] 4000 [(a, b)] with
  | no σ L f => intro S he; have := hm S he; rw [h1] at this; exact this
  | many σ L => trivial
  | ok σ L f =>
    simp only
    have hi' := meet_inv 4000 _ [] _ _ _ _ hi hw h1
    have hd := meet_dom (n := 13) 4000 _ [] _ _ _ _ hi (fun v u h => by cases h) hw2 h1
    cases h2 : outs σ 12 with
    | none => trivial
    | some l =>
      obtain ⟨l1, l2⟩ := outs_at 12 l h2
      refine ⟨l1, fun S hS => ?_, fun S he i h => ?_⟩
      · have hS2 : ∀ v : Int, 1 ≤ v → v.toNat < 13 → ∃ k, thrL σ 200 [VarT v] = some ([S v], k) := fun v hv1 hv2 => by
          obtain ⟨k, hk⟩ := l2 (v.toNat - 1) (by omega)
          have e : ((v.toNat - 1 : Nat) : Int) + 1 = v := by omega
          rw [e] at hk
          have := hS (v.toNat - 1) (by omega)
          rw [e] at this
          exact ⟨k, by rw [this]; exact hk⟩
        have hR : Respects S σ := fun v u hv hu => by
          have hv1 := (hi'.each v u hu).1
          have hfu := hd v u hu
          by_cases hv2 : v.toNat < 13
          · obtain ⟨k, hk⟩ := hS2 v hv1 hv2
            have hlk : look σ (VarT v) = look σ u := by
              obtain ⟨m, hm'⟩ := look_spec hi'.rank.ends u
              exact look_eq (n := m + 1) ⟨hv, u, hu, hm'⟩
            have hk2 : thrL σ 200 [u] = some ([S v], k) := by
              by_cases h0 : (look σ u).var = 0
              · rw [thrL_fn (t := VarT v) (by rw [hlk]; exact h0), hlk] at hk
                rw [thrL_fn h0]; exact hk
              · rw [thrL_var (t := VarT v) (by rw [hlk]; exact h0), hlk] at hk
                rw [thrL_var h0]; exact hk
            have := thrL_self hS2 200 [u] _ (fun t ht => by rw [List.mem_singleton] at ht; subst ht; exact hfu) hk2
            simpa using this
          · exfalso
            exact hv2 (meet_keys (n := 13) 4000 _ [] _ _ _ _ hi (fun v u h => by cases h) (fun v u h => by cases h) hw2 h1 v u hu)
        exact (meet_back 4000 _ [] _ _ _ _ hi hw h1 hR).2 (a, b) (List.mem_singleton.2 rfl)
      · have hR := hm S he
        rw [h1] at hR
        obtain ⟨k, hk⟩ := l2 i h
        have := thrL_put hR hi'.rank.ends 200 _ _ hk
        simp only [List.map_cons, List.map_nil, List.cons.injEq, and_true] at this
        rw [this, Tm.putIn_var (t := VarT ((i : Int) + 1)) (show (i : Int) + 1 ≠ 0 by omega)]; rfl

end Go.Proofs.Ytikmgiapjigghaa
