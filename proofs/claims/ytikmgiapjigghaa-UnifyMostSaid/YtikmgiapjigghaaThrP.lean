/- Plain: terms through and through; what Unify answers, the program's and the reference's way, is the same. -/
import Derived.Test.YtikmgiapjigghaaMeetP
namespace Go.Proofs.Ytikmgiapjigghaa
open Go.RowKit

/-- Terms through and through, at most so many parts; how many parts may come still. -/
noncomputable def thrL (σ : Sub) (m : Nat) (l : List Tm) : Option (List Tm × Nat) :=
  match m, l with
  | m, [] => some ([], m)
  | 0, _ :: _ => none
  | m + 1, t :: r =>
    if (look σ t).var ≠ 0 then
      match thrL σ m r with
      | some x => some (VarT (look σ t).var :: x.1, x.2)
      | none => none
    else
      match thrL σ m (look σ t).args with
      | none => none
      | some y =>
        have : min y.2 m < m + 1 := by omega
        match thrL σ (min y.2 m) r with
        | some x => some (.mk 0 (look σ t).name y.1 :: x.1, x.2)
        | none => none
termination_by m

theorem thrL_nil (σ : Sub) (m : Nat) : thrL σ m [] = some ([], m) := by unfold thrL; rfl
theorem thrL_zero (σ : Sub) (t : Tm) (r : List Tm) : thrL σ 0 (t :: r) = none := by unfold thrL; rfl
theorem thrL_var {σ : Sub} {t : Tm} (h : (look σ t).var ≠ 0) (m : Nat) (r : List Tm) : thrL σ (m + 1) (t :: r) = (thrL σ m r).map fun x => (VarT (look σ t).var :: x.1, x.2) := by
  conv => lhs; unfold thrL
  simp only [if_pos h]
  cases thrL σ m r <;> rfl
theorem thrL_fn0 {σ : Sub} {t : Tm} (h : (look σ t).var = 0) (m : Nat) (r : List Tm) : thrL σ (m + 1) (t :: r) = (thrL σ m (look σ t).args).bind fun y => (thrL σ (min y.2 m) r).map fun x => (.mk 0 (look σ t).name y.1 :: x.1, x.2) := by
  conv => lhs; unfold thrL
  simp only [h, ne_eq, not_true_eq_false, if_false]
  cases thrL σ m (look σ t).args with
  | none => rfl
  | some y =>
    simp only [Option.bind_some]
    cases thrL σ (min y.2 m) r <;> rfl

theorem thrL_le {σ : Sub} : ∀ (m : Nat) (l : List Tm) (x : List Tm × Nat), thrL σ m l = some x → x.2 ≤ m ∧ x.1.length = l.length := by
  intro m
  induction m using Nat.strongRecOn with
  | _ m ih =>
  intro l x h
  cases l with
  | nil => rw [thrL_nil] at h; cases h; exact ⟨Nat.le_refl _, rfl⟩
  | cons t r =>
    cases m with
    | zero => rw [thrL_zero] at h; cases h
    | succ m =>
      by_cases hv : (look σ t).var = 0
      · rw [thrL_fn0 hv] at h
        obtain ⟨y, hy, h2⟩ := Option.bind_eq_some_iff.1 h
        obtain ⟨z, hz, rfl⟩ := Option.map_eq_some_iff.1 h2
        have := ih (min y.2 m) (by omega) r z hz
        exact ⟨by simp only; omega, by simp only [List.length_cons]; omega⟩
      · rw [thrL_var hv] at h
        obtain ⟨z, hz, rfl⟩ := Option.map_eq_some_iff.1 h
        have := ih m (by omega) r z hz
        exact ⟨by simp only; omega, by simp only [List.length_cons]; omega⟩

theorem thrL_fn {σ : Sub} {t : Tm} (h : (look σ t).var = 0) (m : Nat) (r : List Tm) : thrL σ (m + 1) (t :: r) = (thrL σ m (look σ t).args).bind fun y => (thrL σ y.2 r).map fun x => (.mk 0 (look σ t).name y.1 :: x.1, x.2) := by
  rw [thrL_fn0 h]
  cases hy : thrL σ m (look σ t).args with
  | none => rfl
  | some y =>
    have := (thrL_le _ _ _ hy).1
    simp only [Option.bind_some]
    rw [Nat.min_eq_left this]

theorem thrL_append {σ : Sub} : ∀ (l : List Tm) (m : Nat) (r : List Tm), thrL σ m (l ++ r) = (thrL σ m l).bind fun x => (thrL σ x.2 r).map fun y => (x.1 ++ y.1, y.2) := by
  intro l
  induction l with
  | nil => intro m r; rw [List.nil_append, thrL_nil]; simp only [Option.bind_some, List.nil_append]; cases thrL σ m r <;> rfl
  | cons t l ih =>
    intro m r
    rw [List.cons_append]
    cases m with
    | zero => rw [thrL_zero, thrL_zero]; rfl
    | succ m =>
      by_cases hv : (look σ t).var = 0
      · rw [thrL_fn hv, thrL_fn hv]
        cases thrL σ m (look σ t).args with
        | none => rfl
        | some y =>
          simp only [Option.bind_some, ih]
          cases thrL σ y.2 l with
          | none => rfl
          | some z =>
            simp only [Option.bind_some, Option.map_some]
            cases thrL σ z.2 r <;> rfl
      · rw [thrL_var hv, thrL_var hv, ih]
        cases thrL σ m l with
        | none => rfl
        | some z =>
          simp only [Option.bind_some, Option.map_some]
          cases thrL σ z.2 r <;> rfl

/-- One after the other. -/
theorem thrL_cons {σ : Sub} (t : Tm) (m : Nat) (r : List Tm) : thrL σ m (t :: r) = (thrL σ m [t]).bind fun x => (thrL σ x.2 r).map fun y => (x.1 ++ y.1, y.2) := by
  rw [← thrL_append, List.singleton_append]

mutual
/-- A term with its variables by a function. -/
def Tm.mapv (g : Int → Int) : Tm → Tm
  | .mk v n l => if v ≠ 0 then VarT (g v) else .mk 0 n (Tm.mapvs g l)
def Tm.mapvs (g : Int → Int) : List Tm → List Tm
  | [] => []
  | t :: r => t.mapv g :: Tm.mapvs g r
end
theorem Tm.mapvs_eq (g : Int → Int) (l : List Tm) : Tm.mapvs g l = l.map (Tm.mapv g) := by
  induction l with
  | nil => rfl
  | cons t r ih => rw [Tm.mapvs, ih]; rfl
theorem Tm.mapv_var {g : Int → Int} {t : Tm} (h : t.var ≠ 0) : t.mapv g = VarT (g t.var) := by
  cases t; simp only [Tm.var] at h; simp only [Tm.mapv, if_pos h, Tm.var]
theorem Tm.mapv_fn {g : Int → Int} {t : Tm} (h : t.var = 0) : t.mapv g = .mk 0 t.name (t.args.map (Tm.mapv g)) := by
  cases t; simp only [Tm.var] at h; subst h
  simp only [Tm.mapv, Tm.name, Tm.args, Tm.mapvs_eq]; rfl

theorem thrL_sim {σ τ : Sub} (h : Sim σ τ) {n : Nat} (hd : ∀ v u, τ v = some u → Fit n u) (g : Int → Int) (hg : ∀ w : Int, 1 ≤ w → w.toNat < n → (look σ (VarT w)).var ≠ 0 → g (look τ (VarT w)).var = (look σ (VarT w)).var) :
    ∀ (m : Nat) (l : List Tm), (∀ t ∈ l, Fit n t) → thrL σ m l = (thrL τ m l).map fun x => (x.1.map (Tm.mapv g), x.2) := by
  intro m
  induction m using Nat.strongRecOn with
  | _ m ih =>
  intro l hl
  cases l with
  | nil => rw [thrL_nil, thrL_nil]; rfl
  | cons t r =>
    have ht := hl t List.mem_cons_self
    have hr : ∀ t ∈ r, Fit n t := fun x hx => hl x (List.mem_cons_of_mem _ hx)
    have hlk : Fit n (look τ t) := by
      obtain ⟨k, hk⟩ := look_spec h.inv'.rank.ends t
      generalize look τ t = u at *
      clear hl
      induction k generalizing t with
      | zero => obtain ⟨rfl, _⟩ := hk; exact ht
      | succ k ihk => obtain ⟨_, t', h1, h2⟩ := hk; exact ihk t' (hd _ _ h1) h2
    cases m with
    | zero => rw [thrL_zero, thrL_zero]; rfl
    | succ m =>
      by_cases hv : (look σ t).var = 0
      · have e := h.fn ht.wf hv
        have hv2 : (look τ t).var = 0 := by rw [e]; exact hv
        rw [thrL_fn hv, thrL_fn hv2, ← e, ih m (by omega) _ (fun x hx => hlk.arg hx)]
        cases hy : thrL τ m (look τ t).args with
        | none => rfl
        | some y =>
          have := (thrL_le _ _ _ hy).1
          simp only [Option.bind_some, Option.map_some]
          rw [ih y.2 (by omega) r hr]
          cases thrL τ y.2 r with
          | none => rfl
          | some z => simp only [Option.map_some, List.map_cons]; rw [Tm.mapv_fn (by rfl)]; rfl
      · obtain ⟨h1, h2, h3, h4⟩ := h.var ht.wf hv
        rw [thrL_var hv, thrL_var h2, ih m (by omega) r hr]
        have hp := ht.pos
        have : g (look τ t).var = (look σ t).var := by
          rw [h3, h4]; exact hg _ (by omega) hp.2 (by rw [← h3]; exact hv)
        cases thrL τ m r with
        | none => rfl
        | some z => simp only [Option.map_some, List.map_cons]; rw [Tm.mapv_var (show (VarT (look τ t).var).var ≠ 0 from h2), ← this]; rfl

/-- What the first variables are, through and through. -/
noncomputable def outs (σ : Sub) : Nat → Option (List Tm)
  | 0 => some []
  | n + 1 => (outs σ n).bind fun l => (thrL σ 200 [VarT ((n : Int) + 1)]).map fun x => l ++ x.1

/-- The numbers that the reference gives: the least variable of each class speaks for it. -/
noncomputable def namesR (τ : Sub) : Nat → Int → Int
  | 0 => fun _ => 0
  | n + 1 => fun x => if (look τ (VarT (12 - (n : Int)))).var ≠ 0 ∧ x = (look τ (VarT (12 - (n : Int)))).var then 12 - (n : Int) else namesR τ n x

theorem namesR_least (τ : Sub) (x u : Int) (hx : x ≠ 0) (hu : (look τ (VarT u)).var = x) (hl : ∀ v : Int, 1 ≤ v → v ≤ 12 → (look τ (VarT v)).var = x → u ≤ v) :
    ∀ n : Nat, n ≤ 12 → 12 - (n : Int) < u → u ≤ 12 → namesR τ n x = u := by
  intro n
  induction n with
  | zero => intro _ h1 h2; omega
  | succ n ih =>
    intro hn h1 h2
    simp only [namesR]
    by_cases e : u = 12 - (n : Int)
    · rw [← e, hu, if_pos ⟨hx, rfl⟩]
    · rw [if_neg, ih (by omega) (by omega) h2]
      rintro ⟨_, h3⟩
      have := hl (12 - (n : Int)) (by omega) (by omega) h3.symm
      omega

/-- What Unify answers. -/
inductive UOut where
  | no (work : Nat)
  | many
  | ok (l : List Tm) (work : Nat)

noncomputable def uP (a b : Tm) : UOut :=
  match meet (fun _ => none) [] 4000 [(a, b)] with
  | .no _ _ f => .no (4000 - f)
  | .many _ _ => .many
  | .ok σ _ f => match outs σ 12 with | none => .many | some l => .ok l (4000 - f)

noncomputable def uR (a b : Tm) : UOut :=
  match meetR (fun _ => none) 4000 [(a, b)] with
  | .no _ _ f => .no (4000 - f)
  | .many _ _ => .many
  | .ok τ _ f => match outs τ 12 with | none => .many | some l => .ok (l.map (Tm.mapv (namesR τ 12))) (4000 - f)

theorem fit_var {n : Nat} {v : Int} (h1 : 0 ≤ v) (h2 : v.toNat < n) : Fit n (VarT v) := ⟨WfT.bare h1, fun p hp => by
  simp only [Tm.parts, Tm.partss, List.mem_singleton] at hp; subst hp; exact ⟨h2, by simp [Tm.args]⟩⟩

theorem fit_look {τ : Sub} {n : Nat} (hE : Ends τ) (hd : ∀ v u, τ v = some u → Fit n u) {t : Tm} (ht : Fit n t) : Fit n (look τ t) := by
  obtain ⟨k, hk⟩ := look_spec hE t
  generalize look τ t = u at *
  induction k generalizing t with
  | zero => obtain ⟨rfl, _⟩ := hk; exact ht
  | succ k ihk => obtain ⟨_, t', h1, h2⟩ := hk; exact ihk (hd _ _ h1) h2

theorem upd_dom {τ : Sub} {n : Nat} (hd : ∀ v u, τ v = some u → Fit n u) {k : Int} {x : Tm} (hx : Fit n x) : ∀ v u, upd τ k x v = some u → Fit n u := fun v u h => by
  unfold upd at h
  by_cases e : v = k
  · rw [if_pos e] at h; cases h; exact hx
  · rw [if_neg e] at h; exact hd v u h

theorem pairStepR_dom {τ : Sub} {n : Nat} (hd : ∀ v u, τ v = some u → Fit n u) {x y : Tm} (hx : Fit n x) (hy : Fit n y) {f : Nat} {σ' : Sub} {L' : List Int} {f' : Nat} {m : List (Tm × Tm)} (he : pairStepR τ f x y = .go σ' L' f' m) :
    (∀ v u, σ' v = some u → Fit n u) ∧ ∀ p ∈ m, Fit n p.1 ∧ Fit n p.2 := by
  unfold pairStepR at he
  split at he
  · cases he; exact ⟨hd, fun p hp => by cases hp⟩
  · split at he
    · unfold bindStepR at he
      split at he
      · cases he
      · cases he
      · cases he; exact ⟨upd_dom hd hy, fun p hp => by cases hp⟩
    · split at he
      · unfold bindStepR at he
        split at he
        · cases he
        · cases he
        · cases he; exact ⟨upd_dom hd hx, fun p hp => by cases hp⟩
      · split at he
        · cases he
        · cases he
          exact ⟨hd, fun p hp => ⟨hx.arg (List.of_mem_zip hp).1, hy.arg (List.of_mem_zip hp).2⟩⟩

/-- Where the reference ends well: all is from what was there, and the two stores say the same. -/
theorem meet_both {n : Nat} : ∀ (f : Nat) (σ τ : Sub) (ps : List (Tm × Tm)), Sim σ τ → (∀ v u, τ v = some u → Fit n u) → (∀ p ∈ ps, Fit n p.1 ∧ Fit n p.2) →
    ∀ τ' L' f', meetR τ f ps = .ok τ' L' f' → ∀ v u, τ' v = some u → Fit n u := by
  intro f
  induction f using Nat.strongRecOn with
  | _ f ih =>
  intro σ τ ps h hd hp τ' L' f' he
  cases ps with
  | nil => rw [meetR_nil] at he; cases he; exact hd
  | cons p r =>
    cases f with
    | zero => rw [meetR_zero] at he; cases he
    | succ f =>
      have hs := pairStep_sim h (hp p List.mem_cons_self).1.wf (hp p List.mem_cons_self).2.wf f []
      cases h2 : pairStepR τ f (look τ p.1) (look τ p.2) with
      | done o =>
        rw [meetR_done _ h2] at he
        cases h1 : pairStep σ [] f (look σ p.1) (look σ p.2) with
        | done o' =>
          rw [h1, h2] at hs
          subst he
          unfold pairStepR bindStepR at h2
          split at h2
          · cases h2
          · split at h2
            · split at h2 <;> cases h2
            · split at h2
              · split at h2 <;> cases h2
              · split at h2 <;> cases h2
        | go _ _ _ _ => rw [h1, h2] at hs; exact hs.elim
      | go τ1 L1 f1 m =>
        rw [meetR_go _ h2] at he
        cases h1 : pairStep σ [] f (look σ p.1) (look σ p.2) with
        | done o' => rw [h1, h2] at hs; exact hs.elim
        | go σ1 L2 f2 m2 =>
          rw [h1, h2] at hs
          obtain ⟨rfl, rfl, hs3, hs4⟩ := hs
          have hE := h.inv'.rank.ends
          have hq := hp p List.mem_cons_self
          obtain ⟨d1, d2⟩ := pairStepR_dom hd (fit_look hE hd hq.1) (fit_look hE hd hq.2) h2
          refine ih f2 (Nat.lt_succ_of_le (pairStep_le h1)) σ1 τ1 (m2 ++ r) hs3 d1 (fun q hq => ?_) τ' L' f' he
          rcases List.mem_append.1 hq with h5 | h5
          · exact d2 q h5
          · exact hp q (List.mem_cons_of_mem _ h5)

theorem outs_sim {σ τ : Sub} (h : Sim σ τ) (hlow : Low σ) (hd : ∀ v u, τ v = some u → Fit 13 u) : ∀ n : Nat, n ≤ 12 → outs σ n = (outs τ n).map fun l => l.map (Tm.mapv (namesR τ 12)) := by
  have hg : ∀ w : Int, 1 ≤ w → w.toNat < 13 → (look σ (VarT w)).var ≠ 0 → namesR τ 12 (look τ (VarT w)).var = (look σ (VarT w)).var := by
    intro w hw1 hw2 hx
    have hE := h.inv.rank.ends
    have hle : (look σ (VarT w)).var ≤ w := hlow.look hE (VarT w) hx
    have hp : 0 ≤ (look σ (VarT w)).var := (h.inv.look (WfT.bare (v := w) (by omega))).pos
    have hroot : look σ (VarT (look σ (VarT w)).var) = VarT (look σ (VarT w)).var := look_free (look_root h.inv hx)
    have hx0 : (look σ (VarT (look σ (VarT w)).var)).var ≠ 0 := by rw [hroot]; exact hx
    have hre : (look σ (VarT (look σ (VarT w)).var)).var = (look σ (VarT w)).var := by rw [hroot]; rfl
    refine namesR_least τ _ _ (h.vars w (by omega) hx) ?_ ?_ 12 (Nat.le_refl _) ?_ ?_
    · exact (h.cls (look σ (VarT w)).var w hx (by omega) hx0 hx).1 hre
    · intro v hv1 hv2 he
      have hv0 : (look σ (VarT v)).var ≠ 0 := by
        intro e
        have e2 := h.same v (by omega) e
        rw [e2, e] at he
        exact h.vars w (by omega) hx he.symm
      have := (h.cls v w (by omega) (by omega) hv0 hx).2 he
      have h3 : (look σ (VarT v)).var ≤ v := hlow.look hE (VarT v) hv0
      omega
    · simp; omega
    · omega
  intro n
  induction n with
  | zero => intro _; rfl
  | succ n ih =>
    intro hn
    simp only [outs]
    rw [ih (by omega), thrL_sim h hd _ hg 200 [VarT ((n : Int) + 1)] (fun t ht => by rw [List.mem_singleton] at ht; subst ht; exact fit_var (by omega) (by omega))]
    cases outs τ n with
    | none => rfl
    | some l =>
      simp only [Option.map_some, Option.bind_some]
      cases thrL τ 200 [VarT ((n : Int) + 1)] with
      | none => rfl
      | some x => simp

/-- Both ways to unify answer the same. -/
theorem uP_eq {a b : Tm} (ha : Fit 13 a) (hb : Fit 13 b) : uP a b = uR a b := by
  have hp : ∀ p ∈ [(a, b)], WfT p.1 ∧ WfT p.2 := fun p hp => by rw [List.mem_singleton] at hp; subst hp; exact ⟨ha.wf, hb.wf⟩
  have hp2 : ∀ p ∈ [(a, b)], Fit 13 p.1 ∧ Fit 13 p.2 := fun p hp => by rw [List.mem_singleton] at hp; subst hp; exact ⟨ha, hb⟩
  have hs := meet_sim 4000 _ _ [] _ Sim.start hp
  have hd := meet_both (n := 13) 4000 _ _ _ Sim.start (fun v u h => by cases h) hp2
  have hl := meet_low 4000 (fun _ => none) [] [(a, b)]
  unfold uP uR
  cases h1 : meet (fun _ => none) [] 4000 [(a, b)] with
  | no σ L f =>
    cases h2 : meetR (fun _ => none) 4000 [(a, b)] with
    | no τ L' g => rw [h1, h2] at hs; obtain rfl : f = g := hs; rfl
    | many τ L' => rw [h1, h2] at hs; exact hs.elim
    | ok τ L' g => rw [h1, h2] at hs; exact hs.elim
  | many σ L =>
    cases h2 : meetR (fun _ => none) 4000 [(a, b)] with
    | no τ L' g => rw [h1, h2] at hs; exact hs.elim
    | many τ L' => rfl
    | ok τ L' g => rw [h1, h2] at hs; exact hs.elim
  | ok σ L f =>
    cases h2 : meetR (fun _ => none) 4000 [(a, b)] with
    | no τ L' g => rw [h1, h2] at hs; exact hs.elim
    | many τ L' => rw [h1, h2] at hs; exact hs.elim
    | ok τ L' g =>
      rw [h1, h2] at hs
      obtain ⟨rfl, hs⟩ := hs
      simp only
      rw [outs_sim hs (hl _ _ _ (fun v u h => by cases h) h1) (hd _ _ _ h2) 12 (Nat.le_refl _)]
      cases outs τ 12 <;> rfl

end Go.Proofs.Ytikmgiapjigghaa
