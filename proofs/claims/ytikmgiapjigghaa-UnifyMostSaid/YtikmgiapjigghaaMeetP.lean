/- Plain: the program's and the reference's ways to make two terms the same do the same work, come to the same end, and say the same of each variable. -/
import Derived.Test.YtikmgiapjigghaaMeetR
namespace Go.Proofs.Ytikmgiapjigghaa
open Go.RowKit

/-- A variable by itself. -/
abbrev VarT (v : Int) : Tm := .mk v ⟨#[]⟩ []

theorem WfT.isVar {t : Tm} (h : WfT t) (hv : t.var ≠ 0) : t = VarT t.var := by
  obtain ⟨h1, h2⟩ := (h t t.self_mem).2 hv
  exact Tm.ext' rfl h2 h1

theorem look_fn {σ : Sub} {t : Tm} (h : t.var = 0) : look σ t = t := look_eq (n := 0) ⟨rfl, .inl h⟩
theorem look_free {σ : Sub} {t : Tm} (h : σ t.var = none) : look σ t = t := look_eq (n := 0) ⟨rfl, .inr h⟩

theorem lookN_upd {σ : Sub} {k : Int} {u : Tm} (hk0 : k ≠ 0) (hk : σ k = none) (hu : u.var = 0 ∨ (u.var ≠ k ∧ σ u.var = none)) :
    ∀ (n : Nat) (t x : Tm), LookN σ n t x → ∃ m, LookN (upd σ k u) m t (if x.var = k then u else x) := by
  intro n
  induction n with
  | zero =>
    rintro t x ⟨rfl, h⟩
    by_cases e : x.var = k
    · rw [if_pos e]
      refine ⟨1, by omega, u, by unfold upd; rw [if_pos e], rfl, ?_⟩
      rcases hu with h1 | ⟨h1, h2⟩
      · exact .inl h1
      · exact .inr (by unfold upd; rw [if_neg h1]; exact h2)
    · rw [if_neg e]
      refine ⟨0, rfl, h.imp id fun h => ?_⟩
      unfold upd; rw [if_neg e]; exact h
  | succ n ih =>
    rintro t x ⟨h1, t', h2, h3⟩
    obtain ⟨m, hm⟩ := ih t' x h3
    refine ⟨m + 1, h1, t', ?_, hm⟩
    have : t.var ≠ k := fun e => by rw [e, hk] at h2; cases h2
    unfold upd; rw [if_neg this]; exact h2

theorem look_upd {σ : Sub} (hE : Ends σ) {k : Int} {u : Tm} (hk0 : k ≠ 0) (hk : σ k = none) (hu : u.var = 0 ∨ (u.var ≠ k ∧ σ u.var = none)) (t : Tm) :
    look (upd σ k u) t = if (look σ t).var = k then u else look σ t := by
  obtain ⟨n, hn⟩ := look_spec hE t
  obtain ⟨m, hm⟩ := lookN_upd hk0 hk hu n t _ hn
  exact look_eq hm

/-- Two stores that say the same of each variable, but for which of variables that are the same speaks for them. -/
structure Sim (σ τ : Sub) : Prop where
  inv : SInv σ
  inv' : SInv τ
  same : ∀ v : Int, v ≠ 0 → (look σ (VarT v)).var = 0 → look τ (VarT v) = look σ (VarT v)
  vars : ∀ v : Int, v ≠ 0 → (look σ (VarT v)).var ≠ 0 → (look τ (VarT v)).var ≠ 0
  cls : ∀ v w : Int, v ≠ 0 → w ≠ 0 → (look σ (VarT v)).var ≠ 0 → (look σ (VarT w)).var ≠ 0 → ((look σ (VarT v)).var = (look σ (VarT w)).var ↔ (look τ (VarT v)).var = (look τ (VarT w)).var)

theorem Sim.fn {σ τ : Sub} (h : Sim σ τ) {t : Tm} (ht : WfT t) (hx : (look σ t).var = 0) : look τ t = look σ t := by
  by_cases hv : t.var = 0
  · rw [look_fn hv, look_fn hv]
  · have := ht.isVar hv
    rw [this] at hx ⊢
    exact h.same _ hv hx

theorem Sim.var {σ τ : Sub} (h : Sim σ τ) {t : Tm} (ht : WfT t) (hx : (look σ t).var ≠ 0) : t.var ≠ 0 ∧ (look τ t).var ≠ 0 ∧ look σ t = look σ (VarT t.var) ∧ look τ t = look τ (VarT t.var) := by
  by_cases hv : t.var = 0
  · rw [look_fn hv] at hx; exact absurd hv hx
  · have e := ht.isVar hv
    refine ⟨hv, ?_, by rw [← e], by rw [← e]⟩
    rw [e]; exact h.vars _ hv (by rw [← e]; exact hx)

theorem Sim.eqv {σ τ : Sub} (h : Sim σ τ) {s t : Tm} (hs : WfT s) (ht : WfT t) (h1 : (look σ s).var ≠ 0) (h2 : (look σ t).var ≠ 0) : ((look σ s).var = (look σ t).var ↔ (look τ s).var = (look τ t).var) := by
  obtain ⟨a1, _, a3, a4⟩ := h.var hs h1
  obtain ⟨b1, _, b3, b4⟩ := h.var ht h2
  rw [a3] at h1 ⊢; rw [b3] at h2 ⊢; rw [a4, b4]
  exact h.cls _ _ a1 b1 h1 h2

theorem Sim.within {σ τ : Sub} (h : Sim σ τ) {s : Tm} (hs : WfT s) (h1 : (look σ s).var ≠ 0) : ∀ (f : Nat) (l : List Tm), (∀ t ∈ l, WfT t) → within σ (look σ s).var f l = within τ (look τ s).var f l := by
  intro f
  induction f with
  | zero => intro l _; cases l <;> rfl
  | succ f ih =>
    intro l hl
    cases l with
    | nil => rfl
    | cons t r =>
      have ht := hl t List.mem_cons_self
      have hr : ∀ t ∈ r, WfT t := fun x hx => hl x (List.mem_cons_of_mem _ hx)
      simp only [Go.Proofs.Ytikmgiapjigghaa.within]
      by_cases hx : (look σ t).var = 0
      · have e := h.fn ht hx
        rw [e, if_neg (by rw [hx]; simp), if_neg (by rw [hx]; simp)]
        refine ih _ fun x hx' => ?_
        rcases List.mem_append.1 hx' with h2 | h2
        · exact (h.inv.look ht).arg h2
        · exact hr x h2
      · rw [if_pos hx, if_pos (h.var ht hx).2.1]
        have e := h.eqv ht hs hx h1
        by_cases h2 : (look σ t).var = (look σ s).var
        · rw [if_pos h2, if_pos (e.1 h2)]
        · rw [if_neg h2, if_neg (fun h3 => h2 (e.2 h3)), ih r hr]

/-- A variable that is nothing does not stand in another one. -/
theorem within_var {σ : Sub} {v : Int} {t : Tm} (h0 : t.var ≠ 0) (hf : σ t.var = none) (hne : t.var ≠ v) (f : Nat) : within σ v (f + 1) [t] = .no f := by
  simp only [within]
  rw [look_free hf, if_pos h0, if_neg hne]

/-- What the program's and the reference's ends have to do with each other. -/
def OutSim : MOut → MOut → Prop
  | .ok σ _ f, .ok τ _ g => f = g ∧ Sim σ τ
  | .no _ _ f, .no _ _ g => f = g
  | .many _ _, .many _ _ => True
  | _, _ => False

/-- A step of either: done alike, or going on alike. -/
def StepSim : MStep → MStep → Prop
  | .done o, .done o' => OutSim o o'
  | .go σ _ f m, .go τ _ g n => f = g ∧ m = n ∧ Sim σ τ ∧ (∀ p ∈ m, WfT p.1 ∧ WfT p.2)
  | _, _ => False

theorem look_root {σ : Sub} (h : SInv σ) {t : Tm} (hx : (look σ t).var ≠ 0) : σ (look σ t).var = none := (look_end h.rank.ends t).resolve_left hx

/-- One class of variables becomes a term that is no variable. -/
theorem Sim.put {σ τ : Sub} (h : Sim σ τ) {s : Tm} (hs : WfT s) (h1 : (look σ s).var ≠ 0) {u : Tm} (hu : WfT u) (h0 : u.var = 0) : Sim (upd σ (look σ s).var u) (upd τ (look τ s).var u) := by
  have h2 := (h.var hs h1).2.1
  have k1 : ∀ t, look (upd σ (look σ s).var u) t = if (look σ t).var = (look σ s).var then u else look σ t := look_upd h.inv.rank.ends h1 (look_root h.inv h1) (.inl h0)
  have k2 : ∀ t, look (upd τ (look τ s).var u) t = if (look τ t).var = (look τ s).var then u else look τ t := look_upd h.inv'.rank.ends h2 (look_root h.inv' h2) (.inl h0)
  have p1 : 1 ≤ (look σ s).var := by have := (h.inv.look hs).pos; omega
  have p2 : 1 ≤ (look τ s).var := by have := (h.inv'.look hs).pos; omega
  have hb : ∀ v : Int, v ≠ 0 → 0 ≤ v → (look σ (VarT v)).var ≠ 0 → ((look σ (VarT v)).var = (look σ s).var ↔ (look τ (VarT v)).var = (look τ s).var) := fun v hv hp hx => h.eqv (WfT.bare hp) hs hx h1
  have neg : ∀ v : Int, v < 0 → look σ (VarT v) = VarT v ∧ look τ (VarT v) = VarT v := fun v hv => by
    refine ⟨look_free ?_, look_free ?_⟩
    · cases e : σ (VarT v).var with
      | none => rfl
      | some x => have := (h.inv.each _ _ e).1; simp only [Tm.var] at this; omega
    · cases e : τ (VarT v).var with
      | none => rfl
      | some x => have := (h.inv'.each _ _ e).1; simp only [Tm.var] at this; omega
  have hb' : ∀ v : Int, v ≠ 0 → (look σ (VarT v)).var ≠ 0 → ((look σ (VarT v)).var = (look σ s).var ↔ (look τ (VarT v)).var = (look τ s).var) := fun v hv hx => by
    by_cases hp : 0 ≤ v
    · exact hb v hv hp hx
    · obtain ⟨e1, e2⟩ := neg v (by omega)
      have hvv : (VarT v).var = v := rfl
      rw [e1, e2, hvv]
      exact ⟨fun e => by omega, fun e => by omega⟩
  refine ⟨h.inv.to p1 (look_root h.inv h1) hu (.inl h0) (by omega), h.inv'.to p2 (look_root h.inv' h2) hu (.inl h0) (by omega), fun v hv hx => ?_, fun v hv hx => ?_, fun v w hv hw hx hy => ?_⟩
  · rw [k1] at hx ⊢; rw [k2]
    by_cases e : (look σ (VarT v)).var = 0
    · have e2 := h.same v hv e
      rw [e2, if_neg (by omega), if_neg (by omega)]
    · by_cases e2 : (look σ (VarT v)).var = (look σ s).var
      · rw [if_pos e2, if_pos ((hb' v hv e).1 e2)]
      · rw [if_neg e2] at hx; exact absurd hx e
  · rw [k1] at hx; rw [k2]
    by_cases e2 : (look σ (VarT v)).var = (look σ s).var
    · rw [if_pos e2] at hx; exact absurd h0 hx
    · rw [if_neg e2] at hx
      rw [if_neg (fun e3 => e2 ((hb' v hv hx).2 e3))]
      exact h.vars v hv hx
  · rw [k1] at hx hy; rw [k1, k1, k2, k2]
    by_cases e2 : (look σ (VarT v)).var = (look σ s).var
    · rw [if_pos e2] at hx; exact absurd h0 hx
    · by_cases e3 : (look σ (VarT w)).var = (look σ s).var
      · rw [if_pos e3] at hy; exact absurd h0 hy
      · rw [if_neg e2] at hx; rw [if_neg e3] at hy
        rw [if_neg e2, if_neg e3, if_neg (fun e => e2 ((hb' v hv hx).2 e)), if_neg (fun e => e3 ((hb' w hw hy).2 e))]
        exact h.cls v w hv hw hx hy

/-- Two classes of variables become one: whichever of the two speaks for them. -/
theorem Sim.join {σ τ : Sub} (h : Sim σ τ) {s t : Tm} (hs : WfT s) (ht : WfT t) (h1 : (look σ s).var ≠ 0) (h2 : (look σ t).var ≠ 0) (hne : (look σ s).var ≠ (look σ t).var) {k : Int} {u : Tm}
    (hk : (k = (look σ s).var ∧ u = look σ t) ∨ (k = (look σ t).var ∧ u = look σ s)) : Sim (upd σ k u) (upd τ (look τ s).var (look τ t)) := by
  have s2 := (h.var hs h1).2.1
  have t2 := (h.var ht h2).2.1
  have hne2 : (look τ s).var ≠ (look τ t).var := fun e => hne ((h.eqv hs ht h1 h2).2 e)
  have rs := look_root h.inv h1
  have rt := look_root h.inv h2
  have rs2 := look_root h.inv' s2
  have rt2 := look_root h.inv' t2
  have ps := (h.inv.look hs).pos
  have pt := (h.inv.look ht).pos
  have ps2 := (h.inv'.look hs).pos
  have hk0 : k ≠ 0 ∧ σ k = none ∧ 1 ≤ k ∧ WfT u ∧ u.var ≠ 0 ∧ u.var ≠ k ∧ σ u.var = none := by
    rcases hk with ⟨rfl, rfl⟩ | ⟨rfl, rfl⟩
    · exact ⟨h1, rs, by omega, h.inv.look ht, h2, fun e => hne e.symm, rt⟩
    · exact ⟨h2, rt, by omega, h.inv.look hs, h1, hne, rs⟩
  have k1 : ∀ x, look (upd σ k u) x = if (look σ x).var = k then u else look σ x := look_upd h.inv.rank.ends hk0.1 hk0.2.1 (.inr hk0.2.2.2.2.2)
  have k2 : ∀ x, look (upd τ (look τ s).var (look τ t)) x = if (look τ x).var = (look τ s).var then look τ t else look τ x := look_upd h.inv'.rank.ends s2 rs2 (.inr ⟨fun e => hne2 e.symm, rt2⟩)
  have neg : ∀ v : Int, v < 0 → look σ (VarT v) = VarT v ∧ look τ (VarT v) = VarT v := fun v hv => by
    refine ⟨look_free ?_, look_free ?_⟩
    · cases e : σ (VarT v).var with
      | none => rfl
      | some x => have := (h.inv.each _ _ e).1; simp only [Tm.var] at this; omega
    · cases e : τ (VarT v).var with
      | none => rfl
      | some x => have := (h.inv'.each _ _ e).1; simp only [Tm.var] at this; omega
  have hb : ∀ (x : Tm), WfT x → (look σ x).var ≠ 0 → 0 ≤ (look τ x).var → ∀ v : Int, v ≠ 0 → (look σ (VarT v)).var ≠ 0 → ((look σ (VarT v)).var = (look σ x).var ↔ (look τ (VarT v)).var = (look τ x).var) := fun x hx hx1 hx2 v hv hvx => by
    by_cases hp : 0 ≤ v
    · exact h.eqv (WfT.bare hp) hx hvx hx1
    · obtain ⟨e1, e2⟩ := neg v (by omega)
      have := (h.inv.look hx).pos
      have hvv : (VarT v).var = v := rfl
      rw [e1, e2, hvv]
      exact ⟨fun e => by omega, fun e => by omega⟩
  have hbs := hb s hs h1 (by omega)
  have hbt := hb t ht h2 (h.inv'.look ht).pos
  refine ⟨h.inv.to hk0.2.2.1 hk0.2.1 hk0.2.2.2.1 (.inr hk0.2.2.2.2.2.2) hk0.2.2.2.2.2.1, h.inv'.to (by omega) rs2 (h.inv'.look ht) (.inr rt2) (fun e => hne2 e.symm), fun v hv hx => ?_, fun v hv hx => ?_, fun v w hv hw hx hy => ?_⟩
  · rw [k1] at hx ⊢; rw [k2]
    have e : (look σ (VarT v)).var = 0 := by
      by_cases e : (look σ (VarT v)).var = k
      · rw [if_pos e] at hx; exact absurd hx hk0.2.2.2.2.1
      · rw [if_neg e] at hx; exact hx
    have e2 := h.same v hv e
    rw [e2, if_neg (by omega), if_neg (by omega)]
  · rw [k1] at hx; rw [k2]
    have e : (look σ (VarT v)).var ≠ 0 := by
      by_cases e : (look σ (VarT v)).var = k
      · rw [e]; exact hk0.1
      · rw [if_neg e] at hx; exact hx
    have := h.vars v hv e
    split
    · exact t2
    · exact this
  · rw [k1] at hx hy; rw [k1, k1, k2, k2]
    have ev : (look σ (VarT v)).var ≠ 0 := by
      by_cases e : (look σ (VarT v)).var = k
      · rw [e]; exact hk0.1
      · rw [if_neg e] at hx; exact hx
    have ew : (look σ (VarT w)).var ≠ 0 := by
      by_cases e : (look σ (VarT w)).var = k
      · rw [e]; exact hk0.1
      · rw [if_neg e] at hy; exact hy
    have c := h.cls v w hv hw ev ew
    have a1 := hbs v hv ev; have a2 := hbs w hw ew; have b1 := hbt v hv ev; have b2 := hbt w hw ew
    have hku : (k = (look σ s).var ∧ u.var = (look σ t).var) ∨ (k = (look σ t).var ∧ u.var = (look σ s).var) := by
      rcases hk with ⟨rfl, rfl⟩ | ⟨rfl, rfl⟩
      · exact .inl ⟨rfl, rfl⟩
      · exact .inr ⟨rfl, rfl⟩
    clear hx hy k1 k2 neg hb hbs hbt hk0 rs rt rs2 rt2 hk
    simp only [apply_ite Tm.var]
    generalize (look σ (VarT v)).var = x at *
    generalize (look σ (VarT w)).var = y at *
    generalize (look τ (VarT v)).var = x' at *
    generalize (look τ (VarT w)).var = y' at *
    generalize (look σ s).var = s1 at *
    generalize (look σ t).var = t1 at *
    generalize (look τ s).var = s3 at *
    generalize (look τ t).var = t3 at *
    generalize u.var = uv at *
    rcases hku with ⟨rfl, rfl⟩ | ⟨rfl, rfl⟩
    · split <;> split <;> split <;> split <;> omega
    · split <;> split <;> split <;> split <;> omega

theorem bindStep_sim {σ τ : Sub} (h : Sim σ τ) {s t : Tm} (hs : WfT s) (ht : WfT t) (h1 : (look σ s).var ≠ 0) (hne : (look σ t).var ≠ (look σ s).var) (f : Nat) (L : List Int) :
    StepSim (bindStep σ L (look σ s).var (look σ t) f) (bindStepR τ (look τ s).var (look τ t) f) := by
  have hs2 := (h.var hs h1).2.1
  unfold bindStep bindStepR
  by_cases hx : (look σ t).var = 0
  · have e := h.fn ht hx
    have hw := h.within hs h1 f [look σ t] (fun x hx => by rw [List.mem_singleton] at hx; subst hx; exact h.inv.look ht)
    rw [e, ← hw]
    cases within σ (look σ s).var f [look σ t] with
    | yes g => exact rfl
    | many => exact trivial
    | no g =>
      have hb : bindS (look σ s).var (look σ t) = ((look σ s).var, look σ t) := by
        unfold bindS; rw [if_neg]; have := (h.inv.look hs).pos; omega
      rw [hb]
      exact ⟨rfl, rfl, h.put hs h1 (h.inv.look ht) hx, fun p hp => by cases hp⟩
  · have ht2 := (h.var ht hx).2.1
    cases f with
    | zero => exact trivial
    | succ f =>
      rw [within_var hx (look_root h.inv hx) hne, within_var ht2 (look_root h.inv' ht2) (fun e => hne ((h.eqv ht hs hx h1).2 e))]
      refine ⟨rfl, rfl, h.join hs ht h1 hx (fun e => hne e.symm) ?_, fun p hp => by cases hp⟩
      unfold bindS
      by_cases hlt : (look σ s).var < (look σ t).var
      · rw [if_pos hlt]; exact .inr ⟨rfl, ((h.inv.look hs).isVar h1).symm⟩
      · rw [if_neg hlt]; exact .inl ⟨rfl, rfl⟩

theorem pairStep_same {σ : Sub} {f : Nat} {x y : Tm} {L : List Int} (h : x.var ≠ 0) (h2 : x.var = y.var) : pairStep σ L f x y = .go σ L f [] := by
  unfold pairStep; rw [if_pos ⟨h, h2⟩]
theorem pairStep_x {σ : Sub} {f : Nat} {x y : Tm} {L : List Int} (h : x.var ≠ 0) (h2 : x.var ≠ y.var) : pairStep σ L f x y = bindStep σ L x.var y f := by
  unfold pairStep; rw [if_neg (fun e => h2 e.2), if_pos h]
theorem pairStep_y {σ : Sub} {f : Nat} {x y : Tm} {L : List Int} (h : x.var = 0) (h2 : y.var ≠ 0) : pairStep σ L f x y = bindStep σ L y.var x f := by
  unfold pairStep; rw [if_neg (fun e => e.1 h), if_neg (fun e => e h), if_pos h2]
theorem pairStep_no {σ : Sub} {f : Nat} {x y : Tm} {L : List Int} (h : x.var = 0) (h2 : y.var = 0) (h3 : x.name ≠ y.name ∨ x.args.length ≠ y.args.length) : pairStep σ L f x y = .done (.no σ L f) := by
  unfold pairStep; rw [if_neg (fun e => e.1 h), if_neg (fun e => e h), if_neg (fun e => e h2), if_pos h3]
theorem pairStep_args {σ : Sub} {f : Nat} {x y : Tm} {L : List Int} (h : x.var = 0) (h2 : y.var = 0) (h3 : ¬ (x.name ≠ y.name ∨ x.args.length ≠ y.args.length)) : pairStep σ L f x y = .go σ L f (x.args.zip y.args) := by
  unfold pairStep; rw [if_neg (fun e => e.1 h), if_neg (fun e => e h), if_neg (fun e => e h2), if_neg h3]

theorem pairStepR_same {σ : Sub} {f : Nat} {x y : Tm} (h : x.var ≠ 0) (h2 : x.var = y.var) : pairStepR σ f x y = .go σ [] f [] := by
  unfold pairStepR; rw [if_pos ⟨h, h2⟩]
theorem pairStepR_x {σ : Sub} {f : Nat} {x y : Tm} (h : x.var ≠ 0) (h2 : x.var ≠ y.var) : pairStepR σ f x y = bindStepR σ x.var y f := by
  unfold pairStepR; rw [if_neg (fun e => h2 e.2), if_pos h]
theorem pairStepR_y {σ : Sub} {f : Nat} {x y : Tm} (h : x.var = 0) (h2 : y.var ≠ 0) : pairStepR σ f x y = bindStepR σ y.var x f := by
  unfold pairStepR; rw [if_neg (fun e => e.1 h), if_neg (fun e => e h), if_pos h2]
theorem pairStepR_no {σ : Sub} {f : Nat} {x y : Tm} (h : x.var = 0) (h2 : y.var = 0) (h3 : x.name ≠ y.name ∨ x.args.length ≠ y.args.length) : pairStepR σ f x y = .done (.no σ [] f) := by
  unfold pairStepR; rw [if_neg (fun e => e.1 h), if_neg (fun e => e h), if_neg (fun e => e h2), if_pos h3]
theorem pairStepR_args {σ : Sub} {f : Nat} {x y : Tm} (h : x.var = 0) (h2 : y.var = 0) (h3 : ¬ (x.name ≠ y.name ∨ x.args.length ≠ y.args.length)) : pairStepR σ f x y = .go σ [] f (x.args.zip y.args) := by
  unfold pairStepR; rw [if_neg (fun e => e.1 h), if_neg (fun e => e h), if_neg (fun e => e h2), if_neg h3]

theorem pairStep_sim {σ τ : Sub} (h : Sim σ τ) {s t : Tm} (hs : WfT s) (ht : WfT t) (f : Nat) (L : List Int) : StepSim (pairStep σ L f (look σ s) (look σ t)) (pairStepR τ f (look τ s) (look τ t)) := by
  by_cases hx : (look σ s).var = 0
  · have e1 := h.fn hs hx
    by_cases hy : (look σ t).var = 0
    · have e2 := h.fn ht hy
      rw [e1, e2]
      by_cases hn : (look σ s).name ≠ (look σ t).name ∨ (look σ s).args.length ≠ (look σ t).args.length
      · rw [pairStep_no hx hy hn, pairStepR_no hx hy hn]; exact rfl
      · rw [pairStep_args hx hy hn, pairStepR_args hx hy hn]
        refine ⟨rfl, rfl, h, fun p hp => ?_⟩
        have := List.of_mem_zip hp
        exact ⟨(h.inv.look hs).arg this.1, (h.inv.look ht).arg this.2⟩
    · have hy2 := (h.var ht hy).2.1
      rw [e1, pairStep_y hx hy, pairStepR_y hx hy2]
      have := bindStep_sim h ht hs hy (by omega) f L
      rw [e1] at this
      exact this
  · have hx2 := (h.var hs hx).2.1
    by_cases he : (look σ s).var = (look σ t).var
    · have hy : (look σ t).var ≠ 0 := by rw [← he]; exact hx
      have := (h.eqv hs ht hx hy).1 he
      rw [pairStep_same hx he, pairStepR_same hx2 this]
      exact ⟨rfl, rfl, h, fun p hp => by cases hp⟩
    · have he2 : (look τ s).var ≠ (look τ t).var := by
        by_cases hy : (look σ t).var = 0
        · rw [h.fn ht hy, hy]; exact hx2
        · exact fun e => he ((h.eqv hs ht hx hy).2 e)
      rw [pairStep_x hx he, pairStepR_x hx2 he2]
      exact bindStep_sim h hs ht hx (fun e => he e.symm) f L

theorem meetR_nil (σ : Sub) (f : Nat) : meetR σ f [] = .ok σ [] f := by unfold meetR; rfl
theorem meetR_zero (σ : Sub) (p : Tm × Tm) (r : List (Tm × Tm)) : meetR σ 0 (p :: r) = .many σ [] := by unfold meetR; rfl
theorem meetR_done {σ : Sub} {f : Nat} {p : Tm × Tm} {o : MOut} (r : List (Tm × Tm)) (h : pairStepR σ f (look σ p.1) (look σ p.2) = .done o) : meetR σ (f + 1) (p :: r) = o := by
  conv => lhs; unfold meetR
  simp only
  split
  · rename_i o' h'; rw [h] at h'; cases h'; rfl
  · rename_i h'; rw [h] at h'; cases h'
theorem meetR_go {σ : Sub} {f : Nat} {p : Tm × Tm} {σ' : Sub} {L' : List Int} {f' : Nat} {m : List (Tm × Tm)} (r : List (Tm × Tm)) (h : pairStepR σ f (look σ p.1) (look σ p.2) = .go σ' L' f' m) : meetR σ (f + 1) (p :: r) = meetR σ' f' (m ++ r) := by
  conv => lhs; unfold meetR
  simp only
  split
  · rename_i h'; rw [h] at h'; cases h'
  · rename_i h'; rw [h] at h'; cases h'; rfl

theorem meet_sim : ∀ (f : Nat) (σ τ : Sub) (L : List Int) (ps : List (Tm × Tm)), Sim σ τ → (∀ p ∈ ps, WfT p.1 ∧ WfT p.2) → OutSim (meet σ L f ps) (meetR τ f ps) := by
  intro f
  induction f using Nat.strongRecOn with
  | _ f ih =>
  intro σ τ L ps h hp
  cases ps with
  | nil => rw [meet_nil, meetR_nil]; exact ⟨rfl, h⟩
  | cons p r =>
    cases f with
    | zero => rw [meet_zero, meetR_zero]; exact trivial
    | succ f =>
      have hs := pairStep_sim h (hp p List.mem_cons_self).1 (hp p List.mem_cons_self).2 f L
      cases h1 : pairStep σ L f (look σ p.1) (look σ p.2) with
      | done o =>
        cases h2 : pairStepR τ f (look τ p.1) (look τ p.2) with
        | done o' => rw [h1, h2] at hs; rw [meet_done _ h1, meetR_done _ h2]; exact hs
        | go _ _ _ _ => rw [h1, h2] at hs; exact hs.elim
      | go σ' L' f' m =>
        cases h2 : pairStepR τ f (look τ p.1) (look τ p.2) with
        | done o' => rw [h1, h2] at hs; exact hs.elim
        | go τ' _ g n =>
          rw [h1, h2] at hs
          obtain ⟨rfl, rfl, hs3, hs4⟩ := hs
          rw [meet_go _ h1, meetR_go _ h2]
          refine ih f' (Nat.lt_succ_of_le (pairStep_le h1)) σ' τ' L' _ hs3 fun q hq => ?_
          rcases List.mem_append.1 hq with h5 | h5
          · exact hs4 q h5
          · exact hp q (List.mem_cons_of_mem _ h5)

theorem Sim.start : Sim (fun _ => none) (fun _ => none) := by
  have hi : SInv (fun _ => none) := ⟨⟨fun _ => 0, fun v u h => by cases h⟩, fun v u h => by cases h⟩
  have hl : ∀ t, look (fun _ => none) t = t := fun t => look_free rfl
  refine ⟨hi, hi, fun v hv h => rfl, fun v hv h => h, fun v w _ _ _ _ => Iff.rfl⟩

/-- The program's store leads from greater to lesser variables. -/
def Low (σ : Sub) : Prop := ∀ v u, σ v = some u → u.var ≠ 0 → u.var < v

theorem Low.bind {σ : Sub} (h : Low σ) {v : Int} {t : Tm} (hne : t.var ≠ v) : Low (upd σ (bindS v t).1 (bindS v t).2) := by
  unfold bindS
  by_cases hlt : v < t.var
  · rw [if_pos hlt]
    intro x u hx hu
    unfold upd at hx
    by_cases e : x = t.var
    · rw [if_pos e] at hx; cases hx; rw [e]; exact hlt
    · rw [if_neg e] at hx; exact h x u hx hu
  · rw [if_neg hlt]
    intro x u hx hu
    unfold upd at hx
    by_cases e : x = v
    · rw [if_pos e] at hx; cases hx; have e' : x = v := e; have hu' : t.var ≠ v := hne; have h3 : ¬ v < t.var := hlt; show t.var < x; omega
    · rw [if_neg e] at hx; exact h x u hx hu

theorem Low.look {σ : Sub} (hE : Ends σ) (h : Low σ) (t : Tm) (hx : (look σ t).var ≠ 0) : (look σ t).var ≤ t.var := by
  obtain ⟨n, hn⟩ := look_spec hE t
  generalize Go.Proofs.Ytikmgiapjigghaa.look σ t = u at *
  induction n generalizing t with
  | zero => obtain ⟨rfl, _⟩ := hn; exact Int.le_refl _
  | succ n ih =>
    obtain ⟨_, t', h2, h3⟩ := hn
    have h4 := ih t' h3
    by_cases h0 : t'.var = 0
    · cases n with
      | zero => obtain ⟨rfl, _⟩ := h3; exact absurd h0 hx
      | succ n => exact absurd h0 h3.1
    · have := h _ _ h2 h0; omega

theorem bindStep_low {σ : Sub} (h : Low σ) {v : Int} {t : Tm} {L : List Int} {f : Nat} (hne : t.var ≠ v) {σ' : Sub} {L' : List Int} {f' : Nat} {m : List (Tm × Tm)} (he : bindStep σ L v t f = .go σ' L' f' m) : Low σ' := by
  unfold bindStep at he
  cases hw : within σ v f [t] with
  | yes g => rw [hw] at he; cases he
  | many => rw [hw] at he; cases he
  | no g => rw [hw] at he; cases he; exact h.bind hne

theorem pairStep_low {σ : Sub} (h : Low σ) {x y : Tm} {L : List Int} {f : Nat} {σ' : Sub} {L' : List Int} {f' : Nat} {m : List (Tm × Tm)} (he : pairStep σ L f x y = .go σ' L' f' m) : Low σ' := by
  unfold pairStep at he
  split at he
  · cases he; exact h
  · rename_i h1
    split at he
    · rename_i h2
      exact bindStep_low h (fun e => h1 ⟨h2, e.symm⟩) he
    · rename_i h2
      split at he
      · rename_i h3
        exact bindStep_low h (fun e => by omega) he
      · split at he
        · cases he
        · cases he; exact h

theorem meet_low : ∀ (f : Nat) (σ : Sub) (L : List Int) (ps : List (Tm × Tm)) (σ' : Sub) (L' : List Int) (f' : Nat), Low σ → meet σ L f ps = .ok σ' L' f' → Low σ' := by
  intro f
  induction f using Nat.strongRecOn with
  | _ f ih =>
  intro σ L ps σ' L' f' h he
  cases ps with
  | nil => rw [meet_nil] at he; cases he; exact h
  | cons p r =>
    cases f with
    | zero => rw [meet_zero] at he; cases he
    | succ f =>
      cases h1 : pairStep σ L f (look σ p.1) (look σ p.2) with
      | done o =>
        rw [meet_done _ h1] at he
        subst he
        unfold pairStep bindStep at h1
        split at h1
        · cases h1
        · split at h1
          · split at h1 <;> cases h1
          · split at h1
            · split at h1 <;> cases h1
            · split at h1 <;> cases h1
      | go σ1 L1 f1 m =>
        rw [meet_go _ h1] at he
        exact ih f1 (Nat.lt_succ_of_le (pairStep_le h1)) σ1 L1 _ σ' L' f' (pairStep_low h h1) he

end Go.Proofs.Ytikmgiapjigghaa
