/- Plain: other numbers of variables, one for each: terms are numbered alike. -/
import Derived.Test.YtikmgiapjigghaaRa10
import Derived.Test.YtikmgiapjigghaaRa18
namespace Go.Proofs.Ytikmgiapjigghaa
open Go.RowKit

theorem mem_addV' {s : List Int} {v x : Int} : x ∈ addV s v ↔ x ∈ s ∨ x = v := by
  unfold addV
  by_cases h : v ∈ s
  · rw [if_pos h]; exact ⟨.inl, fun e => e.elim id fun e => e ▸ h⟩
  · rw [if_neg h, List.mem_append, List.mem_singleton]

theorem idxOf_inj {P : Int → Prop} {g : Int → Int} (hg : ∀ v w, P v → P w → g v = g w → v = w) {v : Int} (hv : P v) : ∀ s : List Int, (∀ x, x ∈ s → P x) → (s.map g).idxOf (g v) = s.idxOf v := by
  intro s
  induction s with
  | nil => intro _; rfl
  | cons a s ih =>
    intro hs
    have ha := hs a List.mem_cons_self
    have hr := ih fun x hx => hs x (List.mem_cons_of_mem _ hx)
    rw [List.map_cons, List.idxOf_cons, List.idxOf_cons, hr]
    by_cases e : a = v
    · subst e; simp
    · have e2 : ¬ g a = g v := fun e2 => e (hg a v ha hv e2)
      rw [show (g a == g v) = false by simpa using e2, show (a == v) = false by simpa using e]

theorem mem_inj {P : Int → Prop} {g : Int → Int} (hg : ∀ v w, P v → P w → g v = g w → v = w) {v : Int} (hv : P v) {s : List Int} (hs : ∀ x, x ∈ s → P x) : g v ∈ s.map g ↔ v ∈ s := by
  rw [List.mem_map]
  exact ⟨fun ⟨a, ha, e⟩ => by rw [← hg a v (hs a ha) hv e]; exact ha, fun h => ⟨v, h, rfl⟩⟩

theorem numV_inj {P : Int → Prop} {g : Int → Int} (hg : ∀ v w, P v → P w → g v = g w → v = w) {v : Int} (hv : P v) {s : List Int} (hs : ∀ x, x ∈ s → P x) :
    numV (s.map g) (g v) = ((numV s v).1, (numV s v).2.map g) ∧ ∀ x, x ∈ (numV s v).2 → P x := by
  have ha : addV (s.map g) (g v) = (addV s v).map g := by
    unfold addV
    by_cases e : v ∈ s
    · rw [if_pos e, if_pos ((mem_inj hg hv hs).2 e)]
    · rw [if_neg e, if_neg (fun h => e ((mem_inj hg hv hs).1 h)), List.map_append]; rfl
  have hp : ∀ x, x ∈ addV s v → P x := fun x hx => by
    rcases mem_addV'.1 hx with h | h
    · exact hs x h
    · exact h ▸ hv
  refine ⟨?_, hp⟩
  simp only [numV]
  rw [ha, idxOf_inj hg hv _ hp]

/-- Other numbers of variables, one for each: the terms are numbered alike. -/
theorem ren_inj {P : Int → Prop} {g : Int → Int} (hg : ∀ v w, P v → P w → g v = g w → v = w) (hz : ∀ v, P v → g v ≠ 0) (t : Tm) : ∀ s : List Int, WfT t → (∀ p, p ∈ t.parts → p.var ≠ 0 → P p.var) → (∀ x, x ∈ s → P x) →
    Tm.ren numV (s.map g) (t.mapv g) = ((Tm.ren numV s t).1, (Tm.ren numV s t).2.map g) ∧ ∀ x, x ∈ (Tm.ren numV s t).2 → P x := by
  induction t using Tm.ind with
  | h v n l ih =>
    intro s hw hp hs
    by_cases hv : v = 0
    · subst hv
      rw [Tm.mapv_fn (t := .mk 0 n l) rfl]
      have hl : ∀ (r : List Tm) (s : List Int), (∀ x, x ∈ r → x ∈ l) → (∀ x, x ∈ s → P x) → Tm.rens numV (s.map g) (r.map (Tm.mapv g)) = ((Tm.rens numV s r).1, (Tm.rens numV s r).2.map g) ∧ ∀ x, x ∈ (Tm.rens numV s r).2 → P x := by
        intro r
        induction r with
        | nil => intro s _ hs; exact ⟨rfl, hs⟩
        | cons x r ihr =>
          intro s hr hs
          have hx := hr x List.mem_cons_self
          obtain ⟨h1, h2⟩ := ih x hx s (hw.arg (t := .mk 0 n l) hx) (fun p hpp => hp p (Tm.parts_arg (t := .mk 0 n l) hx hpp)) hs
          obtain ⟨h3, h4⟩ := ihr (Tm.ren numV s x).2 (fun y hy => hr y (List.mem_cons_of_mem _ hy)) h2
          simp only [List.map_cons, Tm.rens, h1, h3]
          exact ⟨trivial, h4⟩
      obtain ⟨h1, h2⟩ := hl l s (fun _ h => h) hs
      simp only [Tm.name, Tm.args, Tm.ren]
      rw [if_neg (fun h => h rfl), if_neg (fun h => h rfl), h1]
      exact ⟨rfl, h2⟩
    · have hP : P v := hp _ (Tm.self_mem _) hv
      rw [Tm.mapv_var (t := .mk v n l) hv]
      obtain ⟨h1, h2⟩ := numV_inj hg hP hs
      have e1 : Tm.ren numV (s.map g) (VarT (g v)) = (.mk (numV (s.map g) (g v)).1 ⟨#[]⟩ [], (numV (s.map g) (g v)).2) := by simp only [Tm.ren]; rw [if_pos (hz v hP)]
      have e2 : Tm.ren numV s (.mk v n l) = (.mk (numV s v).1 ⟨#[]⟩ [], (numV s v).2) := by simp only [Tm.ren]; rw [if_pos hv]
      show Tm.ren numV (s.map g) (VarT (g v)) = _ ∧ _
      rw [e1, e2, h1]
      exact ⟨rfl, h2⟩

end Go.Proofs.Ytikmgiapjigghaa
