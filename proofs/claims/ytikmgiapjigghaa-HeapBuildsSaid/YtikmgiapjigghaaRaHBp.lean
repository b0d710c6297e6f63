/- Plain: what the statement HeapBuilds wants. -/
import Derived.Test.YtikmgiapjigghaaRa21
import Derived.Test.YtikmgiapjigghaaRaHrm
import Derived.Test.YtikmgiapjigghaaRaUMostP
namespace Go.Proofs.Ytikmgiapjigghaa
open Go.RowKit

/-- The four things that Build answers. -/
def bQ : BA → List HC × Nat × List Int × Nat
  | .err n => ([], 0, [], n)
  | .ok H c l => (H, c, l, 0)

theorem BPost.form {w : World} {o : BA} {e : Ending} {w' : World} (h : BPost w o e w') :
    ∃ a c a2 c2, e = .returned (.tuple #[.slice a (bQ o).1.length c, .int .i64 ((bQ o).2.1 : Nat), .slice a2 (bQ o).2.2.1.length c2, .int .i64 ((bQ o).2.2.2 : Nat)]) ∧ HpAt w' (fun b => w.heap.size ≤ b) (bQ o).1 a c ∧ IsAt w' (fun b => w.heap.size ≤ b) (bQ o).2.2.1 a2 c2 ∧ Below w.heap.size w w' := by
  obtain ⟨hb, h⟩ := h
  cases o with
  | err n => exact ⟨none, 0, none, 0, h, ⟨⟨Nat.le_refl _, Nat.zero_le _, fun _ => rfl⟩, fun i hi => absurd hi (Nat.not_lt_zero i)⟩, IsAt.nil _ _, hb⟩
  | ok H c l => obtain ⟨a, c', a2, c2, h1, h2, h3⟩ := h; exact ⟨a, c', a2, c2, h1, h2, h3, hb⟩

/-- The names of a term that is right are right. -/
theorem check_names {t : Tm} (h : t.checkE = 0) : NamesOk t := by
  intro p hp hv
  have h0 := (check_zero h).2
  rw [Tm.partsE_eq] at h0
  have h1 := firstE_zero _ h0 p hp
  unfold Tm.partE at h1
  obtain ⟨v, n, l⟩ := p
  simp only [Tm.var, Tm.name, Tm.args] at hv h1 ⊢
  subst hv
  unfold Go.Proofs.Ytikmgiapjigghaa.partE at h1
  rw [if_pos rfl] at h1
  split at h1
  · cases h1
  · split at h1
    · cases h1
    · split at h1
      · cases h1
      · rename_i a b c
        refine ⟨?_, by omega, fun e => c ⟨beq_iff_eq.2 e.1, e.2⟩⟩
        simpa using a

/-- A term with its variables by a list. -/
theorem mapv_put {g : Int → Int} {S : Int → Tm} (t : Tm) : (∀ p, p ∈ t.parts → p.var ≠ 0 → S p.var = VarT (g p.var)) → t.putIn S = t.mapv g := by
  induction t using Tm.ind with
  | h v n l ih =>
    intro h
    by_cases hv : v = 0
    · subst hv
      rw [Tm.putIn_fn (t := .mk 0 n l) rfl, Tm.mapv_fn (t := .mk 0 n l) rfl]
      simp only [Tm.name, Tm.args]
      congr 1
      refine List.map_congr_left fun x hx => ih x hx fun p hp => h p (Tm.parts_arg (t := .mk 0 n l) hx hp)
    · rw [Tm.putIn_var (t := .mk v n l) hv, Tm.mapv_var (t := .mk v n l) hv]
      exact h _ (Tm.self_mem _) hv

theorem take_eq {H K : List HC} (hl : K.length ≤ H.length) (h : ∀ i, i < K.length → hc H i = hc K i) : H.take K.length = K := by
  refine List.ext_getElem (by rw [List.length_take]; omega) fun i h1 h2 => ?_
  rw [List.getElem_take, ← hc_get (by omega), ← hc_get h2]
  exact h i h2

/-- The terms that are told: variables, by their cells. -/
def toldT (V : CV) : List Tm := (toldV V 12).map fun x => VarT (x + 1)

/-- What is built, as the statement asks for it. -/
theorem builds_of {K : List HC} {t : Tm} (hc : checkH K = 0) (ht : t.checkE = 0) {H : List HC} {V : CV} {c : Nat} (hp : putT K (fun _ => none) t = ((H, V), c)) :
    H.length = K.length + roomP [] t.parts ∧ (H.length ≤ 400000 → checkH H = 0) ∧ H.take K.length = K ∧ K.length ≤ H.length ∧ c < H.length ∧ CellsOk H ∧ Straight H ∧
      (∃ k, shL H 200 [c] = some ([t.putIn (byL (toldT V))], k)) ∧ ∀ i (h : i < (toldV V 12).length), -1 ≤ (toldV V 12)[i] ∧ (toldV V 12)[i] < H.length := by
  have hI := HInv.of hc
  have hs := (check_zero ht).1
  have hw := (check_fit ht).wf
  obtain ⟨S, h1, h2, h3, h4, h5, h6, h7, h8, h9⟩ := build_ok hI hw (check_names ht) hs
  rw [hp] at h1 h2 h3 h4 h5 h6 h7 h8 h9
  simp only at h1 h2 h3 h4 h5 h6 h7 h8 h9
  refine ⟨h2, fun hl => checkH_ok (by omega) (firstCell_zero _ h3) h4, take_eq (by omega) h5, by omega, h6, h3, h4, ?_, fun i hi => ?_⟩
  · obtain ⟨k, hk⟩ := h7
    refine ⟨k, ?_⟩
    rw [mapv_put (g := fun v => (S v : Int) + 1) t fun p hp' hv => ?_]
    · exact hk
    · have hb := (check_fit ht).bd p hp'
      have hpos := (hw p hp').1
      have hv1 : (p.var.toNat - 1) < (toldT V).length := by simp [toldT, toldV]; omega
      have := byL_at (toldT V) (p.var.toNat - 1) hv1
      rw [show ((p.var.toNat - 1 : Nat) : Int) + 1 = p.var by omega] at this
      rw [this]
      simp only [toldT, toldV, List.getElem_map, List.getElem_range]
      rw [show ((p.var.toNat - 1 : Nat) : Int) + 1 = p.var by omega, h8 p hp' hv]
  · simp only [toldV, List.getElem_map, List.getElem_range]
    cases hV : V ((i : Int) + 1) with
    | none => simp only; omega
    | some d => have := h9 _ d hV; simp only; omega

end Go.Proofs.Ytikmgiapjigghaa
