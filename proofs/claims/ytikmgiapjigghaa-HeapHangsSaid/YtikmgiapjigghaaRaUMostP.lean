/- Plain, and contracts: what is put in; for the statement UnifyMost. -/
import Derived.Test.YtikmgiapjigghaaRa18
import Derived.Test.YtikmgiapjigghaaRaPut
namespace Go.Proofs.Ytikmgiapjigghaa
open Go.RowKit

theorem outs_fit {σ : Sub} (hE : Ends σ) (hd : ∀ v u, σ v = some u → Fit 13 u) : ∀ (n : Nat) (l : List Tm), n ≤ 12 → outs σ n = some l → ∀ x, x ∈ l → Fit 13 x ∧ x.size ≤ 200 := by
  intro n
  induction n with
  | zero => intro l _ h x hx; cases h; cases hx
  | succ n ih =>
    intro l hn h x hx
    simp only [outs] at h
    obtain ⟨l0, h0, h1⟩ := Option.bind_eq_some_iff.1 h
    obtain ⟨y, hy, rfl⟩ := Option.map_eq_some_iff.1 h1
    rcases List.mem_append.1 hx with hx | hx
    · exact ih l0 (by omega) h0 x hx
    · refine ⟨thrL_fit hE hd 200 _ _ (fun t ht => by rw [List.mem_singleton] at ht; subst ht; exact fit_var (by omega) (by omega)) hy x hx, ?_⟩
      have h2 := thrL_size _ _ _ hy
      have h3 := Tm.size_mem hx
      omega

/-- What UnifyMost wants of an answer. -/
def MostOf (s t : Tm) : UA → Prop
  | .err n => n ≠ 0
  | .no _ => s.checkE = 0 ∧ t.checkE = 0 ∧ ∀ S, s.putIn S ≠ t.putIn S
  | .ok l _ => s.checkE = 0 ∧ t.checkE = 0 ∧ l.length = 12 ∧ (∀ x, x ∈ l → Fit 13 x ∧ x.size ≤ 200) ∧ (∀ S : Int → Tm, (∀ i (h : i < l.length), S ((i : Int) + 1) = l[i]) → s.putIn S = t.putIn S) ∧ ∀ S, s.putIn S = t.putIn S → ∀ i (h : i < l.length), l[i].putIn S = S ((i : Int) + 1)

theorem uA_most (s t : Tm) : MostOf s t (uA s t) := by
  unfold uA
  by_cases hs : s.checkE = 0
  · by_cases ht : t.checkE = 0
    · rw [if_neg (fun h => h hs), if_neg (fun h => h ht)]
      have hm := uP_most (check_fit hs) (check_fit ht)
      have hi : SInv (fun _ => none) := Sim.start.inv
      have hw : ∀ p ∈ [(s, t)], WfT p.1 ∧ WfT p.2 := fun p hp => by rw [List.mem_singleton] at hp; subst hp; exact ⟨(check_fit hs).wf, (check_fit ht).wf⟩
      have hw2 : ∀ p ∈ [(s, t)], Fit 13 p.1 ∧ Fit 13 p.2 := fun p hp => by rw [List.mem_singleton] at hp; subst hp; exact ⟨check_fit hs, check_fit ht⟩
      have hl : ∀ l k, uP s t = .ok l k → ∀ x, x ∈ l → Fit 13 x ∧ x.size ≤ 200 := fun l k h => by
        unfold uP at h
        cases h1 : meet (fun _ => none) [] 4000 [(s, t)] with
        | no σ L f => rw [h1] at h; cases h
        | many σ L => rw [h1] at h; cases h
        | ok σ L f =>
          rw [h1] at h
          simp only at h
          cases h2 : outs σ 12 with
          | none => rw [h2] at h; cases h
          | some l' =>
            rw [h2] at h
            cases h
            exact outs_fit (meet_inv 4000 _ [] _ _ _ _ hi hw h1).rank.ends (meet_dom (n := 13) 4000 _ [] _ _ _ _ hi (fun v u h => by cases h) hw2 h1) 12 _ (Nat.le_refl _) h2
      cases h : uP s t with
      | no k => rw [h] at hm; exact ⟨hs, ht, hm⟩
      | many => exact (by decide : (2 : Nat) ≠ 0)
      | ok l k => rw [h] at hm; exact ⟨hs, ht, hm.1, hl l k h, hm.2⟩
    · rw [if_neg (fun h => h hs), if_pos ht]; exact ht
  · rw [if_pos hs]; exact hs

/-- What is put in, by a list. -/
def byL (B : List Tm) (v : Int) : Tm := B.getD (v - 1).toNat default

theorem byL_at (B : List Tm) (i : Nat) (h : i < B.length) : byL B ((i : Int) + 1) = B[i] := by
  unfold byL
  rw [List.getD_eq_getElem?_getD, show ((i : Int) + 1 - 1).toNat = i by omega, List.getElem?_eq_getElem h]; rfl

/-- A call of PutIn, with a result that stands in all worlds that come. -/
theorem PutInC {w W : World} (hW : Below w.heap.size w W) {t : Tm} {a ba : Option Addr} {c bc : Nat} {B : List Tm} (hB : B.length = 12) (hf : t.fits) (hs : t.size ≤ 200) (hfit : Fit 13 t) (h1 : Ts w (fun _ => True) t.args a c) (h2 : Ts w (fun _ => True) B ba bc) :
    Calls Try.prog 27 #[.agg #[.int .i64 t.var, .string t.name, .slice a t.args.length c], .slice ba B.length bc] W fun e w' => ∃ pa pc, e = .returned (.agg #[.int .i64 (t.putIn (byL B)).var, .string (t.putIn (byL B)).name, .slice pa (t.putIn (byL B)).args.length pc]) ∧ (∀ w3, Below w'.heap.size w' w3 → Ts w3 (fun _ => True) (t.putIn (byL B)).args pa pc) ∧ Below W.heap.size W w' := by
  refine (PutInW (S := byL B) (byL_at B) t W (fun b => b < W.heap.size) a c (fun b hb => hb) (by omega) hf ((h1.keep (Keeps.below hW _)).mono fun b hb _ => hb) ⟨fun p hp hv => by have h3 := (hfit.wf p hp).1; have h4 := (hfit.bd p hp).1; omega, (h2.keep (Keeps.below hW _)).mono fun b hb _ => hb⟩).mono ?_
  rintro e w' ⟨pa, pc, rfl, -, hts, hb⟩
  exact ⟨pa, pc, rfl, fun w3 h3 => (hts.keep (Keeps.below h3 _)).mono fun _ _ _ => trivial, hb⟩

end Go.Proofs.Ytikmgiapjigghaa
