/- Rows of terms that a call made itself: 'ownsRow' at terms, and how it and 'Ts' give each other. -/
import Derived.Test.YtikmgiapjigghaaTm
namespace Go.Proofs.Ytikmgiapjigghaa
open Go.RowKit

/-- A term together with where its arguments stand. -/
abbrev TmAt := Tm × Option Addr × Nat

/-- The three cells of each. -/
def flat : List TmAt → List Value
  | [] => []
  | x :: r => .int .i64 x.1.var :: .string x.1.name :: .slice x.2.1 x.1.args.length x.2.2 :: flat r

theorem flat_append (l r : List TmAt) : flat (l ++ r) = flat l ++ flat r := by
  induction l with
  | nil => rfl
  | cons x l ih => simp [flat, ih]

theorem flat_length (l : List TmAt) : (flat l).length = l.length * 3 := by
  induction l with
  | nil => rfl
  | cons x l ih => simp [flat, ih]; omega

theorem flat_one (l : List TmAt) : ∀ u ∈ flat l, u.oneCell' = true := by
  induction l with
  | nil => intro u hu; cases hu
  | cons x l ih =>
    intro u hu
    simp only [flat, List.mem_cons] at hu
    rcases hu with rfl | rfl | rfl | hu
    · rfl
    · rfl
    · rfl
    · exact ih u hu

theorem flat_at (l : List TmAt) (i : Nat) (h : i < l.length) : (flat l)[i * 3]? = some (.int .i64 l[i].1.var) ∧ (flat l)[i * 3 + 1]? = some (.string l[i].1.name) ∧ (flat l)[i * 3 + 2]? = some (.slice l[i].2.1 l[i].1.args.length l[i].2.2) := by
  induction l generalizing i with
  | nil => cases h
  | cons x l ih =>
    cases i with
    | zero => simp [flat]
    | succ i =>
      have := ih i (by simpa using h)
      rw [show (i + 1) * 3 = i * 3 + 3 from by omega]
      simpa [flat] using this

/-- Each term of a row reads, and what it is by itself fits. -/
def TsEach (w : World) (ok : Nat → Prop) (L : List TmAt) : Prop := ∀ x, x ∈ L → x.1.fits ∧ Ts w ok x.1.args x.2.1 x.2.2

theorem TsEach.keep {w w' : World} {ok : Nat → Prop} (hk : Keeps ok w w') {L : List TmAt} (h : TsEach w ok L) : TsEach w' ok L := fun x hx => ⟨(h x hx).1, (h x hx).2.keep hk⟩

theorem TsEach.append {w : World} {ok : Nat → Prop} {L R : List TmAt} (h : TsEach w ok L) (k : TsEach w ok R) : TsEach w ok (L ++ R) := fun x hx => by
  rcases List.mem_append.1 hx with hx | hx
  · exact h x hx
  · exact k x hx

theorem TsEach.nil (w : World) (ok : Nat → Prop) : TsEach w ok [] := fun x hx => by cases hx

theorem TsEach.one {w : World} {ok : Nat → Prop} {t : Tm} {a : Option Addr} {cap : Nat} (hf : t.fits) (h : Ts w ok t.args a cap) : TsEach w ok [(t, a, cap)] := fun x hx => by
  rw [List.mem_singleton] at hx; subst hx; exact ⟨hf, h⟩

theorem addr_add (b off n : Nat) : (⟨b, off, none⟩ : Addr).add n = ⟨b, off + n, none⟩ := by
  unfold Addr.add; split
  · subst_vars; rfl
  · rfl

/-- What a slice of terms is made of. -/
theorem Ts.open {w : World} {ok : Nat → Prop} {l : List Tm} {a : Option Addr} {cap : Nat} (h : Ts w ok l a cap) :
    ∃ L : List TmAt, L.map (·.1) = l ∧ TsEach w ok L ∧ (∀ ad, a = some ad → ∀ j u, (flat L)[j]? = some u → w.cell? (ad.add j) = some u) := by
  cases h with
  | mk _ _ _ hcap x hc hr =>
    refine ⟨(List.range l.length).attach.map fun i => (l[i.1]'(List.mem_range.1 i.2), (x i.1).1, (x i.1).2), ?_, ?_, ?_⟩
    · refine List.ext_getElem (by simp) fun i h1 h2 => by simp
    · rintro y hy
      obtain ⟨⟨i, hi⟩, _, rfl⟩ := List.mem_map.1 hy
      have hi' := List.mem_range.1 hi
      obtain ⟨b, off, _, _, _, h4⟩ := hc i hi'
      exact ⟨h4.fits, hr i hi'⟩
    · rintro ad rfl j u hu
      have hj : j < ((List.range l.length).attach.map fun i => ((l[i.1]'(List.mem_range.1 i.2), (x i.1).1, (x i.1).2) : TmAt)).length * 3 := by
        rw [← flat_length]; exact (List.getElem?_eq_some_iff.1 hu).1
      have hi : j / 3 < l.length := by simp at hj; omega
      obtain ⟨b, off, h1, _, _, h4⟩ := hc (j / 3) hi
      simp only [Option.some.injEq] at h1
      subst h1
      have h5 := flat_at ((List.range l.length).attach.map fun i => ((l[i.1]'(List.mem_range.1 i.2), (x i.1).1, (x i.1).2) : TmAt)) (j / 3) (by simpa using hi)
      simp only [List.getElem_map, List.getElem_attach, List.getElem_range] at h5
      rw [addr_add]
      have hm : j % 3 < 3 := Nat.mod_lt _ (by decide)
      have hd : j = j / 3 * 3 + j % 3 := by omega
      rcases (by omega : j % 3 = 0 ∨ j % 3 = 1 ∨ j % 3 = 2) with e | e | e
      · rw [hd, e, Nat.add_zero] at hu ⊢
        rw [h5.1] at hu; cases hu; exact h4.var
      · rw [hd, e] at hu ⊢
        rw [h5.2.1] at hu; cases hu; exact h4.name
      · rw [hd, e] at hu ⊢
        rw [h5.2.2] at hu; cases hu; exact h4.args

/-- A row that the call owns reads as its terms. -/
theorem Ts.of_row {w : World} {ok : Nat → Prop} {base : Nat} {v : Value} {L : List TmAt} (h : w.ownsRow base 24 3 v L.length (flat L)) (hok : ∀ b, base ≤ b → ok b) (he : TsEach w ok L) :
    ∃ a cap, v = .slice a (L.map (·.1)).length cap ∧ Ts w ok (L.map (·.1)) a cap := by
  rcases h.2 with ⟨rfl, hn⟩ | ⟨g, cap, cur, rfl, hb, hg, hcap, hml, hsz, htk⟩
  · have : L = [] := List.eq_nil_of_length_eq_zero hn
    subst this
    exact ⟨none, 0, rfl, .mk [] none 0 ⟨Nat.le_refl _, Nat.zero_le _, fun _ => rfl⟩ (fun _ => (none, 0)) (fun i hi => by cases hi) (fun i hi => by cases hi)⟩
  · refine ⟨some ⟨g, 0, none⟩, cap, by simp, ?_⟩
    have hcell : ∀ j u, (flat L)[j]? = some u → w.cell? ⟨g, j, none⟩ = some u := by
      intro j u hu
      have hj : j < L.length * 3 := by rw [← flat_length]; exact (List.getElem?_eq_some_iff.1 hu).1
      rw [h.cellAt j hj, hu]
    have hgs : g < w.heap.size := (Array.getElem?_eq_some_iff.1 hg).1
    refine .mk _ _ _ ⟨by simpa using hcap, hml, fun h => by cases h⟩ (fun i => ((L.getD i (.mk 0 ByteArray.empty [], none, 0)).2)) (fun i hi => ?_) (fun i hi => ?_)
    · have hi' : i < L.length := by simpa using hi
      obtain ⟨h1, h2, h3⟩ := flat_at L i hi'
      refine ⟨g, 0, rfl, hok g hb, hgs, ?_⟩
      simp only [List.getElem_map, List.getD_eq_getElem?_getD, List.getElem?_eq_getElem hi', Option.getD_some, Nat.zero_add]
      exact ⟨hcell _ _ h1, hcell _ _ h2, hcell _ _ h3, (he _ (List.getElem_mem hi')).1⟩
    · have hi' : i < L.length := by simpa using hi
      simp only [List.getElem_map, List.getD_eq_getElem?_getD, List.getElem?_eq_getElem hi', Option.getD_some]
      exact (he _ (List.getElem_mem hi')).2

theorem Ts.some {w : World} {ok : Nat → Prop} {l : List Tm} {a : Option Addr} {cap : Nat} (h : Ts w ok l a cap) (hl : 1 ≤ l.length) : ∃ ad, a = some ad := by
  have := h.cap
  cases a with
  | none => have := this.2.2 rfl; omega
  | some ad => exact ⟨ad, rfl⟩

theorem ownsRow_below {w w' : World} {base : Nat} {e : TypeId} {size : Nat} {v : Value} {n : Nat} {xs : List Value} (h : w.ownsRow base e size v n xs) (hb : Below w.heap.size w w') : w'.ownsRow base e size v n xs := by
  refine h.kept (row := none) ⟨hb.os, hb.tape, hb.output, hb.size, fun k hk _ => hb.block k hk⟩ ?_
  cases v.ownBlock <;> simp

theorem Ts.mono {w : World} {ok ok' : Nat → Prop} (h : ∀ b, b < w.heap.size → ok b → ok' b) {l : List Tm} {a : Option Addr} {cap : Nat} (ht : Ts w ok l a cap) : Ts w ok' l a cap := by
  induction ht with
  | mk l a cap hcap x hc hr ih =>
    refine .mk l a cap hcap x (fun i hi => ?_) ih
    obtain ⟨b, off, h1, h2, h3, h4⟩ := hc i hi
    exact ⟨b, off, h1, h _ h3 h2, h3, h4⟩

/-- A call hands back a slice of terms, in new memory or old; what was there stays. -/
def RetTs (w : World) (ok : Nat → Prop) (l : List Tm) (e : Ending) (w' : World) : Prop :=
  ∃ a cap, e = .returned (.slice a l.length cap) ∧ Ts w' ok l a cap ∧ Below w.heap.size w w'

end Go.Proofs.Ytikmgiapjigghaa
