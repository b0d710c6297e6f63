/- What a statement's heap reads as. -/
import Derived.Test.YtikmgiapjigghaaRa10
import Derived.Test.YtikmgiapjigghaaRa13
namespace Go.Proofs.Ytikmgiapjigghaa
open Go.ChangeShapes Go.WideShapes Go.ChangeAt Go.RowKit Go.Deep

section
variable {H : Type} {enc : TypeId × Value → H} {w : World} {base : Nat} {spare : Nat → Bool} {held : Bool}

theorem cHc : Try.prog.cellsOf 120 = 3 := by kernel_rfl

set_option maxRecDepth 100000 in
theorem trod_hc {n : Nat} {cs : List Value} {x : DataW H × List MemPlace} (h : DataW.trod enc Try.prog w base spare held n 120 cs = some x) :
    ∃ c : HC, cs = [.int .i64 c.k, .int .i64 c.n, .string c.name] ∧ c.fits := by
  obtain ⟨ys, n', hn', hy, hlen', hyl, hf⟩ := DataW.trod_struct Try.underlying120 h
  rw [cHc] at hlen'
  match cs, hlen', ys, hyl with
  | [c0, c1, c2], _, [y0, y1, y2], _ =>
    have f0 := hf 0 ⟨ "Kind", 3, 0, false, "", "", 0⟩ rfl
    have f1 := hf 1 ⟨ "N", 3, 1, false, "", "", 8⟩ rfl
    have f2 := hf 2 ⟨ "Name", 9, 2, false, "", "", 16⟩ rfl
    simp only [cI, cS, List.drop_zero, List.drop_succ_cons, List.take_succ_cons, List.take_zero, List.getElem?_cons_zero, List.getElem?_cons_succ] at f0 f1 f2
    obtain ⟨k, e0, _, hk⟩ := DataW.trod_int Try.underlying3 f0
    obtain ⟨v, e1, _, hv⟩ := DataW.trod_int Try.underlying3 f1
    obtain ⟨s, e2, _, hs⟩ := DataW.trod_string Try.underlying9 f2
    simp only [List.cons.injEq, and_true] at e0 e1 e2
    subst e0; subst e1; subst e2
    exact ⟨⟨k, v, s⟩, rfl, wf_i64 hk, wf_i64 hv, hs⟩

set_option maxRecDepth 100000 in
theorem trod_hp {n : Nat} {cs : List Value} {x : DataW H × List MemPlace} (h : DataW.trod enc Try.prog w base spare held n 42 cs = some x) :
    ∃ (K : List HC) (a : Option Addr) (cap : Nat), cs = [.slice a K.length cap] ∧ HpAt w (fun _ => True) K a cap := by
  rcases DataW.trod_slice Try.underlying42 h with ⟨rfl, _⟩ | ⟨a, len, cap, elems, rest, n, rfl, rfl, _, _, hl, hm, hlen, hel, _, _⟩
  · exact ⟨[], none, 0, rfl, ⟨Nat.le_refl _, Nat.zero_le _, fun _ => rfl⟩, fun i hi => by cases hi⟩
  · have key : ∀ i, i < len → ∃ (c : HC) (b off : Nat), a = ⟨b, off, none⟩ ∧ b < w.heap.size ∧ w.cell? ⟨b, off + i * 3, none⟩ = some (.int .i64 c.k) ∧ w.cell? ⟨b, off + i * 3 + 1, none⟩ = some (.int .i64 c.n) ∧ w.cell? ⟨b, off + i * 3 + 2, none⟩ = some (.string c.name) ∧ c.fits := by
      intro i hi
      have h1 := hel i hi
      rw [List.getElem?_eq_getElem (by omega : i < elems.length)] at h1
      obtain ⟨cs', hcs, htr⟩ := Option.bind_eq_some_iff.1 h1
      rw [cHc] at hcs
      obtain ⟨_, hcl, hat⟩ := World.cells?_some hcs
      obtain ⟨c, rfl, hfit⟩ := trod_hc htr
      have q0 := hat 0 (by omega)
      have q1 := hat 1 (by omega)
      have q2 := hat 2 (by omega)
      simp only [List.getElem?_cons_zero, List.getElem?_cons_succ] at q0 q1 q2
      obtain ⟨b, off, spot⟩ := a
      have hsp : spot = none := by
        have h1' := hel 0 (by omega)
        rw [List.getElem?_eq_getElem (by omega : 0 < elems.length)] at h1'
        obtain ⟨cs0, hcs0, _⟩ := Option.bind_eq_some_iff.1 h1'
        rw [cHc] at hcs0
        obtain ⟨_, hcl0, hat0⟩ := World.cells?_some hcs0
        have b0 := hat0 0 (by omega)
        rw [List.getElem?_eq_getElem (by omega : 0 < cs0.length)] at b0
        have := World.cell?_spot b0
        simpa [Addr.add] using this
      subst hsp
      simp only [addr_add] at q0 q1 q2
      exact ⟨c, b, off, rfl, cell_lt q0, q0, q1, q2, hfit⟩
    classical
    let f : Nat → HC := fun i => if hi : i < len then Classical.choose (key i hi) else ⟨0, 0, ⟨#[]⟩⟩
    have hf : ∀ i, i < len → ∃ (b off : Nat), a = ⟨b, off, none⟩ ∧ b < w.heap.size ∧ w.cell? ⟨b, off + i * 3, none⟩ = some (.int .i64 (f i).k) ∧ w.cell? ⟨b, off + i * 3 + 1, none⟩ = some (.int .i64 (f i).n) ∧ w.cell? ⟨b, off + i * 3 + 2, none⟩ = some (.string (f i).name) ∧ (f i).fits := by
      intro i hi
      have := Classical.choose_spec (key i hi)
      simp only [f, dif_pos hi]
      exact this
    refine ⟨(List.range len).map f, some a, cap, by simp, ⟨by simpa using hl, hm, fun h => by cases h⟩, fun i hi => ?_⟩
    have hi' : i < len := by simpa using hi
    obtain ⟨b, off, h1, h2, h3, h4, h5, h6⟩ := hf i hi'
    have hg : hc ((List.range len).map f) i = f i := by rw [hc_get hi]; simp
    rw [hg]
    exact ⟨b, off, by rw [h1], trivial, h2, h3, h4, h5, h6⟩

end

end Go.Proofs.Ytikmgiapjigghaa

