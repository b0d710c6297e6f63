/- Plain: what holds all through the program's search, from step to step. -/
import Derived.Deep.RegionHeld3
import Derived.Test.YtikmgiapjigghaaSs04
import Derived.Test.YtikmgiapjigghaaSs10
import Derived.Test.YtikmgiapjigghaaSs11
import Derived.Test.YtikmgiapjigghaaSs12
import Derived.Test.YtikmgiapjigghaaSs13
namespace Go.Proofs.Ytikmgiapjigghaa
open Go.RowKit

/-- What must hold when the search goes back. -/
structure BInv (p : List Cl) (S : PS) : Prop where
  sinv : SInv S.σ
  dom : ∀ v u, S.σ v = some u → Fit (S.vars + 1) u ∧ v.toNat < S.vars + 1
  trail : TrailOk S.σ S.L
  snap : ∀ c, c ∈ S.ch → Snap S.σ S.L c.σ c.L ∧ c.gs ≠ [] ∧ c.cl < p.length ∧ (∀ g, g ∈ c.gs → Fit (S.vars + 1) g.1) ∧ c.L.length + 2000 ≤ 2000 * S.steps
  mono : S.ch.Pairwise fun a b => a.L.length ≤ b.L.length
  len : S.L.length ≤ 2000 * S.steps
  base : 12 ≤ S.vars

theorem PInv.toB {p : List Cl} {S : PS} (h : PInv p S) : BInv p S := ⟨h.sinv, h.dom, h.trail, h.snap, h.mono, h.len, h.base⟩
theorem CInv.toB {p : List Cl} {gs : List Goal} {t : Tm} {S : PS} (h : CInv p gs t S) : BInv p S := ⟨h.sinv, h.dom, h.trail, h.snap, h.mono, by have := h.len; omega, h.base⟩

theorem fit_headT {n : Nat} {gs : List Goal} (hne : gs ≠ []) (h : ∀ g, g ∈ gs → Fit n g.1) : Fit n (headT gs) := by
  cases gs with
  | nil => exact absurd rfl hne
  | cons a r => exact h a List.mem_cons_self

/-- The last choice is taken. -/
theorem BInv.call {p : List Cl} {S : PS} (h : BInv p S) {n : Nat} (hn : n < S.ch.length) :
    CInv p S.ch[n].gs (look S.ch[n].σ (headT S.ch[n].gs)) { S with ch := S.ch.take n, σ := S.ch[n].σ, L := S.ch[n].L, f := 4000 } := by
  obtain ⟨h1, h2, h3, h4, h5⟩ := h.snap S.ch[n] (List.getElem_mem hn)
  have hle : ∀ c', c' ∈ S.ch.take n → c'.L.length ≤ S.ch[n].L.length := fun c' hc' => by
    obtain ⟨j, hj, rfl⟩ := List.getElem_of_mem hc'
    rw [List.length_take] at hj
    rw [List.getElem_take]
    exact List.pairwise_iff_getElem.1 h.mono j n (by omega) hn (by omega)
  have hs : S.ch[n].σ = undo S.σ S.L S.ch[n].L.length := h1.2.2.symm
  have hd : ∀ v u, S.ch[n].σ v = some u → Fit (S.vars + 1) u ∧ v.toNat < S.vars + 1 := fun v u e => by
    rw [hs] at e; exact h.dom v u (undo_some e)
  have hsi : SInv S.ch[n].σ := by rw [hs]; exact h.sinv.undo _ _
  refine ⟨hsi, hd, ?_, ⟨h2, h4⟩, ?_, ?_, ?_, hle, by (try simp only); omega, by (try simp only); omega, h.base⟩
  · have := h.trail.undo S.ch[n].L.length
    rw [← hs, ← h1.1] at this
    exact this
  · exact fit_look hsi.rank.ends (fun v u e => (hd v u e).1) (fit_headT h2 h4)
  · intro c' hc'
    obtain ⟨k1, k2, k3, k4, k5⟩ := h.snap c' (List.mem_of_mem_take hc')
    exact ⟨h1.inner k1 (hle c' hc'), k2, k3, k4, k5⟩
  · exact h.mono.sublist (List.take_sublist _ _)

theorem potC_at {m : Nat} {ch : List PCh} {n : Nat} (hn : n < ch.length) : potC m (ch.take n) + (m - ch[n].cl) ≤ potC m ch := by
  have h := potC_take m ch (n + 1)
  rw [List.take_succ_eq_append_getElem hn, potC_push] at h
  exact h

/-- What going back leaves. -/
theorem back_inv {p : List Cl} (hp : POk p) : ∀ (n : Nat) (S : PS), n = S.ch.length → S.fin = 0 → BInv p S →
    ((pback p n S).fin = 0 → PInv p (pback p n S)) ∧ (pback p n S).vars + 12 * potC p.length (pback p n S).ch ≤ S.vars + 12 * potC p.length S.ch ∧ (pback p n S).ans = S.ans ∧ (pback p n S).steps = S.steps ∧ (pback p n S).fin ≤ 3 := by
  intro n
  induction n with
  | zero => intro S _ _ _; exact ⟨(fun e => by cases e), Nat.le_refl _, rfl, rfl, by simp [pback]⟩
  | succ n ih =>
    intro S hn h0 h
    have hn' : n < S.ch.length := by omega
    have e1 : S.ch[n]? = some S.ch[n] := List.getElem?_eq_getElem hn'
    have hc := h.call hn'
    have hcl := (h.snap S.ch[n] (List.getElem_mem hn')).2.2.1
    have hpot := potC_at (m := p.length) hn'
    have hch := pcall_ch (p := p) (gs := S.ch[n].gs) (s := look S.ch[n].σ (headT S.ch[n].gs)) (p.length - S.ch[n].cl) S.ch[n].cl { S with ch := S.ch.take n, σ := S.ch[n].σ, L := S.ch[n].L, f := 4000 } rfl
    obtain ⟨⟨a1, a2⟩, b, c, d, e, f⟩ := call_inv hp (p.length - S.ch[n].cl) S.ch[n].cl { S with ch := S.ch.take n, σ := S.ch[n].σ, L := S.ch[n].L, f := 4000 } rfl (by omega) hc
    simp only [pback, e1]
    generalize pcall p S.ch[n].gs (look S.ch[n].σ (headT S.ch[n].gs)) S.ch[n].cl { S with ch := S.ch.take n, σ := S.ch[n].σ, L := S.ch[n].L, f := 4000 } = x at *
    obtain ⟨x1, x2⟩ := x
    simp only at a1 a2 b c d e f hch ⊢
    cases x2 with
    | true =>
      rw [if_pos rfl]
      exact ⟨fun h => a1 ⟨rfl, h⟩, by omega, c, d, by omega⟩
    | false =>
      rw [if_neg (by decide)]
      have hl : n = x1.ch.length := by rw [hch rfl, List.length_take]; omega
      have hf : x1.fin = 0 := f.elim (fun e => e.trans h0) fun e => by cases e.2
      obtain ⟨g1, g2, g3, g4, g5⟩ := ih x1 hl hf (a2 rfl).toB
      exact ⟨g1, by omega, g3.trans c, g4.trans d, g5⟩

/-- What holds between two steps of a search. -/
structure RInv (p : List Cl) (S : PS) : Prop where
  core : S.fin = 0 → PInv p S ∧ S.ans.length < 40
  steps : S.steps ≤ 400
  pot : S.vars + 12 * potC p.length S.ch + 360 * (400 - S.steps) ≤ 144012
  fin : S.fin ≤ 4

/-- The state in which a goal is called. -/
theorem PInv.call {p : List Cl} {S : PS} (h : PInv p S) (hne : S.now ≠ []) : CInv p S.now (look S.σ (headT S.now)) { S with steps := S.steps + 1, f := 4000 } :=
  ⟨h.sinv, h.dom, h.trail, ⟨hne, h.now⟩, fit_look h.sinv.rank.ends (fun v u e => (h.dom v u e).1) (fit_headT hne h.now), fun c hc => by
    obtain ⟨a, b, c, d, e⟩ := h.snap c hc
    exact ⟨a, b, c, d, by (try simp only); omega⟩, h.mono, fun c hc => (h.snap c hc).1.2.1, by have := h.len; simp only; omega, by (try simp only); omega, h.base⟩

theorem PInv.toB1 {p : List Cl} {S : PS} (h : PInv p S) {f : Nat} {now : List Goal} : BInv p { S with steps := S.steps + 1, f := f, now := now } :=
  ⟨h.sinv, h.dom, h.trail, fun c hc => by
    obtain ⟨a, b, c, d, e⟩ := h.snap c hc
    exact ⟨a, b, c, d, by (try simp only); omega⟩, h.mono, by have := h.len; simp only; omega, h.base⟩

/-- The goals behind the first one are taken next. -/
theorem PInv.tail {p : List Cl} {S : PS} (h : PInv p S) {f k : Nat} : PInv p { S with steps := S.steps + 1, f := f, now := S.now.tail, ch := S.ch.take k } :=
  ⟨h.sinv, h.dom, h.trail, fun g hg => h.now g (List.mem_of_mem_tail hg), fun c hc => by
    obtain ⟨a, b, c, d, e⟩ := h.snap c (List.mem_of_mem_take hc)
    exact ⟨a, b, c, d, by (try simp only); omega⟩, h.mono.sublist (List.take_sublist _ _), by have := h.len; simp only; omega, h.base⟩

theorem getD_fit {n : Nat} {l : List Tm} {i : Nat} (hi : i < l.length) (h : ∀ x, x ∈ l → Fit n x) : Fit n (l.getD i default) := by
  rw [List.getD_eq_getElem?_getD, List.getElem?_eq_getElem hi]; exact h _ (List.getElem_mem _)

theorem means_two {t : Tm} (hm : ¬ meansB t.name t.args.length = false) (h1 : t.name ≠ ⟨#[33]⟩) (h2 : t.name ≠ ⟨#[116, 114, 117, 101]⟩) (h3 : t.name ≠ ⟨#[102, 97, 105, 108]⟩) : t.args.length = 2 := by
  have hm' : meansB t.name t.args.length = true := by simpa using hm
  have ne : ∀ l : List UInt8, t.name ≠ ⟨l.toArray⟩ → (t.name.toList == l) = false := fun l hl => by
    rw [beq_eq_false_iff_ne]
    intro e
    apply hl
    have : t.name.data.toList = l := by rw [← e, ByteArray.toList_eq]
    cases hb : t.name with
    | mk d => rw [hb] at this; rw [← this]
  unfold meansB at hm'
  rw [ne _ h1, ne _ h2, ne _ h3] at hm'
  simp at hm'
  exact hm'.1

/-- Two terms are made the same as a goal. -/
theorem PInv.eq {p : List Cl} {S : PS} (h : PInv p S) {a b : Tm} (ha : Fit (S.vars + 1) a) (hb : Fit (S.vars + 1) b) {σ : Sub} {L : List Int} {f : Nat} (hm : meet S.σ S.L 4000 [(a, b)] = .ok σ L f) :
    PInv p { S with steps := S.steps + 1, σ := σ, L := L, f := f, now := S.now.tail } := by
  have hw2 : ∀ q ∈ [(a, b)], Fit (S.vars + 1) q.1 ∧ Fit (S.vars + 1) q.2 := fun q hq => by rw [List.mem_singleton] at hq; subst hq; exact ⟨ha, hb⟩
  have hw : ∀ q ∈ [(a, b)], WfT q.1 ∧ WfT q.2 := fun q hq => ⟨(hw2 q hq).1.wf, (hw2 q hq).2.wf⟩
  have hg := meet_grow 4000 S.σ S.L _ h.sinv hw
  rw [hm] at hg
  obtain ⟨hg1, hg2⟩ := hg
  have hd : ∀ v u, S.σ v = some u → Fit (S.vars + 1) u := fun v u e => (h.dom v u e).1
  have hdom := meet_dom 4000 S.σ S.L _ σ L f h.sinv hd hw2 hm
  have hkey := meet_keys 4000 S.σ S.L _ σ L f h.sinv hd (fun v u e => (h.dom v u e).2) hw2 hm
  refine ⟨meet_sinv 4000 S.σ S.L _ σ L f h.sinv hw hm, fun v u e => ⟨hdom v u e, hkey v u e⟩, hg1.ok h.trail, fun g hg => h.now g (List.mem_of_mem_tail hg), fun c hc => ?_, h.mono, by have := h.len; simp only; omega, h.base⟩
  obtain ⟨a, b, c, d, e⟩ := h.snap c hc
  exact ⟨hg1.snap a, b, c, d, by (try simp only); omega⟩

/-- Taking a goal. -/
theorem take_inv {p : List Cl} (hp : POk p) (h30 : p.length ≤ 30) {S : PS} (h : RInv p S) (h0 : S.fin = 0) (hne : S.now ≠ []) (hst : S.steps < 400) :
    RInv p (ptake p S) ∧ (ptake p S).steps = S.steps + 1 ∧ (ptake p S).ans = S.ans := by
  obtain ⟨hP, hA⟩ := h.core h0
  have hpot := h.pot
  have hback : ∀ S1 : PS, S1.fin = 0 → BInv p S1 → S1.steps = S.steps + 1 → S1.ans = S.ans → S1.vars + 12 * potC p.length S1.ch + 360 * (400 - (S.steps + 1)) ≤ 144012 →
      RInv p (pback p S1.ch.length S1) ∧ (pback p S1.ch.length S1).steps = S.steps + 1 ∧ (pback p S1.ch.length S1).ans = S.ans := fun S1 k0 k1 k2 k3 k4 => by
    obtain ⟨g1, g2, g3, g4, g5⟩ := back_inv hp S1.ch.length S1 rfl k0 k1
    exact ⟨⟨fun e => ⟨g1 e, by rw [g3, k3]; exact hA⟩, by rw [g4, k2]; omega, by rw [g4, k2]; omega, by omega⟩, g4.trans k2, g3.trans k3⟩
  simp only [ptake]
  split
  · exact ⟨⟨(fun e => by cases e), by (try simp only); omega, by (try simp only); omega, Nat.le_refl _⟩, rfl, rfl⟩
  · split
    · have hci := hP.call hne
      obtain ⟨⟨a1, a2⟩, b, c, d, e, f⟩ := call_inv hp p.length 0 { S with steps := S.steps + 1, f := 4000 } (by omega) (Nat.zero_le _) hci
      generalize pcall p S.now (look S.σ (headT S.now)) 0 { S with steps := S.steps + 1, f := 4000 } = x at *
      obtain ⟨x1, x2⟩ := x
      simp only at a1 a2 b c d e f ⊢
      cases x2 with
      | true =>
        rw [if_pos rfl]
        exact ⟨⟨fun h => ⟨a1 ⟨rfl, h⟩, by rw [c]; exact hA⟩, by omega, by rw [d]; omega, by omega⟩, d, c⟩
      | false =>
        rw [if_neg (by decide)]
        exact hback x1 (f.elim (fun e => e.trans h0) fun e => by cases e.2) (a2 rfl).toB d c (by omega)
    · rename_i hv hm
      split
      · refine ⟨⟨fun _ => ⟨hP.tail, hA⟩, by (try simp only); omega, ?_, by (try simp only); omega⟩, rfl, rfl⟩
        have := potC_take p.length S.ch ((S.now.head?.map (·.2)).getD 0)
        simp only; omega
      · rename_i h1
        split
        · refine ⟨⟨fun _ => ⟨?_, hA⟩, by (try simp only); omega, by (try simp only); omega, by (try simp only); omega⟩, rfl, rfl⟩
          have := hP.tail (f := 4000) (k := S.ch.length)
          rw [List.take_length] at this
          exact this
        · rename_i h2
          split
          · exact hback { S with steps := S.steps + 1, f := 4000 } h0 (hP.toB1) rfl rfl (by (try simp only); omega)
          · rename_i h3
            have hf := fit_look hP.sinv.rank.ends (fun v u e => (hP.dom v u e).1) (fit_headT hne hP.now)
            have hl2 := means_two hm h1 h2 h3
            have f0 := getD_fit (i := 0) (by omega) fun x hx => hf.arg hx
            have f1 := getD_fit (i := 1) (by omega) fun x hx => hf.arg hx
            split
            · rename_i hA2
              exact ⟨⟨fun _ => ⟨hP.eq f0 f1 hA2, hA⟩, by (try simp only); omega, by (try simp only); omega, by (try simp only); omega⟩, rfl, rfl⟩
            · rename_i f _
              exact hback { S with steps := S.steps + 1, f := f, now := S.now.tail } h0 (hP.toB1) rfl rfl (by (try simp only); omega)
            · exact ⟨⟨(fun e => by cases e), by (try simp only); omega, by (try simp only); omega, by (try simp only); omega⟩, rfl, rfl⟩

theorem answ_inv {p : List Cl} (hp : POk p) (query : Nat) {S : PS} (h : RInv p S) (h0 : S.fin = 0) :
    RInv p (pansw p query S) ∧ (pansw p query S).steps = S.steps ∧ ((pansw p query S).fin = 0 → (pansw p query S).ans.length = S.ans.length + 1) := by
  obtain ⟨hP, hA⟩ := h.core h0
  have hpot := h.pot
  simp only [pansw]
  split
  · exact ⟨⟨(fun e => by cases e), h.steps, hpot, by (try simp only); omega⟩, rfl, (fun e => by cases e)⟩
  · rename_i x _
    split
    · exact ⟨⟨(fun e => by cases e), h.steps, hpot, by (try simp only); omega⟩, rfl, (fun e => by cases e)⟩
    · rename_i h40
      obtain ⟨g1, g2, g3, g4, g5⟩ := back_inv hp S.ch.length { S with ans := S.ans ++ [(Tm.rens numV [] x.1).1] } rfl h0 ⟨hP.sinv, hP.dom, hP.trail, hP.snap, hP.mono, hP.len, hP.base⟩
      have hl : (pback p S.ch.length { S with ans := S.ans ++ [(Tm.rens numV [] x.1).1] }).ans.length = S.ans.length + 1 := by rw [g3]; simp
      refine ⟨⟨fun e => ⟨g1 e, by rw [hl]; omega⟩, by rw [g4]; exact h.steps, ?_, by omega⟩, g4, fun _ => hl⟩
      rw [g4]; simp only at g2 ⊢; omega

/-- One step. -/
theorem step_inv {p : List Cl} (hp : POk p) (h30 : p.length ≤ 30) (query : Nat) {most : Nat} (hmost : most ≤ 400) {S : PS} (h : RInv p S) (h0 : S.fin = 0) (hs : S.steps ≤ most) :
    RInv p (pstep p query most S) ∧ (pstep p query most S).steps ≤ most ∧ ((pstep p query most S).fin = 0 → (most - (pstep p query most S).steps) + (40 - (pstep p query most S).ans.length) + 1 = (most - S.steps) + (40 - S.ans.length)) := by
  unfold pstep
  by_cases hn : S.now = []
  · rw [if_pos hn]
    obtain ⟨a, b, c⟩ := answ_inv hp query h h0
    refine ⟨a, by rw [b]; exact hs, fun e => ?_⟩
    have := c e
    have := (h.core h0).2
    rw [b]; omega
  · rw [if_neg hn]
    by_cases hm : (S.steps : Int) = most
    · rw [if_pos hm]
      exact ⟨⟨(fun e => by cases e), h.steps, h.pot, by (try simp only); omega⟩, hs, (fun e => by cases e)⟩
    · rw [if_neg hm]
      obtain ⟨a, b, c⟩ := take_inv hp h30 h h0 hn (by omega)
      exact ⟨a, by rw [b]; omega, fun _ => by rw [b, c]; omega⟩

/-- The whole search, at most so many steps of it. -/
noncomputable def prun (p : List Cl) (query : Nat) (most : Int) : Nat → PS → PS
  | 0, S => S
  | n + 1, S => if S.fin = 0 then prun p query most n (pstep p query most S) else S

noncomputable def rrun (p : List Cl) (query : Nat) (most : Int) : Nat → RS → RS
  | 0, S => S
  | n + 1, S => if S.fin = 0 then rrun p query most n (rstep p query most S) else S

theorem run_rel {p : List Cl} (hp : POk p) {query : Nat} (hq : query ≤ 12) (most : Int) : ∀ (n : Nat) (S : PS) (R : RS), SRel S R → SRel (prun p query most n S) (rrun p query most n R) := by
  intro n
  induction n with
  | zero => intro S R h; exact h
  | succ n ih =>
    intro S R h
    unfold prun rrun
    by_cases h0 : S.fin = 0
    · rw [if_pos h0, if_pos (h.fin ▸ h0)]
      exact ih _ _ (step_rel hp hq most h h0)
    · rw [if_neg h0, if_neg (h.fin ▸ h0)]; exact h

/-- The search ends. -/
theorem prun_ends {p : List Cl} (hp : POk p) (h30 : p.length ≤ 30) (query : Nat) {most : Nat} (hmost : most ≤ 400) : ∀ (n : Nat) (S : PS), RInv p S → S.steps ≤ most → (S.fin = 0 → (most - S.steps) + (40 - S.ans.length) < n) → (prun p query most n S).fin ≠ 0 := by
  intro n
  induction n with
  | zero => intro S h _ hn e; exact absurd (hn e) (by omega)
  | succ n ih =>
    intro S h hs hn
    unfold prun
    by_cases h0 : S.fin = 0
    · rw [if_pos h0]
      obtain ⟨a, b, c⟩ := step_inv hp h30 query hmost h h0 hs
      exact ih _ a b fun e => by have := c e; have := hn h0; omega
    · rw [if_neg h0]; exact h0

end Go.Proofs.Ytikmgiapjigghaa

/- The searcher in memory: the store's work is set, its bindings are taken back, a choice is read. -/
namespace Go.Proofs.Ytikmgiapjigghaa
open Go.RowKit

section
variable {w w' : World} {br bs bm : Nat} {tv cv av : Value} {np pa : Option Addr} {pc : Nat} {p : List Cl} {query : Nat} {S S' : PS} {wk : Nat}

theorem StAt.setWork {ok : Nat → Prop} {σ : Sub} {L : List Int} (h : StAt w ok bs bm tv σ L wk) (k : Nat) : StAt (w.setCell ⟨bs, 2, none⟩ (.int .i64 (k : Nat))) ok bs bm tv σ L k := by
  obtain ⟨f, h1, h2⟩ := h.map
  have ht : Touch (StM bs bm tv) w (w.setCell ⟨bs, 2, none⟩ (.int .i64 (k : Nat))) := Touch.setCell _ (.inl rfl)
  have hk := h.keeps ht
  refine ⟨by rw [heap_setCell_at _ _ _ _ h.blk]; rfl, ?_, ⟨f, h1.kept (Below.heap_setCell _ _ _ _ (fun e => h.ne.1 e.symm)), fun k => (h2 k).keep hk⟩, h.ne, fun b hb => ⟨Nat.lt_of_lt_of_le (h.okb b hb).1 ht.size, (h.okb b hb).2⟩⟩
  refine h.trail.kept (row := some bs) ⟨ht.os, ht.tape, ht.output, ht.size, fun k _ hk => Below.heap_setCell _ _ _ _ (fun e => hk (by rw [e]))⟩ (.inr h.ne.2.1)

/-- The work is set. -/
theorem SAt.setWork (h : SAt w br bs bm tv cv av np pa pc p query S wk) (k : Nat) :
    SAt (w.setCell ⟨bs, 2, none⟩ (.int .i64 (k : Nat))) br bs bm tv cv av np pa pc p query S k ∧ Touch (SM br bs bm tv cv av) w (w.setCell ⟨bs, 2, none⟩ (.int .i64 (k : Nat))) := by
  have ht : Touch (StM bs bm tv) w (w.setCell ⟨bs, 2, none⟩ (.int .i64 (k : Nat))) := Touch.setCell _ (.inl rfl)
  exact ⟨h.store ht (Fresh.self _ _) (h.st.setWork k), ht.mono fun b _ e => .inr (.inl e)⟩

/-- The work is not of the search. -/
theorem SAt.plain (h : SAt w br bs bm tv cv av np pa pc p query S wk) (h1 : S'.σ = S.σ) (h2 : S'.L = S.L) (h3 : S'.vars = S.vars) (h4 : S'.ch = S.ch) (h5 : S'.now = S.now) (h6 : S'.ans = S.ans) (h7 : S'.fin = S.fin) (h8 : S'.steps = S.steps) : SAt w br bs bm tv cv av np pa pc p query S' wk :=
  ⟨by rw [h3, h7, h8]; exact h.blk, by rw [h1, h2]; exact h.st, h.prog, by rw [h5]; exact h.now, by rw [h4]; exact h.ch, by rw [h6]; exact h.ans, h.sep⟩

/-- The last choice, read. -/
theorem SAt.last (h : SAt w br bs bm tv cv av np pa pc p query S wk) {n : Nat} (hn : n < S.ch.length) :
    ∃ g cap gp, cv = .slice (some ⟨g, 0, none⟩) S.ch.length cap ∧ S.ch.length ≤ cap ∧ cap ≤ maxLen ∧ g < w.heap.size ∧ (∀ o, w.frozen? ⟨g, o, none⟩ = false) ∧
      w.cell? ⟨g, n * 3, none⟩ = some (.pointer gp) ∧ w.cell? ⟨g, n * 3 + 1, none⟩ = some (.int .i64 S.ch[n].cl) ∧ w.cell? ⟨g, n * 3 + 2, none⟩ = some (.int .i64 S.ch[n].L.length) ∧ GAt w (OkS w br bs bm tv cv av) gp S.ch[n].gs := by
  obtain ⟨Q, h1, h2, h3⟩ := h.ch
  have hl : Q.length = S.ch.length := by rw [← h1, List.length_map]
  have hq : n < Q.length := by omega
  have hrow := h2
  obtain ⟨hlen, hr⟩ := h2
  rcases hr with ⟨rfl, h0⟩ | ⟨g, cap, cur, rfl, hb, hg, hc, hm2, hs, htk⟩
  · omega
  obtain ⟨e1, e2, e3⟩ := flatC_at Q n hq
  have hQn : Q[n].2 = S.ch[n] := by
    have : (Q.map (·.2))[n]'(by rw [List.length_map]; exact hq) = S.ch[n] := by simp only [h1]
    rw [← this, List.getElem_map]
  have hfl := flatC_length Q
  refine ⟨g, cap, Q[n].1, by rw [hl], by omega, hm2, (hrow.lt g rfl).2, fun o => hrow.frozenAt o, (hrow.cellAt _ (by omega)).trans e1, (hrow.cellAt _ (by omega)).trans (by rw [e2, hQn]), (hrow.cellAt _ (by omega)).trans (by rw [e3, hQn]), ?_⟩
  rw [← hQn]
  exact h3 _ (List.getElem_mem hq)

theorem GAt.okstep {ok ok' : Nat → Prop} {gp : Option Addr} {l : List Goal} (h : GAt w ok gp l) (hk : Keeps ok w w') (hm : ∀ b, ok b → ok' b) : GAt w' ok' gp l := (h.keep hk).mono fun b _ => hm b
end

end Go.Proofs.Ytikmgiapjigghaa

/- What the searcher's call leaves; small laws. -/
namespace Go.Proofs.Ytikmgiapjigghaa
open Go.RowKit

/-- What call leaves. -/
def ClPost (w : World) (br bs bm : Nat) (tv cv av : Value) (pa : Option Addr) (pc : Nat) (p : List Cl) (query : Nat) (r : PS × Bool) (e : Ending) (w' : World) : Prop :=
  e = .returned (.bool r.2) ∧ Touch (SM br bs bm tv cv av) w w' ∧ ∃ (tv' cv' : Value) (np' : Option Addr) (wk' : Nat), Fresh w tv tv' ∧ Fresh w cv cv' ∧ SAt w' br bs bm tv' cv' av np' pa pc p query r.1 wk'

theorem row_form {w : World} {base : Nat} {e : TypeId} {size : Nat} {v : Value} {n : Nat} {xs : List Value} (h : w.ownsRow base e size v n xs) : ∃ a c, v = .slice a n c ∧ n ≤ 9223372036854775807 := by
  obtain ⟨_, h2⟩ := h
  rcases h2 with ⟨rfl, rfl⟩ | ⟨g, cap, cur, rfl, _, _, h3, h4, _, _⟩
  · exact ⟨none, 0, rfl, by omega⟩
  · exact ⟨_, cap, rfl, by unfold maxLen at h4; omega⟩

theorem alloc_set (w : World) {b o : Nat} {v : Value} {X : Obj} (h : b < w.heap.size) : (w.setCell ⟨b, o, none⟩ v).alloc X = (w.alloc X).setCell ⟨b, o, none⟩ v := by
  simp only [World.setCell, World.alloc]
  congr 1
  apply Array.ext_getElem?
  intro i
  simp only [Array.getElem?_push, Array.getElem?_modify, Array.size_modify]
  by_cases e : i = w.heap.size
  · subst e
    have hne : b ≠ w.heap.size := by omega
    simp [hne]
  · simp only [if_neg e]

theorem potC_len {m : Nat} : ∀ {ch : List PCh}, (∀ c, c ∈ ch → c.cl < m) → ch.length ≤ potC m ch := by
  intro ch
  induction ch with
  | nil => intro _; exact Nat.zero_le _
  | cons c r ih =>
    intro h
    have h1 := h c List.mem_cons_self
    have h2 := ih fun c hc => h c (List.mem_cons_of_mem _ hc)
    simp only [potC, List.map_cons, List.sum_cons, List.length_cons] at h2 ⊢
    omega

theorem three_cells (w : World) (x y z : Value) (e : TypeId) : ∀ j u, [x, y, z][j]? = some u → (w.alloc (.cells #[x, y, z] e)).cell? ((⟨w.heap.size, 0, none⟩ : Addr).add j) = some u := by
  intro j u hu
  have hj : j < 3 := by simpa using (List.getElem?_eq_some_iff.1 hu).1
  rcases (by omega : j = 0 ∨ j = 1 ∨ j = 2) with rfl | rfl | rfl
  all_goals
    simp at hu
    subst hu
    simp [Addr.add, World.cell?, World.alloc, -World.alloc_eq]

theorem Try.infoCh1 : (Try.prog.info? 206).map (fun i => (i.size, i.bytes)) = some (3, 24) := by kernel_rfl
theorem Try.infoCh2 : ((Try.prog.info? 206).bind (fun i => i.zero)).map (fun z => z.cells.size) = some 3 := by kernel_rfl
theorem infoCh : ∃ i z, Try.prog.info? 206 = some i ∧ i.zero = some z ∧ i.size = 3 ∧ i.bytes = 24 ∧ z.cells.size = 3 := by
  have h1 := Try.infoCh1; have h2 := Try.infoCh2
  obtain ⟨i, hi, h3⟩ := Option.map_eq_some_iff.1 h1
  obtain ⟨z, hz, h4⟩ := Option.map_eq_some_iff.1 h2
  rw [hi, Option.bind_some] at hz
  simp only [Prod.mk.injEq] at h3
  exact ⟨i, z, hi, hz, h3.1, h3.2, h4⟩

/-- A box of the call's own, while the searcher turns. -/
structure CalT (M : Nat → Prop) (wv : World) (b1 b2 : Nat) (x0 x1 x2 : Value) (y : Array Value) (u : World) : Prop where
  touch : Touch M wv u
  a : Box3 wv b1 x0 x1 x2
  b : wv.heap[b2]? = some (.cells y 90 (0, 0))
  ne : ¬ M b1 ∧ ¬ M b2

theorem SM_lt {w : World} {br bs bm : Nat} {tv cv av : Value} {np pa : Option Addr} {pc : Nat} {p : List Cl} {query : Nat} {S : PS} {wk : Nat} (h : SAt w br bs bm tv cv av np pa pc p query S wk) {b : Nat} (hb : SM br bs bm tv cv av b) : b < w.heap.size := by
  rcases hb with rfl | (rfl | rfl | e) | e | e
  · exact h.lt
  · exact h.st.lt
  · exact h.st.blocks.1
  · exact h.st.blocks.2 b e
  · obtain ⟨Q, _, h2, _⟩ := h.ch; exact (h2.lt b e).2
  · obtain ⟨A, _, h2, _⟩ := h.ans; exact (h2.lt b e).2

theorem SmPost.up {w u : World} {br bs bm : Nat} {tv cv av : Value} {np pa : Option Addr} {pc : Nat} {p : List Cl} {query : Nat} {S : PS} {o : MOut} {e : Ending} {w' : World} (hb : Below w.heap.size w u) (h : SmPost u br bs bm tv cv av np pa pc p query S o e w') : SmPost w br bs bm tv cv av np pa pc p query S o e w' := by
  obtain ⟨h1, tv', h2, h3⟩ := h
  exact ⟨(Touch.below hb).trans h1, tv', h2.old hb.size, h3⟩

theorem SmPost.form {w : World} {br bs bm : Nat} {tv cv av : Value} {np pa : Option Addr} {pc : Nat} {p : List Cl} {query : Nat} {S : PS} {o : MOut} {e : Ending} {w' : World} (h : SmPost w br bs bm tv cv av np pa pc p query S o e w') : ∃ b : Bool, e = .returned (.bool b) := by
  obtain ⟨_, _, _, h⟩ := h
  cases o with
  | ok _ _ _ => exact ⟨_, h.1⟩
  | no _ _ _ => exact ⟨_, h.1⟩
  | many _ _ => exact ⟨_, h.1⟩

end Go.Proofs.Ytikmgiapjigghaa

/- The reference's goals in memory: what a slice of them is made of. -/
namespace Go.Proofs.Ytikmgiapjigghaa.Emb
open Go.RowKit Go.Proofs.Ytikmgiapjigghaa

abbrev TdE := Goal × (Option Addr × Nat)

def TdEach (w : World) (ok : Nat → Prop) (L : List TdE) : Prop := ∀ x, x ∈ L → x.1.1.fits ∧ Ts w ok x.1.1.args x.2.1 x.2.2

theorem TdEach.keep {w w' : World} {ok : Nat → Prop} (hk : Keeps ok w w') {L : List TdE} (h : TdEach w ok L) : TdEach w' ok L := fun x hx => ⟨(h x hx).1, (h x hx).2.keep hk⟩
theorem TdEach.mono {w : World} {ok ok' : Nat → Prop} (hk : ∀ b, b < w.heap.size → ok b → ok' b) {L : List TdE} (h : TdEach w ok L) : TdEach w ok' L := fun x hx => ⟨(h x hx).1, (h x hx).2.mono hk⟩
theorem TdEach.append {w : World} {ok : Nat → Prop} {L R : List TdE} (h : TdEach w ok L) (k : TdEach w ok R) : TdEach w ok (L ++ R) := fun x hx => (List.mem_append.1 hx).elim (h x) (k x)
theorem TdEach.one {w : World} {ok : Nat → Prop} {g : Goal} {a : Option Addr} {c : Nat} (hf : g.1.fits) (h : Ts w ok g.1.args a c) : TdEach w ok [(g, a, c)] := fun x hx => by
  rw [List.mem_singleton] at hx; subst hx; exact ⟨hf, h⟩

theorem TdAt.open {w : World} {ok : Nat → Prop} {l : List Goal} {a : Option Addr} {cap : Nat} (h : TdAt w ok l a cap) :
    ∃ L : List TdE, L.map (·.1) = l ∧ TdEach w ok L ∧ (∀ ad, a = some ad → ∀ j u, (flatT L)[j]? = some u → w.cell? (ad.add j) = some u) := by
  have h2 : ∀ i : Nat, ∃ x : Option Addr × Nat, ∀ (hi : i < l.length), ∃ (b off : Nat), a = some ⟨b, off, none⟩ ∧ ok b ∧ b < w.heap.size ∧ Cells3 w b (off + i * 4) l[i].1 x.1 x.2 ∧ w.cell? ⟨b, off + i * 4 + 3, none⟩ = some (.int .i64 l[i].2) ∧ Ts w ok l[i].1.args x.1 x.2 := fun i => by
    by_cases hi : i < l.length
    · obtain ⟨b, off, a1, c1, e⟩ := h.elem i hi
      exact ⟨(a1, c1), fun _ => ⟨b, off, e⟩⟩
    · exact ⟨(none, 0), fun e => absurd e hi⟩
  obtain ⟨x, hx⟩ := Classical.axiomOfChoice h2
  refine ⟨(List.range l.length).attach.map fun i => (l[i.1]'(List.mem_range.1 i.2), x i.1), ?_, ?_, ?_⟩
  · exact List.ext_getElem (by simp) fun i h1 h2 => by simp
  · rintro y hy
    obtain ⟨⟨i, hi⟩, _, rfl⟩ := List.mem_map.1 hy
    obtain ⟨b, off, _, _, _, h4, _, h6⟩ := hx i (List.mem_range.1 hi)
    exact ⟨h4.fits, h6⟩
  · rintro ad rfl j u hu
    have hj : j < ((List.range l.length).attach.map fun i => ((l[i.1]'(List.mem_range.1 i.2), x i.1) : TdE)).length * 4 := by
      rw [← flatT_length]; exact (List.getElem?_eq_some_iff.1 hu).1
    have hi : j / 4 < l.length := by simp at hj; omega
    obtain ⟨b, off, h1, _, _, h4, h5, _⟩ := hx (j / 4) hi
    simp only [Option.some.injEq] at h1
    subst h1
    have h5' := flatT_at ((List.range l.length).attach.map fun i => ((l[i.1]'(List.mem_range.1 i.2), x i.1) : TdE)) (j / 4) (by simpa using hi)
    simp only [List.getElem_map, List.getElem_attach, List.getElem_range] at h5'
    rw [addr_add]
    have hd : j = j / 4 * 4 + j % 4 := by omega
    rcases (by omega : j % 4 = 0 ∨ j % 4 = 1 ∨ j % 4 = 2 ∨ j % 4 = 3) with e | e | e | e
    · rw [hd, e, Nat.add_zero] at hu ⊢
      rw [h5'.1] at hu; cases hu; exact h4.var
    · rw [hd, e] at hu ⊢
      rw [h5'.2.1] at hu; cases hu; exact h4.name
    · rw [hd, e] at hu ⊢
      rw [h5'.2.2.1] at hu; cases hu; exact h4.args
    · rw [hd, e] at hu ⊢
      rw [h5'.2.2.2] at hu; cases hu; exact h5

theorem TdAt.of_row {w : World} {ok : Nat → Prop} {base : Nat} {v : Value} {L : List TdE} (h : w.ownsRow base 144 4 v L.length (flatT L)) (hok : ∀ b, v.ownBlock = some b → ok b) (he : TdEach w ok L) :
    ∃ a cap, v = .slice a (L.map (·.1)).length cap ∧ TdAt w ok (L.map (·.1)) a cap := by
  have hrow := h
  rcases h.2 with ⟨rfl, hn⟩ | ⟨g, cap, cur, rfl, hb, hg, hcap, hml, hsz, htk⟩
  · have : L = [] := List.eq_nil_of_length_eq_zero hn
    subst this
    exact ⟨none, 0, rfl, ⟨⟨Nat.le_refl _, Nat.zero_le _, fun _ => rfl⟩, fun i hi => by cases hi⟩⟩
  · refine ⟨some ⟨g, 0, none⟩, cap, by simp, ⟨⟨by simpa using hcap, hml, fun h => by cases h⟩, fun i hi => ?_⟩⟩
    have hi' : i < L.length := by simpa using hi
    obtain ⟨h1, h2, h3, h4⟩ := flatT_at L i hi'
    have hl := flatT_length L
    refine ⟨g, 0, L[i].2.1, L[i].2.2, rfl, hok g rfl, (Array.getElem?_eq_some_iff.1 hg).1, ?_, ?_, ?_⟩
    · simp only [List.getElem_map, Nat.zero_add]
      exact ⟨(hrow.cellAt _ (by omega)).trans h1, (hrow.cellAt _ (by omega)).trans h2, (hrow.cellAt _ (by omega)).trans h3, (he _ (List.getElem_mem hi')).1⟩
    · simp only [List.getElem_map, Nat.zero_add]
      exact (hrow.cellAt _ (by omega)).trans h4
    · simp only [List.getElem_map]
      exact (he _ (List.getElem_mem hi')).2

/-- What Try leaves. -/
def TrPost (w : World) (xs : Nat) (C : Nat → Prop) (av : Value) (pa : Option Addr) (pc : Nat) (p : List Cl) (query : Nat) (r : RS × Bool) (e : Ending) (w' : World) : Prop :=
  e = .returned (.bool r.2) ∧ Touch C w w' ∧ ∃ C', SameC w C C' ∧ ∃ (bv' kv' : Value) (ta' : Option Addr) (tc' : Nat) (B' : List TmAt) (wk' : Nat), RSAt w' xs C' bv' kv' av pa ta' pc tc' p query r.1 B' wk'

theorem Try.infoTd1 : (Try.prog.info? 144).map (fun i => (i.size, i.bytes)) = some (4, 56) := by kernel_rfl
theorem Try.infoTd2 : ((Try.prog.info? 144).bind (fun i => i.zero)).map (fun z => z.cells.size) = some 4 := by kernel_rfl
theorem infoTd : ∃ i z, Try.prog.info? 144 = some i ∧ i.zero = some z ∧ i.size = 4 ∧ i.bytes = 56 ∧ z.cells.size = 4 := by
  have h1 := Try.infoTd1; have h2 := Try.infoTd2
  obtain ⟨i, hi, h3⟩ := Option.map_eq_some_iff.1 h1
  obtain ⟨z, hz, h4⟩ := Option.map_eq_some_iff.1 h2
  rw [hi, Option.bind_some] at hz
  simp only [Prod.mk.injEq] at h3
  exact ⟨i, z, hi, hz, h3.1, h3.2, h4⟩

theorem Try.infoKp1 : (Try.prog.info? 191).map (fun i => (i.size, i.bytes)) = some (3, 56) := by kernel_rfl
theorem Try.infoKp2 : ((Try.prog.info? 191).bind (fun i => i.zero)).map (fun z => z.cells.size) = some 3 := by kernel_rfl
theorem infoKp : ∃ i z, Try.prog.info? 191 = some i ∧ i.zero = some z ∧ i.size = 3 ∧ i.bytes = 56 ∧ z.cells.size = 3 := by
  have h1 := Try.infoKp1; have h2 := Try.infoKp2
  obtain ⟨i, hi, h3⟩ := Option.map_eq_some_iff.1 h1
  obtain ⟨z, hz, h4⟩ := Option.map_eq_some_iff.1 h2
  rw [hi, Option.bind_some] at hz
  simp only [Prod.mk.injEq] at h3
  exact ⟨i, z, hi, hz, h3.1, h3.2, h4⟩

end Go.Proofs.Ytikmgiapjigghaa.Emb

/- Plain: more variables of the reference's; what ends a search leaves. -/
namespace Go.Proofs.Ytikmgiapjigghaa.Emb
open Go.RowKit Go.Proofs.Ytikmgiapjigghaa

theorem subB_more {ls : List Tm} (n : Nat) : subB (ls ++ (fresh ls.length n).map (·.1)) = subB ls := by
  funext v
  have hfl : ((fresh ls.length n).map (·.1)).length = n := by simp [fresh]
  by_cases h0 : 0 ≤ v
  · by_cases h1 : v.toNat < ls.length
    · have h2 : v.toNat < (ls ++ (fresh ls.length n).map (·.1)).length := by rw [List.length_append]; omega
      unfold subB
      rw [dif_pos ⟨h0, h2⟩, dif_pos ⟨h0, h1⟩]
      rw [List.getElem_append_left h1]
    · have h3 : subB ls v = none := by unfold subB; rw [dif_neg (fun e => h1 e.2)]
      rw [h3]
      by_cases h2 : v.toNat < (ls ++ (fresh ls.length n).map (·.1)).length
      · refine subB_none h0 h2 ?_
        rw [List.getElem_append_right (by omega)]
        simp only [fresh, List.map_map, List.getElem_map, List.getElem_range, Function.comp_apply, VarT, Tm.var]
        omega
      · unfold subB; rw [dif_neg (fun e => h2 e.2)]
  · unfold subB
    rw [dif_neg (fun e => h0 e.1), dif_neg (fun e => h0 e.1)]

theorem FB.more {ls : List Tm} (h : FB ls) (n : Nat) : FB (ls ++ (fresh ls.length n).map (·.1)) := by
  have hfl : ((fresh ls.length n).map (·.1)).length = n := by simp [fresh]
  refine ⟨by rw [subB_more]; exact h.inv, fun t ht => ?_⟩
  rw [List.length_append, hfl]
  rcases List.mem_append.1 ht with ht | ht
  · exact (h.each t ht).mono (by omega)
  · simp only [fresh, List.map_map, List.mem_map, List.mem_range, Function.comp_apply] at ht
    obtain ⟨i, hi, rfl⟩ := ht
    exact fit_var (by omega) (by omega)

theorem inB_of {B : List TmAt} {t : Tm} (h : Fit B.length t) : InB B t := h.pos

/-- A search that goes on is that one; one that ended tells the same. -/
def REq (R R' : RS) : Prop := R'.ans = R.ans ∧ R'.fin = R.fin ∧ R'.steps = R.steps ∧ (R.fin = 0 → R' = R)

theorem REq.refl (R : RS) : REq R R := ⟨rfl, rfl, rfl, fun _ => rfl⟩

/-- What Try leaves. -/
def TryPost (w : World) (xs : Nat) (C : Nat → Prop) (av : Value) (pa : Option Addr) (pc : Nat) (p : List Cl) (query : Nat) (r : RS × Bool) (e : Ending) (w' : World) : Prop :=
  e = .returned (.bool r.2) ∧ Touch C w w' ∧ ∃ C', SameC w C C' ∧ ∃ (bv' kv' : Value) (ta' : Option Addr) (tc' : Nat) (R' : RS) (B' : List TmAt) (wk' : Nat), REq r.1 R' ∧ RSAt w' xs C' bv' kv' av pa ta' pc tc' p query R' B' wk' ∧ (r.1.fin = 0 → wk' = 4000 - r.1.f)

/-- What Try's clauses need of the search. -/
structure TInv (p : List Cl) (todo : List Goal) (t : Tm) (R : RS) : Prop where
  ne : todo ≠ []
  look : look R.τ (headT todo) = t
  t : Fit R.n t
  td : ∀ g, g ∈ todo → Fit R.n g.1
  n : 13 ≤ R.n ∧ R.n ≤ 900000
  f : R.f ≤ 4000
  kept : R.kept.length ≤ 900000
  len : todo.length ≤ 900000
  fin : R.fin = 0

theorem touchC_next {w w1 w2 : World} {C C1 : Nat → Prop} (h : Touch C w w1) (hs : SameC w C C1) (k : Touch C1 w1 w2) : Touch C w w2 := touch_trans0 h k hs

/-- A row of terms that lies by itself, and stays. -/
structure WasAt (w : World) (C : Nat → Prop) (v : Value) (B : List TmAt) : Prop where
  row : w.ownsRow 0 24 3 v B.length (flat B)
  each : TsEach w (OkC w C) B
  no : ∀ g, v.ownBlock = some g → ¬ C g

theorem WasAt.next {w w' : World} {C C' : Nat → Prop} {v : Value} {B : List TmAt} (h : WasAt w C v B) (ht : Touch C w w') (hs : SameC w C C') : WasAt w' C' v B :=
  ⟨Touch.row ht h.row h.no, (h.each.keep (Touch.keepsC ht)).mono fun _ _ hb => hb.next ht.size hs, fun g hg e => h.no g hg ((hs g (h.row.lt g hg).2).1 e)⟩

/-- What is left of work. -/
def leftM : MOut → Nat
  | .ok _ _ f => f
  | .no _ _ f => f
  | .many _ _ => 0

theorem pairStepR_done {σ : Sub} {f : Nat} {x y : Tm} {o : MOut} (h : pairStepR σ f x y = .done o) : leftM o ≤ f := by
  have hb : ∀ {v : Int} {t : Tm} {o : MOut}, bindStepR σ v t f = .done o → leftM o ≤ f := by
    intro v t o h
    unfold bindStepR at h
    have hw := within_le σ v f [t]
    split at h
    · rename_i f' he; cases h; exact hw.1 _ he
    · cases h; exact Nat.zero_le _
    · cases h
  unfold pairStepR at h
  split at h
  · cases h
  · split at h
    · exact hb h
    · split at h
      · exact hb h
      · split at h
        · cases h; exact Nat.le_refl _
        · cases h

theorem meetR_left : ∀ (f : Nat) (σ : Sub) (ps : List (Tm × Tm)), leftM (meetR σ f ps) ≤ f := by
  intro f
  induction f using Nat.strongRecOn with
  | _ f ih =>
  intro σ ps
  cases ps with
  | nil => rw [meetR_nil]; exact Nat.le_refl _
  | cons p r =>
    cases f with
    | zero => rw [meetR_zero]; exact Nat.zero_le _
    | succ f =>
      cases hp : pairStepR σ f (look σ p.1) (look σ p.2) with
      | done o => rw [meetR_done _ hp]; have := pairStepR_done hp; omega
      | go σ1 L1 f1 m =>
        rw [meetR_go _ hp]
        have h1 := pairStepR_le hp
        have := ih f1 (by omega) σ1 (m ++ r)
        omega

/-- Only what is coloured turned, and the colours agree. -/
structure Turn (w : World) (C : Nat → Prop) (w' : World) (C' : Nat → Prop) : Prop where
  touch : Touch C w w'
  same : SameC w C C'

theorem Turn.below {w w' : World} {C : Nat → Prop} (h : Below w.heap.size w w') : Turn w C w' C := ⟨Touch.below h, SameC.refl _ _⟩
theorem Turn.refl (w : World) (C : Nat → Prop) : Turn w C w C := ⟨Touch.refl _ _, SameC.refl _ _⟩
theorem Turn.trans {w w1 w2 : World} {C C1 C2 : Nat → Prop} (h : Turn w C w1 C1) (k : Turn w1 C1 w2 C2) : Turn w C w2 C2 :=
  ⟨touchC_next h.touch h.same k.touch, h.same.trans k.same h.touch.size⟩
theorem Turn.ts {w w' : World} {C C' : Nat → Prop} (h : Turn w C w' C') {l : List Tm} {a : Option Addr} {c : Nat} (ht : Ts w (OkC w C) l a c) : Ts w' (OkC w' C') l a c :=
  (ht.keep (Touch.keepsC h.touch)).mono fun _ _ hb => OkC.next h.touch.size h.same hb
theorem Turn.td {w w' : World} {C C' : Nat → Prop} (h : Turn w C w' C') {l : List Goal} {a : Option Addr} {c : Nat} (ht : TdAt w (OkC w C) l a c) : TdAt w' (OkC w' C') l a c :=
  (ht.keep (Touch.keepsC h.touch)).mono fun _ _ hb => OkC.next h.touch.size h.same hb
theorem Turn.box {w w' : World} {C C' : Nat → Prop} (h : Turn w C w' C') {b : Nat} {x0 x1 x2 : Value} (hx : Box3 w b x0 x1 x2) (hn : ¬ C b) : Box3 w' b x0 x1 x2 ∧ ¬ C' b :=
  ⟨hx.keep (h.touch.block b hx.lt hn), fun e => hn ((h.same b hx.lt).1 e)⟩

section
variable {w w' : World} {xs : Nat} {C C' : Nat → Prop} {bv kv av : Value} {pa ta : Option Addr} {pc tc : Nat} {p : List Cl} {query : Nat} {R : RS} {B : List TmAt} {wk : Nat}

/-- The search behind Meet. -/
def MetAt (w' : World) (xs : Nat) (C' : Nat → Prop) (gm capm : Nat) (kv av : Value) (pa ta : Option Addr) (pc tc : Nat) (p : List Cl) (query : Nat) (R : RS) (B' : List TmAt) (n : Int) : MOut → Prop
  | .ok σ _ f => n = 1 ∧ RSAt w' xs C' (.slice (some ⟨gm, 0, none⟩) R.n capm) kv av pa ta pc tc p query { R with τ := σ, f := f } B' (4000 - f)
  | .no σ _ f => n = 0 ∧ RSAt w' xs C' (.slice (some ⟨gm, 0, none⟩) R.n capm) kv av pa ta pc tc p query { R with τ := σ, f := f } B' (4000 - f)
  | .many σ _ => n = 2 ∧ RSAt w' xs C' (.slice (some ⟨gm, 0, none⟩) R.n capm) kv av pa ta pc tc p query { R with τ := σ } B' 4001

theorem RSAt.met {gm L capm : Nat} (h : RSAt w xs C (.slice (some ⟨gm, 0, none⟩) L capm) kv av pa ta pc tc p query R B wk) {o : MOut} {n : Int} (hm : MeetRPost (zOf p pa pc ta tc kv av query R) w (OkC w C) xs gm capm B.length o (.returned (.int .i64 n)) w') :
    ∃ C' B', Turn w C w' C' ∧ MetAt w' xs C' gm capm kv av pa ta pc tc p query R B' n o := by
  obtain ⟨ht, B', hl, hfb, hmm⟩ := hm
  have ht' : Touch (StV xs (.slice (some ⟨gm, 0, none⟩) L capm)) w w' := ht.mono fun b _ e => e.elim .inl fun e => .inr (by rw [e]; rfl)
  have hn : B'.length = R.n := hl.trans h.n
  have key : ∀ {wk' f' : Nat} {σ : Sub}, RAt (zOf p pa pc ta tc kv av query R) w' (OkC w C) xs gm capm B' wk' → subB (B'.map (·.1)) = σ → ∃ C', Turn w C w' C' ∧ RSAt w' xs C' (.slice (some ⟨gm, 0, none⟩) R.n capm) kv av pa ta pc tc p query { R with τ := σ, f := f' } B' wk' := by
    intro wk' f' σ hr hs
    obtain ⟨C', h1, h2, h3⟩ := h.state (bv' := .slice (some ⟨gm, 0, none⟩) B'.length capm) ht' (.inl rfl) hr.toV hfb f'
    rw [hs, hn] at h3
    exact ⟨C', ⟨h2, h1⟩, h3⟩
  cases o with
  | ok σ L f =>
    obtain ⟨he, hr, hs⟩ := hmm
    obtain ⟨C', h1, h2⟩ := key (f' := f) hr hs
    exact ⟨C', B', h1, by simpa using he, h2⟩
  | no σ L f =>
    obtain ⟨he, hr, hs⟩ := hmm
    obtain ⟨C', h1, h2⟩ := key (f' := f) hr hs
    exact ⟨C', B', h1, by simpa using he, h2⟩
  | many σ L =>
    obtain ⟨he, hr, hs⟩ := hmm
    obtain ⟨C', h1, h2⟩ := key (f' := R.f) hr hs
    exact ⟨C', B', h1, by simpa using he, h2⟩
end

end Go.Proofs.Ytikmgiapjigghaa.Emb

/- A slice of goals under construction. -/
namespace Go.Proofs.Ytikmgiapjigghaa.Emb
open Go.RowKit Go.Proofs.Ytikmgiapjigghaa

theorem four_cells (w : World) (x y z u : Value) (e : TypeId) : ∀ ad : Addr, some (⟨w.heap.size, 0, none⟩ : Addr) = some ad → ∀ j v, [x, y, z, u][j]? = some v → (w.alloc (.cells #[x, y, z, u] e)).cell? (ad.add j) = some v := by
  rintro ad ⟨⟩ j v hu
  have hj : j < 4 := by simpa using (List.getElem?_eq_some_iff.1 hu).1
  rcases (by omega : j = 0 ∨ j = 1 ∨ j = 2 ∨ j = 3) with rfl | rfl | rfl | rfl
  all_goals
    simp at hu
    subst hu
    simp [Addr.add, World.cell?, World.alloc, -World.alloc_eq]

/-- A row of goals of one's own, under construction. -/
structure OwnTd (w : World) (base : Nat) (C : Nat → Prop) (x : Value) (L : List TdE) : Prop where
  own : w.ownsRow base 144 4 x L.length (flatT L)
  each : TdEach w (fun b => OkC w C b ∧ x.ownBlock ≠ some b) L

theorem OwnTd.nil (w : World) (base : Nat) (C : Nat → Prop) : OwnTd w base C (.slice none 0 0) [] := ⟨World.ownsRow_nil _ _ _ _, fun x hx => by cases hx⟩

theorem OwnTd.form {w : World} {base : Nat} {C : Nat → Prop} {x : Value} {L : List TdE} (h : OwnTd w base C x L) : ∃ a cap, x = .slice a L.length cap := by
  rcases h.own.2 with ⟨h1, h2⟩ | ⟨g, cap, cur, h1, _⟩
  · exact ⟨none, 0, by rw [h1, h2]⟩
  · exact ⟨_, _, h1⟩

/-- Behind more memory, and an append to it. -/
theorem OwnTd.append {w wX X2 : World} {base : Nat} {C : Nat → Prop} {x x' : Value} {L R : List TdE} (h : OwnTd w base C x L) (hX : Below w.heap.size w wX) (hR : TdEach wX (fun b => OkC wX C b ∧ x.ownBlock ≠ some b) R)
    (ho : X2.ownsRow base 144 4 x' (L.length + R.length) (flatT L ++ flatT R)) (hg : wX.grownBy X2 x.ownBlock) (hf : Fresh wX x x') : OwnTd X2 base C x' (L ++ R) := by
  have hT : Touch (fun b => x.ownBlock = some b) wX X2 := Touch.grown hg fun k e => e
  have hk : Keeps (fun b => OkC wX C b ∧ x.ownBlock ≠ some b) wX X2 := hT.keeps fun b hb e => hb.2 e
  have hm : ∀ b, b < X2.heap.size → (OkC wX C b ∧ x.ownBlock ≠ some b) → OkC X2 C b ∧ x'.ownBlock ≠ some b := fun b _ hb => ⟨⟨Nat.lt_of_lt_of_le hb.1.1 hT.size, hb.1.2⟩, fun e => by
    rcases fresh_or hf e with h1 | h1
    · exact hb.2 h1
    · have := hb.1.1; omega⟩
  have h1 : TdEach wX (fun b => OkC wX C b ∧ x.ownBlock ≠ some b) L := (h.each.keep (Keeps.below hX _)).mono fun b _ hb => ⟨⟨Nat.lt_of_lt_of_le hb.1.1 hX.size, hb.1.2⟩, hb.2⟩
  refine ⟨by rw [List.length_append, flatT_append]; exact ho, ((h1.append hR).keep hk).mono hm⟩

/-- It reads as the goals. -/
theorem OwnTd.done {w : World} {base : Nat} {C : Nat → Prop} {x : Value} {L : List TdE} (h : OwnTd w base C x L) (hb : ∀ b, C b → b < base) : ∃ a cap, x = .slice a (L.map (·.1)).length cap ∧ TdAt w (OkC w C) (L.map (·.1)) a cap :=
  TdAt.of_row h.own (fun b hb' => ⟨(h.own.lt b hb').2, fun e => by have := (h.own.lt b hb').1; have := hb b e; omega⟩) (h.each.mono fun b _ hb => hb.1)

/-- The last append to it. -/
theorem OwnTd.finish {wd w w3 : World} {C : Nat → Prop} {x v3 : Value} {L L2 : List TdE} (h : OwnTd w wd.heap.size C x L) (hw : Below wd.heap.size wd w) (hC : ∀ b, C b → b < wd.heap.size) {l l2 l3 : List Goal} (hl : L.map (·.1) = l) (hl2 : L2.map (·.1) = l2) (h3 : l ++ l2 = l3) (he : TdEach w (OkC wd C) L2)
    (ho : w3.ownsRow wd.heap.size 144 4 v3 (L.length + l2.length) (flatT L ++ flatT L2)) (hg : w.grownBy w3 x.ownBlock) (hf : Fresh w x v3) :
    ∃ a3 cap3, v3 = .slice a3 l3.length cap3 ∧ TdAt w3 (OkC w3 C) l3 a3 cap3 ∧ Below wd.heap.size wd w3 := by
  subst h3
  have hll : L2.length = l2.length := by rw [← hl2, List.length_map]
  rw [← hll] at ho
  have hnew := h.append (R := L2) (Below.refl _ _) (he.mono fun b _ hb => ⟨⟨Nat.lt_of_lt_of_le hb.1 hw.size, hb.2⟩, fun e => by
    have h1 := (h.own.lt b e).1
    have h2 := hb.1
    omega⟩) ho hg hf
  have hb3 : Below wd.heap.size wd w3 := hw.trans ((Touch.grown (M := fun b => x.ownBlock = some b) hg (fun k e => e)).toBelow hw.size (fun b e => (h.own.lt b e).1))
  obtain ⟨a3, cap3, e3, ht3⟩ := hnew.done hC
  have hm : (L ++ L2).map (·.1) = l ++ l2 := by rw [List.map_append, hl, hl2]
  rw [hm] at e3 ht3
  exact ⟨a3, cap3, e3, ht3, hb3⟩

theorem TryPost.done {w w' : World} {xs : Nat} {C C' : Nat → Prop} {bv kv av : Value} {pa ta : Option Addr} {pc tc : Nat} {p : List Cl} {query : Nat} {R : RS} {B : List TmAt} {f : Nat} (hT : Turn w C w' C') (hf : R.f = f) (h : RSAt w' xs C' bv kv av pa ta pc tc p query R B (4000 - f)) : TryPost w xs C av pa pc p query (R, true) (.returned (.bool true)) w' :=
  ⟨rfl, hT.touch, C', hT.same, bv, kv, ta, tc, R, B, 4000 - f, REq.refl _, h, fun _ => by simp only; rw [hf]⟩

end Go.Proofs.Ytikmgiapjigghaa.Emb

/- Plain: what a turn of the reference's search leaves. -/
namespace Go.Proofs.Ytikmgiapjigghaa.Emb
open Go.RowKit Go.Proofs.Ytikmgiapjigghaa

/-- A clause of a goal went. -/
noncomputable def wentR (p : List Cl) (todo : List Goal) (t : Tm) (S : RS) (j : Nat) (b : List Tm) (τ : Sub) (f : Nat) : RS :=
  { S with τ := τ, n := S.n + 12, f := f, kept := if nextF p t (j + 1) < p.length then S.kept ++ [⟨S.τ, S.n, todo, nextF p t (j + 1)⟩] else S.kept, todo := bodyG ((S.n : Int) - 1) S.kept.length b ++ todo.tail }

/-- The three ends of Try. -/
theorem rtry_cases (p : List Cl) (todo : List Goal) (t : Tm) : ∀ (m i : Nat) (S : RS), p.length - i = m →
    (∃ f, rtry p todo t i S = ({ S with f := f }, false) ∧ f ≤ S.f) ∨ rtry p todo t i S = ({ S with f := 0, fin := 3 }, true) ∨
    (∃ (τ : Sub) (f j : Nat) (hj : j < p.length), rtry p todo t i S = (wentR p todo t S j p[j].body τ f, true) ∧ f ≤ S.f) := by
  intro m
  induction m with
  | zero =>
    intro i S h
    rw [rtry_stop (by omega)]
    exact .inl ⟨S.f, rfl, Nat.le_refl _⟩
  | succ m ih =>
    intro i S h
    have hi : i < p.length := by omega
    by_cases hf : FitC p[i] t
    · have hl := meetR_left S.f S.τ [(far ((S.n : Int) - 1) p[i].head, t)]
      cases ho : meetR S.τ S.f [(far ((S.n : Int) - 1) p[i].head, t)] with
      | ok τ L f =>
        rw [ho] at hl
        refine .inr (.inr ⟨τ, f, i, hi, ?_, hl⟩)
        refine rtry_done hi hf ?_
        unfold rclause; rw [ho]; rfl
      | no τ L f =>
        rw [ho] at hl
        have he : rtry p todo t i S = rtry p todo t (i + 1) { S with f := f } := rtry_go hi hf (by unfold rclause; rw [ho])
        rw [he]
        have hl' : f ≤ S.f := hl
        rcases ih (i + 1) { S with f := f } (by omega) with ⟨f2, h1, h2⟩ | h1 | ⟨τ2, f2, j, hj, h1, h2⟩
        · exact .inl ⟨f2, h1, Nat.le_trans h2 hl'⟩
        · exact .inr (.inl h1)
        · exact .inr (.inr ⟨τ2, f2, j, hj, h1, Nat.le_trans h2 hl'⟩)
      | many τ L =>
        exact .inr (.inl (rtry_done hi hf (by unfold rclause; rw [ho])))
    · rw [rtry_skip hi hf]
      exact ih (i + 1) S (by omega)

/-- Try does not look at the goals that stand in the search. -/
theorem rtry_both (p : List Cl) (todo : List Goal) (t : Tm) (x : List Goal) : ∀ (m i : Nat) (S : RS), p.length - i = m →
    (∃ f, rtry p todo t i S = ({ S with f := f }, false) ∧ rtry p todo t i { S with todo := x } = ({ S with todo := x, f := f }, false) ∧ f ≤ S.f) ∨
    (rtry p todo t i S = ({ S with f := 0, fin := 3 }, true) ∧ rtry p todo t i { S with todo := x } = ({ S with todo := x, f := 0, fin := 3 }, true)) ∨
    (∃ (τ : Sub) (f j : Nat) (hj : j < p.length), rtry p todo t i S = (wentR p todo t S j p[j].body τ f, true) ∧ rtry p todo t i { S with todo := x } = (wentR p todo t S j p[j].body τ f, true) ∧ f ≤ S.f) := by
  intro m
  induction m with
  | zero =>
    intro i S h
    rw [rtry_stop (by omega), rtry_stop (by omega)]
    exact .inl ⟨S.f, rfl, rfl, Nat.le_refl _⟩
  | succ m ih =>
    intro i S h
    have hi : i < p.length := by omega
    by_cases hf : FitC p[i] t
    · have hl := meetR_left S.f S.τ [(far ((S.n : Int) - 1) p[i].head, t)]
      cases ho : meetR S.τ S.f [(far ((S.n : Int) - 1) p[i].head, t)] with
      | ok τ L f =>
        rw [ho] at hl
        refine .inr (.inr ⟨τ, f, i, hi, ?_, ?_, hl⟩)
        · exact rtry_done hi hf (by unfold rclause; rw [ho]; rfl)
        · exact rtry_done hi hf (by unfold rclause; simp only; rw [ho]; rfl)
      | no τ L f =>
        rw [ho] at hl
        have he : rtry p todo t i S = rtry p todo t (i + 1) { S with f := f } := rtry_go hi hf (by unfold rclause; rw [ho])
        have he2 : rtry p todo t i { S with todo := x } = rtry p todo t (i + 1) { S with todo := x, f := f } := rtry_go hi hf (by unfold rclause; simp only; rw [ho])
        rw [he, he2]
        have hl' : f ≤ S.f := hl
        rcases ih (i + 1) { S with f := f } (by omega) with ⟨f2, h1, h3, h2⟩ | h1 | ⟨τ2, f2, j, hj, h1, h3, h2⟩
        · exact .inl ⟨f2, h1, h3, Nat.le_trans h2 hl'⟩
        · exact .inr (.inl h1)
        · exact .inr (.inr ⟨τ2, f2, j, hj, h1, h3, Nat.le_trans h2 hl'⟩)
      | many τ L =>
        exact .inr (.inl ⟨rtry_done hi hf (by unfold rclause; rw [ho]), rtry_done hi hf (by unfold rclause; simp only; rw [ho])⟩)
    · rw [rtry_skip hi hf, rtry_skip hi hf]
      exact ih (i + 1) S (by omega)

/-- What a choice keeps, in bounds. -/
structure KI (p : List Cl) (m : Nat) (c : RCh) : Prop where
  ne : c.todo ≠ []
  td : ∀ g, g ∈ c.todo → Fit c.n g.1
  n : 13 ≤ c.n ∧ c.n ≤ 1 + 12 * m
  len : c.todo.length ≤ 6 * m
  cl : c.cl ≤ p.length

/-- What a search is, in bounds. -/
structure RI (p : List Cl) (R : RS) : Prop where
  td : ∀ g, g ∈ R.todo → Fit R.n g.1
  n : 13 ≤ R.n ∧ R.n ≤ 13 + 12 * R.steps
  len : R.todo.length ≤ 6 + 6 * R.steps
  kept : ∀ c, c ∈ R.kept → KI p R.steps c
  kl : R.kept.length ≤ R.steps
  f : R.f ≤ 4000

/-- The programs of the search: bodies of six goals at most. -/
def Bd6 (p : List Cl) : Prop := ∀ c, c ∈ p → c.body.length ≤ 6

theorem went_inv {p : List Cl} (hp : POk p) (h6 : Bd6 p) {todo : List Goal} {t : Tm} {S : RS} (hne : todo ≠ []) (htd : ∀ g, g ∈ todo → Fit S.n g.1) (hn : 13 ≤ S.n ∧ S.n ≤ 1 + 12 * S.steps) (hlen : todo.length ≤ 6 * S.steps) (hk : ∀ c, c ∈ S.kept → KI p S.steps c) (hkl : S.kept.length < S.steps) {j : Nat} (hj : j < p.length) {τ : Sub} {f : Nat} (hf : f ≤ 4000) :
    RI p (wentR p todo t S j p[j].body τ f) := by
  have hb := h6 _ (List.getElem_mem hj)
  have hpj := hp _ (List.getElem_mem hj)
  refine ⟨fun g hg => ?_, ?_, ?_, fun c hc => ?_, ?_, hf⟩
  · simp only [wentR] at hg ⊢
    rcases List.mem_append.1 hg with h1 | h1
    · unfold bodyG at h1
      obtain ⟨b, hb1, rfl⟩ := List.mem_map.1 h1
      exact far_fit hn.1 (hpj.2 b hb1)
    · exact (htd g (List.mem_of_mem_tail h1)).mono (by omega)
  · simp only [wentR]; omega
  · simp only [wentR, List.length_append, List.length_tail]
    have : (bodyG ((S.n : Int) - 1) S.kept.length p[j].body).length = p[j].body.length := by simp [bodyG]
    omega
  · simp only [wentR] at hc ⊢
    split at hc
    · rename_i hlt
      rcases List.mem_append.1 hc with h1 | h1
      · exact hk c h1
      · rw [List.mem_singleton] at h1
        subst h1
        exact ⟨hne, htd, hn, hlen, Nat.le_of_lt hlt⟩
    · exact hk c hc
  · simp only [wentR]
    split
    · simp only [List.length_append, List.length_singleton]; omega
    · omega

end Go.Proofs.Ytikmgiapjigghaa.Emb

/- The searcher's names of variables in memory; walk: its naming closure. -/
namespace Go.Proofs.Ytikmgiapjigghaa
open Go.RowKit

def nameG (s : List Int) : Int → Option Value := fun x => if x ∈ s then some (.int .i64 (numIn s x)) else none

theorem numVN_old {s : List Int} {v : Int} (h : v ∈ s) : numV s v = (numIn s v, s) := by
  unfold numV numIn addV; rw [if_pos h]
theorem numVN_new {s : List Int} {v : Int} (h : v ∉ s) : numV s v = ((s.length : Int) + 1, s ++ [v]) := by
  unfold numV addV
  rw [if_neg h, List.idxOf_append, if_neg h]
  simp

theorem nameG_push {s : List Int} {c : Int} (h : c ∉ s) : nameG (s ++ [c]) = setAt (nameG s) c (some (.int .i64 ((s.length : Int) + 1))) := by
  funext x
  simp only [nameG, setAt]
  by_cases e : x = c
  · subst e
    rw [if_pos (by simp), if_pos rfl]
    unfold numIn
    rw [List.idxOf_append, if_neg h]
    simp
  · rw [if_neg e]
    by_cases hx : x ∈ s
    · rw [if_pos (by simp [hx]), if_pos hx]
      unfold numIn
      rw [List.idxOf_append, if_pos hx]
    · rw [if_neg (by simp [hx, e]), if_neg hx]

theorem zeroIntN (w : World) : (zeroValue 3).run Try.prog w = .ok (.int .i64 0) w := by kernel_rfl

theorem numVN_rng (s : List Int) (v : Int) : 1 ≤ (numV s v).1 ∧ (numV s v).1 ≤ (s.length : Int) + 1 := by
  have h1 : (addV s v).length ≤ s.length + 1 := by
    unfold addV
    split
    · omega
    · simp
  have h3 : (addV s v).idxOf v < (addV s v).length := List.idxOf_lt_length_iff.2 (addV_mem s v)
  simp only [numV]
  omega

theorem IMap.len {P : Program} {kt t e : TypeId} {w : World} {b n : Nat} {f : Int → Option Value} (h : IMap P kt w b n f) (ht : P.underlying t = some (.map kt e)) (ty : TypeId) : (Builtin.len_ #[t] ty #[.map (some b)]).run P w = .ok (.int .i64 n) w := by
  obtain ⟨D, h1, h2, _⟩ := h
  rw [h1.len ht ty, h2]

/-- 'm[k]'. -/
theorem IMap.look0 {P : Program} {kt t e : TypeId} {w : World} {b n : Nat} {f : Int → Option Value} (h : IMap P kt w b n f) (K : Go.Maps.Keyed P kt) (hkt : P.underlying kt = some (.int .i64)) (ht : P.underlying t = some (.map kt e)) {z : Value} (hz : (zeroValue e).run P w = .ok z w) {k : Int} (hk : I64 k) {v : Value} (hf : f k = some v) :
    (Instr.lookup t (.map (some b)) (.int .i64 k) false).run P w = .ok v w := by
  obtain ⟨D, h1, _, h2⟩ := h
  obtain ⟨u, ps, hrun, hv⟩ := h1.lookup K ht hz (zd := .held z) (zp := []) rfl (Go.Maps.keyOf_int_mk hkt (i64_wf hk))
  rw [hrun]
  obtain ⟨_, h4⟩ := h2 k hk
  simp only [heldV, Option.some.injEq, Prod.mk.injEq] at hv
  obtain ⟨_, h6⟩ := h4 v hf
  rw [h6] at hv
  have h7 : u = v := by have := hv.1; injection this
  rw [h7]

/-- Names in a world: the box of the map, and the map. -/
structure NmI (nb bm : Nat) (w : World) (s : List Int) : Prop where
  blk : w.heap[nb]? = some (.cells #[.map (some bm)] 115 (0, 0))
  map : IMap Try.prog 3 w bm s.length (nameG s)
  ne : nb ≠ bm

theorem NmI.keep {nb bm : Nat} : ∀ (w w' : World) (s : List Int), NmI nb bm w s → (∀ b, (b = nb ∨ b = bm) → w'.heap[b]? = w.heap[b]?) → w.heap.size ≤ w'.heap.size → NmI nb bm w' s := fun _ _ _ h hk _ =>
  ⟨(hk nb (.inl rfl)).trans h.blk, h.map.kept (hk bm (.inr rfl)), h.ne⟩

set_option maxRecDepth 100000 in
set_option maxHeartbeats 2000000 in
theorem nameW {nb bm : Nat} (w : World) (s : List Int) (v : Int) (h : NmI nb bm w s) (hs : s.length ≤ 1000) (hv : I64 v) :
    Calls Try.prog 132 #[.int .i64 v, .pointer (some ⟨nb, 0, none⟩)] w fun e w' => e = .returned (.int .i64 (numV s v).1) ∧ NmI nb bm w' (numV s v).2 ∧ I64 (numV s v).1 ∧ Touch (fun b => b = nb ∨ b = bm) w w' := by
  have c0 : w.cell? ⟨nb, 0, none⟩ = some (.map (some bm)) := by simp [World.cell?, h.blk]
  have hl := IMap.look h.map keyedI Try.underlying3 Try.underlying115 (zeroIntN w) hv
  have HR := Lib.hid (numVN_rng s v)
  have HI : Hid (I64 (numV s v).1) := Lib.hid (by have := HR.out; unfold I64; omega)
  have H := Lib.hid h
  by_cases hin : v ∈ s
  · have e : nameG s v = some (.int .i64 (numIn s v)) := by simp only [nameG]; rw [if_pos hin]
    rw [e] at hl
    simp only [Option.getD_some, Option.isSome_some] at hl
    have HIN := Lib.hid hin
    clear h e hin
    go_enter Try.func132, Try.ntmps132
    go_wp2_with fail
    go_ret
    exact ⟨by rw [numVN_old HIN.out]; rfl, by rw [numVN_old HIN.out]; exact H.out, HI.out, Touch.refl _ _⟩
  · have e : nameG s v = none := by simp only [nameG]; rw [if_neg hin]
    rw [e] at hl
    simp only [Option.getD_none, Option.isSome_none] at hl
    obtain ⟨w9, hrun, hm9, hg9⟩ := h.map.store keyedI Try.underlying3 Try.underlying115 (by unfold maxLen; omega) hv (.int .i64 ((s.length : Int) + 1)) e
    have hb9 : w9.heap[nb]? = some (.cells #[.map (some bm)] 115 (0, 0)) := (hg9.block nb (Array.getElem?_eq_some_iff.1 h.blk).1 (fun e => h.ne (by injection e))).trans h.blk
    have HN9 : Hid (NmI nb bm w9 (s ++ [v])) := Lib.hid ⟨hb9, by rw [nameG_push hin, List.length_append]; exact hm9, h.ne⟩
    have HT9 : Hid (Touch (fun b => b = nb ∨ b = bm) w w9) := Lib.hid (Touch.grown hg9 (fun k e => by cases e; exact .inr rfl))
    have d0 : w9.cell? ⟨nb, 0, none⟩ = some (.map (some bm)) := by simp [World.cell?, hb9]
    have e9 : nameG (s ++ [v]) v = some (.int .i64 ((s.length : Int) + 1)) := by rw [nameG_push hin]; simp [setAt]
    have hl9 := IMap.look0 HN9.out.map keyedI Try.underlying3 Try.underlying115 (zeroIntN w9) hv e9
    have hlen := h.map.len (t := 115) Try.underlying115 3
    have HIN := Lib.hid hin
    clear h e hin hm9 hg9 hb9 e9
    go_enter Try.func132, Try.ntmps132
    go_wp2_with fail
    go_ret
    exact ⟨by rw [numVN_new HIN.out]; rfl, by rw [numVN_new HIN.out]; exact HN9.out, HI.out, HT9.out⟩

end Go.Proofs.Ytikmgiapjigghaa

/- The searcher in memory: an answer more; terms under construction while calls touch other blocks. -/
namespace Go.Proofs.Ytikmgiapjigghaa
open Go.RowKit

section
variable {w w' : World} {br bs bm : Nat} {tv cv av : Value} {np pa : Option Addr} {pc : Nat} {p : List Cl} {query : Nat} {S S' : PS} {wk : Nat}

/-- The answers turn. -/
theorem SAt.avTurn (h : SAt w br bs bm tv cv av np pa pc p query S wk) (hT : Touch (fun b => b = br ∨ av.ownBlock = some b) w w') {av' : Value} (f3 : Fresh w av av')
    (hblk : w'.heap[br]? = some (.cells #[.slice pa p.length pc, .pointer (some ⟨bs, 0, none⟩), .int .i64 S'.vars, .int .i64 query, cv, .pointer np, av', .int .i64 S'.fin, .int .i64 S'.steps] 135 (0, 0)))
    {A : List ((Option Addr × Nat) × List Tm)} (hA : A.map (·.2) = S'.ans) (hrow : w'.ownsRow 0 146 1 av' A.length (flatA A)) (hts : ∀ x, x ∈ A → Ts w (OkS w br bs bm tv cv av) x.2 x.1.1 x.1.2)
    (hσ : S'.σ = S.σ) (hL : S'.L = S.L) (hc : S'.ch = S.ch) (hn : S'.now = S.now) :
    SAt w' br bs bm tv cv av' np pa pc p query S' wk ∧ Touch (SM br bs bm tv cv av) w w' := by
  have ht' : Touch (SM br bs bm tv cv av) w w' := hT.mono fun b _ e => e.elim .inl (fun e => .inr (.inr (.inr e)))
  obtain ⟨hk, hm⟩ := okS_step ht' (Fresh.self w tv) (Fresh.self w cv) f3
  have hm' : ∀ b, b < w'.heap.size → OkS w br bs bm tv cv av b → OkS w' br bs bm tv cv av' b := fun b _ => hm b
  have hnS : ∀ b, (b = br ∨ av.ownBlock = some b) → ¬ StM bs bm tv b := fun b hb e => by
    rcases hb with rfl | hb
    · rcases e with e | e | e
      · exact h.sep.rs e
      · exact h.sep.rm e
      · exact h.sep.rt e
    · rcases e with rfl | rfl | e
      · exact h.sep.sa.1 hb
      · exact h.sep.sa.2.1 hb
      · exact h.sep.sa.2.2 _ e hb
  refine ⟨⟨hblk, ?_, (h.prog.keep hk).mono hm', by rw [hn]; exact (h.now.keep hk).mono hm', ?_, ⟨A, hA, hrow, fun q hq => ((hts q hq).keep hk).mono hm'⟩, ?_⟩, ht'⟩
  · rw [hσ, hL]
    exact (h.st.touch hT fun b hb => ⟨hnS b hb, fun e => e.2 (hb.elim .inl fun e => .inr (.inr (.inr e)))⟩).okmono hm' fun b => OkS.st
  · obtain ⟨Q, h1, h2, h3⟩ := h.ch
    exact ⟨Q, by rw [hc]; exact h1, ownsRow_block h2 fun g hg => hT.block g (h2.lt g hg).2 (fun e => e.elim (fun e => h.sep.rc (e ▸ hg)) fun e => h.sep.ca g hg e), fun q hq => ((h3 q hq).keep hk).mono hm'⟩
  · refine ⟨h.sep.rs, h.sep.rm, h.sep.rt, h.sep.rc, fun e => ?_, h.sep.cs, ⟨fun e => ?_, fun e => ?_, fun g hg e => ?_⟩, fun g hg e => ?_⟩
    · rcases fresh_or f3 e with e | e
      · exact h.sep.ra e
      · have := h.lt; omega
    · rcases fresh_or f3 e with e | e
      · exact h.sep.sa.1 e
      · have := h.st.lt; omega
    · rcases fresh_or f3 e with e | e
      · exact h.sep.sa.2.1 e
      · have := h.st.blocks.1; omega
    · rcases fresh_or f3 e with e | e
      · exact h.sep.sa.2.2 g hg e
      · have := h.tvLt hg; omega
    · rcases fresh_or f3 e with e2 | e2
      · exact h.sep.ca g hg e2
      · have := h.cvLt hg; omega

/-- One answer more. -/
theorem SAt.tell (h : SAt w br bs bm tv cv av np pa pc p query S wk) {A : List ((Option Addr × Nat) × List Tm)} (hA : A.map (·.2) = S.ans) (hts : ∀ x, x ∈ A → Ts w (OkS w br bs bm tv cv av) x.2 x.1.1 x.1.2) {l : List Tm} {a : Option Addr} {c : Nat} (hl : Ts w (OkS w br bs bm tv cv av) l a c)
    {o : Obj} {X3 : World} {av' : Value} (ho : X3.ownsRow 0 146 1 av' (A.length + 1) (flatA A ++ [.slice a l.length c])) (hgr : (w.alloc o).grownBy X3 av.ownBlock) (hf : Fresh (w.alloc o) av av') :
    SAt (X3.setCell ⟨br, 6, none⟩ av') br bs bm tv cv av' np pa pc p query { S with ans := S.ans ++ [l] } wk ∧ Touch (SM br bs bm tv cv av) w (X3.setCell ⟨br, 6, none⟩ av') ∧ Fresh w av av' := by
  have hA1 : Touch (fun b => b = br ∨ av.ownBlock = some b) w (w.alloc o) := Touch.below ((Below.refl _ _).alloc (Nat.le_refl _) _)
  have hG : Touch (fun b => b = br ∨ av.ownBlock = some b) (w.alloc o) X3 := Touch.grown hgr (fun k e => .inr e)
  have hS : Touch (fun b => b = br ∨ av.ownBlock = some b) X3 (X3.setCell ⟨br, 6, none⟩ av') := Touch.setCell _ (.inl rfl)
  have hF : Fresh w av av' := hf.old (by simp)
  have hb3 : X3.heap[br]? = w.heap[br]? := (hgr.block br (by have := h.lt; simp; omega) (fun e => h.sep.ra e.symm)).trans (Below.heap_alloc _ _ _ h.lt)
  have := h.avTurn (S' := { S with ans := S.ans ++ [l] }) ((hA1.trans hG).trans hS) hF (by rw [heap_setCell_at _ _ _ _ (hb3.trans h.blk)]; rfl) (A := A ++ [((a, c), l)]) (by rw [List.map_append, hA]; rfl) (by
    have e : (A ++ [((a, c), l)]).length = A.length + 1 := by simp
    have e2 : flatA (A ++ [((a, c), l)]) = flatA A ++ [.slice a l.length c] := by simp [flatA]
    rw [e, e2]
    have hne : av'.ownBlock ≠ some br := fun e => (fresh_or hF e).elim h.sep.ra fun e => by have := h.lt; omega
    exact ownsRow_block ho fun g hg => Below.heap_setCell _ _ _ _ (fun e => hne (by rw [hg]; exact congrArg some e))) (fun q hq => by
    rcases List.mem_append.1 hq with hq | hq
    · exact hts q hq
    · rw [List.mem_singleton] at hq; subst hq; exact hl) rfl rfl rfl rfl
  exact ⟨this.1, this.2, hF⟩
end

/-- One term more in a slice under construction, while calls touch M besides. -/
theorem OwnTs.moreM {wb wr wX w1 X2 w2 : World} {M ok : Nat → Prop} {L : List TmAt} {x x' : Value} (h : OwnTs wr wb.heap.size (OkN ok wb) x L) (hw : Touch M wb wr) (hok : ∀ b, ok b → b < wb.heap.size ∧ ¬ M b) (hM : ∀ b, M b → b < wb.heap.size) (hX : wr.heap.size ≤ wX.heap.size)
    (hb : Touch M wr w1) {t : Tm} {a : Option Addr} {c : Nat} (hf : t.fits) (ht : Ts w1 (OkN ok wX) t.args a c) (hX2 : Below w1.heap.size w1 X2)
    (ho : w2.ownsRow wb.heap.size 24 3 x' (L.length + 1) (flat L ++ flat [(t, a, c)])) (hg : X2.grownBy w2 x.ownBlock) (hfr : Fresh X2 x x') :
    OwnTs w2 wb.heap.size (OkN ok wb) x' (L ++ [(t, a, c)]) ∧ Touch M wb w2 := by
  have hxb : ∀ g, x.ownBlock = some g → wb.heap.size ≤ g ∧ g < wr.heap.size := fun g hg => h.block hg
  have hW : Touch M wr X2 := hb.trans (Touch.below hX2)
  have hE : TsEach X2 (Free x (OkN ok wb)) [(t, a, c)] := by
    refine TsEach.one hf ((ht.keep (Keeps.below hX2 _)).mono fun b _ hk => ?_)
    rcases hk with hk | hk
    · exact ⟨.inl hk, fun e => by have := (hxb b e).1; have := (hok b hk).1; omega⟩
    · exact ⟨.inr (by have := hw.size; omega), fun e => by have := (hxb b e).2; omega⟩
  have hOW : OwnTs X2 wb.heap.size (OkN ok wb) x L := by
    refine ⟨ownsRow_block h.own fun g hg' => hW.block g (hxb g hg').2 fun hm => by have := hM g hm; have := (hxb g hg').1; omega, ?_⟩
    exact h.each.keep (hW.keeps fun b hb hm => by
      rcases hb.1 with h3 | h3
      · exact (hok b h3).2 hm
      · have := hM b hm; omega)
  refine ⟨hOW.append hE (by simpa using ho) hg hfr, ?_⟩
  have hT : Touch (fun b => x.ownBlock = some b) X2 w2 := Touch.grown hg fun k e => e
  have h2 := hw.trans hW
  exact ⟨hT.os.trans h2.os, hT.tape.trans h2.tape, hT.output.trans h2.output, Nat.le_trans h2.size hT.size, fun b hb hn => (hT.block b (Nat.lt_of_lt_of_le hb h2.size) (fun e => by have := (hxb b e).1; omega)).trans (h2.block b hb hn)⟩

end Go.Proofs.Ytikmgiapjigghaa

/- Answers in a world. -/
namespace Go.Proofs.Ytikmgiapjigghaa
open Go.RowKit

/-- Lists of terms, one behind the other. -/
structure AsAt (w : World) (ok : Nat → Prop) (l : List (List Tm)) (a : Option Addr) (cap : Nat) : Prop where
  room : l.length ≤ cap ∧ cap ≤ maxLen ∧ (a = none → cap = 0)
  elem : ∀ i (h : i < l.length), ∃ (b off : Nat) (a1 : Option Addr) (c1 : Nat), a = some ⟨b, off, none⟩ ∧ ok b ∧ b < w.heap.size ∧ w.cell? ⟨b, off + i, none⟩ = some (.slice a1 l[i].length c1) ∧ Ts w ok l[i] a1 c1

theorem AsAt.keep {w w' : World} {ok : Nat → Prop} (hk : Keeps ok w w') {l : List (List Tm)} {a : Option Addr} {cap : Nat} (h : AsAt w ok l a cap) : AsAt w' ok l a cap := by
  refine ⟨h.room, fun i hi => ?_⟩
  obtain ⟨b, off, a1, c1, h1, h2, h3, h4, h5⟩ := h.elem i hi
  exact ⟨b, off, a1, c1, h1, h2, Nat.lt_of_lt_of_le h3 hk.size, (hk.cell (p := ⟨b, _, none⟩) h2 h3).trans h4, h5.keep hk⟩

theorem AsAt.mono {w : World} {ok ok' : Nat → Prop} (hk : ∀ b, b < w.heap.size → ok b → ok' b) {l : List (List Tm)} {a : Option Addr} {cap : Nat} (h : AsAt w ok l a cap) : AsAt w ok' l a cap := by
  refine ⟨h.room, fun i hi => ?_⟩
  obtain ⟨b, off, a1, c1, h1, h2, h3, h4, h5⟩ := h.elem i hi
  exact ⟨b, off, a1, c1, h1, hk b h3 h2, h3, h4, h5.mono hk⟩

/-- The first ones of them. -/
theorem AsAt.take {w : World} {ok : Nat → Prop} {l : List (List Tm)} {a : Option Addr} {cap : Nat} (h : AsAt w ok l a cap) {k : Nat} (hk : k ≤ l.length) {cap' : Nat} (h1 : k ≤ cap') (h2 : cap' ≤ cap) (h3 : a = none → cap' = 0) : AsAt w ok (l.take k) a cap' := by
  refine ⟨⟨by rw [List.length_take]; omega, by have := h.room.2.1; omega, h3⟩, fun i hi => ?_⟩
  rw [List.length_take] at hi
  obtain ⟨b, off, a1, c1, e1, e2, e3, e4, e5⟩ := h.elem i (by omega)
  exact ⟨b, off, a1, c1, e1, e2, e3, by rw [List.getElem_take]; exact e4, by rw [List.getElem_take]; exact e5⟩

/-- Answers that a row of the search's own holds. -/
theorem AsAt.of_row {w : World} {ok : Nat → Prop} {base : Nat} {e : TypeId} {v : Value} {A : List ((Option Addr × Nat) × List Tm)} (h : w.ownsRow base e 1 v A.length (flatA A)) (hok : ∀ b, v.ownBlock = some b → ok b) (he : ∀ x, x ∈ A → Ts w ok x.2 x.1.1 x.1.2) :
    ∃ a cap, v = .slice a (A.map (·.2)).length cap ∧ AsAt w ok (A.map (·.2)) a cap := by
  have hrow := h
  rcases h.2 with ⟨rfl, hn⟩ | ⟨g, cap, cur, rfl, hb, hg, hcap, hml, hsz, htk⟩
  · have : A = [] := List.eq_nil_of_length_eq_zero hn
    subst this
    exact ⟨none, 0, rfl, ⟨Nat.le_refl _, Nat.zero_le _, fun _ => rfl⟩, fun i hi => by cases hi⟩
  · refine ⟨some ⟨g, 0, none⟩, cap, by simp, ⟨by simpa using hcap, hml, fun h => by cases h⟩, fun i hi => ?_⟩
    have hi' : i < A.length := by simpa using hi
    have hl : (flatA A).length = A.length := by simp [flatA]
    have hc := hrow.cellAt i (by omega)
    have e1 : (flatA A)[i]? = some (Value.slice A[i].1.1 A[i].2.length A[i].1.2) := by simp [flatA, hi']
    refine ⟨g, 0, A[i].1.1, A[i].1.2, rfl, hok g rfl, (hrow.lt g rfl).2, ?_, ?_⟩
    · rw [Nat.zero_add, List.getElem_map]
      exact hc.trans e1
    · rw [List.getElem_map]
      exact he _ (List.getElem_mem hi')

end Go.Proofs.Ytikmgiapjigghaa

/- Walks: are two lists of answers the same, are two results. -/
namespace Go.Proofs.Ytikmgiapjigghaa
open Go.RowKit

/-- Are they? -/
noncomputable def eqAs (l l2 : List (List Tm)) : Bool := @decide (l = l2) (Classical.propDecidable _)
theorem eqAs_true {l l2 : List (List Tm)} (h : l = l2) : eqAs l l2 = true := by unfold eqAs; exact @decide_eq_true _ (Classical.propDecidable _) h
theorem eqAs_false {l l2 : List (List Tm)} (h : l ≠ l2) : eqAs l l2 = false := by unfold eqAs; exact @decide_eq_false _ (Classical.propDecidable _) h

theorem AsAt.at {w : World} {ok : Nat → Prop} {l : List (List Tm)} {a : Option Addr} {cap : Nat} (h : AsAt w ok l a cap) (i : Nat) (hi : i < l.length) :
    ∃ (b off : Nat) (a1 : Option Addr) (c1 : Nat), a = some ⟨b, off, none⟩ ∧ ok b ∧ b < w.heap.size ∧ w.cell? ⟨b, off + i, none⟩ = some (.slice a1 l[i].length c1) ∧ Ts w ok l[i] a1 c1 := h.elem i hi

set_option maxRecDepth 100000 in
set_option maxHeartbeats 1000000 in
theorem SameAnswersW (l l2 : List (List Tm)) (w : World) (ok : Nat → Prop) (a1 a2 : Option Addr) (c1 c2 : Nat) (h1 : AsAt w ok l a1 c1) (h2 : AsAt w ok l2 a2 c2) :
    Calls Try.prog 48 #[.slice a1 l.length c1, .slice a2 l2.length c2] w fun e w' => e = .returned (.bool (eqAs l l2)) ∧ Below w.heap.size w w' := by
  have H1 := Lib.hid h1; have H2 := Lib.hid h2
  have hc1 : l.length ≤ 9223372036854775807 := by have := h1.room; unfold maxLen at this; omega
  have hc2 : l2.length ≤ 9223372036854775807 := by have := h2.room; unfold maxLen at this; omega
  clear h1 h2
  by_cases hl : l.length = l2.length
  · have hl' : ((l.length : Int) != (l2.length : Int)) = false := by rw [hl]; simp
    have HL := Lib.hid hl
    clear hl
    go_enter Try.func48, Try.ntmps48
    go_wp2_with fail
    go_loopw [5] (fun i wr => ∃ k : Nat, k ≤ l.length ∧ i = .int .i64 k ∧ Hid (l.take k = l2.take k) ∧ Below w.heap.size w wr) (fun i _ => l.length - (intOf i).toNat)
    case atStart => exact ⟨0, Nat.zero_le _, rfl, Lib.hid (by simp), Below.refl _ _⟩
    case round =>
      obtain ⟨k, hk, rfl, HE, hbr⟩ := hrel
      by_cases hlt : k < l.length
      · have hlt2 : k < l2.length := by rw [← HL.out]; exact hlt
        obtain ⟨g1, o1, d1, e1, rfl, hok1, hs1, hq1, ht1⟩ := H1.out.at k hlt
        obtain ⟨g2, o2, d2, e2, rfl, hok2, hs2, hq2, ht2⟩ := H2.out.at k hlt2
        have m0 := (hbr.cell (p := ⟨g1, o1 + k, none⟩) hs1).trans hq1
        have n0 := (hbr.cell (p := ⟨g2, o2 + k, none⟩) hs2).trans hq2
        have HC := Lib.hid (SameTermsW l[k] l2[k] wr.drew ok d1 d2 e1 e2 (ht1.keep (Keeps.below hbr.drew ok)) (ht2.keep (Keeps.below hbr.drew ok)))
        clear hq1 hq2 ht1 ht2
        by_cases heq : l[k] = l2[k]
        · have ht := eqTs_true heq
          have HE' : Hid (l.take (k + 1) = l2.take (k + 1)) := Lib.hid (by rw [List.take_succ_eq_append_getElem hlt, List.take_succ_eq_append_getElem hlt2, HE.out, heq])
          clear heq
          go_wp2_with fail
          go_region_with (go_at_call 25; refine HC.out.mono ?_; rintro e w1 ⟨rfl, hb⟩)
          all_goals
            go_wp2_with fail
            go_roundw
            case rel => exact ⟨k + 1, by omega, by go_num, HE'.out, hbr.drew.trans (hb.mono hbr.size)⟩
            case measure => simp [intOf]; omega
        · have ht := eqTs_false heq
          have HR : Hid (eqAs l l2 = false) := Lib.hid (eqAs_false (fun e => heq (by simp [e])))
          clear heq
          go_wp2_with fail
          go_region_with (go_at_call 25; refine HC.out.mono ?_; rintro e w1 ⟨rfl, hb⟩)
          all_goals
            go_wp2_with fail
            go_ret
            exact ⟨retB (by rw [HR.out]), hbr.drew.trans (hb.mono hbr.size)⟩
      · have HR : Hid (eqAs l l2 = true) := Lib.hid (eqAs_true (by
          have := HE.out
          rwa [List.take_of_length_le (by omega), List.take_of_length_le (by rw [← HL.out]; omega)] at this))
        go_wp2_with fail
        go_ret
        exact ⟨retB (by rw [HR.out]), hbr⟩
  · have hl' : ((l.length : Int) != (l2.length : Int)) = true := by rw [bne_iff_ne]; omega
    have HR : Hid (eqAs l l2 = false) := Lib.hid (eqAs_false (fun e => hl (by rw [e])))
    clear hl
    go_enter Try.func48, Try.ntmps48
    go_wp2_with fail
    go_ret
    exact ⟨retB (by rw [HR.out]), Below.refl _ _⟩

/-- Are two results the same? -/
noncomputable def eqR (r s : List (List Tm) × Nat × Nat) : Bool := @decide (r = s) (Classical.propDecidable _)
theorem eqR_true {r s : List (List Tm) × Nat × Nat} (h : r = s) : eqR r s = true := by unfold eqR; exact @decide_eq_true _ (Classical.propDecidable _) h
theorem eqR_false {r s : List (List Tm) × Nat × Nat} (h : r ≠ s) : eqR r s = false := by unfold eqR; exact @decide_eq_false _ (Classical.propDecidable _) h

set_option maxRecDepth 100000 in
set_option maxHeartbeats 1000000 in
theorem SameResultW (r s : List (List Tm) × Nat × Nat) (w : World) (ok : Nat → Prop) (a1 a2 : Option Addr) (c1 c2 : Nat) (h1 : AsAt w ok r.1 a1 c1) (h2 : AsAt w ok s.1 a2 c2) :
    Calls Try.prog 47 #[.agg #[.slice a1 r.1.length c1, .int .i64 r.2.1, .int .i64 r.2.2], .agg #[.slice a2 s.1.length c2, .int .i64 s.2.1, .int .i64 s.2.2]] w fun e w' => e = .returned (.bool (eqR r s)) ∧ Below w.heap.size w w' := by
  obtain ⟨l, m, n⟩ := r
  obtain ⟨l2, m2, n2⟩ := s
  simp only at h1 h2 ⊢
  have B0 : Below w.heap.size w ((w.alloc (.cells #[.slice a1 l.length c1, .int .i64 m, .int .i64 n] 66)).alloc (.cells #[.slice a2 l2.length c2, .int .i64 m2, .int .i64 n2] 66)) := ((Below.refl _ _).alloc (Nat.le_refl _) _).alloc (by simp) _
  have HB0 := Lib.hid B0
  have HC := Lib.hid (SameAnswersW l l2 _ ok a1 a2 c1 c2 (h1.keep (Keeps.below B0 ok)) (h2.keep (Keeps.below B0 ok)))
  clear B0 h1 h2
  by_cases hv : m = m2
  · have hv' : ((m : Int) == (m2 : Int)) = true := by rw [hv]; simp
    by_cases hn : n = n2
    · have hn' : ((n : Int) == (n2 : Int)) = true := by rw [hn]; simp
      have HE : Hid (eqR (l, m, n) (l2, m2, n2) = eqAs l l2) := Lib.hid (by
        subst hv; subst hn
        by_cases h : l = l2
        · rw [eqAs_true h, eqR_true (by rw [h])]
        · rw [eqAs_false h, eqR_false (fun e => h (by injection e))])
      clear hv hn
      go_enter Try.func47, Try.ntmps47
      go_wp2_with fail
      refine HC.out.mono ?_
      rintro e w1 ⟨rfl, hb⟩
      go_wp2_with fail
      go_ret
      exact ⟨retB (by rw [HE.out]), HB0.out.trans (hb.mono (by simp; omega))⟩
    · have hn' : ((n : Int) == (n2 : Int)) = false := by rw [beq_eq_false_iff_ne]; omega
      have HE : Hid (eqR (l, m, n) (l2, m2, n2) = false) := Lib.hid (eqR_false (fun e => hn (by injection e with _ e; injection e)))
      clear hv hn
      go_enter Try.func47, Try.ntmps47
      go_wp2_with fail
      go_ret
      exact ⟨retB (by rw [HE.out]), HB0.out⟩
  · have hv' : ((m : Int) == (m2 : Int)) = false := by rw [beq_eq_false_iff_ne]; omega
    have HE : Hid (eqR (l, m, n) (l2, m2, n2) = false) := Lib.hid (eqR_false (fun e => hv (by injection e with _ e; injection e)))
    clear hv
    go_enter Try.func47, Try.ntmps47
    go_wp2_with fail
    go_ret
    exact ⟨retB (by rw [HE.out]), HB0.out⟩

end Go.Proofs.Ytikmgiapjigghaa

/- Plain: with more steps all that was found is found. -/
namespace Go.Proofs.Ytikmgiapjigghaa
open Go.RowKit

theorem pclause_keep (p : List Cl) (gs : List Goal) (t : Tm) (c : Cl) (i : Nat) (S : PS) : ((pclause p gs t c i S).1.fin = S.fin ∨ (pclause p gs t c i S).1.fin = 3) ∧ (pclause p gs t c i S).1.ans = S.ans ∧ (pclause p gs t c i S).1.steps = S.steps := by
  unfold pclause
  split
  · exact ⟨.inl rfl, rfl, rfl⟩
  · exact ⟨.inl rfl, rfl, rfl⟩
  · exact ⟨.inr rfl, rfl, rfl⟩

theorem pcall_keep (p : List Cl) (gs : List Goal) (t : Tm) : ∀ (m i : Nat) (S : PS), p.length - i = m → ((pcall p gs t i S).1.fin = S.fin ∨ (pcall p gs t i S).1.fin = 3) ∧ (pcall p gs t i S).1.ans = S.ans ∧ (pcall p gs t i S).1.steps = S.steps := by
  intro m
  induction m with
  | zero => intro i S h; rw [pcall_stop (by omega)]; exact ⟨.inl rfl, rfl, rfl⟩
  | succ m ih =>
    intro i S h
    have hi : i < p.length := by omega
    by_cases hf : FitC p[i] t
    · have h1 := pclause_keep p gs t p[i] i S
      cases hc : pclause p gs t p[i] i S with
      | mk S' b =>
        rw [hc] at h1
        obtain ⟨a1, a2, a3⟩ := h1
        cases b with
        | none =>
          rw [pcall_go hi hf hc]
          obtain ⟨b1, b2, b3⟩ := ih (i + 1) S' (by omega)
          refine ⟨?_, b2.trans a2, b3.trans a3⟩
          rcases b1 with b1 | b1
          · rw [b1]; exact a1
          · exact .inr b1
        | some b => rw [pcall_done hi hf hc]; exact ⟨a1, a2, a3⟩
    · rw [pcall_skip hi hf]; exact ih (i + 1) S (by omega)

theorem pback_keep (p : List Cl) : ∀ (n : Nat) (S : PS), S.fin ≠ 2 → (pback p n S).fin ≠ 2 ∧ (pback p n S).ans = S.ans ∧ (pback p n S).steps = S.steps := by
  intro n
  induction n with
  | zero => intro S h; exact ⟨by simp [pback], rfl, rfl⟩
  | succ n ih =>
    intro S h
    simp only [pback]
    split
    · exact ⟨h, rfl, rfl⟩
    · rename_i c _
      obtain ⟨a1, a2, a3⟩ := pcall_keep p c.gs (look c.σ (headT c.gs)) (p.length - c.cl) c.cl { S with ch := S.ch.take n, σ := c.σ, L := c.L, f := 4000 } rfl
      generalize pcall p c.gs (look c.σ (headT c.gs)) c.cl { S with ch := S.ch.take n, σ := c.σ, L := c.L, f := 4000 } = x at *
      have hx : x.1.fin ≠ 2 := by rcases a1 with a1 | a1 <;> rw [a1] <;> first | exact h | decide
      split
      · exact ⟨hx, a2, a3⟩
      · obtain ⟨b1, b2, b3⟩ := ih x.1 hx
        exact ⟨b1, b2.trans a2, b3.trans a3⟩

theorem ptake_keep (p : List Cl) (S : PS) (h : S.fin ≠ 2) : (ptake p S).fin ≠ 2 ∧ (ptake p S).ans = S.ans ∧ (ptake p S).steps = S.steps + 1 := by
  simp only [ptake]
  split
  · exact ⟨by simp, rfl, rfl⟩
  · split
    · obtain ⟨a1, a2, a3⟩ := pcall_keep p S.now (look S.σ (headT S.now)) p.length 0 { S with steps := S.steps + 1, f := 4000 } (by omega)
      generalize pcall p S.now (look S.σ (headT S.now)) 0 { S with steps := S.steps + 1, f := 4000 } = x at *
      have hx : x.1.fin ≠ 2 := by rcases a1 with a1 | a1 <;> rw [a1] <;> first | exact h | decide
      split
      · exact ⟨hx, a2, a3⟩
      · obtain ⟨b1, b2, b3⟩ := pback_keep p x.1.ch.length x.1 hx
        exact ⟨b1, b2.trans a2, b3.trans a3⟩
    · split
      · exact ⟨h, rfl, rfl⟩
      · split
        · exact ⟨h, rfl, rfl⟩
        · split
          · exact pback_keep p S.ch.length { S with steps := S.steps + 1, f := 4000 } h
          · split
            · exact ⟨h, rfl, rfl⟩
            · rename_i f _
              exact pback_keep p S.ch.length { S with steps := S.steps + 1, f := f, now := S.now.tail } h
            · exact ⟨by simp, rfl, rfl⟩

theorem pansw_keep (p : List Cl) (query : Nat) (S : PS) (h : S.fin ≠ 2) : (pansw p query S).fin ≠ 2 ∧ S.ans <+: (pansw p query S).ans ∧ (pansw p query S).steps = S.steps := by
  simp only [pansw]
  split
  · exact ⟨by simp, List.prefix_rfl, rfl⟩
  · rename_i x _
    split
    · exact ⟨by simp, List.prefix_append _ _, rfl⟩
    · obtain ⟨b1, b2, b3⟩ := pback_keep p S.ch.length { S with ans := S.ans ++ [(Tm.rens numV [] x.1).1] } h
      exact ⟨b1, by rw [b2]; exact List.prefix_append _ _, b3⟩

theorem pstep_ans (p : List Cl) (query : Nat) (most : Int) (S : PS) (h : S.fin ≠ 2) : S.ans <+: (pstep p query most S).ans := by
  unfold pstep
  split
  · exact (pansw_keep p query S h).2.1
  · split
    · exact List.prefix_rfl
    · rw [(ptake_keep p S h).2.1]; exact List.prefix_rfl

theorem prun_end {p : List Cl} {query : Nat} {most : Int} (n : Nat) {S : PS} (h : S.fin ≠ 0) : prun p query most n S = S := by
  cases n with
  | zero => rfl
  | succ n => unfold prun; rw [if_neg h]

theorem prun_ans (p : List Cl) (query : Nat) (most : Int) : ∀ (n : Nat) (S : PS), S.ans <+: (prun p query most n S).ans := by
  intro n
  induction n with
  | zero => intro S; exact List.prefix_rfl
  | succ n ih =>
    intro S
    unfold prun
    split
    · rename_i h
      exact (pstep_ans p query most S (by omega)).trans (ih _)
    · exact List.prefix_rfl

/-- With more steps all that was found is found. -/
theorem more_run (p : List Cl) (query : Nat) {most more : Nat} (hm : most ≤ more) : ∀ (n m : Nat) (S : PS), n ≤ m → S.fin ≠ 2 → S.steps ≤ most → (prun p query most n S).fin ≠ 0 →
    ((prun p query most n S).fin ≠ 2 ∧ prun p query more m S = prun p query most n S) ∨ ((prun p query most n S).fin = 2 ∧ (prun p query most n S).steps = most ∧ (prun p query most n S).ans <+: (prun p query more m S).ans) := by
  intro n
  induction n with
  | zero => intro m S _ h2 _ h; exact .inl ⟨h2, prun_end m h⟩
  | succ n ih =>
    intro m S hnm h2 hs h
    by_cases h0 : S.fin = 0
    · obtain ⟨m, rfl⟩ : ∃ k, m = k + 1 := ⟨m - 1, by omega⟩
      have e1 : prun p query most (n + 1) S = prun p query most n (pstep p query most S) := by conv => lhs; unfold prun; rw [if_pos h0]
      have e2 : prun p query more (m + 1) S = prun p query more m (pstep p query more S) := by conv => lhs; unfold prun; rw [if_pos h0]
      rw [e1] at h
      rw [e1]
      by_cases hn : S.now = []
      · have f1 : pstep p query most S = pansw p query S := by unfold pstep; rw [if_pos hn]
        have f2 : pstep p query more S = pansw p query S := by unfold pstep; rw [if_pos hn]
        rw [e2, f2]
        rw [f1] at h ⊢
        obtain ⟨k1, k2, k3⟩ := pansw_keep p query S h2
        exact ih m _ (by omega) k1 (by omega) h
      · by_cases hq : (S.steps : Int) = most
        · have f1 : pstep p query most S = { S with fin := 2 } := by unfold pstep; rw [if_neg hn, if_pos hq]
          rw [f1, prun_end n (by simp)]
          exact .inr ⟨rfl, by simp only; omega, prun_ans p query more (m + 1) S⟩
        · have f1 : pstep p query most S = ptake p S := by unfold pstep; rw [if_neg hn, if_neg hq]
          have f2 : pstep p query more S = ptake p S := by unfold pstep; rw [if_neg hn, if_neg (show ¬ (S.steps : Int) = more by omega)]
          rw [e2, f2]
          rw [f1] at h ⊢
          obtain ⟨k1, k2, k3⟩ := ptake_keep p S h2
          exact ih m _ (by omega) k1 (by omega) h
    · have e1 : prun p query most (n + 1) S = S := prun_end _ h0
      rw [e1]
      exact .inl ⟨h2, prun_end m h0⟩

end Go.Proofs.Ytikmgiapjigghaa

/- Plain: a search begins; what a program and a query that are right are. -/
namespace Go.Proofs.Ytikmgiapjigghaa
open Go.RowKit

theorem program_zero {P : List Cl} (h : programE P = 0) : P.length ≤ 30 ∧ ∀ c, c ∈ P → c.head.checkE = 0 ∧ queryE c.body = 0 := by
  unfold programE at h
  by_cases h6 : 30 < P.length
  · rw [if_pos h6] at h; cases h
  · rw [if_neg h6] at h
    refine ⟨by omega, fun c hc => ?_⟩
    obtain ⟨k, hk, rfl⟩ := List.getElem_of_mem hc
    have h1 := firstN_zero h k (by simpa using hk)
    rw [List.getElem_map] at h1
    rcases clauseE_cases P[k] with ⟨a, b⟩ | ⟨a, b, c⟩ | ⟨a, b, c, d⟩ | ⟨a, b, c, d⟩
    · exact absurd (b.symm.trans h1) a
    · rw [c] at h1; cases h1
    · rw [d] at h1; cases h1
    · exact ⟨a, d.symm.trans h1⟩

theorem query_mem {q : List Tm} (h : queryE q = 0) {t : Tm} (ht : t ∈ q) : t.checkE = 0 := by
  obtain ⟨k, hk, rfl⟩ := List.getElem_of_mem ht
  exact (query_zero h).2 k hk

theorem check_size {t : Tm} (h : t.checkE = 0) : t.size ≤ 100000 := by have := (check_zero h).1; omega

theorem pok_of {P : List Cl} (h : programE P = 0) : POk P := fun c hc => by
  obtain ⟨h1, h2⟩ := (program_zero h).2 c hc
  exact ⟨check_fit h1, fun b hb => check_fit (query_mem h2 hb)⟩

theorem psize_of {P : List Cl} (h : programE P = 0) : ∀ c, c ∈ P → c.head.size ≤ 100000 ∧ ∀ b, b ∈ c.body → b.size ≤ 100000 := fun c hc => by
  obtain ⟨h1, h2⟩ := (program_zero h).2 c hc
  exact ⟨check_size h1, fun b hb => check_size (query_mem h2 hb)⟩

theorem greats_le {n : Int} (hn : 0 ≤ n) (l : List Tm) (h : ∀ t, t ∈ l → ∀ p, p ∈ t.parts → p.var ≤ n) : Tm.greats l ≤ n := by
  have key : ∀ (r : List Tm) (m : Int), m ≤ n → (∀ p, p ∈ r → p.var ≤ n) → vmax m r ≤ n := by
    intro r
    induction r with
    | nil => intro m hm _; exact hm
    | cons a r ih => intro m hm hr; exact ih (max m a.var) (by have := hr a List.mem_cons_self; omega) fun p hp => hr p (List.mem_cons_of_mem _ hp)
  have h1 := Tm.greats_eq l 0 (Int.le_refl _)
  have h2 := key (Tm.partss l) 0 hn fun p hp => by
    obtain ⟨x, hx, hp⟩ := partss_sub l p hp
    exact h x hx p hp
  rw [h1] at h2; omega

theorem query_great {q : List Tm} (h : queryE q = 0) : Tm.greats q ≤ 12 := greats_le (by decide) q fun t ht p hp => by
  have hf := check_fit (query_mem h ht)
  by_cases hv : p.var = 0
  · omega
  · have := fit_parts hf hp hv; omega

/-- How a search begins. -/
def startP (q : List Tm) : PS := { σ := fun _ => none, L := [], f := 4000, vars := 12, ch := [], now := q.map fun t => (t, 0), ans := [], fin := 0, steps := 0 }

def startR (q : List Tm) : RS := { τ := fun _ => none, n := 13, f := 4000, kept := [], todo := q.map fun t => (t, 0), ans := [], fin := 0, steps := 0 }

theorem start_inv (p : List Cl) {q : List Tm} (h : queryE q = 0) : RInv p (startP q) := by
  refine ⟨fun _ => ⟨⟨SInv.none, (fun v u e => by cases e), ⟨List.nodup_nil, (fun x hx => by cases hx)⟩, fun g hg => ?_, (fun c hc => by cases hc), List.Pairwise.nil, Nat.zero_le _, Nat.le_refl _⟩, by simp [startP]⟩, Nat.zero_le _, by simp [startP, potC], Nat.zero_le _⟩
  obtain ⟨t, ht, rfl⟩ := List.mem_map.1 hg
  exact check_fit (query_mem h ht)

/-- What a search of so many steps ends in: at most 441 turns. -/
noncomputable def solveP (p : List Cl) (q : List Tm) (most : Nat) : PS := prun p (Tm.greats q).toNat most 442 (startP q)

theorem solve_ends {p : List Cl} (hp : programE p = 0) {q : List Tm} (hq : queryE q = 0) {most : Nat} (hm : most ≤ 400) : (solveP p q most).fin ≠ 0 :=
  prun_ends (pok_of hp) (program_zero hp).1 _ hm 442 _ (start_inv p hq) (Nat.zero_le _) fun _ => by simp [startP]; omega

/-- What is printed of an end. -/
theorem solve_more {p : List Cl} (hp : programE p = 0) {q : List Tm} (hq : queryE q = 0) {most more : Nat} (hm : most ≤ more) (h4 : more ≤ 400) :
    ((solveP p q most).fin ≠ 2 ∧ solveP p q more = solveP p q most) ∨ ((solveP p q most).fin = 2 ∧ (solveP p q most).steps = most ∧ (solveP p q most).ans <+: (solveP p q more).ans) :=
  more_run p _ hm 442 442 (startP q) (Nat.le_refl _) (by simp [startP]) (Nat.zero_le _) (solve_ends hp hq (by omega))

end Go.Proofs.Ytikmgiapjigghaa

/- Plain: what the search of the statements' first question finds. -/
namespace Go.Proofs.Ytikmgiapjigghaa
open Go.RowKit

def tmB : Tm := .mk 0 ⟨#[98]⟩ []
def tP (x : Tm) : Tm := .mk 0 ⟨#[112]⟩ [x]
def tEq (x y : Tm) : Tm := .mk 0 ⟨#[101, 113]⟩ [x, y]
def sampleL : List Cl := [⟨tP tmA, []⟩, ⟨tP (VarT 1), [tEq (VarT 1) tmB]⟩]
def askL : List Tm := [tP (VarT 1)]

theorem sample_ok : programE sampleL = 0 := by decide +kernel
theorem ask_ok : queryE askL = 0 := by decide +kernel
theorem ask_great : (Tm.greats askL).toNat = 1 := by decide +kernel

def sub0 : Sub := fun _ => none
def subA : Sub := upd sub0 1 tmA
def subV : Sub := upd sub0 25 (VarT 1)
def subB1 : Sub := upd subV 1 tmB

theorem within_fn {σ : Sub} {v : Int} {t : Tm} (h : t.var = 0) (ha : t.args = []) (f : Nat) : within σ v (f + 1) [t] = .no f := by
  simp only [within]
  rw [look_fn h]
  rw [h, ha]
  simp [within]

theorem meet_args2 {σ : Sub} {L : List Int} {f : Nat} {x y : Tm} : meet σ L (f + 1) [(tP x, tP y)] = meet σ L f [(x, y)] := by
  have h : pairStep σ L f (look σ (tP x)) (look σ (tP y)) = .go σ L f [(x, y)] := by
    rw [look_fn (t := tP x) rfl, look_fn (t := tP y) rfl, pairStep_args rfl rfl (by intro h; rcases h with h | h; exact h rfl; exact h rfl)]
    rfl
  rw [meet_go [] h]
  rfl

theorem meet_1 : meet sub0 [] 4000 [(tP tmA, tP (VarT 1))] = .ok subA [1] 3997 := by
  rw [show (4000 : Nat) = 3999 + 1 from rfl, meet_args2, show (3999 : Nat) = 3998 + 1 from rfl]
  have h : pairStep sub0 [] 3998 (look sub0 tmA) (look sub0 (VarT 1)) = .go subA [1] 3997 [] := by
    rw [look_fn (t := tmA) rfl, look_free (t := VarT 1) rfl, pairStep_y rfl (by decide)]
    unfold bindStep
    rw [show (VarT 1).var = 1 from rfl, show (3998 : Nat) = 3997 + 1 from rfl, within_fn (t := tmA) rfl rfl]
    rfl
  rw [meet_go [] h]
  exact meet_nil _ _ _

theorem meet_2 : meet sub0 [] 4000 [(tP (VarT 25), tP (VarT 1))] = .ok subV [25] 3997 := by
  rw [show (4000 : Nat) = 3999 + 1 from rfl, meet_args2, show (3999 : Nat) = 3998 + 1 from rfl]
  have h : pairStep sub0 [] 3998 (look sub0 (VarT 25)) (look sub0 (VarT 1)) = .go subV [25] 3997 [] := by
    rw [look_free (t := VarT 25) rfl, look_free (t := VarT 1) rfl, pairStep_x (by decide) (by decide)]
    unfold bindStep
    rw [show (VarT 25).var = 25 from rfl, show (3998 : Nat) = 3997 + 1 from rfl, within_var (v := 25) (t := VarT 1) (by decide) rfl (by decide) 3997]
    rfl
  rw [meet_go [] h]
  exact meet_nil _ _ _

theorem look_25 : look subV (VarT 25) = VarT 1 := look_eq (n := 1) ⟨by decide, VarT 1, rfl, rfl, .inr rfl⟩

theorem meet_3 : meet subV [25] 4000 [(VarT 25, tmB)] = .ok subB1 [25, 1] 3998 := by
  rw [show (4000 : Nat) = 3999 + 1 from rfl]
  have h : pairStep subV [25] 3999 (look subV (VarT 25)) (look subV tmB) = .go subB1 [25, 1] 3998 [] := by
    rw [look_25, look_fn (t := tmB) rfl, pairStep_x (by decide) (by decide)]
    unfold bindStep
    rw [show (VarT 1).var = 1 from rfl, show (3999 : Nat) = 3998 + 1 from rfl, within_fn (t := tmB) rfl rfl]
    rfl
  rw [meet_go [] h]
  exact meet_nil _ _ _

theorem thr_one {σ : Sub} {t : Tm} (h : look σ (VarT 1) = t) (hv : t.var = 0) (ha : t.args = []) : thrL σ 200 [VarT 1] = some ([.mk 0 t.name []], 199) := by
  rw [show (200 : Nat) = 199 + 1 from rfl, thrL_fn (by rw [h]; exact hv), h, ha, thrL_nil]
  simp only [Option.bind_some, thrL_nil]
  rfl

theorem look_1a : look subA (VarT 1) = tmA := look_eq (n := 1) ⟨by decide, tmA, rfl, rfl, .inl rfl⟩
theorem look_1b : look subB1 (VarT 1) = tmB := look_eq (n := 1) ⟨by decide, tmB, rfl, rfl, .inl rfl⟩

def gsA : List Goal := [(tP (VarT 1), 0)]
def begS1 : PS := { σ := subA, L := [1], f := 3997, vars := 24, ch := [⟨gsA, 1, sub0, []⟩], now := [], ans := [], fin := 0, steps := 1 }
def begS2 : PS := { σ := subV, L := [25], f := 3997, vars := 36, ch := [], now := [(tEq (VarT 25) tmB, 0)], ans := [[tmA]], fin := 0, steps := 1 }
def begS3 : PS := { σ := subB1, L := [25, 1], f := 3998, vars := 36, ch := [], now := [], ans := [[tmA]], fin := 0, steps := 2 }
def begS4 : PS := { σ := subB1, L := [25, 1], f := 3998, vars := 36, ch := [], now := [], ans := [[tmA], [tmB]], fin := 1, steps := 2 }

theorem beg_1 : pstep sampleL 1 10 (startP askL) = begS1 := by
  unfold pstep
  rw [if_neg (by intro h; cases h), if_neg (show ¬ ((startP askL).steps : Int) = 10 by decide)]
  simp only [ptake]
  have hl : look (startP askL).σ (headT (startP askL).now) = tP (VarT 1) := look_fn (t := tP (VarT 1)) rfl
  rw [hl, if_neg (show ¬ (tP (VarT 1)).var ≠ 0 from fun h => h rfl), if_pos (by decide +kernel)]
  have h0 : (0 : Nat) < sampleL.length := by decide
  have hf : FitC sampleL[0] (tP (VarT 1)) := ⟨rfl, rfl⟩
  have hn : nextF sampleL (tP (VarT 1)) 1 = 1 := nextF_fit (p := sampleL) (i := 1) (by decide) ⟨rfl, rfl⟩
  have hc : pclause sampleL (startP askL).now (tP (VarT 1)) sampleL[0] 0 { startP askL with steps := (startP askL).steps + 1, f := 4000 } = (begS1, some true) := by
    unfold pclause
    have hm : meet (startP askL).σ (startP askL).L 4000 [(far ((startP askL).vars : Int) (sampleL[0]).head, tP (VarT 1))] = .ok subA [1] 3997 := meet_1
    simp only [hm, hn]
    rfl
  rw [pcall_done h0 hf hc]
  rfl

theorem beg_2 : pstep sampleL 1 10 begS1 = begS2 := by
  unfold pstep
  rw [if_pos (show begS1.now = [] from rfl)]
  simp only [pansw]
  have ht : thrL begS1.σ 200 (varsL 1) = some ([tmA], 199) := thr_one look_1a rfl rfl
  rw [ht]
  have hr : (Tm.rens numV [] [tmA]).1 = [tmA] := rfl
  simp only [hr]
  rw [if_neg (by decide)]
  show pback sampleL 1 { begS1 with ans := [[tmA]] } = begS2
  simp only [pback]
  have e : ({ begS1 with ans := [[tmA]] } : PS).ch[0]? = some ⟨gsA, 1, sub0, []⟩ := rfl
  rw [e]
  simp only
  have hl : look sub0 (headT gsA) = tP (VarT 1) := look_fn (t := tP (VarT 1)) rfl
  rw [hl]
  have hn : nextF sampleL (tP (VarT 1)) 2 = 2 := nextF_stop (p := sampleL) (by decide)
  have hc : pclause sampleL gsA (tP (VarT 1)) sampleL[1] 1 { begS1 with ans := [[tmA]], ch := [], σ := sub0, L := [], f := 4000 } = (begS2, some true) := by
    unfold pclause
    have hm : meet sub0 [] 4000 [(far ((24 : Nat) : Int) (sampleL[1]).head, tP (VarT 1))] = .ok subV [25] 3997 := meet_2
    have hm' : meet sub0 [] 4000 [(far (begS1.vars : Int) (sampleL[1]).head, tP (VarT 1))] = .ok subV [25] 3997 := hm
    simp only [hm', hn]
    rfl
  have hp := pcall_done (p := sampleL) (gs := gsA) (t := tP (VarT 1)) (i := 1) (S := { begS1 with ans := [[tmA]], ch := [], σ := sub0, L := [], f := 4000 }) (by decide) ⟨rfl, rfl⟩ hc
  have hp' : pcall sampleL gsA (tP (VarT 1)) 1 { σ := sub0, L := [], f := 4000, vars := begS1.vars, ch := List.take 0 begS1.ch, now := begS1.now, ans := [[tmA]], fin := begS1.fin, steps := begS1.steps } = (begS2, true) := hp
  rw [hp']
  rfl

theorem beg_3 : pstep sampleL 1 10 begS2 = begS3 := by
  unfold pstep
  rw [if_neg (by intro h; cases h), if_neg (show ¬ (begS2.steps : Int) = 10 by decide)]
  simp only [ptake]
  have hl : look begS2.σ (headT begS2.now) = tEq (VarT 25) tmB := look_fn (t := tEq (VarT 25) tmB) rfl
  rw [hl, if_neg (show ¬ (tEq (VarT 25) tmB).var ≠ 0 from fun h => h rfl), if_neg (by decide +kernel), if_neg (by decide +kernel), if_neg (by decide +kernel), if_neg (by decide +kernel)]
  have hm : meet begS2.σ begS2.L 4000 [((tEq (VarT 25) tmB).args.getD 0 default, (tEq (VarT 25) tmB).args.getD 1 default)] = .ok subB1 [25, 1] 3998 := meet_3
  rw [hm]
  rfl

theorem beg_4 : pstep sampleL 1 10 begS3 = begS4 := by
  unfold pstep
  rw [if_pos (show begS3.now = [] from rfl)]
  simp only [pansw]
  have ht : thrL begS3.σ 200 (varsL 1) = some ([tmB], 199) := thr_one look_1b rfl rfl
  rw [ht]
  have hr : (Tm.rens numV [] [tmB]).1 = [tmB] := rfl
  simp only [hr]
  rw [if_neg (by decide)]
  rfl

theorem begun_solve : solveP sampleL askL 10 = begS4 := by
  unfold solveP
  rw [ask_great]
  show prun sampleL 1 10 442 (startP askL) = begS4
  have step : ∀ (n : Nat) (S T : PS), S.fin = 0 → pstep sampleL 1 10 S = T → prun sampleL 1 10 (n + 1) S = prun sampleL 1 10 n T := fun n S T h e => by
    conv => lhs; unfold prun; rw [if_pos h, e]
  rw [step 441 _ _ rfl beg_1, step 440 _ _ rfl beg_2, step 439 _ _ rfl beg_3, step 438 _ _ rfl beg_4]
  exact prun_end 438 (by decide)

end Go.Proofs.Ytikmgiapjigghaa

/- Walk: what the statements on Unify ask first. -/
namespace Go.Proofs.Ytikmgiapjigghaa
open Go.RowKit

theorem ts_lit2 {w : World} {ok : Nat → Prop} (t u : Tm) {a b : Option Addr} {c d : Nat} (ht : Ts w ok t.args a c) (hu : Ts w ok u.args b d) (hf : t.fits) (hg : u.fits) (hok : ok w.heap.size) :
    Ts (w.alloc (.cells #[.int .i64 t.var, .string t.name, .slice a t.args.length c, .int .i64 u.var, .string u.name, .slice b u.args.length d] 24)) ok [t, u] (some ⟨w.heap.size, 0, none⟩) 2 := by
  have hk : Keeps ok w (w.alloc (.cells #[.int .i64 t.var, .string t.name, .slice a t.args.length c, .int .i64 u.var, .string u.name, .slice b u.args.length d] 24)) := Keeps.below ((Below.refl _ _).alloc (Nat.le_refl _) _) ok
  refine .mk [t, u] _ 2 ⟨Nat.le_refl _, by unfold maxLen; omega, fun h => by cases h⟩ (fun i => if i = 0 then (a, c) else (b, d)) (fun i hi => ?_) (fun i hi => ?_)
  · rcases (by simp at hi; omega : i = 0 ∨ i = 1) with rfl | rfl
    · refine ⟨w.heap.size, 0, rfl, hok, by simp, Cells3.mk ?_ ?_ ?_ hf⟩
      all_goals simp [World.cell?, World.alloc, -World.alloc_eq]
    · refine ⟨w.heap.size, 0, rfl, hok, by simp, Cells3.mk ?_ ?_ ?_ hg⟩
      all_goals simp [World.cell?, World.alloc, -World.alloc_eq]
  · rcases (by simp at hi; omega : i = 0 ∨ i = 1) with rfl | rfl
    · exact ht.keep hk
    · exact hu.keep hk

theorem k_tmL : tmL.checkE = 0 := by decide +kernel
theorem k_tmR : tmR.checkE = 0 := by decide +kernel
theorem begun_uA : uA tmL tmR = .ok ((List.range 12).map outB) 5 := by
  unfold uA
  rw [if_neg (fun h => h k_tmL), if_neg (fun h => h k_tmR), begun_uP]
  rfl

/-- Cells of two terms that lie still. -/
structure TwoT (w : World) (b o c r : Nat) (x0 x1 x2 y0 y1 y2 : Value) (w' : World) : Prop where
  below : Below w.heap.size w w'
  a0 : w'.cell? ⟨b, o, none⟩ = some x0
  a1 : w'.cell? ⟨b, o + 1, none⟩ = some x1
  a2 : w'.cell? ⟨b, o + 2, none⟩ = some x2
  b0 : w'.cell? ⟨c, r, none⟩ = some y0
  b1 : w'.cell? ⟨c, r + 1, none⟩ = some y1
  b2 : w'.cell? ⟨c, r + 2, none⟩ = some y2
  lt : b < w.heap.size ∧ c < w.heap.size

theorem TwoT.next {w : World} {b o c r : Nat} {x0 x1 x2 y0 y1 y2 : Value} {w1 w2 : World} (h : TwoT w b o c r x0 x1 x2 y0 y1 y2 w1) (hb : Below w1.heap.size w1 w2) : TwoT w b o c r x0 x1 x2 y0 y1 y2 w2 := by
  have h1 := Nat.lt_of_lt_of_le h.lt.1 h.below.size
  have h2 := Nat.lt_of_lt_of_le h.lt.2 h.below.size
  exact ⟨h.below.trans (hb.mono h.below.size), (hb.cell (p := ⟨b, _, none⟩) h1).trans h.a0, (hb.cell (p := ⟨b, _, none⟩) h1).trans h.a1, (hb.cell (p := ⟨b, _, none⟩) h1).trans h.a2,
    (hb.cell (p := ⟨c, _, none⟩) h2).trans h.b0, (hb.cell (p := ⟨c, _, none⟩) h2).trans h.b1, (hb.cell (p := ⟨c, _, none⟩) h2).trans h.b2, h.lt⟩

theorem TwoT.all {w : World} {b o c r : Nat} {x0 x1 x2 y0 y1 y2 : Value} {w1 : World} (h : TwoT w b o c r x0 x1 x2 y0 y1 y2 w1) :
    w1.cell? ⟨b, o, none⟩ = some x0 ∧ w1.cell? ⟨b, o + 1, none⟩ = some x1 ∧ w1.cell? ⟨b, o + 2, none⟩ = some x2 ∧ w1.cell? ⟨c, r, none⟩ = some y0 ∧ w1.cell? ⟨c, r + 1, none⟩ = some y1 ∧ w1.cell? ⟨c, r + 2, none⟩ = some y2 ∧ TwoT w b o c r x0 x1 x2 y0 y1 y2 w1 :=
  ⟨h.a0, h.a1, h.a2, h.b0, h.b1, h.b2, h⟩

theorem TwoT.of {w : World} {b o c r : Nat} {x0 x1 x2 y0 y1 y2 : Value} {w1 : World} (h : w1.cell? ⟨b, o, none⟩ = some x0 ∧ w1.cell? ⟨b, o + 1, none⟩ = some x1 ∧ w1.cell? ⟨b, o + 2, none⟩ = some x2 ∧ w1.cell? ⟨c, r, none⟩ = some y0 ∧ w1.cell? ⟨c, r + 1, none⟩ = some y1 ∧ w1.cell? ⟨c, r + 2, none⟩ = some y2 ∧ TwoT w b o c r x0 x1 x2 y0 y1 y2 w1) : TwoT w b o c r x0 x1 x2 y0 y1 y2 w1 := h.2.2.2.2.2.2

theorem TwoT.drew {w : World} {b o c r : Nat} {x0 x1 x2 y0 y1 y2 : Value} {w1 : World} (h : TwoT w b o c r x0 x1 x2 y0 y1 y2 w1) : TwoT w b o c r x0 x1 x2 y0 y1 y2 w1.drew := h.next ((Below.refl _ _).drew)

set_option maxRecDepth 100000 in
set_option maxHeartbeats 2000000 in
theorem unifyBegunW (w : World) : Calls Try.prog 24 #[] w fun e w' => e = .returned (.bool true) ∧ Below w.heap.size w w' := by
  go_enter Try.func24, Try.ntmps24
  go_wp2_with fail
  refine (vaW _ _).mono ?_
  rintro e w1 ⟨rfl, hb1⟩
  go_wp2_with fail
  refine (vaW _ _).mono ?_
  rintro e w2 ⟨rfl, hb2⟩
  go_wp2_with fail
  refine (fnW _ _ _ _ _).mono ?_
  rintro e w3 ⟨rfl, hb3⟩
  have T1 := Lib.hid ((ts_lit2 (w := w2) (ok := fun _ => True) (VarT 2) (VarT 3) (Ts.empty _ _) (Ts.empty _ _) (fits_lit _ _ _ (by decide) (by decide) (by decide)) (fits_lit _ _ _ (by decide) (by decide) (by decide)) trivial).keep (Keeps.below hb3 _))
  have B3 : Hid (Below w.heap.size w w3) := Lib.hid (by
    have h2 := hb1.trans (hb2.mono hb1.size)
    have h3 := h2.alloc h2.size (.cells #[.int .i64 2, .string ⟨#[]⟩, .slice none 0 0, .int .i64 3, .string ⟨#[]⟩, .slice none 0 0] 24)
    exact h3.trans (hb3.mono h3.size))
  clear hb1 hb2 hb3
  go_wp2_with fail
  refine (vaW _ _).mono ?_
  rintro e w4 ⟨rfl, hb4⟩
  go_wp2_with fail
  refine (fnW _ _ _ _ _).mono ?_
  rintro e w5 ⟨rfl, hb5⟩
  go_wp2_with fail
  refine (fnW _ _ _ _ _).mono ?_
  rintro e w6 ⟨rfl, hb6⟩
  have T2 := Lib.hid ((ts_lit2 (w := w5) (ok := fun _ => True) (VarT 1) tmA (Ts.empty _ _) (Ts.empty _ _) (fits_lit _ _ _ (by decide) (by decide) (by decide)) (fits_lit _ _ _ (by decide) (by decide) (by decide)) trivial).keep (Keeps.below hb6 _))
  have hb36 : Below w3.heap.size w3 w6 := by
    have h2 := hb4.trans (hb5.mono hb4.size)
    have h3 := h2.alloc h2.size (.cells #[.int .i64 1, .string ⟨#[]⟩, .slice none 0 0, .int .i64 0, .string ⟨#[97]⟩, .slice none 0 0] 24)
    exact h3.trans (hb6.mono h3.size)
  have T1' := Lib.hid (T1.out.keep (Keeps.below hb36 _))
  have B6 : Hid (Below w.heap.size w w6) := Lib.hid (B3.out.trans (hb36.mono B3.out.size))
  have HU := Lib.hid (UnifyW (w := w6) (ok := fun b => b < w6.heap.size) (fun b hb => hb) (s := tmL) (t := tmR) (fits_lit _ _ _ (by decide) (by decide) (by decide)) (fits_lit _ _ _ (by decide) (by decide) (by decide)) (T1'.out.mono fun b hb _ => hb) (T2.out.mono fun b hb _ => hb))
  rw [begun_uA] at HU
  clear hb4 hb5 hb6 hb36 T1 T1' T2 B3
  go_wp2_with fail
  refine HU.out.mono ?_
  rintro e w7 ⟨hb7, a, cap, rfl, hts⟩
  have B7 : Hid (Below w.heap.size w w7) := Lib.hid (B6.out.trans (hb7.mono B6.out.size))
  have hlen : ((List.range 12).map outB).length = 12 := by simp
  obtain ⟨b1, o1, a1, cap1, rfl, -, hl1, hc1, ht1⟩ := hts.at 1 (by simp)
  obtain ⟨b2, o2, a2, cap2, he2, -, hl2, hc2, ht2⟩ := hts.at 2 (by simp)
  injection he2 with he3
  injection he3 with e1 e2
  subst e1; subst e2
  simp only [List.getElem_map, List.getElem_range] at hc1 hc2 ht1 ht2
  have q0 := hc1.var; have q1 := hc1.name; have q2 := hc1.args
  have p0 := hc2.var; have p1 := hc2.name; have p2 := hc2.args
  have e1 : outB 1 = VarT 1 := rfl
  have e2 : outB 2 = tmA := rfl
  rw [e1] at q0 q1 q2 ht1
  rw [e2] at p0 p1 p2 ht2
  have HT1 := Lib.hid ht1; have HT2 := Lib.hid ht2
  have T0 : TwoT w7 b1 (o1 + 1 * 3) b1 (o1 + 2 * 3) (.int .i64 1) (.string ⟨#[]⟩) (.slice a1 0 cap1) (.int .i64 0) (.string ⟨#[97]⟩) (.slice a2 0 cap2) w7 := ⟨Below.refl _ _, q0, q1, q2, p0, p1, p2, hl1, hl1⟩
  clear hts hc1 hc2 ht1 ht2 e1 e2 hb7 q0 q1 q2 p0 p1 p2 HU
  rw [hlen]
  go_wp2_with fail
  have C1 : Hid (∀ w' : World, TwoT w7 b1 (o1 + 1 * 3) b1 (o1 + 2 * 3) (.int .i64 1) (.string ⟨#[]⟩) (.slice a1 0 cap1) (.int .i64 0) (.string ⟨#[97]⟩) (.slice a2 0 cap2) w' → Calls Try.prog 26 #[.agg #[.int .i64 1, .string ⟨#[]⟩, .slice a1 0 cap1], .agg #[.int .i64 1, .string ByteArray.empty, .slice none 0 0]] w' fun e w'' => e = .returned (.bool true) ∧ Below w'.heap.size w' w'') := Lib.hid fun w' h => by
    have := SameTermOf (VarT 1) (SameTermsW _) (VarT 1) w' (fun b => b < w7.heap.size ∨ True) a1 none cap1 0 ((HT1.out.mono fun _ _ _ => .inr trivial).keep (Keeps.below h.below _)) (Ts.empty' _ _)
    rw [eqT_true rfl] at this
    exact this
  have C2 : Hid (∀ w' : World, TwoT w7 b1 (o1 + 1 * 3) b1 (o1 + 2 * 3) (.int .i64 1) (.string ⟨#[]⟩) (.slice a1 0 cap1) (.int .i64 0) (.string ⟨#[97]⟩) (.slice a2 0 cap2) w' → Calls Try.prog 26 #[.agg #[.int .i64 0, .string ⟨#[97]⟩, .slice a2 0 cap2], .agg #[.int .i64 0, .string ⟨#[97]⟩, .slice none 0 0]] w' fun e w'' => e = .returned (.bool true) ∧ Below w'.heap.size w' w'') := Lib.hid fun w' h => by
    have := SameTermOf tmA (SameTermsW _) tmA w' (fun b => b < w7.heap.size ∨ True) a2 none cap2 0 ((HT2.out.mono fun _ _ _ => .inr trivial).keep (Keeps.below h.below _)) (Ts.empty' _ _)
    rw [eqT_true rfl] at this
    exact this
  go_region_held3 (fun w' => w'.cell? ⟨b1, o1 + 1 * 3, none⟩ = some (.int .i64 1) ∧ w'.cell? ⟨b1, o1 + 1 * 3 + 1, none⟩ = some (.string ⟨#[]⟩) ∧ w'.cell? ⟨b1, o1 + 1 * 3 + 2, none⟩ = some (.slice a1 0 cap1) ∧ w'.cell? ⟨b1, o1 + 2 * 3, none⟩ = some (.int .i64 0) ∧ w'.cell? ⟨b1, o1 + 2 * 3 + 1, none⟩ = some (.string ⟨#[97]⟩) ∧ w'.cell? ⟨b1, o1 + 2 * 3 + 2, none⟩ = some (.slice a2 0 cap2) ∧ TwoT w7 b1 (o1 + 1 * 3) b1 (o1 + 2 * 3) (.int .i64 1) (.string ⟨#[]⟩) (.slice a1 0 cap1) (.int .i64 0) (.string ⟨#[97]⟩) (.slice a2 0 cap2) w')
    (first | exact TwoT.all (TwoT.drew (by assumption)) | exact TwoT.all (TwoT.next (TwoT.of (by assumption)) hb))
    (first
      | (go_at_call 57; refine (vaW _ _).mono ?_; rintro e w' ⟨rfl, hb⟩)
      | (go_at_call 49; refine (fnW _ _ _ _ _).mono ?_; rintro e w' ⟨rfl, hb⟩)
      | (go_at_call 26; (with_reducible refine (C1.out _ (TwoT.of (by assumption))).mono ?_); rintro e w' ⟨rfl, hb⟩)
      | (go_at_call 26; (with_reducible refine (C2.out _ (TwoT.of (by assumption))).mono ?_); rintro e w' ⟨rfl, hb⟩))
  all_goals
    have HB := Lib.hid (TwoT.of (by assumption)).below
    go_wp2_with fail
    go_ret
    exact ⟨rfl, B7.out.trans (HB.out.mono B7.out.size)⟩

end Go.Proofs.Ytikmgiapjigghaa

/- Walk: the sample program. -/
namespace Go.Proofs.Ytikmgiapjigghaa
open Go.RowKit

theorem pr_lit2 {w : World} {ok : Nat → Prop} (c d : Cl) {a1 a2 a3 a4 : Option Addr} {c1 c2 c3 c4 : Nat} (h1 : Ts w ok c.head.args a1 c1) (h2 : Ts w ok c.body a2 c2) (h3 : Ts w ok d.head.args a3 c3) (h4 : Ts w ok d.body a4 c4) (hf : c.head.fits) (hg : d.head.fits) (hok : ok w.heap.size) :
    Pr (w.alloc (.cells #[.int .i64 c.head.var, .string c.head.name, .slice a1 c.head.args.length c1, .slice a2 c.body.length c2, .int .i64 d.head.var, .string d.head.name, .slice a3 d.head.args.length c3, .slice a4 d.body.length c4] 90)) ok [c, d] (some ⟨w.heap.size, 0, none⟩) 2 := by
  have hk : Keeps ok w (w.alloc (.cells #[.int .i64 c.head.var, .string c.head.name, .slice a1 c.head.args.length c1, .slice a2 c.body.length c2, .int .i64 d.head.var, .string d.head.name, .slice a3 d.head.args.length c3, .slice a4 d.body.length c4] 90)) := Keeps.below ((Below.refl _ _).alloc (Nat.le_refl _) _) ok
  refine ⟨⟨Nat.le_refl _, by unfold maxLen; omega, fun h => by cases h⟩, fun i hi => ?_⟩
  rcases (by simp at hi; omega : i = 0 ∨ i = 1) with rfl | rfl
  · refine ⟨w.heap.size, 0, a1, a2, c1, c2, rfl, hok, by simp, Cells3.mk ?_ ?_ ?_ hf, ?_, h1.keep hk, h2.keep hk⟩
    all_goals simp [World.cell?, World.alloc, -World.alloc_eq]
  · refine ⟨w.heap.size, 0, a3, a4, c3, c4, rfl, hok, by simp, Cells3.mk ?_ ?_ ?_ hg, ?_, h3.keep hk, h4.keep hk⟩
    all_goals simp [World.cell?, World.alloc, -World.alloc_eq]

def SmpPost (w : World) (e : Ending) (w' : World) : Prop := ∃ a, e = .returned (.slice (some a) 2 2) ∧ Pr w' (fun b => b < w'.heap.size) sampleL (some a) 2 ∧ Below w.heap.size w w'

set_option maxRecDepth 100000 in
set_option maxHeartbeats 1000000 in
theorem sampleW (w : World) : Calls Try.prog 87 #[] w (SmpPost w) := by
  go_enter Try.func87, Try.ntmps87
  go_wp2_with fail
  refine (fnW _ _ _ _ _).mono ?_
  rintro e w1 ⟨rfl, hb1⟩
  go_wp2_with fail
  refine (fnW _ _ _ _ _).mono ?_
  rintro e w2 ⟨rfl, hb2⟩
  have T1 := (ts_lit (w := w1) (ok := fun _ => True) tmA (Ts.empty _ _) (fits_lit _ _ _ (by decide) (by decide) (by decide)) trivial).keep (Keeps.below hb2 _)
  have T1H := Lib.hid T1
  have B2 := Lib.hid ((hb1.alloc hb1.size (.cells #[.int .i64 0, .string ⟨#[97]⟩, .slice none 0 0] 24)).trans (hb2.mono (by have := hb1.size; simp; omega)))
  clear hb1 hb2 T1
  go_wp2_with fail
  refine (vaW _ _).mono ?_
  rintro e w3 ⟨rfl, hb3⟩
  go_wp2_with fail
  refine (fnW _ _ _ _ _).mono ?_
  rintro e w4 ⟨rfl, hb4⟩
  have T2 := (ts_lit (w := w3) (ok := fun _ => True) (VarT 1) (Ts.empty _ _) (fits_lit _ _ _ (by decide) (by decide) (by decide)) trivial).keep (Keeps.below hb4 _)
  have T2H := Lib.hid T2
  have K34 := ((hb3.alloc hb3.size (.cells #[.int .i64 1, .string ⟨#[]⟩, .slice none 0 0] 24)).trans (hb4.mono (by have := hb3.size; simp; omega)))
  have T1H4 := Lib.hid (T1H.out.keep (Keeps.below K34 _))
  have B4 := Lib.hid (B2.out.trans (K34.mono B2.out.size))
  clear hb3 hb4 T2 K34 B2 T1H
  go_wp2_with fail
  refine (vaW _ _).mono ?_
  rintro e w5 ⟨rfl, hb5⟩
  go_wp2_with fail
  refine (fnW _ _ _ _ _).mono ?_
  rintro e w6 ⟨rfl, hb6⟩
  have K46 := hb5.trans (hb6.mono hb5.size)
  have T1H6 := Lib.hid (T1H4.out.keep (Keeps.below K46 _))
  have T2H6 := Lib.hid (T2H.out.keep (Keeps.below K46 _))
  have B6 := Lib.hid (B4.out.trans (K46.mono B4.out.size))
  clear hb5 hb6 K46 T1H4 T2H B4
  go_wp2_with fail
  refine (fnW _ _ _ _ _).mono ?_
  rintro e w7 ⟨rfl, hb7⟩
  have T3 := (ts_lit2 (w := w6) (ok := fun _ => True) (VarT 1) tmB (Ts.empty _ _) (Ts.empty _ _) (fits_lit _ _ _ (by decide) (by decide) (by decide)) (fits_lit _ _ _ (by decide) (by decide) (by decide)) trivial).keep (Keeps.below hb7 _)
  have K67 := ((Below.refl w6.heap.size w6).alloc (Nat.le_refl _) (.cells #[.int .i64 1, .string ⟨#[]⟩, .slice none 0 0, .int .i64 0, .string ⟨#[98]⟩, .slice none 0 0] 24)).trans (hb7.mono (by simp))
  have T1H7 := T1H6.out.keep (Keeps.below K67 _)
  have T2H7 := T2H6.out.keep (Keeps.below K67 _)
  have B7 := Lib.hid (B6.out.trans (K67.mono B6.out.size))
  have T4 := ts_lit (w := w7) (tEq (VarT 1) tmB) T3 (fits_lit _ _ _ (by decide) (by decide) (by decide)) trivial
  have K78 := (Below.refl w7.heap.size w7).alloc (Nat.le_refl _) (.cells #[.int .i64 0, .string ⟨#[101, 113]⟩, .slice (some ⟨w6.heap.size, 0, none⟩) 2 2] 24)
  have TP := pr_lit2 (⟨tP tmA, []⟩ : Cl) (⟨tP (VarT 1), [tEq (VarT 1) tmB]⟩ : Cl) (T1H7.keep (Keeps.below K78 _)) (Ts.empty _ _) (T2H7.keep (Keeps.below K78 _)) T4 (fits_lit _ _ _ (by decide) (by decide) (by decide)) (fits_lit _ _ _ (by decide) (by decide) (by decide)) trivial
  have hsz : (w7.alloc (.cells #[.int .i64 0, .string ⟨#[101, 113]⟩, .slice (some ⟨w6.heap.size, 0, none⟩) 2 2] 24)).heap.size = w7.heap.size + 1 := by simp
  have TPH := Lib.hid TP
  have BE := Lib.hid ((B7.out.trans (K78.mono B7.out.size)).alloc (by have := B7.out.size; rw [hsz]; omega) (.cells #[.int .i64 0, .string ⟨#[112]⟩, .slice (some ⟨w1.heap.size, 0, none⟩) 1 1, .slice none 0 0, .int .i64 0, .string ⟨#[112]⟩, .slice (some ⟨w3.heap.size, 0, none⟩) 1 1, .slice (some ⟨w7.heap.size, 0, none⟩) 1 1] 90))
  have HS := Lib.hid hsz
  clear hb7 K67 K78 T1H7 T2H7 T3 T4 TP B7 hsz
  go_wp2_with fail
  go_ret
  rw [HS.out] at TPH
  exact ⟨_, rfl, TPH.out.mono fun b hb _ => hb, BE.out⟩

end Go.Proofs.Ytikmgiapjigghaa
