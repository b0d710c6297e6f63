/- Walks: the reference's ReadProgram. -/
import Derived.Test.YtikmgiapjigghabDoorTbTre
namespace Go.Proofs.YtikmgiapjigghabDoor
open Go.RowKit

/-- A clause whose body is what stands there, or nothing. -/
def pRest (t : Tm) (q : List Tm) (r : Bs) : PR Cl := (pNeed [46, 10] r).bind fun _ r4 => .ok ⟨t, q⟩ r4

section
variable {r r1 r2 r3 : Bs} {t : Tm} {l : List Tm} {u : Unit}
theorem pC_body (h : pTerm r = .ok t r1) (h32 : hd r1 = 32) (hn : pNeed [32, 58, 45, 32] r1 = .ok u r2) (hl : pList r2 = .ok l r3) : pClause r = pRest t l r3 := by
  unfold pClause; rw [h]; show (pBody r1).bind _ = _; unfold pBody; rw [if_pos h32, hn]; show (pList r2).bind _ = _; rw [hl]; rfl
theorem pC_none (h : pTerm r = .ok t r1) (h32 : hd r1 ≠ 32) : pClause r = pRest t [] r1 := by
  unfold pClause; rw [h]; show (pBody r1).bind _ = _; unfold pBody; rw [if_neg h32]; rfl
theorem pGo_no {acc : List Cl} (h : r ≠ []) (hc : pClause r = .no r1) : pGo acc r = .no r1 := by rw [pGo_step h, hc]; rfl
theorem pGo_ok {acc : List Cl} {c : Cl} (h : r ≠ []) (hc : pClause r = .ok c r1) : pGo acc r = pGo (acc ++ [c]) r1 := by rw [pGo_step h, hc]; rfl
end

/-- The clauses that are there, while a clause is read into its variable. -/
structure QSt (W : World) (x : Value) (l : List ClAt) (c : ClAt) (bx : Nat) (w : World) : Prop where
  own : OwnCs w W.heap.size (fun i => W.heap.size ≤ i ∧ i ≠ bx) x l
  cs : CsEach w (Free x (fun i => W.heap.size ≤ i ∧ i ≠ bx)) [c]
  ne : x.ownBlock ≠ some bx
  bel : Below W.heap.size W w
  box : Box4 w bx (.int .i64 c.1.head.var) (.string c.1.head.name) (.slice c.2.1.1 c.1.head.args.length c.2.1.2) (.slice c.2.2.1 c.1.body.length c.2.2.2)
  new : W.heap.size ≤ bx

section
variable {W w w' : World} {x : Value} {l : List ClAt} {c : ClAt} {bx : Nat}
theorem QSt.below (h : QSt W x l c bx w) (hb : Below w.heap.size w w') : QSt W x l c bx w' :=
  ⟨h.own.below hb, h.cs.keep (Keeps.below hb _), h.ne, h.bel.trans (hb.mono h.bel.size), h.box.below hb, h.new⟩

theorem QSt.made {wr : World} {t : Tm} {a : Option Addr} {cap : Nat} (ho : OwnCs wr W.heap.size (fun i => W.heap.size ≤ i) x l) (hW : Below W.heap.size W wr) (hb : Below wr.heap.size wr w) (hf : t.fits) (hts : Ts w (fun i => wr.heap.size ≤ i) t.args a cap) (o : Obj) :
    QSt W x l (⟨t, []⟩, (a, cap), (none, 0)) (w.heap.size + 1) ((w.alloc o).alloc (.cells #[.int .i64 t.var, .string t.name, .slice a t.args.length cap, .slice none 0 0] 50)) := by
  have hB : Below w.heap.size w ((w.alloc o).alloc (.cells #[.int .i64 t.var, .string t.name, .slice a t.args.length cap, .slice none 0 0] 50)) := ((Below.refl _ _).alloc (Nat.le_refl _) _).alloc (by simp) _
  have hs1 := hW.size
  have hs2 := hb.size
  have hown := ho.below hb
  refine ⟨⟨ownsRow_below hown.own hB, (hown.each.mono (ok' := Free x (fun i => W.heap.size ≤ i ∧ i ≠ w.heap.size + 1)) fun i hi h => ⟨⟨h.1, by omega⟩, h.2⟩).keep (Keeps.below hB _)⟩, ?_, fun e => by have := (hown.block e).2; omega, (hW.trans (hb.mono hs1)).trans (hB.mono (Nat.le_trans hs1 hs2)), ?_, by omega⟩
  · intro y hy
    rw [List.mem_singleton] at hy
    subst hy
    exact ⟨hf, (hts.mono (ok' := Free x (fun i => W.heap.size ≤ i ∧ i ≠ w.heap.size + 1)) fun i hi h => ⟨⟨Nat.le_trans hs1 h, by omega⟩, fun e => by have := (ho.block e).2; omega⟩).keep (Keeps.below hB _), Ts.empty _ _⟩
  · have h := Box4.made (w.alloc o) (.int .i64 t.var) (.string t.name) (.slice a t.args.length cap) (.slice none 0 0)
    rw [show (w.alloc o).heap.size = w.heap.size + 1 by simp] at h
    exact h

theorem QSt.body {t : Tm} {q : List Tm} {a a2 : Option Addr} {cap cap2 m : Nat} (h : QSt W x l (⟨t, []⟩, (a, cap), (none, 0)) bx w) (hts : Ts w (fun i => m ≤ i) q a2 cap2) (h1 : bx < m) (hx : ∀ g, x.ownBlock = some g → g < m) :
    QSt W x l (⟨t, q⟩, (a, cap), (a2, cap2)) bx (w.setCell ⟨bx, 3, none⟩ (.slice a2 q.length cap2)) := by
  have ht : Touch (fun i => i = bx) w (w.setCell ⟨bx, 3, none⟩ (.slice a2 q.length cap2)) := Touch.setCell (p := ⟨bx, 3, none⟩) _ rfl
  have hn := h.new
  refine ⟨⟨ownsRow_block h.own.own fun g hg => ht.block g (h.own.block hg).2 (fun e => h.ne (e ▸ hg)), h.own.each.keep (ht.keeps fun i hi e => hi.1.2 e)⟩, ?_, h.ne, h.bel.setCell (p := ⟨bx, 3, none⟩) h.new _, h.box.set3 _, h.new⟩
  refine CsEach.keep (ht.keeps fun i hi e => hi.1.2 e) fun y hy => ?_
  rw [List.mem_singleton] at hy
  subst hy
  obtain ⟨e1, e2, _⟩ := h.cs _ (List.mem_singleton.2 rfl)
  exact ⟨e1, e2, hts.mono fun i _ hi => ⟨⟨by omega, by omega⟩, fun e => by have := hx i e; omega⟩⟩

theorem QSt.append {x' : Value} (h : QSt W x l c bx w) (o : Obj) (ho : w'.ownsRow W.heap.size 50 4 x' (l.length + [c].length) (flatC l ++ flatC [c])) (hg : (w.alloc o).grownBy w' x.ownBlock) (hf : Fresh (w.alloc o) x x') :
    OwnCs w' W.heap.size (fun i => W.heap.size ≤ i) x' (l ++ [c]) ∧ Below W.heap.size W w' := by
  have hB : Below w.heap.size w (w.alloc o) := (Below.refl _ _).alloc (Nat.le_refl _) _
  have h2 := h.below hB
  have h3 := h2.own.append h2.cs ho hg hf
  exact ⟨⟨h3.own, h3.each.mono fun i _ hi => ⟨hi.1.1, hi.2⟩⟩, h2.bel.grown hg h2.bel.size fun k e => (h2.own.block e).1⟩
end

theorem ParsedP.none {s : Bs} {w w' : World} {n e : Nat} (h : readP s = ([], n, e)) (hb : Below w.heap.size w w') : ParsedP s w (.returned (.tuple #[.slice none 0 0, .int .i64 (n : Nat), .int .i64 (e : Nat)])) w' := by
  unfold ParsedP
  rw [h]
  exact ⟨Option.none, 0, rfl, Pr.empty _ _, hb⟩

theorem readP_no {s r : Bs} (hs : ¬ 6000 < s.length) (h : pProg s = .no r) : readP s = ([], s.length - r.length, 1) := by
  unfold readP; rw [if_neg hs, h]
theorem readP_ok {s r : Bs} {p : List Cl} (hs : ¬ 6000 < s.length) (h : pProg s = .ok p r) : readP s = if programE p = 0 then (p, 0, 0) else ([], 0, programE p) := by
  unfold readP; rw [if_neg hs, h]

theorem drop_ne {s : Bs} {k : Nat} (h : k < s.length) : s.drop k ≠ [] := fun e => by
  have := congrArg List.length e
  rw [List.length_drop, List.length_nil] at this
  omega

end Go.Proofs.YtikmgiapjigghabDoor
