/- The store of chapter 3 in a world: what it is; walks: spend, Look. -/
import Derived.Test.YtikmgiapjigghaaClsC
import Derived.Test.YtikmgiapjigghaaMap
import Derived.Deep.LoopGhost
import Derived.Deep.RegionHeld3
namespace Go.Proofs.Ytikmgiapjigghaa
open Go.RowKit

/-- Only blocks of M may have turned, of those that were there. -/
structure Touch (M : Nat → Prop) (w w' : World) : Prop where
  os : w'.os = w.os
  tape : w'.tape = w.tape
  output : w'.output = w.output
  size : w.heap.size ≤ w'.heap.size
  block : ∀ b, b < w.heap.size → ¬ M b → w'.heap[b]? = w.heap[b]?

theorem Touch.below {M : Nat → Prop} {w w' : World} (h : Below w.heap.size w w') : Touch M w w' := ⟨h.os, h.tape, h.output, h.size, fun b hb _ => h.block b hb⟩
theorem Touch.refl (M : Nat → Prop) (w : World) : Touch M w w := Touch.below (Below.refl _ _)
theorem Touch.trans {M : Nat → Prop} {a b c : World} (h : Touch M a b) (k : Touch M b c) : Touch M a c :=
  ⟨k.os.trans h.os, k.tape.trans h.tape, k.output.trans h.output, Nat.le_trans h.size k.size, fun i hi hm => (k.block i (Nat.lt_of_lt_of_le hi h.size) hm).trans (h.block i hi hm)⟩
theorem Touch.mono {M M' : Nat → Prop} {w w' : World} (h : Touch M w w') (hm : ∀ b, b < w.heap.size → M b → M' b) : Touch M' w w' :=
  ⟨h.os, h.tape, h.output, h.size, fun b hb hn => h.block b hb (fun hM => hn (hm b hb hM))⟩
theorem Touch.toBelow {M : Nat → Prop} {B : Nat} {w w' : World} (h : Touch M w w') (hB : B ≤ w.heap.size) (hm : ∀ b, M b → B ≤ b) : Below B w w' :=
  ⟨h.os, h.tape, h.output, h.size, fun b hb => h.block b (by omega) (fun hM => by have := hm b hM; omega)⟩
theorem Touch.keeps {M : Nat → Prop} {w w' : World} (h : Touch M w w') {ok : Nat → Prop} (hm : ∀ b, ok b → ¬ M b) : Keeps ok w w' := ⟨h.size, fun b hb hs => h.block b hs (hm b hb)⟩
theorem Touch.grown {M : Nat → Prop} {w w' : World} {row : Option Nat} (h : w.grownBy w' row) (hm : ∀ k, row = some k → M k) : Touch M w w' :=
  ⟨h.os, h.tape, h.output, h.size, fun b hb hn => h.block b hb (fun e => hn (hm b e.symm))⟩
theorem Touch.setCell {M : Nat → Prop} {w : World} {p : Addr} (u : Value) (hp : M p.block) : Touch M w (w.setCell p u) :=
  ⟨rfl, rfl, rfl, by simp [World.setCell], fun b _ hn => Below.heap_setCell _ _ _ _ (fun e => hn (e ▸ hp))⟩

/-- A term or none, as a map's value. -/
def MapTm (w : World) (ok : Nat → Prop) (o : Option Tm) (v : Option Value) : Prop :=
  match o with
  | none => v = none
  | some t => ∃ a cap, v = some (.agg #[.int .i64 t.var, .string t.name, .slice a t.args.length cap]) ∧ t.fits ∧ Ts w ok t.args a cap

theorem MapTm.keep {w w' : World} {ok : Nat → Prop} (hk : Keeps ok w w') {o : Option Tm} {v : Option Value} (h : MapTm w ok o v) : MapTm w' ok o v := by
  cases o with
  | none => exact h
  | some t => obtain ⟨a, cap, h1, h2, h3⟩ := h; exact ⟨a, cap, h1, h2, h3.keep hk⟩

theorem MapTm.mono {w : World} {ok ok' : Nat → Prop} (hk : ∀ b, b < w.heap.size → ok b → ok' b) {o : Option Tm} {v : Option Value} (h : MapTm w ok o v) : MapTm w ok' o v := by
  cases o with
  | none => exact h
  | some t => obtain ⟨a, cap, h1, h2, h3⟩ := h; exact ⟨a, cap, h1, h2, h3.mono hk⟩

/-- The blocks of a store that turn. -/
def StM (bs bm : Nat) (tv : Value) : Nat → Prop := fun b => b = bs ∨ b = bm ∨ tv.ownBlock = some b

/-- A store in a world: which term each variable is, in which order they became that, how much work was done. -/
structure StAt (w : World) (ok : Nat → Prop) (bs bm : Nat) (tv : Value) (σ : Int → Option Tm) (L : List Int) (wk : Nat) : Prop where
  blk : w.heap[bs]? = some (.cells #[.map (some bm), tv, .int .i64 wk] 102 (0, 0))
  trail : w.ownsRow 0 3 1 tv L.length (L.map (Value.int .i64))
  map : ∃ f, IMap Try.prog 3 w bm L.length f ∧ ∀ k, MapTm w ok (σ k) (f k)
  ne : bs ≠ bm ∧ tv.ownBlock ≠ some bs ∧ tv.ownBlock ≠ some bm
  okb : ∀ b, ok b → b < w.heap.size ∧ ¬ StM bs bm tv b

theorem StAt.lt {w : World} {ok : Nat → Prop} {bs bm : Nat} {tv : Value} {σ : Int → Option Tm} {L : List Int} {wk : Nat} (h : StAt w ok bs bm tv σ L wk) : bs < w.heap.size := (Array.getElem?_eq_some_iff.1 h.blk).1

theorem StAt.cells {w : World} {ok : Nat → Prop} {bs bm : Nat} {tv : Value} {σ : Int → Option Tm} {L : List Int} {wk : Nat} (h : StAt w ok bs bm tv σ L wk) :
    w.cell? ⟨bs, 0, none⟩ = some (.map (some bm)) ∧ w.cell? ⟨bs, 1, none⟩ = some tv ∧ w.cell? ⟨bs, 2, none⟩ = some (.int .i64 wk) ∧ (∀ o, w.frozen? ⟨bs, o, none⟩ = false) := by
  refine ⟨?_, ?_, ?_, fun o => ?_⟩
  · simp [World.cell?, h.blk]
  · simp [World.cell?, h.blk]
  · simp [World.cell?, h.blk]
  · simp [World.frozen?, h.blk]

/-- What does not touch the store's blocks leaves it. -/
theorem StAt.keep {w w' : World} {ok : Nat → Prop} {bs bm : Nat} {tv : Value} {σ : Int → Option Tm} {L : List Int} {wk : Nat} (h : StAt w ok bs bm tv σ L wk) (hb : Below w.heap.size w w') : StAt w' ok bs bm tv σ L wk := by
  obtain ⟨f, h1, h2⟩ := h.map
  exact ⟨(hb.block bs h.lt).trans h.blk, ownsRow_below h.trail hb, ⟨f, h1.kept (hb.block bm h1.lt), fun k => (h2 k).keep (Keeps.below hb ok)⟩, h.ne, fun b hk => ⟨Nat.lt_of_lt_of_le (h.okb b hk).1 hb.size, (h.okb b hk).2⟩⟩

theorem StAt.keeps {w w' : World} {ok : Nat → Prop} {bs bm : Nat} {tv : Value} {σ : Int → Option Tm} {L : List Int} {wk : Nat} (h : StAt w ok bs bm tv σ L wk) (ht : Touch (StM bs bm tv) w w') : Keeps ok w w' := ht.keeps fun b hb => (h.okb b hb).2

theorem heap_setCell_at (w : World) (b o : Nat) (u : Value) {c : Array Value} {e : TypeId} {fz : Nat × Nat} (h : w.heap[b]? = some (.cells c e fz)) : (w.setCell ⟨b, o, none⟩ u).heap[b]? = some (.cells (c.setIfInBounds o u) e fz) := by
  simp [World.setCell, Array.getElem?_modify, h]

/-- One more unit of work. -/
theorem StAt.spent {w : World} {ok : Nat → Prop} {bs bm : Nat} {tv : Value} {σ : Int → Option Tm} {L : List Int} {wk : Nat} (h : StAt w ok bs bm tv σ L wk) : StAt (w.setCell ⟨bs, 2, none⟩ (.int .i64 ((wk : Int) + 1))) ok bs bm tv σ L (wk + 1) := by
  obtain ⟨f, h1, h2⟩ := h.map
  have ht : Touch (StM bs bm tv) w (w.setCell ⟨bs, 2, none⟩ (.int .i64 ((wk : Int) + 1))) := Touch.setCell _ (.inl rfl)
  have hk := h.keeps ht
  refine ⟨by rw [heap_setCell_at _ _ _ _ h.blk]; rfl, ?_, ⟨f, h1.kept (Below.heap_setCell _ _ _ _ (fun e => h.ne.1 e.symm)), fun k => (h2 k).keep hk⟩, h.ne, fun b hb => ⟨Nat.lt_of_lt_of_le (h.okb b hb).1 ht.size, (h.okb b hb).2⟩⟩
  refine h.trail.kept (row := some bs) ⟨ht.os, ht.tape, ht.output, ht.size, fun k _ hk => Below.heap_setCell _ _ _ _ (fun e => hk (by rw [e]))⟩ (.inr h.ne.2.1)

set_option maxRecDepth 100000 in
set_option maxHeartbeats 400000 in
theorem spendW {w : World} {ok : Nat → Prop} {bs bm : Nat} {tv : Value} {σ : Int → Option Tm} {L : List Int} {wk : Nat} (h : StAt w ok bs bm tv σ L wk) (hwk : wk ≤ 1000000) :
    Calls Try.prog 101 #[.pointer (some ⟨bs, 0, none⟩)] w fun e w' => e = .returned (.bool (decide (wk + 1 ≤ 4000))) ∧ StAt w' ok bs bm tv σ L (wk + 1) ∧ Touch (StM bs bm tv) w w' := by
  obtain ⟨c0, c1, c2, cf⟩ := h.cells
  have f2 := cf 2
  have HS := Lib.hid h.spent
  have HT : Hid (Touch (StM bs bm tv) w (w.setCell ⟨bs, 2, none⟩ (.int .i64 ((wk : Int) + 1)))) := Lib.hid (Touch.setCell _ (.inl rfl))
  clear cf h
  by_cases hl : wk + 1 ≤ 4000
  · have hd : decide (wk + 1 ≤ 4000) = true := decide_eq_true hl
    go_enter Try.func101, Try.ntmps101
    go_wp2_with fail
    go_ret
    exact ⟨retB (by rw [hd]; simp; omega), HS.out, HT.out⟩
  · have hd : decide (wk + 1 ≤ 4000) = false := decide_eq_false hl
    go_enter Try.func101, Try.ntmps101
    go_wp2_with fail
    go_ret
    exact ⟨retB (by rw [hd]; simp; omega), HS.out, HT.out⟩

theorem StAt.blocks {w : World} {ok : Nat → Prop} {bs bm : Nat} {tv : Value} {σ : Int → Option Tm} {L : List Int} {wk : Nat} (h : StAt w ok bs bm tv σ L wk) : bm < w.heap.size ∧ ∀ g, tv.ownBlock = some g → g < w.heap.size := by
  obtain ⟨f, h1, _⟩ := h.map
  exact ⟨h1.lt, fun g hg => (h.trail.lt g hg).2⟩

/-- Look goes n steps. -/
def LookN (σ : Int → Option Tm) : Nat → Tm → Tm → Prop
  | 0, t, u => u = t ∧ (t.var = 0 ∨ σ t.var = none)
  | n + 1, t, u => t.var ≠ 0 ∧ ∃ t', σ t.var = some t' ∧ LookN σ n t' u

/-- A call hands back a term, in memory that was there; it made new memory alone. -/
def RetTm (w : World) (ok : Nat → Prop) (t : Tm) (e : Ending) (w' : World) : Prop :=
  ∃ a cap, e = .returned (.agg #[.int .i64 t.var, .string t.name, .slice a t.args.length cap]) ∧ t.fits ∧ Ts w' ok t.args a cap ∧ Below w.heap.size w w'

theorem zeroTm (w : World) : (zeroValue 24).run Try.prog w = .ok (.agg #[.int .i64 0, .string ByteArray.empty, .slice none 0 0]) w := by kernel_rfl

theorem keyedI : Go.Maps.Keyed Try.prog 3 := Go.Maps.int_keyed Try.underlying3

/-- The look-up of a variable in the store's map, in this world and in each that has new memory besides. -/
theorem StAt.look {w : World} {ok : Nat → Prop} {bs bm : Nat} {tv : Value} {σ : Int → Option Tm} {L : List Int} {wk : Nat} (h : StAt w ok bs bm tv σ L wk) {v : Int} (hv : I64 v) :
    (σ v = none ∧ ∀ w', Below w.heap.size w w' → (Instr.lookup 100 (.map (some bm)) (.int .i64 v) true).run Try.prog w' = .ok (.tuple #[.agg #[.int .i64 0, .string ByteArray.empty, .slice none 0 0], .bool false]) w') ∨
    (∃ t a cap, σ v = some t ∧ t.fits ∧ Ts w ok t.args a cap ∧ ∀ w', Below w.heap.size w w' → (Instr.lookup 100 (.map (some bm)) (.int .i64 v) true).run Try.prog w' = .ok (.tuple #[.agg #[.int .i64 t.var, .string t.name, .slice a t.args.length cap], .bool true]) w') := by
  obtain ⟨f, h1, h2⟩ := h.map
  have hl : ∀ w', Below w.heap.size w w' → _ := fun w' hb => (h1.kept (hb.block bm h1.lt)).look keyedI Try.underlying3 Try.underlying100 (zeroTm w') hv
  have h3 := h2 v
  cases hs : σ v with
  | none =>
    rw [hs] at h3
    rw [show f v = none from h3] at hl
    exact .inl ⟨rfl, hl⟩
  | some t =>
    rw [hs] at h3
    obtain ⟨a, cap, e, hf, ht⟩ := h3
    rw [e] at hl
    exact .inr ⟨t, a, cap, rfl, hf, ht, hl⟩

/-- Three cells of a block of one's own: a term's variable. -/
structure Box3 (w : World) (b : Nat) (x0 x1 x2 : Value) : Prop where
  blk : w.heap[b]? = some (.cells #[x0, x1, x2] 24 (0, 0))

theorem Box3.c0 {w : World} {b : Nat} {x0 x1 x2 : Value} (h : Box3 w b x0 x1 x2) : w.cell? ⟨b, 0, none⟩ = some x0 := by simp [World.cell?, h.blk]
theorem Box3.c1 {w : World} {b : Nat} {x0 x1 x2 : Value} (h : Box3 w b x0 x1 x2) : w.cell? ⟨b, 1, none⟩ = some x1 := by simp [World.cell?, h.blk]
theorem Box3.c2 {w : World} {b : Nat} {x0 x1 x2 : Value} (h : Box3 w b x0 x1 x2) : w.cell? ⟨b, 2, none⟩ = some x2 := by simp [World.cell?, h.blk]
theorem Box3.fz {w : World} {b : Nat} {x0 x1 x2 : Value} (h : Box3 w b x0 x1 x2) (o : Nat) : w.frozen? ⟨b, o, none⟩ = false := by simp [World.frozen?, h.blk]
theorem Box3.lt {w : World} {b : Nat} {x0 x1 x2 : Value} (h : Box3 w b x0 x1 x2) : b < w.heap.size := (Array.getElem?_eq_some_iff.1 h.blk).1
theorem Box3.keep {w w' : World} {b : Nat} {x0 x1 x2 : Value} (h : Box3 w b x0 x1 x2) (hb : w'.heap[b]? = w.heap[b]?) : Box3 w' b x0 x1 x2 := ⟨hb.trans h.blk⟩
theorem Box3.below {w w' : World} {b : Nat} {x0 x1 x2 : Value} (h : Box3 w b x0 x1 x2) (hb : Below w.heap.size w w') : Box3 w' b x0 x1 x2 := h.keep (hb.block b h.lt)
theorem Box3.made (w : World) (x0 x1 x2 : Value) : Box3 (w.alloc (.cells #[x0, x1, x2] 24)) w.heap.size x0 x1 x2 := ⟨heap_alloc_new w _⟩
theorem Box3.alloc {w : World} {b : Nat} {x0 x1 x2 : Value} (h : Box3 w b x0 x1 x2) (o : Obj) : Box3 (w.alloc o) b x0 x1 x2 := h.below ((Below.refl _ _).alloc (Nat.le_refl _) _)
theorem Box3.put {w : World} {b : Nat} {x0 x1 x2 : Value} (h : Box3 w b x0 x1 x2) (y0 y1 y2 : Value) : Box3 (((w.setCell ⟨b, 0, none⟩ y0).setCell ⟨b, 1, none⟩ y1).setCell ⟨b, 2, none⟩ y2) b y0 y1 y2 := by
  refine ⟨?_⟩
  rw [heap_setCell_at _ _ _ _ (heap_setCell_at _ _ _ _ (heap_setCell_at _ _ _ _ h.blk))]
  rfl

theorem Box3.q0 {w : World} {b : Nat} {x0 x1 x2 : Value} (h : Box3 w b x0 x1 x2) (y0 : Value) : (w.setCell ⟨b, 0, none⟩ y0).cell? ⟨b, 0, none⟩ = some y0 := by
  simp [World.cell?, heap_setCell_at _ _ _ _ h.blk]
theorem Box3.q1 {w : World} {b : Nat} {x0 x1 x2 : Value} (h : Box3 w b x0 x1 x2) (y0 y1 : Value) : ((w.setCell ⟨b, 0, none⟩ y0).setCell ⟨b, 1, none⟩ y1).cell? ⟨b, 1, none⟩ = some y1 := by
  simp [World.cell?, heap_setCell_at _ _ _ _ (heap_setCell_at _ _ _ _ h.blk)]

theorem below_put {B : Nat} {w0 w : World} (h : Below B w0 w) {b : Nat} (hb : B ≤ b) (y0 y1 y2 : Value) : Below B w0 (((w.setCell ⟨b, 0, none⟩ y0).setCell ⟨b, 1, none⟩ y1).setCell ⟨b, 2, none⟩ y2) :=
  ((h.setCell (p := ⟨b, 0, none⟩) hb y0).setCell (p := ⟨b, 1, none⟩) hb y1).setCell (p := ⟨b, 2, none⟩) hb y2

theorem other_put {w : World} {b b' : Nat} (hne : b' ≠ b) (y0 y1 y2 : Value) : (((w.setCell ⟨b, 0, none⟩ y0).setCell ⟨b, 1, none⟩ y1).setCell ⟨b, 2, none⟩ y2).heap[b']? = w.heap[b']? := by
  rw [Below.heap_setCell _ _ _ _ hne, Below.heap_setCell _ _ _ _ hne, Below.heap_setCell _ _ _ _ hne]

set_option maxRecDepth 100000 in
set_option maxHeartbeats 1000000 in
theorem LookW {w : World} {ok : Nat → Prop} {bs bm : Nat} {tv : Value} {σ : Int → Option Tm} {L : List Int} {wk : Nat} (h : StAt w ok bs bm tv σ L wk) {n : Nat} {t u : Tm} (hl : LookN σ n t u) {a : Option Addr} {cap : Nat} (hf : t.fits) (ht : Ts w ok t.args a cap) :
    Calls Try.prog 102 #[.pointer (some ⟨bs, 0, none⟩), .agg #[.int .i64 t.var, .string t.name, .slice a t.args.length cap]] w (RetTm w ok u) := by
  have H := Lib.hid h; have HL := Lib.hid hl; have HF := Lib.hid hf; have HT := Lib.hid ht
  have hbs := h.lt
  clear h hl hf ht
  go_enter Try.func102, Try.ntmps102
  go_wp2_with fail
  go_loopg [] n (fun k wr => ∃ cur a cap, LookN σ k cur u ∧ cur.fits ∧ Ts w ok cur.args a cap ∧ Box3 wr w.heap.size (.int .i64 cur.var) (.string cur.name) (.slice a cur.args.length cap) ∧ Box3 wr (w.heap.size + 1) (.int .i64 0) (.string ⟨#[]⟩) (.slice none 0 0) ∧ Below w.heap.size w wr)
  case atStart =>
    refine ⟨t, a, cap, HL.out, HF.out, HT.out, (Box3.made _ _ _ _).alloc _, ?_, ((Below.refl _ _).alloc (Nat.le_refl _) _).alloc (by simp) _⟩
    have := Box3.made (w.alloc (.cells #[.int .i64 t.var, .string t.name, .slice a t.args.length cap] 24)) (.int .i64 0) (.string ⟨#[]⟩) (.slice none 0 0)
    simpa using this
  case round =>
    obtain ⟨cur, ca, ccap, hln, hcf, hct, hbx, hrx, hbl⟩ := hrel
    have c0 := hbx.c0; have c1 := hbx.c1; have c2 := hbx.c2
    have r0 := hrx.c0; have r1 := hrx.c1; have r2 := hrx.c2
    have fr := hrx.fz; have fb := hbx.fz
    have HS := Lib.hid (H.out.keep hbl)
    have s0 := HS.out.cells.1
    have HLN := Lib.hid hln; have HCF := Lib.hid hcf; have HCT := Lib.hid hct
    clear hln hcf hct
    by_cases hv : cur.var = 0
    · have HU : Hid (u = cur) := Lib.hid (by
        have := HLN.out
        cases gk with
        | zero => exact this.1
        | succ k => exact absurd hv this.1)
      have hv' : (cur.var != 0) = false := by rw [hv]; rfl
      clear hv
      go_wp2_with fail
      have hput := hrx.put (.int .i64 cur.var) (.string cur.name) (.slice ca cur.args.length ccap)
      have p0 := hrx.q0 (.int .i64 cur.var); have p1 := hrx.q1 (.int .i64 cur.var) (.string cur.name); have p2 := hput.c2
      exact bodyPost_ret (v := .agg #[.int .i64 cur.var, .string cur.name, .slice ca cur.args.length ccap]) (by simp [results, Try.results102, go_sem, r0, r1, r2]) rfl
        ⟨ca, ccap, by rw [HU.out], by rw [HU.out]; exact HCF.out, by rw [HU.out]; exact HCT.out.keep (Keeps.below (below_put hbl (by omega) _ _ _) ok), below_put hbl (by omega) _ _ _⟩
    · have hv' : (cur.var != 0) = true := by rw [bne_iff_ne]; exact hv
      have HV := Lib.hid hv
      clear hv
      rcases H.out.look HCF.out.1 with ⟨hn, hrun⟩ | ⟨t', a', cap', hs, hf', ht', hrun⟩
      · have HU : Hid (u = cur) := Lib.hid (by
          have := HLN.out
          cases gk with
          | zero => exact this.1
          | succ k => obtain ⟨_, t', h1, _⟩ := this; rw [hn] at h1; cases h1)
        have KS : ∀ w', Below wr.heap.size wr w' → w'.cell? ⟨w.heap.size, 0, none⟩ = some (.int .i64 cur.var) ∧ w'.cell? ⟨bs, 0, none⟩ = some (.map (some bm)) ∧ _ ∧ Below wr.heap.size wr w' := fun w' hb =>
          ⟨(hbx.below hb).c0, (HS.out.keep hb).cells.1, hrun w' (hbl.trans (hb.mono hbl.size)), hb⟩
        have KH := Lib.hid KS
        clear hn hrun KS
        go_wp2_with fail
        go_region_held3 (fun w' => w'.cell? ⟨w.heap.size, 0, none⟩ = some (.int .i64 cur.var) ∧ w'.cell? ⟨bs, 0, none⟩ = some (.map (some bm)) ∧ (Instr.lookup 100 (.map (some bm)) (.int .i64 cur.var) true).run Try.prog w' = .ok (.tuple #[.agg #[.int .i64 0, .string ByteArray.empty, .slice none 0 0], .bool false]) w' ∧ Below wr.heap.size wr w')
          (first | assumption | exact KH.out _ ((Below.refl _ _).drew) | exact KH.out _ (Below.alloc (And.right (And.right (And.right (by assumption)))) (by simp) _))
          (fail)
        all_goals
          have hB : Below wr.heap.size wr ((wr.alloc (.cells #[.int .i64 0, .string ByteArray.empty, .slice none 0 0] 24)).drew) := ((Below.refl _ _).alloc (Nat.le_refl _) _).drew
          generalize (wr.alloc (.cells #[.int .i64 0, .string ByteArray.empty, .slice none 0 0] 24)).drew = X at *
          have hbX := hbx.below hB; have hrX := hrx.below hB
          have hblX := hbl.trans (hB.mono hbl.size)
          have c0 := hbX.c0; have c1 := hbX.c1; have c2 := hbX.c2
          have r0 := hrX.c0; have r1 := hrX.c1; have r2 := hrX.c2
          have fr := hrX.fz; have fb := hbX.fz
          go_wp2_with fail
          exact bodyPost_ret (v := .agg #[.int .i64 cur.var, .string cur.name, .slice ca cur.args.length ccap]) (by simp [results, Try.results102, go_sem, r0, r1, r2]) rfl
            ⟨ca, ccap, by rw [HU.out], by rw [HU.out]; exact HCF.out, by rw [HU.out]; exact HCT.out.keep (Keeps.below (below_put hblX (by omega) _ _ _) ok), below_put hblX (by omega) _ _ _⟩
      · have HU : Hid (∃ k, gk = k + 1 ∧ LookN σ k t' u) := Lib.hid (by
          have := HLN.out
          cases gk with
          | zero =>
            rcases this.2 with h1 | h1
            · exact absurd h1 HV.out
            · rw [hs] at h1; cases h1
          | succ k => obtain ⟨_, t'', h1, h2⟩ := this; rw [hs] at h1; cases h1; exact ⟨k, rfl, h2⟩)
        have KS : ∀ w', Below wr.heap.size wr w' → w'.cell? ⟨w.heap.size, 0, none⟩ = some (.int .i64 cur.var) ∧ w'.cell? ⟨bs, 0, none⟩ = some (.map (some bm)) ∧ _ ∧ Below wr.heap.size wr w' := fun w' hb =>
          ⟨(hbx.below hb).c0, (HS.out.keep hb).cells.1, hrun w' (hbl.trans (hb.mono hbl.size)), hb⟩
        have KH := Lib.hid KS
        have HF' := Lib.hid hf'; have HT' := Lib.hid ht'
        clear hs hrun KS hf' ht'
        go_wp2_with fail
        go_region_held3 (fun w' => w'.cell? ⟨w.heap.size, 0, none⟩ = some (.int .i64 cur.var) ∧ w'.cell? ⟨bs, 0, none⟩ = some (.map (some bm)) ∧ (Instr.lookup 100 (.map (some bm)) (.int .i64 cur.var) true).run Try.prog w' = .ok (.tuple #[.agg #[.int .i64 t'.var, .string t'.name, .slice a' t'.args.length cap'], .bool true]) w' ∧ Below wr.heap.size wr w')
          (first | assumption | exact KH.out _ ((Below.refl _ _).drew) | exact KH.out _ (((Below.refl _ _).alloc (Nat.le_refl _) _).drew) | exact KH.out _ (Below.alloc (And.right (And.right (And.right (by assumption)))) (by simp) _))
          (fail)
        all_goals
          have hB : Below wr.heap.size wr ((wr.alloc (.cells #[.int .i64 t'.var, .string t'.name, .slice a' t'.args.length cap'] 24)).drew) := ((Below.refl _ _).alloc (Nat.le_refl _) _).drew
          have hN : Box3 ((wr.alloc (.cells #[.int .i64 t'.var, .string t'.name, .slice a' t'.args.length cap'] 24)).drew) wr.heap.size (.int .i64 t'.var) (.string t'.name) (.slice a' t'.args.length cap') := ⟨(Box3.made wr _ _ _).blk⟩
          generalize (wr.alloc (.cells #[.int .i64 t'.var, .string t'.name, .slice a' t'.args.length cap'] 24)).drew = X at *
          have hbX := hbx.below hB; have hrX := hrx.below hB
          have hblX := hbl.trans (hB.mono hbl.size)
          have c0 := hbX.c0; have c1 := hbX.c1; have c2 := hbX.c2
          have n0 := hN.c0; have n1 := hN.c1; have n2 := hN.c2
          have r0 := hrX.c0; have r1 := hrX.c1; have r2 := hrX.c2
          have fr := hrX.fz; have fb := hbX.fz
          have hPut := Lib.hid (hbX.put (.int .i64 t'.var) (.string t'.name) (.slice a' t'.args.length cap'))
          go_wp2_with fail
          obtain ⟨k', hk', hl'⟩ := HU.out
          go_roundg k'
          case measure => omega
          case rel => exact ⟨t', a', cap', hl', HF'.out, HT'.out, hPut.out, hrX.keep (other_put (by omega) _ _ _), below_put hblX (by omega) _ _ _⟩

end Go.Proofs.Ytikmgiapjigghaa
