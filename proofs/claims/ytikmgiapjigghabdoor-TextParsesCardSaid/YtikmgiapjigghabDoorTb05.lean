/- What the statements on texts need of other texts, alone. -/
import Derived.Deep.RegionWith
import Derived.Deep.RegionHeld3
import Derived.Test.YtikmgiapjigghabDoorTb03
import Derived.Test.YtikmgiapjigghabDoorTb04
namespace Go.Proofs.YtikmgiapjigghabDoor
open Go.RowKit

set_option maxRecDepth 100000 in
set_option maxHeartbeats 400000 in
theorem fnW (n : ByteArray) (a : Option Addr) (len cap : Nat) (w : World) :
    Calls Tryd.prog 50 #[.string n, .slice a len cap] w fun e w' => e = .returned (.agg #[.int .i64 0, .string n, .slice a len cap]) ∧ Below w.heap.size w w' := by
  go_enter Tryd.func50, Tryd.ntmps50
  go_wp2_with fail
  exact bodyPost_ret (v := .agg #[.int .i64 0, .string n, .slice a len cap]) (by simp [results, Tryd.results50, go_sem]) rfl ⟨rfl, (Below.refl _ _).alloc (Nat.le_refl _) _⟩

set_option maxRecDepth 100000 in
set_option maxHeartbeats 400000 in
theorem vaW (n : Int) (w : World) :
    Calls Tryd.prog 51 #[.int .i64 n] w fun e w' => e = .returned (.agg #[.int .i64 n, .string ByteArray.empty, .slice none 0 0]) ∧ Below w.heap.size w w' := by
  go_enter Tryd.func51, Tryd.ntmps51
  go_wp2_with fail
  exact bodyPost_ret (v := .agg #[.int .i64 n, .string ByteArray.empty, .slice none 0 0]) (by simp [results, Tryd.results51, go_sem]; rfl) rfl ⟨rfl, (Below.refl _ _).alloc (Nat.le_refl _) _⟩

theorem Ts.empty (w : World) (ok : Nat → Prop) : Ts w ok [] none 0 :=
  .mk [] none 0 ⟨Nat.le_refl _, Nat.zero_le _, fun _ => rfl⟩ (fun _ => (none, 0)) (fun i hi => by cases hi) (fun i hi => by cases hi)

theorem ts_lit {w : World} {ok : Nat → Prop} (t : Tm) {a : Option Addr} {cap : Nat} (ht : Ts w ok t.args a cap) (hf : t.fits) (hok : ok w.heap.size) :
    Ts (w.alloc (.cells #[.int .i64 t.var, .string t.name, .slice a t.args.length cap] 48)) ok [t] (some ⟨w.heap.size, 0, none⟩) 1 := by
  have hk : Keeps ok w (w.alloc (.cells #[.int .i64 t.var, .string t.name, .slice a t.args.length cap] 48)) := Keeps.below ((Below.refl _ _).alloc (Nat.le_refl _) _) ok
  refine .mk [t] _ 1 ⟨Nat.le_refl _, by unfold maxLen; omega, fun h => by cases h⟩ (fun _ => (a, cap)) (fun i hi => ?_) (fun i hi => ?_)
  · have : i = 0 := by simp at hi; omega
    subst this
    refine ⟨w.heap.size, 0, rfl, hok, by simp, Cells3.mk ?_ ?_ ?_ hf⟩
    all_goals simp [World.cell?, World.alloc, -World.alloc_eq]
  · have : i = 0 := by simp at hi; omega
    subst this
    exact ht.keep hk

theorem fits_lit (v : Int) (n : ByteArray) (l : List Tm) (h1 : -100 ≤ v) (h2 : v ≤ 100) (hn : n.size ≤ 100) : (Tm.mk v n l).fits := by
  unfold Tm.fits I64 maxLen
  simp only [Tm.var, Tm.name]
  omega

theorem firstN_zero {l : List Nat} (h : firstN l = 0) : ∀ j (hj : j < l.length), l[j] = 0 := by
  unfold firstN at h
  cases h2 : l.find? (· ≠ 0) with
  | none =>
    intro j hj
    have := List.find?_eq_none.1 h2 l[j] (List.getElem_mem hj)
    simpa using this
  | some x =>
    rw [h2] at h
    have := List.find?_some h2
    simp at this h
    exact absurd h this

theorem query_zero {q : List Tm} (h : queryE q = 0) : q.length ≤ 6 ∧ ∀ k (hk : k < q.length), q[k].checkE = 0 := by
  unfold queryE at h
  by_cases h6 : 6 < q.length
  · rw [if_pos h6] at h; cases h
  · rw [if_neg h6] at h
    exact ⟨by omega, fun k hk => by have := firstN_zero h k (by simpa using hk); simpa using this⟩

theorem check_zero {t : Tm} (h : t.checkE = 0) : t.size ≤ 60 ∧ t.partsE = 0 := by
  unfold Tm.checkE at h
  by_cases h6 : 60 < t.size
  · rw [if_pos h6] at h; cases h
  · rw [if_neg h6] at h; exact ⟨by omega, h⟩

theorem program_zero {P : List Cl} (h : programE P = 0) : P.length ≤ 30 ∧ ∀ c, c ∈ P → c.head.checkE = 0 ∧ queryE c.body = 0 := by
  unfold programE at h
  by_cases h6 : 30 < P.length
  · rw [if_pos h6] at h; cases h
  · rw [if_neg h6] at h
    refine ⟨by omega, fun c hc => ?_⟩
    obtain ⟨k, hk, rfl⟩ := List.getElem_of_mem hc
    have h1 := firstN_zero h k (by simpa using hk)
    rw [List.getElem_map] at h1
    rcases clauseE_cases P[k] with ⟨a, b⟩ | ⟨a, b, c⟩ | ⟨a, b, c, d⟩ | ⟨a, b, c, d⟩
    · exact absurd (b.symm.trans h1) a
    · rw [c] at h1; cases h1
    · rw [d] at h1; cases h1
    · exact ⟨a, d.symm.trans h1⟩

theorem query_mem {q : List Tm} (h : queryE q = 0) {t : Tm} (ht : t ∈ q) : t.checkE = 0 := by
  obtain ⟨k, hk, rfl⟩ := List.getElem_of_mem ht
  exact (query_zero h).2 k hk

/-- Three cells of a block of one's own: a term's variable. -/
structure Box3 (w : World) (b : Nat) (x0 x1 x2 : Value) : Prop where
  blk : w.heap[b]? = some (.cells #[x0, x1, x2] 48 (0, 0))

theorem Box3.c0 {w : World} {b : Nat} {x0 x1 x2 : Value} (h : Box3 w b x0 x1 x2) : w.cell? ⟨b, 0, none⟩ = some x0 := by simp [World.cell?, h.blk]

theorem Box3.c1 {w : World} {b : Nat} {x0 x1 x2 : Value} (h : Box3 w b x0 x1 x2) : w.cell? ⟨b, 1, none⟩ = some x1 := by simp [World.cell?, h.blk]

theorem Box3.c2 {w : World} {b : Nat} {x0 x1 x2 : Value} (h : Box3 w b x0 x1 x2) : w.cell? ⟨b, 2, none⟩ = some x2 := by simp [World.cell?, h.blk]

theorem Box3.fz {w : World} {b : Nat} {x0 x1 x2 : Value} (h : Box3 w b x0 x1 x2) (o : Nat) : w.frozen? ⟨b, o, none⟩ = false := by simp [World.frozen?, h.blk]

theorem Box3.lt {w : World} {b : Nat} {x0 x1 x2 : Value} (h : Box3 w b x0 x1 x2) : b < w.heap.size := (Array.getElem?_eq_some_iff.1 h.blk).1

theorem Box3.keep {w w' : World} {b : Nat} {x0 x1 x2 : Value} (h : Box3 w b x0 x1 x2) (hb : w'.heap[b]? = w.heap[b]?) : Box3 w' b x0 x1 x2 := ⟨hb.trans h.blk⟩

theorem Box3.below {w w' : World} {b : Nat} {x0 x1 x2 : Value} (h : Box3 w b x0 x1 x2) (hb : Below w.heap.size w w') : Box3 w' b x0 x1 x2 := h.keep (hb.block b h.lt)

theorem Box3.made (w : World) (x0 x1 x2 : Value) : Box3 (w.alloc (.cells #[x0, x1, x2] 48)) w.heap.size x0 x1 x2 := ⟨heap_alloc_new w _⟩

theorem Box3.alloc {w : World} {b : Nat} {x0 x1 x2 : Value} (h : Box3 w b x0 x1 x2) (o : Obj) : Box3 (w.alloc o) b x0 x1 x2 := h.below ((Below.refl _ _).alloc (Nat.le_refl _) _)

theorem Box3.all {w : World} {b : Nat} {x0 x1 x2 : Value} (h : Box3 w b x0 x1 x2) : w.cell? ⟨b, 0, none⟩ = some x0 ∧ w.cell? ⟨b, 1, none⟩ = some x1 ∧ w.cell? ⟨b, 2, none⟩ = some x2 ∧ ∀ o, w.frozen? ⟨b, o, none⟩ = false := ⟨h.c0, h.c1, h.c2, h.fz⟩

/-- Only blocks of M may have turned, of those that were there. -/
structure Touch (M : Nat → Prop) (w w' : World) : Prop where
  os : w'.os = w.os
  tape : w'.tape = w.tape
  output : w'.output = w.output
  size : w.heap.size ≤ w'.heap.size
  block : ∀ b, b < w.heap.size → ¬ M b → w'.heap[b]? = w.heap[b]?

theorem Touch.below {M : Nat → Prop} {w w' : World} (h : Below w.heap.size w w') : Touch M w w' := ⟨h.os, h.tape, h.output, h.size, fun b hb _ => h.block b hb⟩

theorem Touch.refl (M : Nat → Prop) (w : World) : Touch M w w := Touch.below (Below.refl _ _)

theorem Touch.trans {M : Nat → Prop} {a b c : World} (h : Touch M a b) (k : Touch M b c) : Touch M a c :=
  ⟨k.os.trans h.os, k.tape.trans h.tape, k.output.trans h.output, Nat.le_trans h.size k.size, fun i hi hm => (k.block i (Nat.lt_of_lt_of_le hi h.size) hm).trans (h.block i hi hm)⟩

theorem Touch.mono {M M' : Nat → Prop} {w w' : World} (h : Touch M w w') (hm : ∀ b, b < w.heap.size → M b → M' b) : Touch M' w w' :=
  ⟨h.os, h.tape, h.output, h.size, fun b hb hn => h.block b hb (fun hM => hn (hm b hb hM))⟩

theorem Touch.toBelow {M : Nat → Prop} {B : Nat} {w w' : World} (h : Touch M w w') (hB : B ≤ w.heap.size) (hm : ∀ b, M b → B ≤ b) : Below B w w' :=
  ⟨h.os, h.tape, h.output, h.size, fun b hb => h.block b (by omega) (fun hM => by have := hm b hM; omega)⟩

theorem Touch.keeps {M : Nat → Prop} {w w' : World} (h : Touch M w w') {ok : Nat → Prop} (hm : ∀ b, ok b → ¬ M b) : Keeps ok w w' := ⟨h.size, fun b hb hs => h.block b hs (hm b hb)⟩

theorem Touch.grown {M : Nat → Prop} {w w' : World} {row : Option Nat} (h : w.grownBy w' row) (hm : ∀ k, row = some k → M k) : Touch M w w' :=
  ⟨h.os, h.tape, h.output, h.size, fun b hb hn => h.block b hb (fun e => hn (hm b e.symm))⟩

theorem Touch.setCell {M : Nat → Prop} {w : World} {p : Addr} (u : Value) (hp : M p.block) : Touch M w (w.setCell p u) :=
  ⟨rfl, rfl, rfl, by simp [World.setCell], fun b _ hn => Below.heap_setCell _ _ _ _ (fun e => hn (e ▸ hp))⟩

theorem heap_setCell_at (w : World) (b o : Nat) (u : Value) {c : Array Value} {e : TypeId} {fz : Nat × Nat} (h : w.heap[b]? = some (.cells c e fz)) : (w.setCell ⟨b, o, none⟩ u).heap[b]? = some (.cells (c.setIfInBounds o u) e fz) := by
  simp [World.setCell, Array.getElem?_modify, h]

theorem ownsRow_block {w w' : World} {base : Nat} {e : TypeId} {size : Nat} {v : Value} {n : Nat} {xs : List Value} (h : w.ownsRow base e size v n xs) (hb : ∀ g, v.ownBlock = some g → w'.heap[g]? = w.heap[g]?) : w'.ownsRow base e size v n xs := by
  refine ⟨h.1, ?_⟩
  rcases h.2 with h2 | ⟨g, cap, cur, rfl, h3, h4, r⟩
  · exact .inl h2
  · exact .inr ⟨g, cap, cur, rfl, h3, (hb g rfl).trans h4, r⟩

theorem own_shape {w : World} {base : Nat} {e : TypeId} {size : Nat} {v : Value} {n : Nat} {xs : List Value} (h : w.ownsRow base e size v n xs) (hn : 1 ≤ n) : ∃ g cap, v = .slice (some ⟨g, 0, none⟩) n cap := by
  rcases h.2 with ⟨_, h1⟩ | ⟨g, cap, cur, h1, _⟩
  · omega
  · exact ⟨g, cap, h1⟩

theorem one_cell (w : World) (v : Value) (e : TypeId) : ∀ j u, [v][j]? = some u → (w.alloc (.cells #[v] e)).cell? ((⟨w.heap.size, 0, none⟩ : Addr).add j) = some u := by
  intro j u hu
  have : j = 0 := by
    have := (List.getElem?_eq_some_iff.1 hu).1
    simpa using this
  subst this
  simp only [List.getElem?_cons_zero, Option.some.injEq] at hu
  subst hu
  simp [Addr.add, World.cell?, World.alloc, -World.alloc_eq]

theorem row_form {w : World} {base : Nat} {e : TypeId} {size : Nat} {v : Value} {n : Nat} {xs : List Value} (h : w.ownsRow base e size v n xs) : ∃ a c, v = .slice a n c ∧ n ≤ 9223372036854775807 := by
  obtain ⟨_, h2⟩ := h
  rcases h2 with ⟨rfl, rfl⟩ | ⟨g, cap, cur, rfl, _, _, h3, h4, _, _⟩
  · exact ⟨none, 0, rfl, by omega⟩
  · exact ⟨_, cap, rfl, by unfold maxLen at h4; omega⟩

/-- A variable by itself. -/
abbrev VarT (v : Int) : Tm := .mk v ⟨#[]⟩ []

def tmA : Tm := .mk 0 ⟨#[97]⟩ []

theorem ts_lit2 {w : World} {ok : Nat → Prop} (t u : Tm) {a b : Option Addr} {c d : Nat} (ht : Ts w ok t.args a c) (hu : Ts w ok u.args b d) (hf : t.fits) (hg : u.fits) (hok : ok w.heap.size) :
    Ts (w.alloc (.cells #[.int .i64 t.var, .string t.name, .slice a t.args.length c, .int .i64 u.var, .string u.name, .slice b u.args.length d] 48)) ok [t, u] (some ⟨w.heap.size, 0, none⟩) 2 := by
  have hk : Keeps ok w (w.alloc (.cells #[.int .i64 t.var, .string t.name, .slice a t.args.length c, .int .i64 u.var, .string u.name, .slice b u.args.length d] 48)) := Keeps.below ((Below.refl _ _).alloc (Nat.le_refl _) _) ok
  refine .mk [t, u] _ 2 ⟨Nat.le_refl _, by unfold maxLen; omega, fun h => by cases h⟩ (fun i => if i = 0 then (a, c) else (b, d)) (fun i hi => ?_) (fun i hi => ?_)
  · rcases (by simp at hi; omega : i = 0 ∨ i = 1) with rfl | rfl
    · refine ⟨w.heap.size, 0, rfl, hok, by simp, Cells3.mk ?_ ?_ ?_ hf⟩
      all_goals simp [World.cell?, World.alloc, -World.alloc_eq]
    · refine ⟨w.heap.size, 0, rfl, hok, by simp, Cells3.mk ?_ ?_ ?_ hg⟩
      all_goals simp [World.cell?, World.alloc, -World.alloc_eq]
  · rcases (by simp at hi; omega : i = 0 ∨ i = 1) with rfl | rfl
    · exact ht.keep hk
    · exact hu.keep hk

def tmB : Tm := .mk 0 ⟨#[98]⟩ []

def tP (x : Tm) : Tm := .mk 0 ⟨#[112]⟩ [x]

def tEq (x y : Tm) : Tm := .mk 0 ⟨#[101, 113]⟩ [x, y]

def sampleL : List Cl := [⟨tP tmA, []⟩, ⟨tP (VarT 1), [tEq (VarT 1) tmB]⟩]

theorem Pr.mono {w : World} {ok ok' : Nat → Prop} (hk : ∀ b, b < w.heap.size → ok b → ok' b) {P : List Cl} {a : Option Addr} {cap : Nat} (h : Pr w ok P a cap) : Pr w ok' P a cap := by
  refine ⟨h.room, fun i hi => ?_⟩
  obtain ⟨b, off, a1, a2, c1, c2, h1, h2, h3, h4, h5, h6, h7⟩ := h.elem i hi
  exact ⟨b, off, a1, a2, c1, c2, h1, hk b h3 h2, h3, h4, h5, h6.mono hk, h7.mono hk⟩

theorem pr_lit2 {w : World} {ok : Nat → Prop} (c d : Cl) {a1 a2 a3 a4 : Option Addr} {c1 c2 c3 c4 : Nat} (h1 : Ts w ok c.head.args a1 c1) (h2 : Ts w ok c.body a2 c2) (h3 : Ts w ok d.head.args a3 c3) (h4 : Ts w ok d.body a4 c4) (hf : c.head.fits) (hg : d.head.fits) (hok : ok w.heap.size) :
    Pr (w.alloc (.cells #[.int .i64 c.head.var, .string c.head.name, .slice a1 c.head.args.length c1, .slice a2 c.body.length c2, .int .i64 d.head.var, .string d.head.name, .slice a3 d.head.args.length c3, .slice a4 d.body.length c4] 50)) ok [c, d] (some ⟨w.heap.size, 0, none⟩) 2 := by
  have hk : Keeps ok w (w.alloc (.cells #[.int .i64 c.head.var, .string c.head.name, .slice a1 c.head.args.length c1, .slice a2 c.body.length c2, .int .i64 d.head.var, .string d.head.name, .slice a3 d.head.args.length c3, .slice a4 d.body.length c4] 50)) := Keeps.below ((Below.refl _ _).alloc (Nat.le_refl _) _) ok
  refine ⟨⟨Nat.le_refl _, by unfold maxLen; omega, fun h => by cases h⟩, fun i hi => ?_⟩
  rcases (by simp at hi; omega : i = 0 ∨ i = 1) with rfl | rfl
  · refine ⟨w.heap.size, 0, a1, a2, c1, c2, rfl, hok, by simp, Cells3.mk ?_ ?_ ?_ hf, ?_, h1.keep hk, h2.keep hk⟩
    all_goals simp [World.cell?, World.alloc, -World.alloc_eq]
  · refine ⟨w.heap.size, 0, a3, a4, c3, c4, rfl, hok, by simp, Cells3.mk ?_ ?_ ?_ hg, ?_, h3.keep hk, h4.keep hk⟩
    all_goals simp [World.cell?, World.alloc, -World.alloc_eq]

def SmpPost (w : World) (e : Ending) (w' : World) : Prop := ∃ a, e = .returned (.slice (some a) 2 2) ∧ Pr w' (fun b => b < w'.heap.size) sampleL (some a) 2 ∧ Below w.heap.size w w'

set_option maxRecDepth 100000 in
set_option maxHeartbeats 1000000 in
theorem sampleW (w : World) : Calls Tryd.prog 28 #[] w (SmpPost w) := by
  go_enter Tryd.func28, Tryd.ntmps28
  go_wp2_with fail
  refine (fnW _ _ _ _ _).mono ?_
  rintro e w1 ⟨rfl, hb1⟩
  go_wp2_with fail
  refine (fnW _ _ _ _ _).mono ?_
  rintro e w2 ⟨rfl, hb2⟩
  have T1 := (ts_lit (w := w1) (ok := fun _ => True) tmA (Ts.empty _ _) (fits_lit _ _ _ (by decide) (by decide) (by decide)) trivial).keep (Keeps.below hb2 _)
  have T1H := Lib.hid T1
  have B2 := Lib.hid ((hb1.alloc hb1.size (.cells #[.int .i64 0, .string ⟨#[97]⟩, .slice none 0 0] 48)).trans (hb2.mono (by have := hb1.size; simp; omega)))
  clear hb1 hb2 T1
  go_wp2_with fail
  refine (vaW _ _).mono ?_
  rintro e w3 ⟨rfl, hb3⟩
  go_wp2_with fail
  refine (fnW _ _ _ _ _).mono ?_
  rintro e w4 ⟨rfl, hb4⟩
  have T2 := (ts_lit (w := w3) (ok := fun _ => True) (VarT 1) (Ts.empty _ _) (fits_lit _ _ _ (by decide) (by decide) (by decide)) trivial).keep (Keeps.below hb4 _)
  have T2H := Lib.hid T2
  have K34 := ((hb3.alloc hb3.size (.cells #[.int .i64 1, .string ⟨#[]⟩, .slice none 0 0] 48)).trans (hb4.mono (by have := hb3.size; simp; omega)))
  have T1H4 := Lib.hid (T1H.out.keep (Keeps.below K34 _))
  have B4 := Lib.hid (B2.out.trans (K34.mono B2.out.size))
  clear hb3 hb4 T2 K34 B2 T1H
  go_wp2_with fail
  refine (vaW _ _).mono ?_
  rintro e w5 ⟨rfl, hb5⟩
  go_wp2_with fail
  refine (fnW _ _ _ _ _).mono ?_
  rintro e w6 ⟨rfl, hb6⟩
  have K46 := hb5.trans (hb6.mono hb5.size)
  have T1H6 := Lib.hid (T1H4.out.keep (Keeps.below K46 _))
  have T2H6 := Lib.hid (T2H.out.keep (Keeps.below K46 _))
  have B6 := Lib.hid (B4.out.trans (K46.mono B4.out.size))
  clear hb5 hb6 K46 T1H4 T2H B4
  go_wp2_with fail
  refine (fnW _ _ _ _ _).mono ?_
  rintro e w7 ⟨rfl, hb7⟩
  have T3 := (ts_lit2 (w := w6) (ok := fun _ => True) (VarT 1) tmB (Ts.empty _ _) (Ts.empty _ _) (fits_lit _ _ _ (by decide) (by decide) (by decide)) (fits_lit _ _ _ (by decide) (by decide) (by decide)) trivial).keep (Keeps.below hb7 _)
  have K67 := ((Below.refl w6.heap.size w6).alloc (Nat.le_refl _) (.cells #[.int .i64 1, .string ⟨#[]⟩, .slice none 0 0, .int .i64 0, .string ⟨#[98]⟩, .slice none 0 0] 48)).trans (hb7.mono (by simp))
  have T1H7 := T1H6.out.keep (Keeps.below K67 _)
  have T2H7 := T2H6.out.keep (Keeps.below K67 _)
  have B7 := Lib.hid (B6.out.trans (K67.mono B6.out.size))
  have T4 := ts_lit (w := w7) (tEq (VarT 1) tmB) T3 (fits_lit _ _ _ (by decide) (by decide) (by decide)) trivial
  have K78 := (Below.refl w7.heap.size w7).alloc (Nat.le_refl _) (.cells #[.int .i64 0, .string ⟨#[101, 113]⟩, .slice (some ⟨w6.heap.size, 0, none⟩) 2 2] 48)
  have TP := pr_lit2 (⟨tP tmA, []⟩ : Cl) (⟨tP (VarT 1), [tEq (VarT 1) tmB]⟩ : Cl) (T1H7.keep (Keeps.below K78 _)) (Ts.empty _ _) (T2H7.keep (Keeps.below K78 _)) T4 (fits_lit _ _ _ (by decide) (by decide) (by decide)) (fits_lit _ _ _ (by decide) (by decide) (by decide)) trivial
  have hsz : (w7.alloc (.cells #[.int .i64 0, .string ⟨#[101, 113]⟩, .slice (some ⟨w6.heap.size, 0, none⟩) 2 2] 48)).heap.size = w7.heap.size + 1 := by simp
  have TPH := Lib.hid TP
  have BE := Lib.hid ((B7.out.trans (K78.mono B7.out.size)).alloc (by have := B7.out.size; rw [hsz]; omega) (.cells #[.int .i64 0, .string ⟨#[112]⟩, .slice (some ⟨w1.heap.size, 0, none⟩) 1 1, .slice none 0 0, .int .i64 0, .string ⟨#[112]⟩, .slice (some ⟨w3.heap.size, 0, none⟩) 1 1, .slice (some ⟨w7.heap.size, 0, none⟩) 1 1] 50))
  have HS := Lib.hid hsz
  clear hb7 K67 K78 T1H7 T2H7 T3 T4 TP B7 hsz
  go_wp2_with fail
  go_ret
  rw [HS.out] at TPH
  exact ⟨_, rfl, TPH.out.mono fun b hb _ => hb, BE.out⟩

end Go.Proofs.YtikmgiapjigghabDoor

/- Plain: what the statements on texts say of what is printed and parsed. -/
namespace Go.Proofs.YtikmgiapjigghabDoor
open Go.RowKit

/-- What Parse answers: the program, the place, the errno. -/
def readP (s : Bs) : List Cl × Nat × Nat :=
  if 6000 < s.length then ([], 0, 2) else
  match pProg s with
  | .no r => ([], s.length - r.length, 1)
  | .ok p _ => if programE p = 0 then (p, 0, 0) else ([], 0, programE p)

def trueB : Bs := [116, 114, 117, 101]

/-- What ParseGoals answers. -/
def readG (s : Bs) : List Tm × Nat × Nat :=
  if 6000 < s.length then ([], 0, 2) else
  match pList s with
  | .no r => ([], s.length - r.length, 1)
  | .ok l r => if r ≠ [] then ([], s.length - r.length, 1) else if queryE l = 0 then (if s = trueB then ([], 0, 0) else (l, 0, 0)) else ([], 0, queryE l)

theorem sign_rest : ∀ n : Fin 256, signB (UInt8.ofNat n.val) = true → isRest (UInt8.ofNat n.val) = true := by decide +kernel

theorem nm_of {n : ByteArray} (h : nameB n = true) : NmOk n.data.toList := by
  unfold nameB at h
  rw [Bool.or_eq_true] at h
  rcases h with h | h
  · left
    rw [beq_iff_eq, ByteArray.toList_eq] at h
    exact h
  · right
    simp only [Bool.and_eq_true, decide_eq_true_eq] at h
    obtain ⟨⟨⟨⟨h1, h2⟩, h3⟩, h4⟩, h5⟩ := h
    have hl : n.data.toList.length = n.size := by simp
    cases hb : n.data.toList with
    | nil => rw [hb] at hl; simp at hl; omega
    | cons c r =>
      rw [hb] at h3 h4 h5
      simp only [List.getD_cons_zero] at h3 h4
      refine ⟨c, r, rfl, ?_, fun d hd => ?_⟩
      · unfold isLow; exact decide_eq_true ⟨h3, h4⟩
      · obtain ⟨k, rfl⟩ := u8_fin d
        rw [List.all_eq_true] at h5
        exact sign_rest k (h5 _ (List.mem_cons_of_mem _ hd))

theorem partssE_zero : ∀ (l : List Tm), Tm.partssE l = 0 → ∀ x, x ∈ l → x.partsE = 0 := by
  intro l
  induction l with
  | nil => intro _ x hx; cases hx
  | cons a l ih =>
    intro h x hx
    rw [Tm.partssE] at h
    by_cases h0 : a.partsE = 0
    · rw [if_pos h0] at h
      rcases List.mem_cons.1 hx with rfl | hx
      · exact h0
      · exact ih h x hx
    · rw [if_neg h0] at h; exact absurd h h0

theorem tv_parts : ∀ t : Tm, t.partsE = 0 → TV t := by
  refine Tm.ind fun v n l ih h => ?_
  rw [Tm.partsE] at h
  by_cases h0 : partE v n l.length = 0
  · rw [if_pos h0] at h
    by_cases hv : v = 0
    · subst hv
      refine .fn n l (nm_of ?_) fun x hx => ih x hx (partssE_zero l h x hx)
      cases hn : nameB n with
      | true => rfl
      | false => rw [partE_name hn] at h0; cases h0
    · by_cases h1 : v < 1 ∨ 12 < v
      · rw [partE_range hv h1] at h0; cases h0
      · by_cases h2 : n.size ≠ 0 ∨ 0 < l.length
        · rw [partE_var hv h1 h2] at h0; cases h0
        · have e1 : n = ⟨#[]⟩ := emptyB n (by omega)
          have e2 : l = [] := List.eq_nil_of_length_eq_zero (by omega)
          subst e1 e2
          exact .var v (by omega) (by omega)
  · rw [if_neg h0] at h; exact absurd h h0

theorem tv_of {t : Tm} (h : t.checkE = 0) : TV t := tv_parts t (check_zero h).2

theorem tv_prog {p : List Cl} (h : programE p = 0) : ∀ c, c ∈ p → TV c.head ∧ ∀ x, x ∈ c.body → TV x := fun c hc => by
  obtain ⟨h1, h2⟩ := (program_zero h).2 c hc
  exact ⟨tv_of h1, fun x hx => tv_of (query_mem h2 hx)⟩

theorem back_prog {p : List Cl} (h : programE p = 0) (hl : (progTxt p).length ≤ 6000) : readP (progTxt p) = (p, 0, 0) := by
  unfold readP
  rw [if_neg (by omega), pProg_txt (tv_prog h)]
  simp only
  rw [if_pos h]

theorem read_prog {s : Bs} {x : List Cl} {n : Nat} (h : readP s = (x, n, 0)) : programE x = 0 ∧ progTxt x = s := by
  unfold readP at h
  split at h
  · simp at h
  · split at h
    · simp at h
    · rename_i p r he
      obtain ⟨h1, h2⟩ := pProg_back s.length s r p (Nat.le_refl _) he
      split at h
      · rename_i h0
        simp only [Prod.mk.injEq] at h
        rw [← h.1]
        exact ⟨h0, h1.symm⟩
      · rename_i h0
        simp only [Prod.mk.injEq] at h
        exact absurd h.2.2 h0

theorem txtL_true : ∀ q : List Tm, q ≠ [] → goalsTxt q = txtL q := fun q h => by unfold goalsTxt; rw [if_neg h]

def trueT : Tm := .mk 0 ⟨#[116, 114, 117, 101]⟩ []
theorem trueT_txt : txtL [trueT] = trueB := by
  show trueT.txt ++ Tm.txtr [] = trueB
  unfold trueT
  rw [Tm.txt_zero, if_pos rfl]
  simp [Tm.txtr, trueB]

theorem back_goals {q : List Tm} (h : queryE q = 0) (hl : (goalsTxt q).length ≤ 6000) :
    readG (goalsTxt q) = (if goalsTxt q = trueB then [] else q, 0, 0) := by
  by_cases h0 : q = []
  · subst h0
    have hq : queryE [trueT] = 0 := by decide +kernel
    have e := pList_txt (l := [trueT]) (by simp) (fun x hx => pTerm_txt x (tv_of (query_mem hq hx))) sep_nil (by show ¬ (0 : UInt8) = 44; decide)
    rw [List.append_nil, trueT_txt] at e
    have e0 : goalsTxt [] = trueB := rfl
    unfold readG
    rw [if_neg (by omega), e0, e]
    simp only
    rw [if_neg (by simp), if_pos hq]
    simp
  · rw [txtL_true q h0] at hl ⊢
    have e := pList_txt h0 (fun x hx => pTerm_txt x (tv_of (query_mem h hx))) sep_nil (by show ¬ (0 : UInt8) = 44; decide)
    rw [List.append_nil] at e
    unfold readG
    rw [if_neg (by omega), e]
    simp only
    rw [if_neg (by simp), if_pos h]
    split <;> rfl

theorem read_goals {s : Bs} {y : List Tm} {n e : Nat} (h : readG s = (y, n, e)) : (e ≠ 0 → y = []) ∧ (e = 0 → queryE y = 0 ∧ goalsTxt y = s) := by
  unfold readG at h
  split at h
  · simp only [Prod.mk.injEq] at h
    exact ⟨fun _ => h.1.symm, fun e0 => by have := h.2.2; omega⟩
  · split at h
    · simp only [Prod.mk.injEq] at h
      exact ⟨fun _ => h.1.symm, fun e0 => by have := h.2.2; omega⟩
    · rename_i l r he
      obtain ⟨h1, h2⟩ := pList_back he
      split at h
      · simp only [Prod.mk.injEq] at h
        exact ⟨fun _ => h.1.symm, fun e0 => by have := h.2.2; omega⟩
      · rename_i hr
        have hr' : r = [] := Classical.byContradiction hr
        subst hr'
        rw [List.append_nil] at h1
        split at h
        · rename_i hq
          split at h
          · rename_i ht
            simp only [Prod.mk.injEq] at h
            refine ⟨fun e0 => absurd h.2.2.symm e0, fun _ => ?_⟩
            rw [← h.1, ht]
            exact ⟨by decide +kernel, rfl⟩
          · simp only [Prod.mk.injEq] at h
            refine ⟨fun e0 => absurd h.2.2.symm e0, fun _ => ?_⟩
            rw [← h.1]
            exact ⟨hq, by rw [txtL_true l h2]; exact h1.symm⟩
        · rename_i hq
          simp only [Prod.mk.injEq] at h
          exact ⟨fun _ => h.1.symm, fun e0 => absurd (h.2.2.trans e0) hq⟩

end Go.Proofs.YtikmgiapjigghabDoor
