/- Walk: the reference's Meet. -/
import Derived.Test.YtikmgiapjigghaaMeetP
import Derived.Deep.RegionWith
import Derived.Deep.DeepCutAuto
namespace Go.Proofs.Ytikmgiapjigghaa
open Go.RowKit

/-- The blocks that Meet writes. -/
abbrev StRG (rs g : Nat) : Nat → Prop := fun b => b = rs ∨ b = g

/-- What Meet hands back. -/
def MeetRPost (w : World) (ok : Nat → Prop) (rs g cap n0 : Nat) (o : MOut) (e : Ending) (w' : World) : Prop :=
  Touch (StRG rs g) w w' ∧ ∃ B : List TmAt, B.length = n0 ∧ FB (B.map (·.1)) ∧
  match o with
  | .ok σ _ f => e = .returned (.int .i64 1) ∧ RAt w' ok rs g cap B (4000 - f) ∧ subB (B.map (·.1)) = σ
  | .no σ _ f => e = .returned (.int .i64 0) ∧ RAt w' ok rs g cap B (4000 - f) ∧ subB (B.map (·.1)) = σ
  | .many σ _ => e = .returned (.int .i64 2) ∧ RAt w' ok rs g cap B 4001 ∧ subB (B.map (·.1)) = σ

/-- A slice of pairs of terms in memory of the call's own. -/
def PairsAt (w : World) (base : Nat) (x : Value) (L : List (TmAt × TmAt)) : Prop :=
  ∃ a cap, x = .slice a L.length cap ∧ L.length ≤ cap ∧ cap ≤ maxLen ∧ (a = none → L = []) ∧ (L ≠ [] → ∃ g o, a = some ⟨g, o, none⟩ ∧ base ≤ g ∧ g < w.heap.size ∧ ∀ j u, (flat2 L)[j]? = some u → w.cell? ⟨g, o + j, none⟩ = some u)

theorem PairsAt.keep {w w' : World} {base : Nat} {x : Value} {L : List (TmAt × TmAt)} (h : PairsAt w base x L) (hs : w.heap.size ≤ w'.heap.size) (hb : ∀ g, base ≤ g → g < w.heap.size → w'.heap[g]? = w.heap[g]?) : PairsAt w' base x L := by
  obtain ⟨a, cap, h1, h2, h3, h4, h5⟩ := h
  refine ⟨a, cap, h1, h2, h3, h4, fun hl => ?_⟩
  obtain ⟨g, o, e, hg, hlt, hc⟩ := h5 hl
  exact ⟨g, o, e, hg, Nat.lt_of_lt_of_le hlt hs, fun j u hu => (World.cell?_of_block (w := w) (a := ⟨g, o + j, none⟩) (hb g hg hlt)).trans (hc j u hu)⟩

theorem PairsAt.of_row {w : World} {base : Nat} {x : Value} {L : List (TmAt × TmAt)} (h : w.ownsRow base 162 6 x L.length (flat2 L)) : PairsAt w base x L := by
  rcases h.2 with ⟨rfl, hn⟩ | ⟨g, cap, cur, rfl, hb, hg, hcap, hml, hsz, htk⟩
  · have : L = [] := List.eq_nil_of_length_eq_zero hn
    subst this
    exact ⟨none, 0, rfl, Nat.le_refl _, Nat.zero_le _, fun _ => rfl, fun h => absurd rfl h⟩
  · refine ⟨_, cap, rfl, hcap, hml, (fun e => by cases e), fun _ => ⟨g, 0, rfl, hb, (Array.getElem?_eq_some_iff.1 hg).1, fun j u hu => ?_⟩⟩
    rw [Nat.zero_add]
    have hj : j < L.length * 6 := by rw [← flat2_length]; exact (List.getElem?_eq_some_iff.1 hu).1
    rw [h.cellAt j hj, hu]

/-- All but the first one. -/
theorem PairsAt.tail {w : World} {base : Nat} {y : TmAt × TmAt} {R : List (TmAt × TmAt)} {g o cap : Nat} (hR : R.length + 1 ≤ cap) (hm : cap ≤ maxLen) (hb : base ≤ g) (hg : g < w.heap.size) (hc : ∀ j u, (flat2 (y :: R))[j]? = some u → w.cell? ⟨g, o + j, none⟩ = some u)
    {a : Option Addr} (ha : (cap = 1 ∧ a ≠ none) ∨ a = some ⟨g, o + 6, none⟩) : PairsAt w base (.slice a R.length (cap - 1)) R := by
  refine ⟨a, cap - 1, rfl, by omega, by omega, fun e => ?_, fun hl => ?_⟩
  · rcases ha with ⟨_, h⟩ | h
    · exact absurd e h
    · rw [h] at e; cases e
  · have hl' : 1 ≤ R.length := by
      cases R with
      | nil => exact absurd rfl hl
      | cons z R => simp
    rcases ha with ⟨h, _⟩ | h
    · omega
    · refine ⟨g, o + 6, h, hb, hg, fun j u hu => ?_⟩
      have h1 : (flat2 (y :: R))[6 + j]? = some u := by
        simp only [flat2]
        rw [List.getElem?_append_right (by rw [flat_length]; simp)]
        rw [flat_length]
        simpa using hu
      have := hc _ u h1
      rwa [← Nat.add_assoc] at this

/-- What holds at the head of Meet's loop. -/
structure MeetRel (w : World) (ok : Nat → Prop) (rs g cap n0 : Nat) (f : Nat) (M : MOut) (B : List TmAt) (L : List (TmAt × TmAt)) (fk : Nat) (x : Value) (wr : World) : Prop where
  eq : M = meetR (subB (B.map (·.1))) fk (L.map fun p => (p.1.1, p.2.1))
  st : RAt wr ok rs g cap B (4000 - fk)
  le : fk ≤ f
  fb : FB (B.map (·.1))
  bl : B.length = n0
  row : PairsAt wr (w.heap.size + 2) x L
  each : ∀ p ∈ L, TsEach wr ok [p.1, p.2]
  fit : ∀ p ∈ L, Fit n0 p.1.1 ∧ Fit n0 p.2.1
  len : L.length ≤ 1 + (f - fk) * 100000
  touch : Touch (StRG rs g) w wr
  size : w.heap.size + 1 < wr.heap.size

/-- What holds when both terms of a pair were looked at. -/
structure TwoR (w : World) (ok : Nat → Prop) (x y : Tm) (v8 v9 : Value) (wx : World) : Prop where
  at_ : ∃ bx bz a1 a2 c1 c2, v8 = .pointer (some ⟨bx, 0, none⟩) ∧ v9 = .pointer (some ⟨bz, 0, none⟩) ∧ w.heap.size ≤ bx ∧ w.heap.size ≤ bz ∧ bx ≠ bz ∧
    Box3 wx bx (.int .i64 x.var) (.string x.name) (.slice a1 x.args.length c1) ∧ Box3 wx bz (.int .i64 y.var) (.string y.name) (.slice a2 y.args.length c2) ∧ x.fits ∧ y.fits ∧ Ts wx ok x.args a1 c1 ∧ Ts wx ok y.args a2 c2
  below : Below w.heap.size w wx

theorem MeetRel.next {w wr wz : World} {ok : Nat → Prop} {rs g cap n0 f : Nat} {M : MOut} {B : List TmAt} {y : TmAt × TmAt} {R : List (TmAt × TmAt)} {k : Nat} {x : Value} (h : MeetRel w ok rs g cap n0 f M B (y :: R) (k + 1) x wr)
    (ht : Touch (StRG rs g) wr wz) {B' : List TmAt} {k' : Nat} (hst : RAt wz ok rs g cap B' (4000 - k')) (hk : k' ≤ k) (hfb : FB (B'.map (·.1))) (hbl : B'.length = n0) {N : List (TmAt × TmAt)}
    (hM : M = meetR (subB (B'.map (·.1))) k' (N.map (fun p => (p.1.1, p.2.1)) ++ R.map (fun p => (p.1.1, p.2.1)))) (hN : ∀ p ∈ N, TsEach wz ok [p.1, p.2]) (hNf : ∀ p ∈ N, Fit n0 p.1.1 ∧ Fit n0 p.2.1) (hNl : N.length ≤ 100000)
    {x' : Value} (hp : PairsAt wz (w.heap.size + 2) x' (N ++ R)) : MeetRel w ok rs g cap n0 f M B' (N ++ R) k' x' wz := by
  have hK : Keeps ok wr wz := ht.keeps fun b hb hm => by
    rcases hm with e | e
    · exact (h.st.okb b hb).2.1 e
    · exact (h.st.okb b hb).2.2 e
  refine ⟨by rw [hM, List.map_append], hst, by have := h.le; omega, hfb, hbl, hp, fun p hp => ?_, fun p hp => ?_, ?_, h.touch.trans ht, by have := h.size; have := ht.size; omega⟩
  · rcases List.mem_append.1 hp with h1 | h1
    · exact hN p h1
    · exact (h.each p (List.mem_cons_of_mem _ h1)).keep hK
  · rcases List.mem_append.1 hp with h1 | h1
    · exact hNf p h1
    · exact h.fit p (List.mem_cons_of_mem _ h1)
  · have := h.len; have := h.le
    simp only [List.length_cons, List.length_append] at *
    omega

/-- Two boxes hold two terms. -/
structure Mid (w : World) (ok : Nat → Prop) (bx bz : Nat) (x y : Tm) (a1 a2 : Option Addr) (c1 c2 : Nat) (wx : World) : Prop where
  bx : Box3 wx bx (.int .i64 x.var) (.string x.name) (.slice a1 x.args.length c1)
  bz : Box3 wx bz (.int .i64 y.var) (.string y.name) (.slice a2 y.args.length c2)
  fx : x.fits
  fy : y.fits
  tx : Ts wx ok x.args a1 c1
  ty : Ts wx ok y.args a2 c2
  below : Below w.heap.size w wx

theorem flat_set (B : List TmAt) (i : Nat) (hi : i < B.length) (x : TmAt) : flat (B.set i x) = (((flat B).set (i * 3) (.int .i64 x.1.var)).set (i * 3 + 1) (.string x.1.name)).set (i * 3 + 2) (.slice x.2.1 x.1.args.length x.2.2) := by
  induction B generalizing i with
  | nil => cases hi
  | cons y B ih =>
    cases i with
    | zero => simp [flat]
    | succ i =>
      have := ih i (by simpa using hi)
      rw [show (i + 1) * 3 = i * 3 + 3 from by omega]
      simp only [List.set_cons_succ, flat, this]

theorem RAt.put {w : World} {ok : Nat → Prop} {rs g cap : Nat} {B : List TmAt} {wk : Nat} (h : RAt w ok rs g cap B wk) {i : Nat} (hi : i < B.length) {z : Tm} {a : Option Addr} {c : Nat} (hf : z.fits) (ht : Ts w ok z.args a c) :
    RAt (((w.setCell ⟨g, i * 3, none⟩ (.int .i64 z.var)).setCell ⟨g, i * 3 + 1, none⟩ (.string z.name)).setCell ⟨g, i * 3 + 2, none⟩ (.slice a z.args.length c)) ok rs g cap (B.set i (z, a, c)) wk ∧
    Touch (StRG rs g) w (((w.setCell ⟨g, i * 3, none⟩ (.int .i64 z.var)).setCell ⟨g, i * 3 + 1, none⟩ (.string z.name)).setCell ⟨g, i * 3 + 2, none⟩ (.slice a z.args.length c)) := by
  have hT : Touch (fun b => b = g) w (((w.setCell ⟨g, i * 3, none⟩ (.int .i64 z.var)).setCell ⟨g, i * 3 + 1, none⟩ (.string z.name)).setCell ⟨g, i * 3 + 2, none⟩ (.slice a z.args.length c)) :=
    ⟨rfl, rfl, rfl, by simp [World.setCell], fun b' _ hn => by rw [Below.heap_setCell _ _ _ _ hn, Below.heap_setCell _ _ _ _ hn, Below.heap_setCell _ _ _ _ hn]⟩
  have hK : Keeps ok w _ := hT.keeps fun b hb e => (h.okb b hb).2.2 e
  have hr := ((h.row.stored (i * 3) (.int .i64 z.var)).1.stored (i * 3 + 1) (.string z.name)).1.stored (i * 3 + 2) (.slice a z.args.length c)
  refine ⟨⟨?_, ?_, ?_, h.ne, fun b hb => ⟨Nat.lt_of_lt_of_le (h.okb b hb).1 hT.size, (h.okb b hb).2⟩⟩, hT.mono fun _ _ e => .inr e⟩
  · rw [List.length_set]; exact (hT.block rs h.lt.1 h.ne).trans h.blk
  · rw [List.length_set, flat_set B i hi]; exact hr.1
  · intro x hx
    rcases List.mem_or_eq_of_mem_set hx with h1 | rfl
    · exact ⟨(h.each x h1).1, (h.each x h1).2.keep hK⟩
    · exact ⟨hf, ht.keep hK⟩

theorem MeetRel.bound {w wr wc w4 : World} {ok : Nat → Prop} {rs g cap n0 f : Nat} {M : MOut} {B : List TmAt} {y : TmAt × TmAt} {R : List (TmAt × TmAt)} {k f' i : Nat} {u x' : Value} {x z : Tm} {a : Option Addr} {c : Nat} (h : MeetRel w ok rs g cap n0 f M B (y :: R) (k + 1) u wr)
    (hlt : rs < w.heap.size ∧ g < w.heap.size) (tr : Touch (StRG rs g) wr wc) (t4 : Touch (StR rs) wc w4) (s4 : RAt w4 ok rs g cap B (4000 - f')) (hle : f' ≤ k) (hi : (i : Int) = x.var) (hil : i < B.length) (hx0 : x.var ≠ 0) (hxn : x.var = 0 ∨ subB (B.map (·.1)) x.var = none)
    (hz : Fit B.length z) (hzn : z.var = 0 ∨ subB (B.map (·.1)) z.var = none) (hne : z.var ≠ x.var) (hf : z.fits) (ht : Ts wc ok z.args a c) (sc : ∀ b, ok b → b ≠ rs)
    (hM : M = meetR (upd (subB (B.map (·.1))) x.var z) (min f' k) ([] ++ R.map (fun p => (p.1.1, p.2.1)))) (hp : PairsAt wc (w.heap.size + 2) x' R) :
    MeetRel w ok rs g cap n0 f M (B.set i (z, a, c)) ([] ++ R) f' x' (((w4.setCell ⟨g, i * 3, none⟩ (.int .i64 z.var)).setCell ⟨g, i * 3 + 1, none⟩ (.string z.name)).setCell ⟨g, i * 3 + 2, none⟩ (.slice a z.args.length c)).drew := by
  have hP := s4.put hil hf (ht.keep (t4.keeps fun b hb e => sc b hb e))
  have hD : Below (((w4.setCell ⟨g, i * 3, none⟩ (.int .i64 z.var)).setCell ⟨g, i * 3 + 1, none⟩ (.string z.name)).setCell ⟨g, i * 3 + 2, none⟩ (.slice a z.args.length c)).heap.size _ _ := (Below.refl _ (((w4.setCell ⟨g, i * 3, none⟩ (.int .i64 z.var)).setCell ⟨g, i * 3 + 1, none⟩ (.string z.name)).setCell ⟨g, i * 3 + 2, none⟩ (.slice a z.args.length c))).drew
  have hT : Touch (StRG rs g) wc _ := ((t4.mono (M' := StRG rs g) fun _ _ e => .inl e).trans hP.2).trans (Touch.below hD)
  have hin : x.var.toNat = i := by omega
  have e1 : (B.set i (z, a, c)).map (·.1) = (B.map (·.1)).set x.var.toNat z := by rw [List.map_set, hin]
  have e2 : subB ((B.set i (z, a, c)).map (·.1)) = upd (subB (B.map (·.1))) x.var z := by rw [e1]; exact subB_set (by omega) (by rw [List.length_map]; omega) hne
  refine h.next (tr.trans hT) (hP.1.keep hD) hle ?_ (by rw [List.length_set]; exact h.bl) (N := []) ?_ (fun p hp => by cases hp) (fun p hp => by cases hp) (Nat.zero_le _) (hp.keep hT.size fun b hb hbl => hT.block b hbl fun hm => by rcases hm with e | e <;> omega)
  · rw [e1]
    exact h.fb.bind (by omega) (by rw [List.length_map]; omega) (hxn.resolve_left hx0) (by rw [List.length_map]; exact hz) hzn hne
  · rw [e2, hM, Nat.min_eq_left hle]; rfl

theorem meetR_step {σ : Sub} {f : Nat} {p : Tm × Tm} {r : List (Tm × Tm)} {M : MOut} (hM : M = meetR σ (f + 1) (p :: r)) : (∀ o, pairStepR σ f (look σ p.1) (look σ p.2) = .done o → M = o) ∧ (∀ σ' L' f' m, pairStepR σ f (look σ p.1) (look σ p.2) = .go σ' L' f' m → M = meetR σ' f' (m ++ r)) :=
  ⟨fun _ h => hM.trans (meetR_done r h), fun _ _ _ _ h => hM.trans (meetR_go r h)⟩

theorem aSz (w : World) (o : Obj) : (w.alloc o).heap.size = w.heap.size + 1 := by simp
theorem dSz (w : World) : w.drew.heap.size = w.heap.size := rfl
theorem sSz (w : World) (p : Addr) (v : Value) : (w.setCell p v).heap.size = w.heap.size := by simp [World.setCell]

theorem Box3.made' {X : World} {b : Nat} {x0 x1 x2 : Value} (h : b = X.heap.size) : Box3 (X.alloc (.cells #[x0, x1, x2] 24)) b x0 x1 x2 := by subst h; exact Box3.made X _ _ _
theorem Box3.drew {w : World} {b : Nat} {x0 x1 x2 : Value} (h : Box3 w b x0 x1 x2) : Box3 w.drew b x0 x1 x2 := ⟨h.blk⟩
theorem Box3.other {w : World} {b c : Nat} {x0 x1 x2 : Value} (h : Box3 w b x0 x1 x2) (hne : b ≠ c) (y0 y1 y2 : Value) : Box3 (((w.setCell ⟨c, 0, none⟩ y0).setCell ⟨c, 1, none⟩ y1).setCell ⟨c, 2, none⟩ y2) b x0 x1 x2 := ⟨(other_put hne _ _ _).trans h.blk⟩
theorem Box3.zput {w : World} {b : Nat} (h : Box3 w b (.int .i64 0) (.string ⟨#[]⟩) (.slice none 0 0)) (y0 y1 y2 : Value) : Box3 (((w.setCell ⟨b, 0, none⟩ y0).setCell ⟨b, 1, none⟩ y1).setCell ⟨b, 2, none⟩ y2) b y0 y1 y2 := h.put _ _ _
theorem Ts.belowOk {w w' : World} {ok : Nat → Prop} {B : Nat} (hB : ∀ b, ok b → b < B) (h : Below B w w') {l : List Tm} {a : Option Addr} {c : Nat} (ht : Ts w ok l a c) : Ts w' ok l a c := ht.keep ⟨h.size, fun b hb _ => h.block b (hB b hb)⟩
theorem Mid.swap {w wx : World} {ok : Nat → Prop} {bx bz : Nat} {x y : Tm} {a1 a2 : Option Addr} {c1 c2 : Nat} (h : Mid w ok bx bz x y a1 a2 c1 c2 wx) (hne : bx ≠ bz) (h1 : w.heap.size ≤ bx) (h2 : w.heap.size ≤ bz) (hok : ∀ b, ok b → b < w.heap.size) :
    Mid w ok bx bz y x a2 a1 c2 c1 ((((((wx.setCell ⟨bx, 0, none⟩ (.int .i64 y.var)).setCell ⟨bx, 1, none⟩ (.string y.name)).setCell ⟨bx, 2, none⟩ (.slice a2 y.args.length c2)).setCell ⟨bz, 0, none⟩ (.int .i64 x.var)).setCell ⟨bz, 1, none⟩ (.string x.name)).setCell ⟨bz, 2, none⟩ (.slice a1 x.args.length c1)) := by
  have A := h.bx.put (.int .i64 y.var) (.string y.name) (.slice a2 y.args.length c2)
  have B := (Box3.other h.bz (fun e => hne e.symm) (.int .i64 y.var) (.string y.name) (.slice a2 y.args.length c2)).put (.int .i64 x.var) (.string x.name) (.slice a1 x.args.length c1)
  have hB := below_put (below_put (Below.refl w.heap.size wx) h1 (.int .i64 y.var) (.string y.name) (.slice a2 y.args.length c2)) h2 (.int .i64 x.var) (.string x.name) (.slice a1 x.args.length c1)
  exact ⟨A.other hne _ _ _, B, h.fy, h.fx, h.ty.belowOk hok hB, h.tx.belowOk hok hB, h.below.trans hB⟩

theorem Try.infoPr1 : (Try.prog.info? 162).map (fun i => (i.size, i.bytes)) = some (6, 96) := by kernel_rfl
theorem Try.infoPr2 : ((Try.prog.info? 162).bind (fun i => i.zero)).map (fun z => z.cells.size) = some 6 := by kernel_rfl
theorem infoPr : ∃ i z, Try.prog.info? 162 = some i ∧ i.zero = some z ∧ i.size = 6 ∧ i.bytes = 96 ∧ z.cells.size = 6 := by
  have h1 := Try.infoPr1; have h2 := Try.infoPr2
  obtain ⟨i, hi, h3⟩ := Option.map_eq_some_iff.1 h1
  obtain ⟨z, hz, h4⟩ := Option.map_eq_some_iff.1 h2
  rw [hi, Option.bind_some] at hz
  simp only [Prod.mk.injEq] at h3
  exact ⟨i, z, hi, hz, h3.1, h3.2, h4⟩

/-- What holds at the head of the loop that pairs two terms' arguments. -/
structure MoreRel (wb : World) (ok : Nat → Prop) (l l2 : List Tm) (i : Nat) (L : List (TmAt × TmAt)) (v : Value) (wr : World) : Prop where
  list : L.map (fun p => (p.1.1, p.2.1)) = (l.zip l2).take i
  len : L.length = i
  row : wr.ownsRow wb.heap.size 162 6 v L.length (flat2 L)
  each : ∀ p ∈ L, TsEach wr ok [p.1, p.2]
  below : Below wb.heap.size wb wr

theorem MoreRel.next {wb wr w1 : World} {ok : Nat → Prop} {l l2 : List Tm} {i : Nat} {L : List (TmAt × TmAt)} {v v1 : Value} (h : MoreRel wb ok l l2 i L v wr) (hok : ∀ b, ok b → b < wb.heap.size) (h1 : i < l.length) (h2 : i < l2.length)
    {d1 d2 : Option Addr} {e1 e2 : Nat} (f1 : l[i].fits) (f2 : l2[i].fits) (t1 : Ts wb ok l[i].args d1 e1) (t2 : Ts wb ok l2[i].args d2 e2) {X : World}
    (ho : w1.ownsRow wb.heap.size 162 6 v1 (L.length + 1) (flat2 L ++ flat [(l[i], d1, e1), (l2[i], d2, e2)])) (_hg : X.grownBy w1 v.ownBlock) (hb : Below wb.heap.size wb w1) (hs : wr.heap.size ≤ w1.heap.size) : MoreRel wb ok l l2 (i + 1) (L ++ [((l[i], d1, e1), (l2[i], d2, e2))]) v1 w1 := by
  refine ⟨?_, by rw [List.length_append, h.len]; rfl, ?_, fun p hp => ?_, hb⟩
  · have hz : i < (l.zip l2).length := by rw [List.length_zip]; omega
    rw [List.map_append, h.list, List.take_succ_eq_append_getElem hz, List.getElem_zip]; rfl
  · rw [List.length_append, flat2_append]
    simpa [flat2] using ho
  · rcases List.mem_append.1 hp with h3 | h3
    · intro x hx
      have := h.each p h3 x hx
      exact ⟨this.1, (this.2.keep (w' := w1) ⟨hs, fun b hk _ => (hb.block b (hok b hk)).trans (h.below.block b (hok b hk)).symm⟩)⟩
    · rw [List.mem_singleton] at h3; subst h3
      exact ((TsEach.one f1 (t1.belowOk hok hb)).append (TsEach.one f2 (t2.belowOk hok hb)))

theorem PairsAt.src {w w' : World} {base : Nat} {R : List (TmAt × TmAt)} {a : Option Addr} {cap : Nat} (h : PairsAt w base (.slice a R.length cap) R) (hb : Below w.heap.size w w') :
    (a = none → R.length = 0) ∧ ∀ ad, a = some ad → ∀ j u, (flat2 R)[j]? = some u → w'.cell? (ad.add j) = some u := by
  obtain ⟨a', cap', h1, h2, h3, h4, h5⟩ := h
  simp only [Value.slice.injEq] at h1
  obtain ⟨rfl, _, rfl⟩ := h1
  refine ⟨fun e => by rw [h4 e]; rfl, fun ad had j u hu => ?_⟩
  have hl : R ≠ [] := fun e => by subst e; simp [flat2] at hu
  obtain ⟨g, o, h6, _, h8, h9⟩ := h5 hl
  rw [h6] at had; cases had
  rw [addr_add]
  exact (hb.cell (p := ⟨g, o + j, none⟩) h8).trans (h9 j u hu)

theorem PairsAt.form {w : World} {base : Nat} {x : Value} {R : List (TmAt × TmAt)} (h : PairsAt w base x R) : ∃ a cap, x = .slice a R.length cap ∧ cap ≤ maxLen := by
  obtain ⟨a, cap, h1, h2, h3, _⟩ := h; exact ⟨a, cap, h1, h3⟩

theorem MoreRel.after {wb wr w1 : World} {ok : Nat → Prop} {l l2 : List Tm} {i : Nat} {L : List (TmAt × TmAt)} {v : Value} (h : MoreRel wb ok l l2 i L v wr) (hok : ∀ b, ok b → b < wb.heap.size) (hb : Below wb.heap.size wb w1) (hs : wr.heap.size ≤ w1.heap.size) : ∀ p ∈ L, TsEach w1 ok [p.1, p.2] := by
  intro p hp x hx
  have := h.each p hp x hx
  exact ⟨this.1, (this.2.keep (w' := w1) ⟨hs, fun b hk _ => (hb.block b (hok b hk)).trans (h.below.block b (hok b hk)).symm⟩)⟩

theorem MoreRel.fits {wb wr : World} {ok : Nat → Prop} {x z : Tm} {i n n0 : Nat} {L : List (TmAt × TmAt)} {v : Value} (h : MoreRel wb ok x.args z.args i L v wr) (hx : Fit n x) (hz : Fit n z) (hn : n = n0) : ∀ p ∈ L, Fit n0 p.1.1 ∧ Fit n0 p.2.1 := by
  subst hn
  intro p hp
  have h1 : (p.1.1, p.2.1) ∈ (x.args.zip z.args).take i := by rw [← h.list]; exact List.mem_map.2 ⟨p, hp, rfl⟩
  have h2 := List.of_mem_zip (List.mem_of_mem_take h1)
  exact ⟨hx.arg h2.1, hz.arg h2.2⟩

theorem Below.up {B : Nat} {w0 u w : World} (h : Below B w0 u) (k : Below u.heap.size u w) (hs : B ≤ u.heap.size) : Below B w0 w := h.trans (k.mono hs)

set_option maxRecDepth 100000 in
set_option maxHeartbeats 4000000 in
theorem MeetW {w : World} {ok : Nat → Prop} {rs g cap : Nat} {B0 : List TmAt} {f : Nat} (hf : f ≤ 4000) (h : RAt w ok rs g cap B0 (4000 - f)) (hB : FB (B0.map (·.1))) {s t : Tm} {a1 a2 : Option Addr} {c1 c2 : Nat} (hs : s.fits) (ht : t.fits) (hts : Ts w ok s.args a1 c1) (htt : Ts w ok t.args a2 c2) (his : Fit B0.length s) (hit : Fit B0.length t) :
    Calls Try.prog 70 #[.pointer (some ⟨rs, 0, none⟩), .agg #[.int .i64 s.var, .string s.name, .slice a1 s.args.length c1], .agg #[.int .i64 t.var, .string t.name, .slice a2 t.args.length c2]] w (MeetRPost w ok rs g cap B0.length (meetR (subB (B0.map (·.1))) f [(s, t)])) := by
  have H := Lib.hid h; have HF1 := Lib.hid hs; have HF2 := Lib.hid ht; have HT1 := Lib.hid hts; have HT2 := Lib.hid htt; have HB := Lib.hid hB; have HI1 := Lib.hid his; have HI2 := Lib.hid hit; have HF4 := Lib.hid hf
  clear h hs ht hts htt hB his hit hf
  go_enter Try.func70, Try.ntmps70
  go_wp2_with fail
  go_loopg [7] f (fun fk x wr => ∃ B L, MeetRel w ok rs g cap B0.length f (meetR (subB (B0.map (·.1))) f [(s, t)]) B L fk x wr)
  case atStart =>
    have hb : Below w.heap.size w (((w.alloc (.cells #[.int .i64 s.var, .string s.name, .slice a1 s.args.length c1] 24)).alloc (.cells #[.int .i64 t.var, .string t.name, .slice a2 t.args.length c2] 24)).alloc (.cells #[.int .i64 s.var, .string s.name, .slice a1 s.args.length c1, .int .i64 t.var, .string t.name, .slice a2 t.args.length c2] 162)) :=
      (((Below.refl _ _).alloc (Nat.le_refl _) _).alloc (by simp) _).alloc (by simp; omega) _
    refine ⟨B0, [((s, a1, c1), (t, a2, c2))], rfl, H.out.keep hb, Nat.le_refl _, HB.out, rfl, ?_, ?_, ?_, by simp, Touch.below hb, by simp⟩
    · refine PairsAt.of_row ?_
      have := World.ownsRow_lit (base := w.heap.size + 2) (e := 162) (size := 6) ((w.alloc (.cells #[.int .i64 s.var, .string s.name, .slice a1 s.args.length c1] 24)).alloc (.cells #[.int .i64 t.var, .string t.name, .slice a2 t.args.length c2] 24)) #[.int .i64 s.var, .string s.name, .slice a1 s.args.length c1, .int .i64 t.var, .string t.name, .slice a2 t.args.length c2] 1 (by simp) (by unfold maxLen; omega) rfl
      simpa [flat2, flat] using this
    · intro p hp
      rw [List.mem_singleton] at hp; subst hp
      exact ((TsEach.one HF1.out HT1.out).append (TsEach.one HF2.out HT2.out)).keep (Keeps.below hb _)
    · intro p hp
      rw [List.mem_singleton] at hp; subst hp
      exact ⟨HI1.out, HI2.out⟩
  case round =>
    obtain ⟨B, L, hrel⟩ := hrel
    cases L with
    | nil =>
      obtain ⟨a0, c0, rfl⟩ : ∃ a0 c0, u7 = .slice a0 0 c0 := by
        obtain ⟨a, c, h1, _⟩ := hrel.row
        exact ⟨_, _, h1⟩
      have HO : Hid (meetR (subB (B0.map (·.1))) f [(s, t)] = .ok (subB (B.map (·.1))) [] gk) := Lib.hid (by rw [hrel.eq]; cases gk <;> rw [List.map_nil, meetR])
      have HR := Lib.hid hrel
      clear hrel
      go_wp2_with fail
      go_ret
      rw [HO.out]
      exact ⟨HR.out.touch, B, HR.out.bl, HR.out.fb, rfl, HR.out.st, rfl⟩
    | cons y R =>
      obtain ⟨a0, c', rfl, hcap, hcml, _, hrow⟩ := hrel.row
      obtain ⟨g', o', rfl, hgb, hgl, hcel⟩ := hrow (by simp)
      have HCEL := Lib.hid hcel
      have HCAP : Hid (R.length + 1 ≤ c' ∧ c' ≤ maxLen) := Lib.hid ⟨hcap, hcml⟩
      have HGB : Hid (w.heap.size + 2 ≤ g' ∧ g' < wr.heap.size) := Lib.hid ⟨hgb, hgl⟩
      clear hrow hcel hcap hcml hgb hgl
      simp only [List.length_cons] at *
      have hlen := hrel.len
      have hw1 := hrel.st.cells.2.1
      have hfr := hrel.st.cells.2.2.1
      have hgf : gk ≤ 4000 := Nat.le_trans hrel.le HF4.out
      have HR := Lib.hid hrel
      clear hrel
      have hR : R.length + 1 ≤ 1000000000 := by simp only [List.length_cons] at hlen; have := HF4.out; omega
      have r0 : wr.cell? ⟨g', o', none⟩ = some (.int .i64 y.1.1.var) := HCEL.out 0 _ rfl
      have r1 : wr.cell? ⟨g', o' + 1, none⟩ = some (.string y.1.1.name) := HCEL.out 1 _ rfl
      have r2 : wr.cell? ⟨g', o' + 2, none⟩ = some (.slice y.1.2.1 y.1.1.args.length y.1.2.2) := HCEL.out 2 _ rfl
      have r3 : wr.cell? ⟨g', o' + 3, none⟩ = some (.int .i64 y.2.1.var) := HCEL.out 3 _ rfl
      have r4 : wr.cell? ⟨g', o' + 3 + 1, none⟩ = some (.string y.2.1.name) := HCEL.out 4 _ rfl
      have r5 : wr.cell? ⟨g', o' + 3 + 2, none⟩ = some (.slice y.2.2.1 y.2.1.args.length y.2.2.2) := HCEL.out 5 _ rfl
      have hne : g' ≠ rs := by have := HGB.out.1; have := H.out.lt.1; omega
      have hne' : rs ≠ g' := fun e => hne e.symm
      cases gk with
      | zero =>
        have HO : Hid (meetR (subB (B0.map (·.1))) f [(s, t)] = .many (subB (B.map (·.1))) []) := Lib.hid (by rw [HR.out.eq, List.map_cons, meetR])
        have S1 := Lib.hid (HR.out.st.work 4001)
        have T1 := Lib.hid (HR.out.touch.trans ((touch_one wr rs 1 (.int .i64 ((4001 : Nat) : Int))).mono (M' := StRG rs g) fun _ _ e => .inl e))
        go_wp2_with fail
        go_ret
        rw [HO.out]
        exact ⟨T1.out, B, HR.out.bl, HR.out.fb, rfl, S1.out, rfl⟩
      | succ k =>
        obtain ⟨q, hq⟩ : ∃ q : Nat, 4000 - (k + 1) = q := ⟨_, rfl⟩
        have hq1 : q ≤ 3999 := by omega
        have hq2 : 4000 - k = q + 1 := by omega
        rw [hq] at hw1
        have S1 : Hid (RAt (wr.setCell ⟨rs, 1, none⟩ (.int .i64 ((q : Int) + 1))) ok rs g cap B (4000 - k)) := Lib.hid (by rw [hq2]; exact HR.out.st.work (q + 1))
        have TX := Lib.hid (touch_one wr rs 1 (.int .i64 ((q : Int) + 1)))
        have T1 := Lib.hid (HR.out.touch.trans (TX.out.mono (M' := StRG rs g) fun _ _ e => .inl e))
        clear hq hq2
        have HY := Lib.hid (HR.out.each y List.mem_cons_self)
        have HYF := Lib.hid (HR.out.fit y List.mem_cons_self)
        have HIB : Hid (∀ i (hi : i < B.length), InB B B[i].1) := Lib.hid (fun i hi => by
          have := (HR.out.fb.each B[i].1 (List.mem_map.2 ⟨_, List.getElem_mem hi, rfl⟩)).pos
          rw [List.length_map] at this
          exact this)
        have HBLN := Lib.hid HR.out.bl
        obtain ⟨n, hn⟩ := look_spec HR.out.fb.inv.rank.ends y.1.1
        obtain ⟨m, hm⟩ := look_spec HR.out.fb.inv.rank.ends y.2.1
        have HN := Lib.hid hn; have HM := Lib.hid hm
        have KX := Lib.hid (HR.out.st.keeps TX.out)
        have HE1 : Hid (Ts (wr.setCell ⟨rs, 1, none⟩ (.int .i64 ((q : Int) + 1))) ok y.1.1.args y.1.2.1 y.1.2.2) := Lib.hid ((HY.out _ (by simp)).2.keep KX.out)
        have HE2 : Hid (Ts (wr.setCell ⟨rs, 1, none⟩ (.int .i64 ((q : Int) + 1))) ok y.2.1.args y.2.2.1 y.2.2.2) := Lib.hid ((HY.out _ (by simp)).2.keep KX.out)
        have HC : Hid (∀ j, (wr.setCell ⟨rs, 1, none⟩ (.int .i64 ((q : Int) + 1))).cell? ⟨g', j, none⟩ = wr.cell? ⟨g', j, none⟩) := Lib.hid (fun j => World.cell?_of_block (TX.out.block g' HGB.out.2 hne))
        clear hn hm
        go_wp2_with fail
        have r0 := (HC.out o').trans r0; have r1 := (HC.out (o' + 1)).trans r1; have r2 := (HC.out (o' + 2)).trans r2
        have r3 := (HC.out (o' + 3)).trans r3; have r4 := (HC.out (o' + 3 + 1)).trans r4; have r5 := (HC.out (o' + 3 + 2)).trans r5
        have hin1 : InB B y.1.1 := by have := HYF.out.1.pos; unfold InB; rw [HBLN.out]; exact this
        have hin2 : InB B y.2.1 := by have := HYF.out.2.pos; unfold InB; rw [HBLN.out]; exact this
        generalize wr.setCell ⟨rs, 1, none⟩ (.int .i64 ((q : Int) + 1)) = wX at *
        have HQ1 : Hid (∀ X, Below wX.heap.size wX X → Calls Try.prog 71 #[.pointer (some ⟨rs, 0, none⟩), .agg #[.int .i64 y.1.1.var, .string y.1.1.name, .slice y.1.2.1 y.1.1.args.length y.1.2.2]] X (RetTm X ok (look (subB (B.map (·.1))) y.1.1))) := Lib.hid (fun X hX => LookAtW (S1.out.keep hX) HIB.out HN.out (HY.out _ (by simp)).1 (HE1.out.keep (Keeps.below hX ok)) hin1)
        have HQ2 : Hid (∀ X, Below wX.heap.size wX X → Calls Try.prog 71 #[.pointer (some ⟨rs, 0, none⟩), .agg #[.int .i64 y.2.1.var, .string y.2.1.name, .slice y.2.2.1 y.2.1.args.length y.2.2.2]] X (RetTm X ok (look (subB (B.map (·.1))) y.2.1))) := Lib.hid (fun X hX => LookAtW (S1.out.keep hX) HIB.out HM.out (HY.out _ (by simp)).1 (HE2.out.keep (Keeps.below hX ok)) hin2)
        have hg' : g' < wX.heap.size := World.block_lt_of_cell? wX _ r0
        go_upto_region 6 with fail
        go_cut [8, 9] (fun v8 v9 wx => TwoR wX ok (look (subB (B.map (·.1))) y.1.1) (look (subB (B.map (·.1))) y.2.1) v8 v9 wx)
        case first =>
          -- FIRST-BEGIN
          have KH : Hid (∀ u, Below wX.heap.size wX u → u.cell? ⟨g', o', none⟩ = some (.int .i64 y.1.1.var) ∧ u.cell? ⟨g', o' + 1, none⟩ = some (.string y.1.1.name) ∧ u.cell? ⟨g', o' + 2, none⟩ = some (.slice y.1.2.1 y.1.1.args.length y.1.2.2) ∧ u.cell? ⟨g', o' + 3, none⟩ = some (.int .i64 y.2.1.var) ∧ u.cell? ⟨g', o' + 3 + 1, none⟩ = some (.string y.2.1.name) ∧ u.cell? ⟨g', o' + 3 + 2, none⟩ = some (.slice y.2.2.1 y.2.1.args.length y.2.2.2) ∧ Below wX.heap.size wX u) := Lib.hid (fun u hb =>
            ⟨(hb.cell (p := ⟨g', o', none⟩) hg').trans r0, (hb.cell (p := ⟨g', o' + 1, none⟩) hg').trans r1, (hb.cell (p := ⟨g', o' + 2, none⟩) hg').trans r2, (hb.cell (p := ⟨g', o' + 3, none⟩) hg').trans r3, (hb.cell (p := ⟨g', o' + 3 + 1, none⟩) hg').trans r4, (hb.cell (p := ⟨g', o' + 3 + 2, none⟩) hg').trans r5, hb⟩)
          have NX : ∀ u u', Below wX.heap.size wX u → Below u.heap.size u u' → Below wX.heap.size wX u' := fun u u' h1 h2 => h1.trans (h2.mono h1.size)
          have NA : ∀ u X, Below wX.heap.size wX u → Below wX.heap.size wX (u.alloc X) := fun u X h1 => h1.alloc h1.size _
          clear r0 r1 r2 r3 r4 r5
          go_region_held3 (fun u => u.cell? ⟨g', o', none⟩ = some (.int .i64 y.1.1.var) ∧ u.cell? ⟨g', o' + 1, none⟩ = some (.string y.1.1.name) ∧ u.cell? ⟨g', o' + 2, none⟩ = some (.slice y.1.2.1 y.1.1.args.length y.1.2.2) ∧ u.cell? ⟨g', o' + 3, none⟩ = some (.int .i64 y.2.1.var) ∧ u.cell? ⟨g', o' + 3 + 1, none⟩ = some (.string y.2.1.name) ∧ u.cell? ⟨g', o' + 3 + 2, none⟩ = some (.slice y.2.2.1 y.2.1.args.length y.2.2.2) ∧ Below wX.heap.size wX u)
            (first
              | (with_reducible assumption)
              | ((with_reducible refine KH.out _ ?_); repeat' (first | (with_reducible assumption) | (with_reducible refine below_put ?_ ?_ _ _ _) | (with_reducible refine NA _ _ ?_) | (with_reducible refine Below.drew ?_) | (with_reducible exact Below.refl _ _) | omega)))
            (first
              | (go_at_call_of 71 (Value.string y.1.1.name); refine (HQ1.out _ (And.right (And.right (And.right (And.right (And.right (And.right (by assumption)))))))).mono ?_; rintro e wA ⟨aA, cA, rfl, hfA, htA, hbA⟩; have chA : Below wX.heap.size wX wA := NX _ _ (And.right (And.right (And.right (And.right (And.right (And.right (by assumption))))))) hbA; have szA := chA.size; have tA := hbA.size; (try rw [dSz] at tA); (try rw [aSz] at tA); (try rw [aSz] at tA); (try rw [dSz] at tA); obtain ⟨hcA, hzA⟩ := bcell hbA; (first | have yA2 : wX.heap.size < wA.heap.size := by omega | skip); (first | have yA3 : wX.heap.size + 1 < wA.heap.size := by omega | skip); (first | have tA2 := Nat.lt_of_succ_le tA | skip); (first | have tA3 := Nat.lt_of_succ_lt tA2 | skip); (first | have tA4 := Nat.le_of_lt tA2 | skip); (first | have tA5 := Nat.le_of_lt tA3 | skip))
              | (go_at_call_of 71 (Value.string y.2.1.name); refine (HQ2.out _ (And.right (And.right (And.right (And.right (And.right (And.right (by assumption)))))))).mono ?_; rintro e wB ⟨aB, cB, rfl, hfB, htB, hbB⟩; have chB : Below wX.heap.size wX wB := NX _ _ (And.right (And.right (And.right (And.right (And.right (And.right (by assumption))))))) hbB; have szB := chB.size; have tB := hbB.size; (try rw [dSz] at tB); (try rw [aSz] at tB); (try rw [aSz] at tB); (try rw [dSz] at tB); obtain ⟨hcB, hzB⟩ := bcell hbB; (first | have yB2 : wX.heap.size < wB.heap.size := by omega | skip); (first | have yB3 : wX.heap.size + 1 < wB.heap.size := by omega | skip); (first | have tB2 := Nat.lt_of_succ_le tB | skip); (first | have tB3 := Nat.lt_of_succ_lt tB2 | skip); (first | have tB4 := Nat.le_of_lt tB2 | skip); (first | have tB5 := Nat.le_of_lt tB3 | skip)))
          all_goals
            go_wp2_with fail
            go_meet
            have HOK : ∀ b, ok b → b < wX.heap.size := fun b hb => (S1.out.okb b hb).1
            refine ⟨⟨_, _, aA, aB, cA, cB, rfl, rfl, ?_, ?_, ?_, ?_, ?_, hfA, hfB, ?_, ?_⟩, ?_⟩
            · omega
            · omega
            · omega
            · repeat' (first | (with_reducible refine Box3.made' ?_; (simp only [aSz, sSz]; done)) | (with_reducible refine Box3.zput ?_ _ _ _) | ((with_reducible refine Box3.other ?_ ?_ _ _ _); rotate_left; omega) | (with_reducible refine Box3.alloc ?_ _) | (with_reducible refine Box3.drew ?_) | (with_reducible refine Box3.below ?_ hbA) | (with_reducible refine Box3.below ?_ hbB))
            · repeat' (first | (with_reducible refine Box3.made' ?_; (simp only [aSz, sSz]; done)) | (with_reducible refine Box3.zput ?_ _ _ _) | ((with_reducible refine Box3.other ?_ ?_ _ _ _); rotate_left; omega) | (with_reducible refine Box3.alloc ?_ _) | (with_reducible refine Box3.drew ?_) | (with_reducible refine Box3.below ?_ hbA) | (with_reducible refine Box3.below ?_ hbB))
            · refine Ts.belowOk HOK ?_ htA
              repeat' (first | (with_reducible exact Below.refl _ _) | (with_reducible refine below_put ?_ ?_ _ _ _) | (with_reducible refine Below.alloc ?_ ?_ _) | (with_reducible refine Below.drew ?_) | (with_reducible refine Below.up ?_ hbA ?_) | (with_reducible refine Below.up ?_ hbB ?_) | (with_reducible assumption) | (simp only [aSz, sSz]; omega) | omega)
            · refine Ts.belowOk HOK ?_ htB
              repeat' (first | (with_reducible exact Below.refl _ _) | (with_reducible refine below_put ?_ ?_ _ _ _) | (with_reducible refine Below.alloc ?_ ?_ _) | (with_reducible refine Below.drew ?_) | (with_reducible refine Below.up ?_ hbA ?_) | (with_reducible refine Below.up ?_ hbB ?_) | (with_reducible assumption) | (simp only [aSz, sSz]; omega) | omega)
            · repeat' (first | (with_reducible exact Below.refl _ _) | (with_reducible refine below_put ?_ ?_ _ _ _) | (with_reducible refine Below.alloc ?_ ?_ _) | (with_reducible refine Below.drew ?_) | (with_reducible refine Below.up ?_ hbA ?_) | (with_reducible refine Below.up ?_ hbB ?_) | (with_reducible assumption) | (simp only [aSz, dSz, sSz]; omega) | omega)
          -- FIRST-END
        case rest =>
          obtain ⟨⟨bx, bz, a1', a2', c1', c2', rfl, rfl, hbx, hbz, hne2, BX, BZ, hfx, hfy, htx, hty⟩, hbl⟩ := hcut
          have S2 := Lib.hid (S1.out.keep hbl)
          have T2 := Lib.hid (T1.out.trans (Touch.below (M := StRG rs g) hbl))
          have TR := Lib.hid ((TX.out.mono (M' := StRG rs g) fun _ _ e => .inl e).trans (Touch.below hbl))
          have HCX : Hid (∀ j u, (flat2 (y :: R))[j]? = some u → wX.cell? ⟨g', o' + j, none⟩ = some u) := Lib.hid (fun j u hu => (HC.out _).trans (HCEL.out j u hu))
          have HMS := Lib.hid (meetR_step (p := (y.1.1, y.2.1)) (r := R.map fun p => (p.1.1, p.2.1)) HR.out.eq)
          have HEX := Lib.hid (look_stop HR.out.fb.inv.rank.ends y.1.1); have HEY := Lib.hid (look_stop HR.out.fb.inv.rank.ends y.2.1)
          have HFX : Hid (Fit B.length (look (subB (B.map (·.1))) y.1.1)) := Lib.hid (by
            have := HR.out.fb.look (t := y.1.1) (by rw [List.length_map, HBLN.out]; exact HYF.out.1)
            rwa [List.length_map] at this)
          have HFY : Hid (Fit B.length (look (subB (B.map (·.1))) y.2.1)) := Lib.hid (by
            have := HR.out.fb.look (t := y.2.1) (by rw [List.length_map, HBLN.out]; exact HYF.out.2)
            rwa [List.length_map] at this)
          have HMID : Hid (Mid wX ok bx bz (look (subB (B.map (·.1))) y.1.1) (look (subB (B.map (·.1))) y.2.1) a1' a2' c1' c2' wc) := Lib.hid ⟨BX, BZ, hfx, hfy, htx, hty, hbl⟩
          have q0 := BX.c0; have q1 := BX.c1; have q2 := BX.c2; have qf := BX.fz
          have p0 := BZ.c0; have p1 := BZ.c1; have p2 := BZ.c2; have pf := BZ.fz
          have hsz1 : bx < wc.heap.size := BX.lt
          have hsz2 : bz < wc.heap.size := BZ.lt
          have HBX : Hid (wX.heap.size ≤ bx ∧ wX.heap.size ≤ bz) := Lib.hid ⟨hbx, hbz⟩
          have HGX : Hid (w.heap.size + 2 ≤ g' ∧ g' < wX.heap.size) := Lib.hid ⟨HGB.out.1, hg'⟩
          have HBL := Lib.hid hbl
          have hRl := HCAP.out.1
          clear r0 r1 r2 r3 r4 r5 BX BZ hfx hfy htx hty hbl HQ1 HQ2 HE1 HE2 HN HM HIB KX hbx hbz
          generalize look (subB (B.map (·.1))) y.1.1 = x at *
          generalize look (subB (B.map (·.1))) y.2.1 = z at *
          go_upto_region 7 with fail
          go_cut [7] (fun v7 wy => PairsAt wX (w.heap.size + 2) v7 R ∧ wy = wc)
          case first =>
            have hc0 : (1 : Int) ≤ (R.length : Int) + 1 := by omega
            have hc2 : (R.length : Int) + 1 ≤ (c' : Int) := by omega
            by_cases hc1 : c' = 1
            · subst hc1
              obtain rfl : R = [] := List.eq_nil_of_length_eq_zero (by omega)
              go_wp2_with fail
              all_goals
                go_meet
                exact ⟨PairsAt.tail HCAP.out.1 HCAP.out.2 HGX.out.1 HGX.out.2 HCX.out (a := some ⟨g', o', none⟩) (.inl ⟨rfl, by simp⟩), rfl⟩
            · go_wp2_with fail
              all_goals
                go_meet
                exact ⟨PairsAt.tail HCAP.out.1 HCAP.out.2 HGX.out.1 HGX.out.2 HCX.out (.inr rfl), rfl⟩
          case rest =>
            obtain ⟨hpt, rfl⟩ := hcut
            have HPT := Lib.hid hpt
            have HPD := Lib.hid (hpt.keep HBL.out.size fun b _ hb => HBL.out.block b hb)
            clear hpt HCX HGX HCAP HGB HCEL
            by_cases hv : x.var ≠ 0
            · -- FIRST-BEGIN
              have hv1 : (x.var != 0) = true := by rw [bne_iff_ne]; exact hv
              have hv2 : (x.var == 0) = false := by rw [beq_eq_false_iff_ne]; exact hv
              by_cases hvy : x.var = z.var
              · have hvy1 : (x.var == z.var) = true := by rw [beq_iff_eq]; exact hvy
                have HM1 : Hid (meetR (subB (B0.map (·.1))) f [(s, t)] = meetR (subB (B.map (·.1))) k ([] ++ R.map fun p => (p.1.1, p.2.1))) := Lib.hid (HMS.out.2 _ _ _ _ (pairStepR_same hv hvy))
                clear hv hvy
                go_wp2_with fail
                go_roundg k
                case measure => omega
                case rel => exact ⟨B, [] ++ R, HR.out.next TR.out S2.out (Nat.le_refl _) HR.out.fb HR.out.bl (N := []) HM1.out (fun p hp => by cases hp) (fun p hp => by cases hp) (Nat.zero_le _) HPD.out⟩
              · have hvy1 : (x.var == z.var) = false := by rw [beq_eq_false_iff_ne]; exact hvy
                have HST : Hid (pairStepR (subB (B.map (·.1))) k x z = bindStepR (subB (B.map (·.1))) x.var z k) := Lib.hid (pairStepR_x hv hvy)
                have HVX : Hid (x.var ≠ 0) := Lib.hid hv
                have HEX2 := HEX; have HFXX := HFX; have HFZ := HFY; have HEZ := HEY; have HNV : Hid (z.var ≠ x.var) := Lib.hid (fun e => hvy e.symm); have HMD := HMID; have SD := S2; have TD := T2; have TRD := TR
                clear hv hvy
                have HW := Lib.hid (WithinW (f := k) (by omega) SD.out HR.out.fb (v := x.var) HVX.out HMD.out.fy HMD.out.ty HFZ.out)
                have hq0 := HMD.out.bx.c0; have hq1 := HMD.out.bx.c1; have hq2 := HMD.out.bx.c2
                have hp0 := HMD.out.bz.c0; have hp1 := HMD.out.bz.c1; have hp2 := HMD.out.bz.c2
                have hxn : (x.var != 0) = true := by rw [bne_iff_ne]; exact HVX.out
                have HLE := Lib.hid (within_le (subB (B.map (·.1))) x.var k [z])
                have HBS : Hid (pairStepR (subB (B.map (·.1))) k x z = match within (subB (B.map (·.1))) x.var k [z] with | .yes f' => .done (.no (subB (B.map (·.1))) [] f') | .many => .done (.many (subB (B.map (·.1))) []) | .no f' => .go (upd (subB (B.map (·.1))) x.var z) [] (min f' k) []) := Lib.hid HST.out
                generalize within (subB (B.map (·.1))) x.var k [z] = oo at *
                cases oo with
                | yes f' =>
                  go_wp2_with (go_at_call 105; refine HW.out.mono ?_; rintro e w4 ⟨ht4, rfl, hs4⟩; have HT4 := Lib.hid ht4; have HS4 := Lib.hid hs4; clear ht4 hs4)
                  go_ret
                  rw [HMS.out.1 _ HBS.out]
                  exact ⟨TD.out.trans (HT4.out.mono fun _ _ e => .inl e), B, HR.out.bl, HR.out.fb, rfl, HS4.out, rfl⟩
                | many =>
                  go_wp2_with (go_at_call 105; refine HW.out.mono ?_; rintro e w4 ⟨ht4, rfl, hs4⟩; have HT4 := Lib.hid ht4; have HS4 := Lib.hid hs4; clear ht4 hs4)
                  go_ret
                  rw [HMS.out.1 _ HBS.out]
                  exact ⟨TD.out.trans (HT4.out.mono fun _ _ e => .inl e), B, HR.out.bl, HR.out.fb, rfl, HS4.out, rfl⟩
                | no f' =>
                  have hle : f' ≤ k := HLE.out.2 f' rfl
                  obtain ⟨i, hi⟩ : ∃ i : Nat, (i : Int) = x.var := ⟨x.var.toNat, by have := HFXX.out.pos; omega⟩
                  have hin : x.var.toNat = i := by omega
                  have hilt : i < B.length := by have := HFXX.out.pos; omega
                  have hi0 : (0 : Int) ≤ x.var := by omega
                  have hi1 : x.var < (B.length : Int) := by omega
                  have HNE : Hid (bx ≠ rs ∧ bz ≠ rs ∧ bx ≠ g ∧ bz ≠ g) := Lib.hid (by have := HBX.out; have := S1.out.lt; omega)
                  have HTX : Hid (Touch (StR rs) wc wc) := Lib.hid (Touch.refl _ _)
                  go_wp2_with (go_at_call 105; refine HW.out.mono ?_; rintro e w4 ⟨ht4, rfl, hs4⟩; have hb4 := HMD.out.bx.keep (ht4.block _ HMD.out.bx.lt HNE.out.1); have hz4 := HMD.out.bz.keep (ht4.block _ HMD.out.bz.lt HNE.out.2.1); have k0 := hb4.c0; have z0 := hz4.c0; have z1 := hz4.c1; have z2 := hz4.c2; have c4 := hs4.cells.1; have fg := hs4.cells.2.2.2; obtain ⟨e0, e1, e2, -, -⟩ := hs4.elem i hilt; have HT4 := Lib.hid ht4; have HS4 := Lib.hid hs4; clear ht4 hs4 hb4 hz4)
                  go_region
                  all_goals
                    go_wp2_with fail
                    go_roundg f'
                    case measure => omega
                    case rel => exact ⟨_, _, HR.out.bound H.out.lt TRD.out HT4.out HS4.out hle hi hilt HVX.out HEX2.out HFZ.out HEZ.out HNV.out HMD.out.fy HMD.out.ty (fun b hb => (S1.out.okb b hb).2.1) (HMS.out.2 _ _ _ _ HBS.out) HPD.out⟩
              -- FIRST-END
            · have hv0 : x.var = 0 := Decidable.of_not_not hv
              have hv1 : (x.var != 0) = false := by rw [hv0]; rfl
              have hv2 : (x.var == 0) = true := by rw [hv0]; rfl
              by_cases hvy : z.var ≠ 0
              · -- FIRST-BEGIN
                have hvy1 : (z.var != 0) = true := by rw [bne_iff_ne]; exact hvy
                have HST : Hid (pairStepR (subB (B.map (·.1))) k x z = bindStepR (subB (B.map (·.1))) z.var x k) := Lib.hid (pairStepR_y hv0 hvy)
                have HVX : Hid (z.var ≠ 0) := Lib.hid hvy
                have HNV : Hid (x.var ≠ z.var) := Lib.hid (by rw [hv0]; exact fun e => hvy e.symm)
                have HFXX := HFY; have HFZ := HFX; have HEZ := HEX; have HEX2 := HEY
                have HOK : Hid (∀ b, ok b → b < wX.heap.size) := Lib.hid (fun b hb => (S1.out.okb b hb).1)
                have HNX := Lib.hid hne2
                clear hv hvy hv0 HPD
                obtain ⟨wo, rfl⟩ : ∃ wo : World, wo = wc := ⟨_, rfl⟩
                go_upto_region 10 with fail
                go_cut [] (fun wy => Mid wX ok bx bz z x a2' a1' c2' c1' wy)
                case first =>
                  go_wp2_with fail
                  go_meet
                  exact HMID.out.swap HNX.out HBX.out.1 HBX.out.2 HOK.out
                case rest =>
                have HMD := Lib.hid hcut
                have SD := Lib.hid (S1.out.keep hcut.below)
                have TD := Lib.hid (T1.out.trans (Touch.below (M := StRG rs g) hcut.below))
                have TRD := Lib.hid ((TX.out.mono (M' := StRG rs g) fun _ _ e => .inl e).trans (Touch.below hcut.below))
                have HPD := Lib.hid (HPT.out.keep hcut.below.size fun b _ hb => hcut.below.block b hb)
                clear hcut q0 q1 q2 qf p0 p1 p2 pf hsz1 hsz2 hv1 hv2
                have HW := Lib.hid (WithinW (f := k) (by omega) SD.out HR.out.fb (v := z.var) HVX.out HMD.out.fy HMD.out.ty HFZ.out)
                have hq0 := HMD.out.bx.c0; have hq1 := HMD.out.bx.c1; have hq2 := HMD.out.bx.c2
                have hp0 := HMD.out.bz.c0; have hp1 := HMD.out.bz.c1; have hp2 := HMD.out.bz.c2
                have hxn : (z.var != 0) = true := by rw [bne_iff_ne]; exact HVX.out
                have HLE := Lib.hid (within_le (subB (B.map (·.1))) z.var k [x])
                have HBS : Hid (pairStepR (subB (B.map (·.1))) k x z = match within (subB (B.map (·.1))) z.var k [x] with | .yes f' => .done (.no (subB (B.map (·.1))) [] f') | .many => .done (.many (subB (B.map (·.1))) []) | .no f' => .go (upd (subB (B.map (·.1))) z.var x) [] (min f' k) []) := Lib.hid HST.out
                generalize within (subB (B.map (·.1))) z.var k [x] = oo at *
                cases oo with
                | yes f' =>
                  go_wp2_with (go_at_call 105; refine HW.out.mono ?_; rintro e w4 ⟨ht4, rfl, hs4⟩; have HT4 := Lib.hid ht4; have HS4 := Lib.hid hs4; clear ht4 hs4)
                  go_ret
                  rw [HMS.out.1 _ HBS.out]
                  exact ⟨TD.out.trans (HT4.out.mono fun _ _ e => .inl e), B, HR.out.bl, HR.out.fb, rfl, HS4.out, rfl⟩
                | many =>
                  go_wp2_with (go_at_call 105; refine HW.out.mono ?_; rintro e w4 ⟨ht4, rfl, hs4⟩; have HT4 := Lib.hid ht4; have HS4 := Lib.hid hs4; clear ht4 hs4)
                  go_ret
                  rw [HMS.out.1 _ HBS.out]
                  exact ⟨TD.out.trans (HT4.out.mono fun _ _ e => .inl e), B, HR.out.bl, HR.out.fb, rfl, HS4.out, rfl⟩
                | no f' =>
                  have hle : f' ≤ k := HLE.out.2 f' rfl
                  obtain ⟨i, hi⟩ : ∃ i : Nat, (i : Int) = z.var := ⟨z.var.toNat, by have := HFXX.out.pos; omega⟩
                  have hin : z.var.toNat = i := by omega
                  have hilt : i < B.length := by have := HFXX.out.pos; omega
                  have hi0 : (0 : Int) ≤ z.var := by omega
                  have hi1 : z.var < (B.length : Int) := by omega
                  have HNE : Hid (bx ≠ rs ∧ bz ≠ rs ∧ bx ≠ g ∧ bz ≠ g) := Lib.hid (by have := HBX.out; have := S1.out.lt; omega)
                  have HTX : Hid (Touch (StR rs) wc wc) := Lib.hid (Touch.refl _ _)
                  go_wp2_with (go_at_call 105; refine HW.out.mono ?_; rintro e w4 ⟨ht4, rfl, hs4⟩; have hb4 := HMD.out.bx.keep (ht4.block _ HMD.out.bx.lt HNE.out.1); have hz4 := HMD.out.bz.keep (ht4.block _ HMD.out.bz.lt HNE.out.2.1); have k0 := hb4.c0; have z0 := hz4.c0; have z1 := hz4.c1; have z2 := hz4.c2; have c4 := hs4.cells.1; have fg := hs4.cells.2.2.2; obtain ⟨e0, e1, e2, -, -⟩ := hs4.elem i hilt; have HT4 := Lib.hid ht4; have HS4 := Lib.hid hs4; clear ht4 hs4 hb4 hz4)
                  go_region
                  all_goals
                    go_wp2_with fail
                    go_roundg f'
                    case measure => omega
                    case rel => exact ⟨_, _, HR.out.bound H.out.lt TRD.out HT4.out HS4.out hle hi hilt HVX.out HEX2.out HFZ.out HEZ.out HNV.out HMD.out.fy HMD.out.ty (fun b hb => (S1.out.okb b hb).2.1) (HMS.out.2 _ _ _ _ HBS.out) HPD.out⟩
                -- FIRST-END
              · have hz0 : z.var = 0 := Decidable.of_not_not hvy
                have hz1 : (z.var != 0) = false := by rw [hz0]; rfl
                by_cases hm : x.name ≠ z.name ∨ x.args.length ≠ z.args.length
                · have HO := Lib.hid (HMS.out.1 _ (pairStepR_no hv0 hz0 hm))
                  have h3 := name_or hm
                  clear hv hvy hm hv0 hz0
                  rcases h3 with h3 | ⟨h3, h4⟩
                  all_goals
                    go_wp2_with fail
                    go_ret
                    rw [HO.out]
                    exact ⟨T2.out, B, HR.out.bl, HR.out.fb, rfl, S2.out, rfl⟩
                · have HST := Lib.hid (HMS.out.2 _ _ _ _ (pairStepR_args hv0 hz0 hm))
                  have hnm : x.name.toList = z.name.toList := by rw [show x.name = z.name from Decidable.of_not_not fun h => hm (.inl h)]
                  have hln : x.args.length = z.args.length := Decidable.of_not_not fun h => hm (.inr h)
                  have h3 : ((x.args.length : Int) != (z.args.length : Int)) = false := by rw [hln]; simp
                  have HLN := Lib.hid hln
                  have HFA : Hid (∀ b, ok b → b < wc.heap.size) := Lib.hid (fun b hb => (S2.out.okb b hb).1)
                  clear hv hvy hm hv0 hz0 hln
                  obtain ⟨wo, rfl⟩ : ∃ wo : World, wo = wc := ⟨_, rfl⟩
                  obtain ⟨wq, rfl⟩ : ∃ wq : World, wq = wr := ⟨_, rfl⟩
                  go_wp2_with fail
                  go_loopw [11, 12] (fun v11 v12 wr2 => ∃ (i : Nat) (L2 : List (TmAt × TmAt)), i ≤ x.args.length ∧ v12 = .int .i64 i ∧ MoreRel wo ok x.args z.args i L2 v11 wr2) (fun _ v12 _ => x.args.length - (intOf v12).toNat)
                  case atStart => exact ⟨0, [], Nat.zero_le _, rfl, ⟨rfl, rfl, World.ownsRow_nil _ _ _ _, (fun p hp => by cases hp), Below.refl _ _⟩⟩
                  case round =>
                    obtain ⟨i, L2, hi, rfl, hmr⟩ := hrel
                    have HMR := Lib.hid hmr
                    have hbx2 := HMID.out.bx.below hmr.below; have hbz2 := HMID.out.bz.below hmr.below
                    have z2 := hbx2.c2; have w2 := hbz2.c2
                    have hxl : x.args.length ≤ 9223372036854775807 := by have := HMID.out.tx.cap; unfold maxLen at this; omega
                    clear hmr
                    by_cases hlt : i < x.args.length
                    · have hlt2 : i < z.args.length := by rw [← HLN.out]; exact hlt
                      obtain ⟨g1, o1, d1, e1, rfl, hok1, hs1, hc1, ht1⟩ := HMID.out.tx.at i hlt
                      obtain ⟨g2, o2, d2, e2, rfl, hok2, hs2, hc2, ht2⟩ := HMID.out.ty.at i hlt2
                      have m0 := (HMR.out.below.cell (p := ⟨g1, o1 + i * 3, none⟩) hs1).trans hc1.var
                      have m1 := (HMR.out.below.cell (p := ⟨g1, o1 + i * 3 + 1, none⟩) hs1).trans hc1.name
                      have m2 := (HMR.out.below.cell (p := ⟨g1, o1 + i * 3 + 2, none⟩) hs1).trans hc1.args
                      have n0 := (HMR.out.below.cell (p := ⟨g2, o2 + i * 3, none⟩) hs2).trans hc2.var
                      have n1 := (HMR.out.below.cell (p := ⟨g2, o2 + i * 3 + 1, none⟩) hs2).trans hc2.name
                      have n2 := (HMR.out.below.cell (p := ⟨g2, o2 + i * 3 + 2, none⟩) hs2).trans hc2.args
                      have hi0 : (0 : Int) ≤ (i : Int) := by omega
                      have hi1 : (i : Int) < (x.args.length : Int) := by omega
                      have hi2 : (i : Int) < (z.args.length : Int) := by omega
                      have HF1 := Lib.hid hc1.fits; have HF2 := Lib.hid hc2.fits; have HT1' := Lib.hid ht1; have HT2' := Lib.hid ht2
                      have KL : ∀ (b o : Nat) (v : Value), wo.cell? ⟨b, o, none⟩ = some v → ∀ u, Below wo.heap.size wo u → u.cell? ⟨b, o, none⟩ = some v := fun b o v h u hb => (hb.cell (World.block_lt_of_cell? wo _ h)).trans h
                      have KH : Hid (∀ u, Below wo.heap.size wo u → u.cell? ⟨bx, 2, none⟩ = some (.slice (some ⟨g1, o1, none⟩) x.args.length c1') ∧ u.cell? ⟨bz, 2, none⟩ = some (.slice (some ⟨g2, o2, none⟩) z.args.length c2') ∧
                          u.cell? ⟨g1, o1 + i * 3, none⟩ = some (.int .i64 x.args[i].var) ∧ u.cell? ⟨g1, o1 + i * 3 + 1, none⟩ = some (.string x.args[i].name) ∧ u.cell? ⟨g1, o1 + i * 3 + 2, none⟩ = some (.slice d1 x.args[i].args.length e1) ∧
                          u.cell? ⟨g2, o2 + i * 3, none⟩ = some (.int .i64 z.args[i].var) ∧ u.cell? ⟨g2, o2 + i * 3 + 1, none⟩ = some (.string z.args[i].name) ∧ u.cell? ⟨g2, o2 + i * 3 + 2, none⟩ = some (.slice d2 z.args[i].args.length e2) ∧ Below wo.heap.size wo u) :=
                        Lib.hid fun u hb => ⟨KL _ _ _ HMID.out.bx.c2 u hb, KL _ _ _ HMID.out.bz.c2 u hb, KL _ _ _ hc1.var u hb, KL _ _ _ hc1.name u hb, KL _ _ _ hc1.args u hb, KL _ _ _ hc2.var u hb, KL _ _ _ hc2.name u hb, KL _ _ _ hc2.args u hb, hb⟩
                      have HB := Lib.hid HMR.out.below
                      clear hc1 hc2 ht1 ht2 KL
                      obtain ⟨i0, zv, hi', hz0', hz1', hz2', hz3'⟩ := infoPr
                      have hil : i ≤ 100000 := by have := HFX.out.len; omega
                      have HOWN : Hid ((wr.alloc (.cells #[.int .i64 x.args[i].var, .string x.args[i].name, .slice d1 x.args[i].args.length e1, .int .i64 z.args[i].var, .string z.args[i].name, .slice d2 z.args[i].args.length e2] 162)).drew.ownsRow wo.heap.size 162 6 u11 L2.length (flat2 L2)) := Lib.hid (HMR.out.row.alloc _)
                      have HNW : Hid (∀ j u, (flat [(x.args[i], d1, e1), (z.args[i], d2, e2)])[j]? = some u → (wr.alloc (.cells #[.int .i64 x.args[i].var, .string x.args[i].name, .slice d1 x.args[i].args.length e1, .int .i64 z.args[i].var, .string z.args[i].name, .slice d2 z.args[i].args.length e2] 162)).drew.cell? ((⟨wr.heap.size, 0, none⟩ : Addr).add j) = some u) := Lib.hid (by
                        have ho := World.ownsRow_lit (base := wr.heap.size) (e := 162) (size := 6) wr #[.int .i64 x.args[i].var, .string x.args[i].name, .slice d1 x.args[i].args.length e1, .int .i64 z.args[i].var, .string z.args[i].name, .slice d2 z.args[i].args.length e2] 1 (Nat.le_refl _) (by unfold maxLen; omega) rfl
                        exact ho.cells (g := wr.heap.size) rfl)
                      have hLl := HMR.out.len
                      go_wp2_with fail
                      go_region_held3 (fun u => u.cell? ⟨bx, 2, none⟩ = some (.slice (some ⟨g1, o1, none⟩) x.args.length c1') ∧ u.cell? ⟨bz, 2, none⟩ = some (.slice (some ⟨g2, o2, none⟩) z.args.length c2') ∧
                          u.cell? ⟨g1, o1 + i * 3, none⟩ = some (.int .i64 x.args[i].var) ∧ u.cell? ⟨g1, o1 + i * 3 + 1, none⟩ = some (.string x.args[i].name) ∧ u.cell? ⟨g1, o1 + i * 3 + 2, none⟩ = some (.slice d1 x.args[i].args.length e1) ∧
                          u.cell? ⟨g2, o2 + i * 3, none⟩ = some (.int .i64 z.args[i].var) ∧ u.cell? ⟨g2, o2 + i * 3 + 1, none⟩ = some (.string z.args[i].name) ∧ u.cell? ⟨g2, o2 + i * 3 + 2, none⟩ = some (.slice d2 z.args[i].args.length e2) ∧ Below wo.heap.size wo u)
                        (first
                          | (with_reducible assumption)
                          | (with_reducible exact KH.out _ hbl1)
                          | ((with_reducible refine KH.out _ ?_); repeat' (first | (with_reducible assumption) | (with_reducible exact HB.out) | (with_reducible refine Below.alloc ?_ HB.out.size _) | (with_reducible refine Below.drew ?_))))
                        (first
                          | (refine step_append_opt _ (by rfl) _ _ _ (by rfl) wo.heap.size 162 i0 zv 6 96 Try.underlying163 hi' hz0' hz1' hz2' hz3' (by decide) u11 L2.length (flat2 L2) (by rfl) HOWN.out (some ⟨wr.heap.size, 0, none⟩) 1 1 (by intro h; cases h) (flat [(x.args[i], d1, e1), (z.args[i], d2, e2)]) (by rfl) (by rw [flat_length]; rfl) (by intro ad had; cases had; exact HNW.out) (flat_one _) (by unfold maxLen; omega) (by omega) (by have := HMR.out.below.size; simp; omega) ?_
                             intro v1 w1 hown1 hgrow1 hfr1
                             have hbl1 : Below wo.heap.size wo w1 := ((HB.out.alloc HB.out.size _).drew).grown hgrow1 (by have := HB.out.size; simp; omega) (fun gg hg => (HOWN.out.lt gg hg).1)))
                      all_goals
                        have hnx := Lib.hid (HMR.out.next HFA.out hlt hlt2 HF1.out HF2.out HT1'.out HT2'.out hown1 hgrow1 hbl1 (by have := hgrow1.size; simp at this; omega))
                        go_wp2_with fail
                        go_roundw
                        case rel => exact ⟨i + 1, _, by omega, by go_num, hnx.out⟩
                        case measure => simp [intOf]; omega
                    · obtain ⟨ap, cp, rfl, hcp⟩ := HPT.out.form
                      obtain ⟨hs1, hs2⟩ := HPT.out.src (Below.up HBL.out HMR.out.below HBL.out.size)
                      have HS1 := Lib.hid hs1; have HS2 := Lib.hid hs2
                      obtain ⟨i0, zv, hi', hz0', hz1', hz2', hz3'⟩ := infoPr
                      have hLl := HMR.out.len
                      have hil : i ≤ 100000 := by have := HFX.out.len; omega
                      have HOWN := Lib.hid HMR.out.row
                      have HM1 : Hid (meetR (subB (B0.map (·.1))) f [(s, t)] = meetR (subB (B.map (·.1))) k (L2.map (fun p => (p.1.1, p.2.1)) ++ R.map fun p => (p.1.1, p.2.1))) := Lib.hid (by
                        rw [HST.out, HMR.out.list, List.take_of_length_le (by rw [List.length_zip]; omega)])
                      clear hs1 hs2
                      go_wp2_with (at_builtin; refine wpList_append_opt _ rfl _ _ 163 rfl wo.heap.size 162 i0 zv 6 96 Try.underlying163 hi' hz0' hz1' hz2' hz3' (by decide) _ _ _ rfl HOWN.out ap R.length cp HS1.out (flat2 R) rfl (flat2_length R) HS2.out (flat2_one R) ?c1 ?c2 ?c3 ?_)
                      · unfold maxLen; omega
                      · omega
                      · exact HMR.out.below.size
                      · intro v1 w1 hown1 hgrow1 _
                        have hbl1 : Below wo.heap.size wo w1 := HMR.out.below.grown hgrow1 HMR.out.below.size (fun gg hg => (HOWN.out.lt gg hg).1)
                        have HB1 := Lib.hid hbl1; have HO1 := Lib.hid hown1; have HG1 := Lib.hid hgrow1
                        clear hbl1 hown1 hgrow1
                        go_wp2_with fail
                        go_roundg k
                        case measure => omega
                        case rel => exact ⟨B, L2 ++ R, HR.out.next (TR.out.trans (Touch.below HB1.out)) (S2.out.keep HB1.out) (Nat.le_refl _) HR.out.fb HR.out.bl HM1.out (HMR.out.after HFA.out HB1.out HG1.out.size) (HMR.out.fits HFX.out HFY.out HR.out.bl) (by omega) (PairsAt.of_row (L := L2 ++ R) (by
                          rw [List.length_append, HMR.out.len, flat2_append]
                          have hr := HO1.out
                          refine ⟨hr.1, hr.2.imp id ?_⟩
                          rintro ⟨gg, cc, cur, h1, h2, h3⟩
                          exact ⟨gg, cc, cur, h1, by have := HR.out.size; have := TR.out.size; omega, h3⟩))⟩

end Go.Proofs.Ytikmgiapjigghaa
