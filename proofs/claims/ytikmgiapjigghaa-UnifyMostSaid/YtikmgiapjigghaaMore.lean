/- Walks: more variables; a State to begin with. -/
import Derived.Test.YtikmgiapjigghaaMeetP
import Derived.Deep.RegionLaw
namespace Go.Proofs.Ytikmgiapjigghaa
open Go.RowKit

/-- A State in a world, whose list may be nil. -/
structure RAv (w : World) (ok : Nat → Prop) (rs : Nat) (v : Value) (B : List TmAt) (wk : Nat) : Prop where
  blk : w.heap[rs]? = some (.cells #[v, .int .i64 wk] 108 (0, 0))
  row : w.ownsRow 0 24 3 v B.length (flat B)
  each : TsEach w ok B
  ne : v.ownBlock ≠ some rs
  okb : ∀ b, ok b → b < w.heap.size ∧ b ≠ rs ∧ v.ownBlock ≠ some b

theorem RAv.lt {w : World} {ok : Nat → Prop} {rs : Nat} {v : Value} {B : List TmAt} {wk : Nat} (h : RAv w ok rs v B wk) : rs < w.heap.size := (Array.getElem?_eq_some_iff.1 h.blk).1

theorem RAt.toV {w : World} {ok : Nat → Prop} {rs g cap : Nat} {B : List TmAt} {wk : Nat} (h : RAt w ok rs g cap B wk) : RAv w ok rs (.slice (some ⟨g, 0, none⟩) B.length cap) B wk :=
  ⟨h.blk, h.row, h.each, fun e => by simp only [Value.ownBlock, Option.some.injEq] at e; exact h.ne e.symm, fun b hb => ⟨(h.okb b hb).1, (h.okb b hb).2.1, fun e => by simp only [Value.ownBlock, Option.some.injEq] at e; exact (h.okb b hb).2.2 e.symm⟩⟩

theorem RAv.toAt {w : World} {ok : Nat → Prop} {rs : Nat} {v : Value} {B : List TmAt} {wk : Nat} (h : RAv w ok rs v B wk) (hB : 1 ≤ B.length) : ∃ g cap, v = .slice (some ⟨g, 0, none⟩) B.length cap ∧ RAt w ok rs g cap B wk := by
  obtain ⟨g, cap, rfl⟩ := own_shape h.row hB
  exact ⟨g, cap, rfl, h.blk, h.row, h.each, fun e => h.ne (by rw [e]; rfl), fun b hb => ⟨(h.okb b hb).1, (h.okb b hb).2.1, fun e => (h.okb b hb).2.2 (by rw [e]; rfl)⟩⟩

theorem RAv.keep {w w' : World} {ok : Nat → Prop} {rs : Nat} {v : Value} {B : List TmAt} {wk : Nat} (h : RAv w ok rs v B wk) (hb : Below w.heap.size w w') : RAv w' ok rs v B wk :=
  ⟨(hb.block rs h.lt).trans h.blk, ownsRow_below h.row hb, h.each.keep (Keeps.below hb ok), h.ne, fun b hk => ⟨Nat.lt_of_lt_of_le (h.okb b hk).1 hb.size, (h.okb b hk).2⟩⟩

theorem RAv.cells {w : World} {ok : Nat → Prop} {rs : Nat} {v : Value} {B : List TmAt} {wk : Nat} (h : RAv w ok rs v B wk) :
    w.cell? ⟨rs, 0, none⟩ = some v ∧ w.cell? ⟨rs, 1, none⟩ = some (.int .i64 wk) ∧ (∀ o, w.frozen? ⟨rs, o, none⟩ = false) :=
  ⟨by simp [World.cell?, h.blk], by simp [World.cell?, h.blk], fun o => by simp [World.frozen?, h.blk]⟩

/-- The blocks that More writes. -/
abbrev StV (rs : Nat) (v : Value) : Nat → Prop := fun b => b = rs ∨ v.ownBlock = some b

/-- Variables that are nothing, from a number on. -/
def fresh (m n : Nat) : List TmAt := (List.range n).map fun i => (VarT ((m + i : Nat) : Int), none, 0)

theorem fresh_length (m n : Nat) : (fresh m n).length = n := by simp [fresh]
theorem fresh_succ (m n : Nat) : fresh m (n + 1) = fresh m n ++ [(VarT ((m + n : Nat) : Int), none, 0)] := by simp [fresh, List.range_succ]

/-- Behind the append of one variable, and the store of the new slice. -/
theorem RAv.push {w X w1 : World} {ok : Nat → Prop} {rs : Nat} {v v' : Value} {B : List TmAt} {wk : Nat} (h : RAv w ok rs v B wk) (hX : Below w.heap.size w X) (hg : X.grownBy w1 v.ownBlock) (hf : Fresh X v v') {t : Tm} (ht : t.fits) (hts : ∀ u, Ts u ok t.args none 0)
    {z : List Value} (ho : w1.ownsRow 0 24 3 v' (B.length + 1) (flat B ++ z)) {g cap : Nat} (hv : v' = .slice (some ⟨g, 0, none⟩) (B.length + 1) cap) (hz : z.length = 3) (harg : t.args = []) :
    (w1.heap[rs]? = some (.cells #[v, .int .i64 wk] 108 (0, 0))) ∧ g ≠ rs ∧
    RAv ((((w1.setCell ⟨g, B.length * 3, none⟩ (.int .i64 t.var)).setCell ⟨g, B.length * 3 + 1, none⟩ (.string t.name)).setCell ⟨g, B.length * 3 + 2, none⟩ (.slice none 0 0)).setCell ⟨rs, 0, none⟩ v') ok rs v' (B ++ [(t, none, 0)]) wk ∧
    Touch (StV rs v) w ((((w1.setCell ⟨g, B.length * 3, none⟩ (.int .i64 t.var)).setCell ⟨g, B.length * 3 + 1, none⟩ (.string t.name)).setCell ⟨g, B.length * 3 + 2, none⟩ (.slice none 0 0)).setCell ⟨rs, 0, none⟩ v') ∧ Fresh w v v' := by
  subst hv
  have hF : Fresh w v (.slice (some ⟨g, 0, none⟩) (B.length + 1) cap) := hf.old hX.size
  have hgb : v.ownBlock = some g ∨ w.heap.size ≤ g := by
    rcases hF with e | e
    · exact .inl e.symm
    · exact .inr (e g rfl)
  have hne : g ≠ rs := by
    rintro rfl
    rcases hgb with e | e
    · exact h.ne e
    · have := h.lt; omega
  have hb1 : w1.heap[rs]? = some (.cells #[v, .int .i64 wk] 108 (0, 0)) := (hg.block rs (by have := hX.size; have := h.lt; omega) (fun e => h.ne e.symm)).trans ((hX.block rs h.lt).trans h.blk)
  have hT1 : Touch (StV rs v) w w1 := (Touch.below hX).trans (Touch.grown hg fun k e => .inr e)
  have hT2 : Touch (fun b => b = g ∨ b = rs) w1 ((((w1.setCell ⟨g, B.length * 3, none⟩ (.int .i64 t.var)).setCell ⟨g, B.length * 3 + 1, none⟩ (.string t.name)).setCell ⟨g, B.length * 3 + 2, none⟩ (.slice none 0 0)).setCell ⟨rs, 0, none⟩ (.slice (some ⟨g, 0, none⟩) (B.length + 1) cap)) :=
    ⟨rfl, rfl, rfl, by simp [World.setCell], fun b' _ hn => by
      rw [Below.heap_setCell _ _ _ _ (fun e => hn (.inr e)), Below.heap_setCell _ _ _ _ (fun e => hn (.inl e)), Below.heap_setCell _ _ _ _ (fun e => hn (.inl e)), Below.heap_setCell _ _ _ _ (fun e => hn (.inl e))]⟩
  have hT : Touch (StV rs v) w ((((w1.setCell ⟨g, B.length * 3, none⟩ (.int .i64 t.var)).setCell ⟨g, B.length * 3 + 1, none⟩ (.string t.name)).setCell ⟨g, B.length * 3 + 2, none⟩ (.slice none 0 0)).setCell ⟨rs, 0, none⟩ (.slice (some ⟨g, 0, none⟩) (B.length + 1) cap)) := by
    refine ⟨hT2.os.trans hT1.os, hT2.tape.trans hT1.tape, hT2.output.trans hT1.output, Nat.le_trans hT1.size hT2.size, fun b hb hn => (hT2.block b (Nat.lt_of_lt_of_le hb hT1.size) ?_).trans (hT1.block b hb hn)⟩
    rintro (e | e)
    · rcases hgb with e2 | e2
      · exact hn (.inr (e ▸ e2))
      · omega
    · exact hn (.inl e)
  have hokg : ∀ b, ok b → b ≠ g := fun b hb e => by
    rcases hgb with e2 | e2
    · exact (h.okb b hb).2.2 (e ▸ e2)
    · have := (h.okb b hb).1; omega
  have hK : Keeps ok w _ := hT.keeps fun b hb hm => by
    rcases hm with e | e
    · exact (h.okb b hb).2.1 e
    · exact (h.okb b hb).2.2 e
  have hr := (((ho.stored (B.length * 3) (.int .i64 t.var)).1.stored (B.length * 3 + 1) (.string t.name)).1.stored (B.length * 3 + 2) (.slice none 0 0)).1
  refine ⟨hb1, hne, ⟨?_, ?_, ?_, fun e => hne (by simpa [Value.ownBlock] using e), fun b hb => ⟨Nat.lt_of_lt_of_le (h.okb b hb).1 hT.size, (h.okb b hb).2.1, fun e => hokg b hb (by simpa [Value.ownBlock] using e.symm)⟩⟩, hT, hF⟩
  · have h3 : (((w1.setCell ⟨g, B.length * 3, none⟩ (.int .i64 t.var)).setCell ⟨g, B.length * 3 + 1, none⟩ (.string t.name)).setCell ⟨g, B.length * 3 + 2, none⟩ (.slice none 0 0)).heap[rs]? = some (.cells #[v, .int .i64 wk] 108 (0, 0)) := by
      rw [Below.heap_setCell _ _ _ _ (fun e => hne e.symm), Below.heap_setCell _ _ _ _ (fun e => hne e.symm), Below.heap_setCell _ _ _ _ (fun e => hne e.symm)]; exact hb1
    rw [heap_setCell_at _ _ _ _ h3]; rfl
  · rw [List.length_append, flat_append]
    refine ownsRow_block (w := ((w1.setCell ⟨g, B.length * 3, none⟩ (.int .i64 t.var)).setCell ⟨g, B.length * 3 + 1, none⟩ (.string t.name)).setCell ⟨g, B.length * 3 + 2, none⟩ (.slice none 0 0)) ?_ (fun g' hg' => ?_)
    · match z, hz with
      | [z0, z1, z2], _ =>
        have e : (((flat B ++ [z0, z1, z2]).set (B.length * 3) (.int .i64 t.var)).set (B.length * 3 + 1) (.string t.name)).set (B.length * 3 + 2) (.slice none 0 0) = flat B ++ flat [(t, none, 0)] := by
          have hl := flat_length B
          rw [← hl, List.set_append_right _ _ (Nat.le_refl _), List.set_append_right _ _ (by omega), List.set_append_right _ _ (by omega)]
          simp [flat, harg]
        rw [e] at hr
        exact hr
    · simp only [Value.ownBlock, Option.some.injEq] at hg'
      subst hg'
      exact Below.heap_setCell _ _ _ _ hne
  · exact (h.each.keep hK).append (TsEach.one ht (hts _))

theorem setCell_comm (w : World) (a b : Addr) (u v : Value) (h : a.block ≠ b.block) : (w.setCell a u).setCell b v = (w.setCell b v).setCell a u := by
  have e : ((w.setCell a u).setCell b v).heap = ((w.setCell b v).setCell a u).heap := by
    apply Array.ext_getElem?
    intro i
    simp only [World.setCell, Array.getElem?_modify]
    by_cases h1 : b.block = i
    · have h2 : ¬ a.block = i := fun e => h (e.trans h1.symm)
      simp only [h1, h2, if_true, if_false]
    · simp only [h1, if_false]
  have : ∀ x y : World, x.heap = y.heap → x.tape = y.tape → x.drawn = y.drawn → x.os = y.os → x.output = y.output → x = y := by
    rintro ⟨⟩ ⟨⟩ h1 h2 h3 h4 h5; simp only at h1 h2 h3 h4 h5; subst h1; subst h2; subst h3; subst h4; subst h5; rfl
  exact this _ _ e rfl rfl rfl rfl

theorem put_before (w : World) {rs g : Nat} (h : rs ≠ g) (o1 o2 o3 o : Nat) (x a b c : Value) : (((w.setCell ⟨rs, o, none⟩ x).setCell ⟨g, o1, none⟩ a).setCell ⟨g, o2, none⟩ b).setCell ⟨g, o3, none⟩ c = (((w.setCell ⟨g, o1, none⟩ a).setCell ⟨g, o2, none⟩ b).setCell ⟨g, o3, none⟩ c).setCell ⟨rs, o, none⟩ x := by
  rw [setCell_comm w ⟨rs, o, none⟩ ⟨g, o1, none⟩ x a h, setCell_comm _ ⟨rs, o, none⟩ ⟨g, o2, none⟩ x b h, setCell_comm _ ⟨rs, o, none⟩ ⟨g, o3, none⟩ x c h]

theorem Touch.fresh' {w wr w' : World} {rs : Nat} {v vi : Value} (h1 : Touch (StV rs v) w wr) (hf : Fresh w v vi) (h2 : Touch (StV rs vi) wr w') : Touch (StV rs v) w w' := by
  refine ⟨h2.os.trans h1.os, h2.tape.trans h1.tape, h2.output.trans h1.output, Nat.le_trans h1.size h2.size, fun b hb hn => ?_⟩
  refine (h2.block b (Nat.lt_of_lt_of_le hb h1.size) (fun hm => hn ?_)).trans (h1.block b hb hn)
  rcases hm with e | e
  · exact .inl e
  · rcases hf with e2 | e2
    · exact .inr (e2 ▸ e)
    · have := e2 b e; omega

theorem varT_fits {v : Int} (h : I64 v) : (VarT v).fits := ⟨h, Nat.zero_le _⟩

set_option maxRecDepth 100000 in
set_option maxHeartbeats 2000000 in
theorem MoreW {w : World} {ok : Nat → Prop} {rs : Nat} {v : Value} {B : List TmAt} {wk : Nat} (h : RAv w ok rs v B wk) {n : Nat} (hn : n ≤ 1000) (hB : B.length ≤ 1000000) :
    Calls Try.prog 104 #[.pointer (some ⟨rs, 0, none⟩), .int .i64 n] w fun e w' => e = .returned (.int .i64 B.length) ∧ ∃ v', RAv w' ok rs v' (B ++ fresh B.length n) wk ∧ Touch (StV rs v) w w' ∧ Fresh w v v' := by
  have H := Lib.hid h
  obtain ⟨c0, c1, cf⟩ := h.cells
  obtain ⟨va, vc, hv⟩ : ∃ va vc, v = .slice va B.length vc := by
    rcases h.row.2 with ⟨e, e2⟩ | ⟨g, cap, cur, e, _⟩
    · exact ⟨none, 0, by rw [e2]; exact e⟩
    · exact ⟨_, _, e⟩
  have HV := Lib.hid hv
  rw [hv] at c0
  clear h hv
  go_enter Try.func104, Try.ntmps104
  go_wp2_with fail
  clear c0 c1 cf
  go_loopw [6] (fun x wr => ∃ (i : Nat) (vi : Value), i ≤ n ∧ x = .int .i64 i ∧ RAv wr ok rs vi (B ++ fresh B.length i) wk ∧ Touch (StV rs v) w wr ∧ Fresh w v vi) (fun x _ => n - (intOf x).toNat)
  case atStart => exact ⟨0, v, Nat.zero_le _, rfl, by simpa [fresh] using H.out, Touch.refl _ _, .inl rfl⟩
  case round =>
    obtain ⟨i, vi, hi, rfl, hst, htc, hfr⟩ := hrel
    have HS := Lib.hid hst; have HT := Lib.hid htc; have HF := Lib.hid hfr
    obtain ⟨c0, c1, cf⟩ := hst.cells
    clear hst htc hfr
    by_cases hlt : i < n
    · have hlen : (B ++ fresh B.length i).length = B.length + i := by rw [List.length_append, fresh_length]
      have HNX : Hid (B ++ fresh B.length (i + 1) = (B ++ fresh B.length i) ++ [(VarT ((B.length : Int) + (i : Int)), none, 0)]) := Lib.hid (by
        rw [fresh_succ, List.append_assoc, Int.natCast_add])
      generalize B ++ fresh B.length i = C at *
      obtain ⟨va, vc, hvi⟩ : ∃ va vc, vi = .slice va C.length vc := by
        rcases HS.out.row.2 with ⟨e, e2⟩ | ⟨g, cap, cur, e, _⟩
        · exact ⟨none, 0, by rw [e2]; exact e⟩
        · exact ⟨_, _, e⟩
      subst hvi
      obtain ⟨i0, hi', hz0, hz1, hz2⟩ := info_parts Try.infoTm
      have hC : C.length ≤ 2000000 := by omega
      have hC0 : (0 : Int) ≤ (C.length : Int) := by omega
      have hC1 : (C.length : Int) < (C.length : Int) + 1 := by omega
      have HC := Lib.hid hlen
      have hrsl := HS.out.lt
      have HOWN : Hid ((wr.alloc (.cells #[.int .i64 0, .string ⟨#[]⟩, .slice none 0 0] 24)).drew.ownsRow 0 24 3 (.slice va C.length vc) C.length (flat C)) := Lib.hid (HS.out.row.alloc _)
      have HNW : Hid (∀ j u, ([.int .i64 0, .string ⟨#[]⟩, .slice none 0 0] : List Value)[j]? = some u → (wr.alloc (.cells #[.int .i64 0, .string ⟨#[]⟩, .slice none 0 0] 24)).drew.cell? ((⟨wr.heap.size, 0, none⟩ : Addr).add j) = some u) := Lib.hid (by
        have ho := World.ownsRow_lit (base := wr.heap.size) (e := 24) (size := 3) wr #[.int .i64 0, .string ⟨#[]⟩, .slice none 0 0] 1 (Nat.le_refl _) (by unfold maxLen; omega) rfl
        exact ho.cells (g := wr.heap.size) rfl)
      have HBX : Hid (Below wr.heap.size wr (wr.alloc (.cells #[.int .i64 0, .string ⟨#[]⟩, .slice none 0 0] 24)).drew) := Lib.hid ((Below.refl _ _).alloc (Nat.le_refl _) _).drew
      have HTF : Hid ((VarT ((B.length : Int) + (i : Int))).fits) := Lib.hid (varT_fits (by unfold I64; omega))
      clear hlen
      go_wp2_with fail
      go_region_law ((refine step_append_opt _ (by rfl) _ _ _ (by rfl) 0 24 i0 _ 3 48 Try.underlying22 hi' hz0 hz1 hz2 rfl (by decide) (.slice va C.length vc) C.length (flat C) (by rfl) HOWN.out (some ⟨wr.heap.size, 0, none⟩) 1 1 (by intro h; cases h) [.int .i64 0, .string ⟨#[]⟩, .slice none 0 0] (by rfl) rfl (by intro ad had; cases had; exact HNW.out) (by intro u hu; simp only [List.mem_cons, List.not_mem_nil, or_false] at hu; rcases hu with rfl | rfl | rfl <;> rfl) (by unfold maxLen; omega) (by omega) (Nat.zero_le _) ?_
                      intro v1 w1 hown1 hgrow1 hfr1
                      obtain ⟨g1, cap1, rfl⟩ := own_shape hown1 (by omega)
                      have HP := Lib.hid (HS.out.push HBX.out hgrow1 hfr1 HTF.out (fun u => Ts.empty' u ok) hown1 rfl rfl rfl)
                      have k0 : w1.cell? ⟨rs, 0, none⟩ = some (.slice va C.length vc) := by simp [World.cell?, HP.out.1]
                      have kf : ∀ o, w1.frozen? ⟨rs, o, none⟩ = false := fun o => by simp [World.frozen?, HP.out.1]
                      have kn : g1 ≠ rs := HP.out.2.1
                      have kn' : rs ≠ g1 := fun e => kn e.symm
                      have e0 : w1.cell? ⟨g1, C.length * 3, none⟩ = some (.int .i64 0) := by rw [hown1.cellAt _ (by omega), List.getElem?_append_right (by rw [flat_length]; omega), flat_length]; simp
                      have e1 : w1.cell? ⟨g1, C.length * 3 + 1, none⟩ = some (.string ⟨#[]⟩) := by rw [hown1.cellAt _ (by omega), List.getElem?_append_right (by rw [flat_length]; omega), flat_length]; simp
                      have e2 : w1.cell? ⟨g1, C.length * 3 + 2, none⟩ = some (.slice none 0 0) := by rw [hown1.cellAt _ (by omega), List.getElem?_append_right (by rw [flat_length]; omega), flat_length]; simp
                      have ef : ∀ o, w1.frozen? ⟨g1, o, none⟩ = false := fun o => hown1.frozenAt o
                      clear hown1 hgrow1 hfr1))
      all_goals
        go_wp2_with fail
        go_roundw
        case measure => simp [intOf]; omega
        case rel =>
          first
            | exact ⟨i + 1, _, by omega, by go_num, by rw [HNX.out]; exact HP.out.2.2.1, HT.out.fresh' HF.out HP.out.2.2.2.1, HF.out.trans HP.out.2.2.2.2 HT.out.size⟩
            | (rw [put_before _ kn']; exact ⟨i + 1, _, by omega, by go_num, by rw [HNX.out]; exact HP.out.2.2.1, HT.out.fresh' HF.out HP.out.2.2.2.1, HF.out.trans HP.out.2.2.2.2 HT.out.size⟩)
    · have : i = n := by omega
      subst this
      have hd : i ≤ i := Nat.le_refl _
      go_wp2_with fail
      go_ret
      exact ⟨rfl, vi, HS.out, HT.out, HF.out⟩

/-- The State that Begin hands back, stored in a block. -/
def BeginPost (w : World) (ok : Nat → Prop) (e : Ending) (w' : World) : Prop :=
  ∃ g cap, e = .returned (.agg #[.slice (some ⟨g, 0, none⟩) 13 cap, .int .i64 0]) ∧ w.heap.size ≤ g ∧ w'.ownsRow 0 24 3 (.slice (some ⟨g, 0, none⟩) 13 cap) 13 (flat (fresh 0 13)) ∧ TsEach w' ok (fresh 0 13) ∧ Below w.heap.size w w'

set_option maxRecDepth 100000 in
set_option maxHeartbeats 2000000 in
theorem BeginW (w : World) (ok : Nat → Prop) (hok : ∀ b, ok b → b < w.heap.size) : Calls Try.prog 69 #[] w (BeginPost w ok) := by
  have HOK := Lib.hid hok
  clear hok
  have B0 : Below w.heap.size w ((w.alloc (.cells #[.slice none 0 0, .int .i64 0] 108)).alloc (.cells #[.slice none 0 0, .int .i64 0] 108)) := ((Below.refl _ _).alloc (Nat.le_refl _) _).alloc (by simp) _
  have HB0 := Lib.hid B0
  have HV : Hid (RAv ((w.alloc (.cells #[.slice none 0 0, .int .i64 0] 108)).alloc (.cells #[.slice none 0 0, .int .i64 0] 108)) ok (w.heap.size + 1) (.slice none 0 0) [] 0) := Lib.hid (by
    refine ⟨?_, World.ownsRow_nil _ _ _ _, TsEach.nil _ _, by simp [Value.ownBlock], fun b hb => ⟨by have := HOK.out b hb; simp; omega, by have := HOK.out b hb; omega, by simp [Value.ownBlock]⟩⟩
    have := heap_alloc_new (w.alloc (.cells #[.slice none 0 0, .int .i64 0] 108)) (.cells #[.slice none 0 0, .int .i64 0] 108)
    simpa using this)
  have h0 : ((w.alloc (.cells #[.slice none 0 0, .int .i64 0] 108)).alloc (.cells #[.slice none 0 0, .int .i64 0] 108)).heap[w.heap.size]? = some (.cells #[.slice none 0 0, .int .i64 0] 108 (0, 0)) := by
    rw [Below.heap_alloc _ _ _ (by simp)]; exact heap_alloc_new w _
  have H0 := Lib.hid h0
  clear B0 h0
  go_enter Try.func69, Try.ntmps69
  go_wp2_with fail
  refine (MoreW HV.out (n := 13) (by omega) (by simp)).mono ?_
  rintro e w1 ⟨rfl, v', hr, ht, hf⟩
  obtain ⟨g, cap, rfl⟩ := own_shape hr.row (by simp [fresh_length])
  have hlen : ([] ++ fresh ([] : List TmAt).length 13).length = 13 := by simp [fresh_length]
  have HR := Lib.hid hr; have HT := Lib.hid ht; have HF := Lib.hid hf
  obtain ⟨c0, c1, cf⟩ := hr.cells
  rw [hlen] at c0
  have h1 : w1.heap[w.heap.size]? = some (.cells #[.slice none 0 0, .int .i64 0] 108 (0, 0)) := (ht.block _ (by simp; omega) (fun hm => by rcases hm with e | e <;> simp [Value.ownBlock] at e)).trans H0.out
  have d0 : w1.cell? ⟨w.heap.size, 0, none⟩ = some (.slice none 0 0) := by simp [World.cell?, h1]
  have d1 : w1.cell? ⟨w.heap.size, 1, none⟩ = some (.int .i64 0) := by simp [World.cell?, h1]
  have df : ∀ o, w1.frozen? ⟨w.heap.size, o, none⟩ = false := fun o => by simp [World.frozen?, h1]
  have H1 := Lib.hid h1
  clear hr ht hf h1
  go_wp2_with fail
  have hg : w.heap.size + 2 ≤ g := by
    rcases HF.out with e | e
    · simp [Value.ownBlock] at e
    · have := e g rfl; simp at this; omega
  have hb1 : Below w.heap.size w w1 := by
    have := HT.out.toBelow (B := w.heap.size) (by simp; omega) (fun b hb => by
      rcases hb with e | e
      · omega
      · simp [Value.ownBlock] at e)
    exact HB0.out.trans this
  have hb2 : Below w.heap.size w ((w1.setCell ⟨w.heap.size, 0, none⟩ (.slice (some ⟨g, 0, none⟩) 13 cap)).setCell ⟨w.heap.size, 1, none⟩ (.int .i64 0)) := (hb1.setCell (Nat.le_refl _) _).setCell (Nat.le_refl _) _
  exact bodyPost_ret (v := .agg #[.slice (some ⟨g, 0, none⟩) 13 cap, .int .i64 0]) (by simp [results, Try.results69, go_sem, d0, d1]) rfl
    ⟨g, cap, rfl, by omega, by
      have hr := HR.out.row
      rw [hlen] at hr
      exact ownsRow_block hr (fun g' hg' => by
        simp only [Value.ownBlock, Option.some.injEq] at hg'; subst hg'
        rw [Below.heap_setCell _ _ _ _ (by simp; omega), Below.heap_setCell _ _ _ _ (by simp; omega)]),
      HR.out.each.keep ⟨by simp [World.setCell], fun b hb _ => by
        have := HOK.out b hb
        rw [Below.heap_setCell _ _ _ _ (by simp; omega), Below.heap_setCell _ _ _ _ (by simp; omega)]⟩, hb2⟩

end Go.Proofs.Ytikmgiapjigghaa
