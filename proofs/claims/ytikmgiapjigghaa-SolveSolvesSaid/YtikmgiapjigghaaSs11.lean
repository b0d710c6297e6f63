/- Walks: more variables; a State to begin with. -/
import Derived.Deep.RegionLaw
import Derived.Test.YtikmgiapjigghaaSs07
import Derived.Test.YtikmgiapjigghaaSs10
namespace Go.Proofs.Ytikmgiapjigghaa
open Go.RowKit

/-- A State in a world, whose list may be nil. -/
structure RAv (w : World) (ok : Nat → Prop) (rs : Nat) (v : Value) (B : List TmAt) (wk : Nat) : Prop where
  blk : w.heap[rs]? = some (.cells #[v, .int .i64 wk] 108 (0, 0))
  row : w.ownsRow 0 24 3 v B.length (flat B)
  each : TsEach w ok B
  ne : v.ownBlock ≠ some rs
  okb : ∀ b, ok b → b < w.heap.size ∧ b ≠ rs ∧ v.ownBlock ≠ some b

theorem RAv.lt {w : World} {ok : Nat → Prop} {rs : Nat} {v : Value} {B : List TmAt} {wk : Nat} (h : RAv w ok rs v B wk) : rs < w.heap.size := (Array.getElem?_eq_some_iff.1 h.blk).1

theorem RAt.toV {w : World} {ok : Nat → Prop} {rs g cap : Nat} {B : List TmAt} {wk : Nat} (h : RAt w ok rs g cap B wk) : RAv w ok rs (.slice (some ⟨g, 0, none⟩) B.length cap) B wk :=
  ⟨h.blk, h.row, h.each, fun e => by simp only [Value.ownBlock, Option.some.injEq] at e; exact h.ne e.symm, fun b hb => ⟨(h.okb b hb).1, (h.okb b hb).2.1, fun e => by simp only [Value.ownBlock, Option.some.injEq] at e; exact (h.okb b hb).2.2 e.symm⟩⟩

theorem RAv.toAt {w : World} {ok : Nat → Prop} {rs : Nat} {v : Value} {B : List TmAt} {wk : Nat} (h : RAv w ok rs v B wk) (hB : 1 ≤ B.length) : ∃ g cap, v = .slice (some ⟨g, 0, none⟩) B.length cap ∧ RAt w ok rs g cap B wk := by
  obtain ⟨g, cap, rfl⟩ := own_shape h.row hB
  exact ⟨g, cap, rfl, h.blk, h.row, h.each, fun e => h.ne (by rw [e]; rfl), fun b hb => ⟨(h.okb b hb).1, (h.okb b hb).2.1, fun e => (h.okb b hb).2.2 (by rw [e]; rfl)⟩⟩

theorem RAv.keep {w w' : World} {ok : Nat → Prop} {rs : Nat} {v : Value} {B : List TmAt} {wk : Nat} (h : RAv w ok rs v B wk) (hb : Below w.heap.size w w') : RAv w' ok rs v B wk :=
  ⟨(hb.block rs h.lt).trans h.blk, ownsRow_below h.row hb, h.each.keep (Keeps.below hb ok), h.ne, fun b hk => ⟨Nat.lt_of_lt_of_le (h.okb b hk).1 hb.size, (h.okb b hk).2⟩⟩

theorem RAv.cells {w : World} {ok : Nat → Prop} {rs : Nat} {v : Value} {B : List TmAt} {wk : Nat} (h : RAv w ok rs v B wk) :
    w.cell? ⟨rs, 0, none⟩ = some v ∧ w.cell? ⟨rs, 1, none⟩ = some (.int .i64 wk) ∧ (∀ o, w.frozen? ⟨rs, o, none⟩ = false) :=
  ⟨by simp [World.cell?, h.blk], by simp [World.cell?, h.blk], fun o => by simp [World.frozen?, h.blk]⟩

/-- The blocks that More writes. -/
abbrev StV (rs : Nat) (v : Value) : Nat → Prop := fun b => b = rs ∨ v.ownBlock = some b

/-- Variables that are nothing, from a number on. -/
def fresh (m n : Nat) : List TmAt := (List.range n).map fun i => (VarT ((m + i : Nat) : Int), none, 0)

theorem fresh_length (m n : Nat) : (fresh m n).length = n := by simp [fresh]
theorem fresh_succ (m n : Nat) : fresh m (n + 1) = fresh m n ++ [(VarT ((m + n : Nat) : Int), none, 0)] := by simp [fresh, List.range_succ]

/-- Behind the append of one variable, and the store of the new slice. -/
theorem RAv.push {w X w1 : World} {ok : Nat → Prop} {rs : Nat} {v v' : Value} {B : List TmAt} {wk : Nat} (h : RAv w ok rs v B wk) (hX : Below w.heap.size w X) (hg : X.grownBy w1 v.ownBlock) (hf : Fresh X v v') {t : Tm} (ht : t.fits) (hts : ∀ u, Ts u ok t.args none 0)
    {z : List Value} (ho : w1.ownsRow 0 24 3 v' (B.length + 1) (flat B ++ z)) {g cap : Nat} (hv : v' = .slice (some ⟨g, 0, none⟩) (B.length + 1) cap) (hz : z.length = 3) (harg : t.args = []) :
    (w1.heap[rs]? = some (.cells #[v, .int .i64 wk] 108 (0, 0))) ∧ g ≠ rs ∧
    RAv ((((w1.setCell ⟨g, B.length * 3, none⟩ (.int .i64 t.var)).setCell ⟨g, B.length * 3 + 1, none⟩ (.string t.name)).setCell ⟨g, B.length * 3 + 2, none⟩ (.slice none 0 0)).setCell ⟨rs, 0, none⟩ v') ok rs v' (B ++ [(t, none, 0)]) wk ∧
    Touch (StV rs v) w ((((w1.setCell ⟨g, B.length * 3, none⟩ (.int .i64 t.var)).setCell ⟨g, B.length * 3 + 1, none⟩ (.string t.name)).setCell ⟨g, B.length * 3 + 2, none⟩ (.slice none 0 0)).setCell ⟨rs, 0, none⟩ v') ∧ Fresh w v v' := by
  subst hv
  have hF : Fresh w v (.slice (some ⟨g, 0, none⟩) (B.length + 1) cap) := hf.old hX.size
  have hgb : v.ownBlock = some g ∨ w.heap.size ≤ g := by
    rcases hF with e | e
    · exact .inl e.symm
    · exact .inr (e g rfl)
  have hne : g ≠ rs := by
    rintro rfl
    rcases hgb with e | e
    · exact h.ne e
    · have := h.lt; omega
  have hb1 : w1.heap[rs]? = some (.cells #[v, .int .i64 wk] 108 (0, 0)) := (hg.block rs (by have := hX.size; have := h.lt; omega) (fun e => h.ne e.symm)).trans ((hX.block rs h.lt).trans h.blk)
  have hT1 : Touch (StV rs v) w w1 := (Touch.below hX).trans (Touch.grown hg fun k e => .inr e)
  have hT2 : Touch (fun b => b = g ∨ b = rs) w1 ((((w1.setCell ⟨g, B.length * 3, none⟩ (.int .i64 t.var)).setCell ⟨g, B.length * 3 + 1, none⟩ (.string t.name)).setCell ⟨g, B.length * 3 + 2, none⟩ (.slice none 0 0)).setCell ⟨rs, 0, none⟩ (.slice (some ⟨g, 0, none⟩) (B.length + 1) cap)) :=
    ⟨rfl, rfl, rfl, by simp [World.setCell], fun b' _ hn => by
      rw [Below.heap_setCell _ _ _ _ (fun e => hn (.inr e)), Below.heap_setCell _ _ _ _ (fun e => hn (.inl e)), Below.heap_setCell _ _ _ _ (fun e => hn (.inl e)), Below.heap_setCell _ _ _ _ (fun e => hn (.inl e))]⟩
  have hT : Touch (StV rs v) w ((((w1.setCell ⟨g, B.length * 3, none⟩ (.int .i64 t.var)).setCell ⟨g, B.length * 3 + 1, none⟩ (.string t.name)).setCell ⟨g, B.length * 3 + 2, none⟩ (.slice none 0 0)).setCell ⟨rs, 0, none⟩ (.slice (some ⟨g, 0, none⟩) (B.length + 1) cap)) := by
    refine ⟨hT2.os.trans hT1.os, hT2.tape.trans hT1.tape, hT2.output.trans hT1.output, Nat.le_trans hT1.size hT2.size, fun b hb hn => (hT2.block b (Nat.lt_of_lt_of_le hb hT1.size) ?_).trans (hT1.block b hb hn)⟩
    rintro (e | e)
    · rcases hgb with e2 | e2
      · exact hn (.inr (e ▸ e2))
      · omega
    · exact hn (.inl e)
  have hokg : ∀ b, ok b → b ≠ g := fun b hb e => by
    rcases hgb with e2 | e2
    · exact (h.okb b hb).2.2 (e ▸ e2)
    · have := (h.okb b hb).1; omega
  have hK : Keeps ok w _ := hT.keeps fun b hb hm => by
    rcases hm with e | e
    · exact (h.okb b hb).2.1 e
    · exact (h.okb b hb).2.2 e
  have hr := (((ho.stored (B.length * 3) (.int .i64 t.var)).1.stored (B.length * 3 + 1) (.string t.name)).1.stored (B.length * 3 + 2) (.slice none 0 0)).1
  refine ⟨hb1, hne, ⟨?_, ?_, ?_, fun e => hne (by simpa [Value.ownBlock] using e), fun b hb => ⟨Nat.lt_of_lt_of_le (h.okb b hb).1 hT.size, (h.okb b hb).2.1, fun e => hokg b hb (by simpa [Value.ownBlock] using e.symm)⟩⟩, hT, hF⟩
  · have h3 : (((w1.setCell ⟨g, B.length * 3, none⟩ (.int .i64 t.var)).setCell ⟨g, B.length * 3 + 1, none⟩ (.string t.name)).setCell ⟨g, B.length * 3 + 2, none⟩ (.slice none 0 0)).heap[rs]? = some (.cells #[v, .int .i64 wk] 108 (0, 0)) := by
      rw [Below.heap_setCell _ _ _ _ (fun e => hne e.symm), Below.heap_setCell _ _ _ _ (fun e => hne e.symm), Below.heap_setCell _ _ _ _ (fun e => hne e.symm)]; exact hb1
    rw [heap_setCell_at _ _ _ _ h3]; rfl
  · rw [List.length_append, flat_append]
    refine ownsRow_block (w := ((w1.setCell ⟨g, B.length * 3, none⟩ (.int .i64 t.var)).setCell ⟨g, B.length * 3 + 1, none⟩ (.string t.name)).setCell ⟨g, B.length * 3 + 2, none⟩ (.slice none 0 0)) ?_ (fun g' hg' => ?_)
    · match z, hz with
      | [z0, z1, z2], _ =>
        have e : (((flat B ++ [z0, z1, z2]).set (B.length * 3) (.int .i64 t.var)).set (B.length * 3 + 1) (.string t.name)).set (B.length * 3 + 2) (.slice none 0 0) = flat B ++ flat [(t, none, 0)] := by
          have hl := flat_length B
          rw [← hl, List.set_append_right _ _ (Nat.le_refl _), List.set_append_right _ _ (by omega), List.set_append_right _ _ (by omega)]
          simp [flat, harg]
        rw [e] at hr
        exact hr
    · simp only [Value.ownBlock, Option.some.injEq] at hg'
      subst hg'
      exact Below.heap_setCell _ _ _ _ hne
  · exact (h.each.keep hK).append (TsEach.one ht (hts _))

theorem setCell_comm (w : World) (a b : Addr) (u v : Value) (h : a.block ≠ b.block) : (w.setCell a u).setCell b v = (w.setCell b v).setCell a u := by
  have e : ((w.setCell a u).setCell b v).heap = ((w.setCell b v).setCell a u).heap := by
    apply Array.ext_getElem?
    intro i
    simp only [World.setCell, Array.getElem?_modify]
    by_cases h1 : b.block = i
    · have h2 : ¬ a.block = i := fun e => h (e.trans h1.symm)
      simp only [h1, h2, if_true, if_false]
    · simp only [h1, if_false]
  have : ∀ x y : World, x.heap = y.heap → x.tape = y.tape → x.drawn = y.drawn → x.os = y.os → x.output = y.output → x = y := by
    rintro ⟨⟩ ⟨⟩ h1 h2 h3 h4 h5; simp only at h1 h2 h3 h4 h5; subst h1; subst h2; subst h3; subst h4; subst h5; rfl
  exact this _ _ e rfl rfl rfl rfl

theorem put_before (w : World) {rs g : Nat} (h : rs ≠ g) (o1 o2 o3 o : Nat) (x a b c : Value) : (((w.setCell ⟨rs, o, none⟩ x).setCell ⟨g, o1, none⟩ a).setCell ⟨g, o2, none⟩ b).setCell ⟨g, o3, none⟩ c = (((w.setCell ⟨g, o1, none⟩ a).setCell ⟨g, o2, none⟩ b).setCell ⟨g, o3, none⟩ c).setCell ⟨rs, o, none⟩ x := by
  rw [setCell_comm w ⟨rs, o, none⟩ ⟨g, o1, none⟩ x a h, setCell_comm _ ⟨rs, o, none⟩ ⟨g, o2, none⟩ x b h, setCell_comm _ ⟨rs, o, none⟩ ⟨g, o3, none⟩ x c h]

theorem Touch.fresh' {w wr w' : World} {rs : Nat} {v vi : Value} (h1 : Touch (StV rs v) w wr) (hf : Fresh w v vi) (h2 : Touch (StV rs vi) wr w') : Touch (StV rs v) w w' := by
  refine ⟨h2.os.trans h1.os, h2.tape.trans h1.tape, h2.output.trans h1.output, Nat.le_trans h1.size h2.size, fun b hb hn => ?_⟩
  refine (h2.block b (Nat.lt_of_lt_of_le hb h1.size) (fun hm => hn ?_)).trans (h1.block b hb hn)
  rcases hm with e | e
  · exact .inl e
  · rcases hf with e2 | e2
    · exact .inr (e2 ▸ e)
    · have := e2 b e; omega

theorem varT_fits {v : Int} (h : I64 v) : (VarT v).fits := ⟨h, Nat.zero_le _⟩

set_option maxRecDepth 100000 in
set_option maxHeartbeats 2000000 in
theorem MoreW {w : World} {ok : Nat → Prop} {rs : Nat} {v : Value} {B : List TmAt} {wk : Nat} (h : RAv w ok rs v B wk) {n : Nat} (hn : n ≤ 1000) (hB : B.length ≤ 1000000) :
    Calls Try.prog 104 #[.pointer (some ⟨rs, 0, none⟩), .int .i64 n] w fun e w' => e = .returned (.int .i64 B.length) ∧ ∃ v', RAv w' ok rs v' (B ++ fresh B.length n) wk ∧ Touch (StV rs v) w w' ∧ Fresh w v v' := by
  have H := Lib.hid h
  obtain ⟨c0, c1, cf⟩ := h.cells
  obtain ⟨va, vc, hv⟩ : ∃ va vc, v = .slice va B.length vc := by
    rcases h.row.2 with ⟨e, e2⟩ | ⟨g, cap, cur, e, _⟩
    · exact ⟨none, 0, by rw [e2]; exact e⟩
    · exact ⟨_, _, e⟩
  have HV := Lib.hid hv
  rw [hv] at c0
  clear h hv
  go_enter Try.func104, Try.ntmps104
  go_wp2_with fail
  clear c0 c1 cf
  go_loopw [6] (fun x wr => ∃ (i : Nat) (vi : Value), i ≤ n ∧ x = .int .i64 i ∧ RAv wr ok rs vi (B ++ fresh B.length i) wk ∧ Touch (StV rs v) w wr ∧ Fresh w v vi) (fun x _ => n - (intOf x).toNat)
  case atStart => exact ⟨0, v, Nat.zero_le _, rfl, by simpa [fresh] using H.out, Touch.refl _ _, .inl rfl⟩
  case round =>
    obtain ⟨i, vi, hi, rfl, hst, htc, hfr⟩ := hrel
    have HS := Lib.hid hst; have HT := Lib.hid htc; have HF := Lib.hid hfr
    obtain ⟨c0, c1, cf⟩ := hst.cells
    clear hst htc hfr
    by_cases hlt : i < n
    · have hlen : (B ++ fresh B.length i).length = B.length + i := by rw [List.length_append, fresh_length]
      have HNX : Hid (B ++ fresh B.length (i + 1) = (B ++ fresh B.length i) ++ [(VarT ((B.length : Int) + (i : Int)), none, 0)]) := Lib.hid (by
        rw [fresh_succ, List.append_assoc, Int.natCast_add])
      generalize B ++ fresh B.length i = C at *
      obtain ⟨va, vc, hvi⟩ : ∃ va vc, vi = .slice va C.length vc := by
        rcases HS.out.row.2 with ⟨e, e2⟩ | ⟨g, cap, cur, e, _⟩
        · exact ⟨none, 0, by rw [e2]; exact e⟩
        · exact ⟨_, _, e⟩
      subst hvi
      obtain ⟨i0, hi', hz0, hz1, hz2⟩ := info_parts Try.infoTm
      have hC : C.length ≤ 2000000 := by omega
      have hC0 : (0 : Int) ≤ (C.length : Int) := by omega
      have hC1 : (C.length : Int) < (C.length : Int) + 1 := by omega
      have HC := Lib.hid hlen
      have hrsl := HS.out.lt
      have HOWN : Hid ((wr.alloc (.cells #[.int .i64 0, .string ⟨#[]⟩, .slice none 0 0] 24)).drew.ownsRow 0 24 3 (.slice va C.length vc) C.length (flat C)) := Lib.hid (HS.out.row.alloc _)
      have HNW : Hid (∀ j u, ([.int .i64 0, .string ⟨#[]⟩, .slice none 0 0] : List Value)[j]? = some u → (wr.alloc (.cells #[.int .i64 0, .string ⟨#[]⟩, .slice none 0 0] 24)).drew.cell? ((⟨wr.heap.size, 0, none⟩ : Addr).add j) = some u) := Lib.hid (by
        have ho := World.ownsRow_lit (base := wr.heap.size) (e := 24) (size := 3) wr #[.int .i64 0, .string ⟨#[]⟩, .slice none 0 0] 1 (Nat.le_refl _) (by unfold maxLen; omega) rfl
        exact ho.cells (g := wr.heap.size) rfl)
      have HBX : Hid (Below wr.heap.size wr (wr.alloc (.cells #[.int .i64 0, .string ⟨#[]⟩, .slice none 0 0] 24)).drew) := Lib.hid ((Below.refl _ _).alloc (Nat.le_refl _) _).drew
      have HTF : Hid ((VarT ((B.length : Int) + (i : Int))).fits) := Lib.hid (varT_fits (by unfold I64; omega))
      clear hlen
      go_wp2_with fail
      go_region_law ((refine step_append_opt _ (by rfl) _ _ _ (by rfl) 0 24 i0 _ 3 48 Try.underlying22 hi' hz0 hz1 hz2 rfl (by decide) (.slice va C.length vc) C.length (flat C) (by rfl) HOWN.out (some ⟨wr.heap.size, 0, none⟩) 1 1 (by intro h; cases h) [.int .i64 0, .string ⟨#[]⟩, .slice none 0 0] (by rfl) rfl (by intro ad had; cases had; exact HNW.out) (by intro u hu; simp only [List.mem_cons, List.not_mem_nil, or_false] at hu; rcases hu with rfl | rfl | rfl <;> rfl) (by unfold maxLen; omega) (by omega) (Nat.zero_le _) ?_
                      intro v1 w1 hown1 hgrow1 hfr1
                      obtain ⟨g1, cap1, rfl⟩ := own_shape hown1 (by omega)
                      have HP := Lib.hid (HS.out.push HBX.out hgrow1 hfr1 HTF.out (fun u => Ts.empty' u ok) hown1 rfl rfl rfl)
                      have k0 : w1.cell? ⟨rs, 0, none⟩ = some (.slice va C.length vc) := by simp [World.cell?, HP.out.1]
                      have kf : ∀ o, w1.frozen? ⟨rs, o, none⟩ = false := fun o => by simp [World.frozen?, HP.out.1]
                      have kn : g1 ≠ rs := HP.out.2.1
                      have kn' : rs ≠ g1 := fun e => kn e.symm
                      have e0 : w1.cell? ⟨g1, C.length * 3, none⟩ = some (.int .i64 0) := by rw [hown1.cellAt _ (by omega), List.getElem?_append_right (by rw [flat_length]; omega), flat_length]; simp
                      have e1 : w1.cell? ⟨g1, C.length * 3 + 1, none⟩ = some (.string ⟨#[]⟩) := by rw [hown1.cellAt _ (by omega), List.getElem?_append_right (by rw [flat_length]; omega), flat_length]; simp
                      have e2 : w1.cell? ⟨g1, C.length * 3 + 2, none⟩ = some (.slice none 0 0) := by rw [hown1.cellAt _ (by omega), List.getElem?_append_right (by rw [flat_length]; omega), flat_length]; simp
                      have ef : ∀ o, w1.frozen? ⟨g1, o, none⟩ = false := fun o => hown1.frozenAt o
                      clear hown1 hgrow1 hfr1))
      all_goals
        go_wp2_with fail
        go_roundw
        case measure => simp [intOf]; omega
        case rel =>
          first
            | exact ⟨i + 1, _, by omega, by go_num, by rw [HNX.out]; exact HP.out.2.2.1, HT.out.fresh' HF.out HP.out.2.2.2.1, HF.out.trans HP.out.2.2.2.2 HT.out.size⟩
            | (rw [put_before _ kn']; exact ⟨i + 1, _, by omega, by go_num, by rw [HNX.out]; exact HP.out.2.2.1, HT.out.fresh' HF.out HP.out.2.2.2.1, HF.out.trans HP.out.2.2.2.2 HT.out.size⟩)
    · have : i = n := by omega
      subst this
      have hd : i ≤ i := Nat.le_refl _
      go_wp2_with fail
      go_ret
      exact ⟨rfl, vi, HS.out, HT.out, HF.out⟩

/-- The State that Begin hands back, stored in a block. -/
def BeginPost (w : World) (ok : Nat → Prop) (e : Ending) (w' : World) : Prop :=
  ∃ g cap, e = .returned (.agg #[.slice (some ⟨g, 0, none⟩) 13 cap, .int .i64 0]) ∧ w.heap.size ≤ g ∧ w'.ownsRow 0 24 3 (.slice (some ⟨g, 0, none⟩) 13 cap) 13 (flat (fresh 0 13)) ∧ TsEach w' ok (fresh 0 13) ∧ Below w.heap.size w w'

set_option maxRecDepth 100000 in
set_option maxHeartbeats 2000000 in
theorem BeginW (w : World) (ok : Nat → Prop) (hok : ∀ b, ok b → b < w.heap.size) : Calls Try.prog 69 #[] w (BeginPost w ok) := by
  have HOK := Lib.hid hok
  clear hok
  have B0 : Below w.heap.size w ((w.alloc (.cells #[.slice none 0 0, .int .i64 0] 108)).alloc (.cells #[.slice none 0 0, .int .i64 0] 108)) := ((Below.refl _ _).alloc (Nat.le_refl _) _).alloc (by simp) _
  have HB0 := Lib.hid B0
  have HV : Hid (RAv ((w.alloc (.cells #[.slice none 0 0, .int .i64 0] 108)).alloc (.cells #[.slice none 0 0, .int .i64 0] 108)) ok (w.heap.size + 1) (.slice none 0 0) [] 0) := Lib.hid (by
    refine ⟨?_, World.ownsRow_nil _ _ _ _, TsEach.nil _ _, by simp [Value.ownBlock], fun b hb => ⟨by have := HOK.out b hb; simp; omega, by have := HOK.out b hb; omega, by simp [Value.ownBlock]⟩⟩
    have := heap_alloc_new (w.alloc (.cells #[.slice none 0 0, .int .i64 0] 108)) (.cells #[.slice none 0 0, .int .i64 0] 108)
    simpa using this)
  have h0 : ((w.alloc (.cells #[.slice none 0 0, .int .i64 0] 108)).alloc (.cells #[.slice none 0 0, .int .i64 0] 108)).heap[w.heap.size]? = some (.cells #[.slice none 0 0, .int .i64 0] 108 (0, 0)) := by
    rw [Below.heap_alloc _ _ _ (by simp)]; exact heap_alloc_new w _
  have H0 := Lib.hid h0
  clear B0 h0
  go_enter Try.func69, Try.ntmps69
  go_wp2_with fail
  refine (MoreW HV.out (n := 13) (by omega) (by simp)).mono ?_
  rintro e w1 ⟨rfl, v', hr, ht, hf⟩
  obtain ⟨g, cap, rfl⟩ := own_shape hr.row (by simp [fresh_length])
  have hlen : ([] ++ fresh ([] : List TmAt).length 13).length = 13 := by simp [fresh_length]
  have HR := Lib.hid hr; have HT := Lib.hid ht; have HF := Lib.hid hf
  obtain ⟨c0, c1, cf⟩ := hr.cells
  rw [hlen] at c0
  have h1 : w1.heap[w.heap.size]? = some (.cells #[.slice none 0 0, .int .i64 0] 108 (0, 0)) := (ht.block _ (by simp; omega) (fun hm => by rcases hm with e | e <;> simp [Value.ownBlock] at e)).trans H0.out
  have d0 : w1.cell? ⟨w.heap.size, 0, none⟩ = some (.slice none 0 0) := by simp [World.cell?, h1]
  have d1 : w1.cell? ⟨w.heap.size, 1, none⟩ = some (.int .i64 0) := by simp [World.cell?, h1]
  have df : ∀ o, w1.frozen? ⟨w.heap.size, o, none⟩ = false := fun o => by simp [World.frozen?, h1]
  have H1 := Lib.hid h1
  clear hr ht hf h1
  go_wp2_with fail
  have hg : w.heap.size + 2 ≤ g := by
    rcases HF.out with e | e
    · simp [Value.ownBlock] at e
    · have := e g rfl; simp at this; omega
  have hb1 : Below w.heap.size w w1 := by
    have := HT.out.toBelow (B := w.heap.size) (by simp; omega) (fun b hb => by
      rcases hb with e | e
      · omega
      · simp [Value.ownBlock] at e)
    exact HB0.out.trans this
  have hb2 : Below w.heap.size w ((w1.setCell ⟨w.heap.size, 0, none⟩ (.slice (some ⟨g, 0, none⟩) 13 cap)).setCell ⟨w.heap.size, 1, none⟩ (.int .i64 0)) := (hb1.setCell (Nat.le_refl _) _).setCell (Nat.le_refl _) _
  exact bodyPost_ret (v := .agg #[.slice (some ⟨g, 0, none⟩) 13 cap, .int .i64 0]) (by simp [results, Try.results69, go_sem, d0, d1]) rfl
    ⟨g, cap, rfl, by omega, by
      have hr := HR.out.row
      rw [hlen] at hr
      exact ownsRow_block hr (fun g' hg' => by
        simp only [Value.ownBlock, Option.some.injEq] at hg'; subst hg'
        rw [Below.heap_setCell _ _ _ _ (by simp; omega), Below.heap_setCell _ _ _ _ (by simp; omega)]),
      HR.out.each.keep ⟨by simp [World.setCell], fun b hb _ => by
        have := HOK.out b hb
        rw [Below.heap_setCell _ _ _ _ (by simp; omega), Below.heap_setCell _ _ _ _ (by simp; omega)]⟩, hb2⟩

end Go.Proofs.Ytikmgiapjigghaa

/- Walk: More of a State inside a Search. -/
namespace Go.Proofs.Ytikmgiapjigghaa.Emb
open Go.RowKit Go.Proofs.Ytikmgiapjigghaa

variable {Z : SrZ}

/-- A State in a world, whose list may be nil. -/
structure RAv (Z : SrZ) (w : World) (ok : Nat → Prop) (rs : Nat) (v : Value) (B : List TmAt) (wk : Nat) : Prop where
  blk : w.heap[rs]? = some (.cells #[Z.c0, v, .int .i64 wk, Z.c3, Z.c4, Z.c5, Z.c6, Z.c7, Z.c8] 142 (0, 0))
  row : w.ownsRow 0 24 3 v B.length (flat B)
  each : TsEach w ok B
  ne : v.ownBlock ≠ some rs
  okb : ∀ b, ok b → b < w.heap.size ∧ b ≠ rs ∧ v.ownBlock ≠ some b

theorem RAv.lt {w : World} {ok : Nat → Prop} {rs : Nat} {v : Value} {B : List TmAt} {wk : Nat} (h : RAv Z w ok rs v B wk) : rs < w.heap.size := (Array.getElem?_eq_some_iff.1 h.blk).1

theorem RAt.toV {w : World} {ok : Nat → Prop} {rs g cap : Nat} {B : List TmAt} {wk : Nat} (h : RAt Z w ok rs g cap B wk) : RAv Z w ok rs (.slice (some ⟨g, 0, none⟩) B.length cap) B wk :=
  ⟨h.blk, h.row, h.each, fun e => by simp only [Value.ownBlock, Option.some.injEq] at e; exact h.ne e.symm, fun b hb => ⟨(h.okb b hb).1, (h.okb b hb).2.1, fun e => by simp only [Value.ownBlock, Option.some.injEq] at e; exact (h.okb b hb).2.2 e.symm⟩⟩

theorem RAv.toAt {w : World} {ok : Nat → Prop} {rs : Nat} {v : Value} {B : List TmAt} {wk : Nat} (h : RAv Z w ok rs v B wk) (hB : 1 ≤ B.length) : ∃ g cap, v = .slice (some ⟨g, 0, none⟩) B.length cap ∧ RAt Z w ok rs g cap B wk := by
  obtain ⟨g, cap, rfl⟩ := own_shape h.row hB
  exact ⟨g, cap, rfl, h.blk, h.row, h.each, fun e => h.ne (by rw [e]; rfl), fun b hb => ⟨(h.okb b hb).1, (h.okb b hb).2.1, fun e => (h.okb b hb).2.2 (by rw [e]; rfl)⟩⟩

theorem RAv.keep {w w' : World} {ok : Nat → Prop} {rs : Nat} {v : Value} {B : List TmAt} {wk : Nat} (h : RAv Z w ok rs v B wk) (hb : Below w.heap.size w w') : RAv Z w' ok rs v B wk :=
  ⟨(hb.block rs h.lt).trans h.blk, ownsRow_below h.row hb, h.each.keep (Keeps.below hb ok), h.ne, fun b hk => ⟨Nat.lt_of_lt_of_le (h.okb b hk).1 hb.size, (h.okb b hk).2⟩⟩

theorem RAv.cells {w : World} {ok : Nat → Prop} {rs : Nat} {v : Value} {B : List TmAt} {wk : Nat} (h : RAv Z w ok rs v B wk) :
    w.cell? ⟨rs, 1, none⟩ = some v ∧ w.cell? ⟨rs, 2, none⟩ = some (.int .i64 wk) ∧ (∀ o, w.frozen? ⟨rs, o, none⟩ = false) :=
  ⟨by simp [World.cell?, h.blk], by simp [World.cell?, h.blk], fun o => by simp [World.frozen?, h.blk]⟩

/-- Behind the append of one variable, and the store of the new slice. -/
theorem RAv.push {w X w1 : World} {ok : Nat → Prop} {rs : Nat} {v v' : Value} {B : List TmAt} {wk : Nat} (h : RAv Z w ok rs v B wk) (hX : Below w.heap.size w X) (hg : X.grownBy w1 v.ownBlock) (hf : Fresh X v v') {t : Tm} (ht : t.fits) (hts : ∀ u, Ts u ok t.args none 0)
    {z : List Value} (ho : w1.ownsRow 0 24 3 v' (B.length + 1) (flat B ++ z)) {g cap : Nat} (hv : v' = .slice (some ⟨g, 0, none⟩) (B.length + 1) cap) (hz : z.length = 3) (harg : t.args = []) :
    (w1.heap[rs]? = some (.cells #[Z.c0, v, .int .i64 wk, Z.c3, Z.c4, Z.c5, Z.c6, Z.c7, Z.c8] 142 (0, 0))) ∧ g ≠ rs ∧
    RAv Z ((((w1.setCell ⟨g, B.length * 3, none⟩ (.int .i64 t.var)).setCell ⟨g, B.length * 3 + 1, none⟩ (.string t.name)).setCell ⟨g, B.length * 3 + 2, none⟩ (.slice none 0 0)).setCell ⟨rs, 1, none⟩ v') ok rs v' (B ++ [(t, none, 0)]) wk ∧
    Touch (StV rs v) w ((((w1.setCell ⟨g, B.length * 3, none⟩ (.int .i64 t.var)).setCell ⟨g, B.length * 3 + 1, none⟩ (.string t.name)).setCell ⟨g, B.length * 3 + 2, none⟩ (.slice none 0 0)).setCell ⟨rs, 1, none⟩ v') ∧ Fresh w v v' := by
  subst hv
  have hF : Fresh w v (.slice (some ⟨g, 0, none⟩) (B.length + 1) cap) := hf.old hX.size
  have hgb : v.ownBlock = some g ∨ w.heap.size ≤ g := by
    rcases hF with e | e
    · exact .inl e.symm
    · exact .inr (e g rfl)
  have hne : g ≠ rs := by
    rintro rfl
    rcases hgb with e | e
    · exact h.ne e
    · have := h.lt; omega
  have hb1 : w1.heap[rs]? = some (.cells #[Z.c0, v, .int .i64 wk, Z.c3, Z.c4, Z.c5, Z.c6, Z.c7, Z.c8] 142 (0, 0)) := (hg.block rs (by have := hX.size; have := h.lt; omega) (fun e => h.ne e.symm)).trans ((hX.block rs h.lt).trans h.blk)
  have hT1 : Touch (StV rs v) w w1 := (Touch.below hX).trans (Touch.grown hg fun k e => .inr e)
  have hT2 : Touch (fun b => b = g ∨ b = rs) w1 ((((w1.setCell ⟨g, B.length * 3, none⟩ (.int .i64 t.var)).setCell ⟨g, B.length * 3 + 1, none⟩ (.string t.name)).setCell ⟨g, B.length * 3 + 2, none⟩ (.slice none 0 0)).setCell ⟨rs, 1, none⟩ (.slice (some ⟨g, 0, none⟩) (B.length + 1) cap)) :=
    ⟨rfl, rfl, rfl, by simp [World.setCell], fun b' _ hn => by
      rw [Below.heap_setCell _ _ _ _ (fun e => hn (.inr e)), Below.heap_setCell _ _ _ _ (fun e => hn (.inl e)), Below.heap_setCell _ _ _ _ (fun e => hn (.inl e)), Below.heap_setCell _ _ _ _ (fun e => hn (.inl e))]⟩
  have hT : Touch (StV rs v) w ((((w1.setCell ⟨g, B.length * 3, none⟩ (.int .i64 t.var)).setCell ⟨g, B.length * 3 + 1, none⟩ (.string t.name)).setCell ⟨g, B.length * 3 + 2, none⟩ (.slice none 0 0)).setCell ⟨rs, 1, none⟩ (.slice (some ⟨g, 0, none⟩) (B.length + 1) cap)) := by
    refine ⟨hT2.os.trans hT1.os, hT2.tape.trans hT1.tape, hT2.output.trans hT1.output, Nat.le_trans hT1.size hT2.size, fun b hb hn => (hT2.block b (Nat.lt_of_lt_of_le hb hT1.size) ?_).trans (hT1.block b hb hn)⟩
    rintro (e | e)
    · rcases hgb with e2 | e2
      · exact hn (.inr (e ▸ e2))
      · omega
    · exact hn (.inl e)
  have hokg : ∀ b, ok b → b ≠ g := fun b hb e => by
    rcases hgb with e2 | e2
    · exact (h.okb b hb).2.2 (e ▸ e2)
    · have := (h.okb b hb).1; omega
  have hK : Keeps ok w _ := hT.keeps fun b hb hm => by
    rcases hm with e | e
    · exact (h.okb b hb).2.1 e
    · exact (h.okb b hb).2.2 e
  have hr := (((ho.stored (B.length * 3) (.int .i64 t.var)).1.stored (B.length * 3 + 1) (.string t.name)).1.stored (B.length * 3 + 2) (.slice none 0 0)).1
  refine ⟨hb1, hne, ⟨?_, ?_, ?_, fun e => hne (by simpa [Value.ownBlock] using e), fun b hb => ⟨Nat.lt_of_lt_of_le (h.okb b hb).1 hT.size, (h.okb b hb).2.1, fun e => hokg b hb (by simpa [Value.ownBlock] using e.symm)⟩⟩, hT, hF⟩
  · have h3 : (((w1.setCell ⟨g, B.length * 3, none⟩ (.int .i64 t.var)).setCell ⟨g, B.length * 3 + 1, none⟩ (.string t.name)).setCell ⟨g, B.length * 3 + 2, none⟩ (.slice none 0 0)).heap[rs]? = some (.cells #[Z.c0, v, .int .i64 wk, Z.c3, Z.c4, Z.c5, Z.c6, Z.c7, Z.c8] 142 (0, 0)) := by
      rw [Below.heap_setCell _ _ _ _ (fun e => hne e.symm), Below.heap_setCell _ _ _ _ (fun e => hne e.symm), Below.heap_setCell _ _ _ _ (fun e => hne e.symm)]; exact hb1
    rw [heap_setCell_at _ _ _ _ h3]; rfl
  · rw [List.length_append, flat_append]
    refine ownsRow_block (w := ((w1.setCell ⟨g, B.length * 3, none⟩ (.int .i64 t.var)).setCell ⟨g, B.length * 3 + 1, none⟩ (.string t.name)).setCell ⟨g, B.length * 3 + 2, none⟩ (.slice none 0 0)) ?_ (fun g' hg' => ?_)
    · match z, hz with
      | [z0, z1, z2], _ =>
        have e : (((flat B ++ [z0, z1, z2]).set (B.length * 3) (.int .i64 t.var)).set (B.length * 3 + 1) (.string t.name)).set (B.length * 3 + 2) (.slice none 0 0) = flat B ++ flat [(t, none, 0)] := by
          have hl := flat_length B
          rw [← hl, List.set_append_right _ _ (Nat.le_refl _), List.set_append_right _ _ (by omega), List.set_append_right _ _ (by omega)]
          simp [flat, harg]
        rw [e] at hr
        exact hr
    · simp only [Value.ownBlock, Option.some.injEq] at hg'
      subst hg'
      exact Below.heap_setCell _ _ _ _ hne
  · exact (h.each.keep hK).append (TsEach.one ht (hts _))

set_option maxRecDepth 100000 in
set_option maxHeartbeats 2000000 in
theorem MoreW {w : World} {ok : Nat → Prop} {rs : Nat} {v : Value} {B : List TmAt} {wk : Nat} (h : RAv Z w ok rs v B wk) {n : Nat} (hn : n ≤ 1000) (hB : B.length ≤ 1000000) :
    Calls Try.prog 104 #[.pointer (some ⟨rs, 1, none⟩), .int .i64 n] w fun e w' => e = .returned (.int .i64 B.length) ∧ ∃ v', RAv Z w' ok rs v' (B ++ fresh B.length n) wk ∧ Touch (StV rs v) w w' ∧ Fresh w v v' := by
  have H := Lib.hid h
  obtain ⟨c0, c1, cf⟩ := h.cells
  obtain ⟨va, vc, hv⟩ : ∃ va vc, v = .slice va B.length vc := by
    rcases h.row.2 with ⟨e, e2⟩ | ⟨g, cap, cur, e, _⟩
    · exact ⟨none, 0, by rw [e2]; exact e⟩
    · exact ⟨_, _, e⟩
  have HV := Lib.hid hv
  rw [hv] at c0
  clear h hv
  go_enter Try.func104, Try.ntmps104
  go_wp2_with fail
  clear c0 c1 cf
  go_loopw [6] (fun x wr => ∃ (i : Nat) (vi : Value), i ≤ n ∧ x = .int .i64 i ∧ RAv Z wr ok rs vi (B ++ fresh B.length i) wk ∧ Touch (StV rs v) w wr ∧ Fresh w v vi) (fun x _ => n - (intOf x).toNat)
  case atStart => exact ⟨0, v, Nat.zero_le _, rfl, by simpa [fresh] using H.out, Touch.refl _ _, .inl rfl⟩
  case round =>
    obtain ⟨i, vi, hi, rfl, hst, htc, hfr⟩ := hrel
    have HS := Lib.hid hst; have HT := Lib.hid htc; have HF := Lib.hid hfr
    obtain ⟨c0, c1, cf⟩ := hst.cells
    clear hst htc hfr
    by_cases hlt : i < n
    · have hlen : (B ++ fresh B.length i).length = B.length + i := by rw [List.length_append, fresh_length]
      have HNX : Hid (B ++ fresh B.length (i + 1) = (B ++ fresh B.length i) ++ [(VarT ((B.length : Int) + (i : Int)), none, 0)]) := Lib.hid (by
        rw [fresh_succ, List.append_assoc, Int.natCast_add])
      generalize B ++ fresh B.length i = C at *
      obtain ⟨va, vc, hvi⟩ : ∃ va vc, vi = .slice va C.length vc := by
        rcases HS.out.row.2 with ⟨e, e2⟩ | ⟨g, cap, cur, e, _⟩
        · exact ⟨none, 0, by rw [e2]; exact e⟩
        · exact ⟨_, _, e⟩
      subst hvi
      obtain ⟨i0, hi', hz0, hz1, hz2⟩ := info_parts Try.infoTm
      have hC : C.length ≤ 2000000 := by omega
      have hC0 : (0 : Int) ≤ (C.length : Int) := by omega
      have hC1 : (C.length : Int) < (C.length : Int) + 1 := by omega
      have HC := Lib.hid hlen
      have hrsl := HS.out.lt
      have HOWN : Hid ((wr.alloc (.cells #[.int .i64 0, .string ⟨#[]⟩, .slice none 0 0] 24)).drew.ownsRow 0 24 3 (.slice va C.length vc) C.length (flat C)) := Lib.hid (HS.out.row.alloc _)
      have HNW : Hid (∀ j u, ([.int .i64 0, .string ⟨#[]⟩, .slice none 0 0] : List Value)[j]? = some u → (wr.alloc (.cells #[.int .i64 0, .string ⟨#[]⟩, .slice none 0 0] 24)).drew.cell? ((⟨wr.heap.size, 0, none⟩ : Addr).add j) = some u) := Lib.hid (by
        have ho := World.ownsRow_lit (base := wr.heap.size) (e := 24) (size := 3) wr #[.int .i64 0, .string ⟨#[]⟩, .slice none 0 0] 1 (Nat.le_refl _) (by unfold maxLen; omega) rfl
        exact ho.cells (g := wr.heap.size) rfl)
      have HBX : Hid (Below wr.heap.size wr (wr.alloc (.cells #[.int .i64 0, .string ⟨#[]⟩, .slice none 0 0] 24)).drew) := Lib.hid ((Below.refl _ _).alloc (Nat.le_refl _) _).drew
      have HTF : Hid ((VarT ((B.length : Int) + (i : Int))).fits) := Lib.hid (varT_fits (by unfold I64; omega))
      clear hlen
      go_wp2_with fail
      go_region_law ((refine step_append_opt _ (by rfl) _ _ _ (by rfl) 0 24 i0 _ 3 48 Try.underlying22 hi' hz0 hz1 hz2 rfl (by decide) (.slice va C.length vc) C.length (flat C) (by rfl) HOWN.out (some ⟨wr.heap.size, 0, none⟩) 1 1 (by intro h; cases h) [.int .i64 0, .string ⟨#[]⟩, .slice none 0 0] (by rfl) rfl (by intro ad had; cases had; exact HNW.out) (by intro u hu; simp only [List.mem_cons, List.not_mem_nil, or_false] at hu; rcases hu with rfl | rfl | rfl <;> rfl) (by unfold maxLen; omega) (by omega) (Nat.zero_le _) ?_
                      intro v1 w1 hown1 hgrow1 hfr1
                      obtain ⟨g1, cap1, rfl⟩ := own_shape hown1 (by omega)
                      have HP := Lib.hid (HS.out.push HBX.out hgrow1 hfr1 HTF.out (fun u => Ts.empty' u ok) hown1 rfl rfl rfl)
                      have k0 : w1.cell? ⟨rs, 1, none⟩ = some (.slice va C.length vc) := by simp [World.cell?, HP.out.1]
                      have kf : ∀ o, w1.frozen? ⟨rs, o, none⟩ = false := fun o => by simp [World.frozen?, HP.out.1]
                      have kn : g1 ≠ rs := HP.out.2.1
                      have kn' : rs ≠ g1 := fun e => kn e.symm
                      have e0 : w1.cell? ⟨g1, C.length * 3, none⟩ = some (.int .i64 0) := by rw [hown1.cellAt _ (by omega), List.getElem?_append_right (by rw [flat_length]; omega), flat_length]; simp
                      have e1 : w1.cell? ⟨g1, C.length * 3 + 1, none⟩ = some (.string ⟨#[]⟩) := by rw [hown1.cellAt _ (by omega), List.getElem?_append_right (by rw [flat_length]; omega), flat_length]; simp
                      have e2 : w1.cell? ⟨g1, C.length * 3 + 2, none⟩ = some (.slice none 0 0) := by rw [hown1.cellAt _ (by omega), List.getElem?_append_right (by rw [flat_length]; omega), flat_length]; simp
                      have ef : ∀ o, w1.frozen? ⟨g1, o, none⟩ = false := fun o => hown1.frozenAt o
                      clear hown1 hgrow1 hfr1))
      all_goals
        go_wp2_with fail
        go_roundw
        case measure => simp [intOf]; omega
        case rel =>
          first
            | exact ⟨i + 1, _, by omega, by go_num, by rw [HNX.out]; exact HP.out.2.2.1, HT.out.fresh' HF.out HP.out.2.2.2.1, HF.out.trans HP.out.2.2.2.2 HT.out.size⟩
            | (rw [put_before _ kn']; exact ⟨i + 1, _, by omega, by go_num, by rw [HNX.out]; exact HP.out.2.2.1, HT.out.fresh' HF.out HP.out.2.2.2.1, HF.out.trans HP.out.2.2.2.2 HT.out.size⟩)
    · have : i = n := by omega
      subst this
      have hd : i ≤ i := Nat.le_refl _
      go_wp2_with fail
      go_ret
      exact ⟨rfl, vi, HS.out, HT.out, HF.out⟩

end Go.Proofs.Ytikmgiapjigghaa.Emb

/- A term that a call makes of another one, argument by argument; walks: Named, PutIn. -/
namespace Go.Proofs.Ytikmgiapjigghaa
open Go.RowKit

/-- What was right, and what is new since a world. -/
def OkN (ok : Nat → Prop) (w : World) : Nat → Prop := fun b => ok b ∨ w.heap.size ≤ b

/-- A call hands back a term, of what was right and of new memory; what was there stays. -/
def RetNew (w : World) (ok : Nat → Prop) (t : Tm) (e : Ending) (w' : World) : Prop :=
  ∃ a cap, e = .returned (.agg #[.int .i64 t.var, .string t.name, .slice a t.args.length cap]) ∧ t.fits ∧ Ts w' (OkN ok w) t.args a cap ∧ Below w.heap.size w w'

/-- A term under construction: its box, and the row of its arguments so far. -/
structure BldRel (wb : World) (ok : Nat → Prop) (bo : Nat) (n : ByteArray) (L : List TmAt) (x : Value) (wr : World) : Prop where
  box : Box3 wr bo (.int .i64 0) (.string n) x
  own : OwnTs wr wb.heap.size (OkN ok wb) x L
  touch : Touch (fun b => b = bo) wb wr
  lt : bo < wb.heap.size

theorem BldRel.start {wb : World} {ok : Nat → Prop} {bo : Nat} {n : ByteArray} (h : Box3 wb bo (.int .i64 0) (.string n) (.slice none 0 0)) : BldRel wb ok bo n [] (.slice none 0 0) wb :=
  ⟨h, OwnTs.nil _ _ _, Touch.refl _ _, h.lt⟩

theorem BldRel.form {wb wr : World} {ok : Nat → Prop} {bo : Nat} {n : ByteArray} {L : List TmAt} {x : Value} (h : BldRel wb ok bo n L x wr) : ∃ a cap, x = .slice a L.length cap := by
  rcases h.own.own.2 with ⟨h1, h2⟩ | ⟨g, cap, cur, h1, _⟩
  · exact ⟨none, 0, by rw [h1, h2]⟩
  · exact ⟨_, _, h1⟩

/-- One argument more: behind the append, and behind the store of the new slice. -/
theorem BldRel.next {wb wr wX w1 X2 w2 : World} {ok : Nat → Prop} {bo : Nat} {n : ByteArray} {L : List TmAt} {x x' : Value} (h : BldRel wb ok bo n L x wr) (hok : ∀ b, ok b → b < wb.heap.size ∧ b ≠ bo) (hX : wr.heap.size ≤ wX.heap.size)
    (hb : Below wr.heap.size wr w1) {t : Tm} {a : Option Addr} {c : Nat} (hf : t.fits) (ht : Ts w1 (OkN ok wX) t.args a c) (hX2 : Below w1.heap.size w1 X2)
    (ho : w2.ownsRow wb.heap.size 24 3 x' (L.length + 1) (flat L ++ flat [(t, a, c)])) (hg : X2.grownBy w2 x.ownBlock) (hfr : Fresh X2 x x') :
    Box3 w2 bo (.int .i64 0) (.string n) x ∧ BldRel wb ok bo n (L ++ [(t, a, c)]) x' (w2.setCell ⟨bo, 2, none⟩ x') := by
  have hbr : bo < wr.heap.size := h.box.lt
  have hxb : ∀ g, x.ownBlock = some g → wb.heap.size ≤ g ∧ g < wr.heap.size := fun g hg => h.own.block hg
  have hxo : x.ownBlock ≠ some bo := fun e => by have := (hxb _ e).1; have := h.lt; omega
  have hW : Below wr.heap.size wr X2 := hb.trans (hX2.mono hb.size)
  have hblk : w2.heap[bo]? = wr.heap[bo]? := (hg.block bo (by have := hW.size; omega) (fun e => hxo e.symm)).trans (hW.block bo hbr)
  have hB2 : Box3 w2 bo (.int .i64 0) (.string n) x := h.box.keep hblk
  refine ⟨hB2, ?_⟩
  have hx'o : x'.ownBlock ≠ some bo := fun e => by
    rcases hfr with e2 | e2
    · exact hxo (e2 ▸ e)
    · have := e2 bo e; have := hW.size; omega
  have hS : Touch (fun b => b = bo) w2 (w2.setCell ⟨bo, 2, none⟩ x') := Touch.setCell _ rfl
  have hE : TsEach X2 (Free x (OkN ok wb)) [(t, a, c)] := by
    refine TsEach.one hf ((ht.keep (Keeps.below hX2 _)).mono fun b _ hk => ?_)
    rcases hk with hk | hk
    · exact ⟨.inl hk, fun e => by have := (hxb b e).1; have := (hok b hk).1; omega⟩
    · exact ⟨.inr (by have := h.touch.size; omega), fun e => by have := (hxb b e).2; omega⟩
  have h2 : OwnTs w2 wb.heap.size (OkN ok wb) x' (L ++ [(t, a, c)]) := (h.own.below hW).append hE (by simpa using ho) hg hfr
  refine ⟨?_, ⟨?_, ?_⟩, ?_, h.lt⟩
  · refine ⟨?_⟩
    rw [heap_setCell_at _ _ _ _ hB2.blk]; rfl
  · exact ownsRow_block h2.own (fun g hg' => Below.heap_setCell _ _ _ _ (fun e => by subst e; exact hx'o hg'))
  · -- what the arguments are made of does not lie in the box
    have key : TsEach w2 (fun b => Free x' (OkN ok wb) b ∧ b ≠ bo) (L ++ [(t, a, c)]) := h2.each.mono fun b _ hk => ⟨hk, fun e => by
      subst e
      rcases hk.1 with h3 | h3
      · exact (hok _ h3).2 rfl
      · have := h.lt; omega⟩
    exact (key.keep (w' := w2.setCell ⟨bo, 2, none⟩ x') (hS.keeps fun b hb => hb.2)).mono fun b _ hk => hk.1
  · have hT2 : Touch (fun b => b = bo ∨ x.ownBlock = some b) wr w2 := (Touch.below hW).trans (Touch.grown hg fun k e => .inr e)
    refine ⟨hS.os.trans (hT2.os.trans h.touch.os), hS.tape.trans (hT2.tape.trans h.touch.tape), hS.output.trans (hT2.output.trans h.touch.output), Nat.le_trans h.touch.size (Nat.le_trans hT2.size hS.size), fun b hb' hn => ?_⟩
    refine (hS.block b (Nat.lt_of_lt_of_le hb' (Nat.le_trans h.touch.size hT2.size)) hn).trans ((hT2.block b (Nat.lt_of_lt_of_le hb' h.touch.size) ?_).trans (h.touch.block b hb' hn))
    rintro (e | e)
    · exact hn e
    · have := (hxb b e).1; omega

/-- The term is whole: it is stored where the result lies, and handed back. -/
theorem BldRel.done {w wb wr : World} {ok : Nat → Prop} {bo br : Nat} {n : ByteArray} {L : List TmAt} {x : Value} (h : BldRel wb ok bo n L x wr) (hw : Below w.heap.size w wb) (hbo : w.heap.size ≤ bo) (hbr : w.heap.size ≤ br) (hlt : br < wb.heap.size) (hok : ∀ b, ok b → b < w.heap.size) (hn : n.size ≤ maxLen) {t : Tm} (ht : t = .mk 0 n (L.map (·.1))) :
    RetNew w ok t (.returned (.agg #[.int .i64 0, .string n, x])) (((wr.setCell ⟨br, 0, none⟩ (.int .i64 0)).setCell ⟨br, 1, none⟩ (.string n)).setCell ⟨br, 2, none⟩ x) := by
  subst ht
  have hb : Below w.heap.size w wr := by
    have := h.touch.toBelow (B := w.heap.size) hw.size (fun b e => by omega)
    exact hw.trans this
  have h1 : TsEach (((wr.setCell ⟨br, 0, none⟩ (.int .i64 0)).setCell ⟨br, 1, none⟩ (.string n)).setCell ⟨br, 2, none⟩ x) (OkN ok w) L := by
    have key : TsEach wr (fun b => OkN ok w b ∧ b ≠ br) L := h.own.each.mono fun b _ hk => by
      rcases hk.1 with h3 | h3
      · exact ⟨.inl h3, fun e => by have := hok b h3; omega⟩
      · exact ⟨.inr (by have := hw.size; omega), fun e => by omega⟩
    exact (key.keep ((touch_put wr br _ _ _).keeps fun b hb => hb.2)).mono fun b _ hk => hk.1
  have ho : (((wr.setCell ⟨br, 0, none⟩ (.int .i64 0)).setCell ⟨br, 1, none⟩ (.string n)).setCell ⟨br, 2, none⟩ x).ownsRow w.heap.size 24 3 x L.length (flat L) := by
    have h2 : wr.ownsRow w.heap.size 24 3 x L.length (flat L) := by
      refine ⟨h.own.own.1, h.own.own.2.imp id ?_⟩
      rintro ⟨g, cap, cur, a1, a2, a3⟩
      exact ⟨g, cap, cur, a1, Nat.le_trans hw.size a2, a3⟩
    exact ownsRow_block h2 fun g hg => other_put (fun e => by have := (h.own.block hg).1; omega) _ _ _
  obtain ⟨a, cap, rfl, hts⟩ := Ts.of_row ho (fun b hb => .inr hb) h1
  exact ⟨a, cap, rfl, ⟨(by show -9223372036854775808 ≤ (0 : Int) ∧ (0 : Int) ≤ 9223372036854775807; omega), hn⟩, hts, below_put hb hbr _ _ _⟩

/-- A variable is stored where the result lies, and handed back. -/
theorem retNew_var {w wb : World} {ok : Nat → Prop} (hw : Below w.heap.size w wb) {br : Nat} (hbr : w.heap.size ≤ br) {v : Int} (hv : I64 v) :
    RetNew w ok (VarT v) (.returned (.agg #[.int .i64 v, .string ⟨#[]⟩, .slice none 0 0])) (((wb.setCell ⟨br, 0, none⟩ (.int .i64 v)).setCell ⟨br, 1, none⟩ (.string ⟨#[]⟩)).setCell ⟨br, 2, none⟩ (.slice none 0 0)) :=
  ⟨none, 0, rfl, ⟨hv, Nat.zero_le _⟩, Ts.empty' _ _, below_put hw hbr _ _ _⟩

end Go.Proofs.Ytikmgiapjigghaa

/- A term that a call makes of another one, argument by argument, while the calls touch other blocks besides. -/
namespace Go.Proofs.Ytikmgiapjigghaa
open Go.RowKit

/-- A term under construction, while calls touch M besides: its box, and the row of its arguments so far. -/
structure BldM (wb : World) (M : Nat → Prop) (ok : Nat → Prop) (bo : Nat) (n : ByteArray) (L : List TmAt) (x : Value) (wr : World) : Prop where
  box : Box3 wr bo (.int .i64 0) (.string n) x
  own : OwnTs wr wb.heap.size (OkN ok wb) x L
  touch : Touch (fun b => b = bo ∨ M b) wb wr
  lt : bo < wb.heap.size

theorem BldM.start {wb : World} {M ok : Nat → Prop} {bo : Nat} {n : ByteArray} (h : Box3 wb bo (.int .i64 0) (.string n) (.slice none 0 0)) : BldM wb M ok bo n [] (.slice none 0 0) wb :=
  ⟨h, OwnTs.nil _ _ _, Touch.refl _ _, h.lt⟩

theorem BldM.form {wb wr : World} {M ok : Nat → Prop} {bo : Nat} {n : ByteArray} {L : List TmAt} {x : Value} (h : BldM wb M ok bo n L x wr) : ∃ a cap, x = .slice a L.length cap := by
  rcases h.own.own.2 with ⟨h1, h2⟩ | ⟨g, cap, cur, h1, _⟩
  · exact ⟨none, 0, by rw [h1, h2]⟩
  · exact ⟨_, _, h1⟩

/-- One argument more: behind the append, and behind the store of the new slice. -/
theorem BldM.next {wb wr wX w1 X2 w2 : World} {M ok : Nat → Prop} {bo : Nat} {n : ByteArray} {L : List TmAt} {x x' : Value} (h : BldM wb M ok bo n L x wr) (hok : ∀ b, ok b → b < wb.heap.size ∧ b ≠ bo ∧ ¬ M b) (hM : ∀ b, M b → b < wb.heap.size ∧ b ≠ bo) (hX : wr.heap.size ≤ wX.heap.size)
    (hb : Touch M wr w1) {t : Tm} {a : Option Addr} {c : Nat} (hf : t.fits) (ht : Ts w1 (OkN ok wX) t.args a c) (hX2 : Below w1.heap.size w1 X2)
    (ho : w2.ownsRow wb.heap.size 24 3 x' (L.length + 1) (flat L ++ flat [(t, a, c)])) (hg : X2.grownBy w2 x.ownBlock) (hfr : Fresh X2 x x') :
    Box3 w2 bo (.int .i64 0) (.string n) x ∧ BldM wb M ok bo n (L ++ [(t, a, c)]) x' (w2.setCell ⟨bo, 2, none⟩ x') := by
  have hbr : bo < wr.heap.size := h.box.lt
  have hxb : ∀ g, x.ownBlock = some g → wb.heap.size ≤ g ∧ g < wr.heap.size := fun g hg => h.own.block hg
  have hxo : x.ownBlock ≠ some bo := fun e => by have := (hxb _ e).1; have := h.lt; omega
  have hW : Touch M wr X2 := hb.trans (Touch.below hX2)
  have hblk : w2.heap[bo]? = wr.heap[bo]? := (hg.block bo (by have := hW.size; omega) (fun e => hxo e.symm)).trans (hW.block bo hbr fun hm => (hM bo hm).2 rfl)
  have hB2 : Box3 w2 bo (.int .i64 0) (.string n) x := h.box.keep hblk
  refine ⟨hB2, ?_⟩
  have hx'o : x'.ownBlock ≠ some bo := fun e => by
    rcases hfr with e2 | e2
    · exact hxo (e2 ▸ e)
    · have := e2 bo e; have := hW.size; omega
  have hS : Touch (fun b => b = bo) w2 (w2.setCell ⟨bo, 2, none⟩ x') := Touch.setCell _ rfl
  have hE : TsEach X2 (Free x (OkN ok wb)) [(t, a, c)] := by
    refine TsEach.one hf ((ht.keep (Keeps.below hX2 _)).mono fun b _ hk => ?_)
    rcases hk with hk | hk
    · exact ⟨.inl hk, fun e => by have := (hxb b e).1; have := (hok b hk).1; omega⟩
    · exact ⟨.inr (by have := h.touch.size; omega), fun e => by have := (hxb b e).2; omega⟩
  have hOW : OwnTs X2 wb.heap.size (OkN ok wb) x L := by
    refine ⟨ownsRow_block h.own.own fun g hg' => hW.block g (hxb g hg').2 fun hm => by have := (hM g hm).1; have := (hxb g hg').1; omega, ?_⟩
    exact h.own.each.keep (hW.keeps fun b hb hm => by
      rcases hb.1 with h3 | h3
      · exact (hok b h3).2.2 hm
      · have := (hM b hm).1; omega)
  have h2 : OwnTs w2 wb.heap.size (OkN ok wb) x' (L ++ [(t, a, c)]) := hOW.append hE (by simpa using ho) hg hfr
  refine ⟨?_, ⟨?_, ?_⟩, ?_, h.lt⟩
  · refine ⟨?_⟩
    rw [heap_setCell_at _ _ _ _ hB2.blk]; rfl
  · exact ownsRow_block h2.own (fun g hg' => Below.heap_setCell _ _ _ _ (fun e => by subst e; exact hx'o hg'))
  · -- what the arguments are made of does not lie in the box
    have key : TsEach w2 (fun b => Free x' (OkN ok wb) b ∧ b ≠ bo) (L ++ [(t, a, c)]) := h2.each.mono fun b _ hk => ⟨hk, fun e => by
      subst e
      rcases hk.1 with h3 | h3
      · exact (hok _ h3).2.1 rfl
      · have := h.lt; omega⟩
    exact (key.keep (w' := w2.setCell ⟨bo, 2, none⟩ x') (hS.keeps fun b hb => hb.2)).mono fun b _ hk => hk.1
  · have hT2 : Touch (fun b => M b ∨ x.ownBlock = some b) wr w2 := (hW.mono fun _ _ e => .inl e).trans (Touch.grown hg fun k e => .inr e)
    refine ⟨hS.os.trans (hT2.os.trans h.touch.os), hS.tape.trans (hT2.tape.trans h.touch.tape), hS.output.trans (hT2.output.trans h.touch.output), Nat.le_trans h.touch.size (Nat.le_trans hT2.size hS.size), fun b hb' hn => ?_⟩
    refine (hS.block b (Nat.lt_of_lt_of_le hb' (Nat.le_trans h.touch.size hT2.size)) (fun e => hn (.inl e))).trans ((hT2.block b (Nat.lt_of_lt_of_le hb' h.touch.size) ?_).trans (h.touch.block b hb' hn))
    rintro (e | e)
    · exact hn (.inr e)
    · have := (hxb b e).1; omega

/-- The term is whole: it is stored where the result lies, and handed back. -/
theorem BldM.done {w wb wr : World} {M ok : Nat → Prop} {bo br : Nat} {n : ByteArray} {L : List TmAt} {x : Value} (h : BldM wb M ok bo n L x wr) (hw : Touch M w wb) (hbo : w.heap.size ≤ bo) (hbr : w.heap.size ≤ br) (hlt : br < wb.heap.size) (hok : ∀ b, ok b → b < w.heap.size) :
    ∃ a cap, x = .slice a (L.map (·.1)).length cap ∧ Ts (((wr.setCell ⟨br, 0, none⟩ (.int .i64 0)).setCell ⟨br, 1, none⟩ (.string n)).setCell ⟨br, 2, none⟩ x) (OkN ok w) (L.map (·.1)) a cap ∧ Touch M w (((wr.setCell ⟨br, 0, none⟩ (.int .i64 0)).setCell ⟨br, 1, none⟩ (.string n)).setCell ⟨br, 2, none⟩ x) := by
  have hb : Touch M w wr := by
    refine ⟨h.touch.os.trans hw.os, h.touch.tape.trans hw.tape, h.touch.output.trans hw.output, Nat.le_trans hw.size h.touch.size, fun b hb hn => (h.touch.block b (Nat.lt_of_lt_of_le hb hw.size) ?_).trans (hw.block b hb hn)⟩
    rintro (e | e)
    · omega
    · exact hn e
  have h1 : TsEach (((wr.setCell ⟨br, 0, none⟩ (.int .i64 0)).setCell ⟨br, 1, none⟩ (.string n)).setCell ⟨br, 2, none⟩ x) (OkN ok w) L := by
    have key : TsEach wr (fun b => OkN ok w b ∧ b ≠ br) L := h.own.each.mono fun b _ hk => by
      rcases hk.1 with h3 | h3
      · exact ⟨.inl h3, fun e => by have := hok b h3; omega⟩
      · exact ⟨.inr (by have := hw.size; omega), fun e => by omega⟩
    exact (key.keep ((touch_put wr br _ _ _).keeps fun b hb => hb.2)).mono fun b _ hk => hk.1
  have ho : (((wr.setCell ⟨br, 0, none⟩ (.int .i64 0)).setCell ⟨br, 1, none⟩ (.string n)).setCell ⟨br, 2, none⟩ x).ownsRow w.heap.size 24 3 x L.length (flat L) := by
    have h2 : wr.ownsRow w.heap.size 24 3 x L.length (flat L) := by
      refine ⟨h.own.own.1, h.own.own.2.imp id ?_⟩
      rintro ⟨g, cap, cur, a1, a2, a3⟩
      exact ⟨g, cap, cur, a1, Nat.le_trans hw.size a2, a3⟩
    exact ownsRow_block h2 fun g hg => other_put (fun e => by have := (h.own.block hg).1; omega) _ _ _
  obtain ⟨a, cap, he, hts⟩ := Ts.of_row ho (fun b hb => .inr hb) h1
  refine ⟨a, cap, he, hts, ?_⟩
  have ht := touch_put wr br (.int .i64 0) (.string n) x
  exact ⟨ht.os.trans hb.os, ht.tape.trans hb.tape, ht.output.trans hb.output, Nat.le_trans hb.size ht.size, fun b hb' hn => (ht.block b (Nat.lt_of_lt_of_le hb' hb.size) (fun e => by omega)).trans (hb.block b hb' hn)⟩


theorem thrL_room {σ : Sub} : ∀ (m : Nat) (l : List Tm) (x : List Tm × Nat), thrL σ m l = some x → l.length + x.2 ≤ m := by
  intro m
  induction m using Nat.strongRecOn with
  | _ m ih =>
  intro l x h
  cases l with
  | nil => rw [thrL_nil] at h; cases h; simp
  | cons t r =>
    cases m with
    | zero => rw [thrL_zero] at h; cases h
    | succ m =>
      by_cases hv : (look σ t).var = 0
      · rw [thrL_fn hv] at h
        obtain ⟨y, hy, h2⟩ := Option.bind_eq_some_iff.1 h
        obtain ⟨z, hz, rfl⟩ := Option.map_eq_some_iff.1 h2
        have h3 := (thrL_le _ _ _ hy).1
        have := ih y.2 (by omega) r z hz
        simp only [List.length_cons]; omega
      · rw [thrL_var hv] at h
        obtain ⟨z, hz, rfl⟩ := Option.map_eq_some_iff.1 h
        have := ih m (by omega) r z hz
        simp only [List.length_cons]; omega

end Go.Proofs.Ytikmgiapjigghaa

/- Walks: Named. (Printed by a small program.) -/
namespace Go.Proofs.Ytikmgiapjigghaa
open Go.RowKit

theorem Tm.length_le_sizes (l : List Tm) : l.length ≤ Tm.sizes l := by
  induction l with
  | nil => exact Nat.zero_le _
  | cons t r ih => simp only [Tm.sizes, List.length_cons]; have := t.size_pos; omega

theorem Box3.made2 {X : World} {b : Nat} {x0 x1 x2 : Value} (h : b = X.heap.size) : Box3 (X.alloc (.cells #[x0, x1, x2] 24)) b x0 x1 x2 := by subst h; exact Box3.made X _ _ _

set_option maxRecDepth 100000 in
set_option maxHeartbeats 2000000 in
theorem NamedW {N : Nat → Int} {nb no nn nc : Nat} (t : Tm) : ∀ (w : World) (ok : Nat → Prop) (a : Option Addr) (cap : Nat), (∀ b, ok b → b < w.heap.size) → t.size ≤ 100000 → t.fits → Ts w ok t.args a cap → (∀ p, p ∈ t.parts → p.var ≠ 0 → 0 ≤ p.var ∧ p.var.toNat < nn) ∧ (∀ i, i < nn → w.cell? ⟨nb, no + i, none⟩ = some (.int .i64 (N i)) ∧ I64 (N i)) →
    Calls Try.prog 73 #[.agg #[.int .i64 t.var, .string t.name, .slice a t.args.length cap], .slice (some ⟨nb, no, none⟩) nn nc] w (RetNew w ok (Tm.mapv (fun x => N x.toNat) t)) := by
  induction t using Tm.ind with
  | h v n l ih =>
    intro w ok a cap hok hsize hfit hrd hx
    have IH := Lib.hid ih; have HOK := Lib.hid hok; have HF := Lib.hid hfit; have HX := Lib.hid hx; have HSIZE := Lib.hid hsize
    simp only [Tm.var, Tm.name, Tm.args] at hrd ⊢
    have HRD := Lib.hid hrd
    have hcl : l.length ≤ 100000 := by
      have h1 := hsize
      simp only [Tm.size] at h1
      have := Tm.length_le_sizes l; omega
    clear ih hok hfit hx hrd hsize
    by_cases hv : v = 0
    · subst hv
      have HRES : Hid (Tm.mapv (fun x => N x.toNat) (.mk 0 n l) = .mk 0 n (l.map (Tm.mapv (fun x => N x.toNat)))) := Lib.hid (Tm.mapv_fn (by rfl))
      go_enter Try.func73, Try.ntmps73
      go_wp2_with fail
      have BB : Below w.heap.size w (((w.alloc (.cells #[.int .i64 0, .string n, .slice a l.length cap] 24)).alloc (.cells #[.int .i64 0, .string ⟨#[]⟩, .slice none 0 0] 24)).alloc (.cells #[.int .i64 0, .string n, .slice none 0 0] 24)) := (((Below.refl _ _).alloc (Nat.le_refl _) _).alloc (by simp) _).alloc (by simp; omega) _
      have B2 : Box3 (((w.alloc (.cells #[.int .i64 0, .string n, .slice a l.length cap] 24)).alloc (.cells #[.int .i64 0, .string ⟨#[]⟩, .slice none 0 0] 24)).alloc (.cells #[.int .i64 0, .string n, .slice none 0 0] 24)) w.heap.size (.int .i64 0) (.string n) (.slice a l.length cap) := ((Box3.made w _ _ _).alloc _).alloc _
      have B4 : Box3 (((w.alloc (.cells #[.int .i64 0, .string n, .slice a l.length cap] 24)).alloc (.cells #[.int .i64 0, .string ⟨#[]⟩, .slice none 0 0] 24)).alloc (.cells #[.int .i64 0, .string n, .slice none 0 0] 24)) (w.heap.size + 1) (.int .i64 0) (.string ⟨#[]⟩) (.slice none 0 0) := (Box3.made2 (by simp)).alloc _
      have B5 : Box3 (((w.alloc (.cells #[.int .i64 0, .string n, .slice a l.length cap] 24)).alloc (.cells #[.int .i64 0, .string ⟨#[]⟩, .slice none 0 0] 24)).alloc (.cells #[.int .i64 0, .string n, .slice none 0 0] 24)) (w.heap.size + 1 + 1) (.int .i64 0) (.string n) (.slice none 0 0) := Box3.made2 (by simp)
      have hsz : (((w.alloc (.cells #[.int .i64 0, .string n, .slice a l.length cap] 24)).alloc (.cells #[.int .i64 0, .string ⟨#[]⟩, .slice none 0 0] 24)).alloc (.cells #[.int .i64 0, .string n, .slice none 0 0] 24)).heap.size = w.heap.size + 3 := by simp
      have HBB := Lib.hid BB; have HB2 := Lib.hid B2; have HB4 := Lib.hid B4; have HB5 := Lib.hid B5; have HSZ := Lib.hid hsz
      clear BB B2 B4 B5 hsz
      generalize (((w.alloc (.cells #[.int .i64 0, .string n, .slice a l.length cap] 24)).alloc (.cells #[.int .i64 0, .string ⟨#[]⟩, .slice none 0 0] 24)).alloc (.cells #[.int .i64 0, .string n, .slice none 0 0] 24)) = wb at *
      go_loopw [6] (fun y wr => ∃ (k : Nat) (L : List TmAt) (x : Value), k ≤ l.length ∧ y = .int .i64 k ∧ L.map (·.1) = (l.take k).map (Tm.mapv (fun x => N x.toNat)) ∧ BldRel wb ok (w.heap.size + 1 + 1) n L x wr) (fun y _ => l.length - (intOf y).toNat)
      case atStart => exact ⟨0, [], .slice none 0 0, Nat.zero_le _, rfl, rfl, BldRel.start HB5.out⟩
      case round =>
        obtain ⟨k, L, x, hk, rfl, hL, hrel⟩ := hrel
        have HL := Lib.hid hL; have HR := Lib.hid hrel
        obtain ⟨xa, xc, rfl⟩ := hrel.form
        have p2 := (HB2.out.keep (hrel.touch.block _ HB2.out.lt (by omega))).c2
        have q4 := (HB4.out.keep (hrel.touch.block _ HB4.out.lt (by omega))).all
        have q0 := hrel.box.c0; have q1 := hrel.box.c1; have q2 := hrel.box.c2; have qf := hrel.box.fz
        have hLk : L.length = k := by
          have := congrArg List.length hL
          rw [List.length_map, List.length_map, List.length_take] at this; omega
        have HLK := Lib.hid hLk
        have HSW : Hid (w.heap.size + 3 ≤ wr.heap.size) := Lib.hid (by have := hrel.touch.size; have := HSZ.out; omega)
        have HBR : Hid (Below w.heap.size w wr) := Lib.hid (HBB.out.trans (hrel.touch.toBelow HBB.out.size (fun b e => by omega)))
        clear hrel hL hLk
        by_cases hlt : k < l.length
        · obtain ⟨b, off, a', cap', rfl, hokb, hbs, hc, ht⟩ := HRD.out.at k hlt
          have m0 := (HBR.out.cell (p := ⟨b, off + k * 3, none⟩) hbs).trans hc.var
          have m1 := (HBR.out.cell (p := ⟨b, off + k * 3 + 1, none⟩) hbs).trans hc.name
          have m2 := (HBR.out.cell (p := ⟨b, off + k * 3 + 2, none⟩) hbs).trans hc.args
          have hk0 : (0 : Int) ≤ (k : Int) := by omega
          have hk1 : (k : Int) < (l.length : Int) := by omega
          have hmem : l[k] ∈ l := List.getElem_mem hlt
          have HC := Lib.hid hc.fits; have HTS := Lib.hid ht
          clear hc ht
          obtain ⟨i0, hi, hz0, hz1, hz2⟩ := info_parts Try.infoTm
          have HCL : Hid (∀ u, Below wr.heap.size wr u → Calls Try.prog 73 #[.agg #[.int .i64 l[k].var, .string l[k].name, .slice a' l[k].args.length cap'], .slice (some ⟨nb, no, none⟩) nn nc] u (RetNew u ok (Tm.mapv (fun x => N x.toNat) l[k]))) := Lib.hid fun u hu =>
            IH.out _ hmem u ok a' cap' (fun b hb => by have := HOK.out b hb; have := hu.size; have := HSW.out; omega) (Tm.size_arg HSIZE.out k hlt) HC.out (HTS.out.keep ((Keeps.below HBR.out ok).trans (Keeps.below hu ok))) ⟨fun p hp => HX.out.1 p (Tm.parts_arg (t := .mk 0 n l) hmem hp), fun i hi => ⟨((HBR.out.trans (hu.mono HBR.out.size)).cell (p := ⟨nb, no + i, none⟩) (World.block_lt_of_cell? w _ (HX.out.2 i hi).1)).trans (HX.out.2 i hi).1, (HX.out.2 i hi).2⟩⟩
          go_wp2_with fail
          go_region_law (first
            | (go_simp
               go_at_call 73
               refine (HCL.out _ ?_).mono ?_
               · exact (Below.refl _ _).drew
               rintro e w1 ⟨a2, c2, rfl, hf2, ht2, hb2⟩
               have HB : Below wr.heap.size wr w1 := ((Below.refl _ _).drew).trans hb2
               have r0 : w1.cell? ⟨w.heap.size + 1 + 1, 2, none⟩ = some (.slice xa L.length xc) := (HR.out.box.below HB).c2
               have z1 : w.heap.size + 1 + 1 < w1.heap.size := (HR.out.box.below HB).lt
               have HO1 := Lib.hid ((ownsRow_below HR.out.own.own HB).alloc (.cells #[.int .i64 (Tm.mapv (fun x => N x.toNat) l[k]).var, .string (Tm.mapv (fun x => N x.toNat) l[k]).name, .slice a2 (Tm.mapv (fun x => N x.toNat) l[k]).args.length c2] 24))
               have HN1 : Hid (∀ j u, (flat [(Tm.mapv (fun x => N x.toNat) l[k], a2, c2)])[j]? = some u → (w1.alloc (.cells #[.int .i64 (Tm.mapv (fun x => N x.toNat) l[k]).var, .string (Tm.mapv (fun x => N x.toNat) l[k]).name, .slice a2 (Tm.mapv (fun x => N x.toNat) l[k]).args.length c2] 24)).cell? ((⟨w1.heap.size, 0, none⟩ : Addr).add j) = some u) := Lib.hid (by
                 have ho := World.ownsRow_lit (base := w1.heap.size) (e := 24) (size := 3) w1 #[.int .i64 (Tm.mapv (fun x => N x.toNat) l[k]).var, .string (Tm.mapv (fun x => N x.toNat) l[k]).name, .slice a2 (Tm.mapv (fun x => N x.toNat) l[k]).args.length c2] 1 (Nat.le_refl _) (by unfold maxLen; omega) rfl
                 exact ho.cells (g := w1.heap.size) rfl)
               have HF2 := Lib.hid hf2
               have HT2 := Lib.hid ht2
               have HB1 := Lib.hid HB
               clear hf2 ht2 hb2 HB)
            | (have _g := HO1
               refine step_append_opt _ (by rfl) _ _ _ (by rfl) wb.heap.size 24 i0 _ 3 48 Try.underlying22 hi hz0 hz1 hz2 rfl (by decide) (.slice xa L.length xc) L.length (flat L) (by rfl) HO1.out (some ⟨w1.heap.size, 0, none⟩) 1 1 (by intro h; cases h) (flat [(Tm.mapv (fun x => N x.toNat) l[k], a2, c2)]) (by rfl) (by rw [flat_length]; rfl) (by intro ad had; cases had; exact HN1.out) (flat_one _) (by have := HLK.out; unfold maxLen; omega) (by have := HLK.out; omega) (by have := HR.out.touch.size; have := HB1.out.size; simp; omega) ?_
               intro v3 w3 hown3 hgrow3 hfr3
               have HNX := Lib.hid (HR.out.next (fun b hb => by have := HOK.out b hb; have := HSZ.out; omega) (show wr.heap.size ≤ wr.drew.heap.size from Nat.le_refl _) HB1.out HF2.out HT2.out ((Below.refl _ _).alloc (Nat.le_refl _) _) hown3 hgrow3 hfr3)
               obtain ⟨g3, cap3, rfl⟩ := own_shape hown3 (by omega)
               have s2 : w3.cell? ⟨w.heap.size + 1 + 1, 2, none⟩ = some (.slice xa L.length xc) := HNX.out.1.c2
               have sf : ∀ o, w3.frozen? ⟨w.heap.size + 1 + 1, o, none⟩ = false := HNX.out.1.fz
               clear hown3 hgrow3 hfr3))
          all_goals
            go_wp2_with fail
            go_roundw
            case measure => simp [intOf]; omega
            case rel => exact ⟨k + 1, _, _, by omega, by go_num, by rw [List.map_append, HL.out, List.take_succ_eq_append_getElem hlt, List.map_append]; rfl, HNX.out.2⟩
        · have HLE : Hid (l.take k = l) := Lib.hid (List.take_of_length_le (by omega))
          obtain ⟨q40, q41, q42, q43⟩ := q4
          go_wp2_with fail
          have HD := Lib.hid (HR.out.done (br := w.heap.size + 1) (t := .mk 0 n (l.map (Tm.mapv (fun x => N x.toNat)))) HBB.out (by omega) (by omega) (by have := HSZ.out; omega) HOK.out HF.out.2 (by rw [HL.out, HLE.out]))
          rw [HRES.out]
          exact bodyPost_ret (v := .agg #[.int .i64 0, .string n, .slice xa L.length xc]) (by simp [results, Try.results73, go_sem, q40, q41, q42]) rfl HD.out
    · have hv1 : (v != 0) = true := by rw [bne_iff_ne]; exact hv
      have hx := HX.out.1 _ (Tm.self_mem (.mk v n l)) hv
      simp only [Tm.var] at hx
      obtain ⟨i, hi⟩ : ∃ i : Nat, (i : Int) = v := ⟨v.toNat, by omega⟩
      have hin : v.toNat = i := by omega
      have hlt : i < nn := by omega
      have hv0 : (0 : Int) ≤ v := by omega
      have hvn : v < (nn : Int) := by omega
      have hc := (HX.out.2 i hlt).1
      have hnb : nb < w.heap.size := World.block_lt_of_cell? w _ hc
      have hc2 : ((w.alloc (.cells #[.int .i64 v, .string n, .slice a l.length cap] 24)).alloc (.cells #[.int .i64 0, .string ⟨#[]⟩, .slice none 0 0] 24)).cell? ⟨nb, no + i, none⟩ = some (.int .i64 (N i)) := (((Below.refl w.heap.size w).alloc (Nat.le_refl _) (.cells #[.int .i64 v, .string n, .slice a l.length cap] 24)).alloc (by simp) (.cells #[.int .i64 0, .string ⟨#[]⟩, .slice none 0 0] 24)).cell (p := ⟨nb, no + i, none⟩) hnb |>.trans hc
      have HI := Lib.hid (HX.out.2 i hlt).2
      have HRES : Hid (Tm.mapv (fun x => N x.toNat) (.mk v n l) = VarT (N i)) := Lib.hid (by rw [Tm.mapv_var (by exact hv)]; simp only [Tm.var, hin])
      clear hx hv
      go_enter Try.func73, Try.ntmps73
      go_wp2_with fail
      rw [HRES.out]
      exact bodyPost_ret (v := .agg #[.int .i64 (N i), .string ⟨#[]⟩, .slice none 0 0]) (by simp [results, Try.results73, go_sem]) rfl ⟨none, 0, rfl, ⟨HI.out, Nat.zero_le _⟩, Ts.empty' _ _, ((Below.refl _ _).alloc (Nat.le_refl _) _).alloc (by simp) _⟩

end Go.Proofs.Ytikmgiapjigghaa

/- Walk: the reference's Full. -/
namespace Go.Proofs.Ytikmgiapjigghaa
open Go.RowKit

/-- What Full hands back. -/
def FullPost (w : World) (ok : Nat → Prop) (m : Nat) (o : Option (List Tm × Nat)) (e : Ending) (w' : World) : Prop :=
  match o with
  | some x => ∃ (T : Tm) (a : Option Addr) (c : Nat), x.1 = [T] ∧ e = .returned (.tuple #[.agg #[.int .i64 T.var, .string T.name, .slice a T.args.length c], .int .i64 ((m : Int) - (x.2 : Int)), .bool true]) ∧ T.fits ∧ Ts w' (OkN ok w) T.args a c ∧ Below w.heap.size w w'
  | none => e = .returned (.tuple #[.agg #[.int .i64 0, .string ⟨#[]⟩, .slice none 0 0], .int .i64 ((m : Int) + 1), .bool false]) ∧ Below w.heap.size w w'

theorem thrL_one {σ : Sub} {m : Nat} {t : Tm} {x : List Tm × Nat} (h : thrL σ m [t] = some x) : ∃ T, x.1 = [T] := by
  have := (thrL_le _ _ _ h).2
  simp only [List.length_cons, List.length_nil, Nat.zero_add] at this
  exact List.length_eq_one_iff.1 this

theorem news3 (X : World) (t : Tm) (a : Option Addr) (c : Nat) {h : Nat} (e : h = X.heap.size) : ∀ ad, some (⟨h, 0, none⟩ : Addr) = some ad → ∀ j u, (flat [(t, a, c)])[j]? = some u → (X.alloc (.cells #[.int .i64 t.var, .string t.name, .slice a t.args.length c] 24)).cell? (ad.add j) = some u := by
  subst e
  intro ad had
  cases had
  have ho := World.ownsRow_lit (base := X.heap.size) (e := 24) (size := 3) X #[.int .i64 t.var, .string t.name, .slice a t.args.length c] 1 (Nat.le_refl _) (by unfold maxLen; omega) rfl
  exact ho.cells (g := X.heap.size) rfl

set_option maxRecDepth 100000 in
set_option maxHeartbeats 4000000 in
theorem FullW {ok : Nat → Prop} {rs g cap : Nat} {B : List TmAt} {wk : Nat} (hB : FB (B.map (·.1))) (m : Nat) : ∀ (t : Tm) (a : Option Addr) (c : Nat) (w : World), m ≤ 1000 → RAt w ok rs g cap B wk → t.fits → Ts w ok t.args a c → Fit B.length t →
    Calls Try.prog 72 #[.pointer (some ⟨rs, 0, none⟩), .agg #[.int .i64 t.var, .string t.name, .slice a t.args.length c], .int .i64 m] w (FullPost w ok m (thrL (subB (B.map (·.1))) m [t])) := by
  induction m using Nat.strongRecOn with
  | _ m ih =>
  intro t a c w hm hst hfit hts hin
  have IH := Lib.hid ih; have HB := Lib.hid hB; have HST := Lib.hid hst; have HF := Lib.hid hfit; have HT := Lib.hid hts; have HIN := Lib.hid hin
  clear ih hB hst hfit hts hin
  have BB : Below w.heap.size w ((w.alloc (.cells #[.int .i64 t.var, .string t.name, .slice a t.args.length c] 24)).alloc (.cells #[.int .i64 0, .string ⟨#[]⟩, .slice none 0 0] 24)) := ((Below.refl _ _).alloc (Nat.le_refl _) _).alloc (by simp) _
  have A4 : Box3 ((w.alloc (.cells #[.int .i64 t.var, .string t.name, .slice a t.args.length c] 24)).alloc (.cells #[.int .i64 0, .string ⟨#[]⟩, .slice none 0 0] 24)) w.heap.size (.int .i64 t.var) (.string t.name) (.slice a t.args.length c) := (Box3.made w _ _ _).alloc _
  have A6 : Box3 ((w.alloc (.cells #[.int .i64 t.var, .string t.name, .slice a t.args.length c] 24)).alloc (.cells #[.int .i64 0, .string ⟨#[]⟩, .slice none 0 0] 24)) (w.heap.size + 1) (.int .i64 0) (.string ⟨#[]⟩) (.slice none 0 0) := Box3.made2 (by simp)
  have HBB := Lib.hid BB; have HA4 := Lib.hid A4; have HA6 := Lib.hid A6
  have HOK : Hid (∀ b, ok b → b < w.heap.size) := Lib.hid fun b hb => (HST.out.okb b hb).1
  clear BB A4 A6
  have HIB : Hid (∀ i (hi : i < B.length), InB B B[i].1) := Lib.hid (fun i hi => by
    have := (HB.out.each B[i].1 (List.mem_map.2 ⟨_, List.getElem_mem hi, rfl⟩)).pos
    rw [List.length_map] at this
    exact this)
  obtain ⟨n0, hn⟩ := look_spec HB.out.inv.rank.ends t
  have HN := Lib.hid hn
  have HLK := Lib.hid (LookAtW (HST.out.keep HBB.out) HIB.out HN.out HF.out (HT.out.keep (Keeps.below HBB.out ok)) HIN.out.pos)
  have HFX : Hid (Fit B.length (look (subB (B.map (·.1))) t)) := Lib.hid (by
    have := HB.out.look (t := t) (by rw [List.length_map]; exact HIN.out)
    rwa [List.length_map] at this)
  have hsz2 : ((w.alloc (.cells #[.int .i64 t.var, .string t.name, .slice a t.args.length c] 24)).alloc (.cells #[.int .i64 0, .string ⟨#[]⟩, .slice none 0 0] 24)).heap.size = w.heap.size + 2 := by simp
  have HSZ2 := Lib.hid hsz2
  clear hn hsz2
  cases m with
  | zero =>
    have HO : Hid (thrL (subB (B.map (·.1))) 0 [t] = none) := Lib.hid (thrL_zero _ _ _)
    go_enter Try.func72, Try.ntmps72
    go_wp2_with (go_at_call 71; refine HLK.out.mono ?_; rintro e w1 ⟨a1, c1, rfl, hf1, ht1, hb1⟩; have HF1 := Lib.hid hf1; have HT1 := Lib.hid ht1; have HB1 := Lib.hid hb1; have X4 := HA4.out.below hb1; have X6 := HA6.out.below hb1; have q0 := X4.c0; have q1 := X4.c1; have q2 := X4.c2; have qf := X4.fz; have HX4 := Lib.hid X4; have HX6 := Lib.hid X6; have p0 := X6.c0; have p1 := X6.c1; have p2 := X6.c2; have pf := X6.fz; have hlt1 : w.heap.size + 1 < w1.heap.size := X6.lt; clear hf1 ht1 hb1 X4 X6)
    rw [HO.out]
    have hs := HSZ2.out
    have hx := HB1.out.size
    exact bodyPost_ret (v := .tuple #[.agg #[.int .i64 0, .string ⟨#[]⟩, .slice none 0 0], .int .i64 1, .bool false]) (by simp [results, Try.results72, go_sem, p0, p1, p2]) rfl
      ⟨rfl, by repeat' (first | (with_reducible exact Below.refl _ _) | (with_reducible refine below_put ?_ ?_ _ _ _) | (with_reducible refine Below.alloc ?_ ?_ _) | (with_reducible refine Below.drew ?_) | (with_reducible refine Below.up ?_ HB1.out ?_) | (with_reducible exact HBB.out) | omega | (simp only [aSz]; omega) | (simp only [sSz]; omega))⟩
  | succ m =>
    have hm1 : (m : Int) ≤ 1000 := by omega
    have hm0 : (1 : Int) ≤ (m : Int) + 1 := by omega
    go_enter Try.func72, Try.ntmps72
    go_wp2_with (go_at_call 71; refine HLK.out.mono ?_; rintro e w1 ⟨a1, c1, rfl, hf1, ht1, hb1⟩; have HF1 := Lib.hid hf1; have HT1 := Lib.hid ht1; have HB1 := Lib.hid hb1; have X4 := HA4.out.below hb1; have X6 := HA6.out.below hb1; have q0 := X4.c0; have q1 := X4.c1; have q2 := X4.c2; have qf := X4.fz; have HX4 := Lib.hid X4; have HX6 := Lib.hid X6; have p0 := X6.c0; have p1 := X6.c1; have p2 := X6.c2; have pf := X6.fz; have hlt1 : w.heap.size + 1 < w1.heap.size := X6.lt; clear hf1 ht1 hb1 X4 X6)
    have hs := HSZ2.out
    have hx := HB1.out.size
    have BW : Below w.heap.size w (((w1.setCell ⟨w.heap.size, 0, none⟩ (.int .i64 (look (subB (B.map (·.1))) t).var)).setCell ⟨w.heap.size, 1, none⟩ (.string (look (subB (B.map (·.1))) t).name)).setCell ⟨w.heap.size, 2, none⟩ (.slice a1 (look (subB (B.map (·.1))) t).args.length c1)) := by
      repeat' (first | (with_reducible exact Below.refl _ _) | (with_reducible refine below_put ?_ ?_ _ _ _) | (with_reducible refine Below.alloc ?_ ?_ _) | (with_reducible refine Below.drew ?_) | (with_reducible refine Below.up ?_ HB1.out ?_) | (with_reducible exact HBB.out) | omega | (simp only [aSz]; omega) | (simp only [sSz]; omega))
    have Y4 := HX4.out.put (.int .i64 (look (subB (B.map (·.1))) t).var) (.string (look (subB (B.map (·.1))) t).name) (.slice a1 (look (subB (B.map (·.1))) t).args.length c1)
    have Y6 := HX6.out.other (show w.heap.size + 1 ≠ w.heap.size by omega) (.int .i64 (look (subB (B.map (·.1))) t).var) (.string (look (subB (B.map (·.1))) t).name) (.slice a1 (look (subB (B.map (·.1))) t).args.length c1)
    have HBW := Lib.hid BW; have HY4 := Lib.hid Y4; have HY6 := Lib.hid Y6
    have HTW : Hid (Ts (((w1.setCell ⟨w.heap.size, 0, none⟩ (.int .i64 (look (subB (B.map (·.1))) t).var)).setCell ⟨w.heap.size, 1, none⟩ (.string (look (subB (B.map (·.1))) t).name)).setCell ⟨w.heap.size, 2, none⟩ (.slice a1 (look (subB (B.map (·.1))) t).args.length c1)) ok (look (subB (B.map (·.1))) t).args a1 c1) :=
      Lib.hid (Ts.belowOk HOK.out (below_put (Below.refl w.heap.size w1) (Nat.le_refl _) _ _ _) HT1.out)
    clear q0 q1 q2 qf p0 p1 p2 pf hs hx BW Y4 Y6
    by_cases hv : (look (subB (B.map (·.1))) t).var = 0
    · have HO : Hid (thrL (subB (B.map (·.1))) (m + 1) [t] = (thrL (subB (B.map (·.1))) m (look (subB (B.map (·.1))) t).args).map fun y => ([.mk 0 (look (subB (B.map (·.1))) t).name y.1], y.2)) := Lib.hid (by
        rw [thrL_fn hv]
        cases thrL (subB (B.map (·.1))) m (look (subB (B.map (·.1))) t).args with
        | none => rfl
        | some y => simp only [Option.bind_some, Option.map_some, thrL_nil])
      have hxv : (look (subB (B.map (·.1))) t).var = 0 := hv
      have HRW : Hid (RAt (((w1.setCell ⟨w.heap.size, 0, none⟩ (.int .i64 (look (subB (B.map (·.1))) t).var)).setCell ⟨w.heap.size, 1, none⟩ (.string (look (subB (B.map (·.1))) t).name)).setCell ⟨w.heap.size, 2, none⟩ (.slice a1 (look (subB (B.map (·.1))) t).args.length c1)) ok rs g cap B wk) :=
        Lib.hid (((HST.out.keep HBB.out).keep HB1.out).touch (touch_put _ _ _ _ _) (fun b e => by have h1 := HST.out.lt; subst e; exact ⟨by omega, by omega, fun hk => by have := HOK.out _ hk; omega⟩))
      have hsw : (((w1.setCell ⟨w.heap.size, 0, none⟩ (.int .i64 (look (subB (B.map (·.1))) t).var)).setCell ⟨w.heap.size, 1, none⟩ (.string (look (subB (B.map (·.1))) t).name)).setCell ⟨w.heap.size, 2, none⟩ (.slice a1 (look (subB (B.map (·.1))) t).args.length c1)).heap.size = w1.heap.size := by simp [World.setCell]
      generalize (((w1.setCell ⟨w.heap.size, 0, none⟩ (.int .i64 (look (subB (B.map (·.1))) t).var)).setCell ⟨w.heap.size, 1, none⟩ (.string (look (subB (B.map (·.1))) t).name)).setCell ⟨w.heap.size, 2, none⟩ (.slice a1 (look (subB (B.map (·.1))) t).args.length c1)) = W at *
      generalize look (subB (B.map (·.1))) t = x at *
      rw [hv]
      rw [← hsw] at *
      clear HN HLK HB1 HT1 HX4 HX6 hlt1
      have Z0 : Box3 (W.alloc (.cells #[.int .i64 0, .string x.name, .slice none 0 0] 24)) W.heap.size (.int .i64 0) (.string x.name) (.slice none 0 0) := Box3.made W _ _ _
      have BA : Below W.heap.size W (W.alloc (.cells #[.int .i64 0, .string x.name, .slice none 0 0] 24)) := (Below.refl _ _).alloc (Nat.le_refl _) _
      have Z4 := HY4.out.below BA; have Z6 := HY6.out.below BA
      have HZ4 := Lib.hid Z4; have HZ6 := Lib.hid Z6; have HZ0 := Lib.hid Z0
      have HRB := Lib.hid (HRW.out.keep BA)
      have HTB := Lib.hid (HTW.out.keep (Keeps.below BA ok))
      have HWB := Lib.hid (HBW.out.trans (BA.mono HBW.out.size))
      have hsb : (W.alloc (.cells #[.int .i64 0, .string x.name, .slice none 0 0] 24)).heap.size = W.heap.size + 1 := by simp
      have HSB := Lib.hid hsb
      have hWW : w.heap.size + 1 < W.heap.size := HY6.out.lt
      have HXA : Hid (∀ i (h : i < x.args.length), Fit B.length x.args[i]) := Lib.hid fun i h => HFX.out.arg (List.getElem_mem h)
      have hxl : x.args.length ≤ 100000 := HFX.out.len
      have HXF := Lib.hid HF1.out.2
      clear Z0 BA Z4 Z6 hsb hsw
      generalize W.alloc (.cells #[.int .i64 0, .string x.name, .slice none 0 0] 24) = wb at *
      go_loopw [9, 11] (fun y9 y11 wr => ∃ (i : Nat) (L : List TmAt) (y : Value) (r nn : Nat), i ≤ x.args.length ∧ y11 = .int .i64 i ∧ y9 = .int .i64 nn ∧ nn + r = m + 1 ∧ r ≤ m ∧ Hid (thrL (subB (B.map (·.1))) m (x.args.take i) = some (L.map (·.1), r)) ∧ BldRel wb ok W.heap.size x.name L y wr) (fun _ y11 _ => x.args.length - (intOf y11).toNat)
      case atStart => exact ⟨0, [], .slice none 0 0, m, 1, Nat.zero_le _, rfl, rfl, by omega, Nat.le_refl _, Lib.hid (thrL_nil _ _), BldRel.start HZ0.out⟩
      case round =>
        obtain ⟨i, L, y, r, nn, hi, rfl, rfl, hnr, hr, HTH, hrel⟩ := hrel
        have HR := Lib.hid hrel
        obtain ⟨xa, xc, rfl⟩ := hrel.form
        have z4 := (HZ4.out.keep (hrel.touch.block _ HZ4.out.lt (by omega))).c2
        have z6 := (HZ6.out.keep (hrel.touch.block _ HZ6.out.lt (by omega))).all
        have q0 := hrel.box.c0; have q1 := hrel.box.c1; have q2 := hrel.box.c2; have qf := hrel.box.fz
        have KB : Hid (Keeps ok wb wr) := Lib.hid (hrel.touch.keeps fun b hb e => by have := HOK.out b hb; omega)
        have hwr : W.heap.size < wr.heap.size := hrel.box.lt
        have HLl : Hid (L.length = i) := Lib.hid (by
          have := (thrL_le _ _ _ HTH.out).2
          rw [List.length_map, List.length_take] at this; omega)
        clear hrel
        have hsub : (m : Int) + 1 - (nn : Int) = (r : Int) := by omega
        have hnn : (nn : Int) ≤ 1002 := by omega
        have hnn0 : (0 : Int) ≤ (nn : Int) := by omega
        by_cases hlt : i < x.args.length
        · obtain ⟨b, off, a', cap', rfl, hokb, hbs, hc, ht⟩ := HTB.out.at i hlt
          have m0 := (KB.out.cell (p := ⟨b, off + i * 3, none⟩) hokb hbs).trans hc.var
          have m1 := (KB.out.cell (p := ⟨b, off + i * 3 + 1, none⟩) hokb hbs).trans hc.name
          have m2 := (KB.out.cell (p := ⟨b, off + i * 3 + 2, none⟩) hokb hbs).trans hc.args
          have HRA : Hid (RAt wr ok rs g cap B wk) := Lib.hid (HRB.out.touch HR.out.touch fun b e => by have := HST.out.lt; subst e; exact ⟨by omega, by omega, fun hk => by have := HOK.out _ hk; omega⟩)
          have HCL := Lib.hid (IH.out r (by omega) x.args[i] a' cap' wr (by omega) HRA.out hc.fits (ht.keep KB.out) (HXA.out i hlt))
          have HSP : Hid (thrL (subB (B.map (·.1))) m (x.args.take (i + 1)) = (thrL (subB (B.map (·.1))) r [x.args[i]]).map fun z => (L.map (·.1) ++ z.1, z.2)) := Lib.hid (by
            rw [List.take_succ_eq_append_getElem hlt, thrL_append, HTH.out]; rfl)
          have HSQ : Hid (thrL (subB (B.map (·.1))) r [x.args[i]] = none → thrL (subB (B.map (·.1))) m x.args = none) := Lib.hid (fun hn => by
            rw [← List.take_append_drop (i + 1) x.args, thrL_append, HSP.out, hn]; rfl)
          have HLE := Lib.hid (fun z => thrL_le (σ := subB (B.map (·.1))) r [x.args[i]] z)
          clear hc ht
          generalize thrL (subB (B.map (·.1))) r [x.args[i]] = o at *
          cases o with
          | none =>
            have HQ := Lib.hid (HSQ.out rfl)
            clear HSQ HSP
            go_wp2_with (go_at_call 72; refine HCL.out.mono ?_; rintro e w3 ⟨rfl, hb3⟩; have HB3 := Lib.hid hb3; have hl3 : w.heap.size + 1 < w3.heap.size := (by have := hb3.size; omega); obtain ⟨z0, z1, z2, zf⟩ := (HZ6.out.keep ((hb3.block _ (by omega)).trans (HR.out.touch.block _ HZ6.out.lt (by omega)))).all; clear hb3)
            rw [HO.out, HQ.out]
            have BF : Below w.heap.size w w3 := (HWB.out.trans (HR.out.touch.toBelow HWB.out.size (fun b e => by omega))).trans (HB3.out.mono (by omega))
            exact bodyPost_ret (v := .tuple #[.agg #[.int .i64 0, .string ⟨#[]⟩, .slice none 0 0], .int .i64 ((nn : Int) + ((r : Int) + 1)), .bool false]) (by simp [results, Try.results72, go_sem, z0, z1, z2, hl3]) rfl
              ⟨by rw [show (nn : Int) + ((r : Int) + 1) = (((m + 1 : Nat) : Int) + 1) by omega], by repeat' (first | (with_reducible exact BF) | (with_reducible refine below_put ?_ ?_ _ _ _) | (with_reducible refine Below.alloc ?_ ?_ _) | omega | (simp only [aSz]; omega) | (simp only [sSz]; omega))⟩
          | some z =>
            obtain ⟨T, a3, c3, hz1, hz2⟩ : ∃ (T : Tm) (a3 : Option Addr) (c3 : Nat), z.1 = [T] ∧ True := by
              have := (HLE.out z rfl).2
              simp only [List.length_cons, List.length_nil, Nat.zero_add] at this
              obtain ⟨T, hT⟩ := List.length_eq_one_iff.1 this
              exact ⟨T, none, 0, hT, trivial⟩
            obtain ⟨z1, z2⟩ := z
            simp only at hz1
            subst hz1
            have hzr : z2 ≤ r := (HLE.out _ rfl).1
            have hzi : (r : Int) - (z2 : Int) ≤ 1000 := by omega
            have hzi0 : (0 : Int) ≤ (r : Int) - (z2 : Int) := by omega
            have HNT : Hid (thrL (subB (B.map (·.1))) m (x.args.take (i + 1)) = some (L.map (·.1) ++ [T], z2)) := Lib.hid HSP.out
            clear HSQ HSP HLE
            obtain ⟨i0, hi0, hz0', hz1', hz2'⟩ := info_parts Try.infoTm
            go_wp2_with (first
              | (go_at_call 72; refine HCL.out.mono ?_; rintro e w3 ⟨T', a3, c3, hTT, rfl, hf3, ht3, hb3⟩; obtain rfl : T = T' := (by simpa using hTT); have hl3 : W.heap.size < w3.heap.size := (by have := hb3.size; omega); obtain ⟨z0, zz1, zz2, zf⟩ := (HZ6.out.keep ((hb3.block _ (by omega)).trans (HR.out.touch.block _ HZ6.out.lt (by omega)))).all; have k2 := (HR.out.box.below hb3).c2; have kf := (HR.out.box.below hb3).fz; have HF3 := Lib.hid hf3; have HT3 := Lib.hid ht3; have HB3 := Lib.hid hb3; have HO1 := Lib.hid (((ownsRow_below HR.out.own.own hb3).alloc (.cells #[.int .i64 T.var, .string T.name, .slice a3 T.args.length c3] 24)).alloc (.cells #[.int .i64 T.var, .string T.name, .slice a3 T.args.length c3] 24)); clear hf3 ht3 hb3 hTT)
              | (at_builtin; have _g := HO1; refine wpList_append_opt _ rfl _ _ 22 rfl wb.heap.size 24 i0 _ 3 48 Try.underlying22 hi0 hz0' hz1' hz2' rfl (by decide) _ _ _ rfl HO1.out (some ⟨w3.heap.size + 1, 0, none⟩) 1 1 ?d0 (flat [(T, a3, c3)]) rfl (by rw [flat_length]; rfl) ?d1 (flat_one _) ?d2 ?d3 ?d4 ?_))
            · intro h; cases h
            · exact news3 _ T a3 c3 (by simp)
            · have := HLl.out; unfold maxLen; omega
            · have := HLl.out; omega
            · have := HR.out.touch.size; have := HB3.out.size; simp only [aSz]; omega
            · intro v4 w4 hown4 hgrow4 hfr4
              have HNX := Lib.hid (HR.out.next (fun b hb => by have := HOK.out b hb; have := HSB.out; omega) (Nat.le_refl _) HB3.out HF3.out HT3.out (((Below.refl _ _).alloc (Nat.le_refl _) _).alloc (by simp only [aSz]; omega) _) hown4 hgrow4 hfr4)
              obtain ⟨g4, cap4, rfl⟩ := own_shape hown4 (by omega)
              have s2 := HNX.out.1.c2
              have sf := HNX.out.1.fz
              clear hown4 hgrow4 hfr4 k2 kf z0 zz1 zz2 zf
              go_wp2_with fail
              go_roundw
              case measure => simp [intOf]; omega
              case rel => exact ⟨i + 1, L ++ [(T, a3, c3)], _, z2, nn + (r - z2), by omega, by go_num, by congr 1; omega, by omega, by omega, Lib.hid (by rw [HNT.out, List.map_append]; rfl), HNX.out.2⟩
        · obtain ⟨z60, z61, z62, z63⟩ := z6
          have HTA : Hid (thrL (subB (B.map (·.1))) m x.args = some (L.map (·.1), r)) := Lib.hid (by
            have := HTH.out
            rwa [List.take_of_length_le (by omega)] at this)
          have HD := Lib.hid (HR.out.done (w := w) (br := w.heap.size + 1) (t := .mk 0 x.name (L.map (·.1))) HWB.out (by omega) (by omega) (by have := HSB.out; omega) HOK.out HXF.out rfl)
          go_wp2_with fail
          rw [HO.out, HTA.out]
          obtain ⟨a9, c9, he, hf9, ht9, hb9⟩ := HD.out
          exact bodyPost_ret (v := .tuple #[.agg #[.int .i64 0, .string x.name, .slice xa L.length xc], .int .i64 nn, .bool true]) (by simp [results, Try.results72, go_sem, z60, z61, z62]) rfl
            ⟨.mk 0 x.name (L.map (·.1)), a9, c9, rfl, by
              injection he with he
              rw [← he, show (((m + 1 : Nat) : Int) - (r : Int)) = (nn : Int) by omega], hf9, ht9, hb9⟩
    · have HO : Hid (thrL (subB (B.map (·.1))) (m + 1) [t] = some ([VarT (look (subB (B.map (·.1))) t).var], m)) := Lib.hid (by rw [thrL_var hv, thrL_nil]; rfl)
      have hbare := (HFX.out.wf _ (Tm.self_mem _)).2 hv
      have hsw : (((w1.setCell ⟨w.heap.size, 0, none⟩ (.int .i64 (look (subB (B.map (·.1))) t).var)).setCell ⟨w.heap.size, 1, none⟩ (.string (look (subB (B.map (·.1))) t).name)).setCell ⟨w.heap.size, 2, none⟩ (.slice a1 (look (subB (B.map (·.1))) t).args.length c1)).heap.size = w1.heap.size := by simp [World.setCell]
      generalize (((w1.setCell ⟨w.heap.size, 0, none⟩ (.int .i64 (look (subB (B.map (·.1))) t).var)).setCell ⟨w.heap.size, 1, none⟩ (.string (look (subB (B.map (·.1))) t).name)).setCell ⟨w.heap.size, 2, none⟩ (.slice a1 (look (subB (B.map (·.1))) t).args.length c1)) = W at *
      generalize look (subB (B.map (·.1))) t = x at *
      rw [← hsw] at *
      clear HN HLK HB1 HT1 HX4 HX6 hlt1
      have Z0 : Box3 (W.alloc (.cells #[.int .i64 x.var, .string x.name, .slice none 0 0] 24)) W.heap.size (.int .i64 x.var) (.string x.name) (.slice none 0 0) := Box3.made W _ _ _
      have BA : Below W.heap.size W (W.alloc (.cells #[.int .i64 x.var, .string x.name, .slice none 0 0] 24)) := (Below.refl _ _).alloc (Nat.le_refl _) _
      have Z4 := HY4.out.below BA; have Z6 := HY6.out.below BA
      have HWB := Lib.hid (HBW.out.trans (BA.mono HBW.out.size))
      have hWW : w.heap.size + 1 < W.heap.size := HY6.out.lt
      have z4 := Z4.c2; have z60 := Z6.c0; have z61 := Z6.c1; have z62 := Z6.c2; have z63 := Z6.fz
      have q0 := Z0.c0; have q1 := Z0.c1; have q2 := Z0.c2; have qf := Z0.fz
      have hlt6 := Z6.lt
      have hl0 : x.args.length = 0 := by rw [hbare.1]; rfl
      have HNM := Lib.hid hbare.2
      have HI := Lib.hid HF1.out.1
      clear Z0 BA Z4 Z6 hsw hbare hv
      generalize W.alloc (.cells #[.int .i64 x.var, .string x.name, .slice none 0 0] 24) = wb at *
      go_loopw [9, 11] (fun y9 y11 wr => y9 = .int .i64 1 ∧ y11 = .int .i64 0 ∧ Hid (wr = wb)) (fun _ _ _ => 0)
      case atStart => exact ⟨rfl, rfl, Lib.hid rfl⟩
      case round =>
        obtain ⟨rfl, rfl, hw⟩ := hrel
        obtain rfl := hw.out
        clear hw
        go_wp2_with fail
        rw [HO.out]
        exact bodyPost_ret (v := .tuple #[.agg #[.int .i64 x.var, .string x.name, .slice none 0 0], .int .i64 1, .bool true]) (by simp [results, Try.results72, go_sem, z60, z61, z62]) rfl
          ⟨VarT x.var, none, 0, rfl, by
            rw [HNM.out, show (((m + 1 : Nat) : Int) - (m : Int)) = 1 by omega]; rfl, ⟨HI.out, Nat.zero_le _⟩, Ts.empty' _ _, below_put HWB.out (by omega) _ _ _⟩

end Go.Proofs.Ytikmgiapjigghaa

/- Walk: Through. -/
namespace Go.Proofs.Ytikmgiapjigghaa
open Go.RowKit

/-- The blocks that Through touches. -/
abbrev ThrM (bl : Nat) (Md : Nat → Prop) : Nat → Prop := fun b => b = bl ∨ Md b

/-- What Through hands back. -/
def ThrPost {S : Type} (w : World) (ok : Nat → Prop) (bl : Nat) (Md : Nat → Prop) (nm : S → Int → Int × S) (Inv : World → S → Prop) (s : S) (o : Option (List Tm × Nat)) (e : Ending) (w' : World) : Prop :=
  Touch (ThrM bl Md) w w' ∧
  match o with
  | some x => ∃ (T : Tm) (a : Option Addr) (c : Nat), (Tm.rens nm s x.1).1 = [T] ∧ e = .returned (.tuple #[.agg #[.int .i64 T.var, .string T.name, .slice a T.args.length c], .bool true]) ∧ T.fits ∧ Ts w' (OkN ok w) T.args a c ∧
      Inv w' (Tm.rens nm s x.1).2 ∧ w'.heap[bl]? = some (.cells #[.int .i64 x.2] 3 (0, 0))
  | none => e = .returned (.tuple #[.agg #[.int .i64 0, .string ⟨#[]⟩, .slice none 0 0], .bool false]) ∧ ∃ (s' : S) (k : Int), Inv w' s' ∧ w'.heap[bl]? = some (.cells #[.int .i64 k] 3 (0, 0))

theorem setCell_one (w : World) (b : Nat) {x : Value} (y : Value) {e : TypeId} (h : w.heap[b]? = some (.cells #[x] e (0, 0))) : (w.setCell ⟨b, 0, none⟩ y).heap[b]? = some (.cells #[y] e (0, 0)) := by
  rw [heap_setCell_at _ _ _ _ h]; rfl

set_option maxRecDepth 100000 in
set_option maxHeartbeats 4000000 in
theorem ThroughW {S : Type} {nm : S → Int → Int × S} {Inv : World → S → Prop} {Md : Nat → Prop} (hN : Names nm Inv Md 68 #[]) (hI : ∀ w w' s, Inv w s → (∀ b, Md b → w'.heap[b]? = w.heap[b]?) → w.heap.size ≤ w'.heap.size → Inv w' s)
    {ok : Nat → Prop} {bs bm : Nat} {tv : Value} {σ : Sub} {Lt : List Int} {wk bl : Nat} (hE : Ends σ) (m : Nat) : ∀ (s : S) (t : Tm) (a : Option Addr) (c : Nat) (w : World), m ≤ 1000 → StAt w ok bs bm tv σ Lt wk → Inv w s → w.heap[bl]? = some (.cells #[.int .i64 m] 3 (0, 0)) →
      (¬ StM bs bm tv bl ∧ ¬ ok bl) → (∀ b, Md b → b < w.heap.size ∧ ¬ StM bs bm tv b ∧ ¬ ok b ∧ b ≠ bl) → t.fits → Ts w ok t.args a c →
    Calls Try.prog 67 #[.pointer (some ⟨bs, 0, none⟩), .agg #[.int .i64 t.var, .string t.name, .slice a t.args.length c], .pointer (some ⟨bl, 0, none⟩), .func (.func 68) #[] #[]] w (ThrPost w ok bl Md nm Inv s (thrL σ m [t])) := by
  induction m using Nat.strongRecOn with
  | _ m ih =>
  intro s t a c w hm hst hinv hbl hsep hmd hfit hts
  have IH := Lib.hid ih; have HST := Lib.hid hst; have HF := Lib.hid hfit; have HT := Lib.hid hts; have HINV := Lib.hid hinv; have HBL := Lib.hid hbl; have HSEP := Lib.hid hsep; have HMD := Lib.hid hmd; have HE := Lib.hid hE; have HN := Lib.hid hN; have HI := Lib.hid hI
  have hbll : bl < w.heap.size := (Array.getElem?_eq_some_iff.1 hbl).1
  have HOK : Hid (∀ b, ok b → b < w.heap.size ∧ b ≠ bl ∧ ¬ Md b) := Lib.hid fun b hb => ⟨(hst.okb b hb).1, fun e => hsep.2 (e ▸ hb), fun hm => (hmd b hm).2.2.1 hb⟩
  have k0 : w.cell? ⟨bl, 0, none⟩ = some (.int .i64 m) := by simp [World.cell?, hbl]
  have kf : ∀ o, w.frozen? ⟨bl, o, none⟩ = false := fun o => by simp [World.frozen?, hbl]
  clear ih hst hinv hbl hsep hmd hfit hts hE hN hI
  have hmd0 : ∀ d : Int, Hid (Touch (ThrM bl Md) w (w.setCell ⟨bl, 0, none⟩ (.int .i64 d))) := fun d => Lib.hid ((Touch.setCell _ rfl : Touch (fun b => b = bl) w _).mono fun _ _ e => .inl e)
  cases m with
  | zero =>
    have HO : Hid (thrL σ 0 [t] = none) := Lib.hid (thrL_zero _ _ _)
    have T1 := hmd0 (-1)
    clear hmd0
    go_enter Try.func67, Try.ntmps67
    go_wp2_with fail
    rw [HO.out]
    -- ZERO
    have BA : Below (w.setCell ⟨bl, 0, none⟩ (.int .i64 (-1))).heap.size (w.setCell ⟨bl, 0, none⟩ (.int .i64 (-1))) (((w.setCell ⟨bl, 0, none⟩ (.int .i64 (-1))).alloc (.cells #[.int .i64 t.var, .string t.name, .slice a t.args.length c] 24)).alloc (.cells #[.int .i64 0, .string ⟨#[]⟩, .slice none 0 0] 24)) := ((Below.refl _ _).alloc (Nat.le_refl _) _).alloc (by simp) _
    have TT : Touch (fun b => b = bl) w (((w.setCell ⟨bl, 0, none⟩ (.int .i64 (-1))).alloc (.cells #[.int .i64 t.var, .string t.name, .slice a t.args.length c] 24)).alloc (.cells #[.int .i64 0, .string ⟨#[]⟩, .slice none 0 0] 24)) := (Touch.setCell _ rfl : Touch (fun b => b = bl) w _).trans (Touch.below BA)
    exact bodyPost_ret (v := .tuple #[.agg #[.int .i64 0, .string ⟨#[]⟩, .slice none 0 0], .bool false]) (by simp [results, Try.results67, go_sem]) rfl
      ⟨TT.mono fun _ _ e => .inl e, rfl, s, -1, HI.out w _ s HINV.out (fun b hb => TT.block b (HMD.out b hb).1 (HMD.out b hb).2.2.2) TT.size, (BA.block bl (by simpa using hbll)).trans (setCell_one w bl _ HBL.out)⟩
  | succ m =>
    have hm1 : (m : Int) ≤ 1000 := by omega
    have hm0 : (0 : Int) ≤ (m : Int) := by omega
    have hsub0 : (m : Int) + 1 - 1 = (m : Int) := by omega
    have T0 : Touch (fun b => b = bl) w (w.setCell ⟨bl, 0, none⟩ (.int .i64 m)) := Touch.setCell _ rfl
    have HSD := Lib.hid (HST.out.touch T0 fun b e => by subst e; exact HSEP.out)
    have HID := Lib.hid (HI.out w _ s HINV.out (fun b hb => T0.block b (HMD.out b hb).1 (HMD.out b hb).2.2.2) T0.size)
    have HBD := Lib.hid (setCell_one w bl (.int .i64 m) HBL.out)
    have HTD := Lib.hid (HT.out.keep (T0.keeps fun b hb => (HOK.out b hb).2.1))
    have HT0 := Lib.hid T0
    have hsd : (w.setCell ⟨bl, 0, none⟩ (.int .i64 m)).heap.size = w.heap.size := by simp [World.setCell]
    have BB : Below (w.setCell ⟨bl, 0, none⟩ (.int .i64 m)).heap.size (w.setCell ⟨bl, 0, none⟩ (.int .i64 m)) (((w.setCell ⟨bl, 0, none⟩ (.int .i64 m)).alloc (.cells #[.int .i64 t.var, .string t.name, .slice a t.args.length c] 24)).alloc (.cells #[.int .i64 0, .string ⟨#[]⟩, .slice none 0 0] 24)) := ((Below.refl _ _).alloc (Nat.le_refl _) _).alloc (by simp) _
    have HA4 : Hid (Box3 (((w.setCell ⟨bl, 0, none⟩ (.int .i64 m)).alloc (.cells #[.int .i64 t.var, .string t.name, .slice a t.args.length c] 24)).alloc (.cells #[.int .i64 0, .string ⟨#[]⟩, .slice none 0 0] 24)) w.heap.size (.int .i64 t.var) (.string t.name) (.slice a t.args.length c)) := Lib.hid ((Box3.made2 hsd.symm).alloc _)
    have HA6 : Hid (Box3 (((w.setCell ⟨bl, 0, none⟩ (.int .i64 m)).alloc (.cells #[.int .i64 t.var, .string t.name, .slice a t.args.length c] 24)).alloc (.cells #[.int .i64 0, .string ⟨#[]⟩, .slice none 0 0] 24)) (w.heap.size + 1) (.int .i64 0) (.string ⟨#[]⟩) (.slice none 0 0)) := Lib.hid (Box3.made2 (by simp [World.setCell]))
    have HBB := Lib.hid BB
    obtain ⟨n0, hn⟩ := look_spec HE.out t
    have HLN := Lib.hid hn
    have HLK := Lib.hid (LookW (HSD.out.keep BB) HLN.out HF.out (HTD.out.keep (Keeps.below BB ok)))
    have HSDD := Lib.hid hsd
    clear BB hn T0 hsd hmd0
    -- WALK
    have HMX : Hid (∀ b, ThrM bl Md b → b < w.heap.size) := Lib.hid fun b e => e.elim (fun e => by omega) (fun e => (HMD.out b e).1)
    by_cases hv : (look σ t).var = 0
    · have HO : Hid (thrL σ (m + 1) [t] = (thrL σ m (look σ t).args).map fun y => ([.mk 0 (look σ t).name y.1], y.2)) := Lib.hid (by
        rw [thrL_fn hv]
        cases thrL σ m (look σ t).args with
        | none => rfl
        | some y => simp only [Option.bind_some, Option.map_some, thrL_nil])
      have hv1 : ((look σ t).var != 0) = false := by rw [hv]; rfl
      clear hv
      go_enter Try.func67, Try.ntmps67
      go_wp2_with (go_at_call 102; refine HLK.out.mono ?_; rintro e w1 ⟨a1, c1, rfl, hf1, ht1, hb1⟩; have HF1 := Lib.hid hf1; have HT1 := Lib.hid ht1; have HB1 := Lib.hid hb1; have HX4 := Lib.hid (HA4.out.below hb1); have HX6 := Lib.hid (HA6.out.below hb1); obtain ⟨q0, q1, q2, qf⟩ := (HA4.out.below hb1).all; obtain ⟨p0, p1, p2, pf⟩ := (HA6.out.below hb1).all; have hlt1 : w.heap.size + 1 < w1.heap.size := (HA6.out.below hb1).lt; have hlt0 : w.heap.size < w1.heap.size := (HA4.out.below hb1).lt; clear hf1 ht1 hb1)
      have HSL := Lib.hid (HSDD.out)
      have HT1W := Lib.hid (HT0.out.trans (Touch.below (M := fun b => b = bl) (HBB.out.trans (HB1.out.mono HBB.out.size))))
      have TP := touch_put w1 w.heap.size (.int .i64 (look σ t).var) (.string (look σ t).name) (.slice a1 (look σ t).args.length c1)
      have HTP := Lib.hid TP
      have HSW := Lib.hid (((HSD.out.keep HBB.out).keep HB1.out).touch TP fun b e => by subst e; exact ⟨HST.out.notM (Nat.le_refl _), fun hk => by have := (HOK.out _ hk).1; omega⟩)
      have HTTW : Hid (Touch (fun b => b = bl) w (((w1.setCell ⟨w.heap.size, 0, none⟩ (.int .i64 (look σ t).var)).setCell ⟨w.heap.size, 1, none⟩ (.string (look σ t).name)).setCell ⟨w.heap.size, 2, none⟩ (.slice a1 (look σ t).args.length c1))) := Lib.hid ⟨TP.os.trans HT1W.out.os, TP.tape.trans HT1W.out.tape, TP.output.trans HT1W.out.output, Nat.le_trans HT1W.out.size TP.size, fun b hb hn => (TP.block b (Nat.lt_of_lt_of_le hb HT1W.out.size) (fun e => by omega)).trans (HT1W.out.block b hb hn)⟩
      have HIW := Lib.hid (HI.out w _ s HINV.out (fun b hb => HTTW.out.block b (HMD.out b hb).1 (HMD.out b hb).2.2.2) HTTW.out.size)
      have HBW : Hid ((((w1.setCell ⟨w.heap.size, 0, none⟩ (.int .i64 (look σ t).var)).setCell ⟨w.heap.size, 1, none⟩ (.string (look σ t).name)).setCell ⟨w.heap.size, 2, none⟩ (.slice a1 (look σ t).args.length c1)).heap[bl]? = some (.cells #[.int .i64 m] 3 (0, 0))) := Lib.hid ((TP.block bl (by have := HT1W.out.size; omega) (fun e => by omega)).trans (((HBB.out.trans (HB1.out.mono HBB.out.size)).block bl (by have := HSL.out; omega)).trans HBD.out))
      have HY4 := Lib.hid (HX4.out.put (.int .i64 (look σ t).var) (.string (look σ t).name) (.slice a1 (look σ t).args.length c1))
      have HY6 := Lib.hid (HX6.out.other (show w.heap.size + 1 ≠ w.heap.size by omega) (.int .i64 (look σ t).var) (.string (look σ t).name) (.slice a1 (look σ t).args.length c1))
      have HTW := Lib.hid (HT1.out.keep (TP.keeps fun b hb e => by have := (HOK.out b hb).1; omega))
      have hsw : (((w1.setCell ⟨w.heap.size, 0, none⟩ (.int .i64 (look σ t).var)).setCell ⟨w.heap.size, 1, none⟩ (.string (look σ t).name)).setCell ⟨w.heap.size, 2, none⟩ (.slice a1 (look σ t).args.length c1)).heap.size = w1.heap.size := by simp [World.setCell]
      clear q0 q1 q2 qf p0 p1 p2 pf TP
      generalize (((w1.setCell ⟨w.heap.size, 0, none⟩ (.int .i64 (look σ t).var)).setCell ⟨w.heap.size, 1, none⟩ (.string (look σ t).name)).setCell ⟨w.heap.size, 2, none⟩ (.slice a1 (look σ t).args.length c1)) = W at *
      generalize look σ t = x at *
      rw [← hsw] at *
      clear HLN HLK HB1 HT1 HX4 HX6 hlt1 hlt0 HT1W HTP HSL
      have hWW : w.heap.size + 1 < W.heap.size := HY6.out.lt
      have Z0 : Box3 (W.alloc (.cells #[.int .i64 0, .string x.name, .slice none 0 0] 24)) W.heap.size (.int .i64 0) (.string x.name) (.slice none 0 0) := Box3.made W _ _ _
      have BA : Below W.heap.size W (W.alloc (.cells #[.int .i64 0, .string x.name, .slice none 0 0] 24)) := (Below.refl _ _).alloc (Nat.le_refl _) _
      have HZ6 := Lib.hid (HY6.out.below BA)
      have HSB' := Lib.hid (HSW.out.keep BA)
      have HTB := Lib.hid (HTW.out.keep (Keeps.below BA ok))
      have HTTB := Lib.hid (HTTW.out.trans (Touch.below BA))
      have HIB := Lib.hid (HI.out W _ s HIW.out (fun b hb => BA.block b (by have := (HMD.out b hb).1; omega)) BA.size)
      have HBB2 := Lib.hid ((BA.block bl (by omega)).trans HBW.out)
      have hsb : (W.alloc (.cells #[.int .i64 0, .string x.name, .slice none 0 0] 24)).heap.size = W.heap.size + 1 := by simp
      have HSB := Lib.hid hsb
      have hxl : x.args.length ≤ 9223372036854775807 := by have := HTW.out.cap; unfold maxLen at this; omega
      have HXF := Lib.hid HF1.out.2
      have HZ0 := Lib.hid Z0
      clear Z0 BA hsb hsw
      generalize W.alloc (.cells #[.int .i64 0, .string x.name, .slice none 0 0] 24) = wb at *
      go_loopw [42] (fun y42 wr => ∃ (i : Nat) (L : List TmAt) (y : Value) (r : Nat) (s' : S) (Ls : List Tm), i ≤ x.args.length ∧ y42 = .int .i64 i ∧ r ≤ m ∧ Hid (thrL σ m (x.args.take i) = some (Ls, r)) ∧ Hid (L.map (·.1) = (Tm.rens nm s Ls).1 ∧ s' = (Tm.rens nm s Ls).2) ∧ BldM wb (ThrM bl Md) ok W.heap.size x.name L y wr ∧ Inv wr s' ∧ wr.heap[bl]? = some (.cells #[.int .i64 r] 3 (0, 0))) (fun y42 _ => x.args.length - (intOf y42).toNat)
      case atStart => exact ⟨0, [], .slice none 0 0, m, s, [], Nat.zero_le _, rfl, Nat.le_refl _, Lib.hid (thrL_nil _ _), Lib.hid ⟨rfl, rfl⟩, BldM.start HZ0.out, HIB.out, HBB2.out⟩
      case round =>
        obtain ⟨i, L, y, r, s', Ls, hi, rfl, hr, HTH, HLL, hrel, hinv', hblr⟩ := hrel
        have HR := Lib.hid hrel; have HIR := Lib.hid hinv'; have HBR := Lib.hid hblr
        obtain ⟨xa, xc, rfl⟩ := hrel.form
        obtain ⟨z60, z61, z62, z63⟩ := (HZ6.out.keep (hrel.touch.block _ HZ6.out.lt (fun e => e.elim (fun e => by omega) (fun e => by have := HMX.out _ e; omega)))).all
        have KB : Hid (Keeps ok wb wr) := Lib.hid (hrel.touch.keeps fun b hb e => e.elim (fun e => by have := (HOK.out b hb).1; omega) (fun e => e.elim (HOK.out b hb).2.1 (HOK.out b hb).2.2))
        have hwr : W.heap.size < wr.heap.size := hrel.box.lt
        have HLl : Hid (L.length = i ∧ i + r ≤ m) := Lib.hid (by
          have h1 := (thrL_le _ _ _ HTH.out).2
          have h2 := thrL_room _ _ _ HTH.out
          have h3 := congrArg List.length HLL.out.1
          rw [List.length_map, Tm.rens_length] at h3
          rw [List.length_take] at h1 h2
          simp only at h1 h2; omega)
        have HSR : Hid (StAt wr ok bs bm tv σ Lt wk) := Lib.hid (HSB'.out.touch hrel.touch fun b e => by
          rcases e with e | e | e
          · subst e; exact ⟨HST.out.notM (by omega), fun hk => by have := (HOK.out _ hk).1; omega⟩
          · subst e; exact HSEP.out
          · exact ⟨(HMD.out b e).2.1, (HMD.out b e).2.2.1⟩)
        clear hrel hinv' hblr
        by_cases hlt : i < x.args.length
        · obtain ⟨b, off, a', cap', rfl, hokb, hbs, hc, ht⟩ := HTB.out.at i hlt
          have m0 := (KB.out.cell (p := ⟨b, off + i * 3, none⟩) hokb hbs).trans hc.var
          have m1 := (KB.out.cell (p := ⟨b, off + i * 3 + 1, none⟩) hokb hbs).trans hc.name
          have m2 := (KB.out.cell (p := ⟨b, off + i * 3 + 2, none⟩) hokb hbs).trans hc.args
          have BX : Below wr.heap.size wr (wr.alloc (.cells #[.int .i64 x.args[i].var, .string x.args[i].name, .slice a' x.args[i].args.length cap'] 24)) := (Below.refl _ _).alloc (Nat.le_refl _) _
          have HCL := Lib.hid (IH.out r (by omega) s' x.args[i] a' cap' (wr.alloc (.cells #[.int .i64 x.args[i].var, .string x.args[i].name, .slice a' x.args[i].args.length cap'] 24)) (by omega) (HSR.out.keep BX) (HI.out wr _ s' HIR.out (fun b hb => BX.block b (by have := (HMD.out b hb).1; omega)) BX.size) ((BX.block bl (by omega)).trans HBR.out) HSEP.out (fun b hb => ⟨by have := (HMD.out b hb).1; have := BX.size; omega, (HMD.out b hb).2⟩) hc.fits (ht.keep (KB.out.trans (Keeps.below BX ok))))
          have HBX := Lib.hid BX
          have HSP : Hid (thrL σ m (x.args.take (i + 1)) = (thrL σ r [x.args[i]]).map fun z => (Ls ++ z.1, z.2)) := Lib.hid (by
            rw [List.take_succ_eq_append_getElem hlt, thrL_append, HTH.out]; rfl)
          have HSQ : Hid (thrL σ r [x.args[i]] = none → thrL σ m x.args = none) := Lib.hid (fun hn => by
            rw [← List.take_append_drop (i + 1) x.args, thrL_append, HSP.out, hn]; rfl)
          have HLE := Lib.hid (fun z => thrL_le (σ := σ) r [x.args[i]] z)
          clear hc ht BX
          generalize thrL σ r [x.args[i]] = o at *
          cases o with
          | none =>
            have HQ := Lib.hid (HSQ.out rfl)
            clear HSQ HSP
            go_wp2_with (go_at_call 67; refine HCL.out.mono ?_; rintro e w3 ⟨ht3, rfl, s3, k3, hi3, hb3⟩; have hl3 : w.heap.size + 1 < w3.heap.size := (by have := ht3.size; have := HBX.out.size; omega); obtain ⟨y0, y1, y2, yf⟩ := (((HZ6.out.keep (HR.out.touch.block _ HZ6.out.lt (fun e => e.elim (fun e => by omega) (fun e => by have := HMX.out _ e; omega)))).below HBX.out).keep (ht3.block _ (by have := HBX.out.size; omega) (fun e => by have := HMX.out _ e; omega))).all; have HT3 := Lib.hid ht3; have HI3 := Lib.hid hi3; have HB3 := Lib.hid hb3; clear ht3 hi3 hb3)
            rw [HO.out, HQ.out]
            have TA : Touch (fun b => W.heap.size = b ∨ ThrM bl Md b) w w3 := (((HTTB.out.mono fun _ _ e => .inr (.inl e)).trans (HR.out.touch.mono fun _ _ e => e.imp Eq.symm id)).trans (Touch.below HBX.out)).trans (HT3.out.mono fun _ _ e => .inr e)
            have TP := touch_put w3 (w.heap.size + 1) (.int .i64 0) (.string ⟨#[]⟩) (.slice none 0 0)
            have BF : Below (((w3.setCell ⟨w.heap.size + 1, 0, none⟩ (.int .i64 0)).setCell ⟨w.heap.size + 1, 1, none⟩ (.string ⟨#[]⟩)).setCell ⟨w.heap.size + 1, 2, none⟩ (.slice none 0 0)).heap.size (((w3.setCell ⟨w.heap.size + 1, 0, none⟩ (.int .i64 0)).setCell ⟨w.heap.size + 1, 1, none⟩ (.string ⟨#[]⟩)).setCell ⟨w.heap.size + 1, 2, none⟩ (.slice none 0 0)) ((((w3.setCell ⟨w.heap.size + 1, 0, none⟩ (.int .i64 0)).setCell ⟨w.heap.size + 1, 1, none⟩ (.string ⟨#[]⟩)).setCell ⟨w.heap.size + 1, 2, none⟩ (.slice none 0 0)).alloc (.cells #[.int .i64 0, .string ⟨#[]⟩, .slice none 0 0] 24)) := (Below.refl _ _).alloc (Nat.le_refl _) _
            have hps := TP.size
            exact bodyPost_ret (v := .tuple #[.agg #[.int .i64 0, .string ⟨#[]⟩, .slice none 0 0], .bool false]) (by simp [results, Try.results67, go_sem, y0, y1, y2, hl3]) rfl
              ⟨⟨BF.os.trans (TP.os.trans TA.os), BF.tape.trans (TP.tape.trans TA.tape), BF.output.trans (TP.output.trans TA.output), Nat.le_trans TA.size (Nat.le_trans TP.size BF.size), fun b hb hn => (BF.block b (by omega)).trans ((TP.block b (by omega) (fun e => by omega)).trans (TA.block b hb (fun e => e.elim (fun e => by omega) hn)))⟩,
                rfl, s3, k3, HI.out _ _ _ HI3.out (fun b hb => (BF.block b (by have := (HMD.out b hb).1; omega)).trans (TP.block b (by have := (HMD.out b hb).1; omega) (fun e => by have := (HMD.out b hb).1; omega))) (Nat.le_trans TP.size BF.size), (BF.block bl (by omega)).trans ((TP.block bl (by omega) (fun e => by omega)).trans HB3.out)⟩
          | some z =>
            obtain ⟨u1, u2⟩ := z
            have hzr : u2 ≤ r := (HLE.out _ rfl).1
            have HNT : Hid (thrL σ m (x.args.take (i + 1)) = some (Ls ++ u1, u2)) := Lib.hid HSP.out
            clear HSQ HSP HLE
            obtain ⟨i0, hi0, hz0', hz1', hz2'⟩ := info_parts Try.infoTm
            go_wp2_with (first
              | (go_at_call 67; refine HCL.out.mono ?_; rintro e w3 ⟨ht3, T, a3, c3, hTT, rfl, hf3, hts3, hi3, hb3⟩; have hl3 : W.heap.size < w3.heap.size := (by have := ht3.size; have := HBX.out.size; omega); have TB3 := (Touch.below (M := ThrM bl Md) HBX.out).trans ht3; obtain ⟨y0, y1, y2, yf⟩ := (((HZ6.out.keep (HR.out.touch.block _ HZ6.out.lt (fun e => e.elim (fun e => by omega) (fun e => by have := HMX.out _ e; omega)))).below HBX.out).keep (ht3.block _ (by have := HBX.out.size; omega) (fun e => by have := HMX.out _ e; omega))).all; have HBO := HR.out.box.keep (TB3.block _ HR.out.box.lt (fun e => by have := HMX.out _ e; omega)); have k2 := HBO.c2; have kf := HBO.fz; have HO1 := Lib.hid (((ownsRow_block HR.out.own.own (fun gg hg => TB3.block gg (HR.out.own.block hg).2 (fun e => by have := HMX.out _ e; have := (HR.out.own.block hg).1; have := HSB.out; omega))).alloc (.cells #[.int .i64 T.var, .string T.name, .slice a3 T.args.length c3] 24)).alloc (.cells #[.int .i64 T.var, .string T.name, .slice a3 T.args.length c3] 24)); have HT3 := Lib.hid TB3; have HF3 := Lib.hid hf3; have HTS3 := Lib.hid hts3; have HI3 := Lib.hid hi3; have HB3 := Lib.hid hb3; have HTT := Lib.hid hTT; clear ht3 hf3 hts3 hi3 hb3 hTT TB3 HBO)
              | (at_builtin; have _g := HO1; refine wpList_append_opt _ rfl _ _ 22 rfl wb.heap.size 24 i0 _ 3 48 Try.underlying22 hi0 hz0' hz1' hz2' rfl (by decide) _ _ _ rfl HO1.out (some ⟨w3.heap.size + 1, 0, none⟩) 1 1 ?d0 (flat [(T, a3, c3)]) rfl (by rw [flat_length]; rfl) ?d1 (flat_one _) ?d2 ?d3 ?d4 ?_))
            · intro h; cases h
            · exact news3 _ T a3 c3 (by simp)
            · have := HLl.out; unfold maxLen; omega
            · have := HLl.out; omega
            · have := HR.out.touch.size; have := HT3.out.size; simp only [aSz]; omega
            · intro v4 w4 hown4 hgrow4 hfr4
              have BX4 : Below w3.heap.size w3 ((w3.alloc (.cells #[.int .i64 T.var, .string T.name, .slice a3 T.args.length c3] 24)).alloc (.cells #[.int .i64 T.var, .string T.name, .slice a3 T.args.length c3] 24)) := ((Below.refl _ _).alloc (Nat.le_refl _) _).alloc (by simp only [aSz]; omega) _
              have HNX := Lib.hid (HR.out.next (fun b hb => ⟨by have := (HOK.out b hb).1; have := HSB.out; omega, by have := (HOK.out b hb).1; omega, fun e => e.elim (HOK.out b hb).2.1 (HOK.out b hb).2.2⟩) (fun b e => by have := HMX.out b e; have := HSB.out; omega) (HBX.out.size) HT3.out HF3.out HTS3.out BX4 hown4 hgrow4 hfr4)
              have HG4 := Lib.hid hgrow4
              have HOB := Lib.hid (fun gg hg => HR.out.own.block (g := gg) hg)
              obtain ⟨g4, cap4, rfl⟩ := own_shape hown4 (by omega)
              have s2 := HNX.out.1.c2
              have sf := HNX.out.1.fz
              have HB4 := Lib.hid BX4
              clear hown4 hgrow4 hfr4 k2 kf y0 y1 y2 yf BX4
              go_wp2_with fail
              go_roundw
              case measure => simp [intOf]; omega
              case rel =>
                have hkk : ∀ b, ThrM bl Md b → (w4.setCell ⟨W.heap.size, 2, none⟩ (.slice (some ⟨g4, 0, none⟩) (L.length + 1) cap4)).heap[b]? = w3.heap[b]? := fun b e => by
                  have h1 := HMX.out b e
                  rw [Below.heap_setCell _ _ _ _ (show b ≠ W.heap.size by omega), HG4.out.block b (by have := HB4.out.size; omega) (fun e2 => by have := (HOB.out b e2.symm).1; have := HSB.out; omega), HB4.out.block b (by omega)]
                exact ⟨i + 1, L ++ [(T, a3, c3)], _, u2, (Tm.rens nm s' u1).2, Ls ++ u1, by omega, by go_num, by omega, HNT.out, Lib.hid ⟨by rw [List.map_append, Tm.rens_append, HLL.out.1, ← HLL.out.2, HTT.out]; rfl, by rw [Tm.rens_append, ← HLL.out.2]⟩, HNX.out.2,
                  HI.out _ _ _ HI3.out (fun b hb => hkk b (.inr hb)) (by have := HB4.out.size; have := HG4.out.size; simp [World.setCell]; omega), (hkk bl (.inl rfl)).trans HB3.out⟩
        · have HTA : Hid (thrL σ m x.args = some (Ls, r)) := Lib.hid (by
            have := HTH.out
            rwa [List.take_of_length_le (by omega)] at this)
          have HD := Lib.hid (HR.out.done (w := w) (br := w.heap.size + 1) (HTTB.out.mono fun _ _ e => .inl e) (by omega) (by omega) (by have := HSB.out; omega) (fun b hb => (HOK.out b hb).1))
          obtain ⟨q0, q1, q2, qf⟩ := HR.out.box.all
          go_wp2_with fail
          rw [HO.out, HTA.out]
          obtain ⟨a9, c9, he, ht9, hb9⟩ := HD.out
          injection he with he1 he2 he3
          subst he1; subst he3
          have TP := touch_put wr (w.heap.size + 1) (.int .i64 0) (.string x.name) (.slice xa L.length xc)
          have hRE : Tm.rens nm s [.mk 0 x.name Ls] = ([.mk 0 x.name (L.map (·.1))], s') := by
            simp [Tm.rens, Tm.ren, HLL.out.1, HLL.out.2]
          exact bodyPost_ret (v := .tuple #[.agg #[.int .i64 0, .string x.name, .slice xa L.length xc], .bool true]) (by simp [results, Try.results67, go_sem, z60, z61, z62]) rfl
            ⟨hb9, .mk 0 x.name (List.map (fun y : TmAt => y.1) L), xa, xc, by simp only; rw [hRE], by simp [Tm.var, Tm.name, Tm.args], ⟨(by show -9223372036854775808 ≤ (0 : Int) ∧ (0 : Int) ≤ 9223372036854775807; omega), HXF.out⟩, ht9,
              by simp only; rw [hRE]; exact HI.out _ _ _ HIR.out (fun b hb => TP.block b (by have := (HMD.out b hb).1; omega) (fun e => by have := (HMD.out b hb).1; omega)) TP.size, (TP.block bl (by omega) (fun e => by omega)).trans HBR.out⟩
    · have HO : Hid (thrL σ (m + 1) [t] = some ([VarT (look σ t).var], m)) := Lib.hid (by rw [thrL_var hv, thrL_nil]; rfl)
      have hv1 : ((look σ t).var != 0) = true := by rw [bne_iff_ne]; exact hv
      have HV := Lib.hid hv
      clear hv
      go_enter Try.func67, Try.ntmps67
      go_wp2_with (go_at_call 102; refine HLK.out.mono ?_; rintro e w1 ⟨a1, c1, rfl, hf1, ht1, hb1⟩; have HF1 := Lib.hid hf1; have HT1 := Lib.hid ht1; have HB1 := Lib.hid hb1; have HX4 := Lib.hid (HA4.out.below hb1); have HX6 := Lib.hid (HA6.out.below hb1); obtain ⟨q0, q1, q2, qf⟩ := (HA4.out.below hb1).all; obtain ⟨p0, p1, p2, pf⟩ := (HA6.out.below hb1).all; have hlt1 : w.heap.size + 1 < w1.heap.size := (HA6.out.below hb1).lt; have hlt0 : w.heap.size < w1.heap.size := (HA4.out.below hb1).lt; clear hf1 ht1 hb1)
      have HSL := Lib.hid (HSDD.out)
      have HT1W := Lib.hid (HT0.out.trans (Touch.below (M := fun b => b = bl) (HBB.out.trans (HB1.out.mono HBB.out.size))))
      have TP := touch_put w1 w.heap.size (.int .i64 (look σ t).var) (.string (look σ t).name) (.slice a1 (look σ t).args.length c1)
      have HTP := Lib.hid TP
      have HSW := Lib.hid (((HSD.out.keep HBB.out).keep HB1.out).touch TP fun b e => by subst e; exact ⟨HST.out.notM (Nat.le_refl _), fun hk => by have := (HOK.out _ hk).1; omega⟩)
      have HTTW : Hid (Touch (fun b => b = bl) w (((w1.setCell ⟨w.heap.size, 0, none⟩ (.int .i64 (look σ t).var)).setCell ⟨w.heap.size, 1, none⟩ (.string (look σ t).name)).setCell ⟨w.heap.size, 2, none⟩ (.slice a1 (look σ t).args.length c1))) := Lib.hid ⟨TP.os.trans HT1W.out.os, TP.tape.trans HT1W.out.tape, TP.output.trans HT1W.out.output, Nat.le_trans HT1W.out.size TP.size, fun b hb hn => (TP.block b (Nat.lt_of_lt_of_le hb HT1W.out.size) (fun e => by omega)).trans (HT1W.out.block b hb hn)⟩
      have HIW := Lib.hid (HI.out w _ s HINV.out (fun b hb => HTTW.out.block b (HMD.out b hb).1 (HMD.out b hb).2.2.2) HTTW.out.size)
      have HBW : Hid ((((w1.setCell ⟨w.heap.size, 0, none⟩ (.int .i64 (look σ t).var)).setCell ⟨w.heap.size, 1, none⟩ (.string (look σ t).name)).setCell ⟨w.heap.size, 2, none⟩ (.slice a1 (look σ t).args.length c1)).heap[bl]? = some (.cells #[.int .i64 m] 3 (0, 0))) := Lib.hid ((TP.block bl (by have := HT1W.out.size; omega) (fun e => by omega)).trans (((HBB.out.trans (HB1.out.mono HBB.out.size)).block bl (by have := HSL.out; omega)).trans HBD.out))
      have HY4 := Lib.hid (HX4.out.put (.int .i64 (look σ t).var) (.string (look σ t).name) (.slice a1 (look σ t).args.length c1))
      have HY6 := Lib.hid (HX6.out.other (show w.heap.size + 1 ≠ w.heap.size by omega) (.int .i64 (look σ t).var) (.string (look σ t).name) (.slice a1 (look σ t).args.length c1))
      have HTW := Lib.hid (HT1.out.keep (TP.keeps fun b hb e => by have := (HOK.out b hb).1; omega))
      have hsw : (((w1.setCell ⟨w.heap.size, 0, none⟩ (.int .i64 (look σ t).var)).setCell ⟨w.heap.size, 1, none⟩ (.string (look σ t).name)).setCell ⟨w.heap.size, 2, none⟩ (.slice a1 (look σ t).args.length c1)).heap.size = w1.heap.size := by simp [World.setCell]
      clear q0 q1 q2 qf p0 p1 p2 pf TP
      generalize (((w1.setCell ⟨w.heap.size, 0, none⟩ (.int .i64 (look σ t).var)).setCell ⟨w.heap.size, 1, none⟩ (.string (look σ t).name)).setCell ⟨w.heap.size, 2, none⟩ (.slice a1 (look σ t).args.length c1)) = W at *
      generalize look σ t = x at *
      rw [← hsw] at *
      clear HLN HLK HB1 HT1 HX4 HX6 hlt1 hlt0 HT1W HTP HSL
      have HC : Hid (Calls Try.prog 68 #[.int .i64 x.var] W fun e w' => e = .returned (.int .i64 (nm s x.var).1) ∧ Inv w' (nm s x.var).2 ∧ I64 (nm s x.var).1 ∧ Touch Md W w') := Lib.hid (by
        have := HN.out W s x.var HIW.out HF1.out.1
        have e : (#[Value.int .i64 x.var] ++ #[]) = #[Value.int .i64 x.var] := rfl
        rw [e] at this
        exact this)
      refine HC.out.mono ?_
      rintro e w2 ⟨rfl, hi2, h64, ht2⟩
      have HI2 := Lib.hid hi2; have H64 := Lib.hid h64; have HT2 := Lib.hid ht2
      have hl6 := HY6.out.lt
      obtain ⟨z60, z61, z62, z63⟩ := (HY6.out.keep (ht2.block _ hl6 (fun hm => by have := (HMD.out _ hm).1; omega))).all
      have hs2 := ht2.size
      have hl7 : w.heap.size + 1 < w2.heap.size := by omega
      clear hi2 h64 ht2
      obtain ⟨q, hq⟩ : ∃ q, (nm s x.var).1 = q := ⟨_, rfl⟩
      have HQ := Lib.hid hq
      rw [hq] at H64 ⊢
      clear hq
      go_wp2_with fail
      rw [HO.out]
      have TP := touch_put w2 (w.heap.size + 1) (.int .i64 q) (.string ⟨#[]⟩) (.slice none 0 0)
      have TA : Touch (ThrM bl Md) w w2 := (HTTW.out.mono fun _ _ e => .inl e).trans (HT2.out.mono fun _ _ e => .inr e)
      have HRE : Hid ((Tm.rens nm s [VarT x.var]).1 = [.mk (nm s x.var).1 ⟨#[]⟩ []] ∧ (Tm.rens nm s [VarT x.var]).2 = (nm s x.var).2) := Lib.hid (by
        have := HV.out
        simp [Tm.rens, Tm.ren, this])
      exact bodyPost_ret (v := .tuple #[.agg #[.int .i64 q, .string ⟨#[]⟩, .slice none 0 0], .bool true]) (by simp [results, Try.results67, go_sem, z60, z61, z62]) rfl
        ⟨⟨TP.os.trans TA.os, TP.tape.trans TA.tape, TP.output.trans TA.output, Nat.le_trans TA.size TP.size, fun b hb hn => (TP.block b (Nat.lt_of_lt_of_le hb TA.size) (fun e => by omega)).trans (TA.block b hb hn)⟩,
          VarT q, none, 0, by rw [HRE.out.1, HQ.out], rfl, ⟨H64.out, Nat.zero_le _⟩, Ts.empty' _ _, by rw [HRE.out.2]; exact HI.out _ _ _ HI2.out (fun b hb => TP.block b (by have := (HMD.out b hb).1; omega) (fun e => by have := (HMD.out b hb).1; omega)) TP.size,
          (TP.block bl (by omega) (fun e => by omega)).trans ((HT2.out.block bl (by omega) (fun hm => (HMD.out bl hm).2.2.2 rfl)).trans HBW.out)⟩

end Go.Proofs.Ytikmgiapjigghaa

/- Walk: Full of a State inside a Search. -/
namespace Go.Proofs.Ytikmgiapjigghaa.Emb
open Go.RowKit Go.Proofs.Ytikmgiapjigghaa

variable {Z : SrZ}

set_option maxRecDepth 100000 in
set_option maxHeartbeats 4000000 in
theorem FullW {ok : Nat → Prop} {rs g cap : Nat} {B : List TmAt} {wk : Nat} (hB : FB (B.map (·.1))) (m : Nat) : ∀ (t : Tm) (a : Option Addr) (c : Nat) (w : World), m ≤ 1000 → RAt Z w ok rs g cap B wk → t.fits → Ts w ok t.args a c → Fit B.length t →
    Calls Try.prog 72 #[.pointer (some ⟨rs, 1, none⟩), .agg #[.int .i64 t.var, .string t.name, .slice a t.args.length c], .int .i64 m] w (FullPost w ok m (thrL (subB (B.map (·.1))) m [t])) := by
  induction m using Nat.strongRecOn with
  | _ m ih =>
  intro t a c w hm hst hfit hts hin
  have IH := Lib.hid ih; have HB := Lib.hid hB; have HST := Lib.hid hst; have HF := Lib.hid hfit; have HT := Lib.hid hts; have HIN := Lib.hid hin
  clear ih hB hst hfit hts hin
  have BB : Below w.heap.size w ((w.alloc (.cells #[.int .i64 t.var, .string t.name, .slice a t.args.length c] 24)).alloc (.cells #[.int .i64 0, .string ⟨#[]⟩, .slice none 0 0] 24)) := ((Below.refl _ _).alloc (Nat.le_refl _) _).alloc (by simp) _
  have A4 : Box3 ((w.alloc (.cells #[.int .i64 t.var, .string t.name, .slice a t.args.length c] 24)).alloc (.cells #[.int .i64 0, .string ⟨#[]⟩, .slice none 0 0] 24)) w.heap.size (.int .i64 t.var) (.string t.name) (.slice a t.args.length c) := (Box3.made w _ _ _).alloc _
  have A6 : Box3 ((w.alloc (.cells #[.int .i64 t.var, .string t.name, .slice a t.args.length c] 24)).alloc (.cells #[.int .i64 0, .string ⟨#[]⟩, .slice none 0 0] 24)) (w.heap.size + 1) (.int .i64 0) (.string ⟨#[]⟩) (.slice none 0 0) := Box3.made2 (by simp)
  have HBB := Lib.hid BB; have HA4 := Lib.hid A4; have HA6 := Lib.hid A6
  have HOK : Hid (∀ b, ok b → b < w.heap.size) := Lib.hid fun b hb => (HST.out.okb b hb).1
  clear BB A4 A6
  have HIB : Hid (∀ i (hi : i < B.length), InB B B[i].1) := Lib.hid (fun i hi => by
    have := (HB.out.each B[i].1 (List.mem_map.2 ⟨_, List.getElem_mem hi, rfl⟩)).pos
    rw [List.length_map] at this
    exact this)
  obtain ⟨n0, hn⟩ := look_spec HB.out.inv.rank.ends t
  have HN := Lib.hid hn
  have HLK := Lib.hid (LookAtW (HST.out.keep HBB.out) HIB.out HN.out HF.out (HT.out.keep (Keeps.below HBB.out ok)) HIN.out.pos)
  have HFX : Hid (Fit B.length (look (subB (B.map (·.1))) t)) := Lib.hid (by
    have := HB.out.look (t := t) (by rw [List.length_map]; exact HIN.out)
    rwa [List.length_map] at this)
  have hsz2 : ((w.alloc (.cells #[.int .i64 t.var, .string t.name, .slice a t.args.length c] 24)).alloc (.cells #[.int .i64 0, .string ⟨#[]⟩, .slice none 0 0] 24)).heap.size = w.heap.size + 2 := by simp
  have HSZ2 := Lib.hid hsz2
  clear hn hsz2
  cases m with
  | zero =>
    have HO : Hid (thrL (subB (B.map (·.1))) 0 [t] = none) := Lib.hid (thrL_zero _ _ _)
    go_enter Try.func72, Try.ntmps72
    go_wp2_with (go_at_call 71; refine HLK.out.mono ?_; rintro e w1 ⟨a1, c1, rfl, hf1, ht1, hb1⟩; have HF1 := Lib.hid hf1; have HT1 := Lib.hid ht1; have HB1 := Lib.hid hb1; have X4 := HA4.out.below hb1; have X6 := HA6.out.below hb1; have q0 := X4.c0; have q1 := X4.c1; have q2 := X4.c2; have qf := X4.fz; have HX4 := Lib.hid X4; have HX6 := Lib.hid X6; have p0 := X6.c0; have p1 := X6.c1; have p2 := X6.c2; have pf := X6.fz; have hlt1 : w.heap.size + 1 < w1.heap.size := X6.lt; clear hf1 ht1 hb1 X4 X6)
    rw [HO.out]
    have hs := HSZ2.out
    have hx := HB1.out.size
    exact bodyPost_ret (v := .tuple #[.agg #[.int .i64 0, .string ⟨#[]⟩, .slice none 0 0], .int .i64 1, .bool false]) (by simp [results, Try.results72, go_sem, p0, p1, p2]) rfl
      ⟨rfl, by repeat' (first | (with_reducible exact Below.refl _ _) | (with_reducible refine below_put ?_ ?_ _ _ _) | (with_reducible refine Below.alloc ?_ ?_ _) | (with_reducible refine Below.drew ?_) | (with_reducible refine Below.up ?_ HB1.out ?_) | (with_reducible exact HBB.out) | omega | (simp only [aSz]; omega) | (simp only [sSz]; omega))⟩
  | succ m =>
    have hm1 : (m : Int) ≤ 1000 := by omega
    have hm0 : (1 : Int) ≤ (m : Int) + 1 := by omega
    go_enter Try.func72, Try.ntmps72
    go_wp2_with (go_at_call 71; refine HLK.out.mono ?_; rintro e w1 ⟨a1, c1, rfl, hf1, ht1, hb1⟩; have HF1 := Lib.hid hf1; have HT1 := Lib.hid ht1; have HB1 := Lib.hid hb1; have X4 := HA4.out.below hb1; have X6 := HA6.out.below hb1; have q0 := X4.c0; have q1 := X4.c1; have q2 := X4.c2; have qf := X4.fz; have HX4 := Lib.hid X4; have HX6 := Lib.hid X6; have p0 := X6.c0; have p1 := X6.c1; have p2 := X6.c2; have pf := X6.fz; have hlt1 : w.heap.size + 1 < w1.heap.size := X6.lt; clear hf1 ht1 hb1 X4 X6)
    have hs := HSZ2.out
    have hx := HB1.out.size
    have BW : Below w.heap.size w (((w1.setCell ⟨w.heap.size, 0, none⟩ (.int .i64 (look (subB (B.map (·.1))) t).var)).setCell ⟨w.heap.size, 1, none⟩ (.string (look (subB (B.map (·.1))) t).name)).setCell ⟨w.heap.size, 2, none⟩ (.slice a1 (look (subB (B.map (·.1))) t).args.length c1)) := by
      repeat' (first | (with_reducible exact Below.refl _ _) | (with_reducible refine below_put ?_ ?_ _ _ _) | (with_reducible refine Below.alloc ?_ ?_ _) | (with_reducible refine Below.drew ?_) | (with_reducible refine Below.up ?_ HB1.out ?_) | (with_reducible exact HBB.out) | omega | (simp only [aSz]; omega) | (simp only [sSz]; omega))
    have Y4 := HX4.out.put (.int .i64 (look (subB (B.map (·.1))) t).var) (.string (look (subB (B.map (·.1))) t).name) (.slice a1 (look (subB (B.map (·.1))) t).args.length c1)
    have Y6 := HX6.out.other (show w.heap.size + 1 ≠ w.heap.size by omega) (.int .i64 (look (subB (B.map (·.1))) t).var) (.string (look (subB (B.map (·.1))) t).name) (.slice a1 (look (subB (B.map (·.1))) t).args.length c1)
    have HBW := Lib.hid BW; have HY4 := Lib.hid Y4; have HY6 := Lib.hid Y6
    have HTW : Hid (Ts (((w1.setCell ⟨w.heap.size, 0, none⟩ (.int .i64 (look (subB (B.map (·.1))) t).var)).setCell ⟨w.heap.size, 1, none⟩ (.string (look (subB (B.map (·.1))) t).name)).setCell ⟨w.heap.size, 2, none⟩ (.slice a1 (look (subB (B.map (·.1))) t).args.length c1)) ok (look (subB (B.map (·.1))) t).args a1 c1) :=
      Lib.hid (Ts.belowOk HOK.out (below_put (Below.refl w.heap.size w1) (Nat.le_refl _) _ _ _) HT1.out)
    clear q0 q1 q2 qf p0 p1 p2 pf hs hx BW Y4 Y6
    by_cases hv : (look (subB (B.map (·.1))) t).var = 0
    · have HO : Hid (thrL (subB (B.map (·.1))) (m + 1) [t] = (thrL (subB (B.map (·.1))) m (look (subB (B.map (·.1))) t).args).map fun y => ([.mk 0 (look (subB (B.map (·.1))) t).name y.1], y.2)) := Lib.hid (by
        rw [thrL_fn hv]
        cases thrL (subB (B.map (·.1))) m (look (subB (B.map (·.1))) t).args with
        | none => rfl
        | some y => simp only [Option.bind_some, Option.map_some, thrL_nil])
      have hxv : (look (subB (B.map (·.1))) t).var = 0 := hv
      have HRW : Hid (RAt Z (((w1.setCell ⟨w.heap.size, 0, none⟩ (.int .i64 (look (subB (B.map (·.1))) t).var)).setCell ⟨w.heap.size, 1, none⟩ (.string (look (subB (B.map (·.1))) t).name)).setCell ⟨w.heap.size, 2, none⟩ (.slice a1 (look (subB (B.map (·.1))) t).args.length c1)) ok rs g cap B wk) :=
        Lib.hid (((HST.out.keep HBB.out).keep HB1.out).touch (touch_put _ _ _ _ _) (fun b e => by have h1 := HST.out.lt; subst e; exact ⟨by omega, by omega, fun hk => by have := HOK.out _ hk; omega⟩))
      have hsw : (((w1.setCell ⟨w.heap.size, 0, none⟩ (.int .i64 (look (subB (B.map (·.1))) t).var)).setCell ⟨w.heap.size, 1, none⟩ (.string (look (subB (B.map (·.1))) t).name)).setCell ⟨w.heap.size, 2, none⟩ (.slice a1 (look (subB (B.map (·.1))) t).args.length c1)).heap.size = w1.heap.size := by simp [World.setCell]
      generalize (((w1.setCell ⟨w.heap.size, 0, none⟩ (.int .i64 (look (subB (B.map (·.1))) t).var)).setCell ⟨w.heap.size, 1, none⟩ (.string (look (subB (B.map (·.1))) t).name)).setCell ⟨w.heap.size, 2, none⟩ (.slice a1 (look (subB (B.map (·.1))) t).args.length c1)) = W at *
      generalize look (subB (B.map (·.1))) t = x at *
      rw [hv]
      rw [← hsw] at *
      clear HN HLK HB1 HT1 HX4 HX6 hlt1
      have Z0 : Box3 (W.alloc (.cells #[.int .i64 0, .string x.name, .slice none 0 0] 24)) W.heap.size (.int .i64 0) (.string x.name) (.slice none 0 0) := Box3.made W _ _ _
      have BA : Below W.heap.size W (W.alloc (.cells #[.int .i64 0, .string x.name, .slice none 0 0] 24)) := (Below.refl _ _).alloc (Nat.le_refl _) _
      have Z4 := HY4.out.below BA; have Z6 := HY6.out.below BA
      have HZ4 := Lib.hid Z4; have HZ6 := Lib.hid Z6; have HZ0 := Lib.hid Z0
      have HRB := Lib.hid (HRW.out.keep BA)
      have HTB := Lib.hid (HTW.out.keep (Keeps.below BA ok))
      have HWB := Lib.hid (HBW.out.trans (BA.mono HBW.out.size))
      have hsb : (W.alloc (.cells #[.int .i64 0, .string x.name, .slice none 0 0] 24)).heap.size = W.heap.size + 1 := by simp
      have HSB := Lib.hid hsb
      have hWW : w.heap.size + 1 < W.heap.size := HY6.out.lt
      have HXA : Hid (∀ i (h : i < x.args.length), Fit B.length x.args[i]) := Lib.hid fun i h => HFX.out.arg (List.getElem_mem h)
      have hxl : x.args.length ≤ 100000 := HFX.out.len
      have HXF := Lib.hid HF1.out.2
      clear Z0 BA Z4 Z6 hsb hsw
      generalize W.alloc (.cells #[.int .i64 0, .string x.name, .slice none 0 0] 24) = wb at *
      go_loopw [9, 11] (fun y9 y11 wr => ∃ (i : Nat) (L : List TmAt) (y : Value) (r nn : Nat), i ≤ x.args.length ∧ y11 = .int .i64 i ∧ y9 = .int .i64 nn ∧ nn + r = m + 1 ∧ r ≤ m ∧ Hid (thrL (subB (B.map (·.1))) m (x.args.take i) = some (L.map (·.1), r)) ∧ BldRel wb ok W.heap.size x.name L y wr) (fun _ y11 _ => x.args.length - (intOf y11).toNat)
      case atStart => exact ⟨0, [], .slice none 0 0, m, 1, Nat.zero_le _, rfl, rfl, by omega, Nat.le_refl _, Lib.hid (thrL_nil _ _), BldRel.start HZ0.out⟩
      case round =>
        obtain ⟨i, L, y, r, nn, hi, rfl, rfl, hnr, hr, HTH, hrel⟩ := hrel
        have HR := Lib.hid hrel
        obtain ⟨xa, xc, rfl⟩ := hrel.form
        have z4 := (HZ4.out.keep (hrel.touch.block _ HZ4.out.lt (by omega))).c2
        have z6 := (HZ6.out.keep (hrel.touch.block _ HZ6.out.lt (by omega))).all
        have q0 := hrel.box.c0; have q1 := hrel.box.c1; have q2 := hrel.box.c2; have qf := hrel.box.fz
        have KB : Hid (Keeps ok wb wr) := Lib.hid (hrel.touch.keeps fun b hb e => by have := HOK.out b hb; omega)
        have hwr : W.heap.size < wr.heap.size := hrel.box.lt
        have HLl : Hid (L.length = i) := Lib.hid (by
          have := (thrL_le _ _ _ HTH.out).2
          rw [List.length_map, List.length_take] at this; omega)
        clear hrel
        have hsub : (m : Int) + 1 - (nn : Int) = (r : Int) := by omega
        have hnn : (nn : Int) ≤ 1002 := by omega
        have hnn0 : (0 : Int) ≤ (nn : Int) := by omega
        by_cases hlt : i < x.args.length
        · obtain ⟨b, off, a', cap', rfl, hokb, hbs, hc, ht⟩ := HTB.out.at i hlt
          have m0 := (KB.out.cell (p := ⟨b, off + i * 3, none⟩) hokb hbs).trans hc.var
          have m1 := (KB.out.cell (p := ⟨b, off + i * 3 + 1, none⟩) hokb hbs).trans hc.name
          have m2 := (KB.out.cell (p := ⟨b, off + i * 3 + 2, none⟩) hokb hbs).trans hc.args
          have HRA : Hid (RAt Z wr ok rs g cap B wk) := Lib.hid (HRB.out.touch HR.out.touch fun b e => by have := HST.out.lt; subst e; exact ⟨by omega, by omega, fun hk => by have := HOK.out _ hk; omega⟩)
          have HCL := Lib.hid (IH.out r (by omega) x.args[i] a' cap' wr (by omega) HRA.out hc.fits (ht.keep KB.out) (HXA.out i hlt))
          have HSP : Hid (thrL (subB (B.map (·.1))) m (x.args.take (i + 1)) = (thrL (subB (B.map (·.1))) r [x.args[i]]).map fun z => (L.map (·.1) ++ z.1, z.2)) := Lib.hid (by
            rw [List.take_succ_eq_append_getElem hlt, thrL_append, HTH.out]; rfl)
          have HSQ : Hid (thrL (subB (B.map (·.1))) r [x.args[i]] = none → thrL (subB (B.map (·.1))) m x.args = none) := Lib.hid (fun hn => by
            rw [← List.take_append_drop (i + 1) x.args, thrL_append, HSP.out, hn]; rfl)
          have HLE := Lib.hid (fun z => thrL_le (σ := subB (B.map (·.1))) r [x.args[i]] z)
          clear hc ht
          generalize thrL (subB (B.map (·.1))) r [x.args[i]] = o at *
          cases o with
          | none =>
            have HQ := Lib.hid (HSQ.out rfl)
            clear HSQ HSP
            go_wp2_with (go_at_call 72; refine HCL.out.mono ?_; rintro e w3 ⟨rfl, hb3⟩; have HB3 := Lib.hid hb3; have hl3 : w.heap.size + 1 < w3.heap.size := (by have := hb3.size; omega); obtain ⟨z0, z1, z2, zf⟩ := (HZ6.out.keep ((hb3.block _ (by omega)).trans (HR.out.touch.block _ HZ6.out.lt (by omega)))).all; clear hb3)
            rw [HO.out, HQ.out]
            have BF : Below w.heap.size w w3 := (HWB.out.trans (HR.out.touch.toBelow HWB.out.size (fun b e => by omega))).trans (HB3.out.mono (by omega))
            exact bodyPost_ret (v := .tuple #[.agg #[.int .i64 0, .string ⟨#[]⟩, .slice none 0 0], .int .i64 ((nn : Int) + ((r : Int) + 1)), .bool false]) (by simp [results, Try.results72, go_sem, z0, z1, z2, hl3]) rfl
              ⟨by rw [show (nn : Int) + ((r : Int) + 1) = (((m + 1 : Nat) : Int) + 1) by omega], by repeat' (first | (with_reducible exact BF) | (with_reducible refine below_put ?_ ?_ _ _ _) | (with_reducible refine Below.alloc ?_ ?_ _) | omega | (simp only [aSz]; omega) | (simp only [sSz]; omega))⟩
          | some z =>
            obtain ⟨T, a3, c3, hz1, hz2⟩ : ∃ (T : Tm) (a3 : Option Addr) (c3 : Nat), z.1 = [T] ∧ True := by
              have := (HLE.out z rfl).2
              simp only [List.length_cons, List.length_nil, Nat.zero_add] at this
              obtain ⟨T, hT⟩ := List.length_eq_one_iff.1 this
              exact ⟨T, none, 0, hT, trivial⟩
            obtain ⟨z1, z2⟩ := z
            simp only at hz1
            subst hz1
            have hzr : z2 ≤ r := (HLE.out _ rfl).1
            have hzi : (r : Int) - (z2 : Int) ≤ 1000 := by omega
            have hzi0 : (0 : Int) ≤ (r : Int) - (z2 : Int) := by omega
            have HNT : Hid (thrL (subB (B.map (·.1))) m (x.args.take (i + 1)) = some (L.map (·.1) ++ [T], z2)) := Lib.hid HSP.out
            clear HSQ HSP HLE
            obtain ⟨i0, hi0, hz0', hz1', hz2'⟩ := info_parts Try.infoTm
            go_wp2_with (first
              | (go_at_call 72; refine HCL.out.mono ?_; rintro e w3 ⟨T', a3, c3, hTT, rfl, hf3, ht3, hb3⟩; obtain rfl : T = T' := (by simpa using hTT); have hl3 : W.heap.size < w3.heap.size := (by have := hb3.size; omega); obtain ⟨z0, zz1, zz2, zf⟩ := (HZ6.out.keep ((hb3.block _ (by omega)).trans (HR.out.touch.block _ HZ6.out.lt (by omega)))).all; have k2 := (HR.out.box.below hb3).c2; have kf := (HR.out.box.below hb3).fz; have HF3 := Lib.hid hf3; have HT3 := Lib.hid ht3; have HB3 := Lib.hid hb3; have HO1 := Lib.hid (((ownsRow_below HR.out.own.own hb3).alloc (.cells #[.int .i64 T.var, .string T.name, .slice a3 T.args.length c3] 24)).alloc (.cells #[.int .i64 T.var, .string T.name, .slice a3 T.args.length c3] 24)); clear hf3 ht3 hb3 hTT)
              | (at_builtin; have _g := HO1; refine wpList_append_opt _ rfl _ _ 22 rfl wb.heap.size 24 i0 _ 3 48 Try.underlying22 hi0 hz0' hz1' hz2' rfl (by decide) _ _ _ rfl HO1.out (some ⟨w3.heap.size + 1, 0, none⟩) 1 1 ?d0 (flat [(T, a3, c3)]) rfl (by rw [flat_length]; rfl) ?d1 (flat_one _) ?d2 ?d3 ?d4 ?_))
            · intro h; cases h
            · exact news3 _ T a3 c3 (by simp)
            · have := HLl.out; unfold maxLen; omega
            · have := HLl.out; omega
            · have := HR.out.touch.size; have := HB3.out.size; simp only [aSz]; omega
            · intro v4 w4 hown4 hgrow4 hfr4
              have HNX := Lib.hid (HR.out.next (fun b hb => by have := HOK.out b hb; have := HSB.out; omega) (Nat.le_refl _) HB3.out HF3.out HT3.out (((Below.refl _ _).alloc (Nat.le_refl _) _).alloc (by simp only [aSz]; omega) _) hown4 hgrow4 hfr4)
              obtain ⟨g4, cap4, rfl⟩ := own_shape hown4 (by omega)
              have s2 := HNX.out.1.c2
              have sf := HNX.out.1.fz
              clear hown4 hgrow4 hfr4 k2 kf z0 zz1 zz2 zf
              go_wp2_with fail
              go_roundw
              case measure => simp [intOf]; omega
              case rel => exact ⟨i + 1, L ++ [(T, a3, c3)], _, z2, nn + (r - z2), by omega, by go_num, by congr 1; omega, by omega, by omega, Lib.hid (by rw [HNT.out, List.map_append]; rfl), HNX.out.2⟩
        · obtain ⟨z60, z61, z62, z63⟩ := z6
          have HTA : Hid (thrL (subB (B.map (·.1))) m x.args = some (L.map (·.1), r)) := Lib.hid (by
            have := HTH.out
            rwa [List.take_of_length_le (by omega)] at this)
          have HD := Lib.hid (HR.out.done (w := w) (br := w.heap.size + 1) (t := .mk 0 x.name (L.map (·.1))) HWB.out (by omega) (by omega) (by have := HSB.out; omega) HOK.out HXF.out rfl)
          go_wp2_with fail
          rw [HO.out, HTA.out]
          obtain ⟨a9, c9, he, hf9, ht9, hb9⟩ := HD.out
          exact bodyPost_ret (v := .tuple #[.agg #[.int .i64 0, .string x.name, .slice xa L.length xc], .int .i64 nn, .bool true]) (by simp [results, Try.results72, go_sem, z60, z61, z62]) rfl
            ⟨.mk 0 x.name (L.map (·.1)), a9, c9, rfl, by
              injection he with he
              rw [← he, show (((m + 1 : Nat) : Int) - (r : Int)) = (nn : Int) by omega], hf9, ht9, hb9⟩
    · have HO : Hid (thrL (subB (B.map (·.1))) (m + 1) [t] = some ([VarT (look (subB (B.map (·.1))) t).var], m)) := Lib.hid (by rw [thrL_var hv, thrL_nil]; rfl)
      have hbare := (HFX.out.wf _ (Tm.self_mem _)).2 hv
      have hsw : (((w1.setCell ⟨w.heap.size, 0, none⟩ (.int .i64 (look (subB (B.map (·.1))) t).var)).setCell ⟨w.heap.size, 1, none⟩ (.string (look (subB (B.map (·.1))) t).name)).setCell ⟨w.heap.size, 2, none⟩ (.slice a1 (look (subB (B.map (·.1))) t).args.length c1)).heap.size = w1.heap.size := by simp [World.setCell]
      generalize (((w1.setCell ⟨w.heap.size, 0, none⟩ (.int .i64 (look (subB (B.map (·.1))) t).var)).setCell ⟨w.heap.size, 1, none⟩ (.string (look (subB (B.map (·.1))) t).name)).setCell ⟨w.heap.size, 2, none⟩ (.slice a1 (look (subB (B.map (·.1))) t).args.length c1)) = W at *
      generalize look (subB (B.map (·.1))) t = x at *
      rw [← hsw] at *
      clear HN HLK HB1 HT1 HX4 HX6 hlt1
      have Z0 : Box3 (W.alloc (.cells #[.int .i64 x.var, .string x.name, .slice none 0 0] 24)) W.heap.size (.int .i64 x.var) (.string x.name) (.slice none 0 0) := Box3.made W _ _ _
      have BA : Below W.heap.size W (W.alloc (.cells #[.int .i64 x.var, .string x.name, .slice none 0 0] 24)) := (Below.refl _ _).alloc (Nat.le_refl _) _
      have Z4 := HY4.out.below BA; have Z6 := HY6.out.below BA
      have HWB := Lib.hid (HBW.out.trans (BA.mono HBW.out.size))
      have hWW : w.heap.size + 1 < W.heap.size := HY6.out.lt
      have z4 := Z4.c2; have z60 := Z6.c0; have z61 := Z6.c1; have z62 := Z6.c2; have z63 := Z6.fz
      have q0 := Z0.c0; have q1 := Z0.c1; have q2 := Z0.c2; have qf := Z0.fz
      have hlt6 := Z6.lt
      have hl0 : x.args.length = 0 := by rw [hbare.1]; rfl
      have HNM := Lib.hid hbare.2
      have HI := Lib.hid HF1.out.1
      clear Z0 BA Z4 Z6 hsw hbare hv
      generalize W.alloc (.cells #[.int .i64 x.var, .string x.name, .slice none 0 0] 24) = wb at *
      go_loopw [9, 11] (fun y9 y11 wr => y9 = .int .i64 1 ∧ y11 = .int .i64 0 ∧ Hid (wr = wb)) (fun _ _ _ => 0)
      case atStart => exact ⟨rfl, rfl, Lib.hid rfl⟩
      case round =>
        obtain ⟨rfl, rfl, hw⟩ := hrel
        obtain rfl := hw.out
        clear hw
        go_wp2_with fail
        rw [HO.out]
        exact bodyPost_ret (v := .tuple #[.agg #[.int .i64 x.var, .string x.name, .slice none 0 0], .int .i64 1, .bool true]) (by simp [results, Try.results72, go_sem, z60, z61, z62]) rfl
          ⟨VarT x.var, none, 0, rfl, by
            rw [HNM.out, show (((m + 1 : Nat) : Int) - (m : Int)) = 1 by omega]; rfl, ⟨HI.out, Nat.zero_le _⟩, Ts.empty' _ _, below_put HWB.out (by omega) _ _ _⟩

end Go.Proofs.Ytikmgiapjigghaa.Emb

/- The searcher's names of variables; walk: Through with them. -/
namespace Go.Proofs.Ytikmgiapjigghaa
open Go.RowKit

theorem thrL_sizeN {σ : Sub} : ∀ (m : Nat) (l : List Tm) (x : List Tm × Nat), thrL σ m l = some x → Tm.sizes x.1 + x.2 ≤ m := by
  intro m
  induction m using Nat.strongRecOn with
  | _ m ih =>
  intro l x h
  cases l with
  | nil => rw [thrL_nil] at h; cases h; simp [Tm.sizes]
  | cons t r =>
    cases m with
    | zero => rw [thrL_zero] at h; cases h
    | succ m =>
      by_cases hv : (look σ t).var = 0
      · rw [thrL_fn hv] at h
        obtain ⟨y, hy, h2⟩ := Option.bind_eq_some_iff.1 h
        obtain ⟨z, hz, rfl⟩ := Option.map_eq_some_iff.1 h2
        have h3 := (thrL_le _ _ _ hy).1
        have e1 := ih m (by omega) _ y hy
        have e2 := ih y.2 (by omega) _ z hz
        simp only [Tm.sizes, Tm.size]; omega
      · rw [thrL_var hv] at h
        obtain ⟨z, hz, rfl⟩ := Option.map_eq_some_iff.1 h
        have e2 := ih m (by omega) _ z hz
        simp only [Tm.sizes, Tm.size]; omega

theorem renN_len (t : Tm) : ∀ s, (Tm.ren numV s t).2.length ≤ s.length + t.size := by
  have ha : ∀ (s : List Int) (v : Int), (addV s v).length ≤ s.length + 1 := fun s v => by
    unfold addV
    split
    · omega
    · simp
  induction t using Tm.ind with
  | h v n l ih =>
    have hl : ∀ (r : List Tm) (s : List Int), (∀ x, x ∈ r → x ∈ l) → (Tm.rens numV s r).2.length ≤ s.length + Tm.sizes r := by
      intro r
      induction r with
      | nil => intro s _; simp [Tm.rens, Tm.sizes]
      | cons x r ihr =>
        intro s hr
        have h1 := ih x (hr x List.mem_cons_self) s
        have h2 := ihr (Tm.ren numV s x).2 fun y hy => hr y (List.mem_cons_of_mem _ hy)
        simp only [Tm.rens, Tm.sizes]
        omega
    intro s
    simp only [Tm.ren, Tm.size]
    split
    · have := ha s v; simp only [numV]; omega
    · have := hl l s fun x hx => hx; simp only; omega

theorem rensN_len (l : List Tm) : ∀ s, (Tm.rens numV s l).2.length ≤ s.length + Tm.sizes l := by
  induction l with
  | nil => intro s; simp [Tm.rens, Tm.sizes]
  | cons x r ih =>
    intro s
    have h1 := renN_len x s
    have h2 := ih (Tm.ren numV s x).2
    simp only [Tm.rens, Tm.sizes]
    omega

set_option maxRecDepth 100000 in
set_option maxHeartbeats 4000000 in
theorem ThroughNW {Inv : World → List Int → Prop} {Md : Nat → Prop} {cb : Value} (hN : ∀ (w : World) (s : List Int) (v : Int), Inv w s → s.length ≤ 1000 → I64 v → Calls Try.prog 132 #[.int .i64 v, cb] w fun e w' => e = .returned (.int .i64 (numV s v).1) ∧ Inv w' (numV s v).2 ∧ I64 (numV s v).1 ∧ Touch Md w w') (hI : ∀ w w' s, Inv w s → (∀ b, Md b → w'.heap[b]? = w.heap[b]?) → w.heap.size ≤ w'.heap.size → Inv w' s)
    {ok : Nat → Prop} {bs bm : Nat} {tv : Value} {σ : Sub} {Lt : List Int} {wk bl : Nat} (hE : Ends σ) (m : Nat) : ∀ (s : List Int) (t : Tm) (a : Option Addr) (c : Nat) (w : World), m + s.length ≤ 1000 → StAt w ok bs bm tv σ Lt wk → Inv w s → w.heap[bl]? = some (.cells #[.int .i64 m] 3 (0, 0)) →
      (¬ StM bs bm tv bl ∧ ¬ ok bl) → (∀ b, Md b → b < w.heap.size ∧ ¬ StM bs bm tv b ∧ ¬ ok b ∧ b ≠ bl) → t.fits → Ts w ok t.args a c →
    Calls Try.prog 67 #[.pointer (some ⟨bs, 0, none⟩), .agg #[.int .i64 t.var, .string t.name, .slice a t.args.length c], .pointer (some ⟨bl, 0, none⟩), .func (.func 132) #[] #[cb]] w (ThrPost w ok bl Md numV Inv s (thrL σ m [t])) := by
  induction m using Nat.strongRecOn with
  | _ m ih =>
  intro s t a c w hm hst hinv hbl hsep hmd hfit hts
  have IH := Lib.hid ih; have HST := Lib.hid hst; have HF := Lib.hid hfit; have HT := Lib.hid hts; have HINV := Lib.hid hinv; have HBL := Lib.hid hbl; have HSEP := Lib.hid hsep; have HMD := Lib.hid hmd; have HE := Lib.hid hE; have HN := Lib.hid hN; have HI := Lib.hid hI
  have hbll : bl < w.heap.size := (Array.getElem?_eq_some_iff.1 hbl).1
  have HOK : Hid (∀ b, ok b → b < w.heap.size ∧ b ≠ bl ∧ ¬ Md b) := Lib.hid fun b hb => ⟨(hst.okb b hb).1, fun e => hsep.2 (e ▸ hb), fun hm => (hmd b hm).2.2.1 hb⟩
  have k0 : w.cell? ⟨bl, 0, none⟩ = some (.int .i64 m) := by simp [World.cell?, hbl]
  have kf : ∀ o, w.frozen? ⟨bl, o, none⟩ = false := fun o => by simp [World.frozen?, hbl]
  clear ih hst hinv hbl hsep hmd hfit hts hE hN hI
  have hmd0 : ∀ d : Int, Hid (Touch (ThrM bl Md) w (w.setCell ⟨bl, 0, none⟩ (.int .i64 d))) := fun d => Lib.hid ((Touch.setCell _ rfl : Touch (fun b => b = bl) w _).mono fun _ _ e => .inl e)
  cases m with
  | zero =>
    have HO : Hid (thrL σ 0 [t] = none) := Lib.hid (thrL_zero _ _ _)
    have T1 := hmd0 (-1)
    clear hmd0
    go_enter Try.func67, Try.ntmps67
    go_wp2_with fail
    rw [HO.out]
    -- ZERO
    have BA : Below (w.setCell ⟨bl, 0, none⟩ (.int .i64 (-1))).heap.size (w.setCell ⟨bl, 0, none⟩ (.int .i64 (-1))) (((w.setCell ⟨bl, 0, none⟩ (.int .i64 (-1))).alloc (.cells #[.int .i64 t.var, .string t.name, .slice a t.args.length c] 24)).alloc (.cells #[.int .i64 0, .string ⟨#[]⟩, .slice none 0 0] 24)) := ((Below.refl _ _).alloc (Nat.le_refl _) _).alloc (by simp) _
    have TT : Touch (fun b => b = bl) w (((w.setCell ⟨bl, 0, none⟩ (.int .i64 (-1))).alloc (.cells #[.int .i64 t.var, .string t.name, .slice a t.args.length c] 24)).alloc (.cells #[.int .i64 0, .string ⟨#[]⟩, .slice none 0 0] 24)) := (Touch.setCell _ rfl : Touch (fun b => b = bl) w _).trans (Touch.below BA)
    exact bodyPost_ret (v := .tuple #[.agg #[.int .i64 0, .string ⟨#[]⟩, .slice none 0 0], .bool false]) (by simp [results, Try.results67, go_sem]) rfl
      ⟨TT.mono fun _ _ e => .inl e, rfl, s, -1, HI.out w _ s HINV.out (fun b hb => TT.block b (HMD.out b hb).1 (HMD.out b hb).2.2.2) TT.size, (BA.block bl (by simpa using hbll)).trans (setCell_one w bl _ HBL.out)⟩
  | succ m =>
    have hm1 : (m : Int) ≤ 1000 := by omega
    have hm0 : (0 : Int) ≤ (m : Int) := by omega
    have hsub0 : (m : Int) + 1 - 1 = (m : Int) := by omega
    have T0 : Touch (fun b => b = bl) w (w.setCell ⟨bl, 0, none⟩ (.int .i64 m)) := Touch.setCell _ rfl
    have HSD := Lib.hid (HST.out.touch T0 fun b e => by subst e; exact HSEP.out)
    have HID := Lib.hid (HI.out w _ s HINV.out (fun b hb => T0.block b (HMD.out b hb).1 (HMD.out b hb).2.2.2) T0.size)
    have HBD := Lib.hid (setCell_one w bl (.int .i64 m) HBL.out)
    have HTD := Lib.hid (HT.out.keep (T0.keeps fun b hb => (HOK.out b hb).2.1))
    have HT0 := Lib.hid T0
    have hsd : (w.setCell ⟨bl, 0, none⟩ (.int .i64 m)).heap.size = w.heap.size := by simp [World.setCell]
    have BB : Below (w.setCell ⟨bl, 0, none⟩ (.int .i64 m)).heap.size (w.setCell ⟨bl, 0, none⟩ (.int .i64 m)) (((w.setCell ⟨bl, 0, none⟩ (.int .i64 m)).alloc (.cells #[.int .i64 t.var, .string t.name, .slice a t.args.length c] 24)).alloc (.cells #[.int .i64 0, .string ⟨#[]⟩, .slice none 0 0] 24)) := ((Below.refl _ _).alloc (Nat.le_refl _) _).alloc (by simp) _
    have HA4 : Hid (Box3 (((w.setCell ⟨bl, 0, none⟩ (.int .i64 m)).alloc (.cells #[.int .i64 t.var, .string t.name, .slice a t.args.length c] 24)).alloc (.cells #[.int .i64 0, .string ⟨#[]⟩, .slice none 0 0] 24)) w.heap.size (.int .i64 t.var) (.string t.name) (.slice a t.args.length c)) := Lib.hid ((Box3.made2 hsd.symm).alloc _)
    have HA6 : Hid (Box3 (((w.setCell ⟨bl, 0, none⟩ (.int .i64 m)).alloc (.cells #[.int .i64 t.var, .string t.name, .slice a t.args.length c] 24)).alloc (.cells #[.int .i64 0, .string ⟨#[]⟩, .slice none 0 0] 24)) (w.heap.size + 1) (.int .i64 0) (.string ⟨#[]⟩) (.slice none 0 0)) := Lib.hid (Box3.made2 (by simp [World.setCell]))
    have HBB := Lib.hid BB
    obtain ⟨n0, hn⟩ := look_spec HE.out t
    have HLN := Lib.hid hn
    have HLK := Lib.hid (LookW (HSD.out.keep BB) HLN.out HF.out (HTD.out.keep (Keeps.below BB ok)))
    have HSDD := Lib.hid hsd
    clear BB hn T0 hsd hmd0
    -- WALK
    have HMX : Hid (∀ b, ThrM bl Md b → b < w.heap.size) := Lib.hid fun b e => e.elim (fun e => by omega) (fun e => (HMD.out b e).1)
    by_cases hv : (look σ t).var = 0
    · have HO : Hid (thrL σ (m + 1) [t] = (thrL σ m (look σ t).args).map fun y => ([.mk 0 (look σ t).name y.1], y.2)) := Lib.hid (by
        rw [thrL_fn hv]
        cases thrL σ m (look σ t).args with
        | none => rfl
        | some y => simp only [Option.bind_some, Option.map_some, thrL_nil])
      have hv1 : ((look σ t).var != 0) = false := by rw [hv]; rfl
      clear hv
      go_enter Try.func67, Try.ntmps67
      go_wp2_with (go_at_call 102; refine HLK.out.mono ?_; rintro e w1 ⟨a1, c1, rfl, hf1, ht1, hb1⟩; have HF1 := Lib.hid hf1; have HT1 := Lib.hid ht1; have HB1 := Lib.hid hb1; have HX4 := Lib.hid (HA4.out.below hb1); have HX6 := Lib.hid (HA6.out.below hb1); obtain ⟨q0, q1, q2, qf⟩ := (HA4.out.below hb1).all; obtain ⟨p0, p1, p2, pf⟩ := (HA6.out.below hb1).all; have hlt1 : w.heap.size + 1 < w1.heap.size := (HA6.out.below hb1).lt; have hlt0 : w.heap.size < w1.heap.size := (HA4.out.below hb1).lt; clear hf1 ht1 hb1)
      have HSL := Lib.hid (HSDD.out)
      have HT1W := Lib.hid (HT0.out.trans (Touch.below (M := fun b => b = bl) (HBB.out.trans (HB1.out.mono HBB.out.size))))
      have TP := touch_put w1 w.heap.size (.int .i64 (look σ t).var) (.string (look σ t).name) (.slice a1 (look σ t).args.length c1)
      have HTP := Lib.hid TP
      have HSW := Lib.hid (((HSD.out.keep HBB.out).keep HB1.out).touch TP fun b e => by subst e; exact ⟨HST.out.notM (Nat.le_refl _), fun hk => by have := (HOK.out _ hk).1; omega⟩)
      have HTTW : Hid (Touch (fun b => b = bl) w (((w1.setCell ⟨w.heap.size, 0, none⟩ (.int .i64 (look σ t).var)).setCell ⟨w.heap.size, 1, none⟩ (.string (look σ t).name)).setCell ⟨w.heap.size, 2, none⟩ (.slice a1 (look σ t).args.length c1))) := Lib.hid ⟨TP.os.trans HT1W.out.os, TP.tape.trans HT1W.out.tape, TP.output.trans HT1W.out.output, Nat.le_trans HT1W.out.size TP.size, fun b hb hn => (TP.block b (Nat.lt_of_lt_of_le hb HT1W.out.size) (fun e => by omega)).trans (HT1W.out.block b hb hn)⟩
      have HIW := Lib.hid (HI.out w _ s HINV.out (fun b hb => HTTW.out.block b (HMD.out b hb).1 (HMD.out b hb).2.2.2) HTTW.out.size)
      have HBW : Hid ((((w1.setCell ⟨w.heap.size, 0, none⟩ (.int .i64 (look σ t).var)).setCell ⟨w.heap.size, 1, none⟩ (.string (look σ t).name)).setCell ⟨w.heap.size, 2, none⟩ (.slice a1 (look σ t).args.length c1)).heap[bl]? = some (.cells #[.int .i64 m] 3 (0, 0))) := Lib.hid ((TP.block bl (by have := HT1W.out.size; omega) (fun e => by omega)).trans (((HBB.out.trans (HB1.out.mono HBB.out.size)).block bl (by have := HSL.out; omega)).trans HBD.out))
      have HY4 := Lib.hid (HX4.out.put (.int .i64 (look σ t).var) (.string (look σ t).name) (.slice a1 (look σ t).args.length c1))
      have HY6 := Lib.hid (HX6.out.other (show w.heap.size + 1 ≠ w.heap.size by omega) (.int .i64 (look σ t).var) (.string (look σ t).name) (.slice a1 (look σ t).args.length c1))
      have HTW := Lib.hid (HT1.out.keep (TP.keeps fun b hb e => by have := (HOK.out b hb).1; omega))
      have hsw : (((w1.setCell ⟨w.heap.size, 0, none⟩ (.int .i64 (look σ t).var)).setCell ⟨w.heap.size, 1, none⟩ (.string (look σ t).name)).setCell ⟨w.heap.size, 2, none⟩ (.slice a1 (look σ t).args.length c1)).heap.size = w1.heap.size := by simp [World.setCell]
      clear q0 q1 q2 qf p0 p1 p2 pf TP
      generalize (((w1.setCell ⟨w.heap.size, 0, none⟩ (.int .i64 (look σ t).var)).setCell ⟨w.heap.size, 1, none⟩ (.string (look σ t).name)).setCell ⟨w.heap.size, 2, none⟩ (.slice a1 (look σ t).args.length c1)) = W at *
      generalize look σ t = x at *
      rw [← hsw] at *
      clear HLN HLK HB1 HT1 HX4 HX6 hlt1 hlt0 HT1W HTP HSL
      have hWW : w.heap.size + 1 < W.heap.size := HY6.out.lt
      have Z0 : Box3 (W.alloc (.cells #[.int .i64 0, .string x.name, .slice none 0 0] 24)) W.heap.size (.int .i64 0) (.string x.name) (.slice none 0 0) := Box3.made W _ _ _
      have BA : Below W.heap.size W (W.alloc (.cells #[.int .i64 0, .string x.name, .slice none 0 0] 24)) := (Below.refl _ _).alloc (Nat.le_refl _) _
      have HZ6 := Lib.hid (HY6.out.below BA)
      have HSB' := Lib.hid (HSW.out.keep BA)
      have HTB := Lib.hid (HTW.out.keep (Keeps.below BA ok))
      have HTTB := Lib.hid (HTTW.out.trans (Touch.below BA))
      have HIB := Lib.hid (HI.out W _ s HIW.out (fun b hb => BA.block b (by have := (HMD.out b hb).1; omega)) BA.size)
      have HBB2 := Lib.hid ((BA.block bl (by omega)).trans HBW.out)
      have hsb : (W.alloc (.cells #[.int .i64 0, .string x.name, .slice none 0 0] 24)).heap.size = W.heap.size + 1 := by simp
      have HSB := Lib.hid hsb
      have hxl : x.args.length ≤ 9223372036854775807 := by have := HTW.out.cap; unfold maxLen at this; omega
      have HXF := Lib.hid HF1.out.2
      have HZ0 := Lib.hid Z0
      clear Z0 BA hsb hsw
      generalize W.alloc (.cells #[.int .i64 0, .string x.name, .slice none 0 0] 24) = wb at *
      go_loopw [42] (fun y42 wr => ∃ (i : Nat) (L : List TmAt) (y : Value) (r : Nat) (s' : List Int) (Ls : List Tm), i ≤ x.args.length ∧ y42 = .int .i64 i ∧ r ≤ m ∧ Hid (thrL σ m (x.args.take i) = some (Ls, r)) ∧ Hid (L.map (·.1) = (Tm.rens numV s Ls).1 ∧ s' = (Tm.rens numV s Ls).2) ∧ BldM wb (ThrM bl Md) ok W.heap.size x.name L y wr ∧ Inv wr s' ∧ wr.heap[bl]? = some (.cells #[.int .i64 r] 3 (0, 0))) (fun y42 _ => x.args.length - (intOf y42).toNat)
      case atStart => exact ⟨0, [], .slice none 0 0, m, s, [], Nat.zero_le _, rfl, Nat.le_refl _, Lib.hid (thrL_nil _ _), Lib.hid ⟨rfl, rfl⟩, BldM.start HZ0.out, HIB.out, HBB2.out⟩
      case round =>
        obtain ⟨i, L, y, r, s', Ls, hi, rfl, hr, HTH, HLL, hrel, hinv', hblr⟩ := hrel
        have HR := Lib.hid hrel; have HIR := Lib.hid hinv'; have HBR := Lib.hid hblr
        obtain ⟨xa, xc, rfl⟩ := hrel.form
        obtain ⟨z60, z61, z62, z63⟩ := (HZ6.out.keep (hrel.touch.block _ HZ6.out.lt (fun e => e.elim (fun e => by omega) (fun e => by have := HMX.out _ e; omega)))).all
        have KB : Hid (Keeps ok wb wr) := Lib.hid (hrel.touch.keeps fun b hb e => e.elim (fun e => by have := (HOK.out b hb).1; omega) (fun e => e.elim (HOK.out b hb).2.1 (HOK.out b hb).2.2))
        have hwr : W.heap.size < wr.heap.size := hrel.box.lt
        have HLl : Hid (L.length = i ∧ i + r ≤ m ∧ s'.length + r ≤ s.length + m) := Lib.hid (by
          have h5 := thrL_sizeN _ _ _ HTH.out
          have h6 := rensN_len Ls s
          rw [← HLL.out.2] at h6
          have h1 := (thrL_le _ _ _ HTH.out).2
          have h2 := thrL_room _ _ _ HTH.out
          have h3 := congrArg List.length HLL.out.1
          rw [List.length_map, Tm.rens_length] at h3
          rw [List.length_take] at h1 h2
          simp only at h1 h2 h5; omega)
        have HSR : Hid (StAt wr ok bs bm tv σ Lt wk) := Lib.hid (HSB'.out.touch hrel.touch fun b e => by
          rcases e with e | e | e
          · subst e; exact ⟨HST.out.notM (by omega), fun hk => by have := (HOK.out _ hk).1; omega⟩
          · subst e; exact HSEP.out
          · exact ⟨(HMD.out b e).2.1, (HMD.out b e).2.2.1⟩)
        clear hrel hinv' hblr
        by_cases hlt : i < x.args.length
        · obtain ⟨b, off, a', cap', rfl, hokb, hbs, hc, ht⟩ := HTB.out.at i hlt
          have m0 := (KB.out.cell (p := ⟨b, off + i * 3, none⟩) hokb hbs).trans hc.var
          have m1 := (KB.out.cell (p := ⟨b, off + i * 3 + 1, none⟩) hokb hbs).trans hc.name
          have m2 := (KB.out.cell (p := ⟨b, off + i * 3 + 2, none⟩) hokb hbs).trans hc.args
          have BX : Below wr.heap.size wr (wr.alloc (.cells #[.int .i64 x.args[i].var, .string x.args[i].name, .slice a' x.args[i].args.length cap'] 24)) := (Below.refl _ _).alloc (Nat.le_refl _) _
          have HCL := Lib.hid (IH.out r (by omega) s' x.args[i] a' cap' (wr.alloc (.cells #[.int .i64 x.args[i].var, .string x.args[i].name, .slice a' x.args[i].args.length cap'] 24)) (by have := HLl.out; omega) (HSR.out.keep BX) (HI.out wr _ s' HIR.out (fun b hb => BX.block b (by have := (HMD.out b hb).1; omega)) BX.size) ((BX.block bl (by omega)).trans HBR.out) HSEP.out (fun b hb => ⟨by have := (HMD.out b hb).1; have := BX.size; omega, (HMD.out b hb).2⟩) hc.fits (ht.keep (KB.out.trans (Keeps.below BX ok))))
          have HBX := Lib.hid BX
          have HSP : Hid (thrL σ m (x.args.take (i + 1)) = (thrL σ r [x.args[i]]).map fun z => (Ls ++ z.1, z.2)) := Lib.hid (by
            rw [List.take_succ_eq_append_getElem hlt, thrL_append, HTH.out]; rfl)
          have HSQ : Hid (thrL σ r [x.args[i]] = none → thrL σ m x.args = none) := Lib.hid (fun hn => by
            rw [← List.take_append_drop (i + 1) x.args, thrL_append, HSP.out, hn]; rfl)
          have HLE := Lib.hid (fun z => thrL_le (σ := σ) r [x.args[i]] z)
          clear hc ht BX
          generalize thrL σ r [x.args[i]] = o at *
          cases o with
          | none =>
            have HQ := Lib.hid (HSQ.out rfl)
            clear HSQ HSP
            go_wp2_with (go_at_call 67; refine HCL.out.mono ?_; rintro e w3 ⟨ht3, rfl, s3, k3, hi3, hb3⟩; have hl3 : w.heap.size + 1 < w3.heap.size := (by have := ht3.size; have := HBX.out.size; omega); obtain ⟨y0, y1, y2, yf⟩ := (((HZ6.out.keep (HR.out.touch.block _ HZ6.out.lt (fun e => e.elim (fun e => by omega) (fun e => by have := HMX.out _ e; omega)))).below HBX.out).keep (ht3.block _ (by have := HBX.out.size; omega) (fun e => by have := HMX.out _ e; omega))).all; have HT3 := Lib.hid ht3; have HI3 := Lib.hid hi3; have HB3 := Lib.hid hb3; clear ht3 hi3 hb3)
            rw [HO.out, HQ.out]
            have TA : Touch (fun b => W.heap.size = b ∨ ThrM bl Md b) w w3 := (((HTTB.out.mono fun _ _ e => .inr (.inl e)).trans (HR.out.touch.mono fun _ _ e => e.imp Eq.symm id)).trans (Touch.below HBX.out)).trans (HT3.out.mono fun _ _ e => .inr e)
            have TP := touch_put w3 (w.heap.size + 1) (.int .i64 0) (.string ⟨#[]⟩) (.slice none 0 0)
            have BF : Below (((w3.setCell ⟨w.heap.size + 1, 0, none⟩ (.int .i64 0)).setCell ⟨w.heap.size + 1, 1, none⟩ (.string ⟨#[]⟩)).setCell ⟨w.heap.size + 1, 2, none⟩ (.slice none 0 0)).heap.size (((w3.setCell ⟨w.heap.size + 1, 0, none⟩ (.int .i64 0)).setCell ⟨w.heap.size + 1, 1, none⟩ (.string ⟨#[]⟩)).setCell ⟨w.heap.size + 1, 2, none⟩ (.slice none 0 0)) ((((w3.setCell ⟨w.heap.size + 1, 0, none⟩ (.int .i64 0)).setCell ⟨w.heap.size + 1, 1, none⟩ (.string ⟨#[]⟩)).setCell ⟨w.heap.size + 1, 2, none⟩ (.slice none 0 0)).alloc (.cells #[.int .i64 0, .string ⟨#[]⟩, .slice none 0 0] 24)) := (Below.refl _ _).alloc (Nat.le_refl _) _
            have hps := TP.size
            exact bodyPost_ret (v := .tuple #[.agg #[.int .i64 0, .string ⟨#[]⟩, .slice none 0 0], .bool false]) (by simp [results, Try.results67, go_sem, y0, y1, y2, hl3]) rfl
              ⟨⟨BF.os.trans (TP.os.trans TA.os), BF.tape.trans (TP.tape.trans TA.tape), BF.output.trans (TP.output.trans TA.output), Nat.le_trans TA.size (Nat.le_trans TP.size BF.size), fun b hb hn => (BF.block b (by omega)).trans ((TP.block b (by omega) (fun e => by omega)).trans (TA.block b hb (fun e => e.elim (fun e => by omega) hn)))⟩,
                rfl, s3, k3, HI.out _ _ _ HI3.out (fun b hb => (BF.block b (by have := (HMD.out b hb).1; omega)).trans (TP.block b (by have := (HMD.out b hb).1; omega) (fun e => by have := (HMD.out b hb).1; omega))) (Nat.le_trans TP.size BF.size), (BF.block bl (by omega)).trans ((TP.block bl (by omega) (fun e => by omega)).trans HB3.out)⟩
          | some z =>
            obtain ⟨u1, u2⟩ := z
            have hzr : u2 ≤ r := (HLE.out _ rfl).1
            have HNT : Hid (thrL σ m (x.args.take (i + 1)) = some (Ls ++ u1, u2)) := Lib.hid HSP.out
            clear HSQ HSP HLE
            obtain ⟨i0, hi0, hz0', hz1', hz2'⟩ := info_parts Try.infoTm
            go_wp2_with (first
              | (go_at_call 67; refine HCL.out.mono ?_; rintro e w3 ⟨ht3, T, a3, c3, hTT, rfl, hf3, hts3, hi3, hb3⟩; have hl3 : W.heap.size < w3.heap.size := (by have := ht3.size; have := HBX.out.size; omega); have TB3 := (Touch.below (M := ThrM bl Md) HBX.out).trans ht3; obtain ⟨y0, y1, y2, yf⟩ := (((HZ6.out.keep (HR.out.touch.block _ HZ6.out.lt (fun e => e.elim (fun e => by omega) (fun e => by have := HMX.out _ e; omega)))).below HBX.out).keep (ht3.block _ (by have := HBX.out.size; omega) (fun e => by have := HMX.out _ e; omega))).all; have HBO := HR.out.box.keep (TB3.block _ HR.out.box.lt (fun e => by have := HMX.out _ e; omega)); have k2 := HBO.c2; have kf := HBO.fz; have HO1 := Lib.hid (((ownsRow_block HR.out.own.own (fun gg hg => TB3.block gg (HR.out.own.block hg).2 (fun e => by have := HMX.out _ e; have := (HR.out.own.block hg).1; have := HSB.out; omega))).alloc (.cells #[.int .i64 T.var, .string T.name, .slice a3 T.args.length c3] 24)).alloc (.cells #[.int .i64 T.var, .string T.name, .slice a3 T.args.length c3] 24)); have HT3 := Lib.hid TB3; have HF3 := Lib.hid hf3; have HTS3 := Lib.hid hts3; have HI3 := Lib.hid hi3; have HB3 := Lib.hid hb3; have HTT := Lib.hid hTT; clear ht3 hf3 hts3 hi3 hb3 hTT TB3 HBO)
              | (at_builtin; have _g := HO1; refine wpList_append_opt _ rfl _ _ 22 rfl wb.heap.size 24 i0 _ 3 48 Try.underlying22 hi0 hz0' hz1' hz2' rfl (by decide) _ _ _ rfl HO1.out (some ⟨w3.heap.size + 1, 0, none⟩) 1 1 ?d0 (flat [(T, a3, c3)]) rfl (by rw [flat_length]; rfl) ?d1 (flat_one _) ?d2 ?d3 ?d4 ?_))
            · intro h; cases h
            · exact news3 _ T a3 c3 (by simp)
            · have := HLl.out; unfold maxLen; omega
            · have := HLl.out; omega
            · have := HR.out.touch.size; have := HT3.out.size; simp only [aSz]; omega
            · intro v4 w4 hown4 hgrow4 hfr4
              have BX4 : Below w3.heap.size w3 ((w3.alloc (.cells #[.int .i64 T.var, .string T.name, .slice a3 T.args.length c3] 24)).alloc (.cells #[.int .i64 T.var, .string T.name, .slice a3 T.args.length c3] 24)) := ((Below.refl _ _).alloc (Nat.le_refl _) _).alloc (by simp only [aSz]; omega) _
              have HNX := Lib.hid (HR.out.next (fun b hb => ⟨by have := (HOK.out b hb).1; have := HSB.out; omega, by have := (HOK.out b hb).1; omega, fun e => e.elim (HOK.out b hb).2.1 (HOK.out b hb).2.2⟩) (fun b e => by have := HMX.out b e; have := HSB.out; omega) (HBX.out.size) HT3.out HF3.out HTS3.out BX4 hown4 hgrow4 hfr4)
              have HG4 := Lib.hid hgrow4
              have HOB := Lib.hid (fun gg hg => HR.out.own.block (g := gg) hg)
              obtain ⟨g4, cap4, rfl⟩ := own_shape hown4 (by omega)
              have s2 := HNX.out.1.c2
              have sf := HNX.out.1.fz
              have HB4 := Lib.hid BX4
              clear hown4 hgrow4 hfr4 k2 kf y0 y1 y2 yf BX4
              go_wp2_with fail
              go_roundw
              case measure => simp [intOf]; omega
              case rel =>
                have hkk : ∀ b, ThrM bl Md b → (w4.setCell ⟨W.heap.size, 2, none⟩ (.slice (some ⟨g4, 0, none⟩) (L.length + 1) cap4)).heap[b]? = w3.heap[b]? := fun b e => by
                  have h1 := HMX.out b e
                  rw [Below.heap_setCell _ _ _ _ (show b ≠ W.heap.size by omega), HG4.out.block b (by have := HB4.out.size; omega) (fun e2 => by have := (HOB.out b e2.symm).1; have := HSB.out; omega), HB4.out.block b (by omega)]
                exact ⟨i + 1, L ++ [(T, a3, c3)], _, u2, (Tm.rens numV s' u1).2, Ls ++ u1, by omega, by go_num, by omega, HNT.out, Lib.hid ⟨by rw [List.map_append, Tm.rens_append, HLL.out.1, ← HLL.out.2, HTT.out]; rfl, by rw [Tm.rens_append, ← HLL.out.2]⟩, HNX.out.2,
                  HI.out _ _ _ HI3.out (fun b hb => hkk b (.inr hb)) (by have := HB4.out.size; have := HG4.out.size; simp [World.setCell]; omega), (hkk bl (.inl rfl)).trans HB3.out⟩
        · have HTA : Hid (thrL σ m x.args = some (Ls, r)) := Lib.hid (by
            have := HTH.out
            rwa [List.take_of_length_le (by omega)] at this)
          have HD := Lib.hid (HR.out.done (w := w) (br := w.heap.size + 1) (HTTB.out.mono fun _ _ e => .inl e) (by omega) (by omega) (by have := HSB.out; omega) (fun b hb => (HOK.out b hb).1))
          obtain ⟨q0, q1, q2, qf⟩ := HR.out.box.all
          go_wp2_with fail
          rw [HO.out, HTA.out]
          obtain ⟨a9, c9, he, ht9, hb9⟩ := HD.out
          injection he with he1 he2 he3
          subst he1; subst he3
          have TP := touch_put wr (w.heap.size + 1) (.int .i64 0) (.string x.name) (.slice xa L.length xc)
          have hRE : Tm.rens numV s [.mk 0 x.name Ls] = ([.mk 0 x.name (L.map (·.1))], s') := by
            simp [Tm.rens, Tm.ren, HLL.out.1, HLL.out.2]
          exact bodyPost_ret (v := .tuple #[.agg #[.int .i64 0, .string x.name, .slice xa L.length xc], .bool true]) (by simp [results, Try.results67, go_sem, z60, z61, z62]) rfl
            ⟨hb9, .mk 0 x.name (List.map (fun y : TmAt => y.1) L), xa, xc, by simp only; rw [hRE], by simp [Tm.var, Tm.name, Tm.args], ⟨(by show -9223372036854775808 ≤ (0 : Int) ∧ (0 : Int) ≤ 9223372036854775807; omega), HXF.out⟩, ht9,
              by simp only; rw [hRE]; exact HI.out _ _ _ HIR.out (fun b hb => TP.block b (by have := (HMD.out b hb).1; omega) (fun e => by have := (HMD.out b hb).1; omega)) TP.size, (TP.block bl (by omega) (fun e => by omega)).trans HBR.out⟩
    · have HO : Hid (thrL σ (m + 1) [t] = some ([VarT (look σ t).var], m)) := Lib.hid (by rw [thrL_var hv, thrL_nil]; rfl)
      have hv1 : ((look σ t).var != 0) = true := by rw [bne_iff_ne]; exact hv
      have HV := Lib.hid hv
      clear hv
      go_enter Try.func67, Try.ntmps67
      go_wp2_with (go_at_call 102; refine HLK.out.mono ?_; rintro e w1 ⟨a1, c1, rfl, hf1, ht1, hb1⟩; have HF1 := Lib.hid hf1; have HT1 := Lib.hid ht1; have HB1 := Lib.hid hb1; have HX4 := Lib.hid (HA4.out.below hb1); have HX6 := Lib.hid (HA6.out.below hb1); obtain ⟨q0, q1, q2, qf⟩ := (HA4.out.below hb1).all; obtain ⟨p0, p1, p2, pf⟩ := (HA6.out.below hb1).all; have hlt1 : w.heap.size + 1 < w1.heap.size := (HA6.out.below hb1).lt; have hlt0 : w.heap.size < w1.heap.size := (HA4.out.below hb1).lt; clear hf1 ht1 hb1)
      have HSL := Lib.hid (HSDD.out)
      have HT1W := Lib.hid (HT0.out.trans (Touch.below (M := fun b => b = bl) (HBB.out.trans (HB1.out.mono HBB.out.size))))
      have TP := touch_put w1 w.heap.size (.int .i64 (look σ t).var) (.string (look σ t).name) (.slice a1 (look σ t).args.length c1)
      have HTP := Lib.hid TP
      have HSW := Lib.hid (((HSD.out.keep HBB.out).keep HB1.out).touch TP fun b e => by subst e; exact ⟨HST.out.notM (Nat.le_refl _), fun hk => by have := (HOK.out _ hk).1; omega⟩)
      have HTTW : Hid (Touch (fun b => b = bl) w (((w1.setCell ⟨w.heap.size, 0, none⟩ (.int .i64 (look σ t).var)).setCell ⟨w.heap.size, 1, none⟩ (.string (look σ t).name)).setCell ⟨w.heap.size, 2, none⟩ (.slice a1 (look σ t).args.length c1))) := Lib.hid ⟨TP.os.trans HT1W.out.os, TP.tape.trans HT1W.out.tape, TP.output.trans HT1W.out.output, Nat.le_trans HT1W.out.size TP.size, fun b hb hn => (TP.block b (Nat.lt_of_lt_of_le hb HT1W.out.size) (fun e => by omega)).trans (HT1W.out.block b hb hn)⟩
      have HIW := Lib.hid (HI.out w _ s HINV.out (fun b hb => HTTW.out.block b (HMD.out b hb).1 (HMD.out b hb).2.2.2) HTTW.out.size)
      have HBW : Hid ((((w1.setCell ⟨w.heap.size, 0, none⟩ (.int .i64 (look σ t).var)).setCell ⟨w.heap.size, 1, none⟩ (.string (look σ t).name)).setCell ⟨w.heap.size, 2, none⟩ (.slice a1 (look σ t).args.length c1)).heap[bl]? = some (.cells #[.int .i64 m] 3 (0, 0))) := Lib.hid ((TP.block bl (by have := HT1W.out.size; omega) (fun e => by omega)).trans (((HBB.out.trans (HB1.out.mono HBB.out.size)).block bl (by have := HSL.out; omega)).trans HBD.out))
      have HY4 := Lib.hid (HX4.out.put (.int .i64 (look σ t).var) (.string (look σ t).name) (.slice a1 (look σ t).args.length c1))
      have HY6 := Lib.hid (HX6.out.other (show w.heap.size + 1 ≠ w.heap.size by omega) (.int .i64 (look σ t).var) (.string (look σ t).name) (.slice a1 (look σ t).args.length c1))
      have HTW := Lib.hid (HT1.out.keep (TP.keeps fun b hb e => by have := (HOK.out b hb).1; omega))
      have hsw : (((w1.setCell ⟨w.heap.size, 0, none⟩ (.int .i64 (look σ t).var)).setCell ⟨w.heap.size, 1, none⟩ (.string (look σ t).name)).setCell ⟨w.heap.size, 2, none⟩ (.slice a1 (look σ t).args.length c1)).heap.size = w1.heap.size := by simp [World.setCell]
      clear q0 q1 q2 qf p0 p1 p2 pf TP
      generalize (((w1.setCell ⟨w.heap.size, 0, none⟩ (.int .i64 (look σ t).var)).setCell ⟨w.heap.size, 1, none⟩ (.string (look σ t).name)).setCell ⟨w.heap.size, 2, none⟩ (.slice a1 (look σ t).args.length c1)) = W at *
      generalize look σ t = x at *
      rw [← hsw] at *
      clear HLN HLK HB1 HT1 HX4 HX6 hlt1 hlt0 HT1W HTP HSL
      have HC := Lib.hid (HN.out W s x.var HIW.out (by omega) HF1.out.1)
      refine HC.out.mono ?_
      rintro e w2 ⟨rfl, hi2, h64, ht2⟩
      have HI2 := Lib.hid hi2; have H64 := Lib.hid h64; have HT2 := Lib.hid ht2
      have hl6 := HY6.out.lt
      obtain ⟨z60, z61, z62, z63⟩ := (HY6.out.keep (ht2.block _ hl6 (fun hm => by have := (HMD.out _ hm).1; omega))).all
      have hs2 := ht2.size
      have hl7 : w.heap.size + 1 < w2.heap.size := by omega
      clear hi2 h64 ht2
      obtain ⟨q, hq⟩ : ∃ q, (numV s x.var).1 = q := ⟨_, rfl⟩
      have HQ := Lib.hid hq
      rw [hq] at H64 ⊢
      clear hq
      go_wp2_with fail
      rw [HO.out]
      have TP := touch_put w2 (w.heap.size + 1) (.int .i64 q) (.string ⟨#[]⟩) (.slice none 0 0)
      have TA : Touch (ThrM bl Md) w w2 := (HTTW.out.mono fun _ _ e => .inl e).trans (HT2.out.mono fun _ _ e => .inr e)
      have HRE : Hid ((Tm.rens numV s [VarT x.var]).1 = [.mk (numV s x.var).1 ⟨#[]⟩ []] ∧ (Tm.rens numV s [VarT x.var]).2 = (numV s x.var).2) := Lib.hid (by
        have := HV.out
        simp [Tm.rens, Tm.ren, this])
      exact bodyPost_ret (v := .tuple #[.agg #[.int .i64 q, .string ⟨#[]⟩, .slice none 0 0], .bool true]) (by simp [results, Try.results67, go_sem, z60, z61, z62]) rfl
        ⟨⟨TP.os.trans TA.os, TP.tape.trans TA.tape, TP.output.trans TA.output, Nat.le_trans TA.size TP.size, fun b hb hn => (TP.block b (Nat.lt_of_lt_of_le hb TA.size) (fun e => by omega)).trans (TA.block b hb hn)⟩,
          VarT q, none, 0, by rw [HRE.out.1, HQ.out], rfl, ⟨H64.out, Nat.zero_le _⟩, Ts.empty' _ _, by rw [HRE.out.2]; exact HI.out _ _ _ HI2.out (fun b hb => TP.block b (by have := (HMD.out b hb).1; omega) (fun e => by have := (HMD.out b hb).1; omega)) TP.size,
          (TP.block bl (by omega) (fun e => by omega)).trans ((HT2.out.block bl (by omega) (fun hm => (HMD.out bl hm).2.2.2 rfl)).trans HBW.out)⟩

end Go.Proofs.Ytikmgiapjigghaa
