/- The reference's state of variables in a world; walk: LookAt. -/
import Derived.Deep.QuietTactic
import Derived.BigQuiet
import Derived.Test.YtikmgiapjigghaaSs04
import Derived.Test.YtikmgiapjigghaaSs07
namespace Go.Proofs.Ytikmgiapjigghaa
open Go.RowKit

/-- What variables are, of a list that has itself where one is nothing. -/
def subB (B : List Tm) : Sub := fun v => if h : 0 ≤ v ∧ v.toNat < B.length then (if (B[v.toNat]'h.2).var = v then none else some (B[v.toNat]'h.2)) else none

theorem subB_none {B : List Tm} {v : Int} (h0 : 0 ≤ v) (h1 : v.toNat < B.length) (h : B[v.toNat].var = v) : subB B v = none := by unfold subB; rw [dif_pos ⟨h0, h1⟩, if_pos h]
theorem subB_some {B : List Tm} {v : Int} (h0 : 0 ≤ v) (h1 : v.toNat < B.length) (h : B[v.toNat].var ≠ v) : subB B v = some B[v.toNat] := by unfold subB; rw [dif_pos ⟨h0, h1⟩, if_neg h]

/-- The reference's state in a world. -/
structure RAt (w : World) (ok : Nat → Prop) (rs g cap : Nat) (B : List TmAt) (wk : Nat) : Prop where
  blk : w.heap[rs]? = some (.cells #[.slice (some ⟨g, 0, none⟩) B.length cap, .int .i64 wk] 108 (0, 0))
  row : w.ownsRow 0 24 3 (.slice (some ⟨g, 0, none⟩) B.length cap) B.length (flat B)
  each : TsEach w ok B
  ne : rs ≠ g
  okb : ∀ b, ok b → b < w.heap.size ∧ b ≠ rs ∧ b ≠ g

theorem RAt.lt {w : World} {ok : Nat → Prop} {rs g cap : Nat} {B : List TmAt} {wk : Nat} (h : RAt w ok rs g cap B wk) : rs < w.heap.size ∧ g < w.heap.size := ⟨(Array.getElem?_eq_some_iff.1 h.blk).1, (h.row.lt g rfl).2⟩

theorem RAt.keep {w w' : World} {ok : Nat → Prop} {rs g cap : Nat} {B : List TmAt} {wk : Nat} (h : RAt w ok rs g cap B wk) (hb : Below w.heap.size w w') : RAt w' ok rs g cap B wk :=
  ⟨(hb.block rs h.lt.1).trans h.blk, ownsRow_below h.row hb, h.each.keep (Keeps.below hb ok), h.ne, fun b hk => ⟨Nat.lt_of_lt_of_le (h.okb b hk).1 hb.size, (h.okb b hk).2⟩⟩

theorem RAt.cells {w : World} {ok : Nat → Prop} {rs g cap : Nat} {B : List TmAt} {wk : Nat} (h : RAt w ok rs g cap B wk) :
    w.cell? ⟨rs, 0, none⟩ = some (.slice (some ⟨g, 0, none⟩) B.length cap) ∧ w.cell? ⟨rs, 1, none⟩ = some (.int .i64 wk) ∧ (∀ o, w.frozen? ⟨rs, o, none⟩ = false) ∧ (∀ o, w.frozen? ⟨g, o, none⟩ = false) :=
  ⟨by simp [World.cell?, h.blk], by simp [World.cell?, h.blk], fun o => by simp [World.frozen?, h.blk], fun o => h.row.frozenAt o⟩

theorem RAt.elem {w : World} {ok : Nat → Prop} {rs g cap : Nat} {B : List TmAt} {wk : Nat} (h : RAt w ok rs g cap B wk) (i : Nat) (hi : i < B.length) :
    w.cell? ⟨g, i * 3, none⟩ = some (.int .i64 B[i].1.var) ∧ w.cell? ⟨g, i * 3 + 1, none⟩ = some (.string B[i].1.name) ∧ w.cell? ⟨g, i * 3 + 2, none⟩ = some (.slice B[i].2.1 B[i].1.args.length B[i].2.2) ∧ B[i].1.fits ∧ Ts w ok B[i].1.args B[i].2.1 B[i].2.2 := by
  obtain ⟨h1, h2, h3⟩ := flat_at B i hi
  exact ⟨(h.row.cellAt _ (by omega)).trans h1, (h.row.cellAt _ (by omega)).trans h2, (h.row.cellAt _ (by omega)).trans h3, (h.each _ (List.getElem_mem hi)).1, (h.each _ (List.getElem_mem hi)).2⟩

theorem below_drewN (w : World) : ∀ q, Below w.heap.size w (w.drewN q)
  | 0 => Below.refl _ _
  | q + 1 => (below_drewN w q).drew

/-- All variables by themselves lie in a list. -/
def InB (B : List TmAt) (t : Tm) : Prop := 0 ≤ t.var ∧ t.var.toNat < B.length

set_option maxRecDepth 100000 in
set_option maxHeartbeats 2000000 in
theorem LookAtW {w : World} {ok : Nat → Prop} {rs g cap : Nat} {B : List TmAt} {wk : Nat} (h : RAt w ok rs g cap B wk) (hB : ∀ i (hi : i < B.length), InB B B[i].1) {n : Nat} {t u : Tm} (hl : LookN (subB (B.map (·.1))) n t u) {a : Option Addr} {c : Nat} (hf : t.fits) (ht : Ts w ok t.args a c) (hin : InB B t) :
    Calls Try.prog 71 #[.pointer (some ⟨rs, 0, none⟩), .agg #[.int .i64 t.var, .string t.name, .slice a t.args.length c]] w (RetTm w ok u) := by
  have H := Lib.hid h; have HL := Lib.hid hl; have HF := Lib.hid hf; have HT := Lib.hid ht; have HB := Lib.hid hB; have HIN := Lib.hid hin
  clear h hl hf ht hB hin
  go_enter Try.func71, Try.ntmps71
  go_wp2_with fail
  go_loopg [] n (fun k wr => ∃ cur a c, LookN (subB (B.map (·.1))) k cur u ∧ cur.fits ∧ InB B cur ∧ Ts w ok cur.args a c ∧ Box3 wr w.heap.size (.int .i64 cur.var) (.string cur.name) (.slice a cur.args.length c) ∧ Box3 wr (w.heap.size + 1) (.int .i64 0) (.string ⟨#[]⟩) (.slice none 0 0) ∧ Below w.heap.size w wr)
  case atStart =>
    refine ⟨t, a, c, HL.out, HF.out, HIN.out, HT.out, (Box3.made _ _ _ _).alloc _, ?_, ((Below.refl _ _).alloc (Nat.le_refl _) _).alloc (by simp) _⟩
    have := Box3.made (w.alloc (.cells #[.int .i64 t.var, .string t.name, .slice a t.args.length c] 24)) (.int .i64 0) (.string ⟨#[]⟩) (.slice none 0 0)
    simpa using this
  case round =>
    obtain ⟨cur, ca, ccap, hln, hcf, hci, hct, hbx, hrx, hbl⟩ := hrel
    have c0 := hbx.c0; have c1 := hbx.c1; have c2 := hbx.c2
    have r0 := hrx.c0; have r1 := hrx.c1; have r2 := hrx.c2
    have fr := hrx.fz; have fb := hbx.fz
    have HS := Lib.hid (H.out.keep hbl)
    have s0 := HS.out.cells.1
    have HLN := Lib.hid hln; have HCF := Lib.hid hcf; have HCT := Lib.hid hct; have HCI := Lib.hid hci
    obtain ⟨i, hi⟩ : ∃ i : Nat, (i : Int) = cur.var := ⟨cur.var.toNat, by have := hci.1; omega⟩
    have hilt : i < B.length := by have := hci.2; omega
    obtain ⟨e0, e1, e2, ef, et⟩ := HS.out.elem i hilt
    clear hln hcf hct hci
    have DQ := below_drewN wr
    by_cases hv : cur.var = 0
    · have HU : Hid (u = cur) := Lib.hid (by
        have := HLN.out
        cases gk with
        | zero => exact this.1
        | succ k => exact absurd hv this.1)
      have hv' : (cur.var != 0) = false := by rw [hv]; rfl
      clear hv
      go_wp2_with fail
      go_quiet (fail)
      rename_i nq
      have hB := DQ nq
      generalize wr.drewN nq = X at *
      have hbX := hbx.below hB; have hrX := hrx.below hB
      have hblX := hbl.trans (hB.mono hbl.size)
      have c0 := hbX.c0; have c1 := hbX.c1; have c2 := hbX.c2
      have r0 := hrX.c0; have r1 := hrX.c1; have r2 := hrX.c2
      have fr := hrX.fz; have fb := hbX.fz
      go_wp2_with fail
      exact bodyPost_ret (v := .agg #[.int .i64 cur.var, .string cur.name, .slice ca cur.args.length ccap]) (by simp [results, Try.results71, go_sem, r0, r1, r2]) rfl
        ⟨ca, ccap, by rw [HU.out], by rw [HU.out]; exact HCF.out, by rw [HU.out]; exact HCT.out.keep (Keeps.below (below_put hblX (by omega) _ _ _) ok), below_put hblX (by omega) _ _ _⟩
    · have hv' : (cur.var != 0) = true := by rw [bne_iff_ne]; exact hv
      have HV := Lib.hid hv
      clear hv
      have hi0 : (0 : Int) ≤ cur.var := HCI.out.1
      have hi1 : cur.var < (B.length : Int) := by have := HCI.out.2; have := HCI.out.1; omega
      have hin : cur.var.toNat = i := by omega
      by_cases hs : B[i].1.var = cur.var
      · have HU : Hid (u = cur) := Lib.hid (by
          have := HLN.out
          cases gk with
          | zero => exact this.1
          | succ k =>
            obtain ⟨_, t', h1, _⟩ := this
            subst hin
            rw [subB_none (by omega) (by simpa using hilt) (by simpa using hs)] at h1; cases h1)
        have hs' : (B[i].1.var != cur.var) = false := by rw [hs]; simp
        clear hs
        go_wp2_with fail
        go_quiet (fail)
        rename_i nq
        have hB := DQ nq
        generalize wr.drewN nq = X at *
        have hbX := hbx.below hB; have hrX := hrx.below hB
        have hblX := hbl.trans (hB.mono hbl.size)
        have c0 := hbX.c0; have c1 := hbX.c1; have c2 := hbX.c2
        have r0 := hrX.c0; have r1 := hrX.c1; have r2 := hrX.c2
        have fr := hrX.fz; have fb := hbX.fz
        go_wp2_with fail
        exact bodyPost_ret (v := .agg #[.int .i64 cur.var, .string cur.name, .slice ca cur.args.length ccap]) (by simp [results, Try.results71, go_sem, r0, r1, r2]) rfl
          ⟨ca, ccap, by rw [HU.out], by rw [HU.out]; exact HCF.out, by rw [HU.out]; exact HCT.out.keep (Keeps.below (below_put hblX (by omega) _ _ _) ok), below_put hblX (by omega) _ _ _⟩
      · have HU : Hid (∃ k, gk = k + 1 ∧ LookN (subB (B.map (·.1))) k B[i].1 u) := Lib.hid (by
          have := HLN.out
          subst hin
          have hsb : subB (B.map (·.1)) cur.var = some B[cur.var.toNat].1 := by
            rw [subB_some (by omega) (by simpa using hilt) (by simpa using hs)]; simp
          cases gk with
          | zero =>
            rcases this.2 with h1 | h1
            · exact absurd h1 HV.out
            · rw [hsb] at h1; cases h1
          | succ k => obtain ⟨_, t'', h1, h2⟩ := this; rw [hsb] at h1; cases h1; exact ⟨k, rfl, h2⟩)
        have hs' : (B[i].1.var != cur.var) = true := by rw [bne_iff_ne]; exact hs
        have HBI := Lib.hid (HB.out i hilt)
        clear hs
        have HF' := Lib.hid ef; have HT' := Lib.hid (H.out.elem i hilt).2.2.2.2
        clear ef et
        go_wp2_with fail
        go_quiet (fail)
        rename_i nq
        have hB := DQ nq
        generalize wr.drewN nq = X at *
        have hbX := hbx.below hB; have hrX := hrx.below hB
        have hblX := hbl.trans (hB.mono hbl.size)
        have c0 := hbX.c0; have c1 := hbX.c1; have c2 := hbX.c2
        have r0 := hrX.c0; have r1 := hrX.c1; have r2 := hrX.c2
        have fr := hrX.fz; have fb := hbX.fz
        have HX := Lib.hid (H.out.keep hblX)
        have s0 := HX.out.cells.1
        obtain ⟨e0, e1, e2, -, -⟩ := HX.out.elem i hilt
        have hPut := Lib.hid (hbX.put (.int .i64 B[i].1.var) (.string B[i].1.name) (.slice B[i].2.1 B[i].1.args.length B[i].2.2))
        go_wp2_with fail
        go_region
        all_goals
          go_wp2_with fail
          obtain ⟨k', hk', hl'⟩ := HU.out
          go_roundg k'
          case measure => omega
          case rel => exact ⟨B[i].1, B[i].2.1, B[i].2.2, hl', HF'.out, HBI.out, HT'.out, ⟨hPut.out.blk⟩, ⟨(hrX.keep (other_put (by omega) _ _ _)).blk⟩, (below_put hblX (Nat.le_refl _) _ _ _).drew⟩

end Go.Proofs.Ytikmgiapjigghaa

