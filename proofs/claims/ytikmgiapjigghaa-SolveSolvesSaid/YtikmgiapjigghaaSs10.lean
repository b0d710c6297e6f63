/- The reference's state: what its lists hold; work; walk: Within. -/
import Derived.Deep.RegionHeld3
import Derived.Deep.RegionWith
import Derived.Deep.DeepCutAuto
import Derived.Test.YtikmgiapjigghaaSs07
import Derived.Test.YtikmgiapjigghaaSs08
import Derived.Test.YtikmgiapjigghaaSs09
namespace Go.Proofs.Ytikmgiapjigghaa
open Go.RowKit

/-- A term whose variables lie in a list of n, and whose lists of arguments are not long. -/
structure Fit (n : Nat) (t : Tm) : Prop where
  wf : WfT t
  bd : ∀ p, p ∈ t.parts → p.var.toNat < n ∧ p.args.length ≤ 100000

theorem Fit.arg {n : Nat} {t x : Tm} (h : Fit n t) (hx : x ∈ t.args) : Fit n x := ⟨h.wf.arg hx, fun p hp => h.bd p (Tm.parts_arg hx hp)⟩
theorem Fit.pos {n : Nat} {t : Tm} (h : Fit n t) : 0 ≤ t.var ∧ t.var.toNat < n := ⟨h.wf.pos, (h.bd t t.self_mem).1⟩
theorem Fit.len {n : Nat} {t : Tm} (h : Fit n t) : t.args.length ≤ 100000 := (h.bd t t.self_mem).2

/-- What a State's list holds. -/
structure FB (ls : List Tm) : Prop where
  inv : SInv (subB ls)
  each : ∀ t ∈ ls, Fit ls.length t

theorem subB_mem {ls : List Tm} {v : Int} {u : Tm} (h : subB ls v = some u) : u ∈ ls := by
  unfold subB at h
  split at h
  · split at h
    · cases h
    · cases h; exact List.getElem_mem _
  · cases h

theorem FB.look {ls : List Tm} (h : FB ls) {t : Tm} (ht : Fit ls.length t) : Fit ls.length (look (subB ls) t) := by
  obtain ⟨n, hn⟩ := look_spec h.inv.rank.ends t
  generalize Go.Proofs.Ytikmgiapjigghaa.look (subB ls) t = u at *
  induction n generalizing t with
  | zero => obtain ⟨rfl, _⟩ := hn; exact ht
  | succ n ih => obtain ⟨_, t', h1, h2⟩ := hn; exact ih (h.each _ (subB_mem h1)) h2

theorem ownsRow_block {w w' : World} {base : Nat} {e : TypeId} {size : Nat} {v : Value} {n : Nat} {xs : List Value} (h : w.ownsRow base e size v n xs) (hb : ∀ g, v.ownBlock = some g → w'.heap[g]? = w.heap[g]?) : w'.ownsRow base e size v n xs := by
  refine ⟨h.1, ?_⟩
  rcases h.2 with h2 | ⟨g, cap, cur, rfl, h3, h4, r⟩
  · exact .inl h2
  · exact .inr ⟨g, cap, cur, rfl, h3, (hb g rfl).trans h4, r⟩

/-- The block of the State alone is touched. -/
abbrev StR (rs : Nat) : Nat → Prop := fun b => b = rs

theorem RAt.touch {w w' : World} {ok : Nat → Prop} {rs g cap : Nat} {B : List TmAt} {wk : Nat} (h : RAt w ok rs g cap B wk) {M : Nat → Prop} (ht : Touch M w w') (hM : ∀ b, M b → b ≠ rs ∧ b ≠ g ∧ ¬ ok b) : RAt w' ok rs g cap B wk :=
  ⟨(ht.block rs h.lt.1 (fun hm => (hM _ hm).1 rfl)).trans h.blk, ownsRow_block h.row (fun g' hg' => by
    simp only [Value.ownBlock, Option.some.injEq] at hg'; subst hg'; exact ht.block _ h.lt.2 (fun hm => (hM _ hm).2.1 rfl)),
    h.each.keep (ht.keeps fun b hb hm => (hM b hm).2.2 hb), h.ne, fun b hb => ⟨Nat.lt_of_lt_of_le (h.okb b hb).1 ht.size, (h.okb b hb).2⟩⟩

theorem touch_one (w : World) (b o : Nat) (y : Value) : Touch (StR b) w (w.setCell ⟨b, o, none⟩ y) :=
  ⟨rfl, rfl, rfl, by simp [World.setCell], fun b' _ hn => Below.heap_setCell _ _ _ _ hn⟩

theorem RAt.work {w : World} {ok : Nat → Prop} {rs g cap : Nat} {B : List TmAt} {wk : Nat} (h : RAt w ok rs g cap B wk) (wk' : Nat) : RAt (w.setCell ⟨rs, 1, none⟩ (.int .i64 wk')) ok rs g cap B wk' := by
  have ht := touch_one w rs 1 (.int .i64 wk')
  refine ⟨?_, ownsRow_block h.row (fun g' hg' => by
    simp only [Value.ownBlock, Option.some.injEq] at hg'; subst hg'; exact ht.block _ h.lt.2 (fun e => h.ne e.symm)), h.each.keep (ht.keeps fun b hb e => (h.okb b hb).2.1 e), h.ne, fun b hb => ⟨Nat.lt_of_lt_of_le (h.okb b hb).1 ht.size, (h.okb b hb).2⟩⟩
  have hlt := h.lt.1
  have hb := (Array.getElem?_eq_some_iff.1 h.blk).2
  rw [World.setCell]
  simp [hb, Array.getElem_modify, hlt]

theorem RAt.keeps {w w' : World} {ok : Nat → Prop} {rs g cap : Nat} {B : List TmAt} {wk : Nat} (h : RAt w ok rs g cap B wk) (ht : Touch (StR rs) w w') : Keeps ok w w' := ht.keeps fun b hb e => (h.okb b hb).2.1 e

/-- What Within hands back. -/
def WithinPost (w : World) (ok : Nat → Prop) (rs g cap : Nat) (B : List TmAt) (o : WOut) (e : Ending) (w' : World) : Prop :=
  Touch (StR rs) w w' ∧
  match o with
  | .yes f => e = .returned (.int .i64 1) ∧ RAt w' ok rs g cap B (4000 - f)
  | .no f => e = .returned (.int .i64 0) ∧ RAt w' ok rs g cap B (4000 - f)
  | .many => e = .returned (.int .i64 2) ∧ RAt w' ok rs g cap B 4001

/-- What holds at the head of Within's loop. -/
structure WithinRel (w : World) (ok : Nat → Prop) (rs g cap : Nat) (B : List TmAt) (f : Nat) (v : Int) (o : WOut) (L : List TmAt) (fk : Nat) (x : Value) (wr : World) : Prop where
  eq : o = within (subB (B.map (·.1))) v fk (L.map (·.1))
  st : RAt wr ok rs g cap B (4000 - fk)
  le : fk ≤ f
  row : wr.ownsRow (w.heap.size + 1) 24 3 x L.length (flat L)
  each : TsEach wr ok L
  fit : ∀ y ∈ L, Fit B.length y.1
  len : L.length ≤ 1 + (f - fk) * 100000
  touch : Touch (StR rs) w wr
  size : w.heap.size < wr.heap.size

set_option maxRecDepth 100000 in
set_option maxHeartbeats 2000000 in
theorem WithinW {w : World} {ok : Nat → Prop} {rs g cap : Nat} {B : List TmAt} {f : Nat} (hf : f ≤ 4000) (h : RAt w ok rs g cap B (4000 - f)) (hB : FB (B.map (·.1))) {v : Int} (hv : v ≠ 0) {t : Tm} {a : Option Addr} {c : Nat} (hfit : t.fits) (ht : Ts w ok t.args a c) (hin : Fit B.length t) :
    Calls Try.prog 105 #[.pointer (some ⟨rs, 0, none⟩), .int .i64 v, .agg #[.int .i64 t.var, .string t.name, .slice a t.args.length c]] w (WithinPost w ok rs g cap B (within (subB (B.map (·.1))) v f [t])) := by
  have H := Lib.hid h; have HF := Lib.hid hfit; have HT := Lib.hid ht; have HB := Lib.hid hB; have HIN := Lib.hid hin; have HV := Lib.hid hv; have HF4 := Lib.hid hf
  clear h hfit ht hB hin hv hf
  go_enter Try.func105, Try.ntmps105
  go_wp2_with fail
  go_loopg [7] f (fun fk x wr => ∃ L, WithinRel w ok rs g cap B f v (within (subB (B.map (·.1))) v f [t]) L fk x wr)
  case atStart =>
    have hb : Below w.heap.size w ((w.alloc (.cells #[.int .i64 t.var, .string t.name, .slice a t.args.length c] 24)).alloc (.cells #[.int .i64 t.var, .string t.name, .slice a t.args.length c] 24)) :=
      ((Below.refl _ _).alloc (Nat.le_refl _) _).alloc (by simp) _
    refine ⟨[(t, a, c)], rfl, H.out.keep hb, Nat.le_refl _, ?_, (TsEach.one HF.out HT.out).keep (Keeps.below hb _), fun y hy => by rw [List.mem_singleton] at hy; subst hy; exact HIN.out, by simp, Touch.below hb, by simp; omega⟩
    have := World.ownsRow_lit (base := w.heap.size + 1) (e := 24) (size := 3) (w.alloc (.cells #[.int .i64 t.var, .string t.name, .slice a t.args.length c] 24)) #[.int .i64 t.var, .string t.name, .slice a t.args.length c] 1 (by simp) (by unfold maxLen; omega) rfl
    simpa [flat] using this
  case round =>
    obtain ⟨L, hrel⟩ := hrel
    cases L with
    | nil =>
      obtain ⟨a0, c0, rfl⟩ : ∃ a0 c0, u7 = .slice a0 0 c0 := by
        rcases hrel.row.2 with ⟨h1, _⟩ | ⟨g', c', _, h1, _⟩
        · exact ⟨_, _, h1⟩
        · exact ⟨_, _, h1⟩
      have HO : Hid (within (subB (B.map (·.1))) v f [t] = .no gk) := Lib.hid (by rw [hrel.eq]; cases gk <;> rfl)
      have HR := Lib.hid hrel
      clear hrel
      go_wp2_with fail
      go_ret
      rw [HO.out]
      exact ⟨HR.out.touch, rfl, HR.out.st⟩
    | cons y R =>
      obtain ⟨g', c', rfl⟩ : ∃ g' c', u7 = .slice (some ⟨g', 0, none⟩) (R.length + 1) c' := by
        rcases hrel.row.2 with ⟨_, h1⟩ | ⟨g', c', _, h1, _⟩
        · cases h1
        · exact ⟨_, _, h1⟩
      have hlen := hrel.len
      have hw1 := hrel.st.cells.2.1
      have hfr := hrel.st.cells.2.2.1
      have hgf : gk ≤ 4000 := Nat.le_trans hrel.le HF4.out
      have HR := Lib.hid hrel
      clear hrel
      have hR : R.length + 1 ≤ 1000000000 := by simp only [List.length_cons] at hlen; have := HF4.out; omega
      have hcl := HR.out.row.cellAt
      have fl := flat_at (y :: R) 0 (by simp)
      have r0 : wr.cell? ⟨g', 0, none⟩ = some (.int .i64 y.1.var) := (hcl 0 (by omega)).trans fl.1
      have r1 : wr.cell? ⟨g', 1, none⟩ = some (.string y.1.name) := (hcl 1 (by omega)).trans fl.2.1
      have r2 : wr.cell? ⟨g', 2, none⟩ = some (.slice y.2.1 y.1.args.length y.2.2) := (hcl 2 (by omega)).trans fl.2.2
      have hne : g' ≠ rs := by have := (HR.out.row.lt g' rfl).1; have := H.out.lt.1; omega
      have hne' : rs ≠ g' := fun e => hne e.symm
      clear fl hcl
      cases gk with
      | zero =>
        have HO : Hid (within (subB (B.map (·.1))) v f [t] = .many) := Lib.hid (by rw [HR.out.eq]; rfl)
        have S1 := Lib.hid (HR.out.st.work 4001)
        have T1 := Lib.hid (HR.out.touch.trans (touch_one wr rs 1 (.int .i64 ((4001 : Nat) : Int))))
        go_wp2_with fail
        go_ret
        rw [HO.out]
        exact ⟨T1.out, rfl, S1.out⟩
      | succ k =>
        obtain ⟨q, hq⟩ : ∃ q : Nat, 4000 - (k + 1) = q := ⟨_, rfl⟩
        have hq1 : q ≤ 3999 := by omega
        have hq2 : 4000 - k = q + 1 := by omega
        rw [hq] at hw1
        have S1 : Hid (RAt (wr.setCell ⟨rs, 1, none⟩ (.int .i64 ((q : Int) + 1))) ok rs g cap B (4000 - k)) := Lib.hid (by rw [hq2]; exact HR.out.st.work (q + 1))
        have T1 := Lib.hid (HR.out.touch.trans (touch_one wr rs 1 (.int .i64 ((q : Int) + 1))))
        have TX := Lib.hid (touch_one wr rs 1 (.int .i64 ((q : Int) + 1)))
        clear hq hq2
        have HY := Lib.hid (HR.out.each y List.mem_cons_self)
        have HYF := Lib.hid (HR.out.fit y List.mem_cons_self)
        have HIB : Hid (∀ i (hi : i < B.length), InB B B[i].1) := Lib.hid (fun i hi => by
          have := (HB.out.each B[i].1 (List.mem_map.2 ⟨_, List.getElem_mem hi, rfl⟩)).pos
          rw [List.length_map] at this
          exact this)
        obtain ⟨n, hn⟩ := look_spec HB.out.inv.rank.ends y.1
        have HN := Lib.hid hn
        have KX := Lib.hid (HR.out.st.keeps TX.out)
        clear hn
        go_wp2_with fail
        refine (LookAtW S1.out HIB.out HN.out HY.out.1 (HY.out.2.keep KX.out) HYF.out.pos).mono ?_
        rintro e w2 ⟨a', cap', rfl, hf', ht', hb2⟩
        have HFX : Hid (Fit B.length (look (subB (B.map (·.1))) y.1)) := Lib.hid (by
          have := HB.out.look (t := y.1) (by rw [List.length_map]; exact HYF.out)
          rwa [List.length_map] at this)
        have HO : Hid (within (subB (B.map (·.1))) v f [t] = if (look (subB (B.map (·.1))) y.1).var ≠ 0 then (if (look (subB (B.map (·.1))) y.1).var = v then .yes k else within (subB (B.map (·.1))) v k (R.map (·.1))) else within (subB (B.map (·.1))) v k ((look (subB (B.map (·.1))) y.1).args ++ R.map (·.1))) := Lib.hid (by rw [HR.out.eq]; rfl)
        have S2 := Lib.hid (S1.out.keep hb2)
        have T2 := Lib.hid (T1.out.trans (Touch.below hb2))
        have KR := Lib.hid ((Keeps.below (w := wr.setCell ⟨rs, 1, none⟩ (.int .i64 ((q : Int) + 1))) hb2 ok))
        have hrow2 : w2.ownsRow (w.heap.size + 1) 24 3 (.slice (some ⟨g', 0, none⟩) (R.length + 1) c') (R.length + 1) (flat (y :: R)) :=
          ownsRow_below (ownsRow_block HR.out.row (fun gg hgg => by
            simp only [Value.ownBlock, Option.some.injEq] at hgg; subst hgg; exact TX.out.block _ (HR.out.row.lt _ rfl).2 hne)) hb2
        have HRW := Lib.hid hrow2
        have hE2 : TsEach w2 ok R := (TsEach.keep (KX.out.trans KR.out) (fun z hz => HR.out.each z (List.mem_cons_of_mem _ hz)))
        have HE := Lib.hid hE2
        have hsz2 : w.heap.size < w2.heap.size := by have := HR.out.size; have := hb2.size; have := TX.out.size; omega
        have HF' := Lib.hid hf'; have HT' := Lib.hid ht'; have HB2 := Lib.hid hb2
        clear hf' ht' hb2 hrow2 hE2 r0 r1 r2 hw1 hfr KR
        generalize look (subB (B.map (·.1))) y.1 = x at *
        by_cases hxv : x.var = v
        · have hx' : (x.var == v) = true := by rw [beq_iff_eq]; exact hxv
          have hv' : (v != 0) = true := by rw [bne_iff_ne]; exact HV.out
          have HO2 : Hid (within (subB (B.map (·.1))) v f [t] = .yes k) := Lib.hid (by rw [HO.out, if_pos (by rw [hxv]; exact HV.out), if_pos hxv])
          have BA : Below w2.heap.size w2 (w2.alloc (.cells #[.int .i64 x.var, .string x.name, .slice a' x.args.length cap'] 24)) := (Below.refl _ _).alloc (Nat.le_refl _) _
          clear hxv
          go_wp2_with fail
          go_ret
          rw [HO2.out]
          exact ⟨T2.out.trans (Touch.below BA), rfl, S2.out.keep BA⟩
        · have hx' : (x.var == v) = false := by rw [beq_eq_false_iff_ne]; exact hxv
          have HO2 : Hid (within (subB (B.map (·.1))) v f [t] = within (subB (B.map (·.1))) v k (x.args ++ R.map (·.1))) := Lib.hid (by
            rw [HO.out]
            by_cases h0 : x.var ≠ 0
            · rw [if_pos h0, if_neg hxv, ((HFX.out.wf x x.self_mem).2 h0).1]; rfl
            · rw [if_neg h0])
          have BA : Below w2.heap.size w2 (w2.alloc (.cells #[.int .i64 x.var, .string x.name, .slice a' x.args.length cap'] 24)) := (Below.refl _ _).alloc (Nat.le_refl _) _
          have hbx := Box3.made w2 (.int .i64 x.var) (.string x.name) (.slice a' x.args.length cap')
          obtain ⟨i0, hi, hz0, hz1, hz2⟩ := info_parts Try.infoTm
          have hcap : R.length + 1 ≤ c' := by
            rcases HRW.out.2 with ⟨h1, _⟩ | ⟨g2, c2, _, h1, _, _, h2, _⟩
            · cases h1
            · cases h1; exact h2
          clear hxv
          go_wp2_with fail
          generalize w2.alloc (.cells #[.int .i64 x.var, .string x.name, .slice a' x.args.length cap'] 24) = w3 at *
          have hb2c := hbx.c2
          have hk1 : (1 : Int) ≤ (R.length : Int) + 1 := by omega
          have hk2 : (R.length : Int) + 1 ≤ (c' : Int) := by omega
          have HB3 : Hid (Below w2.heap.size w2 w3) := Lib.hid BA
          have KH : Hid (∀ w', Below w3.heap.size w3 w' → w'.cell? ⟨w2.heap.size, 2, none⟩ = some (.slice a' x.args.length cap') ∧ Below w3.heap.size w3 w') := Lib.hid fun w' hb => ⟨(hbx.below hb).c2, hb⟩
          obtain ⟨LX, hLX, hEX, hCX⟩ := (HT'.out.keep (Keeps.below BA ok)).open
          have HLX := Lib.hid hLX; have HEX := Lib.hid hEX
          have hxl : LX.length = x.args.length := by rw [← hLX, List.length_map]
          have HXL := Lib.hid hxl
          have HXN : Hid (a' = none → x.args.length = 0) := Lib.hid (fun e => by have := HT'.out.cap; have := this.2.2 e; omega)
          have HNX : Hid (∀ u, Below w3.heap.size w3 u → ∀ ad, a' = some ad → ∀ j z, (flat LX)[j]? = some z → u.cell? (ad.add j) = some z) := Lib.hid (fun u hb ad had j z hz => by
            have h1 := hCX ad had j z hz
            exact (hb.cell (World.block_lt_of_cell? w3 _ h1)).trans h1)
          have HNR : Hid (∀ u, Below w3.heap.size w3 u → ∀ ad : Addr, (c' = 1 ∨ ad = ⟨g', 3, none⟩) → ∀ j z, (flat R)[j]? = some z → u.cell? (ad.add j) = some z) := Lib.hid (fun u hb ad had j z hz => by
            rcases had with h1 | rfl
            · have : R = [] := List.eq_nil_of_length_eq_zero (by omega)
              subst this
              simp [flat] at hz
            · have h2 := (ownsRow_below HRW.out BA).cellAt (3 + j)
              have hj : j < (flat R).length := (List.getElem?_eq_some_iff.1 hz).1
              rw [flat_length] at hj
              have h3 := h2 (by omega)
              have h4 : (flat (y :: R))[3 + j]? = some z := by
                rw [Nat.add_comm]; exact hz
              rw [h4] at h3
              rw [addr_add]
              exact (hb.cell (World.block_lt_of_cell? w3 _ h3)).trans h3)
          have HL0 := Lib.hid HFX.out.len
          have HOWN0 : Hid ((w3.alloc (.cells #[] 24)).drew.ownsRow w3.heap.size 24 3 (.slice (some ⟨w3.heap.size, 0, none⟩) 0 0) 0 []) := Lib.hid (by
            have := World.ownsRow_lit (base := w3.heap.size) (e := 24) (size := 3) w3 #[] 0 (Nat.le_refl _) (Nat.zero_le _) rfl
            exact this)
          have hl0 := HL0.out
          clear hCX hLX hEX hxl
          go_region_held3 (fun w' => w'.cell? ⟨w2.heap.size, 2, none⟩ = some (.slice a' x.args.length cap') ∧ Below w3.heap.size w3 w')
            (first | assumption | exact KH.out _ (Below.refl _ _).drew | exact KH.out _ ((Below.refl _ _).alloc (Nat.le_refl _) _).drew | exact KH.out _ hbl1.drew | exact KH.out _ hbl2.drew | exact KH.out _ hbl1 | exact KH.out _ hbl2)
            (first
              | (refine step_append_opt _ (by rfl) _ _ _ (by rfl) w3.heap.size 24 i0 _ 3 48 Try.underlying22 hi hz0 hz1 hz2 rfl (by decide) (.slice (some ⟨w3.heap.size, 0, none⟩) 0 0) 0 [] (by rfl) HOWN0.out a' x.args.length cap' HXN.out (flat LX) (by rfl) (by rw [flat_length, HXL.out]) (HNX.out _ (((Below.refl _ _).alloc (Nat.le_refl _) _).drew)) (flat_one LX) (by unfold maxLen; omega) (by omega) (by simp) ?_
                 intro v1 w1 hown1 hgrow1 hfr1
                 have hbl1 : Below w3.heap.size w3 w1 := (((Below.refl _ _).alloc (Nat.le_refl _) _).drew).grown hgrow1 (by simp) (fun g hg => by simp only [Value.ownBlock, Option.some.injEq] at hg; omega))
              | (refine step_append_opt _ (by rfl) _ _ _ (by rfl) w3.heap.size 24 i0 _ 3 48 Try.underlying22 hi hz0 hz1 hz2 rfl (by decide) v1 (0 + x.args.length) ([] ++ flat LX) (by rfl) (by first | exact hown1 | exact hown1.drew) _ R.length _ ?_ (flat R) (by rfl) (by rw [flat_length]) ?_ (flat_one R) (by unfold maxLen; omega) (by omega) (by have := hbl1.size; simp; omega) ?_
                 · intro h; split at h <;> cases h
                 · intro ad had; refine HNR.out _ hbl1 ad ?_
                   revert had; split
                   · intro _; exact .inl (by assumption)
                   · intro h; cases h; exact .inr rfl
                 intro v2 w5 hown2 hgrow2 hfr2
                 have hbl2 : Below w3.heap.size w3 w5 := hbl1.grown hgrow2 hbl1.size (fun g hg => (hown1.lt g hg).1)))
          all_goals
            have HROW := Lib.hid hown2
            have HBL := Lib.hid hbl2
            go_wp2_with fail
            all_goals
              go_roundg k
              case measure => omega
              case rel =>
                have hb := HBL.out
                have hr := HROW.out
                refine ⟨LX ++ R, ?_, S2.out.keep (HB3.out.trans (hb.mono HB3.out.size)), Nat.le_trans (Nat.le_succ k) HR.out.le, ?_, ?_, ?_, ?_, (T2.out.trans (Touch.below HB3.out)).trans (Touch.below hb), by have := HB3.out.size; have := hb.size; omega⟩
                · rw [HO2.out, List.map_append, HLX.out]
                · rw [List.length_append, flat_append, HXL.out]
                  rw [Nat.zero_add, List.nil_append] at hr
                  refine ⟨hr.1, hr.2.imp id ?_⟩
                  rintro ⟨gg, cc, cur, h1, h2, h3⟩
                  exact ⟨gg, cc, cur, h1, by have := HB3.out.size; omega, h3⟩
                · exact (HEX.out.keep (Keeps.below hb ok)).append ((HE.out.keep (Keeps.below HB3.out ok)).keep (Keeps.below hb ok))
                · intro z hz
                  rcases List.mem_append.1 hz with h1 | h1
                  · exact HFX.out.arg (by rw [← HLX.out]; exact List.mem_map.2 ⟨z, h1, rfl⟩)
                  · exact HR.out.fit z (List.mem_cons_of_mem _ h1)
                · have h1 := HR.out.len
                  have h2 := HR.out.le
                  rw [List.length_append, HXL.out]
                  simp only [List.length_cons] at h1
                  omega

end Go.Proofs.Ytikmgiapjigghaa

/- Walks: LookAt and Within of a State inside a Search. -/
namespace Go.Proofs.Ytikmgiapjigghaa.Emb
open Go.RowKit Go.Proofs.Ytikmgiapjigghaa

/-- What else lies in the Search. -/
structure SrZ where
  c0 : Value
  c3 : Value
  c4 : Value
  c5 : Value
  c6 : Value
  c7 : Value
  c8 : Value

variable {Z : SrZ}

/-- The reference's state in a world. -/
structure RAt (Z : SrZ) (w : World) (ok : Nat → Prop) (rs g cap : Nat) (B : List TmAt) (wk : Nat) : Prop where
  blk : w.heap[rs]? = some (.cells #[Z.c0, .slice (some ⟨g, 0, none⟩) B.length cap, .int .i64 wk, Z.c3, Z.c4, Z.c5, Z.c6, Z.c7, Z.c8] 142 (0, 0))
  row : w.ownsRow 0 24 3 (.slice (some ⟨g, 0, none⟩) B.length cap) B.length (flat B)
  each : TsEach w ok B
  ne : rs ≠ g
  okb : ∀ b, ok b → b < w.heap.size ∧ b ≠ rs ∧ b ≠ g

theorem RAt.lt {w : World} {ok : Nat → Prop} {rs g cap : Nat} {B : List TmAt} {wk : Nat} (h : RAt Z w ok rs g cap B wk) : rs < w.heap.size ∧ g < w.heap.size := ⟨(Array.getElem?_eq_some_iff.1 h.blk).1, (h.row.lt g rfl).2⟩

theorem RAt.keep {w w' : World} {ok : Nat → Prop} {rs g cap : Nat} {B : List TmAt} {wk : Nat} (h : RAt Z w ok rs g cap B wk) (hb : Below w.heap.size w w') : RAt Z w' ok rs g cap B wk :=
  ⟨(hb.block rs h.lt.1).trans h.blk, ownsRow_below h.row hb, h.each.keep (Keeps.below hb ok), h.ne, fun b hk => ⟨Nat.lt_of_lt_of_le (h.okb b hk).1 hb.size, (h.okb b hk).2⟩⟩

theorem RAt.cells {w : World} {ok : Nat → Prop} {rs g cap : Nat} {B : List TmAt} {wk : Nat} (h : RAt Z w ok rs g cap B wk) :
    w.cell? ⟨rs, 1, none⟩ = some (.slice (some ⟨g, 0, none⟩) B.length cap) ∧ w.cell? ⟨rs, 2, none⟩ = some (.int .i64 wk) ∧ (∀ o, w.frozen? ⟨rs, o, none⟩ = false) ∧ (∀ o, w.frozen? ⟨g, o, none⟩ = false) :=
  ⟨by simp [World.cell?, h.blk], by simp [World.cell?, h.blk], fun o => by simp [World.frozen?, h.blk], fun o => h.row.frozenAt o⟩

theorem RAt.elem {w : World} {ok : Nat → Prop} {rs g cap : Nat} {B : List TmAt} {wk : Nat} (h : RAt Z w ok rs g cap B wk) (i : Nat) (hi : i < B.length) :
    w.cell? ⟨g, i * 3, none⟩ = some (.int .i64 B[i].1.var) ∧ w.cell? ⟨g, i * 3 + 1, none⟩ = some (.string B[i].1.name) ∧ w.cell? ⟨g, i * 3 + 2, none⟩ = some (.slice B[i].2.1 B[i].1.args.length B[i].2.2) ∧ B[i].1.fits ∧ Ts w ok B[i].1.args B[i].2.1 B[i].2.2 := by
  obtain ⟨h1, h2, h3⟩ := flat_at B i hi
  exact ⟨(h.row.cellAt _ (by omega)).trans h1, (h.row.cellAt _ (by omega)).trans h2, (h.row.cellAt _ (by omega)).trans h3, (h.each _ (List.getElem_mem hi)).1, (h.each _ (List.getElem_mem hi)).2⟩

set_option maxRecDepth 100000 in
set_option maxHeartbeats 2000000 in
theorem LookAtW {w : World} {ok : Nat → Prop} {rs g cap : Nat} {B : List TmAt} {wk : Nat} (h : RAt Z w ok rs g cap B wk) (hB : ∀ i (hi : i < B.length), InB B B[i].1) {n : Nat} {t u : Tm} (hl : LookN (subB (B.map (·.1))) n t u) {a : Option Addr} {c : Nat} (hf : t.fits) (ht : Ts w ok t.args a c) (hin : InB B t) :
    Calls Try.prog 71 #[.pointer (some ⟨rs, 1, none⟩), .agg #[.int .i64 t.var, .string t.name, .slice a t.args.length c]] w (RetTm w ok u) := by
  have H := Lib.hid h; have HL := Lib.hid hl; have HF := Lib.hid hf; have HT := Lib.hid ht; have HB := Lib.hid hB; have HIN := Lib.hid hin
  clear h hl hf ht hB hin
  go_enter Try.func71, Try.ntmps71
  go_wp2_with fail
  go_loopg [] n (fun k wr => ∃ cur a c, LookN (subB (B.map (·.1))) k cur u ∧ cur.fits ∧ InB B cur ∧ Ts w ok cur.args a c ∧ Box3 wr w.heap.size (.int .i64 cur.var) (.string cur.name) (.slice a cur.args.length c) ∧ Box3 wr (w.heap.size + 1) (.int .i64 0) (.string ⟨#[]⟩) (.slice none 0 0) ∧ Below w.heap.size w wr)
  case atStart =>
    refine ⟨t, a, c, HL.out, HF.out, HIN.out, HT.out, (Box3.made _ _ _ _).alloc _, ?_, ((Below.refl _ _).alloc (Nat.le_refl _) _).alloc (by simp) _⟩
    have := Box3.made (w.alloc (.cells #[.int .i64 t.var, .string t.name, .slice a t.args.length c] 24)) (.int .i64 0) (.string ⟨#[]⟩) (.slice none 0 0)
    simpa using this
  case round =>
    obtain ⟨cur, ca, ccap, hln, hcf, hci, hct, hbx, hrx, hbl⟩ := hrel
    have c0 := hbx.c0; have c1 := hbx.c1; have c2 := hbx.c2
    have r0 := hrx.c0; have r1 := hrx.c1; have r2 := hrx.c2
    have fr := hrx.fz; have fb := hbx.fz
    have HS := Lib.hid (H.out.keep hbl)
    have s0 := HS.out.cells.1
    have HLN := Lib.hid hln; have HCF := Lib.hid hcf; have HCT := Lib.hid hct; have HCI := Lib.hid hci
    obtain ⟨i, hi⟩ : ∃ i : Nat, (i : Int) = cur.var := ⟨cur.var.toNat, by have := hci.1; omega⟩
    have hilt : i < B.length := by have := hci.2; omega
    obtain ⟨e0, e1, e2, ef, et⟩ := HS.out.elem i hilt
    clear hln hcf hct hci
    have DQ := below_drewN wr
    by_cases hv : cur.var = 0
    · have HU : Hid (u = cur) := Lib.hid (by
        have := HLN.out
        cases gk with
        | zero => exact this.1
        | succ k => exact absurd hv this.1)
      have hv' : (cur.var != 0) = false := by rw [hv]; rfl
      clear hv
      go_wp2_with fail
      go_quiet (fail)
      rename_i nq
      have hB := DQ nq
      generalize wr.drewN nq = X at *
      have hbX := hbx.below hB; have hrX := hrx.below hB
      have hblX := hbl.trans (hB.mono hbl.size)
      have c0 := hbX.c0; have c1 := hbX.c1; have c2 := hbX.c2
      have r0 := hrX.c0; have r1 := hrX.c1; have r2 := hrX.c2
      have fr := hrX.fz; have fb := hbX.fz
      go_wp2_with fail
      exact bodyPost_ret (v := .agg #[.int .i64 cur.var, .string cur.name, .slice ca cur.args.length ccap]) (by simp [results, Try.results71, go_sem, r0, r1, r2]) rfl
        ⟨ca, ccap, by rw [HU.out], by rw [HU.out]; exact HCF.out, by rw [HU.out]; exact HCT.out.keep (Keeps.below (below_put hblX (by omega) _ _ _) ok), below_put hblX (by omega) _ _ _⟩
    · have hv' : (cur.var != 0) = true := by rw [bne_iff_ne]; exact hv
      have HV := Lib.hid hv
      clear hv
      have hi0 : (0 : Int) ≤ cur.var := HCI.out.1
      have hi1 : cur.var < (B.length : Int) := by have := HCI.out.2; have := HCI.out.1; omega
      have hin : cur.var.toNat = i := by omega
      by_cases hs : B[i].1.var = cur.var
      · have HU : Hid (u = cur) := Lib.hid (by
          have := HLN.out
          cases gk with
          | zero => exact this.1
          | succ k =>
            obtain ⟨_, t', h1, _⟩ := this
            subst hin
            rw [subB_none (by omega) (by simpa using hilt) (by simpa using hs)] at h1; cases h1)
        have hs' : (B[i].1.var != cur.var) = false := by rw [hs]; simp
        clear hs
        go_wp2_with fail
        go_quiet (fail)
        rename_i nq
        have hB := DQ nq
        generalize wr.drewN nq = X at *
        have hbX := hbx.below hB; have hrX := hrx.below hB
        have hblX := hbl.trans (hB.mono hbl.size)
        have c0 := hbX.c0; have c1 := hbX.c1; have c2 := hbX.c2
        have r0 := hrX.c0; have r1 := hrX.c1; have r2 := hrX.c2
        have fr := hrX.fz; have fb := hbX.fz
        go_wp2_with fail
        exact bodyPost_ret (v := .agg #[.int .i64 cur.var, .string cur.name, .slice ca cur.args.length ccap]) (by simp [results, Try.results71, go_sem, r0, r1, r2]) rfl
          ⟨ca, ccap, by rw [HU.out], by rw [HU.out]; exact HCF.out, by rw [HU.out]; exact HCT.out.keep (Keeps.below (below_put hblX (by omega) _ _ _) ok), below_put hblX (by omega) _ _ _⟩
      · have HU : Hid (∃ k, gk = k + 1 ∧ LookN (subB (B.map (·.1))) k B[i].1 u) := Lib.hid (by
          have := HLN.out
          subst hin
          have hsb : subB (B.map (·.1)) cur.var = some B[cur.var.toNat].1 := by
            rw [subB_some (by omega) (by simpa using hilt) (by simpa using hs)]; simp
          cases gk with
          | zero =>
            rcases this.2 with h1 | h1
            · exact absurd h1 HV.out
            · rw [hsb] at h1; cases h1
          | succ k => obtain ⟨_, t'', h1, h2⟩ := this; rw [hsb] at h1; cases h1; exact ⟨k, rfl, h2⟩)
        have hs' : (B[i].1.var != cur.var) = true := by rw [bne_iff_ne]; exact hs
        have HBI := Lib.hid (HB.out i hilt)
        clear hs
        have HF' := Lib.hid ef; have HT' := Lib.hid (H.out.elem i hilt).2.2.2.2
        clear ef et
        go_wp2_with fail
        go_quiet (fail)
        rename_i nq
        have hB := DQ nq
        generalize wr.drewN nq = X at *
        have hbX := hbx.below hB; have hrX := hrx.below hB
        have hblX := hbl.trans (hB.mono hbl.size)
        have c0 := hbX.c0; have c1 := hbX.c1; have c2 := hbX.c2
        have r0 := hrX.c0; have r1 := hrX.c1; have r2 := hrX.c2
        have fr := hrX.fz; have fb := hbX.fz
        have HX := Lib.hid (H.out.keep hblX)
        have s0 := HX.out.cells.1
        obtain ⟨e0, e1, e2, -, -⟩ := HX.out.elem i hilt
        have hPut := Lib.hid (hbX.put (.int .i64 B[i].1.var) (.string B[i].1.name) (.slice B[i].2.1 B[i].1.args.length B[i].2.2))
        go_wp2_with fail
        go_region
        all_goals
          go_wp2_with fail
          obtain ⟨k', hk', hl'⟩ := HU.out
          go_roundg k'
          case measure => omega
          case rel => exact ⟨B[i].1, B[i].2.1, B[i].2.2, hl', HF'.out, HBI.out, HT'.out, ⟨hPut.out.blk⟩, ⟨(hrX.keep (other_put (by omega) _ _ _)).blk⟩, (below_put hblX (Nat.le_refl _) _ _ _).drew⟩

theorem RAt.touch {w w' : World} {ok : Nat → Prop} {rs g cap : Nat} {B : List TmAt} {wk : Nat} (h : RAt Z w ok rs g cap B wk) {M : Nat → Prop} (ht : Touch M w w') (hM : ∀ b, M b → b ≠ rs ∧ b ≠ g ∧ ¬ ok b) : RAt Z w' ok rs g cap B wk :=
  ⟨(ht.block rs h.lt.1 (fun hm => (hM _ hm).1 rfl)).trans h.blk, ownsRow_block h.row (fun g' hg' => by
    simp only [Value.ownBlock, Option.some.injEq] at hg'; subst hg'; exact ht.block _ h.lt.2 (fun hm => (hM _ hm).2.1 rfl)),
    h.each.keep (ht.keeps fun b hb hm => (hM b hm).2.2 hb), h.ne, fun b hb => ⟨Nat.lt_of_lt_of_le (h.okb b hb).1 ht.size, (h.okb b hb).2⟩⟩

theorem RAt.work {w : World} {ok : Nat → Prop} {rs g cap : Nat} {B : List TmAt} {wk : Nat} (h : RAt Z w ok rs g cap B wk) (wk' : Nat) : RAt Z (w.setCell ⟨rs, 2, none⟩ (.int .i64 wk')) ok rs g cap B wk' := by
  have ht := touch_one w rs 2 (.int .i64 wk')
  refine ⟨?_, ownsRow_block h.row (fun g' hg' => by
    simp only [Value.ownBlock, Option.some.injEq] at hg'; subst hg'; exact ht.block _ h.lt.2 (fun e => h.ne e.symm)), h.each.keep (ht.keeps fun b hb e => (h.okb b hb).2.1 e), h.ne, fun b hb => ⟨Nat.lt_of_lt_of_le (h.okb b hb).1 ht.size, (h.okb b hb).2⟩⟩
  have hlt := h.lt.1
  have hb := (Array.getElem?_eq_some_iff.1 h.blk).2
  rw [World.setCell]
  simp [hb, Array.getElem_modify, hlt]

theorem RAt.keeps {w w' : World} {ok : Nat → Prop} {rs g cap : Nat} {B : List TmAt} {wk : Nat} (h : RAt Z w ok rs g cap B wk) (ht : Touch (StR rs) w w') : Keeps ok w w' := ht.keeps fun b hb e => (h.okb b hb).2.1 e

/-- What Within hands back. -/
def WithinPost (Z : SrZ) (w : World) (ok : Nat → Prop) (rs g cap : Nat) (B : List TmAt) (o : WOut) (e : Ending) (w' : World) : Prop :=
  Touch (StR rs) w w' ∧
  match o with
  | .yes f => e = .returned (.int .i64 1) ∧ RAt Z w' ok rs g cap B (4000 - f)
  | .no f => e = .returned (.int .i64 0) ∧ RAt Z w' ok rs g cap B (4000 - f)
  | .many => e = .returned (.int .i64 2) ∧ RAt Z w' ok rs g cap B 4001

/-- What holds at the head of Within's loop. -/
structure WithinRel (Z : SrZ) (w : World) (ok : Nat → Prop) (rs g cap : Nat) (B : List TmAt) (f : Nat) (v : Int) (o : WOut) (L : List TmAt) (fk : Nat) (x : Value) (wr : World) : Prop where
  eq : o = within (subB (B.map (·.1))) v fk (L.map (·.1))
  st : RAt Z wr ok rs g cap B (4000 - fk)
  le : fk ≤ f
  row : wr.ownsRow (w.heap.size + 1) 24 3 x L.length (flat L)
  each : TsEach wr ok L
  fit : ∀ y ∈ L, Fit B.length y.1
  len : L.length ≤ 1 + (f - fk) * 100000
  touch : Touch (StR rs) w wr
  size : w.heap.size < wr.heap.size

set_option maxRecDepth 100000 in
set_option maxHeartbeats 2000000 in
theorem WithinW {w : World} {ok : Nat → Prop} {rs g cap : Nat} {B : List TmAt} {f : Nat} (hf : f ≤ 4000) (h : RAt Z w ok rs g cap B (4000 - f)) (hB : FB (B.map (·.1))) {v : Int} (hv : v ≠ 0) {t : Tm} {a : Option Addr} {c : Nat} (hfit : t.fits) (ht : Ts w ok t.args a c) (hin : Fit B.length t) :
    Calls Try.prog 105 #[.pointer (some ⟨rs, 1, none⟩), .int .i64 v, .agg #[.int .i64 t.var, .string t.name, .slice a t.args.length c]] w (WithinPost Z w ok rs g cap B (within (subB (B.map (·.1))) v f [t])) := by
  have H := Lib.hid h; have HF := Lib.hid hfit; have HT := Lib.hid ht; have HB := Lib.hid hB; have HIN := Lib.hid hin; have HV := Lib.hid hv; have HF4 := Lib.hid hf
  clear h hfit ht hB hin hv hf
  go_enter Try.func105, Try.ntmps105
  go_wp2_with fail
  go_loopg [7] f (fun fk x wr => ∃ L, WithinRel Z w ok rs g cap B f v (within (subB (B.map (·.1))) v f [t]) L fk x wr)
  case atStart =>
    have hb : Below w.heap.size w ((w.alloc (.cells #[.int .i64 t.var, .string t.name, .slice a t.args.length c] 24)).alloc (.cells #[.int .i64 t.var, .string t.name, .slice a t.args.length c] 24)) :=
      ((Below.refl _ _).alloc (Nat.le_refl _) _).alloc (by simp) _
    refine ⟨[(t, a, c)], rfl, H.out.keep hb, Nat.le_refl _, ?_, (TsEach.one HF.out HT.out).keep (Keeps.below hb _), fun y hy => by rw [List.mem_singleton] at hy; subst hy; exact HIN.out, by simp, Touch.below hb, by simp; omega⟩
    have := World.ownsRow_lit (base := w.heap.size + 1) (e := 24) (size := 3) (w.alloc (.cells #[.int .i64 t.var, .string t.name, .slice a t.args.length c] 24)) #[.int .i64 t.var, .string t.name, .slice a t.args.length c] 1 (by simp) (by unfold maxLen; omega) rfl
    simpa [flat] using this
  case round =>
    obtain ⟨L, hrel⟩ := hrel
    cases L with
    | nil =>
      obtain ⟨a0, c0, rfl⟩ : ∃ a0 c0, u7 = .slice a0 0 c0 := by
        rcases hrel.row.2 with ⟨h1, _⟩ | ⟨g', c', _, h1, _⟩
        · exact ⟨_, _, h1⟩
        · exact ⟨_, _, h1⟩
      have HO : Hid (within (subB (B.map (·.1))) v f [t] = .no gk) := Lib.hid (by rw [hrel.eq]; cases gk <;> rfl)
      have HR := Lib.hid hrel
      clear hrel
      go_wp2_with fail
      go_ret
      rw [HO.out]
      exact ⟨HR.out.touch, rfl, HR.out.st⟩
    | cons y R =>
      obtain ⟨g', c', rfl⟩ : ∃ g' c', u7 = .slice (some ⟨g', 0, none⟩) (R.length + 1) c' := by
        rcases hrel.row.2 with ⟨_, h1⟩ | ⟨g', c', _, h1, _⟩
        · cases h1
        · exact ⟨_, _, h1⟩
      have hlen := hrel.len
      have hw1 := hrel.st.cells.2.1
      have hfr := hrel.st.cells.2.2.1
      have hgf : gk ≤ 4000 := Nat.le_trans hrel.le HF4.out
      have HR := Lib.hid hrel
      clear hrel
      have hR : R.length + 1 ≤ 1000000000 := by simp only [List.length_cons] at hlen; have := HF4.out; omega
      have hcl := HR.out.row.cellAt
      have fl := flat_at (y :: R) 0 (by simp)
      have r0 : wr.cell? ⟨g', 0, none⟩ = some (.int .i64 y.1.var) := (hcl 0 (by omega)).trans fl.1
      have r1 : wr.cell? ⟨g', 1, none⟩ = some (.string y.1.name) := (hcl 1 (by omega)).trans fl.2.1
      have r2 : wr.cell? ⟨g', 2, none⟩ = some (.slice y.2.1 y.1.args.length y.2.2) := (hcl 2 (by omega)).trans fl.2.2
      have hne : g' ≠ rs := by have := (HR.out.row.lt g' rfl).1; have := H.out.lt.1; omega
      have hne' : rs ≠ g' := fun e => hne e.symm
      clear fl hcl
      cases gk with
      | zero =>
        have HO : Hid (within (subB (B.map (·.1))) v f [t] = .many) := Lib.hid (by rw [HR.out.eq]; rfl)
        have S1 := Lib.hid (HR.out.st.work 4001)
        have T1 := Lib.hid (HR.out.touch.trans (touch_one wr rs 2 (.int .i64 ((4001 : Nat) : Int))))
        go_wp2_with fail
        go_ret
        rw [HO.out]
        exact ⟨T1.out, rfl, S1.out⟩
      | succ k =>
        obtain ⟨q, hq⟩ : ∃ q : Nat, 4000 - (k + 1) = q := ⟨_, rfl⟩
        have hq1 : q ≤ 3999 := by omega
        have hq2 : 4000 - k = q + 1 := by omega
        rw [hq] at hw1
        have S1 : Hid (RAt Z (wr.setCell ⟨rs, 2, none⟩ (.int .i64 ((q : Int) + 1))) ok rs g cap B (4000 - k)) := Lib.hid (by rw [hq2]; exact HR.out.st.work (q + 1))
        have T1 := Lib.hid (HR.out.touch.trans (touch_one wr rs 2 (.int .i64 ((q : Int) + 1))))
        have TX := Lib.hid (touch_one wr rs 2 (.int .i64 ((q : Int) + 1)))
        clear hq hq2
        have HY := Lib.hid (HR.out.each y List.mem_cons_self)
        have HYF := Lib.hid (HR.out.fit y List.mem_cons_self)
        have HIB : Hid (∀ i (hi : i < B.length), InB B B[i].1) := Lib.hid (fun i hi => by
          have := (HB.out.each B[i].1 (List.mem_map.2 ⟨_, List.getElem_mem hi, rfl⟩)).pos
          rw [List.length_map] at this
          exact this)
        obtain ⟨n, hn⟩ := look_spec HB.out.inv.rank.ends y.1
        have HN := Lib.hid hn
        have KX := Lib.hid (HR.out.st.keeps TX.out)
        clear hn
        go_wp2_with fail
        refine (LookAtW S1.out HIB.out HN.out HY.out.1 (HY.out.2.keep KX.out) HYF.out.pos).mono ?_
        rintro e w2 ⟨a', cap', rfl, hf', ht', hb2⟩
        have HFX : Hid (Fit B.length (look (subB (B.map (·.1))) y.1)) := Lib.hid (by
          have := HB.out.look (t := y.1) (by rw [List.length_map]; exact HYF.out)
          rwa [List.length_map] at this)
        have HO : Hid (within (subB (B.map (·.1))) v f [t] = if (look (subB (B.map (·.1))) y.1).var ≠ 0 then (if (look (subB (B.map (·.1))) y.1).var = v then .yes k else within (subB (B.map (·.1))) v k (R.map (·.1))) else within (subB (B.map (·.1))) v k ((look (subB (B.map (·.1))) y.1).args ++ R.map (·.1))) := Lib.hid (by rw [HR.out.eq]; rfl)
        have S2 := Lib.hid (S1.out.keep hb2)
        have T2 := Lib.hid (T1.out.trans (Touch.below hb2))
        have KR := Lib.hid ((Keeps.below (w := wr.setCell ⟨rs, 2, none⟩ (.int .i64 ((q : Int) + 1))) hb2 ok))
        have hrow2 : w2.ownsRow (w.heap.size + 1) 24 3 (.slice (some ⟨g', 0, none⟩) (R.length + 1) c') (R.length + 1) (flat (y :: R)) :=
          ownsRow_below (ownsRow_block HR.out.row (fun gg hgg => by
            simp only [Value.ownBlock, Option.some.injEq] at hgg; subst hgg; exact TX.out.block _ (HR.out.row.lt _ rfl).2 hne)) hb2
        have HRW := Lib.hid hrow2
        have hE2 : TsEach w2 ok R := (TsEach.keep (KX.out.trans KR.out) (fun z hz => HR.out.each z (List.mem_cons_of_mem _ hz)))
        have HE := Lib.hid hE2
        have hsz2 : w.heap.size < w2.heap.size := by have := HR.out.size; have := hb2.size; have := TX.out.size; omega
        have HF' := Lib.hid hf'; have HT' := Lib.hid ht'; have HB2 := Lib.hid hb2
        clear hf' ht' hb2 hrow2 hE2 r0 r1 r2 hw1 hfr KR
        generalize look (subB (B.map (·.1))) y.1 = x at *
        by_cases hxv : x.var = v
        · have hx' : (x.var == v) = true := by rw [beq_iff_eq]; exact hxv
          have hv' : (v != 0) = true := by rw [bne_iff_ne]; exact HV.out
          have HO2 : Hid (within (subB (B.map (·.1))) v f [t] = .yes k) := Lib.hid (by rw [HO.out, if_pos (by rw [hxv]; exact HV.out), if_pos hxv])
          have BA : Below w2.heap.size w2 (w2.alloc (.cells #[.int .i64 x.var, .string x.name, .slice a' x.args.length cap'] 24)) := (Below.refl _ _).alloc (Nat.le_refl _) _
          clear hxv
          go_wp2_with fail
          go_ret
          rw [HO2.out]
          exact ⟨T2.out.trans (Touch.below BA), rfl, S2.out.keep BA⟩
        · have hx' : (x.var == v) = false := by rw [beq_eq_false_iff_ne]; exact hxv
          have HO2 : Hid (within (subB (B.map (·.1))) v f [t] = within (subB (B.map (·.1))) v k (x.args ++ R.map (·.1))) := Lib.hid (by
            rw [HO.out]
            by_cases h0 : x.var ≠ 0
            · rw [if_pos h0, if_neg hxv, ((HFX.out.wf x x.self_mem).2 h0).1]; rfl
            · rw [if_neg h0])
          have BA : Below w2.heap.size w2 (w2.alloc (.cells #[.int .i64 x.var, .string x.name, .slice a' x.args.length cap'] 24)) := (Below.refl _ _).alloc (Nat.le_refl _) _
          have hbx := Box3.made w2 (.int .i64 x.var) (.string x.name) (.slice a' x.args.length cap')
          obtain ⟨i0, hi, hz0, hz1, hz2⟩ := info_parts Try.infoTm
          have hcap : R.length + 1 ≤ c' := by
            rcases HRW.out.2 with ⟨h1, _⟩ | ⟨g2, c2, _, h1, _, _, h2, _⟩
            · cases h1
            · cases h1; exact h2
          clear hxv
          go_wp2_with fail
          generalize w2.alloc (.cells #[.int .i64 x.var, .string x.name, .slice a' x.args.length cap'] 24) = w3 at *
          have hb2c := hbx.c2
          have hk1 : (1 : Int) ≤ (R.length : Int) + 1 := by omega
          have hk2 : (R.length : Int) + 1 ≤ (c' : Int) := by omega
          have HB3 : Hid (Below w2.heap.size w2 w3) := Lib.hid BA
          have KH : Hid (∀ w', Below w3.heap.size w3 w' → w'.cell? ⟨w2.heap.size, 2, none⟩ = some (.slice a' x.args.length cap') ∧ Below w3.heap.size w3 w') := Lib.hid fun w' hb => ⟨(hbx.below hb).c2, hb⟩
          obtain ⟨LX, hLX, hEX, hCX⟩ := (HT'.out.keep (Keeps.below BA ok)).open
          have HLX := Lib.hid hLX; have HEX := Lib.hid hEX
          have hxl : LX.length = x.args.length := by rw [← hLX, List.length_map]
          have HXL := Lib.hid hxl
          have HXN : Hid (a' = none → x.args.length = 0) := Lib.hid (fun e => by have := HT'.out.cap; have := this.2.2 e; omega)
          have HNX : Hid (∀ u, Below w3.heap.size w3 u → ∀ ad, a' = some ad → ∀ j z, (flat LX)[j]? = some z → u.cell? (ad.add j) = some z) := Lib.hid (fun u hb ad had j z hz => by
            have h1 := hCX ad had j z hz
            exact (hb.cell (World.block_lt_of_cell? w3 _ h1)).trans h1)
          have HNR : Hid (∀ u, Below w3.heap.size w3 u → ∀ ad : Addr, (c' = 1 ∨ ad = ⟨g', 3, none⟩) → ∀ j z, (flat R)[j]? = some z → u.cell? (ad.add j) = some z) := Lib.hid (fun u hb ad had j z hz => by
            rcases had with h1 | rfl
            · have : R = [] := List.eq_nil_of_length_eq_zero (by omega)
              subst this
              simp [flat] at hz
            · have h2 := (ownsRow_below HRW.out BA).cellAt (3 + j)
              have hj : j < (flat R).length := (List.getElem?_eq_some_iff.1 hz).1
              rw [flat_length] at hj
              have h3 := h2 (by omega)
              have h4 : (flat (y :: R))[3 + j]? = some z := by
                rw [Nat.add_comm]; exact hz
              rw [h4] at h3
              rw [addr_add]
              exact (hb.cell (World.block_lt_of_cell? w3 _ h3)).trans h3)
          have HL0 := Lib.hid HFX.out.len
          have HOWN0 : Hid ((w3.alloc (.cells #[] 24)).drew.ownsRow w3.heap.size 24 3 (.slice (some ⟨w3.heap.size, 0, none⟩) 0 0) 0 []) := Lib.hid (by
            have := World.ownsRow_lit (base := w3.heap.size) (e := 24) (size := 3) w3 #[] 0 (Nat.le_refl _) (Nat.zero_le _) rfl
            exact this)
          have hl0 := HL0.out
          clear hCX hLX hEX hxl
          go_region_held3 (fun w' => w'.cell? ⟨w2.heap.size, 2, none⟩ = some (.slice a' x.args.length cap') ∧ Below w3.heap.size w3 w')
            (first | assumption | exact KH.out _ (Below.refl _ _).drew | exact KH.out _ ((Below.refl _ _).alloc (Nat.le_refl _) _).drew | exact KH.out _ hbl1.drew | exact KH.out _ hbl2.drew | exact KH.out _ hbl1 | exact KH.out _ hbl2)
            (first
              | (refine step_append_opt _ (by rfl) _ _ _ (by rfl) w3.heap.size 24 i0 _ 3 48 Try.underlying22 hi hz0 hz1 hz2 rfl (by decide) (.slice (some ⟨w3.heap.size, 0, none⟩) 0 0) 0 [] (by rfl) HOWN0.out a' x.args.length cap' HXN.out (flat LX) (by rfl) (by rw [flat_length, HXL.out]) (HNX.out _ (((Below.refl _ _).alloc (Nat.le_refl _) _).drew)) (flat_one LX) (by unfold maxLen; omega) (by omega) (by simp) ?_
                 intro v1 w1 hown1 hgrow1 hfr1
                 have hbl1 : Below w3.heap.size w3 w1 := (((Below.refl _ _).alloc (Nat.le_refl _) _).drew).grown hgrow1 (by simp) (fun g hg => by simp only [Value.ownBlock, Option.some.injEq] at hg; omega))
              | (refine step_append_opt _ (by rfl) _ _ _ (by rfl) w3.heap.size 24 i0 _ 3 48 Try.underlying22 hi hz0 hz1 hz2 rfl (by decide) v1 (0 + x.args.length) ([] ++ flat LX) (by rfl) (by first | exact hown1 | exact hown1.drew) _ R.length _ ?_ (flat R) (by rfl) (by rw [flat_length]) ?_ (flat_one R) (by unfold maxLen; omega) (by omega) (by have := hbl1.size; simp; omega) ?_
                 · intro h; split at h <;> cases h
                 · intro ad had; refine HNR.out _ hbl1 ad ?_
                   revert had; split
                   · intro _; exact .inl (by assumption)
                   · intro h; cases h; exact .inr rfl
                 intro v2 w5 hown2 hgrow2 hfr2
                 have hbl2 : Below w3.heap.size w3 w5 := hbl1.grown hgrow2 hbl1.size (fun g hg => (hown1.lt g hg).1)))
          all_goals
            have HROW := Lib.hid hown2
            have HBL := Lib.hid hbl2
            go_wp2_with fail
            all_goals
              go_roundg k
              case measure => omega
              case rel =>
                have hb := HBL.out
                have hr := HROW.out
                refine ⟨LX ++ R, ?_, S2.out.keep (HB3.out.trans (hb.mono HB3.out.size)), Nat.le_trans (Nat.le_succ k) HR.out.le, ?_, ?_, ?_, ?_, (T2.out.trans (Touch.below HB3.out)).trans (Touch.below hb), by have := HB3.out.size; have := hb.size; omega⟩
                · rw [HO2.out, List.map_append, HLX.out]
                · rw [List.length_append, flat_append, HXL.out]
                  rw [Nat.zero_add, List.nil_append] at hr
                  refine ⟨hr.1, hr.2.imp id ?_⟩
                  rintro ⟨gg, cc, cur, h1, h2, h3⟩
                  exact ⟨gg, cc, cur, h1, by have := HB3.out.size; omega, h3⟩
                · exact (HEX.out.keep (Keeps.below hb ok)).append ((HE.out.keep (Keeps.below HB3.out ok)).keep (Keeps.below hb ok))
                · intro z hz
                  rcases List.mem_append.1 hz with h1 | h1
                  · exact HFX.out.arg (by rw [← HLX.out]; exact List.mem_map.2 ⟨z, h1, rfl⟩)
                  · exact HR.out.fit z (List.mem_cons_of_mem _ h1)
                · have h1 := HR.out.len
                  have h2 := HR.out.le
                  rw [List.length_append, HXL.out]
                  simp only [List.length_cons] at h1
                  omega

end Go.Proofs.Ytikmgiapjigghaa.Emb

/- What the reference's Meet does, as a plain function; what binding does to a State's list. -/
namespace Go.Proofs.Ytikmgiapjigghaa
open Go.RowKit

theorem subB_set {ls : List Tm} {v : Int} {t : Tm} (h1 : 0 ≤ v) (h2 : v.toNat < ls.length) (h3 : t.var ≠ v) : subB (ls.set v.toNat t) = upd (subB ls) v t := by
  funext x
  unfold upd
  by_cases e : x = v
  · subst e
    rw [if_pos rfl, subB_some h1 (by rw [List.length_set]; exact h2) (by rw [List.getElem_set_self]; exact h3), List.getElem_set_self]
  · rw [if_neg e]
    unfold subB
    by_cases hx : 0 ≤ x ∧ x.toNat < ls.length
    · have hx' : 0 ≤ x ∧ x.toNat < (ls.set v.toNat t).length := by rw [List.length_set]; exact hx
      have hne : v.toNat ≠ x.toNat := by omega
      rw [dif_pos hx, dif_pos hx']
      simp only [List.getElem_set_ne hne]
    · have hx' : ¬ (0 ≤ x ∧ x.toNat < (ls.set v.toNat t).length) := by rw [List.length_set]; exact hx
      rw [dif_neg hx, dif_neg hx']

theorem SInv.to {σ : Sub} (h : SInv σ) {v : Int} {t : Tm} (hv : 1 ≤ v) (hvn : σ v = none) (ht : WfT t) (htn : t.var = 0 ∨ σ t.var = none) (hne : t.var ≠ v) : SInv (upd σ v t) := by
  refine ⟨h.rank.upd hvn (fun h0 => ⟨hne, htn.resolve_left h0⟩), fun x u hx => ?_⟩
  unfold upd at hx
  by_cases e : x = v
  · rw [if_pos e] at hx; cases hx; exact ⟨by omega, ht⟩
  · rw [if_neg e] at hx; exact h.each x u hx

theorem FB.bind {ls : List Tm} (h : FB ls) {v : Int} {t : Tm} (hv : 1 ≤ v) (hl : v.toNat < ls.length) (hvn : subB ls v = none) (ht : Fit ls.length t) (htn : t.var = 0 ∨ subB ls t.var = none) (hne : t.var ≠ v) : FB (ls.set v.toNat t) := by
  refine ⟨?_, fun x hx => ?_⟩
  · rw [subB_set (by omega) hl hne]
    exact h.inv.to hv hvn ht.wf htn hne
  · rw [List.length_set]
    rcases List.mem_or_eq_of_mem_set hx with h1 | rfl
    · exact h.each x h1
    · exact ht

/-- Where Look ends is no variable, or one that is nothing. -/
theorem LookN.stop {σ : Sub} : ∀ {n : Nat} {t u : Tm}, LookN σ n t u → u.var = 0 ∨ σ u.var = none
  | 0, _, _, h => by obtain ⟨rfl, h⟩ := h; exact h
  | _ + 1, _, _, h => by obtain ⟨_, _, _, h⟩ := h; exact LookN.stop h

theorem look_stop {σ : Sub} (h : Ends σ) (t : Tm) : (look σ t).var = 0 ∨ σ (look σ t).var = none := by
  obtain ⟨n, hn⟩ := look_spec h t
  exact hn.stop

/-- The reference binds the variable that it came upon first. -/
noncomputable def bindStepR (σ : Sub) (v : Int) (t : Tm) (f : Nat) : MStep :=
  match within σ v f [t] with
  | .yes f' => .done (.no σ [] f')
  | .many => .done (.many σ [])
  | .no f' => .go (upd σ v t) [] (min f' f) []

/-- What is done with two terms that were looked at. -/
noncomputable def pairStepR (σ : Sub) (f : Nat) (x y : Tm) : MStep :=
  if x.var ≠ 0 ∧ x.var = y.var then .go σ [] f []
  else if x.var ≠ 0 then bindStepR σ x.var y f
  else if y.var ≠ 0 then bindStepR σ y.var x f
  else if x.name ≠ y.name ∨ x.args.length ≠ y.args.length then .done (.no σ [] f)
  else .go σ [] f (x.args.zip y.args)

theorem bindStepR_le {σ : Sub} {v : Int} {t : Tm} {f : Nat} {σ' : Sub} {L' : List Int} {f' : Nat} {m : List (Tm × Tm)} (h : bindStepR σ v t f = .go σ' L' f' m) : f' ≤ f := by
  unfold bindStepR at h
  cases hw : within σ v f [t] with
  | yes g => rw [hw] at h; cases h
  | many => rw [hw] at h; cases h
  | no g => rw [hw] at h; cases h; omega

theorem pairStepR_le {σ : Sub} {x y : Tm} {f : Nat} {σ' : Sub} {L' : List Int} {f' : Nat} {m : List (Tm × Tm)} (h : pairStepR σ f x y = .go σ' L' f' m) : f' ≤ f := by
  unfold pairStepR at h
  split at h
  · cases h; exact Nat.le_refl _
  · split at h
    · exact bindStepR_le h
    · split at h
      · exact bindStepR_le h
      · split at h
        · cases h
        · cases h; exact Nat.le_refl _

/-- The reference's Meet: pairs that are to be made alike, one after another. -/
noncomputable def meetR (σ : Sub) (f : Nat) (ps : List (Tm × Tm)) : MOut :=
  match f, ps with
  | f, [] => .ok σ [] f
  | 0, _ :: _ => .many σ []
  | f + 1, p :: r =>
    match h : pairStepR σ f (look σ p.1) (look σ p.2) with
    | .done o => o
    | .go σ' _ f' more =>
      have : f' < f + 1 := Nat.lt_succ_of_le (pairStepR_le h)
      meetR σ' f' (more ++ r)
termination_by f

/-- Cells of a list of pairs. -/
def flat2 : List (TmAt × TmAt) → List Value
  | [] => []
  | p :: r => flat [p.1, p.2] ++ flat2 r

theorem flat2_length (l : List (TmAt × TmAt)) : (flat2 l).length = l.length * 6 := by
  induction l with
  | nil => rfl
  | cons p r ih => simp only [flat2, List.length_append, flat_length, ih, List.length_cons, List.length_nil]; omega

theorem flat2_append (l r : List (TmAt × TmAt)) : flat2 (l ++ r) = flat2 l ++ flat2 r := by
  induction l with
  | nil => rfl
  | cons p l ih => simp only [List.cons_append, flat2, ih, List.append_assoc]

theorem flat2_one (l : List (TmAt × TmAt)) : ∀ u ∈ flat2 l, u.oneCell' = true := by
  induction l with
  | nil => intro u hu; cases hu
  | cons p l ih =>
    intro u hu
    rcases List.mem_append.1 hu with h | h
    · exact flat_one _ u h
    · exact ih u h

end Go.Proofs.Ytikmgiapjigghaa

/- Plain: the program's and the reference's ways to make two terms the same do the same work, come to the same end, and say the same of each variable. -/
namespace Go.Proofs.Ytikmgiapjigghaa
open Go.RowKit

/-- A variable by itself. -/
abbrev VarT (v : Int) : Tm := .mk v ⟨#[]⟩ []

theorem WfT.isVar {t : Tm} (h : WfT t) (hv : t.var ≠ 0) : t = VarT t.var := by
  obtain ⟨h1, h2⟩ := (h t t.self_mem).2 hv
  exact Tm.ext' rfl h2 h1

theorem look_fn {σ : Sub} {t : Tm} (h : t.var = 0) : look σ t = t := look_eq (n := 0) ⟨rfl, .inl h⟩
theorem look_free {σ : Sub} {t : Tm} (h : σ t.var = none) : look σ t = t := look_eq (n := 0) ⟨rfl, .inr h⟩

theorem lookN_upd {σ : Sub} {k : Int} {u : Tm} (hk0 : k ≠ 0) (hk : σ k = none) (hu : u.var = 0 ∨ (u.var ≠ k ∧ σ u.var = none)) :
    ∀ (n : Nat) (t x : Tm), LookN σ n t x → ∃ m, LookN (upd σ k u) m t (if x.var = k then u else x) := by
  intro n
  induction n with
  | zero =>
    rintro t x ⟨rfl, h⟩
    by_cases e : x.var = k
    · rw [if_pos e]
      refine ⟨1, by omega, u, by unfold upd; rw [if_pos e], rfl, ?_⟩
      rcases hu with h1 | ⟨h1, h2⟩
      · exact .inl h1
      · exact .inr (by unfold upd; rw [if_neg h1]; exact h2)
    · rw [if_neg e]
      refine ⟨0, rfl, h.imp id fun h => ?_⟩
      unfold upd; rw [if_neg e]; exact h
  | succ n ih =>
    rintro t x ⟨h1, t', h2, h3⟩
    obtain ⟨m, hm⟩ := ih t' x h3
    refine ⟨m + 1, h1, t', ?_, hm⟩
    have : t.var ≠ k := fun e => by rw [e, hk] at h2; cases h2
    unfold upd; rw [if_neg this]; exact h2

theorem look_upd {σ : Sub} (hE : Ends σ) {k : Int} {u : Tm} (hk0 : k ≠ 0) (hk : σ k = none) (hu : u.var = 0 ∨ (u.var ≠ k ∧ σ u.var = none)) (t : Tm) :
    look (upd σ k u) t = if (look σ t).var = k then u else look σ t := by
  obtain ⟨n, hn⟩ := look_spec hE t
  obtain ⟨m, hm⟩ := lookN_upd hk0 hk hu n t _ hn
  exact look_eq hm

/-- Two stores that say the same of each variable, but for which of variables that are the same speaks for them. -/
structure Sim (σ τ : Sub) : Prop where
  inv : SInv σ
  inv' : SInv τ
  same : ∀ v : Int, v ≠ 0 → (look σ (VarT v)).var = 0 → look τ (VarT v) = look σ (VarT v)
  vars : ∀ v : Int, v ≠ 0 → (look σ (VarT v)).var ≠ 0 → (look τ (VarT v)).var ≠ 0
  cls : ∀ v w : Int, v ≠ 0 → w ≠ 0 → (look σ (VarT v)).var ≠ 0 → (look σ (VarT w)).var ≠ 0 → ((look σ (VarT v)).var = (look σ (VarT w)).var ↔ (look τ (VarT v)).var = (look τ (VarT w)).var)

theorem Sim.fn {σ τ : Sub} (h : Sim σ τ) {t : Tm} (ht : WfT t) (hx : (look σ t).var = 0) : look τ t = look σ t := by
  by_cases hv : t.var = 0
  · rw [look_fn hv, look_fn hv]
  · have := ht.isVar hv
    rw [this] at hx ⊢
    exact h.same _ hv hx

theorem Sim.var {σ τ : Sub} (h : Sim σ τ) {t : Tm} (ht : WfT t) (hx : (look σ t).var ≠ 0) : t.var ≠ 0 ∧ (look τ t).var ≠ 0 ∧ look σ t = look σ (VarT t.var) ∧ look τ t = look τ (VarT t.var) := by
  by_cases hv : t.var = 0
  · rw [look_fn hv] at hx; exact absurd hv hx
  · have e := ht.isVar hv
    refine ⟨hv, ?_, by rw [← e], by rw [← e]⟩
    rw [e]; exact h.vars _ hv (by rw [← e]; exact hx)

theorem Sim.eqv {σ τ : Sub} (h : Sim σ τ) {s t : Tm} (hs : WfT s) (ht : WfT t) (h1 : (look σ s).var ≠ 0) (h2 : (look σ t).var ≠ 0) : ((look σ s).var = (look σ t).var ↔ (look τ s).var = (look τ t).var) := by
  obtain ⟨a1, _, a3, a4⟩ := h.var hs h1
  obtain ⟨b1, _, b3, b4⟩ := h.var ht h2
  rw [a3] at h1 ⊢; rw [b3] at h2 ⊢; rw [a4, b4]
  exact h.cls _ _ a1 b1 h1 h2

theorem Sim.within {σ τ : Sub} (h : Sim σ τ) {s : Tm} (hs : WfT s) (h1 : (look σ s).var ≠ 0) : ∀ (f : Nat) (l : List Tm), (∀ t ∈ l, WfT t) → within σ (look σ s).var f l = within τ (look τ s).var f l := by
  intro f
  induction f with
  | zero => intro l _; cases l <;> rfl
  | succ f ih =>
    intro l hl
    cases l with
    | nil => rfl
    | cons t r =>
      have ht := hl t List.mem_cons_self
      have hr : ∀ t ∈ r, WfT t := fun x hx => hl x (List.mem_cons_of_mem _ hx)
      simp only [Go.Proofs.Ytikmgiapjigghaa.within]
      by_cases hx : (look σ t).var = 0
      · have e := h.fn ht hx
        rw [e, if_neg (by rw [hx]; simp), if_neg (by rw [hx]; simp)]
        refine ih _ fun x hx' => ?_
        rcases List.mem_append.1 hx' with h2 | h2
        · exact (h.inv.look ht).arg h2
        · exact hr x h2
      · rw [if_pos hx, if_pos (h.var ht hx).2.1]
        have e := h.eqv ht hs hx h1
        by_cases h2 : (look σ t).var = (look σ s).var
        · rw [if_pos h2, if_pos (e.1 h2)]
        · rw [if_neg h2, if_neg (fun h3 => h2 (e.2 h3)), ih r hr]

/-- A variable that is nothing does not stand in another one. -/
theorem within_var {σ : Sub} {v : Int} {t : Tm} (h0 : t.var ≠ 0) (hf : σ t.var = none) (hne : t.var ≠ v) (f : Nat) : within σ v (f + 1) [t] = .no f := by
  simp only [within]
  rw [look_free hf, if_pos h0, if_neg hne]

/-- What the program's and the reference's ends have to do with each other. -/
def OutSim : MOut → MOut → Prop
  | .ok σ _ f, .ok τ _ g => f = g ∧ Sim σ τ
  | .no _ _ f, .no _ _ g => f = g
  | .many _ _, .many _ _ => True
  | _, _ => False

/-- A step of either: done alike, or going on alike. -/
def StepSim : MStep → MStep → Prop
  | .done o, .done o' => OutSim o o'
  | .go σ _ f m, .go τ _ g n => f = g ∧ m = n ∧ Sim σ τ ∧ (∀ p ∈ m, WfT p.1 ∧ WfT p.2)
  | _, _ => False

theorem look_root {σ : Sub} (h : SInv σ) {t : Tm} (hx : (look σ t).var ≠ 0) : σ (look σ t).var = none := (look_end h.rank.ends t).resolve_left hx

/-- One class of variables becomes a term that is no variable. -/
theorem Sim.put {σ τ : Sub} (h : Sim σ τ) {s : Tm} (hs : WfT s) (h1 : (look σ s).var ≠ 0) {u : Tm} (hu : WfT u) (h0 : u.var = 0) : Sim (upd σ (look σ s).var u) (upd τ (look τ s).var u) := by
  have h2 := (h.var hs h1).2.1
  have k1 : ∀ t, look (upd σ (look σ s).var u) t = if (look σ t).var = (look σ s).var then u else look σ t := look_upd h.inv.rank.ends h1 (look_root h.inv h1) (.inl h0)
  have k2 : ∀ t, look (upd τ (look τ s).var u) t = if (look τ t).var = (look τ s).var then u else look τ t := look_upd h.inv'.rank.ends h2 (look_root h.inv' h2) (.inl h0)
  have p1 : 1 ≤ (look σ s).var := by have := (h.inv.look hs).pos; omega
  have p2 : 1 ≤ (look τ s).var := by have := (h.inv'.look hs).pos; omega
  have hb : ∀ v : Int, v ≠ 0 → 0 ≤ v → (look σ (VarT v)).var ≠ 0 → ((look σ (VarT v)).var = (look σ s).var ↔ (look τ (VarT v)).var = (look τ s).var) := fun v hv hp hx => h.eqv (WfT.bare hp) hs hx h1
  have neg : ∀ v : Int, v < 0 → look σ (VarT v) = VarT v ∧ look τ (VarT v) = VarT v := fun v hv => by
    refine ⟨look_free ?_, look_free ?_⟩
    · cases e : σ (VarT v).var with
      | none => rfl
      | some x => have := (h.inv.each _ _ e).1; simp only [Tm.var] at this; omega
    · cases e : τ (VarT v).var with
      | none => rfl
      | some x => have := (h.inv'.each _ _ e).1; simp only [Tm.var] at this; omega
  have hb' : ∀ v : Int, v ≠ 0 → (look σ (VarT v)).var ≠ 0 → ((look σ (VarT v)).var = (look σ s).var ↔ (look τ (VarT v)).var = (look τ s).var) := fun v hv hx => by
    by_cases hp : 0 ≤ v
    · exact hb v hv hp hx
    · obtain ⟨e1, e2⟩ := neg v (by omega)
      have hvv : (VarT v).var = v := rfl
      rw [e1, e2, hvv]
      exact ⟨fun e => by omega, fun e => by omega⟩
  refine ⟨h.inv.to p1 (look_root h.inv h1) hu (.inl h0) (by omega), h.inv'.to p2 (look_root h.inv' h2) hu (.inl h0) (by omega), fun v hv hx => ?_, fun v hv hx => ?_, fun v w hv hw hx hy => ?_⟩
  · rw [k1] at hx ⊢; rw [k2]
    by_cases e : (look σ (VarT v)).var = 0
    · have e2 := h.same v hv e
      rw [e2, if_neg (by omega), if_neg (by omega)]
    · by_cases e2 : (look σ (VarT v)).var = (look σ s).var
      · rw [if_pos e2, if_pos ((hb' v hv e).1 e2)]
      · rw [if_neg e2] at hx; exact absurd hx e
  · rw [k1] at hx; rw [k2]
    by_cases e2 : (look σ (VarT v)).var = (look σ s).var
    · rw [if_pos e2] at hx; exact absurd h0 hx
    · rw [if_neg e2] at hx
      rw [if_neg (fun e3 => e2 ((hb' v hv hx).2 e3))]
      exact h.vars v hv hx
  · rw [k1] at hx hy; rw [k1, k1, k2, k2]
    by_cases e2 : (look σ (VarT v)).var = (look σ s).var
    · rw [if_pos e2] at hx; exact absurd h0 hx
    · by_cases e3 : (look σ (VarT w)).var = (look σ s).var
      · rw [if_pos e3] at hy; exact absurd h0 hy
      · rw [if_neg e2] at hx; rw [if_neg e3] at hy
        rw [if_neg e2, if_neg e3, if_neg (fun e => e2 ((hb' v hv hx).2 e)), if_neg (fun e => e3 ((hb' w hw hy).2 e))]
        exact h.cls v w hv hw hx hy

/-- Two classes of variables become one: whichever of the two speaks for them. -/
theorem Sim.join {σ τ : Sub} (h : Sim σ τ) {s t : Tm} (hs : WfT s) (ht : WfT t) (h1 : (look σ s).var ≠ 0) (h2 : (look σ t).var ≠ 0) (hne : (look σ s).var ≠ (look σ t).var) {k : Int} {u : Tm}
    (hk : (k = (look σ s).var ∧ u = look σ t) ∨ (k = (look σ t).var ∧ u = look σ s)) : Sim (upd σ k u) (upd τ (look τ s).var (look τ t)) := by
  have s2 := (h.var hs h1).2.1
  have t2 := (h.var ht h2).2.1
  have hne2 : (look τ s).var ≠ (look τ t).var := fun e => hne ((h.eqv hs ht h1 h2).2 e)
  have rs := look_root h.inv h1
  have rt := look_root h.inv h2
  have rs2 := look_root h.inv' s2
  have rt2 := look_root h.inv' t2
  have ps := (h.inv.look hs).pos
  have pt := (h.inv.look ht).pos
  have ps2 := (h.inv'.look hs).pos
  have hk0 : k ≠ 0 ∧ σ k = none ∧ 1 ≤ k ∧ WfT u ∧ u.var ≠ 0 ∧ u.var ≠ k ∧ σ u.var = none := by
    rcases hk with ⟨rfl, rfl⟩ | ⟨rfl, rfl⟩
    · exact ⟨h1, rs, by omega, h.inv.look ht, h2, fun e => hne e.symm, rt⟩
    · exact ⟨h2, rt, by omega, h.inv.look hs, h1, hne, rs⟩
  have k1 : ∀ x, look (upd σ k u) x = if (look σ x).var = k then u else look σ x := look_upd h.inv.rank.ends hk0.1 hk0.2.1 (.inr hk0.2.2.2.2.2)
  have k2 : ∀ x, look (upd τ (look τ s).var (look τ t)) x = if (look τ x).var = (look τ s).var then look τ t else look τ x := look_upd h.inv'.rank.ends s2 rs2 (.inr ⟨fun e => hne2 e.symm, rt2⟩)
  have neg : ∀ v : Int, v < 0 → look σ (VarT v) = VarT v ∧ look τ (VarT v) = VarT v := fun v hv => by
    refine ⟨look_free ?_, look_free ?_⟩
    · cases e : σ (VarT v).var with
      | none => rfl
      | some x => have := (h.inv.each _ _ e).1; simp only [Tm.var] at this; omega
    · cases e : τ (VarT v).var with
      | none => rfl
      | some x => have := (h.inv'.each _ _ e).1; simp only [Tm.var] at this; omega
  have hb : ∀ (x : Tm), WfT x → (look σ x).var ≠ 0 → 0 ≤ (look τ x).var → ∀ v : Int, v ≠ 0 → (look σ (VarT v)).var ≠ 0 → ((look σ (VarT v)).var = (look σ x).var ↔ (look τ (VarT v)).var = (look τ x).var) := fun x hx hx1 hx2 v hv hvx => by
    by_cases hp : 0 ≤ v
    · exact h.eqv (WfT.bare hp) hx hvx hx1
    · obtain ⟨e1, e2⟩ := neg v (by omega)
      have := (h.inv.look hx).pos
      have hvv : (VarT v).var = v := rfl
      rw [e1, e2, hvv]
      exact ⟨fun e => by omega, fun e => by omega⟩
  have hbs := hb s hs h1 (by omega)
  have hbt := hb t ht h2 (h.inv'.look ht).pos
  refine ⟨h.inv.to hk0.2.2.1 hk0.2.1 hk0.2.2.2.1 (.inr hk0.2.2.2.2.2.2) hk0.2.2.2.2.2.1, h.inv'.to (by omega) rs2 (h.inv'.look ht) (.inr rt2) (fun e => hne2 e.symm), fun v hv hx => ?_, fun v hv hx => ?_, fun v w hv hw hx hy => ?_⟩
  · rw [k1] at hx ⊢; rw [k2]
    have e : (look σ (VarT v)).var = 0 := by
      by_cases e : (look σ (VarT v)).var = k
      · rw [if_pos e] at hx; exact absurd hx hk0.2.2.2.2.1
      · rw [if_neg e] at hx; exact hx
    have e2 := h.same v hv e
    rw [e2, if_neg (by omega), if_neg (by omega)]
  · rw [k1] at hx; rw [k2]
    have e : (look σ (VarT v)).var ≠ 0 := by
      by_cases e : (look σ (VarT v)).var = k
      · rw [e]; exact hk0.1
      · rw [if_neg e] at hx; exact hx
    have := h.vars v hv e
    split
    · exact t2
    · exact this
  · rw [k1] at hx hy; rw [k1, k1, k2, k2]
    have ev : (look σ (VarT v)).var ≠ 0 := by
      by_cases e : (look σ (VarT v)).var = k
      · rw [e]; exact hk0.1
      · rw [if_neg e] at hx; exact hx
    have ew : (look σ (VarT w)).var ≠ 0 := by
      by_cases e : (look σ (VarT w)).var = k
      · rw [e]; exact hk0.1
      · rw [if_neg e] at hy; exact hy
    have c := h.cls v w hv hw ev ew
    have a1 := hbs v hv ev; have a2 := hbs w hw ew; have b1 := hbt v hv ev; have b2 := hbt w hw ew
    have hku : (k = (look σ s).var ∧ u.var = (look σ t).var) ∨ (k = (look σ t).var ∧ u.var = (look σ s).var) := by
      rcases hk with ⟨rfl, rfl⟩ | ⟨rfl, rfl⟩
      · exact .inl ⟨rfl, rfl⟩
      · exact .inr ⟨rfl, rfl⟩
    clear hx hy k1 k2 neg hb hbs hbt hk0 rs rt rs2 rt2 hk
    simp only [apply_ite Tm.var]
    generalize (look σ (VarT v)).var = x at *
    generalize (look σ (VarT w)).var = y at *
    generalize (look τ (VarT v)).var = x' at *
    generalize (look τ (VarT w)).var = y' at *
    generalize (look σ s).var = s1 at *
    generalize (look σ t).var = t1 at *
    generalize (look τ s).var = s3 at *
    generalize (look τ t).var = t3 at *
    generalize u.var = uv at *
    rcases hku with ⟨rfl, rfl⟩ | ⟨rfl, rfl⟩
    · split <;> split <;> split <;> split <;> omega
    · split <;> split <;> split <;> split <;> omega

theorem bindStep_sim {σ τ : Sub} (h : Sim σ τ) {s t : Tm} (hs : WfT s) (ht : WfT t) (h1 : (look σ s).var ≠ 0) (hne : (look σ t).var ≠ (look σ s).var) (f : Nat) (L : List Int) :
    StepSim (bindStep σ L (look σ s).var (look σ t) f) (bindStepR τ (look τ s).var (look τ t) f) := by
  have hs2 := (h.var hs h1).2.1
  unfold bindStep bindStepR
  by_cases hx : (look σ t).var = 0
  · have e := h.fn ht hx
    have hw := h.within hs h1 f [look σ t] (fun x hx => by rw [List.mem_singleton] at hx; subst hx; exact h.inv.look ht)
    rw [e, ← hw]
    cases within σ (look σ s).var f [look σ t] with
    | yes g => exact rfl
    | many => exact trivial
    | no g =>
      have hb : bindS (look σ s).var (look σ t) = ((look σ s).var, look σ t) := by
        unfold bindS; rw [if_neg]; have := (h.inv.look hs).pos; omega
      rw [hb]
      exact ⟨rfl, rfl, h.put hs h1 (h.inv.look ht) hx, fun p hp => by cases hp⟩
  · have ht2 := (h.var ht hx).2.1
    cases f with
    | zero => exact trivial
    | succ f =>
      rw [within_var hx (look_root h.inv hx) hne, within_var ht2 (look_root h.inv' ht2) (fun e => hne ((h.eqv ht hs hx h1).2 e))]
      refine ⟨rfl, rfl, h.join hs ht h1 hx (fun e => hne e.symm) ?_, fun p hp => by cases hp⟩
      unfold bindS
      by_cases hlt : (look σ s).var < (look σ t).var
      · rw [if_pos hlt]; exact .inr ⟨rfl, ((h.inv.look hs).isVar h1).symm⟩
      · rw [if_neg hlt]; exact .inl ⟨rfl, rfl⟩

theorem pairStep_same {σ : Sub} {f : Nat} {x y : Tm} {L : List Int} (h : x.var ≠ 0) (h2 : x.var = y.var) : pairStep σ L f x y = .go σ L f [] := by
  unfold pairStep; rw [if_pos ⟨h, h2⟩]
theorem pairStep_x {σ : Sub} {f : Nat} {x y : Tm} {L : List Int} (h : x.var ≠ 0) (h2 : x.var ≠ y.var) : pairStep σ L f x y = bindStep σ L x.var y f := by
  unfold pairStep; rw [if_neg (fun e => h2 e.2), if_pos h]
theorem pairStep_y {σ : Sub} {f : Nat} {x y : Tm} {L : List Int} (h : x.var = 0) (h2 : y.var ≠ 0) : pairStep σ L f x y = bindStep σ L y.var x f := by
  unfold pairStep; rw [if_neg (fun e => e.1 h), if_neg (fun e => e h), if_pos h2]
theorem pairStep_no {σ : Sub} {f : Nat} {x y : Tm} {L : List Int} (h : x.var = 0) (h2 : y.var = 0) (h3 : x.name ≠ y.name ∨ x.args.length ≠ y.args.length) : pairStep σ L f x y = .done (.no σ L f) := by
  unfold pairStep; rw [if_neg (fun e => e.1 h), if_neg (fun e => e h), if_neg (fun e => e h2), if_pos h3]
theorem pairStep_args {σ : Sub} {f : Nat} {x y : Tm} {L : List Int} (h : x.var = 0) (h2 : y.var = 0) (h3 : ¬ (x.name ≠ y.name ∨ x.args.length ≠ y.args.length)) : pairStep σ L f x y = .go σ L f (x.args.zip y.args) := by
  unfold pairStep; rw [if_neg (fun e => e.1 h), if_neg (fun e => e h), if_neg (fun e => e h2), if_neg h3]

theorem pairStepR_same {σ : Sub} {f : Nat} {x y : Tm} (h : x.var ≠ 0) (h2 : x.var = y.var) : pairStepR σ f x y = .go σ [] f [] := by
  unfold pairStepR; rw [if_pos ⟨h, h2⟩]
theorem pairStepR_x {σ : Sub} {f : Nat} {x y : Tm} (h : x.var ≠ 0) (h2 : x.var ≠ y.var) : pairStepR σ f x y = bindStepR σ x.var y f := by
  unfold pairStepR; rw [if_neg (fun e => h2 e.2), if_pos h]
theorem pairStepR_y {σ : Sub} {f : Nat} {x y : Tm} (h : x.var = 0) (h2 : y.var ≠ 0) : pairStepR σ f x y = bindStepR σ y.var x f := by
  unfold pairStepR; rw [if_neg (fun e => e.1 h), if_neg (fun e => e h), if_pos h2]
theorem pairStepR_no {σ : Sub} {f : Nat} {x y : Tm} (h : x.var = 0) (h2 : y.var = 0) (h3 : x.name ≠ y.name ∨ x.args.length ≠ y.args.length) : pairStepR σ f x y = .done (.no σ [] f) := by
  unfold pairStepR; rw [if_neg (fun e => e.1 h), if_neg (fun e => e h), if_neg (fun e => e h2), if_pos h3]
theorem pairStepR_args {σ : Sub} {f : Nat} {x y : Tm} (h : x.var = 0) (h2 : y.var = 0) (h3 : ¬ (x.name ≠ y.name ∨ x.args.length ≠ y.args.length)) : pairStepR σ f x y = .go σ [] f (x.args.zip y.args) := by
  unfold pairStepR; rw [if_neg (fun e => e.1 h), if_neg (fun e => e h), if_neg (fun e => e h2), if_neg h3]

theorem pairStep_sim {σ τ : Sub} (h : Sim σ τ) {s t : Tm} (hs : WfT s) (ht : WfT t) (f : Nat) (L : List Int) : StepSim (pairStep σ L f (look σ s) (look σ t)) (pairStepR τ f (look τ s) (look τ t)) := by
  by_cases hx : (look σ s).var = 0
  · have e1 := h.fn hs hx
    by_cases hy : (look σ t).var = 0
    · have e2 := h.fn ht hy
      rw [e1, e2]
      by_cases hn : (look σ s).name ≠ (look σ t).name ∨ (look σ s).args.length ≠ (look σ t).args.length
      · rw [pairStep_no hx hy hn, pairStepR_no hx hy hn]; exact rfl
      · rw [pairStep_args hx hy hn, pairStepR_args hx hy hn]
        refine ⟨rfl, rfl, h, fun p hp => ?_⟩
        have := List.of_mem_zip hp
        exact ⟨(h.inv.look hs).arg this.1, (h.inv.look ht).arg this.2⟩
    · have hy2 := (h.var ht hy).2.1
      rw [e1, pairStep_y hx hy, pairStepR_y hx hy2]
      have := bindStep_sim h ht hs hy (by omega) f L
      rw [e1] at this
      exact this
  · have hx2 := (h.var hs hx).2.1
    by_cases he : (look σ s).var = (look σ t).var
    · have hy : (look σ t).var ≠ 0 := by rw [← he]; exact hx
      have := (h.eqv hs ht hx hy).1 he
      rw [pairStep_same hx he, pairStepR_same hx2 this]
      exact ⟨rfl, rfl, h, fun p hp => by cases hp⟩
    · have he2 : (look τ s).var ≠ (look τ t).var := by
        by_cases hy : (look σ t).var = 0
        · rw [h.fn ht hy, hy]; exact hx2
        · exact fun e => he ((h.eqv hs ht hx hy).2 e)
      rw [pairStep_x hx he, pairStepR_x hx2 he2]
      exact bindStep_sim h hs ht hx (fun e => he e.symm) f L

theorem meetR_nil (σ : Sub) (f : Nat) : meetR σ f [] = .ok σ [] f := by unfold meetR; rfl
theorem meetR_zero (σ : Sub) (p : Tm × Tm) (r : List (Tm × Tm)) : meetR σ 0 (p :: r) = .many σ [] := by unfold meetR; rfl
theorem meetR_done {σ : Sub} {f : Nat} {p : Tm × Tm} {o : MOut} (r : List (Tm × Tm)) (h : pairStepR σ f (look σ p.1) (look σ p.2) = .done o) : meetR σ (f + 1) (p :: r) = o := by
  conv => lhs; unfold meetR
  simp only
  split
  · rename_i o' h'; rw [h] at h'; cases h'; rfl
  · rename_i h'; rw [h] at h'; cases h'
theorem meetR_go {σ : Sub} {f : Nat} {p : Tm × Tm} {σ' : Sub} {L' : List Int} {f' : Nat} {m : List (Tm × Tm)} (r : List (Tm × Tm)) (h : pairStepR σ f (look σ p.1) (look σ p.2) = .go σ' L' f' m) : meetR σ (f + 1) (p :: r) = meetR σ' f' (m ++ r) := by
  conv => lhs; unfold meetR
  simp only
  split
  · rename_i h'; rw [h] at h'; cases h'
  · rename_i h'; rw [h] at h'; cases h'; rfl

theorem meet_sim : ∀ (f : Nat) (σ τ : Sub) (L : List Int) (ps : List (Tm × Tm)), Sim σ τ → (∀ p ∈ ps, WfT p.1 ∧ WfT p.2) → OutSim (meet σ L f ps) (meetR τ f ps) := by
  intro f
  induction f using Nat.strongRecOn with
  | _ f ih =>
  intro σ τ L ps h hp
  cases ps with
  | nil => rw [meet_nil, meetR_nil]; exact ⟨rfl, h⟩
  | cons p r =>
    cases f with
    | zero => rw [meet_zero, meetR_zero]; exact trivial
    | succ f =>
      have hs := pairStep_sim h (hp p List.mem_cons_self).1 (hp p List.mem_cons_self).2 f L
      cases h1 : pairStep σ L f (look σ p.1) (look σ p.2) with
      | done o =>
        cases h2 : pairStepR τ f (look τ p.1) (look τ p.2) with
        | done o' => rw [h1, h2] at hs; rw [meet_done _ h1, meetR_done _ h2]; exact hs
        | go _ _ _ _ => rw [h1, h2] at hs; exact hs.elim
      | go σ' L' f' m =>
        cases h2 : pairStepR τ f (look τ p.1) (look τ p.2) with
        | done o' => rw [h1, h2] at hs; exact hs.elim
        | go τ' _ g n =>
          rw [h1, h2] at hs
          obtain ⟨rfl, rfl, hs3, hs4⟩ := hs
          rw [meet_go _ h1, meetR_go _ h2]
          refine ih f' (Nat.lt_succ_of_le (pairStep_le h1)) σ' τ' L' _ hs3 fun q hq => ?_
          rcases List.mem_append.1 hq with h5 | h5
          · exact hs4 q h5
          · exact hp q (List.mem_cons_of_mem _ h5)

theorem Sim.start : Sim (fun _ => none) (fun _ => none) := by
  have hi : SInv (fun _ => none) := ⟨⟨fun _ => 0, fun v u h => by cases h⟩, fun v u h => by cases h⟩
  have hl : ∀ t, look (fun _ => none) t = t := fun t => look_free rfl
  refine ⟨hi, hi, fun v hv h => rfl, fun v hv h => h, fun v w _ _ _ _ => Iff.rfl⟩

/-- The program's store leads from greater to lesser variables. -/
def Low (σ : Sub) : Prop := ∀ v u, σ v = some u → u.var ≠ 0 → u.var < v

theorem Low.bind {σ : Sub} (h : Low σ) {v : Int} {t : Tm} (hne : t.var ≠ v) : Low (upd σ (bindS v t).1 (bindS v t).2) := by
  unfold bindS
  by_cases hlt : v < t.var
  · rw [if_pos hlt]
    intro x u hx hu
    unfold upd at hx
    by_cases e : x = t.var
    · rw [if_pos e] at hx; cases hx; rw [e]; exact hlt
    · rw [if_neg e] at hx; exact h x u hx hu
  · rw [if_neg hlt]
    intro x u hx hu
    unfold upd at hx
    by_cases e : x = v
    · rw [if_pos e] at hx; cases hx; have e' : x = v := e; have hu' : t.var ≠ v := hne; have h3 : ¬ v < t.var := hlt; show t.var < x; omega
    · rw [if_neg e] at hx; exact h x u hx hu

theorem Low.look {σ : Sub} (hE : Ends σ) (h : Low σ) (t : Tm) (hx : (look σ t).var ≠ 0) : (look σ t).var ≤ t.var := by
  obtain ⟨n, hn⟩ := look_spec hE t
  generalize Go.Proofs.Ytikmgiapjigghaa.look σ t = u at *
  induction n generalizing t with
  | zero => obtain ⟨rfl, _⟩ := hn; exact Int.le_refl _
  | succ n ih =>
    obtain ⟨_, t', h2, h3⟩ := hn
    have h4 := ih t' h3
    by_cases h0 : t'.var = 0
    · cases n with
      | zero => obtain ⟨rfl, _⟩ := h3; exact absurd h0 hx
      | succ n => exact absurd h0 h3.1
    · have := h _ _ h2 h0; omega

theorem bindStep_low {σ : Sub} (h : Low σ) {v : Int} {t : Tm} {L : List Int} {f : Nat} (hne : t.var ≠ v) {σ' : Sub} {L' : List Int} {f' : Nat} {m : List (Tm × Tm)} (he : bindStep σ L v t f = .go σ' L' f' m) : Low σ' := by
  unfold bindStep at he
  cases hw : within σ v f [t] with
  | yes g => rw [hw] at he; cases he
  | many => rw [hw] at he; cases he
  | no g => rw [hw] at he; cases he; exact h.bind hne

theorem pairStep_low {σ : Sub} (h : Low σ) {x y : Tm} {L : List Int} {f : Nat} {σ' : Sub} {L' : List Int} {f' : Nat} {m : List (Tm × Tm)} (he : pairStep σ L f x y = .go σ' L' f' m) : Low σ' := by
  unfold pairStep at he
  split at he
  · cases he; exact h
  · rename_i h1
    split at he
    · rename_i h2
      exact bindStep_low h (fun e => h1 ⟨h2, e.symm⟩) he
    · rename_i h2
      split at he
      · rename_i h3
        exact bindStep_low h (fun e => by omega) he
      · split at he
        · cases he
        · cases he; exact h

theorem meet_low : ∀ (f : Nat) (σ : Sub) (L : List Int) (ps : List (Tm × Tm)) (σ' : Sub) (L' : List Int) (f' : Nat), Low σ → meet σ L f ps = .ok σ' L' f' → Low σ' := by
  intro f
  induction f using Nat.strongRecOn with
  | _ f ih =>
  intro σ L ps σ' L' f' h he
  cases ps with
  | nil => rw [meet_nil] at he; cases he; exact h
  | cons p r =>
    cases f with
    | zero => rw [meet_zero] at he; cases he
    | succ f =>
      cases h1 : pairStep σ L f (look σ p.1) (look σ p.2) with
      | done o =>
        rw [meet_done _ h1] at he
        subst he
        unfold pairStep bindStep at h1
        split at h1
        · cases h1
        · split at h1
          · split at h1 <;> cases h1
          · split at h1
            · split at h1 <;> cases h1
            · split at h1 <;> cases h1
      | go σ1 L1 f1 m =>
        rw [meet_go _ h1] at he
        exact ih f1 (Nat.lt_succ_of_le (pairStep_le h1)) σ1 L1 _ σ' L' f' (pairStep_low h h1) he

end Go.Proofs.Ytikmgiapjigghaa

/- Walk: the reference's Meet. -/
namespace Go.Proofs.Ytikmgiapjigghaa
open Go.RowKit

/-- The blocks that Meet writes. -/
abbrev StRG (rs g : Nat) : Nat → Prop := fun b => b = rs ∨ b = g

/-- What Meet hands back. -/
def MeetRPost (w : World) (ok : Nat → Prop) (rs g cap n0 : Nat) (o : MOut) (e : Ending) (w' : World) : Prop :=
  Touch (StRG rs g) w w' ∧ ∃ B : List TmAt, B.length = n0 ∧ FB (B.map (·.1)) ∧
  match o with
  | .ok σ _ f => e = .returned (.int .i64 1) ∧ RAt w' ok rs g cap B (4000 - f) ∧ subB (B.map (·.1)) = σ
  | .no σ _ f => e = .returned (.int .i64 0) ∧ RAt w' ok rs g cap B (4000 - f) ∧ subB (B.map (·.1)) = σ
  | .many σ _ => e = .returned (.int .i64 2) ∧ RAt w' ok rs g cap B 4001 ∧ subB (B.map (·.1)) = σ

/-- A slice of pairs of terms in memory of the call's own. -/
def PairsAt (w : World) (base : Nat) (x : Value) (L : List (TmAt × TmAt)) : Prop :=
  ∃ a cap, x = .slice a L.length cap ∧ L.length ≤ cap ∧ cap ≤ maxLen ∧ (a = none → L = []) ∧ (L ≠ [] → ∃ g o, a = some ⟨g, o, none⟩ ∧ base ≤ g ∧ g < w.heap.size ∧ ∀ j u, (flat2 L)[j]? = some u → w.cell? ⟨g, o + j, none⟩ = some u)

theorem PairsAt.keep {w w' : World} {base : Nat} {x : Value} {L : List (TmAt × TmAt)} (h : PairsAt w base x L) (hs : w.heap.size ≤ w'.heap.size) (hb : ∀ g, base ≤ g → g < w.heap.size → w'.heap[g]? = w.heap[g]?) : PairsAt w' base x L := by
  obtain ⟨a, cap, h1, h2, h3, h4, h5⟩ := h
  refine ⟨a, cap, h1, h2, h3, h4, fun hl => ?_⟩
  obtain ⟨g, o, e, hg, hlt, hc⟩ := h5 hl
  exact ⟨g, o, e, hg, Nat.lt_of_lt_of_le hlt hs, fun j u hu => (World.cell?_of_block (w := w) (a := ⟨g, o + j, none⟩) (hb g hg hlt)).trans (hc j u hu)⟩

theorem PairsAt.of_row {w : World} {base : Nat} {x : Value} {L : List (TmAt × TmAt)} (h : w.ownsRow base 162 6 x L.length (flat2 L)) : PairsAt w base x L := by
  rcases h.2 with ⟨rfl, hn⟩ | ⟨g, cap, cur, rfl, hb, hg, hcap, hml, hsz, htk⟩
  · have : L = [] := List.eq_nil_of_length_eq_zero hn
    subst this
    exact ⟨none, 0, rfl, Nat.le_refl _, Nat.zero_le _, fun _ => rfl, fun h => absurd rfl h⟩
  · refine ⟨_, cap, rfl, hcap, hml, (fun e => by cases e), fun _ => ⟨g, 0, rfl, hb, (Array.getElem?_eq_some_iff.1 hg).1, fun j u hu => ?_⟩⟩
    rw [Nat.zero_add]
    have hj : j < L.length * 6 := by rw [← flat2_length]; exact (List.getElem?_eq_some_iff.1 hu).1
    rw [h.cellAt j hj, hu]

/-- All but the first one. -/
theorem PairsAt.tail {w : World} {base : Nat} {y : TmAt × TmAt} {R : List (TmAt × TmAt)} {g o cap : Nat} (hR : R.length + 1 ≤ cap) (hm : cap ≤ maxLen) (hb : base ≤ g) (hg : g < w.heap.size) (hc : ∀ j u, (flat2 (y :: R))[j]? = some u → w.cell? ⟨g, o + j, none⟩ = some u)
    {a : Option Addr} (ha : (cap = 1 ∧ a ≠ none) ∨ a = some ⟨g, o + 6, none⟩) : PairsAt w base (.slice a R.length (cap - 1)) R := by
  refine ⟨a, cap - 1, rfl, by omega, by omega, fun e => ?_, fun hl => ?_⟩
  · rcases ha with ⟨_, h⟩ | h
    · exact absurd e h
    · rw [h] at e; cases e
  · have hl' : 1 ≤ R.length := by
      cases R with
      | nil => exact absurd rfl hl
      | cons z R => simp
    rcases ha with ⟨h, _⟩ | h
    · omega
    · refine ⟨g, o + 6, h, hb, hg, fun j u hu => ?_⟩
      have h1 : (flat2 (y :: R))[6 + j]? = some u := by
        simp only [flat2]
        rw [List.getElem?_append_right (by rw [flat_length]; simp)]
        rw [flat_length]
        simpa using hu
      have := hc _ u h1
      rwa [← Nat.add_assoc] at this

/-- What holds at the head of Meet's loop. -/
structure MeetRel (w : World) (ok : Nat → Prop) (rs g cap n0 : Nat) (f : Nat) (M : MOut) (B : List TmAt) (L : List (TmAt × TmAt)) (fk : Nat) (x : Value) (wr : World) : Prop where
  eq : M = meetR (subB (B.map (·.1))) fk (L.map fun p => (p.1.1, p.2.1))
  st : RAt wr ok rs g cap B (4000 - fk)
  le : fk ≤ f
  fb : FB (B.map (·.1))
  bl : B.length = n0
  row : PairsAt wr (w.heap.size + 2) x L
  each : ∀ p ∈ L, TsEach wr ok [p.1, p.2]
  fit : ∀ p ∈ L, Fit n0 p.1.1 ∧ Fit n0 p.2.1
  len : L.length ≤ 1 + (f - fk) * 100000
  touch : Touch (StRG rs g) w wr
  size : w.heap.size + 1 < wr.heap.size

/-- What holds when both terms of a pair were looked at. -/
structure TwoR (w : World) (ok : Nat → Prop) (x y : Tm) (v8 v9 : Value) (wx : World) : Prop where
  at_ : ∃ bx bz a1 a2 c1 c2, v8 = .pointer (some ⟨bx, 0, none⟩) ∧ v9 = .pointer (some ⟨bz, 0, none⟩) ∧ w.heap.size ≤ bx ∧ w.heap.size ≤ bz ∧ bx ≠ bz ∧
    Box3 wx bx (.int .i64 x.var) (.string x.name) (.slice a1 x.args.length c1) ∧ Box3 wx bz (.int .i64 y.var) (.string y.name) (.slice a2 y.args.length c2) ∧ x.fits ∧ y.fits ∧ Ts wx ok x.args a1 c1 ∧ Ts wx ok y.args a2 c2
  below : Below w.heap.size w wx

theorem MeetRel.next {w wr wz : World} {ok : Nat → Prop} {rs g cap n0 f : Nat} {M : MOut} {B : List TmAt} {y : TmAt × TmAt} {R : List (TmAt × TmAt)} {k : Nat} {x : Value} (h : MeetRel w ok rs g cap n0 f M B (y :: R) (k + 1) x wr)
    (ht : Touch (StRG rs g) wr wz) {B' : List TmAt} {k' : Nat} (hst : RAt wz ok rs g cap B' (4000 - k')) (hk : k' ≤ k) (hfb : FB (B'.map (·.1))) (hbl : B'.length = n0) {N : List (TmAt × TmAt)}
    (hM : M = meetR (subB (B'.map (·.1))) k' (N.map (fun p => (p.1.1, p.2.1)) ++ R.map (fun p => (p.1.1, p.2.1)))) (hN : ∀ p ∈ N, TsEach wz ok [p.1, p.2]) (hNf : ∀ p ∈ N, Fit n0 p.1.1 ∧ Fit n0 p.2.1) (hNl : N.length ≤ 100000)
    {x' : Value} (hp : PairsAt wz (w.heap.size + 2) x' (N ++ R)) : MeetRel w ok rs g cap n0 f M B' (N ++ R) k' x' wz := by
  have hK : Keeps ok wr wz := ht.keeps fun b hb hm => by
    rcases hm with e | e
    · exact (h.st.okb b hb).2.1 e
    · exact (h.st.okb b hb).2.2 e
  refine ⟨by rw [hM, List.map_append], hst, by have := h.le; omega, hfb, hbl, hp, fun p hp => ?_, fun p hp => ?_, ?_, h.touch.trans ht, by have := h.size; have := ht.size; omega⟩
  · rcases List.mem_append.1 hp with h1 | h1
    · exact hN p h1
    · exact (h.each p (List.mem_cons_of_mem _ h1)).keep hK
  · rcases List.mem_append.1 hp with h1 | h1
    · exact hNf p h1
    · exact h.fit p (List.mem_cons_of_mem _ h1)
  · have := h.len; have := h.le
    simp only [List.length_cons, List.length_append] at *
    omega

/-- Two boxes hold two terms. -/
structure Mid (w : World) (ok : Nat → Prop) (bx bz : Nat) (x y : Tm) (a1 a2 : Option Addr) (c1 c2 : Nat) (wx : World) : Prop where
  bx : Box3 wx bx (.int .i64 x.var) (.string x.name) (.slice a1 x.args.length c1)
  bz : Box3 wx bz (.int .i64 y.var) (.string y.name) (.slice a2 y.args.length c2)
  fx : x.fits
  fy : y.fits
  tx : Ts wx ok x.args a1 c1
  ty : Ts wx ok y.args a2 c2
  below : Below w.heap.size w wx

theorem flat_set (B : List TmAt) (i : Nat) (hi : i < B.length) (x : TmAt) : flat (B.set i x) = (((flat B).set (i * 3) (.int .i64 x.1.var)).set (i * 3 + 1) (.string x.1.name)).set (i * 3 + 2) (.slice x.2.1 x.1.args.length x.2.2) := by
  induction B generalizing i with
  | nil => cases hi
  | cons y B ih =>
    cases i with
    | zero => simp [flat]
    | succ i =>
      have := ih i (by simpa using hi)
      rw [show (i + 1) * 3 = i * 3 + 3 from by omega]
      simp only [List.set_cons_succ, flat, this]

theorem RAt.put {w : World} {ok : Nat → Prop} {rs g cap : Nat} {B : List TmAt} {wk : Nat} (h : RAt w ok rs g cap B wk) {i : Nat} (hi : i < B.length) {z : Tm} {a : Option Addr} {c : Nat} (hf : z.fits) (ht : Ts w ok z.args a c) :
    RAt (((w.setCell ⟨g, i * 3, none⟩ (.int .i64 z.var)).setCell ⟨g, i * 3 + 1, none⟩ (.string z.name)).setCell ⟨g, i * 3 + 2, none⟩ (.slice a z.args.length c)) ok rs g cap (B.set i (z, a, c)) wk ∧
    Touch (StRG rs g) w (((w.setCell ⟨g, i * 3, none⟩ (.int .i64 z.var)).setCell ⟨g, i * 3 + 1, none⟩ (.string z.name)).setCell ⟨g, i * 3 + 2, none⟩ (.slice a z.args.length c)) := by
  have hT : Touch (fun b => b = g) w (((w.setCell ⟨g, i * 3, none⟩ (.int .i64 z.var)).setCell ⟨g, i * 3 + 1, none⟩ (.string z.name)).setCell ⟨g, i * 3 + 2, none⟩ (.slice a z.args.length c)) :=
    ⟨rfl, rfl, rfl, by simp [World.setCell], fun b' _ hn => by rw [Below.heap_setCell _ _ _ _ hn, Below.heap_setCell _ _ _ _ hn, Below.heap_setCell _ _ _ _ hn]⟩
  have hK : Keeps ok w _ := hT.keeps fun b hb e => (h.okb b hb).2.2 e
  have hr := ((h.row.stored (i * 3) (.int .i64 z.var)).1.stored (i * 3 + 1) (.string z.name)).1.stored (i * 3 + 2) (.slice a z.args.length c)
  refine ⟨⟨?_, ?_, ?_, h.ne, fun b hb => ⟨Nat.lt_of_lt_of_le (h.okb b hb).1 hT.size, (h.okb b hb).2⟩⟩, hT.mono fun _ _ e => .inr e⟩
  · rw [List.length_set]; exact (hT.block rs h.lt.1 h.ne).trans h.blk
  · rw [List.length_set, flat_set B i hi]; exact hr.1
  · intro x hx
    rcases List.mem_or_eq_of_mem_set hx with h1 | rfl
    · exact ⟨(h.each x h1).1, (h.each x h1).2.keep hK⟩
    · exact ⟨hf, ht.keep hK⟩

theorem MeetRel.bound {w wr wc w4 : World} {ok : Nat → Prop} {rs g cap n0 f : Nat} {M : MOut} {B : List TmAt} {y : TmAt × TmAt} {R : List (TmAt × TmAt)} {k f' i : Nat} {u x' : Value} {x z : Tm} {a : Option Addr} {c : Nat} (h : MeetRel w ok rs g cap n0 f M B (y :: R) (k + 1) u wr)
    (hlt : rs < w.heap.size ∧ g < w.heap.size) (tr : Touch (StRG rs g) wr wc) (t4 : Touch (StR rs) wc w4) (s4 : RAt w4 ok rs g cap B (4000 - f')) (hle : f' ≤ k) (hi : (i : Int) = x.var) (hil : i < B.length) (hx0 : x.var ≠ 0) (hxn : x.var = 0 ∨ subB (B.map (·.1)) x.var = none)
    (hz : Fit B.length z) (hzn : z.var = 0 ∨ subB (B.map (·.1)) z.var = none) (hne : z.var ≠ x.var) (hf : z.fits) (ht : Ts wc ok z.args a c) (sc : ∀ b, ok b → b ≠ rs)
    (hM : M = meetR (upd (subB (B.map (·.1))) x.var z) (min f' k) ([] ++ R.map (fun p => (p.1.1, p.2.1)))) (hp : PairsAt wc (w.heap.size + 2) x' R) :
    MeetRel w ok rs g cap n0 f M (B.set i (z, a, c)) ([] ++ R) f' x' (((w4.setCell ⟨g, i * 3, none⟩ (.int .i64 z.var)).setCell ⟨g, i * 3 + 1, none⟩ (.string z.name)).setCell ⟨g, i * 3 + 2, none⟩ (.slice a z.args.length c)).drew := by
  have hP := s4.put hil hf (ht.keep (t4.keeps fun b hb e => sc b hb e))
  have hD : Below (((w4.setCell ⟨g, i * 3, none⟩ (.int .i64 z.var)).setCell ⟨g, i * 3 + 1, none⟩ (.string z.name)).setCell ⟨g, i * 3 + 2, none⟩ (.slice a z.args.length c)).heap.size _ _ := (Below.refl _ (((w4.setCell ⟨g, i * 3, none⟩ (.int .i64 z.var)).setCell ⟨g, i * 3 + 1, none⟩ (.string z.name)).setCell ⟨g, i * 3 + 2, none⟩ (.slice a z.args.length c))).drew
  have hT : Touch (StRG rs g) wc _ := ((t4.mono (M' := StRG rs g) fun _ _ e => .inl e).trans hP.2).trans (Touch.below hD)
  have hin : x.var.toNat = i := by omega
  have e1 : (B.set i (z, a, c)).map (·.1) = (B.map (·.1)).set x.var.toNat z := by rw [List.map_set, hin]
  have e2 : subB ((B.set i (z, a, c)).map (·.1)) = upd (subB (B.map (·.1))) x.var z := by rw [e1]; exact subB_set (by omega) (by rw [List.length_map]; omega) hne
  refine h.next (tr.trans hT) (hP.1.keep hD) hle ?_ (by rw [List.length_set]; exact h.bl) (N := []) ?_ (fun p hp => by cases hp) (fun p hp => by cases hp) (Nat.zero_le _) (hp.keep hT.size fun b hb hbl => hT.block b hbl fun hm => by rcases hm with e | e <;> omega)
  · rw [e1]
    exact h.fb.bind (by omega) (by rw [List.length_map]; omega) (hxn.resolve_left hx0) (by rw [List.length_map]; exact hz) hzn hne
  · rw [e2, hM, Nat.min_eq_left hle]; rfl

theorem meetR_step {σ : Sub} {f : Nat} {p : Tm × Tm} {r : List (Tm × Tm)} {M : MOut} (hM : M = meetR σ (f + 1) (p :: r)) : (∀ o, pairStepR σ f (look σ p.1) (look σ p.2) = .done o → M = o) ∧ (∀ σ' L' f' m, pairStepR σ f (look σ p.1) (look σ p.2) = .go σ' L' f' m → M = meetR σ' f' (m ++ r)) :=
  ⟨fun _ h => hM.trans (meetR_done r h), fun _ _ _ _ h => hM.trans (meetR_go r h)⟩

theorem aSz (w : World) (o : Obj) : (w.alloc o).heap.size = w.heap.size + 1 := by simp
theorem dSz (w : World) : w.drew.heap.size = w.heap.size := rfl
theorem sSz (w : World) (p : Addr) (v : Value) : (w.setCell p v).heap.size = w.heap.size := by simp [World.setCell]

theorem Box3.made' {X : World} {b : Nat} {x0 x1 x2 : Value} (h : b = X.heap.size) : Box3 (X.alloc (.cells #[x0, x1, x2] 24)) b x0 x1 x2 := by subst h; exact Box3.made X _ _ _
theorem Box3.drew {w : World} {b : Nat} {x0 x1 x2 : Value} (h : Box3 w b x0 x1 x2) : Box3 w.drew b x0 x1 x2 := ⟨h.blk⟩
theorem Box3.other {w : World} {b c : Nat} {x0 x1 x2 : Value} (h : Box3 w b x0 x1 x2) (hne : b ≠ c) (y0 y1 y2 : Value) : Box3 (((w.setCell ⟨c, 0, none⟩ y0).setCell ⟨c, 1, none⟩ y1).setCell ⟨c, 2, none⟩ y2) b x0 x1 x2 := ⟨(other_put hne _ _ _).trans h.blk⟩
theorem Box3.zput {w : World} {b : Nat} (h : Box3 w b (.int .i64 0) (.string ⟨#[]⟩) (.slice none 0 0)) (y0 y1 y2 : Value) : Box3 (((w.setCell ⟨b, 0, none⟩ y0).setCell ⟨b, 1, none⟩ y1).setCell ⟨b, 2, none⟩ y2) b y0 y1 y2 := h.put _ _ _
theorem Ts.belowOk {w w' : World} {ok : Nat → Prop} {B : Nat} (hB : ∀ b, ok b → b < B) (h : Below B w w') {l : List Tm} {a : Option Addr} {c : Nat} (ht : Ts w ok l a c) : Ts w' ok l a c := ht.keep ⟨h.size, fun b hb _ => h.block b (hB b hb)⟩
theorem Mid.swap {w wx : World} {ok : Nat → Prop} {bx bz : Nat} {x y : Tm} {a1 a2 : Option Addr} {c1 c2 : Nat} (h : Mid w ok bx bz x y a1 a2 c1 c2 wx) (hne : bx ≠ bz) (h1 : w.heap.size ≤ bx) (h2 : w.heap.size ≤ bz) (hok : ∀ b, ok b → b < w.heap.size) :
    Mid w ok bx bz y x a2 a1 c2 c1 ((((((wx.setCell ⟨bx, 0, none⟩ (.int .i64 y.var)).setCell ⟨bx, 1, none⟩ (.string y.name)).setCell ⟨bx, 2, none⟩ (.slice a2 y.args.length c2)).setCell ⟨bz, 0, none⟩ (.int .i64 x.var)).setCell ⟨bz, 1, none⟩ (.string x.name)).setCell ⟨bz, 2, none⟩ (.slice a1 x.args.length c1)) := by
  have A := h.bx.put (.int .i64 y.var) (.string y.name) (.slice a2 y.args.length c2)
  have B := (Box3.other h.bz (fun e => hne e.symm) (.int .i64 y.var) (.string y.name) (.slice a2 y.args.length c2)).put (.int .i64 x.var) (.string x.name) (.slice a1 x.args.length c1)
  have hB := below_put (below_put (Below.refl w.heap.size wx) h1 (.int .i64 y.var) (.string y.name) (.slice a2 y.args.length c2)) h2 (.int .i64 x.var) (.string x.name) (.slice a1 x.args.length c1)
  exact ⟨A.other hne _ _ _, B, h.fy, h.fx, h.ty.belowOk hok hB, h.tx.belowOk hok hB, h.below.trans hB⟩

theorem Try.infoPr1 : (Try.prog.info? 162).map (fun i => (i.size, i.bytes)) = some (6, 96) := by kernel_rfl
theorem Try.infoPr2 : ((Try.prog.info? 162).bind (fun i => i.zero)).map (fun z => z.cells.size) = some 6 := by kernel_rfl
theorem infoPr : ∃ i z, Try.prog.info? 162 = some i ∧ i.zero = some z ∧ i.size = 6 ∧ i.bytes = 96 ∧ z.cells.size = 6 := by
  have h1 := Try.infoPr1; have h2 := Try.infoPr2
  obtain ⟨i, hi, h3⟩ := Option.map_eq_some_iff.1 h1
  obtain ⟨z, hz, h4⟩ := Option.map_eq_some_iff.1 h2
  rw [hi, Option.bind_some] at hz
  simp only [Prod.mk.injEq] at h3
  exact ⟨i, z, hi, hz, h3.1, h3.2, h4⟩

/-- What holds at the head of the loop that pairs two terms' arguments. -/
structure MoreRel (wb : World) (ok : Nat → Prop) (l l2 : List Tm) (i : Nat) (L : List (TmAt × TmAt)) (v : Value) (wr : World) : Prop where
  list : L.map (fun p => (p.1.1, p.2.1)) = (l.zip l2).take i
  len : L.length = i
  row : wr.ownsRow wb.heap.size 162 6 v L.length (flat2 L)
  each : ∀ p ∈ L, TsEach wr ok [p.1, p.2]
  below : Below wb.heap.size wb wr

theorem MoreRel.next {wb wr w1 : World} {ok : Nat → Prop} {l l2 : List Tm} {i : Nat} {L : List (TmAt × TmAt)} {v v1 : Value} (h : MoreRel wb ok l l2 i L v wr) (hok : ∀ b, ok b → b < wb.heap.size) (h1 : i < l.length) (h2 : i < l2.length)
    {d1 d2 : Option Addr} {e1 e2 : Nat} (f1 : l[i].fits) (f2 : l2[i].fits) (t1 : Ts wb ok l[i].args d1 e1) (t2 : Ts wb ok l2[i].args d2 e2) {X : World}
    (ho : w1.ownsRow wb.heap.size 162 6 v1 (L.length + 1) (flat2 L ++ flat [(l[i], d1, e1), (l2[i], d2, e2)])) (_hg : X.grownBy w1 v.ownBlock) (hb : Below wb.heap.size wb w1) (hs : wr.heap.size ≤ w1.heap.size) : MoreRel wb ok l l2 (i + 1) (L ++ [((l[i], d1, e1), (l2[i], d2, e2))]) v1 w1 := by
  refine ⟨?_, by rw [List.length_append, h.len]; rfl, ?_, fun p hp => ?_, hb⟩
  · have hz : i < (l.zip l2).length := by rw [List.length_zip]; omega
    rw [List.map_append, h.list, List.take_succ_eq_append_getElem hz, List.getElem_zip]; rfl
  · rw [List.length_append, flat2_append]
    simpa [flat2] using ho
  · rcases List.mem_append.1 hp with h3 | h3
    · intro x hx
      have := h.each p h3 x hx
      exact ⟨this.1, (this.2.keep (w' := w1) ⟨hs, fun b hk _ => (hb.block b (hok b hk)).trans (h.below.block b (hok b hk)).symm⟩)⟩
    · rw [List.mem_singleton] at h3; subst h3
      exact ((TsEach.one f1 (t1.belowOk hok hb)).append (TsEach.one f2 (t2.belowOk hok hb)))

theorem PairsAt.src {w w' : World} {base : Nat} {R : List (TmAt × TmAt)} {a : Option Addr} {cap : Nat} (h : PairsAt w base (.slice a R.length cap) R) (hb : Below w.heap.size w w') :
    (a = none → R.length = 0) ∧ ∀ ad, a = some ad → ∀ j u, (flat2 R)[j]? = some u → w'.cell? (ad.add j) = some u := by
  obtain ⟨a', cap', h1, h2, h3, h4, h5⟩ := h
  simp only [Value.slice.injEq] at h1
  obtain ⟨rfl, _, rfl⟩ := h1
  refine ⟨fun e => by rw [h4 e]; rfl, fun ad had j u hu => ?_⟩
  have hl : R ≠ [] := fun e => by subst e; simp [flat2] at hu
  obtain ⟨g, o, h6, _, h8, h9⟩ := h5 hl
  rw [h6] at had; cases had
  rw [addr_add]
  exact (hb.cell (p := ⟨g, o + j, none⟩) h8).trans (h9 j u hu)

theorem PairsAt.form {w : World} {base : Nat} {x : Value} {R : List (TmAt × TmAt)} (h : PairsAt w base x R) : ∃ a cap, x = .slice a R.length cap ∧ cap ≤ maxLen := by
  obtain ⟨a, cap, h1, h2, h3, _⟩ := h; exact ⟨a, cap, h1, h3⟩

theorem MoreRel.after {wb wr w1 : World} {ok : Nat → Prop} {l l2 : List Tm} {i : Nat} {L : List (TmAt × TmAt)} {v : Value} (h : MoreRel wb ok l l2 i L v wr) (hok : ∀ b, ok b → b < wb.heap.size) (hb : Below wb.heap.size wb w1) (hs : wr.heap.size ≤ w1.heap.size) : ∀ p ∈ L, TsEach w1 ok [p.1, p.2] := by
  intro p hp x hx
  have := h.each p hp x hx
  exact ⟨this.1, (this.2.keep (w' := w1) ⟨hs, fun b hk _ => (hb.block b (hok b hk)).trans (h.below.block b (hok b hk)).symm⟩)⟩

theorem MoreRel.fits {wb wr : World} {ok : Nat → Prop} {x z : Tm} {i n n0 : Nat} {L : List (TmAt × TmAt)} {v : Value} (h : MoreRel wb ok x.args z.args i L v wr) (hx : Fit n x) (hz : Fit n z) (hn : n = n0) : ∀ p ∈ L, Fit n0 p.1.1 ∧ Fit n0 p.2.1 := by
  subst hn
  intro p hp
  have h1 : (p.1.1, p.2.1) ∈ (x.args.zip z.args).take i := by rw [← h.list]; exact List.mem_map.2 ⟨p, hp, rfl⟩
  have h2 := List.of_mem_zip (List.mem_of_mem_take h1)
  exact ⟨hx.arg h2.1, hz.arg h2.2⟩

theorem Below.up {B : Nat} {w0 u w : World} (h : Below B w0 u) (k : Below u.heap.size u w) (hs : B ≤ u.heap.size) : Below B w0 w := h.trans (k.mono hs)

set_option maxRecDepth 100000 in
set_option maxHeartbeats 4000000 in
theorem MeetW {w : World} {ok : Nat → Prop} {rs g cap : Nat} {B0 : List TmAt} {f : Nat} (hf : f ≤ 4000) (h : RAt w ok rs g cap B0 (4000 - f)) (hB : FB (B0.map (·.1))) {s t : Tm} {a1 a2 : Option Addr} {c1 c2 : Nat} (hs : s.fits) (ht : t.fits) (hts : Ts w ok s.args a1 c1) (htt : Ts w ok t.args a2 c2) (his : Fit B0.length s) (hit : Fit B0.length t) :
    Calls Try.prog 70 #[.pointer (some ⟨rs, 0, none⟩), .agg #[.int .i64 s.var, .string s.name, .slice a1 s.args.length c1], .agg #[.int .i64 t.var, .string t.name, .slice a2 t.args.length c2]] w (MeetRPost w ok rs g cap B0.length (meetR (subB (B0.map (·.1))) f [(s, t)])) := by
  have H := Lib.hid h; have HF1 := Lib.hid hs; have HF2 := Lib.hid ht; have HT1 := Lib.hid hts; have HT2 := Lib.hid htt; have HB := Lib.hid hB; have HI1 := Lib.hid his; have HI2 := Lib.hid hit; have HF4 := Lib.hid hf
  clear h hs ht hts htt hB his hit hf
  go_enter Try.func70, Try.ntmps70
  go_wp2_with fail
  go_loopg [7] f (fun fk x wr => ∃ B L, MeetRel w ok rs g cap B0.length f (meetR (subB (B0.map (·.1))) f [(s, t)]) B L fk x wr)
  case atStart =>
    have hb : Below w.heap.size w (((w.alloc (.cells #[.int .i64 s.var, .string s.name, .slice a1 s.args.length c1] 24)).alloc (.cells #[.int .i64 t.var, .string t.name, .slice a2 t.args.length c2] 24)).alloc (.cells #[.int .i64 s.var, .string s.name, .slice a1 s.args.length c1, .int .i64 t.var, .string t.name, .slice a2 t.args.length c2] 162)) :=
      (((Below.refl _ _).alloc (Nat.le_refl _) _).alloc (by simp) _).alloc (by simp; omega) _
    refine ⟨B0, [((s, a1, c1), (t, a2, c2))], rfl, H.out.keep hb, Nat.le_refl _, HB.out, rfl, ?_, ?_, ?_, by simp, Touch.below hb, by simp⟩
    · refine PairsAt.of_row ?_
      have := World.ownsRow_lit (base := w.heap.size + 2) (e := 162) (size := 6) ((w.alloc (.cells #[.int .i64 s.var, .string s.name, .slice a1 s.args.length c1] 24)).alloc (.cells #[.int .i64 t.var, .string t.name, .slice a2 t.args.length c2] 24)) #[.int .i64 s.var, .string s.name, .slice a1 s.args.length c1, .int .i64 t.var, .string t.name, .slice a2 t.args.length c2] 1 (by simp) (by unfold maxLen; omega) rfl
      simpa [flat2, flat] using this
    · intro p hp
      rw [List.mem_singleton] at hp; subst hp
      exact ((TsEach.one HF1.out HT1.out).append (TsEach.one HF2.out HT2.out)).keep (Keeps.below hb _)
    · intro p hp
      rw [List.mem_singleton] at hp; subst hp
      exact ⟨HI1.out, HI2.out⟩
  case round =>
    obtain ⟨B, L, hrel⟩ := hrel
    cases L with
    | nil =>
      obtain ⟨a0, c0, rfl⟩ : ∃ a0 c0, u7 = .slice a0 0 c0 := by
        obtain ⟨a, c, h1, _⟩ := hrel.row
        exact ⟨_, _, h1⟩
      have HO : Hid (meetR (subB (B0.map (·.1))) f [(s, t)] = .ok (subB (B.map (·.1))) [] gk) := Lib.hid (by rw [hrel.eq]; cases gk <;> rw [List.map_nil, meetR])
      have HR := Lib.hid hrel
      clear hrel
      go_wp2_with fail
      go_ret
      rw [HO.out]
      exact ⟨HR.out.touch, B, HR.out.bl, HR.out.fb, rfl, HR.out.st, rfl⟩
    | cons y R =>
      obtain ⟨a0, c', rfl, hcap, hcml, _, hrow⟩ := hrel.row
      obtain ⟨g', o', rfl, hgb, hgl, hcel⟩ := hrow (by simp)
      have HCEL := Lib.hid hcel
      have HCAP : Hid (R.length + 1 ≤ c' ∧ c' ≤ maxLen) := Lib.hid ⟨hcap, hcml⟩
      have HGB : Hid (w.heap.size + 2 ≤ g' ∧ g' < wr.heap.size) := Lib.hid ⟨hgb, hgl⟩
      clear hrow hcel hcap hcml hgb hgl
      simp only [List.length_cons] at *
      have hlen := hrel.len
      have hw1 := hrel.st.cells.2.1
      have hfr := hrel.st.cells.2.2.1
      have hgf : gk ≤ 4000 := Nat.le_trans hrel.le HF4.out
      have HR := Lib.hid hrel
      clear hrel
      have hR : R.length + 1 ≤ 1000000000 := by simp only [List.length_cons] at hlen; have := HF4.out; omega
      have r0 : wr.cell? ⟨g', o', none⟩ = some (.int .i64 y.1.1.var) := HCEL.out 0 _ rfl
      have r1 : wr.cell? ⟨g', o' + 1, none⟩ = some (.string y.1.1.name) := HCEL.out 1 _ rfl
      have r2 : wr.cell? ⟨g', o' + 2, none⟩ = some (.slice y.1.2.1 y.1.1.args.length y.1.2.2) := HCEL.out 2 _ rfl
      have r3 : wr.cell? ⟨g', o' + 3, none⟩ = some (.int .i64 y.2.1.var) := HCEL.out 3 _ rfl
      have r4 : wr.cell? ⟨g', o' + 3 + 1, none⟩ = some (.string y.2.1.name) := HCEL.out 4 _ rfl
      have r5 : wr.cell? ⟨g', o' + 3 + 2, none⟩ = some (.slice y.2.2.1 y.2.1.args.length y.2.2.2) := HCEL.out 5 _ rfl
      have hne : g' ≠ rs := by have := HGB.out.1; have := H.out.lt.1; omega
      have hne' : rs ≠ g' := fun e => hne e.symm
      cases gk with
      | zero =>
        have HO : Hid (meetR (subB (B0.map (·.1))) f [(s, t)] = .many (subB (B.map (·.1))) []) := Lib.hid (by rw [HR.out.eq, List.map_cons, meetR])
        have S1 := Lib.hid (HR.out.st.work 4001)
        have T1 := Lib.hid (HR.out.touch.trans ((touch_one wr rs 1 (.int .i64 ((4001 : Nat) : Int))).mono (M' := StRG rs g) fun _ _ e => .inl e))
        go_wp2_with fail
        go_ret
        rw [HO.out]
        exact ⟨T1.out, B, HR.out.bl, HR.out.fb, rfl, S1.out, rfl⟩
      | succ k =>
        obtain ⟨q, hq⟩ : ∃ q : Nat, 4000 - (k + 1) = q := ⟨_, rfl⟩
        have hq1 : q ≤ 3999 := by omega
        have hq2 : 4000 - k = q + 1 := by omega
        rw [hq] at hw1
        have S1 : Hid (RAt (wr.setCell ⟨rs, 1, none⟩ (.int .i64 ((q : Int) + 1))) ok rs g cap B (4000 - k)) := Lib.hid (by rw [hq2]; exact HR.out.st.work (q + 1))
        have TX := Lib.hid (touch_one wr rs 1 (.int .i64 ((q : Int) + 1)))
        have T1 := Lib.hid (HR.out.touch.trans (TX.out.mono (M' := StRG rs g) fun _ _ e => .inl e))
        clear hq hq2
        have HY := Lib.hid (HR.out.each y List.mem_cons_self)
        have HYF := Lib.hid (HR.out.fit y List.mem_cons_self)
        have HIB : Hid (∀ i (hi : i < B.length), InB B B[i].1) := Lib.hid (fun i hi => by
          have := (HR.out.fb.each B[i].1 (List.mem_map.2 ⟨_, List.getElem_mem hi, rfl⟩)).pos
          rw [List.length_map] at this
          exact this)
        have HBLN := Lib.hid HR.out.bl
        obtain ⟨n, hn⟩ := look_spec HR.out.fb.inv.rank.ends y.1.1
        obtain ⟨m, hm⟩ := look_spec HR.out.fb.inv.rank.ends y.2.1
        have HN := Lib.hid hn; have HM := Lib.hid hm
        have KX := Lib.hid (HR.out.st.keeps TX.out)
        have HE1 : Hid (Ts (wr.setCell ⟨rs, 1, none⟩ (.int .i64 ((q : Int) + 1))) ok y.1.1.args y.1.2.1 y.1.2.2) := Lib.hid ((HY.out _ (by simp)).2.keep KX.out)
        have HE2 : Hid (Ts (wr.setCell ⟨rs, 1, none⟩ (.int .i64 ((q : Int) + 1))) ok y.2.1.args y.2.2.1 y.2.2.2) := Lib.hid ((HY.out _ (by simp)).2.keep KX.out)
        have HC : Hid (∀ j, (wr.setCell ⟨rs, 1, none⟩ (.int .i64 ((q : Int) + 1))).cell? ⟨g', j, none⟩ = wr.cell? ⟨g', j, none⟩) := Lib.hid (fun j => World.cell?_of_block (TX.out.block g' HGB.out.2 hne))
        clear hn hm
        go_wp2_with fail
        have r0 := (HC.out o').trans r0; have r1 := (HC.out (o' + 1)).trans r1; have r2 := (HC.out (o' + 2)).trans r2
        have r3 := (HC.out (o' + 3)).trans r3; have r4 := (HC.out (o' + 3 + 1)).trans r4; have r5 := (HC.out (o' + 3 + 2)).trans r5
        have hin1 : InB B y.1.1 := by have := HYF.out.1.pos; unfold InB; rw [HBLN.out]; exact this
        have hin2 : InB B y.2.1 := by have := HYF.out.2.pos; unfold InB; rw [HBLN.out]; exact this
        generalize wr.setCell ⟨rs, 1, none⟩ (.int .i64 ((q : Int) + 1)) = wX at *
        have HQ1 : Hid (∀ X, Below wX.heap.size wX X → Calls Try.prog 71 #[.pointer (some ⟨rs, 0, none⟩), .agg #[.int .i64 y.1.1.var, .string y.1.1.name, .slice y.1.2.1 y.1.1.args.length y.1.2.2]] X (RetTm X ok (look (subB (B.map (·.1))) y.1.1))) := Lib.hid (fun X hX => LookAtW (S1.out.keep hX) HIB.out HN.out (HY.out _ (by simp)).1 (HE1.out.keep (Keeps.below hX ok)) hin1)
        have HQ2 : Hid (∀ X, Below wX.heap.size wX X → Calls Try.prog 71 #[.pointer (some ⟨rs, 0, none⟩), .agg #[.int .i64 y.2.1.var, .string y.2.1.name, .slice y.2.2.1 y.2.1.args.length y.2.2.2]] X (RetTm X ok (look (subB (B.map (·.1))) y.2.1))) := Lib.hid (fun X hX => LookAtW (S1.out.keep hX) HIB.out HM.out (HY.out _ (by simp)).1 (HE2.out.keep (Keeps.below hX ok)) hin2)
        have hg' : g' < wX.heap.size := World.block_lt_of_cell? wX _ r0
        go_upto_region 6 with fail
        go_cut [8, 9] (fun v8 v9 wx => TwoR wX ok (look (subB (B.map (·.1))) y.1.1) (look (subB (B.map (·.1))) y.2.1) v8 v9 wx)
        case first =>
          -- FIRST-BEGIN
          have KH : Hid (∀ u, Below wX.heap.size wX u → u.cell? ⟨g', o', none⟩ = some (.int .i64 y.1.1.var) ∧ u.cell? ⟨g', o' + 1, none⟩ = some (.string y.1.1.name) ∧ u.cell? ⟨g', o' + 2, none⟩ = some (.slice y.1.2.1 y.1.1.args.length y.1.2.2) ∧ u.cell? ⟨g', o' + 3, none⟩ = some (.int .i64 y.2.1.var) ∧ u.cell? ⟨g', o' + 3 + 1, none⟩ = some (.string y.2.1.name) ∧ u.cell? ⟨g', o' + 3 + 2, none⟩ = some (.slice y.2.2.1 y.2.1.args.length y.2.2.2) ∧ Below wX.heap.size wX u) := Lib.hid (fun u hb =>
            ⟨(hb.cell (p := ⟨g', o', none⟩) hg').trans r0, (hb.cell (p := ⟨g', o' + 1, none⟩) hg').trans r1, (hb.cell (p := ⟨g', o' + 2, none⟩) hg').trans r2, (hb.cell (p := ⟨g', o' + 3, none⟩) hg').trans r3, (hb.cell (p := ⟨g', o' + 3 + 1, none⟩) hg').trans r4, (hb.cell (p := ⟨g', o' + 3 + 2, none⟩) hg').trans r5, hb⟩)
          have NX : ∀ u u', Below wX.heap.size wX u → Below u.heap.size u u' → Below wX.heap.size wX u' := fun u u' h1 h2 => h1.trans (h2.mono h1.size)
          have NA : ∀ u X, Below wX.heap.size wX u → Below wX.heap.size wX (u.alloc X) := fun u X h1 => h1.alloc h1.size _
          clear r0 r1 r2 r3 r4 r5
          go_region_held3 (fun u => u.cell? ⟨g', o', none⟩ = some (.int .i64 y.1.1.var) ∧ u.cell? ⟨g', o' + 1, none⟩ = some (.string y.1.1.name) ∧ u.cell? ⟨g', o' + 2, none⟩ = some (.slice y.1.2.1 y.1.1.args.length y.1.2.2) ∧ u.cell? ⟨g', o' + 3, none⟩ = some (.int .i64 y.2.1.var) ∧ u.cell? ⟨g', o' + 3 + 1, none⟩ = some (.string y.2.1.name) ∧ u.cell? ⟨g', o' + 3 + 2, none⟩ = some (.slice y.2.2.1 y.2.1.args.length y.2.2.2) ∧ Below wX.heap.size wX u)
            (first
              | (with_reducible assumption)
              | ((with_reducible refine KH.out _ ?_); repeat' (first | (with_reducible assumption) | (with_reducible refine below_put ?_ ?_ _ _ _) | (with_reducible refine NA _ _ ?_) | (with_reducible refine Below.drew ?_) | (with_reducible exact Below.refl _ _) | omega)))
            (first
              | (go_at_call_of 71 (Value.string y.1.1.name); refine (HQ1.out _ (And.right (And.right (And.right (And.right (And.right (And.right (by assumption)))))))).mono ?_; rintro e wA ⟨aA, cA, rfl, hfA, htA, hbA⟩; have chA : Below wX.heap.size wX wA := NX _ _ (And.right (And.right (And.right (And.right (And.right (And.right (by assumption))))))) hbA; have szA := chA.size; have tA := hbA.size; (try rw [dSz] at tA); (try rw [aSz] at tA); (try rw [aSz] at tA); (try rw [dSz] at tA); obtain ⟨hcA, hzA⟩ := bcell hbA; (first | have yA2 : wX.heap.size < wA.heap.size := by omega | skip); (first | have yA3 : wX.heap.size + 1 < wA.heap.size := by omega | skip); (first | have tA2 := Nat.lt_of_succ_le tA | skip); (first | have tA3 := Nat.lt_of_succ_lt tA2 | skip); (first | have tA4 := Nat.le_of_lt tA2 | skip); (first | have tA5 := Nat.le_of_lt tA3 | skip))
              | (go_at_call_of 71 (Value.string y.2.1.name); refine (HQ2.out _ (And.right (And.right (And.right (And.right (And.right (And.right (by assumption)))))))).mono ?_; rintro e wB ⟨aB, cB, rfl, hfB, htB, hbB⟩; have chB : Below wX.heap.size wX wB := NX _ _ (And.right (And.right (And.right (And.right (And.right (And.right (by assumption))))))) hbB; have szB := chB.size; have tB := hbB.size; (try rw [dSz] at tB); (try rw [aSz] at tB); (try rw [aSz] at tB); (try rw [dSz] at tB); obtain ⟨hcB, hzB⟩ := bcell hbB; (first | have yB2 : wX.heap.size < wB.heap.size := by omega | skip); (first | have yB3 : wX.heap.size + 1 < wB.heap.size := by omega | skip); (first | have tB2 := Nat.lt_of_succ_le tB | skip); (first | have tB3 := Nat.lt_of_succ_lt tB2 | skip); (first | have tB4 := Nat.le_of_lt tB2 | skip); (first | have tB5 := Nat.le_of_lt tB3 | skip)))
          all_goals
            go_wp2_with fail
            go_meet
            have HOK : ∀ b, ok b → b < wX.heap.size := fun b hb => (S1.out.okb b hb).1
            refine ⟨⟨_, _, aA, aB, cA, cB, rfl, rfl, ?_, ?_, ?_, ?_, ?_, hfA, hfB, ?_, ?_⟩, ?_⟩
            · omega
            · omega
            · omega
            · repeat' (first | (with_reducible refine Box3.made' ?_; (simp only [aSz, sSz]; done)) | (with_reducible refine Box3.zput ?_ _ _ _) | ((with_reducible refine Box3.other ?_ ?_ _ _ _); rotate_left; omega) | (with_reducible refine Box3.alloc ?_ _) | (with_reducible refine Box3.drew ?_) | (with_reducible refine Box3.below ?_ hbA) | (with_reducible refine Box3.below ?_ hbB))
            · repeat' (first | (with_reducible refine Box3.made' ?_; (simp only [aSz, sSz]; done)) | (with_reducible refine Box3.zput ?_ _ _ _) | ((with_reducible refine Box3.other ?_ ?_ _ _ _); rotate_left; omega) | (with_reducible refine Box3.alloc ?_ _) | (with_reducible refine Box3.drew ?_) | (with_reducible refine Box3.below ?_ hbA) | (with_reducible refine Box3.below ?_ hbB))
            · refine Ts.belowOk HOK ?_ htA
              repeat' (first | (with_reducible exact Below.refl _ _) | (with_reducible refine below_put ?_ ?_ _ _ _) | (with_reducible refine Below.alloc ?_ ?_ _) | (with_reducible refine Below.drew ?_) | (with_reducible refine Below.up ?_ hbA ?_) | (with_reducible refine Below.up ?_ hbB ?_) | (with_reducible assumption) | (simp only [aSz, sSz]; omega) | omega)
            · refine Ts.belowOk HOK ?_ htB
              repeat' (first | (with_reducible exact Below.refl _ _) | (with_reducible refine below_put ?_ ?_ _ _ _) | (with_reducible refine Below.alloc ?_ ?_ _) | (with_reducible refine Below.drew ?_) | (with_reducible refine Below.up ?_ hbA ?_) | (with_reducible refine Below.up ?_ hbB ?_) | (with_reducible assumption) | (simp only [aSz, sSz]; omega) | omega)
            · repeat' (first | (with_reducible exact Below.refl _ _) | (with_reducible refine below_put ?_ ?_ _ _ _) | (with_reducible refine Below.alloc ?_ ?_ _) | (with_reducible refine Below.drew ?_) | (with_reducible refine Below.up ?_ hbA ?_) | (with_reducible refine Below.up ?_ hbB ?_) | (with_reducible assumption) | (simp only [aSz, dSz, sSz]; omega) | omega)
          -- FIRST-END
        case rest =>
          obtain ⟨⟨bx, bz, a1', a2', c1', c2', rfl, rfl, hbx, hbz, hne2, BX, BZ, hfx, hfy, htx, hty⟩, hbl⟩ := hcut
          have S2 := Lib.hid (S1.out.keep hbl)
          have T2 := Lib.hid (T1.out.trans (Touch.below (M := StRG rs g) hbl))
          have TR := Lib.hid ((TX.out.mono (M' := StRG rs g) fun _ _ e => .inl e).trans (Touch.below hbl))
          have HCX : Hid (∀ j u, (flat2 (y :: R))[j]? = some u → wX.cell? ⟨g', o' + j, none⟩ = some u) := Lib.hid (fun j u hu => (HC.out _).trans (HCEL.out j u hu))
          have HMS := Lib.hid (meetR_step (p := (y.1.1, y.2.1)) (r := R.map fun p => (p.1.1, p.2.1)) HR.out.eq)
          have HEX := Lib.hid (look_stop HR.out.fb.inv.rank.ends y.1.1); have HEY := Lib.hid (look_stop HR.out.fb.inv.rank.ends y.2.1)
          have HFX : Hid (Fit B.length (look (subB (B.map (·.1))) y.1.1)) := Lib.hid (by
            have := HR.out.fb.look (t := y.1.1) (by rw [List.length_map, HBLN.out]; exact HYF.out.1)
            rwa [List.length_map] at this)
          have HFY : Hid (Fit B.length (look (subB (B.map (·.1))) y.2.1)) := Lib.hid (by
            have := HR.out.fb.look (t := y.2.1) (by rw [List.length_map, HBLN.out]; exact HYF.out.2)
            rwa [List.length_map] at this)
          have HMID : Hid (Mid wX ok bx bz (look (subB (B.map (·.1))) y.1.1) (look (subB (B.map (·.1))) y.2.1) a1' a2' c1' c2' wc) := Lib.hid ⟨BX, BZ, hfx, hfy, htx, hty, hbl⟩
          have q0 := BX.c0; have q1 := BX.c1; have q2 := BX.c2; have qf := BX.fz
          have p0 := BZ.c0; have p1 := BZ.c1; have p2 := BZ.c2; have pf := BZ.fz
          have hsz1 : bx < wc.heap.size := BX.lt
          have hsz2 : bz < wc.heap.size := BZ.lt
          have HBX : Hid (wX.heap.size ≤ bx ∧ wX.heap.size ≤ bz) := Lib.hid ⟨hbx, hbz⟩
          have HGX : Hid (w.heap.size + 2 ≤ g' ∧ g' < wX.heap.size) := Lib.hid ⟨HGB.out.1, hg'⟩
          have HBL := Lib.hid hbl
          have hRl := HCAP.out.1
          clear r0 r1 r2 r3 r4 r5 BX BZ hfx hfy htx hty hbl HQ1 HQ2 HE1 HE2 HN HM HIB KX hbx hbz
          generalize look (subB (B.map (·.1))) y.1.1 = x at *
          generalize look (subB (B.map (·.1))) y.2.1 = z at *
          go_upto_region 7 with fail
          go_cut [7] (fun v7 wy => PairsAt wX (w.heap.size + 2) v7 R ∧ wy = wc)
          case first =>
            have hc0 : (1 : Int) ≤ (R.length : Int) + 1 := by omega
            have hc2 : (R.length : Int) + 1 ≤ (c' : Int) := by omega
            by_cases hc1 : c' = 1
            · subst hc1
              obtain rfl : R = [] := List.eq_nil_of_length_eq_zero (by omega)
              go_wp2_with fail
              all_goals
                go_meet
                exact ⟨PairsAt.tail HCAP.out.1 HCAP.out.2 HGX.out.1 HGX.out.2 HCX.out (a := some ⟨g', o', none⟩) (.inl ⟨rfl, by simp⟩), rfl⟩
            · go_wp2_with fail
              all_goals
                go_meet
                exact ⟨PairsAt.tail HCAP.out.1 HCAP.out.2 HGX.out.1 HGX.out.2 HCX.out (.inr rfl), rfl⟩
          case rest =>
            obtain ⟨hpt, rfl⟩ := hcut
            have HPT := Lib.hid hpt
            have HPD := Lib.hid (hpt.keep HBL.out.size fun b _ hb => HBL.out.block b hb)
            clear hpt HCX HGX HCAP HGB HCEL
            by_cases hv : x.var ≠ 0
            · -- FIRST-BEGIN
              have hv1 : (x.var != 0) = true := by rw [bne_iff_ne]; exact hv
              have hv2 : (x.var == 0) = false := by rw [beq_eq_false_iff_ne]; exact hv
              by_cases hvy : x.var = z.var
              · have hvy1 : (x.var == z.var) = true := by rw [beq_iff_eq]; exact hvy
                have HM1 : Hid (meetR (subB (B0.map (·.1))) f [(s, t)] = meetR (subB (B.map (·.1))) k ([] ++ R.map fun p => (p.1.1, p.2.1))) := Lib.hid (HMS.out.2 _ _ _ _ (pairStepR_same hv hvy))
                clear hv hvy
                go_wp2_with fail
                go_roundg k
                case measure => omega
                case rel => exact ⟨B, [] ++ R, HR.out.next TR.out S2.out (Nat.le_refl _) HR.out.fb HR.out.bl (N := []) HM1.out (fun p hp => by cases hp) (fun p hp => by cases hp) (Nat.zero_le _) HPD.out⟩
              · have hvy1 : (x.var == z.var) = false := by rw [beq_eq_false_iff_ne]; exact hvy
                have HST : Hid (pairStepR (subB (B.map (·.1))) k x z = bindStepR (subB (B.map (·.1))) x.var z k) := Lib.hid (pairStepR_x hv hvy)
                have HVX : Hid (x.var ≠ 0) := Lib.hid hv
                have HEX2 := HEX; have HFXX := HFX; have HFZ := HFY; have HEZ := HEY; have HNV : Hid (z.var ≠ x.var) := Lib.hid (fun e => hvy e.symm); have HMD := HMID; have SD := S2; have TD := T2; have TRD := TR
                clear hv hvy
                have HW := Lib.hid (WithinW (f := k) (by omega) SD.out HR.out.fb (v := x.var) HVX.out HMD.out.fy HMD.out.ty HFZ.out)
                have hq0 := HMD.out.bx.c0; have hq1 := HMD.out.bx.c1; have hq2 := HMD.out.bx.c2
                have hp0 := HMD.out.bz.c0; have hp1 := HMD.out.bz.c1; have hp2 := HMD.out.bz.c2
                have hxn : (x.var != 0) = true := by rw [bne_iff_ne]; exact HVX.out
                have HLE := Lib.hid (within_le (subB (B.map (·.1))) x.var k [z])
                have HBS : Hid (pairStepR (subB (B.map (·.1))) k x z = match within (subB (B.map (·.1))) x.var k [z] with | .yes f' => .done (.no (subB (B.map (·.1))) [] f') | .many => .done (.many (subB (B.map (·.1))) []) | .no f' => .go (upd (subB (B.map (·.1))) x.var z) [] (min f' k) []) := Lib.hid HST.out
                generalize within (subB (B.map (·.1))) x.var k [z] = oo at *
                cases oo with
                | yes f' =>
                  go_wp2_with (go_at_call 105; refine HW.out.mono ?_; rintro e w4 ⟨ht4, rfl, hs4⟩; have HT4 := Lib.hid ht4; have HS4 := Lib.hid hs4; clear ht4 hs4)
                  go_ret
                  rw [HMS.out.1 _ HBS.out]
                  exact ⟨TD.out.trans (HT4.out.mono fun _ _ e => .inl e), B, HR.out.bl, HR.out.fb, rfl, HS4.out, rfl⟩
                | many =>
                  go_wp2_with (go_at_call 105; refine HW.out.mono ?_; rintro e w4 ⟨ht4, rfl, hs4⟩; have HT4 := Lib.hid ht4; have HS4 := Lib.hid hs4; clear ht4 hs4)
                  go_ret
                  rw [HMS.out.1 _ HBS.out]
                  exact ⟨TD.out.trans (HT4.out.mono fun _ _ e => .inl e), B, HR.out.bl, HR.out.fb, rfl, HS4.out, rfl⟩
                | no f' =>
                  have hle : f' ≤ k := HLE.out.2 f' rfl
                  obtain ⟨i, hi⟩ : ∃ i : Nat, (i : Int) = x.var := ⟨x.var.toNat, by have := HFXX.out.pos; omega⟩
                  have hin : x.var.toNat = i := by omega
                  have hilt : i < B.length := by have := HFXX.out.pos; omega
                  have hi0 : (0 : Int) ≤ x.var := by omega
                  have hi1 : x.var < (B.length : Int) := by omega
                  have HNE : Hid (bx ≠ rs ∧ bz ≠ rs ∧ bx ≠ g ∧ bz ≠ g) := Lib.hid (by have := HBX.out; have := S1.out.lt; omega)
                  have HTX : Hid (Touch (StR rs) wc wc) := Lib.hid (Touch.refl _ _)
                  go_wp2_with (go_at_call 105; refine HW.out.mono ?_; rintro e w4 ⟨ht4, rfl, hs4⟩; have hb4 := HMD.out.bx.keep (ht4.block _ HMD.out.bx.lt HNE.out.1); have hz4 := HMD.out.bz.keep (ht4.block _ HMD.out.bz.lt HNE.out.2.1); have k0 := hb4.c0; have z0 := hz4.c0; have z1 := hz4.c1; have z2 := hz4.c2; have c4 := hs4.cells.1; have fg := hs4.cells.2.2.2; obtain ⟨e0, e1, e2, -, -⟩ := hs4.elem i hilt; have HT4 := Lib.hid ht4; have HS4 := Lib.hid hs4; clear ht4 hs4 hb4 hz4)
                  go_region
                  all_goals
                    go_wp2_with fail
                    go_roundg f'
                    case measure => omega
                    case rel => exact ⟨_, _, HR.out.bound H.out.lt TRD.out HT4.out HS4.out hle hi hilt HVX.out HEX2.out HFZ.out HEZ.out HNV.out HMD.out.fy HMD.out.ty (fun b hb => (S1.out.okb b hb).2.1) (HMS.out.2 _ _ _ _ HBS.out) HPD.out⟩
              -- FIRST-END
            · have hv0 : x.var = 0 := Decidable.of_not_not hv
              have hv1 : (x.var != 0) = false := by rw [hv0]; rfl
              have hv2 : (x.var == 0) = true := by rw [hv0]; rfl
              by_cases hvy : z.var ≠ 0
              · -- FIRST-BEGIN
                have hvy1 : (z.var != 0) = true := by rw [bne_iff_ne]; exact hvy
                have HST : Hid (pairStepR (subB (B.map (·.1))) k x z = bindStepR (subB (B.map (·.1))) z.var x k) := Lib.hid (pairStepR_y hv0 hvy)
                have HVX : Hid (z.var ≠ 0) := Lib.hid hvy
                have HNV : Hid (x.var ≠ z.var) := Lib.hid (by rw [hv0]; exact fun e => hvy e.symm)
                have HFXX := HFY; have HFZ := HFX; have HEZ := HEX; have HEX2 := HEY
                have HOK : Hid (∀ b, ok b → b < wX.heap.size) := Lib.hid (fun b hb => (S1.out.okb b hb).1)
                have HNX := Lib.hid hne2
                clear hv hvy hv0 HPD
                obtain ⟨wo, rfl⟩ : ∃ wo : World, wo = wc := ⟨_, rfl⟩
                go_upto_region 10 with fail
                go_cut [] (fun wy => Mid wX ok bx bz z x a2' a1' c2' c1' wy)
                case first =>
                  go_wp2_with fail
                  go_meet
                  exact HMID.out.swap HNX.out HBX.out.1 HBX.out.2 HOK.out
                case rest =>
                have HMD := Lib.hid hcut
                have SD := Lib.hid (S1.out.keep hcut.below)
                have TD := Lib.hid (T1.out.trans (Touch.below (M := StRG rs g) hcut.below))
                have TRD := Lib.hid ((TX.out.mono (M' := StRG rs g) fun _ _ e => .inl e).trans (Touch.below hcut.below))
                have HPD := Lib.hid (HPT.out.keep hcut.below.size fun b _ hb => hcut.below.block b hb)
                clear hcut q0 q1 q2 qf p0 p1 p2 pf hsz1 hsz2 hv1 hv2
                have HW := Lib.hid (WithinW (f := k) (by omega) SD.out HR.out.fb (v := z.var) HVX.out HMD.out.fy HMD.out.ty HFZ.out)
                have hq0 := HMD.out.bx.c0; have hq1 := HMD.out.bx.c1; have hq2 := HMD.out.bx.c2
                have hp0 := HMD.out.bz.c0; have hp1 := HMD.out.bz.c1; have hp2 := HMD.out.bz.c2
                have hxn : (z.var != 0) = true := by rw [bne_iff_ne]; exact HVX.out
                have HLE := Lib.hid (within_le (subB (B.map (·.1))) z.var k [x])
                have HBS : Hid (pairStepR (subB (B.map (·.1))) k x z = match within (subB (B.map (·.1))) z.var k [x] with | .yes f' => .done (.no (subB (B.map (·.1))) [] f') | .many => .done (.many (subB (B.map (·.1))) []) | .no f' => .go (upd (subB (B.map (·.1))) z.var x) [] (min f' k) []) := Lib.hid HST.out
                generalize within (subB (B.map (·.1))) z.var k [x] = oo at *
                cases oo with
                | yes f' =>
                  go_wp2_with (go_at_call 105; refine HW.out.mono ?_; rintro e w4 ⟨ht4, rfl, hs4⟩; have HT4 := Lib.hid ht4; have HS4 := Lib.hid hs4; clear ht4 hs4)
                  go_ret
                  rw [HMS.out.1 _ HBS.out]
                  exact ⟨TD.out.trans (HT4.out.mono fun _ _ e => .inl e), B, HR.out.bl, HR.out.fb, rfl, HS4.out, rfl⟩
                | many =>
                  go_wp2_with (go_at_call 105; refine HW.out.mono ?_; rintro e w4 ⟨ht4, rfl, hs4⟩; have HT4 := Lib.hid ht4; have HS4 := Lib.hid hs4; clear ht4 hs4)
                  go_ret
                  rw [HMS.out.1 _ HBS.out]
                  exact ⟨TD.out.trans (HT4.out.mono fun _ _ e => .inl e), B, HR.out.bl, HR.out.fb, rfl, HS4.out, rfl⟩
                | no f' =>
                  have hle : f' ≤ k := HLE.out.2 f' rfl
                  obtain ⟨i, hi⟩ : ∃ i : Nat, (i : Int) = z.var := ⟨z.var.toNat, by have := HFXX.out.pos; omega⟩
                  have hin : z.var.toNat = i := by omega
                  have hilt : i < B.length := by have := HFXX.out.pos; omega
                  have hi0 : (0 : Int) ≤ z.var := by omega
                  have hi1 : z.var < (B.length : Int) := by omega
                  have HNE : Hid (bx ≠ rs ∧ bz ≠ rs ∧ bx ≠ g ∧ bz ≠ g) := Lib.hid (by have := HBX.out; have := S1.out.lt; omega)
                  have HTX : Hid (Touch (StR rs) wc wc) := Lib.hid (Touch.refl _ _)
                  go_wp2_with (go_at_call 105; refine HW.out.mono ?_; rintro e w4 ⟨ht4, rfl, hs4⟩; have hb4 := HMD.out.bx.keep (ht4.block _ HMD.out.bx.lt HNE.out.1); have hz4 := HMD.out.bz.keep (ht4.block _ HMD.out.bz.lt HNE.out.2.1); have k0 := hb4.c0; have z0 := hz4.c0; have z1 := hz4.c1; have z2 := hz4.c2; have c4 := hs4.cells.1; have fg := hs4.cells.2.2.2; obtain ⟨e0, e1, e2, -, -⟩ := hs4.elem i hilt; have HT4 := Lib.hid ht4; have HS4 := Lib.hid hs4; clear ht4 hs4 hb4 hz4)
                  go_region
                  all_goals
                    go_wp2_with fail
                    go_roundg f'
                    case measure => omega
                    case rel => exact ⟨_, _, HR.out.bound H.out.lt TRD.out HT4.out HS4.out hle hi hilt HVX.out HEX2.out HFZ.out HEZ.out HNV.out HMD.out.fy HMD.out.ty (fun b hb => (S1.out.okb b hb).2.1) (HMS.out.2 _ _ _ _ HBS.out) HPD.out⟩
                -- FIRST-END
              · have hz0 : z.var = 0 := Decidable.of_not_not hvy
                have hz1 : (z.var != 0) = false := by rw [hz0]; rfl
                by_cases hm : x.name ≠ z.name ∨ x.args.length ≠ z.args.length
                · have HO := Lib.hid (HMS.out.1 _ (pairStepR_no hv0 hz0 hm))
                  have h3 := name_or hm
                  clear hv hvy hm hv0 hz0
                  rcases h3 with h3 | ⟨h3, h4⟩
                  all_goals
                    go_wp2_with fail
                    go_ret
                    rw [HO.out]
                    exact ⟨T2.out, B, HR.out.bl, HR.out.fb, rfl, S2.out, rfl⟩
                · have HST := Lib.hid (HMS.out.2 _ _ _ _ (pairStepR_args hv0 hz0 hm))
                  have hnm : x.name.toList = z.name.toList := by rw [show x.name = z.name from Decidable.of_not_not fun h => hm (.inl h)]
                  have hln : x.args.length = z.args.length := Decidable.of_not_not fun h => hm (.inr h)
                  have h3 : ((x.args.length : Int) != (z.args.length : Int)) = false := by rw [hln]; simp
                  have HLN := Lib.hid hln
                  have HFA : Hid (∀ b, ok b → b < wc.heap.size) := Lib.hid (fun b hb => (S2.out.okb b hb).1)
                  clear hv hvy hm hv0 hz0 hln
                  obtain ⟨wo, rfl⟩ : ∃ wo : World, wo = wc := ⟨_, rfl⟩
                  obtain ⟨wq, rfl⟩ : ∃ wq : World, wq = wr := ⟨_, rfl⟩
                  go_wp2_with fail
                  go_loopw [11, 12] (fun v11 v12 wr2 => ∃ (i : Nat) (L2 : List (TmAt × TmAt)), i ≤ x.args.length ∧ v12 = .int .i64 i ∧ MoreRel wo ok x.args z.args i L2 v11 wr2) (fun _ v12 _ => x.args.length - (intOf v12).toNat)
                  case atStart => exact ⟨0, [], Nat.zero_le _, rfl, ⟨rfl, rfl, World.ownsRow_nil _ _ _ _, (fun p hp => by cases hp), Below.refl _ _⟩⟩
                  case round =>
                    obtain ⟨i, L2, hi, rfl, hmr⟩ := hrel
                    have HMR := Lib.hid hmr
                    have hbx2 := HMID.out.bx.below hmr.below; have hbz2 := HMID.out.bz.below hmr.below
                    have z2 := hbx2.c2; have w2 := hbz2.c2
                    have hxl : x.args.length ≤ 9223372036854775807 := by have := HMID.out.tx.cap; unfold maxLen at this; omega
                    clear hmr
                    by_cases hlt : i < x.args.length
                    · have hlt2 : i < z.args.length := by rw [← HLN.out]; exact hlt
                      obtain ⟨g1, o1, d1, e1, rfl, hok1, hs1, hc1, ht1⟩ := HMID.out.tx.at i hlt
                      obtain ⟨g2, o2, d2, e2, rfl, hok2, hs2, hc2, ht2⟩ := HMID.out.ty.at i hlt2
                      have m0 := (HMR.out.below.cell (p := ⟨g1, o1 + i * 3, none⟩) hs1).trans hc1.var
                      have m1 := (HMR.out.below.cell (p := ⟨g1, o1 + i * 3 + 1, none⟩) hs1).trans hc1.name
                      have m2 := (HMR.out.below.cell (p := ⟨g1, o1 + i * 3 + 2, none⟩) hs1).trans hc1.args
                      have n0 := (HMR.out.below.cell (p := ⟨g2, o2 + i * 3, none⟩) hs2).trans hc2.var
                      have n1 := (HMR.out.below.cell (p := ⟨g2, o2 + i * 3 + 1, none⟩) hs2).trans hc2.name
                      have n2 := (HMR.out.below.cell (p := ⟨g2, o2 + i * 3 + 2, none⟩) hs2).trans hc2.args
                      have hi0 : (0 : Int) ≤ (i : Int) := by omega
                      have hi1 : (i : Int) < (x.args.length : Int) := by omega
                      have hi2 : (i : Int) < (z.args.length : Int) := by omega
                      have HF1 := Lib.hid hc1.fits; have HF2 := Lib.hid hc2.fits; have HT1' := Lib.hid ht1; have HT2' := Lib.hid ht2
                      have KL : ∀ (b o : Nat) (v : Value), wo.cell? ⟨b, o, none⟩ = some v → ∀ u, Below wo.heap.size wo u → u.cell? ⟨b, o, none⟩ = some v := fun b o v h u hb => (hb.cell (World.block_lt_of_cell? wo _ h)).trans h
                      have KH : Hid (∀ u, Below wo.heap.size wo u → u.cell? ⟨bx, 2, none⟩ = some (.slice (some ⟨g1, o1, none⟩) x.args.length c1') ∧ u.cell? ⟨bz, 2, none⟩ = some (.slice (some ⟨g2, o2, none⟩) z.args.length c2') ∧
                          u.cell? ⟨g1, o1 + i * 3, none⟩ = some (.int .i64 x.args[i].var) ∧ u.cell? ⟨g1, o1 + i * 3 + 1, none⟩ = some (.string x.args[i].name) ∧ u.cell? ⟨g1, o1 + i * 3 + 2, none⟩ = some (.slice d1 x.args[i].args.length e1) ∧
                          u.cell? ⟨g2, o2 + i * 3, none⟩ = some (.int .i64 z.args[i].var) ∧ u.cell? ⟨g2, o2 + i * 3 + 1, none⟩ = some (.string z.args[i].name) ∧ u.cell? ⟨g2, o2 + i * 3 + 2, none⟩ = some (.slice d2 z.args[i].args.length e2) ∧ Below wo.heap.size wo u) :=
                        Lib.hid fun u hb => ⟨KL _ _ _ HMID.out.bx.c2 u hb, KL _ _ _ HMID.out.bz.c2 u hb, KL _ _ _ hc1.var u hb, KL _ _ _ hc1.name u hb, KL _ _ _ hc1.args u hb, KL _ _ _ hc2.var u hb, KL _ _ _ hc2.name u hb, KL _ _ _ hc2.args u hb, hb⟩
                      have HB := Lib.hid HMR.out.below
                      clear hc1 hc2 ht1 ht2 KL
                      obtain ⟨i0, zv, hi', hz0', hz1', hz2', hz3'⟩ := infoPr
                      have hil : i ≤ 100000 := by have := HFX.out.len; omega
                      have HOWN : Hid ((wr.alloc (.cells #[.int .i64 x.args[i].var, .string x.args[i].name, .slice d1 x.args[i].args.length e1, .int .i64 z.args[i].var, .string z.args[i].name, .slice d2 z.args[i].args.length e2] 162)).drew.ownsRow wo.heap.size 162 6 u11 L2.length (flat2 L2)) := Lib.hid (HMR.out.row.alloc _)
                      have HNW : Hid (∀ j u, (flat [(x.args[i], d1, e1), (z.args[i], d2, e2)])[j]? = some u → (wr.alloc (.cells #[.int .i64 x.args[i].var, .string x.args[i].name, .slice d1 x.args[i].args.length e1, .int .i64 z.args[i].var, .string z.args[i].name, .slice d2 z.args[i].args.length e2] 162)).drew.cell? ((⟨wr.heap.size, 0, none⟩ : Addr).add j) = some u) := Lib.hid (by
                        have ho := World.ownsRow_lit (base := wr.heap.size) (e := 162) (size := 6) wr #[.int .i64 x.args[i].var, .string x.args[i].name, .slice d1 x.args[i].args.length e1, .int .i64 z.args[i].var, .string z.args[i].name, .slice d2 z.args[i].args.length e2] 1 (Nat.le_refl _) (by unfold maxLen; omega) rfl
                        exact ho.cells (g := wr.heap.size) rfl)
                      have hLl := HMR.out.len
                      go_wp2_with fail
                      go_region_held3 (fun u => u.cell? ⟨bx, 2, none⟩ = some (.slice (some ⟨g1, o1, none⟩) x.args.length c1') ∧ u.cell? ⟨bz, 2, none⟩ = some (.slice (some ⟨g2, o2, none⟩) z.args.length c2') ∧
                          u.cell? ⟨g1, o1 + i * 3, none⟩ = some (.int .i64 x.args[i].var) ∧ u.cell? ⟨g1, o1 + i * 3 + 1, none⟩ = some (.string x.args[i].name) ∧ u.cell? ⟨g1, o1 + i * 3 + 2, none⟩ = some (.slice d1 x.args[i].args.length e1) ∧
                          u.cell? ⟨g2, o2 + i * 3, none⟩ = some (.int .i64 z.args[i].var) ∧ u.cell? ⟨g2, o2 + i * 3 + 1, none⟩ = some (.string z.args[i].name) ∧ u.cell? ⟨g2, o2 + i * 3 + 2, none⟩ = some (.slice d2 z.args[i].args.length e2) ∧ Below wo.heap.size wo u)
                        (first
                          | (with_reducible assumption)
                          | (with_reducible exact KH.out _ hbl1)
                          | ((with_reducible refine KH.out _ ?_); repeat' (first | (with_reducible assumption) | (with_reducible exact HB.out) | (with_reducible refine Below.alloc ?_ HB.out.size _) | (with_reducible refine Below.drew ?_))))
                        (first
                          | (refine step_append_opt _ (by rfl) _ _ _ (by rfl) wo.heap.size 162 i0 zv 6 96 Try.underlying163 hi' hz0' hz1' hz2' hz3' (by decide) u11 L2.length (flat2 L2) (by rfl) HOWN.out (some ⟨wr.heap.size, 0, none⟩) 1 1 (by intro h; cases h) (flat [(x.args[i], d1, e1), (z.args[i], d2, e2)]) (by rfl) (by rw [flat_length]; rfl) (by intro ad had; cases had; exact HNW.out) (flat_one _) (by unfold maxLen; omega) (by omega) (by have := HMR.out.below.size; simp; omega) ?_
                             intro v1 w1 hown1 hgrow1 hfr1
                             have hbl1 : Below wo.heap.size wo w1 := ((HB.out.alloc HB.out.size _).drew).grown hgrow1 (by have := HB.out.size; simp; omega) (fun gg hg => (HOWN.out.lt gg hg).1)))
                      all_goals
                        have hnx := Lib.hid (HMR.out.next HFA.out hlt hlt2 HF1.out HF2.out HT1'.out HT2'.out hown1 hgrow1 hbl1 (by have := hgrow1.size; simp at this; omega))
                        go_wp2_with fail
                        go_roundw
                        case rel => exact ⟨i + 1, _, by omega, by go_num, hnx.out⟩
                        case measure => simp [intOf]; omega
                    · obtain ⟨ap, cp, rfl, hcp⟩ := HPT.out.form
                      obtain ⟨hs1, hs2⟩ := HPT.out.src (Below.up HBL.out HMR.out.below HBL.out.size)
                      have HS1 := Lib.hid hs1; have HS2 := Lib.hid hs2
                      obtain ⟨i0, zv, hi', hz0', hz1', hz2', hz3'⟩ := infoPr
                      have hLl := HMR.out.len
                      have hil : i ≤ 100000 := by have := HFX.out.len; omega
                      have HOWN := Lib.hid HMR.out.row
                      have HM1 : Hid (meetR (subB (B0.map (·.1))) f [(s, t)] = meetR (subB (B.map (·.1))) k (L2.map (fun p => (p.1.1, p.2.1)) ++ R.map fun p => (p.1.1, p.2.1))) := Lib.hid (by
                        rw [HST.out, HMR.out.list, List.take_of_length_le (by rw [List.length_zip]; omega)])
                      clear hs1 hs2
                      go_wp2_with (at_builtin; refine wpList_append_opt _ rfl _ _ 163 rfl wo.heap.size 162 i0 zv 6 96 Try.underlying163 hi' hz0' hz1' hz2' hz3' (by decide) _ _ _ rfl HOWN.out ap R.length cp HS1.out (flat2 R) rfl (flat2_length R) HS2.out (flat2_one R) ?c1 ?c2 ?c3 ?_)
                      · unfold maxLen; omega
                      · omega
                      · exact HMR.out.below.size
                      · intro v1 w1 hown1 hgrow1 _
                        have hbl1 : Below wo.heap.size wo w1 := HMR.out.below.grown hgrow1 HMR.out.below.size (fun gg hg => (HOWN.out.lt gg hg).1)
                        have HB1 := Lib.hid hbl1; have HO1 := Lib.hid hown1; have HG1 := Lib.hid hgrow1
                        clear hbl1 hown1 hgrow1
                        go_wp2_with fail
                        go_roundg k
                        case measure => omega
                        case rel => exact ⟨B, L2 ++ R, HR.out.next (TR.out.trans (Touch.below HB1.out)) (S2.out.keep HB1.out) (Nat.le_refl _) HR.out.fb HR.out.bl HM1.out (HMR.out.after HFA.out HB1.out HG1.out.size) (HMR.out.fits HFX.out HFY.out HR.out.bl) (by omega) (PairsAt.of_row (L := L2 ++ R) (by
                          rw [List.length_append, HMR.out.len, flat2_append]
                          have hr := HO1.out
                          refine ⟨hr.1, hr.2.imp id ?_⟩
                          rintro ⟨gg, cc, cur, h1, h2, h3⟩
                          exact ⟨gg, cc, cur, h1, by have := HR.out.size; have := TR.out.size; omega, h3⟩))⟩

end Go.Proofs.Ytikmgiapjigghaa

/- Walk: Meet of a State inside a Search. -/
namespace Go.Proofs.Ytikmgiapjigghaa.Emb
open Go.RowKit Go.Proofs.Ytikmgiapjigghaa

variable {Z : SrZ}

/-- What Meet hands back. -/
def MeetRPost (Z : SrZ) (w : World) (ok : Nat → Prop) (rs g cap n0 : Nat) (o : MOut) (e : Ending) (w' : World) : Prop :=
  Touch (StRG rs g) w w' ∧ ∃ B : List TmAt, B.length = n0 ∧ FB (B.map (·.1)) ∧
  match o with
  | .ok σ _ f => e = .returned (.int .i64 1) ∧ RAt Z w' ok rs g cap B (4000 - f) ∧ subB (B.map (·.1)) = σ
  | .no σ _ f => e = .returned (.int .i64 0) ∧ RAt Z w' ok rs g cap B (4000 - f) ∧ subB (B.map (·.1)) = σ
  | .many σ _ => e = .returned (.int .i64 2) ∧ RAt Z w' ok rs g cap B 4001 ∧ subB (B.map (·.1)) = σ

/-- What holds at the head of Meet's loop. -/
structure MeetRel (Z : SrZ) (w : World) (ok : Nat → Prop) (rs g cap n0 : Nat) (f : Nat) (M : MOut) (B : List TmAt) (L : List (TmAt × TmAt)) (fk : Nat) (x : Value) (wr : World) : Prop where
  eq : M = meetR (subB (B.map (·.1))) fk (L.map fun p => (p.1.1, p.2.1))
  st : RAt Z wr ok rs g cap B (4000 - fk)
  le : fk ≤ f
  fb : FB (B.map (·.1))
  bl : B.length = n0
  row : PairsAt wr (w.heap.size + 2) x L
  each : ∀ p ∈ L, TsEach wr ok [p.1, p.2]
  fit : ∀ p ∈ L, Fit n0 p.1.1 ∧ Fit n0 p.2.1
  len : L.length ≤ 1 + (f - fk) * 100000
  touch : Touch (StRG rs g) w wr
  size : w.heap.size + 1 < wr.heap.size

theorem MeetRel.next {w wr wz : World} {ok : Nat → Prop} {rs g cap n0 f : Nat} {M : MOut} {B : List TmAt} {y : TmAt × TmAt} {R : List (TmAt × TmAt)} {k : Nat} {x : Value} (h : MeetRel Z w ok rs g cap n0 f M B (y :: R) (k + 1) x wr)
    (ht : Touch (StRG rs g) wr wz) {B' : List TmAt} {k' : Nat} (hst : RAt Z wz ok rs g cap B' (4000 - k')) (hk : k' ≤ k) (hfb : FB (B'.map (·.1))) (hbl : B'.length = n0) {N : List (TmAt × TmAt)}
    (hM : M = meetR (subB (B'.map (·.1))) k' (N.map (fun p => (p.1.1, p.2.1)) ++ R.map (fun p => (p.1.1, p.2.1)))) (hN : ∀ p ∈ N, TsEach wz ok [p.1, p.2]) (hNf : ∀ p ∈ N, Fit n0 p.1.1 ∧ Fit n0 p.2.1) (hNl : N.length ≤ 100000)
    {x' : Value} (hp : PairsAt wz (w.heap.size + 2) x' (N ++ R)) : MeetRel Z w ok rs g cap n0 f M B' (N ++ R) k' x' wz := by
  have hK : Keeps ok wr wz := ht.keeps fun b hb hm => by
    rcases hm with e | e
    · exact (h.st.okb b hb).2.1 e
    · exact (h.st.okb b hb).2.2 e
  refine ⟨by rw [hM, List.map_append], hst, by have := h.le; omega, hfb, hbl, hp, fun p hp => ?_, fun p hp => ?_, ?_, h.touch.trans ht, by have := h.size; have := ht.size; omega⟩
  · rcases List.mem_append.1 hp with h1 | h1
    · exact hN p h1
    · exact (h.each p (List.mem_cons_of_mem _ h1)).keep hK
  · rcases List.mem_append.1 hp with h1 | h1
    · exact hNf p h1
    · exact h.fit p (List.mem_cons_of_mem _ h1)
  · have := h.len; have := h.le
    simp only [List.length_cons, List.length_append] at *
    omega

theorem RAt.put {w : World} {ok : Nat → Prop} {rs g cap : Nat} {B : List TmAt} {wk : Nat} (h : RAt Z w ok rs g cap B wk) {i : Nat} (hi : i < B.length) {z : Tm} {a : Option Addr} {c : Nat} (hf : z.fits) (ht : Ts w ok z.args a c) :
    RAt Z (((w.setCell ⟨g, i * 3, none⟩ (.int .i64 z.var)).setCell ⟨g, i * 3 + 1, none⟩ (.string z.name)).setCell ⟨g, i * 3 + 2, none⟩ (.slice a z.args.length c)) ok rs g cap (B.set i (z, a, c)) wk ∧
    Touch (StRG rs g) w (((w.setCell ⟨g, i * 3, none⟩ (.int .i64 z.var)).setCell ⟨g, i * 3 + 1, none⟩ (.string z.name)).setCell ⟨g, i * 3 + 2, none⟩ (.slice a z.args.length c)) := by
  have hT : Touch (fun b => b = g) w (((w.setCell ⟨g, i * 3, none⟩ (.int .i64 z.var)).setCell ⟨g, i * 3 + 1, none⟩ (.string z.name)).setCell ⟨g, i * 3 + 2, none⟩ (.slice a z.args.length c)) :=
    ⟨rfl, rfl, rfl, by simp [World.setCell], fun b' _ hn => by rw [Below.heap_setCell _ _ _ _ hn, Below.heap_setCell _ _ _ _ hn, Below.heap_setCell _ _ _ _ hn]⟩
  have hK : Keeps ok w _ := hT.keeps fun b hb e => (h.okb b hb).2.2 e
  have hr := ((h.row.stored (i * 3) (.int .i64 z.var)).1.stored (i * 3 + 1) (.string z.name)).1.stored (i * 3 + 2) (.slice a z.args.length c)
  refine ⟨⟨?_, ?_, ?_, h.ne, fun b hb => ⟨Nat.lt_of_lt_of_le (h.okb b hb).1 hT.size, (h.okb b hb).2⟩⟩, hT.mono fun _ _ e => .inr e⟩
  · rw [List.length_set]; exact (hT.block rs h.lt.1 h.ne).trans h.blk
  · rw [List.length_set, flat_set B i hi]; exact hr.1
  · intro x hx
    rcases List.mem_or_eq_of_mem_set hx with h1 | rfl
    · exact ⟨(h.each x h1).1, (h.each x h1).2.keep hK⟩
    · exact ⟨hf, ht.keep hK⟩

theorem MeetRel.bound {w wr wc w4 : World} {ok : Nat → Prop} {rs g cap n0 f : Nat} {M : MOut} {B : List TmAt} {y : TmAt × TmAt} {R : List (TmAt × TmAt)} {k f' i : Nat} {u x' : Value} {x z : Tm} {a : Option Addr} {c : Nat} (h : MeetRel Z w ok rs g cap n0 f M B (y :: R) (k + 1) u wr)
    (hlt : rs < w.heap.size ∧ g < w.heap.size) (tr : Touch (StRG rs g) wr wc) (t4 : Touch (StR rs) wc w4) (s4 : RAt Z w4 ok rs g cap B (4000 - f')) (hle : f' ≤ k) (hi : (i : Int) = x.var) (hil : i < B.length) (hx0 : x.var ≠ 0) (hxn : x.var = 0 ∨ subB (B.map (·.1)) x.var = none)
    (hz : Fit B.length z) (hzn : z.var = 0 ∨ subB (B.map (·.1)) z.var = none) (hne : z.var ≠ x.var) (hf : z.fits) (ht : Ts wc ok z.args a c) (sc : ∀ b, ok b → b ≠ rs)
    (hM : M = meetR (upd (subB (B.map (·.1))) x.var z) (min f' k) ([] ++ R.map (fun p => (p.1.1, p.2.1)))) (hp : PairsAt wc (w.heap.size + 2) x' R) :
    MeetRel Z w ok rs g cap n0 f M (B.set i (z, a, c)) ([] ++ R) f' x' (((w4.setCell ⟨g, i * 3, none⟩ (.int .i64 z.var)).setCell ⟨g, i * 3 + 1, none⟩ (.string z.name)).setCell ⟨g, i * 3 + 2, none⟩ (.slice a z.args.length c)).drew := by
  have hP := s4.put hil hf (ht.keep (t4.keeps fun b hb e => sc b hb e))
  have hD : Below (((w4.setCell ⟨g, i * 3, none⟩ (.int .i64 z.var)).setCell ⟨g, i * 3 + 1, none⟩ (.string z.name)).setCell ⟨g, i * 3 + 2, none⟩ (.slice a z.args.length c)).heap.size _ _ := (Below.refl _ (((w4.setCell ⟨g, i * 3, none⟩ (.int .i64 z.var)).setCell ⟨g, i * 3 + 1, none⟩ (.string z.name)).setCell ⟨g, i * 3 + 2, none⟩ (.slice a z.args.length c))).drew
  have hT : Touch (StRG rs g) wc _ := ((t4.mono (M' := StRG rs g) fun _ _ e => .inl e).trans hP.2).trans (Touch.below hD)
  have hin : x.var.toNat = i := by omega
  have e1 : (B.set i (z, a, c)).map (·.1) = (B.map (·.1)).set x.var.toNat z := by rw [List.map_set, hin]
  have e2 : subB ((B.set i (z, a, c)).map (·.1)) = upd (subB (B.map (·.1))) x.var z := by rw [e1]; exact subB_set (by omega) (by rw [List.length_map]; omega) hne
  refine h.next (tr.trans hT) (hP.1.keep hD) hle ?_ (by rw [List.length_set]; exact h.bl) (N := []) ?_ (fun p hp => by cases hp) (fun p hp => by cases hp) (Nat.zero_le _) (hp.keep hT.size fun b hb hbl => hT.block b hbl fun hm => by rcases hm with e | e <;> omega)
  · rw [e1]
    exact h.fb.bind (by omega) (by rw [List.length_map]; omega) (hxn.resolve_left hx0) (by rw [List.length_map]; exact hz) hzn hne
  · rw [e2, hM, Nat.min_eq_left hle]; rfl

set_option maxRecDepth 100000 in
set_option maxHeartbeats 4000000 in
theorem MeetW {w : World} {ok : Nat → Prop} {rs g cap : Nat} {B0 : List TmAt} {f : Nat} (hf : f ≤ 4000) (h : RAt Z w ok rs g cap B0 (4000 - f)) (hB : FB (B0.map (·.1))) {s t : Tm} {a1 a2 : Option Addr} {c1 c2 : Nat} (hs : s.fits) (ht : t.fits) (hts : Ts w ok s.args a1 c1) (htt : Ts w ok t.args a2 c2) (his : Fit B0.length s) (hit : Fit B0.length t) :
    Calls Try.prog 70 #[.pointer (some ⟨rs, 1, none⟩), .agg #[.int .i64 s.var, .string s.name, .slice a1 s.args.length c1], .agg #[.int .i64 t.var, .string t.name, .slice a2 t.args.length c2]] w (MeetRPost Z w ok rs g cap B0.length (meetR (subB (B0.map (·.1))) f [(s, t)])) := by
  have H := Lib.hid h; have HF1 := Lib.hid hs; have HF2 := Lib.hid ht; have HT1 := Lib.hid hts; have HT2 := Lib.hid htt; have HB := Lib.hid hB; have HI1 := Lib.hid his; have HI2 := Lib.hid hit; have HF4 := Lib.hid hf
  clear h hs ht hts htt hB his hit hf
  go_enter Try.func70, Try.ntmps70
  go_wp2_with fail
  go_loopg [7] f (fun fk x wr => ∃ B L, MeetRel Z w ok rs g cap B0.length f (meetR (subB (B0.map (·.1))) f [(s, t)]) B L fk x wr)
  case atStart =>
    have hb : Below w.heap.size w (((w.alloc (.cells #[.int .i64 s.var, .string s.name, .slice a1 s.args.length c1] 24)).alloc (.cells #[.int .i64 t.var, .string t.name, .slice a2 t.args.length c2] 24)).alloc (.cells #[.int .i64 s.var, .string s.name, .slice a1 s.args.length c1, .int .i64 t.var, .string t.name, .slice a2 t.args.length c2] 162)) :=
      (((Below.refl _ _).alloc (Nat.le_refl _) _).alloc (by simp) _).alloc (by simp; omega) _
    refine ⟨B0, [((s, a1, c1), (t, a2, c2))], rfl, H.out.keep hb, Nat.le_refl _, HB.out, rfl, ?_, ?_, ?_, by simp, Touch.below hb, by simp⟩
    · refine PairsAt.of_row ?_
      have := World.ownsRow_lit (base := w.heap.size + 2) (e := 162) (size := 6) ((w.alloc (.cells #[.int .i64 s.var, .string s.name, .slice a1 s.args.length c1] 24)).alloc (.cells #[.int .i64 t.var, .string t.name, .slice a2 t.args.length c2] 24)) #[.int .i64 s.var, .string s.name, .slice a1 s.args.length c1, .int .i64 t.var, .string t.name, .slice a2 t.args.length c2] 1 (by simp) (by unfold maxLen; omega) rfl
      simpa [flat2, flat] using this
    · intro p hp
      rw [List.mem_singleton] at hp; subst hp
      exact ((TsEach.one HF1.out HT1.out).append (TsEach.one HF2.out HT2.out)).keep (Keeps.below hb _)
    · intro p hp
      rw [List.mem_singleton] at hp; subst hp
      exact ⟨HI1.out, HI2.out⟩
  case round =>
    obtain ⟨B, L, hrel⟩ := hrel
    cases L with
    | nil =>
      obtain ⟨a0, c0, rfl⟩ : ∃ a0 c0, u7 = .slice a0 0 c0 := by
        obtain ⟨a, c, h1, _⟩ := hrel.row
        exact ⟨_, _, h1⟩
      have HO : Hid (meetR (subB (B0.map (·.1))) f [(s, t)] = .ok (subB (B.map (·.1))) [] gk) := Lib.hid (by rw [hrel.eq]; cases gk <;> rw [List.map_nil, meetR])
      have HR := Lib.hid hrel
      clear hrel
      go_wp2_with fail
      go_ret
      rw [HO.out]
      exact ⟨HR.out.touch, B, HR.out.bl, HR.out.fb, rfl, HR.out.st, rfl⟩
    | cons y R =>
      obtain ⟨a0, c', rfl, hcap, hcml, _, hrow⟩ := hrel.row
      obtain ⟨g', o', rfl, hgb, hgl, hcel⟩ := hrow (by simp)
      have HCEL := Lib.hid hcel
      have HCAP : Hid (R.length + 1 ≤ c' ∧ c' ≤ maxLen) := Lib.hid ⟨hcap, hcml⟩
      have HGB : Hid (w.heap.size + 2 ≤ g' ∧ g' < wr.heap.size) := Lib.hid ⟨hgb, hgl⟩
      clear hrow hcel hcap hcml hgb hgl
      simp only [List.length_cons] at *
      have hlen := hrel.len
      have hw1 := hrel.st.cells.2.1
      have hfr := hrel.st.cells.2.2.1
      have hgf : gk ≤ 4000 := Nat.le_trans hrel.le HF4.out
      have HR := Lib.hid hrel
      clear hrel
      have hR : R.length + 1 ≤ 1000000000 := by simp only [List.length_cons] at hlen; have := HF4.out; omega
      have r0 : wr.cell? ⟨g', o', none⟩ = some (.int .i64 y.1.1.var) := HCEL.out 0 _ rfl
      have r1 : wr.cell? ⟨g', o' + 1, none⟩ = some (.string y.1.1.name) := HCEL.out 1 _ rfl
      have r2 : wr.cell? ⟨g', o' + 2, none⟩ = some (.slice y.1.2.1 y.1.1.args.length y.1.2.2) := HCEL.out 2 _ rfl
      have r3 : wr.cell? ⟨g', o' + 3, none⟩ = some (.int .i64 y.2.1.var) := HCEL.out 3 _ rfl
      have r4 : wr.cell? ⟨g', o' + 3 + 1, none⟩ = some (.string y.2.1.name) := HCEL.out 4 _ rfl
      have r5 : wr.cell? ⟨g', o' + 3 + 2, none⟩ = some (.slice y.2.2.1 y.2.1.args.length y.2.2.2) := HCEL.out 5 _ rfl
      have hne : g' ≠ rs := by have := HGB.out.1; have := H.out.lt.1; omega
      have hne' : rs ≠ g' := fun e => hne e.symm
      cases gk with
      | zero =>
        have HO : Hid (meetR (subB (B0.map (·.1))) f [(s, t)] = .many (subB (B.map (·.1))) []) := Lib.hid (by rw [HR.out.eq, List.map_cons, meetR])
        have S1 := Lib.hid (HR.out.st.work 4001)
        have T1 := Lib.hid (HR.out.touch.trans ((touch_one wr rs 2 (.int .i64 ((4001 : Nat) : Int))).mono (M' := StRG rs g) fun _ _ e => .inl e))
        go_wp2_with fail
        go_ret
        rw [HO.out]
        exact ⟨T1.out, B, HR.out.bl, HR.out.fb, rfl, S1.out, rfl⟩
      | succ k =>
        obtain ⟨q, hq⟩ : ∃ q : Nat, 4000 - (k + 1) = q := ⟨_, rfl⟩
        have hq1 : q ≤ 3999 := by omega
        have hq2 : 4000 - k = q + 1 := by omega
        rw [hq] at hw1
        have S1 : Hid (RAt Z (wr.setCell ⟨rs, 2, none⟩ (.int .i64 ((q : Int) + 1))) ok rs g cap B (4000 - k)) := Lib.hid (by rw [hq2]; exact HR.out.st.work (q + 1))
        have TX := Lib.hid (touch_one wr rs 2 (.int .i64 ((q : Int) + 1)))
        have T1 := Lib.hid (HR.out.touch.trans (TX.out.mono (M' := StRG rs g) fun _ _ e => .inl e))
        clear hq hq2
        have HY := Lib.hid (HR.out.each y List.mem_cons_self)
        have HYF := Lib.hid (HR.out.fit y List.mem_cons_self)
        have HIB : Hid (∀ i (hi : i < B.length), InB B B[i].1) := Lib.hid (fun i hi => by
          have := (HR.out.fb.each B[i].1 (List.mem_map.2 ⟨_, List.getElem_mem hi, rfl⟩)).pos
          rw [List.length_map] at this
          exact this)
        have HBLN := Lib.hid HR.out.bl
        obtain ⟨n, hn⟩ := look_spec HR.out.fb.inv.rank.ends y.1.1
        obtain ⟨m, hm⟩ := look_spec HR.out.fb.inv.rank.ends y.2.1
        have HN := Lib.hid hn; have HM := Lib.hid hm
        have KX := Lib.hid (HR.out.st.keeps TX.out)
        have HE1 : Hid (Ts (wr.setCell ⟨rs, 2, none⟩ (.int .i64 ((q : Int) + 1))) ok y.1.1.args y.1.2.1 y.1.2.2) := Lib.hid ((HY.out _ (by simp)).2.keep KX.out)
        have HE2 : Hid (Ts (wr.setCell ⟨rs, 2, none⟩ (.int .i64 ((q : Int) + 1))) ok y.2.1.args y.2.2.1 y.2.2.2) := Lib.hid ((HY.out _ (by simp)).2.keep KX.out)
        have HC : Hid (∀ j, (wr.setCell ⟨rs, 2, none⟩ (.int .i64 ((q : Int) + 1))).cell? ⟨g', j, none⟩ = wr.cell? ⟨g', j, none⟩) := Lib.hid (fun j => World.cell?_of_block (TX.out.block g' HGB.out.2 hne))
        clear hn hm
        go_wp2_with fail
        have r0 := (HC.out o').trans r0; have r1 := (HC.out (o' + 1)).trans r1; have r2 := (HC.out (o' + 2)).trans r2
        have r3 := (HC.out (o' + 3)).trans r3; have r4 := (HC.out (o' + 3 + 1)).trans r4; have r5 := (HC.out (o' + 3 + 2)).trans r5
        have hin1 : InB B y.1.1 := by have := HYF.out.1.pos; unfold InB; rw [HBLN.out]; exact this
        have hin2 : InB B y.2.1 := by have := HYF.out.2.pos; unfold InB; rw [HBLN.out]; exact this
        generalize wr.setCell ⟨rs, 2, none⟩ (.int .i64 ((q : Int) + 1)) = wX at *
        have HQ1 : Hid (∀ X, Below wX.heap.size wX X → Calls Try.prog 71 #[.pointer (some ⟨rs, 1, none⟩), .agg #[.int .i64 y.1.1.var, .string y.1.1.name, .slice y.1.2.1 y.1.1.args.length y.1.2.2]] X (RetTm X ok (look (subB (B.map (·.1))) y.1.1))) := Lib.hid (fun X hX => LookAtW (S1.out.keep hX) HIB.out HN.out (HY.out _ (by simp)).1 (HE1.out.keep (Keeps.below hX ok)) hin1)
        have HQ2 : Hid (∀ X, Below wX.heap.size wX X → Calls Try.prog 71 #[.pointer (some ⟨rs, 1, none⟩), .agg #[.int .i64 y.2.1.var, .string y.2.1.name, .slice y.2.2.1 y.2.1.args.length y.2.2.2]] X (RetTm X ok (look (subB (B.map (·.1))) y.2.1))) := Lib.hid (fun X hX => LookAtW (S1.out.keep hX) HIB.out HM.out (HY.out _ (by simp)).1 (HE2.out.keep (Keeps.below hX ok)) hin2)
        have hg' : g' < wX.heap.size := World.block_lt_of_cell? wX _ r0
        go_upto_region 6 with fail
        go_cut [8, 9] (fun v8 v9 wx => TwoR wX ok (look (subB (B.map (·.1))) y.1.1) (look (subB (B.map (·.1))) y.2.1) v8 v9 wx)
        case first =>
          -- FIRST-BEGIN
          have KH : Hid (∀ u, Below wX.heap.size wX u → u.cell? ⟨g', o', none⟩ = some (.int .i64 y.1.1.var) ∧ u.cell? ⟨g', o' + 1, none⟩ = some (.string y.1.1.name) ∧ u.cell? ⟨g', o' + 2, none⟩ = some (.slice y.1.2.1 y.1.1.args.length y.1.2.2) ∧ u.cell? ⟨g', o' + 3, none⟩ = some (.int .i64 y.2.1.var) ∧ u.cell? ⟨g', o' + 3 + 1, none⟩ = some (.string y.2.1.name) ∧ u.cell? ⟨g', o' + 3 + 2, none⟩ = some (.slice y.2.2.1 y.2.1.args.length y.2.2.2) ∧ Below wX.heap.size wX u) := Lib.hid (fun u hb =>
            ⟨(hb.cell (p := ⟨g', o', none⟩) hg').trans r0, (hb.cell (p := ⟨g', o' + 1, none⟩) hg').trans r1, (hb.cell (p := ⟨g', o' + 2, none⟩) hg').trans r2, (hb.cell (p := ⟨g', o' + 3, none⟩) hg').trans r3, (hb.cell (p := ⟨g', o' + 3 + 1, none⟩) hg').trans r4, (hb.cell (p := ⟨g', o' + 3 + 2, none⟩) hg').trans r5, hb⟩)
          have NX : ∀ u u', Below wX.heap.size wX u → Below u.heap.size u u' → Below wX.heap.size wX u' := fun u u' h1 h2 => h1.trans (h2.mono h1.size)
          have NA : ∀ u X, Below wX.heap.size wX u → Below wX.heap.size wX (u.alloc X) := fun u X h1 => h1.alloc h1.size _
          clear r0 r1 r2 r3 r4 r5
          go_region_held3 (fun u => u.cell? ⟨g', o', none⟩ = some (.int .i64 y.1.1.var) ∧ u.cell? ⟨g', o' + 1, none⟩ = some (.string y.1.1.name) ∧ u.cell? ⟨g', o' + 2, none⟩ = some (.slice y.1.2.1 y.1.1.args.length y.1.2.2) ∧ u.cell? ⟨g', o' + 3, none⟩ = some (.int .i64 y.2.1.var) ∧ u.cell? ⟨g', o' + 3 + 1, none⟩ = some (.string y.2.1.name) ∧ u.cell? ⟨g', o' + 3 + 2, none⟩ = some (.slice y.2.2.1 y.2.1.args.length y.2.2.2) ∧ Below wX.heap.size wX u)
            (first
              | (with_reducible assumption)
              | ((with_reducible refine KH.out _ ?_); repeat' (first | (with_reducible assumption) | (with_reducible refine below_put ?_ ?_ _ _ _) | (with_reducible refine NA _ _ ?_) | (with_reducible refine Below.drew ?_) | (with_reducible exact Below.refl _ _) | omega)))
            (first
              | (go_at_call_of 71 (Value.string y.1.1.name); refine (HQ1.out _ (And.right (And.right (And.right (And.right (And.right (And.right (by assumption)))))))).mono ?_; rintro e wA ⟨aA, cA, rfl, hfA, htA, hbA⟩; have chA : Below wX.heap.size wX wA := NX _ _ (And.right (And.right (And.right (And.right (And.right (And.right (by assumption))))))) hbA; have szA := chA.size; have tA := hbA.size; (try rw [dSz] at tA); (try rw [aSz] at tA); (try rw [aSz] at tA); (try rw [dSz] at tA); obtain ⟨hcA, hzA⟩ := bcell hbA; (first | have yA2 : wX.heap.size < wA.heap.size := by omega | skip); (first | have yA3 : wX.heap.size + 1 < wA.heap.size := by omega | skip); (first | have tA2 := Nat.lt_of_succ_le tA | skip); (first | have tA3 := Nat.lt_of_succ_lt tA2 | skip); (first | have tA4 := Nat.le_of_lt tA2 | skip); (first | have tA5 := Nat.le_of_lt tA3 | skip))
              | (go_at_call_of 71 (Value.string y.2.1.name); refine (HQ2.out _ (And.right (And.right (And.right (And.right (And.right (And.right (by assumption)))))))).mono ?_; rintro e wB ⟨aB, cB, rfl, hfB, htB, hbB⟩; have chB : Below wX.heap.size wX wB := NX _ _ (And.right (And.right (And.right (And.right (And.right (And.right (by assumption))))))) hbB; have szB := chB.size; have tB := hbB.size; (try rw [dSz] at tB); (try rw [aSz] at tB); (try rw [aSz] at tB); (try rw [dSz] at tB); obtain ⟨hcB, hzB⟩ := bcell hbB; (first | have yB2 : wX.heap.size < wB.heap.size := by omega | skip); (first | have yB3 : wX.heap.size + 1 < wB.heap.size := by omega | skip); (first | have tB2 := Nat.lt_of_succ_le tB | skip); (first | have tB3 := Nat.lt_of_succ_lt tB2 | skip); (first | have tB4 := Nat.le_of_lt tB2 | skip); (first | have tB5 := Nat.le_of_lt tB3 | skip)))
          all_goals
            go_wp2_with fail
            go_meet
            have HOK : ∀ b, ok b → b < wX.heap.size := fun b hb => (S1.out.okb b hb).1
            refine ⟨⟨_, _, aA, aB, cA, cB, rfl, rfl, ?_, ?_, ?_, ?_, ?_, hfA, hfB, ?_, ?_⟩, ?_⟩
            · omega
            · omega
            · omega
            · repeat' (first | (with_reducible refine Box3.made' ?_; (simp only [aSz, sSz]; done)) | (with_reducible refine Box3.zput ?_ _ _ _) | ((with_reducible refine Box3.other ?_ ?_ _ _ _); rotate_left; omega) | (with_reducible refine Box3.alloc ?_ _) | (with_reducible refine Box3.drew ?_) | (with_reducible refine Box3.below ?_ hbA) | (with_reducible refine Box3.below ?_ hbB))
            · repeat' (first | (with_reducible refine Box3.made' ?_; (simp only [aSz, sSz]; done)) | (with_reducible refine Box3.zput ?_ _ _ _) | ((with_reducible refine Box3.other ?_ ?_ _ _ _); rotate_left; omega) | (with_reducible refine Box3.alloc ?_ _) | (with_reducible refine Box3.drew ?_) | (with_reducible refine Box3.below ?_ hbA) | (with_reducible refine Box3.below ?_ hbB))
            · refine Ts.belowOk HOK ?_ htA
              repeat' (first | (with_reducible exact Below.refl _ _) | (with_reducible refine below_put ?_ ?_ _ _ _) | (with_reducible refine Below.alloc ?_ ?_ _) | (with_reducible refine Below.drew ?_) | (with_reducible refine Below.up ?_ hbA ?_) | (with_reducible refine Below.up ?_ hbB ?_) | (with_reducible assumption) | (simp only [aSz, sSz]; omega) | omega)
            · refine Ts.belowOk HOK ?_ htB
              repeat' (first | (with_reducible exact Below.refl _ _) | (with_reducible refine below_put ?_ ?_ _ _ _) | (with_reducible refine Below.alloc ?_ ?_ _) | (with_reducible refine Below.drew ?_) | (with_reducible refine Below.up ?_ hbA ?_) | (with_reducible refine Below.up ?_ hbB ?_) | (with_reducible assumption) | (simp only [aSz, sSz]; omega) | omega)
            · repeat' (first | (with_reducible exact Below.refl _ _) | (with_reducible refine below_put ?_ ?_ _ _ _) | (with_reducible refine Below.alloc ?_ ?_ _) | (with_reducible refine Below.drew ?_) | (with_reducible refine Below.up ?_ hbA ?_) | (with_reducible refine Below.up ?_ hbB ?_) | (with_reducible assumption) | (simp only [aSz, dSz, sSz]; omega) | omega)
          -- FIRST-END
        case rest =>
          obtain ⟨⟨bx, bz, a1', a2', c1', c2', rfl, rfl, hbx, hbz, hne2, BX, BZ, hfx, hfy, htx, hty⟩, hbl⟩ := hcut
          have S2 := Lib.hid (S1.out.keep hbl)
          have T2 := Lib.hid (T1.out.trans (Touch.below (M := StRG rs g) hbl))
          have TR := Lib.hid ((TX.out.mono (M' := StRG rs g) fun _ _ e => .inl e).trans (Touch.below hbl))
          have HCX : Hid (∀ j u, (flat2 (y :: R))[j]? = some u → wX.cell? ⟨g', o' + j, none⟩ = some u) := Lib.hid (fun j u hu => (HC.out _).trans (HCEL.out j u hu))
          have HMS := Lib.hid (meetR_step (p := (y.1.1, y.2.1)) (r := R.map fun p => (p.1.1, p.2.1)) HR.out.eq)
          have HEX := Lib.hid (look_stop HR.out.fb.inv.rank.ends y.1.1); have HEY := Lib.hid (look_stop HR.out.fb.inv.rank.ends y.2.1)
          have HFX : Hid (Fit B.length (look (subB (B.map (·.1))) y.1.1)) := Lib.hid (by
            have := HR.out.fb.look (t := y.1.1) (by rw [List.length_map, HBLN.out]; exact HYF.out.1)
            rwa [List.length_map] at this)
          have HFY : Hid (Fit B.length (look (subB (B.map (·.1))) y.2.1)) := Lib.hid (by
            have := HR.out.fb.look (t := y.2.1) (by rw [List.length_map, HBLN.out]; exact HYF.out.2)
            rwa [List.length_map] at this)
          have HMID : Hid (Mid wX ok bx bz (look (subB (B.map (·.1))) y.1.1) (look (subB (B.map (·.1))) y.2.1) a1' a2' c1' c2' wc) := Lib.hid ⟨BX, BZ, hfx, hfy, htx, hty, hbl⟩
          have q0 := BX.c0; have q1 := BX.c1; have q2 := BX.c2; have qf := BX.fz
          have p0 := BZ.c0; have p1 := BZ.c1; have p2 := BZ.c2; have pf := BZ.fz
          have hsz1 : bx < wc.heap.size := BX.lt
          have hsz2 : bz < wc.heap.size := BZ.lt
          have HBX : Hid (wX.heap.size ≤ bx ∧ wX.heap.size ≤ bz) := Lib.hid ⟨hbx, hbz⟩
          have HGX : Hid (w.heap.size + 2 ≤ g' ∧ g' < wX.heap.size) := Lib.hid ⟨HGB.out.1, hg'⟩
          have HBL := Lib.hid hbl
          have hRl := HCAP.out.1
          clear r0 r1 r2 r3 r4 r5 BX BZ hfx hfy htx hty hbl HQ1 HQ2 HE1 HE2 HN HM HIB KX hbx hbz
          generalize look (subB (B.map (·.1))) y.1.1 = x at *
          generalize look (subB (B.map (·.1))) y.2.1 = z at *
          go_upto_region 7 with fail
          go_cut [7] (fun v7 wy => PairsAt wX (w.heap.size + 2) v7 R ∧ wy = wc)
          case first =>
            have hc0 : (1 : Int) ≤ (R.length : Int) + 1 := by omega
            have hc2 : (R.length : Int) + 1 ≤ (c' : Int) := by omega
            by_cases hc1 : c' = 1
            · subst hc1
              obtain rfl : R = [] := List.eq_nil_of_length_eq_zero (by omega)
              go_wp2_with fail
              all_goals
                go_meet
                exact ⟨PairsAt.tail HCAP.out.1 HCAP.out.2 HGX.out.1 HGX.out.2 HCX.out (a := some ⟨g', o', none⟩) (.inl ⟨rfl, by simp⟩), rfl⟩
            · go_wp2_with fail
              all_goals
                go_meet
                exact ⟨PairsAt.tail HCAP.out.1 HCAP.out.2 HGX.out.1 HGX.out.2 HCX.out (.inr rfl), rfl⟩
          case rest =>
            obtain ⟨hpt, rfl⟩ := hcut
            have HPT := Lib.hid hpt
            have HPD := Lib.hid (hpt.keep HBL.out.size fun b _ hb => HBL.out.block b hb)
            clear hpt HCX HGX HCAP HGB HCEL
            by_cases hv : x.var ≠ 0
            · -- FIRST-BEGIN
              have hv1 : (x.var != 0) = true := by rw [bne_iff_ne]; exact hv
              have hv2 : (x.var == 0) = false := by rw [beq_eq_false_iff_ne]; exact hv
              by_cases hvy : x.var = z.var
              · have hvy1 : (x.var == z.var) = true := by rw [beq_iff_eq]; exact hvy
                have HM1 : Hid (meetR (subB (B0.map (·.1))) f [(s, t)] = meetR (subB (B.map (·.1))) k ([] ++ R.map fun p => (p.1.1, p.2.1))) := Lib.hid (HMS.out.2 _ _ _ _ (pairStepR_same hv hvy))
                clear hv hvy
                go_wp2_with fail
                go_roundg k
                case measure => omega
                case rel => exact ⟨B, [] ++ R, HR.out.next TR.out S2.out (Nat.le_refl _) HR.out.fb HR.out.bl (N := []) HM1.out (fun p hp => by cases hp) (fun p hp => by cases hp) (Nat.zero_le _) HPD.out⟩
              · have hvy1 : (x.var == z.var) = false := by rw [beq_eq_false_iff_ne]; exact hvy
                have HST : Hid (pairStepR (subB (B.map (·.1))) k x z = bindStepR (subB (B.map (·.1))) x.var z k) := Lib.hid (pairStepR_x hv hvy)
                have HVX : Hid (x.var ≠ 0) := Lib.hid hv
                have HEX2 := HEX; have HFXX := HFX; have HFZ := HFY; have HEZ := HEY; have HNV : Hid (z.var ≠ x.var) := Lib.hid (fun e => hvy e.symm); have HMD := HMID; have SD := S2; have TD := T2; have TRD := TR
                clear hv hvy
                have HW := Lib.hid (WithinW (f := k) (by omega) SD.out HR.out.fb (v := x.var) HVX.out HMD.out.fy HMD.out.ty HFZ.out)
                have hq0 := HMD.out.bx.c0; have hq1 := HMD.out.bx.c1; have hq2 := HMD.out.bx.c2
                have hp0 := HMD.out.bz.c0; have hp1 := HMD.out.bz.c1; have hp2 := HMD.out.bz.c2
                have hxn : (x.var != 0) = true := by rw [bne_iff_ne]; exact HVX.out
                have HLE := Lib.hid (within_le (subB (B.map (·.1))) x.var k [z])
                have HBS : Hid (pairStepR (subB (B.map (·.1))) k x z = match within (subB (B.map (·.1))) x.var k [z] with | .yes f' => .done (.no (subB (B.map (·.1))) [] f') | .many => .done (.many (subB (B.map (·.1))) []) | .no f' => .go (upd (subB (B.map (·.1))) x.var z) [] (min f' k) []) := Lib.hid HST.out
                generalize within (subB (B.map (·.1))) x.var k [z] = oo at *
                cases oo with
                | yes f' =>
                  go_wp2_with (go_at_call 105; refine HW.out.mono ?_; rintro e w4 ⟨ht4, rfl, hs4⟩; have HT4 := Lib.hid ht4; have HS4 := Lib.hid hs4; clear ht4 hs4)
                  go_ret
                  rw [HMS.out.1 _ HBS.out]
                  exact ⟨TD.out.trans (HT4.out.mono fun _ _ e => .inl e), B, HR.out.bl, HR.out.fb, rfl, HS4.out, rfl⟩
                | many =>
                  go_wp2_with (go_at_call 105; refine HW.out.mono ?_; rintro e w4 ⟨ht4, rfl, hs4⟩; have HT4 := Lib.hid ht4; have HS4 := Lib.hid hs4; clear ht4 hs4)
                  go_ret
                  rw [HMS.out.1 _ HBS.out]
                  exact ⟨TD.out.trans (HT4.out.mono fun _ _ e => .inl e), B, HR.out.bl, HR.out.fb, rfl, HS4.out, rfl⟩
                | no f' =>
                  have hle : f' ≤ k := HLE.out.2 f' rfl
                  obtain ⟨i, hi⟩ : ∃ i : Nat, (i : Int) = x.var := ⟨x.var.toNat, by have := HFXX.out.pos; omega⟩
                  have hin : x.var.toNat = i := by omega
                  have hilt : i < B.length := by have := HFXX.out.pos; omega
                  have hi0 : (0 : Int) ≤ x.var := by omega
                  have hi1 : x.var < (B.length : Int) := by omega
                  have HNE : Hid (bx ≠ rs ∧ bz ≠ rs ∧ bx ≠ g ∧ bz ≠ g) := Lib.hid (by have := HBX.out; have := S1.out.lt; omega)
                  have HTX : Hid (Touch (StR rs) wc wc) := Lib.hid (Touch.refl _ _)
                  go_wp2_with (go_at_call 105; refine HW.out.mono ?_; rintro e w4 ⟨ht4, rfl, hs4⟩; have hb4 := HMD.out.bx.keep (ht4.block _ HMD.out.bx.lt HNE.out.1); have hz4 := HMD.out.bz.keep (ht4.block _ HMD.out.bz.lt HNE.out.2.1); have k0 := hb4.c0; have z0 := hz4.c0; have z1 := hz4.c1; have z2 := hz4.c2; have c4 := hs4.cells.1; have fg := hs4.cells.2.2.2; obtain ⟨e0, e1, e2, -, -⟩ := hs4.elem i hilt; have HT4 := Lib.hid ht4; have HS4 := Lib.hid hs4; clear ht4 hs4 hb4 hz4)
                  go_region
                  all_goals
                    go_wp2_with fail
                    go_roundg f'
                    case measure => omega
                    case rel => exact ⟨_, _, HR.out.bound H.out.lt TRD.out HT4.out HS4.out hle hi hilt HVX.out HEX2.out HFZ.out HEZ.out HNV.out HMD.out.fy HMD.out.ty (fun b hb => (S1.out.okb b hb).2.1) (HMS.out.2 _ _ _ _ HBS.out) HPD.out⟩
              -- FIRST-END
            · have hv0 : x.var = 0 := Decidable.of_not_not hv
              have hv1 : (x.var != 0) = false := by rw [hv0]; rfl
              have hv2 : (x.var == 0) = true := by rw [hv0]; rfl
              by_cases hvy : z.var ≠ 0
              · -- FIRST-BEGIN
                have hvy1 : (z.var != 0) = true := by rw [bne_iff_ne]; exact hvy
                have HST : Hid (pairStepR (subB (B.map (·.1))) k x z = bindStepR (subB (B.map (·.1))) z.var x k) := Lib.hid (pairStepR_y hv0 hvy)
                have HVX : Hid (z.var ≠ 0) := Lib.hid hvy
                have HNV : Hid (x.var ≠ z.var) := Lib.hid (by rw [hv0]; exact fun e => hvy e.symm)
                have HFXX := HFY; have HFZ := HFX; have HEZ := HEX; have HEX2 := HEY
                have HOK : Hid (∀ b, ok b → b < wX.heap.size) := Lib.hid (fun b hb => (S1.out.okb b hb).1)
                have HNX := Lib.hid hne2
                clear hv hvy hv0 HPD
                obtain ⟨wo, rfl⟩ : ∃ wo : World, wo = wc := ⟨_, rfl⟩
                go_upto_region 10 with fail
                go_cut [] (fun wy => Mid wX ok bx bz z x a2' a1' c2' c1' wy)
                case first =>
                  go_wp2_with fail
                  go_meet
                  exact HMID.out.swap HNX.out HBX.out.1 HBX.out.2 HOK.out
                case rest =>
                have HMD := Lib.hid hcut
                have SD := Lib.hid (S1.out.keep hcut.below)
                have TD := Lib.hid (T1.out.trans (Touch.below (M := StRG rs g) hcut.below))
                have TRD := Lib.hid ((TX.out.mono (M' := StRG rs g) fun _ _ e => .inl e).trans (Touch.below hcut.below))
                have HPD := Lib.hid (HPT.out.keep hcut.below.size fun b _ hb => hcut.below.block b hb)
                clear hcut q0 q1 q2 qf p0 p1 p2 pf hsz1 hsz2 hv1 hv2
                have HW := Lib.hid (WithinW (f := k) (by omega) SD.out HR.out.fb (v := z.var) HVX.out HMD.out.fy HMD.out.ty HFZ.out)
                have hq0 := HMD.out.bx.c0; have hq1 := HMD.out.bx.c1; have hq2 := HMD.out.bx.c2
                have hp0 := HMD.out.bz.c0; have hp1 := HMD.out.bz.c1; have hp2 := HMD.out.bz.c2
                have hxn : (z.var != 0) = true := by rw [bne_iff_ne]; exact HVX.out
                have HLE := Lib.hid (within_le (subB (B.map (·.1))) z.var k [x])
                have HBS : Hid (pairStepR (subB (B.map (·.1))) k x z = match within (subB (B.map (·.1))) z.var k [x] with | .yes f' => .done (.no (subB (B.map (·.1))) [] f') | .many => .done (.many (subB (B.map (·.1))) []) | .no f' => .go (upd (subB (B.map (·.1))) z.var x) [] (min f' k) []) := Lib.hid HST.out
                generalize within (subB (B.map (·.1))) z.var k [x] = oo at *
                cases oo with
                | yes f' =>
                  go_wp2_with (go_at_call 105; refine HW.out.mono ?_; rintro e w4 ⟨ht4, rfl, hs4⟩; have HT4 := Lib.hid ht4; have HS4 := Lib.hid hs4; clear ht4 hs4)
                  go_ret
                  rw [HMS.out.1 _ HBS.out]
                  exact ⟨TD.out.trans (HT4.out.mono fun _ _ e => .inl e), B, HR.out.bl, HR.out.fb, rfl, HS4.out, rfl⟩
                | many =>
                  go_wp2_with (go_at_call 105; refine HW.out.mono ?_; rintro e w4 ⟨ht4, rfl, hs4⟩; have HT4 := Lib.hid ht4; have HS4 := Lib.hid hs4; clear ht4 hs4)
                  go_ret
                  rw [HMS.out.1 _ HBS.out]
                  exact ⟨TD.out.trans (HT4.out.mono fun _ _ e => .inl e), B, HR.out.bl, HR.out.fb, rfl, HS4.out, rfl⟩
                | no f' =>
                  have hle : f' ≤ k := HLE.out.2 f' rfl
                  obtain ⟨i, hi⟩ : ∃ i : Nat, (i : Int) = z.var := ⟨z.var.toNat, by have := HFXX.out.pos; omega⟩
                  have hin : z.var.toNat = i := by omega
                  have hilt : i < B.length := by have := HFXX.out.pos; omega
                  have hi0 : (0 : Int) ≤ z.var := by omega
                  have hi1 : z.var < (B.length : Int) := by omega
                  have HNE : Hid (bx ≠ rs ∧ bz ≠ rs ∧ bx ≠ g ∧ bz ≠ g) := Lib.hid (by have := HBX.out; have := S1.out.lt; omega)
                  have HTX : Hid (Touch (StR rs) wc wc) := Lib.hid (Touch.refl _ _)
                  go_wp2_with (go_at_call 105; refine HW.out.mono ?_; rintro e w4 ⟨ht4, rfl, hs4⟩; have hb4 := HMD.out.bx.keep (ht4.block _ HMD.out.bx.lt HNE.out.1); have hz4 := HMD.out.bz.keep (ht4.block _ HMD.out.bz.lt HNE.out.2.1); have k0 := hb4.c0; have z0 := hz4.c0; have z1 := hz4.c1; have z2 := hz4.c2; have c4 := hs4.cells.1; have fg := hs4.cells.2.2.2; obtain ⟨e0, e1, e2, -, -⟩ := hs4.elem i hilt; have HT4 := Lib.hid ht4; have HS4 := Lib.hid hs4; clear ht4 hs4 hb4 hz4)
                  go_region
                  all_goals
                    go_wp2_with fail
                    go_roundg f'
                    case measure => omega
                    case rel => exact ⟨_, _, HR.out.bound H.out.lt TRD.out HT4.out HS4.out hle hi hilt HVX.out HEX2.out HFZ.out HEZ.out HNV.out HMD.out.fy HMD.out.ty (fun b hb => (S1.out.okb b hb).2.1) (HMS.out.2 _ _ _ _ HBS.out) HPD.out⟩
                -- FIRST-END
              · have hz0 : z.var = 0 := Decidable.of_not_not hvy
                have hz1 : (z.var != 0) = false := by rw [hz0]; rfl
                by_cases hm : x.name ≠ z.name ∨ x.args.length ≠ z.args.length
                · have HO := Lib.hid (HMS.out.1 _ (pairStepR_no hv0 hz0 hm))
                  have h3 := name_or hm
                  clear hv hvy hm hv0 hz0
                  rcases h3 with h3 | ⟨h3, h4⟩
                  all_goals
                    go_wp2_with fail
                    go_ret
                    rw [HO.out]
                    exact ⟨T2.out, B, HR.out.bl, HR.out.fb, rfl, S2.out, rfl⟩
                · have HST := Lib.hid (HMS.out.2 _ _ _ _ (pairStepR_args hv0 hz0 hm))
                  have hnm : x.name.toList = z.name.toList := by rw [show x.name = z.name from Decidable.of_not_not fun h => hm (.inl h)]
                  have hln : x.args.length = z.args.length := Decidable.of_not_not fun h => hm (.inr h)
                  have h3 : ((x.args.length : Int) != (z.args.length : Int)) = false := by rw [hln]; simp
                  have HLN := Lib.hid hln
                  have HFA : Hid (∀ b, ok b → b < wc.heap.size) := Lib.hid (fun b hb => (S2.out.okb b hb).1)
                  clear hv hvy hm hv0 hz0 hln
                  obtain ⟨wo, rfl⟩ : ∃ wo : World, wo = wc := ⟨_, rfl⟩
                  obtain ⟨wq, rfl⟩ : ∃ wq : World, wq = wr := ⟨_, rfl⟩
                  go_wp2_with fail
                  go_loopw [11, 12] (fun v11 v12 wr2 => ∃ (i : Nat) (L2 : List (TmAt × TmAt)), i ≤ x.args.length ∧ v12 = .int .i64 i ∧ MoreRel wo ok x.args z.args i L2 v11 wr2) (fun _ v12 _ => x.args.length - (intOf v12).toNat)
                  case atStart => exact ⟨0, [], Nat.zero_le _, rfl, ⟨rfl, rfl, World.ownsRow_nil _ _ _ _, (fun p hp => by cases hp), Below.refl _ _⟩⟩
                  case round =>
                    obtain ⟨i, L2, hi, rfl, hmr⟩ := hrel
                    have HMR := Lib.hid hmr
                    have hbx2 := HMID.out.bx.below hmr.below; have hbz2 := HMID.out.bz.below hmr.below
                    have z2 := hbx2.c2; have w2 := hbz2.c2
                    have hxl : x.args.length ≤ 9223372036854775807 := by have := HMID.out.tx.cap; unfold maxLen at this; omega
                    clear hmr
                    by_cases hlt : i < x.args.length
                    · have hlt2 : i < z.args.length := by rw [← HLN.out]; exact hlt
                      obtain ⟨g1, o1, d1, e1, rfl, hok1, hs1, hc1, ht1⟩ := HMID.out.tx.at i hlt
                      obtain ⟨g2, o2, d2, e2, rfl, hok2, hs2, hc2, ht2⟩ := HMID.out.ty.at i hlt2
                      have m0 := (HMR.out.below.cell (p := ⟨g1, o1 + i * 3, none⟩) hs1).trans hc1.var
                      have m1 := (HMR.out.below.cell (p := ⟨g1, o1 + i * 3 + 1, none⟩) hs1).trans hc1.name
                      have m2 := (HMR.out.below.cell (p := ⟨g1, o1 + i * 3 + 2, none⟩) hs1).trans hc1.args
                      have n0 := (HMR.out.below.cell (p := ⟨g2, o2 + i * 3, none⟩) hs2).trans hc2.var
                      have n1 := (HMR.out.below.cell (p := ⟨g2, o2 + i * 3 + 1, none⟩) hs2).trans hc2.name
                      have n2 := (HMR.out.below.cell (p := ⟨g2, o2 + i * 3 + 2, none⟩) hs2).trans hc2.args
                      have hi0 : (0 : Int) ≤ (i : Int) := by omega
                      have hi1 : (i : Int) < (x.args.length : Int) := by omega
                      have hi2 : (i : Int) < (z.args.length : Int) := by omega
                      have HF1 := Lib.hid hc1.fits; have HF2 := Lib.hid hc2.fits; have HT1' := Lib.hid ht1; have HT2' := Lib.hid ht2
                      have KL : ∀ (b o : Nat) (v : Value), wo.cell? ⟨b, o, none⟩ = some v → ∀ u, Below wo.heap.size wo u → u.cell? ⟨b, o, none⟩ = some v := fun b o v h u hb => (hb.cell (World.block_lt_of_cell? wo _ h)).trans h
                      have KH : Hid (∀ u, Below wo.heap.size wo u → u.cell? ⟨bx, 2, none⟩ = some (.slice (some ⟨g1, o1, none⟩) x.args.length c1') ∧ u.cell? ⟨bz, 2, none⟩ = some (.slice (some ⟨g2, o2, none⟩) z.args.length c2') ∧
                          u.cell? ⟨g1, o1 + i * 3, none⟩ = some (.int .i64 x.args[i].var) ∧ u.cell? ⟨g1, o1 + i * 3 + 1, none⟩ = some (.string x.args[i].name) ∧ u.cell? ⟨g1, o1 + i * 3 + 2, none⟩ = some (.slice d1 x.args[i].args.length e1) ∧
                          u.cell? ⟨g2, o2 + i * 3, none⟩ = some (.int .i64 z.args[i].var) ∧ u.cell? ⟨g2, o2 + i * 3 + 1, none⟩ = some (.string z.args[i].name) ∧ u.cell? ⟨g2, o2 + i * 3 + 2, none⟩ = some (.slice d2 z.args[i].args.length e2) ∧ Below wo.heap.size wo u) :=
                        Lib.hid fun u hb => ⟨KL _ _ _ HMID.out.bx.c2 u hb, KL _ _ _ HMID.out.bz.c2 u hb, KL _ _ _ hc1.var u hb, KL _ _ _ hc1.name u hb, KL _ _ _ hc1.args u hb, KL _ _ _ hc2.var u hb, KL _ _ _ hc2.name u hb, KL _ _ _ hc2.args u hb, hb⟩
                      have HB := Lib.hid HMR.out.below
                      clear hc1 hc2 ht1 ht2 KL
                      obtain ⟨i0, zv, hi', hz0', hz1', hz2', hz3'⟩ := infoPr
                      have hil : i ≤ 100000 := by have := HFX.out.len; omega
                      have HOWN : Hid ((wr.alloc (.cells #[.int .i64 x.args[i].var, .string x.args[i].name, .slice d1 x.args[i].args.length e1, .int .i64 z.args[i].var, .string z.args[i].name, .slice d2 z.args[i].args.length e2] 162)).drew.ownsRow wo.heap.size 162 6 u11 L2.length (flat2 L2)) := Lib.hid (HMR.out.row.alloc _)
                      have HNW : Hid (∀ j u, (flat [(x.args[i], d1, e1), (z.args[i], d2, e2)])[j]? = some u → (wr.alloc (.cells #[.int .i64 x.args[i].var, .string x.args[i].name, .slice d1 x.args[i].args.length e1, .int .i64 z.args[i].var, .string z.args[i].name, .slice d2 z.args[i].args.length e2] 162)).drew.cell? ((⟨wr.heap.size, 0, none⟩ : Addr).add j) = some u) := Lib.hid (by
                        have ho := World.ownsRow_lit (base := wr.heap.size) (e := 162) (size := 6) wr #[.int .i64 x.args[i].var, .string x.args[i].name, .slice d1 x.args[i].args.length e1, .int .i64 z.args[i].var, .string z.args[i].name, .slice d2 z.args[i].args.length e2] 1 (Nat.le_refl _) (by unfold maxLen; omega) rfl
                        exact ho.cells (g := wr.heap.size) rfl)
                      have hLl := HMR.out.len
                      go_wp2_with fail
                      go_region_held3 (fun u => u.cell? ⟨bx, 2, none⟩ = some (.slice (some ⟨g1, o1, none⟩) x.args.length c1') ∧ u.cell? ⟨bz, 2, none⟩ = some (.slice (some ⟨g2, o2, none⟩) z.args.length c2') ∧
                          u.cell? ⟨g1, o1 + i * 3, none⟩ = some (.int .i64 x.args[i].var) ∧ u.cell? ⟨g1, o1 + i * 3 + 1, none⟩ = some (.string x.args[i].name) ∧ u.cell? ⟨g1, o1 + i * 3 + 2, none⟩ = some (.slice d1 x.args[i].args.length e1) ∧
                          u.cell? ⟨g2, o2 + i * 3, none⟩ = some (.int .i64 z.args[i].var) ∧ u.cell? ⟨g2, o2 + i * 3 + 1, none⟩ = some (.string z.args[i].name) ∧ u.cell? ⟨g2, o2 + i * 3 + 2, none⟩ = some (.slice d2 z.args[i].args.length e2) ∧ Below wo.heap.size wo u)
                        (first
                          | (with_reducible assumption)
                          | (with_reducible exact KH.out _ hbl1)
                          | ((with_reducible refine KH.out _ ?_); repeat' (first | (with_reducible assumption) | (with_reducible exact HB.out) | (with_reducible refine Below.alloc ?_ HB.out.size _) | (with_reducible refine Below.drew ?_))))
                        (first
                          | (refine step_append_opt _ (by rfl) _ _ _ (by rfl) wo.heap.size 162 i0 zv 6 96 Try.underlying163 hi' hz0' hz1' hz2' hz3' (by decide) u11 L2.length (flat2 L2) (by rfl) HOWN.out (some ⟨wr.heap.size, 0, none⟩) 1 1 (by intro h; cases h) (flat [(x.args[i], d1, e1), (z.args[i], d2, e2)]) (by rfl) (by rw [flat_length]; rfl) (by intro ad had; cases had; exact HNW.out) (flat_one _) (by unfold maxLen; omega) (by omega) (by have := HMR.out.below.size; simp; omega) ?_
                             intro v1 w1 hown1 hgrow1 hfr1
                             have hbl1 : Below wo.heap.size wo w1 := ((HB.out.alloc HB.out.size _).drew).grown hgrow1 (by have := HB.out.size; simp; omega) (fun gg hg => (HOWN.out.lt gg hg).1)))
                      all_goals
                        have hnx := Lib.hid (HMR.out.next HFA.out hlt hlt2 HF1.out HF2.out HT1'.out HT2'.out hown1 hgrow1 hbl1 (by have := hgrow1.size; simp at this; omega))
                        go_wp2_with fail
                        go_roundw
                        case rel => exact ⟨i + 1, _, by omega, by go_num, hnx.out⟩
                        case measure => simp [intOf]; omega
                    · obtain ⟨ap, cp, rfl, hcp⟩ := HPT.out.form
                      obtain ⟨hs1, hs2⟩ := HPT.out.src (Below.up HBL.out HMR.out.below HBL.out.size)
                      have HS1 := Lib.hid hs1; have HS2 := Lib.hid hs2
                      obtain ⟨i0, zv, hi', hz0', hz1', hz2', hz3'⟩ := infoPr
                      have hLl := HMR.out.len
                      have hil : i ≤ 100000 := by have := HFX.out.len; omega
                      have HOWN := Lib.hid HMR.out.row
                      have HM1 : Hid (meetR (subB (B0.map (·.1))) f [(s, t)] = meetR (subB (B.map (·.1))) k (L2.map (fun p => (p.1.1, p.2.1)) ++ R.map fun p => (p.1.1, p.2.1))) := Lib.hid (by
                        rw [HST.out, HMR.out.list, List.take_of_length_le (by rw [List.length_zip]; omega)])
                      clear hs1 hs2
                      go_wp2_with (at_builtin; refine wpList_append_opt _ rfl _ _ 163 rfl wo.heap.size 162 i0 zv 6 96 Try.underlying163 hi' hz0' hz1' hz2' hz3' (by decide) _ _ _ rfl HOWN.out ap R.length cp HS1.out (flat2 R) rfl (flat2_length R) HS2.out (flat2_one R) ?c1 ?c2 ?c3 ?_)
                      · unfold maxLen; omega
                      · omega
                      · exact HMR.out.below.size
                      · intro v1 w1 hown1 hgrow1 _
                        have hbl1 : Below wo.heap.size wo w1 := HMR.out.below.grown hgrow1 HMR.out.below.size (fun gg hg => (HOWN.out.lt gg hg).1)
                        have HB1 := Lib.hid hbl1; have HO1 := Lib.hid hown1; have HG1 := Lib.hid hgrow1
                        clear hbl1 hown1 hgrow1
                        go_wp2_with fail
                        go_roundg k
                        case measure => omega
                        case rel => exact ⟨B, L2 ++ R, HR.out.next (TR.out.trans (Touch.below HB1.out)) (S2.out.keep HB1.out) (Nat.le_refl _) HR.out.fb HR.out.bl HM1.out (HMR.out.after HFA.out HB1.out HG1.out.size) (HMR.out.fits HFX.out HFY.out HR.out.bl) (by omega) (PairsAt.of_row (L := L2 ++ R) (by
                          rw [List.length_append, HMR.out.len, flat2_append]
                          have hr := HO1.out
                          refine ⟨hr.1, hr.2.imp id ?_⟩
                          rintro ⟨gg, cc, cur, h1, h2, h3⟩
                          exact ⟨gg, cc, cur, h1, by have := HR.out.size; have := TR.out.size; omega, h3⟩))⟩

end Go.Proofs.Ytikmgiapjigghaa.Emb

/- Plain: terms through and through; what Unify answers, the program's and the reference's way, is the same. -/
namespace Go.Proofs.Ytikmgiapjigghaa
open Go.RowKit

/-- Terms through and through, at most so many parts; how many parts may come still. -/
noncomputable def thrL (σ : Sub) (m : Nat) (l : List Tm) : Option (List Tm × Nat) :=
  match m, l with
  | m, [] => some ([], m)
  | 0, _ :: _ => none
  | m + 1, t :: r =>
    if (look σ t).var ≠ 0 then
      match thrL σ m r with
      | some x => some (VarT (look σ t).var :: x.1, x.2)
      | none => none
    else
      match thrL σ m (look σ t).args with
      | none => none
      | some y =>
        have : min y.2 m < m + 1 := by omega
        match thrL σ (min y.2 m) r with
        | some x => some (.mk 0 (look σ t).name y.1 :: x.1, x.2)
        | none => none
termination_by m

theorem thrL_nil (σ : Sub) (m : Nat) : thrL σ m [] = some ([], m) := by unfold thrL; rfl
theorem thrL_zero (σ : Sub) (t : Tm) (r : List Tm) : thrL σ 0 (t :: r) = none := by unfold thrL; rfl
theorem thrL_var {σ : Sub} {t : Tm} (h : (look σ t).var ≠ 0) (m : Nat) (r : List Tm) : thrL σ (m + 1) (t :: r) = (thrL σ m r).map fun x => (VarT (look σ t).var :: x.1, x.2) := by
  conv => lhs; unfold thrL
  simp only [if_pos h]
  cases thrL σ m r <;> rfl
theorem thrL_fn0 {σ : Sub} {t : Tm} (h : (look σ t).var = 0) (m : Nat) (r : List Tm) : thrL σ (m + 1) (t :: r) = (thrL σ m (look σ t).args).bind fun y => (thrL σ (min y.2 m) r).map fun x => (.mk 0 (look σ t).name y.1 :: x.1, x.2) := by
  conv => lhs; unfold thrL
  simp only [h, ne_eq, not_true_eq_false, if_false]
  cases thrL σ m (look σ t).args with
  | none => rfl
  | some y =>
    simp only [Option.bind_some]
    cases thrL σ (min y.2 m) r <;> rfl

theorem thrL_le {σ : Sub} : ∀ (m : Nat) (l : List Tm) (x : List Tm × Nat), thrL σ m l = some x → x.2 ≤ m ∧ x.1.length = l.length := by
  intro m
  induction m using Nat.strongRecOn with
  | _ m ih =>
  intro l x h
  cases l with
  | nil => rw [thrL_nil] at h; cases h; exact ⟨Nat.le_refl _, rfl⟩
  | cons t r =>
    cases m with
    | zero => rw [thrL_zero] at h; cases h
    | succ m =>
      by_cases hv : (look σ t).var = 0
      · rw [thrL_fn0 hv] at h
        obtain ⟨y, hy, h2⟩ := Option.bind_eq_some_iff.1 h
        obtain ⟨z, hz, rfl⟩ := Option.map_eq_some_iff.1 h2
        have := ih (min y.2 m) (by omega) r z hz
        exact ⟨by simp only; omega, by simp only [List.length_cons]; omega⟩
      · rw [thrL_var hv] at h
        obtain ⟨z, hz, rfl⟩ := Option.map_eq_some_iff.1 h
        have := ih m (by omega) r z hz
        exact ⟨by simp only; omega, by simp only [List.length_cons]; omega⟩

theorem thrL_fn {σ : Sub} {t : Tm} (h : (look σ t).var = 0) (m : Nat) (r : List Tm) : thrL σ (m + 1) (t :: r) = (thrL σ m (look σ t).args).bind fun y => (thrL σ y.2 r).map fun x => (.mk 0 (look σ t).name y.1 :: x.1, x.2) := by
  rw [thrL_fn0 h]
  cases hy : thrL σ m (look σ t).args with
  | none => rfl
  | some y =>
    have := (thrL_le _ _ _ hy).1
    simp only [Option.bind_some]
    rw [Nat.min_eq_left this]

theorem thrL_append {σ : Sub} : ∀ (l : List Tm) (m : Nat) (r : List Tm), thrL σ m (l ++ r) = (thrL σ m l).bind fun x => (thrL σ x.2 r).map fun y => (x.1 ++ y.1, y.2) := by
  intro l
  induction l with
  | nil => intro m r; rw [List.nil_append, thrL_nil]; simp only [Option.bind_some, List.nil_append]; cases thrL σ m r <;> rfl
  | cons t l ih =>
    intro m r
    rw [List.cons_append]
    cases m with
    | zero => rw [thrL_zero, thrL_zero]; rfl
    | succ m =>
      by_cases hv : (look σ t).var = 0
      · rw [thrL_fn hv, thrL_fn hv]
        cases thrL σ m (look σ t).args with
        | none => rfl
        | some y =>
          simp only [Option.bind_some, ih]
          cases thrL σ y.2 l with
          | none => rfl
          | some z =>
            simp only [Option.bind_some, Option.map_some]
            cases thrL σ z.2 r <;> rfl
      · rw [thrL_var hv, thrL_var hv, ih]
        cases thrL σ m l with
        | none => rfl
        | some z =>
          simp only [Option.bind_some, Option.map_some]
          cases thrL σ z.2 r <;> rfl

/-- One after the other. -/
theorem thrL_cons {σ : Sub} (t : Tm) (m : Nat) (r : List Tm) : thrL σ m (t :: r) = (thrL σ m [t]).bind fun x => (thrL σ x.2 r).map fun y => (x.1 ++ y.1, y.2) := by
  rw [← thrL_append, List.singleton_append]

mutual
/-- A term with its variables by a function. -/
def Tm.mapv (g : Int → Int) : Tm → Tm
  | .mk v n l => if v ≠ 0 then VarT (g v) else .mk 0 n (Tm.mapvs g l)
def Tm.mapvs (g : Int → Int) : List Tm → List Tm
  | [] => []
  | t :: r => t.mapv g :: Tm.mapvs g r
end
theorem Tm.mapvs_eq (g : Int → Int) (l : List Tm) : Tm.mapvs g l = l.map (Tm.mapv g) := by
  induction l with
  | nil => rfl
  | cons t r ih => rw [Tm.mapvs, ih]; rfl
theorem Tm.mapv_var {g : Int → Int} {t : Tm} (h : t.var ≠ 0) : t.mapv g = VarT (g t.var) := by
  cases t; simp only [Tm.var] at h; simp only [Tm.mapv, if_pos h, Tm.var]
theorem Tm.mapv_fn {g : Int → Int} {t : Tm} (h : t.var = 0) : t.mapv g = .mk 0 t.name (t.args.map (Tm.mapv g)) := by
  cases t; simp only [Tm.var] at h; subst h
  simp only [Tm.mapv, Tm.name, Tm.args, Tm.mapvs_eq]; rfl

theorem thrL_sim {σ τ : Sub} (h : Sim σ τ) {n : Nat} (hd : ∀ v u, τ v = some u → Fit n u) (g : Int → Int) (hg : ∀ w : Int, 1 ≤ w → w.toNat < n → (look σ (VarT w)).var ≠ 0 → g (look τ (VarT w)).var = (look σ (VarT w)).var) :
    ∀ (m : Nat) (l : List Tm), (∀ t ∈ l, Fit n t) → thrL σ m l = (thrL τ m l).map fun x => (x.1.map (Tm.mapv g), x.2) := by
  intro m
  induction m using Nat.strongRecOn with
  | _ m ih =>
  intro l hl
  cases l with
  | nil => rw [thrL_nil, thrL_nil]; rfl
  | cons t r =>
    have ht := hl t List.mem_cons_self
    have hr : ∀ t ∈ r, Fit n t := fun x hx => hl x (List.mem_cons_of_mem _ hx)
    have hlk : Fit n (look τ t) := by
      obtain ⟨k, hk⟩ := look_spec h.inv'.rank.ends t
      generalize look τ t = u at *
      clear hl
      induction k generalizing t with
      | zero => obtain ⟨rfl, _⟩ := hk; exact ht
      | succ k ihk => obtain ⟨_, t', h1, h2⟩ := hk; exact ihk t' (hd _ _ h1) h2
    cases m with
    | zero => rw [thrL_zero, thrL_zero]; rfl
    | succ m =>
      by_cases hv : (look σ t).var = 0
      · have e := h.fn ht.wf hv
        have hv2 : (look τ t).var = 0 := by rw [e]; exact hv
        rw [thrL_fn hv, thrL_fn hv2, ← e, ih m (by omega) _ (fun x hx => hlk.arg hx)]
        cases hy : thrL τ m (look τ t).args with
        | none => rfl
        | some y =>
          have := (thrL_le _ _ _ hy).1
          simp only [Option.bind_some, Option.map_some]
          rw [ih y.2 (by omega) r hr]
          cases thrL τ y.2 r with
          | none => rfl
          | some z => simp only [Option.map_some, List.map_cons]; rw [Tm.mapv_fn (by rfl)]; rfl
      · obtain ⟨h1, h2, h3, h4⟩ := h.var ht.wf hv
        rw [thrL_var hv, thrL_var h2, ih m (by omega) r hr]
        have hp := ht.pos
        have : g (look τ t).var = (look σ t).var := by
          rw [h3, h4]; exact hg _ (by omega) hp.2 (by rw [← h3]; exact hv)
        cases thrL τ m r with
        | none => rfl
        | some z => simp only [Option.map_some, List.map_cons]; rw [Tm.mapv_var (show (VarT (look τ t).var).var ≠ 0 from h2), ← this]; rfl

/-- What the first variables are, through and through. -/
noncomputable def outs (σ : Sub) : Nat → Option (List Tm)
  | 0 => some []
  | n + 1 => (outs σ n).bind fun l => (thrL σ 200 [VarT ((n : Int) + 1)]).map fun x => l ++ x.1

/-- The numbers that the reference gives: the least variable of each class speaks for it. -/
noncomputable def namesR (τ : Sub) : Nat → Int → Int
  | 0 => fun _ => 0
  | n + 1 => fun x => if (look τ (VarT (12 - (n : Int)))).var ≠ 0 ∧ x = (look τ (VarT (12 - (n : Int)))).var then 12 - (n : Int) else namesR τ n x

theorem namesR_least (τ : Sub) (x u : Int) (hx : x ≠ 0) (hu : (look τ (VarT u)).var = x) (hl : ∀ v : Int, 1 ≤ v → v ≤ 12 → (look τ (VarT v)).var = x → u ≤ v) :
    ∀ n : Nat, n ≤ 12 → 12 - (n : Int) < u → u ≤ 12 → namesR τ n x = u := by
  intro n
  induction n with
  | zero => intro _ h1 h2; omega
  | succ n ih =>
    intro hn h1 h2
    simp only [namesR]
    by_cases e : u = 12 - (n : Int)
    · rw [← e, hu, if_pos ⟨hx, rfl⟩]
    · rw [if_neg, ih (by omega) (by omega) h2]
      rintro ⟨_, h3⟩
      have := hl (12 - (n : Int)) (by omega) (by omega) h3.symm
      omega

/-- What Unify answers. -/
inductive UOut where
  | no (work : Nat)
  | many
  | ok (l : List Tm) (work : Nat)

noncomputable def uP (a b : Tm) : UOut :=
  match meet (fun _ => none) [] 4000 [(a, b)] with
  | .no _ _ f => .no (4000 - f)
  | .many _ _ => .many
  | .ok σ _ f => match outs σ 12 with | none => .many | some l => .ok l (4000 - f)

noncomputable def uR (a b : Tm) : UOut :=
  match meetR (fun _ => none) 4000 [(a, b)] with
  | .no _ _ f => .no (4000 - f)
  | .many _ _ => .many
  | .ok τ _ f => match outs τ 12 with | none => .many | some l => .ok (l.map (Tm.mapv (namesR τ 12))) (4000 - f)

theorem fit_var {n : Nat} {v : Int} (h1 : 0 ≤ v) (h2 : v.toNat < n) : Fit n (VarT v) := ⟨WfT.bare h1, fun p hp => by
  simp only [Tm.parts, Tm.partss, List.mem_singleton] at hp; subst hp; exact ⟨h2, by simp [Tm.args]⟩⟩

theorem fit_look {τ : Sub} {n : Nat} (hE : Ends τ) (hd : ∀ v u, τ v = some u → Fit n u) {t : Tm} (ht : Fit n t) : Fit n (look τ t) := by
  obtain ⟨k, hk⟩ := look_spec hE t
  generalize look τ t = u at *
  induction k generalizing t with
  | zero => obtain ⟨rfl, _⟩ := hk; exact ht
  | succ k ihk => obtain ⟨_, t', h1, h2⟩ := hk; exact ihk (hd _ _ h1) h2

theorem upd_dom {τ : Sub} {n : Nat} (hd : ∀ v u, τ v = some u → Fit n u) {k : Int} {x : Tm} (hx : Fit n x) : ∀ v u, upd τ k x v = some u → Fit n u := fun v u h => by
  unfold upd at h
  by_cases e : v = k
  · rw [if_pos e] at h; cases h; exact hx
  · rw [if_neg e] at h; exact hd v u h

theorem pairStepR_dom {τ : Sub} {n : Nat} (hd : ∀ v u, τ v = some u → Fit n u) {x y : Tm} (hx : Fit n x) (hy : Fit n y) {f : Nat} {σ' : Sub} {L' : List Int} {f' : Nat} {m : List (Tm × Tm)} (he : pairStepR τ f x y = .go σ' L' f' m) :
    (∀ v u, σ' v = some u → Fit n u) ∧ ∀ p ∈ m, Fit n p.1 ∧ Fit n p.2 := by
  unfold pairStepR at he
  split at he
  · cases he; exact ⟨hd, fun p hp => by cases hp⟩
  · split at he
    · unfold bindStepR at he
      split at he
      · cases he
      · cases he
      · cases he; exact ⟨upd_dom hd hy, fun p hp => by cases hp⟩
    · split at he
      · unfold bindStepR at he
        split at he
        · cases he
        · cases he
        · cases he; exact ⟨upd_dom hd hx, fun p hp => by cases hp⟩
      · split at he
        · cases he
        · cases he
          exact ⟨hd, fun p hp => ⟨hx.arg (List.of_mem_zip hp).1, hy.arg (List.of_mem_zip hp).2⟩⟩

/-- Where the reference ends well: all is from what was there, and the two stores say the same. -/
theorem meet_both {n : Nat} : ∀ (f : Nat) (σ τ : Sub) (ps : List (Tm × Tm)), Sim σ τ → (∀ v u, τ v = some u → Fit n u) → (∀ p ∈ ps, Fit n p.1 ∧ Fit n p.2) →
    ∀ τ' L' f', meetR τ f ps = .ok τ' L' f' → ∀ v u, τ' v = some u → Fit n u := by
  intro f
  induction f using Nat.strongRecOn with
  | _ f ih =>
  intro σ τ ps h hd hp τ' L' f' he
  cases ps with
  | nil => rw [meetR_nil] at he; cases he; exact hd
  | cons p r =>
    cases f with
    | zero => rw [meetR_zero] at he; cases he
    | succ f =>
      have hs := pairStep_sim h (hp p List.mem_cons_self).1.wf (hp p List.mem_cons_self).2.wf f []
      cases h2 : pairStepR τ f (look τ p.1) (look τ p.2) with
      | done o =>
        rw [meetR_done _ h2] at he
        cases h1 : pairStep σ [] f (look σ p.1) (look σ p.2) with
        | done o' =>
          rw [h1, h2] at hs
          subst he
          unfold pairStepR bindStepR at h2
          split at h2
          · cases h2
          · split at h2
            · split at h2 <;> cases h2
            · split at h2
              · split at h2 <;> cases h2
              · split at h2 <;> cases h2
        | go _ _ _ _ => rw [h1, h2] at hs; exact hs.elim
      | go τ1 L1 f1 m =>
        rw [meetR_go _ h2] at he
        cases h1 : pairStep σ [] f (look σ p.1) (look σ p.2) with
        | done o' => rw [h1, h2] at hs; exact hs.elim
        | go σ1 L2 f2 m2 =>
          rw [h1, h2] at hs
          obtain ⟨rfl, rfl, hs3, hs4⟩ := hs
          have hE := h.inv'.rank.ends
          have hq := hp p List.mem_cons_self
          obtain ⟨d1, d2⟩ := pairStepR_dom hd (fit_look hE hd hq.1) (fit_look hE hd hq.2) h2
          refine ih f2 (Nat.lt_succ_of_le (pairStep_le h1)) σ1 τ1 (m2 ++ r) hs3 d1 (fun q hq => ?_) τ' L' f' he
          rcases List.mem_append.1 hq with h5 | h5
          · exact d2 q h5
          · exact hp q (List.mem_cons_of_mem _ h5)

theorem outs_sim {σ τ : Sub} (h : Sim σ τ) (hlow : Low σ) (hd : ∀ v u, τ v = some u → Fit 13 u) : ∀ n : Nat, n ≤ 12 → outs σ n = (outs τ n).map fun l => l.map (Tm.mapv (namesR τ 12)) := by
  have hg : ∀ w : Int, 1 ≤ w → w.toNat < 13 → (look σ (VarT w)).var ≠ 0 → namesR τ 12 (look τ (VarT w)).var = (look σ (VarT w)).var := by
    intro w hw1 hw2 hx
    have hE := h.inv.rank.ends
    have hle : (look σ (VarT w)).var ≤ w := hlow.look hE (VarT w) hx
    have hp : 0 ≤ (look σ (VarT w)).var := (h.inv.look (WfT.bare (v := w) (by omega))).pos
    have hroot : look σ (VarT (look σ (VarT w)).var) = VarT (look σ (VarT w)).var := look_free (look_root h.inv hx)
    have hx0 : (look σ (VarT (look σ (VarT w)).var)).var ≠ 0 := by rw [hroot]; exact hx
    have hre : (look σ (VarT (look σ (VarT w)).var)).var = (look σ (VarT w)).var := by rw [hroot]; rfl
    refine namesR_least τ _ _ (h.vars w (by omega) hx) ?_ ?_ 12 (Nat.le_refl _) ?_ ?_
    · exact (h.cls (look σ (VarT w)).var w hx (by omega) hx0 hx).1 hre
    · intro v hv1 hv2 he
      have hv0 : (look σ (VarT v)).var ≠ 0 := by
        intro e
        have e2 := h.same v (by omega) e
        rw [e2, e] at he
        exact h.vars w (by omega) hx he.symm
      have := (h.cls v w (by omega) (by omega) hv0 hx).2 he
      have h3 : (look σ (VarT v)).var ≤ v := hlow.look hE (VarT v) hv0
      omega
    · simp; omega
    · omega
  intro n
  induction n with
  | zero => intro _; rfl
  | succ n ih =>
    intro hn
    simp only [outs]
    rw [ih (by omega), thrL_sim h hd _ hg 200 [VarT ((n : Int) + 1)] (fun t ht => by rw [List.mem_singleton] at ht; subst ht; exact fit_var (by omega) (by omega))]
    cases outs τ n with
    | none => rfl
    | some l =>
      simp only [Option.map_some, Option.bind_some]
      cases thrL τ 200 [VarT ((n : Int) + 1)] with
      | none => rfl
      | some x => simp

/-- Both ways to unify answer the same. -/
theorem uP_eq {a b : Tm} (ha : Fit 13 a) (hb : Fit 13 b) : uP a b = uR a b := by
  have hp : ∀ p ∈ [(a, b)], WfT p.1 ∧ WfT p.2 := fun p hp => by rw [List.mem_singleton] at hp; subst hp; exact ⟨ha.wf, hb.wf⟩
  have hp2 : ∀ p ∈ [(a, b)], Fit 13 p.1 ∧ Fit 13 p.2 := fun p hp => by rw [List.mem_singleton] at hp; subst hp; exact ⟨ha, hb⟩
  have hs := meet_sim 4000 _ _ [] _ Sim.start hp
  have hd := meet_both (n := 13) 4000 _ _ _ Sim.start (fun v u h => by cases h) hp2
  have hl := meet_low 4000 (fun _ => none) [] [(a, b)]
  unfold uP uR
  cases h1 : meet (fun _ => none) [] 4000 [(a, b)] with
  | no σ L f =>
    cases h2 : meetR (fun _ => none) 4000 [(a, b)] with
    | no τ L' g => rw [h1, h2] at hs; obtain rfl : f = g := hs; rfl
    | many τ L' => rw [h1, h2] at hs; exact hs.elim
    | ok τ L' g => rw [h1, h2] at hs; exact hs.elim
  | many σ L =>
    cases h2 : meetR (fun _ => none) 4000 [(a, b)] with
    | no τ L' g => rw [h1, h2] at hs; exact hs.elim
    | many τ L' => rfl
    | ok τ L' g => rw [h1, h2] at hs; exact hs.elim
  | ok σ L f =>
    cases h2 : meetR (fun _ => none) 4000 [(a, b)] with
    | no τ L' g => rw [h1, h2] at hs; exact hs.elim
    | many τ L' => rw [h1, h2] at hs; exact hs.elim
    | ok τ L' g =>
      rw [h1, h2] at hs
      obtain ⟨rfl, hs⟩ := hs
      simp only
      rw [outs_sim hs (hl _ _ _ (fun v u h => by cases h) h1) (hd _ _ _ h2) 12 (Nat.le_refl _)]
      cases outs τ 12 <;> rfl

end Go.Proofs.Ytikmgiapjigghaa

/- Plain: variables get numbers as they first stand. -/
namespace Go.Proofs.Ytikmgiapjigghaa

/-- One more that was seen. -/
def addV (s : List Int) (v : Int) : List Int := if v ∈ s then s else s ++ [v]

/-- The number that one gets, and what was seen then. -/
def numV (s : List Int) (v : Int) : Int × List Int := (((addV s v).idxOf v : Int) + 1, addV s v)

/-- What was seen behind parts of terms. -/
def seen (s : List Int) : List Tm → List Int
  | [] => s
  | p :: r => seen (if p.var ≠ 0 then addV s p.var else s) r

theorem seen_append (s : List Int) (l r : List Tm) : seen s (l ++ r) = seen (seen s l) r := by
  induction l generalizing s with
  | nil => rfl
  | cons p l ih => simp only [List.cons_append, seen, ih]

theorem addV_mem (s : List Int) (v : Int) : v ∈ addV s v := by
  unfold addV
  by_cases h : v ∈ s
  · rw [if_pos h]; exact h
  · rw [if_neg h]; simp

theorem addV_pre (s : List Int) (v : Int) : s <+: addV s v := by
  unfold addV
  by_cases h : v ∈ s
  · rw [if_pos h]; exact List.prefix_refl s
  · rw [if_neg h]; exact List.prefix_append s [v]

theorem seen_pre (l : List Tm) : ∀ s, s <+: seen s l := by
  induction l with
  | nil => exact fun s => List.prefix_refl s
  | cons p r ih =>
    intro s
    simp only [seen]
    split
    · exact (addV_pre s p.var).trans (ih _)
    · exact ih s

theorem idx_pre {s s' : List Int} (h : s <+: s') {v : Int} (hv : v ∈ s) : s'.idxOf v = s.idxOf v := by
  obtain ⟨r, rfl⟩ := h
  rw [List.idxOf_append, if_pos hv]

/-- The number of a variable among those that were seen. -/
def numIn (s : List Int) (v : Int) : Int := (s.idxOf v : Int) + 1

theorem ren_num (t : Tm) : ∀ s, WfT t → (Tm.ren numV s t).2 = seen s t.parts ∧ ∀ s', seen s t.parts <+: s' → (Tm.ren numV s t).1 = t.mapv (numIn s') := by
  induction t using Tm.ind with
  | h v n l ih =>
    intro s hw
    have hl : ∀ (r : List Tm) (s : List Int), (∀ x, x ∈ r → x ∈ l) → (Tm.rens numV s r).2 = seen s (Tm.partss r) ∧ ∀ s', seen s (Tm.partss r) <+: s' → (Tm.rens numV s r).1 = r.map (Tm.mapv (numIn s')) := by
      intro r
      induction r with
      | nil => intro s _; exact ⟨rfl, fun _ _ => rfl⟩
      | cons x r ihr =>
        intro s hr
        obtain ⟨h1, h2⟩ := ih x (hr x List.mem_cons_self) s (hw.arg (t := .mk v n l) (hr x List.mem_cons_self))
        obtain ⟨h3, h4⟩ := ihr (seen s x.parts) fun y hy => hr y (List.mem_cons_of_mem _ hy)
        simp only [Tm.rens, Tm.partss, seen_append, h1]
        refine ⟨h3, fun s' hs => ?_⟩
        rw [h4 s' hs, h2 s' ((seen_pre _ _).trans hs)]; rfl
    by_cases hv : v = 0
    · subst hv
      obtain ⟨h1, h2⟩ := hl l s fun x hx => hx
      have hp : seen s (Tm.mk 0 n l).parts = seen s (Tm.partss l) := rfl
      rw [hp]
      simp only [Tm.ren]
      refine ⟨h1, fun s' hs => ?_⟩
      rw [Tm.mapv_fn (t := .mk 0 n l) rfl]
      show Tm.mk 0 n _ = Tm.mk 0 n _
      rw [h2 s' hs]; rfl
    · obtain ⟨ha, hn⟩ := (hw _ (Tm.self_mem _)).2 hv
      simp only [Tm.args, Tm.name] at ha hn
      subst ha; subst hn
      have hp : seen s (Tm.mk v ⟨#[]⟩ []).parts = addV s v := by simp [Tm.parts, Tm.partss, seen, Tm.var, hv]
      rw [hp]
      have hr : Tm.ren numV s (.mk v ⟨#[]⟩ []) = (.mk (numV s v).1 ⟨#[]⟩ [], (numV s v).2) := by simp only [Tm.ren]; rw [if_pos hv]
      rw [hr]
      refine ⟨rfl, fun s' hs => ?_⟩
      rw [Tm.mapv_var (t := .mk v ⟨#[]⟩ []) hv]
      show Tm.mk _ _ _ = Tm.mk _ _ _
      simp only [Tm.var, numV, numIn]
      rw [idx_pre hs (addV_mem s v)]

theorem rens_num (l : List Tm) : ∀ s, (∀ t, t ∈ l → WfT t) → (Tm.rens numV s l).2 = seen s (Tm.partss l) ∧ ∀ s', seen s (Tm.partss l) <+: s' → (Tm.rens numV s l).1 = l.map (Tm.mapv (numIn s')) := by
  induction l with
  | nil => intro s _; exact ⟨rfl, fun _ _ => rfl⟩
  | cons x r ih =>
    intro s hw
    obtain ⟨h1, h2⟩ := ren_num x s (hw x List.mem_cons_self)
    obtain ⟨h3, h4⟩ := ih (seen s x.parts) fun t ht => hw t (List.mem_cons_of_mem _ ht)
    simp only [Tm.rens, Tm.partss, seen_append, h1]
    refine ⟨h3, fun s' hs => ?_⟩
    rw [h4 s' hs, h2 s' ((seen_pre _ _).trans hs)]; rfl

end Go.Proofs.Ytikmgiapjigghaa

/- Plain: what Unify puts in makes both the same, and whatever makes both the same is made of it. -/
namespace Go.Proofs.Ytikmgiapjigghaa
open Go.RowKit

mutual
/-- A term with terms put in for its variables. -/
def Tm.putIn (S : Int → Tm) : Tm → Tm
  | .mk v n l => if v ≠ 0 then S v else .mk 0 n (Tm.putIns S l)
def Tm.putIns (S : Int → Tm) : List Tm → List Tm
  | [] => []
  | t :: r => t.putIn S :: Tm.putIns S r
end
theorem Tm.putIns_eq (S : Int → Tm) (l : List Tm) : Tm.putIns S l = l.map (Tm.putIn S) := by
  induction l with
  | nil => rfl
  | cons t r ih => rw [Tm.putIns, ih]; rfl
theorem Tm.putIn_var {S : Int → Tm} {t : Tm} (h : t.var ≠ 0) : t.putIn S = S t.var := by
  cases t; simp only [Tm.var] at h; simp only [Tm.putIn, if_pos h, Tm.var]
theorem Tm.putIn_fn {S : Int → Tm} {t : Tm} (h : t.var = 0) : t.putIn S = .mk 0 t.name (t.args.map (Tm.putIn S)) := by
  cases t; simp only [Tm.var] at h; subst h
  simp only [Tm.putIn, Tm.name, Tm.args, Tm.putIns_eq]; rfl

/-- What is put in says of each variable of a store what the store says. -/
def Respects (S : Int → Tm) (σ : Sub) : Prop := ∀ v u, v ≠ 0 → σ v = some u → S v = u.putIn S

theorem Respects.look {S : Int → Tm} {σ : Sub} (h : Respects S σ) (hE : Ends σ) (t : Tm) : (look σ t).putIn S = t.putIn S := by
  obtain ⟨n, hn⟩ := look_spec hE t
  generalize Go.Proofs.Ytikmgiapjigghaa.look σ t = u at *
  induction n generalizing t with
  | zero => obtain ⟨rfl, _⟩ := hn; rfl
  | succ n ih =>
    obtain ⟨h1, t', h2, h3⟩ := hn
    rw [ih t' h3, Tm.putIn_var h1, h _ _ h1 h2]

theorem Tm.size_mem {l : List Tm} {t : Tm} (h : t ∈ l) : t.size ≤ Tm.sizes l := by
  induction l with
  | nil => cases h
  | cons a l ih =>
    simp only [Tm.sizes]
    rcases List.mem_cons.1 h with rfl | h
    · omega
    · have := ih h; omega

theorem within_size {S : Int → Tm} {σ : Sub} (h : Respects S σ) (hE : Ends σ) {v : Int} : ∀ (f : Nat) (l : List Tm) (f' : Nat), within σ v f l = .yes f' → ∃ t ∈ l, (S v).size ≤ (t.putIn S).size := by
  intro f
  induction f with
  | zero => intro l f' he; cases l <;> simp [within] at he
  | succ f ih =>
    intro l f' he
    cases l with
    | nil => simp [within] at he
    | cons t r =>
      simp only [within] at he
      have hl := h.look hE t
      by_cases h1 : (look σ t).var ≠ 0
      · rw [if_pos h1] at he
        by_cases h2 : (look σ t).var = v
        · refine ⟨t, List.mem_cons_self, ?_⟩
          rw [← hl, Tm.putIn_var h1, h2]; exact Nat.le_refl _
        · rw [if_neg h2] at he
          obtain ⟨x, hx, h3⟩ := ih r f' he
          exact ⟨x, List.mem_cons_of_mem _ hx, h3⟩
      · rw [if_neg h1] at he
        obtain ⟨x, hx, h3⟩ := ih _ f' he
        rcases List.mem_append.1 hx with h4 | h4
        · refine ⟨t, List.mem_cons_self, Nat.le_trans h3 ?_⟩
          rw [← hl, Tm.putIn_fn (Decidable.of_not_not h1), Tm.size]
          have := Tm.size_mem (List.mem_map.2 ⟨x, h4, rfl⟩ : x.putIn S ∈ (look σ t).args.map (Tm.putIn S))
          omega
        · exact ⟨x, List.mem_cons_of_mem _ h4, h3⟩

theorem Respects.put {S : Int → Tm} {σ : Sub} (h : Respects S σ) {k : Int} {u : Tm} (he : S k = u.putIn S) : Respects S (upd σ k u) := by
  intro v x hv hx
  unfold Go.Proofs.Ytikmgiapjigghaa.upd at hx
  by_cases e : v = k
  · rw [if_pos e] at hx; cases hx; rw [e]; exact he
  · rw [if_neg e] at hx; exact h v x hv hx

theorem Respects.sub {S : Int → Tm} {σ : Sub} {k : Int} {u : Tm} (h : Respects S (upd σ k u)) (hk : σ k = none) (hk0 : k ≠ 0) : Respects S σ ∧ S k = u.putIn S := by
  refine ⟨fun v x hv hx => h v x hv ?_, h k u hk0 ?_⟩
  · have : v ≠ k := fun e => by rw [e, hk] at hx; cases hx
    unfold Go.Proofs.Ytikmgiapjigghaa.upd; rw [if_neg this]; exact hx
  · unfold Go.Proofs.Ytikmgiapjigghaa.upd; rw [if_pos rfl]

theorem map_zip {l l2 : List Tm} {S : Int → Tm} (h : l.map (Tm.putIn S) = l2.map (Tm.putIn S)) : ∀ p ∈ l.zip l2, p.1.putIn S = p.2.putIn S := by
  induction l generalizing l2 with
  | nil => intro p hp; cases hp
  | cons a l ih =>
    cases l2 with
    | nil => cases h
    | cons b l2 =>
      simp only [List.map_cons, List.cons.injEq] at h
      intro p hp
      rw [List.zip_cons_cons] at hp
      rcases List.mem_cons.1 hp with rfl | hp
      · exact h.1
      · exact ih h.2 p hp

theorem zip_map {l l2 : List Tm} {S : Int → Tm} (hl : l.length = l2.length) (h : ∀ p ∈ l.zip l2, p.1.putIn S = p.2.putIn S) : l.map (Tm.putIn S) = l2.map (Tm.putIn S) := by
  induction l generalizing l2 with
  | nil => cases l2 with
    | nil => rfl
    | cons b l2 => cases hl
  | cons a l ih =>
    cases l2 with
    | nil => cases hl
    | cons b l2 =>
      simp only [List.map_cons]
      rw [h (a, b) (by rw [List.zip_cons_cons]; exact List.mem_cons_self), ih (by simpa using hl) (fun p hp => h p (by rw [List.zip_cons_cons]; exact List.mem_cons_of_mem _ hp))]

/-- A step that is not done, or has too much work. -/
def StepIs (Q : Sub → List (Tm × Tm) → Prop) : MStep → Prop
  | .done (.no _ _ _) => False
  | .done (.ok _ _ _) => False
  | .done (.many _ _) => True
  | .go σ' _ _ m => Q σ' m

theorem StepIs.imp {Q R : Sub → List (Tm × Tm) → Prop} (h : ∀ σ m, Q σ m → R σ m) : ∀ {x : MStep}, StepIs Q x → StepIs R x
  | .done (.no _ _ _), k => k
  | .done (.ok _ _ _), k => k
  | .done (.many _ _), k => k
  | .go _ _ _ _, k => h _ _ k

/-- A way to make one variable that is nothing the same as another term. -/
theorem bindStep_mgu {S : Int → Tm} {σ : Sub} (h : Respects S σ) (hi : SInv σ) {v : Int} {t : Tm} (hv : v ≠ 0) (hvp : 0 ≤ v) (hr : t.var = 0 ∨ σ t.var = none) (hne : t.var ≠ v) (he : S v = t.putIn S) (L : List Int) (f : Nat) :
    StepIs (fun σ' m => Respects S σ' ∧ m = []) (bindStep σ L v t f) := by
  unfold bindStep
  cases hw : within σ v f [t] with
  | many => trivial
  | yes g =>
    simp only
    cases f with
    | zero => simp [within] at hw
    | succ f =>
      by_cases h0 : t.var = 0
      · simp only [within] at hw
        rw [look_fn h0, if_neg (by rw [h0]; simp), List.append_nil] at hw
        obtain ⟨x, hx, h1⟩ := within_size h hi.rank.ends f _ _ hw
        have h2 := Tm.size_mem (List.mem_map.2 ⟨x, hx, rfl⟩ : x.putIn S ∈ t.args.map (Tm.putIn S))
        rw [he, Tm.putIn_fn h0, Tm.size] at h1
        omega
      · rw [within_var h0 (hr.resolve_left h0) hne] at hw; cases hw
  | no g =>
    refine ⟨?_, rfl⟩
    unfold bindS
    by_cases hlt : v < t.var
    · rw [if_pos hlt]
      refine h.put ?_
      rw [Tm.putIn_var (t := .mk v ⟨#[]⟩ []) hv, ← Tm.putIn_var (S := S) (t := t) (by omega)]
      exact he.symm
    · rw [if_neg hlt]
      exact h.put he

theorem bindStep_inv {σ : Sub} (hi : SInv σ) {v : Int} {t : Tm} (hv : 1 ≤ v) (hvn : σ v = none) (ht : WfT t) (hr : t.var = 0 ∨ σ t.var = none) (hne : t.var ≠ v) {L : List Int} {f : Nat} {σ' : Sub} {L' : List Int} {f' : Nat} {m : List (Tm × Tm)} (he : bindStep σ L v t f = .go σ' L' f' m) : SInv σ' := by
  unfold bindStep at he
  cases hw : within σ v f [t] with
  | yes g => rw [hw] at he; cases he
  | many => rw [hw] at he; cases he
  | no g => rw [hw] at he; cases he; exact hi.bind hv hvn ht hr hne

/-- One step: the store stays a right one, terms stay right ones. -/
theorem pairStep_inv {σ : Sub} (hi : SInv σ) {s t : Tm} (hs : WfT s) (ht : WfT t) {L : List Int} {f : Nat} {σ' : Sub} {L' : List Int} {f' : Nat} {m : List (Tm × Tm)} (he : pairStep σ L f (look σ s) (look σ t) = .go σ' L' f' m) : SInv σ' ∧ ∀ p ∈ m, WfT p.1 ∧ WfT p.2 := by
  have a1 := hi.look hs; have a2 := hi.look ht
  have e1 := look_end hi.rank.ends s; have e2 := look_end hi.rank.ends t
  unfold pairStep at he
  split at he
  · cases he; exact ⟨hi, fun p hp => by cases hp⟩
  · rename_i h1
    split at he
    · rename_i h2
      have hm : m = [] := by unfold bindStep at he; split at he <;> cases he; rfl
      exact ⟨bindStep_inv hi (by have := a1.pos; omega) (e1.resolve_left h2) a2 e2 (fun e => h1 ⟨h2, e.symm⟩) he, fun p hp => by rw [hm] at hp; cases hp⟩
    · rename_i h2
      split at he
      · rename_i h3
        have hm : m = [] := by unfold bindStep at he; split at he <;> cases he; rfl
        exact ⟨bindStep_inv hi (by have := a2.pos; omega) (e2.resolve_left h3) a1 e1 (fun e => by omega) he, fun p hp => by rw [hm] at hp; cases hp⟩
      · split at he
        · cases he
        · cases he
          exact ⟨hi, fun p hp => ⟨a1.arg (List.of_mem_zip hp).1, a2.arg (List.of_mem_zip hp).2⟩⟩

theorem pairStep_mgu {S : Int → Tm} {σ : Sub} (h : Respects S σ) (hi : SInv σ) {s t : Tm} (hs : WfT s) (ht : WfT t) (he : s.putIn S = t.putIn S) (L : List Int) (f : Nat) :
    StepIs (fun σ' m => Respects S σ' ∧ ∀ p ∈ m, p.1.putIn S = p.2.putIn S) (pairStep σ L f (look σ s) (look σ t)) := by
  have a1 := hi.look hs; have a2 := hi.look ht
  have e1 := look_end hi.rank.ends s; have e2 := look_end hi.rank.ends t
  rw [← h.look hi.rank.ends s, ← h.look hi.rank.ends t] at he
  generalize look σ s = x at *
  generalize look σ t = y at *
  unfold pairStep
  by_cases h1 : x.var ≠ 0 ∧ x.var = y.var
  · rw [if_pos h1]; exact ⟨h, fun p hp => by cases hp⟩
  · rw [if_neg h1]
    by_cases h2 : x.var ≠ 0
    · rw [if_pos h2]
      have := bindStep_mgu h hi h2 a1.pos e2 (fun e => h1 ⟨h2, e.symm⟩) (by rw [← Tm.putIn_var (S := S) h2]; exact he) L f
      exact this.imp fun σ m h => ⟨h.1, fun p hp => by rw [h.2] at hp; cases hp⟩
    · rw [if_neg h2]
      by_cases h3 : y.var ≠ 0
      · rw [if_pos h3]
        have := bindStep_mgu h hi h3 a2.pos e1 (fun e => by omega) (by rw [← Tm.putIn_var (S := S) h3]; exact he.symm) L f
        exact this.imp fun σ m h => ⟨h.1, fun p hp => by rw [h.2] at hp; cases hp⟩
      · rw [if_neg h3]
        rw [Tm.putIn_fn (Decidable.of_not_not h2), Tm.putIn_fn (Decidable.of_not_not h3)] at he
        injection he with _ hn hl
        by_cases h4 : x.name ≠ y.name ∨ x.args.length ≠ y.args.length
        · rw [if_pos h4]
          have hll := congrArg List.length hl
          simp only [List.length_map] at hll
          rcases h4 with h4 | h4
          · exact h4 hn
          · exact h4 hll
        · rw [if_neg h4]
          exact ⟨h, map_zip hl⟩

/-- Whatever makes all pairs the same is made of what the store says; if there is such a thing, Same does not say no. -/
theorem meet_mgu {S : Int → Tm} : ∀ (f : Nat) (σ : Sub) (L : List Int) (ps : List (Tm × Tm)), Respects S σ → SInv σ → (∀ p ∈ ps, WfT p.1 ∧ WfT p.2) → (∀ p ∈ ps, p.1.putIn S = p.2.putIn S) →
    match meet σ L f ps with
    | .no _ _ _ => False
    | .many _ _ => True
    | .ok σ' _ _ => Respects S σ' := by
  intro f
  induction f using Nat.strongRecOn with
  | _ f ih =>
  intro σ L ps h hi hw hp
  cases ps with
  | nil => rw [meet_nil]; exact h
  | cons p r =>
    cases f with
    | zero => rw [meet_zero]; trivial
    | succ f =>
      have hq := hw p List.mem_cons_self
      have hs := pairStep_mgu h hi hq.1 hq.2 (hp p List.mem_cons_self) L f
      cases h1 : pairStep σ L f (look σ p.1) (look σ p.2) with
      | done o =>
        rw [meet_done _ h1]
        rw [h1] at hs
        cases o with
        | ok _ _ _ => exact hs.elim
        | no _ _ _ => exact hs
        | many _ _ => exact hs
      | go σ1 L1 f1 m =>
        rw [meet_go _ h1]
        rw [h1] at hs
        obtain ⟨i1, i2⟩ := pairStep_inv hi hq.1 hq.2 h1
        refine ih f1 (Nat.lt_succ_of_le (pairStep_le h1)) σ1 L1 _ hs.1 i1 (fun q hq => ?_) (fun q hq => ?_)
        · rcases List.mem_append.1 hq with h5 | h5
          · exact i2 q h5
          · exact hw q (List.mem_cons_of_mem _ h5)
        · rcases List.mem_append.1 hq with h5 | h5
          · exact hs.2 q h5
          · exact hp q (List.mem_cons_of_mem _ h5)

theorem bindStep_back {S : Int → Tm} {σ : Sub} {v : Int} {t : Tm} (hv : v ≠ 0) (hvn : σ v = none) (hr : t.var = 0 ∨ σ t.var = none) (hp : 0 ≤ v) {L : List Int} {f : Nat} {σ' : Sub} {L' : List Int} {f' : Nat} {m : List (Tm × Tm)} (he : bindStep σ L v t f = .go σ' L' f' m) (h : Respects S σ') :
    Respects S σ ∧ S v = t.putIn S := by
  unfold bindStep at he
  cases hw : within σ v f [t] with
  | yes g => rw [hw] at he; cases he
  | many => rw [hw] at he; cases he
  | no g =>
    rw [hw] at he; cases he
    unfold bindS at h
    by_cases hlt : v < t.var
    · rw [if_pos hlt] at h
      obtain ⟨h1, h2⟩ := h.sub (hr.resolve_left (by omega)) (by omega)
      refine ⟨h1, ?_⟩
      rw [Tm.putIn_var (t := .mk v ⟨#[]⟩ []) hv] at h2
      rw [Tm.putIn_var (by omega)]
      exact h2.symm
    · rw [if_neg hlt] at h
      exact h.sub hvn hv

theorem pairStep_back {S : Int → Tm} {σ : Sub} (hi : SInv σ) {s t : Tm} (hs : WfT s) (ht : WfT t) {L : List Int} {f : Nat} {σ' : Sub} {L' : List Int} {f' : Nat} {m : List (Tm × Tm)} (he : pairStep σ L f (look σ s) (look σ t) = .go σ' L' f' m) (h : Respects S σ') (hm : ∀ p ∈ m, p.1.putIn S = p.2.putIn S) :
    Respects S σ ∧ s.putIn S = t.putIn S := by
  have a1 := hi.look hs; have a2 := hi.look ht
  have e1 := look_end hi.rank.ends s; have e2 := look_end hi.rank.ends t
  have key : Respects S σ ∧ (look σ s).putIn S = (look σ t).putIn S := by
    generalize look σ s = x at *
    generalize look σ t = y at *
    unfold pairStep at he
    by_cases h1 : x.var ≠ 0 ∧ x.var = y.var
    · rw [if_pos h1] at he
      cases he
      exact ⟨h, by rw [Tm.putIn_var h1.1, Tm.putIn_var (by rw [← h1.2]; exact h1.1), h1.2]⟩
    · rw [if_neg h1] at he
      by_cases h2 : x.var ≠ 0
      · rw [if_pos h2] at he
        obtain ⟨b1, b2⟩ := bindStep_back h2 (e1.resolve_left h2) e2 a1.pos he h
        exact ⟨b1, by rw [Tm.putIn_var h2]; exact b2⟩
      · rw [if_neg h2] at he
        by_cases h3 : y.var ≠ 0
        · rw [if_pos h3] at he
          obtain ⟨b1, b2⟩ := bindStep_back h3 (e2.resolve_left h3) e1 a2.pos he h
          exact ⟨b1, by rw [Tm.putIn_var h3]; exact b2.symm⟩
        · rw [if_neg h3] at he
          by_cases h4 : x.name ≠ y.name ∨ x.args.length ≠ y.args.length
          · rw [if_pos h4] at he; cases he
          · rw [if_neg h4] at he
            cases he
            refine ⟨h, ?_⟩
            rw [Tm.putIn_fn (Decidable.of_not_not h2), Tm.putIn_fn (Decidable.of_not_not h3), Decidable.of_not_not fun e => h4 (.inl e), zip_map (Decidable.of_not_not fun e => h4 (.inr e)) hm]
  exact ⟨key.1, by rw [← key.1.look hi.rank.ends s, ← key.1.look hi.rank.ends t]; exact key.2⟩

/-- What the store says at the end makes all pairs the same. -/
theorem meet_back {S : Int → Tm} : ∀ (f : Nat) (σ : Sub) (L : List Int) (ps : List (Tm × Tm)) (σ' : Sub) (L' : List Int) (f' : Nat), SInv σ → (∀ p ∈ ps, WfT p.1 ∧ WfT p.2) → meet σ L f ps = .ok σ' L' f' → Respects S σ' →
    Respects S σ ∧ ∀ p ∈ ps, p.1.putIn S = p.2.putIn S := by
  intro f
  induction f using Nat.strongRecOn with
  | _ f ih =>
  intro σ L ps σ' L' f' hi hw he h
  cases ps with
  | nil => rw [meet_nil] at he; cases he; exact ⟨h, fun p hp => by cases hp⟩
  | cons p r =>
    cases f with
    | zero => rw [meet_zero] at he; cases he
    | succ f =>
      have hq := hw p List.mem_cons_self
      cases h1 : pairStep σ L f (look σ p.1) (look σ p.2) with
      | done o =>
        rw [meet_done _ h1] at he
        subst he
        unfold pairStep bindStep at h1
        split at h1
        · cases h1
        · split at h1
          · split at h1 <;> cases h1
          · split at h1
            · split at h1 <;> cases h1
            · split at h1 <;> cases h1
      | go σ1 L1 f1 m =>
        rw [meet_go _ h1] at he
        obtain ⟨i1, i2⟩ := pairStep_inv hi hq.1 hq.2 h1
        obtain ⟨j1, j2⟩ := ih f1 (Nat.lt_succ_of_le (pairStep_le h1)) σ1 L1 _ σ' L' f' i1 (fun q hq => by
          rcases List.mem_append.1 hq with h5 | h5
          · exact i2 q h5
          · exact hw q (List.mem_cons_of_mem _ h5)) he h
        obtain ⟨k1, k2⟩ := pairStep_back hi hq.1 hq.2 h1 j1 (fun q hq => j2 q (List.mem_append_left _ hq))
        refine ⟨k1, fun q hq => ?_⟩
        rcases List.mem_cons.1 hq with rfl | hq
        · exact k2
        · exact j2 q (List.mem_append_right _ hq)

theorem meet_inv : ∀ (f : Nat) (σ : Sub) (L : List Int) (ps : List (Tm × Tm)) (σ' : Sub) (L' : List Int) (f' : Nat), SInv σ → (∀ p ∈ ps, WfT p.1 ∧ WfT p.2) → meet σ L f ps = .ok σ' L' f' → SInv σ' := by
  intro f
  induction f using Nat.strongRecOn with
  | _ f ih =>
  intro σ L ps σ' L' f' hi hw he
  cases ps with
  | nil => rw [meet_nil] at he; cases he; exact hi
  | cons p r =>
    cases f with
    | zero => rw [meet_zero] at he; cases he
    | succ f =>
      have hq := hw p List.mem_cons_self
      cases h1 : pairStep σ L f (look σ p.1) (look σ p.2) with
      | done o =>
        rw [meet_done _ h1] at he
        subst he
        unfold pairStep bindStep at h1
        split at h1
        · cases h1
        · split at h1
          · split at h1 <;> cases h1
          · split at h1
            · split at h1 <;> cases h1
            · split at h1 <;> cases h1
      | go σ1 L1 f1 m =>
        rw [meet_go _ h1] at he
        obtain ⟨i1, i2⟩ := pairStep_inv hi hq.1 hq.2 h1
        exact ih f1 (Nat.lt_succ_of_le (pairStep_le h1)) σ1 L1 _ σ' L' f' i1 (fun q hq => by
          rcases List.mem_append.1 hq with h5 | h5
          · exact i2 q h5
          · exact hw q (List.mem_cons_of_mem _ h5)) he

theorem thrL_put {S : Int → Tm} {σ : Sub} (h : Respects S σ) (hE : Ends σ) : ∀ (m : Nat) (l : List Tm) (x : List Tm × Nat), thrL σ m l = some x → x.1.map (Tm.putIn S) = l.map (Tm.putIn S) := by
  intro m
  induction m using Nat.strongRecOn with
  | _ m ih =>
  intro l x he
  cases l with
  | nil => rw [thrL_nil] at he; cases he; rfl
  | cons t r =>
    cases m with
    | zero => rw [thrL_zero] at he; cases he
    | succ m =>
      have hl := h.look hE t
      by_cases hv : (look σ t).var = 0
      · rw [thrL_fn hv] at he
        obtain ⟨y, hy, h2⟩ := Option.bind_eq_some_iff.1 he
        obtain ⟨z, hz, rfl⟩ := Option.map_eq_some_iff.1 h2
        have hle := (thrL_le _ _ _ hy).1
        simp only [List.map_cons]
        rw [ih y.2 (by omega) r z hz, Tm.putIn_fn (by rfl), ← hl, Tm.putIn_fn hv]
        have := ih m (by omega) _ y hy
        show Tm.mk 0 (look σ t).name (y.1.map (Tm.putIn S)) :: _ = _
        rw [this]
      · rw [thrL_var hv] at he
        obtain ⟨z, hz, rfl⟩ := Option.map_eq_some_iff.1 he
        simp only [List.map_cons]
        rw [ih m (by omega) r z hz, Tm.putIn_var (t := VarT (look σ t).var) hv, ← hl, Tm.putIn_var hv]; rfl

theorem thrL_det {σ : Sub} : ∀ (m : Nat) (l : List Tm) (x : List Tm × Nat) (m' : Nat) (x' : List Tm × Nat), thrL σ m l = some x → thrL σ m' l = some x' → x.1 = x'.1 := by
  intro m
  induction m using Nat.strongRecOn with
  | _ m ih =>
  intro l x m' x' he he'
  cases l with
  | nil => rw [thrL_nil] at he he'; cases he; cases he'; rfl
  | cons t r =>
    cases m with
    | zero => rw [thrL_zero] at he; cases he
    | succ m =>
      cases m' with
      | zero => rw [thrL_zero] at he'; cases he'
      | succ m' =>
        by_cases hv : (look σ t).var = 0
        · rw [thrL_fn hv] at he he'
          obtain ⟨y, hy, h2⟩ := Option.bind_eq_some_iff.1 he
          obtain ⟨z, hz, rfl⟩ := Option.map_eq_some_iff.1 h2
          obtain ⟨y', hy', h2'⟩ := Option.bind_eq_some_iff.1 he'
          obtain ⟨z', hz', rfl⟩ := Option.map_eq_some_iff.1 h2'
          have hle := (thrL_le _ _ _ hy).1
          simp only
          rw [ih m (by omega) _ y m' y' hy hy', ih y.2 (by omega) r z _ z' hz hz']
        · rw [thrL_var hv] at he he'
          obtain ⟨z, hz, rfl⟩ := Option.map_eq_some_iff.1 he
          obtain ⟨z', hz', rfl⟩ := Option.map_eq_some_iff.1 he'
          simp only
          rw [ih m (by omega) r z m' z' hz hz']

/-- What is through and through is what is put in by the variables' own terms. -/
theorem thrL_self {S : Int → Tm} {σ : Sub} {n : Nat} (hS : ∀ v : Int, 1 ≤ v → v.toNat < n → ∃ k, thrL σ 200 [VarT v] = some ([S v], k)) :
    ∀ (m : Nat) (l : List Tm) (x : List Tm × Nat), (∀ t ∈ l, Fit n t) → thrL σ m l = some x → x.1 = l.map (Tm.putIn S) := by
  intro m
  induction m using Nat.strongRecOn with
  | _ m ih =>
  intro l x hl he
  cases l with
  | nil => rw [thrL_nil] at he; cases he; rfl
  | cons t r =>
    have ht := hl t List.mem_cons_self
    have hr : ∀ t ∈ r, Fit n t := fun x hx => hl x (List.mem_cons_of_mem _ hx)
    rw [thrL_cons] at he
    obtain ⟨y, hy, h2⟩ := Option.bind_eq_some_iff.1 he
    obtain ⟨z, hz, rfl⟩ := Option.map_eq_some_iff.1 h2
    have hm : 0 < m := by
      cases m with
      | zero => rw [thrL_zero] at hy; cases hy
      | succ m => omega
    have hy2 : y.2 < m := by
      cases m with
      | zero => omega
      | succ m =>
        by_cases hv : (look σ t).var = 0
        · rw [thrL_fn hv] at hy
          obtain ⟨y1, hy1, h3⟩ := Option.bind_eq_some_iff.1 hy
          obtain ⟨z1, hz1, rfl⟩ := Option.map_eq_some_iff.1 h3
          have := (thrL_le _ _ _ hy1).1; have := (thrL_le _ _ _ hz1).1
          simp only; omega
        · rw [thrL_var hv] at hy
          obtain ⟨z1, hz1, rfl⟩ := Option.map_eq_some_iff.1 hy
          have := (thrL_le _ _ _ hz1).1
          simp only; omega
    simp only [List.map_cons]
    rw [ih y.2 hy2 r z hr hz]
    have hh : y.1 = [t.putIn S] := by
      by_cases h0 : t.var = 0
      · cases m with
        | zero => omega
        | succ m =>
          have hv : (look σ t).var = 0 := by rw [look_fn h0]; exact h0
          rw [thrL_fn hv] at hy
          obtain ⟨y1, hy1, h3⟩ := Option.bind_eq_some_iff.1 hy
          obtain ⟨z1, hz1, rfl⟩ := Option.map_eq_some_iff.1 h3
          rw [thrL_nil] at hz1; cases hz1
          rw [look_fn h0] at hy1 ⊢
          rw [ih m (by omega) _ y1 (fun x hx => ht.arg hx) hy1, Tm.putIn_fn h0]
      · have e := ht.wf.isVar h0
        have hp := ht.pos
        obtain ⟨k, hk⟩ := hS t.var (by omega) hp.2
        rw [e] at hy
        have := thrL_det _ _ _ _ _ hy hk
        rw [this, Tm.putIn_var h0]
    rw [hh]; rfl

theorem outs_at {σ : Sub} : ∀ (n : Nat) (l : List Tm), outs σ n = some l → l.length = n ∧ ∀ i (h : i < l.length), ∃ k, thrL σ 200 [VarT ((i : Int) + 1)] = some ([l[i]], k) := by
  intro n
  induction n with
  | zero => intro l h; cases h; exact ⟨rfl, fun i h => by cases h⟩
  | succ n ih =>
    intro l h
    simp only [outs] at h
    obtain ⟨l0, h0, h1⟩ := Option.bind_eq_some_iff.1 h
    obtain ⟨x, hx, rfl⟩ := Option.map_eq_some_iff.1 h1
    obtain ⟨i1, i2⟩ := ih l0 h0
    have hl := (thrL_le _ _ _ hx).2
    simp only [List.length_cons, List.length_nil, Nat.zero_add] at hl
    obtain ⟨X, k⟩ := x
    simp only at hl ⊢
    obtain ⟨T, rfl⟩ := List.length_eq_one_iff.1 hl
    refine ⟨by simp [i1], fun i hi => ?_⟩
    simp only [List.length_append, List.length_singleton] at hi
    by_cases e : i < l0.length
    · rw [List.getElem_append_left e]; exact i2 i e
    · have : i = l0.length := by omega
      subst this
      rw [List.getElem_concat_length rfl]
      exact ⟨k, by rw [i1]; exact hx⟩

theorem bindStep_dom {σ : Sub} {n : Nat} (hd : ∀ v u, σ v = some u → Fit n u) {v : Int} {t : Tm} (hv : 0 ≤ v ∧ v.toNat < n) (ht : Fit n t) {L : List Int} {f : Nat} {σ' : Sub} {L' : List Int} {f' : Nat} {m : List (Tm × Tm)} (he : bindStep σ L v t f = .go σ' L' f' m) : (∀ v u, σ' v = some u → Fit n u) ∧ m = [] := by
  unfold bindStep at he
  cases hw : within σ v f [t] with
  | yes g => rw [hw] at he; cases he
  | many => rw [hw] at he; cases he
  | no g =>
    rw [hw] at he; cases he
    refine ⟨?_, rfl⟩
    unfold bindS
    by_cases hlt : v < t.var
    · rw [if_pos hlt]; exact upd_dom hd (fit_var hv.1 hv.2)
    · rw [if_neg hlt]; exact upd_dom hd ht

theorem pairStep_dom {σ : Sub} {n : Nat} (hd : ∀ v u, σ v = some u → Fit n u) {x y : Tm} (hx : Fit n x) (hy : Fit n y) {L : List Int} {f : Nat} {σ' : Sub} {L' : List Int} {f' : Nat} {m : List (Tm × Tm)} (he : pairStep σ L f x y = .go σ' L' f' m) :
    (∀ v u, σ' v = some u → Fit n u) ∧ ∀ p ∈ m, Fit n p.1 ∧ Fit n p.2 := by
  unfold pairStep at he
  split at he
  · cases he; exact ⟨hd, fun p hp => by cases hp⟩
  · split at he
    · have := bindStep_dom hd hx.pos hy he
      exact ⟨this.1, fun p hp => by rw [this.2] at hp; cases hp⟩
    · split at he
      · have := bindStep_dom hd hy.pos hx he
        exact ⟨this.1, fun p hp => by rw [this.2] at hp; cases hp⟩
      · split at he
        · cases he
        · cases he
          exact ⟨hd, fun p hp => ⟨hx.arg (List.of_mem_zip hp).1, hy.arg (List.of_mem_zip hp).2⟩⟩

theorem meet_dom {n : Nat} : ∀ (f : Nat) (σ : Sub) (L : List Int) (ps : List (Tm × Tm)) (σ' : Sub) (L' : List Int) (f' : Nat), SInv σ → (∀ v u, σ v = some u → Fit n u) → (∀ p ∈ ps, Fit n p.1 ∧ Fit n p.2) → meet σ L f ps = .ok σ' L' f' → ∀ v u, σ' v = some u → Fit n u := by
  intro f
  induction f using Nat.strongRecOn with
  | _ f ih =>
  intro σ L ps σ' L' f' hi hd hw he
  cases ps with
  | nil => rw [meet_nil] at he; cases he; exact hd
  | cons p r =>
    cases f with
    | zero => rw [meet_zero] at he; cases he
    | succ f =>
      have hq := hw p List.mem_cons_self
      cases h1 : pairStep σ L f (look σ p.1) (look σ p.2) with
      | done o =>
        rw [meet_done _ h1] at he
        subst he
        unfold pairStep bindStep at h1
        split at h1
        · cases h1
        · split at h1
          · split at h1 <;> cases h1
          · split at h1
            · split at h1 <;> cases h1
            · split at h1 <;> cases h1
      | go σ1 L1 f1 m =>
        rw [meet_go _ h1] at he
        obtain ⟨i1, _⟩ := pairStep_inv hi hq.1.wf hq.2.wf h1
        obtain ⟨d1, d2⟩ := pairStep_dom hd (fit_look hi.rank.ends hd hq.1) (fit_look hi.rank.ends hd hq.2) h1
        exact ih f1 (Nat.lt_succ_of_le (pairStep_le h1)) σ1 L1 _ σ' L' f' i1 d1 (fun q hq => by
          rcases List.mem_append.1 hq with h5 | h5
          · exact d2 q h5
          · exact hw q (List.mem_cons_of_mem _ h5)) he

theorem bindStep_keys {σ : Sub} {n : Nat} (hk : ∀ v u, σ v = some u → v.toNat < n) {v : Int} {t : Tm} (hv : v.toNat < n) (ht : t.var.toNat < n) {L : List Int} {f : Nat} {σ' : Sub} {L' : List Int} {f' : Nat} {m : List (Tm × Tm)} (he : bindStep σ L v t f = .go σ' L' f' m) : ∀ v u, σ' v = some u → v.toNat < n := by
  unfold bindStep at he
  cases hw : within σ v f [t] with
  | yes g => rw [hw] at he; cases he
  | many => rw [hw] at he; cases he
  | no g =>
    rw [hw] at he; cases he
    intro x u hx
    unfold upd at hx
    by_cases e : x = (bindS v t).1
    · rw [e]; unfold bindS; split
      · exact ht
      · exact hv
    · rw [if_neg e] at hx; exact hk x u hx

theorem pairStep_keys {σ : Sub} {n : Nat} (hk : ∀ v u, σ v = some u → v.toNat < n) {x y : Tm} (hx : Fit n x) (hy : Fit n y) {L : List Int} {f : Nat} {σ' : Sub} {L' : List Int} {f' : Nat} {m : List (Tm × Tm)} (he : pairStep σ L f x y = .go σ' L' f' m) : ∀ v u, σ' v = some u → v.toNat < n := by
  unfold pairStep at he
  split at he
  · cases he; exact hk
  · split at he
    · exact bindStep_keys hk hx.pos.2 hy.pos.2 he
    · split at he
      · exact bindStep_keys hk hy.pos.2 hx.pos.2 he
      · split at he
        · cases he
        · cases he; exact hk

theorem meet_keys {n : Nat} : ∀ (f : Nat) (σ : Sub) (L : List Int) (ps : List (Tm × Tm)) (σ' : Sub) (L' : List Int) (f' : Nat), SInv σ → (∀ v u, σ v = some u → Fit n u) → (∀ v u, σ v = some u → v.toNat < n) → (∀ p ∈ ps, Fit n p.1 ∧ Fit n p.2) → meet σ L f ps = .ok σ' L' f' → ∀ v u, σ' v = some u → v.toNat < n := by
  intro f
  induction f using Nat.strongRecOn with
  | _ f ih =>
  intro σ L ps σ' L' f' hi hd hk hw he
  cases ps with
  | nil => rw [meet_nil] at he; cases he; exact hk
  | cons p r =>
    cases f with
    | zero => rw [meet_zero] at he; cases he
    | succ f =>
      have hq := hw p List.mem_cons_self
      cases h1 : pairStep σ L f (look σ p.1) (look σ p.2) with
      | done o =>
        rw [meet_done _ h1] at he
        subst he
        unfold pairStep bindStep at h1
        split at h1
        · cases h1
        · split at h1
          · split at h1 <;> cases h1
          · split at h1
            · split at h1 <;> cases h1
            · split at h1 <;> cases h1
      | go σ1 L1 f1 m =>
        rw [meet_go _ h1] at he
        obtain ⟨i1, _⟩ := pairStep_inv hi hq.1.wf hq.2.wf h1
        have f1' := fit_look hi.rank.ends hd hq.1; have f2' := fit_look hi.rank.ends hd hq.2
        obtain ⟨d1, d2⟩ := pairStep_dom hd f1' f2' h1
        exact ih f1 (Nat.lt_succ_of_le (pairStep_le h1)) σ1 L1 _ σ' L' f' i1 d1 (pairStep_keys hk f1' f2' h1) (fun q hq => by
          rcases List.mem_append.1 hq with h5 | h5
          · exact d2 q h5
          · exact hw q (List.mem_cons_of_mem _ h5)) he

/-- What the statement says of an answer of Unify. -/
theorem uP_most {a b : Tm} (ha : Fit 13 a) (hb : Fit 13 b) :
    match uP a b with
    | .no _ => ∀ S, a.putIn S ≠ b.putIn S
    | .many => True
    | .ok l _ => l.length = 12 ∧ (∀ S : Int → Tm, (∀ i (h : i < l.length), S ((i : Int) + 1) = l[i]) → a.putIn S = b.putIn S) ∧ ∀ S, a.putIn S = b.putIn S → ∀ i (h : i < l.length), l[i].putIn S = S ((i : Int) + 1) := by
  have hi : SInv (fun _ => none) := Sim.start.inv
  have hw : ∀ p ∈ [(a, b)], WfT p.1 ∧ WfT p.2 := fun p hp => by rw [List.mem_singleton] at hp; subst hp; exact ⟨ha.wf, hb.wf⟩
  have hw2 : ∀ p ∈ [(a, b)], Fit 13 p.1 ∧ Fit 13 p.2 := fun p hp => by rw [List.mem_singleton] at hp; subst hp; exact ⟨ha, hb⟩
  have hm := fun (S : Int → Tm) (he : a.putIn S = b.putIn S) => meet_mgu (S := S) 4000 (fun _ => none) [] [(a, b)] (fun v u _ h => by cases h) hi hw (fun p hp => by rw [List.mem_singleton] at hp; subst hp; exact he)
  unfold uP
  cases h1 : meet (fun _ => none) [] 4000 [(a, b)] with
  | no σ L f => intro S he; have := hm S he; rw [h1] at this; exact this
  | many σ L => trivial
  | ok σ L f =>
    simp only
    have hi' := meet_inv 4000 _ [] _ _ _ _ hi hw h1
    have hd := meet_dom (n := 13) 4000 _ [] _ _ _ _ hi (fun v u h => by cases h) hw2 h1
    cases h2 : outs σ 12 with
    | none => trivial
    | some l =>
      obtain ⟨l1, l2⟩ := outs_at 12 l h2
      refine ⟨l1, fun S hS => ?_, fun S he i h => ?_⟩
      · have hS2 : ∀ v : Int, 1 ≤ v → v.toNat < 13 → ∃ k, thrL σ 200 [VarT v] = some ([S v], k) := fun v hv1 hv2 => by
          obtain ⟨k, hk⟩ := l2 (v.toNat - 1) (by omega)
          have e : ((v.toNat - 1 : Nat) : Int) + 1 = v := by omega
          rw [e] at hk
          have := hS (v.toNat - 1) (by omega)
          rw [e] at this
          exact ⟨k, by rw [this]; exact hk⟩
        have hR : Respects S σ := fun v u hv hu => by
          have hv1 := (hi'.each v u hu).1
          have hfu := hd v u hu
          by_cases hv2 : v.toNat < 13
          · obtain ⟨k, hk⟩ := hS2 v hv1 hv2
            have hlk : look σ (VarT v) = look σ u := by
              obtain ⟨m, hm'⟩ := look_spec hi'.rank.ends u
              exact look_eq (n := m + 1) ⟨hv, u, hu, hm'⟩
            have hk2 : thrL σ 200 [u] = some ([S v], k) := by
              by_cases h0 : (look σ u).var = 0
              · rw [thrL_fn (t := VarT v) (by rw [hlk]; exact h0), hlk] at hk
                rw [thrL_fn h0]; exact hk
              · rw [thrL_var (t := VarT v) (by rw [hlk]; exact h0), hlk] at hk
                rw [thrL_var h0]; exact hk
            have := thrL_self hS2 200 [u] _ (fun t ht => by rw [List.mem_singleton] at ht; subst ht; exact hfu) hk2
            simpa using this
          · exfalso
            exact hv2 (meet_keys (n := 13) 4000 _ [] _ _ _ _ hi (fun v u h => by cases h) (fun v u h => by cases h) hw2 h1 v u hu)
        exact (meet_back 4000 _ [] _ _ _ _ hi hw h1 hR).2 (a, b) (List.mem_singleton.2 rfl)
      · have hR := hm S he
        rw [h1] at hR
        obtain ⟨k, hk⟩ := l2 i h
        have := thrL_put hR hi'.rank.ends 200 _ _ hk
        simp only [List.map_cons, List.map_nil, List.cons.injEq, and_true] at this
        rw [this, Tm.putIn_var (t := VarT ((i : Int) + 1)) (show (i : Int) + 1 ≠ 0 by omega)]; rfl

end Go.Proofs.Ytikmgiapjigghaa

/- Plain: terms that are right fit; what Unify answers of two given terms. -/
namespace Go.Proofs.Ytikmgiapjigghaa
open Go.RowKit

theorem firstE_zero : ∀ (l : List Tm), firstE l = 0 → ∀ p, p ∈ l → p.partE = 0 := by
  intro l
  induction l with
  | nil => intro _ p hp; cases hp
  | cons t r ih =>
    intro h p hp
    have h' : (if t.partE = 0 then firstE r else t.partE) = 0 := h
    by_cases e : t.partE = 0
    · rw [if_pos e] at h'
      rcases List.mem_cons.1 hp with rfl | hp
      · exact e
      · exact ih h' p hp
    · rw [if_neg e] at h'; exact absurd h' e

/-- A term that is right. -/
theorem check_fit {t : Tm} (h : t.checkE = 0) : Fit 13 t := by
  have h0 : t.partsE = 0 := by
    unfold Tm.checkE at h
    by_cases h6 : 60 < t.size
    · rw [if_pos h6] at h; cases h
    · rw [if_neg h6] at h; exact h
  rw [Tm.partsE_eq] at h0
  have hz := firstE_zero _ h0
  have hp : ∀ p, p ∈ t.parts → (0 ≤ p.var ∧ (p.var ≠ 0 → p.args = [] ∧ p.name = ⟨#[]⟩)) ∧ p.var.toNat < 13 ∧ p.args.length ≤ 100000 := by
    intro p hp
    have h1 := hz p hp
    unfold Tm.partE at h1
    obtain ⟨v, n, l⟩ := p
    simp only [Tm.var, Tm.name, Tm.args] at h1 ⊢
    unfold Go.Proofs.Ytikmgiapjigghaa.partE at h1
    by_cases hv : v = 0
    · subst hv
      refine ⟨⟨by omega, fun h => absurd rfl h⟩, by omega, ?_⟩
      rw [if_pos rfl] at h1
      split at h1
      · cases h1
      · split at h1
        · cases h1
        · omega
    · rw [if_neg hv] at h1
      split at h1
      · cases h1
      · rename_i h2
        split at h1
        · cases h1
        · rename_i h3
          have hl : l.length = 0 := by omega
          have hn : n.size = 0 := by omega
          refine ⟨⟨by omega, fun _ => ⟨List.eq_nil_of_length_eq_zero hl, ?_⟩⟩, by omega, by omega⟩
          cases n with
          | mk d => simp only [ByteArray.size] at hn; rw [Array.eq_empty_of_size_eq_zero hn]
  exact ⟨fun p h => (hp p h).1, fun p h => (hp p h).2⟩

theorem outs_of {σ : Sub} {T : Nat → Tm} : ∀ n : Nat, (∀ i : Nat, i < n → ∃ k, thrL σ 200 [VarT ((i : Int) + 1)] = some ([T i], k)) → outs σ n = some ((List.range n).map T) := by
  intro n
  induction n with
  | zero => intro _; rfl
  | succ n ih =>
    intro h
    obtain ⟨k, hk⟩ := h n (Nat.lt_succ_self n)
    simp only [outs]
    rw [ih (fun i hi => h i (by omega)), hk, List.range_succ, List.map_append]
    rfl

def tmA : Tm := .mk 0 ⟨#[97]⟩ []
def tmL : Tm := .mk 0 ⟨#[102]⟩ [VarT 2, VarT 3]
def tmR : Tm := .mk 0 ⟨#[102]⟩ [VarT 1, tmA]
def sub1 : Sub := upd (fun _ => none) 2 (VarT 1)
def sub2 : Sub := upd sub1 3 tmA
def outB (i : Nat) : Tm := if i = 1 then VarT 1 else if i = 2 then tmA else VarT ((i : Int) + 1)

theorem begun_step1 : pairStep (fun _ => none) [] 3999 (look (fun _ => none) tmL) (look (fun _ => none) tmR) = .go (fun _ => none) [] 3999 [(VarT 2, VarT 1), (VarT 3, tmA)] := by
  rw [look_fn (t := tmL) rfl, look_fn (t := tmR) rfl, pairStep_args rfl rfl (by intro h; rcases h with h | h; exact h rfl; exact h rfl)]
  rfl

theorem begun_step2 : pairStep (fun _ => none) [] 3998 (look (fun _ => none) (VarT 2)) (look (fun _ => none) (VarT 1)) = .go sub1 [2] 3997 [] := by
  rw [look_free (t := VarT 2) rfl, look_free (t := VarT 1) rfl, pairStep_x (by decide) (by decide)]
  unfold bindStep
  rw [show (VarT 2).var = 2 from rfl, within_var (v := 2) (t := VarT 1) (by decide) rfl (by decide) 3997]
  rfl

theorem begun_step3 : pairStep sub1 [2] 3996 (look sub1 (VarT 3)) (look sub1 tmA) = .go sub2 [2, 3] 3995 [] := by
  rw [look_free (t := VarT 3) rfl, look_fn (t := tmA) rfl, pairStep_x (by decide) (by decide)]
  unfold bindStep
  have h : within sub1 3 3996 [tmA] = .no 3995 := by
    show within sub1 3 (3995 + 1) [tmA] = .no 3995
    simp only [within]
    rw [look_fn (t := tmA) rfl]
    simp [tmA, Tm.var, Tm.args, within]
  rw [show (VarT 3).var = 3 from rfl, h]
  rfl

theorem begun_meet : meet (fun _ => none) [] 4000 [(tmL, tmR)] = .ok sub2 [2, 3] 3995 := by
  rw [show (4000 : Nat) = 3999 + 1 from rfl, meet_go [] begun_step1]
  show meet (fun _ => none) [] (3998 + 1) ((VarT 2, VarT 1) :: [(VarT 3, tmA)]) = _
  rw [meet_go _ begun_step2]
  show meet sub1 [2] (3996 + 1) ((VarT 3, tmA) :: []) = _
  rw [meet_go _ begun_step3]
  exact meet_nil _ _ _

theorem sub2_ne {v : Int} (h2 : v ≠ 2) (h3 : v ≠ 3) : sub2 v = none := by unfold sub2 sub1 upd; rw [if_neg h3, if_neg h2]

theorem begun_outs : outs sub2 12 = some ((List.range 12).map outB) := by
  refine outs_of 12 fun i hi => ?_
  by_cases h1 : i = 1
  · subst h1
    have hl : look sub2 (VarT 2) = VarT 1 := look_eq (n := 1) ⟨by decide, VarT 1, rfl, rfl, .inr (sub2_ne (by decide) (by decide))⟩
    refine ⟨199, ?_⟩
    rw [show (((1 : Nat) : Int) + 1) = 2 from rfl, show (200 : Nat) = 199 + 1 from rfl, thrL_var (by rw [hl]; decide), thrL_nil, hl]
    rfl
  · by_cases h2 : i = 2
    · subst h2
      have hl : look sub2 (VarT 3) = tmA := look_eq (n := 1) ⟨by decide, tmA, rfl, rfl, .inl rfl⟩
      refine ⟨199, ?_⟩
      rw [show (((2 : Nat) : Int) + 1) = 3 from rfl, show (200 : Nat) = 199 + 1 from rfl, thrL_fn (by rw [hl]; rfl), hl]
      show (thrL sub2 199 []).bind _ = _
      rw [thrL_nil]
      simp only [Option.bind_some, thrL_nil]
      rfl
    · have hl : look sub2 (VarT ((i : Int) + 1)) = VarT ((i : Int) + 1) := look_free (t := VarT ((i : Int) + 1)) (sub2_ne (v := (i : Int) + 1) (by omega) (by omega))
      refine ⟨199, ?_⟩
      rw [show (200 : Nat) = 199 + 1 from rfl, thrL_var (by rw [hl]; show (i : Int) + 1 ≠ 0; omega), thrL_nil, hl]
      simp only [outB, if_neg h1, if_neg h2]
      rfl

theorem begun_uP : uP tmL tmR = .ok ((List.range 12).map outB) 5 := by
  unfold uP
  rw [begun_meet]
  simp only [begun_outs]

end Go.Proofs.Ytikmgiapjigghaa
