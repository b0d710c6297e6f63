/- The reference's state: what its lists hold; work; walk: Within. -/
import Derived.Test.YtikmgiapjigghaaRef
import Derived.Test.YtikmgiapjigghaaApp
import Derived.Deep.RegionHeld3
namespace Go.Proofs.Ytikmgiapjigghaa
open Go.RowKit

/-- A term whose variables lie in a list of n, and whose lists of arguments are not long. -/
structure Fit (n : Nat) (t : Tm) : Prop where
  wf : WfT t
  bd : ∀ p, p ∈ t.parts → p.var.toNat < n ∧ p.args.length ≤ 100000

theorem Fit.arg {n : Nat} {t x : Tm} (h : Fit n t) (hx : x ∈ t.args) : Fit n x := ⟨h.wf.arg hx, fun p hp => h.bd p (Tm.parts_arg hx hp)⟩
theorem Fit.pos {n : Nat} {t : Tm} (h : Fit n t) : 0 ≤ t.var ∧ t.var.toNat < n := ⟨h.wf.pos, (h.bd t t.self_mem).1⟩
theorem Fit.len {n : Nat} {t : Tm} (h : Fit n t) : t.args.length ≤ 100000 := (h.bd t t.self_mem).2

/-- What a State's list holds. -/
structure FB (ls : List Tm) : Prop where
  inv : SInv (subB ls)
  each : ∀ t ∈ ls, Fit ls.length t

theorem subB_mem {ls : List Tm} {v : Int} {u : Tm} (h : subB ls v = some u) : u ∈ ls := by
  unfold subB at h
  split at h
  · split at h
    · cases h
    · cases h; exact List.getElem_mem _
  · cases h

theorem FB.look {ls : List Tm} (h : FB ls) {t : Tm} (ht : Fit ls.length t) : Fit ls.length (look (subB ls) t) := by
  obtain ⟨n, hn⟩ := look_spec h.inv.rank.ends t
  generalize Go.Proofs.Ytikmgiapjigghaa.look (subB ls) t = u at *
  induction n generalizing t with
  | zero => obtain ⟨rfl, _⟩ := hn; exact ht
  | succ n ih => obtain ⟨_, t', h1, h2⟩ := hn; exact ih (h.each _ (subB_mem h1)) h2

theorem ownsRow_block {w w' : World} {base : Nat} {e : TypeId} {size : Nat} {v : Value} {n : Nat} {xs : List Value} (h : w.ownsRow base e size v n xs) (hb : ∀ g, v.ownBlock = some g → w'.heap[g]? = w.heap[g]?) : w'.ownsRow base e size v n xs := by
  refine ⟨h.1, ?_⟩
  rcases h.2 with h2 | ⟨g, cap, cur, rfl, h3, h4, r⟩
  · exact .inl h2
  · exact .inr ⟨g, cap, cur, rfl, h3, (hb g rfl).trans h4, r⟩

/-- The block of the State alone is touched. -/
abbrev StR (rs : Nat) : Nat → Prop := fun b => b = rs

theorem RAt.touch {w w' : World} {ok : Nat → Prop} {rs g cap : Nat} {B : List TmAt} {wk : Nat} (h : RAt w ok rs g cap B wk) {M : Nat → Prop} (ht : Touch M w w') (hM : ∀ b, M b → b ≠ rs ∧ b ≠ g ∧ ¬ ok b) : RAt w' ok rs g cap B wk :=
  ⟨(ht.block rs h.lt.1 (fun hm => (hM _ hm).1 rfl)).trans h.blk, ownsRow_block h.row (fun g' hg' => by
    simp only [Value.ownBlock, Option.some.injEq] at hg'; subst hg'; exact ht.block _ h.lt.2 (fun hm => (hM _ hm).2.1 rfl)),
    h.each.keep (ht.keeps fun b hb hm => (hM b hm).2.2 hb), h.ne, fun b hb => ⟨Nat.lt_of_lt_of_le (h.okb b hb).1 ht.size, (h.okb b hb).2⟩⟩

theorem touch_one (w : World) (b o : Nat) (y : Value) : Touch (StR b) w (w.setCell ⟨b, o, none⟩ y) :=
  ⟨rfl, rfl, rfl, by simp [World.setCell], fun b' _ hn => Below.heap_setCell _ _ _ _ hn⟩

theorem RAt.work {w : World} {ok : Nat → Prop} {rs g cap : Nat} {B : List TmAt} {wk : Nat} (h : RAt w ok rs g cap B wk) (wk' : Nat) : RAt (w.setCell ⟨rs, 1, none⟩ (.int .i64 wk')) ok rs g cap B wk' := by
  have ht := touch_one w rs 1 (.int .i64 wk')
  refine ⟨?_, ownsRow_block h.row (fun g' hg' => by
    simp only [Value.ownBlock, Option.some.injEq] at hg'; subst hg'; exact ht.block _ h.lt.2 (fun e => h.ne e.symm)), h.each.keep (ht.keeps fun b hb e => (h.okb b hb).2.1 e), h.ne, fun b hb => ⟨Nat.lt_of_lt_of_le (h.okb b hb).1 ht.size, (h.okb b hb).2⟩⟩
  have hlt := h.lt.1
  have hb := (Array.getElem?_eq_some_iff.1 h.blk).2
  rw [World.setCell]
  simp [hb, Array.getElem_modify, hlt]

theorem RAt.keeps {w w' : World} {ok : Nat → Prop} {rs g cap : Nat} {B : List TmAt} {wk : Nat} (h : RAt w ok rs g cap B wk) (ht : Touch (StR rs) w w') : Keeps ok w w' := ht.keeps fun b hb e => (h.okb b hb).2.1 e

/-- What Within hands back. -/
def WithinPost (w : World) (ok : Nat → Prop) (rs g cap : Nat) (B : List TmAt) (o : WOut) (e : Ending) (w' : World) : Prop :=
  Touch (StR rs) w w' ∧
  match o with
  | .yes f => e = .returned (.int .i64 1) ∧ RAt w' ok rs g cap B (4000 - f)
  | .no f => e = .returned (.int .i64 0) ∧ RAt w' ok rs g cap B (4000 - f)
  | .many => e = .returned (.int .i64 2) ∧ RAt w' ok rs g cap B 4001

/-- What holds at the head of Within's loop. -/
structure WithinRel (w : World) (ok : Nat → Prop) (rs g cap : Nat) (B : List TmAt) (f : Nat) (v : Int) (o : WOut) (L : List TmAt) (fk : Nat) (x : Value) (wr : World) : Prop where
  eq : o = within (subB (B.map (·.1))) v fk (L.map (·.1))
  st : RAt wr ok rs g cap B (4000 - fk)
  le : fk ≤ f
  row : wr.ownsRow (w.heap.size + 1) 24 3 x L.length (flat L)
  each : TsEach wr ok L
  fit : ∀ y ∈ L, Fit B.length y.1
  len : L.length ≤ 1 + (f - fk) * 100000
  touch : Touch (StR rs) w wr
  size : w.heap.size < wr.heap.size

set_option maxRecDepth 100000 in
set_option maxHeartbeats 2000000 in
theorem WithinW {w : World} {ok : Nat → Prop} {rs g cap : Nat} {B : List TmAt} {f : Nat} (hf : f ≤ 4000) (h : RAt w ok rs g cap B (4000 - f)) (hB : FB (B.map (·.1))) {v : Int} (hv : v ≠ 0) {t : Tm} {a : Option Addr} {c : Nat} (hfit : t.fits) (ht : Ts w ok t.args a c) (hin : Fit B.length t) :
    Calls Try.prog 105 #[.pointer (some ⟨rs, 0, none⟩), .int .i64 v, .agg #[.int .i64 t.var, .string t.name, .slice a t.args.length c]] w (WithinPost w ok rs g cap B (within (subB (B.map (·.1))) v f [t])) := by
  have H := Lib.hid h; have HF := Lib.hid hfit; have HT := Lib.hid ht; have HB := Lib.hid hB; have HIN := Lib.hid hin; have HV := Lib.hid hv; have HF4 := Lib.hid hf
  clear h hfit ht hB hin hv hf
  go_enter Try.func105, Try.ntmps105
  go_wp2_with fail
  go_loopg [7] f (fun fk x wr => ∃ L, WithinRel w ok rs g cap B f v (within (subB (B.map (·.1))) v f [t]) L fk x wr)
  case atStart =>
    have hb : Below w.heap.size w ((w.alloc (.cells #[.int .i64 t.var, .string t.name, .slice a t.args.length c] 24)).alloc (.cells #[.int .i64 t.var, .string t.name, .slice a t.args.length c] 24)) :=
      ((Below.refl _ _).alloc (Nat.le_refl _) _).alloc (by simp) _
    refine ⟨[(t, a, c)], rfl, H.out.keep hb, Nat.le_refl _, ?_, (TsEach.one HF.out HT.out).keep (Keeps.below hb _), fun y hy => by rw [List.mem_singleton] at hy; subst hy; exact HIN.out, by simp, Touch.below hb, by simp; omega⟩
    have := World.ownsRow_lit (base := w.heap.size + 1) (e := 24) (size := 3) (w.alloc (.cells #[.int .i64 t.var, .string t.name, .slice a t.args.length c] 24)) #[.int .i64 t.var, .string t.name, .slice a t.args.length c] 1 (by simp) (by unfold maxLen; omega) rfl
    simpa [flat] using this
  case round =>
    obtain ⟨L, hrel⟩ := hrel
    cases L with
    | nil =>
      obtain ⟨a0, c0, rfl⟩ : ∃ a0 c0, u7 = .slice a0 0 c0 := by
        rcases hrel.row.2 with ⟨h1, _⟩ | ⟨g', c', _, h1, _⟩
        · exact ⟨_, _, h1⟩
        · exact ⟨_, _, h1⟩
      have HO : Hid (within (subB (B.map (·.1))) v f [t] = .no gk) := Lib.hid (by rw [hrel.eq]; cases gk <;> rfl)
      have HR := Lib.hid hrel
      clear hrel
      go_wp2_with fail
      go_ret
      rw [HO.out]
      exact ⟨HR.out.touch, rfl, HR.out.st⟩
    | cons y R =>
      obtain ⟨g', c', rfl⟩ : ∃ g' c', u7 = .slice (some ⟨g', 0, none⟩) (R.length + 1) c' := by
        rcases hrel.row.2 with ⟨_, h1⟩ | ⟨g', c', _, h1, _⟩
        · cases h1
        · exact ⟨_, _, h1⟩
      have hlen := hrel.len
      have hw1 := hrel.st.cells.2.1
      have hfr := hrel.st.cells.2.2.1
      have hgf : gk ≤ 4000 := Nat.le_trans hrel.le HF4.out
      have HR := Lib.hid hrel
      clear hrel
      have hR : R.length + 1 ≤ 1000000000 := by simp only [List.length_cons] at hlen; have := HF4.out; omega
      have hcl := HR.out.row.cellAt
      have fl := flat_at (y :: R) 0 (by simp)
      have r0 : wr.cell? ⟨g', 0, none⟩ = some (.int .i64 y.1.var) := (hcl 0 (by omega)).trans fl.1
      have r1 : wr.cell? ⟨g', 1, none⟩ = some (.string y.1.name) := (hcl 1 (by omega)).trans fl.2.1
      have r2 : wr.cell? ⟨g', 2, none⟩ = some (.slice y.2.1 y.1.args.length y.2.2) := (hcl 2 (by omega)).trans fl.2.2
      have hne : g' ≠ rs := by have := (HR.out.row.lt g' rfl).1; have := H.out.lt.1; omega
      have hne' : rs ≠ g' := fun e => hne e.symm
      clear fl hcl
      cases gk with
      | zero =>
        have HO : Hid (within (subB (B.map (·.1))) v f [t] = .many) := Lib.hid (by rw [HR.out.eq]; rfl)
        have S1 := Lib.hid (HR.out.st.work 4001)
        have T1 := Lib.hid (HR.out.touch.trans (touch_one wr rs 1 (.int .i64 ((4001 : Nat) : Int))))
        go_wp2_with fail
        go_ret
        rw [HO.out]
        exact ⟨T1.out, rfl, S1.out⟩
      | succ k =>
        obtain ⟨q, hq⟩ : ∃ q : Nat, 4000 - (k + 1) = q := ⟨_, rfl⟩
        have hq1 : q ≤ 3999 := by omega
        have hq2 : 4000 - k = q + 1 := by omega
        rw [hq] at hw1
        have S1 : Hid (RAt (wr.setCell ⟨rs, 1, none⟩ (.int .i64 ((q : Int) + 1))) ok rs g cap B (4000 - k)) := Lib.hid (by rw [hq2]; exact HR.out.st.work (q + 1))
        have T1 := Lib.hid (HR.out.touch.trans (touch_one wr rs 1 (.int .i64 ((q : Int) + 1))))
        have TX := Lib.hid (touch_one wr rs 1 (.int .i64 ((q : Int) + 1)))
        clear hq hq2
        have HY := Lib.hid (HR.out.each y List.mem_cons_self)
        have HYF := Lib.hid (HR.out.fit y List.mem_cons_self)
        have HIB : Hid (∀ i (hi : i < B.length), InB B B[i].1) := Lib.hid (fun i hi => by
          have := (HB.out.each B[i].1 (List.mem_map.2 ⟨_, List.getElem_mem hi, rfl⟩)).pos
          rw [List.length_map] at this
          exact this)
        obtain ⟨n, hn⟩ := look_spec HB.out.inv.rank.ends y.1
        have HN := Lib.hid hn
        have KX := Lib.hid (HR.out.st.keeps TX.out)
        clear hn
        go_wp2_with fail
        refine (LookAtW S1.out HIB.out HN.out HY.out.1 (HY.out.2.keep KX.out) HYF.out.pos).mono ?_
        rintro e w2 ⟨a', cap', rfl, hf', ht', hb2⟩
        have HFX : Hid (Fit B.length (look (subB (B.map (·.1))) y.1)) := Lib.hid (by
          have := HB.out.look (t := y.1) (by rw [List.length_map]; exact HYF.out)
          rwa [List.length_map] at this)
        have HO : Hid (within (subB (B.map (·.1))) v f [t] = if (look (subB (B.map (·.1))) y.1).var ≠ 0 then (if (look (subB (B.map (·.1))) y.1).var = v then .yes k else within (subB (B.map (·.1))) v k (R.map (·.1))) else within (subB (B.map (·.1))) v k ((look (subB (B.map (·.1))) y.1).args ++ R.map (·.1))) := Lib.hid (by rw [HR.out.eq]; rfl)
        have S2 := Lib.hid (S1.out.keep hb2)
        have T2 := Lib.hid (T1.out.trans (Touch.below hb2))
        have KR := Lib.hid ((Keeps.below (w := wr.setCell ⟨rs, 1, none⟩ (.int .i64 ((q : Int) + 1))) hb2 ok))
        have hrow2 : w2.ownsRow (w.heap.size + 1) 24 3 (.slice (some ⟨g', 0, none⟩) (R.length + 1) c') (R.length + 1) (flat (y :: R)) :=
          ownsRow_below (ownsRow_block HR.out.row (fun gg hgg => by
            simp only [Value.ownBlock, Option.some.injEq] at hgg; subst hgg; exact TX.out.block _ (HR.out.row.lt _ rfl).2 hne)) hb2
        have HRW := Lib.hid hrow2
        have hE2 : TsEach w2 ok R := (TsEach.keep (KX.out.trans KR.out) (fun z hz => HR.out.each z (List.mem_cons_of_mem _ hz)))
        have HE := Lib.hid hE2
        have hsz2 : w.heap.size < w2.heap.size := by have := HR.out.size; have := hb2.size; have := TX.out.size; omega
        have HF' := Lib.hid hf'; have HT' := Lib.hid ht'; have HB2 := Lib.hid hb2
        clear hf' ht' hb2 hrow2 hE2 r0 r1 r2 hw1 hfr KR
        generalize look (subB (B.map (·.1))) y.1 = x at *
        by_cases hxv : x.var = v
        · have hx' : (x.var == v) = true := by rw [beq_iff_eq]; exact hxv
          have hv' : (v != 0) = true := by rw [bne_iff_ne]; exact HV.out
          have HO2 : Hid (within (subB (B.map (·.1))) v f [t] = .yes k) := Lib.hid (by rw [HO.out, if_pos (by rw [hxv]; exact HV.out), if_pos hxv])
          have BA : Below w2.heap.size w2 (w2.alloc (.cells #[.int .i64 x.var, .string x.name, .slice a' x.args.length cap'] 24)) := (Below.refl _ _).alloc (Nat.le_refl _) _
          clear hxv
          go_wp2_with fail
          go_ret
          rw [HO2.out]
          exact ⟨T2.out.trans (Touch.below BA), rfl, S2.out.keep BA⟩
        · have hx' : (x.var == v) = false := by rw [beq_eq_false_iff_ne]; exact hxv
          have HO2 : Hid (within (subB (B.map (·.1))) v f [t] = within (subB (B.map (·.1))) v k (x.args ++ R.map (·.1))) := Lib.hid (by
            rw [HO.out]
            by_cases h0 : x.var ≠ 0
            · rw [if_pos h0, if_neg hxv, ((HFX.out.wf x x.self_mem).2 h0).1]; rfl
            · rw [if_neg h0])
          have BA : Below w2.heap.size w2 (w2.alloc (.cells #[.int .i64 x.var, .string x.name, .slice a' x.args.length cap'] 24)) := (Below.refl _ _).alloc (Nat.le_refl _) _
          have hbx := Box3.made w2 (.int .i64 x.var) (.string x.name) (.slice a' x.args.length cap')
          obtain ⟨i0, hi, hz0, hz1, hz2⟩ := info_parts Try.infoTm
          have hcap : R.length + 1 ≤ c' := by
            rcases HRW.out.2 with ⟨h1, _⟩ | ⟨g2, c2, _, h1, _, _, h2, _⟩
            · cases h1
            · cases h1; exact h2
          clear hxv
          go_wp2_with fail
          generalize w2.alloc (.cells #[.int .i64 x.var, .string x.name, .slice a' x.args.length cap'] 24) = w3 at *
          have hb2c := hbx.c2
          have hk1 : (1 : Int) ≤ (R.length : Int) + 1 := by omega
          have hk2 : (R.length : Int) + 1 ≤ (c' : Int) := by omega
          have HB3 : Hid (Below w2.heap.size w2 w3) := Lib.hid BA
          have KH : Hid (∀ w', Below w3.heap.size w3 w' → w'.cell? ⟨w2.heap.size, 2, none⟩ = some (.slice a' x.args.length cap') ∧ Below w3.heap.size w3 w') := Lib.hid fun w' hb => ⟨(hbx.below hb).c2, hb⟩
          obtain ⟨LX, hLX, hEX, hCX⟩ := (HT'.out.keep (Keeps.below BA ok)).open
          have HLX := Lib.hid hLX; have HEX := Lib.hid hEX
          have hxl : LX.length = x.args.length := by rw [← hLX, List.length_map]
          have HXL := Lib.hid hxl
          have HXN : Hid (a' = none → x.args.length = 0) := Lib.hid (fun e => by have := HT'.out.cap; have := this.2.2 e; omega)
          have HNX : Hid (∀ u, Below w3.heap.size w3 u → ∀ ad, a' = some ad → ∀ j z, (flat LX)[j]? = some z → u.cell? (ad.add j) = some z) := Lib.hid (fun u hb ad had j z hz => by
            have h1 := hCX ad had j z hz
            exact (hb.cell (World.block_lt_of_cell? w3 _ h1)).trans h1)
          have HNR : Hid (∀ u, Below w3.heap.size w3 u → ∀ ad : Addr, (c' = 1 ∨ ad = ⟨g', 3, none⟩) → ∀ j z, (flat R)[j]? = some z → u.cell? (ad.add j) = some z) := Lib.hid (fun u hb ad had j z hz => by
            rcases had with h1 | rfl
            · have : R = [] := List.eq_nil_of_length_eq_zero (by omega)
              subst this
              simp [flat] at hz
            · have h2 := (ownsRow_below HRW.out BA).cellAt (3 + j)
              have hj : j < (flat R).length := (List.getElem?_eq_some_iff.1 hz).1
              rw [flat_length] at hj
              have h3 := h2 (by omega)
              have h4 : (flat (y :: R))[3 + j]? = some z := by
                rw [Nat.add_comm]; exact hz
              rw [h4] at h3
              rw [addr_add]
              exact (hb.cell (World.block_lt_of_cell? w3 _ h3)).trans h3)
          have HL0 := Lib.hid HFX.out.len
          have HOWN0 : Hid ((w3.alloc (.cells #[] 24)).drew.ownsRow w3.heap.size 24 3 (.slice (some ⟨w3.heap.size, 0, none⟩) 0 0) 0 []) := Lib.hid (by
            have := World.ownsRow_lit (base := w3.heap.size) (e := 24) (size := 3) w3 #[] 0 (Nat.le_refl _) (Nat.zero_le _) rfl
            exact this)
          have hl0 := HL0.out
          clear hCX hLX hEX hxl
          go_region_held3 (fun w' => w'.cell? ⟨w2.heap.size, 2, none⟩ = some (.slice a' x.args.length cap') ∧ Below w3.heap.size w3 w')
            (first | assumption | exact KH.out _ (Below.refl _ _).drew | exact KH.out _ ((Below.refl _ _).alloc (Nat.le_refl _) _).drew | exact KH.out _ hbl1.drew | exact KH.out _ hbl2.drew | exact KH.out _ hbl1 | exact KH.out _ hbl2)
            (first
              | (refine step_append_opt _ (by rfl) _ _ _ (by rfl) w3.heap.size 24 i0 _ 3 48 Try.underlying22 hi hz0 hz1 hz2 rfl (by decide) (.slice (some ⟨w3.heap.size, 0, none⟩) 0 0) 0 [] (by rfl) HOWN0.out a' x.args.length cap' HXN.out (flat LX) (by rfl) (by rw [flat_length, HXL.out]) (HNX.out _ (((Below.refl _ _).alloc (Nat.le_refl _) _).drew)) (flat_one LX) (by unfold maxLen; omega) (by omega) (by simp) ?_
                 intro v1 w1 hown1 hgrow1 hfr1
                 have hbl1 : Below w3.heap.size w3 w1 := (((Below.refl _ _).alloc (Nat.le_refl _) _).drew).grown hgrow1 (by simp) (fun g hg => by simp only [Value.ownBlock, Option.some.injEq] at hg; omega))
              | (refine step_append_opt _ (by rfl) _ _ _ (by rfl) w3.heap.size 24 i0 _ 3 48 Try.underlying22 hi hz0 hz1 hz2 rfl (by decide) v1 (0 + x.args.length) ([] ++ flat LX) (by rfl) (by first | exact hown1 | exact hown1.drew) _ R.length _ ?_ (flat R) (by rfl) (by rw [flat_length]) ?_ (flat_one R) (by unfold maxLen; omega) (by omega) (by have := hbl1.size; simp; omega) ?_
                 · intro h; split at h <;> cases h
                 · intro ad had; refine HNR.out _ hbl1 ad ?_
                   revert had; split
                   · intro _; exact .inl (by assumption)
                   · intro h; cases h; exact .inr rfl
                 intro v2 w5 hown2 hgrow2 hfr2
                 have hbl2 : Below w3.heap.size w3 w5 := hbl1.grown hgrow2 hbl1.size (fun g hg => (hown1.lt g hg).1)))
          all_goals
            have HROW := Lib.hid hown2
            have HBL := Lib.hid hbl2
            go_wp2_with fail
            all_goals
              go_roundg k
              case measure => omega
              case rel =>
                have hb := HBL.out
                have hr := HROW.out
                refine ⟨LX ++ R, ?_, S2.out.keep (HB3.out.trans (hb.mono HB3.out.size)), Nat.le_trans (Nat.le_succ k) HR.out.le, ?_, ?_, ?_, ?_, (T2.out.trans (Touch.below HB3.out)).trans (Touch.below hb), by have := HB3.out.size; have := hb.size; omega⟩
                · rw [HO2.out, List.map_append, HLX.out]
                · rw [List.length_append, flat_append, HXL.out]
                  rw [Nat.zero_add, List.nil_append] at hr
                  refine ⟨hr.1, hr.2.imp id ?_⟩
                  rintro ⟨gg, cc, cur, h1, h2, h3⟩
                  exact ⟨gg, cc, cur, h1, by have := HB3.out.size; omega, h3⟩
                · exact (HEX.out.keep (Keeps.below hb ok)).append ((HE.out.keep (Keeps.below HB3.out ok)).keep (Keeps.below hb ok))
                · intro z hz
                  rcases List.mem_append.1 hz with h1 | h1
                  · exact HFX.out.arg (by rw [← HLX.out]; exact List.mem_map.2 ⟨z, h1, rfl⟩)
                  · exact HR.out.fit z (List.mem_cons_of_mem _ h1)
                · have h1 := HR.out.len
                  have h2 := HR.out.le
                  rw [List.length_append, HXL.out]
                  simp only [List.length_cons] at h1
                  omega

end Go.Proofs.Ytikmgiapjigghaa
