/- Walk: bind a variable. -/
import Derived.Test.YtikmgiapjigghaaUni
namespace Go.Proofs.Ytikmgiapjigghaa
open Go.RowKit

/-- Which variable becomes which term. -/
def bindS (v : Int) (t : Tm) : Int × Tm := if v < t.var then (t.var, .mk v ⟨#[]⟩ []) else (v, t)

/-- One variable more is something. -/
def upd (σ : Sub) (k : Int) (u : Tm) : Sub := fun x => if x = k then some u else σ x

/-- What bind hands back. -/
def BindPost (w : World) (ok : Nat → Prop) (bs bm : Nat) (tv : Value) (σ : Sub) (L : List Int) (v : Int) (t : Tm) (o : WOut) (e : Ending) (w' : World) : Prop :=
  Touch (StM bs bm tv) w w' ∧
  match o with
  | .yes f => e = .returned (.tuple #[.bool false, .int .i64 0]) ∧ StAt w' ok bs bm tv σ L (4000 - f)
  | .no f => e = .returned (.tuple #[.bool true, .int .i64 0]) ∧ ∃ tv', Fresh w tv tv' ∧ StAt w' ok bs bm tv' (upd σ (bindS v t).1 (bindS v t).2) (L ++ [(bindS v t).1]) (4000 - f)
  | .many => e = .returned (.tuple #[.bool false, .int .i64 2]) ∧ StAt w' ok bs bm tv σ L 4001

theorem Try.infoI : (Try.prog.info? 3).map (fun i => (i.zero, i.size, i.bytes)) = some (some (.int .i64 0), 1, 8) := by kernel_rfl

theorem Ts.empty' (w : World) (ok : Nat → Prop) : Ts w ok [] none 0 :=
  .mk [] none 0 ⟨Nat.le_refl _, Nat.zero_le _, fun _ => rfl⟩ (fun _ => (none, 0)) (fun i hi => by cases hi) (fun i hi => by cases hi)

/-- A store whose map has one more entry, and whose trail has not. -/
structure StMid (w : World) (ok : Nat → Prop) (bs bm : Nat) (tv : Value) (σ : Int → Option Tm) (L : List Int) (wk : Nat) : Prop where
  blk : w.heap[bs]? = some (.cells #[.map (some bm), tv, .int .i64 wk] 102 (0, 0))
  trail : w.ownsRow 0 3 1 tv L.length (L.map (Value.int .i64))
  map : ∃ f, IMap Try.prog 3 w bm (L.length + 1) f ∧ ∀ k, MapTm w ok (σ k) (f k)
  ne : bs ≠ bm ∧ tv.ownBlock ≠ some bs ∧ tv.ownBlock ≠ some bm
  okb : ∀ b, ok b → b < w.heap.size ∧ ¬ StM bs bm tv b

theorem StMid.cell1 {w : World} {ok : Nat → Prop} {bs bm : Nat} {tv : Value} {σ : Int → Option Tm} {L : List Int} {wk : Nat} (h : StMid w ok bs bm tv σ L wk) : w.cell? ⟨bs, 1, none⟩ = some tv ∧ ∀ o, w.frozen? ⟨bs, o, none⟩ = false :=
  ⟨by simp [World.cell?, h.blk], fun o => by simp [World.frozen?, h.blk]⟩

theorem own_shape {w : World} {base : Nat} {e : TypeId} {size : Nat} {v : Value} {n : Nat} {xs : List Value} (h : w.ownsRow base e size v n xs) (hn : 1 ≤ n) : ∃ g cap, v = .slice (some ⟨g, 0, none⟩) n cap := by
  rcases h.2 with ⟨_, h1⟩ | ⟨g, cap, cur, h1, _⟩
  · omega
  · exact ⟨g, cap, h1⟩

theorem one_cell (w : World) (v : Value) (e : TypeId) : ∀ j u, [v][j]? = some u → (w.alloc (.cells #[v] e)).cell? ((⟨w.heap.size, 0, none⟩ : Addr).add j) = some u := by
  intro j u hu
  have : j = 0 := by
    have := (List.getElem?_eq_some_iff.1 hu).1
    simpa using this
  subst this
  simp only [List.getElem?_cons_zero, Option.some.injEq] at hu
  subst hu
  simp [Addr.add, World.cell?, World.alloc, -World.alloc_eq]

theorem Fresh.old {w1 w0 : World} {v v' : Value} (h : Fresh w1 v v') (h2 : w0.heap.size ≤ w1.heap.size) : Fresh w0 v v' := by
  rcases h with h | h
  · exact .inl h
  · exact .inr fun g hg => Nat.le_trans h2 (h g hg)

theorem StMid.push {w : World} {ok : Nat → Prop} {bs bm : Nat} {tv : Value} {σ : Int → Option Tm} {L : List Int} {wk : Nat} (h : StMid w ok bs bm tv σ L wk) {k : Int} {tv' : Value} {X3 : World}
    (ho : X3.ownsRow 0 3 1 tv' (L.length + 1) (L.map (Value.int .i64) ++ [.int .i64 k])) (hg : (w.alloc (.cells #[.int .i64 k] 3)).grownBy X3 tv.ownBlock) (hf : Fresh (w.alloc (.cells #[.int .i64 k] 3)) tv tv') :
    StAt (X3.setCell ⟨bs, 1, none⟩ tv') ok bs bm tv' σ (L ++ [k]) wk ∧ Fresh w tv tv' ∧ Touch (StM bs bm tv) w (X3.setCell ⟨bs, 1, none⟩ tv') := by
  obtain ⟨f, h1, h2⟩ := h.map
  have hlt : bs < w.heap.size := (Array.getElem?_eq_some_iff.1 h.blk).1
  have hA : Touch (StM bs bm tv) w (w.alloc (.cells #[.int .i64 k] 3)) := Touch.below ((Below.refl _ _).alloc (Nat.le_refl _) _)
  have hG : Touch (StM bs bm tv) (w.alloc (.cells #[.int .i64 k] 3)) X3 := Touch.grown hg (fun k e => .inr (.inr e))
  have hS : Touch (StM bs bm tv) X3 (X3.setCell ⟨bs, 1, none⟩ tv') := Touch.setCell _ (.inl rfl)
  have hT := (hA.trans hG).trans hS
  have hF : Fresh w tv tv' := hf.old (by simp)
  have hbs : X3.heap[bs]? = w.heap[bs]? := (hg.block bs (by simp; omega) (fun e => h.ne.2.1 e.symm)).trans (Below.heap_alloc _ _ _ hlt)
  have hbm : X3.heap[bm]? = w.heap[bm]? := (hg.block bm (by have := h1.lt; simp; omega) (fun e => h.ne.2.2 e.symm)).trans (Below.heap_alloc _ _ _ h1.lt)
  have hne : tv'.ownBlock ≠ some bs ∧ tv'.ownBlock ≠ some bm := by
    rcases hF with e | e
    · rw [e]; exact h.ne.2
    · exact ⟨fun x => by have := e bs x; omega, fun x => by have := e bm x; have := h1.lt; omega⟩
  have hK : Keeps ok w (X3.setCell ⟨bs, 1, none⟩ tv') := hT.keeps fun b hb => (h.okb b hb).2
  refine ⟨⟨?_, ?_, ⟨f, ?_, fun x => (h2 x).keep hK⟩, ⟨h.ne.1, hne⟩, fun b hb => ⟨Nat.lt_of_lt_of_le (h.okb b hb).1 hT.size, ?_⟩⟩, hF, hT⟩
  · rw [heap_setCell_at _ _ _ _ (hbs.trans h.blk)]; rfl
  · have : (L ++ [k]).map (Value.int .i64) = L.map (Value.int .i64) ++ [.int .i64 k] := by simp
    rw [this, List.length_append]
    exact ho.kept (row := some bs) ⟨hS.os, hS.tape, hS.output, hS.size, fun j _ hj => Below.heap_setCell _ _ _ _ (fun e => hj (by rw [e]))⟩ (.inr hne.1)
  · have e : (L ++ [k]).length = L.length + 1 := by simp
    rw [e]
    exact h1.kept ((Below.heap_setCell _ _ _ _ (fun e => h.ne.1 e.symm)).trans hbm)
  · rintro (rfl | rfl | e)
    · exact (h.okb _ hb).2 (.inl rfl)
    · exact (h.okb _ hb).2 (.inr (.inl rfl))
    · rcases hF with e2 | e2
      · exact (h.okb _ hb).2 (.inr (.inr (e2 ▸ e)))
      · have := e2 b e; have := (h.okb b hb).1; omega

theorem StMid.after {w : World} {ok : Nat → Prop} {bs bm : Nat} {tv : Value} {σ : Int → Option Tm} {L : List Int} {wk : Nat} (h : StMid w ok bs bm tv σ L wk) {o : Obj} {X3 : World} (hg : (w.alloc o).grownBy X3 tv.ownBlock) :
    X3.cell? ⟨bs, 1, none⟩ = some tv ∧ ∀ o, X3.frozen? ⟨bs, o, none⟩ = false := by
  have hlt : bs < w.heap.size := (Array.getElem?_eq_some_iff.1 h.blk).1
  have hbs : X3.heap[bs]? = w.heap[bs]? := (hg.block bs (by simp; omega) (fun e => h.ne.2.1 e.symm)).trans (Below.heap_alloc _ _ _ hlt)
  have hb := hbs.trans h.blk
  exact ⟨by simp [World.cell?, hb], fun o => by simp [World.frozen?, hb]⟩

theorem StAt.store {w : World} {ok : Nat → Prop} {bs bm : Nat} {tv : Value} {σ : Int → Option Tm} {L : List Int} {wk : Nat} (h : StAt w ok bs bm tv σ L wk) {k : Int} (hk : I64 k) (hn : σ k = none) (hL : L.length ≤ 1000000) {u : Tm} (hf : u.fits) {a : Option Addr} {cap : Nat} (ht : Ts w ok u.args a cap) :
    ∃ w', (Instr.mapUpdate 100 (.map (some bm)) (.int .i64 k) (.agg #[.int .i64 u.var, .string u.name, .slice a u.args.length cap])).run Try.prog w = .ok () w' ∧ StMid w' ok bs bm tv (upd σ k u) L wk ∧ w.grownBy w' (some bm) := by
  obtain ⟨f, h1, h2⟩ := h.map
  have hfk : f k = none := by have := h2 k; rw [hn] at this; exact this
  obtain ⟨w', hrun, h3, hg⟩ := h1.store keyedI Try.underlying3 Try.underlying100 (by unfold maxLen; omega) hk (.agg #[.int .i64 u.var, .string u.name, .slice a u.args.length cap]) hfk
  have hT : Touch (StM bs bm tv) w w' := Touch.grown hg (fun k e => by cases e; exact .inr (.inl rfl))
  have hK := h.keeps hT
  refine ⟨w', hrun, ⟨(hg.block bs h.lt (fun e => h.ne.1 (by injection e))).trans h.blk, h.trail.kept hg (.inr h.ne.2.2), ⟨_, h3, fun x => ?_⟩, h.ne, fun b hb => ⟨Nat.lt_of_lt_of_le (h.okb b hb).1 hg.size, (h.okb b hb).2⟩⟩, hg⟩
  by_cases e : x = k
  · subst e
    simp only [upd, setAt, if_true]
    exact ⟨a, cap, rfl, hf, ht.keep hK⟩
  · simp only [upd, setAt, if_neg e]
    exact (h2 x).keep hK

set_option maxRecDepth 100000 in
set_option maxHeartbeats 4000000 in
theorem bindW {ok : Nat → Prop} {bs bm : Nat} {tv : Value} {σ : Sub} {L : List Int} (hE : Ends σ) (v : Int) (f : Nat) (t : Tm) (a : Option Addr) (cap : Nat) (w : World) (hf4 : f ≤ 4000) (hst : StAt w ok bs bm tv σ L (4000 - f)) (hfit : t.fits) (hts : Ts w ok t.args a cap)
    (hvi : I64 v) (hvn : σ v = none) (htn : v < t.var → σ t.var = none) (hL : L.length ≤ 1000000) :
    Calls Try.prog 103 #[.pointer (some ⟨bs, 0, none⟩), .int .i64 v, .agg #[.int .i64 t.var, .string t.name, .slice a t.args.length cap]] w (BindPost w ok bs bm tv σ L v t (within σ v f [t])) := by
  have HE := Lib.hid hE; have HST := Lib.hid hst; have HF := Lib.hid hfit; have HT := Lib.hid hts
  clear hE hst hfit hts
  have HVI := Lib.hid hvi; have HVN := Lib.hid hvn; have HTN := Lib.hid htn
  clear hvi hvn htn
  have B0 : Below w.heap.size w (w.alloc (.cells #[.int .i64 t.var, .string t.name, .slice a t.args.length cap] 24)) := (Below.refl _ _).alloc (Nat.le_refl _) _
  have S0 := Lib.hid (HST.out.keep B0)
  go_enter Try.func103, Try.ntmps103
  go_wp2_with fail
  refine (standsW HE.out v f t a cap _ hf4 S0.out HF.out (HT.out.keep (Keeps.below B0 ok))).mono ?_
  intro e w1 hpost
  have HLE := Lib.hid (within_le σ v f [t])
  generalize within σ v f [t] = o at *
  cases o with
  | yes f' =>
    obtain ⟨ht1, rfl, hs1⟩ := hpost
    have HS1 := Lib.hid hs1; have HT1 := Lib.hid ht1
    clear hs1 ht1
    go_wp2_with fail
    go_ret2
    exact ⟨(Touch.below B0).trans HT1.out, rfl, HS1.out⟩
  | many =>
    obtain ⟨ht1, rfl, hs1⟩ := hpost
    have HS1 := Lib.hid hs1; have HT1 := Lib.hid ht1
    clear hs1 ht1
    go_wp2_with fail
    go_ret2
    exact ⟨(Touch.below B0).trans HT1.out, rfl, HS1.out⟩
  | no f' =>
    obtain ⟨ht1, rfl, hs1⟩ := hpost
    have hbx : Box3 w1 w.heap.size (.int .i64 t.var) (.string t.name) (.slice a t.args.length cap) := (Box3.made w _ _ _).keep (ht1.block _ (by simp) (HST.out.notM (Nat.le_refl _)))
    have b0 := hbx.c0; have b1 := hbx.c1; have b2 := hbx.c2; have bz := hbx.fz
    have T1 := Lib.hid ((Touch.below (M := StM bs bm tv) B0).trans ht1)
    have HK1 := Lib.hid (HST.out.keeps T1.out)
    have HS1 := Lib.hid hs1
    clear hs1 ht1
    by_cases hlt : v < t.var
    · go_wp2_with fail
      have hput := hbx.put (.int .i64 v) (.string ⟨#[]⟩) (.slice none 0 0)
      have HSX : Hid (StAt (((w1.setCell ⟨w.heap.size, 0, none⟩ (.int .i64 v)).setCell ⟨w.heap.size, 1, none⟩ (.string ⟨#[]⟩)).setCell ⟨w.heap.size, 2, none⟩ (.slice none 0 0)) ok bs bm tv σ L (4000 - f')) :=
        Lib.hid (HS1.out.touch (touch_put _ _ _ _ _) (fun b hb => by subst hb; exact ⟨HST.out.notM (Nat.le_refl _), fun hk => by have := (HST.out.okb _ hk).1; omega⟩))
      have HTX : Hid (Touch (StM bs bm tv) w (((w1.setCell ⟨w.heap.size, 0, none⟩ (.int .i64 v)).setCell ⟨w.heap.size, 1, none⟩ (.string ⟨#[]⟩)).setCell ⟨w.heap.size, 2, none⟩ (.slice none 0 0))) :=
        Lib.hid ⟨T1.out.os, T1.out.tape, T1.out.output, Nat.le_trans T1.out.size (touch_put w1 w.heap.size _ _ _).size, fun b hb hn => ((touch_put w1 w.heap.size _ _ _).block b (Nat.lt_of_lt_of_le hb T1.out.size) (fun e => by omega)).trans (T1.out.block b hb hn)⟩
      clear b0 b1 b2 bz hbx HS1 T1 HK1
      generalize ((w1.setCell ⟨w.heap.size, 0, none⟩ (.int .i64 v)).setCell ⟨w.heap.size, 1, none⟩ (.string ⟨#[]⟩)).setCell ⟨w.heap.size, 2, none⟩ (.slice none 0 0) = X at *
      have b0 := hput.c0; have b1 := hput.c1; have b2 := hput.c2
      have HKI : Hid (I64 t.var) := Lib.hid HF.out.1
      have HKN : Hid (σ t.var = none) := Lib.hid (HTN.out hlt)
      have HUF : Hid (Tm.fits (.mk v ⟨#[]⟩ [])) := Lib.hid ⟨HVI.out, Nat.zero_le _⟩
      have HUT : Hid (Ts X ok (Tm.args (.mk v ⟨#[]⟩ [])) none 0) := Lib.hid (Ts.empty' _ _)
      have HB : Hid (bindS v t = (t.var, .mk v ⟨#[]⟩ [])) := Lib.hid (by unfold bindS; rw [if_pos hlt])
      clear hlt
      have hs0 := HSX.out.cells.1; have hs1 := HSX.out.cells.2.1; have hs2 := HSX.out.cells.2.2.2
      have HSD := Lib.hid (HSX.out.keep ((Below.refl _ _).drew))
      obtain ⟨X1, hrun, hst1, hg1⟩ := HSD.out.store HKI.out HKN.out (by omega) HUF.out (HUT.out.keep (Keeps.below ((Below.refl _ _).drew) ok))
      replace hrun : (Instr.mapUpdate 100 (.map (some bm)) (.int .i64 t.var) (.agg #[.int .i64 v, .string ⟨#[]⟩, .slice none 0 0])).run Try.prog X.drew = .ok () X1 := hrun
      have HST1 := Lib.hid hst1; have HG1 := Lib.hid hg1
      obtain ⟨x1, fz1⟩ := HST1.out.cell1
      have HT1 : Hid (Touch (StM bs bm tv) w X1) := Lib.hid (HTX.out.trans ((Touch.below ((Below.refl _ _).drew)).trans (Touch.grown (w := X.drew) hg1 (fun k e => by cases e; exact .inr (.inl rfl)))))
      clear hst1 hg1 HG1
      obtain ⟨i0, hi, hz0, hz1, hz2⟩ := info_parts Try.infoI
      have hown := Lib.hid (HST1.out.trail.alloc (.cells #[.int .i64 t.var] 3))
      go_region
      all_goals
        go_wp2_with (at_builtin; refine wpList_append_fresh _ rfl _ _ 44 rfl 0 3 i0 _ 1 8 Try.underlying44 hi hz0 hz1 hz2 rfl (by decide) _ _ _ rfl hown.out ⟨X1.heap.size, 0, none⟩ 1 1 [.int .i64 t.var] rfl rfl ?c1 ?c2 ?c3 ?c4 ?c5 ?_)
        · exact one_cell _ _ _
        · intro u hu; simp only [List.mem_singleton] at hu; subst hu; rfl
        · unfold maxLen; omega
        · omega
        · omega
        · intro tv' X3 hown3 hg3 hfr3
          obtain ⟨g3, cap3, rfl⟩ := own_shape hown3 (by omega)
          have hp := HST1.out.push hown3 hg3 hfr3
          have HP := Lib.hid hp
          obtain ⟨y1, fz3⟩ := HST1.out.after hg3
          clear hp hown3 hg3 hfr3 hown
          go_wp2_with fail
          go_ret2
          exact ⟨HT1.out.trans HP.out.2.2, rfl, _, HP.out.2.1.old HT1.out.size, by rw [HB.out]; exact HP.out.1⟩
    · have hlt' : t.var ≤ v := by omega
      go_wp2_with fail
      have HKI : Hid (I64 v) := HVI
      have HKN : Hid (σ v = none) := HVN
      have HUF : Hid t.fits := HF
      have HUT : Hid (Ts w1 ok t.args a cap) := Lib.hid (HT.out.keep HK1.out)
      have HSX := HS1; have HTX := T1
      have HB : Hid (bindS v t = (v, t)) := Lib.hid (by unfold bindS; rw [if_neg (by omega)])
      clear hlt hlt' HS1 T1 HK1
      generalize w1 = X at *
      have hs0 := HSX.out.cells.1; have hs1 := HSX.out.cells.2.1; have hs2 := HSX.out.cells.2.2.2
      have HSD := Lib.hid (HSX.out.keep ((Below.refl _ _).drew))
      obtain ⟨X1, hrun, hst1, hg1⟩ := HSD.out.store HKI.out HKN.out (by omega) HUF.out (HUT.out.keep (Keeps.below ((Below.refl _ _).drew) ok))
      have HST1 := Lib.hid hst1; have HG1 := Lib.hid hg1
      obtain ⟨x1, fz1⟩ := HST1.out.cell1
      have HT1 : Hid (Touch (StM bs bm tv) w X1) := Lib.hid (HTX.out.trans ((Touch.below ((Below.refl _ _).drew)).trans (Touch.grown (w := X.drew) hg1 (fun k e => by cases e; exact .inr (.inl rfl)))))
      clear hst1 hg1 HG1
      obtain ⟨i0, hi, hz0, hz1, hz2⟩ := info_parts Try.infoI
      have hown := Lib.hid (HST1.out.trail.alloc (.cells #[.int .i64 v] 3))
      go_region
      all_goals
        go_wp2_with (at_builtin; refine wpList_append_fresh _ rfl _ _ 44 rfl 0 3 i0 _ 1 8 Try.underlying44 hi hz0 hz1 hz2 rfl (by decide) _ _ _ rfl hown.out ⟨X1.heap.size, 0, none⟩ 1 1 [.int .i64 v] rfl rfl ?d1 ?d2 ?d3 ?d4 ?d5 ?_)
        · exact one_cell _ _ _
        · intro u hu; simp only [List.mem_singleton] at hu; subst hu; rfl
        · unfold maxLen; omega
        · omega
        · omega
        · intro tv' X3 hown3 hg3 hfr3
          obtain ⟨g3, cap3, rfl⟩ := own_shape hown3 (by omega)
          have hp := HST1.out.push hown3 hg3 hfr3
          have HP := Lib.hid hp
          obtain ⟨y1, fz3⟩ := HST1.out.after hg3
          clear hp hown3 hg3 hfr3 hown
          go_wp2_with fail
          go_ret2
          exact ⟨HT1.out.trans HP.out.2.2, rfl, _, HP.out.2.1.old HT1.out.size, by rw [HB.out]; exact HP.out.1⟩

end Go.Proofs.Ytikmgiapjigghaa
