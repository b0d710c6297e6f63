/- Walk: Unify. -/
import Derived.Deep.DeepCutAuto
import Derived.WalkSpells
import Derived.Test.YtikmgiapjigghaaSs03
import Derived.Test.YtikmgiapjigghaaSs07
import Derived.Test.YtikmgiapjigghaaSs08
import Derived.Test.YtikmgiapjigghaaSs10
import Derived.Test.YtikmgiapjigghaaSs11
import Derived.Test.YtikmgiapjigghaaSs12
namespace Go.Proofs.Ytikmgiapjigghaa
open Go.RowKit

/-- What Unify answers, errors too. -/
inductive UA where
  | err (n : Nat)
  | no (k : Nat)
  | ok (l : List Tm) (k : Nat)

def uOutA : UOut → UA
  | .no k => .no k
  | .many => .err 2
  | .ok l k => .ok l k

noncomputable def uA (a b : Tm) : UA := if a.checkE ≠ 0 then .err a.checkE else if b.checkE ≠ 0 then .err b.checkE else uOutA (uP a b)

def UPost (w : World) (ok : Nat → Prop) (o : UA) (e : Ending) (w' : World) : Prop :=
  Below w.heap.size w w' ∧
  match o with
  | .err n => e = .returned (.tuple #[.slice none 0 0, .bool false, .int .i64 0, .int .i64 n])
  | .no k => e = .returned (.tuple #[.slice none 0 0, .bool false, .int .i64 k, .int .i64 0])
  | .ok l k => ∃ a cap, e = .returned (.tuple #[.slice a l.length cap, .bool true, .int .i64 k, .int .i64 0]) ∧ Ts w' (OkN ok w) l a cap

/-- One term more in a slice under construction. -/
theorem OwnTs.more {wb wr wX w1 X2 w2 : World} {ok : Nat → Prop} {L : List TmAt} {x x' : Value} (h : OwnTs wr wb.heap.size (OkN ok wb) x L) (hw : Below wb.heap.size wb wr) (hok : ∀ b, ok b → b < wb.heap.size) (hX : wr.heap.size ≤ wX.heap.size)
    (hb : Below wr.heap.size wr w1) {t : Tm} {a : Option Addr} {c : Nat} (hf : t.fits) (ht : Ts w1 (OkN ok wX) t.args a c) (hX2 : Below w1.heap.size w1 X2)
    (ho : w2.ownsRow wb.heap.size 24 3 x' (L.length + 1) (flat L ++ flat [(t, a, c)])) (hg : X2.grownBy w2 x.ownBlock) (hfr : Fresh X2 x x') :
    OwnTs w2 wb.heap.size (OkN ok wb) x' (L ++ [(t, a, c)]) ∧ Below wb.heap.size wb w2 := by
  have hxb : ∀ g, x.ownBlock = some g → wb.heap.size ≤ g ∧ g < wr.heap.size := fun g hg => h.block hg
  have hW : Below wr.heap.size wr X2 := hb.trans (hX2.mono hb.size)
  have hE : TsEach X2 (Free x (OkN ok wb)) [(t, a, c)] := by
    refine TsEach.one hf ((ht.keep (Keeps.below hX2 _)).mono fun b _ hk => ?_)
    rcases hk with hk | hk
    · exact ⟨.inl hk, fun e => by have := (hxb b e).1; have := hok b hk; omega⟩
    · exact ⟨.inr (by have := hw.size; omega), fun e => by have := (hxb b e).2; omega⟩
  have h2 : OwnTs w2 wb.heap.size (OkN ok wb) x' (L ++ [(t, a, c)]) := (h.below hW).append hE (by simpa using ho) hg hfr
  refine ⟨h2, ?_⟩
  have hT : Touch (fun b => x.ownBlock = some b) X2 w2 := Touch.grown hg fun k e => e
  exact (hw.trans (hW.mono hw.size)).trans (hT.toBelow (Nat.le_trans hw.size hW.size) fun b e => (hxb b e).1)

theorem OwnTs.form {w : World} {base : Nat} {ok : Nat → Prop} {L : List TmAt} {x : Value} (h : OwnTs w base ok x L) : ∃ a cap, x = .slice a L.length cap := by
  rcases h.own.2 with ⟨h1, h2⟩ | ⟨g, cap, cur, h1, _⟩
  · exact ⟨none, 0, by rw [h1, h2]⟩
  · exact ⟨_, _, h1⟩

theorem OwnTs.ret {w wb wr : World} {ok : Nat → Prop} {L : List TmAt} {x : Value} (h : OwnTs wr wb.heap.size (OkN ok wb) x L) (hw : w.heap.size ≤ wb.heap.size) : ∃ a cap, x = .slice a (L.map (·.1)).length cap ∧ Ts wr (OkN ok w) (L.map (·.1)) a cap := by
  have h1 : TsEach wr (OkN ok w) L := h.each.mono fun b _ hk => by
    rcases hk.1 with h3 | h3
    · exact .inl h3
    · exact .inr (by omega)
  have ho : wr.ownsRow w.heap.size 24 3 x L.length (flat L) := by
    refine ⟨h.own.1, h.own.2.imp id ?_⟩
    rintro ⟨g, cap, cur, a1, a2, a3⟩
    exact ⟨g, cap, cur, a1, Nat.le_trans hw a2, a3⟩
  exact Ts.of_row ho (fun b hb => .inr hb) h1

/-- Names that stay. -/
theorem ren_id {σ : Sub} : ∀ (m : Nat) (l : List Tm) (x : List Tm × Nat), thrL σ m l = some x → (Tm.rens (S := Unit) (fun _ v => (v, ())) () x.1).1 = x.1 := by
  intro m
  induction m using Nat.strongRecOn with
  | _ m ih =>
  intro l x h
  cases l with
  | nil => rw [thrL_nil] at h; cases h; rfl
  | cons t r =>
    cases m with
    | zero => rw [thrL_zero] at h; cases h
    | succ m =>
      by_cases hv : (look σ t).var = 0
      · rw [thrL_fn hv] at h
        obtain ⟨y, hy, h2⟩ := Option.bind_eq_some_iff.1 h
        obtain ⟨z, hz, rfl⟩ := Option.map_eq_some_iff.1 h2
        have h3 := (thrL_le _ _ _ hy).1
        have e1 := ih m (by omega) _ y hy
        have e2 := ih y.2 (by omega) _ z hz
        simp only [Tm.rens, Tm.ren, ne_eq, not_true_eq_false, if_false, e1, e2]
      · rw [thrL_var hv] at h
        obtain ⟨z, hz, rfl⟩ := Option.map_eq_some_iff.1 h
        have e2 := ih m (by omega) _ z hz
        simp only [Tm.rens, Tm.ren, if_pos hv, e2]

theorem outs_le {σ : Sub} : ∀ n m : Nat, n ≤ m → outs σ n = none → outs σ m = none := by
  intro n m
  induction m with
  | zero => intro h h2; have : n = 0 := by omega
            subst this; exact h2
  | succ m ih =>
    intro h h2
    by_cases e : n = m + 1
    · subst e; exact h2
    · simp only [outs]; rw [ih (by omega) h2]; rfl

theorem SInv.none : SInv (fun _ => Option.none) := Sim.start.inv

set_option maxRecDepth 100000 in
set_option maxHeartbeats 4000000 in
theorem UnifyW {w : World} {ok : Nat → Prop} (hok : ∀ b, ok b → b < w.heap.size) {s t : Tm} {a1 a2 : Option Addr} {c1 c2 : Nat} (hs : s.fits) (ht : t.fits) (h1 : Ts w ok s.args a1 c1) (h2 : Ts w ok t.args a2 c2) :
    Calls Try.prog 22 #[.agg #[.int .i64 s.var, .string s.name, .slice a1 s.args.length c1], .agg #[.int .i64 t.var, .string t.name, .slice a2 t.args.length c2]] w (UPost w ok (uA s t)) := by
  have HOK := Lib.hid hok; have HS := Lib.hid hs; have HT := Lib.hid ht; have H1 := Lib.hid h1; have H2 := Lib.hid h2
  clear hok hs ht h1 h2
  have hA0 : Box3 (((w.alloc (.cells #[.int .i64 s.var, .string s.name, .slice a1 s.args.length c1] 24)).alloc (.cells #[.int .i64 t.var, .string t.name, .slice a2 t.args.length c2] 24)).alloc (.cells #[.int .i64 s.var, .string s.name, .slice a1 s.args.length c1, .int .i64 t.var, .string t.name, .slice a2 t.args.length c2] 24)) w.heap.size (.int .i64 s.var) (.string s.name) (.slice a1 s.args.length c1) := ((Box3.made w _ _ _).alloc _).alloc _
  have hA1 : Box3 (((w.alloc (.cells #[.int .i64 s.var, .string s.name, .slice a1 s.args.length c1] 24)).alloc (.cells #[.int .i64 t.var, .string t.name, .slice a2 t.args.length c2] 24)).alloc (.cells #[.int .i64 s.var, .string s.name, .slice a1 s.args.length c1, .int .i64 t.var, .string t.name, .slice a2 t.args.length c2] 24)) (w.heap.size + 1) (.int .i64 t.var) (.string t.name) (.slice a2 t.args.length c2) := (Box3.made2 (by simp)).alloc _
  have hA2 : (((w.alloc (.cells #[.int .i64 s.var, .string s.name, .slice a1 s.args.length c1] 24)).alloc (.cells #[.int .i64 t.var, .string t.name, .slice a2 t.args.length c2] 24)).alloc (.cells #[.int .i64 s.var, .string s.name, .slice a1 s.args.length c1, .int .i64 t.var, .string t.name, .slice a2 t.args.length c2] 24)).heap[w.heap.size + 2]? = some (.cells #[.int .i64 s.var, .string s.name, .slice a1 s.args.length c1, .int .i64 t.var, .string t.name, .slice a2 t.args.length c2] 24 (0, 0)) := by
    have := heap_alloc_new ((w.alloc (.cells #[.int .i64 s.var, .string s.name, .slice a1 s.args.length c1] 24)).alloc (.cells #[.int .i64 t.var, .string t.name, .slice a2 t.args.length c2] 24)) (.cells #[.int .i64 s.var, .string s.name, .slice a1 s.args.length c1, .int .i64 t.var, .string t.name, .slice a2 t.args.length c2] 24)
    simpa using this
  have hB0 : Below w.heap.size w (((w.alloc (.cells #[.int .i64 s.var, .string s.name, .slice a1 s.args.length c1] 24)).alloc (.cells #[.int .i64 t.var, .string t.name, .slice a2 t.args.length c2] 24)).alloc (.cells #[.int .i64 s.var, .string s.name, .slice a1 s.args.length c1, .int .i64 t.var, .string t.name, .slice a2 t.args.length c2] 24)) := (((Below.refl _ _).alloc (Nat.le_refl _) _).alloc (by simp) _).alloc (by simp; omega) _
  have HA0 := Lib.hid hA0; have HA1 := Lib.hid hA1; have HA2 := Lib.hid hA2; have HB0 := Lib.hid hB0
  clear hA0 hA1 hA2 hB0
  go_enter Try.func22, Try.ntmps22
  go_wp2_with fail
  generalize (((w.alloc (.cells #[.int .i64 s.var, .string s.name, .slice a1 s.args.length c1] 24)).alloc (.cells #[.int .i64 t.var, .string t.name, .slice a2 t.args.length c2] 24)).alloc (.cells #[.int .i64 s.var, .string s.name, .slice a1 s.args.length c1, .int .i64 t.var, .string t.name, .slice a2 t.args.length c2] 24)) = W0 at *
  have HW0 : Hid (w.heap.size + 2 < W0.heap.size) := Lib.hid (Array.getElem?_eq_some_iff.1 HA2.out).1
  go_loopw [23] (fun y wr => (y = .int .i64 0 ∨ (y = .int .i64 1 ∧ Hid (s.checkE = 0)) ∨ (y = .int .i64 2 ∧ Hid (s.checkE = 0) ∧ Hid (t.checkE = 0))) ∧ Hid (Below W0.heap.size W0 wr)) (fun y _ => 2 - (intOf y).toNat)
  case atStart => exact ⟨.inl rfl, Lib.hid (Below.refl _ _)⟩
  case round =>
    obtain ⟨hy, HB⟩ := hrel
    have hblk : wr.heap[w.heap.size + 2]? = _ := (HB.out.block _ HW0.out).trans HA2.out
    have q0 : wr.cell? ⟨w.heap.size + 2, 0, none⟩ = some (.int .i64 s.var) := by simp [World.cell?, hblk]
    have q1 : wr.cell? ⟨w.heap.size + 2, 1, none⟩ = some (.string s.name) := by simp [World.cell?, hblk]
    have q2 : wr.cell? ⟨w.heap.size + 2, 2, none⟩ = some (.slice a1 s.args.length c1) := by simp [World.cell?, hblk]
    have q3 : wr.cell? ⟨w.heap.size + 2, 3, none⟩ = some (.int .i64 t.var) := by simp [World.cell?, hblk]
    have q4 : wr.cell? ⟨w.heap.size + 2, 4, none⟩ = some (.string t.name) := by simp [World.cell?, hblk]
    have q5 : wr.cell? ⟨w.heap.size + 2, 5, none⟩ = some (.slice a2 t.args.length c2) := by simp [World.cell?, hblk]
    have HBW : Hid (Below w.heap.size w wr) := Lib.hid (HB0.out.trans (HB.out.mono HB0.out.size))
    clear hblk
    rcases hy with rfl | ⟨rfl, HZ1⟩ | ⟨rfl, HZ1, HZ2⟩
    · have HCK := Lib.hid (CheckW s (wr.alloc (.cells #[.int .i64 s.var, .string s.name, .slice a1 s.args.length c1] 24)) ok a1 c1 HS.out ((H1.out.keep (Keeps.below HBW.out ok)).keep (Keeps.below ((Below.refl _ _).alloc (Nat.le_refl _) _) ok)))
      by_cases hz : s.checkE = 0
      · have HZ := Lib.hid hz
        have hz' : ((s.checkE : Int) != 0) = false := by rw [hz]; rfl
        clear hz
        go_wp2_with (go_at_call 17; refine HCK.out.mono ?_; rintro e w1 ⟨rfl, hb1⟩)
        go_roundw
        case measure => simp [intOf]
        case rel => exact ⟨.inr (.inl ⟨rfl, HZ⟩), Lib.hid (HB.out.trans ((((Below.refl wr.heap.size wr).alloc (Nat.le_refl _) _).trans (hb1.mono (by simp))).mono HB.out.size))⟩
      · have hz' : ((s.checkE : Int) != 0) = true := bne0 hz
        have HO : Hid (uA s t = .err s.checkE) := Lib.hid (by unfold uA; rw [if_pos hz])
        clear hz
        go_wp2_with (go_at_call 17; refine HCK.out.mono ?_; rintro e w1 ⟨rfl, hb1⟩)
        rw [HO.out]
        exact bodyPost_ret (v := .tuple #[.slice none 0 0, .bool false, .int .i64 0, .int .i64 s.checkE]) (by simp [results, Try.results22, go_sem]) rfl ⟨HBW.out.trans ((((Below.refl wr.heap.size wr).alloc (Nat.le_refl _) _).trans (hb1.mono (by simp))).mono HBW.out.size), rfl⟩
    · have HCK := Lib.hid (CheckW t (wr.alloc (.cells #[.int .i64 t.var, .string t.name, .slice a2 t.args.length c2] 24)) ok a2 c2 HT.out ((H2.out.keep (Keeps.below HBW.out ok)).keep (Keeps.below ((Below.refl _ _).alloc (Nat.le_refl _) _) ok)))
      by_cases hz : t.checkE = 0
      · have HZ := Lib.hid hz
        have hz' : ((t.checkE : Int) != 0) = false := by rw [hz]; rfl
        clear hz
        go_wp2_with (go_at_call 17; refine HCK.out.mono ?_; rintro e w1 ⟨rfl, hb1⟩)
        go_roundw
        case measure => simp [intOf]
        case rel => exact ⟨.inr (.inr ⟨rfl, HZ1, HZ⟩), Lib.hid (HB.out.trans ((((Below.refl wr.heap.size wr).alloc (Nat.le_refl _) _).trans (hb1.mono (by simp))).mono HB.out.size))⟩
      · have hz' : ((t.checkE : Int) != 0) = true := bne0 hz
        have HO : Hid (uA s t = .err t.checkE) := Lib.hid (by unfold uA; rw [if_neg (fun h => h HZ1.out), if_pos hz])
        clear hz
        go_wp2_with (go_at_call 17; refine HCK.out.mono ?_; rintro e w1 ⟨rfl, hb1⟩)
        rw [HO.out]
        exact bodyPost_ret (v := .tuple #[.slice none 0 0, .bool false, .int .i64 0, .int .i64 t.checkE]) (by simp [results, Try.results22, go_sem]) rfl ⟨HBW.out.trans ((((Below.refl wr.heap.size wr).alloc (Nat.le_refl _) _).trans (hb1.mono (by simp))).mono HBW.out.size), rfl⟩
    · clear q0 q1 q2 q3 q4 q5
      have HF1 := Lib.hid (check_fit HZ1.out); have HF2 := Lib.hid (check_fit HZ2.out)
      have HO : Hid (uA s t = uOutA (uP s t)) := Lib.hid (by unfold uA; rw [if_neg (fun h => h HZ1.out), if_neg (fun h => h HZ2.out)])
      have HNEW := Lib.hid (NewW wr ok (fun b hb => by have := HOK.out b hb; have := HBW.out.size; omega))
      go_wp2_with fail
      refine HNEW.out.mono ?_
      rintro e w1 ⟨rfl, hst1, hb1⟩
      have HB1 : Hid (Below W0.heap.size W0 w1) := Lib.hid (HB.out.trans (hb1.mono HB.out.size))
      have HBW1 : Hid (Below w.heap.size w w1) := Lib.hid (HB0.out.trans (HB1.out.mono HB0.out.size))
      have X0 := HA0.out.keep (HB1.out.block _ HA0.out.lt); have X1 := HA1.out.keep (HB1.out.block _ HA1.out.lt)
      have x0 := X0.c0; have x1 := X0.c1; have x2 := X0.c2
      have y0 := X1.c0; have y1 := X1.c1; have y2 := X1.c2
      have HSM := Lib.hid (SameW (ok := ok) (bs := wr.heap.size + 1) (bm := wr.heap.size) 4000 (fun _ => none) [] (.slice none 0 0) s t a1 a2 c1 c2 w1 (Nat.le_refl _) hst1 SInv.none (by simp) HS.out HT.out (H1.out.keep (Keeps.below HBW1.out ok)) (H2.out.keep (Keeps.below HBW1.out ok)) HF1.out.wf HF2.out.wf)
      have HSZ : Hid (w.heap.size ≤ wr.heap.size) := Lib.hid HBW.out.size
      clear hst1 hb1 X0 X1
      go_wp2_with fail
      refine HSM.out.mono ?_
      have HU : Hid (uP s t = match meet (fun _ => none) [] 4000 [(s, t)] with
        | .no _ _ f => .no (4000 - f)
        | .many _ _ => .many
        | .ok σ _ f => match outs σ 12 with | none => .many | some l => .ok l (4000 - f)) := Lib.hid (by unfold uP; rfl)
      generalize meet (fun _ => none) [] 4000 [(s, t)] = o at *
      rintro e w2 ⟨ht2, tv, hfr, hm⟩
      have HB2 : Hid (Below w.heap.size w w2) := Lib.hid (HBW1.out.trans (ht2.toBelow HBW1.out.size (fun b hb => by
        have := HSZ.out
        rcases hb with e | e | e
        · omega
        · omega
        · simp [Value.ownBlock] at e)))
      clear ht2 hfr x0 x1 x2 y0 y1 y2
      cases o with
      | many σ L =>
        obtain ⟨rfl, -, -⟩ := hm
        go_wp2_with fail
        rw [HO.out, HU.out]
        exact bodyPost_ret (v := .tuple #[.slice none 0 0, .bool false, .int .i64 0, .int .i64 2]) (by simp [results, Try.results22, go_sem]) rfl ⟨HB2.out, rfl⟩
      | no σ L f =>
        obtain ⟨rfl, hst, -⟩ := hm
        have HST := Lib.hid hst
        obtain ⟨-, -, z2, -⟩ := hst.cells
        clear hst
        have DQ := below_drewN w2
        go_wp2_with fail
        go_quiet (fail)
        rename_i nq
        have hB := DQ nq
        generalize w2.drewN nq = X at *
        go_wp2_with fail
        rw [HO.out, HU.out]
        exact bodyPost_ret (v := .tuple #[.slice none 0 0, .bool false, .int .i64 (4000 - f : Nat), .int .i64 0]) (by simp [results, Try.results22, go_sem]) rfl ⟨HB2.out.trans (hB.mono HB2.out.size), rfl⟩
      | ok σ L f =>
        obtain ⟨rfl, hst, hinv⟩ := hm
        have HST := Lib.hid hst; have HINV := Lib.hid hinv
        have HU' : Hid (uP s t = match outs σ 12 with | none => .many | some l => .ok l (4000 - f)) := Lib.hid HU.out
        have HOK2 : Hid (∀ b, ok b → b < w2.heap.size) := Lib.hid fun b hb => (hst.okb b hb).1
        clear hst hinv HU
        obtain ⟨i0, hi0, hz0', hz1', hz2'⟩ := info_parts Try.infoTm
        generalize wr.heap.size = bm0 at *
        go_wp2_with fail
        go_loopw [14, 15] (fun y14 y15 wr => ∃ (n : Nat) (L : List TmAt), n ≤ 12 ∧ y15 = .int .i64 ((n : Int) + 1) ∧ Hid (outs σ n = some (L.map (·.1))) ∧ Hid (L.length = n) ∧ OwnTs wr w2.heap.size (OkN ok w2) y14 L ∧ Below w2.heap.size w2 wr) (fun _ y15 _ => 13 - (intOf y15).toNat)
        case atStart => exact ⟨0, [], by omega, rfl, Lib.hid rfl, Lib.hid rfl, OwnTs.nil _ _ _, Below.refl _ _⟩
        case round =>
          obtain ⟨n, L2, hn, rfl, HOU, HLN, hown, hbel⟩ := hrel
          have HOWN := Lib.hid hown; have HBEL := Lib.hid hbel
          have HSR := Lib.hid (HST.out.keep hbel)
          obtain ⟨xa, xc, rfl⟩ := hown.form
          clear hown hbel
          by_cases hlt : n < 12
          · have hlt' : (n : Int) + 1 ≤ 12 := by omega
            have BX : Below wr.heap.size wr (wr.alloc (.cells #[.int .i64 200] 3)) := (Below.refl _ _).alloc (Nat.le_refl _) _
            have HBX := Lib.hid BX
            have HCL : Hid (Calls Try.prog 67 #[.pointer (some ⟨bm0 + 1, 0, none⟩), .agg #[.int .i64 ((n : Int) + 1), .string ⟨#[]⟩, .slice none 0 0], .pointer (some ⟨wr.heap.size, 0, none⟩), .func (.func 68) #[] #[]] (wr.alloc (.cells #[.int .i64 200] 3))
                (ThrPost (wr.alloc (.cells #[.int .i64 200] 3)) ok wr.heap.size (fun _ => False) (S := Unit) (fun _ v => (v, ())) (fun _ _ => True) () (thrL σ 200 [VarT ((n : Int) + 1)]))) := Lib.hid
              (ThroughW (m := 200) names_id (fun _ _ _ _ _ _ => trivial) HINV.out.rank.ends () (VarT ((n : Int) + 1)) none 0 _ (by omega) (HSR.out.keep BX) trivial (heap_alloc_new wr _) ⟨HSR.out.notM (Nat.le_refl _), fun h => by have := (HSR.out.okb _ h).1; omega⟩ (fun b h => h.elim) ⟨(by show I64 ((n : Int) + 1); unfold I64; omega), Nat.zero_le _⟩ (Ts.empty' _ _))
            have HID := Lib.hid (ren_id (σ := σ) 200 [VarT ((n : Int) + 1)])
            have HNX : Hid (outs σ (n + 1) = (thrL σ 200 [VarT ((n : Int) + 1)]).map fun x => L2.map (·.1) ++ x.1) := Lib.hid (by simp only [outs]; rw [HOU.out]; rfl)
            generalize thrL σ 200 [VarT ((n : Int) + 1)] = o at *
            cases o with
            | none =>
              have HN12 : Hid (outs σ 12 = none) := Lib.hid (outs_le (n + 1) 12 (by omega) (by rw [HNX.out]; rfl))
              clear HNX HID BX
              go_wp2_with (go_at_call 67; refine HCL.out.mono ?_; rintro e w3 ⟨ht3, rfl, -⟩; have HT3 := Lib.hid ht3; clear ht3)
              rw [HO.out, HU'.out, HN12.out]
              have hb3 : Below wr.heap.size wr w3 := HBX.out.trans (HT3.out.toBelow HBX.out.size (fun b hb => hb.elim (fun e => by omega) (fun e => e.elim)))
              have hb4 : Below w.heap.size w w3 := HB2.out.trans ((HBEL.out.trans (hb3.mono HBEL.out.size)).mono HB2.out.size)
              exact bodyPost_ret (v := .tuple #[.slice none 0 0, .bool false, .int .i64 0, .int .i64 2]) (by simp [results, Try.results22, go_sem]) rfl ⟨hb4.alloc (by have := hb4.size; omega) _, rfl⟩
            | some x =>
              have HX1 := Lib.hid (HID.out x rfl)
              clear HID BX
              go_wp2_with (first
                | (go_at_call 67; refine HCL.out.mono ?_; rintro e w3 ⟨ht3, T, a3, c3, hTT, rfl, hf3, hts3, -, -⟩; have hb3 : Below wr.heap.size wr w3 := HBX.out.trans (ht3.toBelow HBX.out.size (fun b hb => hb.elim (fun e => by omega) (fun e => e.elim))); have HB3 := Lib.hid hb3; have HTT := Lib.hid hTT; have HF3 := Lib.hid hf3; have HTS3 := Lib.hid hts3; have HO1 := Lib.hid (((HOWN.out.below hb3).own.alloc (.cells #[.int .i64 T.var, .string T.name, .slice a3 T.args.length c3] 24)).alloc (.cells #[.int .i64 T.var, .string T.name, .slice a3 T.args.length c3] 24)); clear ht3 hTT hf3 hts3 hb3)
                | (at_builtin; have _g := HO1; refine wpList_append_opt _ rfl _ _ 22 rfl w2.heap.size 24 i0 _ 3 48 Try.underlying22 hi0 hz0' hz1' hz2' rfl (by decide) _ _ _ rfl HO1.out (some ⟨w3.heap.size + 1, 0, none⟩) 1 1 ?d0 (flat [(T, a3, c3)]) rfl (by rw [flat_length]; rfl) ?d1 (flat_one _) ?d2 ?d3 ?d4 ?_))
              · intro h; cases h
              · exact news3 _ T a3 c3 (by simp)
              · have := HLN.out; unfold maxLen; omega
              · have := HLN.out; omega
              · have := HBEL.out.size; have := HB3.out.size; simp only [aSz]; omega
              · intro v4 w4 hown4 hgrow4 hfr4
                have BX4 : Below w3.heap.size w3 ((w3.alloc (.cells #[.int .i64 T.var, .string T.name, .slice a3 T.args.length c3] 24)).alloc (.cells #[.int .i64 T.var, .string T.name, .slice a3 T.args.length c3] 24)) := ((Below.refl _ _).alloc (Nat.le_refl _) _).alloc (by simp only [aSz]; omega) _
                have HNXT := Lib.hid (HOWN.out.more HBEL.out HOK2.out (HBX.out.size) HB3.out HF3.out HTS3.out BX4 hown4 hgrow4 hfr4)
                clear hown4 hgrow4 hfr4 BX4
                go_wp2_with fail
                go_roundw
                case measure => simp [intOf]; omega
                case rel =>
                  exact ⟨n + 1, L2 ++ [(T, a3, c3)], by omega, by go_num, Lib.hid (by
                    have h1 := HX1.out
                    rw [HTT.out] at h1
                    rw [HNX.out, List.map_append]; simp only [Option.map_some]; rw [← h1]; rfl), Lib.hid (by rw [List.length_append, HLN.out]; rfl), HNXT.out⟩
          · have hn12 : n = 12 := by omega
            have hge : ¬ ((n : Int) + 1 ≤ 12) := by omega
            obtain ⟨-, -, z2, -⟩ := HSR.out.cells
            have DQ := below_drewN wr
            have HN12 : Hid (outs σ 12 = some (L2.map (·.1))) := Lib.hid (by rw [← hn12]; exact HOU.out)
            clear hn12
            go_wp2_with fail
            go_quiet (fail)
            rename_i nq
            have hB := DQ nq
            generalize wr.drewN nq = X at *
            go_wp2_with fail
            rw [HO.out, HU'.out, HN12.out]
            obtain ⟨a9, c9, he, ht9⟩ := (HOWN.out.below hB).ret (w := w) HB2.out.size
            injection he with he1 he2 he3
            subst he1; subst he3
            exact bodyPost_ret (v := .tuple #[.slice xa L2.length xc, .bool true, .int .i64 (4000 - f : Nat), .int .i64 0]) (by simp [results, Try.results22, go_sem]) rfl
              ⟨HB2.out.trans ((HBEL.out.trans (hB.mono HBEL.out.size)).mono HB2.out.size), xa, xc, by rw [List.length_map], ht9⟩

end Go.Proofs.Ytikmgiapjigghaa

/- Walk: the reference's UnifyOf. -/
namespace Go.Proofs.Ytikmgiapjigghaa
open Go.RowKit

theorem thrL_size {σ : Sub} : ∀ (m : Nat) (l : List Tm) (x : List Tm × Nat), thrL σ m l = some x → Tm.sizes x.1 + x.2 ≤ m := by
  intro m
  induction m using Nat.strongRecOn with
  | _ m ih =>
  intro l x h
  cases l with
  | nil => rw [thrL_nil] at h; cases h; simp [Tm.sizes]
  | cons t r =>
    cases m with
    | zero => rw [thrL_zero] at h; cases h
    | succ m =>
      by_cases hv : (look σ t).var = 0
      · rw [thrL_fn hv] at h
        obtain ⟨y, hy, h2⟩ := Option.bind_eq_some_iff.1 h
        obtain ⟨z, hz, rfl⟩ := Option.map_eq_some_iff.1 h2
        have h3 := (thrL_le _ _ _ hy).1
        have e1 := ih m (by omega) _ y hy
        have e2 := ih y.2 (by omega) _ z hz
        simp only [Tm.sizes, Tm.size]; omega
      · rw [thrL_var hv] at h
        obtain ⟨z, hz, rfl⟩ := Option.map_eq_some_iff.1 h
        have e2 := ih m (by omega) _ z hz
        simp only [Tm.sizes, Tm.size]; omega

theorem Tm.partss_of {l : List Tm} {p : Tm} (h : p ∈ Tm.partss l) : ∃ t, t ∈ l ∧ p ∈ t.parts := by
  induction l with
  | nil => cases h
  | cons t l ih =>
    rw [Tm.partss, List.mem_append] at h
    rcases h with h | h
    · exact ⟨t, List.mem_cons_self, h⟩
    · obtain ⟨u, hu, hp⟩ := ih h
      exact ⟨u, List.mem_cons_of_mem _ hu, hp⟩

theorem Fit.fn {n : Nat} {nm : ByteArray} {l : List Tm} (h0 : 0 < n) (hl : l.length ≤ 100000) (h : ∀ t, t ∈ l → Fit n t) : Fit n (.mk 0 nm l) := by
  refine ⟨fun p hp => ?_, fun p hp => ?_⟩
  · rw [Tm.parts] at hp
    rcases List.mem_cons.1 hp with rfl | hp
    · exact ⟨Int.le_refl _, fun e => absurd rfl e⟩
    · obtain ⟨t, ht, hp⟩ := Tm.partss_of hp
      exact (h t ht).wf p hp
  · rw [Tm.parts] at hp
    rcases List.mem_cons.1 hp with rfl | hp
    · exact ⟨h0, hl⟩
    · obtain ⟨t, ht, hp⟩ := Tm.partss_of hp
      exact (h t ht).bd p hp

theorem thrL_fit {σ : Sub} {n : Nat} (hE : Ends σ) (hd : ∀ v u, σ v = some u → Fit n u) : ∀ (m : Nat) (l : List Tm) (x : List Tm × Nat), (∀ t, t ∈ l → Fit n t) → thrL σ m l = some x → ∀ T, T ∈ x.1 → Fit n T := by
  intro m
  induction m using Nat.strongRecOn with
  | _ m ih =>
  intro l x hl h T hT
  cases l with
  | nil => rw [thrL_nil] at h; cases h; cases hT
  | cons t r =>
    have hft := fit_look hE hd (hl t List.mem_cons_self)
    cases m with
    | zero => rw [thrL_zero] at h; cases h
    | succ m =>
      by_cases hv : (look σ t).var = 0
      · rw [thrL_fn hv] at h
        obtain ⟨y, hy, h2⟩ := Option.bind_eq_some_iff.1 h
        obtain ⟨z, hz, rfl⟩ := Option.map_eq_some_iff.1 h2
        have h3 := thrL_le _ _ _ hy
        rcases List.mem_cons.1 hT with rfl | hT
        · refine Fit.fn (by have := hft.pos.2; omega) (by rw [h3.2]; exact hft.len) (fun u hu => ih m (by omega) _ y (fun a ha => hft.arg ha) hy u hu)
        · exact ih y.2 (by omega) _ z (fun a ha => hl a (List.mem_cons_of_mem _ ha)) hz T hT
      · rw [thrL_var hv] at h
        obtain ⟨z, hz, rfl⟩ := Option.map_eq_some_iff.1 h
        rcases List.mem_cons.1 hT with rfl | hT
        · exact fit_var hft.pos.1 hft.pos.2
        · exact ih m (by omega) _ z (fun a ha => hl a (List.mem_cons_of_mem _ ha)) hz T hT

theorem mapv_congr {g g' : Int → Int} (t : Tm) : (∀ p, p ∈ t.parts → p.var ≠ 0 → g p.var = g' p.var) → t.mapv g = t.mapv g' := by
  induction t using Tm.ind with
  | h v n l ih =>
    intro h
    by_cases hv : v = 0
    · subst hv
      rw [Tm.mapv_fn (t := .mk 0 n l) rfl, Tm.mapv_fn (t := .mk 0 n l) rfl]
      congr 1
      exact List.map_congr_left fun x hx => ih x hx fun p hp => h p (Tm.parts_arg (t := .mk 0 n l) hx hp)
    · rw [Tm.mapv_var (t := .mk v n l) hv, Tm.mapv_var (t := .mk v n l) hv]
      have := h _ (Tm.self_mem _) hv
      rw [this]

theorem namesR_range (τ : Sub) (x : Int) : ∀ n : Nat, n ≤ 12 → 0 ≤ namesR τ n x ∧ namesR τ n x ≤ 12 := by
  intro n
  induction n with
  | zero => intro _; simp only [namesR]; omega
  | succ n ih =>
    intro hn
    simp only [namesR]
    split
    · omega
    · exact ih (by omega)

theorem fresh_sub : subB ((fresh 0 13).map (·.1)) = fun _ => none := by
  funext v
  by_cases h : 0 ≤ v ∧ v.toNat < 13
  · refine subB_none h.1 (by simp [fresh]; omega) ?_
    simp [fresh, Tm.var]; omega
  · unfold subB
    rw [dif_neg]
    simp [fresh]; omega

theorem fresh_FB : FB ((fresh 0 13).map (·.1)) := by
  refine ⟨by rw [fresh_sub]; exact SInv.none, fun t ht => ?_⟩
  obtain ⟨x, hx, rfl⟩ := List.mem_map.1 ht
  unfold fresh at hx
  obtain ⟨i, hi, rfl⟩ := List.mem_map.1 hx
  rw [List.mem_range] at hi
  have : ((fresh 0 13).map (·.1)).length = 13 := by simp [fresh]
  rw [this]
  exact fit_var (by omega) (by omega)

/-- A block of numbers. -/
structure IntsAt (w : World) (b : Nat) (l : List Int) : Prop where
  blk : w.heap[b]? = some (.cells (l.map fun v => Value.int .i64 v).toArray 3 (0, 0))

theorem IntsAt.get {w : World} {b : Nat} {l : List Int} (h : IntsAt w b l) (i : Nat) (hi : i < l.length) : w.cell? ⟨b, i, none⟩ = some (.int .i64 l[i]) := by
  simp [World.cell?, h.blk, hi]
theorem IntsAt.fz {w : World} {b : Nat} {l : List Int} (h : IntsAt w b l) (o : Nat) : w.frozen? ⟨b, o, none⟩ = false := by simp [World.frozen?, h.blk]
theorem IntsAt.lt {w : World} {b : Nat} {l : List Int} (h : IntsAt w b l) : b < w.heap.size := (Array.getElem?_eq_some_iff.1 h.blk).1
theorem IntsAt.keep {w w' : World} {b : Nat} {l : List Int} (h : IntsAt w b l) (hb : w'.heap[b]? = w.heap[b]?) : IntsAt w' b l := ⟨hb.trans h.blk⟩
theorem IntsAt.below {w w' : World} {b : Nat} {l : List Int} (h : IntsAt w b l) (hb : Below w.heap.size w w') : IntsAt w' b l := h.keep (hb.block b h.lt)
theorem IntsAt.set {w : World} {b : Nat} {l : List Int} (h : IntsAt w b l) (i : Nat) (v : Int) : IntsAt (w.setCell ⟨b, i, none⟩ (.int .i64 v)) b (l.set i v) := by
  refine ⟨?_⟩
  rw [heap_setCell_at _ _ _ _ h.blk, List.map_set]
  simp

theorem names_set (τ : Sub) (n : Nat) (x : Int) (hx : x = (look τ (VarT (12 - (n : Int)))).var) (h0 : x ≠ 0) (h1 : 0 ≤ x) (h2 : x.toNat < 13) : ((List.range 13).map fun i : Nat => namesR τ n i).set x.toNat (12 - (n : Int)) = (List.range 13).map fun i : Nat => namesR τ (n + 1) i := by
  refine List.ext_getElem (by simp) fun i hi hj => ?_
  rw [List.getElem_set]
  simp only [List.getElem_map, List.getElem_range, namesR]
  by_cases e : x.toNat = i
  · rw [if_pos e, if_pos ⟨by rw [← hx]; exact h0, by rw [← hx]; omega⟩]
  · rw [if_neg e, if_neg (fun h => e (by rw [← hx] at h; have := h.2; omega))]

theorem names_skip (τ : Sub) (n : Nat) (hx : (look τ (VarT (12 - (n : Int)))).var = 0) : ((List.range 13).map fun i : Nat => namesR τ n i) = (List.range 13).map fun i : Nat => namesR τ (n + 1) i := by
  refine List.map_congr_left fun i _ => ?_
  simp only [namesR]
  rw [if_neg (fun h => h.1 hx)]

set_option maxRecDepth 100000 in
set_option maxHeartbeats 4000000 in
theorem UnifyOfW {w : World} {ok : Nat → Prop} (hok : ∀ b, ok b → b < w.heap.size) {s t : Tm} {a1 a2 : Option Addr} {c1 c2 : Nat} (hs : s.fits) (ht : t.fits) (h1 : Ts w ok s.args a1 c1) (h2 : Ts w ok t.args a2 c2) (hf1 : Fit 13 s) (hf2 : Fit 13 t) :
    Calls Try.prog 23 #[.agg #[.int .i64 s.var, .string s.name, .slice a1 s.args.length c1], .agg #[.int .i64 t.var, .string t.name, .slice a2 t.args.length c2]] w (UPost w ok (uOutA (uR s t))) := by
  have HOK := Lib.hid hok; have HS := Lib.hid hs; have HT := Lib.hid ht; have H1 := Lib.hid h1; have H2 := Lib.hid h2; have HF1 := Lib.hid hf1; have HF2 := Lib.hid hf2
  clear hok hs ht h1 h2 hf1 hf2
  have hA0 : Box3 ((w.alloc (.cells #[.int .i64 s.var, .string s.name, .slice a1 s.args.length c1] 24)).alloc (.cells #[.int .i64 t.var, .string t.name, .slice a2 t.args.length c2] 24)) w.heap.size (.int .i64 s.var) (.string s.name) (.slice a1 s.args.length c1) := (Box3.made w _ _ _).alloc _
  have hA1 : Box3 ((w.alloc (.cells #[.int .i64 s.var, .string s.name, .slice a1 s.args.length c1] 24)).alloc (.cells #[.int .i64 t.var, .string t.name, .slice a2 t.args.length c2] 24)) (w.heap.size + 1) (.int .i64 t.var) (.string t.name) (.slice a2 t.args.length c2) := Box3.made2 (by simp)
  have hB0 : Below w.heap.size w ((w.alloc (.cells #[.int .i64 s.var, .string s.name, .slice a1 s.args.length c1] 24)).alloc (.cells #[.int .i64 t.var, .string t.name, .slice a2 t.args.length c2] 24)) := ((Below.refl _ _).alloc (Nat.le_refl _) _).alloc (by simp) _
  have HA0 := Lib.hid hA0; have HA1 := Lib.hid hA1; have HB0 := Lib.hid hB0
  clear hA0 hA1 hB0
  go_enter Try.func23, Try.ntmps23
  go_wp2_with fail
  generalize ((w.alloc (.cells #[.int .i64 s.var, .string s.name, .slice a1 s.args.length c1] 24)).alloc (.cells #[.int .i64 t.var, .string t.name, .slice a2 t.args.length c2] 24)) = W0 at *
  refine (BeginW W0 ok (fun b hb => by have := HOK.out b hb; have := HB0.out.size; omega)).mono ?_
  rintro e w1 ⟨g, cap, rfl, hgle, hrow, heach, hb1⟩
  have HB1 : Hid (Below w.heap.size w w1) := Lib.hid (HB0.out.trans (hb1.mono HB0.out.size))
  have BS : Below w1.heap.size w1 (w1.alloc (.cells #[.slice (some ⟨g, 0, none⟩) 13 cap, .int .i64 0] 108)) := (Below.refl _ _).alloc (Nat.le_refl _) _
  have HW2 : Hid (Below w.heap.size w (w1.alloc (.cells #[.slice (some ⟨g, 0, none⟩) 13 cap, .int .i64 0] 108))) := Lib.hid (HB1.out.trans (BS.mono HB1.out.size))
  have hX0 := (HA0.out.below hb1).below BS; have hX1 := (HA1.out.below hb1).below BS
  have hgl : g < w1.heap.size := (hrow.lt g rfl).2
  have HR : Hid (RAt (w1.alloc (.cells #[.slice (some ⟨g, 0, none⟩) 13 cap, .int .i64 0] 108)) ok w1.heap.size g cap (fresh 0 13) (4000 - 4000)) := Lib.hid
    ⟨heap_alloc_new w1 _, ownsRow_below hrow BS, heach.keep (Keeps.below BS ok), by omega, fun b hb => by
      have := HOK.out b hb; have := HB1.out.size; have := HW2.out.size; have := HB0.out.size
      exact ⟨by omega, by omega, by omega⟩⟩
  have HG : Hid (w.heap.size ≤ g ∧ w.heap.size ≤ w1.heap.size) := Lib.hid ⟨by have := HB0.out.size; omega, HB1.out.size⟩
  have x0 := hX0.c0; have x1 := hX0.c1; have x2 := hX0.c2
  have y0 := hX1.c0; have y1 := hX1.c1; have y2 := hX1.c2
  have HM := Lib.hid (MeetW (B0 := fresh 0 13) (f := 4000) (Nat.le_refl _) HR.out fresh_FB HS.out HT.out (H1.out.keep (Keeps.below HW2.out ok)) (H2.out.keep (Keeps.below HW2.out ok)) (by rw [fresh_length]; exact HF1.out) (by rw [fresh_length]; exact HF2.out))
  clear hb1 BS hX0 hX1 hrow heach
  go_wp2_with fail
  refine HM.out.mono ?_
  have HU : Hid (uR s t = match meetR (fun _ => none) 4000 [(s, t)] with
    | .no _ _ f => .no (4000 - f)
    | .many _ _ => .many
    | .ok τ _ f => match outs τ 12 with | none => .many | some l => .ok (l.map (Tm.mapv (namesR τ 12))) (4000 - f)) := Lib.hid (by unfold uR; rfl)
  rw [fresh_sub]
  generalize meetR (fun _ => none) 4000 [(s, t)] = o at *
  rintro e w2 ⟨ht2, B, hBl, hFB, hm⟩
  have HB2 : Hid (Below w.heap.size w w2) := Lib.hid (HW2.out.trans (ht2.toBelow HW2.out.size (fun b hb => by
    have := HG.out
    rcases hb with e | e <;> omega)))
  clear ht2 x0 x1 x2 y0 y1 y2
  rw [fresh_length] at hBl
  have HBL := Lib.hid hBl; have HFB := Lib.hid hFB
  clear hFB hBl
  generalize w1.heap.size = rs at *
  cases o with
  | many σ L =>
    obtain ⟨rfl, -, -⟩ := hm
    go_wp2_with fail
    rw [HU.out]
    exact bodyPost_ret (v := .tuple #[.slice none 0 0, .bool false, .int .i64 0, .int .i64 2]) (by simp [results, Try.results23, go_sem]) rfl ⟨HB2.out, rfl⟩
  | no σ L f =>
    obtain ⟨rfl, hr, -⟩ := hm
    obtain ⟨-, z1, -, -⟩ := hr.cells
    clear hr
    have DQ := below_drewN w2
    go_wp2_with fail
    go_quiet (fail)
    rename_i nq
    have hB := DQ nq
    generalize w2.drewN nq = X at *
    go_wp2_with fail
    rw [HU.out]
    exact bodyPost_ret (v := .tuple #[.slice none 0 0, .bool false, .int .i64 (4000 - f : Nat), .int .i64 0]) (by simp [results, Try.results23, go_sem]) rfl ⟨HB2.out.trans (hB.mono HB2.out.size), rfl⟩
  | ok σ L f =>
    obtain ⟨rfl, hr, rfl⟩ := hm
    have HRR := Lib.hid hr
    clear hr
    have HIB : Hid (∀ i (hi : i < B.length), InB B B[i].1) := Lib.hid (fun i hi => by
      have := (HFB.out.each B[i].1 (List.mem_map.2 ⟨_, List.getElem_mem hi, rfl⟩)).pos
      rw [List.length_map] at this
      exact this)
    have HDM : Hid (∀ v u, subB (B.map (·.1)) v = some u → Fit 13 u) := Lib.hid (fun v u h => by
      have := HFB.out.each u (subB_mem h)
      rwa [List.length_map, HBL.out] at this)
    have HU' : Hid (uR s t = match outs (subB (B.map (·.1))) 12 with | none => .many | some l => .ok (l.map (Tm.mapv (namesR (subB (B.map (·.1))) 12))) (4000 - f)) := Lib.hid HU.out
    have hmk : ∀ w : World, (Instr.makeSlice 44 (.int .i64 13) (.int .i64 13)).run Try.prog w = .ok (.slice (some ⟨w.heap.size, 0, none⟩) 13 13) (w.alloc (.cells ((((List.range 13).map fun i : Nat => namesR (subB (B.map (·.1))) 0 i).map fun v => Value.int .i64 v).toArray) 3)) := fun _ => by kernel_rfl
    have HEN : Hid (Ends (subB (B.map (·.1)))) := Lib.hid HFB.out.inv.rank.ends
    clear HU HM
    go_wp2_with fail
    go_loopw [10] (fun x wr => ∃ n : Nat, n ≤ 12 ∧ x = .int .i64 (12 - (n : Int)) ∧ IntsAt wr w2.heap.size ((List.range 13).map fun i : Nat => namesR (subB (B.map (·.1))) n i) ∧ Below w2.heap.size w2 wr) (fun x _ => (intOf x).toNat)
    case atStart => exact ⟨0, by omega, rfl, ⟨heap_alloc_new w2 _⟩, (Below.refl _ _).alloc (Nat.le_refl _) _⟩
    case round =>
      obtain ⟨n, hn, rfl, hints, hbel⟩ := hrel
      have HINT := Lib.hid hints; have HBEL := Lib.hid hbel
      have HRK := Lib.hid (HRR.out.keep hbel)
      clear hints hbel
      by_cases hlt : n < 12
      · have hge : (1 : Int) ≤ 12 - (n : Int) := by omega
        obtain ⟨n0, hl0⟩ := look_spec HEN.out (VarT (12 - (n : Int)))
        have HLK := Lib.hid (LookAtW HRK.out HIB.out hl0 (a := none) (c := 0) ⟨(by show I64 (12 - (n : Int)); unfold I64; omega), Nat.zero_le _⟩ (Ts.empty' _ _) ⟨by show (0 : Int) ≤ 12 - (n : Int); omega, by rw [HBL.out]; show (12 - (n : Int)).toNat < 13; omega⟩)
        have HFT := Lib.hid (fit_look HEN.out HDM.out (fit_var (n := 13) (v := 12 - (n : Int)) (by omega) (by omega)))
        have HS1 := Lib.hid (names_set (subB (B.map (·.1))) n)
        have HS2 := Lib.hid (names_skip (subB (B.map (·.1))) n)
        clear hl0
        generalize look (subB (B.map (·.1))) (VarT (12 - (n : Int))) = u at *
        by_cases hv : u.var = 0
        · have hv' : (u.var != 0) = false := by rw [hv]; rfl
          have HSK := Lib.hid (HS2.out hv)
          clear hv
          go_wp2_with (go_at_call 71; refine HLK.out.mono ?_; rintro e w3 ⟨a3, c3, rfl, hf3, ht3, hb3⟩; have HB3 := Lib.hid hb3; clear hf3 ht3 hb3)
          go_roundw
          case measure => simp [intOf]; omega
          case rel =>
            have hb4 : Below wr.heap.size wr (w3.alloc (.cells #[.int .i64 u.var, .string u.name, .slice a3 u.args.length c3] 24)) := HB3.out.trans (((Below.refl _ _).alloc (Nat.le_refl _) _).mono HB3.out.size)
            exact ⟨n + 1, by omega, by go_num, by rw [← HSK.out]; exact HINT.out.below hb4, HBEL.out.trans (hb4.mono HBEL.out.size)⟩
        · have hv' : (u.var != 0) = true := by rw [bne_iff_ne]; exact hv
          obtain ⟨k, hk⟩ : ∃ k : Nat, u.var = (k : Int) := ⟨u.var.toNat, by have := HFT.out.pos.1; omega⟩
          have hk13 : k < 13 := by have := HFT.out.pos.2; omega
          have HSK := Lib.hid (HS1.out u.var rfl hv HFT.out.pos.1 HFT.out.pos.2)
          have hu0 : (0 : Int) ≤ u.var := by omega
          have hu1 : u.var < 13 := by omega
          have hin : u.var.toNat = k := by omega
          clear hv hk
          go_wp2_with (go_at_call 71; refine HLK.out.mono ?_; rintro e w3 ⟨a3, c3, rfl, hf3, ht3, hb3⟩; have HB3 := Lib.hid hb3; have hi4 := (HINT.out.below hb3).below ((Below.refl w3.heap.size w3).alloc (Nat.le_refl _) (.cells #[.int .i64 u.var, .string u.name, .slice a3 u.args.length c3] 24)); have HI4 := Lib.hid hi4; have hc4 := hi4.get k (by simp; omega); have hf4 := hi4.fz; clear hf3 ht3 hb3 hi4)
          go_roundw
          case measure => simp [intOf]; omega
          case rel =>
            rw [hin] at HSK
            have hb4 : Below wr.heap.size wr (w3.alloc (.cells #[.int .i64 u.var, .string u.name, .slice a3 u.args.length c3] 24)) := HB3.out.trans (((Below.refl _ _).alloc (Nat.le_refl _) _).mono HB3.out.size)
            have hi5 := HI4.out.set k (12 - (n : Int))
            rw [HSK.out] at hi5
            exact ⟨n + 1, by omega, by go_num, hi5, (HBEL.out.trans (hb4.mono HBEL.out.size)).setCell (Nat.le_refl _) _⟩
      · have hn12 : n = 12 := by omega
        subst hn12
        have hge : ¬ ((1 : Int) ≤ 12 - ((12 : Nat) : Int)) := by omega
        obtain ⟨i0, hi0, hz0', hz1', hz2'⟩ := info_parts Try.infoTm
        have HOKR : Hid (∀ b, ok b → b < wr.heap.size) := Lib.hid fun b hb => (HRK.out.okb b hb).1
        have HBR : Hid (Below w.heap.size w wr) := Lib.hid (HB2.out.trans (HBEL.out.mono HB2.out.size))
        generalize hτ : subB (B.map (·.1)) = τ at *
        generalize w2.heap.size = nb at *
        generalize wr = wq at *
        clear HBEL HRR HB2 hmk
        go_wp2_with fail
        go_loopw [12, 13] (fun y12 y13 wv => ∃ (m : Nat) (L : List TmAt) (l : List Tm), m ≤ 12 ∧ y13 = .int .i64 ((m : Int) + 1) ∧ Hid (outs τ m = some l) ∧ Hid (L.map (·.1) = l.map (Tm.mapv (namesR τ 12))) ∧ Hid (L.length = m) ∧ OwnTs wv wq.heap.size (OkN ok wq) y12 L ∧ Below wq.heap.size wq wv) (fun _ y13 _ => 13 - (intOf y13).toNat)
        case atStart => exact ⟨0, [], [], by omega, rfl, Lib.hid rfl, Lib.hid rfl, Lib.hid rfl, OwnTs.nil _ _ _, Below.refl _ _⟩
        case round =>
          generalize wr = wv at *
          obtain ⟨m, L2, l, hm, rfl, HOU, HLL, HLN, hown, hbel⟩ := hrel
          have HOWN := Lib.hid hown; have HBEL := Lib.hid hbel
          have HRV := Lib.hid (HRK.out.keep hbel)
          have HIV := Lib.hid (HINT.out.below hbel)
          obtain ⟨xa, xc, rfl⟩ := hown.form
          clear hown hbel
          by_cases hlt : m < 12
          · have hlt' : (m : Int) + 1 ≤ 12 := by omega
            have HCL : Hid (Calls Try.prog 72 #[.pointer (some ⟨rs, 0, none⟩), .agg #[.int .i64 ((m : Int) + 1), .string ⟨#[]⟩, .slice none 0 0], .int .i64 200] wv (FullPost wv ok 200 (thrL τ 200 [VarT ((m : Int) + 1)]))) := Lib.hid (by
              have := FullW HFB.out 200 (VarT ((m : Int) + 1)) none 0 wv (by omega) HRV.out ⟨(by show I64 ((m : Int) + 1); unfold I64; omega), Nat.zero_le _⟩ (Ts.empty' _ _) (by rw [HBL.out]; exact fit_var (by omega) (by omega))
              rw [hτ] at this
              exact this)
            have HNX : Hid (outs τ (m + 1) = (thrL τ 200 [VarT ((m : Int) + 1)]).map fun x => l ++ x.1) := Lib.hid (by simp only [outs]; rw [HOU.out]; rfl)
            have HSZ := Lib.hid (thrL_size (σ := τ) 200 [VarT ((m : Int) + 1)])
            have HFTT := Lib.hid (fun x hx => thrL_fit HEN.out HDM.out 200 [VarT ((m : Int) + 1)] x (fun t ht => by rw [List.mem_singleton] at ht; subst ht; exact fit_var (by omega) (by omega)) hx)
            generalize thrL τ 200 [VarT ((m : Int) + 1)] = o at *
            cases o with
            | none =>
              have HN12 : Hid (outs τ 12 = none) := Lib.hid (outs_le (m + 1) 12 (by omega) (by rw [HNX.out]; rfl))
              clear HNX HSZ HFTT
              go_wp2_with (go_at_call 72; refine HCL.out.mono ?_; rintro e w3 ⟨rfl, hb3⟩; have HB3 := Lib.hid hb3; clear hb3)
              rw [HU'.out, HN12.out]
              have hb4 : Below w.heap.size w w3 := HBR.out.trans ((HBEL.out.trans (HB3.out.mono HBEL.out.size)).mono HBR.out.size)
              exact bodyPost_ret (v := .tuple #[.slice none 0 0, .bool false, .int .i64 0, .int .i64 2]) (by simp [results, Try.results23, go_sem]) rfl ⟨hb4.alloc (by have := hb4.size; omega) _, rfl⟩
            | some x =>
              have HX2 := Lib.hid (HSZ.out x rfl); have HX3 := Lib.hid (HFTT.out x rfl)
              clear HSZ HFTT
              go_wp2_with (first
                | (go_at_call 72; refine HCL.out.mono ?_; rintro e w3 ⟨T, a3, c3, hTT, rfl, hf3, hts3, hb3⟩; have HB3 := Lib.hid hb3; have HTT := Lib.hid hTT; have HF3 := Lib.hid hf3; have HTS3 := Lib.hid hts3; clear hTT hf3 hts3 hb3)
                | (go_at_call 73
                   have HBA : Hid (Below w3.heap.size w3 (w3.alloc (.cells #[.int .i64 T.var, .string T.name, .slice a3 T.args.length c3] 24))) := Lib.hid ((Below.refl _ _).alloc (Nat.le_refl _) _)
                   have HFT : Hid (Fit 13 T) := Lib.hid (HX3.out T (by rw [HTT.out]; exact List.mem_singleton.2 rfl))
                   have HTS4 : Hid (Ts (w3.alloc (.cells #[.int .i64 T.var, .string T.name, .slice a3 T.args.length c3] 24)) (fun b => OkN ok wv b ∧ b < w3.heap.size) T.args a3 c3) := Lib.hid ((HTS3.out.mono fun b hb hk => ⟨hk, hb⟩).keep (Keeps.below HBA.out _))
                   refine (NamedW (N := fun i : Nat => namesR τ 12 i) T _ (fun b => OkN ok wv b ∧ b < w3.heap.size) a3 c3 (fun b hb => by have := hb.2; simp; omega) (by have := HX2.out; rw [HTT.out] at this; simp only [Tm.sizes] at this; omega) HF3.out HTS4.out ⟨fun p hp _ => ⟨(HFT.out.wf p hp).1, (HFT.out.bd p hp).1⟩, fun i hi => ⟨?g0, ?g1⟩⟩).mono ?_
                   rotate_left 2
                   rintro e w5 ⟨a5, c5, rfl, hf5, hts5, hb5⟩
                   have HF5 := Lib.hid hf5; have HB5 := Lib.hid (HB3.out.trans ((HBA.out.trans (hb5.mono (by have := HBA.out.size; omega))).mono HB3.out.size))
                   have HTS5 : Hid (Ts w5 (OkN ok wv) (Tm.mapv (fun x => namesR τ 12 (x.toNat : Int)) T).args a5 c5) := Lib.hid (hts5.mono fun b _ hk => hk.elim (fun h => h.1) (fun h => .inr (by have := HB3.out.size; have := HBA.out.size; omega)))
                   have HMV : Hid (Tm.mapv (fun x => namesR τ 12 (x.toNat : Int)) T = T.mapv (namesR τ 12)) := Lib.hid (mapv_congr T fun p hp _ => by have := (HFT.out.wf p hp).1; congr 1; omega)
                   clear hf5 hts5 hb5 HTS4 HBA
                   generalize Tm.mapv (fun x => namesR τ 12 (x.toNat : Int)) T = U at *
                   have HO1 := Lib.hid ((HOWN.out.below HB5.out).own.alloc (.cells #[.int .i64 U.var, .string U.name, .slice a5 U.args.length c5] 24)))
                | (at_builtin; have _g := HO1; refine wpList_append_opt _ rfl _ _ 22 rfl wq.heap.size 24 i0 _ 3 48 Try.underlying22 hi0 hz0' hz1' hz2' rfl (by decide) _ _ _ rfl HO1.out (some ⟨w5.heap.size, 0, none⟩) 1 1 ?d0 (flat [(U, a5, c5)]) rfl (by rw [flat_length]; rfl) ?d1 (flat_one _) ?d2 ?d3 ?d4 ?_))
              case g0 =>
                have q := ((HIV.out.below HB3.out).below HBA.out).get i (by simpa using hi)
                rw [List.getElem_map, List.getElem_range] at q
                rw [Nat.zero_add]; exact q
              case g1 => have := namesR_range τ (i : Int) 12 (Nat.le_refl _); unfold I64; omega
              case d0 => intro h; cases h
              case d1 => exact news3 _ U a5 c5 rfl
              case d2 => have := HLN.out; unfold maxLen; omega
              case d3 => have := HLN.out; omega
              case d4 => have := HBEL.out.size; have := HB5.out.size; simp only [aSz]; omega
              · intro v4 w4 hown4 hgrow4 hfr4
                have BX4 : Below w5.heap.size w5 (w5.alloc (.cells #[.int .i64 U.var, .string U.name, .slice a5 U.args.length c5] 24)) := (Below.refl _ _).alloc (Nat.le_refl _) _
                have HNXT := Lib.hid (HOWN.out.more HBEL.out HOKR.out (Nat.le_refl _) HB5.out HF5.out HTS5.out BX4 hown4 hgrow4 hfr4)
                clear hown4 hgrow4 hfr4 BX4
                go_wp2_with fail
                go_roundw
                case measure => simp [intOf]; omega
                case rel =>
                  exact ⟨m + 1, L2 ++ [(U, a5, c5)], l ++ [T], by omega, by go_num, Lib.hid (by rw [HNX.out]; simp only [Option.map_some]; rw [HTT.out]), Lib.hid (by rw [List.map_append, List.map_append, HLL.out]; simp only [List.map_cons, List.map_nil]; rw [HMV.out]), Lib.hid (by rw [List.length_append, HLN.out]; rfl), HNXT.out⟩
          · have hm12 : m = 12 := by omega
            have hge2 : ¬ ((m : Int) + 1 ≤ 12) := by omega
            obtain ⟨-, z1, -, -⟩ := HRV.out.cells
            have DQ := below_drewN wv
            have HN12 : Hid (outs τ 12 = some l) := Lib.hid (by rw [← hm12]; exact HOU.out)
            clear hm12
            go_wp2_with fail
            go_quiet (fail)
            rename_i nq
            have hB := DQ nq
            generalize wv.drewN nq = X at *
            go_wp2_with fail
            rw [HU'.out, HN12.out]
            obtain ⟨a9, c9, he, ht9⟩ := (HOWN.out.below hB).ret (w := w) HBR.out.size
            injection he with he1 he2 he3
            subst he1; subst he3
            exact bodyPost_ret (v := .tuple #[.slice xa L2.length xc, .bool true, .int .i64 (4000 - f : Nat), .int .i64 0]) (by simp [results, Try.results23, go_sem]) rfl
              ⟨HBR.out.trans ((HBEL.out.trans (hB.mono HBEL.out.size)).mono HBR.out.size), xa, xc, by rw [← HLL.out, List.length_map], by rw [← HLL.out]; exact ht9⟩

end Go.Proofs.Ytikmgiapjigghaa

/- Plain: other numbers of variables, one for each: terms are numbered alike. -/
namespace Go.Proofs.Ytikmgiapjigghaa
open Go.RowKit

theorem mem_addV' {s : List Int} {v x : Int} : x ∈ addV s v ↔ x ∈ s ∨ x = v := by
  unfold addV
  by_cases h : v ∈ s
  · rw [if_pos h]; exact ⟨.inl, fun e => e.elim id fun e => e ▸ h⟩
  · rw [if_neg h, List.mem_append, List.mem_singleton]

theorem idxOf_inj {P : Int → Prop} {g : Int → Int} (hg : ∀ v w, P v → P w → g v = g w → v = w) {v : Int} (hv : P v) : ∀ s : List Int, (∀ x, x ∈ s → P x) → (s.map g).idxOf (g v) = s.idxOf v := by
  intro s
  induction s with
  | nil => intro _; rfl
  | cons a s ih =>
    intro hs
    have ha := hs a List.mem_cons_self
    have hr := ih fun x hx => hs x (List.mem_cons_of_mem _ hx)
    rw [List.map_cons, List.idxOf_cons, List.idxOf_cons, hr]
    by_cases e : a = v
    · subst e; simp
    · have e2 : ¬ g a = g v := fun e2 => e (hg a v ha hv e2)
      rw [show (g a == g v) = false by simpa using e2, show (a == v) = false by simpa using e]

theorem mem_inj {P : Int → Prop} {g : Int → Int} (hg : ∀ v w, P v → P w → g v = g w → v = w) {v : Int} (hv : P v) {s : List Int} (hs : ∀ x, x ∈ s → P x) : g v ∈ s.map g ↔ v ∈ s := by
  rw [List.mem_map]
  exact ⟨fun ⟨a, ha, e⟩ => by rw [← hg a v (hs a ha) hv e]; exact ha, fun h => ⟨v, h, rfl⟩⟩

theorem numV_inj {P : Int → Prop} {g : Int → Int} (hg : ∀ v w, P v → P w → g v = g w → v = w) {v : Int} (hv : P v) {s : List Int} (hs : ∀ x, x ∈ s → P x) :
    numV (s.map g) (g v) = ((numV s v).1, (numV s v).2.map g) ∧ ∀ x, x ∈ (numV s v).2 → P x := by
  have ha : addV (s.map g) (g v) = (addV s v).map g := by
    unfold addV
    by_cases e : v ∈ s
    · rw [if_pos e, if_pos ((mem_inj hg hv hs).2 e)]
    · rw [if_neg e, if_neg (fun h => e ((mem_inj hg hv hs).1 h)), List.map_append]; rfl
  have hp : ∀ x, x ∈ addV s v → P x := fun x hx => by
    rcases mem_addV'.1 hx with h | h
    · exact hs x h
    · exact h ▸ hv
  refine ⟨?_, hp⟩
  simp only [numV]
  rw [ha, idxOf_inj hg hv _ hp]

/-- Other numbers of variables, one for each: the terms are numbered alike. -/
theorem ren_inj {P : Int → Prop} {g : Int → Int} (hg : ∀ v w, P v → P w → g v = g w → v = w) (hz : ∀ v, P v → g v ≠ 0) (t : Tm) : ∀ s : List Int, WfT t → (∀ p, p ∈ t.parts → p.var ≠ 0 → P p.var) → (∀ x, x ∈ s → P x) →
    Tm.ren numV (s.map g) (t.mapv g) = ((Tm.ren numV s t).1, (Tm.ren numV s t).2.map g) ∧ ∀ x, x ∈ (Tm.ren numV s t).2 → P x := by
  induction t using Tm.ind with
  | h v n l ih =>
    intro s hw hp hs
    by_cases hv : v = 0
    · subst hv
      rw [Tm.mapv_fn (t := .mk 0 n l) rfl]
      have hl : ∀ (r : List Tm) (s : List Int), (∀ x, x ∈ r → x ∈ l) → (∀ x, x ∈ s → P x) → Tm.rens numV (s.map g) (r.map (Tm.mapv g)) = ((Tm.rens numV s r).1, (Tm.rens numV s r).2.map g) ∧ ∀ x, x ∈ (Tm.rens numV s r).2 → P x := by
        intro r
        induction r with
        | nil => intro s _ hs; exact ⟨rfl, hs⟩
        | cons x r ihr =>
          intro s hr hs
          have hx := hr x List.mem_cons_self
          obtain ⟨h1, h2⟩ := ih x hx s (hw.arg (t := .mk 0 n l) hx) (fun p hpp => hp p (Tm.parts_arg (t := .mk 0 n l) hx hpp)) hs
          obtain ⟨h3, h4⟩ := ihr (Tm.ren numV s x).2 (fun y hy => hr y (List.mem_cons_of_mem _ hy)) h2
          simp only [List.map_cons, Tm.rens, h1, h3]
          exact ⟨trivial, h4⟩
      obtain ⟨h1, h2⟩ := hl l s (fun _ h => h) hs
      simp only [Tm.name, Tm.args, Tm.ren]
      rw [if_neg (fun h => h rfl), if_neg (fun h => h rfl), h1]
      exact ⟨rfl, h2⟩
    · have hP : P v := hp _ (Tm.self_mem _) hv
      rw [Tm.mapv_var (t := .mk v n l) hv]
      obtain ⟨h1, h2⟩ := numV_inj hg hP hs
      have e1 : Tm.ren numV (s.map g) (VarT (g v)) = (.mk (numV (s.map g) (g v)).1 ⟨#[]⟩ [], (numV (s.map g) (g v)).2) := by simp only [Tm.ren]; rw [if_pos (hz v hP)]
      have e2 : Tm.ren numV s (.mk v n l) = (.mk (numV s v).1 ⟨#[]⟩ [], (numV s v).2) := by simp only [Tm.ren]; rw [if_pos hv]
      show Tm.ren numV (s.map g) (VarT (g v)) = _ ∧ _
      rw [e1, e2, h1]
      exact ⟨rfl, h2⟩

end Go.Proofs.Ytikmgiapjigghaa

/- Plain: a store whose variables have other numbers: making two terms the same goes on alike, and what is shown is the same but for the numbers. -/
namespace Go.Proofs.Ytikmgiapjigghaa
open Go.RowKit

/-- Numbers of variables below n, each another one, from 1 on. -/
structure QOk (q : Int → Int) (n : Nat) : Prop where
  pos : ∀ v : Int, 1 ≤ v → v.toNat < n → 1 ≤ q v
  inj : ∀ v w : Int, 1 ≤ v → v.toNat < n → 1 ≤ w → w.toNat < n → q v = q w → v = w

/-- A store, and one that says the same of the variables by their other numbers. -/
structure RenS (q : Int → Int) (n : Nat) (τ ρ : Sub) : Prop where
  qk : QOk q n
  inv : SInv τ
  inv' : SInv ρ
  fit : ∀ v u, τ v = some u → Fit n u
  at' : ∀ v : Int, 1 ≤ v → v.toNat < n → ρ (q v) = (τ v).map (Tm.mapv q)
  keys : ∀ v, τ v ≠ none → 1 ≤ v ∧ v.toNat < n
  keys' : ∀ x, ρ x ≠ none → ∃ v : Int, 1 ≤ v ∧ v.toNat < n ∧ x = q v

theorem mapv_v {q : Int → Int} {t : Tm} (h : t.var ≠ 0) : (t.mapv q).var = q t.var := by rw [Tm.mapv_var h]; rfl
theorem mapv_0 {q : Int → Int} {t : Tm} (h : t.var = 0) : (t.mapv q).var = 0 := by rw [Tm.mapv_fn h]; rfl
theorem mapv_name {q : Int → Int} {t : Tm} (h : t.var = 0) : (t.mapv q).name = t.name := by rw [Tm.mapv_fn h]; rfl
theorem mapv_args {q : Int → Int} {t : Tm} (h : t.var = 0) : (t.mapv q).args = t.args.map (Tm.mapv q) := by rw [Tm.mapv_fn h]; rfl

section
variable {q : Int → Int} {n : Nat} {τ ρ : Sub}

theorem QOk.at (h : QOk q n) {t : Tm} (ht : Fit n t) (hv : t.var ≠ 0) : 1 ≤ t.var ∧ t.var.toNat < n ∧ 1 ≤ q t.var ∧ (t.mapv q).var ≠ 0 := by
  have h1 := ht.pos
  have h2 := h.pos t.var (by omega) h1.2
  exact ⟨by omega, h1.2, h2, by rw [mapv_v hv]; omega⟩

theorem QOk.wf (h : QOk q n) (t : Tm) : Fit n t → WfT (t.mapv q) := by
  induction t using Tm.ind with
  | h v nm l ih =>
    intro ht
    by_cases hv : v = 0
    · subst hv
      intro p hp
      rw [Tm.mapv_fn (t := .mk 0 nm l) rfl] at hp
      simp only [Tm.name, Tm.args, Tm.parts] at hp
      rcases List.mem_cons.1 hp with rfl | hp
      · exact ⟨Int.le_refl _, fun e => absurd rfl e⟩
      · have : ∀ (r : List Tm), (∀ x, x ∈ r → WfT x) → ∀ p, p ∈ Tm.partss r → 0 ≤ p.var ∧ (p.var ≠ 0 → p.args = [] ∧ p.name = ⟨#[]⟩) := by
          intro r
          induction r with
          | nil => intro _ p hp; simp [Tm.partss] at hp
          | cons a r ihr =>
            intro hr p hp
            rw [Tm.partss, List.mem_append] at hp
            rcases hp with hp | hp
            · exact hr a List.mem_cons_self p hp
            · exact ihr (fun x hx => hr x (List.mem_cons_of_mem _ hx)) p hp
        refine this _ (fun x hx => ?_) p hp
        obtain ⟨y, hy, rfl⟩ := List.mem_map.1 hx
        exact ih y hy (ht.arg (t := .mk 0 nm l) hy)
    · rw [Tm.mapv_var (t := .mk v nm l) hv]
      exact WfT.bare (by have := (h.at ht hv).2.2.1; omega)

theorem RenS.lookN (h : RenS q n τ ρ) : ∀ (m : Nat) (t u : Tm), Fit n t → LookN τ m t u → LookN ρ m (t.mapv q) (u.mapv q) ∧ Fit n u := by
  intro m
  induction m with
  | zero =>
    rintro t u ht ⟨rfl, h2⟩
    refine ⟨⟨rfl, ?_⟩, ht⟩
    by_cases hv : u.var = 0
    · exact .inl (mapv_0 hv)
    · have h3 := h.qk.at ht hv
      right
      rw [mapv_v hv, h.at' _ h3.1 h3.2.1, h2.resolve_left hv]; rfl
  | succ m ih =>
    rintro t u ht ⟨h1, t', h2, h3⟩
    have h4 := h.qk.at ht h1
    obtain ⟨h5, h6⟩ := ih t' u (h.fit _ _ h2) h3
    exact ⟨⟨h4.2.2.2, t'.mapv q, by rw [mapv_v h1, h.at' _ h4.1 h4.2.1, h2]; rfl, h5⟩, h6⟩

theorem RenS.look (h : RenS q n τ ρ) {t : Tm} (ht : Fit n t) : look ρ (t.mapv q) = (look τ t).mapv q ∧ Fit n (look τ t) := by
  obtain ⟨m, hm⟩ := look_spec h.inv.rank.ends t
  obtain ⟨h1, h2⟩ := h.lookN m t _ ht hm
  exact ⟨look_eq h1, h2⟩

theorem RenS.within (h : RenS q n τ ρ) {v : Int} (h1 : 1 ≤ v) (h2 : v.toNat < n) : ∀ (f : Nat) (l : List Tm), (∀ t, t ∈ l → Fit n t) → within ρ (q v) f (l.map (Tm.mapv q)) = within τ v f l := by
  intro f
  induction f with
  | zero => intro l _; cases l <;> rfl
  | succ f ih =>
    intro l hl
    cases l with
    | nil => rfl
    | cons t r =>
      obtain ⟨e, ht⟩ := h.look (hl t List.mem_cons_self)
      have hr : ∀ x, x ∈ r → Fit n x := fun x hx => hl x (List.mem_cons_of_mem _ hx)
      simp only [List.map_cons, Go.Proofs.Ytikmgiapjigghaa.within, e]
      by_cases hv : (Go.Proofs.Ytikmgiapjigghaa.look τ t).var = 0
      · rw [if_neg (by rw [mapv_0 hv]; simp), if_neg (by rw [hv]; simp), mapv_args hv, ← List.map_append]
        exact ih _ fun x hx => by
          rcases List.mem_append.1 hx with hx | hx
          · exact ht.arg hx
          · exact hr x hx
      · have h3 := h.qk.at ht hv
        rw [if_pos h3.2.2.2, if_pos hv, mapv_v hv, ih r hr]
        by_cases h4 : (Go.Proofs.Ytikmgiapjigghaa.look τ t).var = v
        · rw [if_pos (by rw [h4]), if_pos h4]
        · rw [if_neg (fun e2 => h4 (h.qk.inj _ _ h3.1 h3.2.1 h1 h2 e2)), if_neg h4]

theorem RenS.upd (h : RenS q n τ ρ) {v : Int} {t : Tm} (h1 : 1 ≤ v) (h2 : v.toNat < n) (hn : τ v = none) (ht : Fit n t) (hs : t.var = 0 ∨ τ t.var = none) (hne : t.var ≠ v) : RenS q n (upd τ v t) (upd ρ (q v) (t.mapv q)) := by
  have hs' : (t.mapv q).var = 0 ∨ ρ (t.mapv q).var = none := by
    by_cases hv : t.var = 0
    · exact .inl (mapv_0 hv)
    · have h3 := h.qk.at ht hv
      right; rw [mapv_v hv, h.at' _ h3.1 h3.2.1, hs.resolve_left hv]; rfl
  have hne' : (t.mapv q).var ≠ q v := by
    by_cases hv : t.var = 0
    · rw [mapv_0 hv]; have := h.qk.pos v h1 h2; omega
    · have h3 := h.qk.at ht hv
      rw [mapv_v hv]; exact fun e => hne (h.qk.inj _ _ h3.1 h3.2.1 h1 h2 e)
  refine ⟨h.qk, h.inv.to h1 hn ht.wf hs hne, h.inv'.to (h.qk.pos v h1 h2) (by rw [h.at' v h1 h2, hn]; rfl) (h.qk.wf t ht) hs' hne', fun w u e => ?_, fun w hw1 hw2 => ?_, fun w hw => ?_, fun x hx => ?_⟩
  · unfold Go.Proofs.Ytikmgiapjigghaa.upd at e
    by_cases e2 : w = v
    · rw [if_pos e2] at e; cases e; exact ht
    · rw [if_neg e2] at e; exact h.fit _ _ e
  · unfold Go.Proofs.Ytikmgiapjigghaa.upd
    by_cases e2 : w = v
    · subst e2; rw [if_pos rfl, if_pos rfl]; rfl
    · rw [if_neg e2, if_neg (fun e => e2 (h.qk.inj _ _ hw1 hw2 h1 h2 e))]
      exact h.at' w hw1 hw2
  · unfold Go.Proofs.Ytikmgiapjigghaa.upd at hw
    by_cases e2 : w = v
    · subst e2; exact ⟨h1, h2⟩
    · rw [if_neg e2] at hw; exact h.keys w hw
  · unfold Go.Proofs.Ytikmgiapjigghaa.upd at hx
    by_cases e2 : x = q v
    · exact ⟨v, h1, h2, e2⟩
    · rw [if_neg e2] at hx; exact h.keys' x hx

/-- Ends that are the same but for the numbers. -/
def MRen (q : Int → Int) (n : Nat) : MOut → MOut → Prop
  | .ok τ _ f, .ok ρ _ g => f = g ∧ RenS q n τ ρ
  | .no _ _ f, .no _ _ g => f = g
  | .many _ _, .many _ _ => True
  | _, _ => False

def mapP (q : Int → Int) (p : Tm × Tm) : Tm × Tm := (p.1.mapv q, p.2.mapv q)

def SRen (q : Int → Int) (n : Nat) : MStep → MStep → Prop
  | .done o, .done o' => MRen q n o o'
  | .go τ _ f m, .go ρ _ g m' => f = g ∧ m' = m.map (mapP q) ∧ RenS q n τ ρ ∧ ∀ p, p ∈ m → Fit n p.1 ∧ Fit n p.2
  | _, _ => False

theorem RenS.bindStep (h : RenS q n τ ρ) {v : Int} {t : Tm} (h1 : 1 ≤ v) (h2 : v.toNat < n) (hn : τ v = none) (ht : Fit n t) (hs : t.var = 0 ∨ τ t.var = none) (hne : t.var ≠ v) (f : Nat) :
    SRen q n (bindStepR τ v t f) (bindStepR ρ (q v) (t.mapv q) f) := by
  have hw := h.within h1 h2 f [t] fun x hx => by rw [List.mem_singleton] at hx; rw [hx]; exact ht
  unfold bindStepR
  simp only [List.map_cons, List.map_nil] at hw
  rw [hw]
  cases Go.Proofs.Ytikmgiapjigghaa.within τ v f [t] with
  | yes g => rfl
  | many => trivial
  | no g => exact ⟨rfl, rfl, h.upd h1 h2 hn ht hs hne, fun p hp => nomatch hp⟩

theorem zip_mapP (l r : List Tm) : (l.map (Tm.mapv q)).zip (r.map (Tm.mapv q)) = (l.zip r).map (mapP q) := by
  induction l generalizing r with
  | nil => rfl
  | cons a l ih =>
    cases r with
    | nil => rfl
    | cons b r => simp only [List.map_cons, List.zip_cons_cons, ih]; rfl

theorem pairR_same {σ : Sub} {f : Nat} {x y : Tm} (h : x.var ≠ 0) (e : x.var = y.var) : pairStepR σ f x y = .go σ [] f [] := by unfold pairStepR; rw [if_pos ⟨h, e⟩]
theorem pairR_x {σ : Sub} {f : Nat} {x y : Tm} (h : x.var ≠ 0) (e : x.var ≠ y.var) : pairStepR σ f x y = bindStepR σ x.var y f := by unfold pairStepR; rw [if_neg (fun h => e h.2), if_pos h]
theorem pairR_y {σ : Sub} {f : Nat} {x y : Tm} (h : x.var = 0) (k : y.var ≠ 0) : pairStepR σ f x y = bindStepR σ y.var x f := by unfold pairStepR; rw [if_neg (fun e => e.1 h), if_neg (fun e => e h), if_pos k]
theorem pairR_no {σ : Sub} {f : Nat} {x y : Tm} (h : x.var = 0) (k : y.var = 0) (e : x.name ≠ y.name ∨ x.args.length ≠ y.args.length) : pairStepR σ f x y = .done (.no σ [] f) := by unfold pairStepR; rw [if_neg (fun e => e.1 h), if_neg (fun e => e h), if_neg (fun e => e k), if_pos e]
theorem pairR_go {σ : Sub} {f : Nat} {x y : Tm} (h : x.var = 0) (k : y.var = 0) (e : ¬ (x.name ≠ y.name ∨ x.args.length ≠ y.args.length)) : pairStepR σ f x y = .go σ [] f (x.args.zip y.args) := by unfold pairStepR; rw [if_neg (fun e => e.1 h), if_neg (fun e => e h), if_neg (fun e => e k), if_neg e]

theorem RenS.pairStep (h : RenS q n τ ρ) {x y : Tm} (hx : Fit n x) (hy : Fit n y) (sx : x.var = 0 ∨ τ x.var = none) (sy : y.var = 0 ∨ τ y.var = none) (f : Nat) :
    SRen q n (pairStepR τ f x y) (pairStepR ρ f (x.mapv q) (y.mapv q)) := by
  by_cases vx : x.var = 0
  · have vx' := mapv_0 (q := q) vx
    by_cases vy : y.var = 0
    · have vy' := mapv_0 (q := q) vy
      have hiff : ((x.mapv q).name ≠ (y.mapv q).name ∨ (x.mapv q).args.length ≠ (y.mapv q).args.length) ↔ (x.name ≠ y.name ∨ x.args.length ≠ y.args.length) := by
        rw [mapv_name vx, mapv_name vy, mapv_args vx, mapv_args vy, List.length_map, List.length_map]
      by_cases hn : x.name ≠ y.name ∨ x.args.length ≠ y.args.length
      · rw [pairR_no vx vy hn, pairR_no vx' vy' (hiff.2 hn)]; rfl
      · rw [pairR_go vx vy hn, pairR_go vx' vy' (fun e => hn (hiff.1 e)), mapv_args vx, mapv_args vy]
        refine ⟨rfl, zip_mapP _ _, h, fun p hp => ?_⟩
        have := List.of_mem_zip hp
        exact ⟨hx.arg this.1, hy.arg this.2⟩
    · have h3 := h.qk.at hy vy
      rw [pairR_y vx vy, pairR_y vx' h3.2.2.2, mapv_v vy]
      exact h.bindStep h3.1 h3.2.1 (sy.resolve_left vy) hx sx (by omega) f
  · have h3 := h.qk.at hx vx
    by_cases e : x.var = y.var
    · have vy : y.var ≠ 0 := by omega
      rw [pairR_same vx e, pairR_same h3.2.2.2 (by rw [mapv_v vx, mapv_v vy, e])]
      exact ⟨rfl, rfl, h, fun p hp => nomatch hp⟩
    · have e' : (x.mapv q).var ≠ (y.mapv q).var := fun e3 => by
        by_cases vy : y.var = 0
        · rw [mapv_0 vy] at e3; exact h3.2.2.2 e3
        · have h4 := h.qk.at hy vy
          rw [mapv_v vx, mapv_v vy] at e3
          exact e (h.qk.inj _ _ h3.1 h3.2.1 h4.1 h4.2.1 e3)
      rw [pairR_x vx e, pairR_x h3.2.2.2 e', mapv_v vx]
      exact h.bindStep h3.1 h3.2.1 (sx.resolve_left vx) hy sy (fun e2 => e e2.symm) f

theorem meetR_ren : ∀ (f : Nat) (τ ρ : Sub) (ps : List (Tm × Tm)), RenS q n τ ρ → (∀ p, p ∈ ps → Fit n p.1 ∧ Fit n p.2) → MRen q n (meetR τ f ps) (meetR ρ f (ps.map (mapP q))) := by
  intro f
  induction f using Nat.strongRecOn with
  | _ f ih =>
    intro τ ρ ps h hp
    cases ps with
    | nil => rw [List.map_nil, meetR_nil, meetR_nil]; exact ⟨rfl, h⟩
    | cons p r =>
      cases f with
      | zero => rw [List.map_cons, meetR_zero, meetR_zero]; trivial
      | succ f =>
        obtain ⟨h1, h2⟩ := hp p List.mem_cons_self
        obtain ⟨e1, f1⟩ := h.look h1
        obtain ⟨e2, f2⟩ := h.look h2
        have hs := h.pairStep f1 f2 (look_stop h.inv.rank.ends _) (look_stop h.inv.rank.ends _) f
        rw [← e1, ← e2] at hs
        rw [List.map_cons]
        cases hA : pairStepR τ f (Go.Proofs.Ytikmgiapjigghaa.look τ p.1) (Go.Proofs.Ytikmgiapjigghaa.look τ p.2) with
        | done o =>
          rw [hA] at hs
          cases hB : pairStepR ρ f (Go.Proofs.Ytikmgiapjigghaa.look ρ (p.1.mapv q)) (Go.Proofs.Ytikmgiapjigghaa.look ρ (p.2.mapv q)) with
          | done o' => rw [hB] at hs; rw [meetR_done _ hA, meetR_done (p := mapP q p) _ hB]; exact hs
          | go a b c d => rw [hB] at hs; exact hs.elim
        | go τ' L' f' m =>
          rw [hA] at hs
          cases hB : pairStepR ρ f (Go.Proofs.Ytikmgiapjigghaa.look ρ (p.1.mapv q)) (Go.Proofs.Ytikmgiapjigghaa.look ρ (p.2.mapv q)) with
          | done o' => rw [hB] at hs; exact hs.elim
          | go ρ' L2 g m' =>
            rw [hB] at hs
            obtain ⟨rfl, rfl, h3, h4⟩ := hs
            rw [meetR_go _ hA, meetR_go (p := mapP q p) _ hB, ← List.map_append]
            refine ih f' (Nat.lt_succ_of_le (pairStepR_le hA)) τ' ρ' _ h3 fun x hx => ?_
            rcases List.mem_append.1 hx with hx | hx
            · exact h4 x hx
            · exact hp x (List.mem_cons_of_mem _ hx)

/-- What is shown is the same but for the numbers. -/
theorem RenS.show (h : RenS q n τ ρ) : ∀ (m : Nat) (l : List Tm), (∀ t, t ∈ l → Fit n t) → thrL ρ m (l.map (Tm.mapv q)) = (thrL τ m l).map fun x => (x.1.map (Tm.mapv q), x.2) := by
  intro m
  induction m using Nat.strongRecOn with
  | _ m ih =>
    intro l hl
    cases l with
    | nil => rw [List.map_nil, thrL_nil, thrL_nil]; rfl
    | cons t r =>
      cases m with
      | zero => rw [List.map_cons, thrL_zero, thrL_zero]; rfl
      | succ m =>
        obtain ⟨e, ht⟩ := h.look (hl t List.mem_cons_self)
        have hr : ∀ x, x ∈ r → Fit n x := fun x hx => hl x (List.mem_cons_of_mem _ hx)
        rw [List.map_cons]
        by_cases hv : (Go.Proofs.Ytikmgiapjigghaa.look τ t).var = 0
        · rw [thrL_fn (t := t.mapv q) (by rw [e]; exact mapv_0 hv), thrL_fn hv, e, mapv_args hv, mapv_name hv, ih m (Nat.lt_succ_self m) _ (fun x hx => ht.arg hx)]
          cases hy : thrL τ m (Go.Proofs.Ytikmgiapjigghaa.look τ t).args with
          | none => rfl
          | some y =>
            have hle := (thrL_le _ _ _ hy).1
            simp only [Option.map_some, Option.bind_some]
            rw [ih y.2 (by omega) r hr]
            cases hz : thrL τ y.2 r with
            | none => rfl
            | some z =>
              simp only [Option.map_some, List.map_cons]
              rw [Tm.mapv_fn (t := .mk 0 (Go.Proofs.Ytikmgiapjigghaa.look τ t).name y.1) rfl]; rfl
        · have h3 := h.qk.at ht hv
          rw [thrL_var (t := t.mapv q) (by rw [e]; exact h3.2.2.2), thrL_var hv, e, mapv_v hv, ih m (Nat.lt_succ_self m) r hr]
          cases hz : thrL τ m r with
          | none => rfl
          | some z =>
            simp only [Option.map_some, List.map_cons]
            rw [Tm.mapv_var (t := VarT (Go.Proofs.Ytikmgiapjigghaa.look τ t).var) hv]; rfl

end

end Go.Proofs.Ytikmgiapjigghaa

/- Plain: what the program's search does and what the reference's does, as plain functions. -/
namespace Go.Proofs.Ytikmgiapjigghaa
open Go.RowKit

abbrev Goal := Tm × Nat

/-- A choice of the program's: goals, the clause that is next, the store and the trail as they were. -/
structure PCh where
  gs : List Goal
  cl : Nat
  σ : Sub
  L : List Int

/-- The program's search. -/
structure PS where
  σ : Sub
  L : List Int
  f : Nat
  vars : Nat
  ch : List PCh
  now : List Goal
  ans : List (List Tm)
  fin : Nat
  steps : Nat

/-- What a choice of the reference's keeps. -/
structure RCh where
  τ : Sub
  n : Nat
  todo : List Goal
  cl : Nat

/-- The reference's search. -/
structure RS where
  τ : Sub
  n : Nat
  f : Nat
  kept : List RCh
  todo : List Goal
  ans : List (List Tm)
  fin : Nat
  steps : Nat

def FitC (c : Cl) (t : Tm) : Prop := c.head.name = t.name ∧ c.head.args.length = t.args.length

noncomputable instance (c : Cl) (t : Tm) : Decidable (FitC c t) := Classical.propDecidable _

/-- The next clause that fits. -/
noncomputable def nextF (p : List Cl) (t : Tm) (i : Nat) : Nat :=
  if h : i < p.length then (if FitC p[i] t then i else nextF p t (i + 1)) else i
termination_by p.length - i

theorem nextF_stop {p : List Cl} {t : Tm} {i : Nat} (h : ¬ i < p.length) : nextF p t i = i := by unfold nextF; rw [dif_neg h]
theorem nextF_fit {p : List Cl} {t : Tm} {i : Nat} (h : i < p.length) (hf : FitC p[i] t) : nextF p t i = i := by unfold nextF; rw [dif_pos h, if_pos hf]
theorem nextF_next {p : List Cl} {t : Tm} {i : Nat} (h : i < p.length) (hf : ¬ FitC p[i] t) : nextF p t i = nextF p t (i + 1) := by conv => lhs; unfold nextF; rw [dif_pos h, if_neg hf]

theorem nextF_ge (p : List Cl) (t : Tm) : ∀ (m i : Nat), p.length - i = m → i ≤ nextF p t i ∧ (i ≤ p.length → nextF p t i ≤ p.length) := by
  intro m
  induction m with
  | zero => intro i h; rw [nextF_stop (by omega)]; omega
  | succ m ih =>
    intro i h
    have hi : i < p.length := by omega
    by_cases hf : FitC p[i] t
    · rw [nextF_fit hi hf]; omega
    · rw [nextF_next hi hf]
      have := ih (i + 1) (by omega)
      omega

theorem nextF_is (p : List Cl) (t : Tm) : ∀ (m i : Nat), p.length - i = m → (h : nextF p t i < p.length) → FitC p[nextF p t i] t := by
  intro m
  induction m with
  | zero => intro i h h2; rw [nextF_stop (by omega)] at h2; omega
  | succ m ih =>
    intro i h h2
    have hi : i < p.length := by omega
    by_cases hf : FitC p[i] t
    · simp only [nextF_fit hi hf]; exact hf
    · simp only [nextF_next hi hf] at h2 ⊢; exact ih (i + 1) (by omega) h2

/-- A term with other variables: each number is more by so many. -/
def far (k : Int) (t : Tm) : Tm := t.mapv fun v => v + k

def bodyG (k : Int) (cut : Nat) (l : List Tm) : List Goal := l.map fun b => (far k b, cut)

/-- What the program does at a clause that fits. -/
noncomputable def pclause (p : List Cl) (gs : List Goal) (t : Tm) (c : Cl) (i : Nat) (S : PS) : PS × Option Bool :=
  match meet S.σ S.L S.f [(far S.vars c.head, t)] with
  | .ok σ L f => ({ S with σ := σ, L := L, f := f, vars := S.vars + 12, ch := if nextF p t (i + 1) < p.length then S.ch ++ [⟨gs, nextF p t (i + 1), S.σ, S.L⟩] else S.ch, now := bodyG S.vars S.ch.length c.body ++ gs.tail }, some true)
  | .no _ _ f => ({ S with f := f, vars := S.vars + 12 }, none)
  | .many _ _ => ({ S with f := 0, vars := S.vars + 12, fin := 3 }, some true)

/-- The program calls a goal. -/
noncomputable def pcall (p : List Cl) (gs : List Goal) (t : Tm) (i : Nat) (S : PS) : PS × Bool :=
  if h : i < p.length then
    if FitC p[i] t then
      match pclause p gs t p[i] i S with
      | (S', some b) => (S', b)
      | (S', none) => pcall p gs t (i + 1) S'
    else pcall p gs t (i + 1) S
  else (S, false)
termination_by p.length - i

theorem pcall_stop {p : List Cl} {gs : List Goal} {t : Tm} {i : Nat} {S : PS} (h : ¬ i < p.length) : pcall p gs t i S = (S, false) := by unfold pcall; rw [dif_neg h]
theorem pcall_skip {p : List Cl} {gs : List Goal} {t : Tm} {i : Nat} {S : PS} (h : i < p.length) (hf : ¬ FitC p[i] t) : pcall p gs t i S = pcall p gs t (i + 1) S := by conv => lhs; unfold pcall; rw [dif_pos h, if_neg hf]
theorem pcall_done {p : List Cl} {gs : List Goal} {t : Tm} {i : Nat} {S S' : PS} {b : Bool} (h : i < p.length) (hf : FitC p[i] t) (hc : pclause p gs t p[i] i S = (S', some b)) : pcall p gs t i S = (S', b) := by
  conv => lhs; unfold pcall; rw [dif_pos h, if_pos hf, hc]
theorem pcall_go {p : List Cl} {gs : List Goal} {t : Tm} {i : Nat} {S S' : PS} (h : i < p.length) (hf : FitC p[i] t) (hc : pclause p gs t p[i] i S = (S', none)) : pcall p gs t i S = pcall p gs t (i + 1) S' := by
  conv => lhs; unfold pcall; rw [dif_pos h, if_pos hf, hc]

theorem pcall_next {p : List Cl} {gs : List Goal} {t : Tm} {S : PS} : ∀ (m i : Nat), p.length - i = m → pcall p gs t i S = pcall p gs t (nextF p t i) S := by
  intro m
  induction m with
  | zero => intro i h; rw [nextF_stop (by omega)]
  | succ m ih =>
    intro i h
    have hi : i < p.length := by omega
    by_cases hf : FitC p[i] t
    · rw [nextF_fit hi hf]
    · rw [nextF_next hi hf, pcall_skip hi hf]; exact ih (i + 1) (by omega)

def headT (gs : List Goal) : Tm := (gs.head?.map (·.1)).getD default

/-- The program goes back to the last choice. -/
noncomputable def pback (p : List Cl) : Nat → PS → PS
  | 0, S => { S with fin := 1 }
  | n + 1, S =>
    match S.ch[n]? with
    | none => S
    | some c =>
      let r := pcall p c.gs (look c.σ (headT c.gs)) c.cl { S with ch := S.ch.take n, σ := c.σ, L := c.L, f := 4000 }
      if r.2 = true then r.1 else pback p n r.1

/-- The program takes a goal. -/
noncomputable def ptake (p : List Cl) (S : PS) : PS :=
  let S1 : PS := { S with steps := S.steps + 1, f := 4000 }
  let t := look S.σ (headT S.now)
  if t.var ≠ 0 then { S1 with fin := 4 }
  else if meansB t.name t.args.length = false then
    let r := pcall p S.now t 0 S1
    if r.2 = true then r.1 else pback p r.1.ch.length r.1
  else if t.name = ⟨#[33]⟩ then { S1 with ch := S.ch.take ((S.now.head?.map (·.2)).getD 0), now := S.now.tail }
  else if t.name = ⟨#[116, 114, 117, 101]⟩ then { S1 with now := S.now.tail }
  else if t.name = ⟨#[102, 97, 105, 108]⟩ then pback p S.ch.length S1
  else match meet S.σ S.L 4000 [(t.args.getD 0 default, t.args.getD 1 default)] with
    | .ok σ L f => { S1 with σ := σ, L := L, f := f, now := S.now.tail }
    | .no _ _ f => pback p S.ch.length { S1 with f := f, now := S.now.tail }
    | .many _ _ => { S1 with f := 0, fin := 3, now := S.now.tail }

def varsL (n : Nat) : List Tm := (List.range n).map fun i : Nat => VarT ((i : Int) + 1)

/-- The program tells an answer. -/
noncomputable def pansw (p : List Cl) (query : Nat) (S : PS) : PS :=
  match thrL S.σ 200 (varsL query) with
  | none => { S with fin := 3 }
  | some x =>
    if S.ans.length + 1 = 40 then { S with ans := S.ans ++ [(Tm.rens numV [] x.1).1], fin := 1 }
    else pback p S.ch.length { S with ans := S.ans ++ [(Tm.rens numV [] x.1).1] }

noncomputable def pstep (p : List Cl) (query : Nat) (most : Int) (S : PS) : PS :=
  if S.now = [] then pansw p query S else if (S.steps : Int) = most then { S with fin := 2 } else ptake p S

/-- What the reference does at a clause that fits. -/
noncomputable def rclause (p : List Cl) (todo : List Goal) (t : Tm) (c : Cl) (i : Nat) (S : RS) : RS × Option Bool :=
  match meetR S.τ S.f [(far ((S.n : Int) - 1) c.head, t)] with
  | .ok τ _ f => ({ S with τ := τ, n := S.n + 12, f := f, kept := if nextF p t (i + 1) < p.length then S.kept ++ [⟨S.τ, S.n, todo, nextF p t (i + 1)⟩] else S.kept, todo := bodyG ((S.n : Int) - 1) S.kept.length c.body ++ todo.tail }, some true)
  | .no _ _ f => ({ S with f := f }, none)
  | .many _ _ => ({ S with f := 0, fin := 3 }, some true)

noncomputable def rtry (p : List Cl) (todo : List Goal) (t : Tm) (i : Nat) (S : RS) : RS × Bool :=
  if h : i < p.length then
    if FitC p[i] t then
      match rclause p todo t p[i] i S with
      | (S', some b) => (S', b)
      | (S', none) => rtry p todo t (i + 1) S'
    else rtry p todo t (i + 1) S
  else (S, false)
termination_by p.length - i

theorem rtry_stop {p : List Cl} {gs : List Goal} {t : Tm} {i : Nat} {S : RS} (h : ¬ i < p.length) : rtry p gs t i S = (S, false) := by unfold rtry; rw [dif_neg h]
theorem rtry_skip {p : List Cl} {gs : List Goal} {t : Tm} {i : Nat} {S : RS} (h : i < p.length) (hf : ¬ FitC p[i] t) : rtry p gs t i S = rtry p gs t (i + 1) S := by conv => lhs; unfold rtry; rw [dif_pos h, if_neg hf]
theorem rtry_done {p : List Cl} {gs : List Goal} {t : Tm} {i : Nat} {S S' : RS} {b : Bool} (h : i < p.length) (hf : FitC p[i] t) (hc : rclause p gs t p[i] i S = (S', some b)) : rtry p gs t i S = (S', b) := by
  conv => lhs; unfold rtry; rw [dif_pos h, if_pos hf, hc]
theorem rtry_go {p : List Cl} {gs : List Goal} {t : Tm} {i : Nat} {S S' : RS} (h : i < p.length) (hf : FitC p[i] t) (hc : rclause p gs t p[i] i S = (S', none)) : rtry p gs t i S = rtry p gs t (i + 1) S' := by
  conv => lhs; unfold rtry; rw [dif_pos h, if_pos hf, hc]

theorem rtry_next {p : List Cl} {gs : List Goal} {t : Tm} {S : RS} : ∀ (m i : Nat), p.length - i = m → rtry p gs t i S = rtry p gs t (nextF p t i) S := by
  intro m
  induction m with
  | zero => intro i h; rw [nextF_stop (by omega)]
  | succ m ih =>
    intro i h
    have hi : i < p.length := by omega
    by_cases hf : FitC p[i] t
    · rw [nextF_fit hi hf]
    · rw [nextF_next hi hf, rtry_skip hi hf]; exact ih (i + 1) (by omega)

noncomputable def rback (p : List Cl) : Nat → RS → RS
  | 0, S => { S with fin := 1 }
  | n + 1, S =>
    match S.kept[n]? with
    | none => S
    | some c =>
      let r := rtry p c.todo (look c.τ (headT c.todo)) c.cl { S with kept := S.kept.take n, τ := c.τ, n := c.n, f := 4000 }
      if r.2 = true then r.1 else rback p n r.1

noncomputable def rtake (p : List Cl) (S : RS) : RS :=
  let S1 : RS := { S with steps := S.steps + 1, f := 4000 }
  let t := look S.τ (headT S.todo)
  if t.var ≠ 0 then { S1 with fin := 4 }
  else if meansB t.name t.args.length = false then
    let r := rtry p S.todo t 0 S1
    if r.2 = true then r.1 else rback p r.1.kept.length r.1
  else if t.name = ⟨#[33]⟩ then { S1 with kept := S.kept.take ((S.todo.head?.map (·.2)).getD 0), todo := S.todo.tail }
  else if t.name = ⟨#[116, 114, 117, 101]⟩ then { S1 with todo := S.todo.tail }
  else if t.name = ⟨#[102, 97, 105, 108]⟩ then rback p S.kept.length { S1 with todo := S.todo.tail }
  else match meetR S.τ 4000 [(t.args.getD 0 default, t.args.getD 1 default)] with
    | .ok τ _ f => { S1 with τ := τ, f := f, todo := S.todo.tail }
    | .no _ _ f => rback p S.kept.length { S1 with f := f, todo := S.todo.tail }
    | .many _ _ => { S1 with f := 0, fin := 3, todo := S.todo.tail }

noncomputable def rtell (p : List Cl) (query : Nat) (S : RS) : RS :=
  match thrL S.τ 200 (varsL query) with
  | none => { S with fin := 3 }
  | some x =>
    if S.ans.length + 1 = 40 then { S with ans := S.ans ++ [(Tm.rens numV [] x.1).1], fin := 1 }
    else rback p S.kept.length { S with ans := S.ans ++ [(Tm.rens numV [] x.1).1] }

noncomputable def rstep (p : List Cl) (query : Nat) (most : Int) (S : RS) : RS :=
  if S.todo = [] then rtell p query S else if (S.steps : Int) = most then { S with fin := 2 } else rtake p S

end Go.Proofs.Ytikmgiapjigghaa

/- Plain: the program's search and the reference's do the same, step by step. -/
namespace Go.Proofs.Ytikmgiapjigghaa
open Go.RowKit

/-- The program's store, how many variables there are, and the reference's. -/
structure StRel (q : Int → Int) (σ : Sub) (vars : Nat) (τ : Sub) (n : Nat) : Prop where
  ex : ∃ ρ, Sim σ ρ ∧ RenS q n τ ρ
  low : ∀ v : Int, 1 ≤ v → v.toNat < n → q v ≤ vars
  base : 13 ≤ n
  same : ∀ v : Int, 1 ≤ v → v ≤ 12 → q v = v

/-- Goals, and goals. -/
def GRel (q : Int → Int) (n : Nat) (gs todo : List Goal) : Prop := gs = todo.map (fun g => (g.1.mapv q, g.2)) ∧ ∀ g, g ∈ todo → Fit n g.1

/-- A choice, and one that is kept. -/
def CRel (vars : Nat) (c : PCh) (d : RCh) : Prop := c.cl = d.cl ∧ c.gs ≠ [] ∧ (∃ g, g ∈ d.todo.head? ∧ (look d.τ g.1).var = 0) ∧ ∃ q, StRel q c.σ vars d.τ d.n ∧ GRel q d.n c.gs d.todo

structure ChRel (vars : Nat) (ch : List PCh) (kept : List RCh) : Prop where
  len : ch.length = kept.length
  each : ∀ i (h : i < ch.length) (h2 : i < kept.length), CRel vars ch[i] kept[i]

theorem StRel.mono {q : Int → Int} {σ : Sub} {vars vars' : Nat} {τ : Sub} {n : Nat} (h : StRel q σ vars τ n) (hv : vars ≤ vars') : StRel q σ vars' τ n :=
  ⟨h.ex, fun v h1 h2 => by have := h.low v h1 h2; omega, h.base, h.same⟩

theorem ChRel.mono {vars vars' : Nat} {ch : List PCh} {kept : List RCh} (h : ChRel vars ch kept) (hv : vars ≤ vars') : ChRel vars' ch kept :=
  ⟨h.len, fun i h1 h2 => by obtain ⟨a, b, b2, q, c, d⟩ := h.each i h1 h2; exact ⟨a, b, b2, q, c.mono hv, d⟩⟩

theorem ChRel.take {vars : Nat} {ch : List PCh} {kept : List RCh} (h : ChRel vars ch kept) (k : Nat) : ChRel vars (ch.take k) (kept.take k) :=
  ⟨by rw [List.length_take, List.length_take, h.len], fun i h1 h2 => by
    rw [List.length_take] at h1 h2
    rw [List.getElem_take, List.getElem_take]
    exact h.each i (by omega) (by omega)⟩

theorem ChRel.push {vars : Nat} {ch : List PCh} {kept : List RCh} (h : ChRel vars ch kept) {c : PCh} {d : RCh} (hc : CRel vars c d) : ChRel vars (ch ++ [c]) (kept ++ [d]) :=
  ⟨by simp [h.len], fun i h1 h2 => by
    by_cases hi : i < ch.length
    · rw [List.getElem_append_left hi, List.getElem_append_left (by have := h.len; omega)]
      exact h.each i hi _
    · have hl := h.len
      simp only [List.length_append, List.length_cons, List.length_nil] at h1 h2
      have e : i = ch.length := by omega
      subst e
      simp only [List.getElem_append_right (Nat.le_refl _), Nat.sub_self, List.getElem_cons_zero]
      have : (kept ++ [d])[ch.length] = d := by
        simp only [hl]
        simp
      rw [this]; exact hc⟩

theorem Fit.mono {n m : Nat} {t : Tm} (h : Fit n t) (hm : n ≤ m) : Fit m t := ⟨h.wf, fun p hp => ⟨Nat.lt_of_lt_of_le (h.bd p hp).1 hm, (h.bd p hp).2⟩⟩

theorem mapv_mapv {f g : Int → Int} (t : Tm) : (∀ p, p ∈ t.parts → p.var ≠ 0 → f p.var ≠ 0) → (t.mapv f).mapv g = t.mapv fun v => g (f v) := by
  induction t using Tm.ind with
  | h v n l ih =>
    intro h
    by_cases hv : v = 0
    · subst hv
      rw [Tm.mapv_fn (t := .mk 0 n l) rfl, Tm.mapv_fn (t := .mk 0 n l) rfl, Tm.mapv_fn rfl]
      simp only [Tm.name, Tm.args, List.map_map]
      congr 1
      exact List.map_congr_left fun x hx => ih x hx fun p hp => h p (Tm.parts_arg (t := .mk 0 n l) hx hp)
    · have h1 := h _ (Tm.self_mem _) hv
      rw [Tm.mapv_var (t := .mk v n l) hv, Tm.mapv_var (t := .mk v n l) hv, Tm.mapv_var (t := VarT _) h1]
      rfl

theorem partss_sub : ∀ (l : List Tm) (p : Tm), p ∈ Tm.partss l → ∃ x, x ∈ l ∧ p ∈ x.parts := by
  intro l
  induction l with
  | nil => intro p h; simp [Tm.partss] at h
  | cons a r ih =>
    intro p h
    rw [Tm.partss, List.mem_append] at h
    rcases h with h | h
    · exact ⟨a, List.mem_cons_self, h⟩
    · obtain ⟨x, h1, h2⟩ := ih p h
      exact ⟨x, List.mem_cons_of_mem _ h1, h2⟩

theorem Fit.map {n m : Nat} {f : Int → Int} (t : Tm) : Fit n t → (∀ v : Int, 1 ≤ v → v.toNat < n → 1 ≤ f v ∧ (f v).toNat < m) → 0 < m → Fit m (t.mapv f) := by
  induction t using Tm.ind with
  | h v nm l ih =>
    intro hf hS hm
    by_cases hv : v = 0
    · subst hv
      rw [Tm.mapv_fn (t := .mk 0 nm l) rfl]
      simp only [Tm.name, Tm.args]
      have ha : ∀ x, x ∈ l → Fit m (x.mapv f) := fun x hx => ih x hx (hf.arg (t := .mk 0 nm l) hx) hS hm
      refine ⟨fun p hp => ?_, fun p hp => ?_⟩
      · rw [Tm.parts] at hp
        rcases List.mem_cons.1 hp with rfl | hp
        · exact ⟨Int.le_refl _, fun e => absurd rfl e⟩
        · obtain ⟨y, hy, hp⟩ := partss_sub _ _ hp
          obtain ⟨x, hx, rfl⟩ := List.mem_map.1 hy
          exact (ha x hx).wf p hp
      · rw [Tm.parts] at hp
        rcases List.mem_cons.1 hp with rfl | hp
        · have := hf.len
          simp only [Tm.var, Tm.args] at this ⊢
          rw [List.length_map]; exact ⟨hm, this⟩
        · obtain ⟨y, hy, hp⟩ := partss_sub _ _ hp
          obtain ⟨x, hx, rfl⟩ := List.mem_map.1 hy
          exact (ha x hx).bd p hp
    · rw [Tm.mapv_var (t := .mk v nm l) hv]
      have h1 := hf.pos
      simp only [Tm.var] at h1 ⊢
      have h2 := hS v (by omega) h1.2
      exact fit_var (by omega) h2.2

theorem fit_parts {n : Nat} {t : Tm} (h : Fit n t) {p : Tm} (hp : p ∈ t.parts) (hv : p.var ≠ 0) : 1 ≤ p.var ∧ p.var.toNat < n := by
  have h1 := (h.wf p hp).1
  have h2 := (h.bd p hp).1
  exact ⟨by omega, h2⟩

/-- Twelve variables more. -/
def qMore (q : Int → Int) (n vars : Nat) (v : Int) : Int := if v.toNat < n then q v else v - ((n : Int) - 1) + vars

theorem qMore_old {q : Int → Int} {n vars : Nat} {t : Tm} (h : Fit n t) : t.mapv (qMore q n vars) = t.mapv q := mapv_congr t fun p hp hv => by
  have := (fit_parts h hp hv).2
  unfold qMore; rw [if_pos this]

theorem qMore_new {q : Int → Int} {n vars : Nat} {t : Tm} (hn : 13 ≤ n) (h : Fit 13 t) : (far ((n : Int) - 1) t).mapv (qMore q n vars) = far vars t := by
  unfold far
  rw [mapv_mapv t fun p hp hv => by have := fit_parts h hp hv; omega]
  refine mapv_congr t fun p hp hv => ?_
  have := fit_parts h hp hv
  unfold qMore
  rw [if_neg (by omega)]
  omega

theorem far_fit {n : Nat} {t : Tm} (hn : 13 ≤ n) (h : Fit 13 t) : Fit (n + 12) (far ((n : Int) - 1) t) := Fit.map t h (fun v h1 h2 => by omega) (by omega)
theorem far_fit' {n : Nat} {t : Tm} (h : Fit 13 t) : Fit (n + 13) (far (n : Int) t) := Fit.map t h (fun v h1 h2 => by omega) (by omega)

theorem StRel.more {q : Int → Int} {σ : Sub} {vars : Nat} {τ : Sub} {n : Nat} (h : StRel q σ vars τ n) : StRel (qMore q n vars) σ (vars + 12) τ (n + 12) := by
  obtain ⟨⟨ρ, hs, hr⟩, hl, hb, hi⟩ := h
  have hold : ∀ v : Int, v.toNat < n → qMore q n vars v = q v := fun v hv => by unfold qMore; rw [if_pos hv]
  have hnew : ∀ v : Int, ¬ v.toNat < n → qMore q n vars v = v - ((n : Int) - 1) + vars := fun v hv => by unfold qMore; rw [if_neg hv]
  refine ⟨⟨ρ, hs, ⟨fun v h1 h2 => ?_, fun v w h1 h2 h3 h4 e => ?_⟩, hr.inv, hr.inv', fun v u e => (hr.fit v u e).mono (by omega), fun v h1 h2 => ?_, fun v hv => ?_, fun x hx => ?_⟩, fun v h1 h2 => ?_, by omega, fun v h1 h2 => ?_⟩
  · by_cases e : v.toNat < n
    · rw [hold v e]; exact hr.qk.pos v h1 e
    · rw [hnew v e]; omega
  · by_cases e1 : v.toNat < n
    · by_cases e2 : w.toNat < n
      · rw [hold v e1, hold w e2] at e; exact hr.qk.inj _ _ h1 e1 h3 e2 e
      · rw [hold v e1, hnew w e2] at e; have := hl v h1 e1; omega
    · by_cases e2 : w.toNat < n
      · rw [hnew v e1, hold w e2] at e; have := hl w h3 e2; omega
      · rw [hnew v e1, hnew w e2] at e; omega
  · by_cases e : v.toNat < n
    · rw [hold v e, hr.at' v h1 e]
      cases hu : τ v with
      | none => rfl
      | some u => simp only [Option.map_some]; rw [qMore_old (hr.fit _ _ hu)]
    · rw [hnew v e]
      have h3 : τ v = none := Classical.byContradiction fun hne => e (hr.keys v hne).2
      have h4 : ρ (v - ((n : Int) - 1) + vars) = none := Classical.byContradiction fun hne => by
        obtain ⟨w, w1, w2, w3⟩ := hr.keys' _ hne
        have := hl w w1 w2
        omega
      rw [h3, h4]; rfl
  · have := hr.keys v hv; omega
  · obtain ⟨w, w1, w2, w3⟩ := hr.keys' x hx
    exact ⟨w, w1, by omega, by rw [hold w w2]; exact w3⟩
  · by_cases e : v.toNat < n
    · rw [hold v e]; have := hl v h1 e; omega
    · rw [hnew v e]; omega
  · rw [hold v (by omega)]; exact hi v h1 h2

/-- Of two terms in both searches: making them the same goes alike. -/
def MRel (q : Int → Int) (vars n : Nat) : MOut → MOut → Prop
  | .ok σ _ f, .ok τ _ g => f = g ∧ StRel q σ vars τ n
  | .no _ _ f, .no _ _ g => f = g
  | .many _ _, .many _ _ => True
  | _, _ => False

theorem StRel.meet {q : Int → Int} {σ : Sub} {vars : Nat} {τ : Sub} {n : Nat} (h : StRel q σ vars τ n) (L : List Int) (f : Nat) {s t : Tm} (hs : Fit n s) (ht : Fit n t) :
    MRel q vars n (meet σ L f [(s.mapv q, t.mapv q)]) (meetR τ f [(s, t)]) := by
  obtain ⟨⟨ρ, h1, h2⟩, hl, hb, hi⟩ := h
  have hm := meet_sim f σ ρ L [(s.mapv q, t.mapv q)] h1 (fun p hp => by rw [List.mem_singleton] at hp; subst hp; exact ⟨h2.qk.wf s hs, h2.qk.wf t ht⟩)
  have hr := meetR_ren f τ ρ [(s, t)] h2 (fun p hp => by rw [List.mem_singleton] at hp; subst hp; exact ⟨hs, ht⟩)
  simp only [List.map_cons, List.map_nil, mapP] at hr
  cases hA : Go.Proofs.Ytikmgiapjigghaa.meet σ L f [(s.mapv q, t.mapv q)] with
  | ok σ' L' f' =>
    rw [hA] at hm
    cases hB : meetR ρ f [(s.mapv q, t.mapv q)] with
    | ok ρ' L2 g =>
      rw [hB] at hm hr
      cases hC : meetR τ f [(s, t)] with
      | ok τ' L3 g' => rw [hC] at hr; exact ⟨hm.1.trans hr.1.symm, ⟨ρ', hm.2, hr.2⟩, hl, hb, hi⟩
      | no _ _ _ => rw [hC] at hr; exact hr.elim
      | many _ _ => rw [hC] at hr; exact hr.elim
    | no _ _ _ => rw [hB] at hm; exact hm.elim
    | many _ _ => rw [hB] at hm; exact hm.elim
  | no σ' L' f' =>
    rw [hA] at hm
    cases hB : meetR ρ f [(s.mapv q, t.mapv q)] with
    | ok _ _ _ => rw [hB] at hm; exact hm.elim
    | no ρ' L2 g =>
      rw [hB] at hm hr
      cases hC : meetR τ f [(s, t)] with
      | ok _ _ _ => rw [hC] at hr; exact hr.elim
      | no τ' L3 g' => rw [hC] at hr; exact Eq.trans hm (Eq.symm hr)
      | many _ _ => rw [hC] at hr; exact hr.elim
    | many _ _ => rw [hB] at hm; exact hm.elim
  | many σ' L' =>
    rw [hA] at hm
    cases hB : meetR ρ f [(s.mapv q, t.mapv q)] with
    | ok _ _ _ => rw [hB] at hm; exact hm.elim
    | no _ _ _ => rw [hB] at hm; exact hm.elim
    | many ρ' L2 =>
      rw [hB] at hr
      cases hC : meetR τ f [(s, t)] with
      | ok _ _ _ => rw [hC] at hr; exact hr.elim
      | no _ _ _ => rw [hC] at hr; exact hr.elim
      | many _ _ => trivial

/-- Looked at in both searches: a name in both, the same but for the numbers; or a variable in both. -/
theorem StRel.look {q : Int → Int} {σ : Sub} {vars : Nat} {τ : Sub} {n : Nat} (h : StRel q σ vars τ n) {t : Tm} (ht : Fit n t) :
    Fit n (look τ t) ∧ (((look τ t).var = 0 ∧ look σ (t.mapv q) = (look τ t).mapv q) ∨ ((look τ t).var ≠ 0 ∧ (look σ (t.mapv q)).var ≠ 0)) := by
  obtain ⟨⟨ρ, h1, h2⟩, hl, hb, hi⟩ := h
  obtain ⟨e, hf⟩ := h2.look ht
  refine ⟨hf, ?_⟩
  by_cases hv : (Go.Proofs.Ytikmgiapjigghaa.look σ (t.mapv q)).var = 0
  · left
    have e2 := h1.fn (h2.qk.wf t ht) hv
    rw [e2] at e
    refine ⟨?_, e⟩
    by_cases h3 : (Go.Proofs.Ytikmgiapjigghaa.look τ t).var = 0
    · exact h3
    · exact absurd (by rw [← e]; exact hv) (h2.qk.at hf h3).2.2.2
  · right
    have h3 := (h1.var (h2.qk.wf t ht) hv).2.1
    rw [e] at h3
    exact ⟨fun h4 => h3 (mapv_0 h4), hv⟩

/-- A program whose clauses are right. -/
def POk (p : List Cl) : Prop := ∀ c, c ∈ p → Fit 13 c.head ∧ ∀ b, b ∈ c.body → Fit 13 b

/-- Both searches, what was found alike; while neither has ended they stand alike. -/
structure SRel (S : PS) (R : RS) : Prop where
  ans : S.ans = R.ans
  fin : S.fin = R.fin
  steps : S.steps = R.steps
  core : S.fin = 0 → (∃ q, StRel q S.σ S.vars R.τ R.n ∧ GRel q R.n S.now R.todo) ∧ ChRel S.vars S.ch R.kept

/-- As a call goes on: the store is as it was. -/
structure CallRel (q : Int → Int) (S : PS) (R : RS) : Prop where
  ans : S.ans = R.ans
  fin : S.fin = 0 ∧ R.fin = 0
  steps : S.steps = R.steps
  f : S.f = R.f
  st : StRel q S.σ S.vars R.τ R.n
  ch : ChRel S.vars S.ch R.kept

theorem nextF_rel {p : List Cl} {s t : Tm} (hn : s.name = t.name) (hl : s.args.length = t.args.length) : ∀ (m i : Nat), p.length - i = m → nextF p s i = nextF p t i := by
  intro m
  induction m with
  | zero => intro i h; rw [nextF_stop (by omega), nextF_stop (by omega)]
  | succ m ih =>
    intro i h
    have hi : i < p.length := by omega
    by_cases hf : FitC p[i] t
    · rw [nextF_fit hi hf, nextF_fit hi (by unfold FitC at *; rw [hn, hl]; exact hf)]
    · rw [nextF_next hi hf, nextF_next hi (by unfold FitC at *; rw [hn, hl]; exact hf), ih (i + 1) (by omega)]

theorem GRel.tail {q : Int → Int} {n : Nat} {gs todo : List Goal} (h : GRel q n gs todo) : GRel q n gs.tail todo.tail := by
  obtain ⟨rfl, h2⟩ := h
  exact ⟨by rw [List.map_tail], fun g hg => h2 g (List.mem_of_mem_tail hg)⟩

theorem GRel.more {q : Int → Int} {n vars : Nat} {gs todo : List Goal} (h : GRel q n gs todo) : GRel (qMore q n vars) (n + 12) gs todo := by
  obtain ⟨rfl, h2⟩ := h
  refine ⟨List.map_congr_left fun g hg => ?_, fun g hg => (h2 g hg).mono (by omega)⟩
  rw [qMore_old (h2 g hg)]

theorem bodyG_rel {q : Int → Int} {n vars : Nat} (hn : 13 ≤ n) (cut : Nat) {l : List Tm} (hl : ∀ b, b ∈ l → Fit 13 b) : GRel (qMore q n vars) (n + 12) (bodyG vars cut l) (bodyG ((n : Int) - 1) cut l) := by
  unfold bodyG
  refine ⟨?_, fun g hg => ?_⟩
  · rw [List.map_map]
    exact List.map_congr_left fun b hb => by simp only [Function.comp]; rw [qMore_new hn (hl b hb)]
  · obtain ⟨b, hb, rfl⟩ := List.mem_map.1 hg
    exact far_fit hn (hl b hb)

theorem GRel.append {q : Int → Int} {n : Nat} {a b c d : List Goal} (h : GRel q n a b) (k : GRel q n c d) : GRel q n (a ++ c) (b ++ d) := by
  obtain ⟨rfl, h2⟩ := h
  obtain ⟨rfl, k2⟩ := k
  exact ⟨by rw [List.map_append], fun g hg => (List.mem_append.1 hg).elim (h2 g) (k2 g)⟩

theorem GRel.head {q : Int → Int} {n : Nat} {gs todo : List Goal} (h : GRel q n gs todo) (hne : todo ≠ []) : headT gs = (headT todo).mapv q ∧ Fit n (headT todo) ∧ (gs.head?.map (·.2)).getD 0 = (todo.head?.map (·.2)).getD 0 := by
  obtain ⟨rfl, h2⟩ := h
  cases todo with
  | nil => exact absurd rfl hne
  | cons g r => exact ⟨rfl, h2 g List.mem_cons_self, rfl⟩

/-- A call of the first goal. -/
theorem call_rel {p : List Cl} (hp : POk p) {q : Int → Int} {gs todo : List Goal} {s t : Tm} : ∀ (m i : Nat) (S : PS) (R : RS), p.length - i = m → CallRel q S R → GRel q R.n gs todo → todo ≠ [] → s = t.mapv q → Fit R.n t → t.var = 0 → look R.τ (headT todo) = t →
    (pcall p gs s i S).2 = (rtry p todo t i R).2 ∧ (if (rtry p todo t i R).2 = true then SRel (pcall p gs s i S).1 (rtry p todo t i R).1 else CallRel q (pcall p gs s i S).1 (rtry p todo t i R).1) := by
  intro m
  induction m with
  | zero =>
    intro i S R h hc _ _ _ _ _ _
    rw [pcall_stop (by omega), rtry_stop (by omega)]
    exact ⟨rfl, hc⟩
  | succ m ih =>
    intro i S R h hc hg hne hst ht h0 hlk
    have hi : i < p.length := by omega
    have hsn : s.name = t.name := by rw [hst]; exact mapv_name h0
    have hsl : s.args.length = t.args.length := by rw [hst, mapv_args h0, List.length_map]
    have hfe : FitC p[i] s ↔ FitC p[i] t := by unfold FitC; rw [hsn, hsl]
    by_cases hf : FitC p[i] t
    · have hf' := hfe.2 hf
      obtain ⟨hh, hbd⟩ := hp p[i] (List.getElem_mem hi)
      have hb := hc.st.base
      have hm := hc.st.more.meet S.L S.f (far_fit hb hh) (ht.mono (Nat.le_add_right _ 12))
      rw [qMore_new hb hh, qMore_old ht, ← hst] at hm
      have hnx := nextF_rel (p := p) hsn hsl (p.length - (i + 1)) (i + 1) rfl
      cases hA : Go.Proofs.Ytikmgiapjigghaa.meet S.σ S.L S.f [(far S.vars p[i].head, s)] with
      | ok σ' L' f' =>
        rw [hA, hc.f] at hm
        cases hB : meetR R.τ R.f [(far ((R.n : Int) - 1) p[i].head, t)] with
        | ok τ' L2 g =>
          rw [hB] at hm
          obtain ⟨rfl, hst'⟩ := hm
          have hpc : pclause p gs s p[i] i S = ({ S with σ := σ', L := L', f := f', vars := S.vars + 12, ch := if nextF p s (i + 1) < p.length then S.ch ++ [⟨gs, nextF p s (i + 1), S.σ, S.L⟩] else S.ch, now := bodyG S.vars S.ch.length p[i].body ++ gs.tail }, some true) := by unfold pclause; rw [hA]
          have hrc : rclause p todo t p[i] i R = ({ R with τ := τ', n := R.n + 12, f := f', kept := if nextF p t (i + 1) < p.length then R.kept ++ [⟨R.τ, R.n, todo, nextF p t (i + 1)⟩] else R.kept, todo := bodyG ((R.n : Int) - 1) R.kept.length p[i].body ++ todo.tail }, some true) := by unfold rclause; rw [hB]
          rw [pcall_done hi hf' hpc, rtry_done hi hf hrc]
          refine ⟨rfl, ?_⟩
          rw [if_pos rfl]
          refine ⟨hc.ans, hc.fin.1.trans hc.fin.2.symm, hc.steps, fun _ => ⟨⟨qMore q R.n S.vars, hst', ?_⟩, ?_⟩⟩
          · simp only
            rw [hc.ch.len]
            exact (bodyG_rel hb _ hbd).append hg.tail.more
          · simp only
            have hch := hc.ch.mono (Nat.le_add_right S.vars 12)
            rw [hnx]
            by_cases hlt : nextF p t (i + 1) < p.length
            · rw [if_pos hlt, if_pos hlt]
              refine hch.push ⟨rfl, ?_, ?_, q, hc.st.mono (Nat.le_add_right _ _), hg⟩
              · rw [hg.1]; simpa using hne
              · cases todo with
                | nil => exact absurd rfl hne
                | cons g r => exact ⟨g, rfl, by simp only; rw [show g.1 = headT (g :: r) from rfl, hlk]; exact h0⟩
            · rw [if_neg hlt, if_neg hlt]; exact hch
        | no _ _ _ => rw [hB] at hm; exact hm.elim
        | many _ _ => rw [hB] at hm; exact hm.elim
      | no σ' L' f' =>
        rw [hA, hc.f] at hm
        cases hB : meetR R.τ R.f [(far ((R.n : Int) - 1) p[i].head, t)] with
        | ok _ _ _ => rw [hB] at hm; exact hm.elim
        | no τ' L2 g =>
          rw [hB] at hm
          have hfg : f' = g := hm
          subst hfg
          have hpc : pclause p gs s p[i] i S = ({ S with f := f', vars := S.vars + 12 }, none) := by unfold pclause; rw [hA]
          have hrc : rclause p todo t p[i] i R = ({ R with f := f' }, none) := by unfold rclause; rw [hB]
          rw [pcall_go hi hf' hpc, rtry_go hi hf hrc]
          exact ih (i + 1) _ _ (by omega) ⟨hc.ans, hc.fin, hc.steps, rfl, hc.st.mono (Nat.le_add_right _ _), hc.ch.mono (Nat.le_add_right _ _)⟩ hg hne hst ht h0 hlk
        | many _ _ => rw [hB] at hm; exact hm.elim
      | many σ' L' =>
        rw [hA, hc.f] at hm
        cases hB : meetR R.τ R.f [(far ((R.n : Int) - 1) p[i].head, t)] with
        | ok _ _ _ => rw [hB] at hm; exact hm.elim
        | no _ _ _ => rw [hB] at hm; exact hm.elim
        | many τ' L2 =>
          have hpc : pclause p gs s p[i] i S = ({ S with f := 0, vars := S.vars + 12, fin := 3 }, some true) := by unfold pclause; rw [hA]
          have hrc : rclause p todo t p[i] i R = ({ R with f := 0, fin := 3 }, some true) := by unfold rclause; rw [hB]
          rw [pcall_done hi hf' hpc, rtry_done hi hf hrc]
          refine ⟨rfl, ?_⟩
          rw [if_pos rfl]
          exact ⟨hc.ans, rfl, hc.steps, fun e => by cases e⟩
    · rw [pcall_skip hi (fun e => hf (hfe.1 e)), rtry_skip hi hf]
      exact ih (i + 1) S R (by omega) hc hg hne hst ht h0 hlk

/-- A call that finds none leaves the choices. -/
theorem pcall_ch {p : List Cl} {gs : List Goal} {s : Tm} : ∀ (m i : Nat) (S : PS), p.length - i = m → (pcall p gs s i S).2 = false → (pcall p gs s i S).1.ch = S.ch := by
  intro m
  induction m with
  | zero => intro i S h _; rw [pcall_stop (by omega)]
  | succ m ih =>
    intro i S h
    have hi : i < p.length := by omega
    by_cases hf : FitC p[i] s
    · cases hA : Go.Proofs.Ytikmgiapjigghaa.meet S.σ S.L S.f [(far S.vars p[i].head, s)] with
      | ok σ' L' f' =>
        have hpc : pclause p gs s p[i] i S = ({ S with σ := σ', L := L', f := f', vars := S.vars + 12, ch := if nextF p s (i + 1) < p.length then S.ch ++ [⟨gs, nextF p s (i + 1), S.σ, S.L⟩] else S.ch, now := bodyG S.vars S.ch.length p[i].body ++ gs.tail }, some true) := by unfold pclause; rw [hA]
        rw [pcall_done hi hf hpc]
        intro e; cases e
      | no σ' L' f' =>
        have hpc : pclause p gs s p[i] i S = ({ S with f := f', vars := S.vars + 12 }, none) := by unfold pclause; rw [hA]
        rw [pcall_go hi hf hpc]
        exact ih (i + 1) _ (by omega)
      | many σ' L' =>
        have hpc : pclause p gs s p[i] i S = ({ S with f := 0, vars := S.vars + 12, fin := 3 }, some true) := by unfold pclause; rw [hA]
        rw [pcall_done hi hf hpc]
        intro e; cases e
    · rw [pcall_skip hi hf]
      exact ih (i + 1) S (by omega)

theorem back_rel {p : List Cl} (hp : POk p) : ∀ (n : Nat) (S : PS) (R : RS), S.ans = R.ans → S.fin = 0 ∧ R.fin = 0 → S.steps = R.steps → ChRel S.vars S.ch R.kept → n ≤ S.ch.length → SRel (pback p n S) (rback p n R) := by
  intro n
  induction n with
  | zero => intro S R h1 h2 h3 _ _; exact ⟨h1, rfl, h3, fun e => by cases e⟩
  | succ n ih =>
    intro S R h1 h2 h3 h4 h5
    have hn2 : n < R.kept.length := by have := h4.len; omega
    obtain ⟨hcl, hgne, ⟨g, hgm, hgv⟩, q, hst, hgr⟩ := h4.each n (by omega) hn2
    have e1 : S.ch[n]? = some S.ch[n] := List.getElem?_eq_getElem (by omega)
    have e2 : R.kept[n]? = some R.kept[n] := List.getElem?_eq_getElem hn2
    simp only [pback, rback, e1, e2]
    generalize S.ch[n] = c at *
    generalize R.kept[n] = d at *
    have hne : d.todo ≠ [] := by intro e; rw [e] at hgm; cases hgm
    have hhd : headT d.todo = g.1 := by unfold headT; rw [Option.mem_def.1 hgm]; rfl
    obtain ⟨k1, k2, _⟩ := hgr.head hne
    obtain ⟨l1, l2⟩ := hst.look k2
    have hv0 : (look d.τ (headT d.todo)).var = 0 := by rw [hhd]; exact hgv
    have hlk : look c.σ (headT c.gs) = (look d.τ (headT d.todo)).mapv q := by
      rw [k1]; exact l2.elim (fun h => h.2) (fun h => absurd hv0 h.1)
    have hc := call_rel hp (q := q) (gs := c.gs) (todo := d.todo) (s := look c.σ (headT c.gs)) (t := look d.τ (headT d.todo)) (p.length - c.cl) c.cl { S with ch := S.ch.take n, σ := c.σ, L := c.L, f := 4000 } { R with kept := R.kept.take n, τ := d.τ, n := d.n, f := 4000 } rfl
      ⟨h1, h2, h3, rfl, hst, h4.take n⟩ hgr hne hlk l1 hv0 rfl
    have hch := pcall_ch (p := p) (gs := c.gs) (s := look c.σ (headT c.gs)) (p.length - c.cl) c.cl { S with ch := S.ch.take n, σ := c.σ, L := c.L, f := 4000 } rfl
    rw [← hcl]
    generalize pcall p c.gs (look c.σ (headT c.gs)) c.cl { S with ch := S.ch.take n, σ := c.σ, L := c.L, f := 4000 } = x at *
    generalize rtry p d.todo (look d.τ (headT d.todo)) c.cl { R with kept := R.kept.take n, τ := d.τ, n := d.n, f := 4000 } = y at *
    obtain ⟨x1, x2⟩ := x
    obtain ⟨y1, y2⟩ := y
    simp only at hc hch ⊢
    obtain ⟨rfl, hc⟩ := hc
    cases x2 with
    | true => rw [if_pos rfl] at hc ⊢; rw [if_pos rfl]; exact hc
    | false =>
      rw [if_neg (by decide)] at hc ⊢
      rw [if_neg (by decide)]
      have hl : x1.ch.length = n := by rw [hch rfl, List.length_take]; omega
      exact ih x1 y1 hc.ans hc.fin hc.steps hc.ch (by omega)

/-- Taking a goal. -/
theorem take_rel {p : List Cl} (hp : POk p) {S : PS} {R : RS} (h : SRel S R) (h0 : S.fin = 0) (hne : R.todo ≠ []) : SRel (ptake p S) (rtake p R) := by
  obtain ⟨⟨q, hst, hgr⟩, hch⟩ := h.core h0
  have hf0 : R.fin = 0 := h.fin.symm.trans h0
  obtain ⟨k1, k2, k3⟩ := hgr.head hne
  obtain ⟨l1, l2⟩ := hst.look k2
  rw [← k1] at l2
  simp only [ptake, rtake]
  by_cases hv : (look R.τ (headT R.todo)).var = 0
  · have hlk : look S.σ (headT S.now) = (look R.τ (headT R.todo)).mapv q := l2.elim (fun h => h.2) (fun h => absurd hv h.1)
    have hv' : (look S.σ (headT S.now)).var = 0 := by rw [hlk]; exact mapv_0 hv
    have hn : (look S.σ (headT S.now)).name = (look R.τ (headT R.todo)).name := by rw [hlk]; exact mapv_name hv
    have ha : (look S.σ (headT S.now)).args = (look R.τ (headT R.todo)).args.map (Tm.mapv q) := by rw [hlk]; exact mapv_args hv
    have hal : (look S.σ (headT S.now)).args.length = (look R.τ (headT R.todo)).args.length := by rw [ha, List.length_map]
    rw [if_neg (show ¬ (look S.σ (headT S.now)).var ≠ 0 from fun e => e hv'), if_neg (show ¬ (look R.τ (headT R.todo)).var ≠ 0 from fun e => e hv), hn, hal, k3]
    by_cases hm : meansB (look R.τ (headT R.todo)).name (look R.τ (headT R.todo)).args.length = false
    · rw [if_pos hm, if_pos hm]
      have hc := call_rel hp (q := q) (gs := S.now) (todo := R.todo) (s := look S.σ (headT S.now)) (t := look R.τ (headT R.todo)) p.length 0 { S with steps := S.steps + 1, f := 4000 } { R with steps := R.steps + 1, f := 4000 } (by omega)
        ⟨h.ans, ⟨h0, hf0⟩, by simp only [h.steps], rfl, hst, hch⟩ hgr hne hlk l1 hv rfl
      generalize pcall p S.now (look S.σ (headT S.now)) 0 { S with steps := S.steps + 1, f := 4000 } = x at *
      generalize rtry p R.todo (look R.τ (headT R.todo)) 0 { R with steps := R.steps + 1, f := 4000 } = y at *
      obtain ⟨x1, x2⟩ := x
      obtain ⟨y1, y2⟩ := y
      simp only at hc ⊢
      obtain ⟨rfl, hc⟩ := hc
      cases x2 with
      | true => rw [if_pos rfl] at hc ⊢; rw [if_pos rfl]; exact hc
      | false =>
        rw [if_neg (by decide)] at hc ⊢
        rw [if_neg (by decide), ← hc.ch.len]
        exact back_rel hp _ _ _ hc.ans hc.fin hc.steps hc.ch (Nat.le_refl _)
    · rw [if_neg hm, if_neg hm]
      by_cases h1 : (look R.τ (headT R.todo)).name = ⟨#[33]⟩
      · rw [if_pos h1, if_pos h1]
        exact ⟨h.ans, h.fin, by simp only [h.steps], fun _ => ⟨⟨q, hst, hgr.tail⟩, hch.take _⟩⟩
      · rw [if_neg h1, if_neg h1]
        by_cases h2 : (look R.τ (headT R.todo)).name = ⟨#[116, 114, 117, 101]⟩
        · rw [if_pos h2, if_pos h2]
          exact ⟨h.ans, h.fin, by simp only [h.steps], fun _ => ⟨⟨q, hst, hgr.tail⟩, hch⟩⟩
        · rw [if_neg h2, if_neg h2]
          by_cases h3 : (look R.τ (headT R.todo)).name = ⟨#[102, 97, 105, 108]⟩
          · rw [if_pos h3, if_pos h3, ← hch.len]
            exact back_rel hp _ _ _ h.ans ⟨h0, hf0⟩ (by simp only [h.steps]) hch (Nat.le_refl _)
          · rw [if_neg h3, if_neg h3]
            have hl2 : (look R.τ (headT R.todo)).args.length = 2 := by
              have hm' : meansB (look R.τ (headT R.todo)).name (look R.τ (headT R.todo)).args.length = true := by simpa using hm
              have ne : ∀ l : List UInt8, (look R.τ (headT R.todo)).name ≠ ⟨l.toArray⟩ → ((look R.τ (headT R.todo)).name.toList == l) = false := fun l hl => by
                rw [beq_eq_false_iff_ne]
                intro e
                apply hl
                have : (look R.τ (headT R.todo)).name.data.toList = l := by rw [← e, ByteArray.toList_eq]
                cases hb : (look R.τ (headT R.todo)).name with
                | mk d => rw [hb] at this; rw [← this]
              unfold meansB at hm'
              rw [ne _ h1, ne _ h2, ne _ h3] at hm'
              simp at hm'
              exact hm'.1
            have e0 : (look S.σ (headT S.now)).args.getD 0 default = ((look R.τ (headT R.todo)).args.getD 0 default).mapv q := by
              rw [ha, List.getD_eq_getElem?_getD, List.getD_eq_getElem?_getD, List.getElem?_map, List.getElem?_eq_getElem (by omega)]; rfl
            have e1 : (look S.σ (headT S.now)).args.getD 1 default = ((look R.τ (headT R.todo)).args.getD 1 default).mapv q := by
              rw [ha, List.getD_eq_getElem?_getD, List.getD_eq_getElem?_getD, List.getElem?_map, List.getElem?_eq_getElem (by omega)]; rfl
            have f0 : Fit R.n ((look R.τ (headT R.todo)).args.getD 0 default) := by
              rw [List.getD_eq_getElem?_getD, List.getElem?_eq_getElem (by omega)]; exact l1.arg (List.getElem_mem _)
            have f1 : Fit R.n ((look R.τ (headT R.todo)).args.getD 1 default) := by
              rw [List.getD_eq_getElem?_getD, List.getElem?_eq_getElem (by omega)]; exact l1.arg (List.getElem_mem _)
            have hm := hst.meet S.L 4000 f0 f1
            rw [e0, e1]
            cases hA : Go.Proofs.Ytikmgiapjigghaa.meet S.σ S.L 4000 [(((look R.τ (headT R.todo)).args.getD 0 default).mapv q, ((look R.τ (headT R.todo)).args.getD 1 default).mapv q)] with
            | ok σ' L' f' =>
              rw [hA] at hm
              cases hB : meetR R.τ 4000 [((look R.τ (headT R.todo)).args.getD 0 default, (look R.τ (headT R.todo)).args.getD 1 default)] with
              | ok τ' L2 g => rw [hB] at hm; exact ⟨h.ans, h.fin, by simp only [h.steps], fun _ => ⟨⟨q, hm.2, hgr.tail⟩, hch⟩⟩
              | no _ _ _ => rw [hB] at hm; exact hm.elim
              | many _ _ => rw [hB] at hm; exact hm.elim
            | no σ' L' f' =>
              rw [hA] at hm
              cases hB : meetR R.τ 4000 [((look R.τ (headT R.todo)).args.getD 0 default, (look R.τ (headT R.todo)).args.getD 1 default)] with
              | ok _ _ _ => rw [hB] at hm; exact hm.elim
              | no τ' L2 g => simp only; rw [← hch.len]; exact back_rel hp _ _ _ h.ans ⟨h0, hf0⟩ (by simp only [h.steps]) hch (Nat.le_refl _)
              | many _ _ => rw [hB] at hm; exact hm.elim
            | many σ' L' =>
              rw [hA] at hm
              cases hB : meetR R.τ 4000 [((look R.τ (headT R.todo)).args.getD 0 default, (look R.τ (headT R.todo)).args.getD 1 default)] with
              | ok _ _ _ => rw [hB] at hm; exact hm.elim
              | no _ _ _ => rw [hB] at hm; exact hm.elim
              | many τ' L2 => exact ⟨h.ans, rfl, by simp only [h.steps], fun e => by cases e⟩
  · have hv' : (look S.σ (headT S.now)).var ≠ 0 := l2.elim (fun h => absurd h.1 hv) (fun h => h.2)
    rw [if_pos hv', if_pos hv]
    exact ⟨h.ans, rfl, by simp only [h.steps], fun e => by cases e⟩

/-- What is shown has variables that are nothing. -/
theorem thrL_bare {τ : Sub} (hi : SInv τ) {n : Nat} (hd : ∀ v u, τ v = some u → Fit n u) : ∀ (m : Nat) (l : List Tm) (x : List Tm × Nat), (∀ t, t ∈ l → Fit n t) → thrL τ m l = some x → ∀ T, T ∈ x.1 → ∀ p, p ∈ T.parts → p.var ≠ 0 → look τ (VarT p.var) = VarT p.var := by
  intro m
  induction m using Nat.strongRecOn with
  | _ m ih =>
    intro l x hl he T hT
    cases l with
    | nil => rw [thrL_nil] at he; cases he; cases hT
    | cons t r =>
      have hr : ∀ y, y ∈ r → Fit n y := fun y hy => hl y (List.mem_cons_of_mem _ hy)
      have hlk : Fit n (look τ t) := fit_look hi.rank.ends hd (hl t List.mem_cons_self)
      cases m with
      | zero => rw [thrL_zero] at he; cases he
      | succ m =>
        by_cases hv : (look τ t).var = 0
        · rw [thrL_fn hv] at he
          obtain ⟨y, hy, he⟩ := Option.bind_eq_some_iff.1 he
          obtain ⟨z, hz, rfl⟩ := Option.map_eq_some_iff.1 he
          have hle := (thrL_le _ _ _ hy).1
          rcases List.mem_cons.1 hT with rfl | hT
          · intro p hp hpv
            rw [Tm.parts] at hp
            rcases List.mem_cons.1 hp with rfl | hp
            · exact absurd rfl hpv
            · obtain ⟨X, hX, hp⟩ := partss_sub _ _ hp
              exact ih m (by omega) _ y (fun u hu => hlk.arg hu) hy X hX p hp hpv
          · exact ih y.2 (by omega) r z hr hz T hT
        · rw [thrL_var hv] at he
          obtain ⟨z, hz, rfl⟩ := Option.map_eq_some_iff.1 he
          rcases List.mem_cons.1 hT with rfl | hT
          · intro p hp _
            simp only [Tm.parts, Tm.partss, List.mem_singleton] at hp
            subst hp
            exact look_free (look_root hi hv)
          · exact ih m (by omega) r z hr hz T hT

theorem rens_inj {P : Int → Prop} {g : Int → Int} (hg : ∀ v w, P v → P w → g v = g w → v = w) (hz : ∀ v, P v → g v ≠ 0) (l : List Tm) (hw : ∀ t, t ∈ l → WfT t) (hp : ∀ t, t ∈ l → ∀ p, p ∈ t.parts → p.var ≠ 0 → P p.var) : (Tm.rens numV [] (l.map (Tm.mapv g))).1 = (Tm.rens numV [] l).1 := by
  have h := (ren_inj hg hz (.mk 0 ⟨#[]⟩ l) [] (fun p hp' => by
    rw [Tm.parts] at hp'
    rcases List.mem_cons.1 hp' with rfl | hp'
    · exact ⟨Int.le_refl _, fun e => absurd rfl e⟩
    · obtain ⟨x, hx, hp'⟩ := partss_sub _ _ hp'
      exact hw x hx p hp') (fun p hp' hv => by
    rw [Tm.parts] at hp'
    rcases List.mem_cons.1 hp' with rfl | hp'
    · exact absurd rfl hv
    · obtain ⟨x, hx, hp'⟩ := partss_sub _ _ hp'
      exact hp x hx p hp' hv) (fun x hx => nomatch hx)).1
  rw [Tm.mapv_fn (t := .mk 0 ⟨#[]⟩ l) rfl] at h
  simp only [Tm.name, Tm.args, Tm.ren, List.map_nil] at h
  rw [if_neg (fun e => e rfl), if_neg (fun e => e rfl)] at h
  have := congrArg (fun x : Tm × List Int => x.1.args) h
  simpa [Tm.args] using this

theorem strel_show {q : Int → Int} {σ : Sub} {vars : Nat} {τ : Sub} {n : Nat} (h : StRel q σ vars τ n) {m : Nat} (hm : m ≤ 12) :
    (thrL σ 200 (varsL m)).map (fun x => (Tm.rens numV [] x.1).1) = (thrL τ 200 (varsL m)).map (fun x => (Tm.rens numV [] x.1).1) := by
  obtain ⟨⟨ρ, h1, h2⟩, hl, hb, hi⟩ := h
  have hvf : ∀ N, 13 ≤ N → ∀ t, t ∈ varsL m → Fit N t := fun N hN t ht => by
    unfold varsL at ht
    obtain ⟨i, hi, rfl⟩ := List.mem_map.1 ht
    rw [List.mem_range] at hi
    exact fit_var (by omega) (by omega)
  have hmap : (varsL m).map (Tm.mapv q) = varsL m := by
    unfold varsL
    rw [List.map_map]
    refine List.map_congr_left fun i hi' => ?_
    rw [List.mem_range] at hi'
    simp only [Function.comp]
    rw [Tm.mapv_var (t := VarT ((i : Int) + 1)) (by show ((i : Int) + 1) ≠ 0; omega)]
    rw [show (VarT ((i : Int) + 1)).var = (i : Int) + 1 from rfl, hi _ (by omega) (by omega)]
  have s1 := h2.show 200 (varsL m) (hvf n hb)
  rw [hmap] at s1
  -- which of the program's variables speaks
  let g : Int → Int := fun x => Classical.epsilon fun y => ∃ w : Int, 1 ≤ w ∧ (look σ (VarT w)).var ≠ 0 ∧ (look ρ (VarT w)).var = x ∧ (look σ (VarT w)).var = y
  have hg : ∀ w : Int, 1 ≤ w → (look σ (VarT w)).var ≠ 0 → g (look ρ (VarT w)).var = (look σ (VarT w)).var := fun w hw hx => by
    have := Classical.epsilon_spec (p := fun y => ∃ w' : Int, 1 ≤ w' ∧ (look σ (VarT w')).var ≠ 0 ∧ (look ρ (VarT w')).var = (look ρ (VarT w)).var ∧ (look σ (VarT w')).var = y) ⟨_, w, hw, hx, rfl, rfl⟩
    obtain ⟨w', a1, a2, a3, a4⟩ := this
    show Classical.epsilon _ = _
    rw [← a4]
    exact (h1.cls w' w (by omega) (by omega) a2 hx).2 a3
  have hN : ∀ x u, ρ x = some u → Fit (max 13 (vars + 1)) u := fun x u hx => by
    obtain ⟨v, v1, v2, rfl⟩ := h2.keys' x (by rw [hx]; simp)
    rw [h2.at' v v1 v2] at hx
    obtain ⟨u0, hu0, rfl⟩ := Option.map_eq_some_iff.1 hx
    refine Fit.map u0 (h2.fit _ _ hu0) (fun w w1 w2 => ⟨h2.qk.pos w w1 w2, ?_⟩) (by omega)
    have := hl w w1 w2
    have := h2.qk.pos w w1 w2
    omega
  have s2 := thrL_sim h1 hN g (fun w hw _ hx => hg w hw hx) 200 (varsL m) (hvf _ (by omega))
  rw [s2, s1]
  cases hx : thrL τ 200 (varsL m) with
  | none => rfl
  | some x =>
    simp only [Option.map_some]
    congr 1
    have hfit := thrL_fit h2.inv.rank.ends h2.fit 200 (varsL m) x (hvf n hb) hx
    have hbare := thrL_bare h2.inv h2.fit 200 (varsL m) x (hvf n hb) hx
    have hmm : (x.1.map (Tm.mapv q)).map (Tm.mapv g) = x.1.map (Tm.mapv fun v => g (q v)) := by
      rw [List.map_map]
      refine List.map_congr_left fun t ht => ?_
      simp only [Function.comp]
      exact mapv_mapv t fun p hp hv => by
        have h3 := fit_parts (hfit t ht) hp hv
        have := h2.qk.pos p.var h3.1 h3.2
        omega
    rw [hmm]
    have key : ∀ v : Int, 1 ≤ v → v.toNat < n → look τ (VarT v) = VarT v → (look ρ (VarT (q v))).var = q v ∧ (look σ (VarT (q v))).var ≠ 0 ∧ g (q v) = (look σ (VarT (q v))).var := fun v v1 v2 v3 => by
      have hp := h2.qk.pos v v1 v2
      have hlk := (h2.look (t := VarT v) (fit_var (by omega) v2)).1
      rw [v3, Tm.mapv_var (t := VarT v) (by show v ≠ 0; omega)] at hlk
      have e1 : (look ρ (VarT (q v))).var = q v := by
        have := congrArg Tm.var hlk
        exact this
      have e2 : (look σ (VarT (q v))).var ≠ 0 := fun e => by
        have := h1.same (q v) (by omega) e
        rw [this] at e1
        omega
      refine ⟨e1, e2, ?_⟩
      have := hg (q v) hp e2
      rw [e1] at this
      exact this
    refine rens_inj (P := fun v => 1 ≤ v ∧ v.toNat < n ∧ look τ (VarT v) = VarT v) (fun v w hv hw e => ?_) (fun v hv => ?_) _ (fun t ht => (hfit t ht).wf) (fun t ht p hp hpv => ?_)
    · obtain ⟨a1, a2, a3⟩ := key v hv.1 hv.2.1 hv.2.2
      obtain ⟨b1, b2, b3⟩ := key w hw.1 hw.2.1 hw.2.2
      rw [a3, b3] at e
      have p1 := h2.qk.pos v hv.1 hv.2.1
      have p2 := h2.qk.pos w hw.1 hw.2.1
      have := (h1.cls (q v) (q w) (by omega) (by omega) a2 b2).1 e
      rw [a1, b1] at this
      exact h2.qk.inj v w hv.1 hv.2.1 hw.1 hw.2.1 this
    · obtain ⟨a1, a2, a3⟩ := key v hv.1 hv.2.1 hv.2.2
      rw [a3]; exact a2
    · have h3 := fit_parts (hfit t ht) hp hpv
      exact ⟨h3.1, h3.2, hbare t ht p hp hpv⟩

/-- An answer. -/
theorem tell_rel {p : List Cl} (hp : POk p) {query : Nat} (hq : query ≤ 12) {S : PS} {R : RS} (h : SRel S R) (h0 : S.fin = 0) : SRel (pansw p query S) (rtell p query R) := by
  obtain ⟨⟨q, hst, hgr⟩, hch⟩ := h.core h0
  have hf0 : R.fin = 0 := h.fin.symm.trans h0
  have hs := strel_show hst hq
  unfold pansw rtell
  cases hA : thrL S.σ 200 (varsL query) with
  | none =>
    rw [hA] at hs
    cases hB : thrL R.τ 200 (varsL query) with
    | none => exact ⟨h.ans, rfl, h.steps, fun e => by cases e⟩
    | some y => rw [hB] at hs; cases hs
  | some x =>
    rw [hA] at hs
    cases hB : thrL R.τ 200 (varsL query) with
    | none => rw [hB] at hs; cases hs
    | some y =>
      rw [hB] at hs
      simp only [Option.map_some, Option.some.injEq] at hs
      simp only
      rw [h.ans, hs, ← hch.len]
      by_cases h4 : R.ans.length + 1 = 40
      · rw [if_pos h4, if_pos h4]
        exact ⟨rfl, rfl, h.steps, fun e => by cases e⟩
      · rw [if_neg h4, if_neg h4]
        exact back_rel hp _ _ _ rfl ⟨h0, hf0⟩ h.steps hch (Nat.le_refl _)

theorem step_rel {p : List Cl} (hp : POk p) {query : Nat} (hq : query ≤ 12) (most : Int) {S : PS} {R : RS} (h : SRel S R) (h0 : S.fin = 0) : SRel (pstep p query most S) (rstep p query most R) := by
  obtain ⟨⟨q, hst, hgr⟩, hch⟩ := h.core h0
  unfold pstep rstep
  by_cases hn : R.todo = []
  · have hn' : S.now = [] := by rw [hgr.1, hn]; rfl
    rw [if_pos hn, if_pos hn']
    exact tell_rel hp hq h h0
  · have hn' : S.now ≠ [] := by rw [hgr.1]; simpa using hn
    rw [if_neg hn, if_neg hn', h.steps]
    by_cases hm : (R.steps : Int) = most
    · rw [if_pos hm, if_pos hm]
      exact ⟨h.ans, rfl, by simp only, fun e => by cases e⟩
    · rw [if_neg hm, if_neg hm]
      exact take_rel hp h h0 hn

end Go.Proofs.Ytikmgiapjigghaa

/- Plain: what the trail keeps; how much a search may bind, and how many variables it makes. -/
namespace Go.Proofs.Ytikmgiapjigghaa
open Go.RowKit

/-- What was bound since: in order, each once, each nothing before. -/
def Grow (σ : Sub) (L : List Int) (σ' : Sub) (L' : List Int) : Prop :=
  ∃ N : List Int, L' = L ++ N ∧ N.Nodup ∧ (∀ x, x ∈ N → σ x = none ∧ σ' x ≠ none) ∧ ∀ x, x ∉ N → σ' x = σ x

theorem Grow.refl (σ : Sub) (L : List Int) : Grow σ L σ L := ⟨[], by simp, List.nodup_nil, fun x hx => (nomatch hx), fun _ _ => rfl⟩

theorem Grow.trans {σ σ1 σ2 : Sub} {L L1 L2 : List Int} (h : Grow σ L σ1 L1) (k : Grow σ1 L1 σ2 L2) : Grow σ L σ2 L2 := by
  obtain ⟨N, rfl, h1, h2, h3⟩ := h
  obtain ⟨M, rfl, k1, k2, k3⟩ := k
  have hd : ∀ x, x ∈ N → x ∉ M := fun x hx hy => (h2 x hx).2 (k2 x hy).1
  refine ⟨N ++ M, by simp, List.nodup_append.2 ⟨h1, k1, fun a ha b hb e => hd a ha (e ▸ hb)⟩, fun x hx => ?_, fun x hx => ?_⟩
  · rcases List.mem_append.1 hx with hx | hx
    · exact ⟨(h2 x hx).1, by rw [k3 x (hd x hx)]; exact (h2 x hx).2⟩
    · have : x ∉ N := fun e => hd x e hx
      exact ⟨by rw [← h3 x this]; exact (k2 x hx).1, (k2 x hx).2⟩
  · rw [List.mem_append, not_or] at hx
    rw [k3 x hx.2, h3 x hx.1]

theorem Grow.one {σ : Sub} {L : List Int} {k : Int} {u : Tm} (h : σ k = none) : Grow σ L (upd σ k u) (L ++ [k]) :=
  ⟨[k], rfl, by simp, fun x hx => by rw [List.mem_singleton] at hx; subst hx; exact ⟨h, by unfold upd; rw [if_pos rfl]; simp⟩, fun x hx => by
    rw [List.mem_singleton] at hx; unfold upd; rw [if_neg hx]⟩

/-- A store with what was bound behind so many taken back. -/
def undo (σ : Sub) (L : List Int) (k : Nat) : Sub := fun v => if v ∈ L.drop k then none else σ v

theorem Grow.back {σ σ' : Sub} {L L' : List Int} (h : Grow σ L σ' L') : undo σ' L' L.length = σ ∧ L'.take L.length = L ∧ L.length ≤ L'.length := by
  obtain ⟨N, rfl, h1, h2, h3⟩ := h
  refine ⟨?_, by simp, by simp⟩
  funext x
  unfold undo
  rw [List.drop_left]
  by_cases hx : x ∈ N
  · rw [if_pos hx, (h2 x hx).1]
  · rw [if_neg hx, h3 x hx]

/-- The trail tells each that is something. -/
def TrailOk (σ : Sub) (L : List Int) : Prop := L.Nodup ∧ ∀ x, x ∈ L → σ x ≠ none

theorem Grow.ok {σ σ' : Sub} {L L' : List Int} (h : Grow σ L σ' L') (k : TrailOk σ L) : TrailOk σ' L' := by
  obtain ⟨N, rfl, h1, h2, h3⟩ := h
  refine ⟨List.nodup_append.2 ⟨k.1, h1, fun a ha b hb e => k.2 a ha (e ▸ (h2 b hb).1)⟩, fun x hx => ?_⟩
  by_cases hn : x ∈ N
  · exact (h2 x hn).2
  · rw [h3 x hn]; exact k.2 x ((List.mem_append.1 hx).resolve_right hn)

theorem step_grow {σ : Sub} (hi : SInv σ) {s t : Tm} (L : List Int) (f : Nat) :
    match pairStep σ L f (look σ s) (look σ t) with
    | .done (.ok _ _ _) => False
    | .done (.no σ' L' f') => σ' = σ ∧ L' = L ∧ f' ≤ f
    | .done (.many σ' L') => σ' = σ ∧ L' = L
    | .go σ' L' f' _ => Grow σ L σ' L' ∧ 2 * L'.length + f' ≤ 2 * L.length + f + 1 := by
  have hb : ∀ (v : Int) (u : Tm), σ v = none → (u.var = 0 ∨ σ u.var = none) → match bindStep σ L v u f with
    | .done (.ok _ _ _) => False
    | .done (.no σ' L' f') => σ' = σ ∧ L' = L ∧ f' ≤ f
    | .done (.many σ' L') => σ' = σ ∧ L' = L
    | .go σ' L' f' _ => Grow σ L σ' L' ∧ 2 * L'.length + f' ≤ 2 * L.length + f + 1 := fun v u hv hu => by
    unfold bindStep
    cases hw : within σ v f [u] with
    | yes g => exact ⟨rfl, rfl, (within_le σ v f [u]).1 g hw⟩
    | many => exact ⟨rfl, rfl⟩
    | no g =>
      have hlt := within_lt hw
      refine ⟨Grow.one ?_, ?_⟩
      · unfold bindS
        by_cases hlt2 : v < u.var
        · rw [if_pos hlt2]
          rcases hu with h0 | h0
          · show σ u.var = none
            rw [h0]
            cases e : σ 0 with
            | none => rfl
            | some x => have := (hi.each _ _ e).1; omega
          · exact h0
        · rw [if_neg hlt2]; exact hv
      · rw [List.length_append, List.length_singleton]; omega
  have hs1 := look_stop hi.rank.ends s
  have hs2 := look_stop hi.rank.ends t
  unfold pairStep
  by_cases c1 : (look σ s).var ≠ 0 ∧ (look σ s).var = (look σ t).var
  · rw [if_pos c1]; exact ⟨Grow.refl _ _, by omega⟩
  · rw [if_neg c1]
    by_cases c2 : (look σ s).var ≠ 0
    · rw [if_pos c2]; exact hb _ _ (hs1.resolve_left c2) hs2
    · rw [if_neg c2]
      by_cases c3 : (look σ t).var ≠ 0
      · rw [if_pos c3]; exact hb _ _ (hs2.resolve_left c3) hs1
      · rw [if_neg c3]
        by_cases c4 : (look σ s).name ≠ (look σ t).name ∨ (look σ s).args.length ≠ (look σ t).args.length
        · rw [if_pos c4]; exact ⟨rfl, rfl, Nat.le_refl _⟩
        · rw [if_neg c4]; exact ⟨Grow.refl _ _, by omega⟩

/-- Making terms the same: the trail grows by what was bound; each costs two at least. -/
def GrowOut (σ : Sub) (L : List Int) (f : Nat) : MOut → Prop
  | .ok σ' L' f' => Grow σ L σ' L' ∧ 2 * L'.length + f' ≤ 2 * L.length + f
  | .no σ' L' f' => Grow σ L σ' L' ∧ 2 * L'.length + f' ≤ 2 * L.length + f
  | .many σ' L' => Grow σ L σ' L' ∧ 2 * L'.length ≤ 2 * L.length + f

theorem meet_grow : ∀ (f : Nat) (σ : Sub) (L : List Int) (ps : List (Tm × Tm)), SInv σ → (∀ p ∈ ps, WfT p.1 ∧ WfT p.2) → GrowOut σ L f (meet σ L f ps) := by
  intro f
  induction f using Nat.strongRecOn with
  | _ f ih =>
    intro σ L ps hi hp
    cases ps with
    | nil => rw [meet_nil]; exact ⟨Grow.refl _ _, Nat.le_refl _⟩
    | cons p r =>
      cases f with
      | zero => rw [meet_zero]; exact ⟨Grow.refl _ _, by omega⟩
      | succ f =>
        obtain ⟨w1, w2⟩ := hp p List.mem_cons_self
        have hs := step_grow hi (s := p.1) (t := p.2) L f
        cases h1 : pairStep σ L f (look σ p.1) (look σ p.2) with
        | done o =>
          rw [h1] at hs
          rw [meet_done _ h1]
          cases o with
          | ok _ _ _ => exact hs.elim
          | no σ' L' f' => obtain ⟨rfl, rfl, h3⟩ := hs; exact ⟨Grow.refl _ _, by omega⟩
          | many σ' L' => obtain ⟨rfl, rfl⟩ := hs; exact ⟨Grow.refl _ _, by omega⟩
        | go σ1 L1 f1 m =>
          rw [h1] at hs
          obtain ⟨hg, hl⟩ := hs
          rw [meet_go _ h1]
          obtain ⟨i1, i2⟩ := pairStep_inv hi w1 w2 h1
          have := ih f1 (Nat.lt_succ_of_le (pairStep_le h1)) σ1 L1 (m ++ r) i1 (fun q hq => by
            rcases List.mem_append.1 hq with h5 | h5
            · exact i2 q h5
            · exact hp q (List.mem_cons_of_mem _ h5))
          cases h2 : meet σ1 L1 f1 (m ++ r) with
          | ok σ2 L2 f2 => rw [h2] at this; exact ⟨hg.trans this.1, by have := this.2; omega⟩
          | no σ2 L2 f2 => rw [h2] at this; exact ⟨hg.trans this.1, by have := this.2; omega⟩
          | many σ2 L2 => rw [h2] at this; exact ⟨hg.trans this.1, by have := this.2; omega⟩

end Go.Proofs.Ytikmgiapjigghaa

/- Plain: what holds all through the program's search. -/
namespace Go.Proofs.Ytikmgiapjigghaa
open Go.RowKit

/-- What was bound since, by variables below n. -/
def GrowB (n : Nat) (L : List Int) : MOut → Prop
  | .ok _ L' _ => ∀ x, x ∈ L' → x ∈ L ∨ x.toNat < n
  | .no _ L' _ => ∀ x, x ∈ L' → x ∈ L ∨ x.toNat < n
  | .many _ L' => ∀ x, x ∈ L' → x ∈ L ∨ x.toNat < n

theorem bindS_key {n : Nat} {v : Int} {t : Tm} (hv : v.toNat < n) (ht : Fit n t) : (bindS v t).1.toNat < n := by
  unfold bindS
  split
  · exact ht.pos.2
  · exact hv

theorem step_keyB {n : Nat} {σ : Sub} {L : List Int} {f : Nat} {x y : Tm} (hx : Fit n x) (hy : Fit n y) {σ' : Sub} {L' : List Int} {f' : Nat} {m : List (Tm × Tm)} (h : pairStep σ L f x y = .go σ' L' f' m) : ∀ z, z ∈ L' → z ∈ L ∨ z.toNat < n := by
  have hb : ∀ (v : Int) (t : Tm), v.toNat < n → Fit n t → bindStep σ L v t f = .go σ' L' f' m → ∀ z, z ∈ L' → z ∈ L ∨ z.toNat < n := fun v t hv ht he => by
    unfold bindStep at he
    cases hw : within σ v f [t] with
    | yes g => rw [hw] at he; cases he
    | many => rw [hw] at he; cases he
    | no g =>
      rw [hw] at he
      cases he
      intro z hz
      rcases List.mem_append.1 hz with h1 | h1
      · exact .inl h1
      · rw [List.mem_singleton] at h1; subst h1; exact .inr (bindS_key hv ht)
  unfold pairStep at h
  split at h
  · cases h; intro z hz; exact .inl hz
  · split at h
    · exact hb _ _ hx.pos.2 hy h
    · split at h
      · exact hb _ _ hy.pos.2 hx h
      · split at h
        · cases h
        · cases h; intro z hz; exact .inl hz

theorem step_doneL {σ : Sub} {L : List Int} {f : Nat} {x y : Tm} {o : MOut} (h : pairStep σ L f x y = .done o) : (∃ g, o = .no σ L g) ∨ o = .many σ L := by
  unfold pairStep bindStep at h
  split at h
  · cases h
  · split at h
    · split at h
      · cases h; exact .inl ⟨_, rfl⟩
      · cases h; exact .inr rfl
      · cases h
    · split at h
      · split at h
        · cases h; exact .inl ⟨_, rfl⟩
        · cases h; exact .inr rfl
        · cases h
      · split at h
        · cases h; exact .inl ⟨_, rfl⟩
        · cases h

theorem meet_keyB {n : Nat} : ∀ (f : Nat) (σ : Sub) (L : List Int) (ps : List (Tm × Tm)), SInv σ → (∀ v u, σ v = some u → Fit n u) → (∀ p ∈ ps, Fit n p.1 ∧ Fit n p.2) → GrowB n L (meet σ L f ps) := by
  intro f
  induction f using Nat.strongRecOn with
  | _ f ih =>
    intro σ L ps hi hd hp
    cases ps with
    | nil => rw [meet_nil]; exact fun x hx => .inl hx
    | cons p r =>
      cases f with
      | zero => rw [meet_zero]; exact fun x hx => .inl hx
      | succ f =>
        obtain ⟨w1, w2⟩ := hp p List.mem_cons_self
        have f1' := fit_look hi.rank.ends hd w1; have f2' := fit_look hi.rank.ends hd w2
        cases h1 : pairStep σ L f (look σ p.1) (look σ p.2) with
        | done o =>
          rw [meet_done _ h1]
          rcases step_doneL h1 with ⟨g, rfl⟩ | rfl
          · exact fun x hx => .inl hx
          · exact fun x hx => .inl hx
        | go σ1 L1 f1 m =>
          rw [meet_go _ h1]
          obtain ⟨i1, _⟩ := pairStep_inv hi w1.wf w2.wf h1
          obtain ⟨d1, d2⟩ := pairStep_dom hd f1' f2' h1
          have hk := step_keyB f1' f2' h1
          have := ih f1 (Nat.lt_succ_of_le (pairStep_le h1)) σ1 L1 (m ++ r) i1 d1 (fun q hq => by
            rcases List.mem_append.1 hq with h5 | h5
            · exact d2 q h5
            · exact hp q (List.mem_cons_of_mem _ h5))
          cases h2 : meet σ1 L1 f1 (m ++ r) with
          | ok σ2 L2 f2 => rw [h2] at this; exact fun x hx => (this x hx).elim (hk x) .inr
          | no σ2 L2 f2 => rw [h2] at this; exact fun x hx => (this x hx).elim (hk x) .inr
          | many σ2 L2 => rw [h2] at this; exact fun x hx => (this x hx).elim (hk x) .inr

/-- A store as it was when the trail was shorter. -/
def Snap (σ : Sub) (L : List Int) (σ0 : Sub) (L0 : List Int) : Prop := L0 = L.take L0.length ∧ L0.length ≤ L.length ∧ undo σ L L0.length = σ0

theorem Snap.refl (σ : Sub) (L : List Int) : Snap σ L σ L := ⟨by simp, Nat.le_refl _, by funext v; unfold undo; simp⟩

theorem undo_undo (σ : Sub) (L : List Int) {k m : Nat} (h : k ≤ m) : undo (undo σ L m) (L.take m) k = undo σ L k := by
  have key : ∀ v, v ∈ L.drop k ↔ v ∈ (L.take m).drop k ∨ v ∈ L.drop m := fun v => by
    have e : L.drop k = (L.take m).drop k ++ L.drop m := by
      by_cases hm : m ≤ L.length
      · conv => lhs; rw [← List.take_append_drop m L, List.drop_append_of_le_length (by rw [List.length_take]; omega)]
      · rw [List.take_of_length_le (by omega), List.drop_eq_nil_of_le (by omega : L.length ≤ m), List.append_nil]
    rw [e, List.mem_append]
  funext v
  unfold undo
  by_cases h1 : v ∈ (L.take m).drop k
  · rw [if_pos h1, if_pos ((key v).2 (.inl h1))]
  · rw [if_neg h1]
    by_cases h2 : v ∈ L.drop m
    · rw [if_pos h2, if_pos ((key v).2 (.inr h2))]
    · rw [if_neg h2, if_neg (fun e => ((key v).1 e).elim h1 h2)]

theorem Snap.inner {σ σ1 σ2 : Sub} {L L1 L2 : List Int} (h : Snap σ L σ1 L1) (k : Snap σ L σ2 L2) (hl : L2.length ≤ L1.length) : Snap σ1 L1 σ2 L2 := by
  obtain ⟨h1, h2, rfl⟩ := h
  obtain ⟨k1, k2, rfl⟩ := k
  refine ⟨?_, hl, ?_⟩
  · conv => rhs; rw [h1, List.take_take, Nat.min_eq_left hl]
    exact k1
  · conv => lhs; rw [h1]
    rw [List.length_take, Nat.min_eq_left h2, undo_undo _ _ hl]

theorem Grow.snap {σ σ' σ0 : Sub} {L L' L0 : List Int} (h : Grow σ L σ' L') (k : Snap σ L σ0 L0) : Snap σ' L' σ0 L0 := by
  obtain ⟨hb, ht, hl⟩ := h.back
  obtain ⟨k1, k2, rfl⟩ := k
  refine ⟨?_, Nat.le_trans k2 hl, ?_⟩
  · conv => lhs; rw [k1, ← ht, List.take_take, Nat.min_eq_left k2]
  · rw [← undo_undo σ' L' k2, hb, ht]

theorem SInv.undo {σ : Sub} (h : SInv σ) (L : List Int) (k : Nat) : SInv (undo σ L k) := by
  obtain ⟨⟨r, hr⟩, he⟩ := h
  have key : ∀ v u, Go.Proofs.Ytikmgiapjigghaa.undo σ L k v = some u → σ v = some u := fun v u e => by
    unfold Go.Proofs.Ytikmgiapjigghaa.undo at e
    split at e
    · cases e
    · exact e
  exact ⟨⟨r, fun v u e => hr v u (key v u e)⟩, fun v u e => he v u (key v u e)⟩

theorem undo_some {σ : Sub} {L : List Int} {k : Nat} {v : Int} {u : Tm} (e : undo σ L k v = some u) : σ v = some u := by
  unfold undo at e
  split at e
  · cases e
  · exact e

theorem TrailOk.undo {σ : Sub} {L : List Int} (h : TrailOk σ L) (k : Nat) : TrailOk (undo σ L k) (L.take k) := by
  have hn := h.1
  rw [← List.take_append_drop k L] at hn
  obtain ⟨n1, n2, n3⟩ := List.nodup_append.1 hn
  refine ⟨n1, fun x hx => ?_⟩
  unfold Go.Proofs.Ytikmgiapjigghaa.undo
  rw [if_neg (fun e => n3 x hx x e rfl)]
  exact h.2 x (List.mem_of_mem_take hx)

/-- What holds all through the search. -/
structure PInv (p : List Cl) (S : PS) : Prop where
  sinv : SInv S.σ
  dom : ∀ v u, S.σ v = some u → Fit (S.vars + 1) u ∧ v.toNat < S.vars + 1
  trail : TrailOk S.σ S.L
  now : ∀ g, g ∈ S.now → Fit (S.vars + 1) g.1
  snap : ∀ c, c ∈ S.ch → Snap S.σ S.L c.σ c.L ∧ c.gs ≠ [] ∧ c.cl < p.length ∧ (∀ g, g ∈ c.gs → Fit (S.vars + 1) g.1) ∧ c.L.length + 2000 ≤ 2000 * S.steps
  mono : S.ch.Pairwise fun a b => a.L.length ≤ b.L.length
  len : S.L.length ≤ 2000 * S.steps
  base : 12 ≤ S.vars


theorem meet_sinv : ∀ (f : Nat) (σ : Sub) (L : List Int) (ps : List (Tm × Tm)) (σ' : Sub) (L' : List Int) (f' : Nat), SInv σ → (∀ p ∈ ps, WfT p.1 ∧ WfT p.2) → meet σ L f ps = .ok σ' L' f' → SInv σ' := by
  intro f
  induction f using Nat.strongRecOn with
  | _ f ih =>
    intro σ L ps σ' L' f' hi hp he
    cases ps with
    | nil => rw [meet_nil] at he; cases he; exact hi
    | cons p r =>
      cases f with
      | zero => rw [meet_zero] at he; cases he
      | succ f =>
        obtain ⟨w1, w2⟩ := hp p List.mem_cons_self
        cases h1 : pairStep σ L f (look σ p.1) (look σ p.2) with
        | done o =>
          rw [meet_done _ h1] at he
          rcases step_doneL h1 with ⟨g, rfl⟩ | rfl <;> cases he
        | go σ1 L1 f1 m =>
          rw [meet_go _ h1] at he
          obtain ⟨i1, i2⟩ := pairStep_inv hi w1 w2 h1
          exact ih f1 (Nat.lt_succ_of_le (pairStep_le h1)) σ1 L1 (m ++ r) σ' L' f' i1 (fun q hq => by
            rcases List.mem_append.1 hq with h5 | h5
            · exact i2 q h5
            · exact hp q (List.mem_cons_of_mem _ h5)) he

/-- What must hold when a goal is called. -/
structure CInv (p : List Cl) (gs : List Goal) (t : Tm) (S : PS) : Prop where
  sinv : SInv S.σ
  dom : ∀ v u, S.σ v = some u → Fit (S.vars + 1) u ∧ v.toNat < S.vars + 1
  trail : TrailOk S.σ S.L
  gs : gs ≠ [] ∧ ∀ g, g ∈ gs → Fit (S.vars + 1) g.1
  t : Fit (S.vars + 1) t
  snap : ∀ c, c ∈ S.ch → Snap S.σ S.L c.σ c.L ∧ c.gs ≠ [] ∧ c.cl < p.length ∧ (∀ g, g ∈ c.gs → Fit (S.vars + 1) g.1) ∧ c.L.length + 2000 ≤ 2000 * S.steps
  mono : S.ch.Pairwise fun a b => a.L.length ≤ b.L.length
  below : ∀ c, c ∈ S.ch → c.L.length ≤ S.L.length
  len : S.L.length + 2000 ≤ 2000 * S.steps
  f : S.f ≤ 4000
  base : 12 ≤ S.vars

def potC (m : Nat) (ch : List PCh) : Nat := (ch.map fun c => m - c.cl).sum

theorem potC_push (m : Nat) (ch : List PCh) (c : PCh) : potC m (ch ++ [c]) = potC m ch + (m - c.cl) := by simp [potC]

theorem potC_take (m : Nat) (ch : List PCh) (k : Nat) : potC m (ch.take k) ≤ potC m ch := by
  induction ch generalizing k with
  | nil => simp [potC]
  | cons c r ih =>
    cases k with
    | zero => simp [potC]
    | succ k => have := ih k; simp only [potC, List.take_succ_cons, List.map_cons, List.sum_cons] at this ⊢; omega

theorem CInv.more {p : List Cl} {gs : List Goal} {t : Tm} {S : PS} (h : CInv p gs t S) {f : Nat} (hf : f ≤ 4000) : CInv p gs t { S with f := f, vars := S.vars + 12 } :=
  ⟨h.sinv, fun v u e => ⟨(h.dom v u e).1.mono (by simp only; omega), by have := (h.dom v u e).2; simp only; omega⟩, h.trail, ⟨h.gs.1, fun g hg => (h.gs.2 g hg).mono (by simp only; omega)⟩, h.t.mono (by simp only; omega), fun c hc => by
    obtain ⟨a, b, d, e, f⟩ := h.snap c hc
    exact ⟨a, b, d, fun g hg => (e g hg).mono (by simp only; omega), f⟩, h.mono, h.below, h.len, hf, by have := h.base; simp only; omega⟩

theorem far_fitP {n : Nat} {t : Tm} (h : Fit 13 t) : Fit (n + 12 + 1) (far (n : Int) t) := far_fit' h

/-- What a clause that fits does to it. -/
theorem clause_ok {p : List Cl} {gs : List Goal} {t : Tm} {S : PS} (h : CInv p gs t S) {c : Cl} (hc : Fit 13 c.head ∧ ∀ b, b ∈ c.body → Fit 13 b) (i : Nat) {σ : Sub} {L : List Int} {f : Nat} (hm : meet S.σ S.L S.f [(far S.vars c.head, t)] = .ok σ L f) :
    PInv p { S with σ := σ, L := L, f := f, vars := S.vars + 12, ch := if nextF p t (i + 1) < p.length then S.ch ++ [⟨gs, nextF p t (i + 1), S.σ, S.L⟩] else S.ch, now := bodyG S.vars S.ch.length c.body ++ gs.tail } := by
  have hf1 := far_fitP (n := S.vars) hc.1
  have hf2 : Fit (S.vars + 12 + 1) t := h.t.mono (by omega)
  have hw : ∀ q ∈ [(far (S.vars : Int) c.head, t)], WfT q.1 ∧ WfT q.2 := fun q hq => by rw [List.mem_singleton] at hq; subst hq; exact ⟨hf1.wf, hf2.wf⟩
  have hw2 : ∀ q ∈ [(far (S.vars : Int) c.head, t)], Fit (S.vars + 12 + 1) q.1 ∧ Fit (S.vars + 12 + 1) q.2 := fun q hq => by rw [List.mem_singleton] at hq; subst hq; exact ⟨hf1, hf2⟩
  have hd : ∀ v u, S.σ v = some u → Fit (S.vars + 12 + 1) u := fun v u e => (h.dom v u e).1.mono (by omega)
  have hk : ∀ v u, S.σ v = some u → v.toNat < S.vars + 12 + 1 := fun v u e => by have := (h.dom v u e).2; omega
  have hg := meet_grow S.f S.σ S.L _ h.sinv hw
  rw [hm] at hg
  obtain ⟨hg1, hg2⟩ := hg
  have hsim := meet_sinv S.f S.σ S.L _ σ L f h.sinv hw hm
  have hdom := meet_dom S.f S.σ S.L _ σ L f h.sinv hd hw2 hm
  have hkey := meet_keys S.f S.σ S.L _ σ L f h.sinv hd hk hw2 hm
  have hlen : L.length ≤ S.L.length + 2000 := by have := h.f; omega
  refine ⟨hsim, fun v u e => ⟨hdom v u e, hkey v u e⟩, hg1.ok h.trail, fun g hgm => ?_, fun c' hc' => ?_, ?_, by have := h.len; simp only; omega, by have := h.base; simp only; omega⟩
  · rcases List.mem_append.1 hgm with hgm | hgm
    · unfold bodyG at hgm
      obtain ⟨b, hb, rfl⟩ := List.mem_map.1 hgm
      exact far_fitP (hc.2 b hb)
    · exact (h.gs.2 g (List.mem_of_mem_tail hgm)).mono (by simp only; omega)
  · have hold : ∀ c', c' ∈ S.ch → Snap σ L c'.σ c'.L ∧ c'.gs ≠ [] ∧ c'.cl < p.length ∧ (∀ g, g ∈ c'.gs → Fit (S.vars + 12 + 1) g.1) ∧ c'.L.length + 2000 ≤ 2000 * S.steps := fun c' hc' => by
      obtain ⟨a, b, d, e, f⟩ := h.snap c' hc'
      exact ⟨hg1.snap a, b, d, fun g hg => (e g hg).mono (by omega), f⟩
    simp only at hc'
    split at hc'
    · rename_i hlt
      rcases List.mem_append.1 hc' with hc' | hc'
      · exact hold c' hc'
      · rw [List.mem_singleton] at hc'; subst hc'
        exact ⟨hg1.snap (Snap.refl _ _), h.gs.1, hlt, fun g hg => (h.gs.2 g hg).mono (by simp only; omega), h.len⟩
    · exact hold c' hc'
  · simp only
    split
    · refine List.pairwise_append.2 ⟨h.mono, by simp, fun a ha b hb => ?_⟩
      rw [List.mem_singleton] at hb; subst hb
      exact h.below a ha
    · exact h.mono

/-- What a call leaves. -/
theorem call_inv {p : List Cl} (hp : POk p) {gs : List Goal} {t : Tm} : ∀ (m i : Nat) (S : PS), p.length - i = m → i ≤ p.length → CInv p gs t S →
    (((pcall p gs t i S).2 = true ∧ (pcall p gs t i S).1.fin = 0 → PInv p (pcall p gs t i S).1) ∧ ((pcall p gs t i S).2 = false → CInv p gs t (pcall p gs t i S).1)) ∧
    (pcall p gs t i S).1.vars + 12 * potC p.length (pcall p gs t i S).1.ch ≤ S.vars + 12 * potC p.length S.ch + 12 * (p.length - i) ∧ (pcall p gs t i S).1.ans = S.ans ∧ (pcall p gs t i S).1.steps = S.steps ∧ S.vars ≤ (pcall p gs t i S).1.vars ∧
    ((pcall p gs t i S).1.fin = S.fin ∨ ((pcall p gs t i S).1.fin = 3 ∧ (pcall p gs t i S).2 = true)) := by
  intro m
  induction m with
  | zero =>
    intro i S hm hi h
    rw [pcall_stop (by omega)]
    exact ⟨⟨fun e => absurd e.1 (by simp), fun _ => h⟩, by simp only; omega, rfl, rfl, Nat.le_refl _, .inl rfl⟩
  | succ m ih =>
    intro i S hm hi h
    have hi' : i < p.length := by omega
    by_cases hf : FitC p[i] t
    · cases hA : meet S.σ S.L S.f [(far S.vars p[i].head, t)] with
      | ok σ' L' f' =>
        have hpc : pclause p gs t p[i] i S = ({ S with σ := σ', L := L', f := f', vars := S.vars + 12, ch := if nextF p t (i + 1) < p.length then S.ch ++ [⟨gs, nextF p t (i + 1), S.σ, S.L⟩] else S.ch, now := bodyG S.vars S.ch.length p[i].body ++ gs.tail }, some true) := by unfold pclause; rw [hA]
        rw [pcall_done hi' hf hpc]
        refine ⟨⟨fun _ => clause_ok h (hp p[i] (List.getElem_mem hi')) i hA, fun e => by cases e⟩, ?_, rfl, rfl, by simp only; omega, .inl rfl⟩
        simp only
        have hn := nextF_ge p t (p.length - (i + 1)) (i + 1) rfl
        split
        · rw [potC_push]; simp only; omega
        · omega
      | no σ' L' f' =>
        have hpc : pclause p gs t p[i] i S = ({ S with f := f', vars := S.vars + 12 }, none) := by unfold pclause; rw [hA]
        rw [pcall_go hi' hf hpc]
        have hle : f' ≤ S.f := by
          have hw : ∀ q ∈ [(far (S.vars : Int) p[i].head, t)], WfT q.1 ∧ WfT q.2 := fun q hq => by rw [List.mem_singleton] at hq; subst hq; exact ⟨(far_fitP (n := S.vars) (hp p[i] (List.getElem_mem hi')).1).wf, h.t.wf⟩
          have hg := meet_grow S.f S.σ S.L _ h.sinv hw
          rw [hA] at hg
          obtain ⟨⟨N, hN, _⟩, h2⟩ := hg
          rw [hN, List.length_append] at h2
          omega
        obtain ⟨a, b, c, d, e, f⟩ := ih (i + 1) { S with f := f', vars := S.vars + 12 } (by omega) (by omega) (h.more (by have := h.f; omega))
        exact ⟨a, by simp only at b; omega, c, d, by simp only at e; omega, f⟩
      | many σ' L' =>
        have hpc : pclause p gs t p[i] i S = ({ S with f := 0, vars := S.vars + 12, fin := 3 }, some true) := by unfold pclause; rw [hA]
        rw [pcall_done hi' hf hpc]
        exact ⟨⟨fun e => absurd e.2 (by simp), fun e => by cases e⟩, by simp only; omega, rfl, rfl, by simp only; omega, .inr ⟨rfl, rfl⟩⟩
    · rw [pcall_skip hi' hf]
      obtain ⟨a, b, c, d, e, f⟩ := ih (i + 1) S (by omega) (by omega) h
      exact ⟨a, by omega, c, d, e, f⟩

end Go.Proofs.Ytikmgiapjigghaa

/- Walk: the store's Undo. -/
namespace Go.Proofs.Ytikmgiapjigghaa
open Go.RowKit

/-- A slice cut behind so many. -/
def cutV (v : Value) (k : Nat) : Value := match v with
  | .slice a _ c => .slice a k c
  | v => v

theorem ownsRow_cut {w : World} {base : Nat} {e : TypeId} {size : Nat} {v : Value} {n : Nat} {xs : List Value} (h : w.ownsRow base e size v n xs) {k : Nat} (hk : k ≤ n) : w.ownsRow base e size (cutV v k) k (xs.take (k * size)) := by
  obtain ⟨h1, h2⟩ := h
  have hm : k * size ≤ n * size := Nat.mul_le_mul_right _ hk
  refine ⟨by rw [List.length_take]; omega, ?_⟩
  rcases h2 with ⟨rfl, rfl⟩ | ⟨g, cap, cur, rfl, hb, hg, hc, hm2, hs, ht⟩
  · left; have : k = 0 := by omega
    subst this; exact ⟨rfl, rfl⟩
  · right
    refine ⟨g, cap, cur, rfl, hb, hg, by omega, hm2, hs, ?_⟩
    rw [← ht, List.take_take]
    congr 1; omega

theorem cutV_own (v : Value) (k : Nat) : (cutV v k).ownBlock = v.ownBlock := by
  cases v with
  | slice a n c => cases a <;> rfl
  | _ => rfl

/-- So many of those taken back. -/
def undoJ (σ : Sub) (L : List Int) (k j : Nat) : Sub := fun v => if v ∈ (L.drop k).take j then none else σ v

theorem undoJ_all (σ : Sub) (L : List Int) (k : Nat) : undoJ σ L k (L.length - k) = undo σ L k := by
  funext v
  unfold undoJ undo
  rw [List.take_of_length_le (by rw [List.length_drop]; exact Nat.le_refl _)]

theorem undoJ_next (σ : Sub) (L : List Int) (k j : Nat) (hj : k + j < L.length) (x : Int) : undoJ σ L k (j + 1) x = if x = L[k + j] then none else undoJ σ L k j x := by
  have hd : j < (L.drop k).length := by rw [List.length_drop]; omega
  unfold undoJ
  rw [List.take_succ_eq_append_getElem hd]
  simp only [List.mem_append, List.mem_singleton, List.getElem_drop]
  by_cases h : x = L[k + j]
  · rw [if_pos (.inr h), if_pos h]
  · rw [if_neg h]
    by_cases h2 : x ∈ (L.drop k).take j
    · rw [if_pos (.inl h2), if_pos h2]
    · rw [if_neg (fun e => e.elim h2 h), if_neg h2]

theorem undoJ_old {σ : Sub} {L : List Int} (ht : TrailOk σ L) (k j : Nat) (hj : k + j < L.length) : undoJ σ L k j L[k + j] ≠ none := by
  unfold undoJ
  rw [if_neg]
  · exact ht.2 _ (List.getElem_mem hj)
  · intro h
    obtain ⟨i, hi, he⟩ := List.getElem_of_mem h
    rw [List.length_take, List.length_drop] at hi
    rw [List.getElem_take, List.getElem_drop] at he
    have e1 := ht.1.idxOf_getElem (k + i) (by omega)
    have e2 := ht.1.idxOf_getElem (k + j) hj
    rw [he, e2] at e1
    omega

/-- The store while some are taken back. -/
structure StU (w : World) (ok : Nat → Prop) (bs bm : Nat) (tv : Value) (σ : Sub) (L : List Int) (wk n : Nat) : Prop where
  blk : w.heap[bs]? = some (.cells #[.map (some bm), tv, .int .i64 wk] 102 (0, 0))
  trail : w.ownsRow 0 3 1 tv L.length (L.map (Value.int .i64))
  map : ∃ f, IMap Try.prog 3 w bm n f ∧ ∀ k, MapTm w ok (σ k) (f k)
  ne : bs ≠ bm ∧ tv.ownBlock ≠ some bs ∧ tv.ownBlock ≠ some bm
  okb : ∀ b, ok b → b < w.heap.size ∧ ¬ StM bs bm tv b

theorem StU.cells {w : World} {ok : Nat → Prop} {bs bm : Nat} {tv : Value} {σ : Sub} {L : List Int} {wk n : Nat} (h : StU w ok bs bm tv σ L wk n) :
    w.cell? ⟨bs, 0, none⟩ = some (.map (some bm)) ∧ w.cell? ⟨bs, 1, none⟩ = some tv ∧ w.cell? ⟨bs, 2, none⟩ = some (.int .i64 wk) ∧ (∀ o, w.frozen? ⟨bs, o, none⟩ = false) := by
  refine ⟨?_, ?_, ?_, fun o => ?_⟩
  · simp [World.cell?, h.blk]
  · simp [World.cell?, h.blk]
  · simp [World.cell?, h.blk]
  · simp [World.frozen?, h.blk]

/-- One more is taken back. -/
theorem StU.drop {w : World} {ok : Nat → Prop} {bs bm : Nat} {tv : Value} {σ : Sub} {L : List Int} {wk n : Nat} (h : StU w ok bs bm tv σ L wk n) {x : Int} (hx : I64 x) (hold : σ x ≠ none) (ty : TypeId) :
    ∃ w', (Builtin.delete_ #[100, 3] ty #[.map (some bm), .int .i64 x]).run Try.prog w = .ok (.tuple #[]) w' ∧ StU w' ok bs bm tv (fun y => if y = x then none else σ y) L wk (n - 1) ∧ w.grownBy w' (some bm) := by
  obtain ⟨f, h1, h2⟩ := h.map
  have hfx : f x ≠ none := by
    have := h2 x
    cases e : σ x with
    | none => exact absurd e hold
    | some u => rw [e] at this; intro e2; rw [e2] at this; obtain ⟨_, _, e3, _⟩ := this; cases e3
  obtain ⟨w', hrun, h3, hg⟩ := h1.drop keyedI Try.underlying3 Try.underlying100 hx hfx ty
  have hT : Touch (StM bs bm tv) w w' := Touch.grown hg (fun k e => by cases e; exact .inr (.inl rfl))
  have hK : Keeps ok w w' := hT.keeps fun b hb => (h.okb b hb).2
  have hlt : bs < w.heap.size := (Array.getElem?_eq_some_iff.1 h.blk).1
  refine ⟨w', hrun, ⟨(hg.block bs hlt (fun e => h.ne.1 (by injection e))).trans h.blk, h.trail.kept hg (.inr h.ne.2.2), ⟨_, h3, fun y => ?_⟩, h.ne, fun b hb => ⟨Nat.lt_of_lt_of_le (h.okb b hb).1 hg.size, (h.okb b hb).2⟩⟩, hg⟩
  by_cases e : y = x
  · subst e
    rw [if_pos rfl]
    show setAt f y none y = none
    unfold setAt; rw [if_pos rfl]
  · simp only [setAt, if_neg e]
    exact (h2 y).keep hK

theorem StAt.u {w : World} {ok : Nat → Prop} {bs bm : Nat} {tv : Value} {σ : Sub} {L : List Int} {wk : Nat} (h : StAt w ok bs bm tv σ L wk) : StU w ok bs bm tv σ L wk L.length := ⟨h.blk, h.trail, h.map, h.ne, h.okb⟩

/-- The trail is cut. -/
theorem StU.cut {w : World} {ok : Nat → Prop} {bs bm : Nat} {tv : Value} {σ : Sub} {L : List Int} {wk k : Nat} (h : StU w ok bs bm tv σ L wk k) (hk : k ≤ L.length) : StAt (w.setCell ⟨bs, 1, none⟩ (cutV tv k)) ok bs bm (cutV tv k) σ (L.take k) wk := by
  obtain ⟨f, h1, h2⟩ := h.map
  have hS : Touch (fun b => b = bs) w (w.setCell ⟨bs, 1, none⟩ (cutV tv k)) := Touch.setCell _ rfl
  have hK : Keeps ok w (w.setCell ⟨bs, 1, none⟩ (cutV tv k)) := hS.keeps fun b hb e => (h.okb b hb).2 (.inl e)
  have hl : (L.take k).length = k := by rw [List.length_take]; omega
  refine ⟨by rw [heap_setCell_at _ _ _ _ h.blk]; rfl, ?_, ⟨f, ?_, fun x => (h2 x).keep hK⟩, ⟨h.ne.1, by rw [cutV_own]; exact h.ne.2⟩, fun b hb => ⟨Nat.lt_of_lt_of_le (h.okb b hb).1 hS.size, fun hm => (h.okb b hb).2 (by unfold StM at *; rw [cutV_own] at hm; exact hm)⟩⟩
  · have := ownsRow_cut h.trail hk
    rw [Nat.mul_one, ← List.map_take] at this
    rw [hl]
    exact ownsRow_block this fun g hg => Below.heap_setCell _ _ _ _ (fun e => by rw [cutV_own] at hg; have e' : g = bs := e; rw [e'] at hg; exact h.ne.2.1 hg)
  · rw [hl]
    exact h1.kept (Below.heap_setCell _ _ _ _ (fun e => h.ne.1 (by have e' : bm = bs := e; exact e'.symm)))

theorem int_row {w : World} {base : Nat} {g n cap : Nat} {L : List Int} (h : w.ownsRow base 3 1 (.slice (some ⟨g, 0, none⟩) n cap) n (L.map (Value.int .i64))) (j : Nat) (hj : j < L.length) : w.cell? ⟨g, j, none⟩ = some (.int .i64 L[j]) := by
  have h1 := h.cells (g := g) rfl j (.int .i64 L[j]) (by simp [hj])
  by_cases h0 : j = 0
  · subst h0; exact h1
  · simpa [Addr.add, h0] using h1

/-- What Undo leaves. -/
def UndoPost (w : World) (ok : Nat → Prop) (bs bm : Nat) (tv : Value) (σ : Sub) (L : List Int) (wk k : Nat) (e : Ending) (w' : World) : Prop :=
  (∃ v, e = .returned v) ∧ Touch (StM bs bm tv) w w' ∧ StAt w' ok bs bm (cutV tv k) (undo σ L k) (L.take k) wk

set_option maxRecDepth 100000 in
set_option maxHeartbeats 2000000 in
theorem UndoW {w : World} {ok : Nat → Prop} {bs bm : Nat} {tv : Value} {σ : Sub} {L : List Int} {wk : Nat} (h : StAt w ok bs bm tv σ L wk) (ht : TrailOk σ L) (h64 : ∀ x, x ∈ L → I64 x) {k : Nat} (hk : k ≤ L.length) (hl : L.length ≤ 1000000) :
    Calls Try.prog 136 #[.pointer (some ⟨bs, 0, none⟩), .int .i64 k] w (UndoPost w ok bs bm tv σ L wk k) := by
  have H := Lib.hid h; have HT := Lib.hid ht; have H64 := Lib.hid h64
  obtain ⟨c0, c1, c2, cf⟩ := h.cells
  have hr := h.trail.2
  clear h ht h64
  rcases hr with ⟨rfl, h0⟩ | ⟨g, cap, cur, rfl, hb, hg, hc, hm2, hs, htk⟩
  · have hk0 : k = 0 := by omega
    subst hk0
    have hL : L = [] := List.length_eq_zero_iff.1 h0
    subst hL
    clear h0 hk hl
    go_enter Try.func136, Try.ntmps136
    go_wp2_with fail
    go_loopw [13] (fun v13 wr => v13 = .int .i64 0 ∧ wr = w) (fun _ _ => 0)
    case atStart => exact ⟨rfl, rfl⟩
    case round =>
      obtain ⟨rfl, rfl⟩ := hrel
      have HC := Lib.hid (H.out.u.cut (k := 0) (Nat.zero_le _))
      go_wp2_with fail
      have e : undo σ [] 0 = σ := by funext v; unfold undo; simp
      refine bodyPost_ret (v := .tuple #[]) (by simp [results, Try.results136, go_sem]) rfl ⟨⟨_, rfl⟩, Touch.setCell _ (.inl rfl), ?_⟩
      rw [e]
      exact HC.out
  · by_cases hkl : k = L.length
    · subst hkl
      have HE : Hid (undo σ L L.length = σ) := Lib.hid (by funext v; unfold undo; simp)
      have hcap9 : cap ≤ 9223372036854775807 := by unfold maxLen at hm2; omega
      clear hm2 hs htk hg hb
      by_cases hcl : cap = L.length
      · subst hcl
        go_enter Try.func136, Try.ntmps136
        go_wp2_with fail
        go_loopw [13] (fun v13 wr => v13 = .int .i64 0 ∧ wr = w) (fun _ _ => 0)
        case atStart => exact ⟨rfl, rfl⟩
        case round =>
          obtain ⟨rfl, rfl⟩ := hrel
          have HC := Lib.hid (H.out.u.cut (Nat.le_refl _))
          go_wp2_with fail
          refine bodyPost_ret (v := .tuple #[]) (by simp [results, Try.results136, go_sem]) rfl ⟨⟨_, rfl⟩, Touch.setCell _ (.inl rfl), ?_⟩
          rw [HE.out]
          exact HC.out
      · have hcl' : L.length < cap := by omega
        go_enter Try.func136, Try.ntmps136
        go_wp2_with fail
        go_loopw [13] (fun v13 wr => v13 = .int .i64 0 ∧ wr = w) (fun _ _ => 0)
        case atStart => exact ⟨rfl, rfl⟩
        case round =>
          obtain ⟨rfl, rfl⟩ := hrel
          have HC := Lib.hid (H.out.u.cut (Nat.le_refl _))
          go_wp2_with fail
          refine bodyPost_ret (v := .tuple #[]) (by simp [results, Try.results136, go_sem]) rfl ⟨⟨_, rfl⟩, Touch.setCell _ (.inl rfl), ?_⟩
          rw [HE.out]
          exact HC.out
    · have hkc : k < cap := by omega
      have HC : Hid (cap ≤ maxLen) := Lib.hid hm2
      have hcap9 : cap ≤ 9223372036854775807 := by unfold maxLen at hm2; omega
      have hcc : ∀ j (hj : j < L.length), w.cell? ⟨g, j, none⟩ = some (.int .i64 L[j]) := fun j hj => by
        exact int_row H.out.trail j hj
      clear hm2 hs htk hg hb
      go_enter Try.func136, Try.ntmps136
      go_wp2_with fail
      go_loopw [13] (fun v13 wr => ∃ j : Nat, k + j ≤ L.length ∧ v13 = .int .i64 j ∧ Hid (StU wr ok bs bm (.slice (some ⟨g, 0, none⟩) L.length cap) (undoJ σ L k j) L wk (L.length - j)) ∧ Hid (Touch (fun b => b = bm) w wr)) (fun v13 _ => L.length - (intOf v13).toNat)
      case atStart => exact ⟨0, by omega, rfl, Lib.hid (by
        have e : undoJ σ L k 0 = σ := by funext v; unfold undoJ; simp
        rw [e]; exact H.out.u), Lib.hid (Touch.refl _ _)⟩
      case round =>
        obtain ⟨j, hj, rfl, HU, HTO⟩ := hrel
        have hgm : g ≠ bm := fun e => H.out.ne.2.2 (by rw [e]; rfl)
        obtain ⟨d0, d1, d2, df⟩ := HU.out.cells
        by_cases hlt : k + j < L.length
        · have q0 : wr.cell? ⟨g, k + j, none⟩ = some (.int .i64 L[k + j]) := int_row HU.out.trail (k + j) hlt
          have hjn : (j : Int) < (L.length : Int) - (k : Int) := by omega
          have hj0 : (0 : Int) ≤ (j : Int) := by omega
          obtain ⟨w2, hrun, hu2, hg2⟩ := HU.out.drop (H64.out _ (List.getElem_mem hlt)) (undoJ_old HT.out k j hlt) 0
          have HG2 := Lib.hid hg2
          have HU2 : Hid (StU w2 ok bs bm (.slice (some ⟨g, 0, none⟩) L.length cap) (undoJ σ L k (j + 1)) L wk (L.length - (j + 1))) := Lib.hid (by
            have e : undoJ σ L k (j + 1) = fun y => if y = L[k + j] then none else undoJ σ L k j y := by funext y; exact undoJ_next σ L k j hlt y
            rw [e, show L.length - (j + 1) = L.length - j - 1 by omega]; exact hu2)
          clear hu2 hg2
          go_wp2_with fail
          go_roundw
          case measure => simp [intOf]; omega
          case rel => exact ⟨j + 1, by omega, by go_num, HU2, Lib.hid (HTO.out.trans (Touch.grown HG2.out fun b e => by cases e; rfl))⟩
        · have hje : (j : Int) = (L.length : Int) - (k : Int) := by omega
          have hu := HU.out
          rw [show L.length - j = k by omega] at hu
          have HC2 := Lib.hid (hu.cut hk)
          clear hu
          have HJ : Hid (undoJ σ L k j = undo σ L k) := Lib.hid (by rw [show j = L.length - k by omega]; exact undoJ_all σ L k)
          go_wp2_with fail
          refine bodyPost_ret (v := .tuple #[]) (by simp [results, Try.results136, go_sem]) rfl ⟨⟨_, rfl⟩, (HTO.out.mono fun b _ e => .inr (.inl e)).trans (Touch.setCell _ (.inl rfl)), ?_⟩
          rw [← HJ.out]
          exact HC2.out

end Go.Proofs.Ytikmgiapjigghaa

/- Walks: which clause fits next: the program's Fits and Next, the reference's fitting. -/
namespace Go.Proofs.Ytikmgiapjigghaa
open Go.RowKit

theorem name_eq {a b : ByteArray} : a.toList = b.toList ↔ a = b := by
  constructor
  · intro h; rw [ByteArray.toList_eq, ByteArray.toList_eq] at h; exact ByteArray.ext (Array.toList_inj.1 h)
  · intro h; rw [h]

theorem fit_true {c : Cl} {t : Tm} (h1 : c.head.name = t.name) (h2 : c.head.args.length = t.args.length) : decide (FitC c t) = true := decide_eq_true ⟨h1, h2⟩
theorem fit_f1 {c : Cl} {t : Tm} (h1 : c.head.name ≠ t.name) : decide (FitC c t) = false := decide_eq_false fun h => h1 h.1
theorem fit_f2 {c : Cl} {t : Tm} (h1 : c.head.args.length ≠ t.args.length) : decide (FitC c t) = false := decide_eq_false fun h => h1 h.2

set_option maxRecDepth 100000 in
set_option maxHeartbeats 1000000 in
theorem FitsW (c : Cl) (t : Tm) (w : World) (a1 a2 : Option Addr) (c1 c2 : Nat) :
    Calls Try.prog 159 #[.agg #[.int .i64 c.head.var, .string c.head.name, .slice a1 c.head.args.length c1, .slice a2 c.body.length c2], .string t.name, .int .i64 t.args.length] w fun e w' => e = .returned (.bool (decide (FitC c t))) ∧ Below w.heap.size w w' := by
  by_cases h1 : c.head.name = t.name
  · by_cases h2 : c.head.args.length = t.args.length
    · rw [fit_true h1 h2]
      rw [h1, h2] at *
      go_enter Try.func159, Try.ntmps159
      go_wp2_with fail
      go_ret
      exact ⟨by simp, (Below.refl _ _).alloc (Nat.le_refl _) _⟩
    · rw [fit_f2 h2]
      have h3 : ((c.head.args.length : Int) == (t.args.length : Int)) = false := by rw [beq_eq_false_iff_ne]; omega
      rw [h1] at *
      clear h2
      go_enter Try.func159, Try.ntmps159
      go_wp2_with fail
      go_ret
      exact ⟨rfl, (Below.refl _ _).alloc (Nat.le_refl _) _⟩
  · rw [fit_f1 h1]
    have h3 : ¬ c.head.name.toList = t.name.toList := fun e => h1 (name_eq.1 e)
    clear h1
    go_enter Try.func159, Try.ntmps159
    go_wp2_with fail
    go_ret
    exact ⟨rfl, (Below.refl _ _).alloc (Nat.le_refl _) _⟩

set_option maxRecDepth 100000 in
set_option maxHeartbeats 2000000 in
theorem NextW {p : List Cl} {w : World} {ok : Nat → Prop} {a : Option Addr} {cap : Nat} (hp : Pr w ok p a cap) (t : Tm) (i : Nat) (hi : i ≤ p.length) :
    Calls Try.prog 152 #[.slice a p.length cap, .string t.name, .int .i64 t.args.length, .int .i64 i] w fun e w' => e = .returned (.int .i64 (nextF p t i : Nat)) ∧ Below w.heap.size w w' := by
  have HP := Lib.hid hp
  have hcl : p.length ≤ 9223372036854775807 := by have := hp.room; unfold maxLen at this; omega
  clear hp
  go_enter Try.func152, Try.ntmps152
  go_wp2_with fail
  go_loopw [3] (fun v3 wr => ∃ k : Nat, k ≤ p.length ∧ v3 = .int .i64 k ∧ Hid (nextF p t k = nextF p t i) ∧ Below w.heap.size w wr) (fun v3 _ => p.length - (intOf v3).toNat)
  case atStart => exact ⟨i, hi, rfl, Lib.hid rfl, Below.refl _ _⟩
  case round =>
    obtain ⟨k, hk, rfl, HN, hbr⟩ := hrel
    have HB := Lib.hid hbr
    by_cases hlt : k < p.length
    · obtain ⟨b, off, a1, a2, c1, c2, rfl, hokb, hbs, hc3, hc4, ht1, ht2⟩ := HP.out.elem k hlt
      have hcv := (hbr.cell (p := ⟨b, off + k * 4, none⟩) hbs).trans hc3.var
      have hcn := (hbr.cell (p := ⟨b, off + k * 4 + 1, none⟩) hbs).trans hc3.name
      have hca := (hbr.cell (p := ⟨b, off + k * 4 + 2, none⟩) hbs).trans hc3.args
      have hcb := (hbr.cell (p := ⟨b, off + k * 4 + 3, none⟩) hbs).trans hc4
      clear hc3 hc4 ht1 ht2 hbr
      have HF := Lib.hid (FitsW p[k] t wr a1 a2 c1 c2)
      by_cases hf : FitC p[k] t
      · have HR : Hid (nextF p t i = k) := Lib.hid (by rw [← HN.out]; exact nextF_fit hlt hf)
        rw [decide_eq_true hf] at HF
        clear hf
        go_wp2_with (go_at_call 159; refine HF.out.mono ?_; rintro e w1 ⟨rfl, hb1⟩; have HB1 := Lib.hid hb1; clear hb1)
        go_ret
        exact ⟨by rw [HR.out]; rfl, HB.out.trans (HB1.out.mono HB.out.size)⟩
      · have HR : Hid (nextF p t (k + 1) = nextF p t i) := Lib.hid (by rw [← HN.out]; exact (nextF_next hlt hf).symm)
        rw [decide_eq_false hf] at HF
        clear hf
        go_wp2_with (go_at_call 159; refine HF.out.mono ?_; rintro e w1 ⟨rfl, hb1⟩; have HB1 := Lib.hid hb1; clear hb1)
        go_roundw
        case measure => simp [intOf]; omega
        case rel => exact ⟨k + 1, by omega, by go_num, HR, HB.out.trans (HB1.out.mono HB.out.size)⟩
    · have HR : Hid (nextF p t i = k) := Lib.hid (by rw [← HN.out]; exact nextF_stop hlt)
      go_wp2_with fail
      go_ret
      exact ⟨by rw [HR.out]; rfl, HB.out⟩

set_option maxRecDepth 100000 in
set_option maxHeartbeats 2000000 in
theorem FittingW {p : List Cl} {w : World} {ok : Nat → Prop} {a : Option Addr} {cap : Nat} (hp : Pr w ok p a cap) (t : Tm) (ta : Option Addr) (tc : Nat) (i : Nat) (hi : i ≤ p.length) :
    Calls Try.prog 137 #[.slice a p.length cap, .agg #[.int .i64 t.var, .string t.name, .slice ta t.args.length tc], .int .i64 i] w fun e w' => e = .returned (.int .i64 (nextF p t i : Nat)) ∧ Below w.heap.size w w' := by
  have HP := Lib.hid hp
  have hcl : p.length ≤ 9223372036854775807 := by have := hp.room; unfold maxLen at this; omega
  have hBX : Box3 (w.alloc (.cells #[.int .i64 t.var, .string t.name, .slice ta t.args.length tc] 24)) w.heap.size (.int .i64 t.var) (.string t.name) (.slice ta t.args.length tc) := Box3.made w _ _ _
  have HBB : Hid (Below w.heap.size w (w.alloc (.cells #[.int .i64 t.var, .string t.name, .slice ta t.args.length tc] 24))) := Lib.hid ((Below.refl _ _).alloc (Nat.le_refl _) _)
  have HBX := Lib.hid hBX
  clear hp hBX
  go_enter Try.func137, Try.ntmps137
  go_wp2_with fail
  generalize w.alloc (.cells #[.int .i64 t.var, .string t.name, .slice ta t.args.length tc] 24) = wb at *
  go_loopw [2] (fun v2 wr => ∃ k : Nat, k ≤ p.length ∧ v2 = .int .i64 k ∧ Hid (nextF p t k = nextF p t i) ∧ Below wb.heap.size wb wr) (fun v2 _ => p.length - (intOf v2).toNat)
  case atStart => exact ⟨i, hi, rfl, Lib.hid rfl, Below.refl _ _⟩
  case round =>
    obtain ⟨k, hk, rfl, HN, hbr⟩ := hrel
    have HB := Lib.hid hbr
    have DQ := below_drewN wr
    obtain ⟨t0, t1, t2, tf⟩ := (HBX.out.below hbr).all
    by_cases hlt : k < p.length
    · obtain ⟨b, off, a1, a2, c1, c2, rfl, hokb, hbs, hc3, hc4, ht1, ht2⟩ := HP.out.elem k hlt
      have hW := HBB.out.trans (hbr.mono HBB.out.size)
      have hcn := (hW.cell (p := ⟨b, off + k * 4 + 1, none⟩) hbs).trans hc3.name
      have hca := (hW.cell (p := ⟨b, off + k * 4 + 2, none⟩) hbs).trans hc3.args
      have hk0 : (0 : Int) ≤ (k : Int) := by omega
      have hk1 : (k : Int) < (p.length : Int) := by omega
      clear hc3 hc4 ht1 ht2 hbr hW
      by_cases h1 : p[k].head.name = t.name
      · have h1' : p[k].head.name.toList = t.name.toList := name_eq.2 h1
        by_cases h2 : p[k].head.args.length = t.args.length
        · have HR : Hid (nextF p t i = k) := Lib.hid (by rw [← HN.out]; exact nextF_fit hlt ⟨h1, h2⟩)
          have h3 : ((p[k].head.args.length : Int) != (t.args.length : Int)) = false := by rw [h2]; simp
          clear h1 h2
          go_wp2_with fail
          go_quiet (fail)
          rename_i nq
          have hBq := DQ nq
          generalize wr.drewN nq = X at *
          go_wp2_with fail
          go_ret
          exact ⟨by rw [HR.out]; rfl, (HBB.out.trans (HB.out.mono HBB.out.size)).trans (hBq.mono (HBB.out.trans (HB.out.mono HBB.out.size)).size)⟩
        · have HR : Hid (nextF p t (k + 1) = nextF p t i) := Lib.hid (by rw [← HN.out]; exact (nextF_next hlt (fun e => h2 e.2)).symm)
          have h3 : ((p[k].head.args.length : Int) != (t.args.length : Int)) = true := by rw [bne_iff_ne]; omega
          clear h1 h2
          go_wp2_with fail
          go_quiet (fail)
          rename_i nq
          have hBq := DQ nq
          generalize wr.drewN nq = X at *
          go_wp2_with fail
          go_roundw
          case measure => simp [intOf]; omega
          case rel => exact ⟨k + 1, by omega, by go_num, HR, HB.out.trans (hBq.mono HB.out.size)⟩
      · have h1' : ¬ p[k].head.name.toList = t.name.toList := fun e => h1 (name_eq.1 e)
        have HR : Hid (nextF p t (k + 1) = nextF p t i) := Lib.hid (by rw [← HN.out]; exact (nextF_next hlt (fun e => h1 e.1)).symm)
        clear h1
        go_wp2_with fail
        go_quiet (fail)
        rename_i nq
        have hBq := DQ nq
        generalize wr.drewN nq = X at *
        go_wp2_with fail
        go_roundw
        case measure => simp [intOf]; omega
        case rel => exact ⟨k + 1, by omega, by go_num, HR, HB.out.trans (hBq.mono HB.out.size)⟩
    · have HR : Hid (nextF p t i = k) := Lib.hid (by rw [← HN.out]; exact nextF_stop hlt)
      go_wp2_with fail
      go_quiet (fail)
      rename_i nq
      have hBq := DQ nq
      generalize wr.drewN nq = X at *
      go_wp2_with fail
      go_ret
      exact ⟨by rw [HR.out]; rfl, (HBB.out.trans (HB.out.mono HBB.out.size)).trans (hBq.mono (HBB.out.trans (HB.out.mono HBB.out.size)).size)⟩

end Go.Proofs.Ytikmgiapjigghaa

/- Walks: the reference's Far. (Printed by a small program.) -/
namespace Go.Proofs.Ytikmgiapjigghaa
open Go.RowKit

set_option maxRecDepth 100000 in
set_option maxHeartbeats 2000000 in
theorem FarW {K : Int} (t : Tm) : ∀ (w : World) (ok : Nat → Prop) (a : Option Addr) (cap : Nat), (∀ b, ok b → b < w.heap.size) → t.size ≤ 100000 → t.fits → Ts w ok t.args a cap → (∀ p, p ∈ t.parts → p.var ≠ 0 → I64 (p.var + K)) →
    Calls Try.prog 127 #[.agg #[.int .i64 t.var, .string t.name, .slice a t.args.length cap], .int .i64 K] w (RetNew w ok (far K t)) := by
  induction t using Tm.ind with
  | h v n l ih =>
    intro w ok a cap hok hsize hfit hrd hx
    have IH := Lib.hid ih; have HOK := Lib.hid hok; have HF := Lib.hid hfit; have HX := Lib.hid hx; have HSIZE := Lib.hid hsize
    simp only [Tm.var, Tm.name, Tm.args] at hrd ⊢
    have HRD := Lib.hid hrd
    have hcl : l.length ≤ 100000 := by
      have h1 := hsize
      simp only [Tm.size] at h1
      have := Tm.length_le_sizes l; omega
    clear ih hok hfit hx hrd hsize
    by_cases hv : v = 0
    · subst hv
      have HRES : Hid (far K (.mk 0 n l) = .mk 0 n (l.map (far K))) := Lib.hid (by unfold far; exact Tm.mapv_fn (by rfl))
      go_enter Try.func127, Try.ntmps127
      go_wp2_with fail
      have BB : Below w.heap.size w (((w.alloc (.cells #[.int .i64 0, .string n, .slice a l.length cap] 24)).alloc (.cells #[.int .i64 0, .string ⟨#[]⟩, .slice none 0 0] 24)).alloc (.cells #[.int .i64 0, .string n, .slice none 0 0] 24)) := (((Below.refl _ _).alloc (Nat.le_refl _) _).alloc (by simp) _).alloc (by simp; omega) _
      have B2 : Box3 (((w.alloc (.cells #[.int .i64 0, .string n, .slice a l.length cap] 24)).alloc (.cells #[.int .i64 0, .string ⟨#[]⟩, .slice none 0 0] 24)).alloc (.cells #[.int .i64 0, .string n, .slice none 0 0] 24)) w.heap.size (.int .i64 0) (.string n) (.slice a l.length cap) := ((Box3.made w _ _ _).alloc _).alloc _
      have B4 : Box3 (((w.alloc (.cells #[.int .i64 0, .string n, .slice a l.length cap] 24)).alloc (.cells #[.int .i64 0, .string ⟨#[]⟩, .slice none 0 0] 24)).alloc (.cells #[.int .i64 0, .string n, .slice none 0 0] 24)) (w.heap.size + 1) (.int .i64 0) (.string ⟨#[]⟩) (.slice none 0 0) := (Box3.made2 (by simp)).alloc _
      have B5 : Box3 (((w.alloc (.cells #[.int .i64 0, .string n, .slice a l.length cap] 24)).alloc (.cells #[.int .i64 0, .string ⟨#[]⟩, .slice none 0 0] 24)).alloc (.cells #[.int .i64 0, .string n, .slice none 0 0] 24)) (w.heap.size + 1 + 1) (.int .i64 0) (.string n) (.slice none 0 0) := Box3.made2 (by simp)
      have hsz : (((w.alloc (.cells #[.int .i64 0, .string n, .slice a l.length cap] 24)).alloc (.cells #[.int .i64 0, .string ⟨#[]⟩, .slice none 0 0] 24)).alloc (.cells #[.int .i64 0, .string n, .slice none 0 0] 24)).heap.size = w.heap.size + 3 := by simp
      have HBB := Lib.hid BB; have HB2 := Lib.hid B2; have HB4 := Lib.hid B4; have HB5 := Lib.hid B5; have HSZ := Lib.hid hsz
      clear BB B2 B4 B5 hsz
      generalize (((w.alloc (.cells #[.int .i64 0, .string n, .slice a l.length cap] 24)).alloc (.cells #[.int .i64 0, .string ⟨#[]⟩, .slice none 0 0] 24)).alloc (.cells #[.int .i64 0, .string n, .slice none 0 0] 24)) = wb at *
      go_loopw [6] (fun y wr => ∃ (k : Nat) (L : List TmAt) (x : Value), k ≤ l.length ∧ y = .int .i64 k ∧ L.map (·.1) = (l.take k).map (far K) ∧ BldRel wb ok (w.heap.size + 1 + 1) n L x wr) (fun y _ => l.length - (intOf y).toNat)
      case atStart => exact ⟨0, [], .slice none 0 0, Nat.zero_le _, rfl, rfl, BldRel.start HB5.out⟩
      case round =>
        obtain ⟨k, L, x, hk, rfl, hL, hrel⟩ := hrel
        have HL := Lib.hid hL; have HR := Lib.hid hrel
        obtain ⟨xa, xc, rfl⟩ := hrel.form
        have p2 := (HB2.out.keep (hrel.touch.block _ HB2.out.lt (by omega))).c2
        have q4 := (HB4.out.keep (hrel.touch.block _ HB4.out.lt (by omega))).all
        have q0 := hrel.box.c0; have q1 := hrel.box.c1; have q2 := hrel.box.c2; have qf := hrel.box.fz
        have hLk : L.length = k := by
          have := congrArg List.length hL
          rw [List.length_map, List.length_map, List.length_take] at this; omega
        have HLK := Lib.hid hLk
        have HSW : Hid (w.heap.size + 3 ≤ wr.heap.size) := Lib.hid (by have := hrel.touch.size; have := HSZ.out; omega)
        have HBR : Hid (Below w.heap.size w wr) := Lib.hid (HBB.out.trans (hrel.touch.toBelow HBB.out.size (fun b e => by omega)))
        clear hrel hL hLk
        by_cases hlt : k < l.length
        · obtain ⟨b, off, a', cap', rfl, hokb, hbs, hc, ht⟩ := HRD.out.at k hlt
          have m0 := (HBR.out.cell (p := ⟨b, off + k * 3, none⟩) hbs).trans hc.var
          have m1 := (HBR.out.cell (p := ⟨b, off + k * 3 + 1, none⟩) hbs).trans hc.name
          have m2 := (HBR.out.cell (p := ⟨b, off + k * 3 + 2, none⟩) hbs).trans hc.args
          have hk0 : (0 : Int) ≤ (k : Int) := by omega
          have hk1 : (k : Int) < (l.length : Int) := by omega
          have hmem : l[k] ∈ l := List.getElem_mem hlt
          have HC := Lib.hid hc.fits; have HTS := Lib.hid ht
          clear hc ht
          obtain ⟨i0, hi, hz0, hz1, hz2⟩ := info_parts Try.infoTm
          have HCL : Hid (∀ u, Below wr.heap.size wr u → Calls Try.prog 127 #[.agg #[.int .i64 l[k].var, .string l[k].name, .slice a' l[k].args.length cap'], .int .i64 K] u (RetNew u ok (far K l[k]))) := Lib.hid fun u hu =>
            IH.out _ hmem u ok a' cap' (fun b hb => by have := HOK.out b hb; have := hu.size; have := HSW.out; omega) (Tm.size_arg HSIZE.out k hlt) HC.out (HTS.out.keep ((Keeps.below HBR.out ok).trans (Keeps.below hu ok))) (fun p hp => HX.out p (Tm.parts_arg (t := .mk 0 n l) hmem hp))
          go_wp2_with fail
          go_region_law (first
            | (go_simp
               go_at_call 127
               refine (HCL.out _ ?_).mono ?_
               · exact (Below.refl _ _).drew
               rintro e w1 ⟨a2, c2, rfl, hf2, ht2, hb2⟩
               have HB : Below wr.heap.size wr w1 := ((Below.refl _ _).drew).trans hb2
               have r0 : w1.cell? ⟨w.heap.size + 1 + 1, 2, none⟩ = some (.slice xa L.length xc) := (HR.out.box.below HB).c2
               have z1 : w.heap.size + 1 + 1 < w1.heap.size := (HR.out.box.below HB).lt
               have HO1 := Lib.hid ((ownsRow_below HR.out.own.own HB).alloc (.cells #[.int .i64 (far K l[k]).var, .string (far K l[k]).name, .slice a2 (far K l[k]).args.length c2] 24))
               have HN1 : Hid (∀ j u, (flat [(far K l[k], a2, c2)])[j]? = some u → (w1.alloc (.cells #[.int .i64 (far K l[k]).var, .string (far K l[k]).name, .slice a2 (far K l[k]).args.length c2] 24)).cell? ((⟨w1.heap.size, 0, none⟩ : Addr).add j) = some u) := Lib.hid (by
                 have ho := World.ownsRow_lit (base := w1.heap.size) (e := 24) (size := 3) w1 #[.int .i64 (far K l[k]).var, .string (far K l[k]).name, .slice a2 (far K l[k]).args.length c2] 1 (Nat.le_refl _) (by unfold maxLen; omega) rfl
                 exact ho.cells (g := w1.heap.size) rfl)
               have HF2 := Lib.hid hf2
               have HT2 := Lib.hid ht2
               have HB1 := Lib.hid HB
               clear hf2 ht2 hb2 HB)
            | (have _g := HO1
               refine step_append_opt _ (by rfl) _ _ _ (by rfl) wb.heap.size 24 i0 _ 3 48 Try.underlying22 hi hz0 hz1 hz2 rfl (by decide) (.slice xa L.length xc) L.length (flat L) (by rfl) HO1.out (some ⟨w1.heap.size, 0, none⟩) 1 1 (by intro h; cases h) (flat [(far K l[k], a2, c2)]) (by rfl) (by rw [flat_length]; rfl) (by intro ad had; cases had; exact HN1.out) (flat_one _) (by have := HLK.out; unfold maxLen; omega) (by have := HLK.out; omega) (by have := HR.out.touch.size; have := HB1.out.size; simp; omega) ?_
               intro v3 w3 hown3 hgrow3 hfr3
               have HNX := Lib.hid (HR.out.next (fun b hb => by have := HOK.out b hb; have := HSZ.out; omega) (show wr.heap.size ≤ wr.drew.heap.size from Nat.le_refl _) HB1.out HF2.out HT2.out ((Below.refl _ _).alloc (Nat.le_refl _) _) hown3 hgrow3 hfr3)
               obtain ⟨g3, cap3, rfl⟩ := own_shape hown3 (by omega)
               have s2 : w3.cell? ⟨w.heap.size + 1 + 1, 2, none⟩ = some (.slice xa L.length xc) := HNX.out.1.c2
               have sf : ∀ o, w3.frozen? ⟨w.heap.size + 1 + 1, o, none⟩ = false := HNX.out.1.fz
               clear hown3 hgrow3 hfr3))
          all_goals
            go_wp2_with fail
            go_roundw
            case measure => simp [intOf]; omega
            case rel => exact ⟨k + 1, _, _, by omega, by go_num, by rw [List.map_append, HL.out, List.take_succ_eq_append_getElem hlt, List.map_append]; rfl, HNX.out.2⟩
        · have HLE : Hid (l.take k = l) := Lib.hid (List.take_of_length_le (by omega))
          obtain ⟨q40, q41, q42, q43⟩ := q4
          go_wp2_with fail
          have HD := Lib.hid (HR.out.done (br := w.heap.size + 1) (t := .mk 0 n (l.map (far K))) HBB.out (by omega) (by omega) (by have := HSZ.out; omega) HOK.out HF.out.2 (by rw [HL.out, HLE.out]))
          rw [HRES.out]
          exact bodyPost_ret (v := .agg #[.int .i64 0, .string n, .slice xa L.length xc]) (by simp [results, Try.results127, go_sem, q40, q41, q42]) rfl HD.out
    · have hv1 : (v != 0) = true := by rw [bne_iff_ne]; exact hv
      have hx := HX.out _ (Tm.self_mem (.mk v n l)) hv
      simp only [Tm.var] at hx
      have HI := Lib.hid hx
      unfold I64 at hx
      obtain ⟨hx1, hx2⟩ := hx
      have HRES : Hid (far K (.mk v n l) = VarT (v + K)) := Lib.hid (by unfold far; rw [Tm.mapv_var (by exact hv)]; rfl)
      clear hv
      go_enter Try.func127, Try.ntmps127
      go_wp2_with fail
      rw [HRES.out]
      exact bodyPost_ret (v := .agg #[.int .i64 (v + K), .string ⟨#[]⟩, .slice none 0 0]) (by simp [results, Try.results127, go_sem]) rfl ⟨none, 0, rfl, ⟨HI.out, Nat.zero_le _⟩, Ts.empty' _ _, ((Below.refl _ _).alloc (Nat.le_refl _) _).alloc (by simp) _⟩

end Go.Proofs.Ytikmgiapjigghaa

/- Walks: the program's Moved. (Printed by a small program.) -/
namespace Go.Proofs.Ytikmgiapjigghaa
open Go.RowKit

set_option maxRecDepth 100000 in
set_option maxHeartbeats 2000000 in
theorem MovedW {K : Int} (t : Tm) : ∀ (w : World) (ok : Nat → Prop) (a : Option Addr) (cap : Nat), (∀ b, ok b → b < w.heap.size) → t.size ≤ 100000 → t.fits → Ts w ok t.args a cap → (∀ p, p ∈ t.parts → p.var ≠ 0 → I64 (p.var + K)) →
    Calls Try.prog 143 #[.agg #[.int .i64 t.var, .string t.name, .slice a t.args.length cap], .int .i64 K] w (RetNew w ok (far K t)) := by
  induction t using Tm.ind with
  | h v n l ih =>
    intro w ok a cap hok hsize hfit hrd hx
    have IH := Lib.hid ih; have HOK := Lib.hid hok; have HF := Lib.hid hfit; have HX := Lib.hid hx; have HSIZE := Lib.hid hsize
    simp only [Tm.var, Tm.name, Tm.args] at hrd ⊢
    have HRD := Lib.hid hrd
    have hcl : l.length ≤ 100000 := by
      have h1 := hsize
      simp only [Tm.size] at h1
      have := Tm.length_le_sizes l; omega
    clear ih hok hfit hx hrd hsize
    by_cases hv : v = 0
    · subst hv
      have HRES : Hid (far K (.mk 0 n l) = .mk 0 n (l.map (far K))) := Lib.hid (by unfold far; exact Tm.mapv_fn (by rfl))
      go_enter Try.func143, Try.ntmps143
      go_wp2_with fail
      have BB : Below w.heap.size w (((w.alloc (.cells #[.int .i64 0, .string n, .slice a l.length cap] 24)).alloc (.cells #[.int .i64 0, .string ⟨#[]⟩, .slice none 0 0] 24)).alloc (.cells #[.int .i64 0, .string n, .slice none 0 0] 24)) := (((Below.refl _ _).alloc (Nat.le_refl _) _).alloc (by simp) _).alloc (by simp; omega) _
      have B2 : Box3 (((w.alloc (.cells #[.int .i64 0, .string n, .slice a l.length cap] 24)).alloc (.cells #[.int .i64 0, .string ⟨#[]⟩, .slice none 0 0] 24)).alloc (.cells #[.int .i64 0, .string n, .slice none 0 0] 24)) w.heap.size (.int .i64 0) (.string n) (.slice a l.length cap) := ((Box3.made w _ _ _).alloc _).alloc _
      have B4 : Box3 (((w.alloc (.cells #[.int .i64 0, .string n, .slice a l.length cap] 24)).alloc (.cells #[.int .i64 0, .string ⟨#[]⟩, .slice none 0 0] 24)).alloc (.cells #[.int .i64 0, .string n, .slice none 0 0] 24)) (w.heap.size + 1) (.int .i64 0) (.string ⟨#[]⟩) (.slice none 0 0) := (Box3.made2 (by simp)).alloc _
      have B5 : Box3 (((w.alloc (.cells #[.int .i64 0, .string n, .slice a l.length cap] 24)).alloc (.cells #[.int .i64 0, .string ⟨#[]⟩, .slice none 0 0] 24)).alloc (.cells #[.int .i64 0, .string n, .slice none 0 0] 24)) (w.heap.size + 1 + 1) (.int .i64 0) (.string n) (.slice none 0 0) := Box3.made2 (by simp)
      have hsz : (((w.alloc (.cells #[.int .i64 0, .string n, .slice a l.length cap] 24)).alloc (.cells #[.int .i64 0, .string ⟨#[]⟩, .slice none 0 0] 24)).alloc (.cells #[.int .i64 0, .string n, .slice none 0 0] 24)).heap.size = w.heap.size + 3 := by simp
      have HBB := Lib.hid BB; have HB2 := Lib.hid B2; have HB4 := Lib.hid B4; have HB5 := Lib.hid B5; have HSZ := Lib.hid hsz
      clear BB B2 B4 B5 hsz
      generalize (((w.alloc (.cells #[.int .i64 0, .string n, .slice a l.length cap] 24)).alloc (.cells #[.int .i64 0, .string ⟨#[]⟩, .slice none 0 0] 24)).alloc (.cells #[.int .i64 0, .string n, .slice none 0 0] 24)) = wb at *
      go_loopw [22] (fun y wr => ∃ (k : Nat) (L : List TmAt) (x : Value), k ≤ l.length ∧ y = .int .i64 k ∧ L.map (·.1) = (l.take k).map (far K) ∧ BldRel wb ok (w.heap.size + 1 + 1) n L x wr) (fun y _ => l.length - (intOf y).toNat)
      case atStart => exact ⟨0, [], .slice none 0 0, Nat.zero_le _, rfl, rfl, BldRel.start HB5.out⟩
      case round =>
        obtain ⟨k, L, x, hk, rfl, hL, hrel⟩ := hrel
        have HL := Lib.hid hL; have HR := Lib.hid hrel
        obtain ⟨xa, xc, rfl⟩ := hrel.form
        have p2 := (HB2.out.keep (hrel.touch.block _ HB2.out.lt (by omega))).c2
        have q4 := (HB4.out.keep (hrel.touch.block _ HB4.out.lt (by omega))).all
        have q0 := hrel.box.c0; have q1 := hrel.box.c1; have q2 := hrel.box.c2; have qf := hrel.box.fz
        have hLk : L.length = k := by
          have := congrArg List.length hL
          rw [List.length_map, List.length_map, List.length_take] at this; omega
        have HLK := Lib.hid hLk
        have HSW : Hid (w.heap.size + 3 ≤ wr.heap.size) := Lib.hid (by have := hrel.touch.size; have := HSZ.out; omega)
        have HBR : Hid (Below w.heap.size w wr) := Lib.hid (HBB.out.trans (hrel.touch.toBelow HBB.out.size (fun b e => by omega)))
        clear hrel hL hLk
        by_cases hlt : k < l.length
        · obtain ⟨b, off, a', cap', rfl, hokb, hbs, hc, ht⟩ := HRD.out.at k hlt
          have m0 := (HBR.out.cell (p := ⟨b, off + k * 3, none⟩) hbs).trans hc.var
          have m1 := (HBR.out.cell (p := ⟨b, off + k * 3 + 1, none⟩) hbs).trans hc.name
          have m2 := (HBR.out.cell (p := ⟨b, off + k * 3 + 2, none⟩) hbs).trans hc.args
          have hk0 : (0 : Int) ≤ (k : Int) := by omega
          have hk1 : (k : Int) < (l.length : Int) := by omega
          have hmem : l[k] ∈ l := List.getElem_mem hlt
          have HC := Lib.hid hc.fits; have HTS := Lib.hid ht
          clear hc ht
          obtain ⟨i0, hi, hz0, hz1, hz2⟩ := info_parts Try.infoTm
          have HCL : Hid (∀ u, Below wr.heap.size wr u → Calls Try.prog 143 #[.agg #[.int .i64 l[k].var, .string l[k].name, .slice a' l[k].args.length cap'], .int .i64 K] u (RetNew u ok (far K l[k]))) := Lib.hid fun u hu =>
            IH.out _ hmem u ok a' cap' (fun b hb => by have := HOK.out b hb; have := hu.size; have := HSW.out; omega) (Tm.size_arg HSIZE.out k hlt) HC.out (HTS.out.keep ((Keeps.below HBR.out ok).trans (Keeps.below hu ok))) (fun p hp => HX.out p (Tm.parts_arg (t := .mk 0 n l) hmem hp))
          have zlt : w.heap.size + 1 + 1 < wr.heap.size := by have := HSW.out; omega
          go_wp2_with fail
          go_region_law (first
            | (go_simp
               go_at_call 143
               refine (HCL.out _ ?_).mono ?_
               · exact ((Below.refl _ _).alloc (Nat.le_refl _) _).drew
               rintro e w1 ⟨a2, c2, rfl, hf2, ht2, hb2⟩
               have HB : Below wr.heap.size wr w1 := (((Below.refl _ _).alloc (Nat.le_refl _) _).drew).trans (hb2.mono (by simp [World.drew]))
               have r0 : w1.cell? ⟨w.heap.size + 1 + 1, 2, none⟩ = some (.slice xa L.length xc) := (HR.out.box.below HB).c2
               have z1 : w.heap.size + 1 + 1 < w1.heap.size := (HR.out.box.below HB).lt
               have HO1 := Lib.hid ((ownsRow_below HR.out.own.own HB).alloc (.cells #[.int .i64 (far K l[k]).var, .string (far K l[k]).name, .slice a2 (far K l[k]).args.length c2] 24))
               have HN1 : Hid (∀ j u, (flat [(far K l[k], a2, c2)])[j]? = some u → (w1.alloc (.cells #[.int .i64 (far K l[k]).var, .string (far K l[k]).name, .slice a2 (far K l[k]).args.length c2] 24)).cell? ((⟨w1.heap.size, 0, none⟩ : Addr).add j) = some u) := Lib.hid (by
                 have ho := World.ownsRow_lit (base := w1.heap.size) (e := 24) (size := 3) w1 #[.int .i64 (far K l[k]).var, .string (far K l[k]).name, .slice a2 (far K l[k]).args.length c2] 1 (Nat.le_refl _) (by unfold maxLen; omega) rfl
                 exact ho.cells (g := w1.heap.size) rfl)
               have HF2 := Lib.hid hf2
               have HT2 := Lib.hid ht2
               have HB1 := Lib.hid HB
               clear hf2 ht2 hb2 HB)
            | (have _g := HO1
               refine step_append_opt _ (by rfl) _ _ _ (by rfl) wb.heap.size 24 i0 _ 3 48 Try.underlying22 hi hz0 hz1 hz2 rfl (by decide) (.slice xa L.length xc) L.length (flat L) (by rfl) HO1.out (some ⟨w1.heap.size, 0, none⟩) 1 1 (by intro h; cases h) (flat [(far K l[k], a2, c2)]) (by rfl) (by rw [flat_length]; rfl) (by intro ad had; cases had; exact HN1.out) (flat_one _) (by have := HLK.out; unfold maxLen; omega) (by have := HLK.out; omega) (by have := HR.out.touch.size; have := HB1.out.size; simp; omega) ?_
               intro v3 w3 hown3 hgrow3 hfr3
               have HNX := Lib.hid (HR.out.next (fun b hb => by have := HOK.out b hb; have := HSZ.out; omega) (show wr.heap.size ≤ (wr.alloc (.cells #[.int .i64 l[k].var, .string l[k].name, .slice a' l[k].args.length cap'] 24)).drew.heap.size by simp [World.drew]) HB1.out HF2.out HT2.out ((Below.refl _ _).alloc (Nat.le_refl _) _) hown3 hgrow3 hfr3)
               obtain ⟨g3, cap3, rfl⟩ := own_shape hown3 (by omega)
               have s2 : w3.cell? ⟨w.heap.size + 1 + 1, 2, none⟩ = some (.slice xa L.length xc) := HNX.out.1.c2
               have sf : ∀ o, w3.frozen? ⟨w.heap.size + 1 + 1, o, none⟩ = false := HNX.out.1.fz
               clear hown3 hgrow3 hfr3))
          all_goals
            go_wp2_with fail
            go_roundw
            case measure => simp [intOf]; omega
            case rel => exact ⟨k + 1, _, _, by omega, by go_num, by rw [List.map_append, HL.out, List.take_succ_eq_append_getElem hlt, List.map_append]; rfl, HNX.out.2⟩
        · have HLE : Hid (l.take k = l) := Lib.hid (List.take_of_length_le (by omega))
          obtain ⟨q40, q41, q42, q43⟩ := q4
          go_wp2_with fail
          have HD := Lib.hid (HR.out.done (br := w.heap.size + 1) (t := .mk 0 n (l.map (far K))) HBB.out (by omega) (by omega) (by have := HSZ.out; omega) HOK.out HF.out.2 (by rw [HL.out, HLE.out]))
          rw [HRES.out]
          exact bodyPost_ret (v := .agg #[.int .i64 0, .string n, .slice xa L.length xc]) (by simp [results, Try.results143, go_sem, q40, q41, q42]) rfl HD.out
    · have hv1 : (v != 0) = true := by rw [bne_iff_ne]; exact hv
      have hx := HX.out _ (Tm.self_mem (.mk v n l)) hv
      simp only [Tm.var] at hx
      have HI := Lib.hid hx
      unfold I64 at hx
      obtain ⟨hx1, hx2⟩ := hx
      have HRES : Hid (far K (.mk v n l) = VarT (v + K)) := Lib.hid (by unfold far; rw [Tm.mapv_var (by exact hv)]; rfl)
      clear hv
      go_enter Try.func143, Try.ntmps143
      go_wp2_with fail
      rw [HRES.out]
      exact bodyPost_ret (v := .agg #[.int .i64 (v + K), .string ⟨#[]⟩, .slice none 0 0]) (by simp [results, Try.results143, go_sem]) rfl ⟨none, 0, rfl, ⟨HI.out, Nat.zero_le _⟩, Ts.empty' _ _, ((Below.refl _ _).alloc (Nat.le_refl _) _).alloc (by simp) _⟩

end Go.Proofs.Ytikmgiapjigghaa

/- The program's searcher in memory. -/
namespace Go.Proofs.Ytikmgiapjigghaa
open Go.RowKit

/-- Goals in memory, one behind the other. -/
inductive GAt (w : World) (ok : Nat → Prop) : Option Addr → List Goal → Prop
  | nil : GAt w ok none []
  | cons (b : Nat) (t : Tm) (cut : Nat) (a : Option Addr) (c : Nat) (r : Option Addr) (l : List Goal) :
      w.heap[b]? = some (.cells #[.int .i64 t.var, .string t.name, .slice a t.args.length c, .int .i64 cut, .pointer r] 137 (0, 0)) → ok b → t.fits → Ts w ok t.args a c → GAt w ok r l → GAt w ok (some ⟨b, 0, none⟩) ((t, cut) :: l)

theorem GAt.keep {w w' : World} {ok : Nat → Prop} (hk : Keeps ok w w') {p : Option Addr} {l : List Goal} (h : GAt w ok p l) : GAt w' ok p l := by
  induction h with
  | nil => exact .nil
  | cons b t cut a c r l h1 h2 h3 h4 _ ih =>
    exact .cons b t cut a c r l ((hk.block b h2 (Array.getElem?_eq_some_iff.1 h1).1).trans h1) h2 h3 (h4.keep hk) ih

theorem GAt.mono {w : World} {ok ok' : Nat → Prop} (hk : ∀ b, b < w.heap.size → ok b → ok' b) {p : Option Addr} {l : List Goal} (h : GAt w ok p l) : GAt w ok' p l := by
  induction h with
  | nil => exact .nil
  | cons b t cut a c r l h1 h2 h3 h4 _ ih =>
    exact .cons b t cut a c r l h1 (hk b (Array.getElem?_eq_some_iff.1 h1).1 h2) h3 (h4.mono hk) ih

theorem Pr.mono {w : World} {ok ok' : Nat → Prop} (hk : ∀ b, b < w.heap.size → ok b → ok' b) {P : List Cl} {a : Option Addr} {cap : Nat} (h : Pr w ok P a cap) : Pr w ok' P a cap := by
  refine ⟨h.room, fun i hi => ?_⟩
  obtain ⟨b, off, a1, a2, c1, c2, h1, h2, h3, h4, h5, h6, h7⟩ := h.elem i hi
  exact ⟨b, off, a1, a2, c1, c2, h1, hk b h3 h2, h3, h4, h5, h6.mono hk, h7.mono hk⟩

/-- The cells of choices. -/
def flatC : List (Option Addr × PCh) → List Value
  | [] => []
  | x :: r => [.pointer x.1, .int .i64 x.2.cl, .int .i64 x.2.L.length] ++ flatC r

theorem flatC_length (l : List (Option Addr × PCh)) : (flatC l).length = l.length * 3 := by
  induction l with
  | nil => rfl
  | cons x r ih => simp only [flatC, List.length_append, List.length_cons, List.length_nil, ih]; omega

theorem flatC_append (l r : List (Option Addr × PCh)) : flatC (l ++ r) = flatC l ++ flatC r := by
  induction l with
  | nil => rfl
  | cons x l ih => simp only [List.cons_append, flatC, ih, List.append_assoc]

theorem flatC_take (l : List (Option Addr × PCh)) (k : Nat) : flatC (l.take k) = (flatC l).take (k * 3) := by
  induction l generalizing k with
  | nil => simp [flatC]
  | cons x l ih =>
    cases k with
    | zero => simp [flatC]
    | succ k =>
      have e : ([Value.pointer x.1, .int .i64 x.2.cl, .int .i64 x.2.L.length] : List Value).take (3 + k * 3) = [Value.pointer x.1, .int .i64 x.2.cl, .int .i64 x.2.L.length] := List.take_of_length_le (by simp)
      rw [List.take_succ_cons, flatC, flatC, ih, show (k + 1) * 3 = 3 + k * 3 by omega, List.take_append, e]
      simp

theorem flatC_one (l : List (Option Addr × PCh)) : ∀ u ∈ flatC l, u.oneCell' = true := by
  induction l with
  | nil => intro u hu; cases hu
  | cons x l ih =>
    intro u hu
    rcases List.mem_append.1 hu with h | h
    · simp only [List.mem_cons, List.not_mem_nil, or_false] at h
      rcases h with rfl | rfl | rfl <;> rfl
    · exact ih u h

theorem flatC_at (l : List (Option Addr × PCh)) (i : Nat) (hi : i < l.length) : (flatC l)[i * 3]? = some (.pointer l[i].1) ∧ (flatC l)[i * 3 + 1]? = some (.int .i64 l[i].2.cl) ∧ (flatC l)[i * 3 + 2]? = some (.int .i64 l[i].2.L.length) := by
  induction l generalizing i with
  | nil => cases hi
  | cons x l ih =>
    cases i with
    | zero => exact ⟨rfl, rfl, rfl⟩
    | succ i =>
      have := ih i (by simpa using hi)
      rw [show (i + 1) * 3 = i * 3 + 1 + 1 + 1 by omega]
      exact this

/-- The cells of answers. -/
def flatA (l : List ((Option Addr × Nat) × List Tm)) : List Value := l.map fun x => Value.slice x.1.1 x.2.length x.1.2

/-- What of memory the searcher writes. -/
def SM (br bs bm : Nat) (tv cv av : Value) (b : Nat) : Prop := b = br ∨ StM bs bm tv b ∨ cv.ownBlock = some b ∨ av.ownBlock = some b

/-- What of memory stays. -/
def OkS (w : World) (br bs bm : Nat) (tv cv av : Value) (b : Nat) : Prop := b < w.heap.size ∧ ¬ SM br bs bm tv cv av b

structure Sep (br bs bm : Nat) (tv cv av : Value) : Prop where
  rs : br ≠ bs
  rm : br ≠ bm
  rt : tv.ownBlock ≠ some br
  rc : cv.ownBlock ≠ some br
  ra : av.ownBlock ≠ some br
  cs : cv.ownBlock ≠ some bs ∧ cv.ownBlock ≠ some bm ∧ ∀ g, tv.ownBlock = some g → cv.ownBlock ≠ some g
  sa : av.ownBlock ≠ some bs ∧ av.ownBlock ≠ some bm ∧ ∀ g, tv.ownBlock = some g → av.ownBlock ≠ some g
  ca : ∀ g, cv.ownBlock = some g → av.ownBlock ≠ some g

/-- The searcher in memory. -/
structure SAt (w : World) (br bs bm : Nat) (tv cv av : Value) (np pa : Option Addr) (pc : Nat) (p : List Cl) (query : Nat) (S : PS) (wk : Nat) : Prop where
  blk : w.heap[br]? = some (.cells #[.slice pa p.length pc, .pointer (some ⟨bs, 0, none⟩), .int .i64 S.vars, .int .i64 query, cv, .pointer np, av, .int .i64 S.fin, .int .i64 S.steps] 135 (0, 0))
  st : StAt w (OkS w br bs bm tv cv av) bs bm tv S.σ S.L wk
  prog : Pr w (OkS w br bs bm tv cv av) p pa pc
  now : GAt w (OkS w br bs bm tv cv av) np S.now
  ch : ∃ Q : List (Option Addr × PCh), Q.map (·.2) = S.ch ∧ w.ownsRow 0 206 3 cv Q.length (flatC Q) ∧ ∀ q, q ∈ Q → GAt w (OkS w br bs bm tv cv av) q.1 q.2.gs
  ans : ∃ A : List ((Option Addr × Nat) × List Tm), A.map (·.2) = S.ans ∧ w.ownsRow 0 146 1 av A.length (flatA A) ∧ ∀ x, x ∈ A → Ts w (OkS w br bs bm tv cv av) x.2 x.1.1 x.1.2
  sep : Sep br bs bm tv cv av

section
variable {w w' : World} {br bs bm : Nat} {tv cv av : Value} {np pa : Option Addr} {pc : Nat} {p : List Cl} {query : Nat} {S : PS} {wk : Nat}

theorem SAt.lt (h : SAt w br bs bm tv cv av np pa pc p query S wk) : br < w.heap.size := (Array.getElem?_eq_some_iff.1 h.blk).1

theorem SAt.cells (h : SAt w br bs bm tv cv av np pa pc p query S wk) :
    w.cell? ⟨br, 0, none⟩ = some (.slice pa p.length pc) ∧ w.cell? ⟨br, 1, none⟩ = some (.pointer (some ⟨bs, 0, none⟩)) ∧ w.cell? ⟨br, 2, none⟩ = some (.int .i64 S.vars) ∧ w.cell? ⟨br, 3, none⟩ = some (.int .i64 query) ∧ w.cell? ⟨br, 4, none⟩ = some cv ∧ w.cell? ⟨br, 5, none⟩ = some (.pointer np) ∧ w.cell? ⟨br, 6, none⟩ = some av ∧ w.cell? ⟨br, 7, none⟩ = some (.int .i64 S.fin) ∧ w.cell? ⟨br, 8, none⟩ = some (.int .i64 S.steps) ∧ (∀ o, w.frozen? ⟨br, o, none⟩ = false) := by
  refine ⟨?_, ?_, ?_, ?_, ?_, ?_, ?_, ?_, ?_, fun o => ?_⟩
  all_goals first | simp [World.cell?, h.blk] | simp [World.frozen?, h.blk]

theorem StAt.okmono {ok ok' : Nat → Prop} {σ : Sub} {L : List Int} (h : StAt w ok bs bm tv σ L wk) (hk : ∀ b, b < w.heap.size → ok b → ok' b) (hb : ∀ b, ok' b → b < w.heap.size ∧ ¬ StM bs bm tv b) : StAt w ok' bs bm tv σ L wk := by
  obtain ⟨f, h1, h2⟩ := h.map
  exact ⟨h.blk, h.trail, ⟨f, h1, fun k => (h2 k).mono hk⟩, h.ne, hb⟩

theorem OkS.st {b : Nat} (h : OkS w br bs bm tv cv av b) : b < w.heap.size ∧ ¬ StM bs bm tv b := ⟨h.1, fun e => h.2 (.inr (.inl e))⟩

/-- What is kept when the searcher's own blocks turn. -/
theorem okS_step (ht : Touch (SM br bs bm tv cv av) w w') {tv' cv' av' : Value} (f1 : Fresh w tv tv') (f2 : Fresh w cv cv') (f3 : Fresh w av av') :
    Keeps (OkS w br bs bm tv cv av) w w' ∧ ∀ b, OkS w br bs bm tv cv av b → OkS w' br bs bm tv' cv' av' b := by
  refine ⟨ht.keeps fun b hb e => hb.2 e, fun b hb => ⟨Nat.lt_of_lt_of_le hb.1 ht.size, fun e => ?_⟩⟩
  have key : ∀ v v' : Value, Fresh w v v' → v'.ownBlock = some b → v.ownBlock = some b := fun v v' hf e => by
    rcases hf with h | h
    · rw [← h]; exact e
    · have := h b e; have := hb.1; omega
  rcases e with e | (e | e | e) | e | e
  · exact hb.2 (.inl e)
  · exact hb.2 (.inr (.inl (.inl e)))
  · exact hb.2 (.inr (.inl (.inr (.inl e))))
  · exact hb.2 (.inr (.inl (.inr (.inr (key _ _ f1 e)))))
  · exact hb.2 (.inr (.inr (.inl (key _ _ f2 e))))
  · exact hb.2 (.inr (.inr (.inr (key _ _ f3 e))))

theorem Fresh.self (w : World) (v : Value) : Fresh w v v := .inl rfl

theorem SAt.below (h : SAt w br bs bm tv cv av np pa pc p query S wk) (hb : Below w.heap.size w w') : SAt w' br bs bm tv cv av np pa pc p query S wk := by
  have ht : Touch (SM br bs bm tv cv av) w w' := Touch.below hb
  obtain ⟨hk, hm⟩ := okS_step ht (Fresh.self w tv) (Fresh.self w cv) (Fresh.self w av)
  have hm' : ∀ b, b < w'.heap.size → OkS w br bs bm tv cv av b → OkS w' br bs bm tv cv av b := fun b _ => hm b
  refine ⟨(hb.block br h.lt).trans h.blk, (h.st.keep hb).okmono hm' fun b => OkS.st, (h.prog.keep hk).mono hm', (h.now.keep hk).mono hm', ?_, ?_, h.sep⟩
  · obtain ⟨Q, h1, h2, h3⟩ := h.ch
    exact ⟨Q, h1, ownsRow_below h2 hb, fun q hq => ((h3 q hq).keep hk).mono hm'⟩
  · obtain ⟨A, h1, h2, h3⟩ := h.ans
    exact ⟨A, h1, ownsRow_below h2 hb, fun q hq => ((h3 q hq).keep hk).mono hm'⟩

/-- The store turns. -/
theorem SAt.store (h : SAt w br bs bm tv cv av np pa pc p query S wk) (ht : Touch (StM bs bm tv) w w') {tv' : Value} (hf : Fresh w tv tv') {σ : Sub} {L : List Int} {wk' : Nat} (hst : StAt w' (OkS w br bs bm tv cv av) bs bm tv' σ L wk') :
    SAt w' br bs bm tv' cv av np pa pc p query { S with σ := σ, L := L } wk' := by
  have ht' : Touch (SM br bs bm tv cv av) w w' := ht.mono fun b _ e => .inr (.inl e)
  obtain ⟨hk, hm⟩ := okS_step ht' hf (Fresh.self w cv) (Fresh.self w av)
  have hm' : ∀ b, b < w'.heap.size → OkS w br bs bm tv cv av b → OkS w' br bs bm tv' cv av b := fun b _ => hm b
  have hlt : ∀ g, cv.ownBlock = some g → g < w.heap.size := fun g hg => by obtain ⟨Q, _, h2, _⟩ := h.ch; exact (h2.lt g hg).2
  have hlta : ∀ g, av.ownBlock = some g → g < w.heap.size := fun g hg => by obtain ⟨Q, _, h2, _⟩ := h.ans; exact (h2.lt g hg).2
  have hnb : ∀ b, b = br ∨ cv.ownBlock = some b ∨ av.ownBlock = some b → ¬ StM bs bm tv b := fun b hb e => by
    rcases hb with rfl | hb | hb
    · rcases e with e | e | e
      · exact h.sep.rs e
      · exact h.sep.rm e
      · exact h.sep.rt e
    · rcases e with rfl | rfl | e
      · exact h.sep.cs.1 hb
      · exact h.sep.cs.2.1 hb
      · exact h.sep.cs.2.2 _ e hb
    · rcases e with rfl | rfl | e
      · exact h.sep.sa.1 hb
      · exact h.sep.sa.2.1 hb
      · exact h.sep.sa.2.2 _ e hb
  refine ⟨(ht.block br h.lt (hnb br (.inl rfl))).trans h.blk, hst.okmono hm' fun b => OkS.st, (h.prog.keep hk).mono hm', (h.now.keep hk).mono hm', ?_, ?_, ?_⟩
  · obtain ⟨Q, h1, h2, h3⟩ := h.ch
    exact ⟨Q, h1, ownsRow_block h2 fun g hg => ht.block g (hlt g hg) (hnb g (.inr (.inl hg))), fun q hq => ((h3 q hq).keep hk).mono hm'⟩
  · obtain ⟨A, h1, h2, h3⟩ := h.ans
    exact ⟨A, h1, ownsRow_block h2 fun g hg => ht.block g (hlta g hg) (hnb g (.inr (.inr hg))), fun q hq => ((h3 q hq).keep hk).mono hm'⟩
  · have hfr : ∀ g, tv'.ownBlock = some g → tv.ownBlock = some g ∨ w.heap.size ≤ g := fun g hg => by
      rcases hf with e | e
      · exact .inl (e ▸ hg)
      · exact .inr (e g hg)
    refine ⟨h.sep.rs, h.sep.rm, fun e => ?_, h.sep.rc, h.sep.ra, ⟨h.sep.cs.1, h.sep.cs.2.1, fun g hg e => ?_⟩, ⟨h.sep.sa.1, h.sep.sa.2.1, fun g hg e => ?_⟩, h.sep.ca⟩
    · rcases hfr _ e with e | e
      · exact h.sep.rt e
      · have := h.lt; omega
    · rcases hfr _ hg with e2 | e2
      · exact h.sep.cs.2.2 g e2 e
      · have := hlt g e; omega
    · rcases hfr _ hg with e2 | e2
      · exact h.sep.sa.2.2 g e2 e
      · have := hlta g e; omega

/-- A field of the searcher's box. -/
theorem SAt.field (h : SAt w br bs bm tv cv av np pa pc p query S wk) (o : Nat) (v : Value) (np' : Option Addr) (S' : PS)
    (hb : (#[.slice pa p.length pc, .pointer (some ⟨bs, 0, none⟩), .int .i64 S.vars, .int .i64 query, cv, .pointer np, av, .int .i64 S.fin, .int .i64 S.steps] : Array Value).setIfInBounds o v = #[.slice pa p.length pc, .pointer (some ⟨bs, 0, none⟩), .int .i64 S'.vars, .int .i64 query, cv, .pointer np', av, .int .i64 S'.fin, .int .i64 S'.steps])
    (hσ : S'.σ = S.σ) (hL : S'.L = S.L) (hc : S'.ch = S.ch) (ha : S'.ans = S.ans) (hn : GAt w (OkS w br bs bm tv cv av) np' S'.now) :
    SAt (w.setCell ⟨br, o, none⟩ v) br bs bm tv cv av np' pa pc p query S' wk := by
  have hT : Touch (fun b => b = br) w (w.setCell ⟨br, o, none⟩ v) := Touch.setCell _ rfl
  have ht' : Touch (SM br bs bm tv cv av) w (w.setCell ⟨br, o, none⟩ v) := hT.mono fun b _ e => .inl e
  obtain ⟨hk, hm⟩ := okS_step ht' (Fresh.self w tv) (Fresh.self w cv) (Fresh.self w av)
  have hm' : ∀ b, b < (w.setCell ⟨br, o, none⟩ v).heap.size → OkS w br bs bm tv cv av b → OkS (w.setCell ⟨br, o, none⟩ v) br bs bm tv cv av b := fun b _ => hm b
  have hlt : ∀ g, cv.ownBlock = some g → g < w.heap.size := fun g hg => by obtain ⟨Q, _, h2, _⟩ := h.ch; exact (h2.lt g hg).2
  have hlta : ∀ g, av.ownBlock = some g → g < w.heap.size := fun g hg => by obtain ⟨Q, _, h2, _⟩ := h.ans; exact (h2.lt g hg).2
  refine ⟨by rw [heap_setCell_at _ _ _ _ h.blk, hb], ?_, (h.prog.keep hk).mono hm', (hn.keep hk).mono hm', ?_, ?_, h.sep⟩
  · rw [hσ, hL]
    have := h.st.touch (M := fun b => b = br) hT (fun b e => by
      subst e
      refine ⟨fun e => ?_, fun e => e.2 (.inl rfl)⟩
      rcases e with e | e | e
      · exact h.sep.rs e
      · exact h.sep.rm e
      · exact h.sep.rt e)
    exact this.okmono hm' fun b => OkS.st
  · obtain ⟨Q, h1, h2, h3⟩ := h.ch
    exact ⟨Q, by rw [hc]; exact h1, ownsRow_block h2 fun g hg => hT.block g (hlt g hg) (fun e => h.sep.rc (e ▸ hg)), fun q hq => ((h3 q hq).keep hk).mono hm'⟩
  · obtain ⟨A, h1, h2, h3⟩ := h.ans
    exact ⟨A, by rw [ha]; exact h1, ownsRow_block h2 fun g hg => hT.block g (hlta g hg) (fun e => h.sep.ra (e ▸ hg)), fun q hq => ((h3 q hq).keep hk).mono hm'⟩

theorem SAt.setVars (h : SAt w br bs bm tv cv av np pa pc p query S wk) (n : Nat) : SAt (w.setCell ⟨br, 2, none⟩ (.int .i64 n)) br bs bm tv cv av np pa pc p query { S with vars := n } wk :=
  h.field 2 _ np { S with vars := n } rfl rfl rfl rfl rfl h.now
theorem SAt.setFin (h : SAt w br bs bm tv cv av np pa pc p query S wk) (n : Nat) : SAt (w.setCell ⟨br, 7, none⟩ (.int .i64 n)) br bs bm tv cv av np pa pc p query { S with fin := n } wk :=
  h.field 7 _ np { S with fin := n } rfl rfl rfl rfl rfl h.now
theorem SAt.setSteps (h : SAt w br bs bm tv cv av np pa pc p query S wk) (n : Nat) : SAt (w.setCell ⟨br, 8, none⟩ (.int .i64 n)) br bs bm tv cv av np pa pc p query { S with steps := n } wk :=
  h.field 8 _ np { S with steps := n } rfl rfl rfl rfl rfl h.now
theorem SAt.setNow (h : SAt w br bs bm tv cv av np pa pc p query S wk) {np' : Option Addr} {l : List Goal} (hn : GAt w (OkS w br bs bm tv cv av) np' l) : SAt (w.setCell ⟨br, 5, none⟩ (.pointer np')) br bs bm tv cv av np' pa pc p query { S with now := l } wk :=
  h.field 5 _ np' { S with now := l } rfl rfl rfl rfl rfl hn
/-- What the walk does not write: the plain fields. -/
theorem SAt.setF (h : SAt w br bs bm tv cv av np pa pc p query S wk) (f : Nat) : SAt w br bs bm tv cv av np pa pc p query { S with f := f } wk := ⟨h.blk, h.st, h.prog, h.now, h.ch, h.ans, h.sep⟩
end

end Go.Proofs.Ytikmgiapjigghaa

/- The reference's search in memory. -/
namespace Go.Proofs.Ytikmgiapjigghaa.Emb
open Go.RowKit Go.Proofs.Ytikmgiapjigghaa

/-- Goals that lie in a slice. -/
structure TdAt (w : World) (ok : Nat → Prop) (l : List Goal) (a : Option Addr) (cap : Nat) : Prop where
  room : l.length ≤ cap ∧ cap ≤ maxLen ∧ (a = none → cap = 0)
  elem : ∀ i (h : i < l.length), ∃ (b off : Nat) (a1 : Option Addr) (c1 : Nat), a = some ⟨b, off, none⟩ ∧ ok b ∧ b < w.heap.size ∧ Cells3 w b (off + i * 4) l[i].1 a1 c1 ∧ w.cell? ⟨b, off + i * 4 + 3, none⟩ = some (.int .i64 l[i].2) ∧ Ts w ok l[i].1.args a1 c1

theorem TdAt.keep {w w' : World} {ok : Nat → Prop} (hk : Keeps ok w w') {l : List Goal} {a : Option Addr} {cap : Nat} (h : TdAt w ok l a cap) : TdAt w' ok l a cap := by
  refine ⟨h.room, fun i hi => ?_⟩
  obtain ⟨b, off, a1, c1, h1, h2, h3, h4, h5, h6⟩ := h.elem i hi
  exact ⟨b, off, a1, c1, h1, h2, Nat.lt_of_lt_of_le h3 hk.size, ⟨(hk.cell (p := ⟨b, _, none⟩) h2 h3).trans h4.var, (hk.cell (p := ⟨b, _, none⟩) h2 h3).trans h4.name, (hk.cell (p := ⟨b, _, none⟩) h2 h3).trans h4.args, h4.fits⟩, (hk.cell (p := ⟨b, _, none⟩) h2 h3).trans h5, h6.keep hk⟩

theorem TdAt.mono {w : World} {ok ok' : Nat → Prop} (hk : ∀ b, b < w.heap.size → ok b → ok' b) {l : List Goal} {a : Option Addr} {cap : Nat} (h : TdAt w ok l a cap) : TdAt w ok' l a cap := by
  refine ⟨h.room, fun i hi => ?_⟩
  obtain ⟨b, off, a1, c1, h1, h2, h3, h4, h5, h6⟩ := h.elem i hi
  exact ⟨b, off, a1, c1, h1, hk b h3 h2, h3, h4, h5, h6.mono hk⟩

/-- The goals behind the first one. -/
theorem TdAt.tail {w : World} {ok : Nat → Prop} {g : Goal} {l : List Goal} {b off cap : Nat} (h : TdAt w ok (g :: l) (some ⟨b, off, none⟩) cap) {a' : Option Addr} (ha : (l = [] ∧ cap = 1) ∨ a' = some ⟨b, off + 4, none⟩) : TdAt w ok l a' (cap - 1) := by
  have hr := h.room
  simp only [List.length_cons] at hr
  refine ⟨⟨by omega, by omega, fun e => ?_⟩, fun i hi => ?_⟩
  · rcases ha with ha | ha
    · omega
    · rw [ha] at e; cases e
  · rcases ha with ha | ha
    · rw [ha.1] at hi; cases hi
    · obtain ⟨b2, off2, a1, c1, h1, h2, h3, h4, h5, h6⟩ := h.elem (i + 1) (by simp; omega)
      simp only [Option.some.injEq, Addr.mk.injEq, and_true] at h1
      obtain ⟨rfl, rfl⟩ := h1
      simp only [List.getElem_cons_succ] at h4 h5 h6
      exact ⟨b, off + 4, a1, c1, ha, h2, h3, by rw [show off + 4 + i * 4 = off + (i + 1) * 4 by omega]; exact h4, by rw [show off + 4 + i * 4 + 3 = off + (i + 1) * 4 + 3 by omega]; exact h5, h6⟩

/-- The cells of goals. -/
def flatT : List (Goal × (Option Addr × Nat)) → List Value
  | [] => []
  | x :: r => [.int .i64 x.1.1.var, .string x.1.1.name, .slice x.2.1 x.1.1.args.length x.2.2, .int .i64 x.1.2] ++ flatT r

theorem flatT_length (l : List (Goal × (Option Addr × Nat))) : (flatT l).length = l.length * 4 := by
  induction l with
  | nil => rfl
  | cons x r ih => simp only [flatT, List.length_append, List.length_cons, List.length_nil, ih]; omega

theorem flatT_append (l r : List (Goal × (Option Addr × Nat))) : flatT (l ++ r) = flatT l ++ flatT r := by
  induction l with
  | nil => rfl
  | cons x l ih => simp only [List.cons_append, flatT, ih, List.append_assoc]

theorem flatT_one (l : List (Goal × (Option Addr × Nat))) : ∀ u ∈ flatT l, u.oneCell' = true := by
  induction l with
  | nil => intro u hu; cases hu
  | cons x l ih =>
    intro u hu
    rcases List.mem_append.1 hu with h | h
    · simp only [List.mem_cons, List.not_mem_nil, or_false] at h
      rcases h with rfl | rfl | rfl | rfl <;> rfl
    · exact ih u h

theorem flatT_at (l : List (Goal × (Option Addr × Nat))) (i : Nat) (hi : i < l.length) : (flatT l)[i * 4]? = some (.int .i64 l[i].1.1.var) ∧ (flatT l)[i * 4 + 1]? = some (.string l[i].1.1.name) ∧ (flatT l)[i * 4 + 2]? = some (.slice l[i].2.1 l[i].1.1.args.length l[i].2.2) ∧ (flatT l)[i * 4 + 3]? = some (.int .i64 l[i].1.2) := by
  induction l generalizing i with
  | nil => cases hi
  | cons x l ih =>
    cases i with
    | zero => exact ⟨rfl, rfl, rfl, rfl⟩
    | succ i =>
      have := ih i (by simpa using hi)
      rw [show (i + 1) * 4 = i * 4 + 1 + 1 + 1 + 1 by omega]
      exact this

/-- What a choice keeps, in memory. -/
structure KEnt where
  ba : Option Addr
  bc : Nat
  B : List Tm
  ta : Option Addr
  tc : Nat
  todo : List Goal
  cl : Nat

def KEnt.ch (k : KEnt) : RCh := ⟨subB k.B, k.B.length, k.todo, k.cl⟩

def flatK : List KEnt → List Value
  | [] => []
  | x :: r => [.slice x.ba x.B.length x.bc, .slice x.ta x.todo.length x.tc, .int .i64 x.cl] ++ flatK r

theorem flatK_length (l : List KEnt) : (flatK l).length = l.length * 3 := by
  induction l with
  | nil => rfl
  | cons x r ih => simp only [flatK, List.length_append, List.length_cons, List.length_nil, ih]; omega

theorem flatK_append (l r : List KEnt) : flatK (l ++ r) = flatK l ++ flatK r := by
  induction l with
  | nil => rfl
  | cons x l ih => simp only [List.cons_append, flatK, ih, List.append_assoc]

theorem flatK_take (l : List KEnt) (k : Nat) : flatK (l.take k) = (flatK l).take (k * 3) := by
  induction l generalizing k with
  | nil => simp [flatK]
  | cons x l ih =>
    cases k with
    | zero => simp [flatK]
    | succ k =>
      have e : ([Value.slice x.ba x.B.length x.bc, .slice x.ta x.todo.length x.tc, .int .i64 x.cl] : List Value).take (3 + k * 3) = [Value.slice x.ba x.B.length x.bc, .slice x.ta x.todo.length x.tc, .int .i64 x.cl] := List.take_of_length_le (by simp)
      rw [List.take_succ_cons, flatK, flatK, ih, show (k + 1) * 3 = 3 + k * 3 by omega, List.take_append, e]
      simp

theorem flatK_one (l : List KEnt) : ∀ u ∈ flatK l, u.oneCell' = true := by
  induction l with
  | nil => intro u hu; cases hu
  | cons x l ih =>
    intro u hu
    rcases List.mem_append.1 hu with h | h
    · simp only [List.mem_cons, List.not_mem_nil, or_false] at h
      rcases h with rfl | rfl | rfl <;> rfl
    · exact ih u h

theorem flatK_at (l : List KEnt) (i : Nat) (hi : i < l.length) : (flatK l)[i * 3]? = some (.slice l[i].ba l[i].B.length l[i].bc) ∧ (flatK l)[i * 3 + 1]? = some (.slice l[i].ta l[i].todo.length l[i].tc) ∧ (flatK l)[i * 3 + 2]? = some (.int .i64 l[i].cl) := by
  induction l generalizing i with
  | nil => cases hi
  | cons x l ih =>
    cases i with
    | zero => exact ⟨rfl, rfl, rfl⟩
    | succ i =>
      have := ih i (by simpa using hi)
      rw [show (i + 1) * 3 = i * 3 + 1 + 1 + 1 by omega]
      exact this

/-- What of memory the search writes. -/
def QM (xs : Nat) (bv kv av : Value) (b : Nat) : Prop := b = xs ∨ bv.ownBlock = some b ∨ kv.ownBlock = some b ∨ av.ownBlock = some b

/-- What of memory stays. -/
def OkQ (w : World) (xs : Nat) (bv kv av : Value) (b : Nat) : Prop := b < w.heap.size ∧ ¬ QM xs bv kv av b

structure SepQ (xs : Nat) (bv kv av : Value) : Prop where
  k : kv.ownBlock ≠ some xs
  a : av.ownBlock ≠ some xs
  bk : ∀ g, bv.ownBlock = some g → kv.ownBlock ≠ some g
  ba : ∀ g, bv.ownBlock = some g → av.ownBlock ≠ some g
  ka : ∀ g, kv.ownBlock = some g → av.ownBlock ≠ some g

/-- What else lies in the search's box. -/
def zOf (p : List Cl) (pa : Option Addr) (pc : Nat) (ta : Option Addr) (tc : Nat) (kv av : Value) (query : Nat) (R : RS) : SrZ :=
  ⟨.slice pa p.length pc, .slice ta R.todo.length tc, kv, .int .i64 query, av, .int .i64 R.fin, .int .i64 R.steps⟩

/-- The reference's search in a world. -/
structure QAt (w : World) (xs : Nat) (bv kv av : Value) (pa ta : Option Addr) (pc tc : Nat) (p : List Cl) (query : Nat) (R : RS) (B : List TmAt) (wk : Nat) : Prop where
  st : RAv (zOf p pa pc ta tc kv av query R) w (OkQ w xs bv kv av) xs bv B wk
  tau : subB (B.map (·.1)) = R.τ
  n : B.length = R.n
  fb : FB (B.map (·.1))
  prog : Pr w (OkQ w xs bv kv av) p pa pc
  todo : TdAt w (OkQ w xs bv kv av) R.todo ta tc
  kept : ∃ K : List KEnt, K.map KEnt.ch = R.kept ∧ w.ownsRow 0 191 3 kv K.length (flatK K) ∧ ∀ k, k ∈ K → FB k.B ∧ Ts w (OkQ w xs bv kv av) k.B k.ba k.bc ∧ TdAt w (OkQ w xs bv kv av) k.todo k.ta k.tc
  ans : ∃ A : List ((Option Addr × Nat) × List Tm), A.map (·.2) = R.ans ∧ w.ownsRow 0 146 1 av A.length (flatA A) ∧ ∀ x, x ∈ A → Ts w (OkQ w xs bv kv av) x.2 x.1.1 x.1.2
  sep : SepQ xs bv kv av

end Go.Proofs.Ytikmgiapjigghaa.Emb

/- Some small laws of the heaps' texts once more, for the search's texts. -/
namespace Go.Proofs.Ytikmgiapjigghaa.Emb
open Go.RowKit Go.Proofs.Ytikmgiapjigghaa

theorem touch_trans0 {C C' : Nat → Prop} {a b c : World} (h : Touch C a b) (k : Touch C' b c) (hm : ∀ x, x < a.heap.size → (C' x ↔ C x)) : Touch C a c :=
  ⟨k.os.trans h.os, k.tape.trans h.tape, k.output.trans h.output, Nat.le_trans h.size k.size, fun i hi hn => (k.block i (Nat.lt_of_lt_of_le hi h.size) (fun e => hn ((hm i hi).1 e))).trans (h.block i hi hn)⟩

theorem mem_addV {s : List Int} {v x : Int} : x ∈ addV s v ↔ x ∈ s ∨ x = v := by
  unfold addV
  by_cases h : v ∈ s
  · rw [if_pos h]; exact ⟨.inl, fun e => e.elim id fun e => e ▸ h⟩
  · rw [if_neg h]; simp

theorem seen_mem {p : Tm} : ∀ (l : List Tm) (s : List Int), p ∈ l → p.var ≠ 0 → p.var ∈ seen s l := by
  intro l
  induction l with
  | nil => intro s h; cases h
  | cons q r ih =>
    intro s h hv
    simp only [seen]
    rcases List.mem_cons.1 h with rfl | h
    · rw [if_pos hv]
      exact (seen_pre r _).subset (addV_mem s p.var)
    · exact ih _ h hv

theorem addV_len (s : List Int) (v : Int) : (addV s v).length ≤ s.length + 1 := by
  unfold addV
  split
  · omega
  · simp

theorem ts_of_row' {w : World} {ok : Nat → Prop} {base : Nat} {v : Value} {L : List TmAt} (h : w.ownsRow base 24 3 v L.length (flat L)) (hok : ∀ b, v.ownBlock = some b → ok b) (he : TsEach w ok L) :
    ∃ a cap, v = .slice a (L.map (·.1)).length cap ∧ Ts w ok (L.map (·.1)) a cap := by
  rcases h.2 with ⟨rfl, hn⟩ | ⟨g, cap, cur, rfl, hb, hg, hcap, hml, hsz, htk⟩
  · have : L = [] := List.eq_nil_of_length_eq_zero hn
    subst this
    exact ⟨none, 0, rfl, Ts.empty' _ _⟩
  · refine ⟨some ⟨g, 0, none⟩, cap, by simp, ?_⟩
    have hcell : ∀ j u, (flat L)[j]? = some u → w.cell? ⟨g, j, none⟩ = some u := by
      intro j u hu
      have hj : j < L.length * 3 := by rw [← flat_length]; exact (List.getElem?_eq_some_iff.1 hu).1
      rw [h.cellAt j hj, hu]
    have hgs : g < w.heap.size := (Array.getElem?_eq_some_iff.1 hg).1
    refine .mk _ _ _ ⟨by simpa using hcap, hml, fun h => by cases h⟩ (fun i => ((L.getD i (.mk 0 ByteArray.empty [], none, 0)).2)) (fun i hi => ?_) (fun i hi => ?_)
    · have hi' : i < L.length := by simpa using hi
      obtain ⟨h1, h2, h3⟩ := flat_at L i hi'
      refine ⟨g, 0, rfl, hok g rfl, hgs, ?_⟩
      simp only [List.getElem_map, List.getD_eq_getElem?_getD, List.getElem?_eq_getElem hi', Option.getD_some, Nat.zero_add]
      exact ⟨hcell _ _ h1, hcell _ _ h2, hcell _ _ h3, (he _ (List.getElem_mem hi')).1⟩
    · have hi' : i < L.length := by simpa using hi
      simp only [List.getElem_map, List.getD_eq_getElem?_getD, List.getElem?_eq_getElem hi', Option.getD_some]
      exact (he _ (List.getElem_mem hi')).2

theorem infoIntE : (Try.prog.info? 3).map (fun i => (i.zero, i.size, i.bytes)) = some (some (.int .i64 0), 1, 8) := by kernel_rfl

set_option maxRecDepth 100000 in
theorem made_ints (w : World) (n : Nat) (hn : n ≤ 1000000) : (Instr.makeSlice 44 (.int .i64 (n : Int)) (.int .i64 (n : Int))).run Try.prog w = .ok (.slice (some ⟨w.heap.size, 0, none⟩) n n) (w.alloc (.cells ((List.replicate n 0).map fun v : Int => Value.int .i64 v).toArray 3)) := by
  obtain ⟨i0, hi0, hz0, hz1, hz2⟩ := info_parts infoIntE
  have := run_make (P := Try.prog) w 44 3 i0 _ Try.underlying44 hi0 hz0 .i64 .i64 n n (by omega) (Int.le_refl _) (by rw [hz2]; omega) (by omega)
  rw [this, hz1]
  simp only [Int.toNat_natCast, Nat.mul_one]
  congr 3
  apply Array.ext'
  show (madeCells #[Value.int .i64 0] n).toList = _
  rw [toList_madeCells_one]
  simp

/-- The numbers of those that were seen, by index. -/
def nmL (n : Nat) (s : List Int) : List Int := (List.range (n + 1)).map fun v : Nat => if (v : Int) ∈ s then numIn s (v : Int) else 0

theorem nmL_nil (n : Nat) : nmL n [] = List.replicate (n + 1) 0 := by
  unfold nmL
  simp only [List.not_mem_nil, if_false]
  refine List.ext_getElem (by simp) fun i h1 h2 => ?_
  simp

theorem nmL_len (n : Nat) (s : List Int) : (nmL n s).length = n + 1 := by simp [nmL]

theorem nmL_get (n : Nat) (s : List Int) (v : Nat) (hv : v < (nmL n s).length) : (nmL n s)[v] = if (v : Int) ∈ s then numIn s (v : Int) else 0 := by simp [nmL]

theorem nmL_zero {n : Nat} {s : List Int} {v : Nat} (hv : v < (nmL n s).length) : (nmL n s)[v] = 0 ↔ (v : Int) ∉ s := by
  rw [nmL_get]
  by_cases h : (v : Int) ∈ s
  · rw [if_pos h]
    unfold numIn
    constructor
    · intro e; omega
    · intro e; exact absurd h e
  · rw [if_neg h]; exact ⟨fun _ => h, fun _ => rfl⟩

theorem nmL_put {n : Nat} {s : List Int} {v : Nat} (hs : (v : Int) ∉ s) : (nmL n s).set v ((s.length : Int) + 1) = nmL n (s ++ [(v : Int)]) := by
  refine List.ext_getElem (by simp [nmL_len]) fun i h1 h2 => ?_
  rw [List.getElem_set, nmL_get n (s ++ [(v : Int)])]
  by_cases e : v = i
  · subst e
    rw [if_pos rfl, if_pos (by simp)]
    unfold numIn
    rw [List.idxOf_append, if_neg hs]
    simp
  · rw [if_neg e, nmL_get]
    have hne : ¬ ((i : Int) = (v : Int)) := by omega
    by_cases h : (i : Int) ∈ s
    · rw [if_pos h, if_pos (by simp [h])]
      unfold numIn
      rw [List.idxOf_append, if_pos h]
    · rw [if_neg h, if_neg (by simp [h, hne])]

end Go.Proofs.Ytikmgiapjigghaa.Emb

/- The searcher in memory: its choices and its answers turn. -/
namespace Go.Proofs.Ytikmgiapjigghaa
open Go.RowKit

section
variable {w w' : World} {br bs bm : Nat} {tv cv av : Value} {np pa : Option Addr} {pc : Nat} {p : List Cl} {query : Nat} {S S' : PS} {wk : Nat}

theorem SAt.cvLt (h : SAt w br bs bm tv cv av np pa pc p query S wk) {g : Nat} (hg : cv.ownBlock = some g) : g < w.heap.size := by obtain ⟨Q, _, h2, _⟩ := h.ch; exact (h2.lt g hg).2
theorem SAt.avLt (h : SAt w br bs bm tv cv av np pa pc p query S wk) {g : Nat} (hg : av.ownBlock = some g) : g < w.heap.size := by obtain ⟨A, _, h2, _⟩ := h.ans; exact (h2.lt g hg).2
theorem SAt.tvLt (h : SAt w br bs bm tv cv av np pa pc p query S wk) {g : Nat} (hg : tv.ownBlock = some g) : g < w.heap.size := h.st.blocks.2 g hg

theorem fresh_or {v v' : Value} (hf : Fresh w v v') {g : Nat} (hg : v'.ownBlock = some g) : v.ownBlock = some g ∨ w.heap.size ≤ g := by
  rcases hf with e | e
  · exact .inl (e ▸ hg)
  · exact .inr (e g hg)

theorem touch_next {w1 w2 : World} {tv1 cv1 av1 : Value} (h : Touch (SM br bs bm tv cv av) w w1) (f1 : Fresh w tv tv1) (f2 : Fresh w cv cv1) (f3 : Fresh w av av1) (k : Touch (SM br bs bm tv1 cv1 av1) w1 w2) : Touch (SM br bs bm tv cv av) w w2 := by
  refine ⟨k.os.trans h.os, k.tape.trans h.tape, k.output.trans h.output, Nat.le_trans h.size k.size, fun b hb hn => ?_⟩
  refine (k.block b (Nat.lt_of_lt_of_le hb h.size) fun e => ?_).trans (h.block b hb hn)
  have key : ∀ v v' : Value, Fresh w v v' → v'.ownBlock = some b → v.ownBlock = some b := fun v v' hf e => by
    rcases fresh_or hf e with e | e
    · exact e
    · omega
  rcases e with e | (e | e | e) | e | e
  · exact hn (.inl e)
  · exact hn (.inr (.inl (.inl e)))
  · exact hn (.inr (.inl (.inr (.inl e))))
  · exact hn (.inr (.inl (.inr (.inr (key _ _ f1 e)))))
  · exact hn (.inr (.inr (.inl (key _ _ f2 e))))
  · exact hn (.inr (.inr (.inr (key _ _ f3 e))))

/-- The choices turn. -/
theorem SAt.cvTurn (h : SAt w br bs bm tv cv av np pa pc p query S wk) (hT : Touch (fun b => b = br ∨ cv.ownBlock = some b) w w') {cv' : Value} (f2 : Fresh w cv cv')
    (hblk : w'.heap[br]? = some (.cells #[.slice pa p.length pc, .pointer (some ⟨bs, 0, none⟩), .int .i64 S'.vars, .int .i64 query, cv', .pointer np, av, .int .i64 S'.fin, .int .i64 S'.steps] 135 (0, 0)))
    {Q : List (Option Addr × PCh)} (hQ : Q.map (·.2) = S'.ch) (hrow : w'.ownsRow 0 206 3 cv' Q.length (flatC Q)) (hgs : ∀ q, q ∈ Q → GAt w (OkS w br bs bm tv cv av) q.1 q.2.gs)
    (hσ : S'.σ = S.σ) (hL : S'.L = S.L) (ha : S'.ans = S.ans) (hn : S'.now = S.now) :
    SAt w' br bs bm tv cv' av np pa pc p query S' wk ∧ Touch (SM br bs bm tv cv av) w w' := by
  have ht' : Touch (SM br bs bm tv cv av) w w' := hT.mono fun b _ e => e.elim .inl (fun e => .inr (.inr (.inl e)))
  obtain ⟨hk, hm⟩ := okS_step ht' (Fresh.self w tv) f2 (Fresh.self w av)
  have hm' : ∀ b, b < w'.heap.size → OkS w br bs bm tv cv av b → OkS w' br bs bm tv cv' av b := fun b _ => hm b
  have hnS : ∀ b, (b = br ∨ cv.ownBlock = some b) → ¬ StM bs bm tv b := fun b hb e => by
    rcases hb with rfl | hb
    · rcases e with e | e | e
      · exact h.sep.rs e
      · exact h.sep.rm e
      · exact h.sep.rt e
    · rcases e with rfl | rfl | e
      · exact h.sep.cs.1 hb
      · exact h.sep.cs.2.1 hb
      · exact h.sep.cs.2.2 _ e hb
  refine ⟨⟨hblk, ?_, (h.prog.keep hk).mono hm', by rw [hn]; exact (h.now.keep hk).mono hm', ⟨Q, hQ, hrow, fun q hq => ((hgs q hq).keep hk).mono hm'⟩, ?_, ?_⟩, ht'⟩
  · rw [hσ, hL]
    exact (h.st.touch hT fun b hb => ⟨hnS b hb, fun e => e.2 (hb.elim .inl fun e => .inr (.inr (.inl e)))⟩).okmono hm' fun b => OkS.st
  · obtain ⟨A, h1, h2, h3⟩ := h.ans
    exact ⟨A, by rw [ha]; exact h1, ownsRow_block h2 fun g hg => hT.block g (h2.lt g hg).2 (fun e => e.elim (fun e => h.sep.ra (e ▸ hg)) fun e => h.sep.ca g e hg), fun q hq => ((h3 q hq).keep hk).mono hm'⟩
  · refine ⟨h.sep.rs, h.sep.rm, h.sep.rt, fun e => ?_, h.sep.ra, ⟨fun e => ?_, fun e => ?_, fun g hg e => ?_⟩, h.sep.sa, fun g hg e => ?_⟩
    · rcases fresh_or f2 e with e | e
      · exact h.sep.rc e
      · have := h.lt; omega
    · rcases fresh_or f2 e with e | e
      · exact h.sep.cs.1 e
      · have := h.st.lt; omega
    · rcases fresh_or f2 e with e | e
      · exact h.sep.cs.2.1 e
      · have := h.st.blocks.1; omega
    · rcases fresh_or f2 e with e | e
      · exact h.sep.cs.2.2 g hg e
      · have := h.tvLt hg; omega
    · rcases fresh_or f2 hg with e2 | e2
      · exact h.sep.ca g e2 e
      · have := h.avLt e; omega

/-- One choice more. -/
theorem SAt.push (h : SAt w br bs bm tv cv av np pa pc p query S wk) {Q : List (Option Addr × PCh)} (hQ : Q.map (·.2) = S.ch) (hgs : ∀ q, q ∈ Q → GAt w (OkS w br bs bm tv cv av) q.1 q.2.gs) {gp : Option Addr} {c : PCh} (hg : GAt w (OkS w br bs bm tv cv av) gp c.gs)
    {o : Obj} {X3 : World} {cv' : Value} (ho : X3.ownsRow 0 206 3 cv' (Q.length + 1) (flatC Q ++ [.pointer gp, .int .i64 c.cl, .int .i64 c.L.length])) (hgr : (w.alloc o).grownBy X3 cv.ownBlock) (hf : Fresh (w.alloc o) cv cv') :
    SAt (X3.setCell ⟨br, 4, none⟩ cv') br bs bm tv cv' av np pa pc p query { S with ch := S.ch ++ [c] } wk ∧ Touch (SM br bs bm tv cv av) w (X3.setCell ⟨br, 4, none⟩ cv') ∧ Fresh w cv cv' := by
  have hA : Touch (fun b => b = br ∨ cv.ownBlock = some b) w (w.alloc o) := Touch.below ((Below.refl _ _).alloc (Nat.le_refl _) _)
  have hG : Touch (fun b => b = br ∨ cv.ownBlock = some b) (w.alloc o) X3 := Touch.grown hgr (fun k e => .inr e)
  have hS : Touch (fun b => b = br ∨ cv.ownBlock = some b) X3 (X3.setCell ⟨br, 4, none⟩ cv') := Touch.setCell _ (.inl rfl)
  have hF : Fresh w cv cv' := hf.old (by simp)
  have hb3 : X3.heap[br]? = w.heap[br]? := (hgr.block br (by have := h.lt; simp; omega) (fun e => h.sep.rc e.symm)).trans (Below.heap_alloc _ _ _ h.lt)
  have := h.cvTurn (S' := { S with ch := S.ch ++ [c] }) ((hA.trans hG).trans hS) hF (by rw [heap_setCell_at _ _ _ _ (hb3.trans h.blk)]; rfl) (Q := Q ++ [(gp, c)]) (by rw [List.map_append, hQ]; rfl) (by
    have e : (Q ++ [(gp, c)]).length = Q.length + 1 := by simp
    rw [e, flatC_append]
    have hne : cv'.ownBlock ≠ some br := fun e => (fresh_or hF e).elim h.sep.rc fun e => by have := h.lt; omega
    exact ownsRow_block ho fun g hg => Below.heap_setCell _ _ _ _ (fun e => hne (by rw [hg]; exact congrArg some e))) (fun q hq => by
    rcases List.mem_append.1 hq with hq | hq
    · exact hgs q hq
    · rw [List.mem_singleton] at hq; subst hq; exact hg) rfl rfl rfl rfl
  exact ⟨this.1, this.2, hF⟩

/-- Choices are cut. -/
theorem SAt.cut (h : SAt w br bs bm tv cv av np pa pc p query S wk) {k : Nat} (hk : k ≤ S.ch.length) :
    SAt (w.setCell ⟨br, 4, none⟩ (cutV cv k)) br bs bm tv (cutV cv k) av np pa pc p query { S with ch := S.ch.take k } wk ∧ Touch (SM br bs bm tv cv av) w (w.setCell ⟨br, 4, none⟩ (cutV cv k)) ∧ Fresh w cv (cutV cv k) := by
  obtain ⟨Q, h1, h2, h3⟩ := h.ch
  have hl : Q.length = S.ch.length := by rw [← h1, List.length_map]
  have hS : Touch (fun b => b = br ∨ cv.ownBlock = some b) w (w.setCell ⟨br, 4, none⟩ (cutV cv k)) := Touch.setCell _ (.inl rfl)
  have hF : Fresh w cv (cutV cv k) := .inl (cutV_own cv k)
  have := h.cvTurn (S' := { S with ch := S.ch.take k }) hS hF (by rw [heap_setCell_at _ _ _ _ h.blk]; rfl) (Q := Q.take k) (by rw [List.map_take, h1]) (by
    have hr := ownsRow_cut h2 (k := k) (by omega)
    have e : (Q.take k).length = k := by rw [List.length_take]; omega
    rw [e, flatC_take]
    exact ownsRow_block hr fun g hg => Below.heap_setCell _ _ _ _ (fun e => h.sep.rc (by rw [cutV_own] at hg; rw [hg]; exact congrArg some e))) (fun q hq => h3 q (List.mem_of_mem_take hq)) rfl rfl rfl rfl
  exact ⟨this.1, this.2, hF⟩
end

end Go.Proofs.Ytikmgiapjigghaa

/- The reference's search in memory, with a colour of what it writes. -/
namespace Go.Proofs.Ytikmgiapjigghaa.Emb
open Go.RowKit Go.Proofs.Ytikmgiapjigghaa

/-- What of memory stays. -/
def OkC (w : World) (C : Nat → Prop) (b : Nat) : Prop := b < w.heap.size ∧ ¬ C b

/-- The colours agree on what was there. -/
def SameC (w : World) (C C' : Nat → Prop) : Prop := ∀ b, b < w.heap.size → (C' b ↔ C b)

theorem SameC.refl (w : World) (C : Nat → Prop) : SameC w C C := fun _ _ => Iff.rfl
theorem SameC.trans {w w' : World} {C C' C'' : Nat → Prop} (h : SameC w C C') (k : SameC w' C' C'') (hs : w.heap.size ≤ w'.heap.size) : SameC w C C'' := fun b hb => (k b (by omega)).trans (h b hb)

theorem OkC.next {w w' : World} {C C' : Nat → Prop} (hs : w.heap.size ≤ w'.heap.size) (hc : SameC w C C') {b : Nat} (h : OkC w C b) : OkC w' C' b := ⟨Nat.lt_of_lt_of_le h.1 hs, fun e => h.2 ((hc b h.1).1 e)⟩

theorem Touch.keepsC {w w' : World} {C : Nat → Prop} (ht : Touch C w w') : Keeps (OkC w C) w w' := ht.keeps fun _ hb => hb.2

/-- A choice's entry in a world. -/
def KAt (w : World) (ok : Nat → Prop) (k : KEnt) : Prop := FB k.B ∧ Ts w ok k.B k.ba k.bc ∧ TdAt w ok k.todo k.ta k.tc

theorem KAt.next {w w' : World} {ok ok' : Nat → Prop} (hk : Keeps ok w w') (hm : ∀ b, ok b → ok' b) {k : KEnt} (h : KAt w ok k) : KAt w' ok' k :=
  ⟨h.1, (h.2.1.keep hk).mono fun b _ hb => hm b hb, (h.2.2.keep hk).mono fun b _ hb => hm b hb⟩

/-- The reference's search in a world. -/
structure RSAt (w : World) (xs : Nat) (C : Nat → Prop) (bv kv av : Value) (pa ta : Option Addr) (pc tc : Nat) (p : List Cl) (query : Nat) (R : RS) (B : List TmAt) (wk : Nat) : Prop where
  st : RAv (zOf p pa pc ta tc kv av query R) w (OkC w C) xs bv B wk
  tau : subB (B.map (·.1)) = R.τ
  n : B.length = R.n
  fb : FB (B.map (·.1))
  prog : Pr w (OkC w C) p pa pc
  todo : TdAt w (OkC w C) R.todo ta tc
  kept : ∃ K : List KEnt, K.map KEnt.ch = R.kept ∧ w.ownsRow 0 191 3 kv K.length (flatK K) ∧ ∀ k, k ∈ K → KAt w (OkC w C) k
  ans : ∃ A : List ((Option Addr × Nat) × List Tm), A.map (·.2) = R.ans ∧ w.ownsRow 0 146 1 av A.length (flatA A) ∧ ∀ x, x ∈ A → Ts w (OkC w C) x.2 x.1.1 x.1.2
  sep : SepQ xs bv kv av
  col : ∀ b, QM xs bv kv av b → C b
  lt : ∀ b, C b → b < w.heap.size

variable {w w' : World} {xs : Nat} {C C' : Nat → Prop} {bv kv av : Value} {pa ta : Option Addr} {pc tc : Nat} {p : List Cl} {query : Nat} {R : RS} {B : List TmAt} {wk : Nat}

theorem RSAt.cells (h : RSAt w xs C bv kv av pa ta pc tc p query R B wk) :
    w.cell? ⟨xs, 0, none⟩ = some (.slice pa p.length pc) ∧ w.cell? ⟨xs, 1, none⟩ = some bv ∧ w.cell? ⟨xs, 2, none⟩ = some (.int .i64 wk) ∧ w.cell? ⟨xs, 3, none⟩ = some (.slice ta R.todo.length tc) ∧ w.cell? ⟨xs, 4, none⟩ = some kv ∧ w.cell? ⟨xs, 5, none⟩ = some (.int .i64 query) ∧ w.cell? ⟨xs, 6, none⟩ = some av ∧ w.cell? ⟨xs, 7, none⟩ = some (.int .i64 R.fin) ∧ w.cell? ⟨xs, 8, none⟩ = some (.int .i64 R.steps) ∧ ∀ o, w.frozen? ⟨xs, o, none⟩ = false := by
  have hb := h.st.blk
  simp only [zOf] at hb
  exact ⟨by simp [World.cell?, hb], by simp [World.cell?, hb], by simp [World.cell?, hb], by simp [World.cell?, hb], by simp [World.cell?, hb], by simp [World.cell?, hb], by simp [World.cell?, hb], by simp [World.cell?, hb], by simp [World.cell?, hb], fun o => by simp [World.frozen?, hb]⟩

theorem RSAt.xlt (h : RSAt w xs C bv kv av pa ta pc tc p query R B wk) : xs < w.heap.size := h.st.lt

/-- Behind what makes memory alone. -/
theorem RSAt.below (h : RSAt w xs C bv kv av pa ta pc tc p query R B wk) (hb : Below w.heap.size w w') : RSAt w' xs C bv kv av pa ta pc tc p query R B wk := by
  have hk : Keeps (OkC w C) w w' := Keeps.below hb _
  have hm : ∀ b, OkC w C b → OkC w' C b := fun b => OkC.next hb.size (SameC.refl w C)
  obtain ⟨K, k1, k2, k3⟩ := h.kept
  obtain ⟨A, a1, a2, a3⟩ := h.ans
  have s := h.st.keep hb
  refine ⟨⟨s.blk, s.row, s.each.mono fun b _ => hm b, s.ne, fun b hb' => ⟨hb'.1, fun e => hb'.2 (h.col b (.inl e)), fun e => hb'.2 (h.col b (.inr (.inl e)))⟩⟩, h.tau, h.n, h.fb, (h.prog.keep hk).mono fun b _ => hm b, (h.todo.keep hk).mono fun b _ => hm b, ⟨K, k1, ownsRow_below k2 hb, fun k hk' => (k3 k hk').next hk hm⟩, ⟨A, a1, ownsRow_below a2 hb, fun x hx => ((a3 x hx).keep hk).mono fun b _ => hm b⟩, h.sep, h.col, fun b hb' => Nat.lt_of_lt_of_le (h.lt b hb') hb.size⟩

theorem Touch.row {M : Nat → Prop} (ht : Touch M w w') {base size n : Nat} {e : TypeId} {v : Value} {l : List Value} (h : w.ownsRow base e size v n l) (hv : ∀ g, v.ownBlock = some g → ¬ M g) : w'.ownsRow base e size v n l :=
  ownsRow_block h fun g hg => ht.block g (h.lt g hg).2 (hv g hg)

/-- Behind a turn of the state alone. -/
theorem RSAt.state (h : RSAt w xs C bv kv av pa ta pc tc p query R B wk) (ht : Touch (StV xs bv) w w') {bv' : Value} (hf : Fresh w bv bv') {B' : List TmAt} {wk' : Nat}
    (hs : RAv (zOf p pa pc ta tc kv av query R) w' (OkC w C) xs bv' B' wk') (hB : FB (B'.map (·.1))) (f' : Nat) :
    ∃ C', SameC w C C' ∧ Touch C w w' ∧ RSAt w' xs C' bv' kv av pa ta pc tc p query { R with τ := subB (B'.map (·.1)), n := B'.length, f := f' } B' wk' := by
  have hM : ∀ b, StV xs bv b → C b := fun b e => e.elim (fun e => h.col b (.inl e)) fun e => h.col b (.inr (.inl e))
  have htc : Touch C w w' := ht.mono fun b _ e => hM b e
  have hsame : SameC w C (fun b => C b ∨ bv'.ownBlock = some b) := fun b hb => ⟨fun e => e.elim id fun e => by
    rcases hf with h1 | h1
    · exact h.col b (.inr (.inl (h1 ▸ e)))
    · have := h1 b e; omega, .inl⟩
  have hk := Touch.keepsC htc
  have hm : ∀ b, OkC w C b → OkC w' (fun b => C b ∨ bv'.ownBlock = some b) b := fun b => OkC.next ht.size hsame
  obtain ⟨K, k1, k2, k3⟩ := h.kept
  obtain ⟨A, a1, a2, a3⟩ := h.ans
  have hfr : ∀ g, bv'.ownBlock = some g → bv.ownBlock = some g ∨ w.heap.size ≤ g := fun g hg => fresh_or hf hg
  refine ⟨fun b => C b ∨ bv'.ownBlock = some b, hsame, htc, ⟨⟨hs.blk, hs.row, hs.each.mono fun b _ => hm b, hs.ne, fun b hb' => ⟨hb'.1, fun e => hb'.2 (.inl (h.col b (.inl e))), fun e => hb'.2 (.inr e)⟩⟩, rfl, rfl, hB, (h.prog.keep hk).mono fun b _ => hm b, (h.todo.keep hk).mono fun b _ => hm b,
    ⟨K, k1, Touch.row ht k2 (fun g hg e => e.elim (fun e => h.sep.k (e ▸ hg)) fun e => h.sep.bk g e hg), fun k hk' => (k3 k hk').next hk hm⟩, ⟨A, a1, Touch.row ht a2 (fun g hg e => e.elim (fun e => h.sep.a (e ▸ hg)) fun e => h.sep.ba g e hg), fun x hx => ((a3 x hx).keep hk).mono fun b _ => hm b⟩,
    ⟨h.sep.k, h.sep.a, fun g hg e => ?_, fun g hg e => ?_, h.sep.ka⟩, ?_, ?_⟩⟩
  · rcases hfr g hg with h1 | h1
    · exact h.sep.bk g h1 e
    · have := (k2.lt g e).2; omega
  · rcases hfr g hg with h1 | h1
    · exact h.sep.ba g h1 e
    · have := (a2.lt g e).2; omega
  · rintro b (e | e | e | e)
    · exact .inl (h.col b (.inl e))
    · exact .inr e
    · exact .inl (h.col b (.inr (.inr (.inl e))))
    · exact .inl (h.col b (.inr (.inr (.inr e))))
  · rintro b (e | e)
    · exact Nat.lt_of_lt_of_le (h.lt b e) ht.size
    · exact (hs.row.lt b e).2

end Go.Proofs.Ytikmgiapjigghaa.Emb

/- The reference's search in memory: its fields turned. -/
namespace Go.Proofs.Ytikmgiapjigghaa.Emb
open Go.RowKit Go.Proofs.Ytikmgiapjigghaa

variable {w w' : World} {xs : Nat} {C C' : Nat → Prop} {bv kv av : Value} {pa ta : Option Addr} {pc tc : Nat} {p : List Cl} {query : Nat} {R : RS} {B : List TmAt} {wk : Nat}

/-- A search whose box, and rows of its own, turned. -/
theorem RSAt.put (h : RSAt w xs C bv kv av pa ta pc tc p query R B wk) (ht : Touch C w w') {bv' kv' av' : Value} {ta' : Option Addr} {tc' : Nat} {R' : RS} {B' : List TmAt} {wk' : Nat}
    (hblk : w'.heap[xs]? = some (.cells #[.slice pa p.length pc, bv', .int .i64 wk', .slice ta' R'.todo.length tc', kv', .int .i64 query, av', .int .i64 R'.fin, .int .i64 R'.steps] 142 (0, 0)))
    (fb : Fresh w bv bv') (fk : Fresh w kv kv') (fa : Fresh w av av') (hsep : SepQ xs bv' kv' av') (hne : bv'.ownBlock ≠ some xs)
    (hrow : w'.ownsRow 0 24 3 bv' B'.length (flat B')) (heach : TsEach w (OkC w C) B') (htau : subB (B'.map (·.1)) = R'.τ) (hn : B'.length = R'.n) (hfb : FB (B'.map (·.1)))
    (htodo : TdAt w (OkC w C) R'.todo ta' tc')
    (hkept : ∃ K : List KEnt, K.map KEnt.ch = R'.kept ∧ w'.ownsRow 0 191 3 kv' K.length (flatK K) ∧ ∀ k, k ∈ K → KAt w (OkC w C) k)
    (hans : ∃ A : List ((Option Addr × Nat) × List Tm), A.map (·.2) = R'.ans ∧ w'.ownsRow 0 146 1 av' A.length (flatA A) ∧ ∀ x, x ∈ A → Ts w (OkC w C) x.2 x.1.1 x.1.2) :
    ∃ C', SameC w C C' ∧ RSAt w' xs C' bv' kv' av' pa ta' pc tc' p query R' B' wk' := by
  have hsame : SameC w C (fun b => C b ∨ QM xs bv' kv' av' b) := fun b hb => ⟨fun e => e.elim id fun e => by
    rcases e with e | e | e | e
    · exact h.col b (.inl e)
    · rcases fresh_or fb e with h1 | h1
      · exact h.col b (.inr (.inl h1))
      · omega
    · rcases fresh_or fk e with h1 | h1
      · exact h.col b (.inr (.inr (.inl h1)))
      · omega
    · rcases fresh_or fa e with h1 | h1
      · exact h.col b (.inr (.inr (.inr h1)))
      · omega, .inl⟩
  have hk := Touch.keepsC ht
  have hm : ∀ b, OkC w C b → OkC w' (fun b => C b ∨ QM xs bv' kv' av' b) b := fun b => OkC.next ht.size hsame
  obtain ⟨K, k1, k2, k3⟩ := hkept
  obtain ⟨A, a1, a2, a3⟩ := hans
  refine ⟨_, hsame, ⟨⟨hblk, hrow, (heach.keep hk).mono fun b _ => hm b, hne, fun b hb' => ⟨hb'.1, fun e => hb'.2 (.inr (.inl e)), fun e => hb'.2 (.inr (.inr (.inl e)))⟩⟩, htau, hn, hfb, (h.prog.keep hk).mono fun b _ => hm b, (htodo.keep hk).mono fun b _ => hm b,
    ⟨K, k1, k2, fun k hk' => (k3 k hk').next hk hm⟩, ⟨A, a1, a2, fun x hx => ((a3 x hx).keep hk).mono fun b _ => hm b⟩, hsep, fun b e => .inr e, ?_⟩⟩
  rintro b (e | e | e | e | e)
  · exact Nat.lt_of_lt_of_le (h.lt b e) ht.size
  · have := (Array.getElem?_eq_some_iff.1 hblk).1; omega
  · exact (hrow.lt b e).2
  · exact (k2.lt b e).2
  · exact (a2.lt b e).2

theorem RSAt.sepB (h : RSAt w xs C bv kv av pa ta pc tc p query R B wk) : bv.ownBlock ≠ some xs := h.st.ne

/-- One cell of the box is stored. -/
theorem RSAt.box (h : RSAt w xs C bv kv av pa ta pc tc p query R B wk) (o : Nat) (v : Value) : Touch C w (w.setCell ⟨xs, o, none⟩ v) ∧
    ∀ cs : Array Value, (#[.slice pa p.length pc, bv, .int .i64 wk, .slice ta R.todo.length tc, kv, .int .i64 query, av, .int .i64 R.fin, .int .i64 R.steps] : Array Value).setIfInBounds o v = cs → (w.setCell ⟨xs, o, none⟩ v).heap[xs]? = some (.cells cs 142 (0, 0)) := by
  refine ⟨Touch.setCell _ (h.col xs (.inl rfl)), fun cs hcs => ?_⟩
  have hb := h.st.blk
  simp only [zOf] at hb
  rw [heap_setCell_at _ _ _ _ hb, hcs]

theorem RSAt.rowsBox (h : RSAt w xs C bv kv av pa ta pc tc p query R B wk) (o : Nat) (v : Value) : (w.setCell ⟨xs, o, none⟩ v).ownsRow 0 24 3 bv B.length (flat B) ∧
    (∃ K : List KEnt, K.map KEnt.ch = R.kept ∧ (w.setCell ⟨xs, o, none⟩ v).ownsRow 0 191 3 kv K.length (flatK K) ∧ ∀ k, k ∈ K → KAt w (OkC w C) k) ∧
    (∃ A : List ((Option Addr × Nat) × List Tm), A.map (·.2) = R.ans ∧ (w.setCell ⟨xs, o, none⟩ v).ownsRow 0 146 1 av A.length (flatA A) ∧ ∀ x, x ∈ A → Ts w (OkC w C) x.2 x.1.1 x.1.2) := by
  have ht : Touch (fun b => b = xs) w (w.setCell ⟨xs, o, none⟩ v) := Touch.setCell _ rfl
  obtain ⟨K, k1, k2, k3⟩ := h.kept
  obtain ⟨A, a1, a2, a3⟩ := h.ans
  exact ⟨Touch.row ht h.st.row (fun g hg e => h.st.ne (e ▸ hg)), ⟨K, k1, Touch.row ht k2 (fun g hg e => h.sep.k (e ▸ hg)), k3⟩, ⟨A, a1, Touch.row ht a2 (fun g hg e => h.sep.a (e ▸ hg)), a3⟩⟩

theorem RSAt.setTodo (h : RSAt w xs C bv kv av pa ta pc tc p query R B wk) {l : List Goal} {ta' : Option Addr} {tc' : Nat} (hl : TdAt w (OkC w C) l ta' tc') :
    Touch C w (w.setCell ⟨xs, 3, none⟩ (.slice ta' l.length tc')) ∧ ∃ C', SameC w C C' ∧ RSAt (w.setCell ⟨xs, 3, none⟩ (.slice ta' l.length tc')) xs C' bv kv av pa ta' pc tc' p query { R with todo := l } B wk := by
  obtain ⟨ht, hb⟩ := h.box 3 (.slice ta' l.length tc')
  obtain ⟨r1, r2, r3⟩ := h.rowsBox 3 (.slice ta' l.length tc')
  exact ⟨ht, h.put ht (hb _ rfl) (.inl rfl) (.inl rfl) (.inl rfl) h.sep h.st.ne r1 h.st.each h.tau h.n h.fb hl r2 r3⟩

theorem RSAt.setFin (h : RSAt w xs C bv kv av pa ta pc tc p query R B wk) (n : Nat) :
    Touch C w (w.setCell ⟨xs, 7, none⟩ (.int .i64 n)) ∧ ∃ C', SameC w C C' ∧ RSAt (w.setCell ⟨xs, 7, none⟩ (.int .i64 n)) xs C' bv kv av pa ta pc tc p query { R with fin := n } B wk := by
  obtain ⟨ht, hb⟩ := h.box 7 (.int .i64 n)
  obtain ⟨r1, r2, r3⟩ := h.rowsBox 7 (.int .i64 n)
  exact ⟨ht, h.put ht (hb _ rfl) (.inl rfl) (.inl rfl) (.inl rfl) h.sep h.st.ne r1 h.st.each h.tau h.n h.fb h.todo r2 r3⟩

theorem RSAt.setSteps (h : RSAt w xs C bv kv av pa ta pc tc p query R B wk) (n : Nat) :
    Touch C w (w.setCell ⟨xs, 8, none⟩ (.int .i64 n)) ∧ ∃ C', SameC w C C' ∧ RSAt (w.setCell ⟨xs, 8, none⟩ (.int .i64 n)) xs C' bv kv av pa ta pc tc p query { R with steps := n } B wk := by
  obtain ⟨ht, hb⟩ := h.box 8 (.int .i64 n)
  obtain ⟨r1, r2, r3⟩ := h.rowsBox 8 (.int .i64 n)
  exact ⟨ht, h.put ht (hb _ rfl) (.inl rfl) (.inl rfl) (.inl rfl) h.sep h.st.ne r1 h.st.each h.tau h.n h.fb h.todo r2 r3⟩

theorem RSAt.setWork (h : RSAt w xs C bv kv av pa ta pc tc p query R B wk) (n : Nat) :
    Touch C w (w.setCell ⟨xs, 2, none⟩ (.int .i64 n)) ∧ ∃ C', SameC w C C' ∧ RSAt (w.setCell ⟨xs, 2, none⟩ (.int .i64 n)) xs C' bv kv av pa ta pc tc p query R B n := by
  obtain ⟨ht, hb⟩ := h.box 2 (.int .i64 n)
  obtain ⟨r1, r2, r3⟩ := h.rowsBox 2 (.int .i64 n)
  exact ⟨ht, h.put ht (hb _ rfl) (.inl rfl) (.inl rfl) (.inl rfl) h.sep h.st.ne r1 h.st.each h.tau h.n h.fb h.todo r2 r3⟩

theorem RSAt.plain (h : RSAt w xs C bv kv av pa ta pc tc p query R B wk) {R' : RS} (h1 : R'.τ = R.τ) (h2 : R'.n = R.n) (h3 : R'.kept = R.kept) (h4 : R'.todo = R.todo) (h5 : R'.ans = R.ans) (h6 : R'.fin = R.fin) (h7 : R'.steps = R.steps) : RSAt w xs C bv kv av pa ta pc tc p query R' B wk := by
  obtain ⟨τ, n, f, kept, todo, ans, fin, steps⟩ := R
  obtain ⟨τ', n', f', kept', todo', ans', fin', steps'⟩ := R'
  simp only at h1 h2 h3 h4 h5 h6 h7
  subst h1 h2 h3 h4 h5 h6 h7
  exact ⟨h.st, h.tau, h.n, h.fb, h.prog, h.todo, h.kept, h.ans, h.sep, h.col, h.lt⟩

theorem row_le {w : World} {base : Nat} {e : TypeId} {size : Nat} {v : Value} {n : Nat} {l : List Value} (h : w.ownsRow base e size v n l) : w.ownsRow 0 e size v n l := by
  refine ⟨h.1, h.2.imp id ?_⟩
  rintro ⟨g, cap, cur, h1, h2, h3⟩
  exact ⟨g, cap, cur, h1, Nat.zero_le _, h3⟩

/-- The list of what variables are is another row, new. -/
theorem RSAt.setBy (h : RSAt w xs C bv kv av pa ta pc tc p query R B wk) {w1 : World} (hb : Below w.heap.size w w1) {bv' : Value} {B' : List TmAt} (hrow : w1.ownsRow w.heap.size 24 3 bv' B'.length (flat B')) (heach : TsEach w (OkC w C) B') (hfb : FB (B'.map (·.1))) {f' : Nat} :
    Touch C w (w1.setCell ⟨xs, 1, none⟩ bv') ∧ ∃ C', SameC w C C' ∧ RSAt (w1.setCell ⟨xs, 1, none⟩ bv') xs C' bv' kv av pa ta pc tc p query { R with τ := subB (B'.map (·.1)), n := B'.length, f := f' } B' wk := by
  have h1 := h.below hb
  obtain ⟨ht1, hbk⟩ := h1.box 1 bv'
  obtain ⟨-, r2, r3⟩ := h1.rowsBox 1 bv'
  have ht : Touch C w (w1.setCell ⟨xs, 1, none⟩ bv') := (Touch.below hb).trans ht1
  have hge : ∀ g, bv'.ownBlock = some g → w.heap.size ≤ g := fun g hg => (hrow.lt g hg).1
  have hlk : ∀ g, kv.ownBlock = some g → g < w.heap.size := fun g hg => h.lt g (h.col g (.inr (.inr (.inl hg))))
  have hla : ∀ g, av.ownBlock = some g → g < w.heap.size := fun g hg => h.lt g (h.col g (.inr (.inr (.inr hg))))
  have hxs := h.xlt
  have hne : bv'.ownBlock ≠ some xs := fun e => by have := hge _ e; omega
  have hT : Touch (fun b => b = xs) w (w1.setCell ⟨xs, 1, none⟩ bv') := (Touch.below hb).trans (Touch.setCell _ rfl)
  obtain ⟨K, k1, k2, k3⟩ := h.kept
  obtain ⟨A, a1, a2, a3⟩ := h.ans
  exact ⟨ht, h.put ht (hbk _ rfl) (.inr hge) (.inl rfl) (.inl rfl) ⟨h.sep.k, h.sep.a, fun g hg e => by have := hge g hg; have := hlk g e; omega, fun g hg e => by have := hge g hg; have := hla g e; omega, h.sep.ka⟩ hne
    (Touch.row (Touch.setCell (M := fun b => b = xs) _ rfl) (row_le hrow) fun g hg e => hne (e ▸ hg)) heach rfl rfl hfb h.todo
    ⟨K, k1, Touch.row hT k2 (fun g hg e => h.sep.k (e ▸ hg)), k3⟩ ⟨A, a1, Touch.row hT a2 (fun g hg e => h.sep.a (e ▸ hg)), a3⟩⟩

/-- One choice more. -/
theorem RSAt.push (h : RSAt w xs C bv kv av pa ta pc tc p query R B wk) {K : List KEnt} (hK : K.map KEnt.ch = R.kept) (hKe : ∀ k, k ∈ K → KAt w (OkC w C) k) {k : KEnt} (hk : KAt w (OkC w C) k)
    {wX X3 : World} (hX : Below w.heap.size w wX) {kv' : Value} (ho : X3.ownsRow 0 191 3 kv' (K.length + 1) (flatK K ++ [.slice k.ba k.B.length k.bc, .slice k.ta k.todo.length k.tc, .int .i64 k.cl])) (hgr : wX.grownBy X3 kv.ownBlock) (hf : Fresh wX kv kv') :
    Touch C w (X3.setCell ⟨xs, 4, none⟩ kv') ∧ ∃ C', SameC w C C' ∧ RSAt (X3.setCell ⟨xs, 4, none⟩ kv') xs C' bv kv' av pa ta pc tc p query { R with kept := R.kept ++ [k.ch] } B wk := by
  have hF : Fresh w kv kv' := hf.old hX.size
  have hxs := h.xlt
  have hT1 : Touch (fun b => b = xs ∨ kv.ownBlock = some b) w X3 := (Touch.below hX).trans (Touch.grown hgr fun g e => .inr e)
  have hT : Touch (fun b => b = xs ∨ kv.ownBlock = some b) w (X3.setCell ⟨xs, 4, none⟩ kv') := hT1.trans (Touch.setCell _ (.inl rfl))
  have ht : Touch C w (X3.setCell ⟨xs, 4, none⟩ kv') := hT.mono fun b _ e => e.elim (fun e => h.col b (.inl e)) fun e => h.col b (.inr (.inr (.inl e)))
  have hb3 : X3.heap[xs]? = w.heap[xs]? := (hgr.block xs (by have := hX.size; omega) (fun e => h.sep.k e.symm)).trans (hX.block xs hxs)
  have hblk := h.st.blk
  simp only [zOf] at hblk
  have hor := fun g hg => fresh_or (g := g) hF hg
  obtain ⟨A, a1, a2, a3⟩ := h.ans
  have hb2 := h.st.row
  have hnx : kv'.ownBlock ≠ some xs := fun e => (hor _ e).elim h.sep.k fun e => by omega
  refine ⟨ht, h.put ht (by rw [heap_setCell_at _ _ _ _ (hb3.trans hblk)]; rfl) (.inl rfl) hF (.inl rfl) ⟨hnx, h.sep.a, fun g hg e => (hor g e).elim (h.sep.bk g hg) fun e => by have := (hb2.lt g hg).2; omega, h.sep.ba, fun g hg e => (hor g hg).elim (fun h1 => h.sep.ka g h1 e) fun h1 => by have := (a2.lt g e).2; omega⟩ h.st.ne
    (Touch.row hT hb2 fun g hg e => e.elim (fun e => h.st.ne (e ▸ hg)) fun e => h.sep.bk g hg e) h.st.each h.tau h.n h.fb h.todo
    ⟨K ++ [k], by rw [List.map_append, hK]; rfl, ?_, fun q hq => ?_⟩ ⟨A, a1, Touch.row hT a2 fun g hg e => e.elim (fun e => h.sep.a (e ▸ hg)) fun e => h.sep.ka g e hg, a3⟩⟩
  · have e : (K ++ [k]).length = K.length + 1 := by simp
    rw [e, flatK_append]
    exact Touch.row (Touch.setCell (M := fun b => b = xs) _ rfl) ho fun g hg e => hnx (e ▸ hg)
  · rcases List.mem_append.1 hq with hq | hq
    · exact hKe q hq
    · rw [List.mem_singleton] at hq; subst hq; exact hk

/-- Choices are cut. -/
theorem RSAt.cut (h : RSAt w xs C bv kv av pa ta pc tc p query R B wk) {k : Nat} (hk : k ≤ R.kept.length) :
    Touch C w (w.setCell ⟨xs, 4, none⟩ (cutV kv k)) ∧ ∃ C', SameC w C C' ∧ RSAt (w.setCell ⟨xs, 4, none⟩ (cutV kv k)) xs C' bv (cutV kv k) av pa ta pc tc p query { R with kept := R.kept.take k } B wk := by
  obtain ⟨ht, hbk⟩ := h.box 4 (cutV kv k)
  obtain ⟨r1, r2, r3⟩ := h.rowsBox 4 (cutV kv k)
  obtain ⟨K, k1, k2, k3⟩ := r2
  have hl : K.length = R.kept.length := by rw [← k1, List.length_map]
  refine ⟨ht, h.put ht (hbk _ rfl) (.inl rfl) (.inl (cutV_own kv k)) (.inl rfl) ⟨by rw [cutV_own]; exact h.sep.k, h.sep.a, fun g hg e => h.sep.bk g hg (by rw [cutV_own] at e; exact e), h.sep.ba, fun g hg e => h.sep.ka g (by rw [cutV_own] at hg; exact hg) e⟩ h.st.ne r1 h.st.each h.tau h.n h.fb h.todo ⟨K.take k, by rw [List.map_take, k1], ?_, fun q hq => k3 q (List.mem_of_mem_take hq)⟩ r3⟩
  have hr := ownsRow_cut k2 (k := k) (by omega)
  have e : (K.take k).length = k := by rw [List.length_take]; omega
  rw [e, flatK_take]
  exact hr

/-- One answer more. -/
theorem RSAt.tell (h : RSAt w xs C bv kv av pa ta pc tc p query R B wk) {A : List ((Option Addr × Nat) × List Tm)} (hA : A.map (·.2) = R.ans) (hAe : ∀ x, x ∈ A → Ts w (OkC w C) x.2 x.1.1 x.1.2) {l : List Tm} {a : Option Addr} {c : Nat} (hl : Ts w (OkC w C) l a c)
    {wX X3 : World} (hX : Below w.heap.size w wX) {av' : Value} (ho : X3.ownsRow 0 146 1 av' (A.length + 1) (flatA A ++ [.slice a l.length c])) (hgr : wX.grownBy X3 av.ownBlock) (hf : Fresh wX av av') :
    Touch C w (X3.setCell ⟨xs, 6, none⟩ av') ∧ ∃ C', SameC w C C' ∧ RSAt (X3.setCell ⟨xs, 6, none⟩ av') xs C' bv kv av' pa ta pc tc p query { R with ans := R.ans ++ [l] } B wk := by
  have hF : Fresh w av av' := hf.old hX.size
  have hxs := h.xlt
  have hT1 : Touch (fun b => b = xs ∨ av.ownBlock = some b) w X3 := (Touch.below hX).trans (Touch.grown hgr fun g e => .inr e)
  have hT : Touch (fun b => b = xs ∨ av.ownBlock = some b) w (X3.setCell ⟨xs, 6, none⟩ av') := hT1.trans (Touch.setCell _ (.inl rfl))
  have ht : Touch C w (X3.setCell ⟨xs, 6, none⟩ av') := hT.mono fun b _ e => e.elim (fun e => h.col b (.inl e)) fun e => h.col b (.inr (.inr (.inr e)))
  have hb3 : X3.heap[xs]? = w.heap[xs]? := (hgr.block xs (by have := hX.size; omega) (fun e => h.sep.a e.symm)).trans (hX.block xs hxs)
  have hblk := h.st.blk
  simp only [zOf] at hblk
  have hor := fun g hg => fresh_or (g := g) hF hg
  obtain ⟨K, k1, k2, k3⟩ := h.kept
  have hb2 := h.st.row
  have hnx : av'.ownBlock ≠ some xs := fun e => (hor _ e).elim h.sep.a fun e => by omega
  refine ⟨ht, h.put ht (by rw [heap_setCell_at _ _ _ _ (hb3.trans hblk)]; rfl) (.inl rfl) (.inl rfl) hF ⟨h.sep.k, hnx, h.sep.bk, fun g hg e => (hor g e).elim (h.sep.ba g hg) fun e => by have := (hb2.lt g hg).2; omega, fun g hg e => (hor g e).elim (h.sep.ka g hg) fun e => by have := (k2.lt g hg).2; omega⟩ h.st.ne
    (Touch.row hT hb2 fun g hg e => e.elim (fun e => h.st.ne (e ▸ hg)) fun e => h.sep.ba g hg e) h.st.each h.tau h.n h.fb h.todo
    ⟨K, k1, Touch.row hT k2 fun g hg e => e.elim (fun e => h.sep.k (e ▸ hg)) fun e => h.sep.ka g hg e, k3⟩ ⟨A ++ [((a, c), l)], by rw [List.map_append, hA]; rfl, ?_, fun q hq => ?_⟩⟩
  · have e : (A ++ [((a, c), l)]).length = A.length + 1 := by simp
    rw [e]
    have e2 : flatA (A ++ [((a, c), l)]) = flatA A ++ [.slice a l.length c] := by simp [flatA]
    rw [e2]
    exact Touch.row (Touch.setCell (M := fun b => b = xs) _ rfl) ho fun g hg e => hnx (e ▸ hg)
  · rcases List.mem_append.1 hq with hq | hq
    · exact hAe q hq
    · rw [List.mem_singleton] at hq; subst hq; exact hl

end Go.Proofs.Ytikmgiapjigghaa.Emb

/- Walk: the searcher's same. -/
namespace Go.Proofs.Ytikmgiapjigghaa
open Go.RowKit

/-- What same leaves. -/
def SmPost (w : World) (br bs bm : Nat) (tv cv av : Value) (np pa : Option Addr) (pc : Nat) (p : List Cl) (query : Nat) (S : PS) (o : MOut) (e : Ending) (w' : World) : Prop :=
  Touch (SM br bs bm tv cv av) w w' ∧ ∃ tv', Fresh w tv tv' ∧
  match o with
  | .ok σ L f => e = .returned (.bool true) ∧ SAt w' br bs bm tv' cv av np pa pc p query { S with σ := σ, L := L, f := f } (4000 - f) ∧ SInv σ
  | .no σ L f => e = .returned (.bool false) ∧ SAt w' br bs bm tv' cv av np pa pc p query { S with σ := σ, L := L, f := f } (4000 - f) ∧ SInv σ
  | .many σ L => e = .returned (.bool false) ∧ SAt w' br bs bm tv' cv av np pa pc p query { S with σ := σ, L := L, f := 0, fin := 3 } 4001 ∧ SInv σ

set_option maxRecDepth 100000 in
set_option maxHeartbeats 2000000 in
theorem SameSW {w : World} {br bs bm : Nat} {tv cv av : Value} {np pa : Option Addr} {pc : Nat} {p : List Cl} {query : Nat} {S : PS} (h : SAt w br bs bm tv cv av np pa pc p query S (4000 - S.f)) (hf : S.f ≤ 4000) (hi : SInv S.σ) (hL : S.L.length + S.f ≤ 1000000)
    {a b : Tm} {a1 a2 : Option Addr} {c1 c2 : Nat} (fa : a.fits) (fb : b.fits) (ta : Ts w (OkS w br bs bm tv cv av) a.args a1 c1) (tb : Ts w (OkS w br bs bm tv cv av) b.args a2 c2) (wa : WfT a) (wb : WfT b) :
    Calls Try.prog 135 #[.pointer (some ⟨br, 0, none⟩), .agg #[.int .i64 a.var, .string a.name, .slice a1 a.args.length c1], .agg #[.int .i64 b.var, .string b.name, .slice a2 b.args.length c2]] w (SmPost w br bs bm tv cv av np pa pc p query S (meet S.σ S.L S.f [(a, b)])) := by
  obtain ⟨o, ho⟩ : ∃ o, meet S.σ S.L S.f [(a, b)] = o := ⟨_, rfl⟩
  rw [ho]
  have B0 : Below w.heap.size w ((w.alloc (.cells #[.int .i64 a.var, .string a.name, .slice a1 a.args.length c1] 24)).alloc (.cells #[.int .i64 b.var, .string b.name, .slice a2 b.args.length c2] 24)) := ((Below.refl _ _).alloc (Nat.le_refl _) _).alloc (by simp) _
  have HCL : Hid (∀ u, Below ((w.alloc (.cells #[.int .i64 a.var, .string a.name, .slice a1 a.args.length c1] 24)).alloc (.cells #[.int .i64 b.var, .string b.name, .slice a2 b.args.length c2] 24)).heap.size ((w.alloc (.cells #[.int .i64 a.var, .string a.name, .slice a1 a.args.length c1] 24)).alloc (.cells #[.int .i64 b.var, .string b.name, .slice a2 b.args.length c2] 24)) u → Calls Try.prog 66 #[.pointer (some ⟨bs, 0, none⟩), .agg #[.int .i64 a.var, .string a.name, .slice a1 a.args.length c1], .agg #[.int .i64 b.var, .string b.name, .slice a2 b.args.length c2]] u (fun e w' => SamePost u (OkS w br bs bm tv cv av) bs bm tv o e w' ∧ Below w.heap.size w u)) := Lib.hid (fun u hu => by
    have hb : Below w.heap.size w u := B0.trans (hu.mono B0.size)
    rw [← ho]
    refine (SameW S.f S.σ S.L tv a b a1 a2 c1 c2 u hf (h.st.keep hb) hi hL fa fb (ta.keep (Keeps.below hb _)) (tb.keep (Keeps.below hb _)) wa wb).mono fun e w' hp => ⟨hp, hb⟩)
  have H := Lib.hid h
  obtain ⟨q0, q1, q2, q3, q4, q5, q6, q7, q8, qf⟩ := (h.below B0).cells
  clear h hf hi hL fa fb ta tb B0 ho
  go_enter Try.func135, Try.ntmps135
  go_wp2_with fail
  go_region_law (first
    | (go_simp
       go_at_call 66
       refine (HCL.out _ ?_).mono ?_
       · exact (Below.refl _ _).drew
       rintro e w1 ⟨hpost, hb1⟩
       obtain ⟨bb, nn, rfl⟩ := hpost.form
       have HP := Lib.hid hpost; have HB := Lib.hid hb1
       clear hpost hb1))
  all_goals
    have HT : Hid (Touch (StM bs bm tv) w w1) := Lib.hid ((Touch.below HB.out).trans HP.out.1)
    obtain ⟨ht, tv', hfr, hm⟩ := HP.out
    have HF : Hid (Fresh w tv tv') := Lib.hid (hfr.old HB.out.size)
    have HTS : Hid (Touch (SM br bs bm tv cv av) w w1) := Lib.hid (HT.out.mono fun b _ e => .inr (.inl e))
    clear ht hfr
    cases o with
    | ok σ L f =>
      obtain ⟨he, hs, hii⟩ := hm
      have HII := Lib.hid hii
      clear hii
      simp only [Ending.returned.injEq, Value.tuple.injEq, Array.mk.injEq, List.cons.injEq, Value.bool.injEq, Value.int.injEq, true_and, and_true] at he
      obtain ⟨rfl, rfl⟩ := he
      have HS := Lib.hid (H.out.store HT.out HF.out hs)
      clear hs
      go_wp2_with fail
      go_ret
      exact ⟨HTS.out, tv', HF.out, rfl, HS.out.setF f, HII.out⟩
    | no σ L f =>
      obtain ⟨he, hs, hii⟩ := hm
      have HII := Lib.hid hii
      clear hii
      simp only [Ending.returned.injEq, Value.tuple.injEq, Array.mk.injEq, List.cons.injEq, Value.bool.injEq, Value.int.injEq, true_and, and_true] at he
      obtain ⟨rfl, rfl⟩ := he
      have HS := Lib.hid (H.out.store HT.out HF.out hs)
      clear hs
      go_wp2_with fail
      go_ret
      exact ⟨HTS.out, tv', HF.out, rfl, HS.out.setF f, HII.out⟩
    | many σ L =>
      obtain ⟨he, hs, hii⟩ := hm
      have HII := Lib.hid hii
      clear hii
      simp only [Ending.returned.injEq, Value.tuple.injEq, Array.mk.injEq, List.cons.injEq, Value.bool.injEq, Value.int.injEq, true_and, and_true] at he
      obtain ⟨rfl, rfl⟩ := he
      have HS := Lib.hid (H.out.store HT.out HF.out hs)
      obtain ⟨q0, q1, q2, q3, q4, q5, q6, q7, q8, qf⟩ := HS.out.cells
      clear hs
      go_wp2_with fail
      go_ret
      exact ⟨HTS.out.trans (Touch.setCell _ (.inl rfl)), tv', HF.out, rfl, (HS.out.setF 0).setFin 3, HII.out⟩

end Go.Proofs.Ytikmgiapjigghaa
