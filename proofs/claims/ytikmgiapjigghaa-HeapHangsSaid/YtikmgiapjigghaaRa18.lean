/- Walk: Unify. -/
import Derived.Deep.RegionHeld3
import Derived.Test.YtikmgiapjigghaaRa10
import Derived.Test.YtikmgiapjigghaaRa11
import Derived.Test.YtikmgiapjigghaaRa17
namespace Go.Proofs.Ytikmgiapjigghaa
open Go.RowKit

/-- What Unify answers, errors too. -/
inductive UA where
  | err (n : Nat)
  | no (k : Nat)
  | ok (l : List Tm) (k : Nat)

def uOutA : UOut → UA
  | .no k => .no k
  | .many => .err 2
  | .ok l k => .ok l k

noncomputable def uA (a b : Tm) : UA := if a.checkE ≠ 0 then .err a.checkE else if b.checkE ≠ 0 then .err b.checkE else uOutA (uP a b)

def UPost (w : World) (ok : Nat → Prop) (o : UA) (e : Ending) (w' : World) : Prop :=
  Below w.heap.size w w' ∧
  match o with
  | .err n => e = .returned (.tuple #[.slice none 0 0, .bool false, .int .i64 0, .int .i64 n])
  | .no k => e = .returned (.tuple #[.slice none 0 0, .bool false, .int .i64 k, .int .i64 0])
  | .ok l k => ∃ a cap, e = .returned (.tuple #[.slice a l.length cap, .bool true, .int .i64 k, .int .i64 0]) ∧ Ts w' (OkN ok w) l a cap

/-- One term more in a slice under construction. -/
theorem OwnTs.more {wb wr wX w1 X2 w2 : World} {ok : Nat → Prop} {L : List TmAt} {x x' : Value} (h : OwnTs wr wb.heap.size (OkN ok wb) x L) (hw : Below wb.heap.size wb wr) (hok : ∀ b, ok b → b < wb.heap.size) (hX : wr.heap.size ≤ wX.heap.size)
    (hb : Below wr.heap.size wr w1) {t : Tm} {a : Option Addr} {c : Nat} (hf : t.fits) (ht : Ts w1 (OkN ok wX) t.args a c) (hX2 : Below w1.heap.size w1 X2)
    (ho : w2.ownsRow wb.heap.size 24 3 x' (L.length + 1) (flat L ++ flat [(t, a, c)])) (hg : X2.grownBy w2 x.ownBlock) (hfr : Fresh X2 x x') :
    OwnTs w2 wb.heap.size (OkN ok wb) x' (L ++ [(t, a, c)]) ∧ Below wb.heap.size wb w2 := by
  have hxb : ∀ g, x.ownBlock = some g → wb.heap.size ≤ g ∧ g < wr.heap.size := fun g hg => h.block hg
  have hW : Below wr.heap.size wr X2 := hb.trans (hX2.mono hb.size)
  have hE : TsEach X2 (Free x (OkN ok wb)) [(t, a, c)] := by
    refine TsEach.one hf ((ht.keep (Keeps.below hX2 _)).mono fun b _ hk => ?_)
    rcases hk with hk | hk
    · exact ⟨.inl hk, fun e => by have := (hxb b e).1; have := hok b hk; omega⟩
    · exact ⟨.inr (by have := hw.size; omega), fun e => by have := (hxb b e).2; omega⟩
  have h2 : OwnTs w2 wb.heap.size (OkN ok wb) x' (L ++ [(t, a, c)]) := (h.below hW).append hE (by simpa using ho) hg hfr
  refine ⟨h2, ?_⟩
  have hT : Touch (fun b => x.ownBlock = some b) X2 w2 := Touch.grown hg fun k e => e
  exact (hw.trans (hW.mono hw.size)).trans (hT.toBelow (Nat.le_trans hw.size hW.size) fun b e => (hxb b e).1)

theorem OwnTs.form {w : World} {base : Nat} {ok : Nat → Prop} {L : List TmAt} {x : Value} (h : OwnTs w base ok x L) : ∃ a cap, x = .slice a L.length cap := by
  rcases h.own.2 with ⟨h1, h2⟩ | ⟨g, cap, cur, h1, _⟩
  · exact ⟨none, 0, by rw [h1, h2]⟩
  · exact ⟨_, _, h1⟩

theorem OwnTs.ret {w wb wr : World} {ok : Nat → Prop} {L : List TmAt} {x : Value} (h : OwnTs wr wb.heap.size (OkN ok wb) x L) (hw : w.heap.size ≤ wb.heap.size) : ∃ a cap, x = .slice a (L.map (·.1)).length cap ∧ Ts wr (OkN ok w) (L.map (·.1)) a cap := by
  have h1 : TsEach wr (OkN ok w) L := h.each.mono fun b _ hk => by
    rcases hk.1 with h3 | h3
    · exact .inl h3
    · exact .inr (by omega)
  have ho : wr.ownsRow w.heap.size 24 3 x L.length (flat L) := by
    refine ⟨h.own.1, h.own.2.imp id ?_⟩
    rintro ⟨g, cap, cur, a1, a2, a3⟩
    exact ⟨g, cap, cur, a1, Nat.le_trans hw a2, a3⟩
  exact Ts.of_row ho (fun b hb => .inr hb) h1

/-- Names that stay. -/
theorem ren_id {σ : Sub} : ∀ (m : Nat) (l : List Tm) (x : List Tm × Nat), thrL σ m l = some x → (Tm.rens (S := Unit) (fun _ v => (v, ())) () x.1).1 = x.1 := by
  intro m
  induction m using Nat.strongRecOn with
  | _ m ih =>
  intro l x h
  cases l with
  | nil => rw [thrL_nil] at h; cases h; rfl
  | cons t r =>
    cases m with
    | zero => rw [thrL_zero] at h; cases h
    | succ m =>
      by_cases hv : (look σ t).var = 0
      · rw [thrL_fn hv] at h
        obtain ⟨y, hy, h2⟩ := Option.bind_eq_some_iff.1 h
        obtain ⟨z, hz, rfl⟩ := Option.map_eq_some_iff.1 h2
        have h3 := (thrL_le _ _ _ hy).1
        have e1 := ih m (by omega) _ y hy
        have e2 := ih y.2 (by omega) _ z hz
        simp only [Tm.rens, Tm.ren, ne_eq, not_true_eq_false, if_false, e1, e2]
      · rw [thrL_var hv] at h
        obtain ⟨z, hz, rfl⟩ := Option.map_eq_some_iff.1 h
        have e2 := ih m (by omega) _ z hz
        simp only [Tm.rens, Tm.ren, if_pos hv, e2]

theorem outs_le {σ : Sub} : ∀ n m : Nat, n ≤ m → outs σ n = none → outs σ m = none := by
  intro n m
  induction m with
  | zero => intro h h2; have : n = 0 := by omega
            subst this; exact h2
  | succ m ih =>
    intro h h2
    by_cases e : n = m + 1
    · subst e; exact h2
    · simp only [outs]; rw [ih (by omega) h2]; rfl

theorem SInv.none : SInv (fun _ => Option.none) := Sim.start.inv

set_option maxRecDepth 100000 in
set_option maxHeartbeats 4000000 in
theorem UnifyW {w : World} {ok : Nat → Prop} (hok : ∀ b, ok b → b < w.heap.size) {s t : Tm} {a1 a2 : Option Addr} {c1 c2 : Nat} (hs : s.fits) (ht : t.fits) (h1 : Ts w ok s.args a1 c1) (h2 : Ts w ok t.args a2 c2) :
    Calls Try.prog 22 #[.agg #[.int .i64 s.var, .string s.name, .slice a1 s.args.length c1], .agg #[.int .i64 t.var, .string t.name, .slice a2 t.args.length c2]] w (UPost w ok (uA s t)) := by
  have HOK := Lib.hid hok; have HS := Lib.hid hs; have HT := Lib.hid ht; have H1 := Lib.hid h1; have H2 := Lib.hid h2
  clear hok hs ht h1 h2
  have hA0 : Box3 (((w.alloc (.cells #[.int .i64 s.var, .string s.name, .slice a1 s.args.length c1] 24)).alloc (.cells #[.int .i64 t.var, .string t.name, .slice a2 t.args.length c2] 24)).alloc (.cells #[.int .i64 s.var, .string s.name, .slice a1 s.args.length c1, .int .i64 t.var, .string t.name, .slice a2 t.args.length c2] 24)) w.heap.size (.int .i64 s.var) (.string s.name) (.slice a1 s.args.length c1) := ((Box3.made w _ _ _).alloc _).alloc _
  have hA1 : Box3 (((w.alloc (.cells #[.int .i64 s.var, .string s.name, .slice a1 s.args.length c1] 24)).alloc (.cells #[.int .i64 t.var, .string t.name, .slice a2 t.args.length c2] 24)).alloc (.cells #[.int .i64 s.var, .string s.name, .slice a1 s.args.length c1, .int .i64 t.var, .string t.name, .slice a2 t.args.length c2] 24)) (w.heap.size + 1) (.int .i64 t.var) (.string t.name) (.slice a2 t.args.length c2) := (Box3.made2 (by simp)).alloc _
  have hA2 : (((w.alloc (.cells #[.int .i64 s.var, .string s.name, .slice a1 s.args.length c1] 24)).alloc (.cells #[.int .i64 t.var, .string t.name, .slice a2 t.args.length c2] 24)).alloc (.cells #[.int .i64 s.var, .string s.name, .slice a1 s.args.length c1, .int .i64 t.var, .string t.name, .slice a2 t.args.length c2] 24)).heap[w.heap.size + 2]? = some (.cells #[.int .i64 s.var, .string s.name, .slice a1 s.args.length c1, .int .i64 t.var, .string t.name, .slice a2 t.args.length c2] 24 (0, 0)) := by
    have := heap_alloc_new ((w.alloc (.cells #[.int .i64 s.var, .string s.name, .slice a1 s.args.length c1] 24)).alloc (.cells #[.int .i64 t.var, .string t.name, .slice a2 t.args.length c2] 24)) (.cells #[.int .i64 s.var, .string s.name, .slice a1 s.args.length c1, .int .i64 t.var, .string t.name, .slice a2 t.args.length c2] 24)
    simpa using this
  have hB0 : Below w.heap.size w (((w.alloc (.cells #[.int .i64 s.var, .string s.name, .slice a1 s.args.length c1] 24)).alloc (.cells #[.int .i64 t.var, .string t.name, .slice a2 t.args.length c2] 24)).alloc (.cells #[.int .i64 s.var, .string s.name, .slice a1 s.args.length c1, .int .i64 t.var, .string t.name, .slice a2 t.args.length c2] 24)) := (((Below.refl _ _).alloc (Nat.le_refl _) _).alloc (by simp) _).alloc (by simp; omega) _
  have HA0 := Lib.hid hA0; have HA1 := Lib.hid hA1; have HA2 := Lib.hid hA2; have HB0 := Lib.hid hB0
  clear hA0 hA1 hA2 hB0
  go_enter Try.func22, Try.ntmps22
  go_wp2_with fail
  generalize (((w.alloc (.cells #[.int .i64 s.var, .string s.name, .slice a1 s.args.length c1] 24)).alloc (.cells #[.int .i64 t.var, .string t.name, .slice a2 t.args.length c2] 24)).alloc (.cells #[.int .i64 s.var, .string s.name, .slice a1 s.args.length c1, .int .i64 t.var, .string t.name, .slice a2 t.args.length c2] 24)) = W0 at *
  have HW0 : Hid (w.heap.size + 2 < W0.heap.size) := Lib.hid (Array.getElem?_eq_some_iff.1 HA2.out).1
  go_loopw [23] (fun y wr => (y = .int .i64 0 ∨ (y = .int .i64 1 ∧ Hid (s.checkE = 0)) ∨ (y = .int .i64 2 ∧ Hid (s.checkE = 0) ∧ Hid (t.checkE = 0))) ∧ Hid (Below W0.heap.size W0 wr)) (fun y _ => 2 - (intOf y).toNat)
  case atStart => exact ⟨.inl rfl, Lib.hid (Below.refl _ _)⟩
  case round =>
    obtain ⟨hy, HB⟩ := hrel
    have hblk : wr.heap[w.heap.size + 2]? = _ := (HB.out.block _ HW0.out).trans HA2.out
    have q0 : wr.cell? ⟨w.heap.size + 2, 0, none⟩ = some (.int .i64 s.var) := by simp [World.cell?, hblk]
    have q1 : wr.cell? ⟨w.heap.size + 2, 1, none⟩ = some (.string s.name) := by simp [World.cell?, hblk]
    have q2 : wr.cell? ⟨w.heap.size + 2, 2, none⟩ = some (.slice a1 s.args.length c1) := by simp [World.cell?, hblk]
    have q3 : wr.cell? ⟨w.heap.size + 2, 3, none⟩ = some (.int .i64 t.var) := by simp [World.cell?, hblk]
    have q4 : wr.cell? ⟨w.heap.size + 2, 4, none⟩ = some (.string t.name) := by simp [World.cell?, hblk]
    have q5 : wr.cell? ⟨w.heap.size + 2, 5, none⟩ = some (.slice a2 t.args.length c2) := by simp [World.cell?, hblk]
    have HBW : Hid (Below w.heap.size w wr) := Lib.hid (HB0.out.trans (HB.out.mono HB0.out.size))
    clear hblk
    rcases hy with rfl | ⟨rfl, HZ1⟩ | ⟨rfl, HZ1, HZ2⟩
    · have HCK := Lib.hid (CheckW s (wr.alloc (.cells #[.int .i64 s.var, .string s.name, .slice a1 s.args.length c1] 24)) ok a1 c1 HS.out ((H1.out.keep (Keeps.below HBW.out ok)).keep (Keeps.below ((Below.refl _ _).alloc (Nat.le_refl _) _) ok)))
      by_cases hz : s.checkE = 0
      · have HZ := Lib.hid hz
        have hz' : ((s.checkE : Int) != 0) = false := by rw [hz]; rfl
        clear hz
        go_wp2_with (go_at_call 17; refine HCK.out.mono ?_; rintro e w1 ⟨rfl, hb1⟩)
        go_roundw
        case measure => simp [intOf]
        case rel => exact ⟨.inr (.inl ⟨rfl, HZ⟩), Lib.hid (HB.out.trans ((((Below.refl wr.heap.size wr).alloc (Nat.le_refl _) _).trans (hb1.mono (by simp))).mono HB.out.size))⟩
      · have hz' : ((s.checkE : Int) != 0) = true := bne0 hz
        have HO : Hid (uA s t = .err s.checkE) := Lib.hid (by unfold uA; rw [if_pos hz])
        clear hz
        go_wp2_with (go_at_call 17; refine HCK.out.mono ?_; rintro e w1 ⟨rfl, hb1⟩)
        rw [HO.out]
        exact bodyPost_ret (v := .tuple #[.slice none 0 0, .bool false, .int .i64 0, .int .i64 s.checkE]) (by simp [results, Try.results22, go_sem]) rfl ⟨HBW.out.trans ((((Below.refl wr.heap.size wr).alloc (Nat.le_refl _) _).trans (hb1.mono (by simp))).mono HBW.out.size), rfl⟩
    · have HCK := Lib.hid (CheckW t (wr.alloc (.cells #[.int .i64 t.var, .string t.name, .slice a2 t.args.length c2] 24)) ok a2 c2 HT.out ((H2.out.keep (Keeps.below HBW.out ok)).keep (Keeps.below ((Below.refl _ _).alloc (Nat.le_refl _) _) ok)))
      by_cases hz : t.checkE = 0
      · have HZ := Lib.hid hz
        have hz' : ((t.checkE : Int) != 0) = false := by rw [hz]; rfl
        clear hz
        go_wp2_with (go_at_call 17; refine HCK.out.mono ?_; rintro e w1 ⟨rfl, hb1⟩)
        go_roundw
        case measure => simp [intOf]
        case rel => exact ⟨.inr (.inr ⟨rfl, HZ1, HZ⟩), Lib.hid (HB.out.trans ((((Below.refl wr.heap.size wr).alloc (Nat.le_refl _) _).trans (hb1.mono (by simp))).mono HB.out.size))⟩
      · have hz' : ((t.checkE : Int) != 0) = true := bne0 hz
        have HO : Hid (uA s t = .err t.checkE) := Lib.hid (by unfold uA; rw [if_neg (fun h => h HZ1.out), if_pos hz])
        clear hz
        go_wp2_with (go_at_call 17; refine HCK.out.mono ?_; rintro e w1 ⟨rfl, hb1⟩)
        rw [HO.out]
        exact bodyPost_ret (v := .tuple #[.slice none 0 0, .bool false, .int .i64 0, .int .i64 t.checkE]) (by simp [results, Try.results22, go_sem]) rfl ⟨HBW.out.trans ((((Below.refl wr.heap.size wr).alloc (Nat.le_refl _) _).trans (hb1.mono (by simp))).mono HBW.out.size), rfl⟩
    · clear q0 q1 q2 q3 q4 q5
      have HF1 := Lib.hid (check_fit HZ1.out); have HF2 := Lib.hid (check_fit HZ2.out)
      have HO : Hid (uA s t = uOutA (uP s t)) := Lib.hid (by unfold uA; rw [if_neg (fun h => h HZ1.out), if_neg (fun h => h HZ2.out)])
      have HNEW := Lib.hid (NewW wr ok (fun b hb => by have := HOK.out b hb; have := HBW.out.size; omega))
      go_wp2_with fail
      refine HNEW.out.mono ?_
      rintro e w1 ⟨rfl, hst1, hb1⟩
      have HB1 : Hid (Below W0.heap.size W0 w1) := Lib.hid (HB.out.trans (hb1.mono HB.out.size))
      have HBW1 : Hid (Below w.heap.size w w1) := Lib.hid (HB0.out.trans (HB1.out.mono HB0.out.size))
      have X0 := HA0.out.keep (HB1.out.block _ HA0.out.lt); have X1 := HA1.out.keep (HB1.out.block _ HA1.out.lt)
      have x0 := X0.c0; have x1 := X0.c1; have x2 := X0.c2
      have y0 := X1.c0; have y1 := X1.c1; have y2 := X1.c2
      have HSM := Lib.hid (SameW (ok := ok) (bs := wr.heap.size + 1) (bm := wr.heap.size) 4000 (fun _ => none) [] (.slice none 0 0) s t a1 a2 c1 c2 w1 (Nat.le_refl _) hst1 SInv.none (by simp) HS.out HT.out (H1.out.keep (Keeps.below HBW1.out ok)) (H2.out.keep (Keeps.below HBW1.out ok)) HF1.out.wf HF2.out.wf)
      have HSZ : Hid (w.heap.size ≤ wr.heap.size) := Lib.hid HBW.out.size
      clear hst1 hb1 X0 X1
      go_wp2_with fail
      refine HSM.out.mono ?_
      have HU : Hid (uP s t = match meet (fun _ => none) [] 4000 [(s, t)] with
        | .no _ _ f => .no (4000 - f)
        | .many _ _ => .many
        | .ok σ _ f => match outs σ 12 with | none => .many | some l => .ok l (4000 - f)) := Lib.hid (by unfold uP; rfl)
      generalize meet (fun _ => none) [] 4000 [(s, t)] = o at *
      rintro e w2 ⟨ht2, tv, hfr, hm⟩
      have HB2 : Hid (Below w.heap.size w w2) := Lib.hid (HBW1.out.trans (ht2.toBelow HBW1.out.size (fun b hb => by
        have := HSZ.out
        rcases hb with e | e | e
        · omega
        · omega
        · simp [Value.ownBlock] at e)))
      clear ht2 hfr x0 x1 x2 y0 y1 y2
      cases o with
      | many σ L =>
        obtain ⟨rfl, -, -⟩ := hm
        go_wp2_with fail
        rw [HO.out, HU.out]
        exact bodyPost_ret (v := .tuple #[.slice none 0 0, .bool false, .int .i64 0, .int .i64 2]) (by simp [results, Try.results22, go_sem]) rfl ⟨HB2.out, rfl⟩
      | no σ L f =>
        obtain ⟨rfl, hst, -⟩ := hm
        have HST := Lib.hid hst
        obtain ⟨-, -, z2, -⟩ := hst.cells
        clear hst
        have DQ := below_drewN w2
        go_wp2_with fail
        go_quiet (fail)
        rename_i nq
        have hB := DQ nq
        generalize w2.drewN nq = X at *
        go_wp2_with fail
        rw [HO.out, HU.out]
        exact bodyPost_ret (v := .tuple #[.slice none 0 0, .bool false, .int .i64 (4000 - f : Nat), .int .i64 0]) (by simp [results, Try.results22, go_sem]) rfl ⟨HB2.out.trans (hB.mono HB2.out.size), rfl⟩
      | ok σ L f =>
        obtain ⟨rfl, hst, hinv⟩ := hm
        have HST := Lib.hid hst; have HINV := Lib.hid hinv
        have HU' : Hid (uP s t = match outs σ 12 with | none => .many | some l => .ok l (4000 - f)) := Lib.hid HU.out
        have HOK2 : Hid (∀ b, ok b → b < w2.heap.size) := Lib.hid fun b hb => (hst.okb b hb).1
        clear hst hinv HU
        obtain ⟨i0, hi0, hz0', hz1', hz2'⟩ := info_parts Try.infoTm
        generalize wr.heap.size = bm0 at *
        go_wp2_with fail
        go_loopw [14, 15] (fun y14 y15 wr => ∃ (n : Nat) (L : List TmAt), n ≤ 12 ∧ y15 = .int .i64 ((n : Int) + 1) ∧ Hid (outs σ n = some (L.map (·.1))) ∧ Hid (L.length = n) ∧ OwnTs wr w2.heap.size (OkN ok w2) y14 L ∧ Below w2.heap.size w2 wr) (fun _ y15 _ => 13 - (intOf y15).toNat)
        case atStart => exact ⟨0, [], by omega, rfl, Lib.hid rfl, Lib.hid rfl, OwnTs.nil _ _ _, Below.refl _ _⟩
        case round =>
          obtain ⟨n, L2, hn, rfl, HOU, HLN, hown, hbel⟩ := hrel
          have HOWN := Lib.hid hown; have HBEL := Lib.hid hbel
          have HSR := Lib.hid (HST.out.keep hbel)
          obtain ⟨xa, xc, rfl⟩ := hown.form
          clear hown hbel
          by_cases hlt : n < 12
          · have hlt' : (n : Int) + 1 ≤ 12 := by omega
            have BX : Below wr.heap.size wr (wr.alloc (.cells #[.int .i64 200] 3)) := (Below.refl _ _).alloc (Nat.le_refl _) _
            have HBX := Lib.hid BX
            have HCL : Hid (Calls Try.prog 67 #[.pointer (some ⟨bm0 + 1, 0, none⟩), .agg #[.int .i64 ((n : Int) + 1), .string ⟨#[]⟩, .slice none 0 0], .pointer (some ⟨wr.heap.size, 0, none⟩), .func (.func 68) #[] #[]] (wr.alloc (.cells #[.int .i64 200] 3))
                (ThrPost (wr.alloc (.cells #[.int .i64 200] 3)) ok wr.heap.size (fun _ => False) (S := Unit) (fun _ v => (v, ())) (fun _ _ => True) () (thrL σ 200 [VarT ((n : Int) + 1)]))) := Lib.hid
              (ThroughW (m := 200) names_id (fun _ _ _ _ _ _ => trivial) HINV.out.rank.ends () (VarT ((n : Int) + 1)) none 0 _ (by omega) (HSR.out.keep BX) trivial (heap_alloc_new wr _) ⟨HSR.out.notM (Nat.le_refl _), fun h => by have := (HSR.out.okb _ h).1; omega⟩ (fun b h => h.elim) ⟨(by show I64 ((n : Int) + 1); unfold I64; omega), Nat.zero_le _⟩ (Ts.empty' _ _))
            have HID := Lib.hid (ren_id (σ := σ) 200 [VarT ((n : Int) + 1)])
            have HNX : Hid (outs σ (n + 1) = (thrL σ 200 [VarT ((n : Int) + 1)]).map fun x => L2.map (·.1) ++ x.1) := Lib.hid (by simp only [outs]; rw [HOU.out]; rfl)
            generalize thrL σ 200 [VarT ((n : Int) + 1)] = o at *
            cases o with
            | none =>
              have HN12 : Hid (outs σ 12 = none) := Lib.hid (outs_le (n + 1) 12 (by omega) (by rw [HNX.out]; rfl))
              clear HNX HID BX
              go_wp2_with (go_at_call 67; refine HCL.out.mono ?_; rintro e w3 ⟨ht3, rfl, -⟩; have HT3 := Lib.hid ht3; clear ht3)
              rw [HO.out, HU'.out, HN12.out]
              have hb3 : Below wr.heap.size wr w3 := HBX.out.trans (HT3.out.toBelow HBX.out.size (fun b hb => hb.elim (fun e => by omega) (fun e => e.elim)))
              have hb4 : Below w.heap.size w w3 := HB2.out.trans ((HBEL.out.trans (hb3.mono HBEL.out.size)).mono HB2.out.size)
              exact bodyPost_ret (v := .tuple #[.slice none 0 0, .bool false, .int .i64 0, .int .i64 2]) (by simp [results, Try.results22, go_sem]) rfl ⟨hb4.alloc (by have := hb4.size; omega) _, rfl⟩
            | some x =>
              have HX1 := Lib.hid (HID.out x rfl)
              clear HID BX
              go_wp2_with (first
                | (go_at_call 67; refine HCL.out.mono ?_; rintro e w3 ⟨ht3, T, a3, c3, hTT, rfl, hf3, hts3, -, -⟩; have hb3 : Below wr.heap.size wr w3 := HBX.out.trans (ht3.toBelow HBX.out.size (fun b hb => hb.elim (fun e => by omega) (fun e => e.elim))); have HB3 := Lib.hid hb3; have HTT := Lib.hid hTT; have HF3 := Lib.hid hf3; have HTS3 := Lib.hid hts3; have HO1 := Lib.hid (((HOWN.out.below hb3).own.alloc (.cells #[.int .i64 T.var, .string T.name, .slice a3 T.args.length c3] 24)).alloc (.cells #[.int .i64 T.var, .string T.name, .slice a3 T.args.length c3] 24)); clear ht3 hTT hf3 hts3 hb3)
                | (at_builtin; have _g := HO1; refine wpList_append_opt _ rfl _ _ 22 rfl w2.heap.size 24 i0 _ 3 48 Try.underlying22 hi0 hz0' hz1' hz2' rfl (by decide) _ _ _ rfl HO1.out (some ⟨w3.heap.size + 1, 0, none⟩) 1 1 ?d0 (flat [(T, a3, c3)]) rfl (by rw [flat_length]; rfl) ?d1 (flat_one _) ?d2 ?d3 ?d4 ?_))
              · intro h; cases h
              · exact news3 _ T a3 c3 (by simp)
              · have := HLN.out; unfold maxLen; omega
              · have := HLN.out; omega
              · have := HBEL.out.size; have := HB3.out.size; simp only [aSz]; omega
              · intro v4 w4 hown4 hgrow4 hfr4
                have BX4 : Below w3.heap.size w3 ((w3.alloc (.cells #[.int .i64 T.var, .string T.name, .slice a3 T.args.length c3] 24)).alloc (.cells #[.int .i64 T.var, .string T.name, .slice a3 T.args.length c3] 24)) := ((Below.refl _ _).alloc (Nat.le_refl _) _).alloc (by simp only [aSz]; omega) _
                have HNXT := Lib.hid (HOWN.out.more HBEL.out HOK2.out (HBX.out.size) HB3.out HF3.out HTS3.out BX4 hown4 hgrow4 hfr4)
                clear hown4 hgrow4 hfr4 BX4
                go_wp2_with fail
                go_roundw
                case measure => simp [intOf]; omega
                case rel =>
                  exact ⟨n + 1, L2 ++ [(T, a3, c3)], by omega, by go_num, Lib.hid (by
                    have h1 := HX1.out
                    rw [HTT.out] at h1
                    rw [HNX.out, List.map_append]; simp only [Option.map_some]; rw [← h1]; rfl), Lib.hid (by rw [List.length_append, HLN.out]; rfl), HNXT.out⟩
          · have hn12 : n = 12 := by omega
            have hge : ¬ ((n : Int) + 1 ≤ 12) := by omega
            obtain ⟨-, -, z2, -⟩ := HSR.out.cells
            have DQ := below_drewN wr
            have HN12 : Hid (outs σ 12 = some (L2.map (·.1))) := Lib.hid (by rw [← hn12]; exact HOU.out)
            clear hn12
            go_wp2_with fail
            go_quiet (fail)
            rename_i nq
            have hB := DQ nq
            generalize wr.drewN nq = X at *
            go_wp2_with fail
            rw [HO.out, HU'.out, HN12.out]
            obtain ⟨a9, c9, he, ht9⟩ := (HOWN.out.below hB).ret (w := w) HB2.out.size
            injection he with he1 he2 he3
            subst he1; subst he3
            exact bodyPost_ret (v := .tuple #[.slice xa L2.length xc, .bool true, .int .i64 (4000 - f : Nat), .int .i64 0]) (by simp [results, Try.results22, go_sem]) rfl
              ⟨HB2.out.trans ((HBEL.out.trans (hB.mono HBEL.out.size)).mono HB2.out.size), xa, xc, by rw [List.length_map], ht9⟩

end Go.Proofs.Ytikmgiapjigghaa

/- Walk: the reference's UnifyOf. -/
namespace Go.Proofs.Ytikmgiapjigghaa
open Go.RowKit

theorem thrL_size {σ : Sub} : ∀ (m : Nat) (l : List Tm) (x : List Tm × Nat), thrL σ m l = some x → Tm.sizes x.1 + x.2 ≤ m := by
  intro m
  induction m using Nat.strongRecOn with
  | _ m ih =>
  intro l x h
  cases l with
  | nil => rw [thrL_nil] at h; cases h; simp [Tm.sizes]
  | cons t r =>
    cases m with
    | zero => rw [thrL_zero] at h; cases h
    | succ m =>
      by_cases hv : (look σ t).var = 0
      · rw [thrL_fn hv] at h
        obtain ⟨y, hy, h2⟩ := Option.bind_eq_some_iff.1 h
        obtain ⟨z, hz, rfl⟩ := Option.map_eq_some_iff.1 h2
        have h3 := (thrL_le _ _ _ hy).1
        have e1 := ih m (by omega) _ y hy
        have e2 := ih y.2 (by omega) _ z hz
        simp only [Tm.sizes, Tm.size]; omega
      · rw [thrL_var hv] at h
        obtain ⟨z, hz, rfl⟩ := Option.map_eq_some_iff.1 h
        have e2 := ih m (by omega) _ z hz
        simp only [Tm.sizes, Tm.size]; omega

theorem Tm.partss_of {l : List Tm} {p : Tm} (h : p ∈ Tm.partss l) : ∃ t, t ∈ l ∧ p ∈ t.parts := by
  induction l with
  | nil => cases h
  | cons t l ih =>
    rw [Tm.partss, List.mem_append] at h
    rcases h with h | h
    · exact ⟨t, List.mem_cons_self, h⟩
    · obtain ⟨u, hu, hp⟩ := ih h
      exact ⟨u, List.mem_cons_of_mem _ hu, hp⟩

theorem Fit.fn {n : Nat} {nm : ByteArray} {l : List Tm} (h0 : 0 < n) (hl : l.length ≤ 100000) (h : ∀ t, t ∈ l → Fit n t) : Fit n (.mk 0 nm l) := by
  refine ⟨fun p hp => ?_, fun p hp => ?_⟩
  · rw [Tm.parts] at hp
    rcases List.mem_cons.1 hp with rfl | hp
    · exact ⟨Int.le_refl _, fun e => absurd rfl e⟩
    · obtain ⟨t, ht, hp⟩ := Tm.partss_of hp
      exact (h t ht).wf p hp
  · rw [Tm.parts] at hp
    rcases List.mem_cons.1 hp with rfl | hp
    · exact ⟨h0, hl⟩
    · obtain ⟨t, ht, hp⟩ := Tm.partss_of hp
      exact (h t ht).bd p hp

theorem thrL_fit {σ : Sub} {n : Nat} (hE : Ends σ) (hd : ∀ v u, σ v = some u → Fit n u) : ∀ (m : Nat) (l : List Tm) (x : List Tm × Nat), (∀ t, t ∈ l → Fit n t) → thrL σ m l = some x → ∀ T, T ∈ x.1 → Fit n T := by
  intro m
  induction m using Nat.strongRecOn with
  | _ m ih =>
  intro l x hl h T hT
  cases l with
  | nil => rw [thrL_nil] at h; cases h; cases hT
  | cons t r =>
    have hft := fit_look hE hd (hl t List.mem_cons_self)
    cases m with
    | zero => rw [thrL_zero] at h; cases h
    | succ m =>
      by_cases hv : (look σ t).var = 0
      · rw [thrL_fn hv] at h
        obtain ⟨y, hy, h2⟩ := Option.bind_eq_some_iff.1 h
        obtain ⟨z, hz, rfl⟩ := Option.map_eq_some_iff.1 h2
        have h3 := thrL_le _ _ _ hy
        rcases List.mem_cons.1 hT with rfl | hT
        · refine Fit.fn (by have := hft.pos.2; omega) (by rw [h3.2]; exact hft.len) (fun u hu => ih m (by omega) _ y (fun a ha => hft.arg ha) hy u hu)
        · exact ih y.2 (by omega) _ z (fun a ha => hl a (List.mem_cons_of_mem _ ha)) hz T hT
      · rw [thrL_var hv] at h
        obtain ⟨z, hz, rfl⟩ := Option.map_eq_some_iff.1 h
        rcases List.mem_cons.1 hT with rfl | hT
        · exact fit_var hft.pos.1 hft.pos.2
        · exact ih m (by omega) _ z (fun a ha => hl a (List.mem_cons_of_mem _ ha)) hz T hT

theorem mapv_congr {g g' : Int → Int} (t : Tm) : (∀ p, p ∈ t.parts → p.var ≠ 0 → g p.var = g' p.var) → t.mapv g = t.mapv g' := by
  induction t using Tm.ind with
  | h v n l ih =>
    intro h
    by_cases hv : v = 0
    · subst hv
      rw [Tm.mapv_fn (t := .mk 0 n l) rfl, Tm.mapv_fn (t := .mk 0 n l) rfl]
      congr 1
      exact List.map_congr_left fun x hx => ih x hx fun p hp => h p (Tm.parts_arg (t := .mk 0 n l) hx hp)
    · rw [Tm.mapv_var (t := .mk v n l) hv, Tm.mapv_var (t := .mk v n l) hv]
      have := h _ (Tm.self_mem _) hv
      rw [this]

theorem namesR_range (τ : Sub) (x : Int) : ∀ n : Nat, n ≤ 12 → 0 ≤ namesR τ n x ∧ namesR τ n x ≤ 12 := by
  intro n
  induction n with
  | zero => intro _; simp only [namesR]; omega
  | succ n ih =>
    intro hn
    simp only [namesR]
    split
    · omega
    · exact ih (by omega)

theorem fresh_sub : subB ((fresh 0 13).map (·.1)) = fun _ => none := by
  funext v
  by_cases h : 0 ≤ v ∧ v.toNat < 13
  · refine subB_none h.1 (by simp [fresh]; omega) ?_
    simp [fresh, Tm.var]; omega
  · unfold subB
    rw [dif_neg]
    simp [fresh]; omega

theorem fresh_FB : FB ((fresh 0 13).map (·.1)) := by
  refine ⟨by rw [fresh_sub]; exact SInv.none, fun t ht => ?_⟩
  obtain ⟨x, hx, rfl⟩ := List.mem_map.1 ht
  unfold fresh at hx
  obtain ⟨i, hi, rfl⟩ := List.mem_map.1 hx
  rw [List.mem_range] at hi
  have : ((fresh 0 13).map (·.1)).length = 13 := by simp [fresh]
  rw [this]
  exact fit_var (by omega) (by omega)

/-- A block of numbers. -/
structure IntsAt (w : World) (b : Nat) (l : List Int) : Prop where
  blk : w.heap[b]? = some (.cells (l.map fun v => Value.int .i64 v).toArray 3 (0, 0))

theorem IntsAt.get {w : World} {b : Nat} {l : List Int} (h : IntsAt w b l) (i : Nat) (hi : i < l.length) : w.cell? ⟨b, i, none⟩ = some (.int .i64 l[i]) := by
  simp [World.cell?, h.blk, hi]
theorem IntsAt.fz {w : World} {b : Nat} {l : List Int} (h : IntsAt w b l) (o : Nat) : w.frozen? ⟨b, o, none⟩ = false := by simp [World.frozen?, h.blk]
theorem IntsAt.lt {w : World} {b : Nat} {l : List Int} (h : IntsAt w b l) : b < w.heap.size := (Array.getElem?_eq_some_iff.1 h.blk).1
theorem IntsAt.keep {w w' : World} {b : Nat} {l : List Int} (h : IntsAt w b l) (hb : w'.heap[b]? = w.heap[b]?) : IntsAt w' b l := ⟨hb.trans h.blk⟩
theorem IntsAt.below {w w' : World} {b : Nat} {l : List Int} (h : IntsAt w b l) (hb : Below w.heap.size w w') : IntsAt w' b l := h.keep (hb.block b h.lt)
theorem IntsAt.set {w : World} {b : Nat} {l : List Int} (h : IntsAt w b l) (i : Nat) (v : Int) : IntsAt (w.setCell ⟨b, i, none⟩ (.int .i64 v)) b (l.set i v) := by
  refine ⟨?_⟩
  rw [heap_setCell_at _ _ _ _ h.blk, List.map_set]
  simp

theorem names_set (τ : Sub) (n : Nat) (x : Int) (hx : x = (look τ (VarT (12 - (n : Int)))).var) (h0 : x ≠ 0) (h1 : 0 ≤ x) (h2 : x.toNat < 13) : ((List.range 13).map fun i : Nat => namesR τ n i).set x.toNat (12 - (n : Int)) = (List.range 13).map fun i : Nat => namesR τ (n + 1) i := by
  refine List.ext_getElem (by simp) fun i hi hj => ?_
  rw [List.getElem_set]
  simp only [List.getElem_map, List.getElem_range, namesR]
  by_cases e : x.toNat = i
  · rw [if_pos e, if_pos ⟨by rw [← hx]; exact h0, by rw [← hx]; omega⟩]
  · rw [if_neg e, if_neg (fun h => e (by rw [← hx] at h; have := h.2; omega))]

theorem names_skip (τ : Sub) (n : Nat) (hx : (look τ (VarT (12 - (n : Int)))).var = 0) : ((List.range 13).map fun i : Nat => namesR τ n i) = (List.range 13).map fun i : Nat => namesR τ (n + 1) i := by
  refine List.map_congr_left fun i _ => ?_
  simp only [namesR]
  rw [if_neg (fun h => h.1 hx)]

set_option maxRecDepth 100000 in
set_option maxHeartbeats 4000000 in
theorem UnifyOfW {w : World} {ok : Nat → Prop} (hok : ∀ b, ok b → b < w.heap.size) {s t : Tm} {a1 a2 : Option Addr} {c1 c2 : Nat} (hs : s.fits) (ht : t.fits) (h1 : Ts w ok s.args a1 c1) (h2 : Ts w ok t.args a2 c2) (hf1 : Fit 13 s) (hf2 : Fit 13 t) :
    Calls Try.prog 23 #[.agg #[.int .i64 s.var, .string s.name, .slice a1 s.args.length c1], .agg #[.int .i64 t.var, .string t.name, .slice a2 t.args.length c2]] w (UPost w ok (uOutA (uR s t))) := by
  have HOK := Lib.hid hok; have HS := Lib.hid hs; have HT := Lib.hid ht; have H1 := Lib.hid h1; have H2 := Lib.hid h2; have HF1 := Lib.hid hf1; have HF2 := Lib.hid hf2
  clear hok hs ht h1 h2 hf1 hf2
  have hA0 : Box3 ((w.alloc (.cells #[.int .i64 s.var, .string s.name, .slice a1 s.args.length c1] 24)).alloc (.cells #[.int .i64 t.var, .string t.name, .slice a2 t.args.length c2] 24)) w.heap.size (.int .i64 s.var) (.string s.name) (.slice a1 s.args.length c1) := (Box3.made w _ _ _).alloc _
  have hA1 : Box3 ((w.alloc (.cells #[.int .i64 s.var, .string s.name, .slice a1 s.args.length c1] 24)).alloc (.cells #[.int .i64 t.var, .string t.name, .slice a2 t.args.length c2] 24)) (w.heap.size + 1) (.int .i64 t.var) (.string t.name) (.slice a2 t.args.length c2) := Box3.made2 (by simp)
  have hB0 : Below w.heap.size w ((w.alloc (.cells #[.int .i64 s.var, .string s.name, .slice a1 s.args.length c1] 24)).alloc (.cells #[.int .i64 t.var, .string t.name, .slice a2 t.args.length c2] 24)) := ((Below.refl _ _).alloc (Nat.le_refl _) _).alloc (by simp) _
  have HA0 := Lib.hid hA0; have HA1 := Lib.hid hA1; have HB0 := Lib.hid hB0
  clear hA0 hA1 hB0
  go_enter Try.func23, Try.ntmps23
  go_wp2_with fail
  generalize ((w.alloc (.cells #[.int .i64 s.var, .string s.name, .slice a1 s.args.length c1] 24)).alloc (.cells #[.int .i64 t.var, .string t.name, .slice a2 t.args.length c2] 24)) = W0 at *
  refine (BeginW W0 ok (fun b hb => by have := HOK.out b hb; have := HB0.out.size; omega)).mono ?_
  rintro e w1 ⟨g, cap, rfl, hgle, hrow, heach, hb1⟩
  have HB1 : Hid (Below w.heap.size w w1) := Lib.hid (HB0.out.trans (hb1.mono HB0.out.size))
  have BS : Below w1.heap.size w1 (w1.alloc (.cells #[.slice (some ⟨g, 0, none⟩) 13 cap, .int .i64 0] 108)) := (Below.refl _ _).alloc (Nat.le_refl _) _
  have HW2 : Hid (Below w.heap.size w (w1.alloc (.cells #[.slice (some ⟨g, 0, none⟩) 13 cap, .int .i64 0] 108))) := Lib.hid (HB1.out.trans (BS.mono HB1.out.size))
  have hX0 := (HA0.out.below hb1).below BS; have hX1 := (HA1.out.below hb1).below BS
  have hgl : g < w1.heap.size := (hrow.lt g rfl).2
  have HR : Hid (RAt (w1.alloc (.cells #[.slice (some ⟨g, 0, none⟩) 13 cap, .int .i64 0] 108)) ok w1.heap.size g cap (fresh 0 13) (4000 - 4000)) := Lib.hid
    ⟨heap_alloc_new w1 _, ownsRow_below hrow BS, heach.keep (Keeps.below BS ok), by omega, fun b hb => by
      have := HOK.out b hb; have := HB1.out.size; have := HW2.out.size; have := HB0.out.size
      exact ⟨by omega, by omega, by omega⟩⟩
  have HG : Hid (w.heap.size ≤ g ∧ w.heap.size ≤ w1.heap.size) := Lib.hid ⟨by have := HB0.out.size; omega, HB1.out.size⟩
  have x0 := hX0.c0; have x1 := hX0.c1; have x2 := hX0.c2
  have y0 := hX1.c0; have y1 := hX1.c1; have y2 := hX1.c2
  have HM := Lib.hid (MeetW (B0 := fresh 0 13) (f := 4000) (Nat.le_refl _) HR.out fresh_FB HS.out HT.out (H1.out.keep (Keeps.below HW2.out ok)) (H2.out.keep (Keeps.below HW2.out ok)) (by rw [fresh_length]; exact HF1.out) (by rw [fresh_length]; exact HF2.out))
  clear hb1 BS hX0 hX1 hrow heach
  go_wp2_with fail
  refine HM.out.mono ?_
  have HU : Hid (uR s t = match meetR (fun _ => none) 4000 [(s, t)] with
    | .no _ _ f => .no (4000 - f)
    | .many _ _ => .many
    | .ok τ _ f => match outs τ 12 with | none => .many | some l => .ok (l.map (Tm.mapv (namesR τ 12))) (4000 - f)) := Lib.hid (by unfold uR; rfl)
  rw [fresh_sub]
  generalize meetR (fun _ => none) 4000 [(s, t)] = o at *
  rintro e w2 ⟨ht2, B, hBl, hFB, hm⟩
  have HB2 : Hid (Below w.heap.size w w2) := Lib.hid (HW2.out.trans (ht2.toBelow HW2.out.size (fun b hb => by
    have := HG.out
    rcases hb with e | e <;> omega)))
  clear ht2 x0 x1 x2 y0 y1 y2
  rw [fresh_length] at hBl
  have HBL := Lib.hid hBl; have HFB := Lib.hid hFB
  clear hFB hBl
  generalize w1.heap.size = rs at *
  cases o with
  | many σ L =>
    obtain ⟨rfl, -, -⟩ := hm
    go_wp2_with fail
    rw [HU.out]
    exact bodyPost_ret (v := .tuple #[.slice none 0 0, .bool false, .int .i64 0, .int .i64 2]) (by simp [results, Try.results23, go_sem]) rfl ⟨HB2.out, rfl⟩
  | no σ L f =>
    obtain ⟨rfl, hr, -⟩ := hm
    obtain ⟨-, z1, -, -⟩ := hr.cells
    clear hr
    have DQ := below_drewN w2
    go_wp2_with fail
    go_quiet (fail)
    rename_i nq
    have hB := DQ nq
    generalize w2.drewN nq = X at *
    go_wp2_with fail
    rw [HU.out]
    exact bodyPost_ret (v := .tuple #[.slice none 0 0, .bool false, .int .i64 (4000 - f : Nat), .int .i64 0]) (by simp [results, Try.results23, go_sem]) rfl ⟨HB2.out.trans (hB.mono HB2.out.size), rfl⟩
  | ok σ L f =>
    obtain ⟨rfl, hr, rfl⟩ := hm
    have HRR := Lib.hid hr
    clear hr
    have HIB : Hid (∀ i (hi : i < B.length), InB B B[i].1) := Lib.hid (fun i hi => by
      have := (HFB.out.each B[i].1 (List.mem_map.2 ⟨_, List.getElem_mem hi, rfl⟩)).pos
      rw [List.length_map] at this
      exact this)
    have HDM : Hid (∀ v u, subB (B.map (·.1)) v = some u → Fit 13 u) := Lib.hid (fun v u h => by
      have := HFB.out.each u (subB_mem h)
      rwa [List.length_map, HBL.out] at this)
    have HU' : Hid (uR s t = match outs (subB (B.map (·.1))) 12 with | none => .many | some l => .ok (l.map (Tm.mapv (namesR (subB (B.map (·.1))) 12))) (4000 - f)) := Lib.hid HU.out
    have hmk : ∀ w : World, (Instr.makeSlice 44 (.int .i64 13) (.int .i64 13)).run Try.prog w = .ok (.slice (some ⟨w.heap.size, 0, none⟩) 13 13) (w.alloc (.cells ((((List.range 13).map fun i : Nat => namesR (subB (B.map (·.1))) 0 i).map fun v => Value.int .i64 v).toArray) 3)) := fun _ => by kernel_rfl
    have HEN : Hid (Ends (subB (B.map (·.1)))) := Lib.hid HFB.out.inv.rank.ends
    clear HU HM
    go_wp2_with fail
    go_loopw [10] (fun x wr => ∃ n : Nat, n ≤ 12 ∧ x = .int .i64 (12 - (n : Int)) ∧ IntsAt wr w2.heap.size ((List.range 13).map fun i : Nat => namesR (subB (B.map (·.1))) n i) ∧ Below w2.heap.size w2 wr) (fun x _ => (intOf x).toNat)
    case atStart => exact ⟨0, by omega, rfl, ⟨heap_alloc_new w2 _⟩, (Below.refl _ _).alloc (Nat.le_refl _) _⟩
    case round =>
      obtain ⟨n, hn, rfl, hints, hbel⟩ := hrel
      have HINT := Lib.hid hints; have HBEL := Lib.hid hbel
      have HRK := Lib.hid (HRR.out.keep hbel)
      clear hints hbel
      by_cases hlt : n < 12
      · have hge : (1 : Int) ≤ 12 - (n : Int) := by omega
        obtain ⟨n0, hl0⟩ := look_spec HEN.out (VarT (12 - (n : Int)))
        have HLK := Lib.hid (LookAtW HRK.out HIB.out hl0 (a := none) (c := 0) ⟨(by show I64 (12 - (n : Int)); unfold I64; omega), Nat.zero_le _⟩ (Ts.empty' _ _) ⟨by show (0 : Int) ≤ 12 - (n : Int); omega, by rw [HBL.out]; show (12 - (n : Int)).toNat < 13; omega⟩)
        have HFT := Lib.hid (fit_look HEN.out HDM.out (fit_var (n := 13) (v := 12 - (n : Int)) (by omega) (by omega)))
        have HS1 := Lib.hid (names_set (subB (B.map (·.1))) n)
        have HS2 := Lib.hid (names_skip (subB (B.map (·.1))) n)
        clear hl0
        generalize look (subB (B.map (·.1))) (VarT (12 - (n : Int))) = u at *
        by_cases hv : u.var = 0
        · have hv' : (u.var != 0) = false := by rw [hv]; rfl
          have HSK := Lib.hid (HS2.out hv)
          clear hv
          go_wp2_with (go_at_call 71; refine HLK.out.mono ?_; rintro e w3 ⟨a3, c3, rfl, hf3, ht3, hb3⟩; have HB3 := Lib.hid hb3; clear hf3 ht3 hb3)
          go_roundw
          case measure => simp [intOf]; omega
          case rel =>
            have hb4 : Below wr.heap.size wr (w3.alloc (.cells #[.int .i64 u.var, .string u.name, .slice a3 u.args.length c3] 24)) := HB3.out.trans (((Below.refl _ _).alloc (Nat.le_refl _) _).mono HB3.out.size)
            exact ⟨n + 1, by omega, by go_num, by rw [← HSK.out]; exact HINT.out.below hb4, HBEL.out.trans (hb4.mono HBEL.out.size)⟩
        · have hv' : (u.var != 0) = true := by rw [bne_iff_ne]; exact hv
          obtain ⟨k, hk⟩ : ∃ k : Nat, u.var = (k : Int) := ⟨u.var.toNat, by have := HFT.out.pos.1; omega⟩
          have hk13 : k < 13 := by have := HFT.out.pos.2; omega
          have HSK := Lib.hid (HS1.out u.var rfl hv HFT.out.pos.1 HFT.out.pos.2)
          have hu0 : (0 : Int) ≤ u.var := by omega
          have hu1 : u.var < 13 := by omega
          have hin : u.var.toNat = k := by omega
          clear hv hk
          go_wp2_with (go_at_call 71; refine HLK.out.mono ?_; rintro e w3 ⟨a3, c3, rfl, hf3, ht3, hb3⟩; have HB3 := Lib.hid hb3; have hi4 := (HINT.out.below hb3).below ((Below.refl w3.heap.size w3).alloc (Nat.le_refl _) (.cells #[.int .i64 u.var, .string u.name, .slice a3 u.args.length c3] 24)); have HI4 := Lib.hid hi4; have hc4 := hi4.get k (by simp; omega); have hf4 := hi4.fz; clear hf3 ht3 hb3 hi4)
          go_roundw
          case measure => simp [intOf]; omega
          case rel =>
            rw [hin] at HSK
            have hb4 : Below wr.heap.size wr (w3.alloc (.cells #[.int .i64 u.var, .string u.name, .slice a3 u.args.length c3] 24)) := HB3.out.trans (((Below.refl _ _).alloc (Nat.le_refl _) _).mono HB3.out.size)
            have hi5 := HI4.out.set k (12 - (n : Int))
            rw [HSK.out] at hi5
            exact ⟨n + 1, by omega, by go_num, hi5, (HBEL.out.trans (hb4.mono HBEL.out.size)).setCell (Nat.le_refl _) _⟩
      · have hn12 : n = 12 := by omega
        subst hn12
        have hge : ¬ ((1 : Int) ≤ 12 - ((12 : Nat) : Int)) := by omega
        obtain ⟨i0, hi0, hz0', hz1', hz2'⟩ := info_parts Try.infoTm
        have HOKR : Hid (∀ b, ok b → b < wr.heap.size) := Lib.hid fun b hb => (HRK.out.okb b hb).1
        have HBR : Hid (Below w.heap.size w wr) := Lib.hid (HB2.out.trans (HBEL.out.mono HB2.out.size))
        generalize hτ : subB (B.map (·.1)) = τ at *
        generalize w2.heap.size = nb at *
        generalize wr = wq at *
        clear HBEL HRR HB2 hmk
        go_wp2_with fail
        go_loopw [12, 13] (fun y12 y13 wv => ∃ (m : Nat) (L : List TmAt) (l : List Tm), m ≤ 12 ∧ y13 = .int .i64 ((m : Int) + 1) ∧ Hid (outs τ m = some l) ∧ Hid (L.map (·.1) = l.map (Tm.mapv (namesR τ 12))) ∧ Hid (L.length = m) ∧ OwnTs wv wq.heap.size (OkN ok wq) y12 L ∧ Below wq.heap.size wq wv) (fun _ y13 _ => 13 - (intOf y13).toNat)
        case atStart => exact ⟨0, [], [], by omega, rfl, Lib.hid rfl, Lib.hid rfl, Lib.hid rfl, OwnTs.nil _ _ _, Below.refl _ _⟩
        case round =>
          generalize wr = wv at *
          obtain ⟨m, L2, l, hm, rfl, HOU, HLL, HLN, hown, hbel⟩ := hrel
          have HOWN := Lib.hid hown; have HBEL := Lib.hid hbel
          have HRV := Lib.hid (HRK.out.keep hbel)
          have HIV := Lib.hid (HINT.out.below hbel)
          obtain ⟨xa, xc, rfl⟩ := hown.form
          clear hown hbel
          by_cases hlt : m < 12
          · have hlt' : (m : Int) + 1 ≤ 12 := by omega
            have HCL : Hid (Calls Try.prog 72 #[.pointer (some ⟨rs, 0, none⟩), .agg #[.int .i64 ((m : Int) + 1), .string ⟨#[]⟩, .slice none 0 0], .int .i64 200] wv (FullPost wv ok 200 (thrL τ 200 [VarT ((m : Int) + 1)]))) := Lib.hid (by
              have := FullW HFB.out 200 (VarT ((m : Int) + 1)) none 0 wv (by omega) HRV.out ⟨(by show I64 ((m : Int) + 1); unfold I64; omega), Nat.zero_le _⟩ (Ts.empty' _ _) (by rw [HBL.out]; exact fit_var (by omega) (by omega))
              rw [hτ] at this
              exact this)
            have HNX : Hid (outs τ (m + 1) = (thrL τ 200 [VarT ((m : Int) + 1)]).map fun x => l ++ x.1) := Lib.hid (by simp only [outs]; rw [HOU.out]; rfl)
            have HSZ := Lib.hid (thrL_size (σ := τ) 200 [VarT ((m : Int) + 1)])
            have HFTT := Lib.hid (fun x hx => thrL_fit HEN.out HDM.out 200 [VarT ((m : Int) + 1)] x (fun t ht => by rw [List.mem_singleton] at ht; subst ht; exact fit_var (by omega) (by omega)) hx)
            generalize thrL τ 200 [VarT ((m : Int) + 1)] = o at *
            cases o with
            | none =>
              have HN12 : Hid (outs τ 12 = none) := Lib.hid (outs_le (m + 1) 12 (by omega) (by rw [HNX.out]; rfl))
              clear HNX HSZ HFTT
              go_wp2_with (go_at_call 72; refine HCL.out.mono ?_; rintro e w3 ⟨rfl, hb3⟩; have HB3 := Lib.hid hb3; clear hb3)
              rw [HU'.out, HN12.out]
              have hb4 : Below w.heap.size w w3 := HBR.out.trans ((HBEL.out.trans (HB3.out.mono HBEL.out.size)).mono HBR.out.size)
              exact bodyPost_ret (v := .tuple #[.slice none 0 0, .bool false, .int .i64 0, .int .i64 2]) (by simp [results, Try.results23, go_sem]) rfl ⟨hb4.alloc (by have := hb4.size; omega) _, rfl⟩
            | some x =>
              have HX2 := Lib.hid (HSZ.out x rfl); have HX3 := Lib.hid (HFTT.out x rfl)
              clear HSZ HFTT
              go_wp2_with (first
                | (go_at_call 72; refine HCL.out.mono ?_; rintro e w3 ⟨T, a3, c3, hTT, rfl, hf3, hts3, hb3⟩; have HB3 := Lib.hid hb3; have HTT := Lib.hid hTT; have HF3 := Lib.hid hf3; have HTS3 := Lib.hid hts3; clear hTT hf3 hts3 hb3)
                | (go_at_call 73
                   have HBA : Hid (Below w3.heap.size w3 (w3.alloc (.cells #[.int .i64 T.var, .string T.name, .slice a3 T.args.length c3] 24))) := Lib.hid ((Below.refl _ _).alloc (Nat.le_refl _) _)
                   have HFT : Hid (Fit 13 T) := Lib.hid (HX3.out T (by rw [HTT.out]; exact List.mem_singleton.2 rfl))
                   have HTS4 : Hid (Ts (w3.alloc (.cells #[.int .i64 T.var, .string T.name, .slice a3 T.args.length c3] 24)) (fun b => OkN ok wv b ∧ b < w3.heap.size) T.args a3 c3) := Lib.hid ((HTS3.out.mono fun b hb hk => ⟨hk, hb⟩).keep (Keeps.below HBA.out _))
                   refine (NamedW (N := fun i : Nat => namesR τ 12 i) T _ (fun b => OkN ok wv b ∧ b < w3.heap.size) a3 c3 (fun b hb => by have := hb.2; simp; omega) (by have := HX2.out; rw [HTT.out] at this; simp only [Tm.sizes] at this; omega) HF3.out HTS4.out ⟨fun p hp _ => ⟨(HFT.out.wf p hp).1, (HFT.out.bd p hp).1⟩, fun i hi => ⟨?g0, ?g1⟩⟩).mono ?_
                   rotate_left 2
                   rintro e w5 ⟨a5, c5, rfl, hf5, hts5, hb5⟩
                   have HF5 := Lib.hid hf5; have HB5 := Lib.hid (HB3.out.trans ((HBA.out.trans (hb5.mono (by have := HBA.out.size; omega))).mono HB3.out.size))
                   have HTS5 : Hid (Ts w5 (OkN ok wv) (Tm.mapv (fun x => namesR τ 12 (x.toNat : Int)) T).args a5 c5) := Lib.hid (hts5.mono fun b _ hk => hk.elim (fun h => h.1) (fun h => .inr (by have := HB3.out.size; have := HBA.out.size; omega)))
                   have HMV : Hid (Tm.mapv (fun x => namesR τ 12 (x.toNat : Int)) T = T.mapv (namesR τ 12)) := Lib.hid (mapv_congr T fun p hp _ => by have := (HFT.out.wf p hp).1; congr 1; omega)
                   clear hf5 hts5 hb5 HTS4 HBA
                   generalize Tm.mapv (fun x => namesR τ 12 (x.toNat : Int)) T = U at *
                   have HO1 := Lib.hid ((HOWN.out.below HB5.out).own.alloc (.cells #[.int .i64 U.var, .string U.name, .slice a5 U.args.length c5] 24)))
                | (at_builtin; have _g := HO1; refine wpList_append_opt _ rfl _ _ 22 rfl wq.heap.size 24 i0 _ 3 48 Try.underlying22 hi0 hz0' hz1' hz2' rfl (by decide) _ _ _ rfl HO1.out (some ⟨w5.heap.size, 0, none⟩) 1 1 ?d0 (flat [(U, a5, c5)]) rfl (by rw [flat_length]; rfl) ?d1 (flat_one _) ?d2 ?d3 ?d4 ?_))
              case g0 =>
                have q := ((HIV.out.below HB3.out).below HBA.out).get i (by simpa using hi)
                rw [List.getElem_map, List.getElem_range] at q
                rw [Nat.zero_add]; exact q
              case g1 => have := namesR_range τ (i : Int) 12 (Nat.le_refl _); unfold I64; omega
              case d0 => intro h; cases h
              case d1 => exact news3 _ U a5 c5 rfl
              case d2 => have := HLN.out; unfold maxLen; omega
              case d3 => have := HLN.out; omega
              case d4 => have := HBEL.out.size; have := HB5.out.size; simp only [aSz]; omega
              · intro v4 w4 hown4 hgrow4 hfr4
                have BX4 : Below w5.heap.size w5 (w5.alloc (.cells #[.int .i64 U.var, .string U.name, .slice a5 U.args.length c5] 24)) := (Below.refl _ _).alloc (Nat.le_refl _) _
                have HNXT := Lib.hid (HOWN.out.more HBEL.out HOKR.out (Nat.le_refl _) HB5.out HF5.out HTS5.out BX4 hown4 hgrow4 hfr4)
                clear hown4 hgrow4 hfr4 BX4
                go_wp2_with fail
                go_roundw
                case measure => simp [intOf]; omega
                case rel =>
                  exact ⟨m + 1, L2 ++ [(U, a5, c5)], l ++ [T], by omega, by go_num, Lib.hid (by rw [HNX.out]; simp only [Option.map_some]; rw [HTT.out]), Lib.hid (by rw [List.map_append, List.map_append, HLL.out]; simp only [List.map_cons, List.map_nil]; rw [HMV.out]), Lib.hid (by rw [List.length_append, HLN.out]; rfl), HNXT.out⟩
          · have hm12 : m = 12 := by omega
            have hge2 : ¬ ((m : Int) + 1 ≤ 12) := by omega
            obtain ⟨-, z1, -, -⟩ := HRV.out.cells
            have DQ := below_drewN wv
            have HN12 : Hid (outs τ 12 = some l) := Lib.hid (by rw [← hm12]; exact HOU.out)
            clear hm12
            go_wp2_with fail
            go_quiet (fail)
            rename_i nq
            have hB := DQ nq
            generalize wv.drewN nq = X at *
            go_wp2_with fail
            rw [HU'.out, HN12.out]
            obtain ⟨a9, c9, he, ht9⟩ := (HOWN.out.below hB).ret (w := w) HBR.out.size
            injection he with he1 he2 he3
            subst he1; subst he3
            exact bodyPost_ret (v := .tuple #[.slice xa L2.length xc, .bool true, .int .i64 (4000 - f : Nat), .int .i64 0]) (by simp [results, Try.results23, go_sem]) rfl
              ⟨HBR.out.trans ((HBEL.out.trans (hB.mono HBEL.out.size)).mono HBR.out.size), xa, xc, by rw [← HLL.out, List.length_map], by rw [← HLL.out]; exact ht9⟩

end Go.Proofs.Ytikmgiapjigghaa

/- Walk: what the statements on Unify ask first. -/
namespace Go.Proofs.Ytikmgiapjigghaa
open Go.RowKit

theorem ts_lit2 {w : World} {ok : Nat → Prop} (t u : Tm) {a b : Option Addr} {c d : Nat} (ht : Ts w ok t.args a c) (hu : Ts w ok u.args b d) (hf : t.fits) (hg : u.fits) (hok : ok w.heap.size) :
    Ts (w.alloc (.cells #[.int .i64 t.var, .string t.name, .slice a t.args.length c, .int .i64 u.var, .string u.name, .slice b u.args.length d] 24)) ok [t, u] (some ⟨w.heap.size, 0, none⟩) 2 := by
  have hk : Keeps ok w (w.alloc (.cells #[.int .i64 t.var, .string t.name, .slice a t.args.length c, .int .i64 u.var, .string u.name, .slice b u.args.length d] 24)) := Keeps.below ((Below.refl _ _).alloc (Nat.le_refl _) _) ok
  refine .mk [t, u] _ 2 ⟨Nat.le_refl _, by unfold maxLen; omega, fun h => by cases h⟩ (fun i => if i = 0 then (a, c) else (b, d)) (fun i hi => ?_) (fun i hi => ?_)
  · rcases (by simp at hi; omega : i = 0 ∨ i = 1) with rfl | rfl
    · refine ⟨w.heap.size, 0, rfl, hok, by simp, Cells3.mk ?_ ?_ ?_ hf⟩
      all_goals simp [World.cell?, World.alloc, -World.alloc_eq]
    · refine ⟨w.heap.size, 0, rfl, hok, by simp, Cells3.mk ?_ ?_ ?_ hg⟩
      all_goals simp [World.cell?, World.alloc, -World.alloc_eq]
  · rcases (by simp at hi; omega : i = 0 ∨ i = 1) with rfl | rfl
    · exact ht.keep hk
    · exact hu.keep hk

theorem k_tmL : tmL.checkE = 0 := by decide +kernel
theorem k_tmR : tmR.checkE = 0 := by decide +kernel
theorem begun_uA : uA tmL tmR = .ok ((List.range 12).map outB) 5 := by
  unfold uA
  rw [if_neg (fun h => h k_tmL), if_neg (fun h => h k_tmR), begun_uP]
  rfl

/-- Cells of two terms that lie still. -/
structure TwoT (w : World) (b o c r : Nat) (x0 x1 x2 y0 y1 y2 : Value) (w' : World) : Prop where
  below : Below w.heap.size w w'
  a0 : w'.cell? ⟨b, o, none⟩ = some x0
  a1 : w'.cell? ⟨b, o + 1, none⟩ = some x1
  a2 : w'.cell? ⟨b, o + 2, none⟩ = some x2
  b0 : w'.cell? ⟨c, r, none⟩ = some y0
  b1 : w'.cell? ⟨c, r + 1, none⟩ = some y1
  b2 : w'.cell? ⟨c, r + 2, none⟩ = some y2
  lt : b < w.heap.size ∧ c < w.heap.size

theorem TwoT.next {w : World} {b o c r : Nat} {x0 x1 x2 y0 y1 y2 : Value} {w1 w2 : World} (h : TwoT w b o c r x0 x1 x2 y0 y1 y2 w1) (hb : Below w1.heap.size w1 w2) : TwoT w b o c r x0 x1 x2 y0 y1 y2 w2 := by
  have h1 := Nat.lt_of_lt_of_le h.lt.1 h.below.size
  have h2 := Nat.lt_of_lt_of_le h.lt.2 h.below.size
  exact ⟨h.below.trans (hb.mono h.below.size), (hb.cell (p := ⟨b, _, none⟩) h1).trans h.a0, (hb.cell (p := ⟨b, _, none⟩) h1).trans h.a1, (hb.cell (p := ⟨b, _, none⟩) h1).trans h.a2,
    (hb.cell (p := ⟨c, _, none⟩) h2).trans h.b0, (hb.cell (p := ⟨c, _, none⟩) h2).trans h.b1, (hb.cell (p := ⟨c, _, none⟩) h2).trans h.b2, h.lt⟩

theorem TwoT.all {w : World} {b o c r : Nat} {x0 x1 x2 y0 y1 y2 : Value} {w1 : World} (h : TwoT w b o c r x0 x1 x2 y0 y1 y2 w1) :
    w1.cell? ⟨b, o, none⟩ = some x0 ∧ w1.cell? ⟨b, o + 1, none⟩ = some x1 ∧ w1.cell? ⟨b, o + 2, none⟩ = some x2 ∧ w1.cell? ⟨c, r, none⟩ = some y0 ∧ w1.cell? ⟨c, r + 1, none⟩ = some y1 ∧ w1.cell? ⟨c, r + 2, none⟩ = some y2 ∧ TwoT w b o c r x0 x1 x2 y0 y1 y2 w1 :=
  ⟨h.a0, h.a1, h.a2, h.b0, h.b1, h.b2, h⟩

theorem TwoT.of {w : World} {b o c r : Nat} {x0 x1 x2 y0 y1 y2 : Value} {w1 : World} (h : w1.cell? ⟨b, o, none⟩ = some x0 ∧ w1.cell? ⟨b, o + 1, none⟩ = some x1 ∧ w1.cell? ⟨b, o + 2, none⟩ = some x2 ∧ w1.cell? ⟨c, r, none⟩ = some y0 ∧ w1.cell? ⟨c, r + 1, none⟩ = some y1 ∧ w1.cell? ⟨c, r + 2, none⟩ = some y2 ∧ TwoT w b o c r x0 x1 x2 y0 y1 y2 w1) : TwoT w b o c r x0 x1 x2 y0 y1 y2 w1 := h.2.2.2.2.2.2

theorem TwoT.drew {w : World} {b o c r : Nat} {x0 x1 x2 y0 y1 y2 : Value} {w1 : World} (h : TwoT w b o c r x0 x1 x2 y0 y1 y2 w1) : TwoT w b o c r x0 x1 x2 y0 y1 y2 w1.drew := h.next ((Below.refl _ _).drew)

set_option maxRecDepth 100000 in
set_option maxHeartbeats 2000000 in
theorem unifyBegunW (w : World) : Calls Try.prog 24 #[] w fun e w' => e = .returned (.bool true) ∧ Below w.heap.size w w' := by
  go_enter Try.func24, Try.ntmps24
  go_wp2_with fail
  refine (vaW _ _).mono ?_
  rintro e w1 ⟨rfl, hb1⟩
  go_wp2_with fail
  refine (vaW _ _).mono ?_
  rintro e w2 ⟨rfl, hb2⟩
  go_wp2_with fail
  refine (fnW _ _ _ _ _).mono ?_
  rintro e w3 ⟨rfl, hb3⟩
  have T1 := Lib.hid ((ts_lit2 (w := w2) (ok := fun _ => True) (VarT 2) (VarT 3) (Ts.empty _ _) (Ts.empty _ _) (fits_lit _ _ _ (by decide) (by decide) (by decide)) (fits_lit _ _ _ (by decide) (by decide) (by decide)) trivial).keep (Keeps.below hb3 _))
  have B3 : Hid (Below w.heap.size w w3) := Lib.hid (by
    have h2 := hb1.trans (hb2.mono hb1.size)
    have h3 := h2.alloc h2.size (.cells #[.int .i64 2, .string ⟨#[]⟩, .slice none 0 0, .int .i64 3, .string ⟨#[]⟩, .slice none 0 0] 24)
    exact h3.trans (hb3.mono h3.size))
  clear hb1 hb2 hb3
  go_wp2_with fail
  refine (vaW _ _).mono ?_
  rintro e w4 ⟨rfl, hb4⟩
  go_wp2_with fail
  refine (fnW _ _ _ _ _).mono ?_
  rintro e w5 ⟨rfl, hb5⟩
  go_wp2_with fail
  refine (fnW _ _ _ _ _).mono ?_
  rintro e w6 ⟨rfl, hb6⟩
  have T2 := Lib.hid ((ts_lit2 (w := w5) (ok := fun _ => True) (VarT 1) tmA (Ts.empty _ _) (Ts.empty _ _) (fits_lit _ _ _ (by decide) (by decide) (by decide)) (fits_lit _ _ _ (by decide) (by decide) (by decide)) trivial).keep (Keeps.below hb6 _))
  have hb36 : Below w3.heap.size w3 w6 := by
    have h2 := hb4.trans (hb5.mono hb4.size)
    have h3 := h2.alloc h2.size (.cells #[.int .i64 1, .string ⟨#[]⟩, .slice none 0 0, .int .i64 0, .string ⟨#[97]⟩, .slice none 0 0] 24)
    exact h3.trans (hb6.mono h3.size)
  have T1' := Lib.hid (T1.out.keep (Keeps.below hb36 _))
  have B6 : Hid (Below w.heap.size w w6) := Lib.hid (B3.out.trans (hb36.mono B3.out.size))
  have HU := Lib.hid (UnifyW (w := w6) (ok := fun b => b < w6.heap.size) (fun b hb => hb) (s := tmL) (t := tmR) (fits_lit _ _ _ (by decide) (by decide) (by decide)) (fits_lit _ _ _ (by decide) (by decide) (by decide)) (T1'.out.mono fun b hb _ => hb) (T2.out.mono fun b hb _ => hb))
  rw [begun_uA] at HU
  clear hb4 hb5 hb6 hb36 T1 T1' T2 B3
  go_wp2_with fail
  refine HU.out.mono ?_
  rintro e w7 ⟨hb7, a, cap, rfl, hts⟩
  have B7 : Hid (Below w.heap.size w w7) := Lib.hid (B6.out.trans (hb7.mono B6.out.size))
  have hlen : ((List.range 12).map outB).length = 12 := by simp
  obtain ⟨b1, o1, a1, cap1, rfl, -, hl1, hc1, ht1⟩ := hts.at 1 (by simp)
  obtain ⟨b2, o2, a2, cap2, he2, -, hl2, hc2, ht2⟩ := hts.at 2 (by simp)
  injection he2 with he3
  injection he3 with e1 e2
  subst e1; subst e2
  simp only [List.getElem_map, List.getElem_range] at hc1 hc2 ht1 ht2
  have q0 := hc1.var; have q1 := hc1.name; have q2 := hc1.args
  have p0 := hc2.var; have p1 := hc2.name; have p2 := hc2.args
  have e1 : outB 1 = VarT 1 := rfl
  have e2 : outB 2 = tmA := rfl
  rw [e1] at q0 q1 q2 ht1
  rw [e2] at p0 p1 p2 ht2
  have HT1 := Lib.hid ht1; have HT2 := Lib.hid ht2
  have T0 : TwoT w7 b1 (o1 + 1 * 3) b1 (o1 + 2 * 3) (.int .i64 1) (.string ⟨#[]⟩) (.slice a1 0 cap1) (.int .i64 0) (.string ⟨#[97]⟩) (.slice a2 0 cap2) w7 := ⟨Below.refl _ _, q0, q1, q2, p0, p1, p2, hl1, hl1⟩
  clear hts hc1 hc2 ht1 ht2 e1 e2 hb7 q0 q1 q2 p0 p1 p2 HU
  rw [hlen]
  go_wp2_with fail
  have C1 : Hid (∀ w' : World, TwoT w7 b1 (o1 + 1 * 3) b1 (o1 + 2 * 3) (.int .i64 1) (.string ⟨#[]⟩) (.slice a1 0 cap1) (.int .i64 0) (.string ⟨#[97]⟩) (.slice a2 0 cap2) w' → Calls Try.prog 26 #[.agg #[.int .i64 1, .string ⟨#[]⟩, .slice a1 0 cap1], .agg #[.int .i64 1, .string ByteArray.empty, .slice none 0 0]] w' fun e w'' => e = .returned (.bool true) ∧ Below w'.heap.size w' w'') := Lib.hid fun w' h => by
    have := SameTermOf (VarT 1) (SameTermsW _) (VarT 1) w' (fun b => b < w7.heap.size ∨ True) a1 none cap1 0 ((HT1.out.mono fun _ _ _ => .inr trivial).keep (Keeps.below h.below _)) (Ts.empty' _ _)
    rw [eqT_true rfl] at this
    exact this
  have C2 : Hid (∀ w' : World, TwoT w7 b1 (o1 + 1 * 3) b1 (o1 + 2 * 3) (.int .i64 1) (.string ⟨#[]⟩) (.slice a1 0 cap1) (.int .i64 0) (.string ⟨#[97]⟩) (.slice a2 0 cap2) w' → Calls Try.prog 26 #[.agg #[.int .i64 0, .string ⟨#[97]⟩, .slice a2 0 cap2], .agg #[.int .i64 0, .string ⟨#[97]⟩, .slice none 0 0]] w' fun e w'' => e = .returned (.bool true) ∧ Below w'.heap.size w' w'') := Lib.hid fun w' h => by
    have := SameTermOf tmA (SameTermsW _) tmA w' (fun b => b < w7.heap.size ∨ True) a2 none cap2 0 ((HT2.out.mono fun _ _ _ => .inr trivial).keep (Keeps.below h.below _)) (Ts.empty' _ _)
    rw [eqT_true rfl] at this
    exact this
  go_region_held3 (fun w' => w'.cell? ⟨b1, o1 + 1 * 3, none⟩ = some (.int .i64 1) ∧ w'.cell? ⟨b1, o1 + 1 * 3 + 1, none⟩ = some (.string ⟨#[]⟩) ∧ w'.cell? ⟨b1, o1 + 1 * 3 + 2, none⟩ = some (.slice a1 0 cap1) ∧ w'.cell? ⟨b1, o1 + 2 * 3, none⟩ = some (.int .i64 0) ∧ w'.cell? ⟨b1, o1 + 2 * 3 + 1, none⟩ = some (.string ⟨#[97]⟩) ∧ w'.cell? ⟨b1, o1 + 2 * 3 + 2, none⟩ = some (.slice a2 0 cap2) ∧ TwoT w7 b1 (o1 + 1 * 3) b1 (o1 + 2 * 3) (.int .i64 1) (.string ⟨#[]⟩) (.slice a1 0 cap1) (.int .i64 0) (.string ⟨#[97]⟩) (.slice a2 0 cap2) w')
    (first | exact TwoT.all (TwoT.drew (by assumption)) | exact TwoT.all (TwoT.next (TwoT.of (by assumption)) hb))
    (first
      | (go_at_call 57; refine (vaW _ _).mono ?_; rintro e w' ⟨rfl, hb⟩)
      | (go_at_call 49; refine (fnW _ _ _ _ _).mono ?_; rintro e w' ⟨rfl, hb⟩)
      | (go_at_call 26; (with_reducible refine (C1.out _ (TwoT.of (by assumption))).mono ?_); rintro e w' ⟨rfl, hb⟩)
      | (go_at_call 26; (with_reducible refine (C2.out _ (TwoT.of (by assumption))).mono ?_); rintro e w' ⟨rfl, hb⟩))
  all_goals
    have HB := Lib.hid (TwoT.of (by assumption)).below
    go_wp2_with fail
    go_ret
    exact ⟨rfl, B7.out.trans (HB.out.mono B7.out.size)⟩

end Go.Proofs.Ytikmgiapjigghaa
