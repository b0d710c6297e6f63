/- Walk: Unify. -/
import Derived.Test.YtikmgiapjigghaaThrW
import Derived.Test.YtikmgiapjigghaaUniP
import Derived.Test.YtikmgiapjigghaaTerm
namespace Go.Proofs.Ytikmgiapjigghaa
open Go.RowKit

/-- What Unify answers, errors too. -/
inductive UA where
  | err (n : Nat)
  | no (k : Nat)
  | ok (l : List Tm) (k : Nat)

def uOutA : UOut → UA
  | .no k => .no k
  | .many => .err 2
  | .ok l k => .ok l k

noncomputable def uA (a b : Tm) : UA := if a.checkE ≠ 0 then .err a.checkE else if b.checkE ≠ 0 then .err b.checkE else uOutA (uP a b)

def UPost (w : World) (ok : Nat → Prop) (o : UA) (e : Ending) (w' : World) : Prop :=
  Below w.heap.size w w' ∧
  match o with
  | .err n => e = .returned (.tuple #[.slice none 0 0, .bool false, .int .i64 0, .int .i64 n])
  | .no k => e = .returned (.tuple #[.slice none 0 0, .bool false, .int .i64 k, .int .i64 0])
  | .ok l k => ∃ a cap, e = .returned (.tuple #[.slice a l.length cap, .bool true, .int .i64 k, .int .i64 0]) ∧ Ts w' (OkN ok w) l a cap

/-- One term more in a slice under construction. -/
theorem OwnTs.more {wb wr wX w1 X2 w2 : World} {ok : Nat → Prop} {L : List TmAt} {x x' : Value} (h : OwnTs wr wb.heap.size (OkN ok wb) x L) (hw : Below wb.heap.size wb wr) (hok : ∀ b, ok b → b < wb.heap.size) (hX : wr.heap.size ≤ wX.heap.size)
    (hb : Below wr.heap.size wr w1) {t : Tm} {a : Option Addr} {c : Nat} (hf : t.fits) (ht : Ts w1 (OkN ok wX) t.args a c) (hX2 : Below w1.heap.size w1 X2)
    (ho : w2.ownsRow wb.heap.size 24 3 x' (L.length + 1) (flat L ++ flat [(t, a, c)])) (hg : X2.grownBy w2 x.ownBlock) (hfr : Fresh X2 x x') :
    OwnTs w2 wb.heap.size (OkN ok wb) x' (L ++ [(t, a, c)]) ∧ Below wb.heap.size wb w2 := by
  have hxb : ∀ g, x.ownBlock = some g → wb.heap.size ≤ g ∧ g < wr.heap.size := fun g hg => h.block hg
  have hW : Below wr.heap.size wr X2 := hb.trans (hX2.mono hb.size)
  have hE : TsEach X2 (Free x (OkN ok wb)) [(t, a, c)] := by
    refine TsEach.one hf ((ht.keep (Keeps.below hX2 _)).mono fun b _ hk => ?_)
    rcases hk with hk | hk
    · exact ⟨.inl hk, fun e => by have := (hxb b e).1; have := hok b hk; omega⟩
    · exact ⟨.inr (by have := hw.size; omega), fun e => by have := (hxb b e).2; omega⟩
  have h2 : OwnTs w2 wb.heap.size (OkN ok wb) x' (L ++ [(t, a, c)]) := (h.below hW).append hE (by simpa using ho) hg hfr
  refine ⟨h2, ?_⟩
  have hT : Touch (fun b => x.ownBlock = some b) X2 w2 := Touch.grown hg fun k e => e
  exact (hw.trans (hW.mono hw.size)).trans (hT.toBelow (Nat.le_trans hw.size hW.size) fun b e => (hxb b e).1)

theorem OwnTs.form {w : World} {base : Nat} {ok : Nat → Prop} {L : List TmAt} {x : Value} (h : OwnTs w base ok x L) : ∃ a cap, x = .slice a L.length cap := by
  rcases h.own.2 with ⟨h1, h2⟩ | ⟨g, cap, cur, h1, _⟩
  · exact ⟨none, 0, by rw [h1, h2]⟩
  · exact ⟨_, _, h1⟩

theorem OwnTs.ret {w wb wr : World} {ok : Nat → Prop} {L : List TmAt} {x : Value} (h : OwnTs wr wb.heap.size (OkN ok wb) x L) (hw : w.heap.size ≤ wb.heap.size) : ∃ a cap, x = .slice a (L.map (·.1)).length cap ∧ Ts wr (OkN ok w) (L.map (·.1)) a cap := by
  have h1 : TsEach wr (OkN ok w) L := h.each.mono fun b _ hk => by
    rcases hk.1 with h3 | h3
    · exact .inl h3
    · exact .inr (by omega)
  have ho : wr.ownsRow w.heap.size 24 3 x L.length (flat L) := by
    refine ⟨h.own.1, h.own.2.imp id ?_⟩
    rintro ⟨g, cap, cur, a1, a2, a3⟩
    exact ⟨g, cap, cur, a1, Nat.le_trans hw a2, a3⟩
  exact Ts.of_row ho (fun b hb => .inr hb) h1

/-- Names that stay. -/
theorem ren_id {σ : Sub} : ∀ (m : Nat) (l : List Tm) (x : List Tm × Nat), thrL σ m l = some x → (Tm.rens (S := Unit) (fun _ v => (v, ())) () x.1).1 = x.1 := by
  intro m
  induction m using Nat.strongRecOn with
  | _ m ih =>
  intro l x h
  cases l with
  | nil => rw [thrL_nil] at h; cases h; rfl
  | cons t r =>
    cases m with
    | zero => rw [thrL_zero] at h; cases h
    | succ m =>
      by_cases hv : (look σ t).var = 0
      · rw [thrL_fn hv] at h
        obtain ⟨y, hy, h2⟩ := Option.bind_eq_some_iff.1 h
        obtain ⟨z, hz, rfl⟩ := Option.map_eq_some_iff.1 h2
        have h3 := (thrL_le _ _ _ hy).1
        have e1 := ih m (by omega) _ y hy
        have e2 := ih y.2 (by omega) _ z hz
        simp only [Tm.rens, Tm.ren, ne_eq, not_true_eq_false, if_false, e1, e2]
      · rw [thrL_var hv] at h
        obtain ⟨z, hz, rfl⟩ := Option.map_eq_some_iff.1 h
        have e2 := ih m (by omega) _ z hz
        simp only [Tm.rens, Tm.ren, if_pos hv, e2]

theorem outs_le {σ : Sub} : ∀ n m : Nat, n ≤ m → outs σ n = none → outs σ m = none := by
  intro n m
  induction m with
  | zero => intro h h2; have : n = 0 := by omega
            subst this; exact h2
  | succ m ih =>
    intro h h2
    by_cases e : n = m + 1
    · subst e; exact h2
    · simp only [outs]; rw [ih (by omega) h2]; rfl

theorem SInv.none : SInv (fun _ => Option.none) := Sim.start.inv

set_option maxRecDepth 100000 in
set_option maxHeartbeats 4000000 in
theorem UnifyW {w : World} {ok : Nat → Prop} (hok : ∀ b, ok b → b < w.heap.size) {s t : Tm} {a1 a2 : Option Addr} {c1 c2 : Nat} (hs : s.fits) (ht : t.fits) (h1 : Ts w ok s.args a1 c1) (h2 : Ts w ok t.args a2 c2) :
    Calls Try.prog 22 #[.agg #[.int .i64 s.var, .string s.name, .slice a1 s.args.length c1], .agg #[.int .i64 t.var, .string t.name, .slice a2 t.args.length c2]] w (UPost w ok (uA s t)) := by
  have HOK := Lib.hid hok; have HS := Lib.hid hs; have HT := Lib.hid ht; have H1 := Lib.hid h1; have H2 := Lib.hid h2
  clear hok hs ht h1 h2
  have hA0 : Box3 (((w.alloc (.cells #[.int .i64 s.var, .string s.name, .slice a1 s.args.length c1] 24)).alloc (.cells #[.int .i64 t.var, .string t.name, .slice a2 t.args.length c2] 24)).alloc (.cells #[.int .i64 s.var, .string s.name, .slice a1 s.args.length c1, .int .i64 t.var, .string t.name, .slice a2 t.args.length c2] 24)) w.heap.size (.int .i64 s.var) (.string s.name) (.slice a1 s.args.length c1) := ((Box3.made w _ _ _).alloc _).alloc _
  have hA1 : Box3 (((w.alloc (.cells #[.int .i64 s.var, .string s.name, .slice a1 s.args.length c1] 24)).alloc (.cells #[.int .i64 t.var, .string t.name, .slice a2 t.args.length c2] 24)).alloc (.cells #[.int .i64 s.var, .string s.name, .slice a1 s.args.length c1, .int .i64 t.var, .string t.name, .slice a2 t.args.length c2] 24)) (w.heap.size + 1) (.int .i64 t.var) (.string t.name) (.slice a2 t.args.length c2) := (Box3.made2 (by simp)).alloc _
  have hA2 : (((w.alloc (.cells #[.int .i64 s.var, .string s.name, .slice a1 s.args.length c1] 24)).alloc (.cells #[.int .i64 t.var, .string t.name, .slice a2 t.args.length c2] 24)).alloc (.cells #[.int .i64 s.var, .string s.name, .slice a1 s.args.length c1, .int .i64 t.var, .string t.name, .slice a2 t.args.length c2] 24)).heap[w.heap.size + 2]? = some (.cells #[.int .i64 s.var, .string s.name, .slice a1 s.args.length c1, .int .i64 t.var, .string t.name, .slice a2 t.args.length c2] 24 (0, 0)) := by
    have := heap_alloc_new ((w.alloc (.cells #[.int .i64 s.var, .string s.name, .slice a1 s.args.length c1] 24)).alloc (.cells #[.int .i64 t.var, .string t.name, .slice a2 t.args.length c2] 24)) (.cells #[.int .i64 s.var, .string s.name, .slice a1 s.args.length c1, .int .i64 t.var, .string t.name, .slice a2 t.args.length c2] 24)
    simpa using this
  have hB0 : Below w.heap.size w (((w.alloc (.cells #[.int .i64 s.var, .string s.name, .slice a1 s.args.length c1] 24)).alloc (.cells #[.int .i64 t.var, .string t.name, .slice a2 t.args.length c2] 24)).alloc (.cells #[.int .i64 s.var, .string s.name, .slice a1 s.args.length c1, .int .i64 t.var, .string t.name, .slice a2 t.args.length c2] 24)) := (((Below.refl _ _).alloc (Nat.le_refl _) _).alloc (by simp) _).alloc (by simp; omega) _
  have HA0 := Lib.hid hA0; have HA1 := Lib.hid hA1; have HA2 := Lib.hid hA2; have HB0 := Lib.hid hB0
  clear hA0 hA1 hA2 hB0
  go_enter Try.func22, Try.ntmps22
  go_wp2_with fail
  generalize (((w.alloc (.cells #[.int .i64 s.var, .string s.name, .slice a1 s.args.length c1] 24)).alloc (.cells #[.int .i64 t.var, .string t.name, .slice a2 t.args.length c2] 24)).alloc (.cells #[.int .i64 s.var, .string s.name, .slice a1 s.args.length c1, .int .i64 t.var, .string t.name, .slice a2 t.args.length c2] 24)) = W0 at *
  have HW0 : Hid (w.heap.size + 2 < W0.heap.size) := Lib.hid (Array.getElem?_eq_some_iff.1 HA2.out).1
  go_loopw [23] (fun y wr => (y = .int .i64 0 ∨ (y = .int .i64 1 ∧ Hid (s.checkE = 0)) ∨ (y = .int .i64 2 ∧ Hid (s.checkE = 0) ∧ Hid (t.checkE = 0))) ∧ Hid (Below W0.heap.size W0 wr)) (fun y _ => 2 - (intOf y).toNat)
  case atStart => exact ⟨.inl rfl, Lib.hid (Below.refl _ _)⟩
  case round =>
    obtain ⟨hy, HB⟩ := hrel
    have hblk : wr.heap[w.heap.size + 2]? = _ := (HB.out.block _ HW0.out).trans HA2.out
    have q0 : wr.cell? ⟨w.heap.size + 2, 0, none⟩ = some (.int .i64 s.var) := by simp [World.cell?, hblk]
    have q1 : wr.cell? ⟨w.heap.size + 2, 1, none⟩ = some (.string s.name) := by simp [World.cell?, hblk]
    have q2 : wr.cell? ⟨w.heap.size + 2, 2, none⟩ = some (.slice a1 s.args.length c1) := by simp [World.cell?, hblk]
    have q3 : wr.cell? ⟨w.heap.size + 2, 3, none⟩ = some (.int .i64 t.var) := by simp [World.cell?, hblk]
    have q4 : wr.cell? ⟨w.heap.size + 2, 4, none⟩ = some (.string t.name) := by simp [World.cell?, hblk]
    have q5 : wr.cell? ⟨w.heap.size + 2, 5, none⟩ = some (.slice a2 t.args.length c2) := by simp [World.cell?, hblk]
    have HBW : Hid (Below w.heap.size w wr) := Lib.hid (HB0.out.trans (HB.out.mono HB0.out.size))
    clear hblk
    rcases hy with rfl | ⟨rfl, HZ1⟩ | ⟨rfl, HZ1, HZ2⟩
    · have HCK := Lib.hid (CheckW s (wr.alloc (.cells #[.int .i64 s.var, .string s.name, .slice a1 s.args.length c1] 24)) ok a1 c1 HS.out ((H1.out.keep (Keeps.below HBW.out ok)).keep (Keeps.below ((Below.refl _ _).alloc (Nat.le_refl _) _) ok)))
      by_cases hz : s.checkE = 0
      · have HZ := Lib.hid hz
        have hz' : ((s.checkE : Int) != 0) = false := by rw [hz]; rfl
        clear hz
        go_wp2_with (go_at_call 17; refine HCK.out.mono ?_; rintro e w1 ⟨rfl, hb1⟩)
        go_roundw
        case measure => simp [intOf]
        case rel => exact ⟨.inr (.inl ⟨rfl, HZ⟩), Lib.hid (HB.out.trans ((((Below.refl wr.heap.size wr).alloc (Nat.le_refl _) _).trans (hb1.mono (by simp))).mono HB.out.size))⟩
      · have hz' : ((s.checkE : Int) != 0) = true := bne0 hz
        have HO : Hid (uA s t = .err s.checkE) := Lib.hid (by unfold uA; rw [if_pos hz])
        clear hz
        go_wp2_with (go_at_call 17; refine HCK.out.mono ?_; rintro e w1 ⟨rfl, hb1⟩)
        rw [HO.out]
        exact bodyPost_ret (v := .tuple #[.slice none 0 0, .bool false, .int .i64 0, .int .i64 s.checkE]) (by simp [results, Try.results22, go_sem]) rfl ⟨HBW.out.trans ((((Below.refl wr.heap.size wr).alloc (Nat.le_refl _) _).trans (hb1.mono (by simp))).mono HBW.out.size), rfl⟩
    · have HCK := Lib.hid (CheckW t (wr.alloc (.cells #[.int .i64 t.var, .string t.name, .slice a2 t.args.length c2] 24)) ok a2 c2 HT.out ((H2.out.keep (Keeps.below HBW.out ok)).keep (Keeps.below ((Below.refl _ _).alloc (Nat.le_refl _) _) ok)))
      by_cases hz : t.checkE = 0
      · have HZ := Lib.hid hz
        have hz' : ((t.checkE : Int) != 0) = false := by rw [hz]; rfl
        clear hz
        go_wp2_with (go_at_call 17; refine HCK.out.mono ?_; rintro e w1 ⟨rfl, hb1⟩)
        go_roundw
        case measure => simp [intOf]
        case rel => exact ⟨.inr (.inr ⟨rfl, HZ1, HZ⟩), Lib.hid (HB.out.trans ((((Below.refl wr.heap.size wr).alloc (Nat.le_refl _) _).trans (hb1.mono (by simp))).mono HB.out.size))⟩
      · have hz' : ((t.checkE : Int) != 0) = true := bne0 hz
        have HO : Hid (uA s t = .err t.checkE) := Lib.hid (by unfold uA; rw [if_neg (fun h => h HZ1.out), if_pos hz])
        clear hz
        go_wp2_with (go_at_call 17; refine HCK.out.mono ?_; rintro e w1 ⟨rfl, hb1⟩)
        rw [HO.out]
        exact bodyPost_ret (v := .tuple #[.slice none 0 0, .bool false, .int .i64 0, .int .i64 t.checkE]) (by simp [results, Try.results22, go_sem]) rfl ⟨HBW.out.trans ((((Below.refl wr.heap.size wr).alloc (Nat.le_refl _) _).trans (hb1.mono (by simp))).mono HBW.out.size), rfl⟩
    · clear q0 q1 q2 q3 q4 q5
      have HF1 := Lib.hid (check_fit HZ1.out); have HF2 := Lib.hid (check_fit HZ2.out)
      have HO : Hid (uA s t = uOutA (uP s t)) := Lib.hid (by unfold uA; rw [if_neg (fun h => h HZ1.out), if_neg (fun h => h HZ2.out)])
      have HNEW := Lib.hid (NewW wr ok (fun b hb => by have := HOK.out b hb; have := HBW.out.size; omega))
      go_wp2_with fail
      refine HNEW.out.mono ?_
      rintro e w1 ⟨rfl, hst1, hb1⟩
      have HB1 : Hid (Below W0.heap.size W0 w1) := Lib.hid (HB.out.trans (hb1.mono HB.out.size))
      have HBW1 : Hid (Below w.heap.size w w1) := Lib.hid (HB0.out.trans (HB1.out.mono HB0.out.size))
      have X0 := HA0.out.keep (HB1.out.block _ HA0.out.lt); have X1 := HA1.out.keep (HB1.out.block _ HA1.out.lt)
      have x0 := X0.c0; have x1 := X0.c1; have x2 := X0.c2
      have y0 := X1.c0; have y1 := X1.c1; have y2 := X1.c2
      have HSM := Lib.hid (SameW (ok := ok) (bs := wr.heap.size + 1) (bm := wr.heap.size) 4000 (fun _ => none) [] (.slice none 0 0) s t a1 a2 c1 c2 w1 (Nat.le_refl _) hst1 SInv.none (by simp) HS.out HT.out (H1.out.keep (Keeps.below HBW1.out ok)) (H2.out.keep (Keeps.below HBW1.out ok)) HF1.out.wf HF2.out.wf)
      have HSZ : Hid (w.heap.size ≤ wr.heap.size) := Lib.hid HBW.out.size
      clear hst1 hb1 X0 X1
      go_wp2_with fail
      refine HSM.out.mono ?_
      have HU : Hid (uP s t = match meet (fun _ => none) [] 4000 [(s, t)] with
        | .no _ _ f => .no (4000 - f)
        | .many _ _ => .many
        | .ok σ _ f => match outs σ 12 with | none => .many | some l => .ok l (4000 - f)) := Lib.hid (by unfold uP; rfl)
      generalize meet (fun _ => none) [] 4000 [(s, t)] = o at *
      rintro e w2 ⟨ht2, tv, hfr, hm⟩
      have HB2 : Hid (Below w.heap.size w w2) := Lib.hid (HBW1.out.trans (ht2.toBelow HBW1.out.size (fun b hb => by
        have := HSZ.out
        rcases hb with e | e | e
        · omega
        · omega
        · simp [Value.ownBlock] at e)))
      clear ht2 hfr x0 x1 x2 y0 y1 y2
      cases o with
      | many σ L =>
        obtain ⟨rfl, -, -⟩ := hm
        go_wp2_with fail
        rw [HO.out, HU.out]
        exact bodyPost_ret (v := .tuple #[.slice none 0 0, .bool false, .int .i64 0, .int .i64 2]) (by simp [results, Try.results22, go_sem]) rfl ⟨HB2.out, rfl⟩
      | no σ L f =>
        obtain ⟨rfl, hst, -⟩ := hm
        have HST := Lib.hid hst
        obtain ⟨-, -, z2, -⟩ := hst.cells
        clear hst
        have DQ := below_drewN w2
        go_wp2_with fail
        go_quiet (fail)
        rename_i nq
        have hB := DQ nq
        generalize w2.drewN nq = X at *
        go_wp2_with fail
        rw [HO.out, HU.out]
        exact bodyPost_ret (v := .tuple #[.slice none 0 0, .bool false, .int .i64 (4000 - f : Nat), .int .i64 0]) (by simp [results, Try.results22, go_sem]) rfl ⟨HB2.out.trans (hB.mono HB2.out.size), rfl⟩
      | ok σ L f =>
        obtain ⟨rfl, hst, hinv⟩ := hm
        have HST := Lib.hid hst; have HINV := Lib.hid hinv
        have HU' : Hid (uP s t = match outs σ 12 with | none => .many | some l => .ok l (4000 - f)) := Lib.hid HU.out
        have HOK2 : Hid (∀ b, ok b → b < w2.heap.size) := Lib.hid fun b hb => (hst.okb b hb).1
        clear hst hinv HU
        obtain ⟨i0, hi0, hz0', hz1', hz2'⟩ := info_parts Try.infoTm
        generalize wr.heap.size = bm0 at *
        go_wp2_with fail
        go_loopw [14, 15] (fun y14 y15 wr => ∃ (n : Nat) (L : List TmAt), n ≤ 12 ∧ y15 = .int .i64 ((n : Int) + 1) ∧ Hid (outs σ n = some (L.map (·.1))) ∧ Hid (L.length = n) ∧ OwnTs wr w2.heap.size (OkN ok w2) y14 L ∧ Below w2.heap.size w2 wr) (fun _ y15 _ => 13 - (intOf y15).toNat)
        case atStart => exact ⟨0, [], by omega, rfl, Lib.hid rfl, Lib.hid rfl, OwnTs.nil _ _ _, Below.refl _ _⟩
        case round =>
          obtain ⟨n, L2, hn, rfl, HOU, HLN, hown, hbel⟩ := hrel
          have HOWN := Lib.hid hown; have HBEL := Lib.hid hbel
          have HSR := Lib.hid (HST.out.keep hbel)
          obtain ⟨xa, xc, rfl⟩ := hown.form
          clear hown hbel
          by_cases hlt : n < 12
          · have hlt' : (n : Int) + 1 ≤ 12 := by omega
            have BX : Below wr.heap.size wr (wr.alloc (.cells #[.int .i64 200] 3)) := (Below.refl _ _).alloc (Nat.le_refl _) _
            have HBX := Lib.hid BX
            have HCL : Hid (Calls Try.prog 67 #[.pointer (some ⟨bm0 + 1, 0, none⟩), .agg #[.int .i64 ((n : Int) + 1), .string ⟨#[]⟩, .slice none 0 0], .pointer (some ⟨wr.heap.size, 0, none⟩), .func (.func 68) #[] #[]] (wr.alloc (.cells #[.int .i64 200] 3))
                (ThrPost (wr.alloc (.cells #[.int .i64 200] 3)) ok wr.heap.size (fun _ => False) (S := Unit) (fun _ v => (v, ())) (fun _ _ => True) () (thrL σ 200 [VarT ((n : Int) + 1)]))) := Lib.hid
              (ThroughW (m := 200) names_id (fun _ _ _ _ _ _ => trivial) HINV.out.rank.ends () (VarT ((n : Int) + 1)) none 0 _ (by omega) (HSR.out.keep BX) trivial (heap_alloc_new wr _) ⟨HSR.out.notM (Nat.le_refl _), fun h => by have := (HSR.out.okb _ h).1; omega⟩ (fun b h => h.elim) ⟨(by show I64 ((n : Int) + 1); unfold I64; omega), Nat.zero_le _⟩ (Ts.empty' _ _))
            have HID := Lib.hid (ren_id (σ := σ) 200 [VarT ((n : Int) + 1)])
            have HNX : Hid (outs σ (n + 1) = (thrL σ 200 [VarT ((n : Int) + 1)]).map fun x => L2.map (·.1) ++ x.1) := Lib.hid (by simp only [outs]; rw [HOU.out]; rfl)
            generalize thrL σ 200 [VarT ((n : Int) + 1)] = o at *
            cases o with
            | none =>
              have HN12 : Hid (outs σ 12 = none) := Lib.hid (outs_le (n + 1) 12 (by omega) (by rw [HNX.out]; rfl))
              clear HNX HID BX
              go_wp2_with (go_at_call 67; refine HCL.out.mono ?_; rintro e w3 ⟨ht3, rfl, -⟩; have HT3 := Lib.hid ht3; clear ht3)
              rw [HO.out, HU'.out, HN12.out]
              have hb3 : Below wr.heap.size wr w3 := HBX.out.trans (HT3.out.toBelow HBX.out.size (fun b hb => hb.elim (fun e => by omega) (fun e => e.elim)))
              have hb4 : Below w.heap.size w w3 := HB2.out.trans ((HBEL.out.trans (hb3.mono HBEL.out.size)).mono HB2.out.size)
              exact bodyPost_ret (v := .tuple #[.slice none 0 0, .bool false, .int .i64 0, .int .i64 2]) (by simp [results, Try.results22, go_sem]) rfl ⟨hb4.alloc (by have := hb4.size; omega) _, rfl⟩
            | some x =>
              have HX1 := Lib.hid (HID.out x rfl)
              clear HID BX
              go_wp2_with (first
                | (go_at_call 67; refine HCL.out.mono ?_; rintro e w3 ⟨ht3, T, a3, c3, hTT, rfl, hf3, hts3, -, -⟩; have hb3 : Below wr.heap.size wr w3 := HBX.out.trans (ht3.toBelow HBX.out.size (fun b hb => hb.elim (fun e => by omega) (fun e => e.elim))); have HB3 := Lib.hid hb3; have HTT := Lib.hid hTT; have HF3 := Lib.hid hf3; have HTS3 := Lib.hid hts3; have HO1 := Lib.hid (((HOWN.out.below hb3).own.alloc (.cells #[.int .i64 T.var, .string T.name, .slice a3 T.args.length c3] 24)).alloc (.cells #[.int .i64 T.var, .string T.name, .slice a3 T.args.length c3] 24)); clear ht3 hTT hf3 hts3 hb3)
                | (at_builtin; have _g := HO1; refine wpList_append_opt _ rfl _ _ 22 rfl w2.heap.size 24 i0 _ 3 48 Try.underlying22 hi0 hz0' hz1' hz2' rfl (by decide) _ _ _ rfl HO1.out (some ⟨w3.heap.size + 1, 0, none⟩) 1 1 ?d0 (flat [(T, a3, c3)]) rfl (by rw [flat_length]; rfl) ?d1 (flat_one _) ?d2 ?d3 ?d4 ?_))
              · intro h; cases h
              · exact news3 _ T a3 c3 (by simp)
              · have := HLN.out; unfold maxLen; omega
              · have := HLN.out; omega
              · have := HBEL.out.size; have := HB3.out.size; simp only [aSz]; omega
              · intro v4 w4 hown4 hgrow4 hfr4
                have BX4 : Below w3.heap.size w3 ((w3.alloc (.cells #[.int .i64 T.var, .string T.name, .slice a3 T.args.length c3] 24)).alloc (.cells #[.int .i64 T.var, .string T.name, .slice a3 T.args.length c3] 24)) := ((Below.refl _ _).alloc (Nat.le_refl _) _).alloc (by simp only [aSz]; omega) _
                have HNXT := Lib.hid (HOWN.out.more HBEL.out HOK2.out (HBX.out.size) HB3.out HF3.out HTS3.out BX4 hown4 hgrow4 hfr4)
                clear hown4 hgrow4 hfr4 BX4
                go_wp2_with fail
                go_roundw
                case measure => simp [intOf]; omega
                case rel =>
                  exact ⟨n + 1, L2 ++ [(T, a3, c3)], by omega, by go_num, Lib.hid (by
                    have h1 := HX1.out
                    rw [HTT.out] at h1
                    rw [HNX.out, List.map_append]; simp only [Option.map_some]; rw [← h1]; rfl), Lib.hid (by rw [List.length_append, HLN.out]; rfl), HNXT.out⟩
          · have hn12 : n = 12 := by omega
            have hge : ¬ ((n : Int) + 1 ≤ 12) := by omega
            obtain ⟨-, -, z2, -⟩ := HSR.out.cells
            have DQ := below_drewN wr
            have HN12 : Hid (outs σ 12 = some (L2.map (·.1))) := Lib.hid (by rw [← hn12]; exact HOU.out)
            clear hn12
            go_wp2_with fail
            go_quiet (fail)
            rename_i nq
            have hB := DQ nq
            generalize wr.drewN nq = X at *
            go_wp2_with fail
            rw [HO.out, HU'.out, HN12.out]
            obtain ⟨a9, c9, he, ht9⟩ := (HOWN.out.below hB).ret (w := w) HB2.out.size
            injection he with he1 he2 he3
            subst he1; subst he3
            exact bodyPost_ret (v := .tuple #[.slice xa L2.length xc, .bool true, .int .i64 (4000 - f : Nat), .int .i64 0]) (by simp [results, Try.results22, go_sem]) rfl
              ⟨HB2.out.trans ((HBEL.out.trans (hB.mono HBEL.out.size)).mono HB2.out.size), xa, xc, by rw [List.length_map], ht9⟩

end Go.Proofs.Ytikmgiapjigghaa
