/- Walk: Through. -/
import Derived.Test.YtikmgiapjigghaaBldM
import Derived.Test.YtikmgiapjigghaaFull
import Derived.Test.YtikmgiapjigghaaThr
namespace Go.Proofs.Ytikmgiapjigghaa
open Go.RowKit

/-- The blocks that Through touches. -/
abbrev ThrM (bl : Nat) (Md : Nat → Prop) : Nat → Prop := fun b => b = bl ∨ Md b

/-- What Through hands back. -/
def ThrPost {S : Type} (w : World) (ok : Nat → Prop) (bl : Nat) (Md : Nat → Prop) (nm : S → Int → Int × S) (Inv : World → S → Prop) (s : S) (o : Option (List Tm × Nat)) (e : Ending) (w' : World) : Prop :=
  Touch (ThrM bl Md) w w' ∧
  match o with
  | some x => ∃ (T : Tm) (a : Option Addr) (c : Nat), (Tm.rens nm s x.1).1 = [T] ∧ e = .returned (.tuple #[.agg #[.int .i64 T.var, .string T.name, .slice a T.args.length c], .bool true]) ∧ T.fits ∧ Ts w' (OkN ok w) T.args a c ∧
      Inv w' (Tm.rens nm s x.1).2 ∧ w'.heap[bl]? = some (.cells #[.int .i64 x.2] 3 (0, 0))
  | none => e = .returned (.tuple #[.agg #[.int .i64 0, .string ⟨#[]⟩, .slice none 0 0], .bool false]) ∧ ∃ (s' : S) (k : Int), Inv w' s' ∧ w'.heap[bl]? = some (.cells #[.int .i64 k] 3 (0, 0))

theorem setCell_one (w : World) (b : Nat) {x : Value} (y : Value) {e : TypeId} (h : w.heap[b]? = some (.cells #[x] e (0, 0))) : (w.setCell ⟨b, 0, none⟩ y).heap[b]? = some (.cells #[y] e (0, 0)) := by
  rw [heap_setCell_at _ _ _ _ h]; rfl

set_option maxRecDepth 100000 in
set_option maxHeartbeats 4000000 in
theorem ThroughW {S : Type} {nm : S → Int → Int × S} {Inv : World → S → Prop} {Md : Nat → Prop} (hN : Names nm Inv Md 68 #[]) (hI : ∀ w w' s, Inv w s → (∀ b, Md b → w'.heap[b]? = w.heap[b]?) → w.heap.size ≤ w'.heap.size → Inv w' s)
    {ok : Nat → Prop} {bs bm : Nat} {tv : Value} {σ : Sub} {Lt : List Int} {wk bl : Nat} (hE : Ends σ) (m : Nat) : ∀ (s : S) (t : Tm) (a : Option Addr) (c : Nat) (w : World), m ≤ 1000 → StAt w ok bs bm tv σ Lt wk → Inv w s → w.heap[bl]? = some (.cells #[.int .i64 m] 3 (0, 0)) →
      (¬ StM bs bm tv bl ∧ ¬ ok bl) → (∀ b, Md b → b < w.heap.size ∧ ¬ StM bs bm tv b ∧ ¬ ok b ∧ b ≠ bl) → t.fits → Ts w ok t.args a c →
    Calls Try.prog 67 #[.pointer (some ⟨bs, 0, none⟩), .agg #[.int .i64 t.var, .string t.name, .slice a t.args.length c], .pointer (some ⟨bl, 0, none⟩), .func (.func 68) #[] #[]] w (ThrPost w ok bl Md nm Inv s (thrL σ m [t])) := by
  induction m using Nat.strongRecOn with
  | _ m ih =>
  intro s t a c w hm hst hinv hbl hsep hmd hfit hts
  have IH := Lib.hid ih; have HST := Lib.hid hst; have HF := Lib.hid hfit; have HT := Lib.hid hts; have HINV := Lib.hid hinv; have HBL := Lib.hid hbl; have HSEP := Lib.hid hsep; have HMD := Lib.hid hmd; have HE := Lib.hid hE; have HN := Lib.hid hN; have HI := Lib.hid hI
  have hbll : bl < w.heap.size := (Array.getElem?_eq_some_iff.1 hbl).1
  have HOK : Hid (∀ b, ok b → b < w.heap.size ∧ b ≠ bl ∧ ¬ Md b) := Lib.hid fun b hb => ⟨(hst.okb b hb).1, fun e => hsep.2 (e ▸ hb), fun hm => (hmd b hm).2.2.1 hb⟩
  have k0 : w.cell? ⟨bl, 0, none⟩ = some (.int .i64 m) := by simp [World.cell?, hbl]
  have kf : ∀ o, w.frozen? ⟨bl, o, none⟩ = false := fun o => by simp [World.frozen?, hbl]
  clear ih hst hinv hbl hsep hmd hfit hts hE hN hI
  have hmd0 : ∀ d : Int, Hid (Touch (ThrM bl Md) w (w.setCell ⟨bl, 0, none⟩ (.int .i64 d))) := fun d => Lib.hid ((Touch.setCell _ rfl : Touch (fun b => b = bl) w _).mono fun _ _ e => .inl e)
  cases m with
  | zero =>
    have HO : Hid (thrL σ 0 [t] = none) := Lib.hid (thrL_zero _ _ _)
    have T1 := hmd0 (-1)
    clear hmd0
    go_enter Try.func67, Try.ntmps67
    go_wp2_with fail
    rw [HO.out]
    -- ZERO
    have BA : Below (w.setCell ⟨bl, 0, none⟩ (.int .i64 (-1))).heap.size (w.setCell ⟨bl, 0, none⟩ (.int .i64 (-1))) (((w.setCell ⟨bl, 0, none⟩ (.int .i64 (-1))).alloc (.cells #[.int .i64 t.var, .string t.name, .slice a t.args.length c] 24)).alloc (.cells #[.int .i64 0, .string ⟨#[]⟩, .slice none 0 0] 24)) := ((Below.refl _ _).alloc (Nat.le_refl _) _).alloc (by simp) _
    have TT : Touch (fun b => b = bl) w (((w.setCell ⟨bl, 0, none⟩ (.int .i64 (-1))).alloc (.cells #[.int .i64 t.var, .string t.name, .slice a t.args.length c] 24)).alloc (.cells #[.int .i64 0, .string ⟨#[]⟩, .slice none 0 0] 24)) := (Touch.setCell _ rfl : Touch (fun b => b = bl) w _).trans (Touch.below BA)
    exact bodyPost_ret (v := .tuple #[.agg #[.int .i64 0, .string ⟨#[]⟩, .slice none 0 0], .bool false]) (by simp [results, Try.results67, go_sem]) rfl
      ⟨TT.mono fun _ _ e => .inl e, rfl, s, -1, HI.out w _ s HINV.out (fun b hb => TT.block b (HMD.out b hb).1 (HMD.out b hb).2.2.2) TT.size, (BA.block bl (by simpa using hbll)).trans (setCell_one w bl _ HBL.out)⟩
  | succ m =>
    have hm1 : (m : Int) ≤ 1000 := by omega
    have hm0 : (0 : Int) ≤ (m : Int) := by omega
    have hsub0 : (m : Int) + 1 - 1 = (m : Int) := by omega
    have T0 : Touch (fun b => b = bl) w (w.setCell ⟨bl, 0, none⟩ (.int .i64 m)) := Touch.setCell _ rfl
    have HSD := Lib.hid (HST.out.touch T0 fun b e => by subst e; exact HSEP.out)
    have HID := Lib.hid (HI.out w _ s HINV.out (fun b hb => T0.block b (HMD.out b hb).1 (HMD.out b hb).2.2.2) T0.size)
    have HBD := Lib.hid (setCell_one w bl (.int .i64 m) HBL.out)
    have HTD := Lib.hid (HT.out.keep (T0.keeps fun b hb => (HOK.out b hb).2.1))
    have HT0 := Lib.hid T0
    have hsd : (w.setCell ⟨bl, 0, none⟩ (.int .i64 m)).heap.size = w.heap.size := by simp [World.setCell]
    have BB : Below (w.setCell ⟨bl, 0, none⟩ (.int .i64 m)).heap.size (w.setCell ⟨bl, 0, none⟩ (.int .i64 m)) (((w.setCell ⟨bl, 0, none⟩ (.int .i64 m)).alloc (.cells #[.int .i64 t.var, .string t.name, .slice a t.args.length c] 24)).alloc (.cells #[.int .i64 0, .string ⟨#[]⟩, .slice none 0 0] 24)) := ((Below.refl _ _).alloc (Nat.le_refl _) _).alloc (by simp) _
    have HA4 : Hid (Box3 (((w.setCell ⟨bl, 0, none⟩ (.int .i64 m)).alloc (.cells #[.int .i64 t.var, .string t.name, .slice a t.args.length c] 24)).alloc (.cells #[.int .i64 0, .string ⟨#[]⟩, .slice none 0 0] 24)) w.heap.size (.int .i64 t.var) (.string t.name) (.slice a t.args.length c)) := Lib.hid ((Box3.made2 hsd.symm).alloc _)
    have HA6 : Hid (Box3 (((w.setCell ⟨bl, 0, none⟩ (.int .i64 m)).alloc (.cells #[.int .i64 t.var, .string t.name, .slice a t.args.length c] 24)).alloc (.cells #[.int .i64 0, .string ⟨#[]⟩, .slice none 0 0] 24)) (w.heap.size + 1) (.int .i64 0) (.string ⟨#[]⟩) (.slice none 0 0)) := Lib.hid (Box3.made2 (by simp [World.setCell]))
    have HBB := Lib.hid BB
    obtain ⟨n0, hn⟩ := look_spec HE.out t
    have HLN := Lib.hid hn
    have HLK := Lib.hid (LookW (HSD.out.keep BB) HLN.out HF.out (HTD.out.keep (Keeps.below BB ok)))
    have HSDD := Lib.hid hsd
    clear BB hn T0 hsd hmd0
    -- WALK
    have HMX : Hid (∀ b, ThrM bl Md b → b < w.heap.size) := Lib.hid fun b e => e.elim (fun e => by omega) (fun e => (HMD.out b e).1)
    by_cases hv : (look σ t).var = 0
    · have HO : Hid (thrL σ (m + 1) [t] = (thrL σ m (look σ t).args).map fun y => ([.mk 0 (look σ t).name y.1], y.2)) := Lib.hid (by
        rw [thrL_fn hv]
        cases thrL σ m (look σ t).args with
        | none => rfl
        | some y => simp only [Option.bind_some, Option.map_some, thrL_nil])
      have hv1 : ((look σ t).var != 0) = false := by rw [hv]; rfl
      clear hv
      go_enter Try.func67, Try.ntmps67
      go_wp2_with (go_at_call 102; refine HLK.out.mono ?_; rintro e w1 ⟨a1, c1, rfl, hf1, ht1, hb1⟩; have HF1 := Lib.hid hf1; have HT1 := Lib.hid ht1; have HB1 := Lib.hid hb1; have HX4 := Lib.hid (HA4.out.below hb1); have HX6 := Lib.hid (HA6.out.below hb1); obtain ⟨q0, q1, q2, qf⟩ := (HA4.out.below hb1).all; obtain ⟨p0, p1, p2, pf⟩ := (HA6.out.below hb1).all; have hlt1 : w.heap.size + 1 < w1.heap.size := (HA6.out.below hb1).lt; have hlt0 : w.heap.size < w1.heap.size := (HA4.out.below hb1).lt; clear hf1 ht1 hb1)
      have HSL := Lib.hid (HSDD.out)
      have HT1W := Lib.hid (HT0.out.trans (Touch.below (M := fun b => b = bl) (HBB.out.trans (HB1.out.mono HBB.out.size))))
      have TP := touch_put w1 w.heap.size (.int .i64 (look σ t).var) (.string (look σ t).name) (.slice a1 (look σ t).args.length c1)
      have HTP := Lib.hid TP
      have HSW := Lib.hid (((HSD.out.keep HBB.out).keep HB1.out).touch TP fun b e => by subst e; exact ⟨HST.out.notM (Nat.le_refl _), fun hk => by have := (HOK.out _ hk).1; omega⟩)
      have HTTW : Hid (Touch (fun b => b = bl) w (((w1.setCell ⟨w.heap.size, 0, none⟩ (.int .i64 (look σ t).var)).setCell ⟨w.heap.size, 1, none⟩ (.string (look σ t).name)).setCell ⟨w.heap.size, 2, none⟩ (.slice a1 (look σ t).args.length c1))) := Lib.hid ⟨TP.os.trans HT1W.out.os, TP.tape.trans HT1W.out.tape, TP.output.trans HT1W.out.output, Nat.le_trans HT1W.out.size TP.size, fun b hb hn => (TP.block b (Nat.lt_of_lt_of_le hb HT1W.out.size) (fun e => by omega)).trans (HT1W.out.block b hb hn)⟩
      have HIW := Lib.hid (HI.out w _ s HINV.out (fun b hb => HTTW.out.block b (HMD.out b hb).1 (HMD.out b hb).2.2.2) HTTW.out.size)
      have HBW : Hid ((((w1.setCell ⟨w.heap.size, 0, none⟩ (.int .i64 (look σ t).var)).setCell ⟨w.heap.size, 1, none⟩ (.string (look σ t).name)).setCell ⟨w.heap.size, 2, none⟩ (.slice a1 (look σ t).args.length c1)).heap[bl]? = some (.cells #[.int .i64 m] 3 (0, 0))) := Lib.hid ((TP.block bl (by have := HT1W.out.size; omega) (fun e => by omega)).trans (((HBB.out.trans (HB1.out.mono HBB.out.size)).block bl (by have := HSL.out; omega)).trans HBD.out))
      have HY4 := Lib.hid (HX4.out.put (.int .i64 (look σ t).var) (.string (look σ t).name) (.slice a1 (look σ t).args.length c1))
      have HY6 := Lib.hid (HX6.out.other (show w.heap.size + 1 ≠ w.heap.size by omega) (.int .i64 (look σ t).var) (.string (look σ t).name) (.slice a1 (look σ t).args.length c1))
      have HTW := Lib.hid (HT1.out.keep (TP.keeps fun b hb e => by have := (HOK.out b hb).1; omega))
      have hsw : (((w1.setCell ⟨w.heap.size, 0, none⟩ (.int .i64 (look σ t).var)).setCell ⟨w.heap.size, 1, none⟩ (.string (look σ t).name)).setCell ⟨w.heap.size, 2, none⟩ (.slice a1 (look σ t).args.length c1)).heap.size = w1.heap.size := by simp [World.setCell]
      clear q0 q1 q2 qf p0 p1 p2 pf TP
      generalize (((w1.setCell ⟨w.heap.size, 0, none⟩ (.int .i64 (look σ t).var)).setCell ⟨w.heap.size, 1, none⟩ (.string (look σ t).name)).setCell ⟨w.heap.size, 2, none⟩ (.slice a1 (look σ t).args.length c1)) = W at *
      generalize look σ t = x at *
      rw [← hsw] at *
      clear HLN HLK HB1 HT1 HX4 HX6 hlt1 hlt0 HT1W HTP HSL
      have hWW : w.heap.size + 1 < W.heap.size := HY6.out.lt
      have Z0 : Box3 (W.alloc (.cells #[.int .i64 0, .string x.name, .slice none 0 0] 24)) W.heap.size (.int .i64 0) (.string x.name) (.slice none 0 0) := Box3.made W _ _ _
      have BA : Below W.heap.size W (W.alloc (.cells #[.int .i64 0, .string x.name, .slice none 0 0] 24)) := (Below.refl _ _).alloc (Nat.le_refl _) _
      have HZ6 := Lib.hid (HY6.out.below BA)
      have HSB' := Lib.hid (HSW.out.keep BA)
      have HTB := Lib.hid (HTW.out.keep (Keeps.below BA ok))
      have HTTB := Lib.hid (HTTW.out.trans (Touch.below BA))
      have HIB := Lib.hid (HI.out W _ s HIW.out (fun b hb => BA.block b (by have := (HMD.out b hb).1; omega)) BA.size)
      have HBB2 := Lib.hid ((BA.block bl (by omega)).trans HBW.out)
      have hsb : (W.alloc (.cells #[.int .i64 0, .string x.name, .slice none 0 0] 24)).heap.size = W.heap.size + 1 := by simp
      have HSB := Lib.hid hsb
      have hxl : x.args.length ≤ 9223372036854775807 := by have := HTW.out.cap; unfold maxLen at this; omega
      have HXF := Lib.hid HF1.out.2
      have HZ0 := Lib.hid Z0
      clear Z0 BA hsb hsw
      generalize W.alloc (.cells #[.int .i64 0, .string x.name, .slice none 0 0] 24) = wb at *
      go_loopw [42] (fun y42 wr => ∃ (i : Nat) (L : List TmAt) (y : Value) (r : Nat) (s' : S) (Ls : List Tm), i ≤ x.args.length ∧ y42 = .int .i64 i ∧ r ≤ m ∧ Hid (thrL σ m (x.args.take i) = some (Ls, r)) ∧ Hid (L.map (·.1) = (Tm.rens nm s Ls).1 ∧ s' = (Tm.rens nm s Ls).2) ∧ BldM wb (ThrM bl Md) ok W.heap.size x.name L y wr ∧ Inv wr s' ∧ wr.heap[bl]? = some (.cells #[.int .i64 r] 3 (0, 0))) (fun y42 _ => x.args.length - (intOf y42).toNat)
      case atStart => exact ⟨0, [], .slice none 0 0, m, s, [], Nat.zero_le _, rfl, Nat.le_refl _, Lib.hid (thrL_nil _ _), Lib.hid ⟨rfl, rfl⟩, BldM.start HZ0.out, HIB.out, HBB2.out⟩
      case round =>
        obtain ⟨i, L, y, r, s', Ls, hi, rfl, hr, HTH, HLL, hrel, hinv', hblr⟩ := hrel
        have HR := Lib.hid hrel; have HIR := Lib.hid hinv'; have HBR := Lib.hid hblr
        obtain ⟨xa, xc, rfl⟩ := hrel.form
        obtain ⟨z60, z61, z62, z63⟩ := (HZ6.out.keep (hrel.touch.block _ HZ6.out.lt (fun e => e.elim (fun e => by omega) (fun e => by have := HMX.out _ e; omega)))).all
        have KB : Hid (Keeps ok wb wr) := Lib.hid (hrel.touch.keeps fun b hb e => e.elim (fun e => by have := (HOK.out b hb).1; omega) (fun e => e.elim (HOK.out b hb).2.1 (HOK.out b hb).2.2))
        have hwr : W.heap.size < wr.heap.size := hrel.box.lt
        have HLl : Hid (L.length = i ∧ i + r ≤ m) := Lib.hid (by
          have h1 := (thrL_le _ _ _ HTH.out).2
          have h2 := thrL_room _ _ _ HTH.out
          have h3 := congrArg List.length HLL.out.1
          rw [List.length_map, Tm.rens_length] at h3
          rw [List.length_take] at h1 h2
          simp only at h1 h2; omega)
        have HSR : Hid (StAt wr ok bs bm tv σ Lt wk) := Lib.hid (HSB'.out.touch hrel.touch fun b e => by
          rcases e with e | e | e
          · subst e; exact ⟨HST.out.notM (by omega), fun hk => by have := (HOK.out _ hk).1; omega⟩
          · subst e; exact HSEP.out
          · exact ⟨(HMD.out b e).2.1, (HMD.out b e).2.2.1⟩)
        clear hrel hinv' hblr
        by_cases hlt : i < x.args.length
        · obtain ⟨b, off, a', cap', rfl, hokb, hbs, hc, ht⟩ := HTB.out.at i hlt
          have m0 := (KB.out.cell (p := ⟨b, off + i * 3, none⟩) hokb hbs).trans hc.var
          have m1 := (KB.out.cell (p := ⟨b, off + i * 3 + 1, none⟩) hokb hbs).trans hc.name
          have m2 := (KB.out.cell (p := ⟨b, off + i * 3 + 2, none⟩) hokb hbs).trans hc.args
          have BX : Below wr.heap.size wr (wr.alloc (.cells #[.int .i64 x.args[i].var, .string x.args[i].name, .slice a' x.args[i].args.length cap'] 24)) := (Below.refl _ _).alloc (Nat.le_refl _) _
          have HCL := Lib.hid (IH.out r (by omega) s' x.args[i] a' cap' (wr.alloc (.cells #[.int .i64 x.args[i].var, .string x.args[i].name, .slice a' x.args[i].args.length cap'] 24)) (by omega) (HSR.out.keep BX) (HI.out wr _ s' HIR.out (fun b hb => BX.block b (by have := (HMD.out b hb).1; omega)) BX.size) ((BX.block bl (by omega)).trans HBR.out) HSEP.out (fun b hb => ⟨by have := (HMD.out b hb).1; have := BX.size; omega, (HMD.out b hb).2⟩) hc.fits (ht.keep (KB.out.trans (Keeps.below BX ok))))
          have HBX := Lib.hid BX
          have HSP : Hid (thrL σ m (x.args.take (i + 1)) = (thrL σ r [x.args[i]]).map fun z => (Ls ++ z.1, z.2)) := Lib.hid (by
            rw [List.take_succ_eq_append_getElem hlt, thrL_append, HTH.out]; rfl)
          have HSQ : Hid (thrL σ r [x.args[i]] = none → thrL σ m x.args = none) := Lib.hid (fun hn => by
            rw [← List.take_append_drop (i + 1) x.args, thrL_append, HSP.out, hn]; rfl)
          have HLE := Lib.hid (fun z => thrL_le (σ := σ) r [x.args[i]] z)
          clear hc ht BX
          generalize thrL σ r [x.args[i]] = o at *
          cases o with
          | none =>
            have HQ := Lib.hid (HSQ.out rfl)
            clear HSQ HSP
            go_wp2_with (go_at_call 67; refine HCL.out.mono ?_; rintro e w3 ⟨ht3, rfl, s3, k3, hi3, hb3⟩; have hl3 : w.heap.size + 1 < w3.heap.size := (by have := ht3.size; have := HBX.out.size; omega); obtain ⟨y0, y1, y2, yf⟩ := (((HZ6.out.keep (HR.out.touch.block _ HZ6.out.lt (fun e => e.elim (fun e => by omega) (fun e => by have := HMX.out _ e; omega)))).below HBX.out).keep (ht3.block _ (by have := HBX.out.size; omega) (fun e => by have := HMX.out _ e; omega))).all; have HT3 := Lib.hid ht3; have HI3 := Lib.hid hi3; have HB3 := Lib.hid hb3; clear ht3 hi3 hb3)
            rw [HO.out, HQ.out]
            have TA : Touch (fun b => W.heap.size = b ∨ ThrM bl Md b) w w3 := (((HTTB.out.mono fun _ _ e => .inr (.inl e)).trans (HR.out.touch.mono fun _ _ e => e.imp Eq.symm id)).trans (Touch.below HBX.out)).trans (HT3.out.mono fun _ _ e => .inr e)
            have TP := touch_put w3 (w.heap.size + 1) (.int .i64 0) (.string ⟨#[]⟩) (.slice none 0 0)
            have BF : Below (((w3.setCell ⟨w.heap.size + 1, 0, none⟩ (.int .i64 0)).setCell ⟨w.heap.size + 1, 1, none⟩ (.string ⟨#[]⟩)).setCell ⟨w.heap.size + 1, 2, none⟩ (.slice none 0 0)).heap.size (((w3.setCell ⟨w.heap.size + 1, 0, none⟩ (.int .i64 0)).setCell ⟨w.heap.size + 1, 1, none⟩ (.string ⟨#[]⟩)).setCell ⟨w.heap.size + 1, 2, none⟩ (.slice none 0 0)) ((((w3.setCell ⟨w.heap.size + 1, 0, none⟩ (.int .i64 0)).setCell ⟨w.heap.size + 1, 1, none⟩ (.string ⟨#[]⟩)).setCell ⟨w.heap.size + 1, 2, none⟩ (.slice none 0 0)).alloc (.cells #[.int .i64 0, .string ⟨#[]⟩, .slice none 0 0] 24)) := (Below.refl _ _).alloc (Nat.le_refl _) _
            have hps := TP.size
            exact bodyPost_ret (v := .tuple #[.agg #[.int .i64 0, .string ⟨#[]⟩, .slice none 0 0], .bool false]) (by simp [results, Try.results67, go_sem, y0, y1, y2, hl3]) rfl
              ⟨⟨BF.os.trans (TP.os.trans TA.os), BF.tape.trans (TP.tape.trans TA.tape), BF.output.trans (TP.output.trans TA.output), Nat.le_trans TA.size (Nat.le_trans TP.size BF.size), fun b hb hn => (BF.block b (by omega)).trans ((TP.block b (by omega) (fun e => by omega)).trans (TA.block b hb (fun e => e.elim (fun e => by omega) hn)))⟩,
                rfl, s3, k3, HI.out _ _ _ HI3.out (fun b hb => (BF.block b (by have := (HMD.out b hb).1; omega)).trans (TP.block b (by have := (HMD.out b hb).1; omega) (fun e => by have := (HMD.out b hb).1; omega))) (Nat.le_trans TP.size BF.size), (BF.block bl (by omega)).trans ((TP.block bl (by omega) (fun e => by omega)).trans HB3.out)⟩
          | some z =>
            obtain ⟨u1, u2⟩ := z
            have hzr : u2 ≤ r := (HLE.out _ rfl).1
            have HNT : Hid (thrL σ m (x.args.take (i + 1)) = some (Ls ++ u1, u2)) := Lib.hid HSP.out
            clear HSQ HSP HLE
            obtain ⟨i0, hi0, hz0', hz1', hz2'⟩ := info_parts Try.infoTm
            go_wp2_with (first
              | (go_at_call 67; refine HCL.out.mono ?_; rintro e w3 ⟨ht3, T, a3, c3, hTT, rfl, hf3, hts3, hi3, hb3⟩; have hl3 : W.heap.size < w3.heap.size := (by have := ht3.size; have := HBX.out.size; omega); have TB3 := (Touch.below (M := ThrM bl Md) HBX.out).trans ht3; obtain ⟨y0, y1, y2, yf⟩ := (((HZ6.out.keep (HR.out.touch.block _ HZ6.out.lt (fun e => e.elim (fun e => by omega) (fun e => by have := HMX.out _ e; omega)))).below HBX.out).keep (ht3.block _ (by have := HBX.out.size; omega) (fun e => by have := HMX.out _ e; omega))).all; have HBO := HR.out.box.keep (TB3.block _ HR.out.box.lt (fun e => by have := HMX.out _ e; omega)); have k2 := HBO.c2; have kf := HBO.fz; have HO1 := Lib.hid (((ownsRow_block HR.out.own.own (fun gg hg => TB3.block gg (HR.out.own.block hg).2 (fun e => by have := HMX.out _ e; have := (HR.out.own.block hg).1; have := HSB.out; omega))).alloc (.cells #[.int .i64 T.var, .string T.name, .slice a3 T.args.length c3] 24)).alloc (.cells #[.int .i64 T.var, .string T.name, .slice a3 T.args.length c3] 24)); have HT3 := Lib.hid TB3; have HF3 := Lib.hid hf3; have HTS3 := Lib.hid hts3; have HI3 := Lib.hid hi3; have HB3 := Lib.hid hb3; have HTT := Lib.hid hTT; clear ht3 hf3 hts3 hi3 hb3 hTT TB3 HBO)
              | (at_builtin; have _g := HO1; refine wpList_append_opt _ rfl _ _ 22 rfl wb.heap.size 24 i0 _ 3 48 Try.underlying22 hi0 hz0' hz1' hz2' rfl (by decide) _ _ _ rfl HO1.out (some ⟨w3.heap.size + 1, 0, none⟩) 1 1 ?d0 (flat [(T, a3, c3)]) rfl (by rw [flat_length]; rfl) ?d1 (flat_one _) ?d2 ?d3 ?d4 ?_))
            · intro h; cases h
            · exact news3 _ T a3 c3 (by simp)
            · have := HLl.out; unfold maxLen; omega
            · have := HLl.out; omega
            · have := HR.out.touch.size; have := HT3.out.size; simp only [aSz]; omega
            · intro v4 w4 hown4 hgrow4 hfr4
              have BX4 : Below w3.heap.size w3 ((w3.alloc (.cells #[.int .i64 T.var, .string T.name, .slice a3 T.args.length c3] 24)).alloc (.cells #[.int .i64 T.var, .string T.name, .slice a3 T.args.length c3] 24)) := ((Below.refl _ _).alloc (Nat.le_refl _) _).alloc (by simp only [aSz]; omega) _
              have HNX := Lib.hid (HR.out.next (fun b hb => ⟨by have := (HOK.out b hb).1; have := HSB.out; omega, by have := (HOK.out b hb).1; omega, fun e => e.elim (HOK.out b hb).2.1 (HOK.out b hb).2.2⟩) (fun b e => by have := HMX.out b e; have := HSB.out; omega) (HBX.out.size) HT3.out HF3.out HTS3.out BX4 hown4 hgrow4 hfr4)
              have HG4 := Lib.hid hgrow4
              have HOB := Lib.hid (fun gg hg => HR.out.own.block (g := gg) hg)
              obtain ⟨g4, cap4, rfl⟩ := own_shape hown4 (by omega)
              have s2 := HNX.out.1.c2
              have sf := HNX.out.1.fz
              have HB4 := Lib.hid BX4
              clear hown4 hgrow4 hfr4 k2 kf y0 y1 y2 yf BX4
              go_wp2_with fail
              go_roundw
              case measure => simp [intOf]; omega
              case rel =>
                have hkk : ∀ b, ThrM bl Md b → (w4.setCell ⟨W.heap.size, 2, none⟩ (.slice (some ⟨g4, 0, none⟩) (L.length + 1) cap4)).heap[b]? = w3.heap[b]? := fun b e => by
                  have h1 := HMX.out b e
                  rw [Below.heap_setCell _ _ _ _ (show b ≠ W.heap.size by omega), HG4.out.block b (by have := HB4.out.size; omega) (fun e2 => by have := (HOB.out b e2.symm).1; have := HSB.out; omega), HB4.out.block b (by omega)]
                exact ⟨i + 1, L ++ [(T, a3, c3)], _, u2, (Tm.rens nm s' u1).2, Ls ++ u1, by omega, by go_num, by omega, HNT.out, Lib.hid ⟨by rw [List.map_append, Tm.rens_append, HLL.out.1, ← HLL.out.2, HTT.out]; rfl, by rw [Tm.rens_append, ← HLL.out.2]⟩, HNX.out.2,
                  HI.out _ _ _ HI3.out (fun b hb => hkk b (.inr hb)) (by have := HB4.out.size; have := HG4.out.size; simp [World.setCell]; omega), (hkk bl (.inl rfl)).trans HB3.out⟩
        · have HTA : Hid (thrL σ m x.args = some (Ls, r)) := Lib.hid (by
            have := HTH.out
            rwa [List.take_of_length_le (by omega)] at this)
          have HD := Lib.hid (HR.out.done (w := w) (br := w.heap.size + 1) (HTTB.out.mono fun _ _ e => .inl e) (by omega) (by omega) (by have := HSB.out; omega) (fun b hb => (HOK.out b hb).1))
          obtain ⟨q0, q1, q2, qf⟩ := HR.out.box.all
          go_wp2_with fail
          rw [HO.out, HTA.out]
          obtain ⟨a9, c9, he, ht9, hb9⟩ := HD.out
          injection he with he1 he2 he3
          subst he1; subst he3
          have TP := touch_put wr (w.heap.size + 1) (.int .i64 0) (.string x.name) (.slice xa L.length xc)
          have hRE : Tm.rens nm s [.mk 0 x.name Ls] = ([.mk 0 x.name (L.map (·.1))], s') := by
            simp [Tm.rens, Tm.ren, HLL.out.1, HLL.out.2]
          exact bodyPost_ret (v := .tuple #[.agg #[.int .i64 0, .string x.name, .slice xa L.length xc], .bool true]) (by simp [results, Try.results67, go_sem, z60, z61, z62]) rfl
            ⟨hb9, .mk 0 x.name (List.map (fun y : TmAt => y.1) L), xa, xc, by simp only; rw [hRE], by simp [Tm.var, Tm.name, Tm.args], ⟨(by show -9223372036854775808 ≤ (0 : Int) ∧ (0 : Int) ≤ 9223372036854775807; omega), HXF.out⟩, ht9,
              by simp only; rw [hRE]; exact HI.out _ _ _ HIR.out (fun b hb => TP.block b (by have := (HMD.out b hb).1; omega) (fun e => by have := (HMD.out b hb).1; omega)) TP.size, (TP.block bl (by omega) (fun e => by omega)).trans HBR.out⟩
    · have HO : Hid (thrL σ (m + 1) [t] = some ([VarT (look σ t).var], m)) := Lib.hid (by rw [thrL_var hv, thrL_nil]; rfl)
      have hv1 : ((look σ t).var != 0) = true := by rw [bne_iff_ne]; exact hv
      have HV := Lib.hid hv
      clear hv
      go_enter Try.func67, Try.ntmps67
      go_wp2_with (go_at_call 102; refine HLK.out.mono ?_; rintro e w1 ⟨a1, c1, rfl, hf1, ht1, hb1⟩; have HF1 := Lib.hid hf1; have HT1 := Lib.hid ht1; have HB1 := Lib.hid hb1; have HX4 := Lib.hid (HA4.out.below hb1); have HX6 := Lib.hid (HA6.out.below hb1); obtain ⟨q0, q1, q2, qf⟩ := (HA4.out.below hb1).all; obtain ⟨p0, p1, p2, pf⟩ := (HA6.out.below hb1).all; have hlt1 : w.heap.size + 1 < w1.heap.size := (HA6.out.below hb1).lt; have hlt0 : w.heap.size < w1.heap.size := (HA4.out.below hb1).lt; clear hf1 ht1 hb1)
      have HSL := Lib.hid (HSDD.out)
      have HT1W := Lib.hid (HT0.out.trans (Touch.below (M := fun b => b = bl) (HBB.out.trans (HB1.out.mono HBB.out.size))))
      have TP := touch_put w1 w.heap.size (.int .i64 (look σ t).var) (.string (look σ t).name) (.slice a1 (look σ t).args.length c1)
      have HTP := Lib.hid TP
      have HSW := Lib.hid (((HSD.out.keep HBB.out).keep HB1.out).touch TP fun b e => by subst e; exact ⟨HST.out.notM (Nat.le_refl _), fun hk => by have := (HOK.out _ hk).1; omega⟩)
      have HTTW : Hid (Touch (fun b => b = bl) w (((w1.setCell ⟨w.heap.size, 0, none⟩ (.int .i64 (look σ t).var)).setCell ⟨w.heap.size, 1, none⟩ (.string (look σ t).name)).setCell ⟨w.heap.size, 2, none⟩ (.slice a1 (look σ t).args.length c1))) := Lib.hid ⟨TP.os.trans HT1W.out.os, TP.tape.trans HT1W.out.tape, TP.output.trans HT1W.out.output, Nat.le_trans HT1W.out.size TP.size, fun b hb hn => (TP.block b (Nat.lt_of_lt_of_le hb HT1W.out.size) (fun e => by omega)).trans (HT1W.out.block b hb hn)⟩
      have HIW := Lib.hid (HI.out w _ s HINV.out (fun b hb => HTTW.out.block b (HMD.out b hb).1 (HMD.out b hb).2.2.2) HTTW.out.size)
      have HBW : Hid ((((w1.setCell ⟨w.heap.size, 0, none⟩ (.int .i64 (look σ t).var)).setCell ⟨w.heap.size, 1, none⟩ (.string (look σ t).name)).setCell ⟨w.heap.size, 2, none⟩ (.slice a1 (look σ t).args.length c1)).heap[bl]? = some (.cells #[.int .i64 m] 3 (0, 0))) := Lib.hid ((TP.block bl (by have := HT1W.out.size; omega) (fun e => by omega)).trans (((HBB.out.trans (HB1.out.mono HBB.out.size)).block bl (by have := HSL.out; omega)).trans HBD.out))
      have HY4 := Lib.hid (HX4.out.put (.int .i64 (look σ t).var) (.string (look σ t).name) (.slice a1 (look σ t).args.length c1))
      have HY6 := Lib.hid (HX6.out.other (show w.heap.size + 1 ≠ w.heap.size by omega) (.int .i64 (look σ t).var) (.string (look σ t).name) (.slice a1 (look σ t).args.length c1))
      have HTW := Lib.hid (HT1.out.keep (TP.keeps fun b hb e => by have := (HOK.out b hb).1; omega))
      have hsw : (((w1.setCell ⟨w.heap.size, 0, none⟩ (.int .i64 (look σ t).var)).setCell ⟨w.heap.size, 1, none⟩ (.string (look σ t).name)).setCell ⟨w.heap.size, 2, none⟩ (.slice a1 (look σ t).args.length c1)).heap.size = w1.heap.size := by simp [World.setCell]
      clear q0 q1 q2 qf p0 p1 p2 pf TP
      generalize (((w1.setCell ⟨w.heap.size, 0, none⟩ (.int .i64 (look σ t).var)).setCell ⟨w.heap.size, 1, none⟩ (.string (look σ t).name)).setCell ⟨w.heap.size, 2, none⟩ (.slice a1 (look σ t).args.length c1)) = W at *
      generalize look σ t = x at *
      rw [← hsw] at *
      clear HLN HLK HB1 HT1 HX4 HX6 hlt1 hlt0 HT1W HTP HSL
      have HC : Hid (Calls Try.prog 68 #[.int .i64 x.var] W fun e w' => e = .returned (.int .i64 (nm s x.var).1) ∧ Inv w' (nm s x.var).2 ∧ I64 (nm s x.var).1 ∧ Touch Md W w') := Lib.hid (by
        have := HN.out W s x.var HIW.out HF1.out.1
        have e : (#[Value.int .i64 x.var] ++ #[]) = #[Value.int .i64 x.var] := rfl
        rw [e] at this
        exact this)
      refine HC.out.mono ?_
      rintro e w2 ⟨rfl, hi2, h64, ht2⟩
      have HI2 := Lib.hid hi2; have H64 := Lib.hid h64; have HT2 := Lib.hid ht2
      have hl6 := HY6.out.lt
      obtain ⟨z60, z61, z62, z63⟩ := (HY6.out.keep (ht2.block _ hl6 (fun hm => by have := (HMD.out _ hm).1; omega))).all
      have hs2 := ht2.size
      have hl7 : w.heap.size + 1 < w2.heap.size := by omega
      clear hi2 h64 ht2
      obtain ⟨q, hq⟩ : ∃ q, (nm s x.var).1 = q := ⟨_, rfl⟩
      have HQ := Lib.hid hq
      rw [hq] at H64 ⊢
      clear hq
      go_wp2_with fail
      rw [HO.out]
      have TP := touch_put w2 (w.heap.size + 1) (.int .i64 q) (.string ⟨#[]⟩) (.slice none 0 0)
      have TA : Touch (ThrM bl Md) w w2 := (HTTW.out.mono fun _ _ e => .inl e).trans (HT2.out.mono fun _ _ e => .inr e)
      have HRE : Hid ((Tm.rens nm s [VarT x.var]).1 = [.mk (nm s x.var).1 ⟨#[]⟩ []] ∧ (Tm.rens nm s [VarT x.var]).2 = (nm s x.var).2) := Lib.hid (by
        have := HV.out
        simp [Tm.rens, Tm.ren, this])
      exact bodyPost_ret (v := .tuple #[.agg #[.int .i64 q, .string ⟨#[]⟩, .slice none 0 0], .bool true]) (by simp [results, Try.results67, go_sem, z60, z61, z62]) rfl
        ⟨⟨TP.os.trans TA.os, TP.tape.trans TA.tape, TP.output.trans TA.output, Nat.le_trans TA.size TP.size, fun b hb hn => (TP.block b (Nat.lt_of_lt_of_le hb TA.size) (fun e => by omega)).trans (TA.block b hb hn)⟩,
          VarT q, none, 0, by rw [HRE.out.1, HQ.out], rfl, ⟨H64.out, Nat.zero_le _⟩, Ts.empty' _ _, by rw [HRE.out.2]; exact HI.out _ _ _ HI2.out (fun b hb => TP.block b (by have := (HMD.out b hb).1; omega) (fun e => by have := (HMD.out b hb).1; omega)) TP.size,
          (TP.block bl (by omega) (fun e => by omega)).trans ((HT2.out.block bl (by omega) (fun hm => (HMD.out bl hm).2.2.2 rfl)).trans HBW.out)⟩

end Go.Proofs.Ytikmgiapjigghaa
