/- Walk: the reference's Full. -/
import Derived.Test.YtikmgiapjigghaaNam
import Derived.Test.YtikmgiapjigghaaMeetW
import Derived.Test.YtikmgiapjigghaaMostP
namespace Go.Proofs.Ytikmgiapjigghaa
open Go.RowKit

/-- What Full hands back. -/
def FullPost (w : World) (ok : Nat → Prop) (m : Nat) (o : Option (List Tm × Nat)) (e : Ending) (w' : World) : Prop :=
  match o with
  | some x => ∃ (T : Tm) (a : Option Addr) (c : Nat), x.1 = [T] ∧ e = .returned (.tuple #[.agg #[.int .i64 T.var, .string T.name, .slice a T.args.length c], .int .i64 ((m : Int) - (x.2 : Int)), .bool true]) ∧ T.fits ∧ Ts w' (OkN ok w) T.args a c ∧ Below w.heap.size w w'
  | none => e = .returned (.tuple #[.agg #[.int .i64 0, .string ⟨#[]⟩, .slice none 0 0], .int .i64 ((m : Int) + 1), .bool false]) ∧ Below w.heap.size w w'

theorem thrL_one {σ : Sub} {m : Nat} {t : Tm} {x : List Tm × Nat} (h : thrL σ m [t] = some x) : ∃ T, x.1 = [T] := by
  have := (thrL_le _ _ _ h).2
  simp only [List.length_cons, List.length_nil, Nat.zero_add] at this
  exact List.length_eq_one_iff.1 this

theorem news3 (X : World) (t : Tm) (a : Option Addr) (c : Nat) {h : Nat} (e : h = X.heap.size) : ∀ ad, some (⟨h, 0, none⟩ : Addr) = some ad → ∀ j u, (flat [(t, a, c)])[j]? = some u → (X.alloc (.cells #[.int .i64 t.var, .string t.name, .slice a t.args.length c] 24)).cell? (ad.add j) = some u := by
  subst e
  intro ad had
  cases had
  have ho := World.ownsRow_lit (base := X.heap.size) (e := 24) (size := 3) X #[.int .i64 t.var, .string t.name, .slice a t.args.length c] 1 (Nat.le_refl _) (by unfold maxLen; omega) rfl
  exact ho.cells (g := X.heap.size) rfl

set_option maxRecDepth 100000 in
set_option maxHeartbeats 4000000 in
theorem FullW {ok : Nat → Prop} {rs g cap : Nat} {B : List TmAt} {wk : Nat} (hB : FB (B.map (·.1))) (m : Nat) : ∀ (t : Tm) (a : Option Addr) (c : Nat) (w : World), m ≤ 1000 → RAt w ok rs g cap B wk → t.fits → Ts w ok t.args a c → Fit B.length t →
    Calls Try.prog 72 #[.pointer (some ⟨rs, 0, none⟩), .agg #[.int .i64 t.var, .string t.name, .slice a t.args.length c], .int .i64 m] w (FullPost w ok m (thrL (subB (B.map (·.1))) m [t])) := by
  induction m using Nat.strongRecOn with
  | _ m ih =>
  intro t a c w hm hst hfit hts hin
  have IH := Lib.hid ih; have HB := Lib.hid hB; have HST := Lib.hid hst; have HF := Lib.hid hfit; have HT := Lib.hid hts; have HIN := Lib.hid hin
  clear ih hB hst hfit hts hin
  have BB : Below w.heap.size w ((w.alloc (.cells #[.int .i64 t.var, .string t.name, .slice a t.args.length c] 24)).alloc (.cells #[.int .i64 0, .string ⟨#[]⟩, .slice none 0 0] 24)) := ((Below.refl _ _).alloc (Nat.le_refl _) _).alloc (by simp) _
  have A4 : Box3 ((w.alloc (.cells #[.int .i64 t.var, .string t.name, .slice a t.args.length c] 24)).alloc (.cells #[.int .i64 0, .string ⟨#[]⟩, .slice none 0 0] 24)) w.heap.size (.int .i64 t.var) (.string t.name) (.slice a t.args.length c) := (Box3.made w _ _ _).alloc _
  have A6 : Box3 ((w.alloc (.cells #[.int .i64 t.var, .string t.name, .slice a t.args.length c] 24)).alloc (.cells #[.int .i64 0, .string ⟨#[]⟩, .slice none 0 0] 24)) (w.heap.size + 1) (.int .i64 0) (.string ⟨#[]⟩) (.slice none 0 0) := Box3.made2 (by simp)
  have HBB := Lib.hid BB; have HA4 := Lib.hid A4; have HA6 := Lib.hid A6
  have HOK : Hid (∀ b, ok b → b < w.heap.size) := Lib.hid fun b hb => (HST.out.okb b hb).1
  clear BB A4 A6
  have HIB : Hid (∀ i (hi : i < B.length), InB B B[i].1) := Lib.hid (fun i hi => by
    have := (HB.out.each B[i].1 (List.mem_map.2 ⟨_, List.getElem_mem hi, rfl⟩)).pos
    rw [List.length_map] at this
    exact this)
  obtain ⟨n0, hn⟩ := look_spec HB.out.inv.rank.ends t
  have HN := Lib.hid hn
  have HLK := Lib.hid (LookAtW (HST.out.keep HBB.out) HIB.out HN.out HF.out (HT.out.keep (Keeps.below HBB.out ok)) HIN.out.pos)
  have HFX : Hid (Fit B.length (look (subB (B.map (·.1))) t)) := Lib.hid (by
    have := HB.out.look (t := t) (by rw [List.length_map]; exact HIN.out)
    rwa [List.length_map] at this)
  have hsz2 : ((w.alloc (.cells #[.int .i64 t.var, .string t.name, .slice a t.args.length c] 24)).alloc (.cells #[.int .i64 0, .string ⟨#[]⟩, .slice none 0 0] 24)).heap.size = w.heap.size + 2 := by simp
  have HSZ2 := Lib.hid hsz2
  clear hn hsz2
  cases m with
  | zero =>
    have HO : Hid (thrL (subB (B.map (·.1))) 0 [t] = none) := Lib.hid (thrL_zero _ _ _)
    go_enter Try.func72, Try.ntmps72
    go_wp2_with (go_at_call 71; refine HLK.out.mono ?_; rintro e w1 ⟨a1, c1, rfl, hf1, ht1, hb1⟩; have HF1 := Lib.hid hf1; have HT1 := Lib.hid ht1; have HB1 := Lib.hid hb1; have X4 := HA4.out.below hb1; have X6 := HA6.out.below hb1; have q0 := X4.c0; have q1 := X4.c1; have q2 := X4.c2; have qf := X4.fz; have HX4 := Lib.hid X4; have HX6 := Lib.hid X6; have p0 := X6.c0; have p1 := X6.c1; have p2 := X6.c2; have pf := X6.fz; have hlt1 : w.heap.size + 1 < w1.heap.size := X6.lt; clear hf1 ht1 hb1 X4 X6)
    rw [HO.out]
    have hs := HSZ2.out
    have hx := HB1.out.size
    exact bodyPost_ret (v := .tuple #[.agg #[.int .i64 0, .string ⟨#[]⟩, .slice none 0 0], .int .i64 1, .bool false]) (by simp [results, Try.results72, go_sem, p0, p1, p2]) rfl
      ⟨rfl, by repeat' (first | (with_reducible exact Below.refl _ _) | (with_reducible refine below_put ?_ ?_ _ _ _) | (with_reducible refine Below.alloc ?_ ?_ _) | (with_reducible refine Below.drew ?_) | (with_reducible refine Below.up ?_ HB1.out ?_) | (with_reducible exact HBB.out) | omega | (simp only [aSz]; omega) | (simp only [sSz]; omega))⟩
  | succ m =>
    have hm1 : (m : Int) ≤ 1000 := by omega
    have hm0 : (1 : Int) ≤ (m : Int) + 1 := by omega
    go_enter Try.func72, Try.ntmps72
    go_wp2_with (go_at_call 71; refine HLK.out.mono ?_; rintro e w1 ⟨a1, c1, rfl, hf1, ht1, hb1⟩; have HF1 := Lib.hid hf1; have HT1 := Lib.hid ht1; have HB1 := Lib.hid hb1; have X4 := HA4.out.below hb1; have X6 := HA6.out.below hb1; have q0 := X4.c0; have q1 := X4.c1; have q2 := X4.c2; have qf := X4.fz; have HX4 := Lib.hid X4; have HX6 := Lib.hid X6; have p0 := X6.c0; have p1 := X6.c1; have p2 := X6.c2; have pf := X6.fz; have hlt1 : w.heap.size + 1 < w1.heap.size := X6.lt; clear hf1 ht1 hb1 X4 X6)
    have hs := HSZ2.out
    have hx := HB1.out.size
    have BW : Below w.heap.size w (((w1.setCell ⟨w.heap.size, 0, none⟩ (.int .i64 (look (subB (B.map (·.1))) t).var)).setCell ⟨w.heap.size, 1, none⟩ (.string (look (subB (B.map (·.1))) t).name)).setCell ⟨w.heap.size, 2, none⟩ (.slice a1 (look (subB (B.map (·.1))) t).args.length c1)) := by
      repeat' (first | (with_reducible exact Below.refl _ _) | (with_reducible refine below_put ?_ ?_ _ _ _) | (with_reducible refine Below.alloc ?_ ?_ _) | (with_reducible refine Below.drew ?_) | (with_reducible refine Below.up ?_ HB1.out ?_) | (with_reducible exact HBB.out) | omega | (simp only [aSz]; omega) | (simp only [sSz]; omega))
    have Y4 := HX4.out.put (.int .i64 (look (subB (B.map (·.1))) t).var) (.string (look (subB (B.map (·.1))) t).name) (.slice a1 (look (subB (B.map (·.1))) t).args.length c1)
    have Y6 := HX6.out.other (show w.heap.size + 1 ≠ w.heap.size by omega) (.int .i64 (look (subB (B.map (·.1))) t).var) (.string (look (subB (B.map (·.1))) t).name) (.slice a1 (look (subB (B.map (·.1))) t).args.length c1)
    have HBW := Lib.hid BW; have HY4 := Lib.hid Y4; have HY6 := Lib.hid Y6
    have HTW : Hid (Ts (((w1.setCell ⟨w.heap.size, 0, none⟩ (.int .i64 (look (subB (B.map (·.1))) t).var)).setCell ⟨w.heap.size, 1, none⟩ (.string (look (subB (B.map (·.1))) t).name)).setCell ⟨w.heap.size, 2, none⟩ (.slice a1 (look (subB (B.map (·.1))) t).args.length c1)) ok (look (subB (B.map (·.1))) t).args a1 c1) :=
      Lib.hid (Ts.belowOk HOK.out (below_put (Below.refl w.heap.size w1) (Nat.le_refl _) _ _ _) HT1.out)
    clear q0 q1 q2 qf p0 p1 p2 pf hs hx BW Y4 Y6
    by_cases hv : (look (subB (B.map (·.1))) t).var = 0
    · have HO : Hid (thrL (subB (B.map (·.1))) (m + 1) [t] = (thrL (subB (B.map (·.1))) m (look (subB (B.map (·.1))) t).args).map fun y => ([.mk 0 (look (subB (B.map (·.1))) t).name y.1], y.2)) := Lib.hid (by
        rw [thrL_fn hv]
        cases thrL (subB (B.map (·.1))) m (look (subB (B.map (·.1))) t).args with
        | none => rfl
        | some y => simp only [Option.bind_some, Option.map_some, thrL_nil])
      have hxv : (look (subB (B.map (·.1))) t).var = 0 := hv
      have HRW : Hid (RAt (((w1.setCell ⟨w.heap.size, 0, none⟩ (.int .i64 (look (subB (B.map (·.1))) t).var)).setCell ⟨w.heap.size, 1, none⟩ (.string (look (subB (B.map (·.1))) t).name)).setCell ⟨w.heap.size, 2, none⟩ (.slice a1 (look (subB (B.map (·.1))) t).args.length c1)) ok rs g cap B wk) :=
        Lib.hid (((HST.out.keep HBB.out).keep HB1.out).touch (touch_put _ _ _ _ _) (fun b e => by have h1 := HST.out.lt; subst e; exact ⟨by omega, by omega, fun hk => by have := HOK.out _ hk; omega⟩))
      have hsw : (((w1.setCell ⟨w.heap.size, 0, none⟩ (.int .i64 (look (subB (B.map (·.1))) t).var)).setCell ⟨w.heap.size, 1, none⟩ (.string (look (subB (B.map (·.1))) t).name)).setCell ⟨w.heap.size, 2, none⟩ (.slice a1 (look (subB (B.map (·.1))) t).args.length c1)).heap.size = w1.heap.size := by simp [World.setCell]
      generalize (((w1.setCell ⟨w.heap.size, 0, none⟩ (.int .i64 (look (subB (B.map (·.1))) t).var)).setCell ⟨w.heap.size, 1, none⟩ (.string (look (subB (B.map (·.1))) t).name)).setCell ⟨w.heap.size, 2, none⟩ (.slice a1 (look (subB (B.map (·.1))) t).args.length c1)) = W at *
      generalize look (subB (B.map (·.1))) t = x at *
      rw [hv]
      rw [← hsw] at *
      clear HN HLK HB1 HT1 HX4 HX6 hlt1
      have Z0 : Box3 (W.alloc (.cells #[.int .i64 0, .string x.name, .slice none 0 0] 24)) W.heap.size (.int .i64 0) (.string x.name) (.slice none 0 0) := Box3.made W _ _ _
      have BA : Below W.heap.size W (W.alloc (.cells #[.int .i64 0, .string x.name, .slice none 0 0] 24)) := (Below.refl _ _).alloc (Nat.le_refl _) _
      have Z4 := HY4.out.below BA; have Z6 := HY6.out.below BA
      have HZ4 := Lib.hid Z4; have HZ6 := Lib.hid Z6; have HZ0 := Lib.hid Z0
      have HRB := Lib.hid (HRW.out.keep BA)
      have HTB := Lib.hid (HTW.out.keep (Keeps.below BA ok))
      have HWB := Lib.hid (HBW.out.trans (BA.mono HBW.out.size))
      have hsb : (W.alloc (.cells #[.int .i64 0, .string x.name, .slice none 0 0] 24)).heap.size = W.heap.size + 1 := by simp
      have HSB := Lib.hid hsb
      have hWW : w.heap.size + 1 < W.heap.size := HY6.out.lt
      have HXA : Hid (∀ i (h : i < x.args.length), Fit B.length x.args[i]) := Lib.hid fun i h => HFX.out.arg (List.getElem_mem h)
      have hxl : x.args.length ≤ 100000 := HFX.out.len
      have HXF := Lib.hid HF1.out.2
      clear Z0 BA Z4 Z6 hsb hsw
      generalize W.alloc (.cells #[.int .i64 0, .string x.name, .slice none 0 0] 24) = wb at *
      go_loopw [9, 11] (fun y9 y11 wr => ∃ (i : Nat) (L : List TmAt) (y : Value) (r nn : Nat), i ≤ x.args.length ∧ y11 = .int .i64 i ∧ y9 = .int .i64 nn ∧ nn + r = m + 1 ∧ r ≤ m ∧ Hid (thrL (subB (B.map (·.1))) m (x.args.take i) = some (L.map (·.1), r)) ∧ BldRel wb ok W.heap.size x.name L y wr) (fun _ y11 _ => x.args.length - (intOf y11).toNat)
      case atStart => exact ⟨0, [], .slice none 0 0, m, 1, Nat.zero_le _, rfl, rfl, by omega, Nat.le_refl _, Lib.hid (thrL_nil _ _), BldRel.start HZ0.out⟩
      case round =>
        obtain ⟨i, L, y, r, nn, hi, rfl, rfl, hnr, hr, HTH, hrel⟩ := hrel
        have HR := Lib.hid hrel
        obtain ⟨xa, xc, rfl⟩ := hrel.form
        have z4 := (HZ4.out.keep (hrel.touch.block _ HZ4.out.lt (by omega))).c2
        have z6 := (HZ6.out.keep (hrel.touch.block _ HZ6.out.lt (by omega))).all
        have q0 := hrel.box.c0; have q1 := hrel.box.c1; have q2 := hrel.box.c2; have qf := hrel.box.fz
        have KB : Hid (Keeps ok wb wr) := Lib.hid (hrel.touch.keeps fun b hb e => by have := HOK.out b hb; omega)
        have hwr : W.heap.size < wr.heap.size := hrel.box.lt
        have HLl : Hid (L.length = i) := Lib.hid (by
          have := (thrL_le _ _ _ HTH.out).2
          rw [List.length_map, List.length_take] at this; omega)
        clear hrel
        have hsub : (m : Int) + 1 - (nn : Int) = (r : Int) := by omega
        have hnn : (nn : Int) ≤ 1002 := by omega
        have hnn0 : (0 : Int) ≤ (nn : Int) := by omega
        by_cases hlt : i < x.args.length
        · obtain ⟨b, off, a', cap', rfl, hokb, hbs, hc, ht⟩ := HTB.out.at i hlt
          have m0 := (KB.out.cell (p := ⟨b, off + i * 3, none⟩) hokb hbs).trans hc.var
          have m1 := (KB.out.cell (p := ⟨b, off + i * 3 + 1, none⟩) hokb hbs).trans hc.name
          have m2 := (KB.out.cell (p := ⟨b, off + i * 3 + 2, none⟩) hokb hbs).trans hc.args
          have HRA : Hid (RAt wr ok rs g cap B wk) := Lib.hid (HRB.out.touch HR.out.touch fun b e => by have := HST.out.lt; subst e; exact ⟨by omega, by omega, fun hk => by have := HOK.out _ hk; omega⟩)
          have HCL := Lib.hid (IH.out r (by omega) x.args[i] a' cap' wr (by omega) HRA.out hc.fits (ht.keep KB.out) (HXA.out i hlt))
          have HSP : Hid (thrL (subB (B.map (·.1))) m (x.args.take (i + 1)) = (thrL (subB (B.map (·.1))) r [x.args[i]]).map fun z => (L.map (·.1) ++ z.1, z.2)) := Lib.hid (by
            rw [List.take_succ_eq_append_getElem hlt, thrL_append, HTH.out]; rfl)
          have HSQ : Hid (thrL (subB (B.map (·.1))) r [x.args[i]] = none → thrL (subB (B.map (·.1))) m x.args = none) := Lib.hid (fun hn => by
            rw [← List.take_append_drop (i + 1) x.args, thrL_append, HSP.out, hn]; rfl)
          have HLE := Lib.hid (fun z => thrL_le (σ := subB (B.map (·.1))) r [x.args[i]] z)
          clear hc ht
          generalize thrL (subB (B.map (·.1))) r [x.args[i]] = o at *
          cases o with
          | none =>
            have HQ := Lib.hid (HSQ.out rfl)
            clear HSQ HSP
            go_wp2_with (go_at_call 72; refine HCL.out.mono ?_; rintro e w3 ⟨rfl, hb3⟩; have HB3 := Lib.hid hb3; have hl3 : w.heap.size + 1 < w3.heap.size := (by have := hb3.size; omega); obtain ⟨z0, z1, z2, zf⟩ := (HZ6.out.keep ((hb3.block _ (by omega)).trans (HR.out.touch.block _ HZ6.out.lt (by omega)))).all; clear hb3)
            rw [HO.out, HQ.out]
            have BF : Below w.heap.size w w3 := (HWB.out.trans (HR.out.touch.toBelow HWB.out.size (fun b e => by omega))).trans (HB3.out.mono (by omega))
            exact bodyPost_ret (v := .tuple #[.agg #[.int .i64 0, .string ⟨#[]⟩, .slice none 0 0], .int .i64 ((nn : Int) + ((r : Int) + 1)), .bool false]) (by simp [results, Try.results72, go_sem, z0, z1, z2, hl3]) rfl
              ⟨by rw [show (nn : Int) + ((r : Int) + 1) = (((m + 1 : Nat) : Int) + 1) by omega], by repeat' (first | (with_reducible exact BF) | (with_reducible refine below_put ?_ ?_ _ _ _) | (with_reducible refine Below.alloc ?_ ?_ _) | omega | (simp only [aSz]; omega) | (simp only [sSz]; omega))⟩
          | some z =>
            obtain ⟨T, a3, c3, hz1, hz2⟩ : ∃ (T : Tm) (a3 : Option Addr) (c3 : Nat), z.1 = [T] ∧ True := by
              have := (HLE.out z rfl).2
              simp only [List.length_cons, List.length_nil, Nat.zero_add] at this
              obtain ⟨T, hT⟩ := List.length_eq_one_iff.1 this
              exact ⟨T, none, 0, hT, trivial⟩
            obtain ⟨z1, z2⟩ := z
            simp only at hz1
            subst hz1
            have hzr : z2 ≤ r := (HLE.out _ rfl).1
            have hzi : (r : Int) - (z2 : Int) ≤ 1000 := by omega
            have hzi0 : (0 : Int) ≤ (r : Int) - (z2 : Int) := by omega
            have HNT : Hid (thrL (subB (B.map (·.1))) m (x.args.take (i + 1)) = some (L.map (·.1) ++ [T], z2)) := Lib.hid HSP.out
            clear HSQ HSP HLE
            obtain ⟨i0, hi0, hz0', hz1', hz2'⟩ := info_parts Try.infoTm
            go_wp2_with (first
              | (go_at_call 72; refine HCL.out.mono ?_; rintro e w3 ⟨T', a3, c3, hTT, rfl, hf3, ht3, hb3⟩; obtain rfl : T = T' := (by simpa using hTT); have hl3 : W.heap.size < w3.heap.size := (by have := hb3.size; omega); obtain ⟨z0, zz1, zz2, zf⟩ := (HZ6.out.keep ((hb3.block _ (by omega)).trans (HR.out.touch.block _ HZ6.out.lt (by omega)))).all; have k2 := (HR.out.box.below hb3).c2; have kf := (HR.out.box.below hb3).fz; have HF3 := Lib.hid hf3; have HT3 := Lib.hid ht3; have HB3 := Lib.hid hb3; have HO1 := Lib.hid (((ownsRow_below HR.out.own.own hb3).alloc (.cells #[.int .i64 T.var, .string T.name, .slice a3 T.args.length c3] 24)).alloc (.cells #[.int .i64 T.var, .string T.name, .slice a3 T.args.length c3] 24)); clear hf3 ht3 hb3 hTT)
              | (at_builtin; have _g := HO1; refine wpList_append_opt _ rfl _ _ 22 rfl wb.heap.size 24 i0 _ 3 48 Try.underlying22 hi0 hz0' hz1' hz2' rfl (by decide) _ _ _ rfl HO1.out (some ⟨w3.heap.size + 1, 0, none⟩) 1 1 ?d0 (flat [(T, a3, c3)]) rfl (by rw [flat_length]; rfl) ?d1 (flat_one _) ?d2 ?d3 ?d4 ?_))
            · intro h; cases h
            · exact news3 _ T a3 c3 (by simp)
            · have := HLl.out; unfold maxLen; omega
            · have := HLl.out; omega
            · have := HR.out.touch.size; have := HB3.out.size; simp only [aSz]; omega
            · intro v4 w4 hown4 hgrow4 hfr4
              have HNX := Lib.hid (HR.out.next (fun b hb => by have := HOK.out b hb; have := HSB.out; omega) (Nat.le_refl _) HB3.out HF3.out HT3.out (((Below.refl _ _).alloc (Nat.le_refl _) _).alloc (by simp only [aSz]; omega) _) hown4 hgrow4 hfr4)
              obtain ⟨g4, cap4, rfl⟩ := own_shape hown4 (by omega)
              have s2 := HNX.out.1.c2
              have sf := HNX.out.1.fz
              clear hown4 hgrow4 hfr4 k2 kf z0 zz1 zz2 zf
              go_wp2_with fail
              go_roundw
              case measure => simp [intOf]; omega
              case rel => exact ⟨i + 1, L ++ [(T, a3, c3)], _, z2, nn + (r - z2), by omega, by go_num, by congr 1; omega, by omega, by omega, Lib.hid (by rw [HNT.out, List.map_append]; rfl), HNX.out.2⟩
        · obtain ⟨z60, z61, z62, z63⟩ := z6
          have HTA : Hid (thrL (subB (B.map (·.1))) m x.args = some (L.map (·.1), r)) := Lib.hid (by
            have := HTH.out
            rwa [List.take_of_length_le (by omega)] at this)
          have HD := Lib.hid (HR.out.done (w := w) (br := w.heap.size + 1) (t := .mk 0 x.name (L.map (·.1))) HWB.out (by omega) (by omega) (by have := HSB.out; omega) HOK.out HXF.out rfl)
          go_wp2_with fail
          rw [HO.out, HTA.out]
          obtain ⟨a9, c9, he, hf9, ht9, hb9⟩ := HD.out
          exact bodyPost_ret (v := .tuple #[.agg #[.int .i64 0, .string x.name, .slice xa L.length xc], .int .i64 nn, .bool true]) (by simp [results, Try.results72, go_sem, z60, z61, z62]) rfl
            ⟨.mk 0 x.name (L.map (·.1)), a9, c9, rfl, by
              injection he with he
              rw [← he, show (((m + 1 : Nat) : Int) - (r : Int)) = (nn : Int) by omega], hf9, ht9, hb9⟩
    · have HO : Hid (thrL (subB (B.map (·.1))) (m + 1) [t] = some ([VarT (look (subB (B.map (·.1))) t).var], m)) := Lib.hid (by rw [thrL_var hv, thrL_nil]; rfl)
      have hbare := (HFX.out.wf _ (Tm.self_mem _)).2 hv
      have hsw : (((w1.setCell ⟨w.heap.size, 0, none⟩ (.int .i64 (look (subB (B.map (·.1))) t).var)).setCell ⟨w.heap.size, 1, none⟩ (.string (look (subB (B.map (·.1))) t).name)).setCell ⟨w.heap.size, 2, none⟩ (.slice a1 (look (subB (B.map (·.1))) t).args.length c1)).heap.size = w1.heap.size := by simp [World.setCell]
      generalize (((w1.setCell ⟨w.heap.size, 0, none⟩ (.int .i64 (look (subB (B.map (·.1))) t).var)).setCell ⟨w.heap.size, 1, none⟩ (.string (look (subB (B.map (·.1))) t).name)).setCell ⟨w.heap.size, 2, none⟩ (.slice a1 (look (subB (B.map (·.1))) t).args.length c1)) = W at *
      generalize look (subB (B.map (·.1))) t = x at *
      rw [← hsw] at *
      clear HN HLK HB1 HT1 HX4 HX6 hlt1
      have Z0 : Box3 (W.alloc (.cells #[.int .i64 x.var, .string x.name, .slice none 0 0] 24)) W.heap.size (.int .i64 x.var) (.string x.name) (.slice none 0 0) := Box3.made W _ _ _
      have BA : Below W.heap.size W (W.alloc (.cells #[.int .i64 x.var, .string x.name, .slice none 0 0] 24)) := (Below.refl _ _).alloc (Nat.le_refl _) _
      have Z4 := HY4.out.below BA; have Z6 := HY6.out.below BA
      have HWB := Lib.hid (HBW.out.trans (BA.mono HBW.out.size))
      have hWW : w.heap.size + 1 < W.heap.size := HY6.out.lt
      have z4 := Z4.c2; have z60 := Z6.c0; have z61 := Z6.c1; have z62 := Z6.c2; have z63 := Z6.fz
      have q0 := Z0.c0; have q1 := Z0.c1; have q2 := Z0.c2; have qf := Z0.fz
      have hlt6 := Z6.lt
      have hl0 : x.args.length = 0 := by rw [hbare.1]; rfl
      have HNM := Lib.hid hbare.2
      have HI := Lib.hid HF1.out.1
      clear Z0 BA Z4 Z6 hsw hbare hv
      generalize W.alloc (.cells #[.int .i64 x.var, .string x.name, .slice none 0 0] 24) = wb at *
      go_loopw [9, 11] (fun y9 y11 wr => y9 = .int .i64 1 ∧ y11 = .int .i64 0 ∧ Hid (wr = wb)) (fun _ _ _ => 0)
      case atStart => exact ⟨rfl, rfl, Lib.hid rfl⟩
      case round =>
        obtain ⟨rfl, rfl, hw⟩ := hrel
        obtain rfl := hw.out
        clear hw
        go_wp2_with fail
        rw [HO.out]
        exact bodyPost_ret (v := .tuple #[.agg #[.int .i64 x.var, .string x.name, .slice none 0 0], .int .i64 1, .bool true]) (by simp [results, Try.results72, go_sem, z60, z61, z62]) rfl
          ⟨VarT x.var, none, 0, rfl, by
            rw [HNM.out, show (((m + 1 : Nat) : Int) - (m : Int)) = 1 by omega]; rfl, ⟨HI.out, Nat.zero_le _⟩, Ts.empty' _ _, below_put HWB.out (by omega) _ _ _⟩

end Go.Proofs.Ytikmgiapjigghaa
