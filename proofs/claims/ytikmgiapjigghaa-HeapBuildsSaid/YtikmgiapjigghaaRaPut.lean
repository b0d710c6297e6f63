/- Walks: PutIn. (Printed by a small program.) -/
import Derived.Test.YtikmgiapjigghaaRa11
import Derived.Test.YtikmgiapjigghaaRa10
namespace Go.Proofs.Ytikmgiapjigghaa
open Go.RowKit

set_option maxRecDepth 100000 in
set_option maxHeartbeats 2000000 in
theorem PutInW {S : Int → Tm} {B : List Tm} {ba : Option Addr} {bc : Nat} (hS : ∀ i (h : i < B.length), S ((i : Int) + 1) = B[i]) (t : Tm) : ∀ (w : World) (ok : Nat → Prop) (a : Option Addr) (cap : Nat), (∀ b, ok b → b < w.heap.size) → t.size ≤ 100000 → t.fits → Ts w ok t.args a cap → (∀ p, p ∈ t.parts → p.var ≠ 0 → 1 ≤ p.var ∧ p.var.toNat ≤ B.length) ∧ Ts w ok B ba bc →
    Calls Try.prog 27 #[.agg #[.int .i64 t.var, .string t.name, .slice a t.args.length cap], .slice ba B.length bc] w (RetNew w ok (Tm.putIn S t)) := by
  induction t using Tm.ind with
  | h v n l ih =>
    intro w ok a cap hok hsize hfit hrd hx
    have IH := Lib.hid ih; have HOK := Lib.hid hok; have HF := Lib.hid hfit; have HX := Lib.hid hx; have HSIZE := Lib.hid hsize
    simp only [Tm.var, Tm.name, Tm.args] at hrd ⊢
    have HRD := Lib.hid hrd
    have hcl : l.length ≤ 100000 := by
      have h1 := hsize
      simp only [Tm.size] at h1
      have := Tm.length_le_sizes l; omega
    clear ih hok hfit hx hrd hsize
    by_cases hv : v = 0
    · subst hv
      have HRES : Hid (Tm.putIn S (.mk 0 n l) = .mk 0 n (l.map (Tm.putIn S))) := Lib.hid (Tm.putIn_fn (by rfl))
      go_enter Try.func27, Try.ntmps27
      go_wp2_with fail
      have BB : Below w.heap.size w (((w.alloc (.cells #[.int .i64 0, .string n, .slice a l.length cap] 24)).alloc (.cells #[.int .i64 0, .string ⟨#[]⟩, .slice none 0 0] 24)).alloc (.cells #[.int .i64 0, .string n, .slice none 0 0] 24)) := (((Below.refl _ _).alloc (Nat.le_refl _) _).alloc (by simp) _).alloc (by simp; omega) _
      have B2 : Box3 (((w.alloc (.cells #[.int .i64 0, .string n, .slice a l.length cap] 24)).alloc (.cells #[.int .i64 0, .string ⟨#[]⟩, .slice none 0 0] 24)).alloc (.cells #[.int .i64 0, .string n, .slice none 0 0] 24)) w.heap.size (.int .i64 0) (.string n) (.slice a l.length cap) := ((Box3.made w _ _ _).alloc _).alloc _
      have B4 : Box3 (((w.alloc (.cells #[.int .i64 0, .string n, .slice a l.length cap] 24)).alloc (.cells #[.int .i64 0, .string ⟨#[]⟩, .slice none 0 0] 24)).alloc (.cells #[.int .i64 0, .string n, .slice none 0 0] 24)) (w.heap.size + 1) (.int .i64 0) (.string ⟨#[]⟩) (.slice none 0 0) := (Box3.made2 (by simp)).alloc _
      have B5 : Box3 (((w.alloc (.cells #[.int .i64 0, .string n, .slice a l.length cap] 24)).alloc (.cells #[.int .i64 0, .string ⟨#[]⟩, .slice none 0 0] 24)).alloc (.cells #[.int .i64 0, .string n, .slice none 0 0] 24)) (w.heap.size + 1 + 1) (.int .i64 0) (.string n) (.slice none 0 0) := Box3.made2 (by simp)
      have hsz : (((w.alloc (.cells #[.int .i64 0, .string n, .slice a l.length cap] 24)).alloc (.cells #[.int .i64 0, .string ⟨#[]⟩, .slice none 0 0] 24)).alloc (.cells #[.int .i64 0, .string n, .slice none 0 0] 24)).heap.size = w.heap.size + 3 := by simp
      have HBB := Lib.hid BB; have HB2 := Lib.hid B2; have HB4 := Lib.hid B4; have HB5 := Lib.hid B5; have HSZ := Lib.hid hsz
      clear BB B2 B4 B5 hsz
      generalize (((w.alloc (.cells #[.int .i64 0, .string n, .slice a l.length cap] 24)).alloc (.cells #[.int .i64 0, .string ⟨#[]⟩, .slice none 0 0] 24)).alloc (.cells #[.int .i64 0, .string n, .slice none 0 0] 24)) = wb at *
      go_loopw [6] (fun y wr => ∃ (k : Nat) (L : List TmAt) (x : Value), k ≤ l.length ∧ y = .int .i64 k ∧ L.map (·.1) = (l.take k).map (Tm.putIn S) ∧ BldRel wb ok (w.heap.size + 1 + 1) n L x wr) (fun y _ => l.length - (intOf y).toNat)
      case atStart => exact ⟨0, [], .slice none 0 0, Nat.zero_le _, rfl, rfl, BldRel.start HB5.out⟩
      case round =>
        obtain ⟨k, L, x, hk, rfl, hL, hrel⟩ := hrel
        have HL := Lib.hid hL; have HR := Lib.hid hrel
        obtain ⟨xa, xc, rfl⟩ := hrel.form
        have p2 := (HB2.out.keep (hrel.touch.block _ HB2.out.lt (by omega))).c2
        have q4 := (HB4.out.keep (hrel.touch.block _ HB4.out.lt (by omega))).all
        have q0 := hrel.box.c0; have q1 := hrel.box.c1; have q2 := hrel.box.c2; have qf := hrel.box.fz
        have hLk : L.length = k := by
          have := congrArg List.length hL
          rw [List.length_map, List.length_map, List.length_take] at this; omega
        have HLK := Lib.hid hLk
        have HSW : Hid (w.heap.size + 3 ≤ wr.heap.size) := Lib.hid (by have := hrel.touch.size; have := HSZ.out; omega)
        have HBR : Hid (Below w.heap.size w wr) := Lib.hid (HBB.out.trans (hrel.touch.toBelow HBB.out.size (fun b e => by omega)))
        clear hrel hL hLk
        by_cases hlt : k < l.length
        · obtain ⟨b, off, a', cap', rfl, hokb, hbs, hc, ht⟩ := HRD.out.at k hlt
          have m0 := (HBR.out.cell (p := ⟨b, off + k * 3, none⟩) hbs).trans hc.var
          have m1 := (HBR.out.cell (p := ⟨b, off + k * 3 + 1, none⟩) hbs).trans hc.name
          have m2 := (HBR.out.cell (p := ⟨b, off + k * 3 + 2, none⟩) hbs).trans hc.args
          have hk0 : (0 : Int) ≤ (k : Int) := by omega
          have hk1 : (k : Int) < (l.length : Int) := by omega
          have hmem : l[k] ∈ l := List.getElem_mem hlt
          have HC := Lib.hid hc.fits; have HTS := Lib.hid ht
          clear hc ht
          obtain ⟨i0, hi, hz0, hz1, hz2⟩ := info_parts Try.infoTm
          have HCL : Hid (∀ u, Below wr.heap.size wr u → Calls Try.prog 27 #[.agg #[.int .i64 l[k].var, .string l[k].name, .slice a' l[k].args.length cap'], .slice ba B.length bc] u (RetNew u ok (Tm.putIn S l[k]))) := Lib.hid fun u hu =>
            IH.out _ hmem u ok a' cap' (fun b hb => by have := HOK.out b hb; have := hu.size; have := HSW.out; omega) (Tm.size_arg HSIZE.out k hlt) HC.out (HTS.out.keep ((Keeps.below HBR.out ok).trans (Keeps.below hu ok))) ⟨fun p hp => HX.out.1 p (Tm.parts_arg (t := .mk 0 n l) hmem hp), HX.out.2.keep ((Keeps.below HBR.out ok).trans (Keeps.below hu ok))⟩
          go_wp2_with fail
          go_region_law (first
            | (go_simp
               go_at_call 27
               refine (HCL.out _ ?_).mono ?_
               · exact (Below.refl _ _).drew
               rintro e w1 ⟨a2, c2, rfl, hf2, ht2, hb2⟩
               have HB : Below wr.heap.size wr w1 := ((Below.refl _ _).drew).trans hb2
               have r0 : w1.cell? ⟨w.heap.size + 1 + 1, 2, none⟩ = some (.slice xa L.length xc) := (HR.out.box.below HB).c2
               have z1 : w.heap.size + 1 + 1 < w1.heap.size := (HR.out.box.below HB).lt
               have HO1 := Lib.hid ((ownsRow_below HR.out.own.own HB).alloc (.cells #[.int .i64 (Tm.putIn S l[k]).var, .string (Tm.putIn S l[k]).name, .slice a2 (Tm.putIn S l[k]).args.length c2] 24))
               have HN1 : Hid (∀ j u, (flat [(Tm.putIn S l[k], a2, c2)])[j]? = some u → (w1.alloc (.cells #[.int .i64 (Tm.putIn S l[k]).var, .string (Tm.putIn S l[k]).name, .slice a2 (Tm.putIn S l[k]).args.length c2] 24)).cell? ((⟨w1.heap.size, 0, none⟩ : Addr).add j) = some u) := Lib.hid (by
                 have ho := World.ownsRow_lit (base := w1.heap.size) (e := 24) (size := 3) w1 #[.int .i64 (Tm.putIn S l[k]).var, .string (Tm.putIn S l[k]).name, .slice a2 (Tm.putIn S l[k]).args.length c2] 1 (Nat.le_refl _) (by unfold maxLen; omega) rfl
                 exact ho.cells (g := w1.heap.size) rfl)
               have HF2 := Lib.hid hf2
               have HT2 := Lib.hid ht2
               have HB1 := Lib.hid HB
               clear hf2 ht2 hb2 HB)
            | (have _g := HO1
               refine step_append_opt _ (by rfl) _ _ _ (by rfl) wb.heap.size 24 i0 _ 3 48 Try.underlying22 hi hz0 hz1 hz2 rfl (by decide) (.slice xa L.length xc) L.length (flat L) (by rfl) HO1.out (some ⟨w1.heap.size, 0, none⟩) 1 1 (by intro h; cases h) (flat [(Tm.putIn S l[k], a2, c2)]) (by rfl) (by rw [flat_length]; rfl) (by intro ad had; cases had; exact HN1.out) (flat_one _) (by have := HLK.out; unfold maxLen; omega) (by have := HLK.out; omega) (by have := HR.out.touch.size; have := HB1.out.size; simp; omega) ?_
               intro v3 w3 hown3 hgrow3 hfr3
               have HNX := Lib.hid (HR.out.next (fun b hb => by have := HOK.out b hb; have := HSZ.out; omega) (show wr.heap.size ≤ wr.drew.heap.size from Nat.le_refl _) HB1.out HF2.out HT2.out ((Below.refl _ _).alloc (Nat.le_refl _) _) hown3 hgrow3 hfr3)
               obtain ⟨g3, cap3, rfl⟩ := own_shape hown3 (by omega)
               have s2 : w3.cell? ⟨w.heap.size + 1 + 1, 2, none⟩ = some (.slice xa L.length xc) := HNX.out.1.c2
               have sf : ∀ o, w3.frozen? ⟨w.heap.size + 1 + 1, o, none⟩ = false := HNX.out.1.fz
               clear hown3 hgrow3 hfr3))
          all_goals
            go_wp2_with fail
            go_roundw
            case measure => simp [intOf]; omega
            case rel => exact ⟨k + 1, _, _, by omega, by go_num, by rw [List.map_append, HL.out, List.take_succ_eq_append_getElem hlt, List.map_append]; rfl, HNX.out.2⟩
        · have HLE : Hid (l.take k = l) := Lib.hid (List.take_of_length_le (by omega))
          obtain ⟨q40, q41, q42, q43⟩ := q4
          go_wp2_with fail
          have HD := Lib.hid (HR.out.done (br := w.heap.size + 1) (t := .mk 0 n (l.map (Tm.putIn S))) HBB.out (by omega) (by omega) (by have := HSZ.out; omega) HOK.out HF.out.2 (by rw [HL.out, HLE.out]))
          rw [HRES.out]
          exact bodyPost_ret (v := .agg #[.int .i64 0, .string n, .slice xa L.length xc]) (by simp [results, Try.results27, go_sem, q40, q41, q42]) rfl HD.out
    · have hv1 : (v != 0) = true := by rw [bne_iff_ne]; exact hv
      have hx := HX.out.1 _ (Tm.self_mem (.mk v n l)) hv
      simp only [Tm.var] at hx
      obtain ⟨i, hi⟩ : ∃ i : Nat, (i : Int) + 1 = v := ⟨v.toNat - 1, by omega⟩
      have hlt : i < B.length := by omega
      subst hi
      have hBl : B.length ≤ 9223372036854775807 := by have := HX.out.2.cap; unfold maxLen at this; omega
      have hv0 : (0 : Int) ≤ (i : Int) := by omega
      have hvn : (i : Int) < (B.length : Int) := by omega
      obtain ⟨b, off, a', cap', rfl, hokb, hbs, hc, ht⟩ := HX.out.2.at i hlt
      have BB : Below w.heap.size w ((w.alloc (.cells #[.int .i64 ((i : Int) + 1), .string n, .slice a l.length cap] 24)).alloc (.cells #[.int .i64 0, .string ⟨#[]⟩, .slice none 0 0] 24)) := ((Below.refl _ _).alloc (Nat.le_refl _) _).alloc (by simp) _
      have m0 := (BB.cell (p := ⟨b, off + i * 3, none⟩) hbs).trans hc.var
      have m1 := (BB.cell (p := ⟨b, off + i * 3 + 1, none⟩) hbs).trans hc.name
      have m2 := (BB.cell (p := ⟨b, off + i * 3 + 2, none⟩) hbs).trans hc.args
      have HC := Lib.hid hc.fits; have HT := Lib.hid ht
      have HRES : Hid (Tm.putIn S (.mk ((i : Int) + 1) n l) = B[i]) := Lib.hid (by rw [Tm.putIn_var (by exact hv)]; exact hS i hlt)
      clear hx hv BB hc ht
      go_enter Try.func27, Try.ntmps27
      go_wp2_with fail
      rw [HRES.out]
      have BB2 : Below w.heap.size w ((w.alloc (.cells #[.int .i64 ((i : Int) + 1), .string n, .slice a l.length cap] 24)).alloc (.cells #[.int .i64 B[i].var, .string B[i].name, .slice a' B[i].args.length cap'] 24)) := ((Below.refl _ _).alloc (Nat.le_refl _) _).alloc (by simp) _
      exact bodyPost_ret (v := .agg #[.int .i64 B[i].var, .string B[i].name, .slice a' B[i].args.length cap']) (by simp [results, Try.results27, go_sem]) rfl ⟨a', cap', rfl, HC.out, (HT.out.keep (Keeps.below BB2 ok)).mono (fun b _ hb => .inl hb), BB2⟩

end Go.Proofs.Ytikmgiapjigghaa
