/- Walks: Named. (Printed by a small program.) -/
import Derived.Test.YtikmgiapjigghaaBld
namespace Go.Proofs.Ytikmgiapjigghaa
open Go.RowKit

theorem Tm.length_le_sizes (l : List Tm) : l.length ≤ Tm.sizes l := by
  induction l with
  | nil => exact Nat.zero_le _
  | cons t r ih => simp only [Tm.sizes, List.length_cons]; have := t.size_pos; omega

theorem Box3.made2 {X : World} {b : Nat} {x0 x1 x2 : Value} (h : b = X.heap.size) : Box3 (X.alloc (.cells #[x0, x1, x2] 24)) b x0 x1 x2 := by subst h; exact Box3.made X _ _ _

set_option maxRecDepth 100000 in
set_option maxHeartbeats 2000000 in
theorem NamedW {N : Nat → Int} {nb no nn nc : Nat} (t : Tm) : ∀ (w : World) (ok : Nat → Prop) (a : Option Addr) (cap : Nat), (∀ b, ok b → b < w.heap.size) → t.size ≤ 100000 → t.fits → Ts w ok t.args a cap → (∀ p, p ∈ t.parts → p.var ≠ 0 → 0 ≤ p.var ∧ p.var.toNat < nn) ∧ (∀ i, i < nn → w.cell? ⟨nb, no + i, none⟩ = some (.int .i64 (N i)) ∧ I64 (N i)) →
    Calls Try.prog 73 #[.agg #[.int .i64 t.var, .string t.name, .slice a t.args.length cap], .slice (some ⟨nb, no, none⟩) nn nc] w (RetNew w ok (Tm.mapv (fun x => N x.toNat) t)) := by
  induction t using Tm.ind with
  | h v n l ih =>
    intro w ok a cap hok hsize hfit hrd hx
    have IH := Lib.hid ih; have HOK := Lib.hid hok; have HF := Lib.hid hfit; have HX := Lib.hid hx; have HSIZE := Lib.hid hsize
    simp only [Tm.var, Tm.name, Tm.args] at hrd ⊢
    have HRD := Lib.hid hrd
    have hcl : l.length ≤ 100000 := by
      have h1 := hsize
      simp only [Tm.size] at h1
      have := Tm.length_le_sizes l; omega
    clear ih hok hfit hx hrd hsize
    by_cases hv : v = 0
    · subst hv
      have HRES : Hid (Tm.mapv (fun x => N x.toNat) (.mk 0 n l) = .mk 0 n (l.map (Tm.mapv (fun x => N x.toNat)))) := Lib.hid (Tm.mapv_fn (by rfl))
      go_enter Try.func73, Try.ntmps73
      go_wp2_with fail
      have BB : Below w.heap.size w (((w.alloc (.cells #[.int .i64 0, .string n, .slice a l.length cap] 24)).alloc (.cells #[.int .i64 0, .string ⟨#[]⟩, .slice none 0 0] 24)).alloc (.cells #[.int .i64 0, .string n, .slice none 0 0] 24)) := (((Below.refl _ _).alloc (Nat.le_refl _) _).alloc (by simp) _).alloc (by simp; omega) _
      have B2 : Box3 (((w.alloc (.cells #[.int .i64 0, .string n, .slice a l.length cap] 24)).alloc (.cells #[.int .i64 0, .string ⟨#[]⟩, .slice none 0 0] 24)).alloc (.cells #[.int .i64 0, .string n, .slice none 0 0] 24)) w.heap.size (.int .i64 0) (.string n) (.slice a l.length cap) := ((Box3.made w _ _ _).alloc _).alloc _
      have B4 : Box3 (((w.alloc (.cells #[.int .i64 0, .string n, .slice a l.length cap] 24)).alloc (.cells #[.int .i64 0, .string ⟨#[]⟩, .slice none 0 0] 24)).alloc (.cells #[.int .i64 0, .string n, .slice none 0 0] 24)) (w.heap.size + 1) (.int .i64 0) (.string ⟨#[]⟩) (.slice none 0 0) := (Box3.made2 (by simp)).alloc _
      have B5 : Box3 (((w.alloc (.cells #[.int .i64 0, .string n, .slice a l.length cap] 24)).alloc (.cells #[.int .i64 0, .string ⟨#[]⟩, .slice none 0 0] 24)).alloc (.cells #[.int .i64 0, .string n, .slice none 0 0] 24)) (w.heap.size + 1 + 1) (.int .i64 0) (.string n) (.slice none 0 0) := Box3.made2 (by simp)
      have hsz : (((w.alloc (.cells #[.int .i64 0, .string n, .slice a l.length cap] 24)).alloc (.cells #[.int .i64 0, .string ⟨#[]⟩, .slice none 0 0] 24)).alloc (.cells #[.int .i64 0, .string n, .slice none 0 0] 24)).heap.size = w.heap.size + 3 := by simp
      have HBB := Lib.hid BB; have HB2 := Lib.hid B2; have HB4 := Lib.hid B4; have HB5 := Lib.hid B5; have HSZ := Lib.hid hsz
      clear BB B2 B4 B5 hsz
      generalize (((w.alloc (.cells #[.int .i64 0, .string n, .slice a l.length cap] 24)).alloc (.cells #[.int .i64 0, .string ⟨#[]⟩, .slice none 0 0] 24)).alloc (.cells #[.int .i64 0, .string n, .slice none 0 0] 24)) = wb at *
      go_loopw [6] (fun y wr => ∃ (k : Nat) (L : List TmAt) (x : Value), k ≤ l.length ∧ y = .int .i64 k ∧ L.map (·.1) = (l.take k).map (Tm.mapv (fun x => N x.toNat)) ∧ BldRel wb ok (w.heap.size + 1 + 1) n L x wr) (fun y _ => l.length - (intOf y).toNat)
      case atStart => exact ⟨0, [], .slice none 0 0, Nat.zero_le _, rfl, rfl, BldRel.start HB5.out⟩
      case round =>
        obtain ⟨k, L, x, hk, rfl, hL, hrel⟩ := hrel
        have HL := Lib.hid hL; have HR := Lib.hid hrel
        obtain ⟨xa, xc, rfl⟩ := hrel.form
        have p2 := (HB2.out.keep (hrel.touch.block _ HB2.out.lt (by omega))).c2
        have q4 := (HB4.out.keep (hrel.touch.block _ HB4.out.lt (by omega))).all
        have q0 := hrel.box.c0; have q1 := hrel.box.c1; have q2 := hrel.box.c2; have qf := hrel.box.fz
        have hLk : L.length = k := by
          have := congrArg List.length hL
          rw [List.length_map, List.length_map, List.length_take] at this; omega
        have HLK := Lib.hid hLk
        have HSW : Hid (w.heap.size + 3 ≤ wr.heap.size) := Lib.hid (by have := hrel.touch.size; have := HSZ.out; omega)
        have HBR : Hid (Below w.heap.size w wr) := Lib.hid (HBB.out.trans (hrel.touch.toBelow HBB.out.size (fun b e => by omega)))
        clear hrel hL hLk
        by_cases hlt : k < l.length
        · obtain ⟨b, off, a', cap', rfl, hokb, hbs, hc, ht⟩ := HRD.out.at k hlt
          have m0 := (HBR.out.cell (p := ⟨b, off + k * 3, none⟩) hbs).trans hc.var
          have m1 := (HBR.out.cell (p := ⟨b, off + k * 3 + 1, none⟩) hbs).trans hc.name
          have m2 := (HBR.out.cell (p := ⟨b, off + k * 3 + 2, none⟩) hbs).trans hc.args
          have hk0 : (0 : Int) ≤ (k : Int) := by omega
          have hk1 : (k : Int) < (l.length : Int) := by omega
          have hmem : l[k] ∈ l := List.getElem_mem hlt
          have HC := Lib.hid hc.fits; have HTS := Lib.hid ht
          clear hc ht
          obtain ⟨i0, hi, hz0, hz1, hz2⟩ := info_parts Try.infoTm
          have HCL : Hid (∀ u, Below wr.heap.size wr u → Calls Try.prog 73 #[.agg #[.int .i64 l[k].var, .string l[k].name, .slice a' l[k].args.length cap'], .slice (some ⟨nb, no, none⟩) nn nc] u (RetNew u ok (Tm.mapv (fun x => N x.toNat) l[k]))) := Lib.hid fun u hu =>
            IH.out _ hmem u ok a' cap' (fun b hb => by have := HOK.out b hb; have := hu.size; have := HSW.out; omega) (Tm.size_arg HSIZE.out k hlt) HC.out (HTS.out.keep ((Keeps.below HBR.out ok).trans (Keeps.below hu ok))) ⟨fun p hp => HX.out.1 p (Tm.parts_arg (t := .mk 0 n l) hmem hp), fun i hi => ⟨((HBR.out.trans (hu.mono HBR.out.size)).cell (p := ⟨nb, no + i, none⟩) (World.block_lt_of_cell? w _ (HX.out.2 i hi).1)).trans (HX.out.2 i hi).1, (HX.out.2 i hi).2⟩⟩
          go_wp2_with fail
          go_region_law (first
            | (go_simp
               go_at_call 73
               refine (HCL.out _ ?_).mono ?_
               · exact (Below.refl _ _).drew
               rintro e w1 ⟨a2, c2, rfl, hf2, ht2, hb2⟩
               have HB : Below wr.heap.size wr w1 := ((Below.refl _ _).drew).trans hb2
               have r0 : w1.cell? ⟨w.heap.size + 1 + 1, 2, none⟩ = some (.slice xa L.length xc) := (HR.out.box.below HB).c2
               have z1 : w.heap.size + 1 + 1 < w1.heap.size := (HR.out.box.below HB).lt
               have HO1 := Lib.hid ((ownsRow_below HR.out.own.own HB).alloc (.cells #[.int .i64 (Tm.mapv (fun x => N x.toNat) l[k]).var, .string (Tm.mapv (fun x => N x.toNat) l[k]).name, .slice a2 (Tm.mapv (fun x => N x.toNat) l[k]).args.length c2] 24))
               have HN1 : Hid (∀ j u, (flat [(Tm.mapv (fun x => N x.toNat) l[k], a2, c2)])[j]? = some u → (w1.alloc (.cells #[.int .i64 (Tm.mapv (fun x => N x.toNat) l[k]).var, .string (Tm.mapv (fun x => N x.toNat) l[k]).name, .slice a2 (Tm.mapv (fun x => N x.toNat) l[k]).args.length c2] 24)).cell? ((⟨w1.heap.size, 0, none⟩ : Addr).add j) = some u) := Lib.hid (by
                 have ho := World.ownsRow_lit (base := w1.heap.size) (e := 24) (size := 3) w1 #[.int .i64 (Tm.mapv (fun x => N x.toNat) l[k]).var, .string (Tm.mapv (fun x => N x.toNat) l[k]).name, .slice a2 (Tm.mapv (fun x => N x.toNat) l[k]).args.length c2] 1 (Nat.le_refl _) (by unfold maxLen; omega) rfl
                 exact ho.cells (g := w1.heap.size) rfl)
               have HF2 := Lib.hid hf2
               have HT2 := Lib.hid ht2
               have HB1 := Lib.hid HB
               clear hf2 ht2 hb2 HB)
            | (have _g := HO1
               refine step_append_opt _ (by rfl) _ _ _ (by rfl) wb.heap.size 24 i0 _ 3 48 Try.underlying22 hi hz0 hz1 hz2 rfl (by decide) (.slice xa L.length xc) L.length (flat L) (by rfl) HO1.out (some ⟨w1.heap.size, 0, none⟩) 1 1 (by intro h; cases h) (flat [(Tm.mapv (fun x => N x.toNat) l[k], a2, c2)]) (by rfl) (by rw [flat_length]; rfl) (by intro ad had; cases had; exact HN1.out) (flat_one _) (by have := HLK.out; unfold maxLen; omega) (by have := HLK.out; omega) (by have := HR.out.touch.size; have := HB1.out.size; simp; omega) ?_
               intro v3 w3 hown3 hgrow3 hfr3
               have HNX := Lib.hid (HR.out.next (fun b hb => by have := HOK.out b hb; have := HSZ.out; omega) (show wr.heap.size ≤ wr.drew.heap.size from Nat.le_refl _) HB1.out HF2.out HT2.out ((Below.refl _ _).alloc (Nat.le_refl _) _) hown3 hgrow3 hfr3)
               obtain ⟨g3, cap3, rfl⟩ := own_shape hown3 (by omega)
               have s2 : w3.cell? ⟨w.heap.size + 1 + 1, 2, none⟩ = some (.slice xa L.length xc) := HNX.out.1.c2
               have sf : ∀ o, w3.frozen? ⟨w.heap.size + 1 + 1, o, none⟩ = false := HNX.out.1.fz
               clear hown3 hgrow3 hfr3))
          all_goals
            go_wp2_with fail
            go_roundw
            case measure => simp [intOf]; omega
            case rel => exact ⟨k + 1, _, _, by omega, by go_num, by rw [List.map_append, HL.out, List.take_succ_eq_append_getElem hlt, List.map_append]; rfl, HNX.out.2⟩
        · have HLE : Hid (l.take k = l) := Lib.hid (List.take_of_length_le (by omega))
          obtain ⟨q40, q41, q42, q43⟩ := q4
          go_wp2_with fail
          have HD := Lib.hid (HR.out.done (br := w.heap.size + 1) (t := .mk 0 n (l.map (Tm.mapv (fun x => N x.toNat)))) HBB.out (by omega) (by omega) (by have := HSZ.out; omega) HOK.out HF.out.2 (by rw [HL.out, HLE.out]))
          rw [HRES.out]
          exact bodyPost_ret (v := .agg #[.int .i64 0, .string n, .slice xa L.length xc]) (by simp [results, Try.results73, go_sem, q40, q41, q42]) rfl HD.out
    · have hv1 : (v != 0) = true := by rw [bne_iff_ne]; exact hv
      have hx := HX.out.1 _ (Tm.self_mem (.mk v n l)) hv
      simp only [Tm.var] at hx
      obtain ⟨i, hi⟩ : ∃ i : Nat, (i : Int) = v := ⟨v.toNat, by omega⟩
      have hin : v.toNat = i := by omega
      have hlt : i < nn := by omega
      have hv0 : (0 : Int) ≤ v := by omega
      have hvn : v < (nn : Int) := by omega
      have hc := (HX.out.2 i hlt).1
      have hnb : nb < w.heap.size := World.block_lt_of_cell? w _ hc
      have hc2 : ((w.alloc (.cells #[.int .i64 v, .string n, .slice a l.length cap] 24)).alloc (.cells #[.int .i64 0, .string ⟨#[]⟩, .slice none 0 0] 24)).cell? ⟨nb, no + i, none⟩ = some (.int .i64 (N i)) := (((Below.refl w.heap.size w).alloc (Nat.le_refl _) (.cells #[.int .i64 v, .string n, .slice a l.length cap] 24)).alloc (by simp) (.cells #[.int .i64 0, .string ⟨#[]⟩, .slice none 0 0] 24)).cell (p := ⟨nb, no + i, none⟩) hnb |>.trans hc
      have HI := Lib.hid (HX.out.2 i hlt).2
      have HRES : Hid (Tm.mapv (fun x => N x.toNat) (.mk v n l) = VarT (N i)) := Lib.hid (by rw [Tm.mapv_var (by exact hv)]; simp only [Tm.var, hin])
      clear hx hv
      go_enter Try.func73, Try.ntmps73
      go_wp2_with fail
      rw [HRES.out]
      exact bodyPost_ret (v := .agg #[.int .i64 (N i), .string ⟨#[]⟩, .slice none 0 0]) (by simp [results, Try.results73, go_sem]) rfl ⟨none, 0, rfl, ⟨HI.out, Nat.zero_le _⟩, Ts.empty' _ _, ((Below.refl _ _).alloc (Nat.le_refl _) _).alloc (by simp) _⟩

end Go.Proofs.Ytikmgiapjigghaa
