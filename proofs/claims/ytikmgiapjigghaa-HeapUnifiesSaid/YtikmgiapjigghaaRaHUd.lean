/- Walk: the statement HeapUnifies. -/
import Derived.Test.YtikmgiapjigghaaRaHmt
import Derived.Test.YtikmgiapjigghaaRa21
namespace Go.Proofs.Ytikmgiapjigghaa
open Go.RowKit

/-- The five things that Unify of a heap answers. -/
def huQ : HUA → List HC × List Nat × Bool × Nat × Nat
  | .err n => ([], [], false, 0, n)
  | .no k => ([], [], false, k, 0)
  | .ok K B k => (K, B, true, k, 0)

theorem HUPost.form {w : World} {o : HUA} {e : Ending} {w' : World} (h : HUPost w o e w') :
    ∃ a c a2 c2, e = .returned (.tuple #[.slice a (huQ o).1.length c, .slice a2 (huQ o).2.1.length c2, .bool (huQ o).2.2.1, .int .i64 (huQ o).2.2.2.1, .int .i64 (huQ o).2.2.2.2]) ∧ HpAt w' (fun b => w.heap.size ≤ b) (huQ o).1 a c ∧ IsAt w' (fun b => w.heap.size ≤ b) ((huQ o).2.1.map fun v : Nat => (v : Int)) a2 c2 ∧ Below w.heap.size w w' := by
  obtain ⟨hb, h⟩ := h
  cases o with
  | err n => exact ⟨none, 0, none, 0, h, HpAt.nil _ _, IsAt.nil _ _, hb⟩
  | no k => exact ⟨none, 0, none, 0, h, HpAt.nil _ _, IsAt.nil _ _, hb⟩
  | ok K B k => obtain ⟨a, c, a2, c2, h1, h2, h3⟩ := h; exact ⟨a, c, a2, c2, h1, h2, h3, hb⟩

theorem isB_two {K : List HC} {x y : Int} : isB K [x, y] = true ↔ (0 ≤ x ∧ x < (K.length : Int)) ∧ 0 ≤ y ∧ y < (K.length : Int) := by
  rw [isB_iff]
  exact ⟨fun h => ⟨h 0 (by simp), h 1 (by simp)⟩, fun h j hj => by
    rcases (by simp at hj; omega : j = 0 ∨ j = 1) with rfl | rfl
    · exact h.1
    · exact h.2⟩

theorem hUA_err {K : List HC} {x y : Int} (h : readyL K [x, y] ≠ 0) : hUA K x y = .err (readyL K [x, y]) := by unfold hUA; rw [if_pos h]

set_option maxRecDepth 100000 in
set_option maxHeartbeats 4000000 in
theorem HeapUnifiesW (K : List HC) (x y : Int) (w : World) (a : Option Addr) (cap : Nat) (h : HpAt w (fun _ => True) K a cap) :
    Calls Try.prog 8 #[.slice a K.length cap, .int .i64 x, .int .i64 y] w fun e w' => e = .returned (.bool true) ∧ Below w.heap.size w w' := by
  have HP := Lib.hid h
  have hcl : K.length ≤ 9223372036854775807 := by have := h.cap; unfold maxLen at this; omega
  clear h
  go_enter Try.func8, Try.ntmps8
  go_wp2_with fail
  refine (HUnifyW HP.out x y).mono ?_
  rintro e w1 hp1
  obtain ⟨a1, c1, a2, c2, he1, hh1, hi1, hb1⟩ := hp1.form
  subst he1
  obtain ⟨rv, hrv⟩ : ∃ rv, readyL K [x, y] = rv := ⟨_, rfl⟩
  obtain ⟨cv, hcv⟩ : ∃ cv, checkH K = cv := ⟨_, rfl⟩
  obtain ⟨qv, hqv⟩ : ∃ qv, huQ (hUA K x y) = qv := ⟨_, rfl⟩
  rw [hqv] at hh1 hi1 ⊢
  obtain ⟨HK, BD, ok, wk, er⟩ := qv
  simp only at hh1 hi1 ⊢
  have HRV := Lib.hid hrv; have HCV := Lib.hid hcv; have HQV := Lib.hid hqv
  have HB1 := Lib.hid hb1; have HH1 := Lib.hid hh1; have HI1 := Lib.hid hi1
  clear hrv hcv hqv hb1 hh1 hi1 hp1
  go_wp2_with fail
  refine (CheckHeapW (HP.out.below HB1.out)).mono ?_
  rintro e w2 ⟨rfl, hb2⟩
  rw [HCV.out]
  have HB2 : Hid (Below w.heap.size w w2) := Lib.hid (HB1.out.trans (hb2.mono HB1.out.size))
  have HH2 := Lib.hid (HH1.out.below hb2); have HI2 := Lib.hid (HI1.out.below hb2)
  clear hb2 HH1 HI1
  obtain ⟨bb, hbb⟩ : ∃ bb : Bool, bb = decide (cv = 0 ∧ ¬ ((0 ≤ x ∧ x < (K.length : Int)) ∧ 0 ≤ y ∧ y < (K.length : Int))) := ⟨_, rfl⟩
  have HBB := Lib.hid hbb
  clear hbb
  go_upto_region 3 with fail
  go_cut [47] (fun v47 wx => v47 = .bool bb ∧ w2 = wx)
  case first =>
    by_cases hc : cv = 0
    · subst hc
      by_cases h0 : x < 0
      · have hd : decide (x < 0) = true := decide_eq_true h0
        go_wp2_with fail
        go_meet
        exact ⟨by rw [show bb = true by rw [HBB.out]; exact decide_eq_true (by refine ⟨?_, ?_⟩; all_goals first | trivial | omega)], rfl⟩
      · have hd : decide (x < 0) = false := decide_eq_false h0
        by_cases h1 : (K.length : Int) ≤ x
        · have hd2 : decide ((K.length : Int) ≤ x) = true := decide_eq_true h1
          go_wp2_with fail
          go_meet
          exact ⟨by rw [show bb = true by rw [HBB.out]; exact decide_eq_true (by refine ⟨?_, ?_⟩; all_goals first | trivial | omega)], rfl⟩
        · have hd2 : decide ((K.length : Int) ≤ x) = false := decide_eq_false h1
          by_cases h2 : y < 0
          · have hd3 : decide (y < 0) = true := decide_eq_true h2
            go_wp2_with fail
            go_meet
            exact ⟨by rw [show bb = true by rw [HBB.out]; exact decide_eq_true (by refine ⟨?_, ?_⟩; all_goals first | trivial | omega)], rfl⟩
          · have hd3 : decide (y < 0) = false := decide_eq_false h2
            by_cases h3 : (K.length : Int) ≤ y
            · have hd4 : decide ((K.length : Int) ≤ y) = true := decide_eq_true h3
              go_wp2_with fail
              go_meet
              exact ⟨by rw [show bb = true by rw [HBB.out]; exact decide_eq_true (by refine ⟨?_, ?_⟩; all_goals first | trivial | omega)], rfl⟩
            · have hd4 : decide ((K.length : Int) ≤ y) = false := decide_eq_false h3
              go_wp2_with fail
              go_meet
              exact ⟨by rw [show bb = false by rw [HBB.out]; exact decide_eq_false (fun h => h.2 (by omega))], rfl⟩
    · have hcz : ((cv : Int) == 0) = false := by rw [beq_eq_false_iff_ne]; omega
      have HC := Lib.hid hc
      clear hc
      go_wp2_with fail
      go_meet
      exact ⟨by rw [HBB.out, decide_eq_false (fun h => HC.out h.1)], rfl⟩
  case rest =>
    obtain ⟨rfl, rfl⟩ := hcut
    have HR : Hid (rv = if bb = true then 5 else cv) := Lib.hid (by
      rw [← HRV.out, HBB.out]
      unfold readyL
      rw [HCV.out]
      by_cases hc : cv = 0
      · rw [if_neg (fun e => e hc)]
        by_cases hb : (0 ≤ x ∧ x < (K.length : Int)) ∧ 0 ≤ y ∧ y < (K.length : Int)
        · rw [if_pos (isB_two.2 hb), if_neg (fun e => (of_decide_eq_true e).2 hb), hc]
        · rw [if_neg (fun e => hb (isB_two.1 e)), if_pos (decide_eq_true ⟨hc, hb⟩)]
      · rw [if_pos hc, if_neg (fun e => hc (of_decide_eq_true e).1)])
    by_cases hz : rv = 0
    · subst hz
      have hbf : bb = false := by
        have := HR.out
        cases hbb : bb with
        | true => rw [if_pos hbb] at this; cases this
        | false => rfl
      have hcv0 : cv = 0 := by
        have := HR.out
        rw [hbf] at this
        exact this.symm
      subst hbf; subst hcv0
      clear HR HBB
      have HZ := Lib.hid (readyL_zero HRV.out)
      obtain ⟨x', hx'⟩ : ∃ i' : Nat, x = (i' : Int) := ⟨x.toNat, by have := (HZ.out.2 0 (by simp)).1; simp only [List.getElem_cons_zero] at this; omega⟩
      obtain ⟨y', hy'⟩ : ∃ i' : Nat, y = (i' : Int) := ⟨y.toNat, by have := (HZ.out.2 1 (by simp)).1; simp only [List.getElem_cons_succ, List.getElem_cons_zero] at this; omega⟩
      have hxl : x' < K.length := by have := (HZ.out.2 0 (by simp)).2; simp only [List.getElem_cons_zero] at this; omega
      have hyl : y' < K.length := by have := (HZ.out.2 1 (by simp)).2; simp only [List.getElem_cons_succ, List.getElem_cons_zero] at this; omega
      subst hx'; subst hy'
      have HO : Hid (hUA K (x' : Int) (y' : Int) = match meetH K [] 4000 [(x', y')] with
        | .no _ _ f => .no (4000 - f)
        | .many _ _ => .err 2
        | .ok K' B f => .ok K' B (4000 - f)) := Lib.hid (by unfold hUA; rw [if_neg (fun h => h HRV.out), Int.toNat_natCast, Int.toNat_natCast]; cases meetH K [] 4000 [(x', y')] <;> rfl)
      have hK1 : 1 ≤ K.length := by omega
      have hKl := HZ.out.1.len
      obtain ⟨i0, hi0, hz0, hz1, hz2⟩ := info_parts Try.infoCell
      go_wp2_with fail
      refine (heapBegunW _).mono ?_
      rintro e w3 ⟨rfl, hb3⟩
      have HB3 : Hid (Below w.heap.size w w3) := Lib.hid (HB2.out.trans (hb3.mono HB2.out.size))
      have HH3 := Lib.hid (HH2.out.below hb3); have HI3 := Lib.hid (HI2.out.below hb3)
      have BE : Below w3.heap.size w3 (w3.alloc (.cells #[] 120)) := (Below.refl _ _).alloc (Nat.le_refl _) _
      have HOE : Hid ((w3.alloc (.cells #[] 120)).ownsRow w3.heap.size 120 3 (.slice (some ⟨w3.heap.size, 0, none⟩) 0 0) 0 []) := Lib.hid (World.ownsRow_lit (base := w3.heap.size) (e := 120) (size := 3) w3 #[] 0 (Nat.le_refl _) (by unfold maxLen; omega) rfl)
      have HPE := Lib.hid ((HP.out.below HB3.out).below BE)
      have HBE := Lib.hid BE
      clear hb3 BE HH2 HI2
      go_wp2_with (first
        | (at_builtin; have _g := HOE; refine wpList_append_opt _ rfl _ _ 42 rfl w3.heap.size 120 i0 _ 3 32 Try.underlying42 hi0 hz0 hz1 hz2 rfl (by decide) _ _ _ rfl HOE.out a K.length cap ?d0 (flatH K) rfl (flatH_length K) ?d1 (flatH_one K) ?d2 ?d3 ?d4 ?_))
      case d0 => intro e; have := HPE.out.cap; have := this.2.2 e; omega
      case d1 => intro ad had; subst had; exact HPE.out.news
      case d2 => unfold maxLen; omega
      case d3 => omega
      case d4 => simp
      · intro v4 w4 hown4 hgrow4 hfr4
        obtain ⟨g4, cap4, rfl⟩ := own_shape hown4 hK1
        have hg4 := hown4.lt g4 rfl
        have HT4 : Hid (Below w3.heap.size w3 w4) := Lib.hid (by
          have hT : Touch (fun b => w3.heap.size = b) (w3.alloc (.cells #[] 120)) w4 := Touch.grown hgrow4 fun k e => by cases e; rfl
          exact HBE.out.trans (hT.toBelow HBE.out.size fun b e => by omega))
        have HB4 : Hid (Below w.heap.size w w4) := Lib.hid (HB3.out.trans (HT4.out.mono HB3.out.size))
        have HBT : Hid (BAt 61 (w4.alloc (.cells #[.slice (some ⟨g4, 0, none⟩) K.length cap4, .slice none 0 0, .int .i64 0] 61)) w4.heap.size g4 cap4 (.slice none 0 0) K [] (4000 - 4000)) := Lib.hid
          ⟨heap_alloc_new w4 _, by
            have h1 : w4.ownsRow 0 120 3 (.slice (some ⟨g4, 0, none⟩) K.length cap4) K.length (flatH K) := ⟨hown4.1, hown4.2.imp id fun ⟨g, c, cur, e1, _, e3⟩ => ⟨g, c, cur, e1, Nat.zero_le _, e3⟩⟩
            exact h1.alloc _, fun i hi => by obtain ⟨_, _, _, _, _, _, _, _, hf⟩ := HP.out.at' i hi; exact hf, World.ownsRow_nil _ _ _ _, by omega, by simp [Value.ownBlock], by simp [Value.ownBlock]⟩
        have BX : Below w4.heap.size w4 (w4.alloc (.cells #[.slice (some ⟨g4, 0, none⟩) K.length cap4, .slice none 0 0, .int .i64 0] 61)) := (Below.refl _ _).alloc (Nat.le_refl _) _
        have HSM := Lib.hid (RMeetW 4000 K [] (.slice none 0 0) x' y' _ (Nat.le_refl _) HBT.out HZ.out.1 (by simp) hxl hyl)
        have HG4 : Hid (w3.heap.size ≤ g4 ∧ w3.heap.size ≤ w4.heap.size) := Lib.hid ⟨by omega, HT4.out.size⟩
        have HB5 : Hid (Below w.heap.size w (w4.alloc (.cells #[.slice (some ⟨g4, 0, none⟩) K.length cap4, .slice none 0 0, .int .i64 0] 61))) := Lib.hid (HB4.out.trans (BX.mono HB4.out.size))
        have HH5 := Lib.hid ((((HH3.out.mono (ok' := fun b => b < w3.heap.size) fun b h _ => h).below HT4.out)).below BX); have HI5 := Lib.hid ((((HI3.out.mono (ok' := fun b => b < w3.heap.size) fun b h _ => h).below HT4.out)).below BX)
        clear hown4 hgrow4 hfr4 HH3 HI3 BX HBT
        go_wp2_with fail
        refine HSM.out.mono ?_
        generalize meetH K [] 4000 [(x', y')] = o at *
        rintro e w6 ⟨ht6, tv6, hfr6, hm6⟩
        have HB6 : Hid (Below w.heap.size w w6) := Lib.hid (HB5.out.trans (ht6.toBelow HB5.out.size (fun b hb => by
          have := HG4.out; have := HB3.out.size
          rcases hb with e | e | e
          · omega
          · omega
          · simp [Value.ownBlock] at e)))
        have HN6 : ∀ b, b < w3.heap.size → ¬ BM w4.heap.size g4 (.slice none 0 0) b := fun b hb e => by
          have := HG4.out
          rcases e with e | e | e
          · omega
          · omega
          · simp [Value.ownBlock] at e
        have HH6 := Lib.hid (HH5.out.keep (ht6.keeps HN6)); have HI6 := Lib.hid (HI5.out.keep (ht6.keeps HN6))
        clear ht6 hfr6 HH5 HI5 HN6 HSM
        cases o with
        | many K' B' =>
          have hq : (HK, BD, ok, wk, er) = (([] : List HC), ([] : List Nat), false, 0, 2) := by rw [← HQV.out, HO.out]; rfl
          simp only [Prod.mk.injEq] at hq
          obtain ⟨rfl, rfl, rfl, rfl, rfl⟩ := hq
          obtain ⟨rfl, -⟩ := hm6
          go_wp2_with fail
          go_ret
          exact ⟨rfl, HB6.out⟩
        | no K' B' f =>
          have hq : (HK, BD, ok, wk, er) = (([] : List HC), ([] : List Nat), false, 4000 - f, 0) := by rw [← HQV.out, HO.out]; rfl
          simp only [Prod.mk.injEq] at hq
          obtain ⟨rfl, rfl, rfl, hwk, rfl⟩ := hq
          obtain ⟨rfl, hb6⟩ := hm6
          rw [← hwk] at hb6
          obtain ⟨-, -, z2, -, -⟩ := hb6.cells
          clear hb6 hwk
          go_wp2_with fail
          go_ret
          exact ⟨rfl, HB6.out⟩
        | ok K' B' f =>
          have hq : (HK, BD, ok, wk, er) = (K', B', true, 4000 - f, 0) := by rw [← HQV.out, HO.out]; rfl
          simp only [Prod.mk.injEq] at hq
          obtain ⟨rfl, rfl, rfl, hwk, rfl⟩ := hq
          obtain ⟨rfl, hb6⟩ := hm6
          rw [← hwk] at hb6
          obtain ⟨z0, z1, z2, -, -⟩ := hb6.cells
          obtain ⟨a6, c6, hv6, hi6⟩ := IsAt.of_row (ok := fun _ => True) (l := BD.map fun v : Nat => (v : Int)) (v := tv6) (by
            have := hb6.bd
            rw [List.length_map, List.map_map]
            exact this) (fun _ _ => trivial)
          rw [List.length_map] at hv6
          subst hv6
          have HSI := Lib.hid (SameIntsW HI6.out hi6)
          rw [List.length_map] at HSI
          have HDT : Hid (decide ((BD.map fun v : Nat => (v : Int)) = BD.map fun v : Nat => (v : Int)) = true) := Lib.hid (decide_eq_true rfl)
          rw [HDT.out] at HSI
          have HHP := Lib.hid hb6.hp
          have HC6 : Hid (∀ u, Below w6.heap.size w6 u → u.cell? ⟨w4.heap.size, 0, none⟩ = some (.slice (some ⟨g4, 0, none⟩) HK.length cap4)) := Lib.hid (fun u hu => (hu.cell (p := ⟨w4.heap.size, 0, none⟩) hb6.lt.1).trans z0)
          clear hb6 hwk hi6
          go_wp2_with (go_at_call 35; refine HSI.out.mono ?_; rintro e w7 ⟨rfl, hb7⟩; have HB7 := Lib.hid hb7; have c7 := HC6.out w7 hb7; clear hb7)
          refine (SameHeapW (HH6.out.below HB7.out) (HHP.out.below HB7.out)).mono ?_
          rintro e w8 ⟨rfl, hb8⟩
          rw [sameHB_true rfl]
          have HB8 : Hid (Below w.heap.size w w8) := Lib.hid ((HB6.out.trans (HB7.out.mono HB6.out.size)).trans (hb8.mono (HB6.out.trans (HB7.out.mono HB6.out.size)).size))
          clear hb8
          go_wp2_with fail
          go_ret
          exact ⟨rfl, HB8.out⟩
    · have HQ : Hid ((HK, BD, ok, wk, er) = (([] : List HC), ([] : List Nat), false, 0, rv)) := Lib.hid (by
        rw [← HQV.out, hUA_err (by rw [HRV.out]; exact hz), HRV.out]; rfl)
      have hq := HQ.out
      simp only [Prod.mk.injEq] at hq
      obtain ⟨rfl, rfl, rfl, rfl, rfl⟩ := hq
      have hrz : ((er : Int) != 0) = true := by rw [bne_iff_ne]; omega
      clear hz HQ HQV
      by_cases hb : bb = true
      · have hn5 : er = 5 := by rw [HR.out, if_pos hb]
        subst hb
        subst hn5
        clear HR hrz
        go_wp2_with fail
        refine (heapBegunW _).mono ?_
        rintro e w3 ⟨rfl, hb3⟩
        have HB3 : Hid (Below w.heap.size w w3) := Lib.hid (HB2.out.trans (hb3.mono HB2.out.size))
        clear hb3
        go_wp2_with fail
        go_ret
        exact ⟨rfl, HB3.out⟩
      · have hbf : bb = false := by simpa using hb
        have hnc : er = cv := by rw [HR.out, if_neg hb]
        clear HR hb
        subst hbf
        subst hnc
        go_wp2_with fail
        refine (heapBegunW _).mono ?_
        rintro e w3 ⟨rfl, hb3⟩
        have HB3 : Hid (Below w.heap.size w w3) := Lib.hid (HB2.out.trans (hb3.mono HB2.out.size))
        clear hb3
        go_wp2_with fail
        go_ret
        exact ⟨rfl, HB3.out⟩

end Go.Proofs.Ytikmgiapjigghaa
