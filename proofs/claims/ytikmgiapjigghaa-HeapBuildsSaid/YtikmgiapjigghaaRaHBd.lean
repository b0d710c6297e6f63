/- Walk: the statement HeapBuilds. -/
import Derived.Test.YtikmgiapjigghaaRaHBp
namespace Go.Proofs.Ytikmgiapjigghaa
open Go.RowKit

theorem HpAt.take {w : World} {ok : Nat → Prop} {H : List HC} {a : Option Addr} {cap : Nat} (h : HpAt w ok H a cap) {n : Nat} (hn : n ≤ H.length) : HpAt w ok (H.take n) a cap := by
  have hl : (H.take n).length = n := by rw [List.length_take]; omega
  refine ⟨⟨by have := h.cap; omega, h.cap.2⟩, fun i hi => ?_⟩
  rw [hl] at hi
  have e : hc (H.take n) i = hc H i := by rw [hc_get (by omega), hc_get (by omega), List.getElem_take]
  rw [e]
  exact h.at' i (by omega)

/-- A block of terms. -/
structure TmsAt (w : World) (b : Nat) (L : List TmAt) : Prop where
  blk : w.heap[b]? = some (.cells (flat L).toArray 24 (0, 0))

theorem TmsAt.lt {w : World} {b : Nat} {L : List TmAt} (h : TmsAt w b L) : b < w.heap.size := (Array.getElem?_eq_some_iff.1 h.blk).1
theorem TmsAt.fz {w : World} {b : Nat} {L : List TmAt} (h : TmsAt w b L) (o : Nat) : w.frozen? ⟨b, o, none⟩ = false := by simp [World.frozen?, h.blk]
theorem TmsAt.get {w : World} {b : Nat} {L : List TmAt} (h : TmsAt w b L) (i : Nat) (hi : i < L.length) : w.cell? ⟨b, i * 3, none⟩ = some (.int .i64 L[i].1.var) ∧ w.cell? ⟨b, i * 3 + 1, none⟩ = some (.string L[i].1.name) ∧ w.cell? ⟨b, i * 3 + 2, none⟩ = some (.slice L[i].2.1 L[i].1.args.length L[i].2.2) := by
  obtain ⟨h1, h2, h3⟩ := flat_at L i hi
  simp [World.cell?, h.blk, h1, h2, h3]
theorem TmsAt.put {w : World} {b : Nat} {L : List TmAt} (h : TmsAt w b L) (i : Nat) (hi : i < L.length) (x : TmAt) :
    TmsAt (((w.setCell ⟨b, i * 3, none⟩ (.int .i64 x.1.var)).setCell ⟨b, i * 3 + 1, none⟩ (.string x.1.name)).setCell ⟨b, i * 3 + 2, none⟩ (.slice x.2.1 x.1.args.length x.2.2)) b (L.set i x) := by
  refine ⟨?_⟩
  have h1 := heap_setCell_at w b (i * 3) (.int .i64 x.1.var) h.blk
  have h2 := heap_setCell_at _ b (i * 3 + 1) (.string x.1.name) h1
  rw [heap_setCell_at _ b (i * 3 + 2) (.slice x.2.1 x.1.args.length x.2.2) h2, flat_set _ _ hi]
  simp

/-- Terms without arguments, in a block. -/
theorem TmsAt.ts {w : World} {b : Nat} {L : List TmAt} (h : TmsAt w b L) {cap : Nat} (hc : L.length ≤ cap ∧ cap ≤ maxLen) (hL : ∀ x, x ∈ L → x.1.args = [] ∧ x.2.1 = none ∧ x.2.2 = 0 ∧ x.1.fits) {ok : Nat → Prop} (hok : ok b) :
    Ts w ok (L.map (·.1)) (some ⟨b, 0, none⟩) cap := by
  refine .mk _ _ _ ⟨by simpa using hc.1, hc.2, fun h => by cases h⟩ (fun _ => (none, 0)) (fun i hi => ?_) (fun i hi => ?_)
  · have hi' : i < L.length := by simpa using hi
    obtain ⟨g1, g2, g3⟩ := h.get i hi'
    obtain ⟨l1, l2, l3, l4⟩ := hL _ (List.getElem_mem hi')
    rw [l1, l2, l3] at g3
    simp only [List.getElem_map]
    exact ⟨b, 0, rfl, hok, h.lt, by rw [Nat.zero_add]; exact ⟨g1, g2, by rw [l1]; exact g3, l4⟩⟩
  · have hi' : i < L.length := by simpa using hi
    obtain ⟨l1, _, _, _⟩ := hL _ (List.getElem_mem hi')
    simp only [List.getElem_map, l1]
    exact Ts.empty' _ _

def zTm : TmAt := (.mk 0 ⟨#[]⟩ [], none, 0)
def zA : Array Value := (flat (List.replicate 12 zTm)).toArray

set_option maxRecDepth 100000 in
theorem made_tms (w : World) : (Instr.makeSlice 22 (.int .i64 12) (.int .i64 12)).run Try.prog w = .ok (.slice (some ⟨w.heap.size, 0, none⟩) 12 12) (w.alloc (.cells zA 24)) := by kernel_rfl

/-- The terms that stand in the list, so many of them. -/
def byK (l : List Int) (k : Nat) : List TmAt := (l.take k).map (fun x : Int => ((VarT (x + 1), none, 0) : TmAt)) ++ List.replicate (12 - k) zTm

theorem byK_len {l : List Int} (hl : l.length = 12) {k : Nat} (hk : k ≤ 12) : (byK l k).length = 12 := by simp [byK]; omega

theorem byK_set {l : List Int} (hl : l.length = 12) {k : Nat} (hk : k < 12) : (byK l k).set k (VarT (l[k] + 1), none, 0) = byK l (k + 1) := by
  unfold byK
  have h1 : ((l.take k).map (fun x : Int => ((VarT (x + 1), none, 0) : TmAt))).length = k := by simp; omega
  rw [List.set_append, if_neg (by rw [h1]; omega), h1, Nat.sub_self, show 12 - k = (12 - (k + 1)) + 1 by omega, List.replicate_succ, List.set_cons_zero, List.take_succ_eq_append_getElem (by omega), List.map_append, List.append_assoc]
  rfl

theorem byK_all {l : List Int} (hl : l.length = 12) : byK l 12 = l.map (fun x : Int => ((VarT (x + 1), none, 0) : TmAt)) := by
  unfold byK
  rw [List.take_of_length_le (by omega)]; simp

set_option maxRecDepth 100000 in
set_option maxHeartbeats 6000000 in
theorem HeapBuildsW (K : List HC) (t : Tm) (w : World) (a a2 : Option Addr) (cap c2 : Nat) (h : HpAt w (fun _ => True) K a cap) (hf : t.fits) (ht : Ts w (fun _ => True) t.args a2 c2) :
    Calls Try.prog 7 #[.slice a K.length cap, .agg #[.int .i64 t.var, .string t.name, .slice a2 t.args.length c2]] w fun e w' => e = .returned (.bool true) ∧ Below w.heap.size w w' := by
  have HP := Lib.hid h; have HF := Lib.hid hf
  have HT : Hid (Ts w (fun b => b < w.heap.size) t.args a2 c2) := Lib.hid (ht.mono fun b hb _ => hb)
  have hcl : K.length ≤ 9223372036854775807 := by have := h.cap; unfold maxLen at this; omega
  have B0 : Below w.heap.size w (w.alloc (.cells #[.int .i64 t.var, .string t.name, .slice a2 t.args.length c2] 24)) := (Below.refl _ _).alloc (Nat.le_refl _) _
  have HX0 : Hid (Box3 (w.alloc (.cells #[.int .i64 t.var, .string t.name, .slice a2 t.args.length c2] 24)) w.heap.size (.int .i64 t.var) (.string t.name) (.slice a2 t.args.length c2)) := Lib.hid (Box3.made w _ _ _)
  have HBW := Lib.hid (BuildW (h.below B0) hf (ht.keep (Keeps.below B0 _)))
  have HB0 := Lib.hid B0
  obtain ⟨cv, hcv⟩ : ∃ cv, checkH K = cv := ⟨_, rfl⟩
  have HCV := Lib.hid hcv
  rw [hcv] at HBW
  clear h hf ht B0 hcv
  go_enter Try.func7, Try.ntmps7
  go_wp2_with (go_at_call 36; refine HBW.out.mono ?_; rintro e w1 hp1; obtain ⟨a3, c3, a4, c4, rfl, hh1, hi1, hb1⟩ := hp1.form; have HH1 := Lib.hid hh1; have HI1 := Lib.hid hi1; have HB1 : Hid (Below w.heap.size w w1) := Lib.hid (HB0.out.trans (hb1.mono HB0.out.size)); have HX1 := Lib.hid (HX0.out.below hb1); clear hp1 hh1 hi1 hb1)
  refine (CheckHeapW (HP.out.below HB1.out)).mono ?_
  rintro e w2 ⟨rfl, hb2⟩
  rw [HCV.out]
  have HB2 : Hid (Below w.heap.size w w2) := Lib.hid (HB1.out.trans (hb2.mono HB1.out.size))
  have HH2 := Lib.hid (HH1.out.below hb2); have HI2 := Lib.hid (HI1.out.below hb2); have HX2 := Lib.hid (HX1.out.below hb2)
  obtain ⟨x0, x1, x2, xf⟩ := HX2.out.all
  have hxl := HX2.out.lt
  clear hb2 HH1 HI1 HX1 HX0 HBW
  by_cases hc : cv = 0
  · subst hc
    have HCT := Lib.hid (CheckTermW t w2 (fun _ => True) (fun _ _ => trivial) a2 c2 HF.out ((HT.out.mono fun _ _ _ => trivial).keep (Keeps.below HB2.out _)))
    by_cases hz : t.checkE = 0
    · have HZ := Lib.hid hz
      obtain ⟨r, hr⟩ : ∃ r, putT K (fun _ => none) t = r := ⟨_, rfl⟩
      obtain ⟨⟨H, V⟩, c⟩ := r
      have HBO : Hid (bA K t 0 = if 400000 < H.length then .err 2 else .ok H c (toldV V 12)) := Lib.hid (by unfold bA; rw [if_neg (fun e => e rfl), if_neg (fun e => e hz), hr])
      obtain ⟨f1, f2, f3, f4, f5, f6, f7, ⟨fk, f8⟩, f9⟩ := builds_of HCV.out hz hr
      obtain ⟨rp, hrp⟩ : ∃ rp, roomP [] t.parts = rp := ⟨_, rfl⟩
      rw [hrp] at f1
      have hkl4 : K.length ≤ 400000 := (HInv.of HCV.out).len
      have hrp9 : rp ≤ 6000060 := by
        have h1 := roomP_le t.parts [] fun p hp => ((check_fit hz).bd p hp).2
        have h2 := (check_zero hz).1
        rw [Tm.parts_length] at h1
        omega
      have HRP := Lib.hid hrp
      have F2 := Lib.hid f2; have F3 := Lib.hid f3; have F6 := Lib.hid f6; have F7 := Lib.hid f7; have F8 := Lib.hid f8; have F9 := Lib.hid f9
      rw [hz] at HCT
      clear hz hr hrp f2 f3 f6 f7 f8 f9
      go_wp2_with (go_at_call 18; refine HCT.out.mono ?_; rintro e w3 ⟨rfl, hb3⟩; have HB3 : Hid (Below w.heap.size w w3) := Lib.hid (HB2.out.trans (hb3.mono HB2.out.size)); have HH3 := Lib.hid (HH2.out.below hb3); have HI3 := Lib.hid (HI2.out.below hb3); have HX3 := Lib.hid (HX2.out.below hb3); obtain ⟨y0, y1, y2, yf⟩ := (HX2.out.below hb3).all; have hyl := (HX2.out.below hb3).lt; have HRW := Lib.hid (RoomW (check_zero HZ.out).1 (check_fit HZ.out) HF.out ((HT.out.mono (ok' := fun _ => True) fun _ _ _ => trivial).keep (Keeps.below HB3.out _))); clear hb3)
      rw [HRP.out] at HRW
      by_cases hm : 400000 < H.length
      · have HO : Hid (bA K t 0 = .err 2) := Lib.hid (by rw [HBO.out, if_pos hm])
        rw [HO.out]
        have hsum : (400000 : Int) < (K.length : Int) + (rp : Int) := by omega
        simp only [bQ]
        go_wp2_with (go_at_call 37; refine HRW.out.mono ?_; rintro e w4 ⟨rfl, hb4⟩; have HB4 : Hid (Below w.heap.size w w4) := Lib.hid (HB3.out.trans (hb4.mono HB3.out.size)); clear hb4)
        go_wp2_with fail
        refine (heapBegunW _).mono ?_
        rintro e w9 ⟨rfl, hb9⟩
        have HB9 : Hid (Below w.heap.size w w9) := Lib.hid (HB4.out.trans (hb9.mono HB4.out.size))
        clear hb9
        go_wp2_with fail
        go_ret
        exact ⟨rfl, HB9.out⟩
      · have HO : Hid (bA K t 0 = .ok H c (toldV V 12)) := Lib.hid (by rw [HBO.out, if_neg hm])
        rw [HO.out] at HH3 HI3 ⊢
        have hsum : (K.length : Int) + (rp : Int) ≤ 400000 := by omega
        have hHl : H.length ≤ 400000 := by omega
        have hHl9 : H.length ≤ 9223372036854775807 := by omega
        have HFC := Lib.hid (F2.out hHl)
        have e0 : ((0 : Nat) : Int) = 0 := rfl
        simp only [bQ, e0] at HH3 HI3 ⊢
        clear e0
        have HTL : Hid ((toldV V 12).length = 12) := Lib.hid (by simp [toldV])
        obtain ⟨L, hL⟩ : ∃ L, toldV V 12 = L := ⟨_, rfl⟩
        have HTT : Hid (toldT V = L.map fun x => VarT (x + 1)) := Lib.hid (by unfold toldT; rw [hL])
        rw [hL] at HI3 HTL F9 ⊢
        try rw [HTL.out]
        have hRH : K.length ≤ H.length := by omega
        clear f1
        have hcH : K.length ≤ c3 := by have := HH3.out.cap; omega
        have hc39 : c3 ≤ 9223372036854775807 := by have := HH3.out.cap; unfold maxLen at this; omega
        clear hm HO HBO hL HH2 HI2
        go_wp2_with (go_at_call 37; refine HRW.out.mono ?_; rintro e w4 ⟨rfl, hb4⟩; have HB4 : Hid (Below w.heap.size w w4) := Lib.hid (HB3.out.trans (hb4.mono HB3.out.size)); have HH4 := Lib.hid (HH3.out.below hb4); have HI4 := Lib.hid (HI3.out.below hb4); have HX4 := Lib.hid (HX3.out.below hb4); clear hb4)
        refine (heapBegunW _).mono ?_
        rintro e w5 ⟨rfl, hb5⟩
        have HB5 : Hid (Below w.heap.size w w5) := Lib.hid (HB4.out.trans (hb5.mono HB4.out.size))
        have HH5 := Lib.hid (HH4.out.below hb5); have HI5 := Lib.hid (HI4.out.below hb5); have HX5 := Lib.hid (HX4.out.below hb5)
        have HCH := Lib.hid (CheckHeapW HH5.out)
        rw [HFC.out] at HCH
        clear hb5 HH3 HI3 HX3 HH4 HI4 HX4 HX2 x0 x1 x2 xf y0 y1 y2 yf HRW
        go_wp2_with (first
          | (go_at_call 30; refine HCH.out.mono ?_; rintro e w6 ⟨rfl, hb6⟩; have HB6 : Hid (Below w.heap.size w w6) := Lib.hid (HB5.out.trans (hb6.mono HB5.out.size)); have HH6 := Lib.hid (HH5.out.below hb6); have HI6 := Lib.hid (HI5.out.below hb6); have HX6 := Lib.hid (HX5.out.below hb6); have HTK := (HH5.out.below hb6).take (n := K.length) hRH; rw [F3.out] at HTK; have HSH := Lib.hid (SameHeapW HTK (HP.out.below HB6.out)); rw [sameHB_true rfl] at HSH; clear hb6 HTK)
          | (go_at_call 38; refine HSH.out.mono ?_; rintro e w7 ⟨rfl, hb7⟩; have HB7 : Hid (Below w.heap.size w w7) := Lib.hid (HB6.out.trans (hb7.mono HB6.out.size)); have HH7 := Lib.hid (HH6.out.below hb7); have HI7 := Lib.hid (HI6.out.below hb7); have HX7 := Lib.hid (HX6.out.below hb7); have HSD := Lib.hid (StoodW F6.out F7.out hHl 200 c w7 (by omega) f5 ((HH6.out.below hb7).mono fun _ _ _ => trivial)); rw [F8.out] at HSD; clear hb7)
          | (go_at_call 39; refine HSD.out.mono ?_; rintro e w8 ⟨hb8, T, a6, c6, hTT, rfl, hf8, hts8⟩; have HTE := Lib.hid hTT; have HB8 : Hid (Below w.heap.size w w8) := Lib.hid (HB7.out.trans (hb8.mono HB7.out.size)); have HI8 := Lib.hid (HI7.out.below hb8); have HX8 := Lib.hid (HX7.out.below hb8); have HF8 := Lib.hid hf8; have HT8 := Lib.hid hts8; have hmk := made_tms (w8.alloc (.cells #[.int .i64 T.var, .string T.name, .slice a6 T.args.length c6] 24)); clear hb8 hf8 hts8 hTT))
        have BWB : Below w8.heap.size w8 ((w8.alloc (.cells #[.int .i64 T.var, .string T.name, .slice a6 T.args.length c6] 24)).alloc (.cells zA 24)) := ((Below.refl _ _).alloc (Nat.le_refl _) _).alloc (by simp) _
        have HTM : Hid (TmsAt ((w8.alloc (.cells #[.int .i64 T.var, .string T.name, .slice a6 T.args.length c6] 24)).alloc (.cells zA 24)) (w8.heap.size + 1) (byK L 0)) := Lib.hid ⟨by
          have := heap_alloc_new (w8.alloc (.cells #[.int .i64 T.var, .string T.name, .slice a6 T.args.length c6] 24)) (.cells zA 24)
          simpa [byK, zA] using this⟩
        have HTB : Hid (Box3 ((w8.alloc (.cells #[.int .i64 T.var, .string T.name, .slice a6 T.args.length c6] 24)).alloc (.cells zA 24)) w8.heap.size (.int .i64 T.var) (.string T.name) (.slice a6 T.args.length c6)) := Lib.hid ((Box3.made w8 _ _ _).alloc _)
        have HSZ : Hid (((w8.alloc (.cells #[.int .i64 T.var, .string T.name, .slice a6 T.args.length c6] 24)).alloc (.cells zA 24)).heap.size = w8.heap.size + 2) := Lib.hid (by simp)
        have HWB := Lib.hid BWB
        have HI9 := Lib.hid ((HI8.out.mono (ok' := fun b => b < w8.heap.size) fun b hb _ => hb).below BWB)
        have HX9 := Lib.hid (HX8.out.below BWB)
        have HXL : Hid (w.heap.size < w8.heap.size) := Lib.hid HX8.out.lt
        clear BWB hmk
        generalize (w8.alloc (.cells #[.int .i64 T.var, .string T.name, .slice a6 T.args.length c6] 24)).alloc (.cells zA 24) = wb at *
        go_loopw [14] (fun v14 wr => ∃ k : Nat, k ≤ 12 ∧ v14 = .int .i64 k ∧ Hid (TmsAt wr (w8.heap.size + 1) (byK L k)) ∧ Hid (Touch (fun b => b = w8.heap.size + 1) wb wr)) (fun v14 _ => 12 - (intOf v14).toNat)
        case atStart => exact ⟨0, Nat.zero_le _, rfl, HTM, Lib.hid (Touch.refl _ _)⟩
        case round =>
          obtain ⟨k, hk, rfl, HTK, HTO⟩ := hrel
          have HKW : Hid (Keeps (fun b => b < w8.heap.size) wb wr) := Lib.hid (HTO.out.keeps fun b hb e => by omega)
          by_cases hlt : k < 12
          · have hkL : k < L.length := by rw [HTL.out]; exact hlt
            obtain ⟨bi, oi, rfl, hbi, hi8, ci⟩ := (HI9.out.keep HKW.out).at' k hkL
            have hfz := HTK.out.fz
            obtain ⟨q0, q1, q2⟩ := HTK.out.get k (by rw [byK_len HTL.out (by omega)]; exact hlt)
            have hnb : w8.heap.size + 1 < wr.heap.size := HTK.out.lt
            have HTK2 : Hid (TmsAt (((wr.setCell ⟨w8.heap.size + 1, k * 3, none⟩ (.int .i64 (L[k] + 1))).setCell ⟨w8.heap.size + 1, k * 3 + 1, none⟩ (.string ⟨#[]⟩)).setCell ⟨w8.heap.size + 1, k * 3 + 2, none⟩ (.slice none 0 0)) (w8.heap.size + 1) (byK L (k + 1))) := Lib.hid (by
              rw [← byK_set HTL.out hlt]
              exact HTK.out.put k (by rw [byK_len HTL.out (by omega)]; exact hlt) (VarT (L[k] + 1), none, 0))
            have HTO2 : Hid (Touch (fun b => b = w8.heap.size + 1) wb (((wr.setCell ⟨w8.heap.size + 1, k * 3, none⟩ (.int .i64 (L[k] + 1))).setCell ⟨w8.heap.size + 1, k * 3 + 1, none⟩ (.string ⟨#[]⟩)).setCell ⟨w8.heap.size + 1, k * 3 + 2, none⟩ (.slice none 0 0))) := Lib.hid (((HTO.out.trans (Touch.setCell _ rfl)).trans (Touch.setCell _ rfl)).trans (Touch.setCell _ rfl))
            have h9 := F9.out k hkL
            have hk12 : (k : Int) < 12 := by omega
            have hk0 : (0 : Int) ≤ (k : Int) := by omega
            have HHL := Lib.hid hHl
            go_wp2_with fail
            go_roundw
            case measure => simp [intOf]; omega
            case rel => exact ⟨k + 1, by omega, by go_num, HTK2, HTO2⟩
          · have hk12 : k = 12 := by omega
            subst hk12
            have HTS : Hid (Ts wr (fun _ => True) (L.map fun x => VarT (x + 1)) (some ⟨w8.heap.size + 1, 0, none⟩) 12) := Lib.hid (by
              have h := HTK.out.ts (cap := 12) (ok := fun _ => True) ⟨by rw [byK_len HTL.out (Nat.le_refl _)]; exact Nat.le_refl _, by unfold maxLen; omega⟩ (fun x hx => by
                rw [byK_all HTL.out] at hx
                obtain ⟨y, hy, rfl⟩ := List.mem_map.1 hx
                obtain ⟨i, hi, rfl⟩ := List.getElem_of_mem hy
                have := F9.out i hi
                exact ⟨rfl, rfl, rfl, by show I64 (L[i] + 1); unfold I64; omega, Nat.zero_le _⟩) trivial
              rw [byK_all HTL.out, List.map_map] at h
              exact h)
            have HEQ : Hid (T = t.putIn (byL (L.map fun x => VarT (x + 1)))) := Lib.hid (by
              have h := HTE.out
              simp only [List.cons.injEq, and_true] at h
              rw [← h, HTT.out])
            have HWR : Hid (Below w.heap.size w wr) := Lib.hid ((HB8.out.trans (HWB.out.mono HB8.out.size)).trans (HTO.out.toBelow (by have := HSZ.out; have := HXL.out; omega) fun b e => by have := HXL.out; omega))
            have CA : Hid (∀ W, Below wr.heap.size wr W → Calls Try.prog 27 #[.agg #[.int .i64 t.var, .string t.name, .slice a2 t.args.length c2], .slice (some ⟨w8.heap.size + 1, 0, none⟩) (L.map fun x => VarT (x + 1)).length 12] W _) := Lib.hid (fun W hW => PutInC hW (by rw [List.length_map]; exact HTL.out) HF.out (by have := (check_zero HZ.out).1; omega) (check_fit HZ.out) ((HT.out.keep (Keeps.below HWR.out _)).mono fun _ _ _ => trivial) HTS.out)
            have hlm : (L.map fun x => VarT (x + 1)).length = 12 := by rw [List.length_map]; exact HTL.out
            rw [hlm] at CA
            have hx9 := HX9.out.keep (HTO.out.block _ HX9.out.lt (by have := HXL.out; omega))
            have htb := HTB.out.keep (HTO.out.block _ HTB.out.lt (by omega))
            have T0 : TwoT wr w8.heap.size 0 w.heap.size 0 (.int .i64 T.var) (.string T.name) (.slice a6 T.args.length c6) (.int .i64 t.var) (.string t.name) (.slice a2 t.args.length c2) wr := ⟨Below.refl _ _, htb.c0, htb.c1, htb.c2, hx9.c0, hx9.c1, hx9.c2, htb.lt, hx9.lt⟩
            have HTR : Hid (Ts wr (fun _ => True) T.args a6 c6) := Lib.hid ((((HT8.out.mono (ok' := fun b => b < w8.heap.size) fun b hb _ => hb).keep (Keeps.below HWB.out _)).keep (HTO.out.keeps fun b hb e => by omega)).mono fun _ _ _ => trivial)
            clear hx9 htb hlm
            go_wp2_with fail
            go_region_held3 (fun u => u.cell? ⟨w8.heap.size, 0, none⟩ = some (.int .i64 T.var) ∧ u.cell? ⟨w8.heap.size, 1, none⟩ = some (.string T.name) ∧ u.cell? ⟨w8.heap.size, 2, none⟩ = some (.slice a6 T.args.length c6) ∧ u.cell? ⟨w.heap.size, 0, none⟩ = some (.int .i64 t.var) ∧ u.cell? ⟨w.heap.size, 1, none⟩ = some (.string t.name) ∧ u.cell? ⟨w.heap.size, 2, none⟩ = some (.slice a2 t.args.length c2) ∧ TwoT wr w8.heap.size 0 w.heap.size 0 (.int .i64 T.var) (.string T.name) (.slice a6 T.args.length c6) (.int .i64 t.var) (.string t.name) (.slice a2 t.args.length c2) u)
              (first
                | exact TwoT.all (TwoT.drew (by assumption))
                | exact TwoT.all (TwoT.next (TwoT.of (by assumption)) hbS)
                | exact TwoT.all (TwoT.next (TwoT.of (by assumption)) hbA))
              (first
                | (go_at_call 27; refine (CA.out _ (TwoT.of (by assumption)).below).mono ?_; rintro e wA ⟨pA, cA, rfl, kA, hbA⟩)
                | (go_at_call 26
                   refine (SameTermOf T (SameTermsW _) (t.putIn (byL (L.map fun x => VarT (x + 1)))) _ (fun _ => True) a6 pA c6 cA (HTR.out.keep (Keeps.below (TwoT.of (by assumption)).below _)) (kA _ ?kE)).mono ?_
                   all_goals (repeat' (first | (with_reducible exact Below.refl _ _) | (with_reducible refine Below.drew ?_) | (with_reducible refine Below.up ?_ hbA ?_) | (simp only [dSz]; omega) | omega))
                   rw [eqT_true HEQ.out]
                   rintro e wS ⟨rfl, hbS⟩))
            all_goals
              have HB := Lib.hid (TwoT.of (by assumption)).below
              go_wp2_with fail
              go_ret
              exact ⟨rfl, HWR.out.trans (HB.out.mono HWR.out.size)⟩
    · have HO : Hid (bA K t 0 = .err t.checkE) := Lib.hid (by unfold bA; rw [if_neg (fun e => e rfl), if_pos hz])
      rw [HO.out]
      have hz' : ((t.checkE : Int) == 0) = false := by rw [beq_eq_false_iff_ne]; omega
      have hz2 : ((t.checkE : Int) != 0) = true := by rw [bne_iff_ne]; omega
      simp only [bQ]
      generalize t.checkE = ce at *
      clear hz
      go_wp2_with (go_at_call 18; refine HCT.out.mono ?_; rintro e w3 ⟨rfl, hb3⟩; have HB3 : Hid (Below w.heap.size w w3) := Lib.hid (HB2.out.trans (hb3.mono HB2.out.size)); clear hb3)
      go_wp2_with fail
      refine (heapBegunW _).mono ?_
      rintro e w9 ⟨rfl, hb9⟩
      have HB9 : Hid (Below w.heap.size w w9) := Lib.hid (HB3.out.trans (hb9.mono HB3.out.size))
      clear hb9
      go_wp2_with fail
      go_ret
      exact ⟨rfl, HB9.out⟩
  · have HO : Hid (bA K t cv = .err cv) := Lib.hid (by unfold bA; rw [if_pos hc])
    rw [HO.out]
    have hz' : ((cv : Int) == 0) = false := by rw [beq_eq_false_iff_ne]; omega
    have hz2 : ((cv : Int) != 0) = true := by rw [bne_iff_ne]; omega
    simp only [bQ]
    clear hc
    go_wp2_with fail
    refine (heapBegunW _).mono ?_
    rintro e w9 ⟨rfl, hb9⟩
    have HB9 : Hid (Below w.heap.size w w9) := Lib.hid (HB2.out.trans (hb9.mono HB2.out.size))
    clear hb9
    go_wp2_with fail
    go_ret
    exact ⟨rfl, HB9.out⟩

end Go.Proofs.Ytikmgiapjigghaa
