/- Walk: the reference's UnifyOf. -/
import Derived.Test.YtikmgiapjigghaaUniW
import Derived.Test.YtikmgiapjigghaaMore
namespace Go.Proofs.Ytikmgiapjigghaa
open Go.RowKit

theorem thrL_size {σ : Sub} : ∀ (m : Nat) (l : List Tm) (x : List Tm × Nat), thrL σ m l = some x → Tm.sizes x.1 + x.2 ≤ m := by
  intro m
  induction m using Nat.strongRecOn with
  | _ m ih =>
  intro l x h
  cases l with
  | nil => rw [thrL_nil] at h; cases h; simp [Tm.sizes]
  | cons t r =>
    cases m with
    | zero => rw [thrL_zero] at h; cases h
    | succ m =>
      by_cases hv : (look σ t).var = 0
      · rw [thrL_fn hv] at h
        obtain ⟨y, hy, h2⟩ := Option.bind_eq_some_iff.1 h
        obtain ⟨z, hz, rfl⟩ := Option.map_eq_some_iff.1 h2
        have h3 := (thrL_le _ _ _ hy).1
        have e1 := ih m (by omega) _ y hy
        have e2 := ih y.2 (by omega) _ z hz
        simp only [Tm.sizes, Tm.size]; omega
      · rw [thrL_var hv] at h
        obtain ⟨z, hz, rfl⟩ := Option.map_eq_some_iff.1 h
        have e2 := ih m (by omega) _ z hz
        simp only [Tm.sizes, Tm.size]; omega

theorem Tm.partss_of {l : List Tm} {p : Tm} (h : p ∈ Tm.partss l) : ∃ t, t ∈ l ∧ p ∈ t.parts := by
  induction l with
  | nil => cases h
  | cons t l ih =>
    rw [Tm.partss, List.mem_append] at h
    rcases h with h | h
    · exact ⟨t, List.mem_cons_self, h⟩
    · obtain ⟨u, hu, hp⟩ := ih h
      exact ⟨u, List.mem_cons_of_mem _ hu, hp⟩

theorem Fit.fn {n : Nat} {nm : ByteArray} {l : List Tm} (h0 : 0 < n) (hl : l.length ≤ 100000) (h : ∀ t, t ∈ l → Fit n t) : Fit n (.mk 0 nm l) := by
  refine ⟨fun p hp => ?_, fun p hp => ?_⟩
  · rw [Tm.parts] at hp
    rcases List.mem_cons.1 hp with rfl | hp
    · exact ⟨Int.le_refl _, fun e => absurd rfl e⟩
    · obtain ⟨t, ht, hp⟩ := Tm.partss_of hp
      exact (h t ht).wf p hp
  · rw [Tm.parts] at hp
    rcases List.mem_cons.1 hp with rfl | hp
    · exact ⟨h0, hl⟩
    · obtain ⟨t, ht, hp⟩ := Tm.partss_of hp
      exact (h t ht).bd p hp

theorem thrL_fit {σ : Sub} {n : Nat} (hE : Ends σ) (hd : ∀ v u, σ v = some u → Fit n u) : ∀ (m : Nat) (l : List Tm) (x : List Tm × Nat), (∀ t, t ∈ l → Fit n t) → thrL σ m l = some x → ∀ T, T ∈ x.1 → Fit n T := by
  intro m
  induction m using Nat.strongRecOn with
  | _ m ih =>
  intro l x hl h T hT
  cases l with
  | nil => rw [thrL_nil] at h; cases h; cases hT
  | cons t r =>
    have hft := fit_look hE hd (hl t List.mem_cons_self)
    cases m with
    | zero => rw [thrL_zero] at h; cases h
    | succ m =>
      by_cases hv : (look σ t).var = 0
      · rw [thrL_fn hv] at h
        obtain ⟨y, hy, h2⟩ := Option.bind_eq_some_iff.1 h
        obtain ⟨z, hz, rfl⟩ := Option.map_eq_some_iff.1 h2
        have h3 := thrL_le _ _ _ hy
        rcases List.mem_cons.1 hT with rfl | hT
        · refine Fit.fn (by have := hft.pos.2; omega) (by rw [h3.2]; exact hft.len) (fun u hu => ih m (by omega) _ y (fun a ha => hft.arg ha) hy u hu)
        · exact ih y.2 (by omega) _ z (fun a ha => hl a (List.mem_cons_of_mem _ ha)) hz T hT
      · rw [thrL_var hv] at h
        obtain ⟨z, hz, rfl⟩ := Option.map_eq_some_iff.1 h
        rcases List.mem_cons.1 hT with rfl | hT
        · exact fit_var hft.pos.1 hft.pos.2
        · exact ih m (by omega) _ z (fun a ha => hl a (List.mem_cons_of_mem _ ha)) hz T hT

theorem mapv_congr {g g' : Int → Int} (t : Tm) : (∀ p, p ∈ t.parts → p.var ≠ 0 → g p.var = g' p.var) → t.mapv g = t.mapv g' := by
  induction t using Tm.ind with
  | h v n l ih =>
    intro h
    by_cases hv : v = 0
    · subst hv
      rw [Tm.mapv_fn (t := .mk 0 n l) rfl, Tm.mapv_fn (t := .mk 0 n l) rfl]
      congr 1
      exact List.map_congr_left fun x hx => ih x hx fun p hp => h p (Tm.parts_arg (t := .mk 0 n l) hx hp)
    · rw [Tm.mapv_var (t := .mk v n l) hv, Tm.mapv_var (t := .mk v n l) hv]
      have := h _ (Tm.self_mem _) hv
      rw [this]

theorem namesR_range (τ : Sub) (x : Int) : ∀ n : Nat, n ≤ 12 → 0 ≤ namesR τ n x ∧ namesR τ n x ≤ 12 := by
  intro n
  induction n with
  | zero => intro _; simp only [namesR]; omega
  | succ n ih =>
    intro hn
    simp only [namesR]
    split
    · omega
    · exact ih (by omega)

theorem fresh_sub : subB ((fresh 0 13).map (·.1)) = fun _ => none := by
  funext v
  by_cases h : 0 ≤ v ∧ v.toNat < 13
  · refine subB_none h.1 (by simp [fresh]; omega) ?_
    simp [fresh, Tm.var]; omega
  · unfold subB
    rw [dif_neg]
    simp [fresh]; omega

theorem fresh_FB : FB ((fresh 0 13).map (·.1)) := by
  refine ⟨by rw [fresh_sub]; exact SInv.none, fun t ht => ?_⟩
  obtain ⟨x, hx, rfl⟩ := List.mem_map.1 ht
  unfold fresh at hx
  obtain ⟨i, hi, rfl⟩ := List.mem_map.1 hx
  rw [List.mem_range] at hi
  have : ((fresh 0 13).map (·.1)).length = 13 := by simp [fresh]
  rw [this]
  exact fit_var (by omega) (by omega)

/-- A block of numbers. -/
structure IntsAt (w : World) (b : Nat) (l : List Int) : Prop where
  blk : w.heap[b]? = some (.cells (l.map fun v => Value.int .i64 v).toArray 3 (0, 0))

theorem IntsAt.get {w : World} {b : Nat} {l : List Int} (h : IntsAt w b l) (i : Nat) (hi : i < l.length) : w.cell? ⟨b, i, none⟩ = some (.int .i64 l[i]) := by
  simp [World.cell?, h.blk, hi]
theorem IntsAt.fz {w : World} {b : Nat} {l : List Int} (h : IntsAt w b l) (o : Nat) : w.frozen? ⟨b, o, none⟩ = false := by simp [World.frozen?, h.blk]
theorem IntsAt.lt {w : World} {b : Nat} {l : List Int} (h : IntsAt w b l) : b < w.heap.size := (Array.getElem?_eq_some_iff.1 h.blk).1
theorem IntsAt.keep {w w' : World} {b : Nat} {l : List Int} (h : IntsAt w b l) (hb : w'.heap[b]? = w.heap[b]?) : IntsAt w' b l := ⟨hb.trans h.blk⟩
theorem IntsAt.below {w w' : World} {b : Nat} {l : List Int} (h : IntsAt w b l) (hb : Below w.heap.size w w') : IntsAt w' b l := h.keep (hb.block b h.lt)
theorem IntsAt.set {w : World} {b : Nat} {l : List Int} (h : IntsAt w b l) (i : Nat) (v : Int) : IntsAt (w.setCell ⟨b, i, none⟩ (.int .i64 v)) b (l.set i v) := by
  refine ⟨?_⟩
  rw [heap_setCell_at _ _ _ _ h.blk, List.map_set]
  simp

theorem names_set (τ : Sub) (n : Nat) (x : Int) (hx : x = (look τ (VarT (12 - (n : Int)))).var) (h0 : x ≠ 0) (h1 : 0 ≤ x) (h2 : x.toNat < 13) : ((List.range 13).map fun i : Nat => namesR τ n i).set x.toNat (12 - (n : Int)) = (List.range 13).map fun i : Nat => namesR τ (n + 1) i := by
  refine List.ext_getElem (by simp) fun i hi hj => ?_
  rw [List.getElem_set]
  simp only [List.getElem_map, List.getElem_range, namesR]
  by_cases e : x.toNat = i
  · rw [if_pos e, if_pos ⟨by rw [← hx]; exact h0, by rw [← hx]; omega⟩]
  · rw [if_neg e, if_neg (fun h => e (by rw [← hx] at h; have := h.2; omega))]

theorem names_skip (τ : Sub) (n : Nat) (hx : (look τ (VarT (12 - (n : Int)))).var = 0) : ((List.range 13).map fun i : Nat => namesR τ n i) = (List.range 13).map fun i : Nat => namesR τ (n + 1) i := by
  refine List.map_congr_left fun i _ => ?_
  simp only [namesR]
  rw [if_neg (fun h => h.1 hx)]

set_option maxRecDepth 100000 in
set_option maxHeartbeats 4000000 in
theorem UnifyOfW {w : World} {ok : Nat → Prop} (hok : ∀ b, ok b → b < w.heap.size) {s t : Tm} {a1 a2 : Option Addr} {c1 c2 : Nat} (hs : s.fits) (ht : t.fits) (h1 : Ts w ok s.args a1 c1) (h2 : Ts w ok t.args a2 c2) (hf1 : Fit 13 s) (hf2 : Fit 13 t) :
    Calls Try.prog 23 #[.agg #[.int .i64 s.var, .string s.name, .slice a1 s.args.length c1], .agg #[.int .i64 t.var, .string t.name, .slice a2 t.args.length c2]] w (UPost w ok (uOutA (uR s t))) := by
  have HOK := Lib.hid hok; have HS := Lib.hid hs; have HT := Lib.hid ht; have H1 := Lib.hid h1; have H2 := Lib.hid h2; have HF1 := Lib.hid hf1; have HF2 := Lib.hid hf2
  clear hok hs ht h1 h2 hf1 hf2
  have hA0 : Box3 ((w.alloc (.cells #[.int .i64 s.var, .string s.name, .slice a1 s.args.length c1] 24)).alloc (.cells #[.int .i64 t.var, .string t.name, .slice a2 t.args.length c2] 24)) w.heap.size (.int .i64 s.var) (.string s.name) (.slice a1 s.args.length c1) := (Box3.made w _ _ _).alloc _
  have hA1 : Box3 ((w.alloc (.cells #[.int .i64 s.var, .string s.name, .slice a1 s.args.length c1] 24)).alloc (.cells #[.int .i64 t.var, .string t.name, .slice a2 t.args.length c2] 24)) (w.heap.size + 1) (.int .i64 t.var) (.string t.name) (.slice a2 t.args.length c2) := Box3.made2 (by simp)
  have hB0 : Below w.heap.size w ((w.alloc (.cells #[.int .i64 s.var, .string s.name, .slice a1 s.args.length c1] 24)).alloc (.cells #[.int .i64 t.var, .string t.name, .slice a2 t.args.length c2] 24)) := ((Below.refl _ _).alloc (Nat.le_refl _) _).alloc (by simp) _
  have HA0 := Lib.hid hA0; have HA1 := Lib.hid hA1; have HB0 := Lib.hid hB0
  clear hA0 hA1 hB0
  go_enter Try.func23, Try.ntmps23
  go_wp2_with fail
  generalize ((w.alloc (.cells #[.int .i64 s.var, .string s.name, .slice a1 s.args.length c1] 24)).alloc (.cells #[.int .i64 t.var, .string t.name, .slice a2 t.args.length c2] 24)) = W0 at *
  refine (BeginW W0 ok (fun b hb => by have := HOK.out b hb; have := HB0.out.size; omega)).mono ?_
  rintro e w1 ⟨g, cap, rfl, hgle, hrow, heach, hb1⟩
  have HB1 : Hid (Below w.heap.size w w1) := Lib.hid (HB0.out.trans (hb1.mono HB0.out.size))
  have BS : Below w1.heap.size w1 (w1.alloc (.cells #[.slice (some ⟨g, 0, none⟩) 13 cap, .int .i64 0] 108)) := (Below.refl _ _).alloc (Nat.le_refl _) _
  have HW2 : Hid (Below w.heap.size w (w1.alloc (.cells #[.slice (some ⟨g, 0, none⟩) 13 cap, .int .i64 0] 108))) := Lib.hid (HB1.out.trans (BS.mono HB1.out.size))
  have hX0 := (HA0.out.below hb1).below BS; have hX1 := (HA1.out.below hb1).below BS
  have hgl : g < w1.heap.size := (hrow.lt g rfl).2
  have HR : Hid (RAt (w1.alloc (.cells #[.slice (some ⟨g, 0, none⟩) 13 cap, .int .i64 0] 108)) ok w1.heap.size g cap (fresh 0 13) (4000 - 4000)) := Lib.hid
    ⟨heap_alloc_new w1 _, ownsRow_below hrow BS, heach.keep (Keeps.below BS ok), by omega, fun b hb => by
      have := HOK.out b hb; have := HB1.out.size; have := HW2.out.size; have := HB0.out.size
      exact ⟨by omega, by omega, by omega⟩⟩
  have HG : Hid (w.heap.size ≤ g ∧ w.heap.size ≤ w1.heap.size) := Lib.hid ⟨by have := HB0.out.size; omega, HB1.out.size⟩
  have x0 := hX0.c0; have x1 := hX0.c1; have x2 := hX0.c2
  have y0 := hX1.c0; have y1 := hX1.c1; have y2 := hX1.c2
  have HM := Lib.hid (MeetW (B0 := fresh 0 13) (f := 4000) (Nat.le_refl _) HR.out fresh_FB HS.out HT.out (H1.out.keep (Keeps.below HW2.out ok)) (H2.out.keep (Keeps.below HW2.out ok)) (by rw [fresh_length]; exact HF1.out) (by rw [fresh_length]; exact HF2.out))
  clear hb1 BS hX0 hX1 hrow heach
  go_wp2_with fail
  refine HM.out.mono ?_
  have HU : Hid (uR s t = match meetR (fun _ => none) 4000 [(s, t)] with
    | .no _ _ f => .no (4000 - f)
    | .many _ _ => .many
    | .ok τ _ f => match outs τ 12 with | none => .many | some l => .ok (l.map (Tm.mapv (namesR τ 12))) (4000 - f)) := Lib.hid (by unfold uR; rfl)
  rw [fresh_sub]
  generalize meetR (fun _ => none) 4000 [(s, t)] = o at *
  rintro e w2 ⟨ht2, B, hBl, hFB, hm⟩
  have HB2 : Hid (Below w.heap.size w w2) := Lib.hid (HW2.out.trans (ht2.toBelow HW2.out.size (fun b hb => by
    have := HG.out
    rcases hb with e | e <;> omega)))
  clear ht2 x0 x1 x2 y0 y1 y2
  rw [fresh_length] at hBl
  have HBL := Lib.hid hBl; have HFB := Lib.hid hFB
  clear hFB hBl
  generalize w1.heap.size = rs at *
  cases o with
  | many σ L =>
    obtain ⟨rfl, -, -⟩ := hm
    go_wp2_with fail
    rw [HU.out]
    exact bodyPost_ret (v := .tuple #[.slice none 0 0, .bool false, .int .i64 0, .int .i64 2]) (by simp [results, Try.results23, go_sem]) rfl ⟨HB2.out, rfl⟩
  | no σ L f =>
    obtain ⟨rfl, hr, -⟩ := hm
    obtain ⟨-, z1, -, -⟩ := hr.cells
    clear hr
    have DQ := below_drewN w2
    go_wp2_with fail
    go_quiet (fail)
    rename_i nq
    have hB := DQ nq
    generalize w2.drewN nq = X at *
    go_wp2_with fail
    rw [HU.out]
    exact bodyPost_ret (v := .tuple #[.slice none 0 0, .bool false, .int .i64 (4000 - f : Nat), .int .i64 0]) (by simp [results, Try.results23, go_sem]) rfl ⟨HB2.out.trans (hB.mono HB2.out.size), rfl⟩
  | ok σ L f =>
    obtain ⟨rfl, hr, rfl⟩ := hm
    have HRR := Lib.hid hr
    clear hr
    have HIB : Hid (∀ i (hi : i < B.length), InB B B[i].1) := Lib.hid (fun i hi => by
      have := (HFB.out.each B[i].1 (List.mem_map.2 ⟨_, List.getElem_mem hi, rfl⟩)).pos
      rw [List.length_map] at this
      exact this)
    have HDM : Hid (∀ v u, subB (B.map (·.1)) v = some u → Fit 13 u) := Lib.hid (fun v u h => by
      have := HFB.out.each u (subB_mem h)
      rwa [List.length_map, HBL.out] at this)
    have HU' : Hid (uR s t = match outs (subB (B.map (·.1))) 12 with | none => .many | some l => .ok (l.map (Tm.mapv (namesR (subB (B.map (·.1))) 12))) (4000 - f)) := Lib.hid HU.out
    have hmk : ∀ w : World, (Instr.makeSlice 44 (.int .i64 13) (.int .i64 13)).run Try.prog w = .ok (.slice (some ⟨w.heap.size, 0, none⟩) 13 13) (w.alloc (.cells ((((List.range 13).map fun i : Nat => namesR (subB (B.map (·.1))) 0 i).map fun v => Value.int .i64 v).toArray) 3)) := fun _ => by kernel_rfl
    have HEN : Hid (Ends (subB (B.map (·.1)))) := Lib.hid HFB.out.inv.rank.ends
    clear HU HM
    go_wp2_with fail
    go_loopw [10] (fun x wr => ∃ n : Nat, n ≤ 12 ∧ x = .int .i64 (12 - (n : Int)) ∧ IntsAt wr w2.heap.size ((List.range 13).map fun i : Nat => namesR (subB (B.map (·.1))) n i) ∧ Below w2.heap.size w2 wr) (fun x _ => (intOf x).toNat)
    case atStart => exact ⟨0, by omega, rfl, ⟨heap_alloc_new w2 _⟩, (Below.refl _ _).alloc (Nat.le_refl _) _⟩
    case round =>
      obtain ⟨n, hn, rfl, hints, hbel⟩ := hrel
      have HINT := Lib.hid hints; have HBEL := Lib.hid hbel
      have HRK := Lib.hid (HRR.out.keep hbel)
      clear hints hbel
      by_cases hlt : n < 12
      · have hge : (1 : Int) ≤ 12 - (n : Int) := by omega
        obtain ⟨n0, hl0⟩ := look_spec HEN.out (VarT (12 - (n : Int)))
        have HLK := Lib.hid (LookAtW HRK.out HIB.out hl0 (a := none) (c := 0) ⟨(by show I64 (12 - (n : Int)); unfold I64; omega), Nat.zero_le _⟩ (Ts.empty' _ _) ⟨by show (0 : Int) ≤ 12 - (n : Int); omega, by rw [HBL.out]; show (12 - (n : Int)).toNat < 13; omega⟩)
        have HFT := Lib.hid (fit_look HEN.out HDM.out (fit_var (n := 13) (v := 12 - (n : Int)) (by omega) (by omega)))
        have HS1 := Lib.hid (names_set (subB (B.map (·.1))) n)
        have HS2 := Lib.hid (names_skip (subB (B.map (·.1))) n)
        clear hl0
        generalize look (subB (B.map (·.1))) (VarT (12 - (n : Int))) = u at *
        by_cases hv : u.var = 0
        · have hv' : (u.var != 0) = false := by rw [hv]; rfl
          have HSK := Lib.hid (HS2.out hv)
          clear hv
          go_wp2_with (go_at_call 71; refine HLK.out.mono ?_; rintro e w3 ⟨a3, c3, rfl, hf3, ht3, hb3⟩; have HB3 := Lib.hid hb3; clear hf3 ht3 hb3)
          go_roundw
          case measure => simp [intOf]; omega
          case rel =>
            have hb4 : Below wr.heap.size wr (w3.alloc (.cells #[.int .i64 u.var, .string u.name, .slice a3 u.args.length c3] 24)) := HB3.out.trans (((Below.refl _ _).alloc (Nat.le_refl _) _).mono HB3.out.size)
            exact ⟨n + 1, by omega, by go_num, by rw [← HSK.out]; exact HINT.out.below hb4, HBEL.out.trans (hb4.mono HBEL.out.size)⟩
        · have hv' : (u.var != 0) = true := by rw [bne_iff_ne]; exact hv
          obtain ⟨k, hk⟩ : ∃ k : Nat, u.var = (k : Int) := ⟨u.var.toNat, by have := HFT.out.pos.1; omega⟩
          have hk13 : k < 13 := by have := HFT.out.pos.2; omega
          have HSK := Lib.hid (HS1.out u.var rfl hv HFT.out.pos.1 HFT.out.pos.2)
          have hu0 : (0 : Int) ≤ u.var := by omega
          have hu1 : u.var < 13 := by omega
          have hin : u.var.toNat = k := by omega
          clear hv hk
          go_wp2_with (go_at_call 71; refine HLK.out.mono ?_; rintro e w3 ⟨a3, c3, rfl, hf3, ht3, hb3⟩; have HB3 := Lib.hid hb3; have hi4 := (HINT.out.below hb3).below ((Below.refl w3.heap.size w3).alloc (Nat.le_refl _) (.cells #[.int .i64 u.var, .string u.name, .slice a3 u.args.length c3] 24)); have HI4 := Lib.hid hi4; have hc4 := hi4.get k (by simp; omega); have hf4 := hi4.fz; clear hf3 ht3 hb3 hi4)
          go_roundw
          case measure => simp [intOf]; omega
          case rel =>
            rw [hin] at HSK
            have hb4 : Below wr.heap.size wr (w3.alloc (.cells #[.int .i64 u.var, .string u.name, .slice a3 u.args.length c3] 24)) := HB3.out.trans (((Below.refl _ _).alloc (Nat.le_refl _) _).mono HB3.out.size)
            have hi5 := HI4.out.set k (12 - (n : Int))
            rw [HSK.out] at hi5
            exact ⟨n + 1, by omega, by go_num, hi5, (HBEL.out.trans (hb4.mono HBEL.out.size)).setCell (Nat.le_refl _) _⟩
      · have hn12 : n = 12 := by omega
        subst hn12
        have hge : ¬ ((1 : Int) ≤ 12 - ((12 : Nat) : Int)) := by omega
        obtain ⟨i0, hi0, hz0', hz1', hz2'⟩ := info_parts Try.infoTm
        have HOKR : Hid (∀ b, ok b → b < wr.heap.size) := Lib.hid fun b hb => (HRK.out.okb b hb).1
        have HBR : Hid (Below w.heap.size w wr) := Lib.hid (HB2.out.trans (HBEL.out.mono HB2.out.size))
        generalize hτ : subB (B.map (·.1)) = τ at *
        generalize w2.heap.size = nb at *
        generalize wr = wq at *
        clear HBEL HRR HB2 hmk
        go_wp2_with fail
        go_loopw [12, 13] (fun y12 y13 wv => ∃ (m : Nat) (L : List TmAt) (l : List Tm), m ≤ 12 ∧ y13 = .int .i64 ((m : Int) + 1) ∧ Hid (outs τ m = some l) ∧ Hid (L.map (·.1) = l.map (Tm.mapv (namesR τ 12))) ∧ Hid (L.length = m) ∧ OwnTs wv wq.heap.size (OkN ok wq) y12 L ∧ Below wq.heap.size wq wv) (fun _ y13 _ => 13 - (intOf y13).toNat)
        case atStart => exact ⟨0, [], [], by omega, rfl, Lib.hid rfl, Lib.hid rfl, Lib.hid rfl, OwnTs.nil _ _ _, Below.refl _ _⟩
        case round =>
          generalize wr = wv at *
          obtain ⟨m, L2, l, hm, rfl, HOU, HLL, HLN, hown, hbel⟩ := hrel
          have HOWN := Lib.hid hown; have HBEL := Lib.hid hbel
          have HRV := Lib.hid (HRK.out.keep hbel)
          have HIV := Lib.hid (HINT.out.below hbel)
          obtain ⟨xa, xc, rfl⟩ := hown.form
          clear hown hbel
          by_cases hlt : m < 12
          · have hlt' : (m : Int) + 1 ≤ 12 := by omega
            have HCL : Hid (Calls Try.prog 72 #[.pointer (some ⟨rs, 0, none⟩), .agg #[.int .i64 ((m : Int) + 1), .string ⟨#[]⟩, .slice none 0 0], .int .i64 200] wv (FullPost wv ok 200 (thrL τ 200 [VarT ((m : Int) + 1)]))) := Lib.hid (by
              have := FullW HFB.out 200 (VarT ((m : Int) + 1)) none 0 wv (by omega) HRV.out ⟨(by show I64 ((m : Int) + 1); unfold I64; omega), Nat.zero_le _⟩ (Ts.empty' _ _) (by rw [HBL.out]; exact fit_var (by omega) (by omega))
              rw [hτ] at this
              exact this)
            have HNX : Hid (outs τ (m + 1) = (thrL τ 200 [VarT ((m : Int) + 1)]).map fun x => l ++ x.1) := Lib.hid (by simp only [outs]; rw [HOU.out]; rfl)
            have HSZ := Lib.hid (thrL_size (σ := τ) 200 [VarT ((m : Int) + 1)])
            have HFTT := Lib.hid (fun x hx => thrL_fit HEN.out HDM.out 200 [VarT ((m : Int) + 1)] x (fun t ht => by rw [List.mem_singleton] at ht; subst ht; exact fit_var (by omega) (by omega)) hx)
            generalize thrL τ 200 [VarT ((m : Int) + 1)] = o at *
            cases o with
            | none =>
              have HN12 : Hid (outs τ 12 = none) := Lib.hid (outs_le (m + 1) 12 (by omega) (by rw [HNX.out]; rfl))
              clear HNX HSZ HFTT
              go_wp2_with (go_at_call 72; refine HCL.out.mono ?_; rintro e w3 ⟨rfl, hb3⟩; have HB3 := Lib.hid hb3; clear hb3)
              rw [HU'.out, HN12.out]
              have hb4 : Below w.heap.size w w3 := HBR.out.trans ((HBEL.out.trans (HB3.out.mono HBEL.out.size)).mono HBR.out.size)
              exact bodyPost_ret (v := .tuple #[.slice none 0 0, .bool false, .int .i64 0, .int .i64 2]) (by simp [results, Try.results23, go_sem]) rfl ⟨hb4.alloc (by have := hb4.size; omega) _, rfl⟩
            | some x =>
              have HX2 := Lib.hid (HSZ.out x rfl); have HX3 := Lib.hid (HFTT.out x rfl)
              clear HSZ HFTT
              go_wp2_with (first
                | (go_at_call 72; refine HCL.out.mono ?_; rintro e w3 ⟨T, a3, c3, hTT, rfl, hf3, hts3, hb3⟩; have HB3 := Lib.hid hb3; have HTT := Lib.hid hTT; have HF3 := Lib.hid hf3; have HTS3 := Lib.hid hts3; clear hTT hf3 hts3 hb3)
                | (go_at_call 73
                   have HBA : Hid (Below w3.heap.size w3 (w3.alloc (.cells #[.int .i64 T.var, .string T.name, .slice a3 T.args.length c3] 24))) := Lib.hid ((Below.refl _ _).alloc (Nat.le_refl _) _)
                   have HFT : Hid (Fit 13 T) := Lib.hid (HX3.out T (by rw [HTT.out]; exact List.mem_singleton.2 rfl))
                   have HTS4 : Hid (Ts (w3.alloc (.cells #[.int .i64 T.var, .string T.name, .slice a3 T.args.length c3] 24)) (fun b => OkN ok wv b ∧ b < w3.heap.size) T.args a3 c3) := Lib.hid ((HTS3.out.mono fun b hb hk => ⟨hk, hb⟩).keep (Keeps.below HBA.out _))
                   refine (NamedW (N := fun i : Nat => namesR τ 12 i) T _ (fun b => OkN ok wv b ∧ b < w3.heap.size) a3 c3 (fun b hb => by have := hb.2; simp; omega) (by have := HX2.out; rw [HTT.out] at this; simp only [Tm.sizes] at this; omega) HF3.out HTS4.out ⟨fun p hp _ => ⟨(HFT.out.wf p hp).1, (HFT.out.bd p hp).1⟩, fun i hi => ⟨?g0, ?g1⟩⟩).mono ?_
                   rotate_left 2
                   rintro e w5 ⟨a5, c5, rfl, hf5, hts5, hb5⟩
                   have HF5 := Lib.hid hf5; have HB5 := Lib.hid (HB3.out.trans ((HBA.out.trans (hb5.mono (by have := HBA.out.size; omega))).mono HB3.out.size))
                   have HTS5 : Hid (Ts w5 (OkN ok wv) (Tm.mapv (fun x => namesR τ 12 (x.toNat : Int)) T).args a5 c5) := Lib.hid (hts5.mono fun b _ hk => hk.elim (fun h => h.1) (fun h => .inr (by have := HB3.out.size; have := HBA.out.size; omega)))
                   have HMV : Hid (Tm.mapv (fun x => namesR τ 12 (x.toNat : Int)) T = T.mapv (namesR τ 12)) := Lib.hid (mapv_congr T fun p hp _ => by have := (HFT.out.wf p hp).1; congr 1; omega)
                   clear hf5 hts5 hb5 HTS4 HBA
                   generalize Tm.mapv (fun x => namesR τ 12 (x.toNat : Int)) T = U at *
                   have HO1 := Lib.hid ((HOWN.out.below HB5.out).own.alloc (.cells #[.int .i64 U.var, .string U.name, .slice a5 U.args.length c5] 24)))
                | (at_builtin; have _g := HO1; refine wpList_append_opt _ rfl _ _ 22 rfl wq.heap.size 24 i0 _ 3 48 Try.underlying22 hi0 hz0' hz1' hz2' rfl (by decide) _ _ _ rfl HO1.out (some ⟨w5.heap.size, 0, none⟩) 1 1 ?d0 (flat [(U, a5, c5)]) rfl (by rw [flat_length]; rfl) ?d1 (flat_one _) ?d2 ?d3 ?d4 ?_))
              case g0 =>
                have q := ((HIV.out.below HB3.out).below HBA.out).get i (by simpa using hi)
                rw [List.getElem_map, List.getElem_range] at q
                rw [Nat.zero_add]; exact q
              case g1 => have := namesR_range τ (i : Int) 12 (Nat.le_refl _); unfold I64; omega
              case d0 => intro h; cases h
              case d1 => exact news3 _ U a5 c5 rfl
              case d2 => have := HLN.out; unfold maxLen; omega
              case d3 => have := HLN.out; omega
              case d4 => have := HBEL.out.size; have := HB5.out.size; simp only [aSz]; omega
              · intro v4 w4 hown4 hgrow4 hfr4
                have BX4 : Below w5.heap.size w5 (w5.alloc (.cells #[.int .i64 U.var, .string U.name, .slice a5 U.args.length c5] 24)) := (Below.refl _ _).alloc (Nat.le_refl _) _
                have HNXT := Lib.hid (HOWN.out.more HBEL.out HOKR.out (Nat.le_refl _) HB5.out HF5.out HTS5.out BX4 hown4 hgrow4 hfr4)
                clear hown4 hgrow4 hfr4 BX4
                go_wp2_with fail
                go_roundw
                case measure => simp [intOf]; omega
                case rel =>
                  exact ⟨m + 1, L2 ++ [(U, a5, c5)], l ++ [T], by omega, by go_num, Lib.hid (by rw [HNX.out]; simp only [Option.map_some]; rw [HTT.out]), Lib.hid (by rw [List.map_append, List.map_append, HLL.out]; simp only [List.map_cons, List.map_nil]; rw [HMV.out]), Lib.hid (by rw [List.length_append, HLN.out]; rfl), HNXT.out⟩
          · have hm12 : m = 12 := by omega
            have hge2 : ¬ ((m : Int) + 1 ≤ 12) := by omega
            obtain ⟨-, z1, -, -⟩ := HRV.out.cells
            have DQ := below_drewN wv
            have HN12 : Hid (outs τ 12 = some l) := Lib.hid (by rw [← hm12]; exact HOU.out)
            clear hm12
            go_wp2_with fail
            go_quiet (fail)
            rename_i nq
            have hB := DQ nq
            generalize wv.drewN nq = X at *
            go_wp2_with fail
            rw [HU'.out, HN12.out]
            obtain ⟨a9, c9, he, ht9⟩ := (HOWN.out.below hB).ret (w := w) HBR.out.size
            injection he with he1 he2 he3
            subst he1; subst he3
            exact bodyPost_ret (v := .tuple #[.slice xa L2.length xc, .bool true, .int .i64 (4000 - f : Nat), .int .i64 0]) (by simp [results, Try.results23, go_sem]) rfl
              ⟨HBR.out.trans ((HBEL.out.trans (hB.mono HBEL.out.size)).mono HBR.out.size), xa, xc, by rw [← HLL.out, List.length_map], by rw [← HLL.out]; exact ht9⟩

end Go.Proofs.Ytikmgiapjigghaa
