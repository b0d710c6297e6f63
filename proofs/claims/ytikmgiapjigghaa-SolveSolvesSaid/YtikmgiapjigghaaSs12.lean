/- Walks: Vars, VarsOf, and what the statement on terms asks in any case. -/
import Derived.Deep.RegionHeld3
import Derived.Test.YtikmgiapjigghaaSs04
namespace Go.Proofs.Ytikmgiapjigghaa
open Go.RowKit

/-- What Vars answers. -/
def varsN (q : List Tm) : Int := if queryE q = 0 then Tm.greats q else 0

set_option maxRecDepth 100000 in
set_option maxHeartbeats 400000 in
theorem VarsW (q : List Tm) (w : World) (ok : Nat → Prop) (a : Option Addr) (cap : Nat) (hrd : Ts w ok q a cap) :
    Calls Try.prog 13 #[.slice a q.length cap] w fun e w' => e = .returned (.tuple #[.int .i64 (varsN q), .int .i64 (queryE q : Nat)]) ∧ Below w.heap.size w w' := by
  have HRD := Lib.hid hrd; clear hrd
  by_cases h : queryE q = 0
  · have H : Hid (varsN q = Tm.greats q) := Lib.hid (by unfold varsN; rw [if_pos h])
    have HQ := Lib.hid h
    go_enter Try.func13, Try.ntmps13
    go_wp2_with fail
    refine (QueryW q _ ok a cap HRD.out).mono ?_
    rintro e w1 ⟨rfl, hb⟩
    go_wp2_with fail
    refine (GreatestW q _ ok a cap (HRD.out.keep (Keeps.below hb ok))).mono ?_
    rintro e w2 ⟨rfl, hb2⟩
    go_wp2_with fail
    go_ret2
    exact ⟨by rw [H.out, HQ.out]; rfl, hb.trans (hb2.mono hb.size)⟩
  · have H : Hid (varsN q = 0) := Lib.hid (by unfold varsN; rw [if_neg h])
    have h' := bne0 h
    go_enter Try.func13, Try.ntmps13
    go_wp2_with fail
    refine (QueryW q _ ok a cap HRD.out).mono ?_
    rintro e w1 ⟨rfl, hb⟩
    go_wp2_with fail
    go_ret2
    exact ⟨by rw [H.out]; rfl, hb⟩

theorem vmax_take_succ (n : Int) (l : List Tm) (k : Nat) (h : k < l.length) : vmax n (l.take (k + 1)) = max (vmax n (l.take k)) l[k].var := by
  rw [List.take_succ_eq_append_getElem h, vmax_append]; rfl

set_option maxRecDepth 100000 in
set_option maxHeartbeats 1000000 in
theorem VarsOfW (q : List Tm) (hsz : ∀ k (h : k < q.length), q[k].size ≤ 100000) (w : World) (ok : Nat → Prop) (hok : ∀ b, w.heap.size ≤ b → ok b) (a : Option Addr) (cap : Nat) (hrd : Ts w ok q a cap) :
    Calls Try.prog 15 #[.slice a q.length cap] w fun e w' => e = .returned (.int .i64 (Tm.greats q)) ∧ Below w.heap.size w w' := by
  have HRD := Lib.hid hrd; have HOK := Lib.hid hok; have HSZ := Lib.hid hsz
  have hcap := hrd.cap
  have hcl : q.length ≤ 9223372036854775807 := by unfold maxLen at hcap; omega
  clear hrd hok hsz hcap
  go_enter Try.func15, Try.ntmps15
  go_wp2_with fail
  go_loopw [3, 4] (fun x i wr => ∃ (k : Nat) (g : Int), k ≤ q.length ∧ i = .int .i64 k ∧ x = .int .i64 g ∧ Hid (g = Tm.greats (q.take k)) ∧ Below w.heap.size w wr) (fun _ i _ => q.length - (intOf i).toNat)
  case atStart => exact ⟨0, 0, Nat.zero_le _, rfl, rfl, Lib.hid rfl, Below.refl _ _⟩
  case round =>
    obtain ⟨k, g, hk, rfl, rfl, HG, hbr⟩ := hrel
    by_cases hlt : k < q.length
    · obtain ⟨b, off, a', cap', rfl, hokb, hbs, hc3, ht⟩ := HRD.out.at k hlt
      have hcv := (hbr.cell (p := ⟨b, off + k * 3, none⟩) hbs).trans hc3.var
      have hcn := (hbr.cell (p := ⟨b, off + k * 3 + 1, none⟩) hbs).trans hc3.name
      have hca := (hbr.cell (p := ⟨b, off + k * 3 + 2, none⟩) hbs).trans hc3.args
      have HF := Lib.hid hc3.fits
      clear hc3
      go_wp2_with fail
      refine (partsOfW q[k] _ ok a' cap' (HSZ.out k hlt) (fun b hb => HOK.out b (Nat.le_trans hbr.size hb)) HF.out (ht.keep (Keeps.below hbr ok))).mono ?_
      rintro e w1 ⟨a2, cap2, rfl, hts, hb1⟩
      have B1 := Lib.hid (hbr.trans (hb1.mono hbr.size))
      have hl2 : q[k].parts.length ≤ 9223372036854775807 := by have := hts.cap; unfold maxLen at this; omega
      have HP := Lib.hid (show vmax g q[k].parts = Tm.greats (q.take (k + 1)) by
        rw [HG.out, Tm.great_eq _ _ (Tm.greats_pos _), Tm.greats_take_succ q k hlt]
        cases h2 : q[k] with
        | mk v n a => simp only [Tm.great, Tm.var, Tm.args])
      have HT := Lib.hid hts
      clear hts hcv hcn hca hb1
      generalize q[k].parts = P at *
      go_wp2_with fail
      go_loopw [3, 6] (fun x j wz => ∃ (m : Nat) (g' : Int), m ≤ P.length ∧ j = .int .i64 m ∧ x = .int .i64 g' ∧ Hid (g' = vmax g (P.take m)) ∧ w1 = wz) (fun _ j _ => P.length - (intOf j).toNat)
      case atStart => exact ⟨0, g, Nat.zero_le _, rfl, rfl, Lib.hid rfl, rfl⟩
      case round =>
        obtain ⟨m, g', hm, rfl, rfl, HG', rfl⟩ := hrel
        by_cases hltm : m < P.length
        · obtain ⟨b2, off2, a3, cap3, rfl, hokb2, hbs2, hc3, ht3⟩ := HT.out.at m hltm
          have hcv := hc3.var
          clear hc3
          by_cases hgt : g' < P[m].var
          · go_wp2_with fail
            go_roundw
            case rel => exact ⟨m + 1, _, by omega, by go_num, rfl, Lib.hid (by rw [vmax_take_succ _ _ _ hltm, ← HG'.out]; omega), trivial⟩
            case measure => simp [intOf]; omega
          · go_wp2_with fail
            go_roundw
            case rel => exact ⟨m + 1, _, by omega, by go_num, rfl, Lib.hid (by rw [vmax_take_succ _ _ _ hltm, ← HG'.out]; omega), trivial⟩
            case measure => simp [intOf]; omega
        · go_wp2_with fail
          go_roundw
          case rel => exact ⟨k + 1, _, by omega, by go_num, rfl, Lib.hid (by rw [HG'.out, List.take_of_length_le (by omega), HP.out]), B1.out⟩
          case measure => simp [intOf]; omega
    · go_wp2_with fail
      go_ret
      exact ⟨retI (by rw [HG.out, List.take_of_length_le (by omega)]), hbr⟩

set_option maxRecDepth 100000 in
set_option maxHeartbeats 400000 in
theorem fnW (n : ByteArray) (a : Option Addr) (len cap : Nat) (w : World) :
    Calls Try.prog 49 #[.string n, .slice a len cap] w fun e w' => e = .returned (.agg #[.int .i64 0, .string n, .slice a len cap]) ∧ Below w.heap.size w w' := by
  go_enter Try.func49, Try.ntmps49
  go_wp2_with fail
  exact bodyPost_ret (v := .agg #[.int .i64 0, .string n, .slice a len cap]) (by simp [results, Try.results49, go_sem]) rfl ⟨rfl, (Below.refl _ _).alloc (Nat.le_refl _) _⟩

set_option maxRecDepth 100000 in
set_option maxHeartbeats 400000 in
theorem vaW (n : Int) (w : World) :
    Calls Try.prog 57 #[.int .i64 n] w fun e w' => e = .returned (.agg #[.int .i64 n, .string ByteArray.empty, .slice none 0 0]) ∧ Below w.heap.size w w' := by
  go_enter Try.func57, Try.ntmps57
  go_wp2_with fail
  exact bodyPost_ret (v := .agg #[.int .i64 n, .string ByteArray.empty, .slice none 0 0]) (by simp [results, Try.results57, go_sem]; rfl) rfl ⟨rfl, (Below.refl _ _).alloc (Nat.le_refl _) _⟩

theorem Ts.empty (w : World) (ok : Nat → Prop) : Ts w ok [] none 0 :=
  .mk [] none 0 ⟨Nat.le_refl _, Nat.zero_le _, fun _ => rfl⟩ (fun _ => (none, 0)) (fun i hi => by cases hi) (fun i hi => by cases hi)

theorem ts_lit {w : World} {ok : Nat → Prop} (t : Tm) {a : Option Addr} {cap : Nat} (ht : Ts w ok t.args a cap) (hf : t.fits) (hok : ok w.heap.size) :
    Ts (w.alloc (.cells #[.int .i64 t.var, .string t.name, .slice a t.args.length cap] 24)) ok [t] (some ⟨w.heap.size, 0, none⟩) 1 := by
  have hk : Keeps ok w (w.alloc (.cells #[.int .i64 t.var, .string t.name, .slice a t.args.length cap] 24)) := Keeps.below ((Below.refl _ _).alloc (Nat.le_refl _) _) ok
  refine .mk [t] _ 1 ⟨Nat.le_refl _, by unfold maxLen; omega, fun h => by cases h⟩ (fun _ => (a, cap)) (fun i hi => ?_) (fun i hi => ?_)
  · have : i = 0 := by simp at hi; omega
    subst this
    refine ⟨w.heap.size, 0, rfl, hok, by simp, Cells3.mk ?_ ?_ ?_ hf⟩
    all_goals simp [World.cell?, World.alloc, -World.alloc_eq]
  · have : i = 0 := by simp at hi; omega
    subst this
    exact ht.keep hk

theorem pr_lit {w : World} {ok : Nat → Prop} (c : Cl) {a1 a2 : Option Addr} {c1 c2 : Nat} (h1 : Ts w ok c.head.args a1 c1) (h2 : Ts w ok c.body a2 c2) (hf : c.head.fits) (hok : ok w.heap.size) :
    Pr (w.alloc (.cells #[.int .i64 c.head.var, .string c.head.name, .slice a1 c.head.args.length c1, .slice a2 c.body.length c2] 90)) ok [c] (some ⟨w.heap.size, 0, none⟩) 1 := by
  have hk : Keeps ok w (w.alloc (.cells #[.int .i64 c.head.var, .string c.head.name, .slice a1 c.head.args.length c1, .slice a2 c.body.length c2] 90)) := Keeps.below ((Below.refl _ _).alloc (Nat.le_refl _) _) ok
  refine ⟨⟨Nat.le_refl _, by unfold maxLen; omega, fun h => by cases h⟩, fun i hi => ?_⟩
  have : i = 0 := by simp at hi; omega
  subst this
  refine ⟨w.heap.size, 0, a1, a2, c1, c2, rfl, hok, by simp, Cells3.mk ?_ ?_ ?_ hf, ?_, h1.keep hk, h2.keep hk⟩
  all_goals simp [World.cell?, World.alloc, -World.alloc_eq]

/-- V3, a(V3), V1, a1(V1), a, !. -/
def tV (n : Int) : Tm := .mk n ⟨#[]⟩ []
def tA (l : List Tm) : Tm := .mk 0 ⟨#[97]⟩ l
def tA1 (l : List Tm) : Tm := .mk 0 ⟨#[97, 49]⟩ l
def tCut : Tm := .mk 0 ⟨#[33]⟩ []

theorem fits_lit (v : Int) (n : ByteArray) (l : List Tm) (h1 : -100 ≤ v) (h2 : v ≤ 100) (hn : n.size ≤ 100) : (Tm.mk v n l).fits := by
  unfold Tm.fits I64 maxLen
  simp only [Tm.var, Tm.name]
  omega

theorem k_vars : varsN [tA [tV 3]] = 3 := by decide +kernel
theorem k_query : queryE [tA [tV 3]] = 0 := by decide +kernel
theorem k_check : (tA1 [tV 1]).checkE = 0 := by decide +kernel
theorem k_nil : queryE [] = 0 := by decide +kernel
theorem k_prog : programE [⟨tA [], [tCut]⟩] = 0 := by decide +kernel

set_option maxRecDepth 100000 in
set_option maxHeartbeats 1000000 in
theorem termBegunW (w : World) : Calls Try.prog 16 #[] w fun e w' => e = .returned (.bool true) ∧ Below w.heap.size w w' := by
  go_enter Try.func16, Try.ntmps16
  go_wp2_with fail
  refine (vaW _ _).mono ?_
  rintro e w1 ⟨rfl, hb1⟩
  go_wp2_with fail
  refine (fnW _ _ _ _ _).mono ?_
  rintro e w2 ⟨rfl, hb2⟩
  go_wp2_with fail
  have T1 := ts_lit (w := w1) (ok := fun _ => True) (tV 3) (Ts.empty _ _) (fits_lit _ _ _ (by decide) (by decide) (by decide)) trivial
  have T2 := ts_lit (w := w2) (tA [tV 3]) (T1.keep (Keeps.below hb2 _)) (fits_lit _ _ _ (by decide) (by decide) (by decide)) trivial
  refine (VarsW [tA [tV 3]] _ _ _ _ T2).mono ?_
  rw [k_vars, k_query]
  rintro e w3 ⟨rfl, hb3⟩
  have B3 := Lib.hid ((((hb1.alloc hb1.size _).trans (hb2.mono (by have := hb1.size; simp; omega))).alloc (by have := hb1.size; have := hb2.size; simp at this; omega) _).trans (hb3.mono (by have := hb1.size; have := hb2.size; simp at this; simp; omega)))
  clear T1 T2 hb1 hb2 hb3
  go_wp2_with fail
  refine (vaW _ _).mono ?_
  rintro e w4 ⟨rfl, hb4⟩
  go_wp2_with fail
  refine (fnW _ _ _ _ _).mono ?_
  rintro e w5 ⟨rfl, hb5⟩
  go_wp2_with fail
  have T1 := ts_lit (w := w4) (ok := fun _ => True) (tV 1) (Ts.empty _ _) (fits_lit _ _ _ (by decide) (by decide) (by decide)) trivial
  refine (CheckW (tA1 [tV 1]) _ (fun _ => True) _ _ (fits_lit _ _ _ (by decide) (by decide) (by decide)) (T1.keep (Keeps.below hb5 _))).mono ?_
  rw [k_check]
  rintro e w6 ⟨rfl, hb6⟩
  have B6 := Lib.hid (((B3.out.trans (hb4.mono B3.out.size)).alloc (Nat.le_trans B3.out.size hb4.size) _).trans ((hb5.trans (hb6.mono hb5.size)).mono (by have := B3.out.size; have := hb4.size; simp; omega)))
  clear T1 hb4 hb5 hb6 B3
  go_wp2_with fail
  refine (QueryW [] _ (fun _ => True) none 0 (Ts.empty _ _)).mono ?_
  rw [k_nil]
  rintro e w7 ⟨rfl, hb7⟩
  go_wp2_with fail
  refine (fnW _ _ _ _ _).mono ?_
  rintro e w8 ⟨rfl, hb8⟩
  go_wp2_with fail
  refine (fnW _ _ _ _ _).mono ?_
  rintro e w9 ⟨rfl, hb9⟩
  have B9 := Lib.hid (B6.out.trans ((hb7.trans ((hb8.trans (hb9.mono hb8.size)).mono hb7.size)).mono B6.out.size))
  clear hb7 hb8 hb9 B6
  go_wp2_with fail
  have T1 := ts_lit (w := w9) (ok := fun _ => True) tCut (Ts.empty _ _) (fits_lit _ _ _ (by decide) (by decide) (by decide)) trivial
  have TP := pr_lit (w := w9.alloc (.cells #[.int .i64 0, .string ⟨#[33]⟩, .slice none 0 0] 24)) (ok := fun _ => True) (⟨tA [], [tCut]⟩ : Cl) (Ts.empty _ _) T1 (fits_lit _ _ _ (by decide) (by decide) (by decide)) trivial
  rw [show (w9.alloc (.cells #[.int .i64 0, .string ⟨#[33]⟩, .slice none 0 0] 24)).heap.size = w9.heap.size + 1 from by simp] at TP
  have TQ := ClausesW [⟨tA [], [tCut]⟩] _ _ _ _ TP
  rw [k_prog] at TQ
  refine TQ.mono ?_
  rintro e w10 ⟨rfl, hb10⟩
  have B10 := Lib.hid (((B9.out.alloc B9.out.size _).alloc (by have := B9.out.size; simp; omega) _).trans (hb10.mono (by have := B9.out.size; simp; omega)))
  clear hb10 T1 B9
  go_wp2_with fail
  go_ret
  exact ⟨rfl, B10.out⟩

theorem firstN_zero {l : List Nat} (h : firstN l = 0) : ∀ j (hj : j < l.length), l[j] = 0 := by
  unfold firstN at h
  cases h2 : l.find? (· ≠ 0) with
  | none =>
    intro j hj
    have := List.find?_eq_none.1 h2 l[j] (List.getElem_mem hj)
    simpa using this
  | some x =>
    rw [h2] at h
    have := List.find?_some h2
    simp at this h
    exact absurd h this

theorem query_zero {q : List Tm} (h : queryE q = 0) : q.length ≤ 6 ∧ ∀ k (hk : k < q.length), q[k].checkE = 0 := by
  unfold queryE at h
  by_cases h6 : 6 < q.length
  · rw [if_pos h6] at h; cases h
  · rw [if_neg h6] at h
    exact ⟨by omega, fun k hk => by have := firstN_zero h k (by simpa using hk); simpa using this⟩

theorem check_zero {t : Tm} (h : t.checkE = 0) : t.size ≤ 60 ∧ t.partsE = 0 := by
  unfold Tm.checkE at h
  by_cases h6 : 60 < t.size
  · rw [if_pos h6] at h; cases h
  · rw [if_neg h6] at h; exact ⟨by omega, h⟩

theorem query_sizes {q : List Tm} (h : queryE q = 0) : ∀ k (hk : k < q.length), q[k].size ≤ 100000 := fun k hk => by
  have := (check_zero ((query_zero h).2 k hk)).1
  omega

/-- What stays while the statement's last region runs: the boxed term's cells, and what was there. -/
structure TB (w : World) (v0 v1 v2 : Value) (w' : World) : Prop where
  below : Below w.heap.size w w'
  size : w.heap.size < w'.heap.size
  c0 : w'.cell? ⟨w.heap.size, 0, none⟩ = some v0
  c1 : w'.cell? ⟨w.heap.size, 1, none⟩ = some v1
  c2 : w'.cell? ⟨w.heap.size, 2, none⟩ = some v2

theorem TB.next {w : World} {v0 v1 v2 : Value} {w1 w2 : World} (h : TB w v0 v1 v2 w1) (hb : Below w1.heap.size w1 w2) : TB w v0 v1 v2 w2 :=
  ⟨h.below.trans (hb.mono (Nat.le_of_lt h.size)), Nat.lt_of_lt_of_le h.size hb.size, (hb.cell (p := ⟨w.heap.size, 0, none⟩) h.size).trans h.c0, (hb.cell (p := ⟨w.heap.size, 1, none⟩) h.size).trans h.c1, (hb.cell (p := ⟨w.heap.size, 2, none⟩) h.size).trans h.c2⟩

theorem TB.all {w : World} {v0 v1 v2 : Value} {w1 : World} (h : TB w v0 v1 v2 w1) : w1.cell? ⟨w.heap.size, 0, none⟩ = some v0 ∧ w1.cell? ⟨w.heap.size, 1, none⟩ = some v1 ∧ w1.cell? ⟨w.heap.size, 2, none⟩ = some v2 ∧ TB w v0 v1 v2 w1 := ⟨h.c0, h.c1, h.c2, h⟩

theorem TB.of {w : World} {v0 v1 v2 : Value} {w1 : World} (h : w1.cell? ⟨w.heap.size, 0, none⟩ = some v0 ∧ w1.cell? ⟨w.heap.size, 1, none⟩ = some v1 ∧ w1.cell? ⟨w.heap.size, 2, none⟩ = some v2 ∧ TB w v0 v1 v2 w1) : TB w v0 v1 v2 w1 := h.2.2.2

theorem TB.drew {w : World} {v0 v1 v2 : Value} {w1 : World} (h : TB w v0 v1 v2 w1) : TB w v0 v1 v2 w1.drew := h.next ((Below.refl _ _).drew)

set_option maxRecDepth 100000 in
set_option maxHeartbeats 1000000 in
theorem TermTellsW (t : Tm) (P : List Cl) (q : List Tm) (w : World) (a1 a2 a3 : Option Addr) (c1 c2 c3 : Nat) (hf : t.fits) (h1 : Ts w (fun _ => True) t.args a1 c1) (h2 : Pr w (fun _ => True) P a2 c2) (h3 : Ts w (fun _ => True) q a3 c3) :
    Calls Try.prog 3 #[.agg #[.int .i64 t.var, .string t.name, .slice a1 t.args.length c1], .slice a2 P.length c2, .slice a3 q.length c3] w fun e w' => e = .returned (.bool true) ∧ Below w.heap.size w w' := by
  have H1 := Lib.hid h1; have H2 := Lib.hid h2; have H3 := Lib.hid h3; have HF := Lib.hid hf
  clear h1 h2 h3 hf
  go_enter Try.func3, Try.ntmps3
  have T0 : TB w (.int .i64 t.var) (.string t.name) (.slice a1 t.args.length c1) (w.alloc (.cells #[.int .i64 t.var, .string t.name, .slice a1 t.args.length c1] 24)) := by
    refine ⟨(Below.refl w.heap.size w).alloc (Nat.le_refl _) _, by simp, ?_, ?_, ?_⟩
    all_goals simp [World.cell?, World.alloc, -World.alloc_eq]
  have KB : ∀ {x : World}, TB w (.int .i64 t.var) (.string t.name) (.slice a1 t.args.length c1) x → Keeps (fun _ => True) w x := fun h => Keeps.below h.below _
  go_wp2_with fail
  refine (VarsW q _ (fun _ => True) a3 c3 (H3.out.keep (KB T0))).mono ?_
  rintro e w1 ⟨rfl, hb1⟩
  have T1 := T0.next hb1
  clear hb1 T0
  go_wp2_with fail
  refine (CheckQueryW q _ (fun _ => True) (fun _ _ => trivial) a3 c3 (H3.out.keep (KB T1))).mono ?_
  rintro e w2 ⟨rfl, hb2⟩
  have T2 := T1.next hb2
  clear hb2 T1
  by_cases hq : queryE q = 0
  · have hv : varsN q = Tm.greats q := by unfold varsN; rw [if_pos hq]
    have HS := Lib.hid (query_sizes hq)
    have HV := Lib.hid hv
    clear hv
    go_wp2_with fail
    refine (VarsOfW q HS.out _ (fun _ => True) (fun _ _ => trivial) a3 c3 (H3.out.keep (KB T2))).mono ?_
    rintro e w3 ⟨rfl, hb3⟩
    have T3 := T2.next hb3
    have hv := HV.out
    clear hb3 T2
    go_wp2_with fail
    go_region_held3 (fun w' => w'.cell? ⟨w.heap.size, 0, none⟩ = some (.int .i64 t.var) ∧ w'.cell? ⟨w.heap.size, 1, none⟩ = some (.string t.name) ∧ w'.cell? ⟨w.heap.size, 2, none⟩ = some (.slice a1 t.args.length c1) ∧ TB w (.int .i64 t.var) (.string t.name) (.slice a1 t.args.length c1) w')
      (first | exact TB.all (TB.drew (by assumption)) | exact TB.all (TB.next (TB.of (by assumption)) hb))
      (first
        | (go_at_call 16; refine (termBegunW _).mono ?_; rintro e w' ⟨rfl, hb⟩)
        | (go_at_call 17; refine (CheckW t _ (fun _ => True) a1 c1 HF.out ?_).mono ?_; exact (H1.out.keep (KB (TB.of (by assumption)))); rintro e w' ⟨rfl, hb⟩)
        | (go_at_call 18; refine (CheckTermW t _ (fun _ => True) (fun _ _ => trivial) a1 c1 HF.out ?_).mono ?_; exact (H1.out.keep (KB (TB.of (by assumption)))); rintro e w' ⟨rfl, hb⟩)
        | (go_at_call 19; refine (ClausesW P _ (fun _ => True) a2 c2 ?_).mono ?_; exact (H2.out.keep (KB (TB.of (by assumption)))); rintro e w' ⟨rfl, hb⟩)
        | (go_at_call 20; refine (CheckProgramW P _ (fun _ => True) (fun _ _ => trivial) a2 c2 ?_).mono ?_; exact (H2.out.keep (KB (TB.of (by assumption)))); rintro e w' ⟨rfl, hb⟩)
        | (go_at_call 21; refine (QueryW q _ (fun _ => True) a3 c3 ?_).mono ?_; exact (H3.out.keep (KB (TB.of (by assumption)))); rintro e w' ⟨rfl, hb⟩))
    all_goals
      have HB := Lib.hid (TB.of (by assumption)).below
      go_wp2_with fail
      go_ret
      exact ⟨rfl, HB.out⟩
  · have hv : varsN q = 0 := by unfold varsN; rw [if_neg hq]
    have hq' := bne0 hq
    have T3 := T2
    clear T2
    go_wp2_with fail
    go_region_held3 (fun w' => w'.cell? ⟨w.heap.size, 0, none⟩ = some (.int .i64 t.var) ∧ w'.cell? ⟨w.heap.size, 1, none⟩ = some (.string t.name) ∧ w'.cell? ⟨w.heap.size, 2, none⟩ = some (.slice a1 t.args.length c1) ∧ TB w (.int .i64 t.var) (.string t.name) (.slice a1 t.args.length c1) w')
      (first | exact TB.all (TB.drew (by assumption)) | exact TB.all (TB.next (TB.of (by assumption)) hb))
      (first
        | (go_at_call 16; refine (termBegunW _).mono ?_; rintro e w' ⟨rfl, hb⟩)
        | (go_at_call 17; refine (CheckW t _ (fun _ => True) a1 c1 HF.out ?_).mono ?_; exact (H1.out.keep (KB (TB.of (by assumption)))); rintro e w' ⟨rfl, hb⟩)
        | (go_at_call 18; refine (CheckTermW t _ (fun _ => True) (fun _ _ => trivial) a1 c1 HF.out ?_).mono ?_; exact (H1.out.keep (KB (TB.of (by assumption)))); rintro e w' ⟨rfl, hb⟩)
        | (go_at_call 19; refine (ClausesW P _ (fun _ => True) a2 c2 ?_).mono ?_; exact (H2.out.keep (KB (TB.of (by assumption)))); rintro e w' ⟨rfl, hb⟩)
        | (go_at_call 20; refine (CheckProgramW P _ (fun _ => True) (fun _ _ => trivial) a2 c2 ?_).mono ?_; exact (H2.out.keep (KB (TB.of (by assumption)))); rintro e w' ⟨rfl, hb⟩)
        | (go_at_call 21; refine (QueryW q _ (fun _ => True) a3 c3 ?_).mono ?_; exact (H3.out.keep (KB (TB.of (by assumption)))); rintro e w' ⟨rfl, hb⟩))
    all_goals
      have HB := Lib.hid (TB.of (by assumption)).below
      go_wp2_with fail
      go_ret
      exact ⟨rfl, HB.out⟩

end Go.Proofs.Ytikmgiapjigghaa

