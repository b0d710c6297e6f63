/- Walk: the law's anew: variables are numbered as they first stand. -/
import Derived.Test.YtikmgiapjigghaaRaHangR
import Derived.Test.YtikmgiapjigghaaRa11
namespace Go.Proofs.Ytikmgiapjigghaa
open Go.RowKit

/-- Those that were seen: each once, each a variable's number. -/
def SeenOk (s : List Int) : Prop := s.Nodup ∧ ∀ v, v ∈ s → 1 ≤ v ∧ v ≤ 12

/-- One more than the greatest of the first numbers, and 1 at least. -/
def topN (l : List Int) : Nat → Int
  | 0 => 1
  | k + 1 => if topN l k ≤ l.getD k 0 then l.getD k 0 + 1 else topN l k

theorem topN_bd {l : List Int} {m : Int} (hm : 1 ≤ m) (h : ∀ k, l.getD k 0 < m) : ∀ k, 1 ≤ topN l k ∧ topN l k ≤ m := by
  intro k
  induction k with
  | zero => exact ⟨Int.le_refl _, hm⟩
  | succ k ih =>
    have := h k
    simp only [topN]
    split <;> omega

theorem topN_le {l : List Int} : ∀ k j, j < k → l.getD j 0 < topN l k := by
  intro k
  induction k with
  | zero => intro j hj; omega
  | succ k ih =>
    intro j hj
    simp only [topN]
    by_cases e : j = k
    · subst e; split <;> omega
    · have := ih j (by omega)
      split <;> omega

theorem nmL_getD (n : Nat) (s : List Int) (v : Nat) : (nmL n s).getD v 0 = if v < n + 1 ∧ (v : Int) ∈ s then numIn s (v : Int) else 0 := by
  by_cases h : v < n + 1
  · rw [List.getD_eq_getElem?_getD, List.getElem?_eq_getElem (by rw [nmL_len]; exact h), Option.getD_some, nmL_get]
    by_cases h2 : (v : Int) ∈ s
    · rw [if_pos h2, if_pos ⟨h, h2⟩]
    · rw [if_neg h2, if_neg (fun e => h2 e.2)]
  · rw [List.getD_eq_getElem?_getD, List.getElem?_eq_none (by rw [nmL_len]; omega), if_neg (fun e => h e.1)]; rfl

theorem topN_seen {s : List Int} (h : SeenOk s) : topN (nmL 12 s) 13 = (s.length : Int) + 1 := by
  have h1 : ∀ k, (nmL 12 s).getD k 0 < (s.length : Int) + 1 := fun k => by
    rw [nmL_getD]
    split
    · rename_i hk
      have : s.idxOf (k : Int) < s.length := List.idxOf_lt_length_iff.2 hk.2
      unfold numIn; omega
    · omega
  have h2 := topN_bd (by omega) h1 13
  by_cases hz : s.length = 0
  · omega
  · -- the last one has the greatest number
    have hl : s.length - 1 < s.length := by omega
    have hm := h.2 _ (List.getElem_mem hl)
    have hi : s.idxOf s[s.length - 1] = s.length - 1 := h.1.idxOf_getElem _ hl
    have h3 := topN_le (l := nmL 12 s) 13 s[s.length - 1].toNat (by omega)
    rw [nmL_getD, if_pos ⟨by omega, by rw [show ((s[s.length - 1].toNat : Nat) : Int) = s[s.length - 1] by omega]; exact List.getElem_mem hl⟩, show ((s[s.length - 1].toNat : Nat) : Int) = s[s.length - 1] by omega] at h3
    unfold numIn at h3
    rw [hi] at h3
    omega

theorem SeenOk.nil : SeenOk [] := ⟨List.nodup_nil, fun _ h => nomatch h⟩

theorem SeenOk.add {s : List Int} (h : SeenOk s) {v : Int} (h1 : 1 ≤ v) (h2 : v ≤ 12) : SeenOk (addV s v) := by
  unfold addV
  by_cases e : v ∈ s
  · rw [if_pos e]; exact h
  · rw [if_neg e]
    refine ⟨List.nodup_append.2 ⟨h.1, by simp, fun a ha b hb => ?_⟩, fun x hx => ?_⟩
    · rw [List.mem_singleton] at hb; subst hb
      exact fun e2 => e (e2 ▸ ha)
    · rcases List.mem_append.1 hx with hx | hx
      · exact h.2 x hx
      · rw [List.mem_singleton] at hx; subst hx; exact ⟨h1, h2⟩

theorem SeenOk.len {s : List Int} (h : SeenOk s) : s.length ≤ 12 := by
  have h1 : s ⊆ (List.range 12).map fun i : Nat => (i : Int) + 1 := fun v hv => by
    obtain ⟨a, b⟩ := h.2 v hv
    rw [List.mem_map]
    exact ⟨(v - 1).toNat, by rw [List.mem_range]; omega, by omega⟩
  have := h.1.length_le_of_subset h1
  simpa using this

/-- A term of variables from 1 to 12. -/
def Vars12 (t : Tm) : Prop := WfT t ∧ ∀ p, p ∈ t.parts → p.var ≠ 0 → 1 ≤ p.var ∧ p.var ≤ 12

theorem Vars12.arg {v : Int} {n : ByteArray} {l : List Tm} (h : Vars12 (.mk v n l)) {x : Tm} (hx : x ∈ l) : Vars12 x := ⟨h.1.arg (t := .mk v n l) hx, fun p hp => h.2 p (Tm.parts_arg (t := .mk v n l) hx hp)⟩

theorem ren_ok (t : Tm) : ∀ s, Vars12 t → SeenOk s → SeenOk (Tm.ren numV s t).2 ∧ (t.var ≠ 0 → (Tm.ren numV s t).2 = addV s t.var) := by
  induction t using Tm.ind with
  | h v n l ih =>
    intro s ht hs
    by_cases hv : v = 0
    · subst hv
      have hl : ∀ (r : List Tm) (s : List Int), (∀ x, x ∈ r → x ∈ l) → SeenOk s → SeenOk (Tm.rens numV s r).2 := by
        intro r
        induction r with
        | nil => intro s _ hs; exact hs
        | cons x r ihr =>
          intro s hr hs
          simp only [Tm.rens]
          exact ihr _ (fun y hy => hr y (List.mem_cons_of_mem _ hy)) (ih x (hr x List.mem_cons_self) s (ht.arg (hr x List.mem_cons_self)) hs).1
      refine ⟨?_, fun h => absurd rfl h⟩
      have : (Tm.ren numV s (.mk 0 n l)).2 = (Tm.rens numV s l).2 := by simp only [Tm.ren]; rw [if_neg (fun h => h rfl)]
      rw [this]
      exact hl l s (fun _ h => h) hs
    · have e : (Tm.ren numV s (.mk v n l)).2 = addV s v := by simp only [Tm.ren]; rw [if_pos hv]; rfl
      obtain ⟨h1, h2⟩ := ht.2 _ (Tm.self_mem _) hv
      rw [e]
      exact ⟨hs.add h1 h2, fun _ => rfl⟩

theorem rens_ok (l : List Tm) : ∀ s, (∀ x, x ∈ l → Vars12 x) → SeenOk s → SeenOk (Tm.rens numV s l).2 := by
  induction l with
  | nil => intro s _ hs; exact hs
  | cons x r ih => intro s h hs; simp only [Tm.rens]; exact ih _ (fun y hy => h y (List.mem_cons_of_mem _ hy)) (ren_ok x s (h x List.mem_cons_self) hs).1

/-- What anew hands back. -/
def AnPost (w : World) (ok : Nat → Prop) (nb : Nat) (r : Tm × List Int) (e : Ending) (w' : World) : Prop :=
  Touch (fun b => b = nb) w w' ∧ IntsAt w' nb (nmL 12 r.2) ∧ ∃ a c, e = .returned (.agg #[.int .i64 r.1.var, .string r.1.name, .slice a r.1.args.length c]) ∧ r.1.fits ∧ Ts w' (OkN ok w) r.1.args a c

theorem int_getD {w : World} {b : Nat} {l : List Int} (h : IntsAt w b l) (i : Nat) (hi : i < l.length) : w.cell? ⟨b, i, none⟩ = some (.int .i64 (l.getD i 0)) := by
  rw [h.get i hi, List.getD_eq_getElem?_getD, List.getElem?_eq_getElem hi]; rfl

set_option maxRecDepth 100000 in
set_option maxHeartbeats 4000000 in
theorem AnewVarW {nb : Nat} {v : Int} {nm : ByteArray} {l : List Tm} (w : World) (ok : Nat → Prop) (s : List Int) (a : Option Addr) (cap : Nat) (hv : v ≠ 0) (h12 : 1 ≤ v ∧ v ≤ 12) (hs : SeenOk s) (hi : IntsAt w nb (nmL 12 s)) :
    Calls Try.prog 50 #[.agg #[.int .i64 v, .string nm, .slice a l.length cap], .slice (some ⟨nb, 0, none⟩) 13 13] w (AnPost w ok nb (Tm.ren numV s (.mk v nm l))) := by
  obtain ⟨i, rfl⟩ : ∃ i : Nat, v = (i : Int) := ⟨v.toNat, by omega⟩
  have hil : i < (nmL 12 s).length := by rw [nmL_len]; omega
  have hi0 : (0 : Int) ≤ (i : Int) := by omega
  have hi13 : (i : Int) < 13 := by omega
  have HRES : Hid (Tm.ren numV s (.mk (i : Int) nm l) = (VarT (numV s (i : Int)).1, addV s (i : Int))) := Lib.hid (by simp only [Tm.ren]; rw [if_pos hv]; rfl)
  have BB : Below w.heap.size w ((w.alloc (.cells #[.int .i64 (i : Int), .string nm, .slice a l.length cap] 24)).alloc (.cells #[.int .i64 0, .string ⟨#[]⟩, .slice none 0 0] 24)) := ((Below.refl _ _).alloc (Nat.le_refl _) _).alloc (by simp) _
  have B2 : Box3 ((w.alloc (.cells #[.int .i64 (i : Int), .string nm, .slice a l.length cap] 24)).alloc (.cells #[.int .i64 0, .string ⟨#[]⟩, .slice none 0 0] 24)) w.heap.size (.int .i64 (i : Int)) (.string nm) (.slice a l.length cap) := (Box3.made w _ _ _).alloc _
  have B4 : Box3 ((w.alloc (.cells #[.int .i64 (i : Int), .string nm, .slice a l.length cap] 24)).alloc (.cells #[.int .i64 0, .string ⟨#[]⟩, .slice none 0 0] 24)) (w.heap.size + 1) (.int .i64 0) (.string ⟨#[]⟩) (.slice none 0 0) := Box3.made2 (by simp)
  have HIB := Lib.hid (hi.below BB)
  have HLT : Hid (nb < w.heap.size) := Lib.hid hi.lt
  have HI0 := Lib.hid hi
  have HBB := Lib.hid BB; have HB2 := Lib.hid B2; have HB4 := Lib.hid B4
  have HS := Lib.hid hs
  have HSL := Lib.hid hs.len
  have HXV : Hid ((nmL 12 s).getD i 0 = if (i : Int) ∈ s then numIn s (i : Int) else 0) := Lib.hid (by
    rw [nmL_getD]
    by_cases h : (i : Int) ∈ s
    · rw [if_pos h, if_pos ⟨by omega, h⟩]
    · rw [if_neg h, if_neg (fun e => h e.2)])
  have hvz : ((i : Int) != 0) = true := by rw [bne_iff_ne]; exact hv
  have hg := int_getD HIB.out i hil
  have hfz := HIB.out.fz
  clear BB B2 B4 hi hs hv h12
  by_cases hm : (i : Int) ∈ s
  · have hxi : s.idxOf (i : Int) < s.length := List.idxOf_lt_length_iff.2 hm
    have HRV : Hid (VarT (numV s (i : Int)).1 = VarT (numIn s (i : Int)) ∧ addV s (i : Int) = s) := Lib.hid (by
      have : addV s (i : Int) = s := by unfold addV; rw [if_pos hm]
      refine ⟨?_, this⟩
      unfold numV numIn; rw [this])
    rw [HXV.out, if_pos hm] at hg
    obtain ⟨x, hx⟩ : ∃ x, numIn s (i : Int) = x := ⟨_, rfl⟩
    rw [hx] at hg HRV
    have hx0 : (x == 0) = false := by rw [beq_eq_false_iff_ne, ← hx]; unfold numIn; omega
    have HXI : Hid (I64 x) := Lib.hid (by rw [← hx]; unfold numIn I64; have := HSL.out; omega)
    clear hx hxi hm HXV
    go_enter Try.func50, Try.ntmps50
    go_wp2_with fail
    rw [HRES.out, HRV.out.1, HRV.out.2]
    have BF : Below w.heap.size w ((w.alloc (.cells #[.int .i64 (i : Int), .string nm, .slice a l.length cap] 24)).alloc (.cells #[.int .i64 x, .string ⟨#[]⟩, .slice none 0 0] 24)) := ((Below.refl _ _).alloc (Nat.le_refl _) _).alloc (by simp) _
    exact bodyPost_ret (v := .agg #[.int .i64 x, .string ⟨#[]⟩, .slice none 0 0]) (by simp [results, Try.results50, go_sem]) rfl
      ⟨Touch.below BF, HI0.out.below BF, none, 0, rfl, ⟨HXI.out, Nat.zero_le _⟩, Ts.empty' _ _⟩
  · have HRV : Hid (VarT (numV s (i : Int)).1 = VarT ((s.length : Int) + 1) ∧ addV s (i : Int) = s ++ [(i : Int)]) := Lib.hid (by
      have : addV s (i : Int) = s ++ [(i : Int)] := by unfold addV; rw [if_neg hm]
      refine ⟨?_, this⟩
      unfold numV
      rw [this, List.idxOf_append, if_neg hm]; simp)
    rw [HXV.out, if_neg hm] at hg
    have HPUT := Lib.hid (nmL_put (n := 12) hm)
    have HTOP := Lib.hid (topN_seen HS.out)
    have HNB : Hid (∀ k, (nmL 12 s).getD k 0 < (s.length : Int) + 1) := Lib.hid (fun k => by
      rw [nmL_getD]
      split
      · rename_i hk
        have : s.idxOf (k : Int) < s.length := List.idxOf_lt_length_iff.2 hk.2
        unfold numIn; omega
      · omega)
    clear hm HXV
    go_enter Try.func50, Try.ntmps50
    go_wp2_with fail
    clear hg
    generalize (w.alloc (.cells #[.int .i64 (i : Int), .string nm, .slice a l.length cap] 24)).alloc (.cells #[.int .i64 0, .string ⟨#[]⟩, .slice none 0 0] 24) = wb at *
    go_loop [5, 6] (fun v5 v6 => ∃ k : Nat, k ≤ 13 ∧ v6 = .int .i64 k ∧ v5 = .int .i64 (topN (nmL 12 s) k)) (fun _ v6 => 13 - (intOf v6).toNat)
    case atStart => exact ⟨0, Nat.zero_le _, rfl, rfl⟩
    case round =>
      obtain ⟨k, hk, rfl, rfl⟩ := hrel
      by_cases hlt : k < 13
      · have hg := int_getD HIB.out k (by rw [nmL_len]; omega)
        have HB := Lib.hid (topN_bd (l := nmL 12 s) (m := (s.length : Int) + 1) (by omega) HNB.out k)
        have HG := Lib.hid (HNB.out k)
        have HT : Hid (topN (nmL 12 s) (k + 1) = if topN (nmL 12 s) k ≤ (nmL 12 s).getD k 0 then (nmL 12 s).getD k 0 + 1 else topN (nmL 12 s) k) := Lib.hid rfl
        generalize topN (nmL 12 s) k = n0 at *
        generalize (nmL 12 s).getD k 0 = x at *
        have hsl := HSL.out
        have hb1 := HB.out.1; have hb2 := HB.out.2; have hb3 := HG.out
        have hk13 : (k : Int) < 13 := by omega
        by_cases hc : n0 ≤ x
        · have hcd : decide (n0 ≤ x) = true := decide_eq_true hc
          have HT2 : Hid (topN (nmL 12 s) (k + 1) = x + 1) := Lib.hid (by rw [HT.out, if_pos hc])
          have hx1 : x + 1 ≤ 100 := by omega
          have hx2 : 0 ≤ x := by omega
          go_wp2_with fail
          go_round
          case rel => exact ⟨k + 1, by omega, by go_num, by rw [HT2.out]⟩
          case measure => simp [intOf]; omega
        · have hcd : decide (n0 ≤ x) = false := decide_eq_false hc
          have HT2 : Hid (topN (nmL 12 s) (k + 1) = n0) := Lib.hid (by rw [HT.out, if_neg hc])
          go_wp2_with fail
          go_round
          case rel => exact ⟨k + 1, by omega, by go_num, by rw [HT2.out]⟩
          case measure => simp [intOf]; omega
      · have hk13 : k = 13 := by omega
        subst hk13
        have HTP : Hid (topN (nmL 12 s) 13 = (s.length : Int) + 1) := HTOP
        obtain ⟨n1, hn1⟩ : ∃ n1, (s.length : Int) + 1 = n1 := ⟨_, rfl⟩
        rw [HTP.out, hn1]
        have g0 := int_getD HIB.out i hil
        have hset := HIB.out.set i n1
        rw [← hn1, HPUT.out, hn1] at hset
        have g1 := hset.get i (by rw [nmL_len]; omega)
        have hgv : (nmL 12 (s ++ [(i : Int)]))[i]'(by rw [nmL_len]; omega) = n1 := by
          have : (nmL 12 (s ++ [(i : Int)])) = (nmL 12 s).set i n1 := by rw [← hn1, HPUT.out]
          simp only [this, List.getElem_set_self]
        rw [hgv] at g1
        have HSET := Lib.hid hset
        have HN1 : Hid (I64 n1) := Lib.hid (by unfold I64; have := HSL.out; omega)
        have HN1' := Lib.hid hn1
        have hB4 := HB4.out.keep (w' := wb.setCell ⟨nb, i, none⟩ (.int .i64 n1)) (Below.heap_setCell _ _ _ _ (by have := HLT.out; show w.heap.size + 1 ≠ nb; omega))
        have hB2 := HB2.out.keep (w' := wb.setCell ⟨nb, i, none⟩ (.int .i64 n1)) (Below.heap_setCell _ _ _ _ (by have := HLT.out; show w.heap.size ≠ nb; omega))
        have HBX4 := Lib.hid hB4
        obtain ⟨p0, p1, p2, pf⟩ := hB2.all
        obtain ⟨r0, r1, r2, rf⟩ := HB2.out.all
        obtain ⟨q0, q1, q2, qf⟩ := hB4.all
        clear hset hgv hn1 hB4 hB2
        go_wp2_with fail
        rw [HRES.out, HRV.out.1, HRV.out.2, HN1'.out]
        have hT : Touch (fun b => b = nb) w (wb.setCell ⟨nb, i, none⟩ (.int .i64 n1)) := (Touch.below HBB.out).trans (Touch.setCell _ rfl)
        have TP := touch_put (wb.setCell ⟨nb, i, none⟩ (.int .i64 n1)) (w.heap.size + 1) (.int .i64 n1) (.string ⟨#[]⟩) (.slice none 0 0)
        exact bodyPost_ret (v := .agg #[.int .i64 n1, .string ⟨#[]⟩, .slice none 0 0]) (by simp [results, Try.results50, go_sem, q0, q1, q2]) rfl
          ⟨⟨TP.os.trans hT.os, TP.tape.trans hT.tape, TP.output.trans hT.output, Nat.le_trans hT.size TP.size, fun b hb hn => (TP.block b (Nat.lt_of_lt_of_le hb hT.size) (fun e => by omega)).trans (hT.block b hb hn)⟩,
            HSET.out.keep (other_put (by have := HLT.out; omega) _ _ _), none, 0, rfl, ⟨HN1.out, Nat.zero_le _⟩, Ts.empty' _ _⟩

set_option maxRecDepth 100000 in
set_option maxHeartbeats 4000000 in
theorem AnewW {nb : Nat} (t : Tm) : ∀ (w : World) (ok : Nat → Prop) (s : List Int) (a : Option Addr) (cap : Nat), (∀ b, ok b → b < w.heap.size ∧ b ≠ nb) → t.size ≤ 100000 → t.fits → Vars12 t → SeenOk s → Ts w ok t.args a cap → IntsAt w nb (nmL 12 s) →
    Calls Try.prog 50 #[.agg #[.int .i64 t.var, .string t.name, .slice a t.args.length cap], .slice (some ⟨nb, 0, none⟩) 13 13] w (AnPost w ok nb (Tm.ren numV s t)) := by
  induction t using Tm.ind with
  | h v n l ih =>
    intro w ok s a cap hok hsize hfit h12 hs hrd hi
    by_cases hv : v = 0
    · have IH := Lib.hid ih; have HOK := Lib.hid hok; have HF := Lib.hid hfit; have HV := Lib.hid h12; have HSIZE := Lib.hid hsize; have HS := Lib.hid hs
      simp only [Tm.var, Tm.name, Tm.args] at hrd ⊢
      have HRD := Lib.hid hrd
      have hcl : l.length ≤ 100000 := by
        have h1 := hsize
        simp only [Tm.size] at h1
        have := Tm.length_le_sizes l; omega
      have hnbw := hi.lt
      have hi' := Lib.hid hi
      clear ih hok hfit h12 hrd hsize hs hi
      subst hv
      have HRES : Hid (Tm.ren numV s (.mk 0 n l) = (.mk 0 n (Tm.rens numV s l).1, (Tm.rens numV s l).2)) := Lib.hid (by simp only [Tm.ren]; rw [if_neg (fun h => h rfl)])
      go_enter Try.func50, Try.ntmps50
      go_wp2_with fail
      have BB : Below w.heap.size w (((w.alloc (.cells #[.int .i64 0, .string n, .slice a l.length cap] 24)).alloc (.cells #[.int .i64 0, .string ⟨#[]⟩, .slice none 0 0] 24)).alloc (.cells #[.int .i64 0, .string n, .slice none 0 0] 24)) := (((Below.refl _ _).alloc (Nat.le_refl _) _).alloc (by simp) _).alloc (by simp; omega) _
      have B2 : Box3 (((w.alloc (.cells #[.int .i64 0, .string n, .slice a l.length cap] 24)).alloc (.cells #[.int .i64 0, .string ⟨#[]⟩, .slice none 0 0] 24)).alloc (.cells #[.int .i64 0, .string n, .slice none 0 0] 24)) w.heap.size (.int .i64 0) (.string n) (.slice a l.length cap) := ((Box3.made w _ _ _).alloc _).alloc _
      have B4 : Box3 (((w.alloc (.cells #[.int .i64 0, .string n, .slice a l.length cap] 24)).alloc (.cells #[.int .i64 0, .string ⟨#[]⟩, .slice none 0 0] 24)).alloc (.cells #[.int .i64 0, .string n, .slice none 0 0] 24)) (w.heap.size + 1) (.int .i64 0) (.string ⟨#[]⟩) (.slice none 0 0) := (Box3.made2 (by simp)).alloc _
      have B5 : Box3 (((w.alloc (.cells #[.int .i64 0, .string n, .slice a l.length cap] 24)).alloc (.cells #[.int .i64 0, .string ⟨#[]⟩, .slice none 0 0] 24)).alloc (.cells #[.int .i64 0, .string n, .slice none 0 0] 24)) (w.heap.size + 1 + 1) (.int .i64 0) (.string n) (.slice none 0 0) := Box3.made2 (by simp)
      have hsz : (((w.alloc (.cells #[.int .i64 0, .string n, .slice a l.length cap] 24)).alloc (.cells #[.int .i64 0, .string ⟨#[]⟩, .slice none 0 0] 24)).alloc (.cells #[.int .i64 0, .string n, .slice none 0 0] 24)).heap.size = w.heap.size + 3 := by simp
      have HIB := Lib.hid (hi'.out.below BB)
      have HBB := Lib.hid BB; have HB2 := Lib.hid B2; have HB4 := Lib.hid B4; have HB5 := Lib.hid B5; have HSZ := Lib.hid hsz
      clear BB B2 B4 B5 hsz hi'
      generalize (((w.alloc (.cells #[.int .i64 0, .string n, .slice a l.length cap] 24)).alloc (.cells #[.int .i64 0, .string ⟨#[]⟩, .slice none 0 0] 24)).alloc (.cells #[.int .i64 0, .string n, .slice none 0 0] 24)) = wb at *
      go_loopw [8] (fun y wr => ∃ (k : Nat) (L : List TmAt) (x : Value) (s' : List Int), k ≤ l.length ∧ y = .int .i64 k ∧ Hid (L.map (·.1) = (Tm.rens numV s (l.take k)).1) ∧ Hid (s' = (Tm.rens numV s (l.take k)).2) ∧ BldM wb (fun b => b = nb) ok (w.heap.size + 1 + 1) n L x wr ∧ Hid (IntsAt wr nb (nmL 12 s'))) (fun y _ => l.length - (intOf y).toNat)
      case atStart => exact ⟨0, [], .slice none 0 0, s, Nat.zero_le _, rfl, Lib.hid rfl, Lib.hid rfl, BldM.start HB5.out, HIB⟩
      case round =>
        obtain ⟨k, L, x, s', hk, rfl, HL, HSE, hrel, HIR⟩ := hrel
        have HR := Lib.hid hrel
        obtain ⟨xa, xc, rfl⟩ := hrel.form
        have p2 := (HB2.out.keep (hrel.touch.block _ HB2.out.lt (by omega))).c2
        have q4 := (HB4.out.keep (hrel.touch.block _ HB4.out.lt (by omega))).all
        have q0 := hrel.box.c0; have q1 := hrel.box.c1; have q2 := hrel.box.c2; have qf := hrel.box.fz
        have hLk : L.length = k := by
          have := congrArg List.length HL.out
          rw [List.length_map, Tm.rens_length, List.length_take] at this; omega
        have HLK := Lib.hid hLk
        have HSW : Hid (w.heap.size + 3 ≤ wr.heap.size) := Lib.hid (by have := hrel.touch.size; have := HSZ.out; omega)
        have HBR : Hid (Touch (fun b => b = nb ∨ w.heap.size ≤ b) w wr) := Lib.hid (((Touch.below HBB.out).trans (hrel.touch.mono fun b _ e => e.elim (fun e => .inr (by omega)) .inl)))
        have HKP : Hid (Keeps ok w wr) := Lib.hid (HBR.out.keeps fun b hb e => by have := HOK.out b hb; omega)
        clear hrel hLk
        by_cases hlt : k < l.length
        · obtain ⟨b, off, a', cap', rfl, hokb, hbs, hc, ht⟩ := HRD.out.at k hlt
          have m0 := (HKP.out.cell (p := ⟨b, off + k * 3, none⟩) hokb hbs).trans hc.var
          have m1 := (HKP.out.cell (p := ⟨b, off + k * 3 + 1, none⟩) hokb hbs).trans hc.name
          have m2 := (HKP.out.cell (p := ⟨b, off + k * 3 + 2, none⟩) hokb hbs).trans hc.args
          have hk0 : (0 : Int) ≤ (k : Int) := by omega
          have hk1 : (k : Int) < (l.length : Int) := by omega
          have hmem : l[k] ∈ l := List.getElem_mem hlt
          have HC := Lib.hid hc.fits; have HTS := Lib.hid ht
          have HSO : Hid (SeenOk s') := Lib.hid (by rw [HSE.out]; exact rens_ok _ s (fun x hx => HV.out.arg (List.mem_of_mem_take hx)) HS.out)
          have HSTEP : Hid (Tm.rens numV s (l.take (k + 1)) = ((Tm.rens numV s (l.take k)).1 ++ [(Tm.ren numV s' l[k]).1], (Tm.ren numV s' l[k]).2)) := Lib.hid (by
            rw [List.take_succ_eq_append_getElem hlt, Tm.rens_append, ← HSE.out]; rfl)
          clear hc ht
          obtain ⟨i0, hi, hz0, hz1, hz2⟩ := info_parts Try.infoTm
          have HCL : Hid (∀ u, Below wr.heap.size wr u → Calls Try.prog 50 #[.agg #[.int .i64 l[k].var, .string l[k].name, .slice a' l[k].args.length cap'], .slice (some ⟨nb, 0, none⟩) 13 13] u (AnPost u ok nb (Tm.ren numV s' l[k]))) := Lib.hid fun u hu =>
            IH.out _ hmem u ok s' a' cap' (fun b hb => ⟨by have := (HOK.out b hb).1; have := hu.size; have := HSW.out; omega, (HOK.out b hb).2⟩) (Tm.size_arg HSIZE.out k hlt) HC.out (HV.out.arg hmem) HSO.out (HTS.out.keep (HKP.out.trans (Keeps.below hu ok))) (HIR.out.below hu)
          generalize Tm.ren numV s' l[k] = r at *
          obtain ⟨rt, rs⟩ := r
          simp only at HSTEP
          go_wp2_with fail
          go_region_law (first
            | (go_simp
               go_at_call 50
               refine (HCL.out _ ?_).mono ?_
               · exact (Below.refl _ _).drew
               rintro e w1 ⟨ht1, hi1, a2, c2, rfl, hf2, ht2⟩
               have HB : Touch (fun b => b = nb) wr w1 := (Touch.below (Below.refl _ _).drew).trans ht1
               have hbx := HR.out.box.keep (HB.block _ HR.out.box.lt (by omega))
               have r0 : w1.cell? ⟨w.heap.size + 1 + 1, 2, none⟩ = some (.slice xa L.length xc) := hbx.c2
               have z1 : w.heap.size + 1 + 1 < w1.heap.size := hbx.lt
               have HO1 := Lib.hid ((ownsRow_block HR.out.own.own (fun g hg => HB.block g (HR.out.own.block hg).2 (fun e => by have := (HR.out.own.block hg).1; have := HSZ.out; omega))).alloc (.cells #[.int .i64 rt.var, .string rt.name, .slice a2 rt.args.length c2] 24))
               have HN1 : Hid (∀ j u, (flat [(rt, a2, c2)])[j]? = some u → (w1.alloc (.cells #[.int .i64 rt.var, .string rt.name, .slice a2 rt.args.length c2] 24)).cell? ((⟨w1.heap.size, 0, none⟩ : Addr).add j) = some u) := Lib.hid (by
                 have ho := World.ownsRow_lit (base := w1.heap.size) (e := 24) (size := 3) w1 #[.int .i64 rt.var, .string rt.name, .slice a2 rt.args.length c2] 1 (Nat.le_refl _) (by unfold maxLen; omega) rfl
                 exact ho.cells (g := w1.heap.size) rfl)
               have HF2 := Lib.hid hf2
               have HT2 := Lib.hid ht2
               have HB1 := Lib.hid HB
               have HI1 := Lib.hid hi1
               clear hf2 ht2 ht1 hi1 HB hbx)
            | (have _g := HO1
               refine step_append_opt _ (by rfl) _ _ _ (by rfl) wb.heap.size 24 i0 _ 3 48 Try.underlying22 hi hz0 hz1 hz2 rfl (by decide) (.slice xa L.length xc) L.length (flat L) (by rfl) HO1.out (some ⟨w1.heap.size, 0, none⟩) 1 1 (by intro h; cases h) (flat [(rt, a2, c2)]) (by rfl) (by rw [flat_length]; rfl) (by intro ad had; cases had; exact HN1.out) (flat_one _) (by have := HLK.out; unfold maxLen; omega) (by have := HLK.out; omega) (by have := HR.out.touch.size; have := HB1.out.size; simp; omega) ?_
               intro v3 w3 hown3 hgrow3 hfr3
               have HNX := Lib.hid (HR.out.next (fun b hb => ⟨by have := (HOK.out b hb).1; have := HSZ.out; omega, by have := (HOK.out b hb).1; omega, (HOK.out b hb).2⟩) (fun b e => by subst e; exact ⟨by have := HSZ.out; omega, by omega⟩) (show wr.heap.size ≤ wr.drew.heap.size from Nat.le_refl _) HB1.out HF2.out HT2.out ((Below.refl _ _).alloc (Nat.le_refl _) _) hown3 hgrow3 hfr3)
               have hxne : (Value.slice xa L.length xc).ownBlock ≠ some nb := fun e => by have := (HR.out.own.block e).1; have := HSZ.out; omega
               have HI3 : Hid (IntsAt w3 nb (nmL 12 rs)) := Lib.hid (HI1.out.keep ((hgrow3.block nb (by simp only [aSz]; have := HI1.out.lt; omega) (fun e => hxne e.symm)).trans (Below.heap_alloc _ _ _ HI1.out.lt)))
               obtain ⟨g3, cap3, rfl⟩ := own_shape hown3 (by omega)
               have s2 : w3.cell? ⟨w.heap.size + 1 + 1, 2, none⟩ = some (.slice xa L.length xc) := HNX.out.1.c2
               have sf : ∀ o, w3.frozen? ⟨w.heap.size + 1 + 1, o, none⟩ = false := HNX.out.1.fz
               clear hown3 hgrow3 hfr3 hxne))
          all_goals
            go_wp2_with fail
            go_roundw
            case measure => simp [intOf]; omega
            case rel => exact ⟨k + 1, _, _, rs, by omega, by go_num, Lib.hid (by rw [List.map_append, HL.out, HSTEP.out]; rfl), Lib.hid (by rw [HSTEP.out]), HNX.out.2, Lib.hid (HI3.out.keep (Below.heap_setCell _ _ _ _ (by show nb ≠ w.heap.size + 1 + 1; omega)))⟩
        · have HLE : Hid (l.take k = l) := Lib.hid (List.take_of_length_le (by omega))
          obtain ⟨q40, q41, q42, q43⟩ := q4
          go_wp2_with fail
          have HD := Lib.hid (HR.out.done (w := w) (br := w.heap.size + 1) ((Touch.below HBB.out)) (by omega) (by omega) (by have := HSZ.out; omega) (fun b hb => (HOK.out b hb).1))
          rw [HRES.out]
          obtain ⟨a9, c9, he, hts9, ht9⟩ := HD.out
          injection he with he1 he2 he3
          subst he1; subst he3
          have hlist : (Tm.rens numV s l).1 = L.map (·.1) := by rw [HL.out, HLE.out]
          have hlen : (Tm.rens numV s l).1.length = L.length := by rw [hlist, List.length_map]
          refine bodyPost_ret (v := .agg #[.int .i64 0, .string n, .slice xa L.length xc]) (by simp [results, Try.results50, go_sem, q40, q41, q42]) rfl ⟨ht9, ?_, xa, xc, ?_, ⟨by show I64 0; unfold I64; omega, HF.out.2⟩, ?_⟩
          · have : s' = (Tm.rens numV s l).2 := by rw [HSE.out, HLE.out]
            simp only
            rw [← this]
            exact HIR.out.keep (other_put (by omega) _ _ _)
          · simp only [Tm.var, Tm.name, Tm.args]; rw [hlen]
          · simp only [Tm.args]; rw [hlist]; exact hts9
    · exact AnewVarW w ok s a cap hv (h12.2 _ (Tm.self_mem _) hv) hs hi

end Go.Proofs.Ytikmgiapjigghaa
