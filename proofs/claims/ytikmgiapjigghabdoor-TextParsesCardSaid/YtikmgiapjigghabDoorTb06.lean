/- Walks: the text of a number. -/
import Derived.Lib.ItoaNum
import Derived.Laws.IdiomStrings
import Derived.WalkSpells
import Derived.Test.YtikmgiapjigghabDoorTb05
namespace Go.Proofs.YtikmgiapjigghabDoor
open Go.RowKit

/-- A string of bytes. -/
def strB (l : Bs) : ByteArray := ⟨l.toArray⟩

theorem strB_name (n : ByteArray) : strB n.data.toList = n := byteArr n
theorem strB_size (l : Bs) : (strB l).size = l.length := by simp [strB, ByteArray.size]
theorem strB_toList (l : Bs) : (strB l).data.toList = l := by simp [strB]
theorem strB_inj {a b : Bs} (h : strB a = strB b) : a = b := by rw [← strB_toList a, ← strB_toList b, h]

/-- Two texts, one behind the other. -/
theorem str_add (a b : Bs) (ha : a.length ≤ 8388608) (hb : b.length ≤ 8388608) (w : World) : (Op.stringOp .add (strB a) (strB b)).run Tryd.prog w = .ok (.string (strB (a ++ b))) w := by
  have := run_string_add_lists (P := Tryd.prog) w a b (by omega) (by omega)
  exact this

theorem digs_dec : ∀ n : Nat, digs n = Lib.decDigits n := by
  intro n
  induction n using Nat.strongRecOn with
  | _ n ih =>
    unfold digs Lib.decDigits
    by_cases h : n < 10
    · rw [dif_pos h, dif_pos h]
    · rw [dif_neg h, dif_neg h, ih (n / 10) (by omega)]

theorem digs_len : ∀ n : Nat, n < 1000000000 → (digs n).length ≤ 9 := by
  have key : ∀ k n : Nat, n < 10 ^ (k + 1) → (digs n).length ≤ k + 1 := by
    intro k
    induction k with
    | zero => intro n h; rw [digs_one (by omega)]; simp
    | succ k ih =>
      intro n h
      by_cases h1 : n < 10
      · rw [digs_one h1]; simp
      · rw [digs_two h1, List.length_append]
        have := ih (n / 10) (by rw [Nat.pow_succ] at h; omega)
        simp only [List.length_cons, List.length_nil]; omega
  intro n h
  exact key 8 n (by omega)

theorem digit_byte {n : Nat} (h : n < 10) : ((UInt8.ofNat (48 + n)).toNat : Int) = 48 + (n : Int) := by
  rw [UInt8.toNat_ofNat']; omega

set_option maxRecDepth 100000 in
set_option maxHeartbeats 1000000 in
theorem DigitsW : ∀ (n : Nat), n < 1000000000 → ∀ (w : World), Calls Tryd.prog 49 #[.int .i64 n] w fun e w' => e = .returned (.string (strB (digs n))) ∧ Below w.heap.size w w' := by
  intro n
  induction n using Nat.strongRecOn with
  | _ n ih =>
  intro hn w
  have IH := Lib.hid ih
  clear ih
  by_cases h : n < 10
  · have h1 : (n : Int) < 10 := by omega
    have h0 : (0 : Int) ≤ (n : Int) := by omega
    have hcv : (convert 44 9 (.slice (some ⟨w.heap.size, 0, none⟩) 1 1)).run Tryd.prog (w.alloc (.cells #[.int .u8 (48 + (n : Int))] 5)) = .ok (.string (strB (digs n))) (w.alloc (.cells #[.int .u8 (48 + (n : Int))] 5)) := by
      rw [digs_one h]
      exact run_convert_bytes_back (P := Tryd.prog) (w.alloc (.cells #[.int .u8 (48 + (n : Int))] 5)) 44 9 5 ⟨w.heap.size, 0, none⟩ 1 [UInt8.ofNat (48 + n)] Tryd.underlying44 Tryd.underlying5 Tryd.underlying9 (fun j hj => by
        have : j = 0 := by simp at hj; omega
        subst this
        simp only [List.getElem_cons_zero]
        rw [digit_byte h]
        simp [Addr.add, World.cell?, World.alloc, -World.alloc_eq])
    have HCV := Lib.hid hcv
    clear IH
    go_enter Tryd.func49, Tryd.ntmps49
    go_wp2_with fail
    go_ret
    exact ⟨rfl, (Below.refl _ _).alloc (Nat.le_refl _) _⟩
  · have h1 : ¬ (n : Int) < 10 := by omega
    have h0 : (0 : Int) ≤ (n : Int) := by omega
    have HQ : Hid (∀ u, Calls Tryd.prog 49 #[.int .i64 ((n : Int) / 10)] u fun e w' => e = .returned (.string (strB (digs (n / 10)))) ∧ Below u.heap.size u w') := Lib.hid (fun u => by
      have h := IH.out (n / 10) (by omega) (by omega) u
      rw [show ((n / 10 : Nat) : Int) = (n : Int) / 10 by omega] at h; exact h)
    have HR : Hid (∀ u, Calls Tryd.prog 49 #[.int .i64 ((n : Int) % 10)] u fun e w' => e = .returned (.string (strB (digs (n % 10)))) ∧ Below u.heap.size u w') := Lib.hid (fun u => by
      have h := IH.out (n % 10) (by omega) (by omega) u
      rw [show ((n % 10 : Nat) : Int) = (n : Int) % 10 by omega] at h; exact h)
    have HA : Hid (∀ u, (Op.stringOp .add (strB (digs (n / 10))) (strB (digs (n % 10)))).run Tryd.prog u = .ok (.string (strB (digs n))) u) := Lib.hid (fun u => by
      have h2 := digs_len (n / 10) (by omega)
      have h3 := digs_len (n % 10) (by omega)
      rw [str_add _ _ (by omega) (by omega), digs_two h, digs_one (n := n % 10) (by omega)])
    have ha := HA.out
    clear IH
    go_enter Tryd.func49, Tryd.ntmps49
    go_wp2_with (first
      | (go_at_call 49; (with_reducible refine (HQ.out _).mono ?_); rintro e w1 ⟨rfl, hb1⟩; have HB1 := Lib.hid hb1; clear hb1)
      | (go_at_call 49; (with_reducible refine (HR.out _).mono ?_); rintro e w2 ⟨rfl, hb2⟩; have HB2 := Lib.hid hb2; clear hb2))
    go_ret
    exact ⟨rfl, HB1.out.trans (HB2.out.mono HB1.out.size)⟩

end Go.Proofs.YtikmgiapjigghabDoor

/- Walks: the reference's texts of terms and goals. -/
namespace Go.Proofs.YtikmgiapjigghabDoor
open Go.RowKit

/-- Terms whose texts are short. -/
inductive TW : Tm → Prop
  | var (v : Int) (h1 : 1 ≤ v) (h2 : v ≤ 999) : TW (.mk v ⟨#[]⟩ [])
  | fn (n : ByteArray) (l : List Tm) (hn : n.size ≤ 8) (hl : ∀ x, x ∈ l → TW x) : TW (.mk 0 n l)

theorem txtr_len : ∀ l : List Tm, (∀ x, x ∈ l → x.txt.length + 2 ≤ 12 * x.size) → (Tm.txtr l).length ≤ 12 * Tm.sizes l := by
  intro l
  induction l with
  | nil => intro _; simp [Tm.txtr]
  | cons t r ih =>
    intro h
    have h1 := h t List.mem_cons_self
    have h2 := ih fun x hx => h x (List.mem_cons_of_mem _ hx)
    simp only [Tm.txtr, List.length_cons, List.length_append, Tm.sizes]; omega

theorem txtL_len' : ∀ l : List Tm, (∀ x, x ∈ l → x.txt.length + 2 ≤ 12 * x.size) → (txtL l).length ≤ 12 * Tm.sizes l := by
  intro l h
  cases l with
  | nil => simp [txtL]
  | cons t r =>
    have h1 := h t List.mem_cons_self
    have h2 := txtr_len r fun x hx => h x (List.mem_cons_of_mem _ hx)
    simp only [txtL, List.length_append, Tm.sizes]; omega

theorem tw_len : ∀ t, TW t → t.txt.length + 2 ≤ 12 * t.size := by
  intro t h
  induction h with
  | var v h1 h2 =>
    rw [Tm.txt_var (by omega)]
    have := digs_len v.toNat (by omega)
    simp only [List.length_cons, Tm.size, Tm.sizes]; omega
  | fn n l hn hl ih =>
    rw [Tm.txt_zero]
    have h1 := txtL_len' l ih
    have h2 : n.data.toList.length = n.size := by simp
    rw [List.length_append]
    split
    · simp only [List.length_nil, Tm.size]; omega
    · simp only [List.length_cons, List.length_append, List.length_nil, Tm.size]; omega

theorem txtL_len {l : List Tm} (h : ∀ x, x ∈ l → TW x) : (txtL l).length ≤ 12 * Tm.sizes l := txtL_len' l fun x hx => tw_len x (h x hx)

theorem name_len {n : ByteArray} (h : nameB n = true) : n.size ≤ 8 := by
  unfold nameB at h
  rw [Bool.or_eq_true] at h
  rcases h with h | h
  · rw [beq_iff_eq, ByteArray.toList_eq] at h
    have : n.data.toList.length = n.size := by simp
    rw [h] at this; simp at this; omega
  · simp only [Bool.and_eq_true, decide_eq_true_eq] at h
    exact h.1.1.1.2

theorem tw_parts : ∀ t : Tm, t.partsE = 0 → TW t := by
  refine Tm.ind fun v n l ih h => ?_
  rw [Tm.partsE] at h
  by_cases h0 : partE v n l.length = 0
  · rw [if_pos h0] at h
    by_cases hv : v = 0
    · subst hv
      refine .fn n l (name_len ?_) fun x hx => ih x hx (partssE_zero l h x hx)
      cases hn : nameB n with
      | true => rfl
      | false => rw [partE_name hn] at h0; cases h0
    · by_cases h1 : v < 1 ∨ 12 < v
      · rw [partE_range hv h1] at h0; cases h0
      · by_cases h2 : n.size ≠ 0 ∨ 0 < l.length
        · rw [partE_var hv h1 h2] at h0; cases h0
        · have e1 : n = ⟨#[]⟩ := emptyB n (by omega)
          have e2 : l = [] := List.eq_nil_of_length_eq_zero (by omega)
          subst e1 e2
          exact .var v (by omega) (by omega)
  · rw [if_neg h0] at h; exact absurd h h0

theorem tw_of {t : Tm} (h : t.checkE = 0) : TW t := tw_parts t (check_zero h).2

theorem txtL_snoc (l : List Tm) (t : Tm) (h : l ≠ []) : txtL (l ++ [t]) = txtL l ++ [44, 32] ++ t.txt := by
  cases l with
  | nil => exact absurd rfl h
  | cons a r =>
    have key : ∀ r : List Tm, Tm.txtr (r ++ [t]) = Tm.txtr r ++ [44, 32] ++ t.txt := by
      intro r
      induction r with
      | nil => simp [Tm.txtr]
      | cons b r ih => simp only [List.cons_append, Tm.txtr, ih]; simp
    simp only [List.cons_append, txtL, key]; simp

theorem txtL_next (l : List Tm) (k : Nat) (h : k < l.length) (h0 : k ≠ 0) : txtL (l.take (k + 1)) = txtL (l.take k) ++ [44, 32] ++ l[k].txt := by
  rw [List.take_succ_eq_append_getElem h]
  refine txtL_snoc _ _ fun e => h0 ?_
  have := congrArg List.length e
  rw [List.length_take, List.length_nil] at this
  omega

theorem txtL_first (l : List Tm) (h : 0 < l.length) : txtL (l.take 1) = l[0].txt := by
  cases l with
  | nil => cases h
  | cons a r => simp [txtL, Tm.txtr]

theorem txtL_take_len {l : List Tm} (h : ∀ x, x ∈ l → TW x) (k : Nat) : (txtL (l.take k)).length ≤ 12 * Tm.sizes l := by
  have h1 := txtL_len (l := l.take k) fun x hx => h x (List.mem_of_mem_take hx)
  have h2 := Tm.sizes_take_le l k
  omega

/-- What is written of a name and its first arguments. -/
def accT (nm : Bs) (l : List Tm) (k : Nat) : Bs := nm ++ (if k = 0 then [] else 40 :: txtL (l.take k))

theorem accT_zero (nm : Bs) (l : List Tm) : accT nm l 0 = nm := by unfold accT; rw [if_pos rfl, List.append_nil]

/-- The reference's text of a term. -/
def TextAt (t : Tm) : Prop := ∀ (w : World) (ok : Nat → Prop) (a : Option Addr) (cap : Nat), t.fits → Ts w ok t.args a cap → TW t → t.size ≤ 1000 →
  Calls Tryd.prog 27 #[.agg #[.int .i64 t.var, .string t.name, .slice a t.args.length cap]] w fun e w' => e = .returned (.string (strB t.txt)) ∧ Below w.heap.size w w'

set_option maxRecDepth 100000 in
set_option maxHeartbeats 1000000 in
theorem TermTextW (t : Tm) : TextAt t := by
  induction t using Tm.ind with
  | h v n l ih =>
    intro w ok a cap hfit hts htw hsz
    simp only [Tm.var, Tm.name, Tm.args] at hts ⊢
    have B1 : Below w.heap.size w (w.alloc (.cells #[.int .i64 v, .string n, .slice a l.length cap] 48)) := (Below.refl _ _).alloc (Nat.le_refl _) _
    have HB1 := Lib.hid B1
    cases htw with
    | var _ h1 h2 =>
      have hv : (v != 0) = true := by rw [bne_iff_ne]; omega
      obtain ⟨m, rfl⟩ : ∃ m : Nat, v = (m : Int) := ⟨v.toNat, by omega⟩
      have HD : Hid (∀ u, Calls Tryd.prog 49 #[.int .i64 m] u fun e w' => e = .returned (.string (strB (digs m))) ∧ Below u.heap.size u w') := Lib.hid (fun u => DigitsW m (by omega) u)
      have ha : ∀ u, (Op.stringOp .add { data := #[86] } (strB (digs m))).run Tryd.prog u = .ok (.string (strB (Tm.mk (m : Int) ⟨#[]⟩ []).txt)) u := fun u => by
        rw [Tm.txt_var (by omega), Int.toNat_natCast]
        exact str_add [86] (digs m) (by simp) (by have := digs_len m (by omega); omega) u
      clear hts ih B1
      go_enter Tryd.func27, Tryd.ntmps27
      go_wp2_with (go_at_call 49; refine (HD.out _).mono ?_; rintro e w1 ⟨rfl, hb1⟩; have HB2 := Lib.hid hb1; clear hb1)
      go_ret
      exact ⟨rfl, HB1.out.trans (HB2.out.mono HB1.out.size)⟩
    | fn _ _ hn hl =>
      obtain ⟨nm, rfl⟩ : ∃ nm, n = strB nm := ⟨n.data.toList, (strB_name n).symm⟩
      rw [strB_size] at hn
      have IH := Lib.hid ih; have HT := Lib.hid hts; have HL := Lib.hid hl
      have HX : Hid (Box3 (w.alloc (.cells #[.int .i64 0, .string (strB nm), .slice a l.length cap] 48)) w.heap.size (.int .i64 0) (.string (strB nm)) (.slice a l.length cap)) := Lib.hid (Box3.made w _ _ _)
      have HS : Hid (Tm.sizes l ≤ 1000) := Lib.hid (by simp only [Tm.size] at hsz; omega)
      have hcl : l.length ≤ 9223372036854775807 := by have := hts.cap; unfold maxLen at this; omega
      have HZ : Hid ((Tm.mk 0 (strB nm) l).txt = if l = [] then accT nm l l.length else accT nm l l.length ++ [41]) := Lib.hid (by
        rw [Tm.txt_zero, strB_toList]
        by_cases h : l = []
        · subst h; rw [if_pos rfl, if_pos rfl]; simp [accT]
        · rw [if_neg h, if_neg h]
          unfold accT
          rw [if_neg (by intro e; exact h (List.eq_nil_of_length_eq_zero e)), List.take_length]
          simp)
      have HAL : Hid (∀ k, (accT nm l k).length ≤ 20000) := Lib.hid (fun k => by
        have := txtL_take_len hl k
        have := HS.out
        unfold accT
        rw [List.length_append]
        split
        · simp; omega
        · simp only [List.length_cons]; omega)
      clear ih hts hl hfit B1
      go_enter Tryd.func27, Tryd.ntmps27
      go_wp2_with fail
      generalize (w.alloc (.cells #[.int .i64 0, .string (strB nm), .slice a l.length cap] 48)) = wb at *
      go_loopw [3, 4] (fun x3 x4 wr => ∃ (k : Nat), k ≤ l.length ∧ x4 = .int .i64 k ∧ x3 = .string (strB (accT nm l k)) ∧ Hid (Below wb.heap.size wb wr)) (fun _ x4 _ => l.length - (intOf x4).toNat)
      case atStart => exact ⟨0, Nat.zero_le _, rfl, by rw [accT_zero], Lib.hid (Below.refl _ _)⟩
      case round =>
        obtain ⟨k, hk, rfl, rfl, HB⟩ := hrel
        obtain ⟨y0, y1, y2, yf⟩ := (HX.out.below HB.out).all
        by_cases hlt : k < l.length
        · obtain ⟨b, off, a', c', rfl, hokb, hbs, hc, ht'⟩ := HT.out.at k hlt
          have hbr : Below w.heap.size w wr := HB1.out.trans (HB.out.mono HB1.out.size)
          have m0 := (hbr.cell (p := ⟨b, off + k * 3, none⟩) hbs).trans hc.var
          have m1 := (hbr.cell (p := ⟨b, off + k * 3 + 1, none⟩) hbs).trans hc.name
          have m2 := (hbr.cell (p := ⟨b, off + k * 3 + 2, none⟩) hbs).trans hc.args
          have HCL := Lib.hid (IH.out l[k] (List.getElem_mem hlt) wr ok a' c' hc.fits (ht'.keep (Keeps.below hbr _)) (HL.out _ (List.getElem_mem hlt)) (by have := Tm.size_le_sizes l k hlt; have := HS.out; omega))
          have htl : l[k].txt.length ≤ 12000 := by have := tw_len _ (HL.out _ (List.getElem_mem hlt)); have := Tm.size_le_sizes l k hlt; have := HS.out; omega
          clear hc ht' hbr hbs hokb
          by_cases h0 : k = 0
          · subst h0
            simp only [Nat.zero_mul, Nat.add_zero] at m0 m1 m2
            have ha1 : ∀ u, (Op.stringOp .add (strB (accT nm l 0)) { data := #[40] }).run Tryd.prog u = .ok (.string (strB (nm ++ [40]))) u := fun u => by
              rw [accT_zero]; exact str_add nm [40] (by omega) (by simp) u
            have ha2 : ∀ u, (Op.stringOp .add (strB (nm ++ [40])) (strB l[0].txt)).run Tryd.prog u = .ok (.string (strB (accT nm l 1))) u := fun u => by
              rw [str_add _ _ (by simp; omega) (by omega)]
              unfold accT
              rw [if_neg (by omega), txtL_first l hlt]; simp
            clear htl
            go_wp2_with (go_at_call 27; refine HCL.out.mono ?_; rintro e w1 ⟨rfl, hb1⟩; have HB2 := Lib.hid hb1; clear hb1)
            go_roundw
            case measure => simp [intOf]; omega
            case rel => exact ⟨1, by omega, by go_num, rfl, Lib.hid (HB.out.trans (HB2.out.mono HB.out.size))⟩
          · have hk0 : ((k : Int) == 0) = false := by rw [beq_eq_false_iff_ne]; omega
            have hk1 := HAL.out k
            have ha1 : ∀ u, (Op.stringOp .add (strB (accT nm l k)) { data := #[44, 32] }).run Tryd.prog u = .ok (.string (strB (accT nm l k ++ [44, 32]))) u := fun u => str_add _ [44, 32] (by omega) (by simp) u
            have ha2 : ∀ u, (Op.stringOp .add (strB (accT nm l k ++ [44, 32])) (strB l[k].txt)).run Tryd.prog u = .ok (.string (strB (accT nm l (k + 1)))) u := fun u => by
              rw [str_add _ _ (by simp; omega) (by omega)]
              unfold accT
              rw [if_neg h0, if_neg (by omega : ¬ k + 1 = 0), txtL_next l k hlt h0]; simp
            clear htl hk1
            go_wp2_with (go_at_call 27; refine HCL.out.mono ?_; rintro e w1 ⟨rfl, hb1⟩; have HB2 := Lib.hid hb1; clear hb1)
            go_roundw
            case measure => simp [intOf]; omega
            case rel => exact ⟨k + 1, by omega, by go_num, rfl, Lib.hid (HB.out.trans (HB2.out.mono HB.out.size))⟩
        · have hkn : k = l.length := by omega
          subst hkn
          by_cases h0 : l = []
          · have hl0 : l.length = 0 := by rw [h0]; rfl
            have HE : Hid ((Tm.mk 0 (strB nm) l).txt = accT nm l l.length) := Lib.hid (by rw [HZ.out, if_pos h0])
            clear h0
            rw [hl0] at y2
            go_wp2_with fail
            go_ret
            exact ⟨by rw [HE.out, hl0]; rfl, HB1.out.trans (HB.out.mono HB1.out.size)⟩
          · have hl0 : (0 : Int) < (l.length : Int) := by have : l.length ≠ 0 := fun e => h0 (List.eq_nil_of_length_eq_zero e); omega
            have HE : Hid ((Tm.mk 0 (strB nm) l).txt = accT nm l l.length ++ [41]) := Lib.hid (by rw [HZ.out, if_neg h0])
            have ha1 : ∀ u, (Op.stringOp .add (strB (accT nm l l.length)) { data := #[41] }).run Tryd.prog u = .ok (.string (strB (accT nm l l.length ++ [41]))) u := fun u => str_add _ [41] (by have := HAL.out l.length; omega) (by simp) u
            clear h0
            go_wp2_with fail
            go_ret
            exact ⟨by rw [HE.out]; rfl, HB1.out.trans (HB.out.mono HB1.out.size)⟩

end Go.Proofs.YtikmgiapjigghabDoor

/- Walks: the reference's texts of goals and programs. -/
namespace Go.Proofs.YtikmgiapjigghabDoor
open Go.RowKit

/-- Goals whose texts are short. -/
structure QW (q : List Tm) : Prop where
  tw : ∀ x, x ∈ q → TW x
  sz : Tm.sizes q ≤ 1000

theorem sizes_of {q : List Tm} (h : ∀ x, x ∈ q → x.size ≤ 60) : Tm.sizes q ≤ 60 * q.length := by
  induction q with
  | nil => simp [Tm.sizes]
  | cons t r ih =>
    have h1 := h t List.mem_cons_self
    have h2 := ih fun x hx => h x (List.mem_cons_of_mem _ hx)
    simp only [Tm.sizes, List.length_cons]; omega

theorem qw_of {q : List Tm} (h : queryE q = 0) : QW q := by
  refine ⟨fun x hx => tw_of (query_mem h hx), ?_⟩
  have h1 := (query_zero h).1
  have h2 := sizes_of (q := q) fun x hx => (check_zero (query_mem h hx)).1
  omega

theorem QW.one {q : List Tm} (h : QW q) {k : Nat} (hk : k < q.length) : TW q[k] ∧ q[k].size ≤ 1000 := by
  refine ⟨h.tw _ (List.getElem_mem hk), ?_⟩
  have := Tm.size_le_sizes q k hk
  have := h.sz
  omega

theorem QW.len {q : List Tm} (h : QW q) (k : Nat) : (txtL (q.take k)).length ≤ 12000 := by
  have := txtL_take_len h.tw k
  have := h.sz
  omega

set_option maxRecDepth 100000 in
set_option maxHeartbeats 1000000 in
theorem GoalsTextW (q : List Tm) (hq : QW q) (w : World) (ok : Nat → Prop) (a : Option Addr) (cap : Nat) (hts : Ts w ok q a cap) :
    Calls Tryd.prog 11 #[.slice a q.length cap] w fun e w' => e = .returned (.string (strB (goalsTxt q))) ∧ Below w.heap.size w w' := by
  have HT := Lib.hid hts; have HQ := Lib.hid hq
  have hcl : q.length ≤ 9223372036854775807 := by have := hts.cap; unfold maxLen at this; omega
  clear hts hq
  by_cases h0 : q = []
  · have hl0 : ((q.length : Int) == 0) = true := by rw [h0]; rfl
    have HE : Hid (goalsTxt q = trueB) := Lib.hid (by unfold goalsTxt; rw [if_pos h0]; rfl)
    clear h0
    go_enter Tryd.func11, Tryd.ntmps11
    go_wp2_with fail
    go_ret
    exact ⟨by rw [HE.out]; rfl, Below.refl _ _⟩
  · have hl0 : ((q.length : Int) == 0) = false := by rw [beq_eq_false_iff_ne]; intro e; exact h0 (List.eq_nil_of_length_eq_zero (by omega))
    have HE : Hid (goalsTxt q = txtL q) := Lib.hid (by unfold goalsTxt; rw [if_neg h0])
    clear h0
    go_enter Tryd.func11, Tryd.ntmps11
    go_wp2_with fail
    go_loopw [3, 4] (fun x3 x4 wr => ∃ (k : Nat), k ≤ q.length ∧ x4 = .int .i64 k ∧ x3 = .string (strB (txtL (q.take k))) ∧ Hid (Below w.heap.size w wr)) (fun _ x4 _ => q.length - (intOf x4).toNat)
    case atStart => exact ⟨0, Nat.zero_le _, rfl, rfl, Lib.hid (Below.refl _ _)⟩
    case round =>
      obtain ⟨k, hk, rfl, rfl, HB⟩ := hrel
      by_cases hlt : k < q.length
      · obtain ⟨b, off, a', c', rfl, hokb, hbs, hc, ht'⟩ := HT.out.at k hlt
        have m0 := (HB.out.cell (p := ⟨b, off + k * 3, none⟩) hbs).trans hc.var
        have m1 := (HB.out.cell (p := ⟨b, off + k * 3 + 1, none⟩) hbs).trans hc.name
        have m2 := (HB.out.cell (p := ⟨b, off + k * 3 + 2, none⟩) hbs).trans hc.args
        obtain ⟨w1, w2⟩ := HQ.out.one hlt
        have HCL := Lib.hid (TermTextW q[k] wr ok a' c' hc.fits (ht'.keep (Keeps.below HB.out _)) w1 w2)
        have htl : q[k].txt.length ≤ 12000 := by have := tw_len _ w1; omega
        clear hc ht' hbs hokb w1 w2
        by_cases h0 : k = 0
        · subst h0
          simp only [Nat.zero_mul, Nat.add_zero] at m0 m1 m2
          have ha2 : ∀ u, (Op.stringOp .add (strB (txtL [])) (strB q[0].txt)).run Tryd.prog u = .ok (.string (strB (txtL (q.take 1)))) u := fun u => by
            rw [show txtL [] = [] from rfl, str_add _ _ (by simp) (by omega), txtL_first q hlt]; rfl
          have hk0 : ¬ (0 : Int) < ((0 : Nat) : Int) := by omega
          clear htl
          go_wp2_with (go_at_call 27; refine HCL.out.mono ?_; rintro e w1 ⟨rfl, hb1⟩; have HB2 := Lib.hid hb1; clear hb1)
          go_roundw
          case measure => simp [intOf]; omega
          case rel => exact ⟨1, by omega, by go_num, rfl, Lib.hid (HB.out.trans (HB2.out.mono HB.out.size))⟩
        · have hk0 : (0 : Int) < (k : Int) := by omega
          have hk1 := HQ.out.len k
          have ha1 : ∀ u, (Op.stringOp .add (strB (txtL (q.take k))) { data := #[44, 32] }).run Tryd.prog u = .ok (.string (strB (txtL (q.take k) ++ [44, 32]))) u := fun u => str_add _ [44, 32] (by omega) (by simp) u
          have ha2 : ∀ u, (Op.stringOp .add (strB (txtL (q.take k) ++ [44, 32])) (strB q[k].txt)).run Tryd.prog u = .ok (.string (strB (txtL (q.take (k + 1))))) u := fun u => by
            rw [str_add _ _ (by simp; omega) (by omega), txtL_next q k hlt h0]
          clear htl hk1
          go_wp2_with (go_at_call 27; refine HCL.out.mono ?_; rintro e w1 ⟨rfl, hb1⟩; have HB2 := Lib.hid hb1; clear hb1)
          go_roundw
          case measure => simp [intOf]; omega
          case rel => exact ⟨k + 1, by omega, by go_num, rfl, Lib.hid (HB.out.trans (HB2.out.mono HB.out.size))⟩
      · have hkn : k = q.length := by omega
        have HE2 : Hid (txtL (q.take k) = goalsTxt q) := Lib.hid (by rw [HE.out, hkn, List.take_length])
        go_wp2_with fail
        go_ret
        exact ⟨by rw [HE2.out]; rfl, HB.out⟩

/-- Programs whose texts are short. -/
structure PW (p : List Cl) : Prop where
  len : p.length ≤ 30
  each : ∀ c, c ∈ p → TW c.head ∧ c.head.size ≤ 60 ∧ QW c.body

theorem pw_of {p : List Cl} (h : programE p = 0) : PW p := by
  obtain ⟨h1, h2⟩ := program_zero h
  exact ⟨h1, fun c hc => ⟨tw_of (h2 c hc).1, (check_zero (h2 c hc).1).1, qw_of (h2 c hc).2⟩⟩

theorem clTxt_len {c : Cl} (h : TW c.head ∧ c.head.size ≤ 60 ∧ QW c.body) : (clTxt c).length ≤ 13000 := by
  have h1 := tw_len _ h.1
  have h2 := h.2.2.len c.body.length
  rw [List.take_length] at h2
  have := h.2.1
  unfold clTxt
  simp only [List.length_append]
  split
  · simp only [List.length_nil, List.length_cons]; omega
  · simp only [List.length_append, List.length_cons, List.length_nil]; omega

theorem progTxt_take_len {p : List Cl} (h : PW p) (k : Nat) : (progTxt (p.take k)).length ≤ 13000 * k := by
  induction k with
  | zero => simp [progTxt]
  | succ k ih =>
    by_cases hk : k < p.length
    · rw [List.take_succ_eq_append_getElem hk]
      unfold progTxt at *
      rw [List.map_append, List.flatten_append, List.length_append]
      have := clTxt_len (h.each _ (List.getElem_mem hk))
      simp only [List.map_cons, List.map_nil, List.flatten_cons, List.flatten_nil, List.append_nil]
      omega
    · rw [List.take_of_length_le (by omega)]
      rw [List.take_of_length_le (by omega)] at ih
      omega

theorem progTxt_next (p : List Cl) (k : Nat) (h : k < p.length) : progTxt (p.take (k + 1)) = progTxt (p.take k) ++ clTxt p[k] := by
  rw [List.take_succ_eq_append_getElem h]
  unfold progTxt
  rw [List.map_append, List.flatten_append]
  simp only [List.map_cons, List.map_nil, List.flatten_cons, List.flatten_nil, List.append_nil]

set_option maxRecDepth 100000 in
set_option maxHeartbeats 1000000 in
theorem ProgramTextW (p : List Cl) (hq : PW p) (w : World) (ok : Nat → Prop) (a : Option Addr) (cap : Nat) (hts : Pr w ok p a cap) :
    Calls Tryd.prog 10 #[.slice a p.length cap] w fun e w' => e = .returned (.string (strB (progTxt p))) ∧ Below w.heap.size w w' := by
  have HT := Lib.hid hts; have HQ := Lib.hid hq
  have hcl : p.length ≤ 9223372036854775807 := by have := hts.room; unfold maxLen at this; omega
  clear hts hq
  go_enter Tryd.func10, Tryd.ntmps10
  go_wp2_with fail
  go_loopw [3, 4] (fun x3 x4 wr => ∃ (k : Nat), k ≤ p.length ∧ x4 = .int .i64 k ∧ x3 = .string (strB (progTxt (p.take k))) ∧ Hid (Below w.heap.size w wr)) (fun _ x4 _ => p.length - (intOf x4).toNat)
  case atStart => exact ⟨0, Nat.zero_le _, rfl, rfl, Lib.hid (Below.refl _ _)⟩
  case round =>
    obtain ⟨k, hk, rfl, rfl, HB⟩ := hrel
    by_cases hlt : k < p.length
    · obtain ⟨b, off, a1, a2, c1, c2, rfl, hokb, hbs, hc, hd, ht1, ht2⟩ := HT.out.elem k hlt
      have m0 := (HB.out.cell (p := ⟨b, off + k * 4, none⟩) hbs).trans hc.var
      have m1 := (HB.out.cell (p := ⟨b, off + k * 4 + 1, none⟩) hbs).trans hc.name
      have m2 := (HB.out.cell (p := ⟨b, off + k * 4 + 2, none⟩) hbs).trans hc.args
      have HD := Lib.hid hd
      have HBS := Lib.hid hbs
      have hwp := HQ.out.each _ (List.getElem_mem hlt)
      have HCL := Lib.hid (TermTextW p[k].head wr ok a1 c1 hc.fits (ht1.keep (Keeps.below HB.out _)) hwp.1 (by have := hwp.2.1; omega))
      have HGL : Hid (∀ u, Below w.heap.size w u → Calls Tryd.prog 11 #[.slice a2 p[k].body.length c2] u fun e w' => e = .returned (.string (strB (goalsTxt p[k].body))) ∧ Below w.heap.size w w') := Lib.hid (fun u hu => (GoalsTextW p[k].body hwp.2.2 u ok a2 c2 (ht2.keep (Keeps.below hu _))).mono fun e w' h => ⟨h.1, hu.trans (h.2.mono hu.size)⟩)
      have hl1 := tw_len _ hwp.1
      have hl2 := hwp.2.2.len p[k].body.length
      rw [List.take_length] at hl2
      have hl3 := progTxt_take_len HQ.out k
      have hl4 := HQ.out.len
      have hl5 := hwp.2.1
      have ha1 : ∀ u, (Op.stringOp .add (strB (progTxt (p.take k))) (strB p[k].head.txt)).run Tryd.prog u = .ok (.string (strB (progTxt (p.take k) ++ p[k].head.txt))) u := fun u => str_add _ _ (by omega) (by omega) u
      have m3' : ∀ u, Below w.heap.size w u → u.cell? ⟨b, off + k * 4 + 3, none⟩ = some (.slice a2 p[k].body.length c2) := fun u hu => (hu.cell (p := ⟨b, off + k * 4 + 3, none⟩) HBS.out).trans HD.out
      have HM3 := Lib.hid m3'
      by_cases h0 : p[k].body = []
      · have hb0 : p[k].body.length = 0 := by rw [h0]; rfl
        have ha2 : ∀ u, (Op.stringOp .add (strB (progTxt (p.take k) ++ p[k].head.txt)) { data := #[46, 10] }).run Tryd.prog u = .ok (.string (strB (progTxt (p.take (k + 1))))) u := fun u => by
          rw [show ({ data := #[46, 10] } : ByteArray) = strB [46, 10] from rfl, str_add _ _ (by simp; omega) (by simp), progTxt_next p k hlt]
          unfold clTxt
          rw [if_pos h0]; simp
        rw [hb0] at HM3
        have hz0 : ¬ (0 : Int) < ((0 : Nat) : Int) := by omega
        clear hc ht1 ht2 hokb hbs hd hwp hl1 hl2 hl3 hl4 hl5 h0 m3'
        go_wp2_with (go_at_call 27; refine HCL.out.mono ?_; rintro e w1 ⟨rfl, hb1⟩; have HB2 : Hid (Below w.heap.size w w1) := Lib.hid (HB.out.trans (hb1.mono HB.out.size)); have n3 := HM3.out _ HB2.out; clear hb1)
        go_roundw
        case measure => simp [intOf]; omega
        case rel => exact ⟨k + 1, by omega, by go_num, rfl, HB2⟩
      · have hb0 : (0 : Int) < (p[k].body.length : Int) := by have : p[k].body.length ≠ 0 := fun e => h0 (List.eq_nil_of_length_eq_zero e); omega
        have hg : goalsTxt p[k].body = txtL p[k].body := by unfold goalsTxt; rw [if_neg h0]
        have ha2 : ∀ u, (Op.stringOp .add { data := #[32, 58, 45, 32] } (strB (goalsTxt p[k].body))).run Tryd.prog u = .ok (.string (strB ([32, 58, 45, 32] ++ txtL p[k].body))) u := fun u => by
          rw [hg]; exact str_add [32, 58, 45, 32] _ (by simp) (by omega) u
        have ha3 : ∀ u, (Op.stringOp .add (strB (progTxt (p.take k) ++ p[k].head.txt)) (strB ([32, 58, 45, 32] ++ txtL p[k].body))).run Tryd.prog u = .ok (.string (strB (progTxt (p.take k) ++ p[k].head.txt ++ ([32, 58, 45, 32] ++ txtL p[k].body)))) u := fun u => str_add _ _ (by simp; omega) (by simp; omega) u
        have ha4 : ∀ u, (Op.stringOp .add (strB (progTxt (p.take k) ++ p[k].head.txt ++ ([32, 58, 45, 32] ++ txtL p[k].body))) { data := #[46, 10] }).run Tryd.prog u = .ok (.string (strB (progTxt (p.take (k + 1))))) u := fun u => by
          rw [show ({ data := #[46, 10] } : ByteArray) = strB [46, 10] from rfl, str_add _ _ (by simp; omega) (by simp), progTxt_next p k hlt]
          unfold clTxt
          rw [if_neg h0]; simp
        generalize progTxt (p.take k) ++ p[k].head.txt ++ ([32, 58, 45, 32] ++ txtL p[k].body) = s3 at ha3 ha4
        generalize progTxt (p.take k) ++ p[k].head.txt = s1 at ha1 ha3
        generalize [32, 58, 45, 32] ++ txtL p[k].body = s2 at ha2 ha3
        clear hc ht1 ht2 hokb hbs hd hwp hl1 hl2 hl3 hl4 hl5 h0 m3' hg
        go_wp2_with (first
          | (go_at_call 27; refine HCL.out.mono ?_; rintro e w1 ⟨rfl, hb1⟩; have HB2 : Hid (Below w.heap.size w w1) := Lib.hid (HB.out.trans (hb1.mono HB.out.size)); have n3 := HM3.out _ HB2.out; clear hb1)
          | (go_at_call 11; refine (HGL.out _ HB2.out).mono ?_; rintro e w2 ⟨rfl, hb2⟩; have HB3 := Lib.hid hb2; clear hb2))
        go_roundw
        case measure => simp [intOf]; omega
        case rel => exact ⟨k + 1, by omega, by go_num, rfl, HB3⟩
    · have hkn : k = p.length := by omega
      have HE2 : Hid (progTxt (p.take k) = progTxt p) := Lib.hid (by rw [hkn, List.take_length])
      go_wp2_with fail
      go_ret
      exact ⟨by rw [HE2.out]; rfl, HB.out⟩

end Go.Proofs.YtikmgiapjigghabDoor
