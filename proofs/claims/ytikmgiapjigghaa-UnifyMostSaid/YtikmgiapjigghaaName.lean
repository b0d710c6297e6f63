/- Walks: names of terms. -/
import Derived.Test.YtikmgiapjigghaaTm
import Derived.WalkSpells
import Derived.Lib.Hide
import Derived.Lib.ConvBytes
import Derived.WalkLawsBesides
namespace Go.Proofs.Ytikmgiapjigghaa
open Go.RowKit

/-- May a sign stand in a name? -/
def signB (c : UInt8) : Bool := c == 95 || (97 ≤ c && c ≤ 122) || (48 ≤ c && c ≤ 57)

theorem signB_iff (c : UInt8) : signB c = true ↔ (c.toNat : Int) = 95 ∨ (97 ≤ (c.toNat : Int) ∧ (c.toNat : Int) ≤ 122) ∨ (48 ≤ (c.toNat : Int) ∧ (c.toNat : Int) ≤ 57) := by
  unfold signB
  rw [Bool.or_eq_true, Bool.or_eq_true, Bool.and_eq_true, Bool.and_eq_true, beq_iff_eq, decide_eq_true_iff, decide_eq_true_iff, decide_eq_true_iff, decide_eq_true_iff]
  rw [← UInt8.toNat_inj]
  simp only [UInt8.le_iff_toNat_le]
  have e1 : (95 : UInt8).toNat = 95 := rfl
  have e2 : (97 : UInt8).toNat = 97 := rfl
  have e3 : (122 : UInt8).toNat = 122 := rfl
  have e4 : (48 : UInt8).toNat = 48 := rfl
  have e5 : (57 : UInt8).toNat = 57 := rfl
  rw [e1, e2, e3, e4, e5]
  omega

theorem ret_not_sign (c : UInt8) (b : Bool) (h : b = true ↔ ¬ ((c.toNat : Int) = 95 ∨ (97 ≤ (c.toNat : Int) ∧ (c.toNat : Int) ≤ 122) ∨ (48 ≤ (c.toNat : Int) ∧ (c.toNat : Int) ≤ 57))) : Ending.returned (.bool b) = .returned (.bool (!signB c)) := by
  have h2 := signB_iff c
  cases hs : signB c
  · rw [hs] at h2
    rw [h.2 (fun h3 => by have := h2.2 h3; cases this)]; rfl
  · cases b
    · rfl
    · exact absurd (h2.1 hs) (h.1 rfl)

set_option maxRecDepth 100000 in
set_option maxHeartbeats 400000 in
theorem Name1W (c : UInt8) (w : World) :
    Calls Try.prog 150 #[.int .u8 (c.toNat : Int)] w fun e w' => e = .returned (.bool (!signB c)) ∧ w = w' := by
  go_enter Try.func150, Try.ntmps150
  go_wp2_with fail
  all_goals
    go_ret
    refine ⟨ret_not_sign c _ ?_, rfl⟩
    simp <;> omega

/-- The place of the first sign that may not stand in a name. -/
def badAt (l : List UInt8) : Nat := l.findIdx fun c => !signB c

def badRet (l : List UInt8) : Int := if badAt l < l.length then (badAt l : Int) else -1

theorem badAt_lt (l : List UInt8) (k : Nat) (h : k < l.length) (hb : k < badAt l) : signB l[k] = true := by
  have := List.not_of_lt_findIdx (p := fun c => !signB c) hb
  simpa [List.getD, h] using this

theorem badAt_eq (l : List UInt8) (k : Nat) (h : k < l.length) (hb : k ≤ badAt l) (hc : ¬ k < badAt l) : signB l[k] = false := by
  have e : badAt l = k := by omega
  have := List.findIdx_getElem (p := fun c => !signB c) (xs := l) (w := by unfold badAt at e; omega)
  unfold badAt at e
  simpa [List.getD, h, e] using this

set_option maxRecDepth 100000 in
set_option maxHeartbeats 400000 in
theorem IndexFuncW (l : List UInt8) (b cap : Nat) (w : World) (hl : l.length ≤ maxLen) (hc : ∀ j, j < l.length → w.cell? ⟨b, j, none⟩ = some (.int .u8 (l.getD j 0).toNat)) :
    Calls Try.prog 158 #[.slice (some ⟨b, 0, none⟩) l.length cap, .func (.func 150) #[] #[]] w fun e w' => e = .returned (.int .i64 (badRet l)) ∧ w = w' := by
  have hcl : l.length ≤ 9223372036854775807 := by unfold maxLen at hl; omega
  clear hl
  have HC := Lib.hid hc; clear hc
  go_enter Try.func158, Try.ntmps158
  go_wp2_with fail
  go_loopw [5, 8] (fun _ i wr => ∃ k : Nat, k ≤ l.length ∧ k ≤ badAt l ∧ i = .int .i64 k ∧ w = wr) (fun _ i _ => l.length - (intOf i).toNat)
  case atStart => exact ⟨0, Nat.zero_le _, Nat.zero_le _, rfl, rfl⟩
  case round =>
    obtain ⟨k, hk, hkb, rfl, rfl⟩ := hrel
    by_cases hlt : k < l.length
    · have hck := HC.out k hlt
      by_cases hb : k < badAt l
      · have hs : signB l[k] = true := badAt_lt l k hlt hb
        go_wp2_with (go_at_call 150; refine (Name1W _ _).mono ?_; rintro e w' ⟨rfl, rfl⟩)
        go_roundw
        case rel => exact ⟨k + 1, by omega, by omega, by go_num, trivial⟩
        case measure => simp [intOf]; omega
      · have hs : signB l[k] = false := badAt_eq l k hlt hkb hb
        have hb' : Hid (badAt l = k) := Lib.hid (by omega)
        go_wp2_with (go_at_call 150; refine (Name1W _ _).mono ?_; rintro e w' ⟨rfl, rfl⟩)
        go_ret
        exact ⟨retI (by unfold badRet; rw [if_pos (by rw [hb'.out]; exact hlt), hb'.out]), rfl⟩
    · go_wp2_with fail
      go_ret
      exact ⟨retI (by unfold badRet; rw [if_neg (by omega)]), rfl⟩

theorem bad_all (l : List UInt8) : badAt l < l.length ↔ l.all signB = false := by
  unfold badAt
  rw [List.findIdx_lt_length, List.all_eq_false]
  constructor
  · rintro ⟨x, hx, h⟩; exact ⟨x, hx, by simpa using h⟩
  · rintro ⟨x, hx, h⟩; exact ⟨x, hx, by simpa using h⟩

set_option maxRecDepth 100000 in
set_option maxHeartbeats 400000 in
theorem ContainsFuncW (l : List UInt8) (b cap : Nat) (w : World) (hl : l.length ≤ maxLen) (hc : ∀ j, j < l.length → w.cell? ⟨b, j, none⟩ = some (.int .u8 (l.getD j 0).toNat)) :
    Calls Try.prog 149 #[.slice (some ⟨b, 0, none⟩) l.length cap, .func (.func 150) #[] #[]] w fun e w' => e = .returned (.bool (!l.all signB)) ∧ w = w' := by
  have HC := Lib.hid hc; clear hc
  have hba := Lib.hid (bad_all l)
  by_cases hb : badAt l < l.length
  · have hr : badRet l = (badAt l : Int) := by unfold badRet; rw [if_pos hb]
    have ha : Hid (l.all signB = false) := Lib.hid ((bad_all l).1 hb)
    clear hb
    go_enter Try.func149, Try.ntmps149
    go_wp2_with (go_at_call 158; refine (IndexFuncW l _ _ _ hl HC.out).mono ?_; rintro e w' ⟨rfl, rfl⟩)
    go_ret
    exact ⟨retB (by rw [ha.out]; simp), rfl⟩
  · have hr : badRet l = -1 := by unfold badRet; rw [if_neg hb]
    have ha : Hid (l.all signB = true) := Lib.hid (by
      cases h : l.all signB
      · exact absurd ((bad_all l).2 h) hb
      · rfl)
    clear hb
    go_enter Try.func149, Try.ntmps149
    go_wp2_with (go_at_call 158; refine (IndexFuncW l _ _ _ hl HC.out).mono ?_; rintro e w' ⟨rfl, rfl⟩)
    go_ret
    exact ⟨retB (by rw [ha.out]; simp), rfl⟩

/-- Is a name right? -/
def nameB (s : ByteArray) : Bool :=
  s.toList == [33] || (decide (1 ≤ s.size) && decide (s.size ≤ 8) && decide (97 ≤ (s.data.toList.getD 0 0).toNat) && decide ((s.data.toList.getD 0 0).toNat ≤ 122) && s.data.toList.all signB)

theorem conv_some (w : World) (s : ByteArray) : ∃ (c : Nat) (w1 : World), (convert 9 168 (.string s)).run Try.prog w = .ok (.slice (some ⟨w.heap.size, 0, none⟩) s.size c) w1 ∧ Below w.heap.size w w1 ∧
    ∀ j, j < s.data.toList.length → w1.cell? ⟨w.heap.size, j, none⟩ = some (.int .u8 (s.data.toList.getD j 0).toNat) :=
  ⟨_, _, Lib.run_convert_string_bytes w 9 168 5 s Try.underlying9 Try.underlying168 Try.underlying5,
    ⟨rfl, rfl, rfl, by rw [Lib.bytesWorld_size]; omega, fun k hk => Lib.bytesWorld_at_old w 5 s k hk⟩,
    fun j hj => Lib.bytesWorld_cell w 5 s j (by simpa using hj)⟩

theorem emptyB (s : ByteArray) (h : s.size = 0) : s = ByteArray.empty := ByteArray.ext (Array.eq_empty_of_size_eq_zero h)

theorem head0 (s : ByteArray) (h : 0 < s.size) : s.data.toList.getD 0 0 = s[0] := by
  have h' : 0 < s.data.toList.length := by simpa using h
  rw [List.getD_eq_getElem?_getD, List.getElem?_eq_getElem h']; rfl

theorem nameB_33 (s : ByteArray) (h : (s.toList == [33]) = true) : true = nameB s := by unfold nameB; rw [h]; rfl
theorem nameB_0 (s : ByteArray) (h : (s.toList == [33]) = false) (h0 : ¬ 0 < s.size) : false = nameB s := by
  unfold nameB; rw [h, decide_eq_false (by omega : ¬ 1 ≤ s.size)]; rfl
theorem nameB_9 (s : ByteArray) (h : (s.toList == [33]) = false) (h0 : 8 < s.size) : false = nameB s := by
  unfold nameB; rw [h, decide_eq_false (by omega : ¬ s.size ≤ 8)]; simp
theorem nameB_lo (s : ByteArray) (h : (s.toList == [33]) = false) (h0 : 0 < s.size) (hf : s[0].toNat < 97) : false = nameB s := by
  unfold nameB; rw [h, head0 s h0, decide_eq_false (by omega : ¬ 97 ≤ s[0].toNat)]; simp
theorem nameB_hi (s : ByteArray) (h : (s.toList == [33]) = false) (h0 : 0 < s.size) (hf : 122 < s[0].toNat) : false = nameB s := by
  unfold nameB; rw [h, head0 s h0, decide_eq_false (by omega : ¬ s[0].toNat ≤ 122)]; simp
theorem nameB_all (s : ByteArray) (x : Bool) (h : (s.toList == [33]) = false) (h0 : 0 < s.size) (h8 : s.size ≤ 8) (hf : 97 ≤ s[0].toNat) (hg : s[0].toNat ≤ 122) (hx : x = s.data.toList.all signB) : x = nameB s := by
  unfold nameB; rw [h, head0 s h0, decide_eq_true hf, decide_eq_true hg, decide_eq_true h8, decide_eq_true (by omega : 1 ≤ s.size), hx]; simp

set_option maxRecDepth 100000 in
set_option maxHeartbeats 400000 in
theorem NameW (s : ByteArray) (w : World) (hs : s.size ≤ maxLen) :
    Calls Try.prog 128 #[.string s] w fun e w' => e = .returned (.bool (nameB s)) ∧ Below w.heap.size w w' := by
  by_cases h33 : (s.toList == [33]) = true
  · have H := Lib.hid (nameB_33 s h33)
    go_enter Try.func128, Try.ntmps128
    go_wp2_with fail
    go_ret
    exact ⟨retB H.out, Below.refl _ _⟩
  have h34 : (s.toList == [33]) = false := Bool.eq_false_iff.2 h33
  clear h33
  by_cases h0 : 0 < s.size
  · have hz : ((s.size : Int) == 0) = false := by rw [beq_eq_false_iff_ne]; omega
    have hne : ¬ s = ByteArray.empty := by rintro rfl; simp at h0
    by_cases h8 : 8 < s.size
    · have H := Lib.hid (nameB_9 s h34 h8)
      go_enter Try.func128, Try.ntmps128
      go_wp2_with fail
      go_ret
      exact ⟨retB H.out, Below.refl _ _⟩
    · by_cases hlo : s[0].toNat < 97
      · have H := Lib.hid (nameB_lo s h34 h0 hlo)
        go_enter Try.func128, Try.ntmps128
        go_wp2_with fail
        go_ret
        exact ⟨retB H.out, Below.refl _ _⟩
      · by_cases hhi : 122 < s[0].toNat
        · have H := Lib.hid (nameB_hi s h34 h0 hhi)
          go_enter Try.func128, Try.ntmps128
          go_wp2_with fail
          go_ret
          exact ⟨retB H.out, Below.refl _ _⟩
        · obtain ⟨c, w1, hconv, hb1, hc1⟩ := conv_some w s
          have HC := Lib.hid hc1; clear hc1
          have hs' : Hid (s.data.toList.length ≤ maxLen) := Lib.hid (by simpa using hs)
          have H := Lib.hid (fun x => nameB_all s x h34 h0 (by omega) (by omega) (by omega))
          clear hs
          go_enter Try.func128, Try.ntmps128
          go_wp2_with (go_at_call 149; refine (ContainsFuncW s.data.toList _ _ _ hs'.out HC.out).mono ?_; rintro e w' ⟨rfl, rfl⟩)
          go_ret
          exact ⟨retB (H.out _ (by simp)), hb1⟩
  · obtain rfl : s = ByteArray.empty := emptyB s (by omega)
    have H := Lib.hid (nameB_0 _ h34 h0)
    clear h0 hs
    go_enter Try.func128, Try.ntmps128
    go_wp2_with fail
    go_ret
    exact ⟨retB H.out, Below.refl _ _⟩

/-- Is a number between two others? -/
def betw (n lo hi : Int) : Bool := decide (lo ≤ n ∧ n ≤ hi)

theorem ret_betw (n lo hi : Int) (b : Bool) (h : b = true ↔ lo ≤ n ∧ n ≤ hi) : Ending.returned (.bool b) = .returned (.bool (betw n lo hi)) := by
  have : b = betw n lo hi := by unfold betw; rw [Bool.eq_iff_iff, h, decide_eq_true_iff]
  rw [this]

set_option maxRecDepth 100000 in
set_option maxHeartbeats 400000 in
theorem betweenW (n lo hi : Int) (w : World) :
    Calls Try.prog 61 #[.int .i64 n, .int .i64 lo, .int .i64 hi] w fun e w' => e = .returned (.bool (betw n lo hi)) ∧ w = w' := by
  go_enter Try.func61, Try.ntmps61
  go_wp2_with fail
  all_goals
    go_ret
    refine ⟨ret_betw n lo hi _ ?_, rfl⟩
    simp <;> omega

theorem getB (s : ByteArray) (k : Nat) (h : k < s.size) : s.data.toList[k]'(by simpa using h) = s[k] := rfl

theorem badAt_pos (s : ByteArray) (h0 : 0 < s.size) (h1 : 97 ≤ s[0].toNat) (h2 : s[0].toNat ≤ 122) : 1 ≤ badAt s.data.toList := by
  by_cases h : badAt s.data.toList = 0
  · have := badAt_eq s.data.toList 0 (by simpa using h0) (by omega) (by omega)
    rw [getB s 0 h0] at this
    have h3 := (signB_iff s[0]).2 (.inr (.inl (by omega)))
    rw [this] at h3; cases h3
  · omega

theorem signB_cases (c : UInt8) (h : signB c = true) : (betw c.toNat 97 122 = true) ∨ (betw c.toNat 97 122 = false ∧ betw c.toNat 48 57 = true) ∨ (betw c.toNat 97 122 = false ∧ betw c.toNat 48 57 = false ∧ ((c.toNat : Int) != 95) = false) := by
  have h2 := (signB_iff c).1 h
  unfold betw
  by_cases h3 : 97 ≤ (c.toNat : Int) ∧ (c.toNat : Int) ≤ 122
  · exact .inl (decide_eq_true h3)
  · by_cases h4 : 48 ≤ (c.toNat : Int) ∧ (c.toNat : Int) ≤ 57
    · exact .inr (.inl ⟨decide_eq_false h3, decide_eq_true h4⟩)
    · refine .inr (.inr ⟨decide_eq_false h3, decide_eq_false h4, ?_⟩)
      have : (c.toNat : Int) = 95 := by omega
      rw [this]; rfl

theorem not_signB_cases (c : UInt8) (h : signB c = false) : betw c.toNat 97 122 = false ∧ betw c.toNat 48 57 = false ∧ ((c.toNat : Int) != 95) = true := by
  have h2 : ¬ _ := fun h3 => by have := (signB_iff c).2 h3; rw [h] at this; cases this
  unfold betw
  refine ⟨decide_eq_false (fun h => h2 (.inr (.inl h))), decide_eq_false (fun h => h2 (.inr (.inr h))), ?_⟩
  rw [bne_iff_ne]; exact fun h => h2 (.inl h)

set_option maxRecDepth 100000 in
set_option maxHeartbeats 400000 in
theorem IsNameW (s : ByteArray) (w : World) (hs : s.size ≤ maxLen) :
    Calls Try.prog 62 #[.string s] w fun e w' => e = .returned (.bool (nameB s)) ∧ w = w' := by
  by_cases h33 : (s.toList == [33]) = true
  · have H := Lib.hid (nameB_33 s h33)
    go_enter Try.func62, Try.ntmps62
    go_wp2_with fail
    go_ret
    exact ⟨retB H.out, rfl⟩
  have h34 : (s.toList == [33]) = false := Bool.eq_false_iff.2 h33
  clear h33
  by_cases h0 : 0 < s.size
  · by_cases h8 : 8 < s.size
    · have H := Lib.hid (nameB_9 s h34 h8)
      have hb : betw s.size 1 8 = false := by unfold betw; rw [decide_eq_false]; omega
      go_enter Try.func62, Try.ntmps62
      go_wp2_with (go_at_call 61; refine (betweenW _ _ _ _).mono ?_; rintro e w' ⟨rfl, rfl⟩)
      go_ret
      exact ⟨retB H.out, rfl⟩
    · have hb : betw s.size 1 8 = true := by unfold betw; rw [decide_eq_true]; omega
      by_cases hlo : s[0].toNat < 97
      · have H := Lib.hid (nameB_lo s h34 h0 hlo)
        have hc : betw s[0].toNat 97 122 = false := by unfold betw; rw [decide_eq_false]; omega
        go_enter Try.func62, Try.ntmps62
        go_wp2_with (go_at_call 61; refine (betweenW _ _ _ _).mono ?_; rintro e w' ⟨rfl, rfl⟩)
        go_ret
        exact ⟨retB H.out, rfl⟩
      · by_cases hhi : 122 < s[0].toNat
        · have H := Lib.hid (nameB_hi s h34 h0 hhi)
          have hc : betw s[0].toNat 97 122 = false := by unfold betw; rw [decide_eq_false]; omega
          have hu : s[0].toNat < 256 := s[0].toNat_lt
          go_enter Try.func62, Try.ntmps62
          go_wp2_with (go_at_call 61; refine (betweenW _ _ _ _).mono ?_; rintro e w' ⟨rfl, rfl⟩)
          go_ret
          exact ⟨retB H.out, rfl⟩
        · have hc : betw s[0].toNat 97 122 = true := by unfold betw; rw [decide_eq_true]; omega
          have H := Lib.hid (fun x => nameB_all s x h34 h0 (by omega) (by omega) (by omega))
          clear hs
          go_enter Try.func62, Try.ntmps62
          go_wp2_with (go_at_call 61; refine (betweenW _ _ _ _).mono ?_; rintro e w' ⟨rfl, rfl⟩)
          have h1b := badAt_pos s h0 (by omega) (by omega)
          have hsz : s.data.toList.length = s.size := by simp
          have HB := Lib.hid (bad_all s.data.toList)
          have HSZ := Lib.hid hsz
          clear hsz hlo hhi hc h34 hb
          go_loopw [3] (fun i wr => ∃ k : Nat, 1 ≤ k ∧ k ≤ s.size ∧ k ≤ badAt s.data.toList ∧ i = .int .i64 k ∧ w = wr) (fun i _ => s.size - (intOf i).toNat)
          case atStart => exact ⟨1, by omega, by omega, h1b, rfl, rfl⟩
          case round =>
            obtain ⟨k, hk1, hk, hkb, rfl, rfl⟩ := hrel
            by_cases hlt : k < s.size
            · have hu : s[k].toNat < 256 := s[k].toNat_lt
              have hgd := Lib.hid (getB s k hlt)
              by_cases hb : k < badAt s.data.toList
              · have hs := signB_cases s[k] (by have := badAt_lt s.data.toList k (by simpa using hlt) hb; rwa [hgd.out] at this)
                rcases hs with ⟨h1⟩ | ⟨h1, h2⟩ | ⟨h1, h2, h3⟩
                all_goals
                  go_wp2_with (go_at_call 61; refine (betweenW _ _ _ _).mono ?_; rintro e w' ⟨rfl, rfl⟩)
                  go_roundw
                  case rel => exact ⟨k + 1, by omega, by omega, by omega, by go_num, trivial⟩
                  case measure => simp [intOf]; omega
              · obtain ⟨h1, h2, h3⟩ := not_signB_cases s[k] (by have := badAt_eq s.data.toList k (by simpa using hlt) hkb hb; rwa [hgd.out] at this)
                have hA : Hid (s.data.toList.all signB = false) := Lib.hid (HB.out.1 (by rw [HSZ.out]; omega))
                go_wp2_with (go_at_call 61; refine (betweenW _ _ _ _).mono ?_; rintro e w' ⟨rfl, rfl⟩)
                go_ret
                exact ⟨retB (H.out _ hA.out.symm), rfl⟩
            · have hA : Hid (s.data.toList.all signB = true) := Lib.hid (by
                cases h : s.data.toList.all signB
                · have := HB.out.2 h; rw [HSZ.out] at this; omega
                · rfl)
              go_wp2_with fail
              go_ret
              exact ⟨retB (H.out _ hA.out.symm), rfl⟩
  · obtain rfl : s = ByteArray.empty := emptyB s (by omega)
    have H := Lib.hid (nameB_0 _ h34 h0)
    have hb : betw 0 1 8 = false := by unfold betw; rw [decide_eq_false]; omega
    clear h0 hs
    go_enter Try.func62, Try.ntmps62
    go_wp2_with (go_at_call 61; refine (betweenW _ _ _ _).mono ?_; rintro e w' ⟨rfl, rfl⟩)
    go_ret
    exact ⟨retB H.out, rfl⟩

end Go.Proofs.Ytikmgiapjigghaa
