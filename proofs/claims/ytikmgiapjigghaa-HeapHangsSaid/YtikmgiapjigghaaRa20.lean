/- Plain: the heaps of what the statements on heaps ask first. -/
import Derived.Test.YtikmgiapjigghaaRa10
namespace Go.Proofs.Ytikmgiapjigghaa

def tmB : Tm := .mk 0 ⟨#[98]⟩ []
def tmS : Tm := .mk 0 ⟨#[102]⟩ [tmB, VarT 2]
def tmT : Tm := .mk 0 ⟨#[102]⟩ [tmB, tmA]
def hG1 : List HC := [⟨2, 2, ⟨#[102]⟩⟩, ⟨1, 3, ⟨#[]⟩⟩, ⟨1, 4, ⟨#[]⟩⟩, ⟨1, 3, ⟨#[]⟩⟩, ⟨2, 0, ⟨#[97]⟩⟩]
def hG2 : List HC := [⟨2, 2, ⟨#[102]⟩⟩, ⟨1, 3, ⟨#[]⟩⟩, ⟨1, 4, ⟨#[]⟩⟩, ⟨1, 3, ⟨#[]⟩⟩, ⟨2, 0, ⟨#[97]⟩⟩, ⟨2, 2, ⟨#[102]⟩⟩, ⟨1, 8, ⟨#[]⟩⟩, ⟨1, 9, ⟨#[]⟩⟩, ⟨2, 0, ⟨#[98]⟩⟩, ⟨1, 9, ⟨#[]⟩⟩]
def hG3a : List HC := [⟨2, 2, ⟨#[102]⟩⟩, ⟨1, 3, ⟨#[]⟩⟩, ⟨1, 4, ⟨#[]⟩⟩, ⟨1, 8, ⟨#[]⟩⟩, ⟨2, 0, ⟨#[97]⟩⟩, ⟨2, 2, ⟨#[102]⟩⟩, ⟨1, 8, ⟨#[]⟩⟩, ⟨1, 9, ⟨#[]⟩⟩, ⟨2, 0, ⟨#[98]⟩⟩, ⟨1, 9, ⟨#[]⟩⟩]
def hG3 : List HC := [⟨2, 2, ⟨#[102]⟩⟩, ⟨1, 3, ⟨#[]⟩⟩, ⟨1, 4, ⟨#[]⟩⟩, ⟨1, 8, ⟨#[]⟩⟩, ⟨2, 0, ⟨#[97]⟩⟩, ⟨2, 2, ⟨#[102]⟩⟩, ⟨1, 8, ⟨#[]⟩⟩, ⟨1, 9, ⟨#[]⟩⟩, ⟨2, 0, ⟨#[98]⟩⟩, ⟨1, 4, ⟨#[]⟩⟩]

theorem checkH_of {H : List HC} (h : HInv H) : checkH H = 0 := by
  unfold checkH
  rw [if_neg (by have := h.len; omega), firstCell_zero _ h.cells, if_neg (fun e => e rfl), if_pos h.straight]

theorem straight_rank {H : List HC} (rk : Nat → Nat) (h : ∀ i, ∀ j, j ∈ leads H i → rk j < rk i) : Straight H := by
  intro i _
  have : ∀ n i, rk i < n → Acc (Lead (leads H)) i := by
    intro n
    induction n with
    | zero => intro i h; omega
    | succ n ih => intro i hi; exact ⟨_, fun j hj => ih j (by have := h i j hj; omega)⟩
  exact this _ i (Nat.lt_succ_self _)

theorem rank_of {H : List HC} {rk : Nat → Nat} (h : ∀ i, i < H.length → ∀ j, j ∈ leads H i → rk j < rk i) : ∀ i, ∀ j, j ∈ leads H i → rk j < rk i := by
  intro i j hj
  by_cases hi : i < H.length
  · exact h i hi j hj
  · have : hc H i = ⟨0, 0, ⟨#[]⟩⟩ := by unfold hc; rw [List.getD_eq_getElem?_getD, List.getElem?_eq_none (by omega)]; rfl
    unfold leads at hj
    rw [this] at hj
    simp at hj

def rkG (i : Nat) : Nat := [3, 2, 1, 1, 0, 3, 1, 2, 0, 1].getD i 0

def CellR (H : List HC) (i : Nat) : Prop := ((hc H i).k = 1 ∧ 0 ≤ (hc H i).n ∧ (hc H i).n.toNat < H.length ∧ (hc H i).name.size = 0) ∨
    ((hc H i).k = 2 ∧ nameB (hc H i).name = true ∧ 0 ≤ (hc H i).n ∧ (hc H i).n.toNat ≤ 4 ∧ i + (hc H i).n.toNat < H.length ∧ (∀ j : Nat, j < (hc H i).n.toNat → (hc H (i + 1 + j)).k = 1) ∧ ¬ ((hc H i).name.toList = [33] ∧ 0 < (hc H i).n))
instance (H : List HC) (i : Nat) : Decidable (CellR H i) := by unfold CellR; infer_instance

theorem cell_of {H : List HC} {i : Nat} (h : CellR H i) : cellE H i = 0 := by
  unfold cellE
  rcases h with ⟨h1, h2, h3, h4⟩ | ⟨h1, h2, h3, h4, h5, h6, h7⟩
  · rw [if_pos h1, if_neg (by omega), if_neg (by omega)]
  · rw [if_neg (by omega), if_pos h1]
    unfold blockE
    rw [if_neg (by
      rintro (e | e | e | e)
      · exact e h2
      · omega
      · omega
      · exact h7 e), if_neg (by omega), if_pos h6]

instance decRef (H : List HC) (i : Nat) : Decidable (Refers H i) := inferInstanceAs (Decidable (_ ∧ _))
instance decEnd (H : List HC) : ∀ m i j, Decidable (EndN H m i j)
  | 0, i, j => inferInstanceAs (Decidable (i = j ∧ ¬ Refers H i))
  | m + 1, i, j => @instDecidableAnd _ _ (decRef H i) (decEnd H m _ j)

theorem inv1 : HInv hG1 := ⟨by decide, fun i hi => cell_of ((by decide +kernel : ∀ i, i < hG1.length → CellR hG1 i) i hi), straight_rank rkG (rank_of (by decide +kernel))⟩
theorem inv2 : HInv hG2 := ⟨by decide, fun i hi => cell_of ((by decide +kernel : ∀ i, i < hG2.length → CellR hG2 i) i hi), straight_rank rkG (rank_of (by decide +kernel))⟩
theorem inv3 : HInv hG3 := ⟨by decide, fun i hi => cell_of ((by decide +kernel : ∀ i, i < hG3.length → CellR hG3 i) i hi), straight_rank rkG (rank_of (by decide +kernel))⟩
theorem inv0 : HInv [] := ⟨by decide, (fun i hi => absurd hi (Nat.not_lt_zero i)), fun i hi => absurd hi (Nat.not_lt_zero i)⟩

theorem put1 : (putT [] (fun _ => none) tmR).1.1 = hG1 ∧ (putT [] (fun _ => none) tmR).2 = 0 := ⟨by rfl, by rfl⟩
theorem put2 : (putT hG1 (fun _ => none) tmS).1.1 = hG2 ∧ (putT hG1 (fun _ => none) tmS).2 = 5 := ⟨by rfl, by rfl⟩

theorem e2_0 : endH hG2 0 = 0 := endH_eq (m := 0) (by decide +kernel)
theorem e2_5 : endH hG2 5 = 5 := endH_eq (m := 0) (by decide +kernel)
theorem e2_1 : endH hG2 1 = 3 := endH_eq (m := 1) (by decide +kernel)
theorem e2_6 : endH hG2 6 = 8 := endH_eq (m := 1) (by decide +kernel)
theorem e2_8 : endH hG2 8 = 8 := endH_eq (m := 0) (by decide +kernel)
theorem e3_2 : endH hG3a 2 = 4 := endH_eq (m := 1) (by decide +kernel)
theorem e3_4 : endH hG3a 4 = 4 := endH_eq (m := 0) (by decide +kernel)
theorem e3_7 : endH hG3a 7 = 9 := endH_eq (m := 1) (by decide +kernel)
theorem e4_0 : endH hG3 0 = 0 := endH_eq (m := 0) (by decide +kernel)
theorem e4_5 : endH hG3 5 = 5 := endH_eq (m := 0) (by decide +kernel)
theorem e4_6 : endH hG3 6 = 8 := endH_eq (m := 1) (by decide +kernel)
theorem e4_7 : endH hG3 7 = 4 := endH_eq (m := 2) (by decide +kernel)

theorem w2 (f : Nat) : withinH hG2 3 (f + 1) [8] = .no f := by
  rw [withinH, e2_8, if_neg (by decide)]
  have : argsH hG2 8 = [] := by rfl
  rw [this, List.append_nil]
  cases f <;> simp [withinH]
theorem w3 (f : Nat) : withinH hG3a 9 (f + 1) [4] = .no f := by
  rw [withinH, e3_4, if_neg (by decide)]
  have : argsH hG3a 4 = [] := by rfl
  rw [this, List.append_nil]
  cases f <;> simp [withinH]

theorem p1 : pairHStep hG2 [] 3999 0 5 = .go hG2 [] 3999 [(1, 6), (2, 7)] := by
  unfold pairHStep
  rw [if_neg (by decide), if_neg (by decide), if_neg (by decide), if_neg (by decide +kernel)]
  rfl
theorem p2 : pairHStep hG2 [] 3998 3 8 = .go hG3a [3] 3997 [] := by
  unfold pairHStep
  rw [if_neg (by decide), if_pos (by decide)]
  unfold bindHStep
  rw [w2 3997]
  rfl
theorem p3 : pairHStep hG3a [3] 3996 4 9 = .go hG3 [3, 9] 3995 [] := by
  unfold pairHStep
  rw [if_neg (by decide), if_neg (by decide), if_pos (by decide)]
  unfold bindHStep
  rw [w3 3995]
  rfl

theorem meetB : meetH hG2 [] 4000 [(0, 5)] = .ok hG3 [3, 9] 3995 := by
  rw [meetH_go (f := 3999) [] (by rw [e2_0, e2_5]; exact p1)]
  show meetH hG2 [] 3999 [(1, 6), (2, 7)] = _
  rw [meetH_go (f := 3998) [(2, 7)] (by rw [e2_1, e2_6]; exact p2)]
  show meetH hG3a [3] 3997 [(2, 7)] = _
  rw [meetH_go (f := 3996) [] (by rw [e3_2, e3_7]; exact p3)]
  exact meetH_nil _ _ _

theorem showB : shL hG3 200 [5] = some ([tmT], 197) := by
  have h5 : argsH hG3 (endH hG3 5) = [6, 7] := by rw [e4_5]; rfl
  have h6 : argsH hG3 (endH hG3 6) = [] := by rw [e4_6]; rfl
  have h7 : argsH hG3 (endH hG3 7) = [] := by rw [e4_7]; rfl
  rw [shL_fn (t := 5) (by rw [e4_5]; decide), h5, shL_fn (t := 6) (by rw [e4_6]; decide), h6, shL_nil]
  simp only [Option.bind_some]
  rw [shL_fn (t := 7) (by rw [e4_7]; decide), h7, shL_nil]
  simp only [Option.bind_some, shL_nil, Option.map_some, e4_5, e4_6, e4_7]
  rfl

theorem k1 : tmR.checkE = 0 := by decide +kernel
theorem k2 : tmS.checkE = 0 := by decide +kernel

end Go.Proofs.Ytikmgiapjigghaa

