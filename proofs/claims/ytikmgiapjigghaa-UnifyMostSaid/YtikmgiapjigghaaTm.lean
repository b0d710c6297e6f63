/- Plain data of the claim: terms as a Lean type, and what it is that a Go value of type Term (or a slice of them) reads as a term in a world. -/
import Derived.Test.YtikmgiapjigghaaRows
import Derived.WalkKit
namespace Go.Proofs.Ytikmgiapjigghaa
open Go.RowKit

/-- A term as plain data. -/
inductive Tm where
  | mk (v : Int) (n : ByteArray) (l : List Tm)

theorem Tm.ind {P : Tm → Prop} (h : ∀ v n l, (∀ x, x ∈ l → P x) → P (.mk v n l)) : ∀ t, P t := by
  intro t
  exact Tm.rec (motive_1 := P) (motive_2 := fun l => ∀ x, x ∈ l → P x) (fun v n l ih => h v n l ih) (fun x hx => by cases hx)
    (fun a r ha hr x hx => by
      rcases List.mem_cons.1 hx with e | hx
      · exact e ▸ ha
      · exact hr x hx) t

mutual
/-- How many parts a term has. -/
def Tm.size : Tm → Nat
  | .mk _ _ l => 1 + Tm.sizes l
def Tm.sizes : List Tm → Nat
  | [] => 0
  | t :: r => t.size + Tm.sizes r
end

theorem Tm.size_pos (t : Tm) : 1 ≤ t.size := by cases t; simp [Tm.size]

theorem Tm.sizes_append (l r : List Tm) : Tm.sizes (l ++ r) = Tm.sizes l + Tm.sizes r := by
  induction l with
  | nil => simp [Tm.sizes]
  | cons a l ih => simp only [List.cons_append, Tm.sizes, ih]; omega

theorem Tm.sizes_take_succ (l : List Tm) (k : Nat) (h : k < l.length) : Tm.sizes (l.take (k + 1)) = Tm.sizes (l.take k) + l[k].size := by
  rw [List.take_succ_eq_append_getElem h, Tm.sizes_append]; simp [Tm.sizes]

theorem Tm.sizes_take_le (l : List Tm) (k : Nat) : Tm.sizes (l.take k) ≤ Tm.sizes l := by
  conv => rhs; rw [← List.take_append_drop k l, Tm.sizes_append]
  omega

/-- A number that fits an int. (A plain definition: the walk must not see the numerals.) -/
def I64 (v : Int) : Prop := -9223372036854775808 ≤ v ∧ v ≤ 9223372036854775807

def Tm.var : Tm → Int | .mk v _ _ => v
def Tm.name : Tm → ByteArray | .mk _ n _ => n
def Tm.args : Tm → List Tm | .mk _ _ l => l

/-- The parts of a term that are no memory fit the machine. -/
def Tm.fits (t : Tm) : Prop := I64 t.var ∧ t.name.size ≤ maxLen

/-- The cells of one term of a row, with where its own arguments stand. -/
structure Cells3 (w : World) (b off : Nat) (t : Tm) (a : Option Addr) (cap : Nat) : Prop where
  var : w.cell? ⟨b, off, none⟩ = some (.int .i64 t.var)
  name : w.cell? ⟨b, off + 1, none⟩ = some (.string t.name)
  args : w.cell? ⟨b, off + 2, none⟩ = some (.slice a t.args.length cap)
  fits : t.fits

/-- A slice of terms in a world: all blocks on the way are in 'ok'. -/
inductive Ts (w : World) (ok : Nat → Prop) : List Tm → Option Addr → Nat → Prop
  | mk (l : List Tm) (a : Option Addr) (cap : Nat) (hcap : l.length ≤ cap ∧ cap ≤ maxLen ∧ (a = none → cap = 0)) (x : Nat → Option Addr × Nat)
      (hc : ∀ i (h : i < l.length), ∃ (b off : Nat), a = some ⟨b, off, none⟩ ∧ ok b ∧ b < w.heap.size ∧ Cells3 w b (off + i * 3) l[i] (x i).1 (x i).2)
      (hr : ∀ i (h : i < l.length), Ts w ok l[i].args (x i).1 (x i).2) : Ts w ok l a cap

theorem Ts.cap {w : World} {ok : Nat → Prop} {l : List Tm} {a : Option Addr} {cap : Nat} (h : Ts w ok l a cap) : l.length ≤ cap ∧ cap ≤ maxLen ∧ (a = none → cap = 0) := by
  cases h; assumption

theorem Ts.at {w : World} {ok : Nat → Prop} {l : List Tm} {a : Option Addr} {cap : Nat} (h : Ts w ok l a cap) (i : Nat) (hi : i < l.length) :
    ∃ (b off : Nat) (a' : Option Addr) (cap' : Nat), a = some ⟨b, off, none⟩ ∧ ok b ∧ b < w.heap.size ∧ Cells3 w b (off + i * 3) l[i] a' cap' ∧ Ts w ok l[i].args a' cap' := by
  cases h with
  | mk _ _ _ hcap x hc hr =>
    obtain ⟨b, off, h1, h2, h3, h4⟩ := hc i hi
    exact ⟨b, off, _, _, h1, h2, h3, h4, hr i hi⟩

theorem retI {a b : Int} (h : a = b) : Ending.returned (.int .i64 a) = .returned (.int .i64 b) := by rw [h]
theorem retB {a b : Bool} (h : a = b) : Ending.returned (.bool a) = .returned (.bool b) := by rw [h]
theorem retN {a b : Nat} (h : a = b) : Ending.returned (.int .i64 (a : Int)) = .returned (.int .i64 (b : Int)) := by rw [h]

theorem bcell {W w1 : World} (hb : Below W.heap.size W w1) : (∀ b o, b < W.heap.size → w1.cell? ⟨b, o, none⟩ = W.cell? ⟨b, o, none⟩) ∧ (∀ b o, b < W.heap.size → w1.frozen? ⟨b, o, none⟩ = W.frozen? ⟨b, o, none⟩) :=
  ⟨fun b o h => hb.cell (p := ⟨b, o, none⟩) h, fun b o h => hb.frozen (p := ⟨b, o, none⟩) h⟩

/-- What is in 'ok' stays, what is not there may turn. -/
structure Keeps (ok : Nat → Prop) (w w' : World) : Prop where
  size : w.heap.size ≤ w'.heap.size
  block : ∀ b, ok b → b < w.heap.size → w'.heap[b]? = w.heap[b]?

theorem Keeps.refl (ok : Nat → Prop) (w : World) : Keeps ok w w := ⟨Nat.le_refl _, fun _ _ _ => rfl⟩
theorem Keeps.trans {ok : Nat → Prop} {a b c : World} (h : Keeps ok a b) (k : Keeps ok b c) : Keeps ok a c :=
  ⟨Nat.le_trans h.size k.size, fun i hi hs => (k.block i hi (Nat.lt_of_lt_of_le hs h.size)).trans (h.block i hi hs)⟩
theorem Keeps.below {w w' : World} (h : Below w.heap.size w w') (ok : Nat → Prop) : Keeps ok w w' := ⟨h.size, fun b _ hb => h.block b hb⟩
theorem Keeps.cell {ok : Nat → Prop} {w w' : World} (h : Keeps ok w w') {p : Addr} (hp : ok p.block) (hs : p.block < w.heap.size) : w'.cell? p = w.cell? p := World.cell?_of_block (w := w) (h.block _ hp hs)

theorem Ts.keep {w w' : World} {ok : Nat → Prop} (hk : Keeps ok w w') {l : List Tm} {a : Option Addr} {cap : Nat} (h : Ts w ok l a cap) : Ts w' ok l a cap := by
  induction h with
  | mk l a cap hcap x hc hr ih =>
    refine .mk l a cap hcap x (fun i hi => ?_) ih
    obtain ⟨b, off, h1, h2, h3, h4⟩ := hc i hi
    exact ⟨b, off, h1, h2, Nat.lt_of_lt_of_le h3 hk.size, (hk.cell (p := ⟨b, _, none⟩) h2 h3).trans h4.var, (hk.cell (p := ⟨b, _, none⟩) h2 h3).trans h4.name, (hk.cell (p := ⟨b, _, none⟩) h2 h3).trans h4.args, h4.fits⟩

end Go.Proofs.Ytikmgiapjigghaa
