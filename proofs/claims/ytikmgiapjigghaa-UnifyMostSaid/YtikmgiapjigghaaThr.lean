/- Walks: a new store; a term through and through. -/
import Derived.Test.YtikmgiapjigghaaSame
namespace Go.Proofs.Ytikmgiapjigghaa
open Go.RowKit

set_option maxRecDepth 100000 in
set_option maxHeartbeats 1000000 in
theorem NewW (w : World) (ok : Nat → Prop) (hok : ∀ b, ok b → b < w.heap.size) :
    Calls Try.prog 65 #[] w fun e w' => e = .returned (.pointer (some ⟨w.heap.size + 1, 0, none⟩)) ∧ StAt w' ok (w.heap.size + 1) w.heap.size (.slice none 0 0) (fun _ => none) [] 0 ∧ Below w.heap.size w w' := by
  have hmm := @run_makeMap Try.prog
  go_enter Try.func65, Try.ntmps65
  go_wp2_with fail
  go_ret
  have hb : Below w.heap.size w ((w.alloc (.map #[] 0)).alloc (.cells #[.map (some w.heap.size), .slice none 0 0, .int .i64 0] 102)) := ((Below.refl _ _).alloc (Nat.le_refl _) _).alloc (by simp) _
  have hm := (IMap.made (P := Try.prog) (kt := 3) w).kept (Below.heap_alloc (w.alloc (.map #[] 0)) (.cells #[.map (some w.heap.size), .slice none 0 0, .int .i64 0] 102) w.heap.size (by simp))
  have hn : ((w.alloc (.map #[] 0)).alloc (.cells #[.map (some w.heap.size), .slice none 0 0, .int .i64 0] 102)).heap[w.heap.size + 1]? = some (.cells #[.map (some w.heap.size), .slice none 0 0, .int .i64 0] 102 (0, 0)) := by
    have := heap_alloc_new (w.alloc (.map #[] 0)) (.cells #[.map (some w.heap.size), .slice none 0 0, .int .i64 0] 102)
    simpa using this
  refine ⟨rfl, ⟨hn, World.ownsRow_nil _ _ _ _, ⟨_, hm, fun k => rfl⟩, ⟨by omega, by simp [Value.ownBlock], by simp [Value.ownBlock]⟩, fun b hb' => ⟨by have := hok b hb'; have := hb.size; omega, ?_⟩⟩, hb⟩
  have h1 := hok b hb'
  rintro (e | e | e)
  · omega
  · omega
  · simp [Value.ownBlock] at e

/-- The term with all variables looked through. -/
inductive Full (σ : Sub) : Tm → Tm → Prop
  | var (t : Tm) (hv : (look σ t).var ≠ 0) : Full σ t (.mk (look σ t).var ⟨#[]⟩ [])
  | fn (t : Tm) (l : List Tm) (hv : (look σ t).var = 0) (hl : l.length = (look σ t).args.length) (h : ∀ i (h : i < l.length), Full σ ((look σ t).args[i]'(by omega)) l[i]) : Full σ t (.mk 0 (look σ t).name l)

theorem Full.det {σ : Sub} {t T U : Tm} (h : Full σ t T) (k : Full σ t U) : T = U := by
  induction h generalizing U with
  | var t hv =>
    cases k with
    | var _ _ => rfl
    | fn _ l hv' _ _ => exact absurd hv' hv
  | fn t l hv hl h ih =>
    cases k with
    | var _ hv' => exact absurd hv hv'
    | fn _ l' hv' hl' h' =>
      have : l = l' := List.ext_getElem (by omega) fun i h1 h2 => ih i h1 (h' i h2)
      rw [this]

section
variable {S : Type} (nm : S → Int → Int × S)
mutual
/-- A term with its variables by nm, each as it is met. -/
def Tm.ren : S → Tm → Tm × S
  | s, .mk v n l => if v ≠ 0 then (.mk (nm s v).1 ⟨#[]⟩ [], (nm s v).2) else (.mk 0 n (Tm.rens s l).1, (Tm.rens s l).2)
def Tm.rens : S → List Tm → List Tm × S
  | s, [] => ([], s)
  | s, t :: r => ((Tm.ren s t).1 :: (Tm.rens (Tm.ren s t).2 r).1, (Tm.rens (Tm.ren s t).2 r).2)
end

theorem Tm.rens_append (s : S) (l r : List Tm) : Tm.rens nm s (l ++ r) = ((Tm.rens nm s l).1 ++ (Tm.rens nm (Tm.rens nm s l).2 r).1, (Tm.rens nm (Tm.rens nm s l).2 r).2) := by
  induction l generalizing s with
  | nil => simp [Tm.rens]
  | cons t l ih => simp only [List.cons_append, Tm.rens, ih]

theorem Tm.rens_length (s : S) (l : List Tm) : (Tm.rens nm s l).1.length = l.length := by
  induction l generalizing s with
  | nil => simp [Tm.rens]
  | cons t l ih => simp only [Tm.rens, List.length_cons, ih]
end

/-- A function value that names variables: what it keeps is Inv at a state; it touches only Md of what was there, and hands back a number. -/
def Names {S : Type} (nm : S → Int → Int × S) (Inv : World → S → Prop) (Md : Nat → Prop) (F : FuncId) (cp : Array Value) : Prop :=
  ∀ (w : World) (s : S) (v : Int), Inv w s → I64 v → Calls Try.prog F (#[.int .i64 v] ++ cp) w fun e w' => e = .returned (.int .i64 (nm s v).1) ∧ Inv w' (nm s v).2 ∧ I64 (nm s v).1 ∧ Touch Md w w'

set_option maxRecDepth 100000 in
theorem idW (w : World) (v : Int) : Calls Try.prog 68 #[.int .i64 v] w fun e w' => e = .returned (.int .i64 v) ∧ w = w' := by
  go_enter Try.func68, Try.ntmps68
  go_wp2_with fail
  go_ret
  exact ⟨rfl, rfl⟩

theorem names_id : Names (S := Unit) (fun _ v => (v, ())) (fun _ _ => True) (fun _ => False) 68 #[] := by
  intro w s v _ hv
  refine (idW w v).mono ?_
  rintro e w' ⟨rfl, rfl⟩
  exact ⟨rfl, trivial, hv, Touch.refl _ _⟩

end Go.Proofs.Ytikmgiapjigghaa
