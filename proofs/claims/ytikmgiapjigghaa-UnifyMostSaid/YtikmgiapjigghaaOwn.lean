/- An append to a row of one's own: as the kit's law, and besides: the new row is the old one, or lies in a new block. -/
import Derived.Test.YtikmgiapjigghaaRow
namespace Go.Proofs.Ytikmgiapjigghaa
open Go.RowKit

/-- The row that is handed back is the old one, or in a new block. -/
def Fresh (w : World) (v v' : Value) : Prop := v'.ownBlock = v.ownBlock ∨ ∀ g, v'.ownBlock = some g → w.heap.size ≤ g

section
variable {P : Program} (w : World)

theorem run_append_fresh (base : Nat) (t ty e : TypeId) (i : TypeInfo) (z : Value) (size bytes : Nat) (ht : P.underlying t = some (.slice e)) (hi : P.info? e = some i) (hz : i.zero = some z)
    (hsize : i.size = size) (hby : i.bytes = bytes) (hzs : z.cells.size = size) (hsz : 0 < size)
    (v : Value) (n : Nat) (xs : List Value) (hown : w.ownsRow base e size v n xs)
    (a : Addr) (m c : Nat) (news : List Value) (hl : news.length = m * size) (hnews : ∀ j u, news[j]? = some u → w.cell? (a.add j) = some u) (h1 : ∀ u ∈ news, u.oneCell' = true)
    (h63 : n + m ≤ maxLen) (hbytes : (n + m) * bytes ≤ 140737488355328) (hbase : base ≤ w.heap.size) :
    ∃ v' w', (Builtin.append_ #[t, t] ty #[v, .slice (some a) m c]).run P w = .ok v' w' ∧ w'.ownsRow base e size v' (n + m) (xs ++ news) ∧ w.grownBy w' v.ownBlock ∧ Fresh w v v' := by
  rcases hown.2 with ⟨rfl, hn⟩ | ⟨g, cap, cur, rfl, hbg, hg, hnc, hcm, hcs, htake⟩
  · subst hn
    have hx : xs = [] := List.eq_nil_of_length_eq_zero (by simpa using hown.1)
    subst hx
    obtain ⟨v', w', h2, h3, h4, _⟩ := run_append_own (P := P) w w.heap.size t ty e i z size bytes ht hi hz hsize hby hzs hsz (.slice none 0 0) 0 [] (World.ownsRow_nil _ _ _ _) a m c news hl hnews h1 h63 hbytes (Nat.le_refl _)
    refine ⟨v', w', h2, ⟨h3.1, ?_⟩, h4, .inr fun g hg => (h3.lt g hg).1⟩
    rcases h3.2 with h5 | ⟨g, cap, cur, h5, h6, h7⟩
    · exact .inl h5
    · exact .inr ⟨g, cap, cur, h5, Nat.le_trans hbase h6, h7⟩
  · obtain ⟨v', w', h2, h3, h4, _⟩ := run_append_own (P := P) w base t ty e i z size bytes ht hi hz hsize hby hzs hsz _ n xs hown a m c news hl hnews h1 h63 hbytes hbase
    refine ⟨v', w', h2, h3, h4, ?_⟩
    subst hsize
    subst hby
    by_cases hroom : n + m ≤ cap
    · have hfit : n * i.size + news.length ≤ cur.size := by rw [hl, hcs, ← Nat.add_mul]; exact Nat.mul_le_mul_right _ hroom
      have hr := run_append_room (P := P) w t ty e i ht hi g n cap cur hg a m c news hl hnews h1 hroom hfit
      rw [h2] at hr
      simp only [Result.ok.injEq] at hr
      rw [hr.1]
      exact .inl rfl
    · have hsmall : n + m ≤ 9223372036854775807 := by simp only [maxLen] at h63; omega
      have holds : ∀ j u, xs[j]? = some u → w.cell? ((⟨g, 0, none⟩ : Addr).add j) = some u := hown.cells (g := g) rfl
      have hr := run_append_grow (P := P) w t ty e i z ht hi hz ⟨g, 0, none⟩ n cap xs hown.1 holds a m c news hl hnews (by omega) (by omega) (growslice_fits (by omega) hbytes)
      rw [h2] at hr
      simp only [Result.ok.injEq] at hr
      rw [hr.1]
      refine .inr fun g' hg' => ?_
      simp only [Value.ownBlock, Option.some.injEq] at hg'
      omega

theorem wpList_append_fresh {ops : Array Oper} {rest : List Oper} {o : Oper} {a : Act} {Q : Exit → Act → World → Prop} (hgd : o.guard = none) (s x : Operand) (t : TypeId)
    (ho : o.op = .call { callee := .builtin .append, args := #[s, x], argTypes := #[t, t] })
    (base : Nat) (e : TypeId) (i : TypeInfo) (z : Value) (size bytes : Nat) (ht : P.underlying t = some (.slice e)) (hi : P.info? e = some i) (hz : i.zero = some z)
    (hsize : i.size = size) (hby : i.bytes = bytes) (hzs : z.cells.size = size) (hsz : 0 < size)
    (v : Value) (n : Nat) (xs : List Value) (hs : a.eval s = v) (hown : w.ownsRow base e size v n xs)
    (ad : Addr) (m c : Nat) (news : List Value) (hx : a.eval x = .slice (some ad) m c) (hl : news.length = m * size) (hnews : ∀ j u, news[j]? = some u → w.cell? (ad.add j) = some u) (h1 : ∀ u ∈ news, u.oneCell' = true)
    (h63 : n + m ≤ maxLen) (hbytes : (n + m) * bytes ≤ 140737488355328) (hbase : base ≤ w.heap.size)
    (h : ∀ v' w', w'.ownsRow base e size v' (n + m) (xs ++ news) → w.grownBy w' v.ownBlock → Fresh w v v' → wpList P ops Q rest (a.put o.dst v') w') : wpList P ops Q (o :: rest) a w :=
  wpList_plain hgd fun _ hK => by
    obtain ⟨v', w', hr, h2, h3, h4⟩ := run_append_fresh (P := P) w base t o.type e i z size bytes ht hi hz hsize hby hzs hsz v n xs hown ad m c news hl hnews h1 h63 hbytes hbase
    unfold Oper.wp execOp
    simp only [ho, resolve, invoke, builtin, Sem.run_bind, Sem.run_pure, Result.andThen_ok, List.map_toArray, List.map_cons, List.map_nil, hs, hx, hr]
    exact hK _ _ (h v' w' h2 h3 h4)
end

/-- All blocks that are right, but the one in which a row stands. -/
def Free (x : Value) (ok : Nat → Prop) : Nat → Prop := fun b => ok b ∧ x.ownBlock ≠ some b

/-- A slice of terms that a call makes, piece by piece. -/
structure OwnTs (w : World) (base : Nat) (ok : Nat → Prop) (x : Value) (L : List TmAt) : Prop where
  own : w.ownsRow base 24 3 x L.length (flat L)
  each : TsEach w (Free x ok) L

theorem OwnTs.nil (w : World) (base : Nat) (ok : Nat → Prop) : OwnTs w base ok (.slice none 0 0) [] := ⟨World.ownsRow_nil _ _ _ _, TsEach.nil _ _⟩

theorem TsEach.mono {w : World} {ok ok' : Nat → Prop} (h : ∀ b, b < w.heap.size → ok b → ok' b) {L : List TmAt} (hl : TsEach w ok L) : TsEach w ok' L := fun x hx => ⟨(hl x hx).1, (hl x hx).2.mono h⟩

theorem OwnTs.below {w w' : World} {base : Nat} {ok : Nat → Prop} {x : Value} {L : List TmAt} (h : OwnTs w base ok x L) (hb : Below w.heap.size w w') : OwnTs w' base ok x L :=
  ⟨ownsRow_below h.own hb, h.each.keep (Keeps.below hb _)⟩

theorem keeps_grown {w w' : World} {x : Value} (hg : w.grownBy w' x.ownBlock) (ok : Nat → Prop) : Keeps (Free x ok) w w' :=
  ⟨hg.size, fun b hb hs => hg.block b hs (fun e => hb.2 e.symm)⟩

theorem OwnTs.append {w w' : World} {base : Nat} {ok : Nat → Prop} {x x' : Value} {L L2 : List TmAt} (h : OwnTs w base ok x L) (h2 : TsEach w (Free x ok) L2)
    (ho : w'.ownsRow base 24 3 x' (L.length + L2.length) (flat L ++ flat L2)) (hg : w.grownBy w' x.ownBlock) (hf : Fresh w x x') : OwnTs w' base ok x' (L ++ L2) := by
  refine ⟨by rw [flat_append, List.length_append]; exact ho, ?_⟩
  have h3 : TsEach w (fun b => Free x ok b ∧ b < w.heap.size) (L ++ L2) := (h.each.append h2).mono fun b hb h => ⟨h, hb⟩
  have h4 : Keeps (fun b => Free x ok b ∧ b < w.heap.size) w w' := ⟨hg.size, fun b hb hs => hg.block b hs (fun e => hb.1.2 e.symm)⟩
  refine (h3.keep h4).mono fun b _ hb => ⟨hb.1.1, ?_⟩
  rcases hf with hf | hf
  · rw [hf]; exact hb.1.2
  · intro e; have := hf b e; omega

theorem OwnTs.done {w : World} {base : Nat} {ok : Nat → Prop} {x : Value} {L : List TmAt} (h : OwnTs w base ok x L) (hok : ∀ b, base ≤ b → ok b) : ∃ a cap, x = .slice a (L.map (·.1)).length cap ∧ Ts w ok (L.map (·.1)) a cap :=
  Ts.of_row h.own hok (h.each.mono fun _ _ hb => hb.1)

theorem OwnTs.block {w : World} {base : Nat} {ok : Nat → Prop} {x : Value} {L : List TmAt} (h : OwnTs w base ok x L) {g : Nat} (hg : x.ownBlock = some g) : base ≤ g ∧ g < w.heap.size := h.own.lt g hg

theorem OwnTs.newok {w : World} {base : Nat} {ok : Nat → Prop} {x : Value} {L : List TmAt} (h : OwnTs w base ok x L) (hok : ∀ b, w.heap.size ≤ b → ok b) : ∀ b, w.heap.size ≤ b → Free x ok b :=
  fun b hb => ⟨hok b hb, fun e => by have := (h.block e).2; omega⟩

/-- What lay below the row's base is not the row. -/
theorem OwnTs.old {w : World} {base : Nat} {ok : Nat → Prop} {x : Value} {L : List TmAt} (h : OwnTs w base ok x L) {m : Nat} (hm : m ≤ base) : ∀ b, b < m → ok b → Free x ok b :=
  fun b hb hk => ⟨hk, fun e => by have := (h.block e).1; omega⟩

end Go.Proofs.Ytikmgiapjigghaa
