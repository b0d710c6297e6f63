/- Plain data of the claim: terms as a Lean type, and what it is that a Go value of type Term (or a slice of them) reads as a term in a world. -/
import Derived.Test.YtikmgiapjigghabDoorRows
import Derived.WalkKit
namespace Go.Proofs.YtikmgiapjigghabDoor
open Go.RowKit

/-- A term as plain data. -/
inductive Tm where
  | mk (v : Int) (n : ByteArray) (l : List Tm)

theorem Tm.ind {P : Tm → Prop} (h : ∀ v n l, (∀ x, x ∈ l → P x) → P (.mk v n l)) : ∀ t, P t := by
  intro t
  exact Tm.rec (motive_1 := P) (motive_2 := fun l => ∀ x, x ∈ l → P x) (fun v n l ih => h v n l ih) (fun x hx => by cases hx)
    (fun a r ha hr x hx => by
      rcases List.mem_cons.1 hx with e | hx
      · exact e ▸ ha
      · exact hr x hx) t

mutual
/-- How many parts a term has. -/
def Tm.size : Tm → Nat
  | .mk _ _ l => 1 + Tm.sizes l
def Tm.sizes : List Tm → Nat
  | [] => 0
  | t :: r => t.size + Tm.sizes r
end

theorem Tm.size_pos (t : Tm) : 1 ≤ t.size := by cases t; simp [Tm.size]

theorem Tm.sizes_append (l r : List Tm) : Tm.sizes (l ++ r) = Tm.sizes l + Tm.sizes r := by
  induction l with
  | nil => simp [Tm.sizes]
  | cons a l ih => simp only [List.cons_append, Tm.sizes, ih]; omega

theorem Tm.sizes_take_succ (l : List Tm) (k : Nat) (h : k < l.length) : Tm.sizes (l.take (k + 1)) = Tm.sizes (l.take k) + l[k].size := by
  rw [List.take_succ_eq_append_getElem h, Tm.sizes_append]; simp [Tm.sizes]

theorem Tm.sizes_take_le (l : List Tm) (k : Nat) : Tm.sizes (l.take k) ≤ Tm.sizes l := by
  conv => rhs; rw [← List.take_append_drop k l, Tm.sizes_append]
  omega

/-- A number that fits an int. (A plain definition: the walk must not see the numerals.) -/
def I64 (v : Int) : Prop := -9223372036854775808 ≤ v ∧ v ≤ 9223372036854775807

def Tm.var : Tm → Int | .mk v _ _ => v
def Tm.name : Tm → ByteArray | .mk _ n _ => n
def Tm.args : Tm → List Tm | .mk _ _ l => l

/-- The parts of a term that are no memory fit the machine. -/
def Tm.fits (t : Tm) : Prop := I64 t.var ∧ t.name.size ≤ maxLen

/-- The cells of one term of a row, with where its own arguments stand. -/
structure Cells3 (w : World) (b off : Nat) (t : Tm) (a : Option Addr) (cap : Nat) : Prop where
  var : w.cell? ⟨b, off, none⟩ = some (.int .i64 t.var)
  name : w.cell? ⟨b, off + 1, none⟩ = some (.string t.name)
  args : w.cell? ⟨b, off + 2, none⟩ = some (.slice a t.args.length cap)
  fits : t.fits

/-- A slice of terms in a world: all blocks on the way are in 'ok'. -/
inductive Ts (w : World) (ok : Nat → Prop) : List Tm → Option Addr → Nat → Prop
  | mk (l : List Tm) (a : Option Addr) (cap : Nat) (hcap : l.length ≤ cap ∧ cap ≤ maxLen ∧ (a = none → cap = 0)) (x : Nat → Option Addr × Nat)
      (hc : ∀ i (h : i < l.length), ∃ (b off : Nat), a = some ⟨b, off, none⟩ ∧ ok b ∧ b < w.heap.size ∧ Cells3 w b (off + i * 3) l[i] (x i).1 (x i).2)
      (hr : ∀ i (h : i < l.length), Ts w ok l[i].args (x i).1 (x i).2) : Ts w ok l a cap

theorem Ts.cap {w : World} {ok : Nat → Prop} {l : List Tm} {a : Option Addr} {cap : Nat} (h : Ts w ok l a cap) : l.length ≤ cap ∧ cap ≤ maxLen ∧ (a = none → cap = 0) := by
  cases h; assumption

theorem Ts.at {w : World} {ok : Nat → Prop} {l : List Tm} {a : Option Addr} {cap : Nat} (h : Ts w ok l a cap) (i : Nat) (hi : i < l.length) :
    ∃ (b off : Nat) (a' : Option Addr) (cap' : Nat), a = some ⟨b, off, none⟩ ∧ ok b ∧ b < w.heap.size ∧ Cells3 w b (off + i * 3) l[i] a' cap' ∧ Ts w ok l[i].args a' cap' := by
  cases h with
  | mk _ _ _ hcap x hc hr =>
    obtain ⟨b, off, h1, h2, h3, h4⟩ := hc i hi
    exact ⟨b, off, _, _, h1, h2, h3, h4, hr i hi⟩

theorem retI {a b : Int} (h : a = b) : Ending.returned (.int .i64 a) = .returned (.int .i64 b) := by rw [h]
theorem retB {a b : Bool} (h : a = b) : Ending.returned (.bool a) = .returned (.bool b) := by rw [h]
theorem retN {a b : Nat} (h : a = b) : Ending.returned (.int .i64 (a : Int)) = .returned (.int .i64 (b : Int)) := by rw [h]

theorem bcell {W w1 : World} (hb : Below W.heap.size W w1) : (∀ b o, b < W.heap.size → w1.cell? ⟨b, o, none⟩ = W.cell? ⟨b, o, none⟩) ∧ (∀ b o, b < W.heap.size → w1.frozen? ⟨b, o, none⟩ = W.frozen? ⟨b, o, none⟩) :=
  ⟨fun b o h => hb.cell (p := ⟨b, o, none⟩) h, fun b o h => hb.frozen (p := ⟨b, o, none⟩) h⟩

/-- What is in 'ok' stays, what is not there may turn. -/
structure Keeps (ok : Nat → Prop) (w w' : World) : Prop where
  size : w.heap.size ≤ w'.heap.size
  block : ∀ b, ok b → b < w.heap.size → w'.heap[b]? = w.heap[b]?

theorem Keeps.refl (ok : Nat → Prop) (w : World) : Keeps ok w w := ⟨Nat.le_refl _, fun _ _ _ => rfl⟩
theorem Keeps.trans {ok : Nat → Prop} {a b c : World} (h : Keeps ok a b) (k : Keeps ok b c) : Keeps ok a c :=
  ⟨Nat.le_trans h.size k.size, fun i hi hs => (k.block i hi (Nat.lt_of_lt_of_le hs h.size)).trans (h.block i hi hs)⟩
theorem Keeps.below {w w' : World} (h : Below w.heap.size w w') (ok : Nat → Prop) : Keeps ok w w' := ⟨h.size, fun b _ hb => h.block b hb⟩
theorem Keeps.cell {ok : Nat → Prop} {w w' : World} (h : Keeps ok w w') {p : Addr} (hp : ok p.block) (hs : p.block < w.heap.size) : w'.cell? p = w.cell? p := World.cell?_of_block (w := w) (h.block _ hp hs)

theorem Ts.keep {w w' : World} {ok : Nat → Prop} (hk : Keeps ok w w') {l : List Tm} {a : Option Addr} {cap : Nat} (h : Ts w ok l a cap) : Ts w' ok l a cap := by
  induction h with
  | mk l a cap hcap x hc hr ih =>
    refine .mk l a cap hcap x (fun i hi => ?_) ih
    obtain ⟨b, off, h1, h2, h3, h4⟩ := hc i hi
    exact ⟨b, off, h1, h2, Nat.lt_of_lt_of_le h3 hk.size, (hk.cell (p := ⟨b, _, none⟩) h2 h3).trans h4.var, (hk.cell (p := ⟨b, _, none⟩) h2 h3).trans h4.name, (hk.cell (p := ⟨b, _, none⟩) h2 h3).trans h4.args, h4.fits⟩

end Go.Proofs.YtikmgiapjigghabDoor

/- Rows of terms that a call made itself: 'ownsRow' at terms, and how it and 'Ts' give each other. -/
namespace Go.Proofs.YtikmgiapjigghabDoor
open Go.RowKit

/-- A term together with where its arguments stand. -/
abbrev TmAt := Tm × Option Addr × Nat

/-- The three cells of each. -/
def flat : List TmAt → List Value
  | [] => []
  | x :: r => .int .i64 x.1.var :: .string x.1.name :: .slice x.2.1 x.1.args.length x.2.2 :: flat r

theorem flat_append (l r : List TmAt) : flat (l ++ r) = flat l ++ flat r := by
  induction l with
  | nil => rfl
  | cons x l ih => simp [flat, ih]

theorem flat_length (l : List TmAt) : (flat l).length = l.length * 3 := by
  induction l with
  | nil => rfl
  | cons x l ih => simp [flat, ih]; omega

theorem flat_one (l : List TmAt) : ∀ u ∈ flat l, u.oneCell' = true := by
  induction l with
  | nil => intro u hu; cases hu
  | cons x l ih =>
    intro u hu
    simp only [flat, List.mem_cons] at hu
    rcases hu with rfl | rfl | rfl | hu
    · rfl
    · rfl
    · rfl
    · exact ih u hu

theorem flat_at (l : List TmAt) (i : Nat) (h : i < l.length) : (flat l)[i * 3]? = some (.int .i64 l[i].1.var) ∧ (flat l)[i * 3 + 1]? = some (.string l[i].1.name) ∧ (flat l)[i * 3 + 2]? = some (.slice l[i].2.1 l[i].1.args.length l[i].2.2) := by
  induction l generalizing i with
  | nil => cases h
  | cons x l ih =>
    cases i with
    | zero => simp [flat]
    | succ i =>
      have := ih i (by simpa using h)
      rw [show (i + 1) * 3 = i * 3 + 3 from by omega]
      simpa [flat] using this

/-- Each term of a row reads, and what it is by itself fits. -/
def TsEach (w : World) (ok : Nat → Prop) (L : List TmAt) : Prop := ∀ x, x ∈ L → x.1.fits ∧ Ts w ok x.1.args x.2.1 x.2.2

theorem TsEach.keep {w w' : World} {ok : Nat → Prop} (hk : Keeps ok w w') {L : List TmAt} (h : TsEach w ok L) : TsEach w' ok L := fun x hx => ⟨(h x hx).1, (h x hx).2.keep hk⟩

theorem TsEach.append {w : World} {ok : Nat → Prop} {L R : List TmAt} (h : TsEach w ok L) (k : TsEach w ok R) : TsEach w ok (L ++ R) := fun x hx => by
  rcases List.mem_append.1 hx with hx | hx
  · exact h x hx
  · exact k x hx

theorem TsEach.nil (w : World) (ok : Nat → Prop) : TsEach w ok [] := fun x hx => by cases hx

theorem TsEach.one {w : World} {ok : Nat → Prop} {t : Tm} {a : Option Addr} {cap : Nat} (hf : t.fits) (h : Ts w ok t.args a cap) : TsEach w ok [(t, a, cap)] := fun x hx => by
  rw [List.mem_singleton] at hx; subst hx; exact ⟨hf, h⟩

theorem addr_add (b off n : Nat) : (⟨b, off, none⟩ : Addr).add n = ⟨b, off + n, none⟩ := by
  unfold Addr.add; split
  · subst_vars; rfl
  · rfl

/-- What a slice of terms is made of. -/
theorem Ts.open {w : World} {ok : Nat → Prop} {l : List Tm} {a : Option Addr} {cap : Nat} (h : Ts w ok l a cap) :
    ∃ L : List TmAt, L.map (·.1) = l ∧ TsEach w ok L ∧ (∀ ad, a = some ad → ∀ j u, (flat L)[j]? = some u → w.cell? (ad.add j) = some u) := by
  cases h with
  | mk _ _ _ hcap x hc hr =>
    refine ⟨(List.range l.length).attach.map fun i => (l[i.1]'(List.mem_range.1 i.2), (x i.1).1, (x i.1).2), ?_, ?_, ?_⟩
    · refine List.ext_getElem (by simp) fun i h1 h2 => by simp
    · rintro y hy
      obtain ⟨⟨i, hi⟩, _, rfl⟩ := List.mem_map.1 hy
      have hi' := List.mem_range.1 hi
      obtain ⟨b, off, _, _, _, h4⟩ := hc i hi'
      exact ⟨h4.fits, hr i hi'⟩
    · rintro ad rfl j u hu
      have hj : j < ((List.range l.length).attach.map fun i => ((l[i.1]'(List.mem_range.1 i.2), (x i.1).1, (x i.1).2) : TmAt)).length * 3 := by
        rw [← flat_length]; exact (List.getElem?_eq_some_iff.1 hu).1
      have hi : j / 3 < l.length := by simp at hj; omega
      obtain ⟨b, off, h1, _, _, h4⟩ := hc (j / 3) hi
      simp only [Option.some.injEq] at h1
      subst h1
      have h5 := flat_at ((List.range l.length).attach.map fun i => ((l[i.1]'(List.mem_range.1 i.2), (x i.1).1, (x i.1).2) : TmAt)) (j / 3) (by simpa using hi)
      simp only [List.getElem_map, List.getElem_attach, List.getElem_range] at h5
      rw [addr_add]
      have hm : j % 3 < 3 := Nat.mod_lt _ (by decide)
      have hd : j = j / 3 * 3 + j % 3 := by omega
      rcases (by omega : j % 3 = 0 ∨ j % 3 = 1 ∨ j % 3 = 2) with e | e | e
      · rw [hd, e, Nat.add_zero] at hu ⊢
        rw [h5.1] at hu; cases hu; exact h4.var
      · rw [hd, e] at hu ⊢
        rw [h5.2.1] at hu; cases hu; exact h4.name
      · rw [hd, e] at hu ⊢
        rw [h5.2.2] at hu; cases hu; exact h4.args

/-- A row that the call owns reads as its terms. -/
theorem Ts.of_row {w : World} {ok : Nat → Prop} {base : Nat} {v : Value} {L : List TmAt} (h : w.ownsRow base 48 3 v L.length (flat L)) (hok : ∀ b, base ≤ b → ok b) (he : TsEach w ok L) :
    ∃ a cap, v = .slice a (L.map (·.1)).length cap ∧ Ts w ok (L.map (·.1)) a cap := by
  rcases h.2 with ⟨rfl, hn⟩ | ⟨g, cap, cur, rfl, hb, hg, hcap, hml, hsz, htk⟩
  · have : L = [] := List.eq_nil_of_length_eq_zero hn
    subst this
    exact ⟨none, 0, rfl, .mk [] none 0 ⟨Nat.le_refl _, Nat.zero_le _, fun _ => rfl⟩ (fun _ => (none, 0)) (fun i hi => by cases hi) (fun i hi => by cases hi)⟩
  · refine ⟨some ⟨g, 0, none⟩, cap, by simp, ?_⟩
    have hcell : ∀ j u, (flat L)[j]? = some u → w.cell? ⟨g, j, none⟩ = some u := by
      intro j u hu
      have hj : j < L.length * 3 := by rw [← flat_length]; exact (List.getElem?_eq_some_iff.1 hu).1
      rw [h.cellAt j hj, hu]
    have hgs : g < w.heap.size := (Array.getElem?_eq_some_iff.1 hg).1
    refine .mk _ _ _ ⟨by simpa using hcap, hml, fun h => by cases h⟩ (fun i => ((L.getD i (.mk 0 ByteArray.empty [], none, 0)).2)) (fun i hi => ?_) (fun i hi => ?_)
    · have hi' : i < L.length := by simpa using hi
      obtain ⟨h1, h2, h3⟩ := flat_at L i hi'
      refine ⟨g, 0, rfl, hok g hb, hgs, ?_⟩
      simp only [List.getElem_map, List.getD_eq_getElem?_getD, List.getElem?_eq_getElem hi', Option.getD_some, Nat.zero_add]
      exact ⟨hcell _ _ h1, hcell _ _ h2, hcell _ _ h3, (he _ (List.getElem_mem hi')).1⟩
    · have hi' : i < L.length := by simpa using hi
      simp only [List.getElem_map, List.getD_eq_getElem?_getD, List.getElem?_eq_getElem hi', Option.getD_some]
      exact (he _ (List.getElem_mem hi')).2

theorem Ts.some {w : World} {ok : Nat → Prop} {l : List Tm} {a : Option Addr} {cap : Nat} (h : Ts w ok l a cap) (hl : 1 ≤ l.length) : ∃ ad, a = some ad := by
  have := h.cap
  cases a with
  | none => have := this.2.2 rfl; omega
  | some ad => exact ⟨ad, rfl⟩

theorem ownsRow_below {w w' : World} {base : Nat} {e : TypeId} {size : Nat} {v : Value} {n : Nat} {xs : List Value} (h : w.ownsRow base e size v n xs) (hb : Below w.heap.size w w') : w'.ownsRow base e size v n xs := by
  refine h.kept (row := none) ⟨hb.os, hb.tape, hb.output, hb.size, fun k hk _ => hb.block k hk⟩ ?_
  cases v.ownBlock <;> simp

theorem Ts.mono {w : World} {ok ok' : Nat → Prop} (h : ∀ b, b < w.heap.size → ok b → ok' b) {l : List Tm} {a : Option Addr} {cap : Nat} (ht : Ts w ok l a cap) : Ts w ok' l a cap := by
  induction ht with
  | mk l a cap hcap x hc hr ih =>
    refine .mk l a cap hcap x (fun i hi => ?_) ih
    obtain ⟨b, off, h1, h2, h3, h4⟩ := hc i hi
    exact ⟨b, off, h1, h _ h3 h2, h3, h4⟩

/-- A call hands back a slice of terms, in new memory or old; what was there stays. -/
def RetTs (w : World) (ok : Nat → Prop) (l : List Tm) (e : Ending) (w' : World) : Prop :=
  ∃ a cap, e = .returned (.slice a l.length cap) ∧ Ts w' ok l a cap ∧ Below w.heap.size w w'

end Go.Proofs.YtikmgiapjigghabDoor

/- An append to a row of one's own: as the kit's law, and besides: the new row is the old one, or lies in a new block. -/
namespace Go.Proofs.YtikmgiapjigghabDoor
open Go.RowKit

/-- The row that is handed back is the old one, or in a new block. -/
def Fresh (w : World) (v v' : Value) : Prop := v'.ownBlock = v.ownBlock ∨ ∀ g, v'.ownBlock = some g → w.heap.size ≤ g

section
variable {P : Program} (w : World)

theorem run_append_fresh (base : Nat) (t ty e : TypeId) (i : TypeInfo) (z : Value) (size bytes : Nat) (ht : P.underlying t = some (.slice e)) (hi : P.info? e = some i) (hz : i.zero = some z)
    (hsize : i.size = size) (hby : i.bytes = bytes) (hzs : z.cells.size = size) (hsz : 0 < size)
    (v : Value) (n : Nat) (xs : List Value) (hown : w.ownsRow base e size v n xs)
    (a : Addr) (m c : Nat) (news : List Value) (hl : news.length = m * size) (hnews : ∀ j u, news[j]? = some u → w.cell? (a.add j) = some u) (h1 : ∀ u ∈ news, u.oneCell' = true)
    (h63 : n + m ≤ maxLen) (hbytes : (n + m) * bytes ≤ 140737488355328) (hbase : base ≤ w.heap.size) :
    ∃ v' w', (Builtin.append_ #[t, t] ty #[v, .slice (some a) m c]).run P w = .ok v' w' ∧ w'.ownsRow base e size v' (n + m) (xs ++ news) ∧ w.grownBy w' v.ownBlock ∧ Fresh w v v' := by
  rcases hown.2 with ⟨rfl, hn⟩ | ⟨g, cap, cur, rfl, hbg, hg, hnc, hcm, hcs, htake⟩
  · subst hn
    have hx : xs = [] := List.eq_nil_of_length_eq_zero (by simpa using hown.1)
    subst hx
    obtain ⟨v', w', h2, h3, h4, _⟩ := run_append_own (P := P) w w.heap.size t ty e i z size bytes ht hi hz hsize hby hzs hsz (.slice none 0 0) 0 [] (World.ownsRow_nil _ _ _ _) a m c news hl hnews h1 h63 hbytes (Nat.le_refl _)
    refine ⟨v', w', h2, ⟨h3.1, ?_⟩, h4, .inr fun g hg => (h3.lt g hg).1⟩
    rcases h3.2 with h5 | ⟨g, cap, cur, h5, h6, h7⟩
    · exact .inl h5
    · exact .inr ⟨g, cap, cur, h5, Nat.le_trans hbase h6, h7⟩
  · obtain ⟨v', w', h2, h3, h4, _⟩ := run_append_own (P := P) w base t ty e i z size bytes ht hi hz hsize hby hzs hsz _ n xs hown a m c news hl hnews h1 h63 hbytes hbase
    refine ⟨v', w', h2, h3, h4, ?_⟩
    subst hsize
    subst hby
    by_cases hroom : n + m ≤ cap
    · have hfit : n * i.size + news.length ≤ cur.size := by rw [hl, hcs, ← Nat.add_mul]; exact Nat.mul_le_mul_right _ hroom
      have hr := run_append_room (P := P) w t ty e i ht hi g n cap cur hg a m c news hl hnews h1 hroom hfit
      rw [h2] at hr
      simp only [Result.ok.injEq] at hr
      rw [hr.1]
      exact .inl rfl
    · have hsmall : n + m ≤ 9223372036854775807 := by simp only [maxLen] at h63; omega
      have holds : ∀ j u, xs[j]? = some u → w.cell? ((⟨g, 0, none⟩ : Addr).add j) = some u := hown.cells (g := g) rfl
      have hr := run_append_grow (P := P) w t ty e i z ht hi hz ⟨g, 0, none⟩ n cap xs hown.1 holds a m c news hl hnews (by omega) (by omega) (growslice_fits (by omega) hbytes)
      rw [h2] at hr
      simp only [Result.ok.injEq] at hr
      rw [hr.1]
      refine .inr fun g' hg' => ?_
      simp only [Value.ownBlock, Option.some.injEq] at hg'
      omega

theorem wpList_append_fresh {ops : Array Oper} {rest : List Oper} {o : Oper} {a : Act} {Q : Exit → Act → World → Prop} (hgd : o.guard = none) (s x : Operand) (t : TypeId)
    (ho : o.op = .call { callee := .builtin .append, args := #[s, x], argTypes := #[t, t] })
    (base : Nat) (e : TypeId) (i : TypeInfo) (z : Value) (size bytes : Nat) (ht : P.underlying t = some (.slice e)) (hi : P.info? e = some i) (hz : i.zero = some z)
    (hsize : i.size = size) (hby : i.bytes = bytes) (hzs : z.cells.size = size) (hsz : 0 < size)
    (v : Value) (n : Nat) (xs : List Value) (hs : a.eval s = v) (hown : w.ownsRow base e size v n xs)
    (ad : Addr) (m c : Nat) (news : List Value) (hx : a.eval x = .slice (some ad) m c) (hl : news.length = m * size) (hnews : ∀ j u, news[j]? = some u → w.cell? (ad.add j) = some u) (h1 : ∀ u ∈ news, u.oneCell' = true)
    (h63 : n + m ≤ maxLen) (hbytes : (n + m) * bytes ≤ 140737488355328) (hbase : base ≤ w.heap.size)
    (h : ∀ v' w', w'.ownsRow base e size v' (n + m) (xs ++ news) → w.grownBy w' v.ownBlock → Fresh w v v' → wpList P ops Q rest (a.put o.dst v') w') : wpList P ops Q (o :: rest) a w :=
  wpList_plain hgd fun _ hK => by
    obtain ⟨v', w', hr, h2, h3, h4⟩ := run_append_fresh (P := P) w base t o.type e i z size bytes ht hi hz hsize hby hzs hsz v n xs hown ad m c news hl hnews h1 h63 hbytes hbase
    unfold Oper.wp execOp
    simp only [ho, resolve, invoke, builtin, Sem.run_bind, Sem.run_pure, Result.andThen_ok, List.map_toArray, List.map_cons, List.map_nil, hs, hx, hr]
    exact hK _ _ (h v' w' h2 h3 h4)
end

/-- All blocks that are right, but the one in which a row stands. -/
def Free (x : Value) (ok : Nat → Prop) : Nat → Prop := fun b => ok b ∧ x.ownBlock ≠ some b

/-- A slice of terms that a call makes, piece by piece. -/
structure OwnTs (w : World) (base : Nat) (ok : Nat → Prop) (x : Value) (L : List TmAt) : Prop where
  own : w.ownsRow base 48 3 x L.length (flat L)
  each : TsEach w (Free x ok) L

theorem OwnTs.nil (w : World) (base : Nat) (ok : Nat → Prop) : OwnTs w base ok (.slice none 0 0) [] := ⟨World.ownsRow_nil _ _ _ _, TsEach.nil _ _⟩

theorem TsEach.mono {w : World} {ok ok' : Nat → Prop} (h : ∀ b, b < w.heap.size → ok b → ok' b) {L : List TmAt} (hl : TsEach w ok L) : TsEach w ok' L := fun x hx => ⟨(hl x hx).1, (hl x hx).2.mono h⟩

theorem OwnTs.below {w w' : World} {base : Nat} {ok : Nat → Prop} {x : Value} {L : List TmAt} (h : OwnTs w base ok x L) (hb : Below w.heap.size w w') : OwnTs w' base ok x L :=
  ⟨ownsRow_below h.own hb, h.each.keep (Keeps.below hb _)⟩

theorem keeps_grown {w w' : World} {x : Value} (hg : w.grownBy w' x.ownBlock) (ok : Nat → Prop) : Keeps (Free x ok) w w' :=
  ⟨hg.size, fun b hb hs => hg.block b hs (fun e => hb.2 e.symm)⟩

theorem OwnTs.append {w w' : World} {base : Nat} {ok : Nat → Prop} {x x' : Value} {L L2 : List TmAt} (h : OwnTs w base ok x L) (h2 : TsEach w (Free x ok) L2)
    (ho : w'.ownsRow base 48 3 x' (L.length + L2.length) (flat L ++ flat L2)) (hg : w.grownBy w' x.ownBlock) (hf : Fresh w x x') : OwnTs w' base ok x' (L ++ L2) := by
  refine ⟨by rw [flat_append, List.length_append]; exact ho, ?_⟩
  have h3 : TsEach w (fun b => Free x ok b ∧ b < w.heap.size) (L ++ L2) := (h.each.append h2).mono fun b hb h => ⟨h, hb⟩
  have h4 : Keeps (fun b => Free x ok b ∧ b < w.heap.size) w w' := ⟨hg.size, fun b hb hs => hg.block b hs (fun e => hb.1.2 e.symm)⟩
  refine (h3.keep h4).mono fun b _ hb => ⟨hb.1.1, ?_⟩
  rcases hf with hf | hf
  · rw [hf]; exact hb.1.2
  · intro e; have := hf b e; omega

theorem OwnTs.done {w : World} {base : Nat} {ok : Nat → Prop} {x : Value} {L : List TmAt} (h : OwnTs w base ok x L) (hok : ∀ b, base ≤ b → ok b) : ∃ a cap, x = .slice a (L.map (·.1)).length cap ∧ Ts w ok (L.map (·.1)) a cap :=
  Ts.of_row h.own hok (h.each.mono fun _ _ hb => hb.1)

theorem OwnTs.block {w : World} {base : Nat} {ok : Nat → Prop} {x : Value} {L : List TmAt} (h : OwnTs w base ok x L) {g : Nat} (hg : x.ownBlock = some g) : base ≤ g ∧ g < w.heap.size := h.own.lt g hg

theorem OwnTs.newok {w : World} {base : Nat} {ok : Nat → Prop} {x : Value} {L : List TmAt} (h : OwnTs w base ok x L) (hok : ∀ b, w.heap.size ≤ b → ok b) : ∀ b, w.heap.size ≤ b → Free x ok b :=
  fun b hb => ⟨hok b hb, fun e => by have := (h.block e).2; omega⟩

/-- What lay below the row's base is not the row. -/
theorem OwnTs.old {w : World} {base : Nat} {ok : Nat → Prop} {x : Value} {L : List TmAt} (h : OwnTs w base ok x L) {m : Nat} (hm : m ≤ base) : ∀ b, b < m → ok b → Free x ok b :=
  fun b hb hk => ⟨hk, fun e => by have := (h.block e).1; omega⟩

end Go.Proofs.YtikmgiapjigghabDoor
