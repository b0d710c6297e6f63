/- A term that a call makes of another one, argument by argument, while the calls touch other blocks besides. -/
import Derived.Test.YtikmgiapjigghaaBld
namespace Go.Proofs.Ytikmgiapjigghaa
open Go.RowKit

/-- A term under construction, while calls touch M besides: its box, and the row of its arguments so far. -/
structure BldM (wb : World) (M : Nat → Prop) (ok : Nat → Prop) (bo : Nat) (n : ByteArray) (L : List TmAt) (x : Value) (wr : World) : Prop where
  box : Box3 wr bo (.int .i64 0) (.string n) x
  own : OwnTs wr wb.heap.size (OkN ok wb) x L
  touch : Touch (fun b => b = bo ∨ M b) wb wr
  lt : bo < wb.heap.size

theorem BldM.start {wb : World} {M ok : Nat → Prop} {bo : Nat} {n : ByteArray} (h : Box3 wb bo (.int .i64 0) (.string n) (.slice none 0 0)) : BldM wb M ok bo n [] (.slice none 0 0) wb :=
  ⟨h, OwnTs.nil _ _ _, Touch.refl _ _, h.lt⟩

theorem BldM.form {wb wr : World} {M ok : Nat → Prop} {bo : Nat} {n : ByteArray} {L : List TmAt} {x : Value} (h : BldM wb M ok bo n L x wr) : ∃ a cap, x = .slice a L.length cap := by
  rcases h.own.own.2 with ⟨h1, h2⟩ | ⟨g, cap, cur, h1, _⟩
  · exact ⟨none, 0, by rw [h1, h2]⟩
  · exact ⟨_, _, h1⟩

/-- One argument more: behind the append, and behind the store of the new slice. -/
theorem BldM.next {wb wr wX w1 X2 w2 : World} {M ok : Nat → Prop} {bo : Nat} {n : ByteArray} {L : List TmAt} {x x' : Value} (h : BldM wb M ok bo n L x wr) (hok : ∀ b, ok b → b < wb.heap.size ∧ b ≠ bo ∧ ¬ M b) (hM : ∀ b, M b → b < wb.heap.size ∧ b ≠ bo) (hX : wr.heap.size ≤ wX.heap.size)
    (hb : Touch M wr w1) {t : Tm} {a : Option Addr} {c : Nat} (hf : t.fits) (ht : Ts w1 (OkN ok wX) t.args a c) (hX2 : Below w1.heap.size w1 X2)
    (ho : w2.ownsRow wb.heap.size 24 3 x' (L.length + 1) (flat L ++ flat [(t, a, c)])) (hg : X2.grownBy w2 x.ownBlock) (hfr : Fresh X2 x x') :
    Box3 w2 bo (.int .i64 0) (.string n) x ∧ BldM wb M ok bo n (L ++ [(t, a, c)]) x' (w2.setCell ⟨bo, 2, none⟩ x') := by
  have hbr : bo < wr.heap.size := h.box.lt
  have hxb : ∀ g, x.ownBlock = some g → wb.heap.size ≤ g ∧ g < wr.heap.size := fun g hg => h.own.block hg
  have hxo : x.ownBlock ≠ some bo := fun e => by have := (hxb _ e).1; have := h.lt; omega
  have hW : Touch M wr X2 := hb.trans (Touch.below hX2)
  have hblk : w2.heap[bo]? = wr.heap[bo]? := (hg.block bo (by have := hW.size; omega) (fun e => hxo e.symm)).trans (hW.block bo hbr fun hm => (hM bo hm).2 rfl)
  have hB2 : Box3 w2 bo (.int .i64 0) (.string n) x := h.box.keep hblk
  refine ⟨hB2, ?_⟩
  have hx'o : x'.ownBlock ≠ some bo := fun e => by
    rcases hfr with e2 | e2
    · exact hxo (e2 ▸ e)
    · have := e2 bo e; have := hW.size; omega
  have hS : Touch (fun b => b = bo) w2 (w2.setCell ⟨bo, 2, none⟩ x') := Touch.setCell _ rfl
  have hE : TsEach X2 (Free x (OkN ok wb)) [(t, a, c)] := by
    refine TsEach.one hf ((ht.keep (Keeps.below hX2 _)).mono fun b _ hk => ?_)
    rcases hk with hk | hk
    · exact ⟨.inl hk, fun e => by have := (hxb b e).1; have := (hok b hk).1; omega⟩
    · exact ⟨.inr (by have := h.touch.size; omega), fun e => by have := (hxb b e).2; omega⟩
  have hOW : OwnTs X2 wb.heap.size (OkN ok wb) x L := by
    refine ⟨ownsRow_block h.own.own fun g hg' => hW.block g (hxb g hg').2 fun hm => by have := (hM g hm).1; have := (hxb g hg').1; omega, ?_⟩
    exact h.own.each.keep (hW.keeps fun b hb hm => by
      rcases hb.1 with h3 | h3
      · exact (hok b h3).2.2 hm
      · have := (hM b hm).1; omega)
  have h2 : OwnTs w2 wb.heap.size (OkN ok wb) x' (L ++ [(t, a, c)]) := hOW.append hE (by simpa using ho) hg hfr
  refine ⟨?_, ⟨?_, ?_⟩, ?_, h.lt⟩
  · refine ⟨?_⟩
    rw [heap_setCell_at _ _ _ _ hB2.blk]; rfl
  · exact ownsRow_block h2.own (fun g hg' => Below.heap_setCell _ _ _ _ (fun e => by subst e; exact hx'o hg'))
  · -- what the arguments are made of does not lie in the box
    have key : TsEach w2 (fun b => Free x' (OkN ok wb) b ∧ b ≠ bo) (L ++ [(t, a, c)]) := h2.each.mono fun b _ hk => ⟨hk, fun e => by
      subst e
      rcases hk.1 with h3 | h3
      · exact (hok _ h3).2.1 rfl
      · have := h.lt; omega⟩
    exact (key.keep (w' := w2.setCell ⟨bo, 2, none⟩ x') (hS.keeps fun b hb => hb.2)).mono fun b _ hk => hk.1
  · have hT2 : Touch (fun b => M b ∨ x.ownBlock = some b) wr w2 := (hW.mono fun _ _ e => .inl e).trans (Touch.grown hg fun k e => .inr e)
    refine ⟨hS.os.trans (hT2.os.trans h.touch.os), hS.tape.trans (hT2.tape.trans h.touch.tape), hS.output.trans (hT2.output.trans h.touch.output), Nat.le_trans h.touch.size (Nat.le_trans hT2.size hS.size), fun b hb' hn => ?_⟩
    refine (hS.block b (Nat.lt_of_lt_of_le hb' (Nat.le_trans h.touch.size hT2.size)) (fun e => hn (.inl e))).trans ((hT2.block b (Nat.lt_of_lt_of_le hb' h.touch.size) ?_).trans (h.touch.block b hb' hn))
    rintro (e | e)
    · exact hn (.inr e)
    · have := (hxb b e).1; omega

/-- The term is whole: it is stored where the result lies, and handed back. -/
theorem BldM.done {w wb wr : World} {M ok : Nat → Prop} {bo br : Nat} {n : ByteArray} {L : List TmAt} {x : Value} (h : BldM wb M ok bo n L x wr) (hw : Touch M w wb) (hbo : w.heap.size ≤ bo) (hbr : w.heap.size ≤ br) (hlt : br < wb.heap.size) (hok : ∀ b, ok b → b < w.heap.size) :
    ∃ a cap, x = .slice a (L.map (·.1)).length cap ∧ Ts (((wr.setCell ⟨br, 0, none⟩ (.int .i64 0)).setCell ⟨br, 1, none⟩ (.string n)).setCell ⟨br, 2, none⟩ x) (OkN ok w) (L.map (·.1)) a cap ∧ Touch M w (((wr.setCell ⟨br, 0, none⟩ (.int .i64 0)).setCell ⟨br, 1, none⟩ (.string n)).setCell ⟨br, 2, none⟩ x) := by
  have hb : Touch M w wr := by
    refine ⟨h.touch.os.trans hw.os, h.touch.tape.trans hw.tape, h.touch.output.trans hw.output, Nat.le_trans hw.size h.touch.size, fun b hb hn => (h.touch.block b (Nat.lt_of_lt_of_le hb hw.size) ?_).trans (hw.block b hb hn)⟩
    rintro (e | e)
    · omega
    · exact hn e
  have h1 : TsEach (((wr.setCell ⟨br, 0, none⟩ (.int .i64 0)).setCell ⟨br, 1, none⟩ (.string n)).setCell ⟨br, 2, none⟩ x) (OkN ok w) L := by
    have key : TsEach wr (fun b => OkN ok w b ∧ b ≠ br) L := h.own.each.mono fun b _ hk => by
      rcases hk.1 with h3 | h3
      · exact ⟨.inl h3, fun e => by have := hok b h3; omega⟩
      · exact ⟨.inr (by have := hw.size; omega), fun e => by omega⟩
    exact (key.keep ((touch_put wr br _ _ _).keeps fun b hb => hb.2)).mono fun b _ hk => hk.1
  have ho : (((wr.setCell ⟨br, 0, none⟩ (.int .i64 0)).setCell ⟨br, 1, none⟩ (.string n)).setCell ⟨br, 2, none⟩ x).ownsRow w.heap.size 24 3 x L.length (flat L) := by
    have h2 : wr.ownsRow w.heap.size 24 3 x L.length (flat L) := by
      refine ⟨h.own.own.1, h.own.own.2.imp id ?_⟩
      rintro ⟨g, cap, cur, a1, a2, a3⟩
      exact ⟨g, cap, cur, a1, Nat.le_trans hw.size a2, a3⟩
    exact ownsRow_block h2 fun g hg => other_put (fun e => by have := (h.own.block hg).1; omega) _ _ _
  obtain ⟨a, cap, he, hts⟩ := Ts.of_row ho (fun b hb => .inr hb) h1
  refine ⟨a, cap, he, hts, ?_⟩
  have ht := touch_put wr br (.int .i64 0) (.string n) x
  exact ⟨ht.os.trans hb.os, ht.tape.trans hb.tape, ht.output.trans hb.output, Nat.le_trans hb.size ht.size, fun b hb' hn => (ht.block b (Nat.lt_of_lt_of_le hb' hb.size) (fun e => by omega)).trans (hb.block b hb' hn)⟩


theorem thrL_room {σ : Sub} : ∀ (m : Nat) (l : List Tm) (x : List Tm × Nat), thrL σ m l = some x → l.length + x.2 ≤ m := by
  intro m
  induction m using Nat.strongRecOn with
  | _ m ih =>
  intro l x h
  cases l with
  | nil => rw [thrL_nil] at h; cases h; simp
  | cons t r =>
    cases m with
    | zero => rw [thrL_zero] at h; cases h
    | succ m =>
      by_cases hv : (look σ t).var = 0
      · rw [thrL_fn hv] at h
        obtain ⟨y, hy, h2⟩ := Option.bind_eq_some_iff.1 h
        obtain ⟨z, hz, rfl⟩ := Option.map_eq_some_iff.1 h2
        have h3 := (thrL_le _ _ _ hy).1
        have := ih y.2 (by omega) r z hz
        simp only [List.length_cons]; omega
      · rw [thrL_var hv] at h
        obtain ⟨z, hz, rfl⟩ := Option.map_eq_some_iff.1 h
        have := ih m (by omega) r z hz
        simp only [List.length_cons]; omega

end Go.Proofs.Ytikmgiapjigghaa
