/- Walks: the program's texts of terms and lists of terms. -/
import Derived.Lib.Join
import Derived.Deep.RegionWith
import Derived.Lib.Builder
import Derived.Lib.AppendStr
import Derived.Test.YtikmgiapjigghabDoorTb06
import Derived.Test.YtikmgiapjigghabDoorTb07
namespace Go.Proofs.YtikmgiapjigghabDoor
open Go.RowKit

theorem join_txt (l : List Tm) : Lib.join (l.map Tm.txt) [44, 32] = txtL l := by
  cases l with
  | nil => rfl
  | cons t r =>
    rw [List.map_cons, Lib.join_cons]
    have : ∀ r : List Tm, Lib.joinTail [44, 32] (r.map Tm.txt) = Tm.txtr r := by
      intro r
      unfold Lib.joinTail
      induction r with
      | nil => rfl
      | cons a r ih => simp only [List.map_cons, List.flatten_cons, ih, Tm.txtr]; simp
    rw [this]; rfl

theorem Tryd.infoSt1 : (Tryd.prog.info? 9).map (fun i => (i.size, i.bytes)) = some (1, 16) := by kernel_rfl
theorem Tryd.infoSt2 : ((Tryd.prog.info? 9).bind (fun i => i.zero)).map (fun z => z.cells.size) = some 1 := by kernel_rfl
theorem infoSt : ∃ i z, Tryd.prog.info? 9 = some i ∧ i.zero = some z ∧ i.size = 1 ∧ i.bytes = 16 ∧ z.cells.size = 1 := by
  have h1 := Tryd.infoSt1; have h2 := Tryd.infoSt2
  obtain ⟨i, hi, h3⟩ := Option.map_eq_some_iff.1 h1
  obtain ⟨z, hz, h4⟩ := Option.map_eq_some_iff.1 h2
  rw [hi, Option.bind_some] at hz
  simp only [Prod.mk.injEq] at h3
  exact ⟨i, z, hi, hz, h3.1, h3.2, h4⟩

/-- What Itoa does, in worlds that are good for it, up to a number. -/
structure ItoaOk (Good : World → Prop) (N : Nat) : Prop where
  keep : ∀ u v, Good u → Below u.heap.size u v → Good v
  call : ∀ u (n : Nat), Good u → n ≤ N → Calls Tryd.prog 42 #[.int .i64 n] u fun e w' => e = .returned (.string (strB (digs n))) ∧ Below u.heap.size u w'

/-- All variables of a term are at most so many. -/
def VarsTo (N : Nat) (t : Tm) : Prop := ∀ p, p ∈ t.parts → p.var ≤ (N : Int)

theorem VarsTo.arg {N : Nat} {v : Int} {n : ByteArray} {l : List Tm} (h : VarsTo N (.mk v n l)) {x : Tm} (hx : x ∈ l) : VarsTo N x := fun p hp => h p (by
  rw [Tm.parts]
  refine List.mem_cons_of_mem _ ?_
  have key : ∀ (r : List Tm), x ∈ r → p ∈ Tm.partss r := by
    intro r
    induction r with
    | nil => intro h; cases h
    | cons a r ih =>
      intro h
      rw [Tm.partss, List.mem_append]
      rcases List.mem_cons.1 h with h | h
      · subst h; exact .inl hp
      · exact .inr (ih h)
  exact key l hx)

def TermAtG (Good : World → Prop) (N : Nat) (t : Tm) : Prop := ∀ (w : World) (ok : Nat → Prop) (a : Option Addr) (cap : Nat), Good w → t.fits → Ts w ok t.args a cap → TW t → VarsTo N t → t.size ≤ 1000 →
  Calls Tryd.prog 21 #[.agg #[.int .i64 t.var, .string t.name, .slice a t.args.length cap]] w fun e w' => e = .returned (.string (strB t.txt)) ∧ Below w.heap.size w w'

def JoinAtG (Good : World → Prop) (N : Nat) (l : List Tm) : Prop := ∀ (w : World) (ok : Nat → Prop) (a : Option Addr) (cap : Nat), Good w → Ts w ok l a cap → (∀ x, x ∈ l → TW x ∧ VarsTo N x) → Tm.sizes l ≤ 1000 →
  Calls Tryd.prog 22 #[.slice a l.length cap] w fun e w' => e = .returned (.string (strB (txtL l))) ∧ Below w.heap.size w w'

def strV (t : Tm) : Value := .string (strB t.txt)

set_option maxRecDepth 100000 in
set_option maxHeartbeats 1000000 in
theorem JoinStep {Good : World → Prop} {N : Nat} (hI : ItoaOk Good N) (l : List Tm) (ih : ∀ t, t ∈ l → TermAtG Good N t) : JoinAtG Good N l := by
  intro w ok a cap hg hts htw hsz
  have IH := Lib.hid ih; have HG := Lib.hid hg; have HT := Lib.hid hts; have HW := Lib.hid htw; have HS := Lib.hid hsz
  have HKP := Lib.hid hI.keep
  have hcl : l.length ≤ 9223372036854775807 := by have := hts.cap; unfold maxLen at this; omega
  have HLL : Hid (l.length ≤ 1000) := Lib.hid (by
    have : ∀ r : List Tm, r.length ≤ Tm.sizes r := by
      intro r
      induction r with
      | nil => simp [Tm.sizes]
      | cons t r ih => have := t.size_pos; simp only [Tm.sizes, List.length_cons]; omega
    have := this l
    omega)
  clear ih hg hts htw hsz hI
  obtain ⟨i0, zc, hi0, hz0, hz1, hz2, hz3⟩ := infoSt
  go_enter Tryd.func22, Tryd.ntmps22
  go_wp2_with fail
  go_loopw [3, 8] (fun x3 x8 wr => ∃ (k : Nat), k ≤ l.length ∧ x8 = .int .i64 k ∧ Hid (wr.ownsRow w.heap.size 9 1 x3 k ((l.take k).map strV)) ∧ Hid (Below w.heap.size w wr)) (fun _ x8 _ => l.length - (intOf x8).toNat)
  case atStart => exact ⟨0, Nat.zero_le _, rfl, Lib.hid (World.ownsRow_nil _ _ _ _), Lib.hid (Below.refl _ _)⟩
  case round =>
    obtain ⟨k, hk, rfl, HOW, HB⟩ := hrel
    obtain ⟨xa, xc, rfl, hrb⟩ := row_form HOW.out
    by_cases hlt : k < l.length
    · obtain ⟨b, off, a', c', rfl, hokb, hbs, hc, ht'⟩ := HT.out.at k hlt
      have m0 := (HB.out.cell (p := ⟨b, off + k * 3, none⟩) hbs).trans hc.var
      have m1 := (HB.out.cell (p := ⟨b, off + k * 3 + 1, none⟩) hbs).trans hc.name
      have m2 := (HB.out.cell (p := ⟨b, off + k * 3 + 2, none⟩) hbs).trans hc.args
      have hA : Below wr.heap.size wr (wr.alloc (.cells #[.int .i64 l[k].var, .string l[k].name, .slice a' l[k].args.length c'] 48)) := (Below.refl _ _).alloc (Nat.le_refl _) _
      have HBA := Lib.hid (HB.out.trans (hA.mono HB.out.size))
      have HCL := Lib.hid (IH.out l[k] (List.getElem_mem hlt) (wr.alloc (.cells #[.int .i64 l[k].var, .string l[k].name, .slice a' l[k].args.length c'] 48)) ok a' c' (HKP.out _ _ HG.out HBA.out) hc.fits (ht'.keep (Keeps.below HBA.out _)) (HW.out _ (List.getElem_mem hlt)).1 (HW.out _ (List.getElem_mem hlt)).2 (by have := Tm.size_le_sizes l k hlt; have := HS.out; omega))
      have HRA := Lib.hid (ownsRow_below HOW.out hA)
      have hkb : k ≤ 1000 := by have := HLL.out; omega
      clear hc ht' hbs hokb hA
      go_wp2_with (first
        | (go_at_call 21; refine HCL.out.mono ?_; rintro e w1 ⟨rfl, hb1⟩; have HB2 : Hid (Below w.heap.size w w1) := Lib.hid (HBA.out.trans (hb1.mono HBA.out.size)); have HR2 := Lib.hid ((ownsRow_below HRA.out hb1).alloc (.cells #[.string (strB l[k].txt)] 9)); clear hb1)
        | (at_builtin; (refine wpList_append_fresh _ rfl _ _ 76 rfl w.heap.size 9 i0 zc 1 16 Tryd.underlying76 hi0 hz0 hz1 hz2 hz3 (by decide) _ _ _ rfl HR2.out ⟨w1.heap.size, 0, none⟩ 1 1 [.string (strB l[k].txt)] rfl rfl ?c1 ?c2 ?c3 ?c4 ?c5 ?_)))
      any_goals (first | exact one_cell _ _ _ | (intro u hu; simp only [List.mem_singleton] at hu; subst hu; rfl) | rfl | (unfold maxLen; omega) | omega | (have := HB2.out.size; simp; omega))
      intro v3 w3 hown3 hg3 hf3
      have hB3 : Below w.heap.size w w3 := (HB2.out.alloc HB2.out.size (.cells #[.string (strB l[k].txt)] 9)).grown hg3 (HB2.out.alloc HB2.out.size (.cells #[.string (strB l[k].txt)] 9)).size (fun j e => (HOW.out.lt j e).1)
      have HB3 := Lib.hid hB3
      have HR3 : Hid (w3.ownsRow w.heap.size 9 1 v3 (k + 1) ((l.take (k + 1)).map strV)) := Lib.hid (by
        rw [List.take_succ_eq_append_getElem hlt, List.map_append, List.map_take]
        exact hown3)
      clear hown3 hg3 hf3 hB3
      go_wp2_with fail
      go_roundw
      case measure => simp [intOf]; omega
      case rel => exact ⟨k + 1, by omega, by go_num, HR3, HB3⟩
    · have hkn : k = l.length := by omega
      subst hkn
      rw [List.take_length] at HOW
      by_cases h0 : l = []
      · subst h0
        have HJ : Hid (Calls Tryd.prog 43 #[.slice xa ([] : List Tm).length xc, .string ⟨#[44, 32]⟩] wr fun e w' => e = .returned (.string (strB (txtL []))) ∧ w' = wr) := Lib.hid (Tryd.strings_Join_none xa xc ⟨#[44, 32]⟩ wr)
        go_wp2_with (go_at_call 43; refine HJ.out.mono ?_; rintro e w1 ⟨rfl, rfl⟩)
        go_ret
        exact ⟨rfl, HB.out⟩
      · have hl0 : 0 < l.length := Nat.pos_of_ne_zero fun e => h0 (List.eq_nil_of_length_eq_zero e)
        obtain ⟨g, cap2, hform⟩ := own_shape HOW.out hl0
        simp only [Value.slice.injEq] at hform
        obtain ⟨rfl, -, rfl⟩ := hform
        have HJ : Hid (Calls Tryd.prog 43 #[.slice (some ⟨g, 0, none⟩) l.length xc, .string ⟨#[44, 32]⟩] wr fun e w' => e = .returned (.string (strB (txtL l))) ∧ Below wr.heap.size wr w') := Lib.hid (by
          have hcap : l.length ≤ xc := by
            rcases HOW.out.2 with ⟨e, _⟩ | ⟨g', cap', cur, e, _, _, h1, _, _⟩
            · cases e
            · simp only [Value.slice.injEq] at e
              obtain ⟨-, -, rfl⟩ := e
              exact h1
          have hj := Tryd.strings_Join g 0 xc (l.map fun t => strB t.txt) ⟨#[44, 32]⟩ wr (fun j x hx => by
            have hj : j < l.length := by simpa using (List.getElem?_eq_some_iff.1 hx).1
            have hc := HOW.out.cellAt j (by simp; exact hj)
            rw [Nat.zero_add]
            rw [List.getElem?_map, List.getElem?_eq_getElem hj] at hx hc
            simp only [Option.map_some, Option.some.injEq] at hx
            rw [← hx]; exact hc) (HOW.out.lt g rfl).2 (by simp; have := HLL.out; omega) (by simpa using hcap) (by
            rw [List.map_map, show (fun x : ByteArray => x.data.toList) ∘ (fun t : Tm => strB t.txt) = Tm.txt from by funext t; exact strB_toList _]
            rw [show (⟨#[44, 32]⟩ : ByteArray).data.toList = [44, 32] from rfl, join_txt]
            have := txtL_len (l := l) (fun x hx => (HW.out x hx).1)
            have := HS.out
            omega)
          rw [List.map_map, show (fun x : ByteArray => x.data.toList) ∘ (fun t : Tm => strB t.txt) = Tm.txt from by funext t; exact strB_toList _, show (⟨#[44, 32]⟩ : ByteArray).data.toList = [44, 32] from rfl, join_txt, List.length_map] at hj
          exact hj)
        go_wp2_with (go_at_call 43; refine HJ.out.mono ?_; rintro e w1 ⟨rfl, hb1⟩; have HB2 := Lib.hid hb1; clear hb1)
        go_ret
        exact ⟨rfl, HB.out.trans (HB2.out.mono HB.out.size)⟩

set_option maxRecDepth 100000 in
set_option maxHeartbeats 1000000 in
theorem TermStep {Good : World → Prop} {N : Nat} (hI : ItoaOk Good N) (t : Tm) (ih : JoinAtG Good N t.args) : TermAtG Good N t := by
  obtain ⟨v, n, l⟩ := t
  intro w ok a cap hg hfit hts htw hvt hsz
  simp only [Tm.var, Tm.name, Tm.args] at hts ih ⊢
  have B1 : Below w.heap.size w (w.alloc (.cells #[.int .i64 v, .string n, .slice a l.length cap] 48)) := (Below.refl _ _).alloc (Nat.le_refl _) _
  have HB1 := Lib.hid B1
  cases htw with
  | var _ h1 h2 =>
    have hv : (v != 0) = true := by rw [bne_iff_ne]; omega
    obtain ⟨m, rfl⟩ : ∃ m : Nat, v = (m : Int) := ⟨v.toNat, by omega⟩
    have HN : Hid (m ≤ N) := Lib.hid (by have := hvt (.mk (m : Int) ⟨#[]⟩ []) (by simp [Tm.parts]); simp only [Tm.var] at this; omega)
    have HD := Lib.hid (hI.call _ m (hI.keep _ _ hg B1) HN.out)
    have ha : ∀ u, (Op.stringOp .add { data := #[86] } (strB (digs m))).run Tryd.prog u = .ok (.string (strB (Tm.mk (m : Int) ⟨#[]⟩ []).txt)) u := fun u => by
      rw [Tm.txt_var (by omega), Int.toNat_natCast]
      exact str_add [86] (digs m) (by simp) (by have := digs_len m (by omega); omega) u
    clear hts ih B1 hI hg hvt
    go_enter Tryd.func21, Tryd.ntmps21
    go_wp2_with (go_at_call 42; refine HD.out.mono ?_; rintro e w1 ⟨rfl, hb1⟩; have HB2 := Lib.hid hb1; clear hb1)
    go_ret
    exact ⟨rfl, HB1.out.trans (HB2.out.mono HB1.out.size)⟩
  | fn _ _ hn hl =>
    obtain ⟨nm, rfl⟩ : ∃ nm, n = strB nm := ⟨n.data.toList, (strB_name n).symm⟩
    rw [strB_size] at hn
    have hcl : l.length ≤ 9223372036854775807 := by have := hts.cap; unfold maxLen at this; omega
    have hsl : Tm.sizes l ≤ 1000 := by simp only [Tm.size] at hsz; omega
    by_cases h0 : l = []
    · subst h0
      have HE : Hid ((Tm.mk 0 (strB nm) []).txt = nm) := Lib.hid (by rw [Tm.txt_zero, if_pos rfl, strB_toList, List.append_nil])
      clear hts ih B1 hI hg hvt
      go_enter Tryd.func21, Tryd.ntmps21
      go_wp2_with fail
      go_ret
      exact ⟨by rw [HE.out]; rfl, HB1.out⟩
    · have hl0 : ((l.length : Int) == 0) = false := by rw [beq_eq_false_iff_ne]; intro e; exact h0 (List.eq_nil_of_length_eq_zero (by omega))
      have HJ : Hid (∀ u, Below (w.alloc (.cells #[.int .i64 0, .string (strB nm), .slice a l.length cap] 48)).heap.size (w.alloc (.cells #[.int .i64 0, .string (strB nm), .slice a l.length cap] 48)) u → Calls Tryd.prog 22 #[.slice a l.length cap] u fun e w' => e = .returned (.string (strB (txtL l))) ∧ Below (w.alloc (.cells #[.int .i64 0, .string (strB nm), .slice a l.length cap] 48)).heap.size (w.alloc (.cells #[.int .i64 0, .string (strB nm), .slice a l.length cap] 48)) w') := Lib.hid (fun u hu => (ih u ok a cap (hI.keep _ _ hg (B1.trans (hu.mono B1.size))) (hts.keep (Keeps.below (B1.trans (hu.mono B1.size)) _)) (fun x hx => ⟨hl x hx, hvt.arg hx⟩) hsl).mono fun e w' h => ⟨h.1, hu.trans (h.2.mono hu.size)⟩)
      have htl := txtL_len hl
      have ha1 : ∀ u, (Op.stringOp .add (strB nm) { data := #[40] }).run Tryd.prog u = .ok (.string (strB (nm ++ [40]))) u := fun u => str_add nm [40] (by omega) (by simp) u
      have ha2 : ∀ u, (Op.stringOp .add (strB (nm ++ [40])) (strB (txtL l))).run Tryd.prog u = .ok (.string (strB (nm ++ [40] ++ txtL l))) u := fun u => str_add _ _ (by simp; omega) (by omega) u
      have ha3 : ∀ u, (Op.stringOp .add (strB (nm ++ [40] ++ txtL l)) { data := #[41] }).run Tryd.prog u = .ok (.string (strB (Tm.mk 0 (strB nm) l).txt)) u := fun u => by
        rw [show ({ data := #[41] } : ByteArray) = strB [41] from rfl, str_add _ _ (by simp; omega) (by simp), Tm.txt_zero, if_neg h0, strB_toList]; simp
      generalize nm ++ [40] ++ txtL l = s2 at ha2 ha3
      generalize nm ++ [40] = s1 at ha1 ha2
      have HX : Hid (Box3 (w.alloc (.cells #[.int .i64 0, .string (strB nm), .slice a l.length cap] 48)) w.heap.size (.int .i64 0) (.string (strB nm)) (.slice a l.length cap)) := Lib.hid (Box3.made w _ _ _)
      clear hts ih B1 hI hg hvt htl h0 hl
      go_enter Tryd.func21, Tryd.ntmps21
      go_wp2_with fail
      generalize (w.alloc (.cells #[.int .i64 0, .string (strB nm), .slice a l.length cap] 48)) = wb at *
      obtain ⟨y0, y1, y2, yf⟩ := HX.out.all
      go_region_with (go_at_call 22; refine (HJ.out _ (by with_reducible exact (Below.refl _ _).drew)).mono ?_; rintro e w1 ⟨rfl, hb1⟩; have HB2 := Lib.hid hb1; obtain ⟨z0, z1, z2, zf⟩ := (HX.out.below hb1).all; clear hb1)
      all_goals
        go_wp2_with fail
        go_ret
        exact ⟨rfl, HB1.out.trans (HB2.out.mono HB1.out.size)⟩

theorem termText {Good : World → Prop} {N : Nat} (hI : ItoaOk Good N) (t : Tm) : TermAtG Good N t := by
  induction t using Tm.ind with
  | h v n l ih => exact TermStep hI _ (JoinStep hI l ih)

theorem joinText {Good : World → Prop} {N : Nat} (hI : ItoaOk Good N) (l : List Tm) : JoinAtG Good N l := JoinStep hI l fun t _ => termText hI t

end Go.Proofs.YtikmgiapjigghabDoor

/- Walks: a strings.Builder is written; the program's texts of programs and goals. -/
namespace Go.Proofs.YtikmgiapjigghabDoor
open Go.RowKit

theorem Tryd.sizeBd : (Tryd.prog.info? 46).map (·.size) = some 2 := by kernel_rfl
theorem Tryd.liesBd : liesAt Tryd.prog Tryd.prog.depth 46 (2 / Tryd.prog.cellsOf 46) 0 46 1 = true := by kernel_rfl
theorem Tryd.infoBy : (Tryd.prog.info? 5).map (fun i => (i.zero, i.size, i.bytes)) = some (some (.int .u8 0), 1, 1) := by kernel_rfl

set_option maxHeartbeats 1000000 in
set_option maxRecDepth 100000 in
theorem copyCheck_used (b : Nat) (w : World) (h0 : w.cell? ⟨b, 0, none⟩ = some (.pointer (some ⟨b, 0, none⟩))) :
    Calls Tryd.prog 41 #[.pointer (some ⟨b, 0, none⟩)] w fun e w' => e = .returned (.tuple #[]) ∧ w' = w := by
  obtain ⟨j, hj, _⟩ := Option.map_eq_some_iff.1 Tryd.sizeBd
  go_enter Tryd.func41, Tryd.ntmps41
  go_wp2
  rw [Lib.run_neq_ptr_same w _ Tryd.underlying43 hj]
  go_wp2
  go_end0
  exact ⟨rfl, rfl⟩

set_option maxHeartbeats 1000000 in
set_option maxRecDepth 100000 in
theorem copyCheck_fresh (b : Nat) (w : World) (h0 : w.cell? ⟨b, 0, none⟩ = some (.pointer none)) (hsh : w.shape? b = some (46, 2)) (hfz : w.frozen? ⟨b, 0, none⟩ = false) :
    Calls Tryd.prog 41 #[.pointer (some ⟨b, 0, none⟩)] w fun e w' => e = .returned (.tuple #[]) ∧ w' = w.setCell ⟨b, 0, none⟩ (.pointer (some ⟨b, 0, none⟩)) := by
  obtain ⟨j, hj, hjs⟩ := Option.map_eq_some_iff.1 Tryd.sizeBd
  go_enter Tryd.func41, Tryd.ntmps41
  go_wp2
  rw [Lib.run_to_unsafe w ⟨b, 0, none⟩ Tryd.underlying43 Tryd.underlying91 hj (by rw [hjs]; decide) hsh (Nat.zero_lt_succ 1)]
  simp only [Result.andThen]
  rw [Oper.upon_value]
  go_wp2
  rw [run_callFunc_extern Tryd.func57 (by kernel_rfl) (by kernel_rfl) (by kernel_rfl) (e := Extern.AbiNoEscape.same) (by kernel_rfl)]
  rw [Lib.run_noEscape]
  simp only [Result.andThen]
  rw [Oper.upon_value]
  go_wp2
  rw [Lib.run_from_unsafe w ⟨b, 0, none⟩ Tryd.underlying91 Tryd.underlying43 hj hsh Tryd.liesBd]
  simp only [Result.andThen]
  rw [Oper.upon_value]
  go_wp2
  go_end0
  exact ⟨rfl, rfl⟩

/-- A builder at a block, with what was written. -/
structure BdV (B b : Nat) (v : Value) (l : Bs) (w : World) : Prop where
  le : B ≤ b
  blk : ∃ p, (p = .pointer none ∨ p = .pointer (some ⟨b, 0, none⟩)) ∧ w.heap[b]? = some (.cells #[p, v] 46 (0, 0))
  own : w.ownsRow B 5 1 v l.length (Lib.byteCells l)
  ne : v.ownBlock ≠ some b

theorem strCells_strB (l : Bs) : Lib.strCells (strB l) = Lib.byteCells l := by simp [Lib.strCells, Lib.byteCells, strB]
theorem byteCells_app (a b : Bs) : Lib.byteCells (a ++ b) = Lib.byteCells a ++ Lib.byteCells b := by simp [Lib.byteCells]
theorem byteCells_len (a : Bs) : (Lib.byteCells a).length = a.length := by simp [Lib.byteCells]

theorem BdV.is {B b : Nat} {v : Value} {l : Bs} {w : World} (h : BdV B b v l w) : Lib.IsBuilder 46 5 B b (Lib.byteCells l) w := by
  obtain ⟨p, hp, hb⟩ := h.blk
  rcases hp with rfl | rfl
  · exact .inl ⟨h.le, v, hb, by rw [byteCells_len]; exact h.own, h.ne⟩
  · exact .inr ⟨h.le, v, hb, by rw [byteCells_len]; exact h.own, h.ne⟩

theorem BdV.lt {B b : Nat} {v : Value} {l : Bs} {w : World} (h : BdV B b v l w) : b < w.heap.size := by
  obtain ⟨p, hp, hb⟩ := h.blk
  exact (Array.getElem?_eq_some_iff.1 hb).1

theorem BdV.below {B b : Nat} {v : Value} {l : Bs} {w w' : World} (h : BdV B b v l w) (hb : Below w.heap.size w w') : BdV B b v l w' := by
  obtain ⟨p, hp, hk⟩ := h.blk
  exact ⟨h.le, ⟨p, hp, (hb.block b h.lt).trans hk⟩, ownsRow_below h.own hb, h.ne⟩

theorem BdV.made (w : World) : BdV w.heap.size w.heap.size (.slice none 0 0) [] (w.alloc (.cells #[.pointer none, .slice none 0 0] 46)) :=
  ⟨Nat.le_refl _, ⟨_, .inl rfl, heap_alloc_new w _⟩, World.ownsRow_nil _ _ _ _, by simp [Value.ownBlock]⟩

/-- A row of bytes is no block of another type. -/
theorem BdV.off {B b : Nat} {v : Value} {l : Bs} {w : World} (h : BdV B b v l w) {i : Nat} {cs : Array Value} {T : TypeId} {fr : Nat × Nat} (hi : w.heap[i]? = some (.cells cs T fr)) (hT : T ≠ 5) : v.ownBlock ≠ some i := fun e => by
  rcases h.own.2 with ⟨rfl, _⟩ | ⟨g, cap, cur, rfl, _, hg, _⟩
  · simp [Value.ownBlock] at e
  · simp only [Value.ownBlock, Option.some.injEq] at e
    subst e
    rw [hi] at hg
    simp only [Option.some.injEq, Obj.cells.injEq] at hg
    exact hT hg.2.1

/-- What writing to a builder may turn. -/
def BdM (b : Nat) (v : Value) (i : Nat) : Prop := i = b ∨ v.ownBlock = some i

theorem copyCheckW {B b : Nat} {v : Value} {l : Bs} {w : World} (h : BdV B b v l w) :
    Calls Tryd.prog 41 #[.pointer (some ⟨b, 0, none⟩)] w fun e w' => e = .returned (.tuple #[]) ∧ w'.heap[b]? = some (.cells #[.pointer (some ⟨b, 0, none⟩), v] 46 (0, 0)) ∧ Touch (fun i => i = b) w w' := by
  obtain ⟨p, hp, hb⟩ := h.blk
  rcases hp with rfl | rfl
  · refine (copyCheck_fresh b w (by simp [World.cell?, hb]) (by simp [World.shape?, hb]) (by simp [World.frozen?, hb])).mono ?_
    rintro e w' ⟨rfl, rfl⟩
    exact ⟨rfl, by rw [heap_setCell_at _ _ _ _ hb]; rfl, Touch.setCell _ rfl⟩
  · refine (copyCheck_used b w (by simp [World.cell?, hb])).mono ?_
    rintro e w' ⟨rfl, rfl⟩
    exact ⟨rfl, hb, Touch.refl _ _⟩

set_option maxHeartbeats 2000000 in
set_option maxRecDepth 100000 in
theorem WriteStringW {B b : Nat} {v : Value} {l : Bs} (s : Bs) {w : World} (h : BdV B b v l w) (hlen : l.length + s.length ≤ 140737488355328) (hBw : B ≤ w.heap.size) :
    Calls Tryd.prog 20 #[.pointer (some ⟨b, 0, none⟩), .string (strB s)] w fun e w' => e = .returned (.tuple #[.int .i64 s.length, .nilIface]) ∧ Touch (BdM b v) w w' ∧ ∃ v', BdV B b v' (l ++ s) w' := by
  obtain ⟨i0, hi, hz0, hz1, hz2⟩ := info_parts Tryd.infoBy
  have HCC := Lib.hid (copyCheckW h)
  have H := Lib.hid h
  have hsz : (strB s).size = s.length := strB_size s
  clear h
  go_enter Tryd.func20, Tryd.ntmps20
  go_wp2_with (go_at_call 41; refine HCC.out.mono ?_)
  rintro e w1 ⟨rfl, hbk, ht1⟩
  have hown := ownsRow_block H.out.own fun g hg => ht1.block g (H.out.own.lt g hg).2 (fun e => H.out.ne (e ▸ hg))
  have hs1 := ht1.size
  have HT1 := Lib.hid ht1
  have c0 : w1.cell? ⟨b, 0, none⟩ = some (.pointer (some ⟨b, 0, none⟩)) := by rw [Lib.cell_of_heap hbk]; rfl
  have c1 : w1.cell? ⟨b, 1, none⟩ = some v := by rw [Lib.cell_of_heap hbk]; rfl
  clear ht1
  go_wp2_with (at_builtin; refine Lib.wpList_append_own_string _ rfl _ _ 44 9 rfl B 5 i0 Tryd.underlying44 Tryd.underlying9 hi hz0 hz1 hz2 _ _ _ rfl hown (strB s) rfl ?c3 ?c4 ?c5 ?_)
  case c3 => unfold maxLen; omega
  case c4 => omega
  case c5 => omega
  intro v' w2 hown' hgrow _
  have hlt : b < w1.heap.size := (Array.getElem?_eq_some_iff.1 hbk).1
  have hb2 : w2.heap[b]? = some (.cells #[.pointer (some ⟨b, 0, none⟩), v] 46 (0, 0)) := by
    rw [hgrow.block b hlt (fun e => H.out.ne e.symm)]
    exact hbk
  have d0 : w2.cell? ⟨b, 0, none⟩ = some (.pointer (some ⟨b, 0, none⟩)) := by rw [Lib.cell_of_heap hb2]; rfl
  have d1 : w2.cell? ⟨b, 1, none⟩ = some v := by rw [Lib.cell_of_heap hb2]; rfl
  have f1 : w2.frozen? ⟨b, 1, none⟩ = false := Lib.frozen_of_heap hb2 1
  obtain ⟨ao, n', cap, rfl⟩ : ∃ ao n' cap, v' = .slice ao n' cap := by
    rcases hown'.2 with ⟨hv, _⟩ | ⟨g, cap, cur, hv, _⟩
    · exact ⟨_, _, _, hv⟩
    · exact ⟨_, _, _, hv⟩
  have HTT : Hid (Touch (BdM b v) w (w2.setCell ⟨b, 1, none⟩ (.slice ao n' cap))) := Lib.hid (((HT1.out.mono fun i _ e => .inl e : Touch (BdM b v) w w1).trans (Touch.grown hgrow fun k e => .inr e)).trans (Touch.setCell _ (.inl rfl)))
  have hne' : (Value.slice ao n' cap).ownBlock ≠ some b := fun e => by
    rcases hown'.2 with ⟨h1, _⟩ | ⟨g, cap2, cur, h1, _, hg, _⟩
    · rw [h1] at e; simp [Value.ownBlock] at e
    · rw [h1] at e
      simp only [Value.ownBlock, Option.some.injEq] at e
      subst e
      rw [hb2] at hg
      simp only [Option.some.injEq, Obj.cells.injEq] at hg
      exact absurd hg.2.1 (by decide)
  have HPT : Hid (BdV B b (.slice ao n' cap) (l ++ s) (w2.setCell ⟨b, 1, none⟩ (.slice ao n' cap))) := Lib.hid ⟨H.out.le, ⟨_, .inr rfl, by rw [heap_setCell_at _ _ _ _ hb2]; rfl⟩, by
    have h1 : w2.ownsRow B 5 1 (.slice ao n' cap) (l ++ s).length (Lib.byteCells (l ++ s)) := by
      rw [byteCells_app, List.length_append, ← strCells_strB s, ← hsz]; exact hown'
    exact ownsRow_block h1 fun g hg => Below.heap_setCell _ _ _ _ (fun e => hne' (by rw [hg]; exact congrArg some e)), hne'⟩
  clear hown' hgrow hb2 hbk hown hne'
  go_wp2
  go_ret2
  exact ⟨rfl, HTT.out, _, HPT.out⟩

end Go.Proofs.YtikmgiapjigghabDoor

/- Walks: Goals of the program. -/
namespace Go.Proofs.YtikmgiapjigghabDoor
open Go.RowKit

theorem vt_parts : ∀ t : Tm, t.partsE = 0 → VarsTo 12 t := by
  refine Tm.ind fun v n l ih h => ?_
  rw [Tm.partsE] at h
  by_cases h0 : partE v n l.length = 0
  · rw [if_pos h0] at h
    intro p hp
    rw [Tm.parts] at hp
    rcases List.mem_cons.1 hp with rfl | hp
    · simp only [Tm.var]
      by_cases hv : v = 0
      · omega
      · by_cases h1 : v < 1 ∨ 12 < v
        · rw [partE_range hv h1] at h0; cases h0
        · omega
    · have key : ∀ r : List Tm, (∀ x, x ∈ r → x ∈ l) → p ∈ Tm.partss r → p.var ≤ (12 : Nat) := by
        intro r
        induction r with
        | nil => intro _ hp; simp [Tm.partss] at hp
        | cons a r ihr =>
          intro hr hp
          rw [Tm.partss, List.mem_append] at hp
          rcases hp with hp | hp
          · exact ih a (hr a List.mem_cons_self) (partssE_zero l h a (hr a List.mem_cons_self)) p hp
          · exact ihr (fun x hx => hr x (List.mem_cons_of_mem _ hx)) hp
      exact key l (fun x hx => hx) hp
  · rw [if_neg h0] at h; exact absurd h h0

theorem vt_of {t : Tm} (h : t.checkE = 0) : VarsTo 12 t := vt_parts t (check_zero h).2
theorem VarsTo.mono {M N : Nat} (h : M ≤ N) {t : Tm} (ht : VarsTo M t) : VarsTo N t := fun p hp => by have := ht p hp; omega

/-- What Goals answers. -/
def goalsB (q : List Tm) : Bs := if queryE q = 0 then goalsTxt q else []

set_option maxRecDepth 100000 in
set_option maxHeartbeats 1000000 in
theorem GoalsW {Good : World → Prop} {N : Nat} (hI : ItoaOk Good N) (hN : 12 ≤ N) (q : List Tm) (w : World) (hg : Good w) (ok : Nat → Prop) (a : Option Addr) (cap : Nat) (hts : Ts w ok q a cap) :
    Calls Tryd.prog 7 #[.slice a q.length cap] w fun e w' => e = .returned (.tuple #[.string (strB (goalsB q)), .int .i64 (queryE q : Nat)]) ∧ Below w.heap.size w w' := by
  have HQ := Lib.hid (QueryW q w ok a cap hts)
  have hcl : q.length ≤ 9223372036854775807 := by have := hts.cap; unfold maxLen at this; omega
  by_cases hz : queryE q = 0
  · rw [hz] at HQ
    have hqw := qw_of hz
    have HJ : Hid (∀ u, Below w.heap.size w u → Calls Tryd.prog 22 #[.slice a q.length cap] u fun e w' => e = .returned (.string (strB (txtL q))) ∧ Below u.heap.size u w') := Lib.hid (fun u hu => joinText hI q u ok a cap (hI.keep _ _ hg hu) (hts.keep (Keeps.below hu _)) (fun x hx => ⟨hqw.tw x hx, (vt_of (query_mem hz hx)).mono hN⟩) hqw.sz)
    by_cases h0 : q = []
    · have hl0 : ((q.length : Int) == 0) = true := by rw [h0]; rfl
      have HE : Hid (goalsB q = trueB) := Lib.hid (by unfold goalsB goalsTxt; rw [if_pos hz, if_pos h0]; rfl)
      have HZ := Lib.hid hz
      clear hqw h0 hts hg hI hz
      go_enter Tryd.func7, Tryd.ntmps7
      go_wp2_with (go_at_call 24; refine HQ.out.mono ?_; rintro e w1 ⟨rfl, hb1⟩; have HB1 := Lib.hid hb1; clear hb1)
      go_ret2
      exact ⟨by rw [HE.out, HZ.out]; rfl, HB1.out⟩
    · have hl0 : ((q.length : Int) == 0) = false := by rw [beq_eq_false_iff_ne]; intro e; exact h0 (List.eq_nil_of_length_eq_zero (by omega))
      have HE : Hid (goalsB q = txtL q) := Lib.hid (by unfold goalsB goalsTxt; rw [if_pos hz, if_neg h0])
      have HZ := Lib.hid hz
      clear hqw h0 hts hg hI hz
      go_enter Tryd.func7, Tryd.ntmps7
      go_wp2_with (first
        | (go_at_call 24; refine HQ.out.mono ?_; rintro e w1 ⟨rfl, hb1⟩; have HB1 := Lib.hid hb1; clear hb1)
        | (go_at_call 22; refine (HJ.out _ HB1.out).mono ?_; rintro e w2 ⟨rfl, hb2⟩; have HB2 := Lib.hid hb2; clear hb2))
      go_ret2
      exact ⟨by rw [HE.out, HZ.out]; rfl, HB1.out.trans (HB2.out.mono HB1.out.size)⟩
  · have HE : Hid (goalsB q = []) := Lib.hid (by unfold goalsB; rw [if_neg hz])
    obtain ⟨n, hn⟩ : ∃ n, queryE q = n := ⟨_, rfl⟩
    rw [hn] at HQ hz ⊢
    have e1 : ((n : Int) != 0) = true := by rw [bne_iff_ne]; omega
    clear hts hg hI hn hz
    go_enter Tryd.func7, Tryd.ntmps7
    go_wp2_with (go_at_call 24; refine HQ.out.mono ?_; rintro e w1 ⟨rfl, hb1⟩; have HB1 := Lib.hid hb1; clear hb1)
    go_ret2
    exact ⟨by rw [HE.out]; rfl, HB1.out⟩

/-- What Print answers. -/
def printB (p : List Cl) : Bs := if programE p = 0 then progTxt p else []

/-- A clause's box. -/
structure BoxCl (w : World) (b : Nat) (c : Cl) (a1 : Option Addr) (c1 : Nat) (a2 : Option Addr) (c2 : Nat) : Prop where
  blk : w.heap[b]? = some (.cells #[.int .i64 c.head.var, .string c.head.name, .slice a1 c.head.args.length c1, .slice a2 c.body.length c2] 50 (0, 0))

theorem BoxCl.all {w : World} {b : Nat} {c : Cl} {a1 : Option Addr} {c1 : Nat} {a2 : Option Addr} {c2 : Nat} (h : BoxCl w b c a1 c1 a2 c2) :
    w.cell? ⟨b, 0, none⟩ = some (.int .i64 c.head.var) ∧ w.cell? ⟨b, 1, none⟩ = some (.string c.head.name) ∧ w.cell? ⟨b, 2, none⟩ = some (.slice a1 c.head.args.length c1) ∧ w.cell? ⟨b, 3, none⟩ = some (.slice a2 c.body.length c2) := by
  have h' := h.blk
  exact ⟨by simp [World.cell?, h'], by simp [World.cell?, h'], by simp [World.cell?, h'], by simp [World.cell?, h']⟩
theorem BoxCl.lt {w : World} {b : Nat} {c : Cl} {a1 : Option Addr} {c1 : Nat} {a2 : Option Addr} {c2 : Nat} (h : BoxCl w b c a1 c1 a2 c2) : b < w.heap.size := (Array.getElem?_eq_some_iff.1 h.blk).1
theorem BoxCl.keep {w w' : World} {b : Nat} {c : Cl} {a1 : Option Addr} {c1 : Nat} {a2 : Option Addr} {c2 : Nat} (h : BoxCl w b c a1 c1 a2 c2) (hb : w'.heap[b]? = w.heap[b]?) : BoxCl w' b c a1 c1 a2 c2 := ⟨hb.trans h.blk⟩

theorem bd_off {bd : Nat} {v : Value} {l : Bs} {w w' : World} (h : BdV bd bd v l w) (ht : Touch (BdM bd v) w w') : Below bd w w' := ht.toBelow (Nat.le_of_lt h.lt) (fun b hb => by
  rcases hb with rfl | hb
  · exact Nat.le_refl _
  · exact (h.own.lt b hb).1)
theorem box_off {bd : Nat} {v : Value} {l : Bs} {w w' : World} (h : BdV bd bd v l w) (ht : Touch (BdM bd v) w w') {b : Nat} {c : Cl} {a1 : Option Addr} {c1 : Nat} {a2 : Option Addr} {c2 : Nat} (hx : BoxCl w b c a1 c1 a2 c2) (hne : b ≠ bd) : BoxCl w' b c a1 c1 a2 c2 :=
  hx.keep (ht.block b hx.lt (fun hM => by
    rcases hM with e | e
    · exact hne e
    · exact h.off hx.blk (by decide) e))

end Go.Proofs.YtikmgiapjigghabDoor

/- Walks: Print of the program. -/
namespace Go.Proofs.YtikmgiapjigghabDoor
open Go.RowKit

set_option maxRecDepth 100000 in
set_option maxHeartbeats 1600000 in
theorem PrintW {Good : World → Prop} {N : Nat} (hI : ItoaOk Good N) (hN : 12 ≤ N) (p : List Cl) (w : World) (hg : Good w) (ok : Nat → Prop) (a : Option Addr) (cap : Nat) (hts : Pr w ok p a cap) :
    Calls Tryd.prog 6 #[.slice a p.length cap] w fun e w' => e = .returned (.tuple #[.string (strB (printB p)), .int .i64 (programE p : Nat)]) ∧ Below w.heap.size w w' := by
  have HQ := Lib.hid (ClausesW p w ok a cap hts)
  have hcl : p.length ≤ 9223372036854775807 := by have := hts.room; unfold maxLen at this; omega
  by_cases hz : programE p = 0
  · rw [hz] at HQ ⊢
    have hpw := pw_of hz
    have HE : Hid (printB p = progTxt p) := Lib.hid (by unfold printB; rw [if_pos hz])
    have HG := Lib.hid hg; have HI := Lib.hid hI; have HP := Lib.hid hts; have HPW := Lib.hid hpw; have HZ := Lib.hid hz
    clear hpw hts hg hI hz
    go_enter Tryd.func6, Tryd.ntmps6
    go_wp2_with (go_at_call 19; refine HQ.out.mono ?_; rintro e w1 ⟨rfl, hb1⟩; have HB1 := Lib.hid hb1; clear hb1)
    have HBD := Lib.hid (BdV.made w1)
    have HBW : Hid (Below w.heap.size w (w1.alloc (.cells #[.pointer none, .slice none 0 0] 46))) := Lib.hid (HB1.out.alloc HB1.out.size _)
    have HSZ : Hid (w.heap.size ≤ w1.heap.size ∧ (w1.alloc (.cells #[.pointer none, .slice none 0 0] 46)).heap.size = w1.heap.size + 1) := Lib.hid ⟨HB1.out.size, by simp⟩
    generalize (w1.alloc (.cells #[.pointer none, .slice none 0 0] 46)) = wb at *
    generalize w1.heap.size = bd at *
    go_loopw [15] (fun x15 wr => ∃ (k : Nat) (v : Value), k ≤ p.length ∧ x15 = .int .i64 k ∧ Hid (BdV bd bd v (progTxt (p.take k)) wr) ∧ Hid (Below bd wb wr)) (fun x15 _ => p.length - (intOf x15).toNat)
    case atStart => exact ⟨0, _, Nat.zero_le _, rfl, HBD, Lib.hid (Below.refl _ _)⟩
    case round =>
      obtain ⟨k, v, hk, rfl, HBV, HB⟩ := hrel
      have HBA : Hid (Below w.heap.size w wr) := Lib.hid (HBW.out.trans (HB.out.mono (by have := HSZ.out; omega)))
      have HSR : Hid (bd < wr.heap.size) := Lib.hid HBV.out.lt
      by_cases hlt : k < p.length
      · obtain ⟨b, off, a1, a2, c1, c2, rfl, hokb, hbs, hc, hd, ht1, ht2⟩ := HP.out.elem k hlt
        have m0 := (HBA.out.cell (p := ⟨b, off + k * 4, none⟩) hbs).trans hc.var
        have m1 := (HBA.out.cell (p := ⟨b, off + k * 4 + 1, none⟩) hbs).trans hc.name
        have m2 := (HBA.out.cell (p := ⟨b, off + k * 4 + 2, none⟩) hbs).trans hc.args
        have m3 := (HBA.out.cell (p := ⟨b, off + k * 4 + 3, none⟩) hbs).trans hd
        have hA : Below wr.heap.size wr (wr.alloc (.cells #[.int .i64 p[k].head.var, .string p[k].head.name, .slice a1 p[k].head.args.length c1, .slice a2 p[k].body.length c2] 50)) := (Below.refl _ _).alloc (Nat.le_refl _) _
        have HBX : Hid (BoxCl (wr.alloc (.cells #[.int .i64 p[k].head.var, .string p[k].head.name, .slice a1 p[k].head.args.length c1, .slice a2 p[k].body.length c2] 50)) wr.heap.size p[k] a1 c1 a2 c2) := Lib.hid ⟨heap_alloc_new _ _⟩
        have HBA2 := Lib.hid (HBA.out.trans (hA.mono HBA.out.size))
        have HB2 := Lib.hid (HB.out.trans (hA.mono (Nat.le_of_lt HSR.out)))
        have HBV2 := Lib.hid (HBV.out.below hA)
        have hwp := HPW.out.each _ (List.getElem_mem hlt)
        have hzz := (program_zero HZ.out).2 _ (List.getElem_mem hlt)
        have HCL := Lib.hid (termText HI.out p[k].head (wr.alloc (.cells #[.int .i64 p[k].head.var, .string p[k].head.name, .slice a1 p[k].head.args.length c1, .slice a2 p[k].body.length c2] 50)) ok a1 c1 (HI.out.keep _ _ HG.out HBA2.out) hc.fits (ht1.keep (Keeps.below HBA2.out _)) hwp.1 ((vt_of hzz.1).mono hN) (by have := hwp.2.1; omega))
        have HGL : Hid (∀ u, Below w.heap.size w u → Calls Tryd.prog 22 #[.slice a2 p[k].body.length c2] u fun e w' => e = .returned (.string (strB (txtL p[k].body))) ∧ Below u.heap.size u w') := Lib.hid (fun u hu => joinText HI.out p[k].body u ok a2 c2 (HI.out.keep _ _ HG.out hu) (ht2.keep (Keeps.below hu _)) (fun x hx => ⟨hwp.2.2.tw x hx, (vt_of (query_mem hzz.2 hx)).mono hN⟩) hwp.2.2.sz)
        have hl1 := tw_len _ hwp.1
        have hl2 := hwp.2.2.len p[k].body.length
        rw [List.take_length] at hl2
        have hl3 := progTxt_take_len HPW.out k
        have hl4 := HPW.out.len
        have hl5 := hwp.2.1
        have HLN : Hid ((progTxt (p.take k)).length ≤ 400000 ∧ p[k].head.txt.length ≤ 1000 ∧ (txtL p[k].body).length ≤ 12000) := Lib.hid ⟨by omega, by omega, hl2⟩
        clear hc ht1 ht2 hokb hbs hd hwp hzz hl1 hl2 hl3 hl4 hl5 hA
        go_wp2_with (go_at_call 21; refine HCL.out.mono ?_; rintro e w2 ⟨rfl, hb2⟩; have HBV3 := Lib.hid (HBV2.out.below hb2); have HB3 := Lib.hid (HB2.out.trans (hb2.mono (Nat.le_of_lt HBV2.out.lt))); have HBA3 := Lib.hid (HBA2.out.trans (hb2.mono HBA2.out.size)); have HX3 := Lib.hid (HBX.out.keep (hb2.block _ HBX.out.lt)); clear hb2)
        have HNE : Hid (wr.heap.size ≠ bd) := Lib.hid (by have := HSR.out; omega)
        have hs0 : (progTxt (p.take k)).length + p[k].head.txt.length ≤ 140737488355328 := by have := HLN.out; omega
        have hs1 := Nat.le_of_lt HBV3.out.lt
        have HS5 : Hid ((progTxt (p.take k) ++ p[k].head.txt).length + 2 ≤ 140737488355328) := Lib.hid (by have := HLN.out; rw [List.length_append]; omega)
        by_cases h0 : p[k].body = []
        · have hb0 : p[k].body.length = 0 := by rw [h0]; rfl
          have HT : Hid (progTxt (p.take k) ++ p[k].head.txt ++ [46, 10] = progTxt (p.take (k + 1))) := Lib.hid (by
            rw [progTxt_next p k hlt]; unfold clTxt; rw [if_pos h0]; simp)
          have HB0 := Lib.hid hb0
          have hz0 : ¬ (0 : Int) < ((0 : Nat) : Int) := by omega
          clear h0 hb0
          go_wp2_with (first
            | (go_at_call 20; (with_reducible refine (WriteStringW p[k].head.txt HBV3.out hs0 hs1).mono ?_); rintro e w3 ⟨rfl, ht3, v3, hv3⟩; have HX4 := Lib.hid (box_off HBV3.out ht3 HX3.out HNE.out); have HB4 := Lib.hid (HB3.out.trans (bd_off HBV3.out ht3)); have HV4 := Lib.hid hv3; obtain ⟨y0, y1, y2, y3⟩ := HX4.out.all; rw [HB0.out] at y3; clear ht3 hv3)
            | (go_at_call 20; refine (WriteStringW [46, 10] HV4.out HS5.out (Nat.le_of_lt HV4.out.lt)).mono ?_; rintro e w4 ⟨rfl, ht4, v4, hv4⟩; have HB5 := Lib.hid (HB4.out.trans (bd_off HV4.out ht4)); have HV5 := Lib.hid hv4; clear ht4 hv4))
          rw [HT.out] at HV5
          go_roundw
          case measure => simp [intOf]; omega
          case rel => exact ⟨k + 1, v4, by omega, by go_num, HV5, HB5⟩
        · have hb0 : (0 : Int) < (p[k].body.length : Int) := by have : p[k].body.length ≠ 0 := fun e => h0 (List.eq_nil_of_length_eq_zero e); omega
          have HT : Hid (progTxt (p.take k) ++ p[k].head.txt ++ ([32, 58, 45, 32] ++ txtL p[k].body) ++ [46, 10] = progTxt (p.take (k + 1))) := Lib.hid (by
            rw [progTxt_next p k hlt]; unfold clTxt; rw [if_neg h0]; simp)
          have ha2 : ∀ u, (Op.stringOp .add { data := #[32, 58, 45, 32] } (strB (txtL p[k].body))).run Tryd.prog u = .ok (.string (strB ([32, 58, 45, 32] ++ txtL p[k].body))) u := fun u =>
            str_add [32, 58, 45, 32] _ (by simp) (by have := HLN.out; omega) u
          have HS6 : Hid ((progTxt (p.take k) ++ p[k].head.txt).length + ([32, 58, 45, 32] ++ txtL p[k].body).length ≤ 140737488355328) := Lib.hid (by have := HLN.out; simp only [List.length_append, List.length_cons, List.length_nil]; omega)
          have HS7 : Hid ((progTxt (p.take k) ++ p[k].head.txt ++ ([32, 58, 45, 32] ++ txtL p[k].body)).length + 2 ≤ 140737488355328) := Lib.hid (by have := HLN.out; simp only [List.length_append, List.length_cons, List.length_nil]; omega)
          generalize [32, 58, 45, 32] ++ txtL p[k].body = s2 at ha2 HT HS6 HS7
          clear h0
          go_wp2_with (first
            | (go_at_call 20; (with_reducible refine (WriteStringW p[k].head.txt HBV3.out hs0 hs1).mono ?_); rintro e w3 ⟨rfl, ht3, v3, hv3⟩; have HX4 := Lib.hid (box_off HBV3.out ht3 HX3.out HNE.out); have HB4 := Lib.hid (HB3.out.trans (bd_off HBV3.out ht3)); have HV4 := Lib.hid hv3; obtain ⟨y0, y1, y2, y3⟩ := HX4.out.all; clear ht3 hv3)
            | (go_at_call 22; refine (HGL.out _ (HBW.out.trans (HB4.out.mono (by have := HSZ.out; omega)))).mono ?_; rintro e w5 ⟨rfl, hb5⟩; have HB5 := Lib.hid (HB4.out.trans (hb5.mono (Nat.le_of_lt HV4.out.lt))); have HV5 := Lib.hid (HV4.out.below hb5); clear hb5)
            | (go_at_call 20; (with_reducible refine (WriteStringW s2 HV5.out HS6.out (Nat.le_of_lt HV5.out.lt)).mono ?_); rintro e w6 ⟨rfl, ht6, v6, hv6⟩; have HB6 := Lib.hid (HB5.out.trans (bd_off HV5.out ht6)); have HV6 := Lib.hid hv6; clear ht6 hv6)
            | (go_at_call 20; refine (WriteStringW [46, 10] HV6.out HS7.out (Nat.le_of_lt HV6.out.lt)).mono ?_; rintro e w7 ⟨rfl, ht7, v7, hv7⟩; have HB7 := Lib.hid (HB6.out.trans (bd_off HV6.out ht7)); have HV7 := Lib.hid hv7; clear ht7 hv7))
          rw [HT.out] at HV7
          go_roundw
          case measure => simp [intOf]; omega
          case rel => exact ⟨k + 1, v7, by omega, by go_num, HV7, HB7⟩
      · have hkn : k = p.length := by omega
        have HE2 : Hid (progTxt (p.take k) = progTxt p) := Lib.hid (by rw [hkn, List.take_length])
        have HJ := Lib.hid (Tryd.Builder_String_any bd bd (progTxt (p.take k)) wr HBV.out.is (Nat.le_of_lt HBV.out.lt))
        go_wp2_with (go_at_call 23; refine HJ.out.mono ?_; rintro e w9 ⟨rfl, hb9⟩; have HB9 := Lib.hid hb9; clear hb9)
        go_ret2
        exact ⟨by rw [HE.out, ← HE2.out]; rfl, HBW.out.trans ((HB.out.trans HB9.out).mono (by have := HSZ.out; omega))⟩
  · have HE : Hid (printB p = []) := Lib.hid (by unfold printB; rw [if_neg hz])
    obtain ⟨n, hn⟩ : ∃ n, programE p = n := ⟨_, rfl⟩
    rw [hn] at HQ hz ⊢
    have e1 : ((n : Int) != 0) = true := by rw [bne_iff_ne]; omega
    clear hts hg hI hn hz
    go_enter Tryd.func6, Tryd.ntmps6
    go_wp2_with (go_at_call 19; refine HQ.out.mono ?_; rintro e w1 ⟨rfl, hb1⟩; have HB1 := Lib.hid hb1; clear hb1)
    go_ret2
    exact ⟨by rw [HE.out]; rfl, HB1.out⟩

end Go.Proofs.YtikmgiapjigghabDoor
