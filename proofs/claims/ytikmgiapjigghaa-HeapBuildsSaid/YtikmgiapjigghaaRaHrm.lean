/- Walk: the reference's Room. -/
import Derived.Test.YtikmgiapjigghaaRa19
namespace Go.Proofs.Ytikmgiapjigghaa
open Go.RowKit

/-- A block of booleans. -/
structure BoolsAt (w : World) (b : Nat) (l : List Bool) : Prop where
  blk : w.heap[b]? = some (.cells (l.map fun v => Value.bool v).toArray 4 (0, 0))

theorem BoolsAt.get {w : World} {b : Nat} {l : List Bool} (h : BoolsAt w b l) (i : Nat) (hi : i < l.length) : w.cell? ⟨b, i, none⟩ = some (.bool l[i]) := by
  simp [World.cell?, h.blk, hi]
theorem BoolsAt.fz {w : World} {b : Nat} {l : List Bool} (h : BoolsAt w b l) (o : Nat) : w.frozen? ⟨b, o, none⟩ = false := by simp [World.frozen?, h.blk]
theorem BoolsAt.lt {w : World} {b : Nat} {l : List Bool} (h : BoolsAt w b l) : b < w.heap.size := (Array.getElem?_eq_some_iff.1 h.blk).1
theorem BoolsAt.keep {w w' : World} {b : Nat} {l : List Bool} (h : BoolsAt w b l) (hb : w'.heap[b]? = w.heap[b]?) : BoolsAt w' b l := ⟨hb.trans h.blk⟩
theorem BoolsAt.below {w w' : World} {b : Nat} {l : List Bool} (h : BoolsAt w b l) (hb : Below w.heap.size w w') : BoolsAt w' b l := h.keep (hb.block b h.lt)
theorem BoolsAt.set {w : World} {b : Nat} {l : List Bool} (h : BoolsAt w b l) (i : Nat) (v : Bool) : BoolsAt (w.setCell ⟨b, i, none⟩ (.bool v)) b (l.set i v) := by
  refine ⟨?_⟩
  rw [heap_setCell_at _ _ _ _ h.blk, List.map_set]
  simp

theorem Try.infoBool : (Try.prog.info? 4).map (fun i => (i.zero, i.size, i.bytes)) = some (some (.bool false), 1, 1) := by kernel_rfl

set_option maxRecDepth 100000 in
theorem made_bools (w : World) (n : Nat) (hn : n ≤ 1000000) : (Instr.makeSlice 126 (.int .i64 (n : Int)) (.int .i64 (n : Int))).run Try.prog w = .ok (.slice (some ⟨w.heap.size, 0, none⟩) n n) (w.alloc (.cells ((List.replicate n false).map fun v : Bool => Value.bool v).toArray 4)) := by
  obtain ⟨i0, hi0, hz0, hz1, hz2⟩ := info_parts Try.infoBool
  have := run_make (P := Try.prog) w 126 4 i0 _ Try.underlying126 hi0 hz0 .i64 .i64 n n (by omega) (Int.le_refl _) (by rw [hz2]; omega) (by omega)
  rw [this, hz1]
  simp only [Int.toNat_natCast, Nat.mul_one]
  congr 3
  apply Array.ext'
  show (madeCells #[Value.bool false] n).toList = _
  rw [toList_madeCells_one]
  simp

/-- Which variables were seen, by their numbers. -/
def sbL (s : List Int) : List Bool := (List.range 13).map fun v : Nat => decide ((v : Int) ∈ s)

theorem sbL_nil : sbL [] = List.replicate 13 false := by rfl
theorem sbL_len (s : List Int) : (sbL s).length = 13 := by simp [sbL]
theorem sbL_get (s : List Int) (v : Nat) (hv : v < (sbL s).length) : (sbL s)[v] = decide ((v : Int) ∈ s) := by simp [sbL]
theorem sbL_put (s : List Int) (v : Nat) : (sbL s).set v true = sbL (s ++ [(v : Int)]) := by
  refine List.ext_getElem (by simp [sbL_len]) fun i h1 h2 => ?_
  rw [List.getElem_set, sbL_get (s ++ [(v : Int)])]
  by_cases e : v = i
  · subst e; rw [if_pos rfl]; simp
  · rw [if_neg e, sbL_get]
    have hne : ¬ ((i : Int) = (v : Int)) := by omega
    simp [hne]

theorem roomP_le : ∀ (l : List Tm) (s : List Int), (∀ p, p ∈ l → p.args.length ≤ 100000) → roomP s l ≤ 100001 * l.length := by
  intro l
  induction l with
  | nil => intro s _; simp [roomP]
  | cons p r ih =>
    intro s h
    have h1 := h p List.mem_cons_self
    have h2 := ih (if p.var ≠ 0 then addV s p.var else s) fun q hq => h q (List.mem_cons_of_mem _ hq)
    simp only [roomP, List.length_cons]
    generalize roomP (if p.var ≠ 0 then addV s p.var else s) r = z at *
    split
    · omega
    · split <;> omega

theorem room_succ (l : List Tm) (k : Nat) (h : k < l.length) : roomP [] (l.take (k + 1)) = roomP [] (l.take k) + (if l[k].var = 0 then 1 + l[k].args.length else if l[k].var ∈ seen [] (l.take k) then 0 else 1) := by
  rw [List.take_succ_eq_append_getElem h, roomP_append]
  simp [roomP]

set_option maxRecDepth 100000 in
set_option maxHeartbeats 2000000 in
theorem RoomW {w : World} {t : Tm} {a : Option Addr} {cap : Nat} (hs : t.size ≤ 60) (hfit : Fit 13 t) (hf : t.fits) (ht : Ts w (fun _ => True) t.args a cap) :
    Calls Try.prog 37 #[.agg #[.int .i64 t.var, .string t.name, .slice a t.args.length cap]] w fun e w' => e = .returned (.int .i64 (roomP [] t.parts : Nat)) ∧ Below w.heap.size w w' := by
  have B1 : Below w.heap.size w (w.alloc (.cells #[.int .i64 t.var, .string t.name, .slice a t.args.length cap] 24)) := (Below.refl _ _).alloc (Nat.le_refl _) _
  have HB1 := Lib.hid B1
  have HPW := Lib.hid (partsOfW t (w.alloc (.cells #[.int .i64 t.var, .string t.name, .slice a t.args.length cap] 24)) (fun _ => True) a cap (by omega) (fun _ _ => trivial) hf (ht.keep (Keeps.below B1 _)))
  have HPL : Hid (t.parts.length ≤ 60) := Lib.hid (by rw [Tm.parts_length]; exact hs)
  have HFT := Lib.hid hfit
  have HRL : Hid (∀ k, roomP [] (t.parts.take k) ≤ 100001 * 60) := Lib.hid (fun k => by
    refine Nat.le_trans (roomP_le _ _ fun p hp => (hfit.bd p (List.mem_of_mem_take hp)).2) ?_
    have : (t.parts.take k).length ≤ t.parts.length := by rw [List.length_take]; omega
    rw [Tm.parts_length] at this; omega)
  have hmk := fun W => made_bools W 13 (by omega)
  have e1 : ((List.replicate 13 false).map fun v : Bool => Value.bool v).toArray = Array.replicate 13 (.bool false) := by rfl
  simp only [e1] at hmk
  have hmk2 : ((13 : Nat) : Int) = 13 := rfl
  simp only [hmk2] at hmk
  clear hs hfit hf ht B1 e1 hmk2
  go_enter Try.func37, Try.ntmps37
  go_wp2_with (go_at_call 56; refine HPW.out.mono ?_; rintro e w2 ⟨pa, pc, rfl, hpts, hb2⟩; have HPT := Lib.hid hpts; have HB2 : Hid (Below w.heap.size w w2) := Lib.hid (HB1.out.trans (hb2.mono HB1.out.size)); clear hpts hb2)
  have BX : Below w2.heap.size w2 (w2.alloc (.cells (Array.replicate 13 (Value.bool false)) 4)) := (Below.refl _ _).alloc (Nat.le_refl _) _
  have HS3 : Hid (BoolsAt (w2.alloc (.cells (Array.replicate 13 (Value.bool false)) 4)) w2.heap.size (sbL [])) := Lib.hid ⟨by rw [heap_alloc_new, sbL_nil]; rfl⟩
  have HB3 := Lib.hid (HB2.out.trans (BX.mono HB2.out.size))
  have HP3 : Hid (Ts (w2.alloc (.cells (Array.replicate 13 (Value.bool false)) 4)) (fun b => b < w2.heap.size) t.parts pa pc) := Lib.hid ((HPT.out.mono fun b h _ => h).keep (Keeps.below BX _))
  clear BX HPT hmk
  generalize w2.alloc (.cells (Array.replicate 13 (Value.bool false)) 4) = w3 at *
  generalize hnb : w2.heap.size = nb at *
  have HNB : Hid (w.heap.size ≤ nb) := Lib.hid (by rw [← hnb]; exact HB2.out.size)
  clear hnb HB2
  have hpl9 : t.parts.length ≤ 9223372036854775807 := by have := HPL.out; omega
  go_wp2_with fail
  go_loopw [3, 6] (fun v3 v6 wr => ∃ (k n : Nat) (s : List Int), k ≤ t.parts.length ∧ v6 = .int .i64 k ∧ v3 = .int .i64 n ∧ Hid (s = seen [] (t.parts.take k)) ∧ Hid (n = roomP [] (t.parts.take k)) ∧ Hid (BoolsAt wr nb (sbL s)) ∧ Hid (Touch (fun b => b = nb) w3 wr)) (fun _ v6 _ => t.parts.length - (intOf v6).toNat)
  case atStart => exact ⟨0, 0, [], Nat.zero_le _, rfl, rfl, Lib.hid rfl, Lib.hid rfl, HS3, Lib.hid (Touch.refl _ _)⟩
  case round =>
    obtain ⟨k, n, s, hk, rfl, rfl, HSE, HNE, HNM, HTO⟩ := hrel
    have hn6 : n ≤ 100001 * 60 := by have := HNE.out; have := HRL.out k; omega
    by_cases hlt : k < t.parts.length
    · obtain ⟨b, off, a', cap', rfl, hokb, hbs, hc, -⟩ := HP3.out.at k hlt
      have HSS := Lib.hid (seen_succ t.parts k hlt)
      have HRS := Lib.hid (room_succ t.parts k hlt)
      have HV0 := Lib.hid (HFT.out.wf _ (List.getElem_mem hlt)).1
      have HV1 := Lib.hid (HFT.out.bd _ (List.getElem_mem hlt))
      have hbk := HTO.out.block b hbs (by omega)
      have m0 := (World.cell?_of_block (a := ⟨b, off + k * 3, none⟩) hbk).trans hc.var
      have m2 := (World.cell?_of_block (a := ⟨b, off + k * 3 + 2, none⟩) hbk).trans hc.args
      clear hc hokb hbs hbk
      by_cases hv : t.parts[k].var = 0
      · have HS2 : Hid (s = seen [] (t.parts.take (k + 1))) := Lib.hid (by rw [HSS.out, if_neg (fun h => h hv)]; exact HSE.out)
        obtain ⟨al, hal⟩ : ∃ al, t.parts[k].args.length = al := ⟨_, rfl⟩
        have HN2 : Hid (n + (1 + al) = roomP [] (t.parts.take (k + 1))) := Lib.hid (by rw [HRS.out, if_pos hv, ← HNE.out, hal])
        have hal1 : al ≤ 100000 := by rw [← hal]; exact HV1.out.2
        rw [hv] at m0
        rw [hal] at m2
        clear hv HSS HRS hal
        go_wp2_with fail
        go_roundw
        case measure => simp [intOf]; omega
        case rel => exact ⟨k + 1, n + (1 + al), s, by omega, by go_num, by go_num, HS2, HN2, HNM, HTO⟩
      · obtain ⟨v, hvv⟩ : ∃ v : Nat, t.parts[k].var = (v : Int) := ⟨t.parts[k].var.toNat, by have := HV0.out; omega⟩
        have hv13 : v < 13 := by have := HV1.out.1; omega
        rw [hvv] at m0
        have hvz : ((v : Int) == 0) = false := by rw [beq_eq_false_iff_ne]; omega
        have hvI : (v : Int) < 13 := by omega
        have hvl : v < (sbL s).length := by rw [sbL_len]; exact hv13
        have hget := HNM.out.get v hvl
        have HGV := Lib.hid (sbL_get s v hvl)
        have HADD : Hid (seen [] (t.parts.take (k + 1)) = addV s (v : Int)) := Lib.hid (by rw [HSS.out, if_pos hv, hvv, ← HSE.out])
        have HRD : Hid (roomP [] (t.parts.take (k + 1)) = n + if (v : Int) ∈ s then 0 else 1) := Lib.hid (by rw [HRS.out, if_neg hv, hvv, ← HSE.out, ← HNE.out])
        clear hv hvv HSS HRS
        by_cases hm : (v : Int) ∈ s
        · rw [HGV.out, decide_eq_true hm] at hget
          have HS2 : Hid (s = seen [] (t.parts.take (k + 1))) := Lib.hid (by rw [HADD.out]; unfold addV; rw [if_pos hm])
          have HN2 : Hid (n = roomP [] (t.parts.take (k + 1))) := Lib.hid (by rw [HRD.out, if_pos hm]; omega)
          clear hm
          go_wp2_with fail
          go_roundw
          case measure => simp [intOf]; omega
          case rel => exact ⟨k + 1, n, s, by omega, by go_num, rfl, HS2, HN2, HNM, HTO⟩
        · rw [HGV.out, decide_eq_false hm] at hget
          have HS2 : Hid (s ++ [(v : Int)] = seen [] (t.parts.take (k + 1))) := Lib.hid (by rw [HADD.out]; unfold addV; rw [if_neg hm])
          have HN2 : Hid (n + 1 = roomP [] (t.parts.take (k + 1))) := Lib.hid (by rw [HRD.out, if_neg hm])
          have HPUT : Hid (BoolsAt (wr.setCell ⟨nb, v, none⟩ (.bool true)) nb (sbL (s ++ [(v : Int)]))) := Lib.hid (by
            have := HNM.out.set v true
            rwa [sbL_put] at this)
          have hfz := HNM.out.fz
          clear hm
          go_wp2_with fail
          go_roundw
          case measure => simp [intOf]; omega
          case rel => exact ⟨k + 1, n + 1, s ++ [(v : Int)], by omega, by go_num, by go_num, HS2, HN2, HPUT, Lib.hid (HTO.out.trans (Touch.setCell _ rfl))⟩
    · have HNF : Hid (n = roomP [] t.parts) := Lib.hid (by rw [HNE.out, List.take_of_length_le (by omega)])
      have HBF : Hid (Below w.heap.size w wr) := Lib.hid (HB3.out.trans (HTO.out.toBelow HB3.out.size (fun b e => by have := HNB.out; omega)))
      go_wp2_with fail
      go_ret
      exact ⟨by rw [← HNF.out]; rfl, HBF.out⟩

end Go.Proofs.Ytikmgiapjigghaa
