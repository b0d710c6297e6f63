/- Plain: what the reference reads. -/
import Derived.Deep.DeepCutAuto
import Derived.Deep.RegionHeld3
import Derived.Test.YtikmgiapjigghaaRa12
import Derived.Test.YtikmgiapjigghaaRa15
import Derived.Test.YtikmgiapjigghaaRa16
import Derived.Test.YtikmgiapjigghaaRa17
import Derived.Test.YtikmgiapjigghaaRa18
namespace Go.Proofs.Ytikmgiapjigghaa

/-- A term whose variables are cells' numbers and 1. -/
def Cellar (n : Nat) (t : Tm) : Prop := WfT t ∧ ∀ p, p ∈ t.parts → p.var ≠ 0 → 1 ≤ p.var ∧ p.var ≤ (n : Int)

theorem Cellar.var {n i : Nat} (h : i < n) : Cellar n (VarT ((i : Int) + 1)) := by
  refine ⟨fun p hp => ?_, fun p hp _ => ?_⟩
  · simp only [Tm.parts, Tm.partss, List.mem_singleton] at hp
    subst hp
    exact ⟨by show (0 : Int) ≤ (i : Int) + 1; omega, fun _ => ⟨rfl, rfl⟩⟩
  · simp only [Tm.parts, Tm.partss, List.mem_singleton] at hp
    subst hp
    show (1 : Int) ≤ (i : Int) + 1 ∧ (i : Int) + 1 ≤ (n : Int)
    omega

theorem Cellar.fn {n : Nat} {nm : ByteArray} {l : List Tm} (h : ∀ t, t ∈ l → Cellar n t) : Cellar n (.mk 0 nm l) := by
  refine ⟨fun p hp => ?_, fun p hp hv => ?_⟩
  · rw [Tm.parts] at hp
    rcases List.mem_cons.1 hp with rfl | hp
    · exact ⟨Int.le_refl _, fun e => absurd rfl e⟩
    · obtain ⟨t, ht, hp⟩ := Tm.partss_of hp
      exact (h t ht).1 p hp
  · rw [Tm.parts] at hp
    rcases List.mem_cons.1 hp with rfl | hp
    · exact absurd rfl hv
    · obtain ⟨t, ht, hp⟩ := Tm.partss_of hp
      exact (h t ht).2 p hp hv

theorem shL_cellar {H : List HC} (hH : HInv H) : ∀ (m : Nat) (l : List Nat) (x : List Tm × Nat), (∀ i, i ∈ l → i < H.length) → shL H m l = some x → ∀ t, t ∈ x.1 → Cellar H.length t := by
  intro m
  induction m using Nat.strongRecOn with
  | _ m ih =>
  intro l x hl h u hu
  cases l with
  | nil => rw [shL_nil] at h; cases h; cases hu
  | cons t r =>
    have ht := hl t List.mem_cons_self
    have hr : ∀ i, i ∈ r → i < H.length := fun i hi => hl i (List.mem_cons_of_mem _ hi)
    obtain ⟨me, hme⟩ := end_spec (hH.straight t ht)
    have he := hme.lt hH.cells ht
    cases m with
    | zero => rw [shL_zero] at h; cases h
    | succ m =>
      by_cases hv : (hc H (endH H t)).k = 1
      · rw [shL_var hv] at h
        obtain ⟨z, hz, rfl⟩ := Option.map_eq_some_iff.1 h
        rcases List.mem_cons.1 hu with rfl | hu
        · exact Cellar.var he
        · exact ih m (by omega) r z hr hz u hu
      · rw [shL_fn hv] at h
        obtain ⟨y, hy, h2⟩ := Option.bind_eq_some_iff.1 h
        obtain ⟨z, hz, rfl⟩ := Option.map_eq_some_iff.1 h2
        have h3 := (shL_le _ _ _ hy).1
        rcases List.mem_cons.1 hu with rfl | hu
        · refine Cellar.fn fun q hq => ih m (by omega) _ y (fun i hi => ?_) hy q hq
          rcases cell_right (hH.cells _ he) with ⟨h4, _⟩ | ⟨_, _, h5, h6, h7, _⟩
          · exact absurd h4 hv
          · unfold argsH at hi
            obtain ⟨j, hj, rfl⟩ := List.mem_map.1 hi
            rw [List.mem_range] at hj; omega
        · exact ih y.2 (by omega) r z hr hz u hu

/-- What is read, told by parts. -/
theorem read_parts {H : List HC} (hH : HInv H) {i : Nat} (hi : i < H.length) {t : Tm} {r : Nat} (h : shL H 200 [i] = some ([t], r)) :
    rdOf (Tm.rens numV [] [t]) = .ok (t.mapv (numIn (seen [] t.parts))) ((seen [] t.parts).map fun v => v - 1) := by
  have hc := shL_cellar hH 200 [i] _ (fun j hj => by rw [List.mem_singleton] at hj; subst hj; exact hi) h t List.mem_cons_self
  obtain ⟨h1, h2⟩ := ren_num t [] hc.1
  have e : Tm.rens numV [] [t] = ([t.mapv (numIn (seen [] t.parts))], seen [] t.parts) := by
    simp only [Tm.rens]
    rw [h1, h2 _ (List.prefix_refl _)]
  rw [e]
  rfl

/-- The numbers of those that were seen, by index. -/
def nmL (n : Nat) (s : List Int) : List Int := (List.range (n + 1)).map fun v : Nat => if (v : Int) ∈ s then numIn s (v : Int) else 0

theorem nmL_nil (n : Nat) : nmL n [] = List.replicate (n + 1) 0 := by
  unfold nmL
  simp only [List.not_mem_nil, if_false]
  refine List.ext_getElem (by simp) fun i h1 h2 => ?_
  simp

theorem nmL_len (n : Nat) (s : List Int) : (nmL n s).length = n + 1 := by simp [nmL]

theorem nmL_get (n : Nat) (s : List Int) (v : Nat) (hv : v < (nmL n s).length) : (nmL n s)[v] = if (v : Int) ∈ s then numIn s (v : Int) else 0 := by simp [nmL]

theorem nmL_zero {n : Nat} {s : List Int} {v : Nat} (hv : v < (nmL n s).length) : (nmL n s)[v] = 0 ↔ (v : Int) ∉ s := by
  rw [nmL_get]
  by_cases h : (v : Int) ∈ s
  · rw [if_pos h]
    unfold numIn
    constructor
    · intro e; omega
    · intro e; exact absurd h e
  · rw [if_neg h]; exact ⟨fun _ => h, fun _ => rfl⟩

theorem nmL_put {n : Nat} {s : List Int} {v : Nat} (hs : (v : Int) ∉ s) : (nmL n s).set v ((s.length : Int) + 1) = nmL n (s ++ [(v : Int)]) := by
  refine List.ext_getElem (by simp [nmL_len]) fun i h1 h2 => ?_
  rw [List.getElem_set, nmL_get n (s ++ [(v : Int)])]
  by_cases e : v = i
  · subst e
    rw [if_pos rfl, if_pos (by simp)]
    unfold numIn
    rw [List.idxOf_append, if_neg hs]
    simp
  · rw [if_neg e, nmL_get]
    have hne : ¬ ((i : Int) = (v : Int)) := by omega
    by_cases h : (i : Int) ∈ s
    · rw [if_pos h, if_pos (by simp [h])]
      unfold numIn
      rw [List.idxOf_append, if_pos h]
    · rw [if_neg h, if_neg (by simp [h, hne])]

end Go.Proofs.Ytikmgiapjigghaa

/- Walk: the reference's ReadOf. -/
namespace Go.Proofs.Ytikmgiapjigghaa
open Go.RowKit

/-- What is read, of what was shown. -/
def rdS : Option (List Tm × Nat) → RdA
  | none => .err 2
  | some x => rdOf (Tm.rens numV [] x.1)

theorem Cellar.part {n : Nat} {t p : Tm} (h : Cellar n t) (hp : p ∈ t.parts) (hv : p.var ≠ 0) : ∃ v : Nat, p.var = (v : Int) ∧ 1 ≤ v ∧ v ≤ n := by
  obtain ⟨h1, h2⟩ := h.2 p hp hv
  exact ⟨p.var.toNat, by omega, by omega, by omega⟩

theorem seen_succ (l : List Tm) (k : Nat) (h : k < l.length) : seen [] (l.take (k + 1)) = if l[k].var ≠ 0 then addV (seen [] (l.take k)) l[k].var else seen [] (l.take k) := by
  rw [List.take_succ_eq_append_getElem h, seen_append]; rfl

set_option maxRecDepth 100000 in
set_option maxHeartbeats 4000000 in
theorem ReadOfW {w : World} {K : List HC} {a : Option Addr} {cap : Nat} (h : HpAt w (fun _ => True) K a cap) (hI : HInv K) {i : Nat} (hi : i < K.length) :
    Calls Try.prog 32 #[.slice a K.length cap, .int .i64 (i : Nat)] w (RdPost w (rdS (shL K 200 [i]))) := by
  have HI := Lib.hid hI
  have B1 : Below w.heap.size w (w.alloc (.cells #[.int .i64 0, .string ⟨#[]⟩, .slice none 0 0] 24)) := (Below.refl _ _).alloc (Nat.le_refl _) _
  have HZ1 : Hid (Box3 (w.alloc (.cells #[.int .i64 0, .string ⟨#[]⟩, .slice none 0 0] 24)) w.heap.size (.int .i64 0) (.string ⟨#[]⟩) (.slice none 0 0)) := Lib.hid (Box3.made w _ _ _)
  have HSD := Lib.hid (StoodW hI.cells hI.straight hI.len 200 i _ (by omega) hi (h.below B1))
  have HB1 := Lib.hid B1
  have HCL : Hid (∀ x, shL K 200 [i] = some x → ∀ t, t ∈ x.1 → Cellar K.length t) := Lib.hid (fun x hx => shL_cellar hI 200 [i] x (fun j hj => by rw [List.mem_singleton] at hj; subst hj; exact hi) hx)
  have HSZ : Hid (∀ x, shL K 200 [i] = some x → Tm.sizes x.1 + x.2 ≤ 200) := Lib.hid (fun x hx => shL_size 200 [i] x hx)
  have HRP : Hid (∀ t r, shL K 200 [i] = some ([t], r) → rdOf (Tm.rens numV [] [t]) = .ok (t.mapv (numIn (seen [] t.parts))) ((seen [] t.parts).map fun v => v - 1)) := Lib.hid (fun t r hx => read_parts hI hi hx)
  have hkl : K.length ≤ 400000 := hI.len
  clear h hI hi B1
  generalize shL K 200 [i] = o at *
  cases o with
  | none =>
    go_enter Try.func32, Try.ntmps32
    go_wp2_with (go_at_call 39; refine HSD.out.mono ?_; rintro e w3 ⟨hb3, k3, hk3, rfl⟩; have hzr := HZ1.out.below hb3; have hl3 := hzr.lt; obtain ⟨y0, y1, y2, yf⟩ := hzr.all; have HB3 : Hid (Below w.heap.size w w3) := Lib.hid (HB1.out.trans (hb3.mono HB1.out.size)); clear hb3 hzr)
    have HP := below_put (HB3.out.alloc HB3.out.size (.cells #[.int .i64 0, .string ⟨#[]⟩, .slice none 0 0] 24)) (Nat.le_refl _) (.int .i64 0) (.string ⟨#[]⟩) (.slice none 0 0)
    refine bodyPost_ret (v := .tuple #[.agg #[.int .i64 0, .string ⟨#[]⟩, .slice none 0 0], .slice none 0 0, .int .i64 2]) (by simp [results, Try.results32, go_sem, y0, y1, y2, hl3]) rfl ⟨?_, rfl⟩
    first
      | exact HP
      | exact (below_put HB3.out (Nat.le_refl _) (.int .i64 0) (.string ⟨#[]⟩) (.slice none 0 0)).alloc (by simp [World.setCell]; omega) _
  | some z =>
    obtain ⟨zl, zr⟩ := z
    obtain ⟨j0, hj0, hy0, hy1, hy2⟩ := info_parts Try.infoInt
    go_enter Try.func32, Try.ntmps32
    go_wp2_with (go_at_call 39; refine HSD.out.mono ?_; rintro e w3 ⟨hb3, T, a3, c3, hTT, rfl, hf3, hts3⟩; have hzr := HZ1.out.below hb3; have hl3 := hzr.lt; obtain ⟨y0, y1, y2, yf⟩ := hzr.all; have HZ3 := Lib.hid hzr; have HB3 : Hid (Below w.heap.size w w3) := Lib.hid (HB1.out.trans (hb3.mono HB1.out.size)); have HF3 := Lib.hid hf3; have HT3 := Lib.hid hts3; have HL3 := Lib.hid hb3.size; have HTT := Lib.hid hTT; have hmk := made_ints (w3.alloc (.cells #[.int .i64 T.var, .string T.name, .slice a3 T.args.length c3] 24)) (K.length + 1) (by omega); have e1 : ((List.replicate (K.length + 1) 0).map fun v : Int => Value.int .i64 v).toArray = Array.replicate (K.length + 1) (.int .i64 0) := (by simp); rw [e1, Int.natCast_add] at hmk; have hmk2 : ((1 : Nat) : Int) = 1 := rfl; rw [hmk2] at hmk; clear hb3 hzr hf3 hts3 hTT e1 hmk2)
    clear hmk y0 y1 y2 yf
    have hTz : zl = [T] := HTT.out
    have HCE := Lib.hid (HCL.out _ rfl T (by rw [hTz]; exact List.mem_cons_self))
    have HTS : Hid (T.size ≤ 200) := Lib.hid (by have := HSZ.out _ rfl; rw [hTz] at this; simp only [Tm.sizes] at this; omega)
    have HRA : Hid (rdS (some (zl, zr)) = .ok (T.mapv (numIn (seen [] T.parts))) ((seen [] T.parts).map fun v => v - 1)) := Lib.hid (by
      have := HRP.out T zr (by rw [hTz])
      show rdOf (Tm.rens numV [] zl) = _
      rw [hTz]; exact this)
    have B4 : Below w3.heap.size w3 (w3.alloc (.cells #[.int .i64 T.var, .string T.name, .slice a3 T.args.length c3] 24)) := (Below.refl _ _).alloc (Nat.le_refl _) _
    have B5 : Below w3.heap.size w3 ((w3.alloc (.cells #[.int .i64 T.var, .string T.name, .slice a3 T.args.length c3] 24)).alloc (.cells (Array.replicate (K.length + 1) (Value.int .i64 0)) 3)) := B4.alloc B4.size _
    have hs4 : (w3.alloc (.cells #[.int .i64 T.var, .string T.name, .slice a3 T.args.length c3] 24)).heap.size = w3.heap.size + 1 := by simp only [aSz]
    have HBT : Hid (Box3 ((w3.alloc (.cells #[.int .i64 T.var, .string T.name, .slice a3 T.args.length c3] 24)).alloc (.cells (Array.replicate (K.length + 1) (Value.int .i64 0)) 3)) w3.heap.size (.int .i64 T.var) (.string T.name) (.slice a3 T.args.length c3)) := Lib.hid ((Box3.made w3 _ _ _).alloc _)
    have HIN : Hid (IntsAt ((w3.alloc (.cells #[.int .i64 T.var, .string T.name, .slice a3 T.args.length c3] 24)).alloc (.cells (Array.replicate (K.length + 1) (Value.int .i64 0)) 3)) (w3.heap.size + 1) (nmL K.length [])) := Lib.hid ⟨by
      rw [nmL_nil, ← hs4, heap_alloc_new]; simp⟩
    have HZ5 := Lib.hid (HZ3.out.below B5)
    have HB5 := Lib.hid (HB3.out.trans (B5.mono HB3.out.size))
    have HT5 : Hid (Ts ((w3.alloc (.cells #[.int .i64 T.var, .string T.name, .slice a3 T.args.length c3] 24)).alloc (.cells (Array.replicate (K.length + 1) (Value.int .i64 0)) 3)) (fun b => w.heap.size < b ∧ b < w3.heap.size) T.args a3 c3) := Lib.hid ((HT3.out.mono (ok' := fun b => w.heap.size < b ∧ b < w3.heap.size) (fun b hb hk => by
      rcases hk with hk | hk
      · exact hk.elim
      · rw [aSz] at hk; omega)).keep (Keeps.below B5 _))
    have HS5 : Hid (((w3.alloc (.cells #[.int .i64 T.var, .string T.name, .slice a3 T.args.length c3] 24)).alloc (.cells (Array.replicate (K.length + 1) (Value.int .i64 0)) 3)).heap.size = w3.heap.size + 2) := Lib.hid (by rw [aSz, hs4])
    have HL3' : Hid (w.heap.size < w3.heap.size) := Lib.hid hl3
    clear hs4 B4 B5 hTz HSD HZ3 HT3 HTT HCL HSZ HRP HZ1 HB1 hl3
    generalize (w3.alloc (.cells #[.int .i64 T.var, .string T.name, .slice a3 T.args.length c3] 24)).alloc (.cells (Array.replicate (K.length + 1) (Value.int .i64 0)) 3) = w5 at *
    generalize hnb : w3.heap.size + 1 = nb at *
    have HNB := Lib.hid hnb
    clear hnb
    obtain ⟨t0, t1, t2, tf⟩ := HBT.out.all
    go_wp2_with fail
    refine (partsOfW T w5 (fun b => b ≠ nb) a3 c3 (by have := HTS.out; omega) (fun b hb => by have := HS5.out; have := HNB.out; omega) HF3.out (HT5.out.mono fun b _ hb => by have := HNB.out; omega)).mono ?_
    rintro e w6 ⟨pa, pc, rfl, hpts, hb6⟩
    have HPL : Hid (T.parts.length ≤ 200) := Lib.hid (by rw [Tm.parts_length]; exact HTS.out)
    have hpl9 : T.parts.length ≤ 9223372036854775807 := by have := HPL.out; omega
    have HPT := Lib.hid hpts
    have HI6 := Lib.hid (HIN.out.below hb6)
    have HX6 := Lib.hid (HBT.out.below hb6)
    have HZ6 := Lib.hid (HZ5.out.below hb6)
    have HT6 := Lib.hid (HT5.out.keep (Keeps.below hb6 _))
    have HB6 := Lib.hid (HB5.out.trans (hb6.mono HB5.out.size))
    have HS6 : Hid (w3.heap.size + 2 ≤ w6.heap.size) := Lib.hid (by have := hb6.size; have := HS5.out; omega)
    clear hpts hb6 HIN HBT HZ5 HT5 HB5 t0 t1 t2 tf
    go_wp2_with fail
    go_loopw [10, 13] (fun v10 v13 wr => ∃ (k : Nat) (s : List Int) (xa : Option Addr) (xc : Nat), k ≤ T.parts.length ∧ v13 = .int .i64 k ∧ v10 = .slice xa s.length xc ∧ s.length ≤ k ∧ Hid (s = seen [] (T.parts.take k)) ∧ Hid (wr.ownsRow w6.heap.size 3 1 (.slice xa s.length xc) s.length (s.map fun v : Int => Value.int .i64 (v - 1))) ∧ Hid (IntsAt wr nb (nmL K.length s)) ∧ Hid (Touch (fun b => b = nb) w6 wr)) (fun _ v13 _ => T.parts.length - (intOf v13).toNat)
    case atStart => exact ⟨0, [], none, 0, Nat.zero_le _, rfl, rfl, Nat.le_refl _, Lib.hid rfl, Lib.hid (World.ownsRow_nil _ _ _ _), HI6, Lib.hid (Touch.refl _ _)⟩
    case round =>
      obtain ⟨k, s, xa, xc, hk, rfl, rfl, hsk, HSE, HOW, HNM, HTO⟩ := hrel
      by_cases hlt : k < T.parts.length
      · obtain ⟨b, off, a', cap', rfl, hokb, hbs, hc, -⟩ := HPT.out.at k hlt
        have HSS := Lib.hid (seen_succ T.parts k hlt)
        have HPV := Lib.hid (HCE.out.part (List.getElem_mem hlt))
        have m0 := (World.cell?_of_block (a := ⟨b, off + k * 3, none⟩) (HTO.out.block b hbs hokb)).trans hc.var
        have m0' : Hid (∀ w', Below wr.heap.size wr w' → w'.cell? ⟨b, off + k * 3, none⟩ = some (.int .i64 T.parts[k].var)) := Lib.hid (fun w' h' => (h'.cell (p := ⟨b, off + k * 3, none⟩) (Nat.lt_of_lt_of_le hbs HTO.out.size)).trans m0)
        have HBS := Lib.hid (Nat.lt_of_lt_of_le hbs HTO.out.size)
        have HB6L : Hid (b < w6.heap.size) := Lib.hid hbs
        clear hc hokb hbs
        by_cases hv : T.parts[k].var = 0
        · have HS2 : Hid (s = seen [] (T.parts.take (k + 1))) := Lib.hid (by rw [HSS.out, if_neg (fun h => h hv)]; exact HSE.out)
          rw [hv] at m0
          clear hv HPV m0' HSS
          go_wp2_with fail
          go_roundw
          case measure => simp [intOf]; omega
          case rel => exact ⟨k + 1, s, xa, xc, by omega, by go_num, rfl, by omega, HS2, HOW, HNM, HTO⟩
        · obtain ⟨v, hvv, hv1, hvn⟩ := HPV.out hv
          rw [hvv] at m0 m0'
          have hvz : ((v : Int) != 0) = true := by rw [bne_iff_ne]; omega
          have hvl : v < (nmL K.length s).length := by rw [nmL_len]; omega
          have hget := HNM.out.get v hvl
          have HZR := Lib.hid (nmL_zero (s := s) hvl)
          have hvI : (v : Int) < (K.length : Int) + 1 := by omega
          obtain ⟨xv, hxv⟩ : ∃ xv, (nmL K.length s)[v] = xv := ⟨_, rfl⟩
          rw [hxv] at hget HZR
          have HADD : Hid (seen [] (T.parts.take (k + 1)) = addV s (v : Int)) := Lib.hid (by rw [HSS.out, if_pos hv, hvv, ← HSE.out])
          clear hv hvv HPV hxv HSS
          by_cases hm : (v : Int) ∈ s
          · have hxz : (xv == 0) = false := by
              rw [beq_eq_false_iff_ne]
              exact fun e => HZR.out.1 e hm
            have HS2 : Hid (s = seen [] (T.parts.take (k + 1))) := Lib.hid (by rw [HADD.out]; unfold addV; rw [if_pos hm])
            clear hm
            go_wp2_with fail
            go_roundw
            case measure => simp [intOf]; omega
            case rel => exact ⟨k + 1, s, xa, xc, by omega, by go_num, rfl, by omega, HS2, HOW, HNM, HTO⟩
          · have hx0 : xv = 0 := HZR.out.2 hm
            subst hx0
            have HS2 : Hid (s ++ [(v : Int)] = seen [] (T.parts.take (k + 1))) := Lib.hid (by rw [HADD.out]; unfold addV; rw [if_neg hm])
            have HNP := Lib.hid (nmL_put (n := K.length) hm)
            clear hm
            obtain ⟨ns, hns⟩ : ∃ ns, s.length = ns := ⟨_, rfl⟩
            rw [hns] at HOW HNP hsk
            have HNS := Lib.hid hns
            obtain ⟨n1, hn1⟩ : ∃ n1, ns + 1 = n1 := ⟨_, rfl⟩
            have HN1 := Lib.hid hn1
            have hnsl : ns ≤ 200 := by have := HPL.out; omega
            have HOO := Lib.hid (HOW.out.alloc (.cells #[.int .i64 ((v : Int) - 1)] 3))
            rw [hns]
            clear hns hn1
            go_wp2_with (at_builtin; have _g := HOO; refine wpList_append_opt _ rfl _ _ 44 rfl w6.heap.size 3 j0 _ 1 8 Try.underlying44 hj0 hy0 hy1 hy2 rfl (by decide) _ _ _ rfl HOO.out (some ⟨wr.heap.size, 0, none⟩) 1 1 ?u0 [.int .i64 ((v : Int) - 1)] rfl rfl ?u1 ?u2 ?u3 ?u4 ?u5 ?_)
            case u2 => first | rfl | (intro u hu; simp only [List.mem_singleton] at hu; subst hu; rfl)
            case u3 => unfold maxLen; omega
            case u4 => omega
            case u5 => have := HTO.out.size; first | omega | (simp only [aSz]; omega)
            · intro v8 w8 hown8 hgrow8 hfr8
              rw [HN1.out] at hown8
              have hTX : Touch (fun b => b = nb) w6 (wr.alloc (.cells #[.int .i64 ((v : Int) - 1)] 3)) := HTO.out.trans (Touch.below ((Below.refl _ _).alloc (Nat.le_refl _) _))
              have hT8 : Touch (fun b => b = nb) w6 w8 := ((hTX.mono (M' := fun b => b = nb ∨ w6.heap.size ≤ b) fun b _ e => .inl e).trans (Touch.grown hgrow8 fun j e => .inr (HOW.out.lt j e).1)).mono fun b hb e => by omega
              have HT8 := Lib.hid hT8
              have hwb : ∀ b, b < wr.heap.size → b < w6.heap.size → w8.heap[b]? = wr.heap[b]? := fun b h1 h2 => (hgrow8.block b (by simp only [aSz]; omega) (fun e => by have := (HOW.out.lt b e.symm).1; omega)).trans (Below.heap_alloc _ _ _ h1)
              have hn6 : nb < w6.heap.size := by have := HS6.out; have := HNB.out; omega
              have HN8 : Hid (IntsAt w8 nb (nmL K.length s)) := Lib.hid (HNM.out.keep (hwb nb HNM.out.lt hn6))
              have q0 := HN8.out.get v hvl
              have qf := HN8.out.fz
              have HOW8 := Lib.hid hown8
              have hb6 : b < w6.heap.size := HB6L.out
              have q1 := (World.cell?_of_block (a := ⟨b, off + k * 3, none⟩) (hwb b HBS.out hb6)).trans m0
              obtain ⟨g8, cap8, rfl⟩ := own_shape hown8 (by have := HN1.out; omega)
              have HPUT : Hid (IntsAt (w8.setCell ⟨nb, v, none⟩ (.int .i64 (n1 : Int))) nb (nmL K.length (s ++ [(v : Int)]))) := Lib.hid (by
                have := HN8.out.set v (n1 : Int)
                have e : (nmL K.length s).set v (n1 : Int) = nmL K.length (s ++ [(v : Int)]) := by rw [show ((n1 : Nat) : Int) = (ns : Int) + 1 by have := HN1.out; omega, HNP.out]
                rwa [e] at this)
              have HOP : Hid ((w8.setCell ⟨nb, v, none⟩ (.int .i64 (n1 : Int))).ownsRow w6.heap.size 3 1 (.slice (some ⟨g8, 0, none⟩) n1 cap8) n1 ((s ++ [(v : Int)]).map fun v : Int => Value.int .i64 (v - 1))) := Lib.hid (ownsRow_block (by rw [List.map_append]; exact HOW8.out) fun gg hgg => Below.heap_setCell _ _ _ _ (fun e => by have := (HOW8.out.lt gg hgg).1; simp only at e; omega))
              clear hown8 hgrow8 hfr8 hTX hT8 hwb hn6 hb6
              go_wp2_with fail
              go_roundw
              case measure => simp [intOf]; omega
              case rel =>
                have hle : (s ++ [(v : Int)]).length = n1 := by have := HN1.out; have := HNS.out; simp; omega
                exact ⟨k + 1, s ++ [(v : Int)], some ⟨g8, 0, none⟩, cap8, by omega, by go_num, by rw [hle], by have := HN1.out; omega, HS2, by rw [hle]; exact HOP, HPUT, Lib.hid (HT8.out.trans (Touch.setCell _ rfl))⟩
      · have hkn : k = T.parts.length := by omega
        have HSF : Hid (s = seen [] T.parts) := Lib.hid (by rw [HSE.out, List.take_of_length_le (by omega)])
        have HZR := Lib.hid (HZ6.out.keep (HTO.out.block _ HZ6.out.lt (by have := HNB.out; have := HL3'.out; omega)))
        have hXR := HX6.out.keep (HTO.out.block _ HX6.out.lt (by have := HNB.out; omega))
        obtain ⟨t0, t1, t2, tf⟩ := hXR.all
        have HTR := Lib.hid (HT6.out.keep (HTO.out.keeps fun b hb e => by have := HNB.out; omega))
        have HNW := Lib.hid (NamedW (N := fun j => (nmL K.length s).getD j 0) (nb := nb) (no := 0) (nn := K.length + 1) (nc := K.length + 1) T wr (fun b => w.heap.size < b ∧ b < w3.heap.size) a3 c3 (fun b hb => by have := HS6.out; have := HTO.out.size; omega) (by have := HTS.out; omega) HF3.out HTR.out ⟨fun p hp hv => by
          obtain ⟨v, hvv, hv1, hvn⟩ := HCE.out.part hp hv
          omega, fun j hj => by
          have hjl : j < (nmL K.length s).length := by rw [nmL_len]; exact hj
          refine ⟨?_, ?_⟩
          · rw [Nat.zero_add, HNM.out.get j hjl, List.getD_eq_getElem?_getD, List.getElem?_eq_getElem hjl]; rfl
          · rw [List.getD_eq_getElem?_getD, List.getElem?_eq_getElem hjl, Option.getD_some, nmL_get]
            split
            · have : s.idxOf (j : Int) ≤ s.length := List.idxOf_le_length
              have := HPL.out
              unfold numIn I64; omega
            · unfold I64; omega⟩)
        have HMV : Hid (Tm.mapv (fun x => (nmL K.length s).getD x.toNat 0) T = T.mapv (numIn (seen [] T.parts))) := Lib.hid (mapv_congr T fun p hp hv => by
          obtain ⟨v, hvv, hv1, hvn⟩ := HCE.out.part hp hv
          have hvl : v < (nmL K.length s).length := by rw [nmL_len]; omega
          rw [hvv, Int.toNat_natCast, List.getD_eq_getElem?_getD, List.getElem?_eq_getElem hvl, Option.getD_some, nmL_get, if_pos (by rw [HSF.out, ← hvv]; exact seen_mem _ _ hp hv), HSF.out])
        rw [HMV.out] at HNW
        obtain ⟨a9, c9, hcv, hia⟩ := IsAt.of_row (l := s.map fun v => v - 1) (v := .slice xa s.length xc) (base := w6.heap.size) (w := wr) (ok := fun b => w6.heap.size ≤ b) (by rw [List.length_map, List.map_map]; exact HOW.out) (fun b e => (HOW.out.lt b e).1)
        have HIA := Lib.hid hia
        have HCV := Lib.hid hcv
        have HBR : Hid (Below w.heap.size w wr) := Lib.hid (HB6.out.trans (HTO.out.toBelow HB6.out.size (fun b e => by have := HNB.out; have := HL3'.out; omega)))
        have hwl : w.heap.size < wr.heap.size := HZR.out.lt
        clear hia hcv hXR hlt
        generalize T.mapv (numIn (seen [] T.parts)) = T2 at *
        go_wp2_with (go_at_call 73; refine HNW.out.mono ?_; rintro e w9 ⟨a4, c4, rfl, hf4, hts4, hb4⟩; obtain ⟨y0, y1, y2, yf⟩ := (HZR.out.below hb4).all; have HB9 := Lib.hid hb4; have HF9 := Lib.hid hf4; have HT9 := Lib.hid hts4; have hl9 : w.heap.size < w9.heap.size := (HZR.out.below hb4).lt; clear hb4 hf4 hts4)
        rw [HRA.out]
        have BP := below_put (HBR.out.trans (HB9.out.mono HBR.out.size)) (Nat.le_refl _) (.int .i64 T2.var) (.string T2.name) (.slice a4 T2.args.length c4)
        have TP := touch_put w9 w.heap.size (.int .i64 T2.var) (.string T2.name) (.slice a4 T2.args.length c4)
        have HIF : IsAt (((w9.setCell ⟨w.heap.size, 0, none⟩ (.int .i64 T2.var)).setCell ⟨w.heap.size, 1, none⟩ (.string T2.name)).setCell ⟨w.heap.size, 2, none⟩ (.slice a4 T2.args.length c4)) (fun b => w6.heap.size ≤ b) (s.map fun v => v - 1) a9 c9 := (HIA.out.below HB9.out).keep (TP.keeps fun b hb e => by have := HS6.out; have := HL3'.out; omega)
        have HTF : Ts (((w9.setCell ⟨w.heap.size, 0, none⟩ (.int .i64 T2.var)).setCell ⟨w.heap.size, 1, none⟩ (.string T2.name)).setCell ⟨w.heap.size, 2, none⟩ (.slice a4 T2.args.length c4)) (fun b => w.heap.size < b) T2.args a4 c4 := (HT9.out.mono (ok' := fun b => w.heap.size < b) fun b _ hb => by
          rcases hb with hb | hb
          · exact hb.1
          · omega).keep (TP.keeps fun b hb e => by omega)
        have hlen : (s.map fun v => v - 1).length = s.length := List.length_map ..
        have hcv2 : Value.slice xa s.length xc = Value.slice a9 s.length c9 := by rw [← hlen]; rw [← HCV.out, hlen]
        refine bodyPost_ret (v := .tuple #[.agg #[.int .i64 T2.var, .string T2.name, .slice a4 T2.args.length c4], .slice xa s.length xc, .int .i64 0]) (by simp [results, Try.results32, go_sem, y0, y1, y2]) rfl
          ⟨BP, a4, c4, a9, c9, ?_, HF9.out, HTF.mono fun b _ hb => by omega, ?_⟩
        · rw [hcv2, ← HSF.out, hlen]
        · rw [← HSF.out]; exact HIF.mono fun b _ hb => by have := HS6.out; have := HL3'.out; omega

end Go.Proofs.Ytikmgiapjigghaa

/- Rows in a row: who leads to each cell. -/
namespace Go.Proofs.Ytikmgiapjigghaa
open Go.RowKit

/-- A block of slices of numbers, each a row of its own. -/
structure RowsAt (w : World) (bF base : Nat) (vs : List Value) (R : Nat → List Nat) : Prop where
  blk : w.heap[bF]? = some (.cells vs.toArray 44 (0, 0))
  row : ∀ j (h : j < vs.length), w.ownsRow base 3 1 vs[j] (R j).length ((R j).map fun v : Nat => Value.int .i64 (v : Int))
  sep : ∀ i j (hi : i < vs.length) (hj : j < vs.length) b, vs[i].ownBlock = some b → vs[j].ownBlock = some b → i = j
  lt : bF < base

theorem RowsAt.get {w : World} {bF base : Nat} {vs : List Value} {R : Nat → List Nat} (h : RowsAt w bF base vs R) (i : Nat) (hi : i < vs.length) : w.cell? ⟨bF, i, none⟩ = some vs[i] := by simp [World.cell?, h.blk, hi]
theorem RowsAt.fz {w : World} {bF base : Nat} {vs : List Value} {R : Nat → List Nat} (h : RowsAt w bF base vs R) (o : Nat) : w.frozen? ⟨bF, o, none⟩ = false := by simp [World.frozen?, h.blk]
theorem RowsAt.bl {w : World} {bF base : Nat} {vs : List Value} {R : Nat → List Nat} (h : RowsAt w bF base vs R) : bF < w.heap.size := (Array.getElem?_eq_some_iff.1 h.blk).1
theorem RowsAt.form {w : World} {bF base : Nat} {vs : List Value} {R : Nat → List Nat} (h : RowsAt w bF base vs R) (i : Nat) (hi : i < vs.length) : ∃ a c, vs[i] = .slice a (R i).length c := by
  rcases (h.row i hi).2 with ⟨h1, h2⟩ | ⟨g, cap, cur, h1, _⟩
  · exact ⟨none, 0, by rw [h1, h2]⟩
  · exact ⟨_, _, h1⟩

theorem RowsAt.keep {w w' : World} {bF base : Nat} {vs : List Value} {R : Nat → List Nat} (h : RowsAt w bF base vs R) (h1 : w'.heap[bF]? = w.heap[bF]?) (h2 : ∀ j (hj : j < vs.length) b, vs[j].ownBlock = some b → w'.heap[b]? = w.heap[b]?) : RowsAt w' bF base vs R :=
  ⟨h1.trans h.blk, fun j hj => ownsRow_block (h.row j hj) fun g hg => h2 j hj g hg, h.sep, h.lt⟩

theorem RowsAt.below {w w' : World} {bF base : Nat} {vs : List Value} {R : Nat → List Nat} (h : RowsAt w bF base vs R) (hb : Below w.heap.size w w') : RowsAt w' bF base vs R :=
  h.keep (hb.block _ h.bl) fun j hj b e => hb.block b ((h.row j hj).lt b e).2

/-- One row gets one more. -/
theorem RowsAt.push {w X X2 : World} {bF base : Nat} {vs : List Value} {R : Nat → List Nat} (h : RowsAt w bF base vs R) (hX : Below w.heap.size w X) {t i : Nat} (ht : t < vs.length) {v' : Value}
    (ho : X2.ownsRow base 3 1 v' ((R t).length + 1) ((R t).map (fun v : Nat => Value.int .i64 (v : Int)) ++ [.int .i64 (i : Int)])) (hg : X.grownBy X2 vs[t].ownBlock) (hf : Fresh X vs[t] v') :
    RowsAt (X2.setCell ⟨bF, t, none⟩ v') bF base (vs.set t v') (fun j => R j ++ if t = j then [i] else []) ∧ Touch (fun b => b = bF ∨ vs[t].ownBlock = some b) w (X2.setCell ⟨bF, t, none⟩ v') ∧
    (∀ j (hj : j < (vs.set t v').length) b, (vs.set t v')[j].ownBlock = some b → (∃ hj' : j < vs.length, vs[j].ownBlock = some b) ∨ w.heap.size ≤ b) := by
  have hxt := fun b e => (h.row t ht).lt b e
  have hne : vs[t].ownBlock ≠ some bF := fun e => by have := (hxt _ e).1; have := h.lt; omega
  have hv : ∀ b, v'.ownBlock = some b → vs[t].ownBlock = some b ∨ w.heap.size ≤ b := fun b e => by
    rcases hf with e2 | e2
    · exact .inl (e2 ▸ e)
    · exact .inr (Nat.le_trans hX.size (e2 b e))
  have hbF : X2.heap[bF]? = w.heap[bF]? := (hg.block bF (by have := hX.size; have := h.bl; omega) (fun e => hne e.symm)).trans (hX.block _ h.bl)
  have hT : Touch (fun b => b = bF ∨ vs[t].ownBlock = some b) w (X2.setCell ⟨bF, t, none⟩ v') :=
    ((Touch.below hX).trans (Touch.grown hg fun k e => .inr e)).trans (Touch.setCell _ (.inl rfl))
  have hgt : ∀ j (hj : j < (vs.set t v').length), (vs.set t v')[j] = if t = j then v' else vs[j]'(by simpa using hj) := fun j hj => List.getElem_set ..
  refine ⟨⟨?_, fun j hj => ?_, fun a b ha hb c e1 e2 => ?_, h.lt⟩, hT, fun j hj b e => ?_⟩
  · rw [heap_setCell_at _ _ _ _ (hbF.trans h.blk)]; simp
  · rw [hgt j hj]
    by_cases e : t = j
    · subst e
      rw [if_pos rfl, if_pos rfl, List.length_append, List.map_append]
      refine ownsRow_block ho fun g hg' => Below.heap_setCell _ _ _ _ (fun e => ?_)
      subst e
      rcases hv _ hg' with h1 | h1
      · exact hne h1
      · have := h.bl; omega
    · rw [if_neg e, if_neg e, List.append_nil]
      have hj' : j < vs.length := by simpa using hj
      refine ownsRow_block (h.row j hj') fun g hg' => hT.block g ((h.row j hj').lt g hg').2 ?_
      rintro (e2 | e2)
      · subst e2; have := ((h.row j hj').lt _ hg').1; have := h.lt; omega
      · exact e (h.sep t j ht hj' g e2 hg')
  · rw [hgt a ha] at e1
    rw [hgt b hb] at e2
    have ha' : a < vs.length := by simpa using ha
    have hb' : b < vs.length := by simpa using hb
    by_cases h1 : t = a
    · by_cases h2 : t = b
      · omega
      · rw [if_pos h1] at e1; rw [if_neg h2] at e2
        rcases hv _ e1 with h3 | h3
        · exact absurd (h.sep t b ht hb' c h3 e2) h2
        · have := ((h.row b hb').lt c e2).2; omega
    · by_cases h2 : t = b
      · rw [if_neg h1] at e1; rw [if_pos h2] at e2
        rcases hv _ e2 with h3 | h3
        · exact absurd (h.sep t a ht ha' c h3 e1) h1
        · have := ((h.row a ha').lt c e1).2; omega
      · rw [if_neg h1] at e1; rw [if_neg h2] at e2
        exact h.sep a b ha' hb' c e1 e2
  · rw [hgt j hj] at e
    have hj' : j < vs.length := by simpa using hj
    by_cases h1 : t = j
    · subst h1; rw [if_pos rfl] at e
      rcases hv _ e with h3 | h3
      · exact .inl ⟨hj', h3⟩
      · exact .inr h3
    · rw [if_neg h1] at e; exact .inl ⟨hj', e⟩

theorem Try.infoInts : (Try.prog.info? 44).map (fun i => (i.zero, i.size, i.bytes)) = some (some (.slice none 0 0), 1, 24) := by kernel_rfl

set_option maxRecDepth 100000 in
theorem made_rows (w : World) (n : Nat) (hn : n ≤ 1000000) : (Instr.makeSlice 166 (.int .i64 (n : Int)) (.int .i64 (n : Int))).run Try.prog w = .ok (.slice (some ⟨w.heap.size, 0, none⟩) n n) (w.alloc (.cells (List.replicate n (Value.slice none 0 0)).toArray 44)) := by
  obtain ⟨i0, hi0, hz0, hz1, hz2⟩ := info_parts Try.infoInts
  have := run_make (P := Try.prog) w 166 44 i0 _ Try.underlying166 hi0 hz0 .i64 .i64 n n (by omega) (Int.le_refl _) (by rw [hz2]; omega) (by omega)
  rw [this, hz1]
  simp only [Int.toNat_natCast, Nat.mul_one]
  congr 3
  apply Array.ext'
  show (madeCells #[Value.slice none 0 0] n).toList = _
  rw [toList_madeCells_one]

theorem RowsAt.made (w : World) (n : Nat) : RowsAt (w.alloc (.cells (List.replicate n (Value.slice none 0 0)).toArray 44)) w.heap.size (w.heap.size + 1) (List.replicate n (Value.slice none 0 0)) (edgesTo []) := by
  refine ⟨heap_alloc_new w _, fun j hj => ?_, fun i j hi hj b e _ => ?_, Nat.lt_succ_self _⟩
  · rw [List.getElem_replicate]; exact World.ownsRow_nil _ _ _ _
  · rw [List.getElem_replicate] at e; cases e

/-- The rows as they stay. -/
structure FromAt (w : World) (okF : Nat → Prop) (bF n : Nat) (R : Nat → List Nat) : Prop where
  at' : ∀ j, j < n → ∃ a c, w.cell? ⟨bF, j, none⟩ = some (.slice a (R j).length c) ∧ IsAt w okF ((R j).map fun v : Nat => (v : Int)) a c
  ok : okF bF ∧ bF < w.heap.size

theorem FromAt.keep {w w' : World} {okF : Nat → Prop} {bF n : Nat} {R : Nat → List Nat} (h : FromAt w okF bF n R) (hk : Keeps okF w w') : FromAt w' okF bF n R :=
  ⟨fun j hj => by
    obtain ⟨a, c, h1, h2⟩ := h.at' j hj
    exact ⟨a, c, (hk.cell (p := ⟨bF, j, none⟩) h.ok.1 h.ok.2).trans h1, h2.keep hk⟩, h.ok.1, Nat.lt_of_lt_of_le h.ok.2 hk.size⟩

theorem RowsAt.done {w : World} {bF base : Nat} {vs : List Value} {R : Nat → List Nat} (h : RowsAt w bF base vs R) {okF : Nat → Prop} (h1 : okF bF) (h2 : ∀ j (hj : j < vs.length) b, vs[j].ownBlock = some b → okF b) : FromAt w okF bF vs.length R :=
  ⟨fun j hj => by
    have e1 : ((R j).map fun v : Nat => (v : Int)).length = (R j).length := by simp
    have e2 : ((R j).map fun v : Nat => (v : Int)).map (fun x => Value.int .i64 x) = (R j).map fun v : Nat => Value.int .i64 (v : Int) := by simp
    obtain ⟨a, c, he, hi⟩ := IsAt.of_row (l := (R j).map fun v : Nat => (v : Int)) (ok := okF) (by rw [e1, e2]; exact h.row j hj) (fun b e => h2 j hj b e)
    rw [List.length_map] at he
    exact ⟨a, c, he ▸ h.get j hj, hi⟩, h1, h.bl⟩

end Go.Proofs.Ytikmgiapjigghaa

/- Walk: the reference's Straight. -/
namespace Go.Proofs.Ytikmgiapjigghaa
open Go.RowKit

theorem edgesTo_len (E : List (Nat × Nat)) (j : Nat) : (edgesTo E j).length ≤ E.length := by
  unfold edgesTo; rw [List.length_map]; exact List.length_filter_le _ _

theorem leads_len4 {K : List HC} (h : CellsOk K) {i : Nat} (hi : i < K.length) : (leads K i).length ≤ 4 := by
  unfold leads
  rcases cell_right (h i hi) with ⟨h1, _⟩ | ⟨h1, _, h2, h3, _⟩
  · rw [if_pos h1]; split <;> simp
  · rw [if_neg (by omega)]; simp; omega

theorem allE_len {K : List HC} (h : CellsOk K) : ∀ n : Nat, n ≤ K.length → (allE (leads K) n).length ≤ 4 * n := by
  intro n
  induction n with
  | zero => intro _; simp [allE]
  | succ n ih =>
    intro hn
    have := ih (by omega)
    have := leads_len4 h (i := n) (by omega)
    rw [allE_succ, List.length_append, List.length_map]; omega

theorem edges_step (L : Nat → List Nat) (i k : Nat) (hk : k < (L i).length) (E : List (Nat × Nat)) : edgesTo (E ++ ((L i).take (k + 1)).map fun t => (t, i)) = fun j => edgesTo (E ++ ((L i).take k).map fun t => (t, i)) j ++ if (L i)[k] = j then [i] else [] := by
  funext j
  rw [List.take_succ_eq_append_getElem hk, List.map_append, ← List.append_assoc, edgesTo_append]
  show _ ++ edgesTo [((L i)[k], i)] j = _
  rw [edgesTo_one]

/-- The straight's first loop: how many each leads to, who leads to each. -/
structure SkAt (w wr : World) (K : List HC) (i : Nat) (l1 : List Int) (vs : List Value) (E : List (Nat × Nat)) : Prop where
  left : IntsAt wr w.heap.size l1
  len : l1.length = K.length
  lv : ∀ v (h : v < l1.length), v < i → l1[v] = ((leads K v).length : Int)
  rows : RowsAt wr (w.heap.size + 1) (w.heap.size + 2) vs (edgesTo E)
  vlen : vs.length = K.length
  below : Below w.heap.size w wr
  size : w.heap.size + 2 ≤ wr.heap.size

theorem SkAt.next {w wr w2 : World} {K : List HC} {i : Nat} {l1 : List Int} {vs : List Value} {E : List (Nat × Nat)} (h : SkAt w wr K i l1 vs E) (hb : Below wr.heap.size wr w2) : SkAt w w2 K i l1 vs E :=
  ⟨h.left.below hb, h.len, h.lv, h.rows.below hb, h.vlen, h.below.trans (hb.mono h.below.size), Nat.le_trans h.size hb.size⟩

theorem SkAt.put {w wr : World} {K : List HC} {i : Nat} {l1 : List Int} {vs : List Value} {E : List (Nat × Nat)} (h : SkAt w wr K i l1 vs E) : SkAt w (wr.setCell ⟨w.heap.size, i, none⟩ (.int .i64 ((leads K i).length : Int))) K (i + 1) (l1.set i ((leads K i).length : Int)) vs E := by
  have hs : (wr.setCell ⟨w.heap.size, i, none⟩ (.int .i64 ((leads K i).length : Int))).heap.size = wr.heap.size := by simp [World.setCell]
  refine ⟨h.left.set i _, by rw [List.length_set]; exact h.len, fun v hv hvi => ?_, h.rows.keep (Below.heap_setCell _ _ _ _ (by show w.heap.size + 1 ≠ w.heap.size; omega)) (fun j hj b e => Below.heap_setCell _ _ _ _ (by have := ((h.rows.row j hj).lt b e).1; show b ≠ w.heap.size; omega)), h.vlen, h.below.setCell (Nat.le_refl _) _, by rw [hs]; exact h.size⟩
  rw [List.getElem_set]
  by_cases e : i = v
  · subst e; rw [if_pos rfl]
  · rw [if_neg e]; exact h.lv v (by simpa using hv) (by omega)

/-- Who leads to a cell gets one more. -/
theorem SkAt.tell {w wr X X2 : World} {K : List HC} {i j : Nat} {l1 : List Int} {vs : List Value} {E : List (Nat × Nat)} (h : SkAt w wr K i l1 vs E) (hX : Below wr.heap.size wr X) {t : Nat} (ht : t < vs.length) {v' : Value}
    (ho : X2.ownsRow (w.heap.size + 2) 3 1 v' ((edgesTo E t).length + 1) ((edgesTo E t).map (fun v : Nat => Value.int .i64 (v : Int)) ++ [.int .i64 (j : Int)])) (hg : X.grownBy X2 vs[t].ownBlock) (hf : Fresh X vs[t] v') :
    SkAt w (X2.setCell ⟨w.heap.size + 1, t, none⟩ v') K i l1 (vs.set t v') (E ++ [(t, j)]) ∧ Touch (fun b => b = w.heap.size + 1 ∨ vs[t].ownBlock = some b) wr (X2.setCell ⟨w.heap.size + 1, t, none⟩ v') ∧
    (∀ q (hj : q < (vs.set t v').length) b, (vs.set t v')[q].ownBlock = some b → (∃ hj' : q < vs.length, vs[q].ownBlock = some b) ∨ wr.heap.size ≤ b) := by
  obtain ⟨h1, h2, h3⟩ := h.rows.push hX ht ho hg hf
  have e : edgesTo (E ++ [(t, j)]) = fun q => edgesTo E q ++ if t = q then [j] else [] := by
    funext q; rw [edgesTo_append, edgesTo_one]
  have hb : Below w.heap.size wr (X2.setCell ⟨w.heap.size + 1, t, none⟩ v') := h2.toBelow h.below.size (fun b e => e.elim (fun e => by omega) (fun e => by have := ((h.rows.row t ht).lt b e).1; omega))
  refine ⟨⟨h.left.keep (h2.block _ h.left.lt (fun e => e.elim (fun e => by omega) (fun e => by have := ((h.rows.row t ht).lt _ e).1; omega))), h.len, h.lv, by rw [e]; exact h1, by rw [List.length_set]; exact h.vlen, h.below.trans hb, Nat.le_trans h.size h2.size⟩, h2, h3⟩

/-- The straight's last loops: those that go, how many each leads to still. -/
structure KW (w wz : World) (K : List HC) (base : Nat) (okF : Nat → Prop) (xa : Option Addr) (xc : Nat) (G : List Nat) (left : Nat → Nat) : Prop where
  row : wz.ownsRow base 3 1 (.slice xa G.length xc) G.length (G.map fun v : Nat => Value.int .i64 (v : Int))
  ints : IntsAt wz w.heap.size ((List.range K.length).map fun v : Nat => ((left v : Nat) : Int))
  frm : FromAt wz okF (w.heap.size + 1) K.length (edgesTo (allE (leads K) K.length))
  below : Below w.heap.size w wz
  okl : ∀ b, okF b → b < base ∧ b ≠ w.heap.size
  size : w.heap.size < base ∧ base ≤ wz.heap.size

theorem KW.next {w wz w2 : World} {K : List HC} {base : Nat} {okF : Nat → Prop} {xa : Option Addr} {xc : Nat} {G : List Nat} {left : Nat → Nat} (h : KW w wz K base okF xa xc G left) (hb : Below wz.heap.size wz w2) : KW w w2 K base okF xa xc G left :=
  ⟨ownsRow_below h.row hb, h.ints.below hb, h.frm.keep (Keeps.below hb _), h.below.trans (hb.mono h.below.size), h.okl, h.size.1, Nat.le_trans h.size.2 hb.size⟩

theorem KW.left {w wz : World} {K : List HC} {base : Nat} {okF : Nat → Prop} {xa : Option Addr} {xc : Nat} {G : List Nat} {left : Nat → Nat} (h : KW w wz K base okF xa xc G left) {v : Nat} (hv : v < K.length) : wz.cell? ⟨w.heap.size, v, none⟩ = some (.int .i64 (left v : Nat)) := by
  have := h.ints.get v (by simpa using hv)
  simpa using this

theorem KW.goes {w wz : World} {K : List HC} {base : Nat} {okF : Nat → Prop} {xa : Option Addr} {xc : Nat} {G : List Nat} {left : Nat → Nat} (h : KW w wz K base okF xa xc G left) {k : Nat} (hk : k < G.length) : ∃ g, xa = some ⟨g, 0, none⟩ ∧ g < wz.heap.size ∧ base ≤ g ∧ wz.cell? ⟨g, k, none⟩ = some (.int .i64 (G[k] : Nat)) ∧ G.length ≤ xc ∧ xc ≤ maxLen := by
  obtain ⟨g, cap, he⟩ := own_shape h.row (by omega)
  cases he
  have hl := h.row.lt g rfl
  refine ⟨g, rfl, hl.2, hl.1, ?_, ?_⟩
  · rw [h.row.cellAt k (by omega)]; simp [hk]
  · rcases h.row.2 with ⟨e, _⟩ | ⟨g', cap', cur, e, _, _, h1, h2, _⟩
    · cases e
    · cases e; exact ⟨h1, h2⟩

theorem KW.dec {w wz : World} {K : List HC} {base : Nat} {okF : Nat → Prop} {xa : Option Addr} {xc : Nat} {G : List Nat} {left : Nat → Nat} (h : KW w wz K base okF xa xc G left) {v : Nat} (h1 : 1 ≤ left v) :
    KW w (wz.setCell ⟨w.heap.size, v, none⟩ (.int .i64 ((left v : Int) - 1))) K base okF xa xc G (fun u => if u = v then left v - 1 else left u) := by
  have hs : (wz.setCell ⟨w.heap.size, v, none⟩ (.int .i64 ((left v : Int) - 1))).heap.size = wz.heap.size := by simp [World.setCell]
  refine ⟨ownsRow_block h.row fun g hg => Below.heap_setCell _ _ _ _ (by have := (h.row.lt g hg).1; have := h.size.1; show g ≠ w.heap.size; omega), ?_, h.frm.keep ⟨by rw [hs]; exact Nat.le_refl _, fun b hb _ => Below.heap_setCell _ _ _ _ (h.okl b hb).2⟩, h.below.setCell (Nat.le_refl _) _, h.okl, h.size.1, by rw [hs]; exact h.size.2⟩
  have h2 := h.ints.set v ((left v : Int) - 1)
  have e : ((List.range K.length).map fun u : Nat => ((left u : Nat) : Int)).set v ((left v : Int) - 1) = (List.range K.length).map fun u : Nat => (((if u = v then left v - 1 else left u) : Nat) : Int) := by
    refine List.ext_getElem (by simp) fun i hi hj => ?_
    rw [List.getElem_set]
    simp only [List.getElem_map, List.getElem_range]
    by_cases e : v = i
    · subst e; rw [if_pos rfl, if_pos rfl]; omega
    · rw [if_neg e, if_neg (fun h => e h.symm)]
  rw [e] at h2
  exact h2

theorem KW.push {w wz X X2 : World} {K : List HC} {base : Nat} {okF : Nat → Prop} {xa : Option Addr} {xc : Nat} {G : List Nat} {left : Nat → Nat} (h : KW w wz K base okF xa xc G left) (hX : Below wz.heap.size wz X) {v : Nat} {a : Option Addr} {c : Nat}
    (ho : X2.ownsRow base 3 1 (.slice a (G.length + 1) c) (G.length + 1) (G.map (fun v : Nat => Value.int .i64 (v : Int)) ++ [.int .i64 (v : Int)])) (hg : X.grownBy X2 (Value.slice xa G.length xc).ownBlock) : KW w X2 K base okF a c (G ++ [v]) left := by
  have hx := h.next hX
  have hT : Touch (fun b => (Value.slice xa G.length xc).ownBlock = some b) X X2 := Touch.grown hg fun k e => e
  refine ⟨by rw [List.length_append, List.map_append]; exact ho, hx.ints.keep (hT.block _ hx.ints.lt fun e => by have := (hx.row.lt _ e).1; have := h.size.1; omega), hx.frm.keep (hT.keeps fun b hb e => by have := (hx.row.lt _ e).1; have := (h.okl b hb).1; omega), hx.below.trans (hT.toBelow hx.below.size fun b e => by have := (hx.row.lt _ e).1; have := h.size.1; omega), h.okl, h.size.1, Nat.le_trans hx.size.2 hT.size⟩

theorem edge_mem {L : Nat → List Nat} {n j v : Nat} (h : v ∈ edgesTo (allE L n) j) : v < n := by
  have h1 : 0 < (edgesTo (allE L n) j).count v := List.count_pos_iff.2 h
  rw [edgesTo_all] at h1
  split at h1
  · assumption
  · omega

theorem filt_succ (p : Nat → Bool) (i : Nat) : (List.range (i + 1)).filter p = (List.range i).filter p ++ if p i = true then [i] else [] := by
  rw [List.range_succ, List.filter_append]
  congr 1
  by_cases h : p i = true <;> simp [h]

theorem SkAt.ends {w wr : World} {K : List HC} {l1 : List Int} {vs : List Value} (h : SkAt w wr K K.length l1 vs (allE (leads K) K.length)) :
    KW w wr K wr.heap.size (fun b => w.heap.size + 1 ≤ b ∧ b < wr.heap.size) none 0 [] (fun v => (leads K v).length) := by
  have e : l1 = (List.range K.length).map fun v : Nat => (((leads K v).length : Nat) : Int) := List.ext_getElem (by rw [h.len]; simp) fun i hi hj => by
    rw [h.lv i hi (by rw [← h.len]; exact hi)]; simp
  have hf := h.rows.done (okF := fun b => w.heap.size + 1 ≤ b ∧ b < wr.heap.size) ⟨Nat.le_refl _, h.rows.bl⟩ (fun j hj b e => ⟨by have := ((h.rows.row j hj).lt b e).1; omega, ((h.rows.row j hj).lt b e).2⟩)
  rw [h.vlen] at hf
  exact ⟨World.ownsRow_nil _ _ _ _, e ▸ h.left, hf, h.below, fun b hb => ⟨hb.2, by have := hb.1; omega⟩, by have := h.size; omega, Nat.le_refl _⟩

end Go.Proofs.Ytikmgiapjigghaa

/- Walk: the reference's Straight. -/
namespace Go.Proofs.Ytikmgiapjigghaa
open Go.RowKit

set_option maxRecDepth 100000 in
set_option maxHeartbeats 4000000 in
theorem StraightRefW {w : World} {ok : Nat → Prop} {K : List HC} {a : Option Addr} {cap : Nat} (h : HpAt w ok K a cap) (hK : CellsOk K) (hlen : K.length ≤ 400000) :
    Calls Try.prog 78 #[.slice a K.length cap] w fun e w' => e = .returned (.bool (straightB K)) ∧ Below w.heap.size w w' := by
  have HP := Lib.hid h; have HK := Lib.hid hK; have HLN := Lib.hid hlen
  have hcl : K.length ≤ 9223372036854775807 := by omega
  have hmk := made_ints w K.length (by omega)
  have hmk2 := made_rows (w.alloc (.cells ((List.replicate K.length 0).map fun v : Int => Value.int .i64 v).toArray 3)) K.length (by omega)
  have hs1 : (w.alloc (.cells ((List.replicate K.length 0).map fun v : Int => Value.int .i64 v).toArray 3)).heap.size = w.heap.size + 1 := by simp only [aSz]
  have HR0 := RowsAt.made (w.alloc (.cells ((List.replicate K.length 0).map fun v : Int => Value.int .i64 v).toArray 3)) K.length
  have HI0 : IntsAt ((w.alloc (.cells ((List.replicate K.length 0).map fun v : Int => Value.int .i64 v).toArray 3)).alloc (.cells (List.replicate K.length (Value.slice none 0 0)).toArray 44)) w.heap.size (List.replicate K.length 0) := (IntsAt.mk (heap_alloc_new w _)).below ((Below.refl _ _).alloc (Nat.le_refl _) _)
  have HB0 : Below w.heap.size w ((w.alloc (.cells ((List.replicate K.length 0).map fun v : Int => Value.int .i64 v).toArray 3)).alloc (.cells (List.replicate K.length (Value.slice none 0 0)).toArray 44)) := ((Below.refl _ _).alloc (Nat.le_refl _) _).alloc (by omega) _
  have hs2 : ((w.alloc (.cells ((List.replicate K.length 0).map fun v : Int => Value.int .i64 v).toArray 3)).alloc (.cells (List.replicate K.length (Value.slice none 0 0)).toArray 44)).heap.size = w.heap.size + 2 := by rw [aSz, hs1]
  rw [hs1] at HR0 hmk2
  have HS0 : Hid (SkAt w ((w.alloc (.cells ((List.replicate K.length 0).map fun v : Int => Value.int .i64 v).toArray 3)).alloc (.cells (List.replicate K.length (Value.slice none 0 0)).toArray 44)) K 0 (List.replicate K.length 0) (List.replicate K.length (Value.slice none 0 0)) (allE (leads K) 0)) := Lib.hid ⟨HI0, by simp, fun v _ hv => absurd hv (Nat.not_lt_zero v), HR0, by simp, HB0, by rw [hs2]; exact Nat.le_refl _⟩
  obtain ⟨j0, hj0, hy0, hy1, hy2⟩ := info_parts Try.infoInt
  clear h hK HR0 HI0 HB0 hs1
  have e1 : ((List.replicate K.length 0).map fun v : Int => Value.int .i64 v).toArray = Array.replicate K.length (.int .i64 0) := by simp
  have e2 : (List.replicate K.length (Value.slice none 0 0)).toArray = Array.replicate K.length (Value.slice none 0 0) := by simp
  rw [e1] at hmk hmk2 HS0 hs2
  rw [e2] at hmk2 HS0 hs2
  clear e1 e2
  go_enter Try.func78, Try.ntmps78
  go_wp2_with fail
  generalize (w.alloc (.cells (Array.replicate K.length (Value.int .i64 0)) 3)).alloc (.cells (Array.replicate K.length (Value.slice none 0 0)) 44) = wa at *
  clear hmk hmk2
  go_loopw [5] (fun v5 wr => ∃ (i : Nat) (l1 : List Int) (vs : List Value), i ≤ K.length ∧ v5 = .int .i64 i ∧ Hid (SkAt w wr K i l1 vs (allE (leads K) i))) (fun v5 _ => K.length - (intOf v5).toNat)
  case atStart => exact ⟨0, _, _, Nat.zero_le _, rfl, HS0⟩
  case round =>
    obtain ⟨i, l1, vs, hi, rfl, HSK⟩ := hrel
    by_cases hlt : i < K.length
    · have HLD := Lib.hid (LeadsOfW (HP.out.below HSK.out.below) HK.out HLN.out hlt)
      have HLS := Lib.hid (leads_len (HK.out i hlt))
      have HLT := Lib.hid (fun j hj => leads_lt HK.out i hlt j hj)
      have HES := Lib.hid (allE_succ (leads K) i)
      have HEL := Lib.hid (allE_len HK.out i hi)
      have HSX := Lib.hid (fun k hk E => edges_step (leads K) i k hk E)
      have HPT := Lib.hid (fun wq hq => (HSK.out.next (w2 := wq) hq).put)
      go_wp2_with (go_at_call 107; refine HLD.out.mono ?_; rintro e w1 ⟨hb1, al, cl, rfl, hia⟩; have HIA := Lib.hid (hia.mono (ok' := fun b => wr.heap.size ≤ b ∧ b < w1.heap.size) fun b h1 h2 => ⟨h2, h1⟩); have HB1 := Lib.hid hb1; have g0 := (HSK.out.left.below hb1).get i (by rw [HSK.out.len]; exact hlt); have gf := (HSK.out.left.below hb1).fz; clear hia hb1)
      have HA : Hid (SkAt w (w1.setCell ⟨w.heap.size, i, none⟩ (.int .i64 ((leads K i).length : Int))) K (i + 1) (l1.set i ((leads K i).length : Int)) vs (allE (leads K) i ++ ((leads K i).take 0).map fun t => (t, i))) := Lib.hid (by rw [List.take_zero]; simpa using HPT.out w1 HB1.out)
      have hsa : (w1.setCell ⟨w.heap.size, i, none⟩ (.int .i64 ((leads K i).length : Int))).heap.size = w1.heap.size := by simp [World.setCell]
      obtain ⟨okL, hokL⟩ : ∃ okL : Nat → Prop, okL = (fun b => wr.heap.size ≤ b ∧ b < w1.heap.size) := ⟨_, rfl⟩
      have HIB : Hid (IsAt (w1.setCell ⟨w.heap.size, i, none⟩ (.int .i64 ((leads K i).length : Int))) okL ((leads K i).map fun v : Nat => (v : Int)) al cl) := Lib.hid (hokL ▸ HIA.out.keep ⟨by rw [hsa]; exact Nat.le_refl _, fun b hb _ => Below.heap_setCell _ _ _ _ (by have := HSK.out.size; show b ≠ w.heap.size; omega)⟩)
      have HVB : Hid (∀ j (hj : j < vs.length) b, vs[j].ownBlock = some b → ¬ okL b) := Lib.hid (fun j hj b e h => by rw [hokL] at h; have := ((HSK.out.rows.row j hj).lt b e).2; omega)
      have HOL : Hid (∀ b, okL b → b < (w1.setCell ⟨w.heap.size, i, none⟩ (.int .i64 ((leads K i).length : Int))).heap.size) := Lib.hid (fun b h => by rw [hokL] at h; rw [hsa]; exact h.2)
      have HBFL : Hid (¬ okL (w.heap.size + 1)) := Lib.hid (fun h => by rw [hokL] at h; have := HSK.out.size; omega)
      clear hsa hokL g0 gf HSK HLD HPT HIA HB1
      generalize w1.setCell ⟨w.heap.size, i, none⟩ (.int .i64 ((leads K i).length : Int)) = wb at *
      generalize l1.set i ((leads K i).length : Int) = l2 at *
      generalize wr = wq at *
      generalize hLL : leads K i = LL at *
      clear hLL
      go_loopw [7] (fun v7 wz => ∃ (k : Nat) (vs' : List Value), k ≤ LL.length ∧ v7 = .int .i64 k ∧ Hid (SkAt w wz K (i + 1) l2 vs' (allE (leads K) i ++ (LL.take k).map fun t => (t, i))) ∧ Hid (IsAt wz okL (LL.map fun v : Nat => (v : Int)) al cl) ∧ Hid (∀ j (hj : j < vs'.length) b, vs'[j].ownBlock = some b → ¬ okL b) ∧ Hid (wb.heap.size ≤ wz.heap.size)) (fun v7 _ => LL.length - (intOf v7).toNat)
      case atStart => exact ⟨0, vs, Nat.zero_le _, rfl, HA, HIB, HVB, Lib.hid (Nat.le_refl _)⟩
      case round =>
        obtain ⟨k, vs2, hk, rfl, HSK, HIL, HVN, HWZ⟩ := hrel
        by_cases hkl : k < LL.length
        · have hls4 := HLS.out
          obtain ⟨bl, ol, rfl, hokl, hbl, hcl1⟩ := HIL.out.at' k (by simpa using hkl)
          have htn : LL[k] < K.length := HLT.out _ (List.getElem_mem hkl)
          obtain ⟨t, ht⟩ : ∃ t, LL[k] = t := ⟨_, rfl⟩
          simp only [List.getElem_map] at hcl1
          rw [ht] at hcl1 htn
          have htv : t < vs2.length := by rw [HSK.out.vlen]; exact htn
          have HTE : Hid (∀ E, E ++ ((LL.take (k + 1)).map fun t => (t, i)) = (E ++ (LL.take k).map fun t => (t, i)) ++ [(t, i)]) := Lib.hid (fun E => by rw [List.take_succ_eq_append_getElem hkl, ht]; simp)
          have hEL : (edgesTo (allE (leads K) i ++ (LL.take k).map fun t => (t, i)) t).length ≤ 2000000 := by
            refine Nat.le_trans (edgesTo_len _ _) ?_
            rw [List.length_append, List.length_map, List.length_take]
            have := HEL.out; have := HLS.out; omega
          obtain ⟨E, hE⟩ : ∃ E, (allE (leads K) i ++ (LL.take k).map fun t => (t, i)) = E := ⟨_, rfl⟩
          have HTE2 : Hid ((allE (leads K) i ++ (LL.take (k + 1)).map fun t => (t, i)) = E ++ [(t, i)]) := Lib.hid (by rw [HTE.out, hE])
          rw [hE] at HSK hEL
          clear hE
          obtain ⟨xa, xc, hxv⟩ := HSK.out.rows.form t htv
          have f0 := HSK.out.rows.get t htv
          have ff := HSK.out.rows.fz
          have hrow := HSK.out.rows.row t htv
          obtain ⟨ne, hne⟩ : ∃ ne, (edgesTo E t).length = ne := ⟨_, rfl⟩
          have HNE := Lib.hid hne
          rw [hne] at hrow hxv hEL
          have HXV := Lib.hid hxv
          clear hne
          have BXX : Below wr.heap.size wr ((wr.alloc (.cells #[.int .i64 (i : Int)] 3)).drew) := ((Below.refl _ _).alloc (Nat.le_refl _) _).drew
          have HBX := Lib.hid BXX
          have HROW : Hid (((wr.alloc (.cells #[.int .i64 (i : Int)] 3)).drew).ownsRow (w.heap.size + 2) 3 1 (.slice xa ne xc) ne ((edgesTo E t).map fun v : Nat => Value.int .i64 (v : Int))) := Lib.hid (by rw [← hxv]; exact ownsRow_below hrow BXX)
          have hbF : w.heap.size + 1 < wr.heap.size := HSK.out.rows.bl
          have HROB := Lib.hid (fun b e => (hrow.lt b e))
          rw [hxv] at f0
          have KH : Hid (∀ u, Below wr.heap.size wr u → u.cell? ⟨bl, ol + k, none⟩ = some (.int .i64 (t : Int)) ∧ u.cell? ⟨w.heap.size + 1, t, none⟩ = some (.slice xa ne xc) ∧ (∀ o, u.frozen? ⟨w.heap.size + 1, o, none⟩ = false)) := Lib.hid (fun u hu => ⟨(hu.cell (p := ⟨bl, _, none⟩) hbl).trans hcl1, (hu.cell (p := ⟨w.heap.size + 1, _, none⟩) hbF).trans f0, fun o => (hu.frozen (p := ⟨w.heap.size + 1, _, none⟩) hbF).trans (ff o)⟩)
          have HVL := Lib.hid hbl; have HOKL := Lib.hid hokl; have HBF' := Lib.hid hbF
          clear hrow BXX hxv
          go_wp2_with fail
          go_region_law (first
              | (refine step_append_opt _ (by rfl) _ _ _ (by rfl) (w.heap.size + 2) 3 j0 _ 1 8 Try.underlying44 hj0 hy0 hy1 hy2 rfl (by decide) (.slice xa ne xc) ne ((edgesTo E t).map fun v : Nat => Value.int .i64 (v : Int)) (by rfl) HROW.out (some ⟨wr.heap.size, 0, none⟩) 1 1 (by intro h; cases h) [.int .i64 (i : Int)] (by rfl) rfl (by intro ad had; cases had; exact one_cell wr _ _) (by intro u hu; simp only [List.mem_singleton] at hu; subst hu; rfl) (by unfold maxLen; omega) (by omega) (by have := HSK.out.size; have := HBX.out.size; omega) ?_
                 intro v9 w9 hown9 hg9 hf9
                 obtain ⟨g9, cap9, rfl⟩ := own_shape hown9 (by omega)
                 have htell := HSK.out.tell (j := i) HBX.out htv (by rw [HNE.out]; exact hown9) (by rw [HXV.out]; exact hg9) (by rw [HXV.out]; exact hf9)
                 have HTL := Lib.hid htell.1; have HTT := Lib.hid htell.2.1; have HTB := Lib.hid htell.2.2
                 have hb9 : w9.heap[w.heap.size + 1]? = wr.heap[w.heap.size + 1]? := (hg9.block _ (by have := HBX.out.size; have := HBF'.out; omega) (fun e => by rw [← HXV.out] at e; have := (HROB.out _ e.symm).1; omega)).trans (HBX.out.block _ HBF'.out)
                 have hl9 : w9.heap[bl]? = wr.heap[bl]? := (hg9.block _ (by have := HBX.out.size; have := HVL.out; omega) (fun e => by rw [← HXV.out] at e; exact HVN.out t htv bl e.symm HOKL.out)).trans (HBX.out.block _ HVL.out)
                 obtain ⟨m0, m1, m2⟩ : (w9.cell? ⟨bl, ol + k, none⟩ = some (.int .i64 (t : Int)) ∧ w9.cell? ⟨w.heap.size + 1, t, none⟩ = some (.slice xa ne xc) ∧ (∀ o, w9.frozen? ⟨w.heap.size + 1, o, none⟩ = false)) := ⟨(World.cell?_of_block (a := ⟨bl, ol + k, none⟩) hl9).trans (KH.out _ (Below.refl _ _)).1, (World.cell?_of_block (a := ⟨w.heap.size + 1, t, none⟩) hb9).trans (KH.out _ (Below.refl _ _)).2.1, fun o => (World.frozen?_of_block (a := ⟨w.heap.size + 1, o, none⟩) hb9).trans ((KH.out _ (Below.refl _ _)).2.2 o)⟩
                 clear htell hown9 hg9 hf9 hb9 hl9))
          all_goals
            go_wp2_with fail
            go_roundw
            case measure => simp [intOf]; omega
            case rel =>
              have hsz := HTT.out.size
              exact ⟨k + 1, _, by omega, by go_num, Lib.hid (by rw [HTE2.out]; exact HTL.out), Lib.hid (HIL.out.keep (HTT.out.keeps fun b hb e => e.elim (fun e => by subst e; exact HBFL.out hb) (fun e => HVN.out t htv b e hb))), Lib.hid (fun j hj b e => by
                rcases HTB.out j hj b e with ⟨h1, h2⟩ | h1
                · exact HVN.out j h1 b h2
                · exact fun h2 => by have h3 := HOL.out b h2; have h4 := HWZ.out; omega), Lib.hid (Nat.le_trans HWZ.out hsz)⟩
        · have HSE : Hid (SkAt w wr K (i + 1) l2 vs2 (allE (leads K) (i + 1))) := Lib.hid (by
            have := HSK.out
            rw [List.take_of_length_le (by omega)] at this
            rw [HES.out]; exact this)
          go_wp2_with fail
          go_roundw
          case measure => simp [intOf]; omega
          case rel => exact ⟨i + 1, l2, vs2, by omega, by go_num, HSE⟩
    · have hin : i = K.length := by omega
      subst hin
      have HKW := Lib.hid HSK.out.ends
      have HLT := Lib.hid (fun i hi j hj => leads_lt HK.out i hi j hj)
      have HKS := Lib.hid (Kah.start (L := leads K) (n := K.length) (left := fun v => (leads K v).length) (fun _ _ => rfl))
      have hbs := HSK.out.rows.bl
      clear HSK
      generalize wr = wo at *
      go_wp2_with fail
      go_loopw [8, 9] (fun v8 v9 wz => ∃ (i : Nat) (xa : Option Addr) (xc : Nat), i ≤ K.length ∧ v9 = .int .i64 i ∧ v8 = .slice xa ((List.range i).filter fun v => (leads K v).length == 0).length xc ∧ Hid (KW w wz K wo.heap.size (fun b => w.heap.size + 1 ≤ b ∧ b < wo.heap.size) xa xc ((List.range i).filter fun v => (leads K v).length == 0) (fun v => (leads K v).length))) (fun _ v9 _ => K.length - (intOf v9).toNat)
      case atStart => exact ⟨0, none, 0, Nat.zero_le _, rfl, rfl, HKW⟩
      case round =>
        obtain ⟨i, xa, xc, hi, rfl, rfl, HW⟩ := hrel
        by_cases hlt3 : i < K.length
        · have d0 := HW.out.left hlt3
          have dsz := HW.out.size
          have hgl : ((List.range i).filter fun v => (leads K v).length == 0).length ≤ i := by
            have := List.length_filter_le (fun v => (leads K v).length == 0) (List.range i)
            rwa [List.length_range] at this
          have HFS := Lib.hid (filt_succ (fun v => (leads K v).length == 0) i)
          generalize hG : (List.range i).filter (fun v => (leads K v).length == 0) = G at *
          by_cases hz : (leads K i).length = 0
          · have hz' : (((leads K i).length : Int) == 0) = true := by rw [hz]; rfl
            have HF2 : Hid ((List.range (i + 1)).filter (fun v => (leads K v).length == 0) = G ++ [i]) := Lib.hid (by rw [HFS.out, if_pos (by simpa using hz)])
            have HOO := Lib.hid (HW.out.row.alloc (.cells #[.int .i64 (i : Int)] 3))
            have HBX : Hid (Below wr.heap.size wr (wr.alloc (.cells #[.int .i64 (i : Int)] 3))) := Lib.hid ((Below.refl _ _).alloc (Nat.le_refl _) _)
            clear hG HFS
            go_wp2_with (at_builtin; have _g := HOO; refine wpList_append_opt _ rfl _ _ 44 rfl wo.heap.size 3 j0 _ 1 8 Try.underlying44 hj0 hy0 hy1 hy2 rfl (by decide) _ _ _ rfl HOO.out (some ⟨wr.heap.size, 0, none⟩) 1 1 ?p0 [.int .i64 (i : Int)] rfl rfl ?p1 ?p2 ?p3 ?p4 ?p5 ?_)
            case p0 => intro h; cases h
            case p1 => intro ad had; cases had; exact one_cell wr (.int .i64 (i : Int)) 3
            case p2 => intro u hu; simp only [List.mem_singleton] at hu; subst hu; rfl
            case p3 => unfold maxLen; omega
            case p4 => omega
            case p5 => simp only [aSz]; omega
            · intro v8 w8 hown8 hgrow8 hfr8
              obtain ⟨g8, cap8, rfl⟩ := own_shape hown8 (by omega)
              have HP8 := Lib.hid (HW.out.push HBX.out hown8 hgrow8)
              clear hown8 hgrow8 hfr8
              go_wp2_with fail
              go_roundw
              case measure => simp [intOf]; omega
              case rel => exact ⟨i + 1, _, _, by omega, by go_num, by rw [HF2.out, List.length_append]; rfl, by rw [HF2.out]; exact HP8⟩
          · have hz' : (((leads K i).length : Int) == 0) = false := by rw [beq_eq_false_iff_ne]; omega
            have HF2 : Hid ((List.range (i + 1)).filter (fun v => (leads K v).length == 0) = G) := Lib.hid (by rw [HFS.out, if_neg (by simpa using hz), List.append_nil])
            clear hG HFS
            go_wp2_with fail
            go_roundw
            case measure => simp [intOf]; omega
            case rel => exact ⟨i + 1, _, _, by omega, by go_num, by rw [HF2.out], by rw [HF2.out]; exact HW⟩
        · have hin : i = K.length := by omega
          subst hin
          generalize hG : (List.range K.length).filter (fun v => (leads K v).length == 0) = G0 at *
          generalize hl0 : (fun v => (leads K v).length) = left0 at *
          clear hG hl0 HKW
          generalize (fun b => w.heap.size + 1 ≤ b ∧ b < wo.heap.size) = okF at *
          generalize wr = wy at *
          generalize wo.heap.size = base at *
          have HW0 := HW
          clear HW
          have HAE := Lib.hid (allE_len HK.out K.length (Nat.le_refl _))
          go_wp2_with fail
          go_loopw [8, 10] (fun v8 v10 wz => ∃ (k : Nat) (G : List Nat) (left : Nat → Nat) (xa : Option Addr) (xc : Nat), v10 = .int .i64 k ∧ v8 = .slice xa G.length xc ∧ Hid (Kah (leads K) K.length G k [] left) ∧ Hid (KW w wz K base okF xa xc G left)) (fun _ v10 _ => K.length - (intOf v10).toNat)
          case atStart => exact ⟨0, G0, left0, xa, xc, rfl, rfl, HKS, HW0⟩
          case round =>
            obtain ⟨k, G, left, xa, xc, rfl, rfl, HKA, HW⟩ := hrel
            have hGn := (nodup_bound K.length G HKA.out.nodup HKA.out.lt).1
            have hkl := HKA.out.kl
            by_cases hk : k < G.length
            · obtain ⟨ga, rfl, hga, hgb, d0, hgc, hgm⟩ := HW.out.goes hk
              obtain ⟨g, hg⟩ : ∃ g, G[k] = g := ⟨_, rfl⟩
              have hgk : g < K.length := by rw [← hg]; exact HKA.out.lt _ (List.getElem_mem hk)
              rw [hg] at d0
              have HG0 : Hid (∃ h : k < G.length, G[k] = g) := Lib.hid ⟨hk, hg⟩
              obtain ⟨la, lc, f0, hia⟩ := HW.out.frm.at' g hgk
              have HIA := Lib.hid hia
              have hRl : (edgesTo (allE (leads K) K.length) g).length ≤ 1600000 := by
                have := edgesTo_len (allE (leads K) K.length) g
                have := HAE.out; omega
              obtain ⟨R, hR⟩ : ∃ R, edgesTo (allE (leads K) K.length) g = R := ⟨_, rfl⟩
              have HRR := Lib.hid hR
              rw [hR] at f0 HIA hRl
              have HRM : Hid (∀ v, v ∈ R → v < K.length) := Lib.hid (fun v hv => by rw [← hR] at hv; exact edge_mem hv)
              clear hg hia hR
              have hgcm : xc ≤ 9223372036854775807 := by unfold maxLen at hgm; omega
              have HT0 : Hid (Kah (leads K) K.length G k (R.take 0) left) := HKA
              generalize wr = wq at *
              go_wp2_with fail
              go_loopw [8, 12] (fun v8 v12 wz => ∃ (i : Nat) (G' : List Nat) (left' : Nat → Nat) (xb : Option Addr) (xd : Nat), i ≤ R.length ∧ v12 = .int .i64 i ∧ v8 = .slice xb G'.length xd ∧ Hid (Kah (leads K) K.length G' k (R.take i) left') ∧ Hid (KW w wz K base okF xb xd G' left') ∧ Hid (∃ h : k < G'.length, G'[k] = g) ∧ Hid (IsAt wz okF (R.map fun v : Nat => (v : Int)) la lc)) (fun _ v12 _ => R.length - (intOf v12).toNat)
              case atStart => exact ⟨0, G, left, _, _, Nat.zero_le _, rfl, rfl, HT0, HW, HG0, HIA⟩
              case round =>
                obtain ⟨i, G', left', xb, xd, hi, rfl, rfl, HKB, HWB, HGB, HIB⟩ := hrel
                by_cases hil : i < R.length
                · obtain ⟨lb, lo, rfl, hokl, hlb, e0⟩ := HIB.out.at' i (by simpa using hil)
                  simp only [List.getElem_map] at e0
                  obtain ⟨v, hv⟩ : ∃ v, R[i] = v := ⟨_, rfl⟩
                  have hvn : v < K.length := HRM.out v (by rw [← hv]; exact List.getElem_mem hil)
                  rw [hv] at e0
                  have HD : Hid (edgesTo (allE (leads K) K.length) (G'[k]'HGB.out.1) = R.take i ++ v :: R.drop (i + 1)) := Lib.hid (by
                    rw [HGB.out.2, HRR.out, ← hv, List.getElem_cons_drop, List.take_append_drop])
                  have HTS : Hid (R.take (i + 1) = R.take i ++ [v]) := Lib.hid (by rw [List.take_succ_eq_append_getElem hil, hv])
                  obtain ⟨hl1, htl⟩ := HKB.out.tell HGB.out.1 hvn HD.out
                  have HTL := Lib.hid (htl (fun u => if u = v then left' v - 1 else left' u) (fun u => rfl))
                  have e1 := HWB.out.left hvn
                  have ef := HWB.out.ints.fz
                  have hne := (HWB.out.okl lb hokl).2
                  have hGn2 := (nodup_bound K.length G' HKB.out.nodup HKB.out.lt).1
                  have hbL : w.heap.size < wr.heap.size := HWB.out.ints.lt
                  have HDC := Lib.hid (HWB.out.dec hl1)
                  have HKI : Hid (I64 ((left' v : Nat) : Int)) := Lib.hid (by
                    have h1 := HKB.out.cnt v hvn
                    have h2 : Go.Proofs.Ytikmgiapjigghaa.cnt (leads K) (G'.take k) v ≤ (leads K v).length := List.countP_le_length
                    have h3 := leads_len (HK.out v hvn)
                    unfold I64; omega)
                  have hlI : (left' v : Int) ≤ 4 := by
                    have h1 := HKB.out.cnt v hvn
                    have h2 : Go.Proofs.Ytikmgiapjigghaa.cnt (leads K) (G'.take k) v ≤ (leads K v).length := List.countP_le_length
                    have h3 := leads_len (HK.out v hvn)
                    omega
                  have HIC : Hid (IsAt (wr.setCell ⟨w.heap.size, v, none⟩ (.int .i64 ((left' v : Int) - 1))) okF (R.map fun v : Nat => (v : Int)) (some ⟨lb, lo, none⟩) lc) := Lib.hid (HIB.out.keep ⟨by simp [World.setCell], fun b hb _ => Below.heap_setCell _ _ _ _ (HWB.out.okl b hb).2⟩)
                  have hz2 := HDC.out.size
                  clear htl hv
                  by_cases hone : left' v = 1
                  · have hz' : ((left' v : Int) - 1 == 0) = true := by rw [hone]; rfl
                    have HK2 := Lib.hid (HTL.out.1 hone)
                    have HOO := Lib.hid (HDC.out.row.alloc (.cells #[.int .i64 (v : Int)] 3))
                    have HBX := Lib.hid ((Below.refl (wr.setCell ⟨w.heap.size, v, none⟩ (.int .i64 ((left' v : Int) - 1))).heap.size _).alloc (Nat.le_refl _) (.cells #[.int .i64 (v : Int)] 3))
                    have HSW : Hid ((wr.setCell ⟨w.heap.size, v, none⟩ (.int .i64 ((left' v : Int) - 1))).heap.size = wr.heap.size) := Lib.hid (by simp [World.setCell])
                    have hoc := Lib.hid (one_cell (wr.setCell ⟨w.heap.size, v, none⟩ (.int .i64 ((left' v : Int) - 1))) (.int .i64 (v : Int)) 3)
                    rw [HSW.out] at hoc
                    clear hone
                    go_wp2_with (at_builtin; have _g := HOO; refine wpList_append_opt _ rfl _ _ 44 rfl base 3 j0 _ 1 8 Try.underlying44 hj0 hy0 hy1 hy2 rfl (by decide) _ _ _ rfl HOO.out (some ⟨wr.heap.size, 0, none⟩) 1 1 ?q0 [.int .i64 (v : Int)] rfl rfl ?q1 ?q2 ?q3 ?q4 ?q5 ?_)
                    case q0 => intro h; cases h
                    case q1 => intro ad had; cases had; exact hoc.out
                    case q2 => intro u hu; simp only [List.mem_singleton] at hu; subst hu; rfl
                    case q3 => unfold maxLen; omega
                    case q4 => omega
                    case q5 => have := HBX.out.size; omega
                    · intro v8 w8 hown8 hgrow8 hfr8
                      obtain ⟨g8, cap8, rfl⟩ := own_shape hown8 (by omega)
                      have HP8 := Lib.hid (HDC.out.push HBX.out hown8 hgrow8)
                      have HT8 : Hid (Touch (fun b => (Value.slice xb G'.length xd).ownBlock = some b) (wr.setCell ⟨w.heap.size, v, none⟩ (.int .i64 ((left' v : Int) - 1))) w8) := Lib.hid ((Touch.below HBX.out).trans (Touch.grown hgrow8 fun k e => e))
                      have HI8 := Lib.hid (HIC.out.keep (HT8.out.keeps fun b hb e => by have := (HWB.out.row.lt b e).1; have := (HWB.out.okl b hb).1; omega))
                      clear hown8 hgrow8 hfr8
                      go_wp2_with fail
                      go_roundw
                      case measure => simp [intOf]; omega
                      case rel => exact ⟨i + 1, G' ++ [v], _, _, _, by omega, by go_num, by rw [List.length_append]; rfl, Lib.hid (by rw [HTS.out]; exact HK2.out), HP8, Lib.hid ⟨by rw [List.length_append]; have := HGB.out.1; omega, by rw [List.getElem_append_left HGB.out.1]; exact HGB.out.2⟩, HI8⟩
                  · have hz' : ((left' v : Int) - 1 == 0) = false := by rw [beq_eq_false_iff_ne]; omega
                    have HK2 := Lib.hid (HTL.out.2 hone)
                    go_wp2_with fail
                    go_roundw
                    case measure => simp [intOf]; omega
                    case rel => exact ⟨i + 1, G', _, _, _, by omega, by go_num, rfl, Lib.hid (by rw [HTS.out]; exact HK2.out), HDC, HGB, HIC⟩
                · have HKE : Hid (Kah (leads K) K.length G' (k + 1) [] left') := Lib.hid (by
                    have := HKB.out
                    rw [List.take_of_length_le (by omega)] at this
                    exact this.gone HGB.out.1 (by rw [HGB.out.2, HRR.out]))
                  have hGn2 := (nodup_bound K.length G' HKB.out.nodup HKB.out.lt).1
                  have hkg := HGB.out.1
                  go_wp2_with fail
                  go_roundw
                  case measure => simp [intOf]; omega
                  case rel => exact ⟨k + 1, G', left', xb, xd, by go_num, rfl, HKE, HWB⟩
            · have HDN := Lib.hid (HKA.out.done (by omega) (fun i hi j hj => HLT.out i hi j hj))
              have HBW := Lib.hid HW.out.below
              by_cases hfin : G.length = K.length
              · have hfin' : ((G.length : Int) == (K.length : Int)) = true := by rw [hfin]; simp
                have HST : Hid (straightB K = true) := Lib.hid (straightB_true (HDN.out.1 hfin))
                go_wp2_with fail
                go_ret
                exact ⟨by rw [HST.out]; rfl, HBW.out⟩
              · have hfin' : ((G.length : Int) == (K.length : Int)) = false := by rw [beq_eq_false_iff_ne]; omega
                have HST : Hid (straightB K = false) := Lib.hid (straightB_false fun h => hfin (HDN.out.2 h))
                go_wp2_with fail
                go_ret
                exact ⟨by rw [HST.out]; rfl, HBW.out⟩

end Go.Proofs.Ytikmgiapjigghaa

/- Walk: the reference's CheckHeap. -/
namespace Go.Proofs.Ytikmgiapjigghaa
open Go.RowKit

theorem betw_no {n lo hi : Int} (h : ¬ (lo ≤ n ∧ n ≤ hi)) : betw n lo hi = false := Bool.eq_false_iff.2 fun e => h (betw_iff.1 e)

set_option maxRecDepth 100000 in
set_option maxHeartbeats 4000000 in
theorem CheckHeapW {w : World} {ok : Nat → Prop} {K : List HC} {a : Option Addr} {cap : Nat} (h : HpAt w ok K a cap) :
    Calls Try.prog 30 #[.slice a K.length cap] w fun e w' => e = .returned (.int .i64 (checkH K : Nat)) ∧ Below w.heap.size w w' := by
  have HP := Lib.hid h
  have hcl : K.length ≤ 9223372036854775807 := by have := h.cap; unfold maxLen at this; omega
  clear h
  by_cases hl : 400000 < K.length
  · have hl' : (400000 : Int) < (K.length : Int) := by omega
    have HO := Lib.hid (checkH_many hl)
    go_enter Try.func30, Try.ntmps30
    go_wp2_with fail
    go_ret
    exact ⟨retN HO.out.symm, Below.refl _ _⟩
  · have hl' : (K.length : Int) ≤ 400000 := by omega
    have hln : K.length ≤ 400000 := by omega
    have HL := Lib.hid hl
    clear hl
    go_enter Try.func30, Try.ntmps30
    go_wp2_with fail
    go_loopw [3] (fun y wr => ∃ i : Nat, i ≤ K.length ∧ y = .int .i64 i ∧ Hid (∀ j, j < i → cellE K j = 0) ∧ Hid (Below w.heap.size w wr)) (fun y _ => K.length - (intOf y).toNat)
    case atStart => exact ⟨0, Nat.zero_le _, rfl, Lib.hid (fun j hj => absurd hj (Nat.not_lt_zero j)), Lib.hid (Below.refl _ _)⟩
    case round =>
      obtain ⟨i, hi, rfl, HZ, HB⟩ := hrel
      by_cases hlt : i < K.length
      · have HX : Hid (∀ c, cellE K i = c → c ≠ 0 → checkH K = c) := Lib.hid (fun c h1 h2 => by
          have h3 : cellE K i ≠ 0 := by rw [h1]; exact h2
          have := firstCell_at K.length i hlt HZ.out h3
          rw [checkH_cell HL.out (by rw [this]; exact h3), this, h1])
        have HY : Hid (cellE K i = 0 → ∀ j, j < i + 1 → cellE K j = 0) := Lib.hid (fun h j hj => by
          by_cases e : j = i
          · subst e; exact h
          · exact HZ.out j (by omega))
        have HPR := Lib.hid (HP.out.below HB.out)
        obtain ⟨b, off, rfl, hokb, hb, c0, c1, c2, hf⟩ := HPR.out.at' i hlt
        have HBX : Hid (Below w.heap.size w (wr.alloc (.cells #[.int .i64 (hc K i).k, .int .i64 (hc K i).n, .string (hc K i).name] 120))) := Lib.hid (HB.out.trans (((Below.refl _ _).alloc (Nat.le_refl _) _).mono HB.out.size))
        have HFN := Lib.hid hf.2.2
        have HCE1 := Lib.hid (cellE_ref (K := K) (i := i))
        have HCE2 := Lib.hid (cellE_fn (K := K) (i := i))
        have HCE3 := Lib.hid (cellE_no (K := K) (i := i))
        clear hokb hf
        by_cases hk : (hc K i).k = 1
        · by_cases hbt : 0 ≤ (hc K i).n ∧ (hc K i).n ≤ (K.length : Int) - 1
          · have hbt' : betw (hc K i).n 0 ((K.length : Int) - 1) = true := betw_iff.2 hbt
            by_cases hz : (hc K i).name.size = 0
            · have HE : Hid (cellE K i = 0) := Lib.hid (by rw [HCE1.out hk, if_neg (by omega), if_neg (fun h => h hz)])
              have hne := emptyB _ hz
              rw [hne] at c2 HBX
              rw [hk] at c0 HBX
              clear hz hne hk hbt
              go_wp2_with (first | (go_at_call 61; refine (betweenW _ _ _ _).mono ?_; rintro e w' ⟨rfl, rfl⟩) | (go_at_call 62; refine (IsNameW _ _ HFN.out).mono ?_; rintro e w' ⟨rfl, rfl⟩))
              all_goals
                go_roundw
                case measure => simp [intOf]; omega
                case rel => exact ⟨i + 1, by omega, by go_num, Lib.hid (HY.out HE.out), HBX⟩
            · have HO : Hid (checkH K = 1) := Lib.hid (HX.out 1 (by rw [HCE1.out hk, if_neg (by omega), if_pos hz]) (by omega))
              have hne : (hc K i).name.toList.isEmpty = false := by rw [List.isEmpty_eq_false_iff]; exact toList_ne _ hz
              rw [hk] at c0 HBX
              clear hz hk hbt
              go_wp2_with (first | (go_at_call 61; refine (betweenW _ _ _ _).mono ?_; rintro e w' ⟨rfl, rfl⟩) | (go_at_call 62; refine (IsNameW _ _ HFN.out).mono ?_; rintro e w' ⟨rfl, rfl⟩))
              all_goals
                go_ret
                exact ⟨retN HO.out.symm, HBX.out⟩
          · have hbt' : betw (hc K i).n 0 ((K.length : Int) - 1) = false := betw_no hbt
            have HO : Hid (checkH K = 5) := Lib.hid (HX.out 5 (by rw [HCE1.out hk, if_pos (by omega)]) (by omega))
            rw [hk] at c0 HBX
            clear hk hbt
            go_wp2_with (first | (go_at_call 61; refine (betweenW _ _ _ _).mono ?_; rintro e w' ⟨rfl, rfl⟩) | (go_at_call 62; refine (IsNameW _ _ HFN.out).mono ?_; rintro e w' ⟨rfl, rfl⟩))
            all_goals
              go_ret
              exact ⟨retN HO.out.symm, HBX.out⟩
        · have hk1 : ((hc K i).k == 1) = false := by simpa using hk
          by_cases hk2 : (hc K i).k = 2
          · have HCB : Hid (cellE K i = blockE K i) := Lib.hid (HCE2.out hk hk2)
            by_cases hn : nameB (hc K i).name = true
            · by_cases h4 : 0 ≤ (hc K i).n ∧ (hc K i).n ≤ 4
              · have h4' : betw (hc K i).n 0 4 = true := betw_iff.2 h4
                by_cases h33 : (hc K i).name.toList = [33]
                · have h33' := is33.2 h33
                  by_cases h0 : 0 < (hc K i).n
                  · have HO : Hid (checkH K = 1) := Lib.hid (HX.out 1 (by rw [HCB.out, blockE_bad (.inr (.inr (.inr ⟨h33, h0⟩)))]) (by omega))
                    rw [hk2] at c0 HBX hk1
                    clear hk hk2
                    go_wp2_with (first | (go_at_call 61; refine (betweenW _ _ _ _).mono ?_; rintro e w' ⟨rfl, rfl⟩) | (go_at_call 62; refine (IsNameW _ _ HFN.out).mono ?_; rintro e w' ⟨rfl, rfl⟩))
                    all_goals
                      go_ret
                      exact ⟨retN HO.out.symm, HBX.out⟩
                  · have hz : (hc K i).n = 0 := by omega
                    have HE : Hid (cellE K i = 0) := Lib.hid (by
                      rw [HCB.out]
                      exact blockE_ok (by
                        rintro (h | h | h | h)
                        · exact h hn
                        · omega
                        · omega
                        · exact h0 h.2) (by omega) (fun q hq => by rw [hz] at hq; exact absurd hq (Nat.not_lt_zero q)))
                    have hi5 : (i : Int) ≤ (K.length : Int) - 1 := by omega
                    rw [hk2] at c0 HBX hk1
                    rw [hz] at c1 HBX h4'
                    have HBC : Hid (BoxC (wr.alloc (.cells #[.int .i64 2, .int .i64 0, .string (hc K i).name] 120)) wr.heap.size ⟨2, 0, (hc K i).name⟩) := Lib.hid ⟨heap_alloc_new wr _⟩
                    clear hk hk2 h4 h0 hz
                    go_wp2_with (first | (go_at_call 61; refine (betweenW _ _ _ _).mono ?_; rintro e w' ⟨rfl, rfl⟩) | (go_at_call 62; refine (IsNameW _ _ HFN.out).mono ?_; rintro e w' ⟨rfl, rfl⟩))
                    all_goals
                      generalize wr.alloc (.cells #[.int .i64 2, .int .i64 0, .string (hc K i).name] 120) = wb at *
                      generalize wr = wq at *
                      go_loopw [5] (fun y wr => y = .int .i64 1 ∧ Hid (Below wb.heap.size wb wr)) (fun y _ => 0)
                      case atStart => exact ⟨rfl, Lib.hid (Below.refl _ _)⟩
                      case round =>
                        obtain ⟨rfl, HBW⟩ := hrel
                        have HBR : Hid (Below w.heap.size w wr) := Lib.hid (HBX.out.trans (HBW.out.mono HBX.out.size))
                        have g1 := (HBC.out.keep (HBW.out.block _ HBC.out.lt)).c1
                        have hlw : wq.heap.size < wr.heap.size := Nat.lt_of_lt_of_le HBC.out.lt HBW.out.size
                        simp only at g1
                        go_wp2_with fail
                        go_roundw
                        case measure => simp [intOf]; omega
                        case rel => exact ⟨i + 1, by omega, by go_num, Lib.hid (HY.out HE.out), HBR⟩
                · have h33' := not33.2 h33
                  have HG : Hid (¬ (¬ (nameB (hc K i).name = true) ∨ (hc K i).n < 0 ∨ 4 < (hc K i).n ∨ ((hc K i).name.toList = [33] ∧ 0 < (hc K i).n))) := Lib.hid (by
                    rintro (h | h | h | h)
                    · exact h hn
                    · omega
                    · omega
                    · exact h33 h.1)
                  by_cases h5 : (K.length : Int) ≤ (i : Int) + (hc K i).n
                  · have HO : Hid (checkH K = 5) := Lib.hid (HX.out 5 (by rw [HCB.out, blockE_none HG.out h5]) (by omega))
                    have h5' : (K.length : Int) - 1 < (i : Int) + (hc K i).n := by omega
                    have hn4 := h4.2
                    rw [hk2] at c0 HBX hk1
                    clear hk hk2 h5
                    go_wp2_with (first | (go_at_call 61; refine (betweenW _ _ _ _).mono ?_; rintro e w' ⟨rfl, rfl⟩) | (go_at_call 62; refine (IsNameW _ _ HFN.out).mono ?_; rintro e w' ⟨rfl, rfl⟩))
                    all_goals
                      go_ret
                      exact ⟨retN HO.out.symm, HBX.out⟩
                  · obtain ⟨m, hm⟩ : ∃ m : Nat, (hc K i).n = (m : Int) := ⟨(hc K i).n.toNat, by omega⟩
                    have HM := Lib.hid hm
                    have hm4 : m ≤ 4 := by omega
                    have him : (i : Int) + (m : Int) ≤ (K.length : Int) - 1 := by omega
                    have himn : i + m < K.length := by omega
                    rw [hk2] at c0 HBX hk1
                    rw [hm] at c1 HBX h4'
                    have HBC : Hid (BoxC (wr.alloc (.cells #[.int .i64 2, .int .i64 (m : Int), .string (hc K i).name] 120)) wr.heap.size ⟨2, (m : Int), (hc K i).name⟩) := Lib.hid ⟨heap_alloc_new wr _⟩
                    have HWW : Hid (Below wr.heap.size wr (wr.alloc (.cells #[.int .i64 2, .int .i64 (m : Int), .string (hc K i).name] 120))) := Lib.hid ((Below.refl _ _).alloc (Nat.le_refl _) _)
                    have HWB := Lib.hid HWW.out.size
                    clear hk hk2 h5 h4 hm
                    go_wp2_with (first | (go_at_call 61; refine (betweenW _ _ _ _).mono ?_; rintro e w' ⟨rfl, rfl⟩) | (go_at_call 62; refine (IsNameW _ _ HFN.out).mono ?_; rintro e w' ⟨rfl, rfl⟩))
                    all_goals
                      generalize wr.alloc (.cells #[.int .i64 2, .int .i64 (m : Int), .string (hc K i).name] 120) = wb at *
                      generalize wr = wq at *
                      go_loopw [5] (fun y wr => ∃ j : Nat, j ≤ m ∧ y = .int .i64 ((j : Int) + 1) ∧ Hid (∀ q : Nat, q < j → (hc K (i + 1 + q)).k = 1) ∧ Hid (Below wb.heap.size wb wr)) (fun y _ => m + 1 - (intOf y).toNat)
                      case atStart => exact ⟨0, Nat.zero_le _, rfl, Lib.hid (fun q h => absurd h (Nat.not_lt_zero q)), Lib.hid (Below.refl _ _)⟩
                      case round =>
                        obtain ⟨j, hj, rfl, HQ, HBW⟩ := hrel
                        have HBR : Hid (Below w.heap.size w wr) := Lib.hid (HBX.out.trans (HBW.out.mono HBX.out.size))
                        have g1 := (HBC.out.keep (HBW.out.block _ HBC.out.lt)).c1
                        have hlw : wq.heap.size < wr.heap.size := Nat.lt_of_lt_of_le HBC.out.lt HBW.out.size
                        simp only at g1
                        by_cases hjm : j < m
                        · obtain ⟨b', off', he, -, hb', d0, d1, d2, -⟩ := HPR.out.at' (i + 1 + j) (by omega)
                          injection he with he
                          injection he with e1 e2
                          subst e1; subst e2
                          rw [show off + (i + 1 + j) * 3 = off + (i + (j + 1)) * 3 by omega] at d0
                          have hbl := Nat.lt_of_lt_of_le hb' HWB.out
                          have g0 := (HBW.out.cell (p := ⟨b, _, none⟩) hbl).trans ((HWW.out.cell (p := ⟨b, _, none⟩) hb').trans d0)
                          have e9 : (i : Int) + ((j : Int) + 1) = ((i + (j + 1) : Nat) : Int) := by omega
                          have hij : (i : Int) + ((j : Int) + 1) < (K.length : Int) := by omega
                          clear d0 d1 d2 hb' hbl e9
                          by_cases hkk : (hc K (i + 1 + j)).k = 1
                          · have hk' : ((hc K (i + 1 + j)).k != 1) = false := by rw [hkk]; rfl
                            have HQ' : Hid (∀ q : Nat, q < j + 1 → (hc K (i + 1 + q)).k = 1) := Lib.hid (fun q hq => by
                              by_cases e : q = j
                              · subst e; exact hkk
                              · exact HQ.out q (by omega))
                            clear hkk
                            go_wp2_with fail
                            go_roundw
                            case measure => simp [intOf]; omega
                            case rel => exact ⟨j + 1, by omega, by go_num, HQ', HBW⟩
                          · have hk' : ((hc K (i + 1 + j)).k != 1) = true := by rw [bne_iff_ne]; exact hkk
                            have HO : Hid (checkH K = 1) := Lib.hid (HX.out 1 (by rw [HCB.out, blockE_kind HG.out (by rw [HM.out]; omega) (fun h => hkk (h j (by rw [HM.out]; omega)))]) (by omega))
                            clear hkk
                            go_wp2_with fail
                            go_ret
                            exact ⟨retN HO.out.symm, HBR.out⟩
                        · have HE : Hid (cellE K i = 0) := Lib.hid (by rw [HCB.out]; exact blockE_ok HG.out (by rw [HM.out]; omega) (fun q hq => HQ.out q (by rw [HM.out] at hq; omega)))
                          go_wp2_with fail
                          go_roundw
                          case measure => simp [intOf]; omega
                          case rel => exact ⟨i + 1, by omega, by go_num, Lib.hid (HY.out HE.out), HBR⟩
              · have h4' : betw (hc K i).n 0 4 = false := betw_no h4
                have HO : Hid (checkH K = 1) := Lib.hid (HX.out 1 (by rw [HCB.out, blockE_bad ((Int.lt_or_le (hc K i).n 0).elim (fun h => .inr (.inl h)) (fun h => .inr (.inr (.inl (by omega)))))]) (by omega))
                rw [hk2] at c0 HBX hk1
                clear hk hk2
                go_wp2_with (first | (go_at_call 61; refine (betweenW _ _ _ _).mono ?_; rintro e w' ⟨rfl, rfl⟩) | (go_at_call 62; refine (IsNameW _ _ HFN.out).mono ?_; rintro e w' ⟨rfl, rfl⟩))
                all_goals
                  go_ret
                  exact ⟨retN HO.out.symm, HBX.out⟩
            · have hn' : nameB (hc K i).name = false := Bool.eq_false_iff.2 hn
              have HO : Hid (checkH K = 1) := Lib.hid (HX.out 1 (by rw [HCB.out, blockE_bad (.inl hn)]) (by omega))
              rw [hk2] at c0 HBX hk1
              clear hk hk2
              go_wp2_with (first | (go_at_call 61; refine (betweenW _ _ _ _).mono ?_; rintro e w' ⟨rfl, rfl⟩) | (go_at_call 62; refine (IsNameW _ _ HFN.out).mono ?_; rintro e w' ⟨rfl, rfl⟩))
              all_goals
                go_ret
                exact ⟨retN HO.out.symm, HBX.out⟩
          · have HO : Hid (checkH K = 1) := Lib.hid (HX.out 1 (HCE3.out hk hk2) (by omega))
            have hk2' : ((hc K i).k == 2) = false := by simpa using hk2
            clear hk hk2
            go_wp2_with (first | (go_at_call 61; refine (betweenW _ _ _ _).mono ?_; rintro e w' ⟨rfl, rfl⟩) | (go_at_call 62; refine (IsNameW _ _ HFN.out).mono ?_; rintro e w' ⟨rfl, rfl⟩))
            all_goals
              go_ret
              exact ⟨retN HO.out.symm, HBX.out⟩
      · have HOK : Hid (CellsOk K) := Lib.hid (fun j hj => HZ.out j (by omega))
        have HF : Hid (firstCell K K.length = 0) := Lib.hid (firstCell_zero _ HOK.out)
        have HST := Lib.hid (StraightRefW (HP.out.below HB.out) HOK.out hln)
        by_cases hs : Straight K
        · have hs' := straightB_true hs
          rw [hs'] at HST
          have HO := Lib.hid (checkH_ok HL.out HF.out hs)
          clear hs hs'
          go_wp2_with (go_at_call 78; refine HST.out.mono ?_; rintro e w1 ⟨rfl, hb1⟩)
          go_ret
          exact ⟨retN HO.out.symm, HB.out.trans (hb1.mono HB.out.size)⟩
        · have hs' := straightB_false hs
          rw [hs'] at HST
          have HO := Lib.hid (checkH_circle HL.out HF.out hs)
          clear hs hs'
          go_wp2_with (go_at_call 78; refine HST.out.mono ?_; rintro e w1 ⟨rfl, hb1⟩)
          go_ret
          exact ⟨retN HO.out.symm, HB.out.trans (hb1.mono HB.out.size)⟩

end Go.Proofs.Ytikmgiapjigghaa

/- Walk: Build. -/
namespace Go.Proofs.Ytikmgiapjigghaa
open Go.RowKit

/-- What Build answers. -/
inductive BA where
  | err (n : Nat)
  | ok (H : List HC) (c : Nat) (l : List Int)

/-- The cells that are told. -/
def toldV (V : CV) (n : Nat) : List Int := (List.range n).map fun i : Nat => match V ((i : Int) + 1) with | some c => (c : Int) | none => -1

def bA (K : List HC) (t : Tm) : (c : Nat) → BA := fun c =>
  if c ≠ 0 then .err c else if t.checkE ≠ 0 then .err t.checkE else
    if 400000 < (putT K (fun _ => none) t).1.1.length then .err 2 else .ok (putT K (fun _ => none) t).1.1 (putT K (fun _ => none) t).2 (toldV (putT K (fun _ => none) t).1.2 12)

def BPost (w : World) (o : BA) (e : Ending) (w' : World) : Prop :=
  Below w.heap.size w w' ∧
  match o with
  | .err n => e = .returned (.tuple #[.slice none 0 0, .int .i64 0, .slice none 0 0, .int .i64 (n : Nat)])
  | .ok H c l => ∃ a cap a2 c2, e = .returned (.tuple #[.slice a H.length cap, .int .i64 (c : Nat), .slice a2 l.length c2, .int .i64 0]) ∧ HpAt w' (fun b => w.heap.size ≤ b) H a cap ∧ IsAt w' (fun b => w.heap.size ≤ b) l a2 c2

theorem PB3.next {w : World} {v0 v1 v2 : Value} {b : Nat} {w1 w2 : World} (h : w1.cell? ⟨b, 0, none⟩ = some v0 ∧ w1.cell? ⟨b, 1, none⟩ = some v1 ∧ w1.cell? ⟨b, 2, none⟩ = some v2 ∧ Below w.heap.size w w1) (hb : b < w.heap.size) (hbl : Below w.heap.size w1 w2) : w2.cell? ⟨b, 0, none⟩ = some v0 ∧ w2.cell? ⟨b, 1, none⟩ = some v1 ∧ w2.cell? ⟨b, 2, none⟩ = some v2 ∧ Below w.heap.size w w2 :=
  ⟨(hbl.cell (p := ⟨b, 0, none⟩) hb).trans h.1, (hbl.cell (p := ⟨b, 1, none⟩) hb).trans h.2.1, (hbl.cell (p := ⟨b, 2, none⟩) hb).trans h.2.2.1, h.2.2.2.trans hbl⟩

set_option maxRecDepth 100000 in
set_option maxHeartbeats 4000000 in
theorem BuildW {w : World} {K : List HC} {a : Option Addr} {cap : Nat} (h : HpAt w (fun _ => True) K a cap) {t : Tm} {a2 : Option Addr} {c2 : Nat} (hf : t.fits) (ht : Ts w (fun _ => True) t.args a2 c2) :
    Calls Try.prog 36 #[.slice a K.length cap, .agg #[.int .i64 t.var, .string t.name, .slice a2 t.args.length c2]] w (BPost w (bA K t (checkH K))) := by
  have HP := Lib.hid h; have HF := Lib.hid hf
  have HT : Hid (Ts w (fun b => b < w.heap.size) t.args a2 c2) := Lib.hid (ht.mono fun b hb _ => hb)
  have BX : Below w.heap.size w (w.alloc (.cells #[.int .i64 t.var, .string t.name, .slice a2 t.args.length c2] 24)) := (Below.refl _ _).alloc (Nat.le_refl _) _
  have HBX := Lib.hid BX
  have HCW := Lib.hid (HCheckW (h.below BX))
  have HA : Hid (Box3 (w.alloc (.cells #[.int .i64 t.var, .string t.name, .slice a2 t.args.length c2] 24)) w.heap.size (.int .i64 t.var) (.string t.name) (.slice a2 t.args.length c2)) := Lib.hid (Box3.made w _ _ _)
  clear h hf ht BX
  by_cases hc : checkH K = 0
  · have hc' : ((checkH K : Int) == 0) = true := by rw [hc]; rfl
    have HI := Lib.hid (HInv.of hc)
    have HB0 : Hid (bA K t (checkH K) = if t.checkE ≠ 0 then .err t.checkE else if 400000 < (putT K (fun _ => none) t).1.1.length then .err 2 else .ok (putT K (fun _ => none) t).1.1 (putT K (fun _ => none) t).2 (toldV (putT K (fun _ => none) t).1.2 12)) := Lib.hid (by unfold bA; rw [if_neg (fun h => h hc)])
    clear hc
    go_enter Try.func36, Try.ntmps36
    go_wp2_with fail
    refine HCW.out.mono ?_
    rintro e w1 ⟨rfl, hb1⟩
    have HB1 : Hid (Below w.heap.size w w1) := Lib.hid (HBX.out.trans (hb1.mono HBX.out.size))
    have hx := HA.out.below hb1
    have x0 := hx.c0; have x1 := hx.c1; have x2 := hx.c2
    have HX1 := Lib.hid hx
    clear hb1 hx HA
    have HCK := Lib.hid (CheckW t w1 (fun b => b < w.heap.size) a2 c2 HF.out (HT.out.keep (Keeps.below HB1.out _)))
    by_cases hz : t.checkE = 0
    · have hz' : ((t.checkE : Int) != 0) = false := by rw [hz]; rfl
      have HZ := Lib.hid hz
      have HB2 : Hid (bA K t (checkH K) = if 400000 < (putT K (fun _ => none) t).1.1.length then .err 2 else .ok (putT K (fun _ => none) t).1.1 (putT K (fun _ => none) t).2 (toldV (putT K (fun _ => none) t).1.2 12)) := Lib.hid (by rw [HB0.out, if_neg (fun h => h hz)])
      have hmm := @run_makeMap Try.prog
      clear hz
      go_wp2_with (go_at_call 17; refine HCK.out.mono ?_; rintro e w2 ⟨rfl, hb2⟩; have HBC := Lib.hid hb2; clear hb2)
      have HW2 : Hid (Below w.heap.size w w2) := Lib.hid (HB1.out.trans (HBC.out.mono HB1.out.size))
      have BM' : Below w2.heap.size w2 (w2.alloc (.map #[] 0)) := (Below.refl _ _).alloc (Nat.le_refl _) _
      have HVM : Hid (VAt (w2.alloc (.map #[] 0)) w2.heap.size 0 (fun _ => none)) := Lib.hid (IMap.made w2)
      have HW3 : Hid (Below w.heap.size w (w2.alloc (.map #[] 0))) := Lib.hid (HW2.out.trans (BM'.mono HW2.out.size))
      have hx3 := (HX1.out.below HBC.out).below BM'
      have hbm3 : w2.heap.size < (w2.alloc (.map #[] 0)).heap.size := by simp
      have hsw : w.heap.size < w2.heap.size := (HX1.out.below HBC.out).lt
      clear hmm BM' x0 x1 x2
      generalize hW3 : w2.alloc (.map #[] 0) = w3 at *
      clear hW3
      have hsz := (check_zero HZ.out).1
      have HKF : Hid (∀ i, i < K.length → (hc K i).fits) := Lib.hid (fun i hi => by obtain ⟨_, _, _, _, _, _, _, _, hf⟩ := HP.out.at' i hi; exact hf)
      have KH : Hid (∀ u, Below w3.heap.size w3 u → (fun u => u.cell? ⟨w.heap.size, 0, none⟩ = some (.int .i64 t.var) ∧ u.cell? ⟨w.heap.size, 1, none⟩ = some (.string t.name) ∧ u.cell? ⟨w.heap.size, 2, none⟩ = some (.slice a2 t.args.length c2) ∧ Below w.heap.size w u) u) := Lib.hid (fun u hb => by
        have h1 := hx3.below hb
        exact ⟨h1.c0, h1.c1, h1.c2, HW3.out.trans (hb.mono HW3.out.size)⟩)
      have HAN : Hid (a = none → K.length = 0) := Lib.hid (fun e => by have := HP.out.cap; have := this.2.2 e; omega)
      have HNS : Hid (∀ u, Below w3.heap.size w3 u → ∀ ad, a = some ad → ∀ j z, (flatH K)[j]? = some z → u.cell? (ad.add j) = some z) := Lib.hid (fun u hu ad had => by
        subst had
        exact ((HP.out.below HW3.out).below hu).news)
      have HOWN0 : Hid ((w3.alloc (.cells #[] 120)).drew.ownsRow w3.heap.size 120 3 (.slice (some ⟨w3.heap.size, 0, none⟩) 0 0) 0 []) := Lib.hid (by
        have := World.ownsRow_lit (base := w3.heap.size) (e := 120) (size := 3) w3 #[] 0 (Nat.le_refl _) (Nat.zero_le _) rfl
        exact this)
      have HPUT : Hid (∀ v1 u, HOwn u w3.heap.size v1 K → Below w3.heap.size w3 u → Calls Try.prog 81 #[v1, .agg #[.int .i64 t.var, .string t.name, .slice a2 t.args.length c2], .map (some w2.heap.size)] u (PutPost u w3.heap.size v1 w2.heap.size (putT K (fun _ => none) t))) := Lib.hid (fun v1 u hu hb =>
        PutW t u (fun b => b < w.heap.size) a2 c2 w3.heap.size w2.heap.size 0 v1 K (fun _ => none) HF.out ((HT.out.keep (Keeps.below HW3.out _)).keep (Keeps.below hb _)) (fun b hb' => ⟨by have := HW3.out.size; have := hb.size; omega, fun e => by have := (hu.row.lt b e).1; have := HW3.out.size; omega, by omega⟩) hu (HVM.out.keep (hb.block _ hbm3)) (Nat.zero_le _) (fun e => by have := (hu.row.lt _ e).1; omega) hb.size (by have := HI.out.len; omega) (fun v c h => by cases h))
      have hKl := HI.out.len
      obtain ⟨i0, hi0, hz0, hz1, hz2⟩ := info_parts Try.infoCell
      obtain ⟨j0, hj0, hy0, hy1, hy2⟩ := info_parts Try.infoInt
      have HBM3 := Lib.hid hbm3
      have HX3 := Lib.hid hx3
      have HSW := Lib.hid hsw
      have y0 := hx3.c0; have y1 := hx3.c1; have y2 := hx3.c2
      clear hx3 hsz hbm3
      generalize putT K (fun _ => none) t = r at *
      go_region_held3 (fun u => u.cell? ⟨w.heap.size, 0, none⟩ = some (.int .i64 t.var) ∧ u.cell? ⟨w.heap.size, 1, none⟩ = some (.string t.name) ∧ u.cell? ⟨w.heap.size, 2, none⟩ = some (.slice a2 t.args.length c2) ∧ Below w.heap.size w u)
        (first | assumption | exact KH.out _ (Below.refl _ _).drew | exact KH.out _ ((Below.refl _ _).alloc (Nat.le_refl _) _).drew | exact KH.out _ hbl1.drew | exact KH.out _ hbl1 | exact HS5.out)
        (first
          | (refine step_append_opt _ (by rfl) _ _ _ (by rfl) w3.heap.size 120 i0 _ 3 32 Try.underlying42 hi0 hz0 hz1 hz2 rfl (by decide) (.slice (some ⟨w3.heap.size, 0, none⟩) 0 0) 0 [] (by rfl) HOWN0.out a K.length cap HAN.out (flatH K) (by rfl) (flatH_length K) (HNS.out _ (((Below.refl _ _).alloc (Nat.le_refl _) _).drew)) (flatH_one K) (by unfold maxLen; omega) (by omega) (by simp) ?_
             intro v1 w4 hown1 hgrow1 hfr1
             have hbl1 : Below w3.heap.size w3 w4 := (((Below.refl _ _).alloc (Nat.le_refl _) _).drew).grown hgrow1 (by simp) (fun g hg => by simp only [Value.ownBlock, Option.some.injEq] at hg; omega)
             have HOW : Hid (HOwn w4 w3.heap.size v1 K) := Lib.hid ⟨by rw [Nat.zero_add, List.nil_append] at hown1; exact hown1, HKF.out⟩)
          | (go_at_call 81; refine (HPUT.out v1 _ (by first | exact HOW.out | exact HOW.out.below ((Below.refl _ _).drew)) (by first | exact hbl1 | exact hbl1.drew)).mono ?_
             rintro e w5 ⟨v5, n5, rfl, hh5, hv5, hn5, hf5, ht5⟩
             have HH5 := Lib.hid hh5; have HV5 := Lib.hid hv5
             have HB5 : Hid (Below w.heap.size w w5) := Lib.hid ((HW3.out.trans (hbl1.mono HW3.out.size)).trans (ht5.toBelow (by have := HW3.out.size; have := hbl1.size; omega) (fun b e => e.elim (fun e => by have := (HOW.out.row.lt b e).1; have := HW3.out.size; omega) (fun e => by have := HSW.out; omega))))
             have HS5 : Hid ((fun u => u.cell? ⟨w.heap.size, 0, none⟩ = some (.int .i64 t.var) ∧ u.cell? ⟨w.heap.size, 1, none⟩ = some (.string t.name) ∧ u.cell? ⟨w.heap.size, 2, none⟩ = some (.slice a2 t.args.length c2) ∧ Below w.heap.size w u) w5) := Lib.hid (by
               have h1 := (HX3.out.below hbl1).keep (ht5.block _ (by have := hbl1.size; have := HX3.out.lt; omega) (fun e => e.elim (fun e => by have := (HOW.out.row.lt _ e).1; have := HX3.out.lt; omega) (fun e => by have := HSW.out; omega)))
               exact ⟨h1.c0, h1.c1, h1.c2, HB5.out⟩)
             clear hh5 hv5 ht5 hf5 hn5))
      have hy0' := hy0; have hy1' := hy1; have hy2' := hy2
      all_goals
        obtain ⟨a5, cc5, hve⟩ := HH5.out.form
        subst hve
        have hl5 : r.1.1.length ≤ 9223372036854775807 := by
          rcases HH5.out.row.2 with ⟨_, e⟩ | ⟨_, _, _, _, _, _, h1, h2, _⟩
          · omega
          · unfold maxLen at h2; omega
        clear y0 y1 y2
        by_cases hm : 400000 < r.1.1.length
        · have hm' : (400000 : Int) < (r.1.1.length : Int) := by omega
          have HO : Hid (bA K t (checkH K) = .err 2) := Lib.hid (by rw [HB2.out, if_pos hm])
          clear hm
          go_wp2_with fail
          rw [HO.out]
          exact bodyPost_ret (v := .tuple #[.slice none 0 0, .int .i64 0, .slice none 0 0, .int .i64 2]) (by simp [results, Try.results36, go_sem]) rfl ⟨HB5.out, rfl⟩
        · have hm' : (r.1.1.length : Int) ≤ 400000 := by omega
          have HO : Hid (bA K t (checkH K) = .ok r.1.1 r.2 (toldV r.1.2 12)) := Lib.hid (by rw [HB2.out, if_neg hm])
          clear hm
          go_wp2_with fail
          go_loopw [12, 13] (fun v12 v13 wr => ∃ m : Nat, m ≤ 12 ∧ v13 = .int .i64 ((m : Int) + 1) ∧ wr.ownsRow w5.heap.size 3 1 v12 m ((toldV r.1.2 m).map fun x => Value.int .i64 x) ∧ Hid (Below w5.heap.size w5 wr)) (fun _ v13 _ => 13 - (intOf v13).toNat)
          case atStart => exact ⟨0, by omega, rfl, World.ownsRow_nil _ _ _ _, Lib.hid (Below.refl _ _)⟩
          case round =>
            obtain ⟨m, hm, rfl, hor, HBZ⟩ := hrel
            have HOR := Lib.hid hor
            have HVR : Hid (VAt wr w2.heap.size n5 r.1.2) := Lib.hid (HV5.out.keep (HBZ.out.block _ HV5.out.lt))
            by_cases hlt : m < 12
            · have hlt' : (m : Int) + 1 ≤ 12 := by omega
              have hI : I64 ((m : Int) + 1) := by unfold I64; omega
              obtain ⟨xa, xc, rfl⟩ : ∃ xa xc, u12 = .slice xa m xc := by
                rcases hor.2 with ⟨h1, h2⟩ | ⟨g, cap, cur, h1, _⟩
                · exact ⟨none, 0, by rw [h1, h2]⟩
                · exact ⟨_, _, h1⟩
              clear hor
              cases hs : r.1.2 ((m : Int) + 1) with
              | some c =>
                have hlk := (HVR.out.look hI).2 c hs
                have HTV : Hid ((toldV r.1.2 (m + 1)).map (fun x => Value.int .i64 x) = (toldV r.1.2 m).map (fun x => Value.int .i64 x) ++ [.int .i64 (c : Nat)]) := Lib.hid (by
                  unfold toldV; rw [List.range_succ, List.map_append, List.map_append]; simp [hs])
                have HOO := Lib.hid (HOR.out.alloc (.cells #[.int .i64 (c : Nat)] 3))
                clear hs hI
                go_wp2_with (first
                  | (at_builtin; have _g := HOO; refine wpList_append_opt _ rfl _ _ 44 rfl w5.heap.size 3 j0 _ 1 8 Try.underlying44 hj0 hy0' hy1' hy2' rfl (by decide) _ _ _ rfl HOO.out (some ⟨wr.heap.size, 0, none⟩) 1 1 ?p0 [.int .i64 (c : Nat)] rfl rfl ?p1 ?p2 ?p3 ?p4 ?p5 ?_))
                case p0 => intro h; cases h
                case p1 => intro ad had; cases had; exact one_cell wr (.int .i64 (c : Nat)) 3
                case p2 => intro u hu; simp only [List.mem_singleton] at hu; subst hu; rfl
                case p3 => unfold maxLen; omega
                case p4 => omega
                case p5 => simp only [aSz]; have := HBZ.out.size; omega
                · intro v6 w6 hown6 hgrow6 hfr6
                  have HO6 := Lib.hid hown6
                  have HG6 : Hid (Below w5.heap.size w5 w6) := Lib.hid ((HBZ.out.alloc HBZ.out.size _).grown hgrow6 (by simp only [aSz]; have := HBZ.out.size; omega) (fun k e => (HOR.out.lt k e).1))
                  obtain ⟨g6, cap6, rfl⟩ := own_shape hown6 (by omega)
                  clear hown6 hgrow6 hfr6
                  go_wp2_with fail
                  go_roundw
                  case measure => simp [intOf]; omega
                  case rel =>
                    exact ⟨m + 1, by omega, by go_num, by rw [HTV.out]; exact HO6.out, HG6⟩
              | none =>
                have hlk := (HVR.out.look hI).1 hs
                have HTV : Hid ((toldV r.1.2 (m + 1)).map (fun x => Value.int .i64 x) = (toldV r.1.2 m).map (fun x => Value.int .i64 x) ++ [.int .i64 (-1)]) := Lib.hid (by
                  unfold toldV; rw [List.range_succ, List.map_append, List.map_append]; simp [hs])
                have HOO := Lib.hid (HOR.out.alloc (.cells #[.int .i64 (-1)] 3))
                clear hs hI
                go_wp2_with (first
                  | (at_builtin; have _g := HOO; refine wpList_append_opt _ rfl _ _ 44 rfl w5.heap.size 3 j0 _ 1 8 Try.underlying44 hj0 hy0' hy1' hy2' rfl (by decide) _ _ _ rfl HOO.out (some ⟨wr.heap.size, 0, none⟩) 1 1 ?q0 [.int .i64 (-1)] rfl rfl ?q1 ?q2 ?q3 ?q4 ?q5 ?_))
                case q0 => intro h; cases h
                case q1 => intro ad had; cases had; exact one_cell wr (.int .i64 (-1)) 3
                case q2 => intro u hu; simp only [List.mem_singleton] at hu; subst hu; rfl
                case q3 => unfold maxLen; omega
                case q4 => omega
                case q5 => simp only [aSz]; have := HBZ.out.size; omega
                · intro v6 w6 hown6 hgrow6 hfr6
                  have HO6 := Lib.hid hown6
                  have HG6 : Hid (Below w5.heap.size w5 w6) := Lib.hid ((HBZ.out.alloc HBZ.out.size _).grown hgrow6 (by simp only [aSz]; have := HBZ.out.size; omega) (fun k e => (HOR.out.lt k e).1))
                  obtain ⟨g6, cap6, rfl⟩ := own_shape hown6 (by omega)
                  clear hown6 hgrow6 hfr6
                  go_wp2_with fail
                  go_roundw
                  case measure => simp [intOf]; omega
                  case rel =>
                    exact ⟨m + 1, by omega, by go_num, by rw [HTV.out]; exact HO6.out, HG6⟩
            · have hme : m = 12 := by omega
              subst hme
              have hge : ¬ (((12 : Nat) : Int) + 1 ≤ 12) := by omega
              obtain ⟨a8, c8, rfl, hi8⟩ := IsAt.of_row (ok := fun b => w.heap.size ≤ b) (l := toldV r.1.2 12) (v := u12) (by
                have : (toldV r.1.2 12).length = 12 := by simp [toldV]
                rw [this]; exact ⟨hor.1, hor.2.imp id fun ⟨g, c, cur, e1, e2, e3⟩ => ⟨g, c, cur, e1, e2, e3⟩⟩) (fun b hb => by have := (hor.lt b hb).1; have := HB5.out.size; omega)
              have HI8 := Lib.hid hi8
              obtain ⟨a9, c9, he9, hp9⟩ := HpAt.of_row (ok := fun b => w.heap.size ≤ b) (ownsRow_below HH5.out.row HBZ.out) (fun b hb => by have := (HH5.out.row.lt b hb).1; have := HW3.out.size; omega) HH5.out.fits
              have HP9 := Lib.hid hp9
              injection he9 with e1 e2 e3
              subst e1; subst e3
              clear hor hi8 hp9 e2
              go_wp2_with fail
              rw [HO.out]
              exact bodyPost_ret (v := .tuple #[.slice a5 r.1.1.length cc5, .int .i64 (r.2 : Nat), .slice a8 (toldV r.1.2 12).length c8, .int .i64 0]) (by simp [results, Try.results36, go_sem]) rfl
                ⟨HB5.out.trans (HBZ.out.mono HB5.out.size), _, _, _, _, rfl, HP9.out, HI8.out⟩
    · have hz' : ((t.checkE : Int) != 0) = true := bne0 hz
      have HO : Hid (bA K t (checkH K) = .err t.checkE) := Lib.hid (by rw [HB0.out, if_pos hz])
      clear hz
      go_wp2_with (go_at_call 17; refine HCK.out.mono ?_; rintro e w2 ⟨rfl, hb2⟩)
      rw [HO.out]
      exact bodyPost_ret (v := .tuple #[.slice none 0 0, .int .i64 0, .slice none 0 0, .int .i64 (t.checkE : Nat)]) (by simp [results, Try.results36, go_sem]) rfl ⟨HB1.out.trans (hb2.mono HB1.out.size), rfl⟩
  · have hc' : ((checkH K : Int) == 0) = false := by rw [beq_eq_false_iff_ne]; omega
    have hc2 : ((checkH K : Int) != 0) = true := bne0 hc
    have HO : Hid (bA K t (checkH K) = .err (checkH K)) := Lib.hid (by unfold bA; rw [if_pos hc])
    clear hc
    go_enter Try.func36, Try.ntmps36
    go_wp2_with fail
    refine HCW.out.mono ?_
    rintro e w1 ⟨rfl, hb1⟩
    go_wp2_with fail
    rw [HO.out]
    exact bodyPost_ret (v := .tuple #[.slice none 0 0, .int .i64 0, .slice none 0 0, .int .i64 (checkH K : Nat)]) (by simp [results, Try.results36, go_sem]) rfl ⟨HBX.out.trans (hb1.mono HBX.out.size), rfl⟩

end Go.Proofs.Ytikmgiapjigghaa
