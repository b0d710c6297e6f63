/- Plain: what is read on a heap, and what is shown of a store; the statement HeapHangs, with no program in sight. -/
import Derived.Test.YtikmgiapjigghaaRaHang
import Derived.Test.YtikmgiapjigghaaRa19
import Derived.Test.YtikmgiapjigghaaRaUMostP
import Derived.Test.YtikmgiapjigghaaRaRinj
namespace Go.Proofs.Ytikmgiapjigghaa

section
variable {H : List HC} {σ : Sub} {D : Int → Prop} {S : Int → Nat}

/-- A variable as its cell's number and 1. -/
noncomputable def gC (H : List HC) (S : Int → Nat) (v : Int) : Int := (endH H (S v) : Int) + 1

theorem Hang.show (h : Hang H σ D S) : ∀ (m : Nat) (ps : List (Nat × Tm)), Sts H D S ps → shL H m (ps.map (·.1)) = (thrL σ m (ps.map (·.2))).map fun x => (x.1.map (Tm.mapv (gC H S)), x.2) := by
  intro m
  induction m using Nat.strongRecOn with
  | _ m ih =>
  intro ps hp
  cases ps with
  | nil => rw [List.map_nil, List.map_nil, shL_nil, thrL_nil]; rfl
  | cons p r =>
    have hs := hp p List.mem_cons_self
    have hr : Sts H D S r := fun x hx => hp x (List.mem_cons_of_mem _ hx)
    rw [List.map_cons, List.map_cons]
    cases m with
    | zero => rw [shL_zero, thrL_zero]; rfl
    | succ m =>
      obtain ⟨s1, s2, s3, s4, s5, s6⟩ := h.look hs
      by_cases hx : (Go.Proofs.Ytikmgiapjigghaa.look σ p.2).var = 0
      · obtain ⟨k1, k2, k3, k4⟩ := s6 hx
        rw [shL_fn k1, thrL_fn hx]
        obtain ⟨qs, q1, q2, q3⟩ := Sts.args h hs hx
        rw [← q1, ← q2, ih m (by omega) qs q3]
        cases ht : thrL σ m (qs.map (·.2)) with
        | none => rfl
        | some y =>
          have hle := (thrL_le _ _ _ ht).1
          simp only [Option.map_some, Option.bind_some]
          rw [ih y.2 (by omega) r hr]
          cases thrL σ y.2 (r.map (·.2)) with
          | none => rfl
          | some z =>
            simp only [Option.map_some, List.map_cons]
            rw [Tm.mapv_fn (t := .mk 0 (Go.Proofs.Ytikmgiapjigghaa.look σ p.2).name y.1) rfl, k2]; rfl
      · obtain ⟨k1, k2, k3⟩ := s5 hx
        have he : endH H p.1 = endH H (S (Go.Proofs.Ytikmgiapjigghaa.look σ p.2).var) := by
          rw [k3] at s1
          generalize (Go.Proofs.Ytikmgiapjigghaa.look σ p.2).var = v at *
          cases s1 with
          | var h1 h2 h3 => rw [s3] at h3; exact h3
          | fn => exact absurd rfl hx
        rw [shL_var k1, thrL_var hx, ih m (by omega) r hr]
        cases thrL σ m (r.map (·.2)) with
        | none => rfl
        | some z =>
          simp only [Option.map_some, List.map_cons]
          rw [Tm.mapv_var (t := VarT (Go.Proofs.Ytikmgiapjigghaa.look σ p.2).var) hx]
          unfold gC
          rw [he]; rfl

/-- What is shown has variables that are nothing, each with a cell. -/
def Bare (σ : Sub) (D : Int → Prop) (T : Tm) : Prop := WfT T ∧ ∀ p, p ∈ T.parts → p.var ≠ 0 → D p.var ∧ look σ (VarT p.var) = VarT p.var

theorem Bare.fn {n : ByteArray} {l : List Tm} (h : ∀ t, t ∈ l → Bare σ D t) : Bare σ D (.mk 0 n l) := by
  refine ⟨fun p hp => ?_, fun p hp hv => ?_⟩
  · rw [Tm.parts] at hp
    rcases List.mem_cons.1 hp with rfl | hp
    · exact ⟨Int.le_refl _, fun e => absurd rfl e⟩
    · obtain ⟨t, ht, hp⟩ := Tm.partss_of hp
      exact (h t ht).1 p hp
  · rw [Tm.parts] at hp
    rcases List.mem_cons.1 hp with rfl | hp
    · exact absurd rfl hv
    · obtain ⟨t, ht, hp⟩ := Tm.partss_of hp
      exact (h t ht).2 p hp hv

theorem Hang.bare (h : Hang H σ D S) : ∀ (m : Nat) (ps : List (Nat × Tm)) (x : List Tm × Nat), Sts H D S ps → thrL σ m (ps.map (·.2)) = some x → ∀ T, T ∈ x.1 → Bare σ D T := by
  intro m
  induction m using Nat.strongRecOn with
  | _ m ih =>
  intro ps x hp he T hT
  cases ps with
  | nil => rw [List.map_nil, thrL_nil] at he; cases he; cases hT
  | cons p r =>
    have hs := hp p List.mem_cons_self
    have hr : Sts H D S r := fun x hx => hp x (List.mem_cons_of_mem _ hx)
    rw [List.map_cons] at he
    cases m with
    | zero => rw [thrL_zero] at he; cases he
    | succ m =>
      obtain ⟨s1, s2, s3, s4, s5, s6⟩ := h.look hs
      by_cases hx : (Go.Proofs.Ytikmgiapjigghaa.look σ p.2).var = 0
      · rw [thrL_fn hx] at he
        obtain ⟨y, hy, h2⟩ := Option.bind_eq_some_iff.1 he
        obtain ⟨z, hz, rfl⟩ := Option.map_eq_some_iff.1 h2
        have hle := (thrL_le _ _ _ hy).1
        obtain ⟨qs, q1, q2, q3⟩ := Sts.args h hs hx
        rw [← q2] at hy
        rcases List.mem_cons.1 hT with rfl | hT
        · exact Bare.fn fun t ht => ih m (by omega) qs y q3 hy t ht
        · exact ih y.2 (by omega) r z hr hz T hT
      · obtain ⟨k1, k2, k3⟩ := s5 hx
        rw [thrL_var hx] at he
        obtain ⟨z, hz, rfl⟩ := Option.map_eq_some_iff.1 he
        rcases List.mem_cons.1 hT with rfl | hT
        · have h1 := h.pos _ k2
          refine ⟨WfT.bare (by omega), fun q hq _ => ?_⟩
          simp only [Tm.parts, Tm.partss, List.mem_singleton] at hq
          subst hq
          exact ⟨k2, look_free (look_root h.store hx)⟩
        · exact ih m (by omega) r z hr hz T hT
end

/-- What fits is shown. -/
theorem thrL_fill {F : Int → Tm} {σ : Sub} {n : Nat} (hF : ∀ v : Int, 1 ≤ v → v.toNat < n → ∃ k, thrL σ 200 [VarT v] = some ([F v], k)) (hR : Respects F σ) (hE : Ends σ) (hd : ∀ v u, σ v = some u → Fit n u) :
    ∀ (m : Nat) (l : List Tm), (∀ t, t ∈ l → Fit n t) → Tm.sizes (l.map (Tm.putIn F)) ≤ m → thrL σ m l = some (l.map (Tm.putIn F), m - Tm.sizes (l.map (Tm.putIn F))) := by
  intro m
  induction m using Nat.strongRecOn with
  | _ m ih =>
  intro l hl hm
  cases l with
  | nil => rw [thrL_nil]; simp [Tm.sizes]
  | cons t r =>
    have ht := hl t List.mem_cons_self
    have hr : ∀ t, t ∈ r → Fit n t := fun x hx => hl x (List.mem_cons_of_mem _ hx)
    have hu := fit_look hE hd ht
    have hlk := hR.look hE t
    simp only [List.map_cons, Tm.sizes] at hm ⊢
    have hsp := (t.putIn F).size_pos
    obtain ⟨m, rfl⟩ : ∃ m', m = m' + 1 := ⟨m - 1, by omega⟩
    by_cases hx : (look σ t).var = 0
    · rw [thrL_fn hx]
      have e1 : t.putIn F = .mk 0 (look σ t).name ((look σ t).args.map (Tm.putIn F)) := by rw [← hlk, Tm.putIn_fn hx]
      rw [e1] at hm hsp ⊢
      simp only [Tm.size] at hm ⊢
      have ha : ∀ x, x ∈ (look σ t).args → Fit n x := fun x hx' => hu.arg hx'
      rw [ih m (by omega) _ ha (by omega)]
      simp only [Option.bind_some]
      rw [ih _ (by omega) r hr (by omega)]
      simp only [Option.map_some, Option.some.injEq, Prod.mk.injEq, true_and]
      omega
    · rw [thrL_var hx]
      have hv1 : 1 ≤ (look σ t).var ∧ (look σ t).var.toNat < n := by
        have h1 := hu.wf.pos
        have h2 := (hu.bd _ (Tm.self_mem _)).1
        exact ⟨by omega, h2⟩
      have e1 : t.putIn F = VarT (look σ t).var := by
        rw [← hlk, Tm.putIn_var hx]
        obtain ⟨k, hk⟩ := hF _ hv1.1 hv1.2
        have h3 : look σ (VarT (look σ t).var) = VarT (look σ t).var := by
          obtain ⟨nn, hn⟩ := look_spec hE t
          rcases hn.stop with h4 | h4
          · exact absurd h4 hx
          · exact look_free h4
        rw [thrL_var (t := VarT (look σ t).var) (by rw [h3]; exact hx), thrL_nil, h3] at hk
        simp only [Option.map_some, Option.some.injEq, Prod.mk.injEq, List.cons.injEq, and_true] at hk
        exact hk.1.symm
      rw [e1] at hm ⊢
      have e2 : (VarT (look σ t).var).size = 1 := by simp [Tm.size, Tm.sizes]
      rw [e2] at hm ⊢
      rw [ih m (by omega) r hr (by omega)]
      simp only [Option.map_some, Option.some.injEq, Prod.mk.injEq, true_and]
      omega

/-- No two variables have one cell. -/
def VInj (V : CV) (n : Nat) : Prop := (∀ v w c, V v = some c → V w = some c → v = w) ∧ ∀ v c, V v = some c → c < n

mutual
theorem putT_inj : ∀ (t : Tm) (H : List HC) (V : CV), VInj V H.length → VInj (putT H V t).1.2 (putT H V t).1.1.length
  | .mk v n l, H, V, hV => by
    unfold putT
    by_cases hv : v ≠ 0
    · rw [if_pos hv]
      cases h : V v with
      | some c => exact hV
      | none =>
        refine ⟨fun x y c hx hy => ?_, fun x c hx => ?_⟩
        · simp only [updV] at hx hy
          by_cases e1 : x = v
          · by_cases e2 : y = v
            · rw [e1, e2]
            · rw [if_pos e1] at hx; rw [if_neg e2] at hy
              cases hx; have := hV.2 y _ hy; omega
          · by_cases e2 : y = v
            · rw [if_neg e1] at hx; rw [if_pos e2] at hy
              cases hy; have := hV.2 x _ hx; omega
            · rw [if_neg e1] at hx; rw [if_neg e2] at hy
              exact hV.1 x y c hx hy
        · simp only [updV] at hx
          simp only [List.length_append, List.length_singleton]
          by_cases e1 : x = v
          · rw [if_pos e1] at hx; cases hx; omega
          · rw [if_neg e1] at hx; have := hV.2 x c hx; omega
    · rw [if_neg hv]
      exact putAs_inj l _ V (H.length + 1) ⟨hV.1, fun x c hx => by have := hV.2 x c hx; simp only [List.length_append, List.length_replicate]; omega⟩
theorem putAs_inj : ∀ (l : List Tm) (H : List HC) (V : CV) (p : Nat), VInj V H.length → VInj (putAs H V p l).2 (putAs H V p l).1.length
  | [], H, V, p, hV => by rw [putAs_nil]; exact hV
  | t :: r, H, V, p, hV => by
    rw [putAs_cons]
    exact putAs_inj r _ _ (p + 1) (by rw [setN_length]; exact putT_inj t H V hV)
end

theorem Rd.st {H : List HC} {Ho : Nat → Prop} {D : Int → Prop} {S : Int → Nat} {i : Nat} {t : Tm} (h : Rd H Ho S i t) (hD : ∀ p, p ∈ t.parts → p.var ≠ 0 → D p.var) : St H D S i t := by
  induction h with
  | @var i v h1 h2 h3 h4 h5 =>
    refine .var (hD _ (Tm.self_mem _) h4) h1 ?_
    rw [h5]
  | @ref i j t h1 h2 h3 h4 h5 ih =>
    refine (ih hD).at' ?_ h1
    obtain ⟨m, e, he, _⟩ := h5.end
    rw [endH_eq he]
    refine endH_eq (m := m + 1) ⟨⟨by rw [h3], by rw [h3]; simp only; omega⟩, ?_⟩
    rw [h3]; simpa using he
  | @fn i n l h1 h2 h3 h4 h5 ih =>
    have hr : ¬ Refers H i := fun hr => by have := hr.1; rw [h3] at this; cases this
    have e := endH_stop hr
    refine .fn h1 (by rw [e, h3]; exact (by decide : (2 : Int) ≠ 1)) (by rw [e, h3]) (by rw [e, h3]) fun k hk => ?_
    rw [e]
    exact ih k hk fun p hp => hD p (Tm.parts_arg (t := .mk 0 n l) (List.getElem_mem hk) hp)

/-- The name that holds both. -/
def twoN : ByteArray := ⟨#[116, 119, 111]⟩

/-- What HeapHangs wants. -/
def HangOf (a b : Tm) : Prop :=
  ∃ K : List HC, (putT [] (fun _ => none) (.mk 0 twoN [a, b])).1.1 = K ∧ (putT [] (fun _ => none) (.mk 0 twoN [a, b])).2 = 0 ∧ HInv K ∧ endH K 0 = 0 ∧ 3 ≤ K.length ∧
  match uP a b with
  | .many => True
  | .no k => ∃ K' B f, meetH K [] 4000 [(1, 2)] = .no K' B f ∧ 4000 - f = k
  | .ok l k => ∃ K' B f, meetH K [] 4000 [(1, 2)] = .ok K' B f ∧ 4000 - f = k ∧ K'.length = K.length ∧ HInv K' ∧
    ((shL K' 200 [1] = none ∧ shL K' 200 [2] = none) ∨
      ∃ T1 k1 T2 k2, shL K' 200 [1] = some ([T1], k1) ∧ shL K' 200 [2] = some ([T2], k2) ∧ (Tm.ren numV [] T1).1 = (Tm.ren numV [] T2).1 ∧ (Tm.ren numV [] T1).1 = (Tm.ren numV [] (a.putIn (byL l))).1)

theorem hang_start {K : List HC} {t : Tm} {V : CV} (hw : WfT t) (hI : HInv K) (hV : VInj V K.length) (hok : VOk K (fun _ => False) (fun v => (V v).getD 0) V) (hs : ∀ p, p ∈ t.parts → p.var ≠ 0 → (V p.var).isSome = true) :
    Hang K (fun _ => none) (fun v => ∃ p, p ∈ t.parts ∧ p.var ≠ 0 ∧ p.var = v) (fun v => (V v).getD 0) := by
  have hl : ∀ u, look (fun _ => none) u = u := fun u => look_free rfl
  have hc : ∀ v, (∃ p, p ∈ t.parts ∧ p.var ≠ 0 ∧ p.var = v) → ∃ c, V v = some c ∧ endH K ((V v).getD 0) = c ∧ (hc K c).k = 1 ∧ c < K.length := by
    rintro v ⟨p, hp, hv, rfl⟩
    obtain ⟨c, hc⟩ := Option.isSome_iff_exists.1 (hs p hp hv)
    obtain ⟨h1, h2, h3⟩ := hok _ _ hc
    obtain ⟨m, e, he, hr, hk⟩ := h3.end
    rcases hk with ⟨v', hvv, hv0, hS, hk1⟩ | ⟨n', l', ht, _⟩
    · have : p.var = v' := congrArg Tm.var hvv
      rw [← this] at hS
      simp only at h2 hS
      have e2 : e = c := by omega
      subst e2
      exact ⟨e, hc, by rw [h2]; exact endH_eq he, hk1, h3.lt⟩
    · have := congrArg Tm.var ht
      simp only [Tm.var] at this; exact absurd this h1
  refine ⟨hI, Sim.start.inv, fun v hv => ?_, fun v hv _ => ?_, fun v hv hx => ?_, fun v w hv hw _ _ => ?_⟩
  · obtain ⟨p, hp, h0, rfl⟩ := id hv
    obtain ⟨c, h1, _, _, h4⟩ := hc _ hv
    have := (hw p hp).1
    exact ⟨by omega, by rw [h1]; exact h4⟩
  · obtain ⟨c, h1, h2, h3, _⟩ := hc _ hv
    rw [hl]
    exact ⟨by rw [h2]; exact h3, hv⟩
  · rw [hl] at hx
    obtain ⟨p, hp, h0, rfl⟩ := hv
    exact absurd hx h0
  · rw [hl, hl]
    obtain ⟨c, h1, h2, _, _⟩ := hc _ hv
    obtain ⟨d, k1, k2, _, _⟩ := hc _ hw
    rw [h2, k2]
    show v = w ↔ c = d
    exact ⟨fun e => by subst e; rw [h1] at k1; cases k1; rfl, fun e => by subst e; exact hV.1 v w c h1 k1⟩

mutual
theorem putT_old : ∀ (t : Tm) (H : List HC) (V : CV) (i : Nat), i < H.length → hc (putT H V t).1.1 i = hc H i
  | .mk v n l, H, V, i, hi => by
    unfold putT
    by_cases hv : v ≠ 0
    · rw [if_pos hv]
      cases h : V v with
      | some c => rfl
      | none => exact hc_append hi
    · rw [if_neg hv]
      rw [putAs_old l _ V (H.length + 1) i (by simp; omega) (by simp; omega) (by omega), hc_append (by simp; omega), hc_append hi]
theorem putAs_old : ∀ (l : List Tm) (H : List HC) (V : CV) (p i : Nat), p + l.length ≤ H.length → i < H.length → ¬ (p ≤ i ∧ i < p + l.length) → hc (putAs H V p l).1 i = hc H i
  | [], H, V, p, i, _, _, _ => by rw [putAs_nil]
  | t :: r, H, V, p, i, hp, hi, hn => by
    rw [putAs_cons]
    have hg := putT_grow t H V
    simp only [List.length_cons] at hp hn
    rw [putAs_old r _ _ (p + 1) i (by rw [setN_length]; omega) (by rw [setN_length]; omega) (by omega), setN_ne (by omega) (by omega)]
    exact putT_old t H V i hi
end

/-- What the variables' terms put in is what the store says. -/
theorem outs_resp {σ : Sub} {l : List Tm} (hi : SInv σ) (hd : ∀ v u, σ v = some u → Fit 13 u) (hk : ∀ v u, σ v = some u → v.toNat < 13) (ho : outs σ 12 = some l) :
    (∀ v : Int, 1 ≤ v → v.toNat < 13 → ∃ k, thrL σ 200 [VarT v] = some ([byL l v], k)) ∧ Respects (byL l) σ := by
  obtain ⟨l1, l2⟩ := outs_at 12 l ho
  have hS2 : ∀ v : Int, 1 ≤ v → v.toNat < 13 → ∃ k, thrL σ 200 [VarT v] = some ([byL l v], k) := fun v hv1 hv2 => by
    obtain ⟨k, hk⟩ := l2 (v.toNat - 1) (by omega)
    have e : ((v.toNat - 1 : Nat) : Int) + 1 = v := by omega
    rw [e] at hk
    have := byL_at l (v.toNat - 1) (by omega)
    rw [e] at this
    exact ⟨k, by rw [this]; exact hk⟩
  refine ⟨hS2, fun v u hv hu => ?_⟩
  have hv1 := (hi.each v u hu).1
  obtain ⟨k, hk'⟩ := hS2 v hv1 (hk v u hu)
  have hlk : look σ (VarT v) = look σ u := by
    obtain ⟨m, hm'⟩ := look_spec hi.rank.ends u
    exact look_eq (n := m + 1) ⟨hv, u, hu, hm'⟩
  have hk2 : thrL σ 200 [u] = some ([byL l v], k) := by
    by_cases h0 : (look σ u).var = 0
    · rw [thrL_fn (t := VarT v) (by rw [hlk]; exact h0), hlk] at hk'
      rw [thrL_fn h0]; exact hk'
    · rw [thrL_var (t := VarT v) (by rw [hlk]; exact h0), hlk] at hk'
      rw [thrL_var h0]; exact hk'
  have := thrL_self hS2 200 [u] _ (fun t ht => by rw [List.mem_singleton] at ht; rw [ht]; exact hd v u hu) hk2
  simpa using this

theorem hangs {a b : Tm} (h2 : (Tm.mk 0 twoN [a, b]).checkE = 0) (hn : NamesOk (.mk 0 twoN [a, b])) (ha : Fit 13 a) (hb : Fit 13 b) : HangOf a b := by
  have hsz := (check_zero h2).1
  have hfit := check_fit h2
  have hw := hfit.wf
  have hI0 : HInv [] := ⟨Nat.zero_le _, fun i hi => absurd hi (Nat.not_lt_zero _), fun i hi => absurd hi (Nat.not_lt_zero _)⟩
  have hp := putT_ok (.mk 0 twoN [a, b]) [] (fun _ => none) (fun _ => False) (fun v => ((putT [] (fun _ => none) (.mk 0 twoN [a, b])).1.2 v).getD 0) hw (fun i h => h.elim) (fun v c hc => by simp only [hc]; rfl) (fun v c hc => by cases hc)
  have hlen := putT_le (.mk 0 twoN [a, b]) [] (fun _ => none)
  have hinj := putT_inj (.mk 0 twoN [a, b]) [] (fun _ => none) ⟨fun v w c h => (by cases h), fun v c h => (by cases h)⟩
  have hsm := putT_len (.mk 0 twoN [a, b]) [] (fun _ => none) [] hw (fun v => by simp)
  have hi := put_inv hI0 hn _ hp
  have hc0 : (putT [] (fun _ => none) (.mk 0 twoN [a, b])).2 = 0 := by
    unfold putT
    rw [if_neg (fun h => h rfl)]; rfl
  have hk0 : hc (putT [] (fun _ => none) (.mk 0 twoN [a, b])).1.1 0 = ⟨2, 2, twoN⟩ := by
    unfold putT
    rw [if_neg (fun h => h rfl)]
    exact putAs_old [a, b] _ _ 1 0 (by simp) (by simp) (by omega)
  have hroom : 3 ≤ (putT [] (fun _ => none) (.mk 0 twoN [a, b])).1.1.length := by
    rw [hsm.1, Tm.parts, (room_fn rfl _).1]
    simp only [Tm.args, List.length_cons, List.length_nil]
    omega
  obtain ⟨K, hK⟩ : ∃ K, (putT [] (fun _ => none) (.mk 0 twoN [a, b])).1.1 = K := ⟨_, rfl⟩
  obtain ⟨V, hV⟩ : ∃ V, (putT [] (fun _ => none) (.mk 0 twoN [a, b])).1.2 = V := ⟨_, rfl⟩
  have hrd := hp.rd; have hvok := hp.vok
  rw [hK, hV] at hvok
  rw [hK, hV, hc0] at hrd
  rw [hK] at hlen hroom hi hk0
  rw [hK, hV] at hinj
  rw [hV] at hsm
  have hIK : HInv K := ⟨by simp only [List.length_nil] at hlen; omega, hi.1, hi.2⟩
  have hstart := hang_start hw hIK hinj hvok (fun p hp' hv => (hsm.2 p.var).1 (seen_mem _ _ hp' hv))
  have hst : St K (fun v => ∃ p, p ∈ (Tm.mk 0 twoN [a, b]).parts ∧ p.var ≠ 0 ∧ p.var = v) (fun v => (V v).getD 0) 0 (.mk 0 twoN [a, b]) := hrd.st fun p hp' hv => ⟨p, hp', hv, rfl⟩
  have hend : endH K 0 = 0 := endH_stop fun hr => by have := hr.1; rw [hk0] at this; cases this
  refine ⟨K, hK, hc0, hIK, hend, hroom, ?_⟩
  generalize (fun v => ∃ p, p ∈ (Tm.mk 0 twoN [a, b]).parts ∧ p.var ≠ 0 ∧ p.var = v) = D at *
  generalize (fun v => (V v).getD 0) = S at *
  obtain ⟨sa, sb⟩ : St K D S 1 a ∧ St K D S 2 b := by
    cases hst with
    | fn h1 h2 h3 h4 h5 =>
      rw [hend] at h5
      exact ⟨h5 0 (by simp), h5 1 (by simp)⟩
  have hsim := meetH_sim 4000 K (fun _ => none) [] [] [((1, a), (2, b))] hstart (fun p hp => by rw [List.mem_singleton] at hp; subst hp; exact ⟨sa, sb⟩)
  simp only [List.map_cons, List.map_nil] at hsim
  unfold uP
  have hi0 : SInv (fun _ => none) := Sim.start.inv
  have hw1 : ∀ p ∈ [(a, b)], WfT p.1 ∧ WfT p.2 := fun p hp => by rw [List.mem_singleton] at hp; subst hp; exact ⟨ha.wf, hb.wf⟩
  have hw2 : ∀ p ∈ [(a, b)], Fit 13 p.1 ∧ Fit 13 p.2 := fun p hp => by rw [List.mem_singleton] at hp; subst hp; exact ⟨ha, hb⟩
  cases h1 : meet (fun _ => none) [] 4000 [(a, b)] with
  | no σ L f =>
    rw [h1] at hsim
    cases h3 : meetH K [] 4000 [(1, 2)] with
    | no K' B g => rw [h3] at hsim; exact ⟨K', B, g, rfl, by rw [hsim.1]⟩
    | ok K' B g => rw [h3] at hsim; exact hsim.elim
    | many K' B => rw [h3] at hsim; exact hsim.elim
  | many σ L => trivial
  | ok σ L f =>
    simp only
    cases ho : outs σ 12 with
    | none => trivial
    | some l =>
      rw [h1] at hsim
      cases h3 : meetH K [] 4000 [(1, 2)] with
      | no K' B g => rw [h3] at hsim; exact hsim.elim
      | many K' B => rw [h3] at hsim; exact hsim.elim
      | ok K' B g =>
        rw [h3] at hsim
        obtain ⟨rfl, hh, hl, htr⟩ := hsim
        have hd := meet_dom (n := 13) 4000 _ [] _ _ _ _ hi0 (fun v u h => by cases h) hw2 h1
        have hky := meet_keys (n := 13) 4000 _ [] _ _ _ _ hi0 (fun v u h => by cases h) (fun v u h => by cases h) hw2 h1
        obtain ⟨hS, hR⟩ := outs_resp hh.store hd hky ho
        have heq := (meet_back 4000 _ [] _ _ _ _ hi0 hw1 h1 hR).2 (a, b) (List.mem_singleton.2 rfl)
        simp only at heq
        refine ⟨K', B, g, rfl, rfl, hl, hh.heap, ?_⟩
        have hq : ∀ c t, St K D S c t → shL K' 200 [c] = (thrL σ 200 [t]).map fun x => (x.1.map (Tm.mapv (gC K' S)), x.2) := fun c t hc => by
          have := hh.show 200 [(c, t)] (fun p hp => by rw [List.mem_singleton] at hp; subst hp; exact htr _ _ hc)
          simpa using this
        have q1 := hq _ _ sa
        have q2 := hq _ _ sb
        have hfit1 : ∀ t, Fit 13 t → ∀ u, u ∈ [t] → Fit 13 u := fun t ht u hu => by rw [List.mem_singleton] at hu; subst hu; exact ht
        by_cases hz : (a.putIn (byL l)).size ≤ 200
        · right
          have e1 := thrL_fill hS hR hh.store.rank.ends hd 200 [a] (hfit1 a ha) (by simp [Tm.sizes]; exact hz)
          have e2 := thrL_fill hS hR hh.store.rank.ends hd 200 [b] (hfit1 b hb) (by simp [Tm.sizes]; rw [← heq]; exact hz)
          have hbare := hh.bare 200 [(1, a)] _ (fun p hp => by rw [List.mem_singleton] at hp; subst hp; exact htr _ _ sa) e1 (a.putIn (byL l)) (by simp)
          rw [e1] at q1
          rw [e2, List.map_singleton, ← heq] at q2
          simp only [List.map_cons, List.map_nil, Option.map_some] at q1 q2
          have hri := (ren_inj (P := fun v => D v ∧ look σ (VarT v) = VarT v) (g := gC K' S) (fun v w hv hw' e => by
            have hv0 := hh.pos v hv.1; have hw0 := hh.pos w hw'.1
            have hvv : (VarT v).var = v := rfl
            have hww : (VarT w).var = w := rfl
            have := (hh.cls v w hv.1 hw'.1 (by rw [hv.2, hvv]; omega) (by rw [hw'.2, hww]; omega)).2 (by unfold gC at e; omega)
            rw [hv.2, hw'.2] at this
            exact this) (fun v _ => by unfold gC; omega) (a.putIn (byL l)) [] hbare.1 (fun p hp hv => hbare.2 p hp hv) (fun x hx => nomatch hx)).1
          rw [List.map_nil] at hri
          exact ⟨_, _, _, _, q1, q2, rfl, by rw [hri]⟩
        · left
          have hno : ∀ t, Fit 13 t → t.putIn (byL l) = a.putIn (byL l) → thrL σ 200 [t] = none := fun t ht he => by
            cases hx : thrL σ 200 [t] with
            | none => rfl
            | some x =>
              exfalso
              have h5 := thrL_self hS 200 [t] x (hfit1 t ht) hx
              have h6 := thrL_size _ _ _ hx
              rw [h5] at h6
              simp only [List.map_cons, List.map_nil, Tm.sizes, he] at h6
              omega
          rw [q1, q2, hno a ha rfl, hno b hb heq.symm]
          exact ⟨rfl, rfl⟩

end Go.Proofs.Ytikmgiapjigghaa
