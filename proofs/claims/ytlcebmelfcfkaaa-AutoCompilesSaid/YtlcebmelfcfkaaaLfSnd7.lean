/- The lifter is sound: joins, regions, code, functions. -/
import Derived.Test.YtlcebmelfcfkaaaLfSnd6
namespace Lf
open Go
variable {P : Program} {K : Value → H → Prop}
variable {h0 : H} {W0 : World} {pr : Prot} {β : Nat → Nat} {σ σ0 : St semAt} {a : Act} {W : World} {Kt : St semAt → Prop} {Q : Exit → Act → World → Prop}

/-! ### Packing and unpacking -/

theorem Fits.length : ∀ {vs vs' : List SVs}, Fits vs vs' → vs'.length = vs.length
  | [], [], _ => rfl
  | v :: vs, v' :: vs', ⟨_, fs⟩ => by simp [fs.length]
  | [], _ :: _, h => h.elim
  | _ :: _, [], h => h.elim

theorem Fits.split : ∀ {a b vs' : List SVs}, Fits (a ++ b) vs' → Fits a (vs'.take a.length) ∧ Fits b (vs'.drop a.length)
  | [], b, vs', h => ⟨by simp [Fits], by simpa using h⟩
  | v :: a, b, v' :: vs', ⟨f, fs⟩ => by
    have ⟨h1, h2⟩ := fs.split
    exact ⟨⟨f, by simpa using h1⟩, by simpa using h2⟩
  | _ :: _, _, [], h => h.elim

theorem packSlots_length : ∀ {l : List (Nat × CK)} {vs : List SVs}, packSlots (semAlg P K) σ l = some vs → vs.length = l.length
  | [], vs, h => by simp only [packSlots, Option.some.injEq] at h; subst h; rfl
  | (t, c) :: r, vs, h => by
    simp only [packSlots] at h
    split at h
    · cases hr : packSlots (semAlg P K) σ r with
      | none => rw [hr] at h; cases h
      | some ws =>
        rw [hr] at h; simp only [Option.map_some, Option.some.injEq] at h; subst h
        simp [packSlots_length hr]
    · cases h

theorem packSlots_conf : ∀ {l : List (Nat × CK)} {vs : List SVs}, packSlots (semAlg P K) σ l = some vs → confL (l.map (·.2)) vs = true
  | [], vs, h => by simp only [packSlots, Option.some.injEq] at h; subst h; rfl
  | (t, c) :: r, vs, h => by
    simp only [packSlots] at h
    split at h
    · rename_i hc
      cases hr : packSlots (semAlg P K) σ r with
      | none => rw [hr] at h; cases h
      | some ws =>
        rw [hr] at h; simp only [Option.map_some, Option.some.injEq] at h; subst h
        simp only [List.map_cons, confL, hc, packSlots_conf hr, Bool.and_self]
    · cases h

theorem packBx_conf : ∀ {l : List (Nat × TypeId × List CK)} {vs : List SVs}, packBx (semAlg P K) σ l = some vs → confL (l.map fun x => .agg x.2.2) vs = true
  | [], vs, h => by simp only [packBx, Option.some.injEq] at h; subst h; rfl
  | (i, t, c) :: r, vs, h => by
    simp only [packBx] at h
    split at h
    · rename_i x hx
      split at h
      · rename_i hc
        simp only [Bool.and_eq_true] at hc
        cases hr : packBx (semAlg P K) σ r with
        | none => rw [hr] at h; cases h
        | some ws =>
          rw [hr] at h; simp only [Option.map_some, Option.some.injEq] at h; subst h
          simp only [List.map_cons, confL, conf, hc.1, packBx_conf hr, Bool.and_self]
      · cases h
    · cases h

theorem confL_append : ∀ {a b : List CK} {x y : List SVs}, confL a x = true → confL b y = true → confL (a ++ b) (x ++ y) = true
  | [], b, [], y, _, h => h
  | [], _, _ :: _, _, h, _ => by simp [confL] at h
  | _ :: _, _, [], _, h, _ => by simp [confL] at h
  | c :: a, b, v :: x, y, h, h' => by
    simp only [confL, Bool.and_eq_true] at h
    simp only [List.cons_append, confL, h.1, confL_append h.2 h', Bool.and_self]

/-- What an unpacked slot holds. -/
theorem unpackSlots_get : ∀ {l : List (Nat × CK)} {vs vs' : List SVs} {t : Nat}, packSlots (semAlg P K) σ l = some vs → Fits vs vs' → (l.map (·.1)).contains t = true →
    ∃ v', getEnv (unpackSlots (semAlg P K) l vs') t = v' ∧ Fit (getEnv σ.env t) v'
  | [], vs, vs', t, _, _, h => by simp at h
  | (u, c) :: r, vs, vs', t, h, f, ht => by
    simp only [packSlots] at h
    split at h
    · cases hr : packSlots (semAlg P K) σ r with
      | none => rw [hr] at h; cases h
      | some ws =>
        rw [hr] at h; simp only [Option.map_some, Option.some.injEq] at h; subst h
        cases vs' with
        | nil => exact f.elim
        | cons v' ws' =>
          obtain ⟨f1, f2⟩ := f
          simp only [unpackSlots, getEnv]
          by_cases e : u = t
          · subst e; exact ⟨v', by simp, f1⟩
          · rw [if_neg (by simpa using e)]
            refine unpackSlots_get hr f2 ?_
            simp only [List.map_cons, List.contains_cons, Bool.or_eq_true, beq_iff_eq] at ht
            exact ht.resolve_left (fun h => e h.symm)
    · cases h

theorem unpackSlots_keys : ∀ {l : List (Nat × CK)} {vs' : List SVs}, vs'.length = l.length → (unpackSlots (semAlg P K) l vs').map (·.1) = l.map (·.1)
  | [], [], _ => rfl
  | [], _ :: _, h => by simp at h
  | _ :: _, [], h => by simp at h
  | (t, c) :: r, v :: vs, h => by
    simp only [unpackSlots, List.map_cons]
    rw [unpackSlots_keys (by simpa using h)]

theorem unpackBx_get : ∀ {l : List (Nat × TypeId × List CK)} {vs vs' : List SVs} {i : Nat} {x' : Box semAt}, packBx (semAlg P K) σ l = some vs → Fits vs vs' →
    getBox (unpackBx (semAlg P K) l vs') i = some x' →
    ∃ x, getBox σ.boxes i = some x ∧ x'.type = x.type ∧ toVs0 x'.cells = toVs0 x.cells ∧ SV.bpss x'.cells = [] ∧ SV.bpss x.cells = [] ∧ SV.defds x'.cells = true
  | [], vs, vs', i, x', _, _, h => by simp [unpackBx, getBox] at h
  | (u, t, c) :: r, vs, vs', i, x', h, f, hx => by
    simp only [packBx] at h
    split at h
    · rename_i y hy
      split at h
      · rename_i hc
        simp only [Bool.and_eq_true, beq_iff_eq] at hc
        cases hr : packBx (semAlg P K) σ r with
        | none => rw [hr] at h; cases h
        | some ws =>
          rw [hr] at h; simp only [Option.map_some, Option.some.injEq] at h; subst h
          cases vs' with
          | nil => exact f.elim
          | cons v' ws' =>
            obtain ⟨f1, f2⟩ := f
            simp only [unpackBx, getBox] at hx
            by_cases e : u = i
            · subst e
              simp only [beq_self_eq_true, if_true, Option.some.injEq] at hx
              subst hx
              exact ⟨y, hy, hc.2.symm, f1.cells, bpss_cellsOf f1.nob', by simpa [SV.bps] using f1.nob, defds_cellsOf f1.dd'⟩
            · rw [if_neg (by simpa using e)] at hx
              exact unpackBx_get hr f2 hx
      · cases h
    · cases h

theorem packs_keys (ts : List Nat) : ∀ {e : List (Nat × SVs)} {t : Nat}, ((packs (semAlg P K) ts e).map (·.1)).contains t = true → ts.contains t = true
  | [], t, h => by simp [packs] at h
  | (u, v) :: r, t, h => by
    simp only [packs] at h
    split at h
    · rename_i hu
      split at h
      · simp only [List.map_cons, List.contains_cons, Bool.or_eq_true, beq_iff_eq] at h
        rcases h with h | h
        · rw [h]; exact hu
        · exact packs_keys ts h
      · exact packs_keys ts h
    · exact packs_keys ts h

theorem packBoxes_keys (is : List Nat) : ∀ {l : List (Box semAt)} {i : Nat}, ((packBoxes (semAlg P K) is l).map (·.1)).contains i = true → is.contains i = true
  | [], i, h => by simp [packBoxes] at h
  | x :: r, i, h => by
    simp only [packBoxes] at h
    split at h
    · rename_i hu
      split at h
      · simp only [List.map_cons, List.contains_cons, Bool.or_eq_true, beq_iff_eq] at h
        rcases h with h | h
        · rw [h]; exact hu
        · exact packBoxes_keys is h
      · exact packBoxes_keys is h
    · exact packBoxes_keys is h

theorem unpackBx_keys : ∀ {l : List (Nat × TypeId × List CK)} {vs' : List SVs} {i : Nat} {x' : Box semAt}, getBox (unpackBx (semAlg P K) l vs') i = some x' → (l.map (·.1)).contains i = true
  | [], vs', i, x', h => by simp [unpackBx, getBox] at h
  | (u, t, c) :: r, [], i, x', h => by simp [unpackBx, getBox] at h
  | (u, t, c) :: r, v :: vs, i, x', h => by
    simp only [unpackBx, getBox] at h
    simp only [List.map_cons, List.contains_cons, Bool.or_eq_true, beq_iff_eq]
    by_cases e : u = i
    · exact .inl e.symm
    · rw [if_neg (by simpa using e)] at h; exact .inr (unpackBx_keys h)

theorem keepEnv_keys (ts : List Nat) : ∀ {e : List (Nat × SVs)} {t : Nat}, ((keepEnv ts e).map (·.1)).contains t = true → ts.contains t = false
  | [], t, h => by simp [keepEnv] at h
  | (u, v) :: r, t, h => by
    simp only [keepEnv] at h
    split at h
    · exact keepEnv_keys ts h
    · rename_i hu
      simp only [List.map_cons, List.contains_cons, Bool.or_eq_true, beq_iff_eq] at h
      rcases h with h | h
      · rw [h]; simpa using hu
      · exact keepEnv_keys ts h

theorem keepBoxes_keys (is : List Nat) : ∀ {l : List (Box semAt)} {i : Nat}, ((keepBoxes is l).map (·.id)).contains i = true → is.contains i = false
  | [], i, h => by simp [keepBoxes] at h
  | x :: r, i, h => by
    simp only [keepBoxes] at h
    split at h
    · exact keepBoxes_keys is h
    · rename_i hu
      simp only [List.map_cons, List.contains_cons, Bool.or_eq_true, beq_iff_eq] at h
      rcases h with h | h
      · rw [h]; simpa using hu
      · exact keepBoxes_keys is h

theorem getBox_key {i : Nat} {x : Box semAt} : ∀ {l : List (Box semAt)}, getBox l i = some x → (l.map (·.id)).contains i = true
  | [], h => by simp [getBox] at h
  | y :: r, h => by
    simp only [getBox] at h
    simp only [List.map_cons, List.contains_cons, Bool.or_eq_true, beq_iff_eq]
    by_cases e : y.id = i
    · exact .inl e.symm
    · rw [if_neg (by simpa using e)] at h; exact .inr (getBox_key h)

/-- A state that has been packed may be unpacked. -/
theorem Sim.unpack {n : Nat} {σ' : St semAt} {a' : Act} {W' : World} {β' : Nat → Nat} {ts is : List Nat} {j : JS} {vs vs' : List SVs} (s' : Sim h0 W0 n β' σ' a' W')
    (g' : Agree (pr.add (semAlg P K) (baseOf (semAlg P K) ts is σ)) σ σ') (hp : j.pack (semAlg P K) σ' = some vs) (f : Fits vs vs') :
    Sim h0 W0 n β' (j.unpack (semAlg P K) (baseOf (semAlg P K) ts is σ) vs' σ'.heap) a' W' := by
  unfold JS.pack at hp
  split at hp
  · rename_i va vb ha hb
    simp only [Option.some.injEq] at hp; subst hp
    have ⟨fa, fb⟩ := f.split
    have la := packSlots_length ha
    rw [la] at fa fb
    have lk := unpackSlots_keys (P := P) (K := K) (l := j.slots) (vs' := vs'.take j.slots.length) (by rw [fa.length, la])
    have env : ∀ t, (getEnv (j.unpack (semAlg P K) (baseOf (semAlg P K) ts is σ) vs' σ'.heap).env t).defd = true →
        a'.tmps[t]? = some (toV β' (getEnv (j.unpack (semAlg P K) (baseOf (semAlg P K) ts is σ) vs' σ'.heap).env t)) := by
      intro t ht
      simp only [JS.unpack] at ht ⊢
      rw [getEnv_append] at ht ⊢
      rw [lk] at ht ⊢
      split at ht
      · rename_i hc
        rw [if_pos hc]
        obtain ⟨v', e, ft⟩ := unpackSlots_get ha fa hc
        rw [e, toV_nobp ft.nob', ft.eq, ← toV_nobp (β := β') ft.nob]
        exact s'.env t ft.dd
      · rename_i hc
        rw [if_neg hc]
        have hm := getEnv_mem ht
        have hk : t ∈ (pr.add (semAlg P K) (baseOf (semAlg P K) ts is σ)).slots := by
          simp only [Prot.add, List.mem_append]; exact .inl (List.mem_map_of_mem hm)
        have hk' : ((keepEnv ts σ.env).map (·.1)).contains t = true := by
          rw [List.contains_iff_mem]; exact List.mem_map_of_mem hm
        have hts := keepEnv_keys ts hk'
        have e1 : getEnv (baseOf (semAlg P K) ts is σ).env t = getEnv σ.env t := by
          simp only [baseOf]; rw [getEnv_keep, hts]; rfl
        rw [e1, ← g'.slots t hk]
        exact s'.env t (by rw [g'.slots t hk, ← e1]; exact ht)
    have boxOf : ∀ i x', getBox (j.unpack (semAlg P K) (baseOf (semAlg P K) ts is σ) vs' σ'.heap).boxes i = some x' →
        ∃ x, getBox σ'.boxes i = some x ∧ x'.type = x.type ∧ toVs β' x'.cells = toVs β' x.cells ∧ SV.defds x'.cells = true := by
      intro i x' hx
      simp only [JS.unpack] at hx
      rw [getBox_append] at hx
      cases hu : getBox (unpackBx (semAlg P K) j.boxes (vs'.drop j.slots.length)) i with
      | some y =>
        rw [hu] at hx; simp only [Option.some.injEq] at hx; subst hx
        obtain ⟨x, h1, h2, h3, h4, h5, h6⟩ := unpackBx_get hb fb hu
        exact ⟨x, h1, h2, by rw [toVs_nobp h4, h3, toVs_nobp h5], h6⟩
      | none =>
        rw [hu] at hx
        have hk := getBox_key hx
        have his := keepBoxes_keys is hk
        have hx' : getBox σ.boxes i = some x' := by
          have := hx; simp only [baseOf] at this; rw [getBox_keep, his] at this; exact this
        have hm : i ∈ (pr.add (semAlg P K) (baseOf (semAlg P K) ts is σ)).boxes := by
          simp only [Prot.add, List.mem_append]; exact .inl (by simpa using hk)
        have e := g'.boxes i hm
        rw [hx'] at e
        exact ⟨x', e, rfl, rfl, (s'.box i x' e).1⟩
    exact {
      env := env
      size := s'.size
      defers := s'.defers
      sub := s'.sub
      frame := s'.frame
      box := fun i x' hx => by
        obtain ⟨x, h1, h2, h3, h4⟩ := boxOf i x' hx
        obtain ⟨d, w, nn, l⟩ := s'.box i x h1
        exact ⟨h4, by rw [h3, h2]; exact w, nn, l⟩
      inj := fun i k x y hx hy e => by
        obtain ⟨x', h1, _⟩ := boxOf i x hx
        obtain ⟨y', h2, _⟩ := boxOf k y hy
        exact s'.inj i k x' y' h1 h2 e }
  · cases hp

/-- What is protected is as it was. -/
theorem Agree.unpack {ts is : List Nat} {j : JS} {vs' : List SVs} {h : H} {pr' : Prot} (hl : vs'.length = j.slots.length + j.boxes.length)
    (hjs : ∀ t, (j.slots.map (·.1)).contains t = true → ts.contains t = true) (hjb : ∀ i, (j.boxes.map (·.1)).contains i = true → is.contains i = true)
    (h1 : ∀ t ∈ pr'.slots, ts.contains t = false) (h2 : ∀ i ∈ pr'.boxes, is.contains i = false) :
    Agree pr' σ (j.unpack (semAlg P K) (baseOf (semAlg P K) ts is σ) vs' h) where
  slots t ht := by
    have lk := unpackSlots_keys (P := P) (K := K) (l := j.slots) (vs' := vs'.take j.slots.length) (by simp; omega)
    simp only [JS.unpack]
    rw [getEnv_append, lk]
    have hn : ¬((j.slots.map (·.1)).contains t = true) := fun hc => by have := hjs t hc; rw [h1 t ht] at this; cases this
    rw [if_neg hn]
    simp only [baseOf]; rw [getEnv_keep, h1 t ht]; rfl
  boxes i hi := by
    simp only [JS.unpack]
    rw [getBox_append]
    cases hu : getBox (unpackBx (semAlg P K) j.boxes (vs'.drop j.slots.length)) i with
    | some y => have := hjb i (unpackBx_keys hu); rw [h2 i hi] at this; cases this
    | none => simp only [baseOf]; rw [getBox_keep, h2 i hi]; rfl

theorem packBx_length : ∀ {l : List (Nat × TypeId × List CK)} {vs : List SVs}, packBx (semAlg P K) σ l = some vs → vs.length = l.length
  | [], vs, h => by simp only [packBx, Option.some.injEq] at h; subst h; rfl
  | (i, t, c) :: r, vs, h => by
    simp only [packBx] at h
    split at h
    · split at h
      · cases hr : packBx (semAlg P K) σ r with
        | none => rw [hr] at h; cases h
        | some ws =>
          rw [hr] at h; simp only [Option.map_some, Option.some.injEq] at h; subst h
          simp [packBx_length hr]
      · cases h
    · cases h

theorem pack_spec {j : JS} {vs : List SVs} (h : j.pack (semAlg P K) σ = some vs) : vs.length = j.slots.length + j.boxes.length ∧ confL j.kinds vs = true := by
  unfold JS.pack at h
  split at h
  · rename_i va vb ha hb
    simp only [Option.some.injEq] at h; subst h
    exact ⟨by rw [List.length_append, packSlots_length ha, packBx_length hb], confL_append (packSlots_conf ha) (packBx_conf hb)⟩
  · cases h

theorem openOf_spec {closed l : List Nat} : ∀ t ∈ closed, (openOf closed l).contains t = false := by
  intro t ht
  simp only [openOf]
  rw [Bool.eq_false_iff]
  intro h
  rw [List.contains_iff_mem, List.mem_filter] at h
  simp [ht] at h

theorem Agree.weaken {pr' : Prot} (h1 : ∀ t ∈ pr.slots, t ∈ pr'.slots) (h2 : ∀ i ∈ pr.boxes, i ∈ pr'.boxes) {x y : St semAt} (g : Agree pr' x y) : Agree pr x y :=
  ⟨fun t ht => g.slots t (h1 t ht), fun i hi => g.boxes i (h2 i hi)⟩

theorem Prot.add_sub (base : St semAt) : (∀ t ∈ pr.slots, t ∈ (pr.add (semAlg P K) base).slots) ∧ (∀ i ∈ pr.boxes, i ∈ (pr.add (semAlg P K) base).boxes) :=
  ⟨fun t ht => by simp only [Prot.add, List.mem_append]; exact .inr ht, fun i hi => by simp only [Prot.add, List.mem_append]; exact .inr hi⟩

/-- A join is gone through: first the one part, to some states; then, from each of these, the other one. -/
theorem join_elim {ts is : List Nat} {extra : List (Nat × CK)} {body : Prot → (St semAt → Prop) → St semAt → Prop} {rest : St semAt → Prop}
    (f : joinAt (semAlg P K) pr ts is extra σ body rest) (g : Agree pr σ0 σ) :
    ∃ (pr' : Prot) (Kj : St semAt → Prop), pr'.n = pr.n ∧ body pr' Kj σ ∧ (∀ σ' , Agree pr' σ σ' → Agree pr σ0 σ') ∧
      ∀ a' W', Goes h0 W0 pr' σ Kj a' W' → Goes h0 W0 pr σ0 rest a' W' := by
  unfold joinAt at f
  obtain ⟨I, f1, f2⟩ := f
  refine ⟨pr.add (semAlg P K) (baseOf (semAlg P K) (openOf pr.slots ts) (openOf pr.boxes is) σ), _, rfl, f1,
    fun σ' h => g.trans (h.weaken (Prot.add_sub (P := P) (K := K) _).1 (Prot.add_sub (P := P) (K := K) _).2), ?_⟩
  rintro a' W' ⟨σ', β', s', g', k⟩
  split at k
  · rename_i vs hvs
    obtain ⟨hl, hc⟩ := pack_spec hvs
    obtain ⟨vs', ft, h⟩ := allsL_elim _ _ _ f2 hc
    have h := h σ'.heap (by show I (toVs0 vs') _; rw [ft.bps.2.2.2.2]; exact k)
    have hjb : ∀ i, (((JS.of (semAlg P K) (openOf pr.slots ts) (openOf pr.boxes is) σ).boxes).map (·.1)).contains i = true → (openOf pr.boxes is).contains i = true :=
      fun i hi => packBoxes_keys _ hi
    refine ⟨_, β', s'.unpack g' hvs ft, g.trans (Agree.unpack ?_ ?_ hjb openOf_spec openOf_spec), h⟩
    · rw [ft.length, hl]
    · intro t ht
      simp only [List.map_append, List.contains_eq_mem, List.mem_append, decide_eq_true_eq] at ht
      rcases ht with ht | ht
      · obtain ⟨x, hx, rfl⟩ := List.mem_map.1 ht
        have := (List.mem_filter.1 hx).2; rw [List.contains_iff_mem]; exact of_decide_eq_true this
      · obtain ⟨x, hx, rfl⟩ := List.mem_map.1 ht
        have := (List.mem_filter.1 hx).1
        exact packs_keys _ (by rw [List.contains_iff_mem]; exact List.mem_map_of_mem this)
  · exact k.elim

/-! ### Regions -/

theorem wanted_none {o : Oper} (h : o.guard = none) (y : Nat → Option Bool) : Region.wanted o y = true := by simp [Region.wanted, h]

theorem yielded_of {all : Array Oper} {j t : Nat} {b : Bool} (s : Sim h0 W0 pr.n β σ a W) (ht : (all[j]?).bind (·.dst) = some t) (hv : ∀ β, toV β (getEnv σ.env t) = .bool b) (d : (getEnv σ.env t).defd = true) :
    yielded all a.tmps j = some b := by
  unfold yielded
  rw [ht]
  simp only [Option.bind_some, s.env t d, hv]

theorem wpOps_step {all : Array Oper} {i : Nat} {rest : List Nat} {o : Oper} (ho : all[i]? = some o) (hw : Region.wanted o (yielded all a.tmps) = true)
    (h : o.wp P a W (wpOps P all Q rest) Q) : wpOps P all Q (i :: rest) a W := by
  simp only [wpOps, ho]
  rw [if_pos hw]; exact .inl h

theorem wpOps_skip {all : Array Oper} {i : Nat} {rest : List Nat} {o : Oper} (ho : all[i]? = some o) (hw : Region.wanted o (yielded all a.tmps) = false)
    (h : wpOps P all Q rest (a.put o.dst undef) W) : wpOps P all Q (i :: rest) a W := by
  simp only [wpOps, ho]
  rw [if_neg (by simp [hw])]; exact h

theorem opWp_mono {o : Oper} {K1 K2 : Act → World → Prop} (h : ∀ a w, K1 a w → K2 a w) (hh : o.wp P a W K1 Q) : o.wp P a W K2 Q := by
  unfold Oper.wp at *
  generalize (execOp a.eval o).run P W = r at *
  cases r with
  | ok n w' =>
    cases n <;> simp only [Oper.upon] at hh ⊢ <;> first
      | exact hh
      | exact h _ _ hh
      | (exact hh.mono fun e w'' h' => by cases e <;> first | exact h _ _ h' | exact h')
      | (exact hh.mono fun v w'' h' => h _ _ h')
  | halt x w' => cases x <;> exact hh

theorem Sim.known {n t : Nat} {b : Bool} (s : Sim h0 W0 n β σ a W) (hb : getEnv σ.env t = .bool b) : Sim h0 W0 n β (setKnown (semAlg P K) t b σ) a W where
  env u hu := by
    simp only [setKnown, getEnv] at hu ⊢
    by_cases e : t = u
    · subst e
      simp only [beq_self_eq_true, if_true]
      have := s.env t (by rw [hb]; rfl)
      rw [this, hb]; rfl
    · have e' : ¬((t == u) = true) := by simpa using e
      simp only [if_neg e'] at hu ⊢
      rw [getEnv_drop_ne e] at hu ⊢
      exact s.env u hu
  size := s.size
  defers := s.defers
  sub := s.sub
  frame := s.frame
  box := s.box
  inj := s.inj

theorem Agree.known {t : Nat} {b : Bool} (ht : pr.slots.contains t = false) (g : Agree pr σ0 σ) : Agree pr σ0 (setKnown (semAlg P K) t b σ) where
  slots u hu := by
    have : t ≠ u := by intro e; subst e; simp [hu] at ht
    simp only [setKnown, getEnv]
    rw [if_neg (by simpa using this), getEnv_drop_ne this]
    exact g.slots u hu
  boxes := g.boxes

theorem opsFork_goes {all : Array Oper} {rest : List Nat} : ∀ (r : List Oper) (k : Nat) (σ : St semAt) (a : Act) (W : World) (β : Nat → Nat), opsFork P (semAlg P K) pr all r σ Kt → Sim h0 W0 pr.n β σ a W → Agree pr σ0 σ →
    (∀ j o, r[j]? = some o → all[k + j]? = some o) → (∀ a' W', Goes h0 W0 pr σ0 Kt a' W' → wpOps P all Q rest a' W') → wpOps P all Q (List.range' k r.length ++ rest) a W
  | [], k, σ, a, W, β, f, s, g, _, hC => hC a W ⟨σ, β, s, g, f⟩
  | o :: r, k, σ, a, W, β, f, s, g, hr, hC => by
    have ho : all[k]? = some o := by simpa using hr 0 o (by simp)
    have hr' : ∀ j o', r[j]? = some o' → all[(k + 1) + j]? = some o' := fun j o' h => by
      have := hr (j + 1) o' (by simpa using h)
      rwa [show k + (j + 1) = k + 1 + j by omega] at this
    have run : ∀ {σ : St semAt}, Sim h0 W0 pr.n β σ a W → Agree pr σ0 σ → (liftOp P (semAlg P K) pr o σ fun σ' => opsFork P (semAlg P K) pr all r σ' Kt) → o.wp P a W (wpOps P all Q (List.range' (k + 1) r.length ++ rest)) Q := by
      intro σ s g f
      refine opWp_mono (fun a' W' h => ?_) (liftOp_goes (Q := Q) f s g)
      obtain ⟨σ', β', s', g', f'⟩ := h
      exact opsFork_goes r (k + 1) σ' a' W' β' f' s' g' hr' hC
    have skp : ∀ {σ : St semAt}, Sim h0 W0 pr.n β σ a W → Agree pr σ0 σ → (put (semAlg P K) pr o.dst (.tuple []) σ fun σ' => opsFork P (semAlg P K) pr all r σ' Kt) →
        wpOps P all Q (List.range' (k + 1) r.length ++ rest) (a.put o.dst undef) W := by
      intro σ s g f
      obtain ⟨σ', β', s', g', f'⟩ := put_goes (val := undef) f s g (fun _ => rfl)
      exact opsFork_goes r (k + 1) σ' _ W β' f' s' g' hr' hC
    simp only [List.length_cons, List.range'_succ, List.cons_append]
    simp only [opsFork] at f
    split at f
    · rename_i hg
      exact wpOps_step ho (wanted_none hg _) (run s g f)
    · rename_i j want hg
      have wnt : ∀ b, yielded all a.tmps j = some b → Region.wanted o (yielded all a.tmps) = (b == want) := by
        intro b hy; simp only [Region.wanted, hg, hy]; cases b <;> cases want <;> rfl
      split at f
      · exact f.elim
      · rename_i t ht
        split at f
        · rename_i b hb
          have hy := yielded_of s ht (b := b) (fun β => by rw [hb]; rfl) (by rw [hb]; rfl)
          split at f
          · rename_i e
            exact wpOps_step ho (by rw [wnt b hy]; exact e) (run s g f)
          · rename_i e
            exact wpOps_skip ho (by rw [wnt b hy]; simpa using e) (skp s g f)
        · rename_i b hb
          have hy := yielded_of s ht (b := b) (fun β => by rw [hb]; rfl) (by rw [hb]; rfl)
          split at f
          · exact f.elim
          · rename_i hp
            have hp' : pr.slots.contains t = false := by simpa using hp
            obtain ⟨f1, f2⟩ := f
            cases hbv : (b : Bool) with
            | true =>
              have f1 := f1 hbv
              rw [hbv] at hy
              have hb' : getEnv σ.env t = .bool true := by rw [hb, ← hbv]
              have s' := s.known (P := P) (K := K) hb'
              have g' := g.known (P := P) (K := K) (b := true) hp'
              split at f1
              · rename_i e
                exact wpOps_step ho (by rw [wnt true hy, e]; rfl) (run s' g' f1)
              · rename_i e
                exact wpOps_skip ho (by rw [wnt true hy]; simpa using e) (skp s' g' f1)
            | false =>
              have f2 := f2 hbv
              rw [hbv] at hy
              have hb' : getEnv σ.env t = .bool false := by rw [hb, ← hbv]
              have s' := s.known (P := P) (K := K) hb'
              have g' := g.known (P := P) (K := K) (b := false) hp'
              split at f2
              · rename_i e
                exact wpOps_skip ho (by rw [wnt false hy, e]; rfl) (skp s' g' f2)
              · rename_i e
                exact wpOps_step ho (by rw [wnt false hy]; simpa using e) (run s' g' f2)
        · rename_i hb
          have hy : yielded all a.tmps j = none := by
            unfold yielded
            rw [ht]
            simp only [Option.bind_some, s.env t (by rw [hb]; rfl), hb]
            rfl
          have hw : Region.wanted o (yielded all a.tmps) = false := by
            simp only [Region.wanted, hg, hy]; rfl
          exact wpOps_skip ho hw (skp s g f)
        · exact f.elim

theorem liftOps_goes {all : Array Oper} : ∀ (n : Nat) (r : List Oper) (k : Nat) (σ : St semAt) (a : Act) (W : World) (β : Nat → Nat) (Kt : St semAt → Prop), liftOps P (semAlg P K) pr all n r σ Kt → Sim h0 W0 pr.n β σ a W → Agree pr σ0 σ →
    (∀ j o, r[j]? = some o → all[k + j]? = some o) → (∀ a' W', Goes h0 W0 pr σ0 Kt a' W' → Q .normal a' W') → wpOps P all Q (List.range' k r.length) a W
  | 0, r, _, σ, _, _, _, _, f, _, _, _, _ => f.elim
  | n + 1, [], k, σ, a, W, β, Kt, f, s, g, _, hC => hC a W ⟨σ, β, s, g, f⟩
  | n + 1, o :: r, k, σ, a, W, β, Kt, f, s, g, hr, hC => by
    have ho : all[k]? = some o := by simpa using hr 0 o (by simp)
    simp only [liftOps] at f
    split at f
    · rename_i hg
      have hr' : ∀ j o', r[j]? = some o' → all[(k + 1) + j]? = some o' := fun j o' h => by
        have := hr (j + 1) o' (by simpa using h)
        rwa [show k + (j + 1) = k + 1 + j by omega] at this
      simp only [List.length_cons, List.range'_succ]
      refine wpOps_step ho (wanted_none hg _) (opWp_mono (fun a' W' h => ?_) (liftOp_goes (Q := Q) f s g))
      obtain ⟨σ', β', s', g', f'⟩ := h
      exact liftOps_goes n r (k + 1) σ' a' W' β' Kt f' s' g' hr' hC
    · generalize hk : segLen (o :: r) = m at f
      have hsplit : (o :: r) = (o :: r).take m ++ (o :: r).drop m := (List.take_append_drop m (o :: r)).symm
      have hlen : (o :: r).length = ((o :: r).take m).length + ((o :: r).drop m).length := by
        conv => lhs; rw [hsplit]
        exact List.length_append
      have hrange : List.range' k (o :: r).length = List.range' k ((o :: r).take m).length ++ List.range' (k + ((o :: r).take m).length) ((o :: r).drop m).length := by
        rw [hlen, ← List.range'_append_1]
      have hseg : ∀ j o', ((o :: r).take m)[j]? = some o' → all[k + j]? = some o' := fun j o' h => by
        rw [List.getElem?_take] at h
        split at h
        · exact hr j o' h
        · cases h
      have hdrop : ∀ j o', ((o :: r).drop m)[j]? = some o' → all[(k + ((o :: r).take m).length) + j]? = some o' := fun j o' h => by
        rw [List.getElem?_drop] at h
        have hm : m + j < (o :: r).length := (List.getElem?_eq_some_iff.1 h).1
        have : ((o :: r).take m).length = m := by rw [List.length_take]; omega
        rw [this, Nat.add_assoc]; exact hr (m + j) o' h
      have go : ∀ (rest : St semAt → Prop), joinAt (semAlg P K) pr (gslots all ((o :: r).take m) ++ dsts ((o :: r).take m)) [] (segOuts P ((o :: r).take m)) σ
            (fun pr' K' σ => opsFork P (semAlg P K) pr' all ((o :: r).take m) σ K') rest →
          (∀ a' W', Goes h0 W0 pr σ0 rest a' W' → wpOps P all Q (List.range' (k + ((o :: r).take m).length) ((o :: r).drop m).length) a' W') →
          wpOps P all Q (List.range' k (o :: r).length) a W := by
        intro rest hf hrest
        obtain ⟨pr', Kj, hn, hb, _, hgo⟩ := join_elim (h0 := h0) (W0 := W0) hf g
        rw [hrange]
        exact opsFork_goes (pr := pr') (σ0 := σ) _ k σ a W β hb (by rw [hn]; exact s) (Agree.refl _ _) hseg fun a' W' h => hrest a' W' (hgo a' W' h)
      split at f
      · rename_i hd
        refine go _ f fun a' W' h => ?_
        rw [hd]; exact hC a' W' h
      · rename_i hd _
        refine go _ f fun a' W' h => ?_
        obtain ⟨σ', β', s', g', f'⟩ := h
        exact liftOps_goes n _ _ σ' a' W' β' Kt f' s' g' hdrop hC
end Lf

