/- The lifter is sound: values, states, the single steps on states. -/
import Derived.Test.YtlcebmelfcfkaaaLfSem
namespace Lf
open Go

section values
variable (P : Program) (K : Value → H → Prop)

mutual
theorem ofValue_toV (β : Nat → Nat) : ∀ v : Value, (ofValue (semAlg P K) v).defd = true → toV β (ofValue (semAlg P K) v) = v
  | .int k n, _ => rfl
  | .bool b, _ => rfl
  | .string s, _ => rfl
  | .float k b, _ => rfl
  | .pointer none, _ => rfl
  | .pointer (some a), h => by simp [ofValue, SV.defd] at h
  | .slice none 0 0, _ => rfl
  | .slice none 0 (n + 1), h => by simp [ofValue, SV.defd] at h
  | .slice none (n + 1) c, h => by simp [ofValue, SV.defd] at h
  | .slice (some a) n c, h => by simp [ofValue, SV.defd] at h
  | .map none, _ => rfl
  | .map (some r), h => by simp [ofValue, SV.defd] at h
  | .nilFunc, _ => rfl
  | .nilIface, _ => rfl
  | .agg ⟨cs⟩, h => by
    simp only [ofValue, SV.defd] at h
    simp only [ofValue, toV, ofValues_toVs β cs h]
  | .tuple ⟨cs⟩, h => by
    simp only [ofValue, SV.defd] at h
    simp only [ofValue, toV, ofValues_toVs β cs h]
  | .func fn ⟨f⟩ ⟨c⟩, h => by
    simp only [ofValue, SV.defd, Bool.and_eq_true] at h
    simp only [ofValue, toV, ofValues_toVs β f h.1, ofValues_toVs β c h.2]
  | .iface t v, h => by
    simp only [ofValue, SV.defd] at h
    simp only [ofValue, toV, ofValue_toV β v h]
  | .complex .., h => by simp [ofValue, SV.defd] at h
  | .chan .., h => by simp [ofValue, SV.defd] at h
theorem ofValues_toVs (β : Nat → Nat) : ∀ vs : List Value, SV.defds (ofValues (semAlg P K) vs) = true → toVs β (ofValues (semAlg P K) vs) = vs
  | [], _ => rfl
  | v :: vs, h => by
    simp only [ofValues, SV.defds, Bool.and_eq_true] at h
    simp only [ofValues, toVs, ofValue_toV β v h.1, ofValues_toVs β vs h.2]
end
end values

mutual
theorem toV_congr (β β' : Nat → Nat) : ∀ v : SVs, (∀ i ∈ v.bps, β i = β' i) → toV β v = toV β' v
  | .bp i off, h => by simp only [toV]; rw [h i (by simp [SV.bps])]
  | .func fn f c, h => by
    simp only [SV.bps, List.mem_append] at h
    simp only [toV, toVs_congr β β' f (fun i hi => h i (.inl hi)), toVs_congr β β' c (fun i hi => h i (.inr hi))]
  | .iface t v, h => by
    simp only [SV.bps] at h
    simp only [toV, toV_congr β β' v h]
  | .agg cs, h => by
    simp only [SV.bps] at h
    simp only [toV, toVs_congr β β' cs h]
  | .tuple cs, h => by
    simp only [SV.bps] at h
    simp only [toV, toVs_congr β β' cs h]
  | .int .., _ | .ints .., _ | .bool _, _ | .bools _, _ | .flt .., _ | .str _, _ | .strs _, _ | .nilp, _ | .optr _, _ | .addr .., _ | .slice .., _ | .nilslice, _
  | .omap _, _ | .nilmap, _ | .nilfunc, _ | .niliface, _ | .raw _, _ | .undef, _ => rfl
theorem toVs_congr (β β' : Nat → Nat) : ∀ vs : List SVs, (∀ i ∈ SV.bpss vs, β i = β' i) → toVs β vs = toVs β' vs
  | [], _ => rfl
  | v :: vs, h => by
    simp only [SV.bpss, List.mem_append] at h
    simp only [toVs, toV_congr β β' v (fun i hi => h i (.inl hi)), toVs_congr β β' vs (fun i hi => h i (.inr hi))]
end

theorem toV_nobp {β : Nat → Nat} {v : SVs} (h : v.bps = []) : toV β v = toV0 v := toV_congr _ _ v (by rw [h]; simp)
theorem toVs_nobp {β : Nat → Nat} {v : List SVs} (h : SV.bpss v = []) : toVs β v = toVs0 v := toVs_congr _ _ v (by rw [h]; simp)

mutual
theorem toV_subst (β : Nat → Nat) (i : Nat) : ∀ v : SVs, toV β (v.subst i (blk (β i))) = toV β v
  | .bp j off => by
    simp only [SV.subst]
    split
    · rename_i h; simp only [beq_iff_eq] at h; subst h; rfl
    · rfl
  | .func fn f c => by simp only [SV.subst, toV, toVs_subst β i f, toVs_subst β i c]
  | .iface t v => by simp only [SV.subst, toV, toV_subst β i v]
  | .agg cs => by simp only [SV.subst, toV, toVs_subst β i cs]
  | .tuple cs => by simp only [SV.subst, toV, toVs_subst β i cs]
  | .int .. | .ints .. | .bool _ | .bools _ | .flt .. | .str _ | .strs _ | .nilp | .optr _ | .addr .. | .slice .. | .nilslice
  | .omap _ | .nilmap | .nilfunc | .niliface | .raw _ | .undef => rfl
theorem toVs_subst (β : Nat → Nat) (i : Nat) : ∀ vs : List SVs, toVs β (SV.substs i (blk (β i)) vs) = toVs β vs
  | [] => rfl
  | v :: vs => by simp only [SV.substs, toVs, toV_subst β i v, toVs_subst β i vs]
end

mutual
theorem defd_subst {At : AK → Type} (i : Nat) (b : At .addr) : ∀ v : SV At, (v.subst i b).defd = v.defd
  | .bp j off => by simp only [SV.subst]; split <;> rfl
  | .func fn f c => by simp only [SV.subst, SV.defd, defds_subst i b f, defds_subst i b c]
  | .iface t v => by simp only [SV.subst, SV.defd, defd_subst i b v]
  | .agg cs => by simp only [SV.subst, SV.defd, defds_subst i b cs]
  | .tuple cs => by simp only [SV.subst, SV.defd, defds_subst i b cs]
  | .int .. | .ints .. | .bool _ | .bools _ | .flt .. | .str _ | .strs _ | .nilp | .optr _ | .addr .. | .slice .. | .nilslice
  | .omap _ | .nilmap | .nilfunc | .niliface | .raw _ | .undef => rfl
theorem defds_subst {At : AK → Type} (i : Nat) (b : At .addr) : ∀ vs : List (SV At), SV.defds (SV.substs i b vs) = SV.defds vs
  | [] => rfl
  | v :: vs => by simp only [SV.substs, SV.defds, defd_subst i b v, defds_subst i b vs]
end

mutual
theorem subst_none {At : AK → Type} (i : Nat) (b : At .addr) : ∀ v : SV At, i ∉ v.bps → v.subst i b = v
  | .bp j off, h => by
    simp only [SV.bps, List.mem_singleton] at h
    simp only [SV.subst]
    rw [if_neg]; simpa using fun e => h e.symm
  | .func fn f c, h => by
    simp only [SV.bps, List.mem_append, not_or] at h
    simp only [SV.subst, substs_none i b f h.1, substs_none i b c h.2]
  | .iface t v, h => by simp only [SV.bps] at h; simp only [SV.subst, subst_none i b v h]
  | .agg cs, h => by simp only [SV.bps] at h; simp only [SV.subst, substs_none i b cs h]
  | .tuple cs, h => by simp only [SV.bps] at h; simp only [SV.subst, substs_none i b cs h]
  | .int .., _ | .ints .., _ | .bool _, _ | .bools _, _ | .flt .., _ | .str _, _ | .strs _, _ | .nilp, _ | .optr _, _ | .addr .., _ | .slice .., _ | .nilslice, _
  | .omap _, _ | .nilmap, _ | .nilfunc, _ | .niliface, _ | .raw _, _ | .undef, _ => rfl
theorem substs_none {At : AK → Type} (i : Nat) (b : At .addr) : ∀ vs : List (SV At), i ∉ SV.bpss vs → SV.substs i b vs = vs
  | [], _ => rfl
  | v :: vs, h => by
    simp only [SV.bpss, List.mem_append, not_or] at h
    simp only [SV.substs, subst_none i b v h.1, substs_none i b vs h.2]
end

/-! ### Lists of slots and boxes -/
section lists
variable {At : AK → Type}

theorem getEnv_drop_self (t : Nat) : ∀ e : List (Nat × SV At), getEnv (dropEnv t e) t = .undef
  | [] => rfl
  | (u, v) :: r => by
    simp only [dropEnv]
    split
    · exact getEnv_drop_self t r
    · rename_i h; simp only [getEnv, h]; exact getEnv_drop_self t r

theorem getEnv_drop_ne {t u : Nat} (h : t ≠ u) : ∀ e : List (Nat × SV At), getEnv (dropEnv t e) u = getEnv e u
  | [] => rfl
  | (x, v) :: r => by
    simp only [dropEnv]
    split
    · rename_i hx
      simp only [beq_iff_eq] at hx; subst hx
      simp only [getEnv]
      rw [if_neg (by simpa using h)]; exact getEnv_drop_ne h r
    · simp only [getEnv, getEnv_drop_ne h r]

theorem getEnv_keep (ts : List Nat) (u : Nat) : ∀ e : List (Nat × SV At), getEnv (keepEnv ts e) u = if ts.contains u then .undef else getEnv e u
  | [] => by simp [keepEnv, getEnv]
  | (x, v) :: r => by
    have ih := getEnv_keep ts u r
    simp only [keepEnv]
    split
    · rename_i hx
      rw [ih]; simp only [getEnv]
      by_cases e : x = u
      · subst e; simp only [hx, if_true]
      · rw [if_neg (show ¬((x == u) = true) by simpa using e)]
    · rename_i hx
      simp only [getEnv]
      by_cases e : x = u
      · subst e; rw [if_pos (show (x == x) = true by simp), if_neg hx, if_pos (show (x == x) = true by simp)]
      · have e' : ¬((x == u) = true) := by simpa using e
        rw [if_neg e', ih, if_neg e']

theorem getEnv_append (u : Nat) : ∀ a b : List (Nat × SV At), getEnv (a ++ b) u = if (a.map (·.1)).contains u then getEnv a u else getEnv b u
  | [], b => by simp
  | (x, v) :: r, b => by
    have ih := getEnv_append u r b
    simp only [List.cons_append, getEnv, List.map_cons, List.contains_cons]
    by_cases e : x = u
    · subst e; simp
    · rw [if_neg (by simpa using e), ih]
      have : (u == x) = false := by simpa using fun h => e h.symm
      simp only [this, Bool.false_or]
      split
      · rw [if_neg (by simpa using e)]
      · rfl

theorem getEnv_mem {u : Nat} : ∀ {e : List (Nat × SV At)}, (getEnv e u).defd = true → (u, getEnv e u) ∈ e
  | [], h => by simp [getEnv, SV.defd] at h
  | (x, v) :: r, h => by
    simp only [getEnv] at h ⊢
    split at h
    · rename_i hx; simp only [beq_iff_eq] at hx; subst hx; simp
    · rename_i hx; rw [if_neg hx]; exact List.mem_cons_of_mem _ (getEnv_mem h)

theorem getEnv_substEnv (i : Nat) (b : At .addr) (u : Nat) : ∀ e : List (Nat × SV At), getEnv (substEnv i b e) u = (getEnv e u).subst i b
  | [] => rfl
  | (x, v) :: r => by
    simp only [substEnv, getEnv]
    split
    · rfl
    · exact getEnv_substEnv i b u r

theorem getBox_id {i : Nat} {x : Box At} : ∀ {l : List (Box At)}, getBox l i = some x → x.id = i
  | [], h => by simp [getBox] at h
  | y :: r, h => by
    simp only [getBox] at h
    split at h
    · rename_i e; cases h; simpa using e
    · exact getBox_id h

theorem getBox_drop_self (i : Nat) : ∀ l : List (Box At), getBox (dropBox i l) i = none
  | [] => rfl
  | y :: r => by
    simp only [dropBox]
    split
    · exact getBox_drop_self i r
    · rename_i h; simp only [getBox, h]; exact getBox_drop_self i r

theorem getBox_drop_ne {i j : Nat} (h : i ≠ j) : ∀ l : List (Box At), getBox (dropBox i l) j = getBox l j
  | [] => rfl
  | y :: r => by
    simp only [dropBox]
    split
    · rename_i hx
      simp only [beq_iff_eq] at hx; subst hx
      simp only [getBox]
      rw [if_neg (by simpa using h)]; exact getBox_drop_ne h r
    · simp only [getBox, getBox_drop_ne h r]

theorem getBox_keep (is : List Nat) (j : Nat) : ∀ l : List (Box At), getBox (keepBoxes is l) j = if is.contains j then none else getBox l j
  | [] => by simp [keepBoxes, getBox]
  | y :: r => by
    have ih := getBox_keep is j r
    simp only [keepBoxes]
    split
    · rename_i hx
      rw [ih]; simp only [getBox]
      by_cases e : y.id = j
      · subst e; simp only [hx, if_true]
      · rw [if_neg (show ¬((y.id == j) = true) by simpa using e)]
    · rename_i hx
      simp only [getBox]
      by_cases e : y.id = j
      · subst e; rw [if_pos (show (y.id == y.id) = true by simp), if_neg hx, if_pos (show (y.id == y.id) = true by simp)]
      · have e' : ¬((y.id == j) = true) := by simpa using e
        rw [if_neg e', ih, if_neg e']

theorem getBox_set_self {i : Nat} {cs : List (SV At)} {x : Box At} : ∀ {l : List (Box At)}, getBox l i = some x → getBox (setBox i cs l) i = some { x with cells := cs }
  | [], h => by simp [getBox] at h
  | y :: r, h => by
    simp only [getBox] at h
    split at h
    · rename_i e; cases h; simp only [setBox, e, if_true, getBox]
    · rename_i e
      simp only [setBox]; rw [if_neg e]; simp only [getBox]; rw [if_neg e]; exact getBox_set_self h

theorem getBox_set_ne {i j : Nat} {cs : List (SV At)} (h : i ≠ j) : ∀ l : List (Box At), getBox (setBox i cs l) j = getBox l j
  | [] => rfl
  | y :: r => by
    simp only [setBox]
    split
    · rename_i hx
      simp only [beq_iff_eq] at hx; subst hx
      simp only [getBox]
      rw [if_neg (by simpa using h), if_neg (by simpa using h)]; exact getBox_set_ne h r
    · simp only [getBox, getBox_set_ne h r]

theorem getBox_subst (i : Nat) (b : At .addr) (j : Nat) : ∀ l : List (Box At), getBox (substBoxes i b l) j = (getBox l j).map fun x => { x with cells := SV.substs i b x.cells }
  | [] => rfl
  | y :: r => by
    simp only [substBoxes, getBox]
    split
    · rfl
    · exact getBox_subst i b j r

theorem getBox_append (j : Nat) : ∀ a b : List (Box At), getBox (a ++ b) j = match getBox a j with | some x => some x | none => getBox b j
  | [], b => rfl
  | y :: r, b => by
    simp only [List.cons_append, getBox]
    split
    · rfl
    · exact getBox_append j r b
end lists

/-! ### States -/

/-- A state says the truth of an activation and a world. -/
structure Sim (h0 : H) (W0 : World) (n : Nat) (β : Nat → Nat) (σ : St semAt) (a : Act) (W : World) : Prop where
  env : ∀ t, (getEnv σ.env t).defd = true → a.tmps[t]? = some (toV β (getEnv σ.env t))
  size : a.tmps.size = n
  defers : a.defers = []
  sub : Sub σ.heap W
  frame : Frame h0 W0 σ.heap W
  box : ∀ i x, getBox σ.boxes i = some x → SV.defds x.cells = true ∧ W.heap[β i]? = some (.cells (toVs β x.cells).toArray x.type (0, 0)) ∧ σ.heap (β i) = none ∧ W0.heap.size ≤ β i
  inj : ∀ i j x y, getBox σ.boxes i = some x → getBox σ.boxes j = some y → β i = β j → i = j

structure Agree (pr : Prot) (σ σ' : St semAt) : Prop where
  slots : ∀ t ∈ pr.slots, getEnv σ'.env t = getEnv σ.env t
  boxes : ∀ i ∈ pr.boxes, getBox σ'.boxes i = getBox σ.boxes i

theorem Agree.refl (pr : Prot) (σ : St semAt) : Agree pr σ σ := ⟨fun _ _ => rfl, fun _ _ => rfl⟩
theorem Agree.trans {pr : Prot} {a b c : St semAt} (x : Agree pr a b) (y : Agree pr b c) : Agree pr a c :=
  ⟨fun t h => (y.slots t h).trans (x.slots t h), fun i h => (y.boxes i h).trans (x.boxes i h)⟩

/-- Where a step leads. -/
def Goes (h0 : H) (W0 : World) (pr : Prot) (σ0 : St semAt) (Kt : St semAt → Prop) (a : Act) (W : World) : Prop :=
  ∃ σ β, Sim h0 W0 pr.n β σ a W ∧ Agree pr σ0 σ ∧ Kt σ

variable {h0 : H} {W0 : World} {pr : Prot} {β : Nat → Nat} {σ σ0 : St semAt} {a : Act} {W : World}

theorem Sim.step {h' : H} {W' : World} {n : Nat} (s : Sim h0 W0 n β σ a W) (s' : Sub h' W') (f : Frame σ.heap W h' W') : Sim h0 W0 n β { σ with heap := h' } a W' where
  env := s.env
  size := s.size
  defers := s.defers
  sub := s'
  frame := s.frame.trans f
  box i x hx := by
    obtain ⟨d, e, n, l⟩ := s.box i x hx
    have hlt : β i < W.heap.size := by
      rcases Nat.lt_or_ge (β i) W.heap.size with h | h
      · exact h
      · rw [Array.getElem?_eq_none h] at e; cases e
    have ⟨n', e'⟩ := f.2 _ hlt n
    exact ⟨d, e'.trans e, n', l⟩
  inj := s.inj

theorem chk_defd {At : AK → Type} {v : SV At} (h : (chk v).defd = true) : v.defd = true ∧ chk v = v := by
  unfold chk at *
  split at h
  · rename_i e; exact ⟨e, by rw [if_pos e]⟩
  · simp [SV.defd] at h

theorem chk_undef {At : AK → Type} {v : SV At} (h : v.defd = false) : chk v = .undef := by unfold chk; rw [if_neg (by simp [h])]

/-- A slot filled. -/
theorem Sim.put {n d : Nat} {v : SVs} {val : Value} (s : Sim h0 W0 n β σ a W) (hd : d < n) (hv : v.defd = true → toV β v = val) :
    Sim h0 W0 n β { σ with env := (d, chk v) :: dropEnv d σ.env } (a.put (some d) val) W where
  env t ht := by
    simp only [getEnv] at ht ⊢
    simp only [Act.put]
    by_cases e : d = t
    · subst e
      simp only [beq_self_eq_true, if_true] at ht ⊢
      have ⟨h1, h2⟩ := chk_defd ht
      rw [h2, Array.getElem?_setIfInBounds, if_pos rfl, if_pos (by rw [s.size]; exact hd), hv h1]
    · have e' : ¬((d == t) = true) := by simpa using e
      simp only [if_neg e'] at ht ⊢
      rw [getEnv_drop_ne e] at ht ⊢
      rw [Array.getElem?_setIfInBounds, if_neg e]
      exact s.env t ht
  size := by simp [Act.put, s.size]
  defers := by simp [Act.put, s.defers]
  sub := s.sub
  frame := s.frame
  box := s.box
  inj := s.inj

theorem Agree.put {d : Nat} {v : SVs} (hd : pr.slots.contains d = false) (g : Agree pr σ0 σ) : Agree pr σ0 { σ with env := (d, v) :: dropEnv d σ.env } where
  slots t ht := by
    have : d ≠ t := by intro e; subst e; simp [ht] at hd
    simp only [getEnv]
    rw [if_neg (by simpa using this), getEnv_drop_ne this]
    exact g.slots t ht
  boxes := g.boxes

variable {P : Program} {K : Value → H → Prop} {Kt : St semAt → Prop}

theorem put_goes {dst : Option Nat} {v : SVs} {val : Value} (f : put (semAlg P K) pr dst v σ Kt) (s : Sim h0 W0 pr.n β σ a W) (g : Agree pr σ0 σ)
    (hv : v.defd = true → toV β v = val) : Goes h0 W0 pr σ0 Kt (a.put dst val) W := by
  cases dst with
  | none => exact ⟨σ, β, s, g, f⟩
  | some d =>
    simp only [put] at f
    split at f
    · exact f.elim
    · rename_i h
      rw [Bool.or_eq_true, not_or] at h
      have h1 : pr.slots.contains d = false := by simpa using h.1
      have h2 : d < pr.n := by have := h.2; simp only [Bool.not_eq_true', Bool.not_eq_false] at this; exact Nat.le_of_ble_eq_true this
      exact ⟨_, β, s.put h2 hv, g.put h1, f⟩

theorem opnd_eval (s : Sim h0 W0 pr.n β σ a W) (x : Operand) (h : (opnd (semAlg P K) σ x).defd = true) : a.eval x = toV β (opnd (semAlg P K) σ x) := by
  cases x with
  | tmp t =>
    simp only [opnd] at h ⊢
    have ⟨h1, h2⟩ := chk_defd h
    rw [h2]
    have := s.env t h1
    simp only [Act.eval]
    rw [Array.getD_eq_getD_getElem?, this]; rfl
  | const v =>
    simp only [opnd] at h ⊢
    have ⟨h1, h2⟩ := chk_defd h
    rw [h2, ofValue_toV P K β v h1]; rfl
  | global g => rfl
  | func f => rfl
end Lf

