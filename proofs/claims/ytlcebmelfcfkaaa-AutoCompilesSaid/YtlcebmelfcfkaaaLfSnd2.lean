/- The lifter is sound: kinds, cells, boxes that become seen. -/
import Derived.Test.YtlcebmelfcfkaaaLfSnd1
namespace Lf
open Go
variable {P : Program} {K : Value → H → Prop}

theorem Addr_add_add (a : Addr) (m n : Nat) : (a.add m).add n = a.add (m + n) := by
  unfold Addr.add
  by_cases hm : m = 0
  · subst hm; simp
  · by_cases hn : n = 0
    · subst hn; simp [hm]
    · simp only [hm, hn, if_false]
      rw [if_neg (by omega)]
      simp only [Addr.mk.injEq, and_true, true_and]; omega

theorem Addr_add_zero (a : Addr) : a.add 0 = a := by simp [Addr.add]

mutual
theorem exs_elim : ∀ (c : CK) (F : SVs → Prop), exs (semAlg P K) c F → ∃ v, v.bps = [] ∧ v.defd = true ∧ F v
  | .int k, _, ⟨x, h⟩ => ⟨.int k x, rfl, rfl, h⟩
  | .bool, _, ⟨x, h⟩ => ⟨.bool x, rfl, rfl, h⟩
  | .str, _, ⟨x, h⟩ => ⟨.str x, rfl, rfl, h⟩
  | .flt k, _, ⟨x, h⟩ => ⟨.flt k x, rfl, rfl, h⟩
  | .optr, _, ⟨x, h⟩ => ⟨.optr x, rfl, rfl, h⟩
  | .slice, _, ⟨p, l, c, h⟩ => ⟨.slice p l c, rfl, rfl, h⟩
  | .omap, _, ⟨x, h⟩ => ⟨.omap x, rfl, rfl, h⟩
  | .raw, _, ⟨x, h⟩ => ⟨.raw x, rfl, rfl, h⟩
  | .agg l, F, h => by
    obtain ⟨vs, h1, h2, _, h3⟩ := exsL_elim l (fun vs => F (.agg vs)) h
    exact ⟨.agg vs, h1, h2, h3⟩
  | .tuple l, F, h => by
    obtain ⟨vs, h1, h2, _, h3⟩ := exsL_elim l (fun vs => F (.tuple vs)) h
    exact ⟨.tuple vs, h1, h2, h3⟩
theorem exsL_elim : ∀ (l : List CK) (F : List SVs → Prop), exsL (semAlg P K) l F → ∃ vs, SV.bpss vs = [] ∧ SV.defds vs = true ∧ vs.length = l.length ∧ F vs
  | [], _, h => ⟨[], rfl, rfl, rfl, h⟩
  | c :: cs, F, h => by
    obtain ⟨v, b1, d1, h1⟩ := exs_elim c (fun v => exsL (semAlg P K) cs fun vs => F (v :: vs)) h
    obtain ⟨vs, b2, d2, l2, h2⟩ := exsL_elim cs (fun vs => F (v :: vs)) h1
    exact ⟨v :: vs, by simp [SV.bpss, b1, b2], by simp [SV.defds, d1, d2], by simp [l2], h2⟩
end

/-- v' says what v says, by atoms alone. -/
structure Fit (v v' : SVs) : Prop where
  nob : v.bps = []
  nob' : v'.bps = []
  dd : v.defd = true
  dd' : v'.defd = true
  eq : toV0 v' = toV0 v
  cells : toVs0 v'.cellsOf = toVs0 v.cellsOf

def Fits : List SVs → List SVs → Prop
  | [], [] => True
  | v :: vs, v' :: vs' => Fit v v' ∧ Fits vs vs'
  | _, _ => False

theorem Fits.bps : ∀ {vs vs' : List SVs}, Fits vs vs' → SV.bpss vs = [] ∧ SV.bpss vs' = [] ∧ SV.defds vs = true ∧ SV.defds vs' = true ∧ toVs0 vs' = toVs0 vs
  | [], [], _ => ⟨rfl, rfl, rfl, rfl, rfl⟩
  | v :: vs, v' :: vs', ⟨f, fs⟩ => by
    obtain ⟨a, b, c, d, e⟩ := fs.bps
    refine ⟨by simp [SV.bpss, f.nob, a], by simp [SV.bpss, f.nob', b], by simp [SV.defds, f.dd, c], by simp [SV.defds, f.dd', d], ?_⟩
    simp only [toVs0, toVs]; rw [show toV _ v' = toV _ v from f.eq, show toVs _ vs' = toVs _ vs from e]
  | [], _ :: _, h => h.elim
  | _ :: _, [], h => h.elim

mutual
theorem alls_elim : ∀ (c : CK) (v : SVs) (F : SVs → Prop), alls (semAlg P K) c F → conf c v = true → ∃ v', Fit v v' ∧ F v'
  | .int k, v, F, h, c => by
    cases v <;> simp only [conf] at c <;> first | (cases c; done) | skip
    · simp only [decide_eq_true_eq] at c; subst c; exact ⟨_, ⟨rfl, rfl, rfl, rfl, rfl, rfl⟩, h _⟩
    · rename_i n; simp only [decide_eq_true_eq] at c; subst c; exact ⟨.int _ n, ⟨rfl, rfl, rfl, rfl, rfl, rfl⟩, h _⟩
  | .bool, v, F, h, c => by
    cases v <;> simp only [conf] at c <;> first | (cases c; done) | skip
    · exact ⟨_, ⟨rfl, rfl, rfl, rfl, rfl, rfl⟩, h _⟩
    · rename_i b; exact ⟨.bool b, ⟨rfl, rfl, rfl, rfl, rfl, rfl⟩, h _⟩
  | .str, v, F, h, c => by
    cases v <;> simp only [conf] at c <;> first | (cases c; done) | skip
    · exact ⟨_, ⟨rfl, rfl, rfl, rfl, rfl, rfl⟩, h _⟩
    · rename_i b; exact ⟨.str b, ⟨rfl, rfl, rfl, rfl, rfl, rfl⟩, h _⟩
  | .flt k, v, F, h, c => by
    cases v <;> simp only [conf] at c <;> first | (cases c; done) | skip
    · simp only [decide_eq_true_eq] at c; subst c; exact ⟨_, ⟨rfl, rfl, rfl, rfl, rfl, rfl⟩, h _⟩
  | .optr, v, F, h, c => by
    cases v <;> simp only [conf] at c <;> first | (cases c; done) | skip
    · exact ⟨.optr none, ⟨rfl, rfl, rfl, rfl, rfl, rfl⟩, h none⟩
    · exact ⟨_, ⟨rfl, rfl, rfl, rfl, rfl, rfl⟩, h _⟩
    · rename_i a off; exact ⟨.optr (some (Addr.add a off)), ⟨rfl, rfl, rfl, rfl, rfl, rfl⟩, h (some (Addr.add a off))⟩
  | .slice, v, F, h, c => by
    cases v <;> simp only [conf] at c <;> first | (cases c; done) | skip
    · exact ⟨_, ⟨rfl, rfl, rfl, rfl, rfl, rfl⟩, h _ _ _⟩
    · exact ⟨.slice none (0 : Nat) (0 : Nat), ⟨rfl, rfl, rfl, rfl, rfl, rfl⟩, h none (0 : Nat) (0 : Nat)⟩
  | .omap, v, F, h, c => by
    cases v <;> simp only [conf] at c <;> first | (cases c; done) | skip
    · exact ⟨_, ⟨rfl, rfl, rfl, rfl, rfl, rfl⟩, h _⟩
    · exact ⟨.omap none, ⟨rfl, rfl, rfl, rfl, rfl, rfl⟩, h none⟩
  | .raw, v, F, h, c => by
    have c' : v.defd = true ∧ v.bps = [] ∧ ones [v] = true := by
      simp only [conf, Bool.and_eq_true, List.isEmpty_iff] at c; exact ⟨c.1.1, c.1.2, c.2⟩
    refine ⟨.raw (toV0 v), ⟨c'.2.1, rfl, c'.1, rfl, rfl, ?_⟩, h _⟩
    cases v <;> first | rfl | (simp [ones] at c'; done)
  | .agg l, v, F, h, c => by
    cases v <;> simp only [conf] at c <;> first | (cases c; done) | skip
    rename_i vs
    obtain ⟨vs', f, h'⟩ := allsL_elim l vs (fun vs => F (.agg vs)) h c
    obtain ⟨a, b, cc, d, e⟩ := f.bps
    exact ⟨.agg vs', ⟨a, b, cc, d, by simp only [toV0, toV]; rw [show toVs _ vs' = toVs _ vs from e], e⟩, h'⟩
  | .tuple l, v, F, h, c => by
    cases v <;> simp only [conf] at c <;> first | (cases c; done) | skip
    rename_i vs
    obtain ⟨vs', f, h'⟩ := allsL_elim l vs (fun vs => F (.tuple vs)) h c
    obtain ⟨a, b, cc, d, e⟩ := f.bps
    exact ⟨.tuple vs', ⟨a, b, cc, d, by simp only [toV0, toV]; rw [show toVs _ vs' = toVs _ vs from e], by simp only [SV.cellsOf, toVs0, toVs, toV]; rw [show toVs _ vs' = toVs _ vs from e]⟩, h'⟩
theorem allsL_elim : ∀ (l : List CK) (vs : List SVs) (F : List SVs → Prop), allsL (semAlg P K) l F → confL l vs = true → ∃ vs', Fits vs vs' ∧ F vs'
  | [], [], F, h, _ => ⟨[], trivial, h⟩
  | [], _ :: _, _, _, c => by simp [confL] at c
  | _ :: _, [], _, _, c => by simp [confL] at c
  | c :: cs, v :: vs, F, h, hc => by
    simp only [confL, Bool.and_eq_true] at hc
    obtain ⟨v', f1, h1⟩ := alls_elim c v (fun v => allsL (semAlg P K) cs fun vs => F (v :: vs)) h hc.1
    obtain ⟨vs', f2, h2⟩ := allsL_elim cs vs (fun vs => F (v' :: vs)) h1 hc.2
    exact ⟨v' :: vs', ⟨f1, f2⟩, h2⟩
end

/-! ### Cells -/

theorem toVs_length (β : Nat → Nat) : ∀ vs : List SVs, (toVs β vs).length = vs.length
  | [] => rfl
  | v :: vs => by simp [toVs, toVs_length β vs]

theorem toVs_append (β : Nat → Nat) : ∀ a b : List SVs, toVs β (a ++ b) = toVs β a ++ toVs β b
  | [], _ => rfl
  | v :: vs, b => by simp [toVs, toVs_append β vs b]

theorem toVs_get? (β : Nat → Nat) : ∀ (vs : List SVs) (i : Nat), (toVs β vs)[i]? = (vs[i]?).map (toV β)
  | [], _ => by simp [toVs]
  | v :: vs, 0 => by simp [toVs]
  | v :: vs, i + 1 => by simp [toVs, toVs_get? β vs i]

theorem toVs_drop (β : Nat → Nat) : ∀ (vs : List SVs) (i : Nat), toVs β (vs.drop i) = (toVs β vs).drop i
  | [], i => by simp [toVs]
  | v :: vs, 0 => by simp
  | v :: vs, i + 1 => by simp [toVs, toVs_drop β vs i]

theorem toVs_take (β : Nat → Nat) : ∀ (vs : List SVs) (i : Nat), toVs β (vs.take i) = (toVs β vs).take i
  | [], i => by simp [toVs]
  | v :: vs, 0 => by simp [toVs]
  | v :: vs, i + 1 => by simp [toVs, toVs_take β vs i]

theorem toVs_setCells (β : Nat → Nat) : ∀ (cs : List SVs) (off : Nat) (vs : List SVs), toVs β (setCells cs off vs) = setCells (toVs β cs) off (toVs β vs)
  | [], off, [] => by simp [setCells, toVs]
  | [], off, v :: vs => by simp [setCells, toVs]
  | c :: cs, off, [] => by simp [setCells, toVs]
  | c :: cs, 0, v :: vs => by simp [setCells, toVs, toVs_setCells β cs 0 vs]
  | c :: cs, off + 1, v :: vs => by simp [setCells, toVs, toVs_setCells β cs off (v :: vs)]

theorem setCells_length {α : Type} : ∀ (cs : List α) (off : Nat) (vs : List α), (setCells cs off vs).length = cs.length
  | [], off, [] => by simp [setCells]
  | [], off, v :: vs => by simp [setCells]
  | c :: cs, off, [] => by simp [setCells]
  | c :: cs, 0, v :: vs => by simp [setCells, setCells_length cs 0 vs]
  | c :: cs, off + 1, v :: vs => by simp [setCells, setCells_length cs off (v :: vs)]

/-- One by one. -/
theorem setCells_cons {α : Type} : ∀ (cs : List α) (off : Nat) (v : α) (vs : List α), setCells cs off (v :: vs) = setCells (cs.set off v) (off + 1) vs
  | [], off, v, vs => by cases off <;> cases vs <;> simp [setCells]
  | c :: cs, 0, v, [] => by cases cs <;> simp [setCells]
  | c :: cs, 0, v, u :: vs => by
    have := setCells_cons cs 0 u vs
    simp only [setCells, List.set_cons_zero]
  | c :: cs, off + 1, v, vs => by
    have := setCells_cons cs off v vs
    simp only [setCells, List.set_cons_succ]
    rw [this]
    cases vs with
    | nil => simp [setCells]
    | cons u vs => simp [setCells]

theorem defds_append {At : AK → Type} : ∀ a b : List (SV At), SV.defds (a ++ b) = (SV.defds a && SV.defds b)
  | [], b => by simp [SV.defds]
  | v :: vs, b => by simp [SV.defds, defds_append vs b, Bool.and_assoc]

theorem defds_mem {At : AK → Type} {v : SV At} : ∀ {vs : List (SV At)}, SV.defds vs = true → v ∈ vs → v.defd = true
  | u :: vs, h, m => by
    simp only [SV.defds, Bool.and_eq_true] at h
    rcases List.mem_cons.1 m with e | m
    · rw [e]; exact h.1
    · exact defds_mem h.2 m

theorem defds_of_mem {At : AK → Type} : ∀ {vs : List (SV At)}, (∀ v ∈ vs, v.defd = true) → SV.defds vs = true
  | [], _ => rfl
  | v :: vs, h => by
    simp only [SV.defds, Bool.and_eq_true]
    exact ⟨h v (by simp), defds_of_mem fun u hu => h u (by simp [hu])⟩

theorem bpss_mem {At : AK → Type} {i : Nat} : ∀ {vs : List (SV At)}, i ∈ SV.bpss vs ↔ ∃ v ∈ vs, i ∈ v.bps
  | [] => by simp [SV.bpss]
  | v :: vs => by simp [SV.bpss, bpss_mem (vs := vs)]

theorem setCells_mem {α : Type} {x : α} : ∀ {cs : List α} {off : Nat} {vs : List α}, x ∈ setCells cs off vs → x ∈ cs ∨ x ∈ vs
  | [], off, [], h => by simp [setCells] at h
  | [], off, v :: vs, h => by simp [setCells] at h
  | c :: cs, off, [], h => by simp only [setCells] at h; exact .inl h
  | c :: cs, 0, v :: vs, h => by
    simp only [setCells, List.mem_cons] at h
    rcases h with h | h
    · exact .inr (by simp [h])
    · rcases setCells_mem h with h | h
      · exact .inl (by simp [h])
      · exact .inr (by simp [h])
  | c :: cs, off + 1, v :: vs, h => by
    simp only [setCells, List.mem_cons] at h
    rcases h with h | h
    · exact .inl (by simp [h])
    · rcases setCells_mem h with h | h
      · exact .inl (by simp [h])
      · exact .inr h

/-! ### Runs of small things -/
theorem run_under {t : TypeId} {d : TypeDesc} (h : P.underlying t = some d) (W : World) : (underlying t).run P W = .ok d W := by
  simp only [underlying, run_bind, Go.program, Sem.run, h]; rfl

theorem run_info {t : TypeId} {i : TypeInfo} (h : P.info? t = some i) (W : World) : (typeInfo t).run P W = .ok i W := by
  simp only [typeInfo, run_bind, Go.program, Sem.run, h]; rfl

theorem run_size {t n : Nat} (h : sizeO P t = some n) (W : World) : (Go.sizeOf t).run P W = .ok n W := by
  unfold sizeO at h
  cases x : P.info? t with
  | none => rw [x] at h; simp at h
  | some i =>
    rw [x] at h; simp only [Option.map_some, Option.some.injEq] at h
    simp only [Go.sizeOf, run_bind, run_info x]; rw [← h]; rfl

theorem run_zero {t : Nat} {z : Value} (h : zeroOf P t = some z) (W : World) : (zeroValue t).run P W = .ok z W := by
  unfold zeroOf at h
  cases x : P.info? t with
  | none => rw [x] at h; simp at h
  | some i =>
    rw [x] at h; simp only [Option.bind_some] at h
    simp only [zeroValue, run_bind, run_info x, h]; rfl

theorem run_isAgg {t : Nat} {b : Bool} (h : isAggB P t = some b) (W : World) : (isAgg t).run P W = .ok b W := by
  unfold isAggB at h
  cases x : P.underlying t with
  | none => rw [x] at h; simp at h
  | some d =>
    rw [x] at h
    simp only [isAgg, run_bind, run_under x]
    cases d <;> simp at h <;> subst h <;> rfl

theorem run_pure {α : Type} (x : α) (W : World) : (pure x : Sem α).run P W = .ok x W := rfl

theorem run_load {a : Addr} {v : Value} (m : Mode) {W : World} (h : W.cell? a = some v) : (load a m).run P W = .ok v W := by simp [load, Sem.run, h]

theorem run_loadCellsFrom (a : Addr) (W : World) : ∀ (n i : Nat) (acc : Array Value) (vs : List Value), vs.length = n →
    (∀ j v, vs[j]? = some v → W.cell? (a.add (i + j)) = some v) → (loadCellsFrom a i n acc).run P W = .ok (acc ++ vs.toArray) W
  | 0, i, acc, [], _, _ => by simp [loadCellsFrom, run_pure]
  | 0, i, acc, v :: vs, h, _ => by simp at h
  | n + 1, i, acc, [], h, _ => by simp at h
  | n + 1, i, acc, v :: vs, hl, h => by
    have h0 : W.cell? (a.add i) = some v := by simpa using h 0 v (by simp)
    simp only [loadCellsFrom, run_bind, run_load .plain h0]
    rw [run_loadCellsFrom a W n (i + 1) (acc.push v) vs (by simpa using hl) (fun j u hj => by
      have := h (j + 1) u (by simpa using hj)
      rwa [show i + (j + 1) = i + 1 + j by omega] at this)]
    simp

theorem run_loadCells (a : Addr) (W : World) (n : Nat) (vs : List Value) (hl : vs.length = n) (h : ∀ j v, vs[j]? = some v → W.cell? (a.add j) = some v) :
    (Go.loadCells a n).run P W = .ok vs.toArray W := by
  simp only [Go.loadCells]
  rw [run_loadCellsFrom a W n 0 #[] vs hl (fun j v hj => by simpa using h j v hj)]
  simp

theorem loadCells_elim (h : H) (a : Addr) : ∀ (ks : List CK) (off : Nat) (F : List SVs → Prop), loadCells (semAlg P K) h a off ks F →
    ∃ vs, vs.length = ks.length ∧ SV.bpss vs = [] ∧ SV.defds vs = true ∧ (∀ j v, (toVs0 vs)[j]? = some v → cell h (a.add (off + j)) = some v) ∧ F vs
  | [], off, F, hF => ⟨[], rfl, rfl, rfl, by simp [toVs0, toVs], hF⟩
  | c :: cs, off, F, hF => by
    obtain ⟨v, b1, d1, h1, h2⟩ := exs_elim (P := P) (K := K) c _ hF
    obtain ⟨vs, l, b2, d2, h3, h4⟩ := loadCells_elim h a cs (off + 1) _ h2
    refine ⟨v :: vs, by simp [l], by simp [SV.bpss, b1, b2], by simp [SV.defds, d1, d2], fun j u hj => ?_, h4⟩
    cases j with
    | zero => simp only [toVs0, toVs, List.getElem?_cons_zero, Option.some.injEq] at hj; subst hj; exact h1
    | succ j =>
      simp only [toVs0, toVs, List.getElem?_cons_succ] at hj
      have := h3 j u hj
      rwa [show off + 1 + j = off + (j + 1) by omega] at this

theorem reqOnes_elim : ∀ (l : List Value) (F : Prop), reqOnes (semAlg P K) l F → (∀ v ∈ l, v.oneCell = true) ∧ F
  | [], _, h => ⟨by simp, h⟩
  | v :: l, F, ⟨h1, h2⟩ => by
    obtain ⟨h3, h4⟩ := reqOnes_elim l F h2
    exact ⟨fun u hu => by rcases List.mem_cons.1 hu with e | m; · rw [e]; exact h1
                          · exact h3 u m, h4⟩

theorem raws_mem {v : Value} : ∀ {l : List SVs}, SV.raw v ∈ l → v ∈ rawsOf l
  | u :: l, h => by
    rcases List.mem_cons.1 h with e | m
    · subst e; simp [rawsOf]
    · have := raws_mem m
      cases u <;> simp only [rawsOf] <;> first | exact this | exact List.mem_cons_of_mem _ this

theorem ones_mem {At : AK → Type} : ∀ {l : List (SV At)} {v : SV At}, ones l = true → v ∈ l → ones [v] = true
  | u :: l, v, h, m => by
    rcases List.mem_cons.1 m with e | m
    · subst e; cases v <;> simp [ones] at h ⊢
    · refine ones_mem (l := l) ?_ m
      cases u <;> simp only [ones] at h <;> first | exact h | (cases h; done)

/-- A value that fills one cell. -/
theorem one_toV {β : Nat → Nat} {v : SVs} (o : ones [v] = true) (r : ∀ x, v = .raw x → x.oneCell = true) : (toV β v).oneCell = true := by
  cases v <;> first | rfl | (simp [ones] at o; done) | skip
  rename_i x; exact r x rfl

theorem cells_toV {β : Nat → Nat} {v : SVs} (r : ∀ x, v = .raw x → x.oneCell = true) : (toV β v).cells = (toVs β v.cellsOf).toArray := by
  cases v <;> first | rfl | skip
  · rename_i x
    have := r x rfl
    cases x <;> first | rfl | (simp [Value.oneCell] at this; done)

theorem storeCells_elim (a : Addr) : ∀ (vs : List SVs) (off i : Nat) (h : H) (F : H → Prop), storeCells (semAlg P K) a (off + i) vs h F → ones vs = true →
    (∀ x, SV.raw x ∈ vs → x.oneCell = true) → RunL P (Go.storeCells (a.add off) (toVs0 vs) i) h (fun _ h' => F h')
  | [], off, i, h, F, hF, _, _ => by simp only [toVs0, toVs, Go.storeCells]; exact RunL.pure hF
  | v :: vs, off, i, h, F, hF, o, r => by
    obtain ⟨⟨h1, h2⟩, h3⟩ := hF
    simp only [toVs0, toVs, Go.storeCells]
    obtain ⟨u, hu⟩ := Option.isSome_iff_exists.1 h1
    refine RunL.bind ?_
    rw [Addr_add_add]
    refine RunL.store (one_toV (ones_mem o (by simp)) (fun x e => r x (by simp [e]))) hu h2 ?_
    exact storeCells_elim a vs off (i + 1) _ F h3 (by cases v <;> simp only [ones] at o <;> first | exact o | (cases o; done)) (fun x hx => r x (by simp [hx]))

/-! ### Boxes that become seen -/
variable {h0 : H} {W0 : World} {pr : Prot} {β : Nat → Nat} {σ σ0 : St semAt} {a : Act} {W : World} {Kt : St semAt → Prop}

theorem Sim.publish {n i : Nat} {x : Box semAt} (s : Sim h0 W0 n β σ a W) (hx : getBox σ.boxes i = some x) (hb : SV.bpss x.cells = []) :
    Sim h0 W0 n β { env := substEnv i (blk (β i)) σ.env, boxes := substBoxes i (blk (β i)) (dropBox i σ.boxes), heap := hnew σ.heap (β i) (.cells (toVs0 x.cells).toArray x.type (0, 0)) } a W where
  env t ht := by
    rw [getEnv_substEnv] at ht ⊢
    rw [toV_subst]
    exact s.env t (by rwa [defd_subst] at ht)
  size := s.size
  defers := s.defers
  sub b o ho := by
    replace ho : hnew σ.heap (β i) (.cells (toVs0 x.cells).toArray x.type (0, 0)) b = some o := ho
    unfold hnew at ho
    split at ho
    · rename_i e; subst e; cases ho
      rw [(s.box i x hx).2.1, toVs_nobp hb]
    · exact s.sub b o ho
  frame := ⟨s.frame.1, fun b hb' hn => by
    have ⟨n1, e1⟩ := s.frame.2 b hb' hn
    have : W0.heap.size ≤ β i := (s.box i x hx).2.2.2
    refine ⟨?_, e1⟩
    show hnew σ.heap (β i) (.cells (toVs0 x.cells).toArray x.type (0, 0)) b = none
    unfold hnew; rw [if_neg (by omega)]; exact n1, s.frame.3⟩
  box j y hy := by
    rw [getBox_subst] at hy
    by_cases e : i = j
    · subst e; rw [getBox_drop_self] at hy; cases hy
    · rw [getBox_drop_ne e] at hy
      cases hz : getBox σ.boxes j with
      | none => rw [hz] at hy; cases hy
      | some z =>
        rw [hz] at hy
        simp only [Option.map_some, Option.some.injEq] at hy
        subst hy
        obtain ⟨d, w, nn, l⟩ := s.box j z hz
        refine ⟨by rw [defds_subst]; exact d, by simp only [toVs_subst]; exact w, ?_, l⟩
        show hnew σ.heap (β i) (.cells (toVs0 x.cells).toArray x.type (0, 0)) (β j) = none
        unfold hnew; rw [if_neg]; · exact nn
        intro eb; exact e (s.inj j i z x hz hx eb).symm
  inj j k y z hy hz e := by
    rw [getBox_subst] at hy hz
    by_cases ej : i = j
    · subst ej; rw [getBox_drop_self] at hy; cases hy
    · by_cases ek : i = k
      · subst ek; rw [getBox_drop_self] at hz; cases hz
      · rw [getBox_drop_ne ej] at hy
        rw [getBox_drop_ne ek] at hz
        cases hy' : getBox σ.boxes j with
        | none => rw [hy'] at hy; cases hy
        | some y' =>
          cases hz' : getBox σ.boxes k with
          | none => rw [hz'] at hz; cases hz
          | some z' => exact s.inj j k y' z' hy' hz' e

theorem publish_elim : ∀ (n i : Nat) (σ : St semAt) (Kt : St semAt → Prop), publish (semAlg P K) pr n i σ Kt → Sim h0 W0 pr.n β σ a W → Agree pr σ0 σ →
    ∃ σ', Sim h0 W0 pr.n β σ' a W ∧ Agree pr σ0 σ' ∧ Kt σ'
  | 0, _, _, _, f, _, _ => f.elim
  | n + 1, i, σ, Kt, f, s, g => by
    simp only [publish] at f
    split at f
    · exact f.elim
    · rename_i hc
      simp only [Bool.or_eq_true, not_or] at hc
      obtain ⟨⟨hc1, hc2⟩, hc3⟩ := hc
      split at f
      · exact f.elim
      · rename_i x hx
        split at f
        · rename_i hb
          have f' := f (β i) (s.box i x hx).2.2.1 _ rfl
          refine ⟨_, s.publish hx hb, ⟨fun t ht => ?_, fun j hj => ?_⟩, f'⟩
          · rw [getEnv_substEnv, subst_none]; · exact g.slots t ht
            intro hm; apply hc2
            rw [List.any_eq_true]; exact ⟨t, ht, by simpa using hm⟩
          · rw [getBox_subst]
            have hij : i ≠ j := by intro e; subst e; apply hc1; simpa using hj
            rw [getBox_drop_ne hij, ← g.boxes j hj]
            cases hy : getBox σ.boxes j with
            | none => rfl
            | some y =>
              simp only [Option.map_some, Option.some.injEq]
              rw [substs_none]
              intro hm; apply hc3
              rw [List.any_eq_true]; exact ⟨j, hj, by rw [hy]; simpa using hm⟩
        · rename_i j r hb
          obtain ⟨σ', s', g', f'⟩ := publish_elim n j σ _ f s g
          exact publish_elim n i σ' Kt f' s' g'

theorem publishAll_elim : ∀ (l : List Nat) (σ : St semAt) (Kt : St semAt → Prop), publishAll (semAlg P K) pr l σ Kt → Sim h0 W0 pr.n β σ a W → Agree pr σ0 σ →
    ∃ σ', Sim h0 W0 pr.n β σ' a W ∧ Agree pr σ0 σ' ∧ Kt σ'
  | [], σ, Kt, f, s, g => ⟨σ, s, g, f⟩
  | i :: r, σ, Kt, f, s, g => by
    simp only [publishAll] at f
    split at f
    · exact publishAll_elim r σ Kt f s g
    · obtain ⟨σ', s', g', f'⟩ := publish_elim 5 i σ _ f s g
      exact publishAll_elim r σ' Kt f' s' g'
end Lf

