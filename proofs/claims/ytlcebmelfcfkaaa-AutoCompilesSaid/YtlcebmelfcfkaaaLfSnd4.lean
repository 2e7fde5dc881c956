/- The lifter is sound: memory, slices, fields, strings. -/
import Derived.Test.YtlcebmelfcfkaaaLfSnd3
import Derived.Laws.Tables
namespace Lf
open Go
variable {P : Program} {K : Value → H → Prop}
variable {h0 : H} {W0 : World} {pr : Prot} {β : Nat → Nat} {σ σ0 : St semAt} {a : Act} {W : World} {Kt : St semAt → Prop} {Q : Exit → Act → World → Prop}

theorem blk_add (b n : Nat) : (⟨b, 0, none⟩ : Addr).add n = ⟨b, n, none⟩ := by
  unfold Addr.add; split
  · rename_i h; rw [h]
  · simp

/-! ### A new private box -/

theorem newBox_goes {dst : Option Nat} {t : TypeId} {cells : List SVs} {W' : World} (f : newBox (semAlg P K) pr dst t cells σ Kt) (s : Sim h0 W0 pr.n β σ a W) (g : Agree pr σ0 σ)
    (hW : W'.heap = W.heap.push (.cells (toVs β cells).toArray t (0, 0))) (hO : Out W W') : Goes h0 W0 pr σ0 Kt (a.put dst (.pointer (some ⟨W.heap.size, 0, none⟩))) W' := by
  cases dst with
  | none => exact f.elim
  | some d =>
    simp only [newBox] at f
    split at f
    · exact f.elim
    rename_i c1
    simp only [Bool.or_eq_true, not_or, Bool.not_eq_true, Bool.not_eq_true', Bool.not_eq_false] at c1
    obtain ⟨⟨⟨⟨c1, c2⟩, c3⟩, c4⟩, c5⟩ := c1
    split at f
    · exact f.elim
    rename_i c6
    simp only [Bool.or_eq_true, not_or, Bool.not_eq_true] at c6
    obtain ⟨⟨c6, c7⟩, c8⟩ := c6
    have c4' : d < pr.n := Nat.le_of_ble_eq_true c4
    have n6 : ∀ u, u ≠ d → (getEnv σ.env u).defd = true → d ∉ (getEnv σ.env u).bps := by
      intro u hu hd hm
      have h1 : (getEnv (dropEnv d σ.env) u).defd = true := by rw [getEnv_drop_ne (Ne.symm hu)]; exact hd
      have h2 := getEnv_mem h1
      rw [getEnv_drop_ne (Ne.symm hu)] at h2
      have : (SV.bpss (dropEnv d σ.env |>.map (·.2))).contains d = true := by
        rw [List.contains_iff_mem, bpss_mem]
        exact ⟨_, List.mem_map_of_mem h2, hm⟩
      rw [this] at c6; cases c6
    have n7 : ∀ i x, getBox σ.boxes i = some x → d ∉ SV.bpss x.cells := by
      intro i x hx hm
      have hmem : ∀ {l : List (Box semAt)}, getBox l i = some x → x ∈ l := by
        intro l; induction l with
        | nil => intro h; cases h
        | cons y r ih =>
          intro h; simp only [getBox] at h
          split at h
          · cases h; simp
          · exact List.mem_cons_of_mem _ (ih h)
      have : (σ.boxes.any fun x => (SV.bpss x.cells).contains d) = true := by
        rw [List.any_eq_true]; exact ⟨x, hmem hx, by simpa using hm⟩
      rw [this] at c7; cases c7
    have n8 : d ∉ SV.bpss cells := by simpa using c8
    let β' : Nat → Nat := fun j => if j = d then W.heap.size else β j
    have hβ : ∀ j, j ≠ d → β' j = β j := fun j hj => if_neg hj
    have eqV : ∀ v : SVs, d ∉ v.bps → toV β' v = toV β v := fun v hv => toV_congr _ _ v fun i hi => hβ i fun e => hv (e ▸ hi)
    have eqVs : ∀ v : List SVs, d ∉ SV.bpss v → toVs β' v = toVs β v := fun v hv => toVs_congr _ _ v fun i hi => hβ i fun e => hv (e ▸ hi)
    refine ⟨_, β', ?_, ?_, f⟩
    · constructor
      · intro u hu
        simp only [getEnv] at hu ⊢
        simp only [Act.put]
        by_cases e : d = u
        · subst e
          simp only [beq_self_eq_true, if_true] at hu ⊢
          rw [Array.getElem?_setIfInBounds, if_pos rfl, if_pos (by rw [s.size]; exact c4')]
          have : β' d = W.heap.size := if_pos rfl
          simp only [toV, this, Addr_add_zero]
        · have e' : ¬((d == u) = true) := by simpa using e
          simp only [if_neg e'] at hu ⊢
          rw [getEnv_drop_ne e] at hu ⊢
          rw [Array.getElem?_setIfInBounds, if_neg e, eqV _ (n6 u (Ne.symm e) hu)]
          exact s.env u hu
      · simp [Act.put, s.size]
      · simp [Act.put, s.defers]
      · exact s.sub.hide _ hW
      · exact s.frame.trans (Frame.hide _ hW hO)
      · intro i x hx
        simp only [getBox] at hx
        by_cases e : d = i
        · subst e
          simp only [beq_self_eq_true, if_true, Option.some.injEq] at hx
          subst hx
          have hb : β' d = W.heap.size := if_pos rfl
          refine ⟨c3, ?_, ?_, ?_⟩
          · rw [hb, hW, eqVs _ n8]; simp
          · rw [hb]; exact s.sub.none_of_ge (Nat.le_refl _)
          · rw [hb]; exact s.frame.1
        · have e' : ¬((d == i) = true) := by simpa using e
          rw [if_neg e', getBox_drop_ne e] at hx
          obtain ⟨d1, w1, n1, l1⟩ := s.box i x hx
          have hlt : β i < W.heap.size := (Array.getElem?_eq_some_iff.1 w1).1
          rw [hβ i (Ne.symm e)]
          refine ⟨d1, ?_, n1, l1⟩
          rw [hW, Array.getElem?_push, if_neg (by omega), eqVs _ (n7 i x hx)]; exact w1
      · intro i j x y hx hy e
        simp only [getBox] at hx hy
        have lt : ∀ i x, getBox σ.boxes i = some x → β i < W.heap.size := fun i x hx => (Array.getElem?_eq_some_iff.1 (s.box i x hx).2.1).1
        by_cases ei : d = i
        · by_cases ej : d = j
          · exact ei.symm.trans ej
          · rw [if_neg (by simpa using ej), getBox_drop_ne ej] at hy
            have := lt j y hy
            rw [← ei, show β' d = W.heap.size from if_pos rfl, hβ j (Ne.symm ej)] at e
            omega
        · rw [if_neg (by simpa using ei), getBox_drop_ne ei] at hx
          have l1 := lt i x hx
          by_cases ej : d = j
          · rw [← ej, show β' d = W.heap.size from if_pos rfl, hβ i (Ne.symm ei)] at e
            omega
          · rw [if_neg (by simpa using ej), getBox_drop_ne ej] at hy
            rw [hβ i (Ne.symm ei), hβ j (Ne.symm ej)] at e
            exact s.inj i j x y hx hy e
    · constructor
      · intro u hu
        have : d ≠ u := by intro e; subst e; simp [hu] at c1
        simp only [getEnv]
        rw [if_neg (by simpa using this), getEnv_drop_ne this]
        exact g.slots u hu
      · intro i hi
        have : d ≠ i := by intro e; subst e; simp [hi] at c2
        simp only [getBox]
        rw [if_neg (by simpa using this), getBox_drop_ne this]
        exact g.boxes i hi

theorem op_alloc {dst : Option Tmp} {t : TypeId} {ty : TypeId} {pos : String} {after : Array Edge} {gd : Option (Nat × Bool)}
    (f : opCore P (semAlg P K) pr ⟨dst, .alloc t, ty, pos, after, gd⟩ σ Kt) (s : Sim h0 W0 pr.n β σ a W) (g : Agree pr σ0 σ) :
    (⟨dst, .alloc t, ty, pos, after, gd⟩ : Oper).wp P a W (Goes h0 W0 pr σ0 Kt) Q := by
  simp only [opCore] at f
  split at f
  · rename_i z hz
    have hd : SV.defds (ofValues (semAlg P K) z.cells.toList) = true := by
      cases dst with
      | none => exact f.elim
      | some d =>
        simp only [newBox] at f
        split at f
        · exact f.elim
        · rename_i c
          simp only [Bool.or_eq_true, not_or, Bool.not_eq_true, Bool.not_eq_true', Bool.not_eq_false] at c
          exact c.1.1.2
    have hc := ofValues_toVs P K β z.cells.toList hd
    refine wp_value (o := ⟨dst, .alloc t, ty, pos, after, gd⟩) (W' := { W with heap := W.heap.push (.cells z.cells t (0, 0)) }) (v := .pointer (some ⟨W.heap.size, 0, none⟩)) ?_ (newBox_goes f s g (by rw [hc]) ⟨rfl, rfl, rfl, Nat.le_refl _⟩)
    refine run_v ?_
    simp only [Instr.alloc, run_bind, run_zero hz, newVar, newRow, Go.newObj, Sem.run]
    rfl
  · exact f.elim

theorem op_box {dst : Option Tmp} {t : TypeId} {x : Operand} {ty : TypeId} {pos : String} {after : Array Edge} {gd : Option (Nat × Bool)}
    (f : opCore P (semAlg P K) pr ⟨dst, .box t x, ty, pos, after, gd⟩ σ Kt) (s : Sim h0 W0 pr.n β σ a W) (g : Agree pr σ0 σ) :
    (⟨dst, .box t x, ty, pos, after, gd⟩ : Oper).wp P a W (Goes h0 W0 pr σ0 Kt) Q := by
  simp only [opCore] at f
  obtain ⟨hr, f⟩ := reqOnes_elim _ _ f
  have hc : SV.defds (opnd (semAlg P K) σ x).cellsOf = true ∧ ones (opnd (semAlg P K) σ x).cellsOf = true := by
    cases dst with
    | none => exact f.elim
    | some d =>
      simp only [newBox] at f
      split at f
      · exact f.elim
      · rename_i c
        simp only [Bool.or_eq_true, not_or, Bool.not_eq_true, Bool.not_eq_true', Bool.not_eq_false] at c
        exact ⟨c.1.1.2, c.2⟩
  have hu : opnd (semAlg P K) σ x ≠ .undef := by intro e; rw [e] at hc; simp [SV.cellsOf, ones] at hc
  have e := ev' s rfl hu
  have hcl : (a.eval x).cells = (toVs β (opnd (semAlg P K) σ x).cellsOf).toArray := by
    rw [e]
    refine cells_toV ?_
    intro y e'; exact hr y (raws_mem (by rw [e']; simp [SV.cellsOf]))
  refine wp_value (o := ⟨dst, .box t x, ty, pos, after, gd⟩) (W' := { W with heap := W.heap.push (.cells (a.eval x).cells t (0, 0)) }) (v := .pointer (some ⟨W.heap.size, 0, none⟩)) ?_ (newBox_goes f s g (by rw [hcl]) ⟨rfl, rfl, rfl, Nat.le_refl _⟩)
  refine run_v ?_
  simp only [Instr.box, run_bind, newVar, newRow, Go.newObj, Sem.run]
  rfl

/-! ### build, buildSlice -/

theorem foldl_set (off : Nat) : ∀ (vs : List Value) (k : Nat) (cs : List Value),
    ((vs.zipIdx k).foldl (fun (cs : Array Value) (x : Value × Nat) => cs.setIfInBounds (off + x.2) x.1) cs.toArray) = (setCells cs (off + k) vs).toArray
  | [], k, cs => by cases cs <;> simp [setCells]
  | v :: vs, k, cs => by
    simp only [List.zipIdx_cons, List.foldl_cons, List.setIfInBounds_toArray]
    rw [foldl_set off vs (k + 1) (cs.set (off + k) v), setCells_cons, Nat.add_assoc]

theorem foldl_set' (off : Nat) (vs : List Value) (cs : List Value) :
    (vs.toArray.zipIdx.foldl (fun (cs : Array Value) (x : Value × Nat) => cs.setIfInBounds (off + x.2) x.1) cs.toArray) = (setCells cs off vs).toArray := by
  have h : vs.toArray.zipIdx = (vs.zipIdx 0).toArray := by simp
  rw [h, List.foldl_toArray']
  · exact foldl_set off vs 0 cs
  · simp

theorem fillS_spec {places : List (Nat × Nat)} {place : Nat → Option (Nat × Nat)} (hp : ∀ i p, places[i]? = some p → place i = some p) :
    ∀ (parts : List (Nat × SVs)) (cells out : List SVs), fillS (semAlg P K) places cells parts = some out → (∀ p ∈ parts, p.2.defd = true) → (∀ p ∈ parts, ∀ x, p.2 = .raw x → x.oneCell = true) →
      Instr.fill place (toVs β cells).toArray (parts.map fun p => (p.1, toV β p.2)) = some (toVs β out).toArray ∧ (SV.defds cells = true → SV.defds out = true)
  | [], cells, out, h, _, _ => by
    simp only [fillS, Option.some.injEq] at h; subst h
    exact ⟨rfl, id⟩
  | (i, v) :: rest, cells, out, h, hd, hr => by
    simp only [fillS] at h
    split at h
    · cases h
    · rename_i off size hpl
      split at h
      · rename_i hc
        simp only [Bool.and_eq_true, beq_iff_eq, Nat.ble_eq] at hc
        have hcl : (toV β v).cells = (toVs β v.cellsOf).toArray := cells_toV (hr (i, v) (by simp))
        obtain ⟨h1, h2⟩ := fillS_spec hp rest _ out h (fun p hp' => hd p (by simp [hp'])) (fun p hp' => hr p (by simp [hp']))
        refine ⟨?_, fun hcs => h2 ?_⟩
        · simp only [List.map_cons, Instr.fill, hp i _ hpl, hcl]
          have l1 : (toVs β v.cellsOf).toArray.size = size := by simp [toVs_length, hc.1]
          have l2 : (toVs β cells).toArray.size = cells.length := by simp [toVs_length]
          rw [if_neg (by rw [l1, l2]; simp; omega), foldl_set' off, ← toVs_setCells]
          exact h1
        · refine defds_of_mem fun u hu => ?_
          rcases setCells_mem hu with m | m
          · exact defds_mem hcs m
          · have hv := hd (i, v) (by simp)
            cases v <;> simp only [SV.cellsOf, List.mem_singleton] at m <;> first | (rw [m]; exact hv) | exact defds_mem (by simpa [SV.defd] using hv) m
      · cases h

theorem structPlaces_eq : ∀ (fs : List Field) {l : List (Nat × Nat)}, structPlaces P fs = some l → fs.mapM (fun f => (P.info? f.type).map fun i => (f.offset, i.size)) = some l
  | [], l, h => by simp only [structPlaces, Option.some.injEq] at h; subst h; rfl
  | f :: fs, l, h => by
    simp only [structPlaces, sizeO] at h
    split at h
    · rename_i n l' hn hl
      simp only [Option.some.injEq] at h; subst h
      cases hi : P.info? f.type with
      | none => rw [hi] at hn; cases hn
      | some i =>
        rw [hi] at hn; simp only [Option.map_some, Option.some.injEq] at hn; subst hn
        simp [List.mapM_cons, hi, structPlaces_eq fs hl]
    · cases h

theorem parts_eval {parts : List (Nat × Operand)} (s : Sim h0 W0 pr.n β σ a W) (hd : SV.defds (parts.map fun p => opnd (semAlg P K) σ p.2) = true) :
    parts.map (fun p => (p.1, a.eval p.2)) = (parts.map fun p => (p.1, opnd (semAlg P K) σ p.2)).map fun p => (p.1, toV β p.2) := by
  rw [List.map_map]
  refine List.map_congr_left fun p hp => ?_
  simp only [Function.comp]
  rw [opnd_eval s p.2 (defds_mem hd (List.mem_map_of_mem hp))]

theorem op_build {dst : Option Tmp} {t : TypeId} {parts : Array (Nat × Operand)} {ty : TypeId} {pos : String} {after : Array Edge} {gd : Option (Nat × Bool)}
    (f : opCore P (semAlg P K) pr ⟨dst, .build t parts, ty, pos, after, gd⟩ σ Kt) (s : Sim h0 W0 pr.n β σ a W) (g : Agree pr σ0 σ) :
    (⟨dst, .build t parts, ty, pos, after, gd⟩ : Oper).wp P a W (Goes h0 W0 pr σ0 Kt) Q := by
  simp only [opCore] at f
  split at f
  · rename_i v hv
    split at f
    · rename_i hd
      obtain ⟨hr, f⟩ := reqOnes_elim _ _ f
      unfold buildS at hv
      split at hv
      · rename_i fs z hu hz
        split at hv
        · rename_i ps hps
          split at hv
          case isFalse => cases hv
          rename_i hzd
          cases hfl : fillS (semAlg P K) ps (ofValues (semAlg P K) z) (parts.toList.map fun p => (p.1, opnd (semAlg P K) σ p.2)) with
          | none => rw [hfl] at hv; cases hv
          | some out =>
            rw [hfl] at hv; simp only [Option.map_some, Option.some.injEq] at hv; subst hv
            have hdm : ∀ p ∈ parts.toList.map (fun p => (p.1, opnd (semAlg P K) σ p.2)), p.2.defd = true := by
              intro p hp
              obtain ⟨q, hq, rfl⟩ := List.mem_map.1 hp
              exact defds_mem hd (List.mem_map_of_mem hq)
            have hrm : ∀ p ∈ parts.toList.map (fun p => (p.1, opnd (semAlg P K) σ p.2)), ∀ x, p.2 = SV.raw x → x.oneCell = true := by
              intro p hp x hx
              obtain ⟨q, hq, rfl⟩ := List.mem_map.1 hp
              exact hr x (raws_mem (by rw [← hx]; exact List.mem_map_of_mem hq))
            refine wp_put (o := ⟨dst, .build t parts, ty, pos, after, gd⟩) (val := .agg (toVs β out).toArray) f s g (run_v ?_) fun _ => rfl
            refine Go.run_build W t _ (toVs β out).toArray ?_
            unfold Program.built
            unfold zeroOf at hz
            cases hi : P.info? t with
            | none => rw [hi] at hz; cases hz
            | some it =>
              rw [hi] at hz; simp only [Option.bind_some] at hz
              simp only [hu, hz, structPlaces_eq fs hps]
              have e := parts_eval (P := P) (K := K) s hd
              rw [Array.toList_map, show (parts.toList.map fun x => (x.1, a.eval x.2)) = _ from e]
              have := (fillS_spec (P := P) (K := K) (β := β) (place := (ps.toArray[·]?)) (fun i p hp => by simpa using hp) _ _ _ hfl hdm hrm).1
              rw [ofValues_toVs P K β z hzd] at this
              exact this
        · cases hv
      · rename_i len e' z hu hz
        split at hv
        · rename_i size hps
          split at hv
          case isFalse => cases hv
          rename_i hzd
          cases hfl : fillS (semAlg P K) ((List.range len).map fun i => (i * size, size)) (ofValues (semAlg P K) z) (parts.toList.map fun p => (p.1, opnd (semAlg P K) σ p.2)) with
          | none => rw [hfl] at hv; cases hv
          | some out =>
            rw [hfl] at hv; simp only [Option.map_some, Option.some.injEq] at hv; subst hv
            have hdm : ∀ p ∈ parts.toList.map (fun p => (p.1, opnd (semAlg P K) σ p.2)), p.2.defd = true := by
              intro p hp
              obtain ⟨q, hq, rfl⟩ := List.mem_map.1 hp
              exact defds_mem hd (List.mem_map_of_mem hq)
            have hrm : ∀ p ∈ parts.toList.map (fun p => (p.1, opnd (semAlg P K) σ p.2)), ∀ x, p.2 = SV.raw x → x.oneCell = true := by
              intro p hp x hx
              obtain ⟨q, hq, rfl⟩ := List.mem_map.1 hp
              exact hr x (raws_mem (by rw [← hx]; exact List.mem_map_of_mem hq))
            refine wp_put (o := ⟨dst, .build t parts, ty, pos, after, gd⟩) (val := .agg (toVs β out).toArray) f s g (run_v ?_) fun _ => rfl
            refine Go.run_build W t _ (toVs β out).toArray ?_
            unfold Program.built
            unfold zeroOf at hz
            unfold sizeO at hps
            cases hi : P.info? t with
            | none => rw [hi] at hz; cases hz
            | some it =>
              rw [hi] at hz; simp only [Option.bind_some] at hz
              cases hie : P.info? e' with
              | none => rw [hie] at hps; cases hps
              | some ie =>
                rw [hie] at hps; simp only [Option.map_some, Option.some.injEq] at hps; subst hps
                simp only [hu, hz, hie]
                have e := parts_eval (P := P) (K := K) s hd
                rw [Array.toList_map, show (parts.toList.map fun x => (x.1, a.eval x.2)) = _ from e]
                have := (fillS_spec (P := P) (K := K) (β := β) (place := fun i => some (i * ie.size, ie.size)) (fun i p hp => by
                  rw [List.getElem?_map] at hp
                  by_cases hi : i < len
                  · rw [List.getElem?_range hi] at hp; exact hp
                  · rw [List.getElem?_eq_none (by simpa using hi)] at hp; cases hp) _ _ _ hfl hdm hrm).1
                rw [ofValues_toVs P K β z hzd] at this
                exact this
        · cases hv
      · cases hv
    · exact f.elim
  · exact f.elim

theorem run_buildSlice {t e size len : Nat} {z : Value} {parts : List (Nat × Value)} {cells : List Value} (hu : P.underlying t = some (.slice e)) (hs : sizeO P e = some size) (hz : zeroOf P e = some z)
    (h1 : size ≠ 0) (h3 : len * size ≤ 2 ^ 24) (h4 : z.cells.size = size)
    (hf : Instr.fill (fun i => some (i * size, size)) ((List.replicate len z.cells.toList).flatten).toArray parts = some cells.toArray) (W : World) :
    (Instr.buildSlice t len parts.toArray).run P W = .ok (.slice (some ⟨W.heap.size, 0, none⟩) len len) { W with heap := W.heap.push (.cells cells.toArray e (0, 0)) } := by
  have init : ((Array.range (len * size)).map (z.cells[· % z.cells.size]!)) = ((List.replicate len z.cells.toList).flatten).toArray := by
    apply Array.ext'
    rw [Array.toList_map, Array.toList_range]
    have key : ∀ n, (List.range (n * size)).map (z.cells[· % z.cells.size]!) = (List.replicate n z.cells.toList).flatten := by
      intro n
      induction n with
      | zero => simp
      | succ n ih =>
        have : (n + 1) * size = n * size + size := by rw [Nat.add_mul, Nat.one_mul]
        rw [this, List.range_add, List.map_append, ih, List.replicate_succ', List.flatten_append]
        congr 1
        simp only [List.flatten_cons, List.flatten_nil, List.append_nil, List.map_map]
        apply List.ext_getElem
        · simp [h4]
        · intro i hi1 hi2
          simp only [List.length_map, List.length_range] at hi1
          simp only [List.getElem_map, List.getElem_range, Function.comp, h4]
          have : (n * size + i) % size = i := by rw [Nat.mul_comm, Nat.mul_add_mod, Nat.mod_eq_of_lt hi1]
          rw [this, getElem!_pos z.cells i (by omega)]
          simp
    exact key len
  simp only [Instr.buildSlice, run_bind, run_under hu, run_size hs]
  rw [if_neg (by omega)]
  by_cases hne : len * size = 0
  · have hl : len = 0 := by rcases Nat.mul_eq_zero.1 hne with h | h; exact h; exact absurd h h1
    subst hl
    have hf' : Instr.fill (fun i => some (i * size, size)) #[] parts = some cells.toArray := by simpa using hf
    simp only [run_bind, run_pure, Nat.zero_mul, if_true]
    have : ((Array.range 0).map (fun (x : Nat) => (#[] : Array Value)[x % (#[] : Array Value).size]!)) = #[] := by simp
    rw [this, hf']
    simp only [run_bind, newRow, Go.newObj, Sem.run]
    rfl
  simp only [run_bind, hne, if_false, run_zero hz, run_pure]
  rw [init, hf]
  simp only [run_bind, newRow, Go.newObj, Sem.run]
  rfl

theorem op_buildSlice {dst : Option Tmp} {t : TypeId} {len : Nat} {parts : Array (Nat × Operand)} {ty : TypeId} {pos : String} {after : Array Edge} {gd : Option (Nat × Bool)}
    (f : opCore P (semAlg P K) pr ⟨dst, .buildSlice t len parts, ty, pos, after, gd⟩ σ Kt) (s : Sim h0 W0 pr.n β σ a W) (g : Agree pr σ0 σ) :
    (⟨dst, .buildSlice t len parts, ty, pos, after, gd⟩ : Oper).wp P a W (Goes h0 W0 pr σ0 Kt) Q := by
  simp only [opCore] at f
  split at f
  · rename_i e cells hc
    split at f
    · rename_i hd
      simp only [Bool.and_eq_true] at hd
      obtain ⟨hr, f⟩ := reqOnes_elim _ _ f
      obtain ⟨hb, hdc⟩ := noBps_spec hd.1
      unfold sliceCells at hc
      split at hc
      · rename_i e' hu
        split at hc
        · rename_i size z hs hz
          split at hc
          · cases hc
          · rename_i cond
            simp only [Bool.or_eq_true, not_or, Bool.not_eq_true, beq_eq_false_iff_ne, Bool.not_eq_true', Bool.not_eq_false, beq_iff_eq] at cond
            obtain ⟨⟨⟨c1, c3⟩, c4⟩, c5⟩ := cond
            cases hfl : fillS (semAlg P K) ((List.range len).map fun i => (i * size, size)) ((List.replicate len (ofValues (semAlg P K) z.cells.toList)).flatten) (parts.toList.map fun p => (p.1, opnd (semAlg P K) σ p.2)) with
            | none => rw [hfl] at hc; cases hc
            | some out =>
              rw [hfl] at hc; simp only [Option.map_some, Option.some.injEq, Prod.mk.injEq] at hc
              obtain ⟨rfl, rfl⟩ := hc
              have hdm : ∀ p ∈ parts.toList.map (fun p => (p.1, opnd (semAlg P K) σ p.2)), p.2.defd = true := by
                intro p hp
                obtain ⟨q, hq, rfl⟩ := List.mem_map.1 hp
                exact defds_mem hd.2 (List.mem_map_of_mem hq)
              have hrm : ∀ p ∈ parts.toList.map (fun p => (p.1, opnd (semAlg P K) σ p.2)), ∀ x, p.2 = SV.raw x → x.oneCell = true := by
                intro p hp x hx
                obtain ⟨q, hq, rfl⟩ := List.mem_map.1 hp
                exact hr x (raws_mem (by rw [← hx]; exact List.mem_map_of_mem hq))
              have fl := (fillS_spec (P := P) (K := K) (β := β) (place := fun i => some (i * size, size)) (fun i p hp => by
                rw [List.getElem?_map] at hp
                by_cases hi : i < len
                · rw [List.getElem?_range hi] at hp; exact hp
                · rw [List.getElem?_eq_none (by simpa using hi)] at hp; cases hp) _ _ _ hfl hdm hrm).1
              have flat : toVs β (List.replicate len (ofValues (semAlg P K) z.cells.toList)).flatten = (List.replicate len z.cells.toList).flatten := by
                have : ∀ n, toVs β (List.replicate n (ofValues (semAlg P K) z.cells.toList)).flatten = (List.replicate n z.cells.toList).flatten := by
                  intro n
                  induction n with
                  | zero => rfl
                  | succ n ih => simp only [List.replicate_succ, List.flatten_cons, toVs_append, ih, ofValues_toVs P K β _ c5]
                exact this len
              rw [flat, ← parts_eval (P := P) (K := K) s hd.2] at fl
              have f' := f W.heap.size (s.sub.none_of_ge (Nat.le_refl _)) _ rfl
              have hrun := run_buildSlice hu hs hz c1 (by
                rcases Nat.lt_or_ge (2 ^ 24) (len * size) with h | h
                · have : Nat.blt (2 ^ 24) (len * size) = true := Nat.ble_eq_true_of_le h
                  rw [this] at c3; cases c3
                · exact h) (Decidable.not_not.mp c4) fl W
              have e1 : (parts.map fun x => (x.1, a.eval x.2)) = (parts.toList.map fun p => (p.1, a.eval p.2)).toArray := by
                apply Array.ext'; simp
              have hrun' := hrun
              rw [← e1] at hrun'
              refine wp_value (o := ⟨dst, .buildSlice t len parts, ty, pos, after, gd⟩) (v := .slice (some ⟨W.heap.size, 0, none⟩) len len) (run_v hrun') ?_
              have st := s.step (s.sub.new (.cells (toVs β out).toArray e' (0, 0)) (W' := { W with heap := W.heap.push (.cells (toVs β out).toArray e' (0, 0)) }) rfl) (Frame.new _ rfl ⟨rfl, rfl, rfl, Nat.le_refl _⟩)
              rw [toVs_nobp hb] at st
              rw [toVs_nobp hb]
              exact put_goes f' st ⟨g.slots, g.boxes⟩ fun _ => by simp only [toV, blk, Addr_add_zero]
        · cases hc
      · cases hc
    · exact f.elim
  · exact f.elim

/-! ### load, store -/

theorem run_loadAgg {t n : Nat} {ad : Addr} {vs : List Value} (h1 : isAggB P t = some true) (h2 : sizeO P t = some n) (hl : vs.length = n) (h : ∀ j v, vs[j]? = some v → W.cell? (ad.add j) = some v) :
    (Instr.loadAt t (.pointer (some ad))).run P W = .ok (.agg vs.toArray) W := by
  simp only [Instr.loadAt, run_bind, Instr.sureAddr, run_pure, loadVar, run_isAgg h1, if_true, run_size h2, run_loadCells ad W n vs hl h]

theorem run_loadOne {t : Nat} {ad : Addr} {v : Value} (h1 : isAggB P t = some false) (h : W.cell? ad = some v) :
    (Instr.loadAt t (.pointer (some ad))).run P W = .ok v W := by
  simp only [Instr.loadAt, run_bind, Instr.sureAddr, run_pure, loadVar, run_isAgg h1]
  rw [if_neg (by simp)]; exact run_load .plain h

theorem Sim.boxCell (s : Sim h0 W0 pr.n β σ a W) {i : Nat} {x : Box semAt} (hx : getBox σ.boxes i = some x) (off : Nat) : W.cell? ⟨β i, off, none⟩ = (toVs β x.cells)[off]? := by
  unfold World.cell?
  simp only [(s.box i x hx).2.1]
  simp

theorem op_load {dst : Option Tmp} {t : TypeId} {x : Operand} {ty : TypeId} {pos : String} {after : Array Edge} {gd : Option (Nat × Bool)}
    (f : opCore P (semAlg P K) pr ⟨dst, .load t x, ty, pos, after, gd⟩ σ Kt) (s : Sim h0 W0 pr.n β σ a W) (g : Agree pr σ0 σ) :
    (⟨dst, .load t x, ty, pos, after, gd⟩ : Oper).wp P a W (Goes h0 W0 pr σ0 Kt) Q := by
  simp only [opCore] at f
  split at f
  · rename_i i off n e1 e2 e3
    split at f
    · rename_i y hy
      split at f
      · rename_i hle
        simp only [Nat.ble_eq] at hle
        refine wp_put (o := ⟨dst, .load t x, ty, pos, after, gd⟩) f s g (val := .agg (toVs β ((y.cells.drop off).take n)).toArray) (run_v ?_) fun _ => rfl
        rw [ev' s e1 (by simp)]
        refine run_loadAgg e2 e3 (by simp [toVs_length]; omega) fun j v hj => ?_
        rw [blk_add, Addr.add]
        have hj' : (toVs β y.cells)[off + j]? = some v := by
          rw [toVs_take, toVs_drop, List.getElem?_take] at hj
          split at hj
          · rw [List.getElem?_drop] at hj; exact hj
          · cases hj
        split
        · rename_i e; subst e; rw [s.boxCell hy]; exact hj'
        · rw [s.boxCell hy]; exact hj'
      · exact f.elim
    · exact f.elim
  · rename_i i off e1 e2
    split at f
    · rename_i v hv
      cases hy : getBox σ.boxes i with
      | none => rw [hy] at hv; cases hv
      | some y =>
        rw [hy] at hv; simp only [Option.bind_some] at hv
        refine wp_put (o := ⟨dst, .load t x, ty, pos, after, gd⟩) f s g (val := toV β v) (run_v ?_) fun _ => rfl
        rw [ev' s e1 (by simp)]
        refine run_loadOne e2 ?_
        rw [blk_add, s.boxCell hy, toVs_get?, hv]; rfl
    · exact f.elim
  · rename_i ad off z n e1 e2 e3 e4
    split at f
    · rename_i hl
      simp only [beq_iff_eq] at hl
      obtain ⟨vs, l, b, d, hc, f⟩ := loadCells_elim _ _ _ _ _ f
      refine wp_put (o := ⟨dst, .load t x, ty, pos, after, gd⟩) f s g (val := .agg (toVs β vs).toArray) (run_v ?_) fun _ => rfl
      rw [ev' s e1 (by simp)]
      have hk : ∀ l : List Value, (kindsOf l).length = l.length := fun l => by induction l with
        | nil => rfl
        | cons v vs ih => simp [kindsOf, ih]
      refine run_loadAgg e2 e4 (by rw [toVs_length, l, hk, hl]) fun j v hj => ?_
      rw [Addr_add_add]
      exact s.sub.cell (hc j v (by rwa [toVs_nobp b] at hj))
    · exact f.elim
  · rename_i ad off z e1 e2 e3
    obtain ⟨vs, l, b, d, hc, f⟩ := loadCells_elim _ _ _ _ _ f
    split at f
    · rename_i v
      refine wp_put (o := ⟨dst, .load t x, ty, pos, after, gd⟩) f s g (val := toV β v) (run_v ?_) fun _ => rfl
      rw [ev' s e1 (by simp)]
      refine run_loadOne e2 (s.sub.cell ?_)
      have hb : v.bps = [] := by simpa [SV.bpss] using b
      rw [toV_nobp hb]
      exact hc 0 _ (by simp [toVs0, toVs])
    · exact f.elim
  · exact f.elim

/-- A view of one block alone. -/
def oneB (b : Nat) (cs : List Value) (t : TypeId) : H := hnew (fun _ => none) b (.cells cs.toArray t (0, 0))

theorem oneB_self {b : Nat} {cs : List Value} {t : TypeId} : oneB b cs t b = some (.cells cs.toArray t (0, 0)) := if_pos rfl
theorem oneB_ne {b c : Nat} {cs : List Value} {t : TypeId} (h : c ≠ b) : oneB b cs t c = none := if_neg h

theorem oneB_set {b : Nat} {cs : List Value} {t : TypeId} {off : Nat} {v : Value} : hset (oneB b cs t) ⟨b, off, none⟩ v = oneB b (cs.set off v) t := by
  funext c
  unfold hset
  by_cases h : c = b
  · subst h; simp [oneB_self]
  · rw [if_neg h, oneB_ne h, oneB_ne h]

theorem storeOne (b off : Nat) (t : TypeId) : ∀ (vs : List Value) (i : Nat) (cs : List Value), off + i + vs.length ≤ cs.length → (∀ v ∈ vs, v.oneCell = true) →
    RunL P (Go.storeCells ((⟨b, 0, none⟩ : Addr).add off) vs i) (oneB b cs t) (fun _ h' => h' = oneB b (setCells cs (off + i) vs) t)
  | [], i, cs, _, _ => by
    simp only [Go.storeCells]
    refine RunL.pure ?_
    cases cs <;> simp [setCells]
  | v :: vs, i, cs, hl, ho => by
    simp only [Go.storeCells]
    refine RunL.bind ?_
    rw [Addr_add_add, blk_add]
    simp only [List.length_cons] at hl
    have hlt : off + i < cs.length := by omega
    refine RunL.store (ho v (by simp)) (u := cs[off + i]) ?_ ?_ ?_
    · unfold cell; simp [oneB_self, hlt]
    · unfold free; simp [oneB_self]
    · rw [oneB_set]
      refine (storeOne b off t vs (i + 1) (cs.set (off + i) v) (by simp; omega) (fun u hu => ho u (by simp [hu]))).mono fun _ h' e => ?_
      rw [e, setCells_cons]; rfl

theorem Sim.storeBox (s : Sim h0 W0 pr.n β σ a W) {i off : Nat} {x : Box semAt} {vs : List SVs} (hx : getBox σ.boxes i = some x) (hl : off + vs.length ≤ x.cells.length)
    (ho : ∀ v ∈ toVs β vs, v.oneCell = true) (hd : SV.defds vs = true) :
    ∃ W', (Go.storeCells ((⟨β i, 0, none⟩ : Addr).add off) (toVs β vs)).run P W = .ok () W' ∧ Sim h0 W0 pr.n β { σ with boxes := setBox i (setCells x.cells off vs) σ.boxes } a W' := by
  obtain ⟨d, hw, hn, hl0⟩ := s.box i x hx
  have sub1 : Sub (oneB (β i) (toVs β x.cells) x.type) W := by
    intro b o hb
    by_cases h : b = β i
    · subst h; rw [oneB_self] at hb; cases hb; exact hw
    · rw [oneB_ne h] at hb; cases hb
  obtain ⟨_, W', h', hr, hs, hf, he⟩ := storeOne (P := P) (β i) off x.type (toVs β vs) 0 (toVs β x.cells) (by simp [toVs_length]; omega) ho W sub1
  subst he
  refine ⟨W', hr, ?_⟩
  have other : ∀ b, b < W.heap.size → b ≠ β i → W'.heap[b]? = W.heap[b]? := fun b hb hne => (hf.2 b hb (oneB_ne hne)).2
  have mine : W'.heap[β i]? = some (.cells (toVs β (setCells x.cells off vs)).toArray x.type (0, 0)) := by
    have := hs (β i) _ oneB_self
    rw [this, toVs_setCells, Nat.add_zero]
  have ltW : ∀ j y, getBox σ.boxes j = some y → β j < W.heap.size := fun j y hy => (Array.getElem?_eq_some_iff.1 (s.box j y hy).2.1).1
  exact {
    env := s.env
    size := s.size
    defers := s.defers
    sub := fun b o hb => by
      have hb' : b ≠ β i := by intro e; subst e; rw [hn] at hb; cases hb
      rw [other b (s.sub.lt hb) hb']; exact s.sub b o hb
    frame := ⟨Nat.le_trans s.frame.1 hf.1, fun b hb hb0 => by
      have ⟨n1, e1⟩ := s.frame.2 b hb hb0
      exact ⟨n1, (other b (Nat.lt_of_lt_of_le hb s.frame.1) (by omega)).trans e1⟩, s.frame.3.trans hf.3⟩
    box := fun j y hy => by
      by_cases e : i = j
      · subst e
        rw [getBox_set_self hx] at hy
        simp only [Option.some.injEq] at hy; subst hy
        refine ⟨defds_of_mem fun u hu => ?_, mine, hn, hl0⟩
        rcases setCells_mem hu with m | m
        · exact defds_mem d m
        · exact defds_mem hd m
      · rw [getBox_set_ne e] at hy
        obtain ⟨d1, w1, n1, l1⟩ := s.box j y hy
        refine ⟨d1, ?_, n1, l1⟩
        rw [other (β j) (ltW j y hy) (fun eb => e (s.inj j i y x hy hx eb).symm)]; exact w1
    inj := fun j k y z hy hz e => by
      have : ∀ j y, getBox (setBox i (setCells x.cells off vs) σ.boxes) j = some y → ∃ y', getBox σ.boxes j = some y' := fun j y hy => by
        by_cases e : i = j
        · subst e; exact ⟨x, hx⟩
        · rw [getBox_set_ne e] at hy; exact ⟨y, hy⟩
      obtain ⟨y', hy'⟩ := this j y hy
      obtain ⟨z', hz'⟩ := this k z hz
      exact s.inj j k y' z' hy' hz' e }

theorem ones_all {l : List SVs} (o : ones l = true) (r : ∀ x, SV.raw x ∈ l → x.oneCell = true) : ∀ v ∈ toVs β l, v.oneCell = true := by
  induction l with
  | nil => intro v hv; simp [toVs] at hv
  | cons u l ih =>
    intro v hv
    simp only [toVs, List.mem_cons] at hv
    rcases hv with e | m
    · rw [e]; exact one_toV (ones_mem o (by simp)) fun x ex => r x (by simp [ex])
    · refine ih ?_ (fun x hx => r x (by simp [hx])) v m
      cases u <;> simp only [ones] at o <;> first | exact o | (cases o; done)

theorem run_storeAt {t n : Nat} {ad : Addr} {v : Value} {vs : List Value} {W' : World} (hs : sizeO P t = some n) (hc : v.cells = vs.toArray) (hl : vs.length = n) (hr : (Go.storeCells ad vs).run P W = .ok () W') :
    (Instr.storeAt t (.pointer (some ad)) v).run P W = .ok () W' := by
  simp only [Instr.storeAt, run_bind, Instr.sureAddr, run_pure, storeVar, run_size hs]
  rw [if_neg (by rw [hc]; simp [hl]), hc]
  exact hr

theorem defds_cellsOf {v : SVs} (h : v.defd = true) : SV.defds v.cellsOf = true := by
  cases v <;> simp_all [SV.cellsOf, SV.defds, SV.defd]

theorem bpss_cellsOf {v : SVs} (h : v.bps = []) : SV.bpss v.cellsOf = [] := by
  cases v <;> simp_all [SV.cellsOf, SV.bpss, SV.bps]

theorem op_store {dst : Option Tmp} {t : TypeId} {x y : Operand} {ty : TypeId} {pos : String} {after : Array Edge} {gd : Option (Nat × Bool)}
    (f : opCore P (semAlg P K) pr ⟨dst, .store t x y, ty, pos, after, gd⟩ σ Kt) (s : Sim h0 W0 pr.n β σ a W) (g : Agree pr σ0 σ) :
    (⟨dst, .store t x y, ty, pos, after, gd⟩ : Oper).wp P a W (Goes h0 W0 pr σ0 Kt) Q := by
  simp only [opCore] at f
  split at f
  · exact f.elim
  rename_i hdst
  have hdst' : dst = none := by cases dst with | none => rfl | some d => simp at hdst
  subst hdst'
  split at f
  · rename_i i off n e1 e2
    split at f
    · exact f.elim
    rename_i c
    simp only [Bool.or_eq_true, not_or, Bool.not_eq_true, Bool.not_eq_true', Bool.not_eq_false] at c
    obtain ⟨⟨c1, c2⟩, c3⟩ := c
    split at f
    · rename_i z hz
      split at f
      · rename_i hl
        simp only [Bool.and_eq_true, beq_iff_eq, Nat.ble_eq] at hl
        obtain ⟨hr, f⟩ := reqOnes_elim _ _ f
        have hraw : ∀ v, SV.raw v ∈ (opnd (semAlg P K) σ y).cellsOf → v.oneCell = true := fun v hv => hr v (raws_mem hv)
        have hdc : SV.defds (opnd (semAlg P K) σ y).cellsOf = true := defds_cellsOf c2
        obtain ⟨W', hrun, st⟩ := s.storeBox (P := P) hz (vs := (opnd (semAlg P K) σ y).cellsOf) (off := off) (by omega) (ones_all c3 hraw) hdc
        have hcl : (a.eval y).cells = (toVs β (opnd (semAlg P K) σ y).cellsOf).toArray := by
          rw [opnd_eval s y c2]
          exact cells_toV fun v hv => hraw v (by rw [hv]; simp [SV.cellsOf])
        refine wp_skipped (o := ⟨none, .store t x y, ty, pos, after, gd⟩) (run_u (run_storeAt e2 hcl (by rw [toVs_length]; exact hl.1) (ad := (⟨β i, 0, none⟩ : Addr).add off) hrun) |> fun h => by
          simp only [execOp, ev' s e1 (show (SV.bp i off : SVs) ≠ .undef by simp)]; exact h) ?_
        refine ⟨_, β, st, ⟨g.slots, fun j hj => ?_⟩, f⟩
        have : i ≠ j := by intro e; subst e; simp [hj] at c1
        rw [getBox_set_ne this]; exact g.boxes j hj
      · exact f.elim
    · exact f.elim
  · rename_i ad off n e1 e2
    split at f
    · rename_i c
      simp only [Bool.and_eq_true, beq_iff_eq] at c
      obtain ⟨⟨c1, c2⟩, c3⟩ := c
      obtain ⟨hr, f⟩ := reqOnes_elim _ _ f
      obtain ⟨hb, hd⟩ := noBps_spec c2
      have hd' : (opnd (semAlg P K) σ y).defd = true := by simpa [SV.defds] using hd
      have hb' : (opnd (semAlg P K) σ y).bps = [] := by simpa [SV.bpss] using hb
      have hbc : SV.bpss (opnd (semAlg P K) σ y).cellsOf = [] := bpss_cellsOf hb'
      have hraw : ∀ v, SV.raw v ∈ (opnd (semAlg P K) σ y).cellsOf → v.oneCell = true := fun v hv => hr v (raws_mem hv)
      have f' := storeCells_elim (P := P) (K := K) ad _ off 0 σ.heap _ (by simpa using f) c3 hraw
      obtain ⟨_, W', h', hrun, hs, hf, k⟩ := f' W s.sub
      have hcl : (a.eval y).cells = (toVs0 (opnd (semAlg P K) σ y).cellsOf).toArray := by
        rw [opnd_eval s y hd', ← toVs_nobp hbc (β := β)]
        exact cells_toV fun v hv => hraw v (by rw [hv]; simp [SV.cellsOf])
      refine wp_skipped (o := ⟨none, .store t x y, ty, pos, after, gd⟩) (run_u (run_storeAt e2 hcl (by rw [toVs_length]; exact c1) (ad := Addr.add ad off) hrun) |> fun h => by
        simp only [execOp, ev' s e1 (show (SV.addr ad off : SVs) ≠ .undef by simp)]; exact h) ?_
      exact ⟨_, β, s.step hs hf, ⟨g.slots, g.boxes⟩, k⟩
    · exact f.elim
  · exact f.elim
end Lf

