/- The quiet operations: what each yields in every world that the view is true of. -/
import Derived.Test.YtlcebmelfcfkaaaLfSnd7
namespace Lf
open Go
variable {P : Program} {K : Value → H → Prop}
variable {h0 : H} {W0 : World} {pr : Prot} {β : Nat → Nat} {σ σ0 : St semAt} {a : Act} {W : World} {Kt : St semAt → Prop} {Q : Exit → Act → World → Prop} {V : World → Prop}

/-- What a state says of a world's heap. -/
structure Vw (β : Nat → Nat) (σ : St semAt) (W : World) : Prop where
  sub : Sub σ.heap W
  box : ∀ i x, getBox σ.boxes i = some x → W.heap[β i]? = some (.cells (toVs β x.cells).toArray x.type (0, 0))

theorem Vw.boxCell (s : Vw β σ W) {i : Nat} {x : Box semAt} (hx : getBox σ.boxes i = some x) (off : Nat) : W.cell? ⟨β i, off, none⟩ = (toVs β x.cells)[off]? := by
  unfold World.cell?
  simp only [s.box i x hx]
  simp

/-- An operation that yields one and the same value in every such world, and leaves the world. -/
def Yld (V : World → Prop) (P : Program) (K : Value → H → Prop) (pr : Prot) (β : Nat → Nat) (σ : St semAt) (a : Act) (Kt : St semAt → Prop) (o : Oper) : Prop :=
  ∃ v val, put (semAlg P K) pr o.dst v σ Kt ∧ (v.defd = true → toV β v = val) ∧ ∀ W, V W → (execOp a.eval o).run P W = .ok (.value val) W

theorem yl_put {o : Oper} {v : SVs} {val : Value} (f : put (semAlg P K) pr o.dst v σ Kt) (_ : Sim h0 W0 pr.n β σ a W) (_ : Agree pr σ0 σ)
    (h : ∀ W, V W → (execOp a.eval o).run P W = .ok (.value val) W) (hv : v.defd = true → toV β v = val) : Yld V P K pr β σ a Kt o := ⟨v, val, f, hv, h⟩


theorem yl_move {dst : Option Tmp} {x : Operand} {ty : TypeId} {pos : String} {after : Array Edge} {gd : Option (Nat × Bool)}
    (f : put (semAlg P K) pr dst (opnd (semAlg P K) σ x) σ Kt) (s : Sim h0 W0 pr.n β σ a W) (g : Agree pr σ0 σ) :
    Yld V P K pr β σ a Kt ⟨dst, .move x, ty, pos, after, gd⟩ :=
  yl_put (val := a.eval x) f s g (fun W vw => rfl) fun d => (opnd_eval s x d).symm


theorem yl_assign {dst : Option Tmp} {x : Operand} {ty : TypeId} {pos : String} {after : Array Edge} {gd : Option (Nat × Bool)}
    (f : put (semAlg P K) pr dst (opnd (semAlg P K) σ x) σ Kt) (s : Sim h0 W0 pr.n β σ a W) (g : Agree pr σ0 σ) :
    Yld V P K pr β σ a Kt ⟨dst, .assign x, ty, pos, after, gd⟩ :=
  yl_put (val := a.eval x) f s g (fun W vw => rfl) fun d => (opnd_eval s x d).symm


theorem yl_pick {dst : Option Tmp} {c x y : Operand} {ty : TypeId} {pos : String} {after : Array Edge} {gd : Option (Nat × Bool)}
    (f : opCore P (semAlg P K) pr ⟨dst, .pick c x y, ty, pos, after, gd⟩ σ Kt) (s : Sim h0 W0 pr.n β σ a W) (g : Agree pr σ0 σ) :
    Yld V P K pr β σ a Kt ⟨dst, .pick c x y, ty, pos, after, gd⟩ := by
  simp only [opCore] at f
  split at f
  · rename_i e
    exact yl_put (o := ⟨dst, .pick c x y, ty, pos, after, gd⟩) f s g (fun W vw => (run_pick (ev s e rfl))) fun d => (opnd_eval s x d).symm
  · rename_i e
    exact yl_put (o := ⟨dst, .pick c x y, ty, pos, after, gd⟩) f s g (fun W vw => (run_pick (ev s e rfl))) fun d => (opnd_eval s y d).symm
  · rename_i b e
    split at f
    · rename_i u v hu hv
      have ⟨d1, e1⟩ := asBool_spec hu
      have ⟨d2, e2⟩ := asBool_spec hv
      refine yl_put (o := ⟨dst, .pick c x y, ty, pos, after, gd⟩) f s g (fun W vw => (run_pick (ev s e rfl))) fun d => ?_
      rw [opnd_eval s x d1, opnd_eval s y d2, e1, e2]
      cases b <;> rfl
    · exact f.elim
  · exact f.elim


theorem yl_extract {dst : Option Tmp} {x : Operand} {i : Nat} {ty : TypeId} {pos : String} {after : Array Edge} {gd : Option (Nat × Bool)}
    (f : opCore P (semAlg P K) pr ⟨dst, .extract x i, ty, pos, after, gd⟩ σ Kt) (s : Sim h0 W0 pr.n β σ a W) (g : Agree pr σ0 σ) :
    Yld V P K pr β σ a Kt ⟨dst, .extract x i, ty, pos, after, gd⟩ := by
  simp only [opCore] at f
  split at f
  · rename_i vs e
    split at f
    · rename_i v hv
      have hev := ev' s e (by simp)
      refine yl_put (o := ⟨dst, .extract x i, ty, pos, after, gd⟩) (val := toV β v) f s g (fun W vw => ?_) fun _ => rfl
      refine run_v ?_
      rw [hev]
      have : ((toVs β vs).toArray)[i]? = some (toV β v) := by
        rw [List.getElem?_toArray, toVs_get?, hv]; rfl
      simp only [Instr.extract, toV, this]; rfl
    · exact f.elim
  · exact f.elim


theorem yl_un {dst : Option Tmp} {x : Operand} {u : UnOp} {t : TypeId} {ty : TypeId} {pos : String} {after : Array Edge} {gd : Option (Nat × Bool)}
    (f : opCore P (semAlg P K) pr ⟨dst, .unOp u t x, ty, pos, after, gd⟩ σ Kt) (s : Sim h0 W0 pr.n β σ a W) (g : Agree pr σ0 σ) :
    Yld V P K pr β σ a Kt ⟨dst, .unOp u t x, ty, pos, after, gd⟩ := by
  simp only [opCore] at f
  split at f
  · rename_i v hv
    split at f
    · rename_i r hr
      obtain ⟨b, e1, e2, d, _⟩ := notS_spec hr
      refine yl_put (o := ⟨dst, .unOp _ t x, ty, pos, after, gd⟩) f s g (val := .bool !b) (fun W vw => (run_v ?_)) fun _ => e2 β
      rw [ev' s rfl d, e1]; rfl
    · exact f.elim
  · rename_i v hv
    split at f
    · rename_i k n hn
      obtain ⟨d, e⟩ := asInt_spec hn
      refine yl_put (o := ⟨dst, .unOp _ t x, ty, pos, after, gd⟩) f s g (val := .int k (k.wrap (0 - n))) (fun W vw => (run_v ?_)) fun _ => rfl
      rw [opnd_eval s x d, e]; rfl
    · exact f.elim
  · exact f.elim


theorem yl_build {dst : Option Tmp} {t : TypeId} {parts : Array (Nat × Operand)} {ty : TypeId} {pos : String} {after : Array Edge} {gd : Option (Nat × Bool)}
    (f : opCore P (semAlg P K) pr ⟨dst, .build t parts, ty, pos, after, gd⟩ σ Kt) (s : Sim h0 W0 pr.n β σ a W) (g : Agree pr σ0 σ) :
    Yld V P K pr β σ a Kt ⟨dst, .build t parts, ty, pos, after, gd⟩ := by
  simp only [opCore] at f
  split at f
  · rename_i v hv
    split at f
    · rename_i hd
      obtain ⟨hr, f⟩ := reqOnes_elim _ _ f
      unfold buildS at hv
      split at hv
      · rename_i fs z hu hz
        split at hv
        · rename_i ps hps
          split at hv
          case isFalse => cases hv
          rename_i hzd
          cases hfl : fillS (semAlg P K) ps (ofValues (semAlg P K) z) (parts.toList.map fun p => (p.1, opnd (semAlg P K) σ p.2)) with
          | none => rw [hfl] at hv; cases hv
          | some out =>
            rw [hfl] at hv; simp only [Option.map_some, Option.some.injEq] at hv; subst hv
            have hdm : ∀ p ∈ parts.toList.map (fun p => (p.1, opnd (semAlg P K) σ p.2)), p.2.defd = true := by
              intro p hp
              obtain ⟨q, hq, rfl⟩ := List.mem_map.1 hp
              exact defds_mem hd (List.mem_map_of_mem hq)
            have hrm : ∀ p ∈ parts.toList.map (fun p => (p.1, opnd (semAlg P K) σ p.2)), ∀ x, p.2 = SV.raw x → x.oneCell = true := by
              intro p hp x hx
              obtain ⟨q, hq, rfl⟩ := List.mem_map.1 hp
              exact hr x (raws_mem (by rw [← hx]; exact List.mem_map_of_mem hq))
            refine yl_put (o := ⟨dst, .build t parts, ty, pos, after, gd⟩) (val := .agg (toVs β out).toArray) f s g (fun W vw => (run_v ?_)) fun _ => rfl
            refine Go.run_build W t _ (toVs β out).toArray ?_
            unfold Program.built
            unfold zeroOf at hz
            cases hi : P.info? t with
            | none => rw [hi] at hz; cases hz
            | some it =>
              rw [hi] at hz; simp only [Option.bind_some] at hz
              simp only [hu, hz, structPlaces_eq fs hps]
              have e := parts_eval (P := P) (K := K) s hd
              rw [Array.toList_map, show (parts.toList.map fun x => (x.1, a.eval x.2)) = _ from e]
              have := (fillS_spec (P := P) (K := K) (β := β) (place := (ps.toArray[·]?)) (fun i p hp => by simpa using hp) _ _ _ hfl hdm hrm).1
              rw [ofValues_toVs P K β z hzd] at this
              exact this
        · cases hv
      · rename_i len e' z hu hz
        split at hv
        · rename_i size hps
          split at hv
          case isFalse => cases hv
          rename_i hzd
          cases hfl : fillS (semAlg P K) ((List.range len).map fun i => (i * size, size)) (ofValues (semAlg P K) z) (parts.toList.map fun p => (p.1, opnd (semAlg P K) σ p.2)) with
          | none => rw [hfl] at hv; cases hv
          | some out =>
            rw [hfl] at hv; simp only [Option.map_some, Option.some.injEq] at hv; subst hv
            have hdm : ∀ p ∈ parts.toList.map (fun p => (p.1, opnd (semAlg P K) σ p.2)), p.2.defd = true := by
              intro p hp
              obtain ⟨q, hq, rfl⟩ := List.mem_map.1 hp
              exact defds_mem hd (List.mem_map_of_mem hq)
            have hrm : ∀ p ∈ parts.toList.map (fun p => (p.1, opnd (semAlg P K) σ p.2)), ∀ x, p.2 = SV.raw x → x.oneCell = true := by
              intro p hp x hx
              obtain ⟨q, hq, rfl⟩ := List.mem_map.1 hp
              exact hr x (raws_mem (by rw [← hx]; exact List.mem_map_of_mem hq))
            refine yl_put (o := ⟨dst, .build t parts, ty, pos, after, gd⟩) (val := .agg (toVs β out).toArray) f s g (fun W vw => (run_v ?_)) fun _ => rfl
            refine Go.run_build W t _ (toVs β out).toArray ?_
            unfold Program.built
            unfold zeroOf at hz
            unfold sizeO at hps
            cases hi : P.info? t with
            | none => rw [hi] at hz; cases hz
            | some it =>
              rw [hi] at hz; simp only [Option.bind_some] at hz
              cases hie : P.info? e' with
              | none => rw [hie] at hps; cases hps
              | some ie =>
                rw [hie] at hps; simp only [Option.map_some, Option.some.injEq] at hps; subst hps
                simp only [hu, hz, hie]
                have e := parts_eval (P := P) (K := K) s hd
                rw [Array.toList_map, show (parts.toList.map fun x => (x.1, a.eval x.2)) = _ from e]
                have := (fillS_spec (P := P) (K := K) (β := β) (place := fun i => some (i * ie.size, ie.size)) (fun i p hp => by
                  rw [List.getElem?_map] at hp
                  by_cases hi : i < len
                  · rw [List.getElem?_range hi] at hp; exact hp
                  · rw [List.getElem?_eq_none (by simpa using hi)] at hp; cases hp) _ _ _ hfl hdm hrm).1
                rw [ofValues_toVs P K β z hzd] at this
                exact this
        · cases hv
      · cases hv
    · exact f.elim
  · exact f.elim


theorem yl_load {dst : Option Tmp} {t : TypeId} {x : Operand} {ty : TypeId} {pos : String} {after : Array Edge} {gd : Option (Nat × Bool)}
    (f : opCore P (semAlg P K) pr ⟨dst, .load t x, ty, pos, after, gd⟩ σ Kt) (s : Sim h0 W0 pr.n β σ a W) (g : Agree pr σ0 σ) :
    Yld (Vw β σ) P K pr β σ a Kt ⟨dst, .load t x, ty, pos, after, gd⟩ := by
  simp only [opCore] at f
  split at f
  · rename_i i off n e1 e2 e3
    split at f
    · rename_i y hy
      split at f
      · rename_i hle
        simp only [Nat.ble_eq] at hle
        refine yl_put (o := ⟨dst, .load t x, ty, pos, after, gd⟩) f s g (val := .agg (toVs β ((y.cells.drop off).take n)).toArray) (fun W vw => (run_v ?_)) fun _ => rfl
        rw [ev' s e1 (by simp)]
        refine run_loadAgg e2 e3 (by simp [toVs_length]; omega) fun j v hj => ?_
        rw [blk_add, Addr.add]
        have hj' : (toVs β y.cells)[off + j]? = some v := by
          rw [toVs_take, toVs_drop, List.getElem?_take] at hj
          split at hj
          · rw [List.getElem?_drop] at hj; exact hj
          · cases hj
        split
        · rename_i e; subst e; rw [vw.boxCell hy]; exact hj'
        · rw [vw.boxCell hy]; exact hj'
      · exact f.elim
    · exact f.elim
  · rename_i i off e1 e2
    split at f
    · rename_i v hv
      cases hy : getBox σ.boxes i with
      | none => rw [hy] at hv; cases hv
      | some y =>
        rw [hy] at hv; simp only [Option.bind_some] at hv
        refine yl_put (o := ⟨dst, .load t x, ty, pos, after, gd⟩) f s g (val := toV β v) (fun W vw => (run_v ?_)) fun _ => rfl
        rw [ev' s e1 (by simp)]
        refine run_loadOne e2 ?_
        rw [blk_add, vw.boxCell hy, toVs_get?, hv]; rfl
    · exact f.elim
  · rename_i ad off z n e1 e2 e3 e4
    split at f
    · rename_i hl
      simp only [beq_iff_eq] at hl
      obtain ⟨vs, l, b, d, hc, f⟩ := loadCells_elim _ _ _ _ _ f
      refine yl_put (o := ⟨dst, .load t x, ty, pos, after, gd⟩) f s g (val := .agg (toVs β vs).toArray) (fun W vw => (run_v ?_)) fun _ => rfl
      rw [ev' s e1 (by simp)]
      have hk : ∀ l : List Value, (kindsOf l).length = l.length := fun l => by induction l with
        | nil => rfl
        | cons v vs ih => simp [kindsOf, ih]
      refine run_loadAgg e2 e4 (by rw [toVs_length, l, hk, hl]) fun j v hj => ?_
      rw [Addr_add_add]
      exact vw.sub.cell (hc j v (by rwa [toVs_nobp b] at hj))
    · exact f.elim
  · rename_i ad off z e1 e2 e3
    obtain ⟨vs, l, b, d, hc, f⟩ := loadCells_elim _ _ _ _ _ f
    split at f
    · rename_i v
      refine yl_put (o := ⟨dst, .load t x, ty, pos, after, gd⟩) f s g (val := toV β v) (fun W vw => (run_v ?_)) fun _ => rfl
      rw [ev' s e1 (by simp)]
      refine run_loadOne e2 (vw.sub.cell ?_)
      have hb : v.bps = [] := by simpa [SV.bpss] using b
      rw [toV_nobp hb]
      exact hc 0 _ (by simp [toVs0, toVs])
    · exact f.elim
  · exact f.elim


theorem yl_nilCheck {dst : Option Tmp} {x : Operand} {ty : TypeId} {pos : String} {after : Array Edge} {gd : Option (Nat × Bool)}
    (f : opCore P (semAlg P K) pr ⟨dst, .nilCheck x, ty, pos, after, gd⟩ σ Kt) (s : Sim h0 W0 pr.n β σ a W) (g : Agree pr σ0 σ) :
    Yld V P K pr β σ a Kt ⟨dst, .nilCheck x, ty, pos, after, gd⟩ := by
  have fin : ∀ {v : SVs} {val : Value}, put (semAlg P K) pr dst v σ Kt → a.eval x = val → (v.defd = true → toV β v = val) →
      nilOk val = true →
      Yld V P K pr β σ a Kt ⟨dst, .nilCheck x, ty, pos, after, gd⟩ := by
    intro v val hp he hv hm
    refine yl_put (o := ⟨dst, .nilCheck x, ty, pos, after, gd⟩) (val := val) hp s g (fun W vw => ?_) hv
    simp only [execOp, he]
    exact run_nilOk hm W
  simp only [opCore] at f
  split at f
  · rename_i i off e; exact fin f (ev' s e (by simp)) (fun _ => rfl) rfl
  · rename_i ad off e; exact fin f (ev' s e (by simp)) (fun _ => rfl) rfl
  · rename_i p e
    obtain ⟨ad, h, f⟩ := f
    have h' : p = some ad := h
    subst h'
    exact fin f (val := .pointer (some ad)) (ev' s e (by simp)) (fun _ => by simp only [toV, Addr_add_zero]) rfl
  · rename_i fn first cap e; exact fin f (ev' s e (by simp)) (fun _ => rfl) rfl
  · rename_i t v e; exact fin f (ev' s e (by simp)) (fun _ => rfl) rfl
  · exact f.elim


theorem yl_makeInterface {dst : Option Tmp} {x : Operand} {t : TypeId} {ty : TypeId} {pos : String} {after : Array Edge} {gd : Option (Nat × Bool)}
    (f : opCore P (semAlg P K) pr ⟨dst, .makeInterface t x, ty, pos, after, gd⟩ σ Kt) (s : Sim h0 W0 pr.n β σ a W) (g : Agree pr σ0 σ) :
    Yld V P K pr β σ a Kt ⟨dst, .makeInterface t x, ty, pos, after, gd⟩ := by
  simp only [opCore] at f
  split at f
  · exact f.elim
  · rename_i d hd hu
    refine yl_put (o := ⟨dst, .makeInterface t x, ty, pos, after, gd⟩) (val := .iface t (a.eval x)) f s g (fun W vw => (run_v ?_)) fun dd => ?_
    · simp only [Instr.makeInterface, run_bind, run_under hu]
      rfl
    · simp only [SV.defd] at dd
      simp only [toV]; rw [opnd_eval s x dd]
  · exact f.elim


theorem yl_makeFunc {dst : Option Tmp} {fn : Fn} {first cap : Array Operand} {ty : TypeId} {pos : String} {after : Array Edge} {gd : Option (Nat × Bool)}
    (f : opCore P (semAlg P K) pr ⟨dst, .makeFunc fn first cap, ty, pos, after, gd⟩ σ Kt) (s : Sim h0 W0 pr.n β σ a W) (g : Agree pr σ0 σ) :
    Yld V P K pr β σ a Kt ⟨dst, .makeFunc fn first cap, ty, pos, after, gd⟩ := by
  simp only [opCore] at f
  refine yl_put (o := ⟨dst, .makeFunc fn first cap, ty, pos, after, gd⟩) (val := .func fn (first.map a.eval) (cap.map a.eval)) f s g (fun W vw => rfl) fun dd => ?_
  simp only [SV.defd, Bool.and_eq_true] at dd
  simp only [toV]
  rw [← list_eval s dd.1, ← list_eval s dd.2]
  congr 1 <;> (apply Array.ext'; simp)


theorem yl_fieldAddr {dst : Option Tmp} {st : TypeId} {x : Operand} {fi : Nat} {ty : TypeId} {pos : String} {after : Array Edge} {gd : Option (Nat × Bool)}
    (f : opCore P (semAlg P K) pr ⟨dst, .fieldAddr st x fi, ty, pos, after, gd⟩ σ Kt) (s : Sim h0 W0 pr.n β σ a W) (g : Agree pr σ0 σ) :
    Yld V P K pr β σ a Kt ⟨dst, .fieldAddr st x fi, ty, pos, after, gd⟩ := by
  simp only [opCore] at f
  split at f
  · rename_i i off n e h
    refine yl_put (o := ⟨dst, .fieldAddr st x fi, ty, pos, after, gd⟩) f s g (fun W vw => (run_v (by rw [ev' s e (by simp)]; exact run_fieldAt h W))) fun _ => ?_
    simp only [toV, Addr_add_add]
  · rename_i ad off n e h
    refine yl_put (o := ⟨dst, .fieldAddr st x fi, ty, pos, after, gd⟩) f s g (fun W vw => (run_v (by rw [ev' s e (by simp)]; exact run_fieldAt h W))) fun _ => ?_
    simp only [toV, Addr_add_add]
  · exact f.elim


theorem yl_field {dst : Option Tmp} {st : TypeId} {x : Operand} {fi : Nat} {ty : TypeId} {pos : String} {after : Array Edge} {gd : Option (Nat × Bool)}
    (f : opCore P (semAlg P K) pr ⟨dst, .field st x fi, ty, pos, after, gd⟩ σ Kt) (s : Sim h0 W0 pr.n β σ a W) (g : Agree pr σ0 σ) :
    Yld V P K pr β σ a Kt ⟨dst, .field st x fi, ty, pos, after, gd⟩ := by
  simp only [opCore] at f
  split at f
  · rename_i cs fs e hu
    split at f
    · rename_i fl hfl
      split at f
      · rename_i n h1 h2
        split at f
        · rename_i hle
          simp only [Nat.ble_eq] at hle
          refine yl_put (o := ⟨dst, .field st x fi, ty, pos, after, gd⟩) (val := .agg (toVs β ((cs.drop fl.offset).take n)).toArray) f s g (fun W vw => (run_v ?_)) fun _ => rfl
          rw [ev' s e (by simp)]
          simp only [Instr.field, run_bind, run_under hu, hfl, toV, asAgg, run_pure, part, run_isAgg h1, if_true, run_size h2]
          congr 2
          rw [toVs_take, toVs_drop]
          apply Array.ext'
          simp [List.extract_eq_take_drop]
        · exact f.elim
      · rename_i h1
        split at f
        · rename_i v hv
          refine yl_put (o := ⟨dst, .field st x fi, ty, pos, after, gd⟩) (val := toV β v) f s g (fun W vw => (run_v ?_)) fun _ => rfl
          rw [ev' s e (by simp)]
          have : ((toVs β cs).toArray)[fl.offset]? = some (toV β v) := by rw [List.getElem?_toArray, toVs_get?, hv]; rfl
          simp only [Instr.field, run_bind, run_under hu, hfl, toV, asAgg, run_pure, part, run_isAgg h1, Bool.false_eq_true, if_false, this]
        · exact f.elim
      · exact f.elim
    · exact f.elim
  · exact f.elim


theorem yl_indexAddr {dst : Option Tmp} {t : TypeId} {x i : Operand} {ty : TypeId} {pos : String} {after : Array Edge} {gd : Option (Nat × Bool)}
    (f : opCore P (semAlg P K) pr ⟨dst, .indexAddr t x i, ty, pos, after, gd⟩ σ Kt) (s : Sim h0 W0 pr.n β σ a W) (g : Agree pr σ0 σ) :
    Yld V P K pr β σ a Kt ⟨dst, .indexAddr t x i, ty, pos, after, gd⟩ := by
  simp only [opCore] at f
  split at f
  · rename_i e p len c k n hu hx hi
    obtain ⟨d, ei⟩ := asInt_spec hi
    split at f
    · rename_i size hs
      obtain ⟨ad, hp, hr, f⟩ := f
      have hp' : p = some ad := hp
      subst hp'
      refine yl_put (o := ⟨dst, .indexAddr t x i, ty, pos, after, gd⟩) f s g (fun W vw => (run_v (by
        rw [ev' s hx (by simp), opnd_eval s i d, ei]; exact run_indexSlice hu hs hr W))) fun _ => ?_
      simp only [toV, aidx, Addr_add_zero]
    · exact f.elim
  · rename_i len e j off q hu hx hi
    split at f
    · rename_i m n size h1 h2
      split at f
      · rename_i hr
        simp only [Bool.and_eq_true, decide_eq_true_eq] at hr
        refine yl_put (o := ⟨dst, .indexAddr t x i, ty, pos, after, gd⟩) f s g (fun W vw => (run_v (by
          rw [ev' s hx (by simp), ev' s h1 (by simp)]; exact run_indexArr hu h2 hr W))) fun _ => ?_
        simp only [toV, Addr_add_add]
      · exact f.elim
    · exact f.elim
  · rename_i len e ad off k n hu hx hi
    obtain ⟨d, ei⟩ := asInt_spec hi
    split at f
    · rename_i size hs
      obtain ⟨hr, f⟩ := f
      refine yl_put (o := ⟨dst, .indexAddr t x i, ty, pos, after, gd⟩) f s g (fun W vw => (run_v (by
        rw [ev' s hx (by simp), opnd_eval s i d, ei]; exact run_indexArr hu hs hr W))) fun _ => ?_
      simp only [toV, aidx, Addr_add_zero]
    · exact f.elim
  · exact f.elim


theorem yl_index {dst : Option Tmp} {t : TypeId} {x i : Operand} {ty : TypeId} {pos : String} {after : Array Edge} {gd : Option (Nat × Bool)}
    (f : opCore P (semAlg P K) pr ⟨dst, .index t x i, ty, pos, after, gd⟩ σ Kt) (s : Sim h0 W0 pr.n β σ a W) (g : Agree pr σ0 σ) :
    Yld V P K pr β σ a Kt ⟨dst, .index t x i, ty, pos, after, gd⟩ := by
  simp only [opCore] at f
  split at f
  · rename_i k n hu hi
    obtain ⟨d, ei⟩ := asInt_spec hi
    split at f
    · rename_i b hb
      obtain ⟨db, eb⟩ := asStr_spec hb
      obtain ⟨hr, f⟩ := f
      refine yl_put (o := ⟨dst, .index t x i, ty, pos, after, gd⟩) (val := .int .u8 (sgetF b n)) f s g (fun W vw => (run_v ?_)) fun _ => rfl
      rw [opnd_eval s x db, eb, opnd_eval s i d, ei]
      have hr' : 0 ≤ n ∧ n < ((ByteArray.size b : Nat) : Int) := hr
      have hlt : n.toNat < ByteArray.size b := by have h1 := hr'.1; have h2 := hr'.2; exact (Int.toNat_lt h1).2 h2
      have hget : b[n.toNat]? = some b[n.toNat] := getElem?_pos b n.toNat hlt
      simp only [Instr.index, asIntOf, run_bind, run_pure, run_under hu, hr'.1, if_true, hget, sgetF, Option.getD_some]
    · exact f.elim
  · rename_i len e q hu hi
    split at f
    · rename_i cs m n hx hi' ha
      split at f
      · rename_i hr
        simp only [Bool.and_eq_true, decide_eq_true_eq] at hr
        split at f
        · rename_i v hv
          split at f
          · rename_i hs
            simp only [beq_iff_eq] at hs
            refine yl_put (o := ⟨dst, .index t x i, ty, pos, after, gd⟩) (val := toV β v) f s g (fun W vw => (run_v ?_)) fun _ => rfl
            rw [ev' s hx (by simp), ev' s hi' (by simp)]
            have : ((toVs β cs).toArray)[n.toNat * 1]? = some (toV β v) := by rw [List.getElem?_toArray, toVs_get?, hv]; rfl
            simp only [Instr.index, toV, asIntOf, run_bind, run_pure, run_under hu, hr, and_self, if_true, run_size hs, part, run_isAgg ha, Bool.false_eq_true, if_false, this]
          · exact f.elim
        · exact f.elim
      · exact f.elim
    · exact f.elim
  · exact f.elim


theorem yl_typeAssert {dst : Option Tmp} {x : Operand} {u t : TypeId} {ok : Bool} {ty : TypeId} {pos : String} {after : Array Edge} {gd : Option (Nat × Bool)}
    (f : opCore P (semAlg P K) pr ⟨dst, .typeAssert x u t ok, ty, pos, after, gd⟩ σ Kt) (s : Sim h0 W0 pr.n β σ a W) (g : Agree pr σ0 σ) :
    Yld V P K pr β σ a Kt ⟨dst, .typeAssert x u t ok, ty, pos, after, gd⟩ := by
  simp only [opCore] at f
  split at f
  · exact f.elim
  · rename_i w v d hd hx hu
    split at f
    · rename_i e
      simp only [beq_iff_eq] at e; subst e
      have e := ev' s hx (by simp)
      refine yl_put (o := ⟨dst, .typeAssert x u w ok, ty, pos, after, gd⟩) (val := if ok then .tuple #[toV β v, .bool true] else toV β v) f s g (fun W vw => (run_v ?_)) fun _ => ?_
      · rw [e]
        exact run_assert hu hd W
      · cases ok <;> rfl
    · exact f.elim
  · exact f.elim


theorem yl_bin {dst : Option Tmp} {x y : Operand} {op : BinOp} {t u : TypeId} {ty : TypeId} {pos : String} {after : Array Edge} {gd : Option (Nat × Bool)}
    (f : opBin P (semAlg P K) pr ⟨dst, .binOp op t x y u, ty, pos, after, gd⟩ op t (opnd (semAlg P K) σ x) (opnd (semAlg P K) σ y) σ Kt) (qq : quietBin (semAlg P K) op (opnd (semAlg P K) σ x) (opnd (semAlg P K) σ y) = true) (s : Sim h0 W0 pr.n β σ a W) (g : Agree pr σ0 σ) :
    Yld V P K pr β σ a Kt ⟨dst, .binOp op t x y u, ty, pos, after, gd⟩ := by
  generalize hx : opnd (semAlg P K) σ x = vx at f qq
  generalize hy : opnd (semAlg P K) σ y = vy at f qq
  have fin : ∀ {r : SVs} {val ux uy : Value}, put (semAlg P K) pr dst r σ Kt → a.eval x = ux → a.eval y = uy → ux ≠ .nilIface → (∀ p, ux ≠ .agg p) →
      (∀ W, (Go.binOp op t ux uy).run P W = .ok val W) → (r.defd = true → toV β r = val) → Yld V P K pr β σ a Kt ⟨dst, .binOp op t x y u, ty, pos, after, gd⟩ := by
    intro r val ux uy hp e1 e2 n1 n2 hr hv
    refine yl_put (o := ⟨dst, .binOp op t x y u, ty, pos, after, gd⟩) hp s g (fun W vw => (run_bin ?_ ?_ (by rw [e1, e2]; exact hr W))) hv
    · rw [e1]; exact fun h => n1 h.1
    · rw [e1]; exact fun p q h => n2 p h.1
  unfold opBin at f
  split at f
  · -- two numbers that are known
    rename_i k m j n
    split at f
    · rename_i hc
      simp only [Bool.and_eq_true, decide_eq_true_eq] at hc
      obtain ⟨h1, rfl⟩ := hc
      exact fin f (ev s hx rfl) (ev s hy rfl) (by simp [toV]) (by simp [toV]) (fun W => run_intCmp h1 W) fun _ => by simp only [toV, cmpS_eq]
    · exact f.elim
  · split at f
    · -- two numbers
      rename_i k m j n hm hn
      obtain ⟨d1, e1⟩ := asInt_spec hm
      obtain ⟨d2, e2⟩ := asInt_spec hn
      have ex := (ev s hx d1).trans (e1 β)
      have ey := (ev s hy d2).trans (e2 β)
      split at f
      · split at f
        · rename_i k' q _hh
          split at f
          · exact f.elim
          · rename_i hq
            have hq' : 0 ≤ n := by
              have : n = q := (by simpa [asInt] using hn.symm : _ ∧ n = q).2
              simp only [decide_eq_true_eq] at hq; rw [this]; exact Int.not_lt.mp hq
            exact fin f ex ey (by simp) (by simp) (fun W => run_shift (.inl rfl) hq' W) fun _ => rfl
        · exact fin f.2 ex ey (by simp) (by simp) (fun W => run_shift (.inl rfl) (by simpa [icmpS] using f.1) W) fun _ => rfl
      · split at f
        · rename_i k' q _hh
          split at f
          · exact f.elim
          · rename_i hq
            have hq' : 0 ≤ n := by
              have : n = q := (by simpa [asInt] using hn.symm : _ ∧ n = q).2
              simp only [decide_eq_true_eq] at hq; rw [this]; exact Int.not_lt.mp hq
            exact fin f ex ey (by simp) (by simp) (fun W => run_shift (.inr rfl) hq' W) fun _ => rfl
        · exact fin f.2 ex ey (by simp) (by simp) (fun W => run_shift (.inr rfl) (by simpa [icmpS] using f.1) W) fun _ => rfl
      · split at f
        · exact f.elim
        · rename_i hkj
          simp only [Bool.not_eq_true', decide_eq_false_iff_not, Decidable.not_not] at hkj
          subst hkj
          split at f
          · rename_i k' q _hh
            split at f
            · exact f.elim
            · rename_i hq
              have hq' : n ≠ 0 := by
                have : n = q := (by simpa [asInt] using hn.symm : _ ∧ n = q).2
                simp only [decide_eq_true_eq] at hq; rw [this]; exact hq
              exact fin f ex ey (by simp) (by simp) (fun W => run_intOp rfl (fun _ => hq') ⟨by simp, by simp⟩ W) fun _ => rfl
          · exact fin f.2 ex ey (by simp) (by simp) (fun W => run_intOp rfl (fun _ => by simpa [icmpS] using f.1) ⟨by simp, by simp⟩ W) fun _ => rfl
      · split at f
        · exact f.elim
        · rename_i hkj
          simp only [Bool.not_eq_true', decide_eq_false_iff_not, Decidable.not_not] at hkj
          subst hkj
          split at f
          · rename_i k' q _hh
            split at f
            · exact f.elim
            · rename_i hq
              have hq' : n ≠ 0 := by
                have : n = q := (by simpa [asInt] using hn.symm : _ ∧ n = q).2
                simp only [decide_eq_true_eq] at hq; rw [this]; exact hq
              exact fin f ex ey (by simp) (by simp) (fun W => run_intOp rfl (fun _ => hq') ⟨by simp, by simp⟩ W) fun _ => rfl
          · exact fin f.2 ex ey (by simp) (by simp) (fun W => run_intOp rfl (fun _ => by simpa [icmpS] using f.1) ⟨by simp, by simp⟩ W) fun _ => rfl
      · rename_i n1 n2 n3 n4
        split at f
        · exact f.elim
        · rename_i hkj
          simp only [Bool.not_eq_true', decide_eq_false_iff_not, Decidable.not_not] at hkj
          subst hkj
          split at f
          · rename_i hc
            exact fin f ex ey (by simp) (by simp) (fun W => run_intCmp hc W) fun _ => rfl
          · rename_i hc
            refine fin f ex ey (by simp) (by simp) (fun W => run_intOp (by simpa using hc) ?_ ⟨?_, ?_⟩ W) fun _ => rfl
            · rintro (e | e)
              · exact absurd e n3
              · exact absurd e n4
            · exact n1
            · exact n2
    · split at f
      · rename_i b1 b2 h1 h2
        obtain ⟨d1, e1⟩ := asBool_spec h1
        obtain ⟨d2, e2⟩ := asBool_spec h2
        have ex := (ev s hx d1).trans (e1 β)
        have ey := (ev s hy d2).trans (e2 β)
        split at f
        · rename_i hu; exact fin f ex ey (by simp) (by simp) (fun W => run_boolEq hu W) fun _ => rfl
        · rename_i hu; exact fin f ex ey (by simp) (by simp) (fun W => run_boolNe hu W) fun _ => rfl
        · exact f.elim
      · split at f
        · rename_i s1 s2 h1 h2
          obtain ⟨d1, e1⟩ := asStr_spec h1
          obtain ⟨d2, e2⟩ := asStr_spec h2
          have ex := (ev s hx d1).trans (e1 β)
          have ey := (ev s hy d2).trans (e2 β)
          split at f
          · rename_i hc
            exact fin f ex ey (by simp) (by simp) (fun W => run_strCmp hc W) fun _ => rfl
          · rename_i hc
            exfalso
            have n1 : asInt (semAlg P K) vx = none := by cases vx <;> simp only [asStr] at h1 <;> first | (cases h1; done) | rfl
            have n2 : asBool (semAlg P K) vx = none := by cases vx <;> simp only [asStr] at h1 <;> first | (cases h1; done) | rfl
            simp only [quietBin, n1, n2, h1, h2] at qq
            exact hc qq
        · split at f
          · -- held against nil
            rename_i r hr
            split at f
            · exact f.elim
            · rename_i hf
              have hb : ∃ b, (∀ β, toV β r = .bool b) ∧ r.defd = true ∧ vx ≠ .undef ∧ vy ≠ .undef ∧ (∀ β, toV β vx ≠ .nilIface ∧ ∀ p, toV β vx ≠ .agg p) ∧
                  ∀ β W, (Go.binOp .eql t (toV β vx) (toV β vy)).run P W = .ok (.bool b) W ∧ (Go.binOp .neq t (toV β vx) (toV β vy)).run P W = .ok (.bool !b) W := by
                unfold fitsB at hf
                split at hf
                · rename_i q hu
                  simp only [Bool.not_eq_true', Bool.not_eq_false] at hf
                  exact nil_spec hr (.inl ⟨_, hu⟩) ⟨fun _ => hf, fun _ => ⟨_, hu⟩⟩
                · rename_i q q' hu
                  simp only [Bool.not_not, Bool.not_eq_true] at hf
                  exact nil_spec hr (.inr ⟨_, _, hu⟩) ⟨(fun ⟨e, he⟩ => by rw [hu] at he; cases he), (fun h => by rw [hf] at h; cases h)⟩
                · simp at hf
              obtain ⟨b, hv, dr, u1, u2, n, hrun⟩ := hb
              split at f
              · exact fin f (ev' s hx u1) (ev' s hy u2) (n β).1 (n β).2 (val := .bool b) (fun W => (hrun β W).1) (fun _ => hv β)
              · rename_i r' hr'
                obtain ⟨b', e1, e2, _, _⟩ := notS_spec hr'
                have : b' = b := by have := (e1 β).symm.trans (hv β); simpa using this
                subst this
                exact fin f (ev' s hx u1) (ev' s hy u2) (n β).1 (n β).2 (val := .bool !b') (fun W => (hrun β W).2) (fun _ => e2 β)
              · exact f.elim
          · exfalso
            unfold quietBin at qq
            split at qq
            · rename_i x1 y1 e1 e2
              obtain ⟨k1, a1⟩ := x1
              obtain ⟨k2, a2⟩ := y1
              exact (‹∀ (k : IntKind) (a : (semAlg P K).At AK.int) (j : IntKind) (b : (semAlg P K).At AK.int), asInt (semAlg P K) vx = some (k, a) → asInt (semAlg P K) vy = some (j, b) → False›) _ _ _ _ e1 e2
            · split at qq
              · rename_i x1 y1 e1 e2
                exact (‹∀ (a b : (semAlg P K).At AK.bool), asBool (semAlg P K) vx = some a → asBool (semAlg P K) vy = some b → False›) _ _ e1 e2
              · split at qq
                · rename_i x1 y1 e1 e2
                  exact (‹∀ (a b : (semAlg P K).At AK.str), asStr (semAlg P K) vx = some a → asStr (semAlg P K) vy = some b → False›) _ _ e1 e2
                · rw [show nilness (semAlg P K) vx vy = none by assumption] at qq; cases qq


theorem yl_convert {dst : Option Tmp} {x : Operand} {t d : TypeId} {ty : TypeId} {pos : String} {after : Array Edge} {gd : Option (Nat × Bool)}
    (f : opCore P (semAlg P K) pr ⟨dst, .convert t d x, ty, pos, after, gd⟩ σ Kt) (q : isQuiet P (semAlg P K) σ (.convert t d x) = true) (s : Sim h0 W0 pr.n β σ a W) (g : Agree pr σ0 σ) :
    Yld V P K pr β σ a Kt ⟨dst, .convert t d x, ty, pos, after, gd⟩ := by
  simp only [opCore] at f
  split at f
  · rename_i j k m n h1 h2 e
    refine yl_put (o := ⟨dst, .convert t d x, ty, pos, after, gd⟩) (val := .int k (k.wrap n)) f s g (fun W vw => (run_v ?_)) fun _ => rfl
    rw [ev' s e (by simp)]; exact run_convInt h1 h2 W
  · rename_i j k m n h1 h2 e
    refine yl_put (o := ⟨dst, .convert t d x, ty, pos, after, gd⟩) (val := .int k (k.wrap n)) f s g (fun W vw => (run_v ?_)) fun _ => rfl
    rw [ev' s e (by simp)]; exact run_convInt h1 h2 W
  · rename_i v h1 h2
    split at f
    · rename_i y hy
      obtain ⟨dd, e⟩ := asStr_spec hy
      refine yl_put (o := ⟨dst, .convert t d x, ty, pos, after, gd⟩) (val := .string y) f s g (fun W vw => (run_v ?_)) fun _ => e β
      rw [opnd_eval s x dd, e]; exact run_convStr h1 h2 W
    · exact f.elim
  · exact f.elim
  · exfalso
    rename_i v1 v2 n3 n4 u1 u2 n1 n2
    simp only [isQuiet] at q
    split at q
    · rename_i k1 k2 k3 z e1 e2 e3; rw [u1] at e1; rw [u2] at e2; exact n1 _ _ _ _ e3 (Option.some.inj e1) (Option.some.inj e2)
    · rename_i k1 k2 k3 z e1 e2 e3; rw [u1] at e1; rw [u2] at e2; exact n2 _ _ _ _ e3 (Option.some.inj e1) (Option.some.inj e2)
    · rename_i e1 e2; rw [u1] at e1; rw [u2] at e2; exact n3 (Option.some.inj e1) (Option.some.inj e2)
    · cases q
  · exact f.elim


theorem sliceS_yl {t e size len cap : Nat} {p : Option Addr} {lo hi mx : Option Int} {lo' hi' mx' : Option Value} {F : SVs → Prop}
    (f : sliceS (semAlg P K) size p len cap lo hi mx F) (hu : P.underlying t = some (.slice e)) (hs : sizeO P e = some size)
    (h1 : (lo' = none ∧ lo = none) ∨ ∃ k n, lo' = some (.int k n) ∧ lo = some n)
    (h2 : (hi' = none ∧ hi = none) ∨ ∃ k n, hi' = some (.int k n) ∧ hi = some n)
    (h3 : (mx' = none ∧ mx = none) ∨ ∃ k n, mx' = some (.int k n) ∧ mx = some n) :
    ∃ v, F v ∧ v.defd = true ∧ v.bps = [] ∧ ∀ W, (Instr.sliceAt t (.slice p len cap) lo' hi' mx').run P W = .ok (toV0 v) W := by
  have key : ∀ l h m : Nat, (∀ W, (Instr.sliceBounds true len cap lo' hi' mx').run P W = .ok (l, h, m) W) →
      ∀ W, (Instr.sliceAt t (.slice p len cap) lo' hi' mx').run P W = .ok (.slice (sliceP p l m size) (h - l) (m - l)) W := by
    intro l h m hb W
    simp only [Instr.sliceAt, run_bind, run_under hu, Instr.slice, hb W, run_size hs]
    rfl
  unfold sliceS at f
  rcases h3 with ⟨rfl, rfl⟩ | ⟨k3, n3, rfl, rfl⟩
  · rcases h2 with ⟨rfl, rfl⟩ | ⟨k2, n2, rfl, rfl⟩
    · rcases h1 with ⟨rfl, rfl⟩ | ⟨k1, n1, rfl, rfl⟩
      · exact ⟨_, f, rfl, rfl, key 0 len cap (fun _ => rfl)⟩
      · exact ⟨_, f.2, rfl, rfl, key n1.toNat len cap (fun W => by simp only [Instr.sliceBounds, run_bind, run_pure, run_bound f.1])⟩
    · rcases h1 with ⟨rfl, rfl⟩ | ⟨k1, n1, rfl, rfl⟩
      · exact ⟨_, f.2, rfl, rfl, key 0 n2.toNat cap (fun W => by simp only [Instr.sliceBounds, run_bind, run_pure, run_bound f.1])⟩
      · exact ⟨_, f.2.2, rfl, rfl, key n1.toNat n2.toNat cap (fun W => by simp only [Instr.sliceBounds, run_bind, run_pure, run_bound f.1, run_bound f.2.1])⟩
  · rcases h2 with ⟨rfl, rfl⟩ | ⟨k2, n2, rfl, rfl⟩
    · exact f.2.elim
    · rcases h1 with ⟨rfl, rfl⟩ | ⟨k1, n1, rfl, rfl⟩
      · exact ⟨_, f.2.2, rfl, rfl, key 0 n2.toNat n3.toNat (fun W => by simp only [Instr.sliceBounds, run_bind, run_pure, run_bound f.1, run_bound f.2.1])⟩
      · exact ⟨_, f.2.2.2, rfl, rfl, key n1.toNat n2.toNat n3.toNat (fun W => by simp only [Instr.sliceBounds, run_bind, run_pure, run_bound f.1, run_bound f.2.1, run_bound f.2.2.1])⟩


theorem yl_slice {dst : Option Tmp} {t : TypeId} {x : Operand} {lo hi mx : Option Operand} {ty : TypeId} {pos : String} {after : Array Edge} {gd : Option (Nat × Bool)}
    (f : opCore P (semAlg P K) pr ⟨dst, .slice t x lo hi mx, ty, pos, after, gd⟩ σ Kt) (s : Sim h0 W0 pr.n β σ a W) (g : Agree pr σ0 σ) :
    Yld V P K pr β σ a Kt ⟨dst, .slice t x lo hi mx, ty, pos, after, gd⟩ := by
  simp only [opCore] at f
  split at f
  · rename_i e l h m hu h1 h2 h3
    split at f
    · rename_i p len cap size hx hs
      obtain ⟨d, ex⟩ := asSlice_spec hx
      obtain ⟨v, f, dv, hb, hr⟩ := sliceS_yl f hu hs (low_eval s h1) (low_eval s h2) (low_eval s h3)
      refine yl_put (o := ⟨dst, .slice t x lo hi mx, ty, pos, after, gd⟩) f s g (fun W vw => (run_v (by rw [opnd_eval s x d, ex]; exact hr W))) fun _ => toV_nobp hb
    · exact f.elim
  · rename_i l h hu h1 h2 h3
    split at f
    · rename_i b hx
      obtain ⟨d, ex⟩ := asStr_spec hx
      have h3' := low_eval s h3
      have hm : mx.map a.eval = none := by
        rcases h3' with ⟨h, _⟩ | ⟨_, _, _, h⟩
        · exact h
        · cases h
      have key : ∀ (l h : Nat) (W : World), (Instr.sliceBounds false (ByteArray.size b) (ByteArray.size b) (lo.map a.eval) (hi.map a.eval) none).run P W = .ok (l, h, ByteArray.size b) W →
          (Instr.sliceAt t (.string b) (lo.map a.eval) (hi.map a.eval) (mx.map a.eval)).run P W = .ok (.string (ByteArray.extract b l h)) W := by
        intro l h W hb
        rw [hm]
        simp only [Instr.sliceAt, run_bind, run_under hu, Instr.slice, Option.isSome_none, Bool.false_eq_true, if_false, hb]
        rfl
      have fin : ∀ {v : SVs} {l h : Nat}, put (semAlg P K) pr dst v σ Kt → (∀ W, (Instr.sliceBounds false (ByteArray.size b) (ByteArray.size b) (lo.map a.eval) (hi.map a.eval) none).run P W = .ok (l, h, ByteArray.size b) W) →
          (v.defd = true → toV β v = .string (ByteArray.extract b l h)) → Yld V P K pr β σ a Kt ⟨dst, .slice t x lo hi mx, ty, pos, after, gd⟩ := by
        intro v l h hp hb hv
        exact yl_put (o := ⟨dst, .slice t x lo hi mx, ty, pos, after, gd⟩) hp s g (fun W vw => (run_v (by rw [opnd_eval s x d, ex]; exact key l h W (hb W)))) hv
      rcases low_eval s h2 with ⟨e2, rfl⟩ | ⟨k2, n2, e2, rfl⟩
      · rcases low_eval s h1 with ⟨e1, rfl⟩ | ⟨k1, n1, e1, rfl⟩
        · exact fin (l := 0) (h := ByteArray.size b) f (fun W => by rw [e1, e2]; rfl) fun _ => rfl
        · exact fin (l := n1.toNat) (h := ByteArray.size b) f.2 (fun W => by rw [e1, e2]; simp only [Instr.sliceBounds, run_bind, run_pure, run_bound f.1]) fun _ => rfl
      · rcases low_eval s h1 with ⟨e1, rfl⟩ | ⟨k1, n1, e1, rfl⟩
        · exact fin (l := 0) (h := n2.toNat) f.2 (fun W => by rw [e1, e2]; simp only [Instr.sliceBounds, run_bind, run_pure, run_bound f.1]) fun _ => rfl
        · exact fin (l := n1.toNat) (h := n2.toNat) f.2.2 (fun W => by rw [e1, e2]; simp only [Instr.sliceBounds, run_bind, run_pure, run_bound f.1, run_bound f.2.1]) fun _ => rfl
    · exact f.elim
  · exact f.elim

theorem yl_call {dst : Option Tmp} {c : Call} {ty : TypeId} {pos : String} {after : Array Edge} {gd : Option (Nat × Bool)}
    (f : opCall P (semAlg P K) pr ⟨dst, .call c, ty, pos, after, gd⟩ c σ Kt) (q : isQuiet P (semAlg P K) σ (.call c) = true) (s : Sim h0 W0 pr.n β σ a W) (g : Agree pr σ0 σ) :
    Yld V P K pr β σ a Kt ⟨dst, .call c, ty, pos, after, gd⟩ := by
  obtain ⟨callee, args, ats⟩ := c
  cases callee with
  | value x => simp [isQuiet] at q
  | invoke r n => simp [isQuiet] at q
  | builtin b =>
    unfold opCall at f
    simp only at f
    simp only [isQuiet] at q
    split at q
    · cases q
    · -- len
      rename_i v hno hbi hv
      simp only [Callee.builtin.injEq] at hbi; subst hbi
      rw [hv] at f
      simp only at f
      have hev : ∀ (d : v.defd = true), args.map a.eval = #[toV β v] := fun d => by
        have := args_eval (P := P) (K := K) (args := args) s (by rw [hv]; simp [SV.defds, d])
        rw [this, hv]; rfl
      split at f
      · rename_i m k e hu
        exact (hno m rfl).elim
      · rename_i e hu
        split at f
        · rename_i p l c' hs
          obtain ⟨d, ev⟩ := asSlice_spec hs
          refine yl_put (o := ⟨dst, .call ⟨.builtin .len, args, ats⟩, ty, pos, after, gd⟩) f s g (fun W vw => run_bi (fun cs => rfl) ?_) fun _ => rfl
          rw [hev d, ev]
          cases h0 : ats[0]? with
          | none => rw [h0] at hu; cases hu
          | some t => rw [h0] at hu; exact run_lenSlice h0 hu W
        · exact f.elim
      · rename_i hu
        split at f
        · rename_i x hs
          obtain ⟨d, ev⟩ := asStr_spec hs
          refine yl_put (o := ⟨dst, .call ⟨.builtin .len, args, ats⟩, ty, pos, after, gd⟩) f s g (fun W vw => run_bi (fun cs => rfl) ?_) fun _ => rfl
          rw [hev d, ev]
          cases h0 : ats[0]? with
          | none => rw [h0] at hu; cases hu
          | some t => rw [h0] at hu; exact run_lenStr h0 hu W
        · exact f.elim
      · exact f.elim
    · -- min
      rename_i x y hbi hv
      simp only [Callee.builtin.injEq] at hbi; subst hbi
      rw [hv] at f
      simp only at f
      split at f
      · rename_i k m j n h1 h2
        split at f
        · rename_i e; simp only [decide_eq_true_eq] at e; subst e
          obtain ⟨d1, e1⟩ := asInt_spec h1
          obtain ⟨d2, e2⟩ := asInt_spec h2
          have hev : args.map a.eval = #[.int k m, .int k n] := by
            have := args_eval (P := P) (K := K) (args := args) s (by rw [hv]; simp [SV.defds, d1, d2])
            rw [this, hv]; simp only [toVs, e1, e2]
          refine yl_put (o := ⟨dst, .call ⟨.builtin .min, args, ats⟩, ty, pos, after, gd⟩) (val := .int k (if n < m then n else m)) f s g (fun W vw => run_bi (fun cs => rfl) ?_) fun _ => ?_
          · rw [hev]; rfl
          · simp only [toV]
            congr 1
            show min m n = _
            by_cases h : n < m
            · rw [if_pos h]; exact Int.min_eq_right (Int.le_of_lt h)
            · rw [if_neg h]; exact Int.min_eq_left (Int.not_lt.mp h)
        · exact f.elim
      · exact f.elim
    · -- max
      rename_i x y hbi hv
      simp only [Callee.builtin.injEq] at hbi; subst hbi
      rw [hv] at f
      simp only at f
      split at f
      · rename_i k m j n h1 h2
        split at f
        · rename_i e; simp only [decide_eq_true_eq] at e; subst e
          obtain ⟨d1, e1⟩ := asInt_spec h1
          obtain ⟨d2, e2⟩ := asInt_spec h2
          have hev : args.map a.eval = #[.int k m, .int k n] := by
            have := args_eval (P := P) (K := K) (args := args) s (by rw [hv]; simp [SV.defds, d1, d2])
            rw [this, hv]; simp only [toVs, e1, e2]
          refine yl_put (o := ⟨dst, .call ⟨.builtin .max, args, ats⟩, ty, pos, after, gd⟩) (val := .int k (if n > m then n else m)) f s g (fun W vw => run_bi (fun cs => rfl) ?_) fun _ => ?_
          · rw [hev]; rfl
          · simp only [toV]
            congr 1
            show max m n = _
            by_cases h : n > m
            · rw [if_pos h]; exact Int.max_eq_right (Int.le_of_lt h)
            · rw [if_neg h]; exact Int.max_eq_left (Int.not_lt.mp h)
        · exact f.elim
      · exact f.elim
    · cases q


theorem opCore_yld {o : Oper} (f : opCore P (semAlg P K) pr o σ Kt) (q : isQuiet P (semAlg P K) σ o.op = true) (hl : isLoad o.op = true → ∀ W, V W → Vw β σ W)
    (s : Sim h0 W0 pr.n β σ a W) (g : Agree pr σ0 σ) : Yld V P K pr β σ a Kt o := by
  obtain ⟨dst, op, ty, pos, after, gd⟩ := o
  cases op with
  | move x => exact yl_move f s g
  | assign x => exact yl_assign f s g
  | pick c x y => exact yl_pick f s g
  | build t ps => exact yl_build f s g
  | load t x => exact let ⟨v, val, h1, h2, h3⟩ := yl_load f s g; ⟨v, val, h1, h2, fun W hW => h3 W (hl rfl W hW)⟩
  | nilCheck x => exact yl_nilCheck f s g
  | binOp op t x y u => exact yl_bin f q s g
  | unOp u t x => exact yl_un f s g
  | convert s' d x => exact yl_convert f q s g
  | makeInterface t x => exact yl_makeInterface f s g
  | makeFunc fn first cap => exact yl_makeFunc f s g
  | slice t x lo hi mx => exact yl_slice f s g
  | fieldAddr st x fi => exact yl_fieldAddr f s g
  | field st x fi => exact yl_field f s g
  | indexAddr t x i => exact yl_indexAddr f s g
  | index t x i => exact yl_index f s g
  | extract x i => exact yl_extract f s g
  | typeAssert x u t ok => exact yl_typeAssert f s g
  | call c => exact yl_call f q s g
  | _ => cases q


end Lf

