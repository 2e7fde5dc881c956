/- The lifter is sound: the operations. -/
import Derived.Test.YtlcebmelfcfkaaaLfSnd2
namespace Lf
open Go
variable {P : Program} {K : Value → H → Prop}
variable {h0 : H} {W0 : World} {pr : Prot} {β : Nat → Nat} {σ σ0 : St semAt} {a : Act} {W : World} {Kt : St semAt → Prop} {Q : Exit → Act → World → Prop}

theorem run_v {s : Sem Value} {x : Value} {W W' : World} (h : s.run P W = .ok x W') : (s >>= fun y => (pure (Next.value y) : Sem Next)).run P W = .ok (.value x) W' := by
  rw [run_bind, h]; rfl

theorem run_u {s : Sem Unit} {W W' : World} (h : s.run P W = .ok () W') : (s >>= fun _ => (pure Next.skip : Sem Next)).run P W = .ok .skip W' := by
  rw [run_bind, h]; rfl

theorem wp_value {o : Oper} {v : Value} {W' : World} {next : Act → World → Prop} (h : (execOp a.eval o).run P W = .ok (.value v) W') (n : next (a.put o.dst v) W') : o.wp P a W next Q := by
  unfold Oper.wp; rw [h]; exact n

theorem wp_skipped {o : Oper} {W' : World} {next : Act → World → Prop} (h : (execOp a.eval o).run P W = .ok .skip W') (n : next (a.put o.dst undef) W') : o.wp P a W next Q := by
  unfold Oper.wp; rw [h]; exact n

/-- An operation that yields a value and leaves the world. -/
theorem wp_put {o : Oper} {v : SVs} {val : Value} (f : put (semAlg P K) pr o.dst v σ Kt) (s : Sim h0 W0 pr.n β σ a W) (g : Agree pr σ0 σ)
    (h : (execOp a.eval o).run P W = .ok (.value val) W) (hv : v.defd = true → toV β v = val) : o.wp P a W (Goes h0 W0 pr σ0 Kt) Q :=
  wp_value h (put_goes f s g hv)

theorem ev {x : Operand} {v : SVs} (s : Sim h0 W0 pr.n β σ a W) (h : opnd (semAlg P K) σ x = v) (d : v.defd = true) : a.eval x = toV β v := by
  rw [← h]; exact opnd_eval s x (by rw [h]; exact d)

theorem asInt_spec {v : SVs} {k : IntKind} {x : Int} (h : asInt (semAlg P K) v = some (k, x)) : v.defd = true ∧ ∀ β, toV β v = .int k x := by
  cases v <;> simp only [asInt] at h <;> first | (cases h; done) | skip
  · simp only [Option.some.injEq, Prod.mk.injEq] at h; obtain ⟨rfl, rfl⟩ := h; exact ⟨rfl, fun _ => rfl⟩
  · simp only [Option.some.injEq, Prod.mk.injEq] at h; obtain ⟨rfl, h2⟩ := h; exact ⟨rfl, fun _ => by simp only [toV]; rw [← h2]⟩

theorem asBool_spec {v : SVs} {x : Bool} (h : asBool (semAlg P K) v = some x) : v.defd = true ∧ ∀ β, toV β v = .bool x := by
  cases v <;> simp only [asBool] at h <;> first | (cases h; done) | skip
  · simp only [Option.some.injEq] at h; subst h; exact ⟨rfl, fun _ => rfl⟩
  · simp only [Option.some.injEq] at h; exact ⟨rfl, fun _ => by simp only [toV]; rw [← h]⟩

theorem asStr_spec {v : SVs} {x : ByteArray} (h : asStr (semAlg P K) v = some x) : v.defd = true ∧ ∀ β, toV β v = .string x := by
  cases v <;> simp only [asStr] at h <;> first | (cases h; done) | skip
  · simp only [Option.some.injEq] at h; subst h; exact ⟨rfl, fun _ => rfl⟩
  · simp only [Option.some.injEq] at h; exact ⟨rfl, fun _ => by simp only [toV]; rw [← h]⟩

theorem asSlice_spec {v : SVs} {p : Option Addr} {l c : Nat} (h : asSlice (semAlg P K) v = some (p, l, c)) : v.defd = true ∧ ∀ β, toV β v = .slice p l c := by
  cases v <;> simp only [asSlice] at h <;> first | (cases h; done) | skip
  · simp only [Option.some.injEq, Prod.mk.injEq] at h; obtain ⟨rfl, rfl, rfl⟩ := h; exact ⟨rfl, fun _ => rfl⟩
  · simp only [Option.some.injEq, Prod.mk.injEq] at h; obtain ⟨rfl, h2, h3⟩ := h; exact ⟨rfl, fun _ => by simp only [toV]; rw [← h2, ← h3]⟩

/-! ### move, pick, extract, unOp -/

theorem op_move {dst : Option Tmp} {x : Operand} {ty : TypeId} {pos : String} {after : Array Edge} {gd : Option (Nat × Bool)}
    (f : put (semAlg P K) pr dst (opnd (semAlg P K) σ x) σ Kt) (s : Sim h0 W0 pr.n β σ a W) (g : Agree pr σ0 σ) :
    (⟨dst, .move x, ty, pos, after, gd⟩ : Oper).wp P a W (Goes h0 W0 pr σ0 Kt) Q :=
  wp_put (val := a.eval x) f s g rfl fun d => (opnd_eval s x d).symm

theorem op_assign {dst : Option Tmp} {x : Operand} {ty : TypeId} {pos : String} {after : Array Edge} {gd : Option (Nat × Bool)}
    (f : put (semAlg P K) pr dst (opnd (semAlg P K) σ x) σ Kt) (s : Sim h0 W0 pr.n β σ a W) (g : Agree pr σ0 σ) :
    (⟨dst, .assign x, ty, pos, after, gd⟩ : Oper).wp P a W (Goes h0 W0 pr σ0 Kt) Q :=
  wp_put (val := a.eval x) f s g rfl fun d => (opnd_eval s x d).symm

theorem run_pick {dst : Option Tmp} {c x y : Operand} {ty : TypeId} {pos : String} {after : Array Edge} {gd : Option (Nat × Bool)} {b : Bool} (h : a.eval c = .bool b) :
    (execOp a.eval ⟨dst, .pick c x y, ty, pos, after, gd⟩).run P W = .ok (.value (if b then a.eval x else a.eval y)) W := by
  simp only [execOp, h, Go.asBool, run_bind, run_pure]

theorem op_pick {dst : Option Tmp} {c x y : Operand} {ty : TypeId} {pos : String} {after : Array Edge} {gd : Option (Nat × Bool)}
    (f : opCore P (semAlg P K) pr ⟨dst, .pick c x y, ty, pos, after, gd⟩ σ Kt) (s : Sim h0 W0 pr.n β σ a W) (g : Agree pr σ0 σ) :
    (⟨dst, .pick c x y, ty, pos, after, gd⟩ : Oper).wp P a W (Goes h0 W0 pr σ0 Kt) Q := by
  simp only [opCore] at f
  split at f
  · rename_i e
    exact wp_put (o := ⟨dst, .pick c x y, ty, pos, after, gd⟩) f s g (run_pick (ev s e rfl)) fun d => (opnd_eval s x d).symm
  · rename_i e
    exact wp_put (o := ⟨dst, .pick c x y, ty, pos, after, gd⟩) f s g (run_pick (ev s e rfl)) fun d => (opnd_eval s y d).symm
  · rename_i b e
    split at f
    · rename_i u v hu hv
      have ⟨d1, e1⟩ := asBool_spec hu
      have ⟨d2, e2⟩ := asBool_spec hv
      refine wp_put (o := ⟨dst, .pick c x y, ty, pos, after, gd⟩) f s g (run_pick (ev s e rfl)) fun d => ?_
      rw [opnd_eval s x d1, opnd_eval s y d2, e1, e2]
      cases b <;> rfl
    · exact f.elim
  · exact f.elim

/-- An operand's value is known throughout, or not at all. -/
theorem opnd_defd (x : Operand) : (opnd (semAlg P K) σ x).defd = true ∨ opnd (semAlg P K) σ x = .undef := by
  have hc : ∀ v : SVs, (chk v).defd = true ∨ chk v = .undef := fun v => by
    unfold chk; split
    · rename_i h; exact .inl h
    · exact .inr rfl
  cases x with
  | tmp t => exact hc _
  | const v => exact hc _
  | global g => exact .inl rfl
  | func f => exact .inl rfl

theorem ev' {x : Operand} {v : SVs} (s : Sim h0 W0 pr.n β σ a W) (h : opnd (semAlg P K) σ x = v) (d : v ≠ .undef) : a.eval x = toV β v := by
  rcases opnd_defd (P := P) (K := K) (σ := σ) x with e | e
  · exact ev s h (h ▸ e)
  · exact absurd (h.symm.trans e) d

theorem defd_of {x : Operand} {v : SVs} (h : opnd (semAlg P K) σ x = v) (d : v ≠ .undef) : v.defd = true := by
  rcases opnd_defd (P := P) (K := K) (σ := σ) x with e | e
  · exact h ▸ e
  · exact absurd (h.symm.trans e) d

theorem op_extract {dst : Option Tmp} {x : Operand} {i : Nat} {ty : TypeId} {pos : String} {after : Array Edge} {gd : Option (Nat × Bool)}
    (f : opCore P (semAlg P K) pr ⟨dst, .extract x i, ty, pos, after, gd⟩ σ Kt) (s : Sim h0 W0 pr.n β σ a W) (g : Agree pr σ0 σ) :
    (⟨dst, .extract x i, ty, pos, after, gd⟩ : Oper).wp P a W (Goes h0 W0 pr σ0 Kt) Q := by
  simp only [opCore] at f
  split at f
  · rename_i vs e
    split at f
    · rename_i v hv
      have hev := ev' s e (by simp)
      refine wp_put (o := ⟨dst, .extract x i, ty, pos, after, gd⟩) (val := toV β v) f s g ?_ fun _ => rfl
      refine run_v ?_
      rw [hev]
      have : ((toVs β vs).toArray)[i]? = some (toV β v) := by
        rw [List.getElem?_toArray, toVs_get?, hv]; rfl
      simp only [Instr.extract, toV, this]; rfl
    · exact f.elim
  · exact f.elim

theorem notS_spec {v r : SVs} (h : notS (semAlg P K) v = some r) : ∃ b, (∀ β, toV β v = .bool b) ∧ (∀ β, toV β r = .bool !b) ∧ v ≠ .undef ∧ r.defd = true := by
  cases v <;> simp only [notS] at h <;> first | (cases h; done) | skip
  all_goals
    simp only [Option.some.injEq] at h; subst h
    exact ⟨_, fun _ => rfl, fun _ => rfl, by simp, rfl⟩

theorem op_un {dst : Option Tmp} {x : Operand} {u : UnOp} {t : TypeId} {ty : TypeId} {pos : String} {after : Array Edge} {gd : Option (Nat × Bool)}
    (f : opCore P (semAlg P K) pr ⟨dst, .unOp u t x, ty, pos, after, gd⟩ σ Kt) (s : Sim h0 W0 pr.n β σ a W) (g : Agree pr σ0 σ) :
    (⟨dst, .unOp u t x, ty, pos, after, gd⟩ : Oper).wp P a W (Goes h0 W0 pr σ0 Kt) Q := by
  simp only [opCore] at f
  split at f
  · rename_i v hv
    split at f
    · rename_i r hr
      obtain ⟨b, e1, e2, d, _⟩ := notS_spec hr
      refine wp_put (o := ⟨dst, .unOp _ t x, ty, pos, after, gd⟩) f s g (val := .bool !b) (run_v ?_) fun _ => e2 β
      rw [ev' s rfl d, e1]; rfl
    · exact f.elim
  · rename_i v hv
    split at f
    · rename_i k n hn
      obtain ⟨d, e⟩ := asInt_spec hn
      refine wp_put (o := ⟨dst, .unOp _ t x, ty, pos, after, gd⟩) f s g (val := .int k (k.wrap (0 - n))) (run_v ?_) fun _ => rfl
      rw [opnd_eval s x d, e]; rfl
    · exact f.elim
  · exact f.elim

/-! ### binOp -/

theorem run_eqGuard {op : BinOp} {t : TypeId} {x y : Operand} {u v : Value} (h1 : ¬ (u = .nilIface ∧ v = .nilIface)) (h2 : ∀ p q, ¬ (u = .agg p ∧ v = .agg q)) (W : World) :
    (eqGuard op t x y u v).run P W = .ok () W := by
  cases op <;> first | rfl | (cases u <;> cases v <;> first | rfl | (exact absurd ⟨rfl, rfl⟩ h1) | (exact absurd ⟨rfl, rfl⟩ (h2 _ _)))

theorem run_eqGuard_agg {op : BinOp} {t : TypeId} {x y : Operand} {p q : Array Value} (hg : P.eqGuardType P.depth t = false) (W : World) :
    (eqGuard op t x y (.agg p) (.agg q)).run P W = .ok () W := by
  have key : ∀ W, (do if !(← Go.program).eqGuardType (← Go.program).depth t then return
                      if ← Op.eqGuardIn Op.maxDepth t (.agg p) (.agg q) then unsupported (.noEntry "binop/eql: two nil values of an interface type with methods, in a part of a struct or an array") : Sem Unit).run P W = .ok () W := by
    intro W
    have hp : ∀ W : World, Go.program.run P W = .ok P W := fun _ => rfl
    simp only [run_bind, hp, hg, Bool.not_false, if_true]
    rfl
  cases op <;> first | rfl | exact key W

theorem run_bin {dst : Option Tmp} {op : BinOp} {t u : TypeId} {x y : Operand} {ty : TypeId} {pos : String} {after : Array Edge} {gd : Option (Nat × Bool)} {val : Value}
    (h1 : ¬ (a.eval x = .nilIface ∧ a.eval y = .nilIface)) (h2 : ∀ p q, ¬ (a.eval x = .agg p ∧ a.eval y = .agg q)) (h : (Go.binOp op t (a.eval x) (a.eval y)).run P W = .ok val W) :
    (execOp a.eval ⟨dst, .binOp op t x y u, ty, pos, after, gd⟩).run P W = .ok (.value val) W := by
  refine run_v ?_
  rw [run_bind, run_eqGuard h1 h2]; exact h

theorem run_intCmp {op : BinOp} {k : IntKind} {a b : Int} {t : TypeId} (h : isCmp op = true) (W : World) : (Go.binOp op t (.int k a) (.int k b)).run P W = .ok (.bool (icmpS op a b)) W := by
  cases op <;> simp only [isCmp] at h <;> first | (cases h; done) | skip
  all_goals simp only [Go.binOp, ne_eq, not_true_eq_false, if_false, Op.intCmp, run_pure, icmpS]
  all_goals rfl

theorem cmpS_eq (op : BinOp) (a b : Int) : cmpS op a b = icmpS op a b := by cases op <;> rfl

theorem run_intOp {op : BinOp} {k : IntKind} {a b : Int} {t : TypeId} (h : isCmp op = false) (hq : (op = .quo ∨ op = .rem) → b ≠ 0) (hs : op ≠ .shl ∧ op ≠ .shr) (W : World) :
    (Go.binOp op t (.int k a) (.int k b)).run P W = .ok (.int k (iopS op k a b)) W := by
  cases op <;> simp only [isCmp] at h <;> first | (cases h; done) | skip
  all_goals first
    | rfl
    | (exact absurd rfl hs.1) | (exact absurd rfl hs.2)
    | (simp only [Go.binOp, ne_eq, not_true_eq_false, if_false, Op.intArith, run_pure, iopS]; done)
    | (simp only [Go.binOp, ne_eq, not_true_eq_false, if_false, Op.intBits, run_pure, iopS, iopF]; done)
    | (simp only [Go.binOp, ne_eq, not_true_eq_false, if_false, Op.intDiv, hq (by simp), run_pure, iopS]; done)

theorem run_shift {op : BinOp} {k j : IntKind} {a b : Int} {t : TypeId} (h : op = .shl ∨ op = .shr) (hb : 0 ≤ b) (W : World) :
    (Go.binOp op t (.int k a) (.int j b)).run P W = .ok (.int k (iopS op k a b)) W := by
  have : ¬ b < 0 := by omega
  rcases h with rfl | rfl <;> simp only [Go.binOp, Op.shift, this, if_false, run_pure, iopS, iopF]

theorem run_strCmp {op : BinOp} {a b : ByteArray} {t : TypeId} (h : isCmp op = true) (W : World) : (Go.binOp op t (.string a) (.string b)).run P W = .ok (.bool (scmpF op a b)) W := by
  cases op <;> simp only [isCmp] at h <;> first | (cases h; done) | rfl

theorem equal_unf {t : TypeId} {d : TypeDesc} (_ : P.underlying t = some d) (x y : Value) (W : World) :
    (Op.equal t x y).run P W = (Op.equalIn (9999 + 1) t x y).run P W := rfl

theorem run_eq_bool {t : TypeId} (h : P.underlying t = some .bool) (x y : Bool) (W : World) : (Op.equal t (.bool x) (.bool y)).run P W = .ok (x == y) W := by
  rw [equal_unf h, Op.equalIn.eq_2, run_bind, run_under h]; rfl

theorem run_eq_ptr1 {t e : TypeId} (h : P.underlying t = some (.pointer e)) (q : Option Addr) (W : World) : (Op.equal t (.pointer none) (.pointer q)).run P W = .ok q.isNone W := by
  rw [equal_unf h, Op.equalIn.eq_2, run_bind, run_under h]; rfl

theorem run_eq_ptr2 {t e : TypeId} (h : P.underlying t = some (.pointer e)) (q : Option Addr) (W : World) : (Op.equal t (.pointer q) (.pointer none)).run P W = .ok q.isNone W := by
  rw [equal_unf h, Op.equalIn.eq_2, run_bind, run_under h]; cases q <;> rfl

theorem run_eq_map1 {t k e : TypeId} (h : P.underlying t = some (.map k e)) (q : Option Nat) (W : World) : (Op.equal t (.map none) (.map q)).run P W = .ok q.isNone W := by
  rw [equal_unf h, Op.equalIn.eq_2, run_bind, run_under h]; rfl

theorem run_eq_map2 {t k e : TypeId} (h : P.underlying t = some (.map k e)) (q : Option Nat) (W : World) : (Op.equal t (.map q) (.map none)).run P W = .ok q.isNone W := by
  rw [equal_unf h, Op.equalIn.eq_2, run_bind, run_under h]; cases q <;> rfl

theorem two {t : TypeId} {p q : Option Addr} {b : Bool} {W : World} (h : (Op.equal t (.pointer p) (.pointer q)).run P W = .ok b W) :
    (Go.binOp .eql t (.pointer p) (.pointer q)).run P W = .ok (.bool b) W ∧ (Go.binOp .neq t (.pointer p) (.pointer q)).run P W = .ok (.bool !b) W :=
  ⟨by show (Op.equal t (.pointer p) (.pointer q) >>= fun b => (pure (.bool b) : Sem Value)).run P W = _
      rw [run_bind, h]; rfl,
   by show (Op.equal t (.pointer p) (.pointer q) >>= fun b => (pure (.bool !b) : Sem Value)).run P W = _
      rw [run_bind, h]; rfl⟩

theorem twoM {t : TypeId} {p q : Option Nat} {b : Bool} {W : World} (h : (Op.equal t (.map p) (.map q)).run P W = .ok b W) :
    (Go.binOp .eql t (.map p) (.map q)).run P W = .ok (.bool b) W ∧ (Go.binOp .neq t (.map p) (.map q)).run P W = .ok (.bool !b) W :=
  ⟨by show (Op.equal t (.map p) (.map q) >>= fun b => (pure (.bool b) : Sem Value)).run P W = _
      rw [run_bind, h]; rfl,
   by show (Op.equal t (.map p) (.map q) >>= fun b => (pure (.bool !b) : Sem Value)).run P W = _
      rw [run_bind, h]; rfl⟩

/-- What is held against nil, by its type. -/
theorem nil_spec {vx vy r : SVs} {t : TypeId} (h : nilness (semAlg P K) vx vy = some r) (hu : (∃ e, P.underlying t = some (.pointer e)) ∨ (∃ k e, P.underlying t = some (.map k e)))
    (fits : (∃ e, P.underlying t = some (.pointer e)) ↔ ptrS vx = true) :
    ∃ b, (∀ β, toV β r = .bool b) ∧ r.defd = true ∧ vx ≠ .undef ∧ vy ≠ .undef ∧ (∀ β, toV β vx ≠ .nilIface ∧ ∀ p, toV β vx ≠ .agg p) ∧
      ∀ β W, (Go.binOp .eql t (toV β vx) (toV β vy)).run P W = .ok (.bool b) W ∧ (Go.binOp .neq t (toV β vx) (toV β vy)).run P W = .ok (.bool !b) W := by
  unfold nilness at h
  split at h <;> first | (cases h; done) | skip
  all_goals simp only [Option.some.injEq] at h
  all_goals subst h
  all_goals simp only [ptrS, iff_true, Bool.false_eq_true, iff_false] at fits
  all_goals first
    | (obtain ⟨e, he⟩ := fits)
    | (obtain ⟨k, e, he⟩ := hu.resolve_left fits)
  all_goals refine ⟨_, fun _ => rfl, rfl, by simp, by simp, fun _ => ⟨by simp [toV], by simp [toV]⟩, fun β W => ?_⟩
  all_goals simp only [toV]
  all_goals first
    | exact two (run_eq_ptr1 he _ W) | exact two (run_eq_ptr2 he _ W) | exact twoM (run_eq_map1 he _ W) | exact twoM (run_eq_map2 he _ W)

theorem run_boolEq {a b : Bool} {t : TypeId} (h : P.underlying t = some .bool) (W : World) : (Go.binOp .eql t (.bool a) (.bool b)).run P W = .ok (.bool (a == b)) W := by
  simp only [Go.binOp, run_bind]
  rw [run_eq_bool h]; rfl

theorem run_boolNe {a b : Bool} {t : TypeId} (h : P.underlying t = some .bool) (W : World) : (Go.binOp .neq t (.bool a) (.bool b)).run P W = .ok (.bool (!(a == b))) W := by
  simp only [Go.binOp, run_bind]
  rw [run_eq_bool h]; rfl

theorem xop_goes {o : Oper} {y : X SVs} {run : Sem Value} (f : xop P (semAlg P K) pr o.dst o.type y σ Kt) (s : Sim h0 W0 pr.n β σ a W) (g : Agree pr σ0 σ)
    (hr : run = X.sem (y.map toV0)) (h : ∀ val W', run.run P W = .ok val W' → (execOp a.eval o).run P W = .ok (.value val) W') : o.wp P a W (Goes h0 W0 pr σ0 Kt) Q := by
  simp only [xop] at f
  obtain ⟨val, W', h', e, s', fr, k⟩ := f W s.sub
  have st := s.step s' fr
  subst hr
  refine wp_value (h val W' e) ?_
  cases hd : o.dst with
  | none =>
    rw [hd] at k
    exact ⟨_, β, st, ⟨g.slots, g.boxes⟩, k⟩
  | some d =>
    rw [hd] at k
    obtain ⟨v, b, _, hv, k⟩ := exs_elim _ _ k
    exact put_goes k st ⟨g.slots, g.boxes⟩ fun _ => by rw [toV_nobp b]; exact hv.symm

theorem noBps_spec {l : List SVs} (h : noBps (semAlg P K) l = true) : SV.bpss l = [] ∧ SV.defds l = true := by
  simp only [noBps, Bool.and_eq_true, List.isEmpty_iff] at h; exact h

theorem plain_toV {v : SVs} (h : plainS v = true) : v.bps = [] ∧ v.defd = true ∧ toV β v ≠ .nilIface ∧ ∀ p, toV β v ≠ .agg p := by
  cases v <;> simp only [plainS] at h <;> first | (cases h; done) | exact ⟨rfl, rfl, by simp [toV], by simp [toV]⟩

theorem ev0 {x : Operand} {v : SVs} (s : Sim h0 W0 pr.n β σ a W) (h : opnd (semAlg P K) σ x = v) (d : v.defd = true) (b : v.bps = []) : a.eval x = toV0 v := by
  rw [ev s h d, toV_nobp b]

theorem op_bin {dst : Option Tmp} {x y : Operand} {op : BinOp} {t u : TypeId} {ty : TypeId} {pos : String} {after : Array Edge} {gd : Option (Nat × Bool)}
    (f : opBin P (semAlg P K) pr ⟨dst, .binOp op t x y u, ty, pos, after, gd⟩ op t (opnd (semAlg P K) σ x) (opnd (semAlg P K) σ y) σ Kt) (s : Sim h0 W0 pr.n β σ a W) (g : Agree pr σ0 σ) :
    (⟨dst, .binOp op t x y u, ty, pos, after, gd⟩ : Oper).wp P a W (Goes h0 W0 pr σ0 Kt) Q := by
  generalize hx : opnd (semAlg P K) σ x = vx at f
  generalize hy : opnd (semAlg P K) σ y = vy at f
  have fin : ∀ {r : SVs} {val ux uy : Value}, put (semAlg P K) pr dst r σ Kt → a.eval x = ux → a.eval y = uy → ux ≠ .nilIface → (∀ p, ux ≠ .agg p) →
      (Go.binOp op t ux uy).run P W = .ok val W → (r.defd = true → toV β r = val) → (⟨dst, .binOp op t x y u, ty, pos, after, gd⟩ : Oper).wp P a W (Goes h0 W0 pr σ0 Kt) Q := by
    intro r val ux uy hp e1 e2 n1 n2 hr hv
    refine wp_put (o := ⟨dst, .binOp op t x y u, ty, pos, after, gd⟩) hp s g (run_bin ?_ ?_ (by rw [e1, e2]; exact hr)) hv
    · rw [e1]; exact fun h => n1 h.1
    · rw [e1]; exact fun p q h => n2 p h.1
  unfold opBin at f
  split at f
  · -- two numbers that are known
    rename_i k m j n
    split at f
    · rename_i hc
      simp only [Bool.and_eq_true, decide_eq_true_eq] at hc
      obtain ⟨h1, rfl⟩ := hc
      exact fin f (ev s hx rfl) (ev s hy rfl) (by simp [toV]) (by simp [toV]) (run_intCmp h1 W) fun _ => by simp only [toV, cmpS_eq]
    · exact f.elim
  · split at f
    · -- two numbers
      rename_i k m j n hm hn
      obtain ⟨d1, e1⟩ := asInt_spec hm
      obtain ⟨d2, e2⟩ := asInt_spec hn
      have ex := (ev s hx d1).trans (e1 β)
      have ey := (ev s hy d2).trans (e2 β)
      split at f
      · split at f
        · rename_i k' q _hh
          split at f
          · exact f.elim
          · rename_i hq
            have hq' : 0 ≤ n := by
              have : n = q := (by simpa [asInt] using hn.symm : _ ∧ n = q).2
              simp only [decide_eq_true_eq] at hq; rw [this]; exact Int.not_lt.mp hq
            exact fin f ex ey (by simp) (by simp) (run_shift (.inl rfl) hq' W) fun _ => rfl
        · exact fin f.2 ex ey (by simp) (by simp) (run_shift (.inl rfl) (by simpa [icmpS] using f.1) W) fun _ => rfl
      · split at f
        · rename_i k' q _hh
          split at f
          · exact f.elim
          · rename_i hq
            have hq' : 0 ≤ n := by
              have : n = q := (by simpa [asInt] using hn.symm : _ ∧ n = q).2
              simp only [decide_eq_true_eq] at hq; rw [this]; exact Int.not_lt.mp hq
            exact fin f ex ey (by simp) (by simp) (run_shift (.inr rfl) hq' W) fun _ => rfl
        · exact fin f.2 ex ey (by simp) (by simp) (run_shift (.inr rfl) (by simpa [icmpS] using f.1) W) fun _ => rfl
      · split at f
        · exact f.elim
        · rename_i hkj
          simp only [Bool.not_eq_true', decide_eq_false_iff_not, Decidable.not_not] at hkj
          subst hkj
          split at f
          · rename_i k' q _hh
            split at f
            · exact f.elim
            · rename_i hq
              have hq' : n ≠ 0 := by
                have : n = q := (by simpa [asInt] using hn.symm : _ ∧ n = q).2
                simp only [decide_eq_true_eq] at hq; rw [this]; exact hq
              exact fin f ex ey (by simp) (by simp) (run_intOp rfl (fun _ => hq') ⟨by simp, by simp⟩ W) fun _ => rfl
          · exact fin f.2 ex ey (by simp) (by simp) (run_intOp rfl (fun _ => by simpa [icmpS] using f.1) ⟨by simp, by simp⟩ W) fun _ => rfl
      · split at f
        · exact f.elim
        · rename_i hkj
          simp only [Bool.not_eq_true', decide_eq_false_iff_not, Decidable.not_not] at hkj
          subst hkj
          split at f
          · rename_i k' q _hh
            split at f
            · exact f.elim
            · rename_i hq
              have hq' : n ≠ 0 := by
                have : n = q := (by simpa [asInt] using hn.symm : _ ∧ n = q).2
                simp only [decide_eq_true_eq] at hq; rw [this]; exact hq
              exact fin f ex ey (by simp) (by simp) (run_intOp rfl (fun _ => hq') ⟨by simp, by simp⟩ W) fun _ => rfl
          · exact fin f.2 ex ey (by simp) (by simp) (run_intOp rfl (fun _ => by simpa [icmpS] using f.1) ⟨by simp, by simp⟩ W) fun _ => rfl
      · rename_i n1 n2 n3 n4
        split at f
        · exact f.elim
        · rename_i hkj
          simp only [Bool.not_eq_true', decide_eq_false_iff_not, Decidable.not_not] at hkj
          subst hkj
          split at f
          · rename_i hc
            exact fin f ex ey (by simp) (by simp) (run_intCmp hc W) fun _ => rfl
          · rename_i hc
            refine fin f ex ey (by simp) (by simp) (run_intOp (by simpa using hc) ?_ ⟨?_, ?_⟩ W) fun _ => rfl
            · rintro (e | e)
              · exact absurd e n3
              · exact absurd e n4
            · exact n1
            · exact n2
    · split at f
      · rename_i b1 b2 h1 h2
        obtain ⟨d1, e1⟩ := asBool_spec h1
        obtain ⟨d2, e2⟩ := asBool_spec h2
        have ex := (ev s hx d1).trans (e1 β)
        have ey := (ev s hy d2).trans (e2 β)
        split at f
        · rename_i hu; exact fin f ex ey (by simp) (by simp) (run_boolEq hu W) fun _ => rfl
        · rename_i hu; exact fin f ex ey (by simp) (by simp) (run_boolNe hu W) fun _ => rfl
        · exact f.elim
      · split at f
        · rename_i s1 s2 h1 h2
          obtain ⟨d1, e1⟩ := asStr_spec h1
          obtain ⟨d2, e2⟩ := asStr_spec h2
          have ex := (ev s hx d1).trans (e1 β)
          have ey := (ev s hy d2).trans (e2 β)
          split at f
          · rename_i hc
            exact fin f ex ey (by simp) (by simp) (run_strCmp hc W) fun _ => rfl
          · refine xop_goes (o := ⟨dst, .binOp op t x y u, ty, pos, after, gd⟩) f s g rfl fun val W' hr => ?_
            refine run_v ?_
            rw [run_bind, run_eqGuard (by rw [ex]; simp) (by rw [ex]; simp)]
            rw [ex, ey]
            have : X.sem ((X.binOp op t vx vy).map toV0) = Go.binOp op t (.string s1) (.string s2) := by
              simp only [X.map, X.sem, toV0, e1, e2]
            rw [this] at hr; exact hr
        · split at f
          · -- held against nil
            rename_i r hr
            split at f
            · exact f.elim
            · rename_i hf
              have hb : ∃ b, (∀ β, toV β r = .bool b) ∧ r.defd = true ∧ vx ≠ .undef ∧ vy ≠ .undef ∧ (∀ β, toV β vx ≠ .nilIface ∧ ∀ p, toV β vx ≠ .agg p) ∧
                  ∀ β W, (Go.binOp .eql t (toV β vx) (toV β vy)).run P W = .ok (.bool b) W ∧ (Go.binOp .neq t (toV β vx) (toV β vy)).run P W = .ok (.bool !b) W := by
                unfold fitsB at hf
                split at hf
                · rename_i q hu
                  simp only [Bool.not_eq_true', Bool.not_eq_false] at hf
                  exact nil_spec hr (.inl ⟨_, hu⟩) ⟨fun _ => hf, fun _ => ⟨_, hu⟩⟩
                · rename_i q q' hu
                  simp only [Bool.not_not, Bool.not_eq_true] at hf
                  exact nil_spec hr (.inr ⟨_, _, hu⟩) ⟨(fun ⟨e, he⟩ => by rw [hu] at he; cases he), (fun h => by rw [hf] at h; cases h)⟩
                · simp at hf
              obtain ⟨b, hv, dr, u1, u2, n, hrun⟩ := hb
              split at f
              · exact fin f (ev' s hx u1) (ev' s hy u2) (n β).1 (n β).2 (val := .bool b) (hrun β W).1 (fun _ => hv β)
              · rename_i r' hr'
                obtain ⟨b', e1, e2, _, _⟩ := notS_spec hr'
                have : b' = b := by have := (e1 β).symm.trans (hv β); simpa using this
                subst this
                exact fin f (ev' s hx u1) (ev' s hy u2) (n β).1 (n β).2 (val := .bool !b') (hrun β W).2 (fun _ => e2 β)
              · exact f.elim
          · -- by its own semantics
            have done : ∀ (h : plainS vx = true ∧ plainS vy = true), xop P (semAlg P K) pr dst ty (.binOp op t vx vy) σ Kt →
                (⟨dst, .binOp op t x y u, ty, pos, after, gd⟩ : Oper).wp P a W (Goes h0 W0 pr σ0 Kt) Q := by
              rintro ⟨h1, h2⟩ hp
              obtain ⟨b1, d1, n1, g1⟩ := plain_toV (β := β) h1
              obtain ⟨b2, d2, n2, g2⟩ := plain_toV (β := β) h2
              refine xop_goes (o := ⟨dst, .binOp op t x y u, ty, pos, after, gd⟩) hp s g rfl fun val W' hr => ?_
              refine run_v ?_
              rw [run_bind, run_eqGuard (by rw [ev s hx d1]; exact fun h => n1 h.1) (by rw [ev s hx d1]; exact fun p q h => g1 p h.1), ev s hx d1, ev s hy d2, toV_nobp b1, toV_nobp b2]
              exact hr
            have doneA : ∀ (h : (noBps (semAlg P K) [vx, vy] && bothAgg vx vy && !P.eqGuardType P.depth t) = true), xop P (semAlg P K) pr dst ty (.binOp op t vx vy) σ Kt →
                (⟨dst, .binOp op t x y u, ty, pos, after, gd⟩ : Oper).wp P a W (Goes h0 W0 pr σ0 Kt) Q := by
              intro h hp
              simp only [Bool.and_eq_true, Bool.not_eq_true'] at h
              obtain ⟨⟨h1, h2⟩, h3⟩ := h
              obtain ⟨b, d⟩ := noBps_spec h1
              simp only [SV.bpss, List.append_eq_nil_iff, List.append_nil] at b
              simp only [SV.defds, Bool.and_eq_true, and_true] at d
              have hag : ∃ p q, toV0 vx = .agg p ∧ toV0 vy = .agg q := by
                cases vx <;> cases vy <;> first | (cases h2; done) | exact ⟨_, _, rfl, rfl⟩
              obtain ⟨p, q, ep, eq⟩ := hag
              refine xop_goes (o := ⟨dst, .binOp op t x y u, ty, pos, after, gd⟩) hp s g rfl fun val W' hr => ?_
              refine run_v ?_
              rw [ev0 s hx d.1 b.1, ev0 s hy d.2 b.2, run_bind, ep, eq, run_eqGuard_agg h3]
              simp only [X.map, X.sem, ep, eq] at hr
              exact hr
            split at f <;> first
              | exact f.elim
              | (split at f
                 · rename_i h; first | exact doneA h f | (simp only [Bool.and_eq_true] at h; exact done h f)
                 · exact f.elim)
end Lf

