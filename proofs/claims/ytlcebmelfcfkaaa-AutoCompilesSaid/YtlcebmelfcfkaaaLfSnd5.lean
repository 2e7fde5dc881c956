/- The lifter is sound: the other operations, and all of them. -/
import Derived.Test.YtlcebmelfcfkaaaLfSnd4
namespace Lf
open Go
variable {P : Program} {K : Value → H → Prop}
variable {h0 : H} {W0 : World} {pr : Prot} {β : Nat → Nat} {σ σ0 : St semAt} {a : Act} {W : World} {Kt : St semAt → Prop} {Q : Exit → Act → World → Prop}

def nilOk : Value → Bool
  | .pointer none | .nilIface | .nilFunc | .func (.method _) _ _ => false
  | _ => true

theorem run_nilOk {v : Value} (h : nilOk v = true) (W : World) : (execOp (fun _ => v) ⟨none, .nilCheck (.tmp 0), 0, "", #[], none⟩).run P W = .ok (.value v) W := by
  cases v with
  | pointer p => cases p <;> first | (cases h; done) | rfl
  | func fn _ _ => cases fn <;> first | (cases h; done) | rfl
  | nilIface => cases h
  | nilFunc => cases h
  | _ => rfl

theorem op_nilCheck {dst : Option Tmp} {x : Operand} {ty : TypeId} {pos : String} {after : Array Edge} {gd : Option (Nat × Bool)}
    (f : opCore P (semAlg P K) pr ⟨dst, .nilCheck x, ty, pos, after, gd⟩ σ Kt) (s : Sim h0 W0 pr.n β σ a W) (g : Agree pr σ0 σ) :
    (⟨dst, .nilCheck x, ty, pos, after, gd⟩ : Oper).wp P a W (Goes h0 W0 pr σ0 Kt) Q := by
  have fin : ∀ {v : SVs} {val : Value}, put (semAlg P K) pr dst v σ Kt → a.eval x = val → (v.defd = true → toV β v = val) →
      nilOk val = true →
      (⟨dst, .nilCheck x, ty, pos, after, gd⟩ : Oper).wp P a W (Goes h0 W0 pr σ0 Kt) Q := by
    intro v val hp he hv hm
    refine wp_put (o := ⟨dst, .nilCheck x, ty, pos, after, gd⟩) (val := val) hp s g ?_ hv
    simp only [execOp, he]
    exact run_nilOk hm W
  simp only [opCore] at f
  split at f
  · rename_i i off e; exact fin f (ev' s e (by simp)) (fun _ => rfl) rfl
  · rename_i ad off e; exact fin f (ev' s e (by simp)) (fun _ => rfl) rfl
  · rename_i p e
    obtain ⟨ad, h, f⟩ := f
    have h' : p = some ad := h
    subst h'
    exact fin f (val := .pointer (some ad)) (ev' s e (by simp)) (fun _ => by simp only [toV, Addr_add_zero]) rfl
  · rename_i fn first cap e; exact fin f (ev' s e (by simp)) (fun _ => rfl) rfl
  · rename_i t v e; exact fin f (ev' s e (by simp)) (fun _ => rfl) rfl
  · exact f.elim

theorem run_convInt {s d : TypeId} {j k : IntKind} {n : Int} {m : IntKind} (h1 : P.underlying s = some (.int j)) (h2 : P.underlying d = some (.int k)) (W : World) :
    (Go.convert s d (.int m n)).run P W = .ok (.int k (k.wrap n)) W := by
  simp only [Go.convert, run_bind, run_under h1, run_under h2]; rfl

theorem run_convStr {s d : TypeId} {x : ByteArray} (h1 : P.underlying s = some .string) (h2 : P.underlying d = some .string) (W : World) :
    (Go.convert s d (.string x)).run P W = .ok (.string x) W := by
  simp only [Go.convert, run_bind, run_under h1, run_under h2]; rfl

theorem op_convert {dst : Option Tmp} {x : Operand} {t d : TypeId} {ty : TypeId} {pos : String} {after : Array Edge} {gd : Option (Nat × Bool)}
    (f : opCore P (semAlg P K) pr ⟨dst, .convert t d x, ty, pos, after, gd⟩ σ Kt) (s : Sim h0 W0 pr.n β σ a W) (g : Agree pr σ0 σ) :
    (⟨dst, .convert t d x, ty, pos, after, gd⟩ : Oper).wp P a W (Goes h0 W0 pr σ0 Kt) Q := by
  simp only [opCore] at f
  split at f
  · rename_i j k m n h1 h2 e
    refine wp_put (o := ⟨dst, .convert t d x, ty, pos, after, gd⟩) (val := .int k (k.wrap n)) f s g (run_v ?_) fun _ => rfl
    rw [ev' s e (by simp)]; exact run_convInt h1 h2 W
  · rename_i j k m n h1 h2 e
    refine wp_put (o := ⟨dst, .convert t d x, ty, pos, after, gd⟩) (val := .int k (k.wrap n)) f s g (run_v ?_) fun _ => rfl
    rw [ev' s e (by simp)]; exact run_convInt h1 h2 W
  · rename_i v h1 h2
    split at f
    · rename_i y hy
      obtain ⟨dd, e⟩ := asStr_spec hy
      refine wp_put (o := ⟨dst, .convert t d x, ty, pos, after, gd⟩) (val := .string y) f s g (run_v ?_) fun _ => e β
      rw [opnd_eval s x dd, e]; exact run_convStr h1 h2 W
    · exact f.elim
  · exact f.elim
  · split at f
    · rename_i h
      obtain ⟨hb, hd⟩ := noBps_spec h
      have hd' : (opnd (semAlg P K) σ x).defd = true := by simpa [SV.defds] using hd
      have hb' : (opnd (semAlg P K) σ x).bps = [] := by simpa [SV.bpss] using hb
      refine xop_goes (o := ⟨dst, .convert t d x, ty, pos, after, gd⟩) f s g rfl fun val W' hr => run_v ?_
      rw [opnd_eval s x hd', toV_nobp hb']; exact hr
    · exact f.elim
  · exact f.elim

theorem op_makeInterface {dst : Option Tmp} {x : Operand} {t : TypeId} {ty : TypeId} {pos : String} {after : Array Edge} {gd : Option (Nat × Bool)}
    (f : opCore P (semAlg P K) pr ⟨dst, .makeInterface t x, ty, pos, after, gd⟩ σ Kt) (s : Sim h0 W0 pr.n β σ a W) (g : Agree pr σ0 σ) :
    (⟨dst, .makeInterface t x, ty, pos, after, gd⟩ : Oper).wp P a W (Goes h0 W0 pr σ0 Kt) Q := by
  simp only [opCore] at f
  split at f
  · exact f.elim
  · rename_i d hd hu
    refine wp_put (o := ⟨dst, .makeInterface t x, ty, pos, after, gd⟩) (val := .iface t (a.eval x)) f s g (run_v ?_) fun dd => ?_
    · simp only [Instr.makeInterface, run_bind, run_under hu]
      rfl
    · simp only [SV.defd] at dd
      simp only [toV]; rw [opnd_eval s x dd]
  · exact f.elim

theorem list_eval {l : List Operand} (s : Sim h0 W0 pr.n β σ a W) (hd : SV.defds (l.map (opnd (semAlg P K) σ)) = true) : l.map a.eval = toVs β (l.map (opnd (semAlg P K) σ)) := by
  induction l with
  | nil => rfl
  | cons x l ih =>
    simp only [List.map_cons, SV.defds, Bool.and_eq_true] at hd
    simp only [List.map_cons, toVs, ih hd.2, opnd_eval s x hd.1]

theorem op_makeFunc {dst : Option Tmp} {fn : Fn} {first cap : Array Operand} {ty : TypeId} {pos : String} {after : Array Edge} {gd : Option (Nat × Bool)}
    (f : opCore P (semAlg P K) pr ⟨dst, .makeFunc fn first cap, ty, pos, after, gd⟩ σ Kt) (s : Sim h0 W0 pr.n β σ a W) (g : Agree pr σ0 σ) :
    (⟨dst, .makeFunc fn first cap, ty, pos, after, gd⟩ : Oper).wp P a W (Goes h0 W0 pr σ0 Kt) Q := by
  simp only [opCore] at f
  refine wp_put (o := ⟨dst, .makeFunc fn first cap, ty, pos, after, gd⟩) (val := .func fn (first.map a.eval) (cap.map a.eval)) f s g rfl fun dd => ?_
  simp only [SV.defd, Bool.and_eq_true] at dd
  simp only [toV]
  rw [← list_eval s dd.1, ← list_eval s dd.2]
  congr 1 <;> (apply Array.ext'; simp)

theorem op_makeMap {dst : Option Tmp} {t : TypeId} {r : Option Operand} {ty : TypeId} {pos : String} {after : Array Edge} {gd : Option (Nat × Bool)}
    (f : opCore P (semAlg P K) pr ⟨dst, .makeMap t r, ty, pos, after, gd⟩ σ Kt) (s : Sim h0 W0 pr.n β σ a W) (g : Agree pr σ0 σ) :
    (⟨dst, .makeMap t r, ty, pos, after, gd⟩ : Oper).wp P a W (Goes h0 W0 pr σ0 Kt) Q := by
  cases r with
  | some r => exact f.elim
  | none =>
    simp only [opCore] at f
    exact xop_goes (o := ⟨dst, .makeMap t none, ty, pos, after, gd⟩) f s g rfl fun val W' hr => run_v hr

theorem op_makeSlice {dst : Option Tmp} {t : TypeId} {l c : Operand} {ty : TypeId} {pos : String} {after : Array Edge} {gd : Option (Nat × Bool)}
    (f : opCore P (semAlg P K) pr ⟨dst, .makeSlice t l c, ty, pos, after, gd⟩ σ Kt) (s : Sim h0 W0 pr.n β σ a W) (g : Agree pr σ0 σ) :
    (⟨dst, .makeSlice t l c, ty, pos, after, gd⟩ : Oper).wp P a W (Goes h0 W0 pr σ0 Kt) Q := by
  simp only [opCore] at f
  split at f
  · rename_i h
    obtain ⟨hb, hd⟩ := noBps_spec h
    simp only [SV.defds, Bool.and_eq_true, Bool.and_true] at hd
    simp only [SV.bpss, List.append_nil, List.append_eq_nil_iff] at hb
    refine xop_goes (o := ⟨dst, .makeSlice t l c, ty, pos, after, gd⟩) f s g rfl fun val W' hr => run_v ?_
    rw [opnd_eval s l hd.1, opnd_eval s c hd.2, toV_nobp hb.1, toV_nobp hb.2]; exact hr
  · exact f.elim

theorem op_lookup {dst : Option Tmp} {t : TypeId} {m k : Operand} {ok : Bool} {ty : TypeId} {pos : String} {after : Array Edge} {gd : Option (Nat × Bool)}
    (f : opCore P (semAlg P K) pr ⟨dst, .lookup t m k ok, ty, pos, after, gd⟩ σ Kt) (s : Sim h0 W0 pr.n β σ a W) (g : Agree pr σ0 σ) :
    (⟨dst, .lookup t m k ok, ty, pos, after, gd⟩ : Oper).wp P a W (Goes h0 W0 pr σ0 Kt) Q := by
  simp only [opCore] at f
  split at f
  · rename_i h
    obtain ⟨hb, hd⟩ := noBps_spec h
    simp only [SV.defds, Bool.and_eq_true, Bool.and_true] at hd
    simp only [SV.bpss, List.append_nil, List.append_eq_nil_iff] at hb
    refine xop_goes (o := ⟨dst, .lookup t m k ok, ty, pos, after, gd⟩) f s g rfl fun val W' hr => run_v ?_
    rw [opnd_eval s m hd.1, opnd_eval s k hd.2, toV_nobp hb.1, toV_nobp hb.2]; exact hr
  · exact f.elim

theorem op_mapUpdate {dst : Option Tmp} {t : TypeId} {m k v : Operand} {ty : TypeId} {pos : String} {after : Array Edge} {gd : Option (Nat × Bool)}
    (f : opCore P (semAlg P K) pr ⟨dst, .mapUpdate t m k v, ty, pos, after, gd⟩ σ Kt) (s : Sim h0 W0 pr.n β σ a W) (g : Agree pr σ0 σ) :
    (⟨dst, .mapUpdate t m k v, ty, pos, after, gd⟩ : Oper).wp P a W (Goes h0 W0 pr σ0 Kt) Q := by
  simp only [opCore] at f
  split at f
  · rename_i h
    simp only [Bool.and_eq_true] at h
    obtain ⟨hb, hd⟩ := noBps_spec h.2
    have hdst : dst = none := by cases dst with | none => rfl | some d => simp at h
    subst hdst
    simp only [SV.defds, Bool.and_eq_true, Bool.and_true] at hd
    simp only [SV.bpss, List.append_nil, List.append_eq_nil_iff] at hb
    simp only [xop] at f
    obtain ⟨val, W', h', e, s', fr, kk⟩ := f W s.sub
    simp only [X.map, X.sem] at e
    rw [run_bind] at e
    rw [← toV_nobp (β := β) hb.1, ← toV_nobp (β := β) hb.2.1, ← toV_nobp (β := β) hb.2.2, ← opnd_eval s m hd.1, ← opnd_eval s k hd.2.1, ← opnd_eval s v hd.2.2] at e
    cases hr : (Instr.mapUpdate t (a.eval m) (a.eval k) (a.eval v)).run P W with
    | halt x y => rw [hr] at e; cases e
    | ok u W'' =>
      rw [hr] at e
      have : W'' = W' := by simp only [run_pure, Result.ok.injEq] at e; exact e.2
      subst this
      exact wp_skipped (o := ⟨none, .mapUpdate t m k v, ty, pos, after, gd⟩) (run_u hr) ⟨_, β, s.step s' fr, ⟨g.slots, g.boxes⟩, kk⟩
  · exact f.elim

/-! ### fields, indices, slices -/

theorem run_fieldAt {st : TypeId} {fi n : Nat} {ad : Addr} (h : fieldOff P st fi = some n) (W : World) : (Instr.fieldAt st (.pointer (some ad)) fi).run P W = .ok (.pointer (some (ad.add n))) W := by
  unfold fieldOff at h
  split at h
  · rename_i fs hu
    split at h
    · rename_i x hx
      split at h
      · cases h
      · rename_i m hm0 hm
        simp only [Option.some.injEq] at h; subst h
        have hne : m ≠ 0 := fun e => hm0 e
        simp only [Instr.fieldAt, run_bind, run_under hu, hx, Instr.sureAddr, run_pure, fieldPlace, run_size hm, hne, if_false]
      · cases h
    · cases h
  · cases h

theorem op_fieldAddr {dst : Option Tmp} {st : TypeId} {x : Operand} {fi : Nat} {ty : TypeId} {pos : String} {after : Array Edge} {gd : Option (Nat × Bool)}
    (f : opCore P (semAlg P K) pr ⟨dst, .fieldAddr st x fi, ty, pos, after, gd⟩ σ Kt) (s : Sim h0 W0 pr.n β σ a W) (g : Agree pr σ0 σ) :
    (⟨dst, .fieldAddr st x fi, ty, pos, after, gd⟩ : Oper).wp P a W (Goes h0 W0 pr σ0 Kt) Q := by
  simp only [opCore] at f
  split at f
  · rename_i i off n e h
    refine wp_put (o := ⟨dst, .fieldAddr st x fi, ty, pos, after, gd⟩) f s g (run_v (by rw [ev' s e (by simp)]; exact run_fieldAt h W)) fun _ => ?_
    simp only [toV, Addr_add_add]
  · rename_i ad off n e h
    refine wp_put (o := ⟨dst, .fieldAddr st x fi, ty, pos, after, gd⟩) f s g (run_v (by rw [ev' s e (by simp)]; exact run_fieldAt h W)) fun _ => ?_
    simp only [toV, Addr_add_add]
  · exact f.elim

theorem op_field {dst : Option Tmp} {st : TypeId} {x : Operand} {fi : Nat} {ty : TypeId} {pos : String} {after : Array Edge} {gd : Option (Nat × Bool)}
    (f : opCore P (semAlg P K) pr ⟨dst, .field st x fi, ty, pos, after, gd⟩ σ Kt) (s : Sim h0 W0 pr.n β σ a W) (g : Agree pr σ0 σ) :
    (⟨dst, .field st x fi, ty, pos, after, gd⟩ : Oper).wp P a W (Goes h0 W0 pr σ0 Kt) Q := by
  simp only [opCore] at f
  split at f
  · rename_i cs fs e hu
    split at f
    · rename_i fl hfl
      split at f
      · rename_i n h1 h2
        split at f
        · rename_i hle
          simp only [Nat.ble_eq] at hle
          refine wp_put (o := ⟨dst, .field st x fi, ty, pos, after, gd⟩) (val := .agg (toVs β ((cs.drop fl.offset).take n)).toArray) f s g (run_v ?_) fun _ => rfl
          rw [ev' s e (by simp)]
          simp only [Instr.field, run_bind, run_under hu, hfl, toV, asAgg, run_pure, part, run_isAgg h1, if_true, run_size h2]
          congr 2
          rw [toVs_take, toVs_drop]
          apply Array.ext'
          simp [List.extract_eq_take_drop]
        · exact f.elim
      · rename_i h1
        split at f
        · rename_i v hv
          refine wp_put (o := ⟨dst, .field st x fi, ty, pos, after, gd⟩) (val := toV β v) f s g (run_v ?_) fun _ => rfl
          rw [ev' s e (by simp)]
          have : ((toVs β cs).toArray)[fl.offset]? = some (toV β v) := by rw [List.getElem?_toArray, toVs_get?, hv]; rfl
          simp only [Instr.field, run_bind, run_under hu, hfl, toV, asAgg, run_pure, part, run_isAgg h1, Bool.false_eq_true, if_false, this]
        · exact f.elim
      · exact f.elim
    · exact f.elim
  · exact f.elim

theorem run_indexSlice {t e size len c : Nat} {ad : Addr} {k : IntKind} {i : Int} (hu : P.underlying t = some (.slice e)) (hs : sizeO P e = some size) (h : 0 ≤ i ∧ i < (len : Int)) (W : World) :
    (Instr.indexAt t (.slice (some ad) len c) (.int k i)).run P W = .ok (.pointer (some (ad.add (i.toNat * size)))) W := by
  simp only [Instr.indexAt, asIntOf, run_bind, run_pure, run_under hu, h, and_self, if_true, run_size hs]

theorem run_indexArr {t e size len : Nat} {ad : Addr} {k : IntKind} {i : Int} (hu : P.underlying t = some (.array len e)) (hs : sizeO P e = some size) (h : 0 ≤ i ∧ i < (len : Int)) (W : World) :
    (Instr.indexAt t (.pointer (some ad)) (.int k i)).run P W = .ok (.pointer (some (ad.add (i.toNat * size)))) W := by
  simp only [Instr.indexAt, asIntOf, run_bind, run_pure, run_under hu, Instr.sureAddr, h, and_self, if_true, run_size hs]

theorem op_indexAddr {dst : Option Tmp} {t : TypeId} {x i : Operand} {ty : TypeId} {pos : String} {after : Array Edge} {gd : Option (Nat × Bool)}
    (f : opCore P (semAlg P K) pr ⟨dst, .indexAddr t x i, ty, pos, after, gd⟩ σ Kt) (s : Sim h0 W0 pr.n β σ a W) (g : Agree pr σ0 σ) :
    (⟨dst, .indexAddr t x i, ty, pos, after, gd⟩ : Oper).wp P a W (Goes h0 W0 pr σ0 Kt) Q := by
  simp only [opCore] at f
  split at f
  · rename_i e p len c k n hu hx hi
    obtain ⟨d, ei⟩ := asInt_spec hi
    split at f
    · rename_i size hs
      obtain ⟨ad, hp, hr, f⟩ := f
      have hp' : p = some ad := hp
      subst hp'
      refine wp_put (o := ⟨dst, .indexAddr t x i, ty, pos, after, gd⟩) f s g (run_v (by
        rw [ev' s hx (by simp), opnd_eval s i d, ei]; exact run_indexSlice hu hs hr W)) fun _ => ?_
      simp only [toV, aidx, Addr_add_zero]
    · exact f.elim
  · rename_i len e j off q hu hx hi
    split at f
    · rename_i m n size h1 h2
      split at f
      · rename_i hr
        simp only [Bool.and_eq_true, decide_eq_true_eq] at hr
        refine wp_put (o := ⟨dst, .indexAddr t x i, ty, pos, after, gd⟩) f s g (run_v (by
          rw [ev' s hx (by simp), ev' s h1 (by simp)]; exact run_indexArr hu h2 hr W)) fun _ => ?_
        simp only [toV, Addr_add_add]
      · exact f.elim
    · exact f.elim
  · rename_i len e ad off k n hu hx hi
    obtain ⟨d, ei⟩ := asInt_spec hi
    split at f
    · rename_i size hs
      obtain ⟨hr, f⟩ := f
      refine wp_put (o := ⟨dst, .indexAddr t x i, ty, pos, after, gd⟩) f s g (run_v (by
        rw [ev' s hx (by simp), opnd_eval s i d, ei]; exact run_indexArr hu hs hr W)) fun _ => ?_
      simp only [toV, aidx, Addr_add_zero]
    · exact f.elim
  · exact f.elim

theorem op_index {dst : Option Tmp} {t : TypeId} {x i : Operand} {ty : TypeId} {pos : String} {after : Array Edge} {gd : Option (Nat × Bool)}
    (f : opCore P (semAlg P K) pr ⟨dst, .index t x i, ty, pos, after, gd⟩ σ Kt) (s : Sim h0 W0 pr.n β σ a W) (g : Agree pr σ0 σ) :
    (⟨dst, .index t x i, ty, pos, after, gd⟩ : Oper).wp P a W (Goes h0 W0 pr σ0 Kt) Q := by
  simp only [opCore] at f
  split at f
  · rename_i k n hu hi
    obtain ⟨d, ei⟩ := asInt_spec hi
    split at f
    · rename_i b hb
      obtain ⟨db, eb⟩ := asStr_spec hb
      obtain ⟨hr, f⟩ := f
      refine wp_put (o := ⟨dst, .index t x i, ty, pos, after, gd⟩) (val := .int .u8 (sgetF b n)) f s g (run_v ?_) fun _ => rfl
      rw [opnd_eval s x db, eb, opnd_eval s i d, ei]
      have hr' : 0 ≤ n ∧ n < ((ByteArray.size b : Nat) : Int) := hr
      have hlt : n.toNat < ByteArray.size b := by have h1 := hr'.1; have h2 := hr'.2; exact (Int.toNat_lt h1).2 h2
      have hget : b[n.toNat]? = some b[n.toNat] := getElem?_pos b n.toNat hlt
      simp only [Instr.index, asIntOf, run_bind, run_pure, run_under hu, hr'.1, if_true, hget, sgetF, Option.getD_some]
    · exact f.elim
  · rename_i len e q hu hi
    split at f
    · rename_i cs m n hx hi' ha
      split at f
      · rename_i hr
        simp only [Bool.and_eq_true, decide_eq_true_eq] at hr
        split at f
        · rename_i v hv
          split at f
          · rename_i hs
            simp only [beq_iff_eq] at hs
            refine wp_put (o := ⟨dst, .index t x i, ty, pos, after, gd⟩) (val := toV β v) f s g (run_v ?_) fun _ => rfl
            rw [ev' s hx (by simp), ev' s hi' (by simp)]
            have : ((toVs β cs).toArray)[n.toNat * 1]? = some (toV β v) := by rw [List.getElem?_toArray, toVs_get?, hv]; rfl
            simp only [Instr.index, toV, asIntOf, run_bind, run_pure, run_under hu, hr, and_self, if_true, run_size hs, part, run_isAgg ha, Bool.false_eq_true, if_false, this]
          · exact f.elim
        · exact f.elim
      · exact f.elim
    · exact f.elim
  · exact f.elim

theorem run_assert {t u : TypeId} {v : Value} {d : TypeDesc} {ok : Bool} (hu : P.underlying t = some d) (hd : ∀ m, d = .interface m → False) (W : World) :
    (Instr.typeAssert (.iface t v) u t ok).run P W = .ok (if ok then .tuple #[v, .bool true] else v) W := by
  simp only [Instr.typeAssert, run_bind, run_under hu]
  cases d <;> first | (exact (hd _ rfl).elim) | (simp only [if_true]; cases ok <;> rfl)

theorem op_typeAssert {dst : Option Tmp} {x : Operand} {u t : TypeId} {ok : Bool} {ty : TypeId} {pos : String} {after : Array Edge} {gd : Option (Nat × Bool)}
    (f : opCore P (semAlg P K) pr ⟨dst, .typeAssert x u t ok, ty, pos, after, gd⟩ σ Kt) (s : Sim h0 W0 pr.n β σ a W) (g : Agree pr σ0 σ) :
    (⟨dst, .typeAssert x u t ok, ty, pos, after, gd⟩ : Oper).wp P a W (Goes h0 W0 pr σ0 Kt) Q := by
  simp only [opCore] at f
  split at f
  · exact f.elim
  · rename_i w v d hd hx hu
    split at f
    · rename_i e
      simp only [beq_iff_eq] at e; subst e
      have e := ev' s hx (by simp)
      refine wp_put (o := ⟨dst, .typeAssert x u w ok, ty, pos, after, gd⟩) (val := if ok then .tuple #[toV β v, .bool true] else toV β v) f s g (run_v ?_) fun _ => ?_
      · rw [e]
        exact run_assert hu hd W
      · cases ok <;> rfl
    · exact f.elim
  · exact f.elim

/-! ### slicing -/

theorem run_bound {k : IntKind} {i : Int} {y : Nat} {c : BoundsCode} (h : 0 ≤ i ∧ i ≤ (y : Int)) (W : World) : (Instr.sliceBound (.int k i) y c).run P W = .ok i.toNat W := by
  simp only [Instr.sliceBound, asIntOf, run_bind, run_pure]
  rw [if_pos h]; rfl

theorem lowS_spec {v : Option SVs} {r : Option Int} (h : lowS (semAlg P K) v = some r) :
    (v = none ∧ r = none) ∨ ∃ sv k n, v = some sv ∧ r = some n ∧ sv.defd = true ∧ ∀ β, toV β sv = .int k n := by
  cases v with
  | none => simp only [lowS, Option.some.injEq] at h; exact .inl ⟨rfl, h.symm⟩
  | some sv =>
    simp only [lowS] at h
    cases hi : asInt (semAlg P K) sv with
    | none => rw [hi] at h; cases h
    | some q =>
      rw [hi] at h
      simp only [Option.map_some, Option.some.injEq] at h
      obtain ⟨d, e⟩ := asInt_spec (k := q.1) (x := q.2) hi
      exact .inr ⟨sv, q.1, q.2, rfl, h.symm, d, e⟩

/-- An operand that may be left out. -/
theorem low_eval {x : Option Operand} {r : Option Int} (s : Sim h0 W0 pr.n β σ a W) (h : lowS (semAlg P K) (x.map (opnd (semAlg P K) σ)) = some r) :
    (x.map a.eval = none ∧ r = none) ∨ ∃ k n, x.map a.eval = some (.int k n) ∧ r = some n := by
  rcases lowS_spec h with ⟨h1, h2⟩ | ⟨sv, k, n, h1, h2, d, e⟩
  · cases x with
    | none => exact .inl ⟨rfl, h2⟩
    | some y => cases h1
  · cases x with
    | none => cases h1
    | some y =>
      simp only [Option.map_some, Option.some.injEq] at h1
      exact .inr ⟨k, n, by simp only [Option.map_some]; rw [opnd_eval s y (by rw [h1]; exact d), h1, e], h2⟩

theorem sliceS_spec {t e size len cap : Nat} {p : Option Addr} {lo hi mx : Option Int} {lo' hi' mx' : Option Value} {F : SVs → Prop}
    (f : sliceS (semAlg P K) size p len cap lo hi mx F) (hu : P.underlying t = some (.slice e)) (hs : sizeO P e = some size)
    (h1 : (lo' = none ∧ lo = none) ∨ ∃ k n, lo' = some (.int k n) ∧ lo = some n)
    (h2 : (hi' = none ∧ hi = none) ∨ ∃ k n, hi' = some (.int k n) ∧ hi = some n)
    (h3 : (mx' = none ∧ mx = none) ∨ ∃ k n, mx' = some (.int k n) ∧ mx = some n) (W : World) :
    ∃ v, F v ∧ v.defd = true ∧ v.bps = [] ∧ (Instr.sliceAt t (.slice p len cap) lo' hi' mx').run P W = .ok (toV0 v) W := by
  have key : ∀ l h m : Nat, (Instr.sliceBounds true len cap lo' hi' mx').run P W = .ok (l, h, m) W →
      (Instr.sliceAt t (.slice p len cap) lo' hi' mx').run P W = .ok (.slice (sliceP p l m size) (h - l) (m - l)) W := by
    intro l h m hb
    simp only [Instr.sliceAt, run_bind, run_under hu, Instr.slice, hb, run_size hs]
    rfl
  unfold sliceS at f
  rcases h3 with ⟨rfl, rfl⟩ | ⟨k3, n3, rfl, rfl⟩
  · rcases h2 with ⟨rfl, rfl⟩ | ⟨k2, n2, rfl, rfl⟩
    · rcases h1 with ⟨rfl, rfl⟩ | ⟨k1, n1, rfl, rfl⟩
      · exact ⟨_, f, rfl, rfl, key 0 len cap rfl⟩
      · exact ⟨_, f.2, rfl, rfl, key n1.toNat len cap (by simp only [Instr.sliceBounds, run_bind, run_pure, run_bound f.1])⟩
    · rcases h1 with ⟨rfl, rfl⟩ | ⟨k1, n1, rfl, rfl⟩
      · exact ⟨_, f.2, rfl, rfl, key 0 n2.toNat cap (by simp only [Instr.sliceBounds, run_bind, run_pure, run_bound f.1])⟩
      · exact ⟨_, f.2.2, rfl, rfl, key n1.toNat n2.toNat cap (by simp only [Instr.sliceBounds, run_bind, run_pure, run_bound f.1, run_bound f.2.1])⟩
  · rcases h2 with ⟨rfl, rfl⟩ | ⟨k2, n2, rfl, rfl⟩
    · exact f.2.elim
    · rcases h1 with ⟨rfl, rfl⟩ | ⟨k1, n1, rfl, rfl⟩
      · exact ⟨_, f.2.2, rfl, rfl, key 0 n2.toNat n3.toNat (by simp only [Instr.sliceBounds, run_bind, run_pure, run_bound f.1, run_bound f.2.1])⟩
      · exact ⟨_, f.2.2.2, rfl, rfl, key n1.toNat n2.toNat n3.toNat (by simp only [Instr.sliceBounds, run_bind, run_pure, run_bound f.1, run_bound f.2.1, run_bound f.2.2.1])⟩

theorem op_slice {dst : Option Tmp} {t : TypeId} {x : Operand} {lo hi mx : Option Operand} {ty : TypeId} {pos : String} {after : Array Edge} {gd : Option (Nat × Bool)}
    (f : opCore P (semAlg P K) pr ⟨dst, .slice t x lo hi mx, ty, pos, after, gd⟩ σ Kt) (s : Sim h0 W0 pr.n β σ a W) (g : Agree pr σ0 σ) :
    (⟨dst, .slice t x lo hi mx, ty, pos, after, gd⟩ : Oper).wp P a W (Goes h0 W0 pr σ0 Kt) Q := by
  simp only [opCore] at f
  split at f
  · rename_i e l h m hu h1 h2 h3
    split at f
    · rename_i p len cap size hx hs
      obtain ⟨d, ex⟩ := asSlice_spec hx
      obtain ⟨v, f, dv, hb, hr⟩ := sliceS_spec f hu hs (low_eval s h1) (low_eval s h2) (low_eval s h3) W
      refine wp_put (o := ⟨dst, .slice t x lo hi mx, ty, pos, after, gd⟩) f s g (run_v (by rw [opnd_eval s x d, ex]; exact hr)) fun _ => toV_nobp hb
    · exact f.elim
  · rename_i l h hu h1 h2 h3
    split at f
    · rename_i b hx
      obtain ⟨d, ex⟩ := asStr_spec hx
      have h3' := low_eval s h3
      have hm : mx.map a.eval = none := by
        rcases h3' with ⟨h, _⟩ | ⟨_, _, _, h⟩
        · exact h
        · cases h
      have key : ∀ l h : Nat, (Instr.sliceBounds false (ByteArray.size b) (ByteArray.size b) (lo.map a.eval) (hi.map a.eval) none).run P W = .ok (l, h, ByteArray.size b) W →
          (Instr.sliceAt t (.string b) (lo.map a.eval) (hi.map a.eval) (mx.map a.eval)).run P W = .ok (.string (ByteArray.extract b l h)) W := by
        intro l h hb
        rw [hm]
        simp only [Instr.sliceAt, run_bind, run_under hu, Instr.slice, Option.isSome_none, Bool.false_eq_true, if_false, hb]
        rfl
      have fin : ∀ {v : SVs} {l h : Nat}, put (semAlg P K) pr dst v σ Kt → (Instr.sliceBounds false (ByteArray.size b) (ByteArray.size b) (lo.map a.eval) (hi.map a.eval) none).run P W = .ok (l, h, ByteArray.size b) W →
          (v.defd = true → toV β v = .string (ByteArray.extract b l h)) → (⟨dst, .slice t x lo hi mx, ty, pos, after, gd⟩ : Oper).wp P a W (Goes h0 W0 pr σ0 Kt) Q := by
        intro v l h hp hb hv
        exact wp_put (o := ⟨dst, .slice t x lo hi mx, ty, pos, after, gd⟩) hp s g (run_v (by rw [opnd_eval s x d, ex]; exact key l h hb)) hv
      rcases low_eval s h2 with ⟨e2, rfl⟩ | ⟨k2, n2, e2, rfl⟩
      · rcases low_eval s h1 with ⟨e1, rfl⟩ | ⟨k1, n1, e1, rfl⟩
        · exact fin (l := 0) (h := ByteArray.size b) f (by rw [e1, e2]; rfl) fun _ => rfl
        · exact fin (l := n1.toNat) (h := ByteArray.size b) f.2 (by rw [e1, e2]; simp only [Instr.sliceBounds, run_bind, run_pure, run_bound f.1]) fun _ => rfl
      · rcases low_eval s h1 with ⟨e1, rfl⟩ | ⟨k1, n1, e1, rfl⟩
        · exact fin (l := 0) (h := n2.toNat) f.2 (by rw [e1, e2]; simp only [Instr.sliceBounds, run_bind, run_pure, run_bound f.1]) fun _ => rfl
        · exact fin (l := n1.toNat) (h := n2.toNat) f.2.2 (by rw [e1, e2]; simp only [Instr.sliceBounds, run_bind, run_pure, run_bound f.1, run_bound f.2.1]) fun _ => rfl
    · exact f.elim
  · exact f.elim
end Lf

