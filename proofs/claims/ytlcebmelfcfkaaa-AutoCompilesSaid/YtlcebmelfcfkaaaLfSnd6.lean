/- The lifter is sound: calls, and every operation. -/
import Derived.Test.YtlcebmelfcfkaaaLfSnd5
namespace Lf
open Go
variable {P : Program} {K : Value → H → Prop}
variable {h0 : H} {W0 : World} {pr : Prot} {β : Nat → Nat} {σ σ0 : St semAt} {a : Act} {W : World} {Kt : St semAt → Prop} {Q : Exit → Act → World → Prop}

theorem run_callFunc {f : FuncId} {args : Array Value} (h : hasBody P f = true) (W : World) : (callFunc f args).run P W = .ok (.enter f args) W := by
  unfold hasBody at h
  split at h
  · rename_i fn hf
    simp only [Bool.and_eq_true, Bool.not_eq_true', beq_eq_false_iff_ne] at h
    simp only [callFunc, run_bind, Go.program, Sem.run, hf]
    rw [if_neg (by simpa using h.2)]
    cases hb : fn.body with
    | none => rw [hb] at h; simp at h
    | some c => rfl
  · cases h

/-- A call, once its callee and its arguments are known. -/
theorem wp_call {o : Oper} {f : FuncId} {args : Array Value} {h : H} {R : Value → H → Prop} {next : Act → World → Prop} (hr : (execOp a.eval o).run P W = .ok (.enter f args) W)
    (s : Spec P f args h R) (sub : Sub h W) (n : ∀ v W' h', Sub h' W' → Frame h W h' W' → R v h' → next (a.put o.dst v) W') : o.wp P a W next Q := by
  unfold Oper.wp
  rw [hr]
  show Calls P f args W _
  refine (s W sub).mono fun e W' ⟨v, h', he, s', fr, r⟩ => ?_
  subst he
  exact n v W' h' s' fr r

theorem callS_goes {o : Oper} {f : FuncId} {args : List SVs} (hf : callS P (semAlg P K) pr o.dst f args σ Kt) (s : Sim h0 W0 pr.n β σ a W) (g : Agree pr σ0 σ)
    (hr : hasBody P f = true → SV.defds args = true → SV.bpss args = [] → (execOp a.eval o).run P W = .ok (.enter f (toVs0 args).toArray) W) : o.wp P a W (Goes h0 W0 pr σ0 Kt) Q := by
  unfold callS at hf
  split at hf
  · exact hf.elim
  rename_i c
  simp only [Bool.or_eq_true, not_or, Bool.not_eq_true', Bool.not_eq_false, List.isEmpty_iff] at c
  obtain ⟨⟨c1, c2⟩, c3⟩ := c
  split at hf
  · exact hf.elim
  · rename_i ck hk
    refine wp_call (hr c3 c1 (by simpa using c2)) hf s.sub fun v W' h' s' fr r => ?_
    obtain ⟨r', b, _, hv, r⟩ := exs_elim _ _ r
    exact put_goes r (s.step s' fr) ⟨g.slots, g.boxes⟩ fun _ => by rw [toV_nobp b]; exact hv.symm

theorem ofValue_func {fn : Fn} {first cap : Array Value} {args : Array Value} : (Deferred.ofValue (.func fn first cap) args : Sem Deferred) = pure { target := .fn fn cap, args := first ++ args } := rfl

theorem run_callVal {dst : Option Tmp} {x : Operand} {args : Array Operand} {ats : Array TypeId} {ty : TypeId} {pos : String} {after : Array Edge} {gd : Option (Nat × Bool)} {f : FuncId} {first cap : Array Value}
    (h : a.eval x = .func (.func f) first cap) (W : World) :
    (execOp a.eval ⟨dst, .call ⟨.value x, args, ats⟩, ty, pos, after, gd⟩).run P W = (callFunc f (first ++ args.map a.eval ++ cap)).run P W := by
  simp only [execOp, resolve, h, run_bind, ofValue_func, run_pure, invoke]

theorem args_eval {args : Array Operand} (s : Sim h0 W0 pr.n β σ a W) (hd : SV.defds (args.toList.map (opnd (semAlg P K) σ)) = true) :
    args.map a.eval = (toVs β (args.toList.map (opnd (semAlg P K) σ))).toArray := by
  rw [← list_eval s hd]; apply Array.ext'; simp

theorem op_builtin {dst : Option Tmp} {b : Builtin} {args : Array Operand} {ats : Array TypeId} {ty : TypeId} {pos : String} {after : Array Edge} {gd : Option (Nat × Bool)}
    (hb : b = .append ∨ b = .copy ∨ b = .delete ∨ b = .clear ∨ b = .cap ∨ b = .len)
    (f : xop P (semAlg P K) pr dst ty (.bi b ats ty (args.toList.map (opnd (semAlg P K) σ))) σ Kt) (h : noBps (semAlg P K) (args.toList.map (opnd (semAlg P K) σ)) = true)
    (s : Sim h0 W0 pr.n β σ a W) (g : Agree pr σ0 σ) :
    (⟨dst, .call ⟨.builtin b, args, ats⟩, ty, pos, after, gd⟩ : Oper).wp P a W (Goes h0 W0 pr σ0 Kt) Q := by
  obtain ⟨hbp, hd⟩ := noBps_spec h
  have he := args_eval (P := P) (K := K) s hd
  refine xop_goes (o := ⟨dst, .call ⟨.builtin b, args, ats⟩, ty, pos, after, gd⟩) f s g rfl fun val W' hr => ?_
  rw [toVs_nobp hbp] at he
  have hm : (args.toList.map (opnd (semAlg P K) σ)).map toV0 = toVs0 (args.toList.map (opnd (semAlg P K) σ)) := by
    have : ∀ l : List SVs, l.map toV0 = toVs0 l := fun l => by induction l with
      | nil => rfl
      | cons v l ih => simp only [List.map_cons, ih]; rfl
    exact this _
  simp only [X.map, X.sem, hm] at hr
  simp only [execOp, resolve, run_bind, run_pure, invoke]
  rw [he]
  have key : ∀ cs cs' : Array Bool, builtin b ats ty cs (toVs0 (args.toList.map (opnd (semAlg P K) σ))).toArray = builtin b ats ty cs' (toVs0 (args.toList.map (opnd (semAlg P K) σ))).toArray := by
    intro cs cs'
    rcases hb with rfl | rfl | rfl | rfl | rfl | rfl <;> rfl
  rw [key _ #[]]
  rw [run_bind] at hr
  have only : ∀ x W', (builtin b ats ty #[] (toVs0 (args.toList.map (opnd (semAlg P K) σ))).toArray).run P W = .ok x W' → ∃ v, x = .value v := by
    intro x W' hx
    have : ∃ s : Sem Value, builtin b ats ty #[] (toVs0 (args.toList.map (opnd (semAlg P K) σ))).toArray = s >>= fun v => pure (.value v) := by
      rcases hb with rfl | rfl | rfl | rfl | rfl | rfl <;> exact ⟨_, rfl⟩
    obtain ⟨s, e⟩ := this
    rw [e, run_bind] at hx
    split at hx
    · simp only [run_pure, Result.ok.injEq] at hx; exact ⟨_, hx.1.symm⟩
    · cases hx
  cases hx : (builtin b ats ty #[] (toVs0 (args.toList.map (opnd (semAlg P K) σ))).toArray).run P W with
  | halt x y => rw [hx] at hr; cases hr
  | ok x y =>
    obtain ⟨v, rfl⟩ := only x y hx
    rw [hx] at hr
    simp only [run_pure, Result.ok.injEq] at hr
    rw [hr.1, hr.2]

theorem run_lenSlice {t : TypeId} {e : TypeId} {p : Option Addr} {l c : Nat} {ats : Array TypeId} {ty : TypeId} (h0 : ats[0]? = some t) (hu : P.underlying t = some (.slice e)) (W : World) :
    (Builtin.len_ ats ty #[.slice p l c]).run P W = .ok (.int .i64 l) W := by
  simp only [Builtin.len_, h0, run_bind, List.getElem?_toArray, List.getElem?_cons_zero, run_under hu]; rfl

theorem run_lenStr {t : TypeId} {x : ByteArray} {ats : Array TypeId} {ty : TypeId} (h0 : ats[0]? = some t) (hu : P.underlying t = some .string) (W : World) :
    (Builtin.len_ ats ty #[.string x]).run P W = .ok (.int .i64 x.size) W := by
  simp only [Builtin.len_, h0, run_bind, List.getElem?_toArray, List.getElem?_cons_zero, run_under hu]; rfl

theorem run_bi {dst : Option Tmp} {b : Builtin} {args : Array Operand} {ats : Array TypeId} {ty : TypeId} {pos : String} {after : Array Edge} {gd : Option (Nat × Bool)} {sm : Sem Value} {v : Value}
    (h : ∀ cs, builtin b ats ty cs (args.map a.eval) = sm >>= fun v => pure (.value v)) (hr : sm.run P W = .ok v W) :
    (execOp a.eval ⟨dst, .call ⟨.builtin b, args, ats⟩, ty, pos, after, gd⟩).run P W = .ok (.value v) W := by
  simp only [execOp, resolve, run_bind, run_pure, invoke, h, hr]

theorem method_run {t : TypeId} {v : Value} {name : String} {i : TypeInfo} {m : Method} {f : FuncId} {ptr : Bool} {W W' : World} {r : Value} (hi : P.info? t = some i)
    (hm : i.methods.find? (·.name == name) = some m) (hf : m.func = some (f, ptr)) (hp : m.path.toList = []) (n : Nat)
    (hr : (receiverAt t (.val v) ptr (if m.path.isEmpty then some ((name.splitOn ".").getLastD name) else none)).run P W = .ok r W') :
    (method (n + 1) t v name).run P W = .ok (f, r) W' := by
  simp only [method, run_bind, run_info hi, hm, hp, follow, run_pure, hf, hr]

theorem cons_extract (x : Value) (l : Array Value) : (#[x] ++ l).extract 1 (#[x] ++ l).size = l := by
  obtain ⟨l⟩ := l
  apply Array.ext'
  simp [List.extract_eq_take_drop]

theorem cons_zero (x : Value) (l : Array Value) : (#[x] ++ l)[0]? = some x := by
  obtain ⟨l⟩ := l
  simp

theorem run_invoke {dst : Option Tmp} {r : Operand} {name : String} {args : Array Operand} {ats : Array TypeId} {ty : TypeId} {pos : String} {after : Array Edge} {gd : Option (Nat × Bool)}
    {t : TypeId} {v rv : Value} {fn : FuncId} (ex : a.eval r = .iface t v) (hm : (method (P.types.size + Made.depth) t v name).run P W = .ok (fn, rv) W) :
    (execOp a.eval ⟨dst, .call ⟨.invoke r name, args, ats⟩, ty, pos, after, gd⟩).run P W = (callFunc fn (#[rv] ++ args.map a.eval)).run P W := by
  have h1 : (execOp a.eval ⟨dst, .call ⟨.invoke r name, args, ats⟩, ty, pos, after, gd⟩).run P W =
      (invoke (.fn (.method name) #[]) (#[a.eval r] ++ args.map a.eval)).run P W := rfl
  rw [h1]
  simp only [invoke, cons_zero, cons_extract, ex, callMethod, run_bind, Go.program, Sem.run]
  rw [hm]

theorem ssa_eq (t : TypeId) (ad : Addr) (x y : String) : Builtin.ssaWrapNilChk_ #[t] t #[.pointer (some ad), strVal x, strVal y] = pure (.pointer (some ad)) := rfl

theorem op_call {dst : Option Tmp} {c : Call} {ty : TypeId} {pos : String} {after : Array Edge} {gd : Option (Nat × Bool)}
    (f : opCall P (semAlg P K) pr ⟨dst, .call c, ty, pos, after, gd⟩ c σ Kt) (s : Sim h0 W0 pr.n β σ a W) (g : Agree pr σ0 σ) :
    (⟨dst, .call c, ty, pos, after, gd⟩ : Oper).wp P a W (Goes h0 W0 pr σ0 Kt) Q := by
  obtain ⟨callee, args, ats⟩ := c
  unfold opCall at f
  simp only at f
  cases callee with
  | builtin b =>
    simp only at f
    split at f
    · -- len
      rename_i v hv
      have hev : ∀ (d : v.defd = true), args.map a.eval = #[toV β v] := fun d => by
        have := args_eval (P := P) (K := K) (args := args) s (by rw [hv]; simp [SV.defds, d])
        rw [this, hv]; rfl
      split at f
      · rename_i m k e hu
        refine op_builtin (.inr (.inr (.inr (.inr (.inr rfl))))) f (by rw [hv]; rfl) s g
      · rename_i e hu
        split at f
        · rename_i p l c' hs
          obtain ⟨d, ev⟩ := asSlice_spec hs
          refine wp_put (o := ⟨dst, .call ⟨.builtin .len, args, ats⟩, ty, pos, after, gd⟩) f s g (run_bi (fun cs => rfl) ?_) fun _ => rfl
          rw [hev d, ev]
          cases h0 : ats[0]? with
          | none => rw [h0] at hu; cases hu
          | some t => rw [h0] at hu; exact run_lenSlice h0 hu W
        · exact f.elim
      · rename_i hu
        split at f
        · rename_i x hs
          obtain ⟨d, ev⟩ := asStr_spec hs
          refine wp_put (o := ⟨dst, .call ⟨.builtin .len, args, ats⟩, ty, pos, after, gd⟩) f s g (run_bi (fun cs => rfl) ?_) fun _ => rfl
          rw [hev d, ev]
          cases h0 : ats[0]? with
          | none => rw [h0] at hu; cases hu
          | some t => rw [h0] at hu; exact run_lenStr h0 hu W
        · exact f.elim
      · exact f.elim
    · -- min
      rename_i x y hv
      split at f
      · rename_i k m j n h1 h2
        split at f
        · rename_i e; simp only [decide_eq_true_eq] at e; subst e
          obtain ⟨d1, e1⟩ := asInt_spec h1
          obtain ⟨d2, e2⟩ := asInt_spec h2
          have hev : args.map a.eval = #[.int k m, .int k n] := by
            have := args_eval (P := P) (K := K) (args := args) s (by rw [hv]; simp [SV.defds, d1, d2])
            rw [this, hv]; simp only [toVs, e1, e2]
          refine wp_put (o := ⟨dst, .call ⟨.builtin .min, args, ats⟩, ty, pos, after, gd⟩) (val := .int k (if n < m then n else m)) f s g (run_bi (fun cs => rfl) ?_) fun _ => ?_
          · rw [hev]; rfl
          · simp only [toV]
            congr 1
            show min m n = _
            by_cases h : n < m
            · rw [if_pos h]; exact Int.min_eq_right (Int.le_of_lt h)
            · rw [if_neg h]; exact Int.min_eq_left (Int.not_lt.mp h)
        · exact f.elim
      · exact f.elim
    · -- max
      rename_i x y hv
      split at f
      · rename_i k m j n h1 h2
        split at f
        · rename_i e; simp only [decide_eq_true_eq] at e; subst e
          obtain ⟨d1, e1⟩ := asInt_spec h1
          obtain ⟨d2, e2⟩ := asInt_spec h2
          have hev : args.map a.eval = #[.int k m, .int k n] := by
            have := args_eval (P := P) (K := K) (args := args) s (by rw [hv]; simp [SV.defds, d1, d2])
            rw [this, hv]; simp only [toVs, e1, e2]
          refine wp_put (o := ⟨dst, .call ⟨.builtin .max, args, ats⟩, ty, pos, after, gd⟩) (val := .int k (if n > m then n else m)) f s g (run_bi (fun cs => rfl) ?_) fun _ => ?_
          · rw [hev]; rfl
          · simp only [toV]
            congr 1
            show max m n = _
            by_cases h : n > m
            · rw [if_pos h]; exact Int.max_eq_right (Int.le_of_lt h)
            · rw [if_neg h]; exact Int.max_eq_left (Int.not_lt.mp h)
        · exact f.elim
      · exact f.elim
    · split at f
      · rename_i h; exact op_builtin (.inl rfl) f h s g
      · exact f.elim
    · split at f
      · rename_i h; exact op_builtin (.inr (.inl rfl)) f h s g
      · exact f.elim
    · split at f
      · rename_i h; exact op_builtin (.inr (.inr (.inl rfl))) f h s g
      · exact f.elim
    · split at f
      · rename_i h; exact op_builtin (.inr (.inr (.inr (.inl rfl)))) f h s g
      · exact f.elim
    · split at f
      · rename_i h; exact op_builtin (.inr (.inr (.inr (.inr (.inl rfl))))) f h s g
      · exact f.elim
    · exact f.elim
  | value x =>
    simp only at f
    split at f
    · rename_i fn first cap hx
      have ex := ev' s hx (by simp)
      split at f
      · rename_i hb
        refine callS_goes (o := ⟨dst, .call ⟨.value x, args, ats⟩, ty, pos, after, gd⟩) f s g fun _ hd hbp => ?_
        rw [run_callVal ex, run_callFunc hb]
        simp only [defds_append, Bool.and_eq_true] at hd
        rw [args_eval (P := P) (K := K) s hd.1.2, ← toVs_nobp hbp (β := β), toVs_append, toVs_append]
        simp
      · split at f
        · rename_i hb h
          obtain ⟨hbp, hd⟩ := noBps_spec h
          simp only [defds_append, Bool.and_eq_true] at hd
          refine xop_goes (o := ⟨dst, .call ⟨.value x, args, ats⟩, ty, pos, after, gd⟩) f s g rfl fun val W' hr => ?_
          rw [run_callVal ex, args_eval (P := P) (K := K) s hd.1.2]
          have hm : (first ++ args.toList.map (opnd (semAlg P K) σ) ++ cap).map toV0 = toVs0 (first ++ args.toList.map (opnd (semAlg P K) σ) ++ cap) := by
            have : ∀ l : List SVs, l.map toV0 = toVs0 l := fun l => by induction l with
              | nil => rfl
              | cons v l ih => simp only [List.map_cons, ih]; rfl
            exact this _
          simp only [X.map, X.sem, hm] at hr
          rw [← toVs_nobp hbp (β := β), toVs_append, toVs_append] at hr
          rw [show (toVs β first).toArray ++ (toVs β (args.toList.map (opnd (semAlg P K) σ))).toArray ++ (toVs β cap).toArray = (toVs β first ++ toVs β (args.toList.map (opnd (semAlg P K) σ)) ++ toVs β cap).toArray by simp]
          rw [run_bind] at hr
          split at hr
          · rename_i nx W1 he
            split at hr
            · simp only [run_pure, Result.ok.injEq] at hr; rw [he, hr.1, hr.2]
            · cases hr
          · cases hr
        · exact f.elim
    · rename_i fv hx
      split at f
      · rename_i h
        obtain ⟨hbp, hd⟩ := noBps_spec h
        obtain ⟨fn, first, cap, hfv, hb, sp⟩ := f
        have ex : a.eval x = fv := ev' s hx (by simp)
        have hfv' : fv = .func (.func fn) first cap := hfv
        refine wp_call (o := ⟨dst, .call ⟨.value x, args, ats⟩, ty, pos, after, gd⟩) (f := fn) (args := first ++ (toVs0 (args.toList.map (opnd (semAlg P K) σ))).toArray ++ cap) ?_ sp s.sub fun v W' h' s' fr r => ?_
        · rw [run_callVal (ex.trans hfv'), run_callFunc hb, args_eval (P := P) (K := K) s hd, toVs_nobp hbp]
        · obtain ⟨r', b, _, hv, r⟩ := exs_elim _ _ r
          exact put_goes r (s.step s' fr) ⟨g.slots, g.boxes⟩ fun _ => by rw [toV_nobp b]; exact hv.symm
      · exact f.elim
    · exact f.elim
  | invoke r name =>
    simp only at f
    split at f
    · rename_i t v hx
      have ex := ev' s hx (by simp)
      have dv : v.defd = true := by have := defd_of hx (by simp); simpa [SV.defd] using this
      have run0 : ∀ (fn : FuncId) (rv : Value), (method (P.types.size + Made.depth) t (toV β v) name).run P W = .ok (fn, rv) W →
          (execOp a.eval ⟨dst, .call ⟨.invoke r name, args, ats⟩, ty, pos, after, gd⟩).run P W = (callFunc fn (#[rv] ++ args.map a.eval)).run P W := by
        intro fn rv hm
        exact run_invoke ex hm
      have dep : ∃ n, P.types.size + Made.depth = n + 1 := ⟨P.types.size + 99, by unfold Made.depth; omega⟩
      obtain ⟨nd, hnd⟩ := dep
      split at f
      · rename_i m hm
        have hm' : ∃ i, P.info? t = some i ∧ i.methods.find? (·.name == name) = some m := by
          cases hi : P.info? t with
          | none => rw [hi] at hm; cases hm
          | some i => rw [hi] at hm; exact ⟨i, rfl, hm⟩
        obtain ⟨i, hi, hmi⟩ := hm'
        split at f
        · rename_i fn ptr h1 h2
          have call : ∀ {w : SVs}, callS P (semAlg P K) pr dst fn (w :: args.toList.map (opnd (semAlg P K) σ)) σ Kt →
              (receiverAt t (.val (toV β v)) ptr (if m.path.isEmpty then some ((name.splitOn ".").getLastD name) else none)).run P W = .ok (toV β w) W →
              (⟨dst, .call ⟨.invoke r name, args, ats⟩, ty, pos, after, gd⟩ : Oper).wp P a W (Goes h0 W0 pr σ0 Kt) Q := by
            intro w hc hr
            refine callS_goes (o := ⟨dst, .call ⟨.invoke r name, args, ats⟩, ty, pos, after, gd⟩) hc s g fun hb hd hbp => ?_
            rw [run0 fn (toV β w) (by rw [hnd]; exact method_run hi hmi h1 h2 nd hr), run_callFunc hb]
            simp only [SV.defds, Bool.and_eq_true] at hd
            rw [args_eval (P := P) (K := K) s hd.2, ← toVs_nobp hbp (β := β)]
            simp [toVs]
          split at f
          · rename_i e hu
            exact call f (by simp only [receiverAt, run_bind, run_under hu, Place.get, run_pure])
          · rename_i e ad off hu
            split at f
            · rename_i z ha hz
              obtain ⟨vs, l, b, d, hc, f⟩ := loadCells_elim _ _ _ _ _ f
              split at f
              · rename_i w
                refine call f ?_
                have hpath : m.path.isEmpty = true := by
                  have : m.path = #[] := by apply Array.ext'; simpa using h2
                  rw [this]; rfl
                have hwb : w.bps = [] := by simpa [SV.bpss] using b
                have hl : W.cell? (Addr.add ad off) = some (toV β w) := by
                  rw [toV_nobp hwb]; exact s.sub.cell (hc 0 _ (by simp [toVs0, toVs]))
                simp only [receiverAt, run_bind, run_under hu, Place.get, run_pure, toV, hpath, if_true, ssa_eq, asAddr, loadVar, run_isAgg ha]
                rw [if_neg (by simp)]; exact run_load .plain hl
              · exact f.elim
            · exact f.elim
          · exact f.elim
          · rename_i d hu hnp
            refine call f ?_
            simp only [receiverAt, run_bind, run_under hu, Place.get, run_pure]
          · exact f.elim
        · exact f.elim
      · exact f.elim
    · exact f.elim

/-- Every operation. -/
theorem opCore_goes {o : Oper} (f : opCore P (semAlg P K) pr o σ Kt) (s : Sim h0 W0 pr.n β σ a W) (g : Agree pr σ0 σ) : o.wp P a W (Goes h0 W0 pr σ0 Kt) Q := by
  obtain ⟨dst, op, ty, pos, after, gd⟩ := o
  cases op with
  | move x => exact op_move f s g
  | assign x => exact op_assign f s g
  | pick c x y => exact op_pick f s g
  | alloc t => exact op_alloc f s g
  | box t x => exact op_box f s g
  | build t ps => exact op_build f s g
  | buildSlice t n ps => exact op_buildSlice f s g
  | load t x => exact op_load f s g
  | store t x y => exact op_store f s g
  | nilCheck x => exact op_nilCheck f s g
  | binOp op t x y u => exact op_bin f s g
  | unOp u t x => exact op_un f s g
  | convert s' d x => exact op_convert f s g
  | makeInterface t x => exact op_makeInterface f s g
  | makeFunc fn first cap => exact op_makeFunc f s g
  | makeMap t r => exact op_makeMap f s g
  | makeSlice t l c => exact op_makeSlice f s g
  | lookup t m k ok => exact op_lookup f s g
  | mapUpdate t m k v => exact op_mapUpdate f s g
  | slice t x lo hi mx => exact op_slice f s g
  | fieldAddr st x fi => exact op_fieldAddr f s g
  | field st x fi => exact op_field f s g
  | indexAddr t x i => exact op_indexAddr f s g
  | index t x i => exact op_index f s g
  | extract x i => exact op_extract f s g
  | typeAssert x u t ok => exact op_typeAssert f s g
  | call c => exact op_call f s g
  | _ => exact f.elim

theorem liftOp_goes {o : Oper} (f : liftOp P (semAlg P K) pr o σ Kt) (s : Sim h0 W0 pr.n β σ a W) (g : Agree pr σ0 σ) : o.wp P a W (Goes h0 W0 pr σ0 Kt) Q := by
  obtain ⟨σ', s', g', f'⟩ := publishAll_elim _ _ _ f s g
  exact opCore_goes f' s' g'
end Lf

