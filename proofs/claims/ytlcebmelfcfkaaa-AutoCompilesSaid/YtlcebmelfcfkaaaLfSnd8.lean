/- The lifter is sound: code, functions. -/
import Derived.Test.YtlcebmelfcfkaaaLfDraw
namespace Lf
open Go
variable {P : Program} {K : Value → H → Prop}
variable {h0 : H} {W0 : World} {pr : Prot} {β : Nat → Nat} {σ σ0 : St semAt} {a : Act} {W : World} {Kt : St semAt → Prop} {Q : Exit → Act → World → Prop}

/-- Where code leads. -/
def PostOf (h0 : H) (W0 : World) (pr : Prot) (σ0 : St semAt) (Kc : Ex → St semAt → Prop) : Exit → Act → World → Prop
  | .normal, a, W => Goes h0 W0 pr σ0 (Kc .normal) a W
  | .exit id, a, W => Goes h0 W0 pr σ0 (Kc (.exit id)) a W
  | .ret, a, W => Goes h0 W0 pr σ0 (Kc .ret) a W
  | _, _, _ => False

theorem Goes.weaken {pr' : Prot} {K1 K2 : St semAt → Prop} (hn : pr'.n = pr.n) (h : ∀ σ', Agree pr' σ σ' → Agree pr σ0 σ') (hk : ∀ σ', K1 σ' → K2 σ') {a : Act} {W : World}
    (g : Goes h0 W0 pr' σ K1 a W) : Goes h0 W0 pr σ0 K2 a W :=
  let ⟨σ', β', s, g, k⟩ := g
  ⟨σ', β', by rw [← hn]; exact s, h σ' g, hk σ' k⟩

/-- A loop, by a number that falls. -/
theorem wp_loop_ex {c : Code} (I : Nat → Act → World → Prop) {n : Nat} (h₀ : I n a W)
    (round : ∀ n a w, I n a w → c.wp P (Exit.then (fun a' w' => ∃ m, m < n ∧ I m a' w') Q) a w) : (Code.loop c).wp P Q a W := by
  intro b k cs
  have key : ∀ n a w, I n a w →
      ∃ e a' w', Q e a' w' ∧ Arrives P (lone (b.at a (.code c :: .inLoop c :: k)) cs w) b k cs e a' w' := by
    intro n
    induction n using Nat.strongRecOn with
    | _ n ih =>
      intro a w hI
      obtain ⟨e, a₁, w₁, hq, harr⟩ := round n a w hI b (.inLoop c :: k) cs
      cases e with
      | normal =>
        obtain ⟨m, hlt, hI₁⟩ := hq
        obtain ⟨e₂, a₂, w₂, hq₂, harr₂⟩ := ih m hlt a₁ w₁ hI₁
        exact ⟨e₂, a₂, w₂, hq₂, .of_steps (Steps.trans harr (.one step_inLoop)) harr₂⟩
      | exit id => exact ⟨_, a₁, w₁, hq, .pass (x := .inLoop c) rfl (fun _ _ => .inl (by simp)) harr⟩
      | goto l => exact ⟨_, a₁, w₁, hq, .pass (x := .inLoop c) rfl (fun _ _ => .inl (by simp)) harr⟩
      | ret => exact ⟨_, a₁, w₁, hq, .pass (x := .inLoop c) rfl (fun _ _ => .inl (by simp)) harr⟩
      | panic ch => exact ⟨_, a₁, w₁, hq, .pass (x := .inLoop c) rfl (fun _ _ => .inl (by simp)) harr⟩
      | outgrown => exact ⟨_, a₁, w₁, hq, .pass (x := .inLoop c) rfl (fun _ _ => .inl (by simp)) harr⟩
  obtain ⟨e, a', w', hq, harr⟩ := key _ a W h₀
  exact ⟨e, a', w', hq, .of_steps (.one step_loop) harr⟩

theorem PostOf.mono {pr' : Prot} {K1 K2 : Ex → St semAt → Prop} {σ1 : St semAt} (hn : pr'.n = pr.n) (h : ∀ σ', Agree pr' σ1 σ' → Agree pr σ0 σ') (hk : ∀ e σ', K1 e σ' → K2 e σ') :
    ∀ e a W, PostOf h0 W0 pr' σ1 K1 e a W → PostOf h0 W0 pr σ0 K2 e a W
  | .normal, _, _, g => Goes.weaken hn h (hk _) g
  | .exit _, _, _, g => Goes.weaken hn h (hk _) g
  | .ret, _, _, g => Goes.weaken hn h (hk _) g
  | .goto _, _, _, g => g.elim
  | .panic _, _, _, g => g.elim
  | .outgrown, _, _, g => g.elim

theorem liftCode_goes (hm : P.follows .mixedOrders = true) : ∀ (c : Code) (pr : Prot) (Kc : Ex → St semAt → Prop) (σ : St semAt) (a : Act) (W : World) (β : Nat → Nat) (σ0 : St semAt),
    liftCode P (semAlg P K) c pr Kc σ → Sim h0 W0 pr.n β σ a W → Agree pr σ0 σ → c.wp P (PostOf h0 W0 pr σ0 Kc) a W := by
  intro c
  induction c with
  | skip => intro pr Kc σ a W β σ0 f s g; exact wp_skip ⟨σ, β, s, g, f⟩
  | region id ops draw =>
    intro pr Kc σ a W β σ0 f s g
    simp only [liftCode] at f
    split at f
    · rename_i hd
      subst hd
      exact liftDraw_goes hm (fun c a a' w h => h) (fun a' W' h => h) f s g
    · rename_i hd
      have hd' : draw = false := by simpa using hd
      subst hd'
      refine wp_region ?_
      have := liftOps_goes (Q := PostOf h0 W0 pr σ0 Kc) (all := ops) _ ops.toList 0 σ a W β (Kc .normal) f s g (fun j o h => by simpa using h) (fun a' W' h => h)
      rw [List.range_eq_range']
      simpa using this
  | seq x y ihx ihy =>
    intro pr Kc σ a W β σ0 f s g
    simp only [liftCode] at f
    split at f
    · obtain ⟨pr', Kj, hn, hb, hag, hgo⟩ := join_elim (h0 := h0) (W0 := W0) f g
      refine wp_seq (wp_mono (ihx pr' _ σ a W β σ hb (by rw [hn]; exact s) (Agree.refl _ _)) fun e a' W' h => ?_)
      cases e with
      | normal =>
        obtain ⟨σ', β', s', g', f'⟩ := hgo a' W' h
        exact ihy pr Kc σ' a' W' β' σ0 f' s' g'
      | exit id => exact Goes.weaken hn hag (fun _ k => k) h
      | ret => exact Goes.weaken hn hag (fun _ k => k) h
      | goto l => exact h.elim
      | panic ch => exact h.elim
      | outgrown => exact h.elim
    · refine wp_seq (wp_mono (ihx pr _ σ a W β σ0 f s g) fun e a' W' h => ?_)
      cases e with
      | normal =>
        obtain ⟨σ', β', s', g', f'⟩ := h
        exact ihy pr Kc σ' a' W' β' σ0 f' s' g'
      | exit id => exact h
      | ret => exact h
      | goto l => exact h.elim
      | panic ch => exact h.elim
      | outgrown => exact h.elim
  | cond c x y ihx ihy =>
    intro pr Kc σ a W β σ0 f s g
    simp only [liftCode] at f
    split at f
    · rename_i hc; exact wp_cond_true (ev' s hc (by simp)) (ihx pr Kc σ a W β σ0 f s g)
    · rename_i hc; exact wp_cond_false (ev' s hc (by simp)) (ihy pr Kc σ a W β σ0 f s g)
    · rename_i b hc
      have hev : a.eval c = .bool b := ev' s hc (by simp)
      cases hb : (b : Bool) with
      | true => exact wp_cond_true (by rw [hev, hb]) (ihx pr Kc σ a W β σ0 (f.1 hb) s g)
      | false => exact wp_cond_false (by rw [hev, hb]) (ihy pr Kc σ a W β σ0 (f.2 hb) s g)
    · exact f.elim
  | block id b ih =>
    intro pr Kc σ a W β σ0 f s g
    simp only [liftCode] at f
    refine wp_block (wp_mono (ih pr _ σ a W β σ0 f s g) fun e a' W' h => ?_)
    cases e with
    | normal => exact h
    | exit j =>
      simp only [PostOf] at h
      by_cases e : j = id
      · subst e
        obtain ⟨σ', β', s', g', k⟩ := h
        simp only [beq_self_eq_true, if_true] at k
        simp only [Exit.inBlock, if_true]
        exact ⟨σ', β', s', g', k⟩
      · obtain ⟨σ', β', s', g', k⟩ := h
        rw [if_neg (by simpa using e)] at k
        simp only [Exit.inBlock]
        rw [if_neg e]
        exact ⟨σ', β', s', g', k⟩
    | ret => exact h
    | goto l => exact h.elim
    | panic ch => exact h.elim
    | outgrown => exact h.elim
  | loop b ih =>
    intro pr Kc σ a W β σ0 f s g
    simp only [liftCode] at f
    generalize hts : openOf pr.slots (slotsIn b) = ts at f
    generalize his : openOf pr.boxes (storedBoxes (semAlg P K) b σ) = is at f
    generalize hj : JS.of (semAlg P K) ts is σ = j at f
    have hjs : ∀ t, (j.slots.map (·.1)).contains t = true → ts.contains t = true := fun t ht => packs_keys ts (by rw [← hj] at ht; exact ht)
    have hjb : ∀ i, (j.boxes.map (·.1)).contains i = true → is.contains i = true := fun i hi => packBoxes_keys is (by rw [← hj] at hi; exact hi)
    have h1 : ∀ t ∈ pr.slots, ts.contains t = false := by rw [← hts]; exact openOf_spec
    have h2 : ∀ i ∈ pr.boxes, is.contains i = false := by rw [← his]; exact openOf_spec
    have h3 : ∀ t ∈ (pr.add (semAlg P K) (baseOf (semAlg P K) ts is σ)).slots, ts.contains t = false := by
      intro t ht
      simp only [Prot.add, List.mem_append] at ht
      rcases ht with ht | ht
      · exact keepEnv_keys ts (by rw [List.contains_iff_mem]; exact ht)
      · exact h1 t ht
    have h4 : ∀ i ∈ (pr.add (semAlg P K) (baseOf (semAlg P K) ts is σ)).boxes, is.contains i = false := by
      intro i hi
      simp only [Prot.add, List.mem_append] at hi
      rcases hi with hi | hi
      · exact keepBoxes_keys is (by rw [List.contains_iff_mem]; exact hi)
      · exact h2 i hi
    split at f
    · exact f.elim
    · rename_i init hinit
      obtain ⟨I, ⟨n, hn⟩, hI⟩ := f
      let J : Nat → Act → World → Prop := fun n a W => ∃ σ' β' vs, Sim h0 W0 pr.n β' σ' a W ∧ Agree (pr.add (semAlg P K) (baseOf (semAlg P K) ts is σ)) σ σ' ∧ j.pack (semAlg P K) σ' = some vs ∧ I n (toVs0 vs) σ'.heap
      refine wp_loop_ex J (n := n) ⟨σ, β, init, s, Agree.refl _ _, hinit, hn⟩ ?_
      rintro n a' W' ⟨σ', β', vs, s', g', hp, hi⟩
      obtain ⟨hl, hc⟩ := pack_spec hp
      obtain ⟨vs', ft, h⟩ := allsL_elim _ _ _ (hI n) hc
      have h := h σ'.heap (by show I n (toVs0 vs') _; rw [ft.bps.2.2.2.2]; exact hi)
      have su := s'.unpack (P := P) (K := K) g' hp ft
      have gu : Agree (pr.add (semAlg P K) (baseOf (semAlg P K) ts is σ)) σ (j.unpack (semAlg P K) (baseOf (semAlg P K) ts is σ) vs' σ'.heap) :=
        Agree.unpack (by rw [ft.length, hl]) hjs hjb h3 h4
      refine wp_mono (ih (pr.add (semAlg P K) (baseOf (semAlg P K) ts is σ)) _ _ a' W' β' σ h su gu) fun e a'' W'' hh => ?_
      have back : ∀ σ'', Agree (pr.add (semAlg P K) (baseOf (semAlg P K) ts is σ)) σ σ'' → Agree pr σ0 σ'' := fun σ'' hg =>
        g.trans (hg.weaken (Prot.add_sub (P := P) (K := K) _).1 (Prot.add_sub (P := P) (K := K) _).2)
      cases e with
      | normal =>
        obtain ⟨σ'', β'', s'', g'', k⟩ := hh
        simp only at k
        split at k
        · rename_i ws hws
          obtain ⟨m, hm, hIm⟩ := k
          exact ⟨m, hm, σ'', β'', ws, s'', g'', hws, hIm⟩
        · exact k.elim
      | exit id => exact Goes.weaken (pr := pr) (pr' := pr.add (semAlg P K) (baseOf (semAlg P K) ts is σ)) (σ := σ) rfl back (fun _ k => k) hh
      | ret => exact Goes.weaken (pr := pr) (pr' := pr.add (semAlg P K) (baseOf (semAlg P K) ts is σ)) (σ := σ) rfl back (fun _ k => k) hh
      | goto l => exact hh.elim
      | panic ch => exact hh.elim
      | outgrown => exact hh.elim
  | exit id => intro pr Kc σ a W β σ0 f s g; exact wp_exit ⟨σ, β, s, g, f⟩
  | ret => intro pr Kc σ a W β σ0 f s g; exact wp_ret ⟨σ, β, s, g, f⟩
  | rangeFunc _ _ _ _ => intro pr Kc σ a W β σ0 f; exact f.elim
  | scope _ => intro pr Kc σ a W β σ0 f; exact f.elim
  | label _ => intro pr Kc σ a W β σ0 f; exact f.elim
  | goto _ => intro pr Kc σ a W β σ0 f; exact f.elim
  | refuse _ => intro pr Kc σ a W β σ0 f; exact f.elim

/-! ### Functions -/

theorem run_mapM {α : Type} (f : α → Sem Value) (g : α → Value) (W : World) : ∀ (l : List α), (∀ x ∈ l, (f x).run P W = .ok (g x) W) → (l.mapM f).run P W = .ok (l.map g) W
  | [], _ => rfl
  | x :: l, h => by
    simp only [List.mapM_cons, run_bind, h x (by simp), run_mapM f g W l (fun y hy => h y (by simp [hy])), List.map_cons]; rfl

def resSem (tmps : Array Value) : ResultVar → Sem Value
  | .tmp t => pure (tmps.getD t undef)
  | .cell ad t => do loadVar t (← asAddr (tmps.getD ad undef))

theorem results_eq (fn : Func) (tmps : Array Value) : results fn tmps = (fn.results.mapM (resSem tmps) >>= fun vs => pure (if h : vs.size = 1 then vs[0] else .tuple vs)) := by
  unfold results
  congr 1

theorem one_or (l : List Value) : (if h : l.toArray.size = 1 then l.toArray[0] else Value.tuple l.toArray) = match l with | [v] => v | vs => .tuple vs.toArray := by
  match l with
  | [] => rfl
  | [v] => rfl
  | v :: u :: r => rw [dif_neg (by simp)]

theorem resultOf_run (s : Sim h0 W0 pr.n β σ a W) (r : ResultVar) (d : (resultOf P (semAlg P K) σ r).defd = true) :
    (resSem a.tmps r).run P W = .ok (toV β (resultOf P (semAlg P K) σ r)) W := by
  cases r with
  | tmp t =>
    simp only [resultOf] at d ⊢
    have := s.env t d
    rw [resSem, run_pure, Array.getD_eq_getD_getElem?, this]; rfl
  | cell ad t =>
    simp only [resultOf, resSem] at d ⊢
    split at d
    · rename_i i off n e1 e2 e3
      split at d
      · rename_i x hx
        split at d
        · rename_i hle
          simp only [Nat.ble_eq] at hle
          have hv : a.tmps.getD ad undef = .pointer (some ((⟨β i, 0, none⟩ : Addr).add off)) := by
            have := s.env ad (by rw [e1]; rfl)
            rw [Array.getD_eq_getD_getElem?, this, e1]; rfl
          rw [if_pos (by simpa [Nat.ble_eq] using hle)]
          simp only [hv, asAddr, run_bind, run_pure, loadVar, run_isAgg e2, if_true, run_size e3, toV]
          rw [run_loadCells _ W n (toVs β ((x.cells.drop off).take n)) (by simp [toVs_length]; omega) (fun j v hj => by
            rw [Addr_add_add, blk_add, s.boxCell hx]
            rw [toVs_take, toVs_drop, List.getElem?_take] at hj
            split at hj
            · rw [List.getElem?_drop] at hj; exact hj
            · cases hj)]
        · simp [SV.defd] at d
      · simp [SV.defd] at d
    · rename_i i off e1 e2
      cases hx : getBox σ.boxes i with
      | none => rw [hx] at d; simp [SV.defd] at d
      | some x =>
        rw [hx] at d
        simp only [Option.bind_some] at d ⊢
        cases hc : x.cells[off]? with
        | none => rw [hc] at d; simp [SV.defd] at d
        | some v =>
          have hv : a.tmps.getD ad undef = .pointer (some ((⟨β i, 0, none⟩ : Addr).add off)) := by
            have := s.env ad (by rw [e1]; rfl)
            rw [Array.getD_eq_getD_getElem?, this, e1]; rfl
          simp only [hv, asAddr, run_bind, run_pure, loadVar, run_isAgg e2, Bool.false_eq_true, if_false, Option.getD_some]
          refine run_load .plain ?_
          rw [blk_add, s.boxCell hx, toVs_get?, hc]; rfl
    · simp [SV.defd] at d

theorem results_run {fn : Func} (s : Sim h0 W0 pr.n β σ a W) (d : (resultS P (semAlg P K) fn σ).defd = true) :
    (results fn a.tmps).run P W = .ok (toV β (resultS P (semAlg P K) fn σ)) W := by
  have hd : ∀ r ∈ fn.results.toList, (resultOf P (semAlg P K) σ r).defd = true := by
    intro r hr
    unfold resultS at d
    split at d
    · rename_i v hv
      have : resultOf P (semAlg P K) σ r ∈ [v] := by rw [← hv]; exact List.mem_map_of_mem hr
      rw [List.mem_singleton] at this; rw [this]; exact d
    · exact defds_mem (by simpa [SV.defd] using d) (List.mem_map_of_mem hr)
  have hm := run_mapM (P := P) (resSem a.tmps) (fun r => toV β (resultOf P (semAlg P K) σ r)) W fn.results.toList (fun r hr => resultOf_run s r (hd r hr))
  have hm' : (fn.results.mapM (resSem a.tmps)).run P W = .ok (fn.results.toList.map fun r => toV β (resultOf P (semAlg P K) σ r)).toArray W := by
    rw [Array.mapM_eq_mapM_toList]
    show ((fn.results.toList.mapM (resSem a.tmps)) >>= fun l => (pure l.toArray : Sem (Array Value))).run P W = _
    rw [run_bind, hm]; rfl
  rw [results_eq, run_bind, hm']
  simp only [run_pure, one_or]
  have hl : ∀ l : List ResultVar, (l.map fun r => toV β (resultOf P (semAlg P K) σ r)) = toVs β (l.map (resultOf P (semAlg P K) σ)) := fun l => by
    induction l with
    | nil => rfl
    | cons x l ih => simp only [List.map_cons, toVs, ih]
  rw [hl]
  unfold resultS
  generalize fn.results.toList.map (resultOf P (semAlg P K) σ) = l
  match l with
  | [] => rfl
  | [v] => rfl
  | v :: u :: r => rfl

theorem getEnv_zip : ∀ (l : List SVs) (k t : Nat), getEnv ((l.zipIdx k).map fun x => (x.2, x.1)) t = if t < k then .undef else (l[t - k]?).getD .undef
  | [], k, t => by simp [getEnv]
  | v :: l, k, t => by
    simp only [List.zipIdx_cons, List.map_cons, getEnv]
    by_cases e : k = t
    · subst e; simp
    · rw [if_neg (by simpa using e), getEnv_zip l (k + 1) t]
      by_cases h : t < k
      · rw [if_pos (by omega), if_pos h]
      · rw [if_neg (by omega), if_neg h]
        have : t - k = (t - (k + 1)) + 1 := by omega
        rw [this]; simp

/-- **The lifter is sound.** -/
theorem lift_sound (hm : P.follows .mixedOrders = true) {f : FuncId} {args : List SVs} {h : H} (hf : liftFn P (semAlg P K) f args h) : Spec P f (toVs0 args).toArray h K := by
  unfold liftFn at hf
  split at hf
  · exact hf.elim
  · rename_i fn hfn
    split at hf
    · exact hf.elim
    · rename_i c hc
      split at hf
      · exact hf.elim
      · rename_i hcond
        simp only [Bool.or_eq_true, not_or, Bool.not_eq_true', Bool.not_eq_false, Bool.and_eq_true, List.isEmpty_iff, Nat.ble_eq] at hcond
        obtain ⟨⟨hd, hb⟩, hlen⟩ := hcond
        intro W sub
        refine calls_of_wp hfn hc ?_
        have s : Sim h W fn.ntmps (fun _ => 0) { env := args.zipIdx.map fun (v, i) => (i, v), boxes := [], heap := h }
            { tmps := (toVs0 args).toArray ++ Array.replicate (fn.ntmps - (toVs0 args).toArray.size) undef, defers := [] } W := {
          env := fun t ht => by
            have e := getEnv_zip args 0 t
            simp only [Nat.not_lt_zero, if_false, Nat.sub_zero] at e
            have e' : getEnv (args.zipIdx.map fun (v, i) => (i, v)) t = (args[t]?).getD .undef := e
            simp only [e'] at ht ⊢
            cases hv : args[t]? with
            | none => rw [hv] at ht; simp [SV.defd] at ht
            | some v =>
              have hlt : t < args.length := (List.getElem?_eq_some_iff.1 hv).1
              simp only [Option.getD_some]
              rw [Array.getElem?_append_left (by simp [toVs_length]; exact hlt), List.getElem?_toArray, toVs_get?, hv]; rfl
          size := by simp [toVs_length]; omega
          defers := rfl
          sub := sub
          frame := Frame.refl _ _
          box := fun i x hx => by cases hx
          inj := fun i j x y hx => by cases hx }
        refine wp_mono (liftCode_goes hm c _ _ _ _ W _ _ hf s (Agree.refl _ _)) fun e a' W' hh => ?_
        have fin : ∀ {σ : St semAt} {β : Nat → Nat}, Sim h W fn.ntmps β σ a' W' →
            (publishAll (semAlg P K) ⟨[], [], fn.ntmps⟩ (resultS P (semAlg P K) fn σ).bps σ fun σ' =>
              if (resultS P (semAlg P K) fn σ').defd && (resultS P (semAlg P K) fn σ').bps.isEmpty then (semAlg P K).ret (resultS P (semAlg P K) fn σ') σ'.heap else (semAlg P K).fls) →
            a'.defers = [] ∧ ∃ v, (results fn a'.tmps).run P W' = .ok v W' ∧ ∃ v' h', Ending.returned v = .returned v' ∧ Sub h' W' ∧ Frame h W h' W' ∧ K v' h' := by
          intro σ β s f
          obtain ⟨σ', s', _, k⟩ := publishAll_elim (pr := ⟨[], [], fn.ntmps⟩) (σ0 := σ) _ σ _ f s (Agree.refl _ _)
          split at k
          · rename_i hc
            simp only [Bool.and_eq_true, List.isEmpty_iff] at hc
            refine ⟨s'.defers, _, results_run (pr := ⟨[], [], fn.ntmps⟩) (K := K) s' hc.1, _, σ'.heap, rfl, s'.sub, s'.frame, ?_⟩
            rw [toV_nobp hc.2]; exact k
          · exact k.elim
        cases e with
        | normal =>
          obtain ⟨σ', β', s', _, k⟩ := hh
          exact fin s' k
        | ret =>
          obtain ⟨σ', β', s', _, k⟩ := hh
          exact fin s' k
        | exit id =>
          obtain ⟨σ', β', s', _, k⟩ := hh
          exact k.elim
        | goto l => exact hh.elim
        | panic ch => exact hh.elim
        | outgrown => exact hh.elim
end Lf

