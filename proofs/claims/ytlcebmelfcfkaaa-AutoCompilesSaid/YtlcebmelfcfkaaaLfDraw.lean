/- Regions that draw their order: an operation that only looks may be taken first where nothing that may come before it grows or changes what it looks at. -/
import Derived.Test.YtlcebmelfcfkaaaLfYld
import Derived.OrdersHeld
namespace Lf
open Go

section
variable {P : Program} {ops : Array Oper} {Q : Exit → Act → World → Prop} {S : World → Prop} {j0 : Nat}

/-- As long as j0 has not come up, S holds. -/
def Till (S : World → Prop) (j0 : Nat) (L : Array Bool) (W : World) : Prop := L.getD j0 false = true ∨ S W

def wpG (P : Program) (ops : Array Oper) (Q : Exit → Act → World → Prop) (S : World → Prop) (j0 : Nat) : Nat → Array Bool → Act → World → Prop
  | 0, L, a, w => Region.ready .any ops L = [] ∧ Q .normal a w
  | n + 1, L, a, w =>
    (Region.ready .any ops L = [] → Q .normal a w) ∧
    ∀ i ∈ Region.ready .any ops L, wpOp P ops Q i (fun a' w' => Till S j0 (L.setIfInBounds i true) w' ∧ wpG P ops Q S j0 n (L.setIfInBounds i true) a' w') a w

theorem wpAny_of_G : ∀ (n : Nat) (L : Array Bool) (a : Act) (w : World), wpG P ops Q S j0 n L a w → wpAny P .any ops Q n L a w
  | 0, _, _, _, h => h
  | n + 1, _, _, _, h => ⟨h.1, fun i hi => wpOp_mono (fun a' w' h' => wpAny_of_G n _ a' w' h'.2) (h.2 i hi)⟩

/-- What stands behind what has come up has come up. -/
def Closed (ops : Array Oper) (L : Array Bool) : Prop :=
  L.size = ops.size ∧ ∀ k o, ops[k]? = some o → L.getD k false = true → ∀ e ∈ o.after, Region.binds .any e = true → L.getD e.on false = true

theorem closed_set {L : Array Bool} {i : Nat} (c : Closed ops L) (h : i ∈ Region.ready .any ops L) : Closed ops (L.setIfInBounds i true) := by
  refine ⟨by simp [c.1], fun k o hk hl e he hb => ?_⟩
  by_cases e1 : i = k
  · subst e1
    obtain ⟨_, o', ho, hall⟩ := mem_ready.1 h
    rw [hk] at ho; cases ho
    exact getD_set_true (hall e he hb)
  · rw [getD_set_ne false e1] at hl
    exact getD_set_true (c.2 k o hk hl e he hb)

theorem backs_spec {L : Array Bool} (c : Closed ops L) : ∀ (k : Nat) (m : List Nat), (∀ x ∈ m, L.getD x false = true) → ∀ x ∈ backs ops k m, L.getD x false = true
  | 0, m, h, x, hx => h x hx
  | k + 1, m, h, x, hx => by
    simp only [backs] at hx
    refine backs_spec c k _ ?_ x hx
    intro y hy
    split at hy
    · rename_i hm
      split at hy
      · rename_i o ho
        rcases List.mem_append.1 hy with hy | hy
        · obtain ⟨e, he, rfl⟩ := List.mem_map.1 hy
          have ⟨h1, h2⟩ := List.mem_filter.1 he
          exact c.2 k o ho (h k (by simpa using hm)) e (by simpa using h1) h2
        · exact h y hy
      · exact h y hy
    · exact h y hy

theorem getD_set_cases {L : Array Bool} {i j : Nat} (h : (L.setIfInBounds i true).getD j false = true) : i = j ∨ L.getD j false = true := by
  by_cases e : i = j
  · exact .inl e
  · rw [getD_set_ne false e] at h; exact .inr h

theorem till_set {L : Array Bool} {i : Nat} {w : World} (h : Till S j0 L w) : Till S j0 (L.setIfInBounds i true) w := h.imp getD_set_true id

theorem till_unset {L : Array Bool} {i : Nat} {w : World} (hne : i ≠ j0) (h : Till S j0 (L.setIfInBounds i true) w) : Till S j0 L w :=
  h.imp (fun h => (getD_set_cases h).resolve_left hne) id

/-- An operation may be taken first that yields its value as long as S holds, if j0 waits for it; or if it yields it in every world. -/
theorem wpG_first {V : World → Prop} {i : Nat} {oi : Oper} {v : Value} (hi : ops[i]? = some oi) (hne : i ≠ j0) (hsel : ∀ (j : Nat) (o : Oper) cs b, ops[j]? = some o → o.op ≠ .select cs b)
    (hQ : ∀ c a w, Q (.panic c) (a.put oi.dst v) w → Q (.panic c) a w) (hV : ∀ L w, Closed ops L → L.getD i true = false → Till S j0 L w → V w) :
    ∀ (fuel : Nat) (L : Array Bool) (a : Act) (w : World), Closed ops L →
      (∀ j oj, ops[j]? = some oj → j ≠ i → L.getD j true = false → (∀ e ∈ oj.after, Region.binds .any e = true → e.on ≠ i) → oi.apart ops oj = true) →
      i ∈ Region.ready .any ops L → YieldsIf P ops V oi v a → Till S j0 L w →
      wpG P ops Q S j0 fuel (L.setIfInBounds i true) (a.put oi.dst v) w → wpG P ops Q S j0 (fuel + 1) L a w := by
  intro fuel
  induction fuel with
  | zero =>
    intro L a w hc hfree hr hy hS H
    refine ⟨fun h => (by rw [h] at hr; cases hr), fun j hj => ?_⟩
    by_cases hji : j = i
    · subst hji; exact hy.wpOp hi (hV L w hc (mem_ready.1 hr).1 hS) ⟨till_set hS, H⟩
    · have := ready_mono hj hji
      rw [H.1] at this
      cases this
  | succ fuel ih =>
    intro L a w hc hfree hr hy hS H
    refine ⟨fun h => (by rw [h] at hr; cases hr), fun j hj => ?_⟩
    by_cases hji : j = i
    · subst hji; exact hy.wpOp hi (hV L w hc (mem_ready.1 hr).1 hS) ⟨till_set hS, H⟩
    · have h1 := H.2 j (ready_mono hj hji)
      obtain ⟨hjun, oj, hoj, hall⟩ := mem_ready.1 hj
      have hnot : ∀ e ∈ oj.after, Region.binds .any e = true → e.on ≠ i := fun e he hb heq => by
        have h1 := hall e he hb
        have h0 := (mem_ready.1 hr).1
        rw [heq] at h1
        rcases Nat.lt_or_ge i L.size with h' | h'
        · simp [h'] at h0 h1; rw [h0] at h1; cases h1
        · simp [Array.getElem?_eq_none h'] at h1
      have h2 := wpOp_putIf hoj (hfree j oj hoj hji hjun hnot) (fun cs b => hsel i oi cs b hi) (fun cs b => hsel j oj cs b hoj) hQ hy h1
      have hfree' : ∀ k ok, ops[k]? = some ok → k ≠ i → (L.setIfInBounds j true).getD k true = false →
          (∀ e ∈ ok.after, Region.binds .any e = true → e.on ≠ i) → oi.apart ops ok = true := fun k ok hk hki hun hno => by
        refine hfree k ok hk hki ?_ hno
        by_cases hjk : j = k
        · subst hjk; exact hjun
        · rw [getD_set_ne true hjk] at hun; exact hun
      refine wpOp_mono (fun a' w' h3 => ?_) h2
      have ht : Till S j0 (L.setIfInBounds j true) w' := by
        refine till_unset (i := i) hne ?_
        rw [Array.setIfInBounds_comm _ _ (Ne.symm (Ne.symm hji))]; exact h3.2.1
      refine ⟨ht, ih (L.setIfInBounds j true) a' w' (closed_set hc hj) hfree' (ready_mono hr (Ne.symm hji)) h3.1 ht ?_⟩
      rw [Array.setIfInBounds_comm _ _ hji]
      exact h3.2.2

theorem wpG_done {L : Array Bool} {a : Act} {w : World} (hr : Region.ready .any ops L = []) (h : Q .normal a w) : ∀ fuel, wpG P ops Q S j0 fuel L a w
  | 0 => ⟨hr, h⟩
  | _ + 1 => ⟨fun _ => h, by rw [hr]; simp⟩

theorem wpG_one {i fuel : Nat} {L : Array Bool} {a : Act} {w : World} (hr : Region.ready .any ops L = [i])
    (h : wpOp P ops Q i (fun a' w' => Till S j0 (L.setIfInBounds i true) w' ∧ wpG P ops Q S j0 fuel (L.setIfInBounds i true) a' w') a w) : wpG P ops Q S j0 (fuel + 1) L a w :=
  ⟨fun h0 => (by rw [hr] at h0; cases h0), fun j hj => (by rw [hr] at hj; simp only [List.mem_singleton] at hj; subst hj; exact h)⟩

/-- How many have not come up. -/
def left (L : Array Bool) : Nat := L.toList.count false

theorem ready_lt {L : Array Bool} {i : Nat} (h : i ∈ Region.ready .any ops L) : ∃ hl : i < L.toList.length, L.toList[i] = false := by
  have h0 := (mem_ready.1 h).1
  rcases Nat.lt_or_ge i L.size with h' | h'
  · refine ⟨by simpa using h', ?_⟩
    simp [h'] at h0; simpa using h0
  · simp [Array.getElem?_eq_none h'] at h0

theorem left_set {L : Array Bool} {i m : Nat} (h : i ∈ Region.ready .any ops L) (hm : left L ≤ m) : ∃ k, m = k + 1 ∧ left (L.setIfInBounds i true) ≤ k := by
  obtain ⟨hl, he⟩ := ready_lt h
  have hpos : 0 < L.toList.count false := List.count_pos_iff.2 (by rw [← he]; exact List.getElem_mem hl)
  have hs : left (L.setIfInBounds i true) = left L - 1 := by
    unfold left
    rw [Array.toList_setIfInBounds, List.count_set hl, he]; simp
  unfold left at *
  exact ⟨m - 1, by omega, by omega⟩
end

variable {P : Program} {K : Value → H → Prop}
variable {h0 : H} {W0 : World} {pr : Prot} {β : Nat → Nat} {σ σ0 : St semAt} {a : Act} {W : World} {Kt : St semAt → Prop} {Q : Exit → Act → World → Prop}

/-- What an operation leaves is the activation with its slot filled. -/
theorem wp_form {o : Oper} {N : Act → World → Prop} (h : o.wp P a W N Q) : o.wp P a W (fun a' W' => N a' W' ∧ (a'.defers = [] → ∃ v, a' = a.put o.dst v)) Q := by
  unfold Oper.wp at *
  generalize (execOp a.eval o).run P W = r at *
  cases r with
  | ok n w' =>
    cases n <;> simp only [Oper.upon] at h ⊢ <;> first
      | exact h
      | exact ⟨h, fun _ => ⟨_, rfl⟩⟩
      | (exact h.mono fun e w'' h' => by cases e <;> first | exact ⟨h', fun _ => ⟨_, rfl⟩⟩ | exact h')
      | (exact h.mono fun v w'' h' => ⟨h', fun _ => ⟨_, rfl⟩⟩)
      | (refine ⟨h, fun hd => ?_⟩; cases hdst : o.dst <;> simp [Act.put, hdst] at hd)
  | halt x w' => cases x <;> exact h

theorem getEnv_noBp (t : Nat) : ∀ e : List (Nat × SVs), (getEnv (noBpEnv e) t).defd = true → getEnv (noBpEnv e) t = getEnv e t
  | [], h => rfl
  | (u, v) :: r, h => by
    simp only [noBpEnv] at h ⊢
    split at h
    · rename_i hv
      rw [if_pos hv]
      simp only [getEnv] at h ⊢
      split
      · rfl
      · rename_i e; rw [if_neg e] at h; exact getEnv_noBp t r h
    · rename_i hv
      rw [if_neg hv]
      simp only [getEnv] at h ⊢
      split
      · rename_i e; rw [if_pos e] at h; cases h
      · rename_i e; rw [if_neg e] at h; exact getEnv_noBp t r h

theorem effOp_goes {o : Oper} {hs : H} (f : effOp P (semAlg P K) pr o hs σ Kt) (s : Sim h0 W0 pr.n β σ a W) (g : Agree pr σ0 σ) :
    o.wp P a W (fun a' W' => ∃ σ', Sim h0 W0 pr.n β σ' a' W' ∧ Agree pr σ0 σ' ∧ σ'.boxes = σ.boxes ∧ Le hs σ'.heap ∧ Kt σ') Q := by
  unfold effOp at f
  have s1 : Sim σ.heap W pr.n β { env := noBpEnv σ.env, boxes := [], heap := σ.heap } a W :=
    { env := fun t ht => by
        have e := getEnv_noBp t σ.env ht
        replace ht : (getEnv (noBpEnv σ.env) t).defd = true := ht
        show a.tmps[t]? = some (toV β (getEnv (noBpEnv σ.env) t))
        rw [e] at ht ⊢; exact s.env t ht
      size := s.size, defers := s.defers, sub := s.sub, frame := Frame.refl _ _
      box := fun i x hx => by simp [getBox] at hx
      inj := fun i j x y hx => by simp [getBox] at hx }
  refine opWp_mono (fun a' W' h => ?_) (wp_form (opCore_goes (Q := Q) f s1 (Agree.refl _ _)))
  obtain ⟨⟨σ', β', s', _, k⟩, hform⟩ := h
  obtain ⟨v, rfl⟩ := hform s'.defers
  have st := s.step s'.sub s'.frame
  cases hd : o.dst with
  | none =>
    rw [hd] at k
    obtain ⟨hle, k⟩ := k
    exact ⟨_, st, ⟨g.slots, g.boxes⟩, rfl, hle, k⟩
  | some d =>
    rw [hd] at k s'
    simp only at k
    split at k
    · rename_i hb
      obtain ⟨hle, k⟩ := k
      simp only [put] at k
      split at k
      · exact k.elim
      · rename_i h
        rw [Bool.or_eq_true, not_or] at h
        have h1 : pr.slots.contains d = false := by simpa using h.1
        have h2 : d < pr.n := by have := h.2; simp only [Bool.not_eq_true', Bool.not_eq_false] at this; exact Nat.le_of_ble_eq_true this
        refine ⟨_, st.put h2 (v := getEnv σ'.env d) fun hd' => ?_, Agree.put h1 ⟨g.slots, g.boxes⟩, rfl, hle, k⟩
        have e := s'.env d hd'
        simp only [Act.put] at e
        rw [Array.getElem?_setIfInBounds, if_pos rfl, if_pos (by rw [s.size]; exact h2)] at e
        have hbn : (getEnv σ'.env d).bps = [] := by simpa using hb
        rw [toV_nobp hbn, ← toV_nobp (β := β') hbn]
        exact (Option.some.inj e).symm
    · exact k.elim

theorem guard_yes {ops : Array Oper} {o : Oper} (s : Sim h0 W0 pr.n β σ a W) (h : guardS (semAlg P K) ops σ o = .yes) : Region.wanted o (yielded ops a.tmps) = true := by
  unfold guardS at h
  split at h
  · rename_i hg; exact wanted_none hg _
  · rename_i j want hg
    split at h
    · cases h
    · rename_i t ht
      split at h
      · rename_i b hb
        split at h
        · rename_i e
          have hy := yielded_of s ht (b := b) (fun β => by rw [hb]; rfl) (by rw [hb]; rfl)
          simp only [Region.wanted, hg, hy]
          simp only [beq_iff_eq] at e; subst e; simp
        · cases h
      · cases h
      · cases h
      · cases h

theorem guard_no {ops : Array Oper} {o : Oper} (s : Sim h0 W0 pr.n β σ a W) (h : guardS (semAlg P K) ops σ o = .no) : Region.wanted o (yielded ops a.tmps) = false := by
  unfold guardS at h
  split at h
  · cases h
  · rename_i j want hg
    split at h
    · cases h
    · rename_i t ht
      split at h
      · rename_i b hb
        split at h
        · cases h
        · rename_i e
          have hy := yielded_of s ht (b := b) (fun β => by rw [hb]; rfl) (by rw [hb]; rfl)
          simp only [Region.wanted, hg, hy]
          cases b <;> cases want <;> simp_all
      · cases h
      · rename_i hb
        have hy : yielded ops a.tmps j = none := by
          unfold yielded
          rw [ht]
          simp only [Option.bind_some, s.env t (by rw [hb]; rfl), hb]
          rfl
        simp only [Region.wanted, hg, hy]; rfl
      · cases h


theorem open_spec {ops : Array Oper} {t : Nat} {b : Bool} : ∀ {l : List Nat}, openGuard (semAlg P K) ops σ l = some (t, b) → getEnv σ.env t = .bool b
  | [], h => by cases h
  | i :: r, h => by
    simp only [openGuard] at h
    split at h
    · exact open_spec h
    · split at h
      · rename_i t' b' hg
        simp only [Option.some.injEq, Prod.mk.injEq] at h
        obtain ⟨rfl, rfl⟩ := h
        unfold guardS at hg
        split at hg
        · cases hg
        · split at hg
          · cases hg
          · split at hg
            · split at hg <;> cases hg
            · rename_i b1 hb; cases hg; exact hb
            · cases hg
            · cases hg
      · exact open_spec h

theorem drawGo_goes {ops : Array Oper} {j0 : Nat} {hs : H} {β0 : Nat → Nat} {σS : St semAt} (hsel : Region.noSelect ops = true) (hsS : σS.heap = hs)
    (hQ : ∀ c a a' w, Q (.panic c) a' w → Q (.panic c) a w) (c1 : ∀ b, b < W0.heap.size → h0 b = none → hs b = none) (c2 : ∀ i x, getBox σS.boxes i = some x → hs (β0 i) = none)
    (hC : ∀ a' W', Goes h0 W0 pr σ0 Kt a' W' → Q .normal a' W') :
    ∀ (n : Nat) (L : Array Bool) (σ : St semAt) (a : Act) (W : World) (β : Nat → Nat) (m : Nat), drawGo P (semAlg P K) pr ops j0 (backs ops ops.size [j0]) hs n L σ Kt →
      Closed ops L → left L ≤ m → Sim h0 W0 pr.n β σ a W → Agree pr σ0 σ → Till (Vw β0 σS) j0 L W → (L.getD j0 false = false → β = β0 ∧ σ.boxes = σS.boxes) →
      wpG P ops Q (Vw β0 σS) j0 m L a W
  | 0, _, _, _, _, _, _, f, _, _, _, _, _, _ => f.elim
  | n + 1, L, σ, a, W, β, m, f, hc, hm, s, g, ht, hb => by
    simp only [drawGo] at f
    split at f
    · rename_i hr
      exact wpG_done hr (hC a W ⟨σ, β, s, g, f⟩) m
    · rename_i i0 rs hr
      split at f
      · rename_i t b ho
        have hbv := open_spec ho
        split at f
        · exact f.elim
        · rename_i hp
          have hp' : pr.slots.contains t = false := by simpa using hp
          obtain ⟨f1, f2⟩ := f
          cases hbb : (b : Bool) with
          | true =>
            have hb' : getEnv σ.env t = .bool true := by rw [hbv, ← hbb]
            exact drawGo_goes hsel hsS hQ c1 c2 hC n L _ a W β m (f1 hbb) hc hm (s.known (P := P) (K := K) hb') (g.known (P := P) (K := K) (b := true) hp') ht hb
          | false =>
            have hb' : getEnv σ.env t = .bool false := by rw [hbv, ← hbb]
            exact drawGo_goes hsel hsS hQ c1 c2 hC n L _ a W β m (f2 hbb) hc hm (s.known (P := P) (K := K) hb') (g.known (P := P) (K := K) (b := false) hp') ht hb
      · split at f
        · -- one that is taken first
          rename_i i hf
          have hmem : i ∈ Region.ready .any ops L := by rw [hr]; exact List.mem_of_find?_eq_some hf
          have hmay := List.find?_some hf
          obtain ⟨k, rfl, hk⟩ := left_set hmem hm
          split at f
          · exact f.elim
          · rename_i o hoi
            simp only [mayTake, hoi] at hmay
            split at f
            · -- wanted
              rename_i hg
              rw [hg] at hmay
              simp only [Bool.and_eq_true, Bool.not_eq_true', Bool.or_eq_true] at hmay
              obtain ⟨⟨⟨⟨hne, hq⟩, hld⟩, hms⟩, hfree⟩ := hmay
              have hne' : i ≠ j0 := by simpa using hne
              have fin : ∀ {V : World → Prop} {v : SVs} {val : Value}, (∀ L w, Closed ops L → L.getD i true = false → Till (Vw β0 σS) j0 L w → V w) →
                  (∀ W, V W → (execOp a.eval o).run P W = .ok (.value val) W) → (v.defd = true → toV β v = val) →
                  put (semAlg P K) pr o.dst v σ (fun σ' => drawGo P (semAlg P K) pr ops j0 (backs ops ops.size [j0]) hs n (L.setIfInBounds i true) σ' Kt) →
                  wpG P ops Q (Vw β0 σS) j0 (k + 1) L a W := by
                intro V v val hV hrun hv hp
                refine wpG_first hoi hne' (Region.noSelect_spec hsel) (fun c a w => hQ c _ _ w) hV k L a W hc (Region.free_spec hoi hfree) hmem (.inl ⟨guard_yes s hg, hrun⟩) ht ?_
                cases hd : o.dst with
                | none =>
                  rw [hd] at hp
                  exact drawGo_goes hsel hsS hQ c1 c2 hC n _ σ a W β k hp (closed_set hc hmem) hk s g (till_set ht) (fun h => hb (by
                    rw [getD_set_ne false hne'] at h; exact h))
                | some d =>
                  rw [hd] at hp
                  simp only [put] at hp
                  split at hp
                  · exact hp.elim
                  · rename_i h
                    rw [Bool.or_eq_true, not_or] at h
                    have h1 : pr.slots.contains d = false := by simpa using h.1
                    have h2 : d < pr.n := by have := h.2; simp only [Bool.not_eq_true', Bool.not_eq_false] at this; exact Nat.le_of_ble_eq_true this
                    exact drawGo_goes hsel hsS hQ c1 c2 hC n _ _ _ W β k hp (closed_set hc hmem) hk (s.put h2 hv) (g.put h1) (till_set ht) (fun h => hb (by
                      rw [getD_set_ne false hne'] at h; exact h))
              cases hl : isLoad o.op with
              | false =>
                rw [hl] at f
                simp only [Bool.false_eq_true, if_false] at f
                obtain ⟨v, val, f', hv, hrun⟩ := opCore_yld (V := fun _ => True) f hq (fun h => by rw [hl] at h; cases h) s g
                exact fin (V := fun _ => True) (fun _ _ _ _ _ => trivial) hrun hv f'
              | true =>
                rw [hl] at f hld
                simp only [if_true] at f
                simp only [Bool.true_eq_false, false_or] at hld
                obtain ⟨hb1, hb2⟩ := hb hld.1
                subst hb1
                have hS : Vw β σS W := by
                  rcases ht with h | h
                  · rw [hld.1] at h; cases h
                  · exact h
                have s1 : Sim h0 W0 pr.n β { σ with heap := hs } a W :=
                  { env := s.env, size := s.size, defers := s.defers
                    sub := by have := hS.sub; rw [hsS] at this; exact this
                    frame := ⟨s.frame.1, fun b hbl hn => ⟨c1 b hbl hn, (s.frame.2 b hbl hn).2⟩, s.frame.3⟩
                    box := fun i x hx => by
                      obtain ⟨d, w, _, l⟩ := s.box i x hx
                      exact ⟨d, w, c2 i x (by rw [← hb2]; exact hx), l⟩
                    inj := s.inj }
                have hVw : ∀ W, Vw β σS W → Vw β { σ with heap := hs } W := fun W h =>
                  ⟨by have := h.sub; rw [hsS] at this; exact this, fun i x hx => h.box i x (by rw [← hb2]; exact hx)⟩
                have hq1 : isQuiet P (semAlg P K) { σ with heap := hs } o.op = true := hq
                obtain ⟨v, val, f', hv, hrun⟩ := opCore_yld (V := Vw β σS) (σ0 := { σ with heap := hs }) f hq1 (fun _ W h => hVw W h) s1 (Agree.refl _ _)
                refine fin (V := Vw β σS) (v := v) (fun L' w hc' hun ht' => ?_) hrun hv ?_
                · rcases ht' with h | h
                  · exfalso
                    have hlt : j0 < ops.size := by
                      rw [← hc'.1]
                      rcases Nat.lt_or_ge j0 L'.size with h' | h'
                      · exact h'
                      · simp [Array.getElem?_eq_none h'] at h
                    have hld2 := hld.2.resolve_right (fun hle => by simp only [Nat.ble_eq] at hle; omega)
                    have := backs_spec hc' ops.size [j0] (by simpa using h) i (by simpa using hld2)
                    rcases Nat.lt_or_ge i L'.size with h' | h'
                    · simp [h'] at this hun; rw [this] at hun; cases hun
                    · simp [Array.getElem?_eq_none h'] at this
                  · exact h
                · cases hd : o.dst with
                  | none => rw [hd] at f'; exact f'
                  | some d => rw [hd] at f'; exact f'
            · -- unwanted
              rename_i hg
              rw [hg] at hmay
              simp only [Bool.and_eq_true, Bool.not_eq_true'] at hmay
              obtain ⟨hne, hfree⟩ := hmay
              have hne' : i ≠ j0 := by simpa using hne
              refine wpG_first (V := fun _ => True) hoi hne' (Region.noSelect_spec hsel) (fun c a w => hQ c _ _ w) (fun _ _ _ _ _ => trivial) k L a W hc (Region.free_spec hoi hfree) hmem (.inr ⟨guard_no s hg, rfl⟩) ht ?_
              cases hd : o.dst with
              | none =>
                rw [hd] at f
                exact drawGo_goes hsel hsS hQ c1 c2 hC n _ σ a W β k f (closed_set hc hmem) hk s g (till_set ht) (fun h => hb (by
                  rw [getD_set_ne false hne'] at h; exact h))
              | some d =>
                rw [hd] at f
                simp only [put] at f
                split at f
                · exact f.elim
                · rename_i h
                  rw [Bool.or_eq_true, not_or] at h
                  have h1 : pr.slots.contains d = false := by simpa using h.1
                  have h2 : d < pr.n := by have := h.2; simp only [Bool.not_eq_true', Bool.not_eq_false] at this; exact Nat.le_of_ble_eq_true this
                  exact drawGo_goes hsel hsS hQ c1 c2 hC n _ _ _ W β k f (closed_set hc hmem) hk (s.put (v := .tuple []) (val := undef) h2 (fun _ => rfl)) (g.put h1) (till_set ht) (fun h => hb (by
                    rw [getD_set_ne false hne'] at h; exact h))
            · exact f.elim
        · -- one alone
          split at f
          · have hmem : i0 ∈ Region.ready .any ops L := by rw [hr]; simp
            obtain ⟨k, rfl, hk⟩ := left_set hmem hm
            split at f
            · exact f.elim
            · rename_i o hoi
              split at f
              · rename_i hg
                refine wpG_one hr ?_
                unfold wpOp
                rw [hoi]
                simp only [guard_yes s hg, if_true]
                refine .inl ?_
                split at f
                · rename_i hj
                  refine opWp_mono (fun a' W' h => ?_) (liftOp_goes (Q := Q) f s g)
                  obtain ⟨σ', β', s', g', f'⟩ := h
                  have hgr : (L.setIfInBounds i0 true).getD j0 false = true := by
                    simp only [Bool.or_eq_true, beq_iff_eq] at hj
                    rcases hj with hj | hj
                    · exact getD_set_true hj
                    · subst hj
                      obtain ⟨hl, _⟩ := ready_lt hmem
                      have hl' : i0 < L.size := by simpa using hl
                      simp [hl']
                  exact ⟨.inl hgr, drawGo_goes hsel hsS hQ c1 c2 hC n _ σ' a' W' β' k f' (closed_set hc hmem) hk s' g' (.inl hgr) (fun h => by rw [hgr] at h; cases h)⟩
                · rename_i hj
                  simp only [Bool.or_eq_true, not_or, Bool.not_eq_true, beq_eq_false_iff_ne] at hj
                  obtain ⟨hb1, hb2⟩ := hb hj.1
                  subst hb1
                  have hne' : i0 ≠ j0 := hj.2
                  refine opWp_mono (fun a' W' h => ?_) (effOp_goes (Q := Q) f s g)
                  obtain ⟨σ', s', g', hbx, hle, f'⟩ := h
                  have hS : Vw β σS W' := ⟨by rw [hsS]; exact s'.sub.mono hle, fun i x hx => (s'.box i x (by rw [hbx, hb2]; exact hx)).2.1⟩
                  exact ⟨.inr hS, drawGo_goes hsel hsS hQ c1 c2 hC n _ σ' a' W' β k f' (closed_set hc hmem) hk s' g' (.inr hS) (fun _ => ⟨rfl, by rw [hbx, hb2]⟩)⟩
              · rename_i hg
                have hj : i0 = j0 ∨ i0 ≠ j0 := Decidable.em _
                have hb' : (L.setIfInBounds i0 true).getD j0 false = false → β = β0 ∧ σ.boxes = σS.boxes := fun h => by
                  rcases hj with hj | hj
                  · subst hj
                    obtain ⟨hl, _⟩ := ready_lt hmem
                    have hl' : i0 < L.size := by simpa using hl
                    simp [hl'] at h
                  · rw [getD_set_ne false hj] at h; exact hb h
                have ht' : Till (Vw β0 σS) j0 (L.setIfInBounds i0 true) W := till_set ht
                refine wpG_one hr (YieldsIf.wpOp hoi (S := fun _ => True) (v := undef) (.inr ⟨guard_no s hg, rfl⟩) trivial ⟨ht', ?_⟩)
                cases hd : o.dst with
                | none =>
                  rw [hd] at f
                  exact drawGo_goes hsel hsS hQ c1 c2 hC n _ σ a W β k f (closed_set hc hmem) hk s g ht' hb'
                | some d =>
                  rw [hd] at f
                  simp only [put] at f
                  split at f
                  · exact f.elim
                  · rename_i h
                    rw [Bool.or_eq_true, not_or] at h
                    have h1 : pr.slots.contains d = false := by simpa using h.1
                    have h2 : d < pr.n := by have := h.2; simp only [Bool.not_eq_true', Bool.not_eq_false] at this; exact Nat.le_of_ble_eq_true this
                    exact drawGo_goes hsel hsS hQ c1 c2 hC n _ _ _ W β k f (closed_set hc hmem) hk (s.put (v := .tuple []) (val := undef) h2 (fun _ => rfl)) (g.put h1) ht' hb'
              · exact f.elim
          · exact f.elim

theorem drawAll_goes {ops : Array Oper} (hsel : Region.noSelect ops = true) (hQ : ∀ c a a' w, Q (.panic c) a' w → Q (.panic c) a w)
    (hC : ∀ a' W', Goes h0 W0 pr σ0 Kt a' W' → Q .normal a' W') {n j0 : Nat} {kp : Bool}
    (f : drawGo P (semAlg P K) pr ops j0 (backs ops ops.size [j0]) (if kp then σ.heap else hnil) n (Array.replicate ops.size false) σ Kt)
    (s : Sim h0 W0 pr.n β σ a W) (g : Agree pr σ0 σ) : wpAny P .any ops Q ops.size (Array.replicate ops.size false) a W := by
  refine wpAny_of_G (S := Vw β { σ with heap := if kp then σ.heap else hnil }) (j0 := j0) _ _ _ _
    (drawGo_goes (β0 := β) (σS := { σ with heap := if kp then σ.heap else hnil }) hsel rfl hQ (fun b hb hn => ?_) (fun i x hx => ?_) hC n _ σ a W β _ f ?_ ?_ s g (.inr ⟨?_, fun i x hx => (s.box i x hx).2.1⟩) (fun _ => ⟨rfl, rfl⟩))
  · cases kp
    · rfl
    · exact (s.frame.2 b hb hn).1
  · cases kp
    · rfl
    · exact (s.box i x hx).2.2.1
  · refine ⟨by simp, fun k o hk hl => ?_⟩
    exfalso
    have hlt : k < ops.size := (Array.getElem?_eq_some_iff.1 hk).1
    simp [hlt] at hl
  · unfold left
    simp [List.count_replicate]
  · cases kp
    · intro b o x; cases x
    · exact s.sub

theorem liftDraw_goes {id : Nat} {ops : Array Oper} (hm : P.follows .mixedOrders = true) (hQ : ∀ c a a' w, Q (.panic c) a' w → Q (.panic c) a w)
    (hC : ∀ a' W', Goes h0 W0 pr σ0 Kt a' W' → Q .normal a' W') (f : liftDraw P (semAlg P K) pr ops σ Kt) (s : Sim h0 W0 pr.n β σ a W) (g : Agree pr σ0 σ) :
    (Code.region id ops true).wp P Q a W := by
  unfold liftDraw at f
  split at f
  · exact f.elim
  · rename_i hsel
    have hsel' : Region.noSelect ops = true := by simpa using hsel
    refine wp_region_any hm ?_
    have s1 := s.step (W' := { W with drawn := W.drawn + 1 }) (s.sub.world rfl) (Frame.world rfl ⟨rfl, rfl, rfl, Nat.le_succ _⟩)
    obtain ⟨σ', s', g', f'⟩ := publishAll_elim _ _ _ f s1 (σ0 := σ0) ⟨g.slots, g.boxes⟩
    split at f'
    · obtain ⟨pr', Kj, hn, hb, _, hgo⟩ := join_elim (h0 := h0) (W0 := W0) f' g'
      exact drawAll_goes (pr := pr') (σ0 := σ') hsel' hQ (fun a' W' h => hC a' W' (hgo a' W' h)) hb (by rw [hn]; exact s') (Agree.refl _ _)
    · exact drawAll_goes hsel' hQ hC f' s' g'
end Lf

