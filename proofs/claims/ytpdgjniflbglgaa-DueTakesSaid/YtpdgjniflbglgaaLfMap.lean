/- Maps whose keys are numbers or strings, over partial heaps. -/
import Derived.Test.YtpdgjniflbglgaaLfArr
namespace Lf
open Go
variable {P : Program} {α : Type} [DecidableEq α]

structure KeyOk (P : Program) (key : TypeId) (kk : α → Value) : Prop where
  und : ∃ kd, P.underlying key = some kd ∧ ∀ a b, Instr.sameNow kd (kk a) (kk b) = some (decide (a = b))
  chk : ∀ b a W, (Instr.checkKey b 10000 key (kk a)).run P W = .ok () W
  bits : ∀ a, Instr.sameBits 10000 (kk a) (kk a) = true

theorem keyInt {key : TypeId} {j : IntKind} (k : IntKind) (hu : P.underlying key = some (.int j)) : KeyOk P key (fun a : Int => .int k a) where
  und := ⟨_, hu, fun a b => by simp only [Instr.sameNow, if_true]; congr 1⟩
  chk b a W := by
    rw [show (10000 : Nat) = 9999 + 1 from rfl, Instr.checkKey, run_bind, run_under hu]; rfl
  bits a := by unfold Instr.sameBits; simp

theorem byte_beq (a b : ByteArray) : (a == b) = decide (a = b) := by
  obtain ⟨x⟩ := a
  obtain ⟨y⟩ := b
  show (x == y) = _
  by_cases h : x = y
  · subst h; simp
  · rw [beq_eq_false_iff_ne.2 h]; simp [h]

theorem keyStr {key : TypeId} (hu : P.underlying key = some .string) : KeyOk P key (fun a : ByteArray => .string a) where
  und := ⟨_, hu, fun a b => by simp only [Instr.sameNow]; congr 1; exact byte_beq a b⟩
  chk b a W := by
    rw [show (10000 : Nat) = 9999 + 1 from rfl, Instr.checkKey, run_bind, run_under hu]; rfl
  bits a := by unfold Instr.sameBits; rw [byte_beq]; simp

def getL (l : List (α × Value)) (a : α) : Option Value := (l.find? fun x => decide (x.1 = a)).map (·.2)

/-- A map in memory. -/
def Mp (h : H) (m : Nat) (kk : α → Value) (get : α → Option Value) : Prop :=
  ∃ es ck l, h m = some (.map es ck) ∧ es.toList.map (fun e => (e.key, e.val)) = l.map (fun x : α × Value => (kk x.1, x.2)) ∧ (l.map (·.1)).Nodup ∧ ∀ a, getL l a = get a

theorem Mp.mono {h h' : H} {m : Nat} {kk : α → Value} {get : α → Option Value} (r : Mp h m kk get) (k : KeepM h h') : Mp h' m kk get :=
  let ⟨es, ck, l, h1, h2⟩ := r; ⟨es, ck, l, k _ _ _ h1, h2⟩

def findIx (a : α) : List (α × Value) → Nat → Option (Nat × Value)
  | [], _ => none
  | x :: r, i => if x.1 = a then some (i, x.2) else findIx a r (i + 1)

theorem findNow_eq {kd : TypeDesc} {kk : α → Value} (same : ∀ a b, Instr.sameNow kd (kk a) (kk b) = some (decide (a = b))) (a : α) : ∀ (es : List MapEntry) (l : List (α × Value)) (i : Nat),
    es.map (fun e => (e.key, e.val)) = l.map (fun x : α × Value => (kk x.1, x.2)) → Instr.findNow kd (kk a) es i = some (findIx a l i)
  | [], [], i, _ => rfl
  | [], _ :: _, _, h => by simp at h
  | _ :: _, [], _, h => by simp at h
  | e :: es, x :: l, i, h => by
    simp only [List.map_cons, List.cons.injEq, Prod.mk.injEq] at h
    obtain ⟨⟨h1, h2⟩, h3⟩ := h
    simp only [Instr.findNow, findIx, h1, same]
    by_cases e1 : x.1 = a
    · rw [if_pos e1, decide_eq_true e1.symm, h2]
    · rw [if_neg e1, decide_eq_false (fun e => e1 e.symm)]
      exact findNow_eq same a es l (i + 1) h3

theorem findIx_get (a : α) : ∀ (l : List (α × Value)) (i : Nat), (findIx a l i).map (·.2) = getL l a
  | [], _ => rfl
  | x :: r, i => by
    simp only [findIx, getL, List.find?_cons]
    by_cases e : x.1 = a
    · simp [e]
    · simp only [e, if_false, decide_false]; exact findIx_get a r (i + 1)

theorem findIx_spec (a : α) : ∀ (l : List (α × Value)) (i : Nat) {j : Nat} {v : Value}, findIx a l i = some (j, v) → i ≤ j ∧ l[j - i]? = some (a, v)
  | x :: r, i, j, v, h => by
    simp only [findIx] at h
    by_cases e : x.1 = a
    · rw [if_pos e] at h; simp only [Option.some.injEq, Prod.mk.injEq] at h; obtain ⟨rfl, rfl⟩ := h
      refine ⟨Nat.le_refl _, ?_⟩
      simp [← e]
    · rw [if_neg e] at h
      obtain ⟨h1, h2⟩ := findIx_spec a r (i + 1) h
      refine ⟨by omega, ?_⟩
      have : j - i = (j - (i + 1)) + 1 := by omega
      rw [this, List.getElem?_cons_succ]; exact h2

theorem findIx_none (a : α) : ∀ (l : List (α × Value)) (i : Nat), findIx a l i = none → a ∉ l.map (·.1)
  | [], _, _ => by simp
  | x :: r, i, h => by
    simp only [findIx] at h
    by_cases e : x.1 = a
    · rw [if_pos e] at h; cases h
    · rw [if_neg e] at h
      simp only [List.map_cons, List.mem_cons, not_or]
      exact ⟨fun h => e h.symm, findIx_none a r (i + 1) h⟩

theorem getL_none {l : List (α × Value)} {a : α} (h : a ∉ l.map (·.1)) : getL l a = none := by
  unfold getL
  rw [List.find?_eq_none.2]; · rfl
  intro x hx; simp only [decide_eq_true_eq]
  intro e; exact h (List.mem_map.2 ⟨x, hx, e⟩)

theorem getL_append (l : List (α × Value)) (a b : α) (v : Value) : getL (l ++ [(a, v)]) b = (getL l b).or (if b = a then some v else none) := by
  unfold getL
  rw [List.find?_append]
  cases h : l.find? (fun x => decide (x.1 = b)) with
  | some y => simp
  | none =>
    by_cases e : a = b
    · subst e; simp
    · have : ¬ b = a := fun x => e x.symm
      simp [e, this]

theorem getL_set {a b : α} {v : Value} : ∀ {l : List (α × Value)} {j : Nat} {w : Value}, (l.map (·.1)).Nodup → l[j]? = some (a, w) → getL (l.set j (a, v)) b = if b = a then some v else getL l b
  | [], j, w, _, h => by simp at h
  | x :: r, 0, w, hn, h => by
    simp only [List.getElem?_cons_zero, Option.some.injEq] at h
    subst h
    simp only [List.set_cons_zero, getL, List.find?_cons]
    by_cases e : a = b
    · subst e; simp
    · have : ¬ b = a := fun x => e x.symm
      simp [e, this]
  | x :: r, j + 1, w, hn, h => by
    simp only [List.getElem?_cons_succ] at h
    simp only [List.map_cons, List.nodup_cons] at hn
    have ih := getL_set (b := b) (v := v) hn.2 h
    simp only [List.set_cons_succ, getL, List.find?_cons] at ih ⊢
    have hm : a ∈ r.map (·.1) := List.mem_map.2 ⟨_, List.mem_of_getElem? h, rfl⟩
    by_cases e : x.1 = b
    · have : ¬ b = a := fun e2 => hn.1 (by rw [e, e2]; exact hm)
      simp [e, this]
    · simp only [e, decide_false]; exact ih

theorem getL_erase {a b : α} : ∀ {l : List (α × Value)} {j : Nat} {w : Value}, (l.map (·.1)).Nodup → l[j]? = some (a, w) → getL (l.eraseIdx j) b = if b = a then none else getL l b
  | [], j, w, _, h => by simp at h
  | x :: r, 0, w, hn, h => by
    simp only [List.getElem?_cons_zero, Option.some.injEq] at h
    subst h
    simp only [List.map_cons, List.nodup_cons] at hn
    simp only [List.eraseIdx_cons_zero]
    by_cases e : a = b
    · subst e; rw [if_pos rfl, getL_none hn.1]
    · have : ¬ b = a := fun x => e x.symm
      rw [if_neg this]; simp [getL, List.find?_cons, e]
  | x :: r, j + 1, w, hn, h => by
    simp only [List.getElem?_cons_succ] at h
    simp only [List.map_cons, List.nodup_cons] at hn
    have ih := getL_erase (b := b) hn.2 h
    simp only [List.eraseIdx_cons_succ, getL, List.find?_cons] at ih ⊢
    have hm : a ∈ r.map (·.1) := List.mem_map.2 ⟨_, List.mem_of_getElem? h, rfl⟩
    by_cases e : x.1 = b
    · have : ¬ b = a := fun e2 => hn.1 (by rw [e, e2]; exact hm)
      simp [e, this]
    · simp only [e, decide_false]; exact ih

theorem findKey_run {key : TypeId} {kk : α → Value} (ok : KeyOk P key kk) {es : List MapEntry} {l : List (α × Value)} (hl : es.map (fun e => (e.key, e.val)) = l.map (fun x : α × Value => (kk x.1, x.2)))
    (a : α) (W : World) : (Instr.findKey key (kk a) es).run P W = .ok (findIx a l 0) W := by
  obtain ⟨kd, hu, same⟩ := ok.und
  simp only [Instr.findKey, run_bind, run_under hu, findNow_eq same a es l 0 hl]
  rfl

theorem getObj_run {r : Nat} {es : Array MapEntry} {ck : Nat} {W : World} {h : H} (sw : Sub h W) (hm : h r = some (.map es ck)) : (getObj r).run P W = .ok (.map es ck) W := by
  simp only [getObj, Sem.run, sw r _ hm]

theorem lookup_run {T key elem m : Nat} {kk : α → Value} {get : α → Option Value} {z : Value} {h : H} {a : α} {ok : Bool} {K : Value → H → Prop} (hu : P.underlying T = some (.map key elem)) (ko : KeyOk P key kk)
    (hz : zeroOf P elem = some z) (hm : Mp h m kk get) (k : K (if ok then .tuple #[(get a).getD z, .bool (get a).isSome] else (get a).getD z) h) :
    RunL P (X.sem (.lookup T (.map (some m)) (kk a) ok)) h K := by
  obtain ⟨es, ck, l, h1, h2, h3, h4⟩ := hm
  refine RunL.of_run (x := if ok then .tuple #[(get a).getD z, .bool (get a).isSome] else (get a).getD z) (fun W sw => ?_) k
  simp only [X.sem, Instr.lookup, run_bind, run_under hu, getObj_run sw h1, run_pure, ko.chk, findKey_run ko h2]
  have hg := findIx_get a l 0
  rw [h4 a] at hg
  cases hf : findIx a l 0 with
  | none =>
    rw [hf] at hg
    simp only [run_bind, run_zero hz, run_pure]
    rw [← hg]; rfl
  | some q =>
    rw [hf] at hg
    simp only [run_pure]
    rw [← hg]; rfl

theorem nodup_set {γ : Type} {l : List (γ × Value)} {j : Nat} {a : γ} {v w : Value} (hn : (l.map (·.1)).Nodup) (h : l[j]? = some (a, w)) : ((l.set j (a, v)).map (·.1)).Nodup := by
  have : (l.set j (a, v)).map (·.1) = l.map (·.1) := by
    rw [List.map_set]
    apply List.ext_getElem?
    intro i
    rw [List.getElem?_set]
    by_cases e : j = i
    · subst e
      have hlt := (List.getElem?_eq_some_iff.1 h).1
      rw [if_pos rfl, if_pos (by simpa using hlt), List.getElem?_map, h]; rfl
    · rw [if_neg e]
  rw [this]; exact hn

theorem mapUpdate_run {T key elem m : Nat} {kk : α → Value} {get : α → Option Value} {v : Value} {h : H} {a : α} {K : Value → H → Prop} (hu : P.underlying T = some (.map key elem)) (ko : KeyOk P key kk) (hm : Mp h m kk get)
    (k : ∀ h', Mp h' m kk (fun x => if x = a then some v else get x) → (∀ b, b ≠ m → h' b = h b) → K (.tuple #[]) h') :
    RunL P (X.sem (.mapUpdate T (.map (some m)) (kk a) v)) h K := by
  obtain ⟨es, ck, l, h1, h2, h3, h4⟩ := hm
  simp only [X.sem]
  refine RunL.bind (RunL.mono (K := fun _ h' => Mp h' m kk (fun x => if x = a then some v else get x) ∧ ∀ b, b ≠ m → h' b = h b) ?_ fun _ h' hk => RunL.pure (k h' hk.1 hk.2))
  unfold Instr.mapUpdate
  refine RunL.bind (RunL.under hu ?_)
  simp only []
  refine RunL.bind (RunL.getObj h1 (by simp) ?_)
  simp only []
  refine RunL.bind (RunL.of_run (x := ()) (fun W _ => ko.chk _ _ W) ?_)
  refine RunL.bind (RunL.of_run (fun W _ => findKey_run ko h2 a W) ?_)
  have hg := findIx_get a l 0
  rw [h4 a] at hg
  cases hf : findIx a l 0 with
  | none =>
    simp only []
    have hnin := findIx_none a l 0 hf
    refine RunL.setObj h1 (by simp) ⟨⟨_, _, l ++ [(a, v)], hnew_same, ?_, ?_, fun b => ?_⟩, fun b hb => hnew_other hb⟩
    · simp only [Array.toList_push, List.map_append, h2, List.map_cons, List.map_nil]
    · rw [List.map_append, List.nodup_append]
      refine ⟨h3, by simp, fun x hx y hy => ?_⟩
      simp only [List.map_cons, List.map_nil, List.mem_singleton] at hy
      subst hy; intro e; subst e; exact hnin hx
    · rw [getL_append, h4 b]
      by_cases e : b = a
      · subst e
        have : get b = none := by rw [← h4 b]; exact getL_none hnin
        simp [this]
      · simp [e]
  | some q =>
    obtain ⟨j, w⟩ := q
    simp only []
    have hsp := (findIx_spec a l 0 hf).2
    rw [Nat.sub_zero] at hsp
    have hmap : ∀ i : Nat, (es.toList[i]?).map (fun e : MapEntry => (e.key, e.val)) = (l[i]?).map (fun x : α × Value => (kk x.1, x.2)) := fun i => by
      rw [← List.getElem?_map, ← List.getElem?_map, h2]
    have hkey : ((es[j]?).map (·.key)).getD (kk a) = kk a := by
      have := hmap j
      rw [hsp] at this
      cases hj : es.toList[j]? with
      | none => rw [hj] at this; cases this
      | some e =>
        rw [hj] at this; simp only [Option.map_some, Option.some.injEq, Prod.mk.injEq] at this
        have : es[j]? = some e := by simpa using hj
        rename_i this1
        rw [this]; simp [this1.1]
    rw [hkey]
    refine RunL.bind ?_
    unfold Instr.keyThatStays
    rw [if_pos (ko.bits a)]
    refine RunL.pure ?_
    refine RunL.setObj h1 (by simp) ⟨⟨_, _, l.set j (a, v), hnew_same, ?_, nodup_set h3 hsp, fun b => ?_⟩, fun b hb => hnew_other hb⟩
    · apply List.ext_getElem?
      intro i
      rw [List.getElem?_map, List.getElem?_map, List.getElem?_set]
      have := hmap i
      by_cases e : j = i
      · subst e
        have hlt := (List.getElem?_eq_some_iff.1 hsp).1
        rw [if_pos rfl, if_pos hlt]
        cases hj : es.toList[j]? with
        | none => rw [hj, hsp] at this; cases this
        | some e' =>
          have e2 : es[j]? = some e' := by simpa using hj
          simp [Array.getElem?_modify, e2]
      · rw [if_neg e, ← this]
        simp [Array.getElem?_modify, e]
    · rw [getL_set h3 hsp, h4 b]

theorem delete_run {T T2 ty key elem m : Nat} {kk : α → Value} {get : α → Option Value} {h : H} {a : α} {K : Value → H → Prop} (hu : P.underlying T = some (.map key elem)) (ko : KeyOk P key kk) (hm : Mp h m kk get)
    (k : ∀ h', Mp h' m kk (fun x => if x = a then none else get x) → (∀ b, b ≠ m → h' b = h b) → K (.tuple #[]) h') :
    RunL P (X.sem (.bi .delete #[T, T2] ty [.map (some m), kk a])) h K := by
  obtain ⟨es, ck, l, h1, h2, h3, h4⟩ := hm
  suffices hmain : RunL P (Builtin.delete_ #[T, T2] ty #[.map (some m), kk a]) h (fun v h' => v = .tuple #[] ∧ Mp h' m kk (fun x => if x = a then none else get x) ∧ ∀ b, b ≠ m → h' b = h b) by
    refine RunL.bind (RunL.bind (hmain.mono fun v h' hk => RunL.pure (RunL.pure (by rw [hk.1]; exact k h' hk.2.1 hk.2.2))))
  unfold Builtin.delete_
  simp only [List.getElem?_toArray, List.getElem?_cons_zero, List.getElem?_cons_succ]
  refine RunL.bind (RunL.under hu ?_)
  simp only []
  refine RunL.bind (RunL.getObj h1 (by simp) ?_)
  simp only []
  refine RunL.bind (RunL.of_run (x := ()) (fun W _ => ko.chk _ _ W) ?_)
  refine RunL.bind (RunL.of_run (fun W _ => findKey_run ko h2 a W) ?_)
  have hg := findIx_get a l 0
  rw [h4 a] at hg
  cases hf : findIx a l 0 with
  | none =>
    simp only []
    refine RunL.bind (RunL.setObj h1 (by simp) (RunL.pure ⟨rfl, ⟨_, _, l, hnew_same, h2, h3, fun b => ?_⟩, fun b hb => hnew_other hb⟩))
    rw [hf] at hg
    by_cases e : b = a
    · subst e; simp only [if_true]; rw [h4 b]; exact hg.symm
    · simp only [e, if_false]; rw [h4 b]
  | some q =>
    obtain ⟨j, w⟩ := q
    simp only []
    have hsp := (findIx_spec a l 0 hf).2
    rw [Nat.sub_zero] at hsp
    refine RunL.bind (RunL.setObj h1 (by simp) (RunL.pure ⟨rfl, ⟨_, _, l.eraseIdx j, hnew_same, ?_, ?_, fun b => ?_⟩, fun b hb => hnew_other hb⟩))
    · have hlt : j < es.size := by
        have h5 := (List.getElem?_eq_some_iff.1 hsp).1
        have h6 := congrArg List.length h2
        simp at h6; omega
      have : (es.eraseIdxIfInBounds j).toList = es.toList.eraseIdx j := by
        unfold Array.eraseIdxIfInBounds
        rw [dif_pos hlt]; simp
      rw [this]
      simp only [List.eraseIdx_eq_take_drop_succ, List.map_append, List.map_take, List.map_drop, h2]
    · exact List.Nodup.sublist ((List.eraseIdx_sublist l j).map _) h3
    · rw [getL_erase h3 hsp, h4 b]

theorem makeMap_run {T : Nat} {kk : α → Value} {h : H} {K : Value → H → Prop} (k : ∀ m h', h m = none → Mp h' m kk (fun _ => none) → (∀ b, b ≠ m → h' b = h b) → K (.map (some m)) h') :
    RunL P (X.sem (.makeMap T)) h K := by
  simp only [X.sem, Instr.makeMap]
  refine RunL.bind (RunL.newObj fun b hb => RunL.pure (k b _ hb ⟨#[], 0, [], hnew_same, rfl, by simp, fun a => rfl⟩ fun b' hb' => hnew_other hb'))
end Lf
