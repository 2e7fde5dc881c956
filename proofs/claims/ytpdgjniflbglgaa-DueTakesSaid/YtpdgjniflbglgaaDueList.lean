/- Layer 6: lists of pairs as what is due when, in plain Lean. -/
import Derived.Test.YtpdgjniflbglgaaDueRef
namespace DueP
open Go Lf

/-- What a list of pairs says. -/
def asM (l : List Pair) : Int → Option Int := fun k => (l.find? fun x => decide (x.1 = k)).map (·.2)

def KeysOk (l : List Pair) : Prop := (l.map (·.1)).Nodup

theorem asM_cons (x : Pair) (l : List Pair) (k : Int) : asM (x :: l) k = if x.1 = k then some x.2 else asM l k := by
  unfold asM; rw [List.find?_cons]
  by_cases e : x.1 = k <;> simp [e]

theorem asM_cut (l : List Pair) (k : Int) : asM (cutL l k) = upd (asM l) k none := by
  funext y
  induction l with
  | nil => unfold upd asM cutL; simp
  | cons x l ih =>
    have e : cutL (x :: l) k = if x.1 = k then cutL l k else x :: cutL l k := by
      unfold cutL; rw [List.filter_cons]; by_cases e : x.1 = k <;> simp [e]
    rw [e]
    by_cases e1 : x.1 = k
    · rw [if_pos e1, ih]
      unfold upd
      by_cases e2 : y = k
      · rw [if_pos e2, if_pos e2]
      · rw [if_neg e2, if_neg e2, asM_cons, if_neg (by rw [e1]; exact fun h => e2 h.symm)]
    · rw [if_neg e1, asM_cons, ih]
      unfold upd
      rw [asM_cons]
      by_cases e2 : y = k
      · subst e2; rw [if_neg e1, if_pos rfl, if_pos rfl]
      · rw [if_neg e2, if_neg e2]

theorem asM_snoc (l : List Pair) (k t y : Int) (h : asM l k = none) : asM (l ++ [(k, t)]) y = if y = k then some t else asM l y := by
  induction l with
  | nil => rw [List.nil_append, asM_cons]; unfold asM; by_cases e : y = k
           · subst e; simp
           · rw [if_neg (fun h => e h.symm), if_neg e]
  | cons x l ih =>
    rw [asM_cons] at h
    split at h
    · cases h
    · rename_i hx
      rw [List.cons_append, asM_cons, ih h, asM_cons]
      by_cases e : y = k
      · subst e; rw [if_neg hx, if_pos rfl, if_pos rfl]
      · rw [if_neg e, if_neg e]

theorem asM_set (l : List Pair) (k t : Int) : asM (cutL l k ++ [(k, t)]) = upd (asM l) k (some t) := by
  funext y
  rw [asM_snoc _ _ _ _ (by rw [asM_cut]; unfold upd; rw [if_pos rfl]), asM_cut]
  unfold upd
  by_cases e : y = k
  · rw [if_pos e, if_pos e]
  · rw [if_neg e, if_neg e, if_neg e]

theorem KeysOk.cut {l : List Pair} (h : KeysOk l) (k : Int) : KeysOk (cutL l k) :=
  List.Nodup.sublist ((List.filter_sublist).map _) h

theorem mem_asM {l : List Pair} {x : Pair} (h : KeysOk l) (hx : x ∈ l) : asM l x.1 = some x.2 := by
  induction l with
  | nil => cases hx
  | cons y l ih =>
    unfold KeysOk at h
    simp only [List.map_cons, List.nodup_cons] at h
    rw [asM_cons]
    rcases List.mem_cons.1 hx with e | hx
    · rw [e, if_pos rfl]
    · rw [if_neg, ih h.2 hx]
      intro e; exact h.1 (by rw [e]; exact List.mem_map_of_mem hx)

theorem asM_mem {l : List Pair} {k t : Int} (h : asM l k = some t) : (k, t) ∈ l := by
  induction l with
  | nil => cases h
  | cons y l ih =>
    rw [asM_cons] at h
    split at h
    · rename_i e
      have := Option.some.inj h
      have : y = (k, t) := by rw [← e, ← this]
      rw [this]; simp
    · exact List.mem_cons_of_mem _ (ih h)

theorem asM_none {l : List Pair} {k : Int} (h : asM l k = none) : k ∉ l.map (·.1) := by
  intro hm
  obtain ⟨x, hx, rfl⟩ := List.mem_map.1 hm
  induction l with
  | nil => cases hx
  | cons y l ih =>
    rw [asM_cons] at h
    split at h
    · cases h
    · rename_i e
      rcases List.mem_cons.1 hx with e2 | hx
      · subst e2; exact e rfl
      · exact ih hx h (List.mem_map_of_mem hx)

theorem KeysOk.set {l : List Pair} (h : KeysOk l) (k t : Int) : KeysOk (cutL l k ++ [(k, t)]) := by
  unfold KeysOk
  rw [List.map_append, List.nodup_append]
  refine ⟨h.cut k, by simp, fun x hx y hy => ?_⟩
  simp only [List.map_cons, List.map_nil, List.mem_singleton] at hy
  subst hy
  intro e; subst e
  exact asM_none (by rw [asM_cut]; unfold upd; rw [if_pos rfl]) hx

theorem first_of {l : List Pair} (h : KeysOk l) {i : Nat} (hi : i < l.length) (hm : ∀ j, j < l.length → leP (l.getD i (0, 0)) (l.getD j (0, 0))) :
    First (asM l) (l.getD i (0, 0)).1 (l.getD i (0, 0)).2 := by
  have e : l.getD i (0, 0) = l[i] := by rw [List.getD_eq_getElem?_getD, List.getElem?_eq_getElem hi]; rfl
  refine ⟨?_, fun k' t' hk => ?_⟩
  · rw [e]; exact mem_asM h (List.getElem_mem hi)
  · obtain ⟨j, hj, e2⟩ := List.getElem_of_mem (asM_mem hk)
    have := hm j hj
    have e3 : l.getD j (0, 0) = l[j] := by rw [List.getD_eq_getElem?_getD, List.getElem?_eq_getElem hj]; rfl
    rw [e3, e2] at this
    exact this

theorem cut_length {l : List Pair} (h : KeysOk l) (k : Int) : (cutL l k).length = if (asM l k).isSome then l.length - 1 else l.length := by
  induction l with
  | nil => rfl
  | cons x l ih =>
    unfold KeysOk at h
    simp only [List.map_cons, List.nodup_cons] at h
    have e : cutL (x :: l) k = if x.1 = k then cutL l k else x :: cutL l k := by
      unfold cutL; rw [List.filter_cons]; by_cases e : x.1 = k <;> simp [e]
    rw [e, asM_cons]
    by_cases e1 : x.1 = k
    · rw [if_pos e1, if_pos e1, ih h.2]
      have : asM l k = none := by
        cases hk : asM l k with
        | none => rfl
        | some t => exact absurd (List.mem_map_of_mem (f := (·.1)) (asM_mem hk)) (by rw [← e1]; exact h.1)
      rw [this]; simp
    · rw [if_neg e1, if_neg e1, List.length_cons, ih h.2]
      split
      · rename_i hs
        have : l ≠ [] := by intro e; subst e; simp [asM] at hs
        have := List.length_pos_iff.2 this
        simp; omega
      · simp
end DueP
