/- Which patterns are formed, how deep they are, how many places they have: what the program's functions hand back. -/
import Derived.Test.YtlcebmelfcfkaaaPtParts
namespace Pt
open Go Lf Pat
variable {h : H}

theorem c_IndexFunc_parts {v3 : Value} {p : Option Addr} {n c : Nat} {ls : List (List Nd)} (r : PartsR h p n c ls) (hn : n < 2 ^ 36) (f : List Nd → Bool)
    (hf : ∀ l, l ∈ ls → ∀ h' q m k, Le h h' → NodesR h' q m k l → CallV P v3 #[.slice q m k] h' (fun r h'' => Le h' h'' ∧ r = .bool (f l))) :
    Spec P n_slices_IndexFunc_s_api_Node #[.slice p n c, v3] h (fun r h' => Le h h' ∧ ∃ x : Int, r = .int .i64 x ∧ decide (x ≥ 0) = ls.any f) := by
  apply s_slices_IndexFunc_s_api_Node
  unfold f_slices_IndexFunc_s_api_Node
  have hl := r.1
  refine ⟨fun k L h' => Le h h' ∧ ∃ (i : Nat) (y : Int), L = [.int .i64 i, .int .i64 y] ∧ k + i = n ∧ (ls.take i).any f = false, ⟨n, Le.refl _, 0, 0, rfl, rfl, rfl⟩, ?_⟩
  rintro k x7 x8 h9 ⟨le, i, y, e, hk, hany⟩
  simp only [List.cons.injEq, Value.int.injEq, true_and, and_true] at e
  obtain ⟨rfl, rfl⟩ := e
  refine ⟨fun hi => ?_, fun hi => ⟨le, _, rfl, ?_⟩⟩
  · simp only [decide_eq_true_eq] at hi
    obtain ⟨t, ht, hm⟩ := get_lt (l := ls) (i := i) (by omega)
    obtain ⟨a, q, m, kk, e1, hb, c0, nr⟩ := r.at ht rfl
    refine ⟨a, e1, hb, _, _, _, cell_le le c0, ?_⟩
    refine (hf t hm _ _ _ _ le (nr.mono le)).mono fun v h18 ⟨l18, ev⟩ => ⟨_, ev, fun hb => ⟨le.trans l18, _, rfl, ?_⟩, fun hb => ?_⟩
    · rw [any_of_get f ht hb]; simp
    · rw [wrap_succ (by omega)]
      exact ⟨k - 1, by omega, le.trans l18, i + 1, _, rfl, by omega, by rw [any_take_succ f ht, hany, hb]; rfl⟩
  · simp only [decide_eq_false_iff_not] at hi
    rw [List.take_of_length_le (by omega)] at hany
    rw [hany]; rfl

theorem c_ContainsFunc_parts {v3 : Value} {p : Option Addr} {n c : Nat} {ls : List (List Nd)} (r : PartsR h p n c ls) (hn : n < 2 ^ 36) (f : List Nd → Bool)
    (hf : ∀ l, l ∈ ls → ∀ h' q m k, Le h h' → NodesR h' q m k l → CallV P v3 #[.slice q m k] h' (fun r h'' => Le h' h'' ∧ r = .bool (f l))) :
    Spec P n_slices_ContainsFunc_s_api_Node #[.slice p n c, v3] h (fun r h' => Le h h' ∧ r = .bool (ls.any f)) := by
  apply s_slices_ContainsFunc_s_api_Node
  unfold f_slices_ContainsFunc_s_api_Node
  exact (c_IndexFunc_parts r hn f hf).mono fun v h5 ⟨e5, x, ev, hx⟩ => ⟨x, ev, e5, by rw [hx]⟩

theorem parts_len (l : List Nd) : (parts l).length ≤ l.length := by
  cases l with
  | nil => simp [parts]
  | cons x r =>
    simp only [parts]
    split
    · cases hp : partsGo r.length r with
      | none => simp
      | some ps => exact Nat.le_trans (partsGo_len _ _ _ hp) (by simp)
    · simp

theorem c_tree_formed : ∀ (f : Nat) (l : List Nd) {h : H} {p : Option Addr} {n c : Nat}, l.length ≤ f → NodesR h p n c l → n < 2 ^ 35 →
    Spec P n_tree_formed #[.slice p n c] h (fun v h' => Le h h' ∧ v = .bool (formedP f l))
  | f, l, h, p, n, c, hf, r, hn => by
    apply s_tree_formed
    unfold f_tree_formed
    have hl := r.1
    refine (c_tree_Parts r hn).mono fun v h4 ⟨l4, q, m, k, ev, pr⟩ => ⟨_, _, _, ev, ?_⟩
    cases l with
    | nil =>
      simp only [List.length_nil] at hl
      subst hl
      exact jBBB ⟨fun _ => ⟨_, _, _, rfl, fun _ => ⟨l4, by cases f <;> rfl⟩, fun h => by cases h⟩, fun h => by simp at h⟩
    | cons x xs =>
      simp only [List.length_cons] at hl hf
      obtain ⟨f, rfl⟩ : ∃ g, f = g + 1 := ⟨f - 1, by omega⟩
      rw [formedP_succ]
      obtain ⟨a, p1, n1, c1, p2, n2, c2, e1, hb, t1, t2, d0, d1, d2, d3, d4, d5, d6, d7, d8, d9, d10⟩ := (r.mono l4).at (i := 0) rfl rfl
      refine pBBB (fun _ b _ h' => h' = h4 ∧ b = !(plain x (parts (x :: xs)).length && decide (x.size = (xs.length : Int)))) ⟨fun h1 => (by simp only [decide_eq_true_eq] at h1; omega), fun h1 => ?_⟩ ?_
      · refine ⟨a, e1, hb, _, d0, _, d1, _, d2, _, _, _, d3, _, d4, _, d5, _, d6, _, _, _, d7, _, d8, _, d9, _, d10, ?_⟩
        rw [pr.1]
        refine (c_tree_plain (x := x) t1 t2 _).mono fun v h26 ⟨e, ev⟩ => ⟨_, ev, ?_⟩
        subst e
        refine ⟨fun h2 => ⟨_, _, _, rfl, rfl, by grind⟩, fun h2 => ⟨a, e1, hb, _, d10, _, _, _, rfl, rfl, ?_⟩⟩
        rw [wrap_i64_of (by omega) (by omega)]
        grind
      rintro _ b _ h33 ⟨rfl, hbb⟩
      refine ⟨fun h1 => ⟨l4, ?_⟩, fun h1 => ?_⟩
      · congr 1; grind
      · refine (c_ContainsFunc_parts pr (by have := pr.1; have := parts_len (x :: xs); simp at this; omega) (fun q => !formedP f q) fun q hq h' p' m' k' le nr => CallV.of (by kernel_rfl) ?_).mono fun v h' ⟨le, ev⟩ => ⟨_, ev, l4.trans le, ?_⟩
        · apply s_tree_formed_1
          unfold f_tree_formed_1
          have hlt := (parts_shorter hq).2
          simp only [List.length_cons] at hlt
          exact (c_tree_formed f q (by omega) nr (by have := nr.1; omega)).mono fun v h'' ⟨le, ev⟩ => ⟨_, ev, le, rfl⟩
        · congr 1
          rw [h1] at hbb
          have e : (!(parts (x :: xs)).any fun q => !formedP f q) = (parts (x :: xs)).all (formedP f) := by simp [List.all_eq_not_any_not]
          rw [e]
          grind
end Pt

