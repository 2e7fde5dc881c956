/- Questions and patterns: what the program's functions hand back. -/
import Derived.Test.YtlcebmelfcfkaaaPtVal
import Derived.Test.YtlcebmelfcfkaaaLibB
namespace Pt
open Go Lf Pat
variable {h : H}

abbrev ndV (x : Nd) (p1 : Option Addr) (n1 c1 : Nat) (p2 : Option Addr) (n2 c2 : Nat) : Value :=
  .agg #[.int .u8 x.kind, .bool x.pred.any, .int .u8 x.pred.topic, .slice p1 n1 c1, .bool x.guarded, .bool x.guard.any, .int .u8 x.guard.topic, .slice p2 n2 c2, .int .u8 x.lo, .int .u8 x.hi, .int .i64 x.size]

theorem c_pred_right (t : Tst) : Spec P n_pred_right #[tstV t] h (fun r h' => h' = h ∧ r = .bool t.right) := by
  apply s_pred_right
  unfold f_pred_right
  refine (c_value_May t.val).mono fun r h5 ⟨e5, er⟩ => ⟨_, er, ?_⟩
  subst e5
  refine ⟨fun h1 => ⟨rfl, ?_⟩, fun h1 => ⟨fun h2 => ⟨rfl, ?_⟩, fun h2 => ⟨fun h3 => ⟨rfl, ?_⟩, fun h3 => jBBB ⟨fun h4 => ⟨fun h5 => ⟨_, _, _, rfl, rfl, ?_⟩, fun h5 => ⟨_, _, _, rfl, rfl, ?_⟩⟩, fun h4 => ⟨_, _, _, rfl, rfl, ?_⟩⟩⟩⟩⟩
  all_goals (congr 1; unfold Tst.right; grind)

theorem c_pred_May_1 (t : Tst) : Spec P n_pred_May_1 #[tstV t] h (fun r h' => h' = h ∧ r = .bool (!t.right)) := by
  apply s_pred_May_1
  unfold f_pred_May_1
  exact (c_pred_right t).mono fun r h5 ⟨e5, er⟩ => ⟨_, er, e5, rfl⟩

theorem c_IndexFunc_Test {v3 : Value} {p : Option Addr} {n c : Nat} {ts : List Tst} (r : TestsR h p n c ts) (hn : n < 2 ^ 36) (f : Tst → Bool)
    (hf : ∀ t, t ∈ ts → CallV P v3 #[tstV t] h (fun r h' => h' = h ∧ r = .bool (f t))) :
    Spec P n_slices_IndexFunc_api_Test #[.slice p n c, v3] h (fun r h' => h' = h ∧ ∃ x : Int, r = .int .i64 x ∧ decide (x ≥ 0) = ts.any f) := by
  apply s_slices_IndexFunc_api_Test
  unfold f_slices_IndexFunc_api_Test
  have hl := r.1
  refine ⟨fun k L h' => h' = h ∧ ∃ (i : Nat) (y : Int), L = [.int .i64 i, .int .i64 y] ∧ k + i = n ∧ (ts.take i).any f = false, ⟨n, rfl, 0, 0, rfl, rfl, rfl⟩, ?_⟩
  rintro k x7 x8 h9 ⟨rfl, i, y, e, hk, hany⟩
  simp only [List.cons.injEq, Value.int.injEq, true_and, and_true] at e
  obtain ⟨rfl, rfl⟩ := e
  refine ⟨fun hi => ?_, fun hi => ⟨rfl, _, rfl, ?_⟩⟩
  · simp only [decide_eq_true_eq] at hi
    obtain ⟨t, ht, hm⟩ := get_lt (l := ts) (i := i) (by omega)
    obtain ⟨a, e1, hb, c0, c1, c2, c3, c4, c5⟩ := r.at ht rfl
    refine ⟨a, e1, hb, _, c0, _, c1, _, c2, _, c3, _, c4, _, c5, ?_⟩
    refine (hf t hm).mono fun v h18 ⟨e18, ev⟩ => ⟨_, ev, fun hb => ⟨e18, _, rfl, ?_⟩, fun hb => ?_⟩
    · rw [any_of_get f ht hb]; simp
    · rw [wrap_succ (by omega)]
      exact ⟨k - 1, by omega, e18, i + 1, _, rfl, by omega, by rw [any_take_succ f ht, hany, hb]; rfl⟩
  · simp only [decide_eq_false_iff_not] at hi
    rw [List.take_of_length_le (by omega)] at hany
    rw [hany]; rfl

theorem c_ContainsFunc_Test {v3 : Value} {p : Option Addr} {n c : Nat} {ts : List Tst} (r : TestsR h p n c ts) (hn : n < 2 ^ 36) (f : Tst → Bool)
    (hf : ∀ t, t ∈ ts → CallV P v3 #[tstV t] h (fun r h' => h' = h ∧ r = .bool (f t))) :
    Spec P n_slices_ContainsFunc_api_Test #[.slice p n c, v3] h (fun r h' => h' = h ∧ r = .bool (ts.any f)) := by
  apply s_slices_ContainsFunc_api_Test
  unfold f_slices_ContainsFunc_api_Test
  exact (c_IndexFunc_Test r hn f hf).mono fun v h5 ⟨e5, x, ev, hx⟩ => ⟨x, ev, e5, by rw [hx]⟩

theorem c_pred_May {q : Prd} {p : Option Addr} {n c : Nat} (r : TestsR h p n c q.tests) (hn : n < 2 ^ 36) :
    Spec P n_pred_May #[.agg #[.bool q.any, .int .u8 q.topic, .slice p n c]] h (fun r h' => h' = h ∧ r = .bool q.may) := by
  apply s_pred_May
  unfold f_pred_May
  have hl := r.1
  have fin : ∀ b : Bool, (b = (q.any && !decide (q.topic = 0) || decide ((n : Int) > 4))) → ((b = true → h = h ∧ Value.bool false = .bool q.may) ∧ (b = false → Spec P n_slices_ContainsFunc_api_Test #[.slice p n c, .func (.func n_pred_May_1) #[] #[]] h (fun v10 h11 => ∃ b12 : Bool, v10 = .bool b12 ∧ h11 = h ∧ Value.bool (!b12) = .bool q.may))) := by
    intro b hb
    refine ⟨fun h1 => ⟨rfl, ?_⟩, fun h1 => ?_⟩
    · congr 1; unfold Prd.may; grind
    · refine (c_ContainsFunc_Test r hn (fun t => !t.right) fun t _ => CallV.of (by kernel_rfl) (c_pred_May_1 t)).mono fun v h' ⟨e, ev⟩ => ⟨_, ev, e, ?_⟩
      congr 1
      have e : (!q.tests.any fun t => !t.right) = q.tests.all Tst.right := by simp [List.all_eq_not_any_not]
      rw [e]
      unfold Prd.may; grind
  refine jBBB ⟨fun h1 => ⟨fun h2 => ⟨_, _, _, rfl, fin _ ?_⟩, fun h2 => ⟨_, _, _, rfl, fin _ ?_⟩⟩, fun h1 => ⟨_, _, _, rfl, fin _ ?_⟩⟩
  all_goals grind

theorem c_tree_May_1 {x : Nd} {p1 p2 : Option Addr} {n1 c1 n2 c2 : Nat} (r1 : TestsR h p1 n1 c1 x.pred.tests) (r2 : TestsR h p2 n2 c2 x.guard.tests) (hn1 : n1 < 2 ^ 36) (hn2 : n2 < 2 ^ 36) :
    Spec P n_tree_May_1 #[ndV x p1 n1 c1 p2 n2 c2] h (fun r h' => h' = h ∧ r = .bool (!x.pred.may || !x.guard.may)) := by
  apply s_tree_May_1
  unfold f_tree_May_1
  refine (c_pred_May (q := x.pred) r1 hn1).mono fun v h16 ⟨e, ev⟩ => ⟨_, ev, ?_⟩
  subst e
  refine jBB ⟨fun h1 => ⟨_, _, rfl, rfl, by grind⟩, fun h1 => (c_pred_May (q := x.guard) r2 hn2).mono fun v h16 ⟨e, ev⟩ => ⟨_, ev, _, _, rfl, e, by grind⟩⟩

/-- Lists that tests and nodes have are not great. -/
def Small (x : Nd) : Prop := x.pred.tests.length < 2 ^ 36 ∧ x.guard.tests.length < 2 ^ 36

theorem c_IndexFunc_Node {v3 : Value} {p : Option Addr} {n c : Nat} {xs : List Nd} (r : NodesR h p n c xs) (hn : n < 2 ^ 36) (f : Nd → Bool)
    (hf : ∀ x, x ∈ xs → ∀ p1 n1 c1 p2 n2 c2, TestsR h p1 n1 c1 x.pred.tests → TestsR h p2 n2 c2 x.guard.tests → CallV P v3 #[ndV x p1 n1 c1 p2 n2 c2] h (fun r h' => h' = h ∧ r = .bool (f x))) :
    Spec P n_slices_IndexFunc_api_Node #[.slice p n c, v3] h (fun r h' => h' = h ∧ ∃ x : Int, r = .int .i64 x ∧ decide (x ≥ 0) = xs.any f) := by
  apply s_slices_IndexFunc_api_Node
  unfold f_slices_IndexFunc_api_Node
  have hl := r.1
  refine ⟨fun k L h' => h' = h ∧ ∃ (i : Nat) (y : Int), L = [.int .i64 i, .int .i64 y] ∧ k + i = n ∧ (xs.take i).any f = false, ⟨n, rfl, 0, 0, rfl, rfl, rfl⟩, ?_⟩
  rintro k x7 x8 h9 ⟨rfl, i, y, e, hk, hany⟩
  simp only [List.cons.injEq, Value.int.injEq, true_and, and_true] at e
  obtain ⟨rfl, rfl⟩ := e
  refine ⟨fun hi => ?_, fun hi => ⟨rfl, _, rfl, ?_⟩⟩
  · simp only [decide_eq_true_eq] at hi
    obtain ⟨t, ht, hm⟩ := get_lt (l := xs) (i := i) (by omega)
    obtain ⟨a, p1, n1, c1, p2, n2, c2, e1, hb, t1, t2, d0, d1, d2, d3, d4, d5, d6, d7, d8, d9, d10⟩ := r.at ht rfl
    refine ⟨a, e1, hb, _, d0, _, d1, _, d2, _, _, _, d3, _, d4, _, d5, _, d6, _, _, _, d7, _, d8, _, d9, _, d10, ?_⟩
    refine (hf t hm _ _ _ _ _ _ t1 t2).mono fun v h18 ⟨e18, ev⟩ => ⟨_, ev, fun hb => ⟨e18, _, rfl, ?_⟩, fun hb => ?_⟩
    · rw [any_of_get f ht hb]; simp
    · rw [wrap_succ (by omega)]
      exact ⟨k - 1, by omega, e18, i + 1, _, rfl, by omega, by rw [any_take_succ f ht, hany, hb]; rfl⟩
  · simp only [decide_eq_false_iff_not] at hi
    rw [List.take_of_length_le (by omega)] at hany
    rw [hany]; rfl

theorem c_ContainsFunc_Node {v3 : Value} {p : Option Addr} {n c : Nat} {xs : List Nd} (r : NodesR h p n c xs) (hn : n < 2 ^ 36) (f : Nd → Bool)
    (hf : ∀ x, x ∈ xs → ∀ p1 n1 c1 p2 n2 c2, TestsR h p1 n1 c1 x.pred.tests → TestsR h p2 n2 c2 x.guard.tests → CallV P v3 #[ndV x p1 n1 c1 p2 n2 c2] h (fun r h' => h' = h ∧ r = .bool (f x))) :
    Spec P n_slices_ContainsFunc_api_Node #[.slice p n c, v3] h (fun r h' => h' = h ∧ r = .bool (xs.any f)) := by
  apply s_slices_ContainsFunc_api_Node
  unfold f_slices_ContainsFunc_api_Node
  exact (c_IndexFunc_Node r hn f hf).mono fun v h5 ⟨e5, x, ev, hx⟩ => ⟨x, ev, e5, by rw [hx]⟩

theorem c_tree_none {q : Prd} {p : Option Addr} {n c : Nat} (r : TestsR h p n c q.tests) :
    Spec P n_tree_none #[.agg #[.bool q.any, .int .u8 q.topic, .slice p n c]] h (fun r h' => h' = h ∧ r = .bool q.none) := by
  apply s_tree_none
  unfold f_tree_none
  have hl := r.1
  refine jBBB ⟨fun h1 => ⟨fun h2 => ⟨_, _, _, rfl, rfl, ?_⟩, fun h2 => ⟨_, _, _, rfl, rfl, ?_⟩⟩, fun h1 => ⟨_, _, _, rfl, rfl, ?_⟩⟩
  all_goals (congr 1; unfold Prd.none; subst hl; grind [List.length_eq_zero_iff])

theorem c_tree_plain {x : Nd} {p1 p2 : Option Addr} {n1 c1 n2 c2 : Nat} (r1 : TestsR h p1 n1 c1 x.pred.tests) (r2 : TestsR h p2 n2 c2 x.guard.tests) (m : Nat) :
    Spec P n_tree_plain #[ndV x p1 n1 c1 p2 n2 c2, .int .i64 m] h (fun r h' => h' = h ∧ r = .bool (plain x m)) := by
  apply s_tree_plain
  unfold f_tree_plain
  refine pBB (fun b _ h' => h' = h ∧ b = (decide (x.lo = 0) && decide (x.hi = 0))) ⟨fun h1 => ⟨_, _, rfl, rfl, by grind⟩, fun h1 => ⟨_, _, rfl, rfl, by grind⟩⟩ ?_
  rintro bare _ h1 ⟨rfl, hbare⟩
  refine pBBB (fun _ b _ h' => h' = h1 ∧ b = !((decide (x.kind = 1) || x.pred.none) && (x.guarded || x.guard.none))) ⟨fun e1 => ?_, fun e1 => ⟨fun e2 => ?_, fun e2 => ⟨_, _, _, rfl, rfl, by grind⟩⟩⟩ ?_
  · refine (c_tree_none (q := x.pred) r1).mono fun v h2 ⟨e, ev⟩ => ⟨_, ev, ?_⟩
    subst e
    refine ⟨fun e2 => ⟨_, _, _, rfl, rfl, by grind⟩, fun e2 => ⟨fun e3 => ?_, fun e3 => ⟨_, _, _, rfl, rfl, by grind⟩⟩⟩
    exact (c_tree_none (q := x.guard) r2).mono fun v h2 ⟨e, ev⟩ => ⟨_, ev, _, _, _, rfl, e, by grind⟩
  · exact (c_tree_none (q := x.guard) r2).mono fun v h2 ⟨e, ev⟩ => ⟨_, ev, _, _, _, rfl, e, by grind⟩
  rintro _ bad _ h2 ⟨rfl, hbad⟩
  refine ⟨fun e1 => ⟨rfl, ?_⟩, fun e1 => ⟨fun e2 => ?_, fun e2 => ⟨fun e3 => ?_, fun e3 => ⟨fun e4 => ?_, fun e4 => ⟨fun e5 => ?_, fun e5 => ⟨rfl, ?_⟩⟩⟩⟩⟩⟩
  · congr 1; unfold plain; grind
  · refine jBBB ⟨fun h1 => ⟨fun h2 => ⟨_, _, _, rfl, rfl, ?_⟩, fun h2 => ⟨_, _, _, rfl, rfl, ?_⟩⟩, fun h1 => ⟨_, _, _, rfl, rfl, ?_⟩⟩ <;> (congr 1; unfold plain; grind)
  · refine jBB ⟨fun h1 => ⟨_, _, rfl, rfl, ?_⟩, fun h1 => ⟨_, _, rfl, rfl, ?_⟩⟩ <;> (congr 1; unfold plain; grind)
  · refine jBBB ⟨fun h1 => ⟨fun h2 => ⟨_, _, _, rfl, rfl, ?_⟩, fun h2 => ⟨_, _, _, rfl, rfl, ?_⟩⟩, fun h1 => ⟨_, _, _, rfl, rfl, ?_⟩⟩ <;> (congr 1; unfold plain; grind)
  · refine jBBBB ⟨fun h1 => ⟨fun h2 => ⟨fun h3 => ⟨_, _, _, _, rfl, rfl, ?_⟩, fun h3 => ⟨_, _, _, _, rfl, rfl, ?_⟩⟩, fun h2 => ⟨_, _, _, _, rfl, rfl, ?_⟩⟩, fun h1 => ⟨_, _, _, _, rfl, rfl, ?_⟩⟩ <;> (congr 1; unfold plain; grind)
  · congr 1; unfold plain; grind
end Pt

