/- Clones, and patterns with lists of their own: what the program's functions hand back. -/
import Derived.Test.YtlcebmelfcfkaaaPtRaw
import Derived.Test.YtlcebmelfcfkaaaPtTxtA
namespace Pt
open Go Lf Pat
variable {h : H}

theorem enc_len (ts : List Tst) : ∀ r, r ∈ ts.map Tst.enc → r.length = 6 := fun r hr => by
  obtain ⟨t, _, rfl⟩ := List.mem_map.1 hr; rfl
theorem enc_one (ts : List Tst) : ∀ r, r ∈ ts.map Tst.enc → ∀ v, v ∈ r → v.oneCell = true := fun r hr v hv => by
  obtain ⟨t, _, rfl⟩ := List.mem_map.1 hr
  simp only [Tst.enc, List.mem_cons, List.not_mem_nil, or_false] at hv
  rcases hv with rfl | rfl | rfl | rfl | rfl | rfl <;> rfl

theorem c_Clone_Test {p : Option Addr} {n c : Nat} {ts : List Tst} (r : TestsR h p n c ts) (hn : n < 2 ^ 36) :
    Spec P n_slices_Clone_api_Test #[.slice p n c] h (fun v h' => Le h h' ∧ ∃ p' c', v = .slice p' n c' ∧ ArrL h' t_api_Test 6 p' n c' (ts.map Tst.enc) ∧ NewIn h p') := by
  apply s_slices_Clone_api_Test
  unfold f_slices_Clone_api_Test
  have hl := r.1
  refine RunL.sliceNil ef_api_Test.hu ⟨_, rfl, fun h1 => ?_, fun h1 => ?_⟩
  · cases p with
    | some a => cases h1
    | none =>
      have : ts = [] := by
        cases ts with
        | nil => rfl
        | cons t ts => obtain ⟨a, e, _⟩ := r.2.2 0 t.enc rfl; cases e
      subst this
      simp only [List.length_nil] at hl
      subst hl
      exact ⟨Le.refl _, _, _, rfl, ArrL.nilA _ _ _, NewIn.none _⟩
  · exact RunL.cloneL ef_api_Test (by simpa using hl) hn r.2.2 (enc_len ts) (enc_one ts) fun h' p' c' a le nw => ⟨_, _, _, rfl, le, _, _, rfl, a, nw⟩

theorem node_len {h : H} {r : List Value} {x : Nd} (n : NodeR h r x) : r.length = 11 ∧ ∀ v, v ∈ r → v.oneCell = true := by
  obtain ⟨p1, n1, c1, p2, n2, c2, rfl, _, _⟩ := n
  refine ⟨rfl, fun v hv => ?_⟩
  simp only [List.mem_cons, List.not_mem_nil, or_false] at hv
  rcases hv with rfl | rfl | rfl | rfl | rfl | rfl | rfl | rfl | rfl | rfl | rfl <;> rfl

/-- The rows of nodes. -/
theorem NodesR.rows {p : Option Addr} {n c : Nat} {xs : List Nd} (r : NodesR h p n c xs) : ∃ rows, n = rows.length ∧ rows.length = xs.length ∧ RowsL h p 11 rows ∧ ∀ (i : Nat) (x : Nd), xs[i]? = some x → ∃ row, rows[i]? = some row ∧ NodeR h row x := by
  have hh : ∀ i : Nat, ∃ row : List Value, ∀ x, xs[i]? = some x → NodeR h row x ∧ ∃ a, p = some a ∧ ∀ (j : Nat) (v : Value), row[j]? = some v → cell h ((aidx a 0 (i : Int) 11).add j) = some v := fun i => by
    cases hx : xs[i]? with
    | none => exact ⟨[], fun x e => by cases e⟩
    | some x =>
      obtain ⟨a, row, e, nr, hc⟩ := r.2.2 i x hx
      exact ⟨row, fun y ey => by cases ey; exact ⟨nr, a, e, hc⟩⟩
  refine ⟨(List.range xs.length).map fun i => Classical.choose (hh i), by simp [r.1], by simp, fun i row hi => ?_, fun i x hx => ⟨_, ?_, (Classical.choose_spec (hh i) x hx).1⟩⟩
  · have hlt : i < xs.length := by simpa using (List.getElem?_eq_some_iff.1 hi).1
    simp only [List.getElem?_map, List.getElem?_range hlt, Option.map_some, Option.some.injEq] at hi
    subst hi
    exact (Classical.choose_spec (hh i) xs[i] (List.getElem?_eq_getElem hlt)).2
  · have hlt := (List.getElem?_eq_some_iff.1 hx).1
    simp [List.getElem?_range hlt]

theorem c_Clone_Node {p : Option Addr} {n c : Nat} {xs : List Nd} (r : NodesR h p n c xs) (hn : n < 2 ^ 36) :
    Spec P n_slices_Clone_api_Node #[.slice p n c] h (fun v h' => ∃ p' c', v = .slice p' n c' ∧ GathR NodeR h' t_api_Node 11 p' n c' xs ∧ Le h (wo h' p') ∧ NewIn h p') := by
  apply s_slices_Clone_api_Node
  unfold f_slices_Clone_api_Node
  have hl := r.1
  refine RunL.sliceNil ef_api_Node.hu ⟨_, rfl, fun h1 => ?_, fun h1 => ?_⟩
  · cases p with
    | some a => cases h1
    | none =>
      have : xs = [] := by
        cases xs with
        | nil => rfl
        | cons t ts => obtain ⟨a, _, e, _⟩ := r.2.2 0 t rfl; cases e
      subst this
      simp only [List.length_nil] at hl
      subst hl
      exact ⟨_, _, rfl, GathR.nil _ _ _ _, by rw [wo_nil]; exact Le.refl _, NewIn.none _⟩
  · obtain ⟨rows, h2, h3, h4, h5⟩ := NodesR.rows r
    have hrow : ∀ row, row ∈ rows → row.length = 11 ∧ ∀ v, v ∈ row → v.oneCell = true := fun row hm => by
      obtain ⟨i, hi, rfl⟩ := List.getElem_of_mem hm
      obtain ⟨row', e, nr⟩ := h5 i xs[i] (List.getElem?_eq_getElem (by omega))
      rw [List.getElem?_eq_getElem hi] at e; cases e
      exact node_len nr
    refine RunL.cloneL ef_api_Node h2 hn h4 (fun r hr => (hrow r hr).1) (fun r hr => (hrow r hr).2) fun h' p' c' a le nw => ⟨_, _, _, rfl, _, _, rfl, ?_, le_wo le nw, nw⟩
    refine ⟨rows, a, h3, fun i x hx => ?_⟩
    obtain ⟨row, e, nr⟩ := h5 i x hx
    exact ⟨row, e, nr.mono (le_wo le nw)⟩

theorem c_tree_Own {q : Ptn} {p : Option Addr} {n c : Nat} (r : NodesR h p n c q.nodes) (hs : ∀ x, x ∈ q.nodes → Small x) (hn : n < 2 ^ 36) :
    Spec P n_tree_Own #[.agg #[.slice p n c, .int .u64 q.window]] h (fun v h' => Le h h' ∧ ∃ p' c', v = .agg #[.slice p' n c', .int .u64 q.window] ∧ NodesR h' p' n c' q.nodes) := by
  apply s_tree_Own
  unfold f_tree_Own
  have hl := r.1
  refine (c_Clone_Node r hn).mono fun v h5 ⟨p', c', ev, g, le, nw⟩ => ⟨_, _, _, ev, ?_⟩
  refine ⟨fun k L h' => ∃ i : Nat, L = [.int .i64 i] ∧ k + i = n ∧ GathR NodeR h' t_api_Node 11 p' n c' q.nodes ∧ Le h (wo h' p'), ⟨n, 0, rfl, rfl, g, le⟩, ?_⟩
  rintro k x12 h13 ⟨i, e, hk, g, le⟩
  simp only [List.cons.injEq, Value.int.injEq, true_and, and_true] at e
  subst e
  refine ⟨fun hi => ?_, fun hi => ⟨le.trans (wo_le _ _), _, _, rfl, g.rows (fun l x => x.mono l)⟩⟩
  simp only [decide_eq_true_eq] at hi
  obtain ⟨x, hx, hm⟩ := get_lt (l := q.nodes) (i := i) (by omega)
  obtain ⟨a, row, e1, hb, nr, hc, upd⟩ := g.upd hx
  obtain ⟨p1, n1, c1, p2, n2, c2, rfl, t1, t2⟩ := nr
  have hsm := hs x hm
  refine ⟨a, e1, hb, _, _, _, hc 3 _ rfl, ?_⟩
  refine ((c_Clone_Test t1 (by have := t1.1; unfold Small at hsm; omega)).beside g.has).mono fun v h19 hA => ?_
  obtain ⟨⟨l19, q1, k1, ev, a1, _⟩, same⟩ := hA
  have g19 := g.beside (fun l x => x.mono l) same l19
  obtain ⟨a', row', e1', _, nr', hc', upd'⟩ := g19.upd hx
  rw [e1] at e1'; cases e1'
  obtain ⟨p1', n1', c1', p2', n2', c2', rfl, t1', t2'⟩ := nr'
  obtain ⟨is1, g23, w23⟩ := upd' 3 (.slice q1 n1 k1) (by omega) ⟨q1, n1, k1, p2', n2', c2', rfl, testsR_of_arr a1, t2'⟩
  refine ⟨_, _, _, ev, is1, fun h23 e23 => ?_⟩
  rw [← e23] at g23 w23
  obtain ⟨a2, row2, e2, _, nr2, hc2, _⟩ := g23.upd hx
  rw [e1] at e2; cases e2
  obtain ⟨p1b, n1b, c1b, p2b, n2b, c2b, rfl, t1b, t2b⟩ := nr2
  refine ⟨_, _, _, hc2 7 _ rfl, ?_⟩
  refine ((c_Clone_Test t2b (by have := t2b.1; unfold Small at hsm; omega)).beside g23.has).mono fun v h28 hA => ?_
  obtain ⟨⟨l28, q2, k2, ev, a2', _⟩, same2⟩ := hA
  have g28 := g23.beside (fun l x => x.mono l) same2 l28
  obtain ⟨a3, row3, e3, _, nr3, hc3, upd3⟩ := g28.upd hx
  rw [e1] at e3; cases e3
  obtain ⟨p1c, n1c, c1c, p2c, n2c, c2c, rfl, t1c, t2c⟩ := nr3
  obtain ⟨is2, g32, w32⟩ := upd3 7 (.slice q2 n2b k2) (by omega) ⟨p1c, n1c, c1c, q2, n2b, k2, rfl, t1c, testsR_of_arr a2'⟩
  refine ⟨_, _, _, ev, is2, fun h32 e32 => ⟨k - 1, by omega, i + 1, by rw [wrap_succ (by omega)], by omega, by rw [e32]; exact g32, ?_⟩⟩
  rw [e32, w32]
  refine le.trans (l19.trans ?_)
  rw [← w23]; exact l28
end Pt

