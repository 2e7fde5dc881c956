/- Whether a pattern may be: what the document's function hands back. -/
import Derived.Test.YtlcebmelfcfkaaaPtBuild
namespace Pt
open Go Lf Pat
variable {h : H}

/-- The tree of all nodes, as a function hands it back. -/
theorem c_ref11_Tree {p : Option Addr} {n c : Nat} {xs : List Nd} (r : NodesR h p n c xs) (hn : n < 2 ^ 35) :
    Spec P n_ref11_Tree #[.slice p n c] h (fun v h' => Le h h' ∧ ∃ (row : List Value) (ok : Bool), v = .tuple #[tV row, .bool ok] ∧ (∃ x p1 n1 c1 p2 n2 c2 p n c, row = treeRow x p1 n1 c1 p2 n2 c2 p n c) ∧
      (tree xs.length xs = none → ok = false) ∧ (∀ t, tree xs.length xs = some t → ok = true ∧ TR h' row t)) := by
  apply s_ref11_Tree
  unfold f_ref11_Tree
  have hl := r.1
  refine (c_ref11_build n 0 n r hn (Nat.le_refl _) (by omega)).mono fun v h4 hB => ?_
  obtain ⟨l4, row, nx, ok, ev, ⟨ux, u1, u2, u3, u4, u5, u6, u7, u8, u9, rfl⟩, hno, hyes⟩ := hB
  refine ⟨_, _, _, _, _, _, _, _, _, _, _, _, _, _, _, _, _, _, _, _, ev, ?_⟩
  simp only [List.drop_zero, Nat.sub_zero] at hno hyes
  rw [List.take_of_length_le (by omega)] at hno hyes
  have key : ∀ t, bld n xs = some t → (nx = (n : Int) ↔ tree xs.length xs = some t) ∧ ok = true ∧ TR h4 (treeRow ux u1 u2 u3 u4 u5 u6 u7 u8 u9) t := fun t ht => by
    obtain ⟨h1, h2, h3⟩ := hyes t ht
    refine ⟨?_, h1, h3⟩
    cases xs with
    | nil => simp [bld] at ht
    | cons y ys =>
      simp only [bld] at ht
      split at ht
      · cases ht
      · rename_i hc
        simp only [List.length_cons] at hl ⊢
        have hn1 : n = ys.length + 1 := hl
        rw [hn1] at ht
        obtain ⟨x', r', hx', hsz, hnode, _⟩ := tree_parts ht
        simp only [List.cons.injEq] at hx'
        have hnx : nx = 1 + y.size := by rw [h2, hnode, ← hx'.1]; simp
        constructor
        · intro e
          have : y.size.toNat = ys.length := by omega
          rw [this, List.take_of_length_le (Nat.le_refl _)] at ht
          exact ht
        · intro e
          obtain ⟨x2, r2, hx2, hsz2, _⟩ := tree_parts e
          simp only [List.cons.injEq] at hx2
          have : y.size = (ys.length : Int) := by rw [hx2.1, hsz2, hx2.2]
          omega
  have hnone : bld n xs = none → tree xs.length xs = none := fun hb => by
    cases xs with
    | nil => rfl
    | cons y ys =>
      simp only [List.length_cons] at hl ⊢
      simp only [bld] at hb
      split at hb
      · rename_i hc
        simp only [tree]
        rw [if_neg (by omega)]
      · rename_i hc
        simp only [tree]
        split
        · rename_i he
          have : y.size.toNat = ys.length := by omega
          rw [this, List.take_of_length_le (Nat.le_refl _), hl] at hb
          simp only [tree, if_pos he] at hb
          exact hb
        · rfl
  refine pBB (fun b _ h' => h' = h4 ∧ b = (ok && decide (nx = (n : Int)))) ⟨fun h1 => ⟨_, _, rfl, rfl, by rw [h1]; rfl⟩, fun h1 => ⟨_, _, rfl, rfl, by rw [h1]; rfl⟩⟩ ?_
  rintro b _ h28 ⟨rfl, eb⟩
  refine ⟨l4, _, b, rfl, ⟨_, _, _, _, _, _, _, _, _, _, rfl⟩, fun hN => ?_, fun t ht => ?_⟩
  · rw [eb]
    cases hb : bld n xs with
    | none => rw [hno hb]; rfl
    | some t =>
      obtain ⟨h1, h2, h3⟩ := key t hb
      rw [h2]
      have : ¬ nx = (n : Int) := fun e => by rw [h1.1 e] at hN; cases hN
      simp [this]
  · cases hb : bld n xs with
    | none => rw [hnone hb] at ht; cases ht
    | some t' =>
      obtain ⟨h1, h2, h3⟩ := key t' hb
      have hnx : nx = (n : Int) := by
        cases xs with
        | nil => simp [bld] at hb
        | cons y ys =>
          simp only [List.length_cons] at hl ht
          obtain ⟨x2, r2, hx2, hsz2, _⟩ := tree_parts ht
          simp only [List.cons.injEq] at hx2
          obtain ⟨_, hn', _⟩ := hyes t' hb
          simp only [bld] at hb
          split at hb
          · cases hb
          · rw [show n = ys.length + 1 from hl] at hb
            obtain ⟨x', r', hx', hsz, hnode, _⟩ := tree_parts hb
            simp only [List.cons.injEq] at hx'
            rw [hn', hnode, ← hx'.1, hx2.1, hsz2, hl, hx2.2]; simp; omega
      have := h1.1 hnx
      rw [ht] at this; cases this
      exact ⟨by rw [eb, h2, hnx]; simp, h3⟩

theorem c_ref11_May {q : Ptn} {p : Option Addr} {n c : Nat} (r : NodesR h p n c q.nodes) (hs : ∀ x, x ∈ q.nodes → Small x) (hn : n < 2 ^ 35) (hw : 0 ≤ q.window) :
    Spec P n_ref11_May #[.agg #[.slice p n c, .int .u64 q.window]] h (fun v h' => Le h h' ∧ v = .int .i64 (mayP q)) := by
  apply s_ref11_May
  unfold f_ref11_May
  have hl := r.1
  refine ⟨fun h1 => ⟨Le.refl _, ?_⟩, fun h1 => ?_⟩
  · simp only [decide_eq_true_eq] at h1
    unfold mayP; rw [if_pos (by omega)]
  simp only [decide_eq_false_iff_not] at h1
  have h32 : ¬ q.nodes.length > 32 := by omega
  refine (c_ref11_Tree r hn).mono fun v h5 hB => ?_
  obtain ⟨l5, row, ok, ev, ⟨ux, u1, u2, u3, u4, u5, u6, u7, u8, u9, rfl⟩, hno, hyes⟩ := hB
  refine ⟨_, _, _, _, _, _, _, _, _, _, _, _, _, _, _, _, _, _, _, ev, ?_⟩
  cases ht : tree q.nodes.length q.nodes with
  | none =>
    rw [hno ht]
    refine jBB ⟨fun _ => ⟨_, _, rfl, fun _ => ⟨l5, ?_⟩, fun h => by cases h⟩, fun h => by cases h⟩
    unfold mayP; rw [if_neg h32, ht]
  | some t =>
    obtain ⟨hok, hTR⟩ := hyes t ht
    have hcnt := tree_count _ _ _ ht
    have hsz := tree_sized _ _ _ ht
    have hc35 : t.count < 2 ^ 35 := by omega
    rw [hok]
    refine pBB (fun b _ h' => h' = h5 ∧ b = !t.formed) ⟨fun h => (by cases h), fun _ => (c_ref11_T_formed t hTR hc35 hsz).mono fun v h' ⟨e, ev⟩ => ⟨_, ev, _, _, rfl, e, rfl⟩⟩ ?_
    rintro b _ h31 ⟨rfl, rfl⟩
    refine ⟨fun hF => ⟨l5, ?_⟩, fun hF => ?_⟩
    · unfold mayP; rw [if_neg h32, ht]; simp only [hF, if_true]
    have hform : t.formed = true := by simpa using hF
    refine ⟨fun kk L h' => h' = h31 ∧ ∃ (i : Nat) (y : Int), L = [.int .i64 i, .int .i64 y] ∧ kk + i = n ∧ (q.nodes.take i).any (fun x => !x.pred.may || !x.guard.may) = false, ⟨n, rfl, 0, _, rfl, rfl, rfl⟩, ?_⟩
    rintro kk x35 x36 h37 ⟨rfl, i, y, e, hk, hany⟩
    simp only [List.cons.injEq, Value.int.injEq, true_and, and_true] at e
    obtain ⟨rfl, rfl⟩ := e
    refine ⟨fun hi => ?_, fun hi => ?_⟩
    · simp only [decide_eq_true_eq] at hi
      obtain ⟨x, hx, hm⟩ := get_lt (l := q.nodes) (i := i) (by omega)
      obtain ⟨a, p1, n1, c1, p2, n2, c2, e1, hb, t1, t2, d0, d1, d2, d3, d4, d5, d6, d7, d8, d9, d10⟩ := (r.mono l5).at hx rfl
      have hsm := hs x hm
      refine ⟨a, e1, hb, _, d1, _, d2, _, _, _, d3, ?_⟩
      refine (c_ref10_May (q := x.pred) t1 (by have := t1.1; unfold Small at hsm; omega)).mono fun v h45 ⟨e45, ev⟩ => ⟨_, ev, ?_⟩
      subst e45
      refine pBB (fun b _ h' => h' = h45 ∧ b = (!x.pred.may || !x.guard.may)) ⟨fun h2 => ⟨_, _, rfl, rfl, by grind⟩, fun h2 => ⟨a, e1, hb, _, d5, _, d6, _, _, _, d7, (c_ref10_May (q := x.guard) t2 (by have := t2.1; unfold Small at hsm; omega)).mono fun v h55 ⟨e55, ev⟩ => ⟨_, ev, _, _, rfl, e55, by grind⟩⟩⟩ ?_
      rintro b _ h59 ⟨rfl, eb⟩
      refine ⟨fun h2 => ⟨l5, ?_⟩, fun h2 => ?_⟩
      · have : q.nodes.any (fun x => !x.pred.may || !x.guard.may) = true := any_of_get _ hx (by rw [← eb, h2])
        unfold mayP; rw [if_neg h32, ht]; simp only [hform, this, Bool.not_true, Bool.false_eq_true, if_false, if_true]
      · rw [wrap_succ (by omega)]
        exact ⟨kk - 1, by omega, rfl, i + 1, _, rfl, by omega, by rw [any_take_succ _ hx, hany, ← eb, h2]; rfl⟩
    · simp only [decide_eq_false_iff_not] at hi
      rw [List.take_of_length_le (by omega)] at hany
      refine (c_ref11_T_Depth t hTR hc35).mono fun v h61 ⟨e61, ev⟩ => ⟨_, ev, ?_⟩
      subst e61
      refine ⟨fun h3 => ⟨l5, ?_⟩, fun h3 => ?_⟩
      · simp only [decide_eq_true_eq] at h3
        unfold mayP; rw [if_neg h32, ht]; simp only [hform, hany, Bool.not_true, Bool.false_eq_true, if_false]
        rw [if_pos (by omega)]
      simp only [decide_eq_false_iff_not] at h3
      refine pBB (fun b _ h' => h' = h61 ∧ b = decide (q.window < 1 ∨ q.window > 1048576)) ⟨fun h4 => ⟨_, _, rfl, rfl, by grind⟩, fun h4 => ⟨_, _, rfl, rfl, by grind⟩⟩ ?_
      rintro b _ h66 ⟨rfl, hb⟩
      refine ⟨fun h4 => ⟨l5, ?_⟩, fun h4 => ?_⟩
      · unfold mayP; rw [if_neg h32, ht]; simp only [hform, hany, Bool.not_true, Bool.false_eq_true, if_false]
        rw [if_neg (by omega), if_pos (by grind)]
      refine (c_ref11_T_Places t hTR hform ?_ hc35 hsz).mono fun v h68 ⟨e68, ev⟩ => ⟨_, ev, ?_⟩
      · calc t.count * 8 ^ t.deep ≤ 32 * 8 ^ 8 := Nat.mul_le_mul (by omega) (Nat.pow_le_pow_right (by omega) (by omega))
          _ < 2 ^ 60 := by decide
      subst e68
      refine ⟨fun h5 => ⟨l5, ?_⟩, fun h5 => ⟨l5, ?_⟩⟩
      · simp only [decide_eq_true_eq] at h5
        unfold mayP; rw [if_neg h32, ht]; simp only [hform, hany, Bool.not_true, Bool.false_eq_true, if_false]
        rw [if_neg (by omega), if_neg (by grind), if_pos (by omega)]
      · simp only [decide_eq_false_iff_not] at h5
        unfold mayP; rw [if_neg h32, ht]; simp only [hform, hany, Bool.not_true, Bool.false_eq_true, if_false]
        rw [if_neg (by omega), if_neg (by grind), if_neg (by omega)]
end Pt

