/- How deep a pattern is, how many places it has, whether it may be: what the program's functions hand back. -/
import Derived.Test.YtlcebmelfcfkaaaPtForm
namespace Pt
open Go Lf Pat
variable {h : H}

theorem c_tree_deep : ∀ (f : Nat) (l : List Nd) (t : T) {h : H} {p : Option Addr} {n c : Nat}, tree f l = some t → NodesR h p n c l → n < 2 ^ 35 →
    Spec P n_tree_deep #[.slice p n c] h (fun v h' => Le h h' ∧ v = .int .i64 t.deep)
  | 0, l, t, h, p, n, c, ht, r, hn => by simp [tree] at ht
  | f + 1, l, t, h, p, n, c, ht, r, hn => by
    apply s_tree_deep
    unfold f_tree_deep
    have hl := r.1
    have hcnt := tree_count _ _ _ ht
    obtain ⟨x, xs, hlx, hsz, hnode, hm⟩ := tree_parts ht
    refine (c_tree_Parts r hn).mono fun v h4 ⟨l4, q, m, k, ev, pr⟩ => ⟨_, _, _, ev, ?_⟩
    have hml := mapM_length hm
    have hm1 := pr.1
    have hpl := parts_len l
    have hd := deepL_le' t.parts
    have hcl : countL t.parts < t.count := by cases t with | mk y ps => simp only [T.parts, T.count]; omega
    refine ⟨fun kk L h' => Le h4 h' ∧ ∃ (i : Nat), L = [.int .i64 i, .int .i64 (deepL (t.parts.take i))] ∧ kk + i = m, ⟨m, Le.refl _, 0, rfl, rfl⟩, ?_⟩
    rintro kk x11 x12 h13 ⟨le, i, e, hk⟩
    simp only [List.cons.injEq, Value.int.injEq, true_and, and_true] at e
    obtain ⟨rfl, rfl⟩ := e
    refine ⟨fun hi => ?_, fun hi => ⟨l4.trans le, ?_⟩⟩
    · simp only [decide_eq_true_eq] at hi
      obtain ⟨u, hu, _⟩ := get_lt (l := parts l) (i := i) (by omega)
      obtain ⟨t', ht', hg⟩ := mapM_get hm i u hu
      obtain ⟨a, q, m', k', e1, hb, c0, nr⟩ := pr.at hu rfl
      refine ⟨a, e1, hb, _, _, _, cell_le le c0, ?_⟩
      have hlt := (parts_shorter (List.mem_of_getElem? hu)).2
      refine (c_tree_deep f u t' hg (nr.mono le) (by have := nr.1; omega)).mono fun v h19 ⟨l19, ev⟩ => ⟨_, ev, kk - 1, by omega, le.trans l19, i + 1, ?_, by omega⟩
      have h1 := deepL_le ht'
      rw [wrap_succ (by omega), wrap_succ (by omega), deepL_take ht']
      congr 3
      omega
    · simp only [decide_eq_false_iff_not] at hi
      rw [List.take_of_length_le (by omega)]
      cases t with | mk y ps => rfl

theorem c_tree_places : ∀ (f : Nat) (l : List Nd) (t : T) {h : H} {p : Option Addr} {n c : Nat}, tree f l = some t → t.formed = true → t.count * 8 ^ t.deep < 2 ^ 60 → NodesR h p n c l → n < 2 ^ 35 →
    Spec P n_tree_places #[.slice p n c] h (fun v h' => Le h h' ∧ v = .int .i64 t.places)
  | 0, l, t, h, p, n, c, ht, hF, hB, r, hn => by simp [tree] at ht
  | f + 1, l, t, h, p, n, c, ht, hF, hB, r, hn => by
    apply s_tree_places
    unfold f_tree_places
    have hl := r.1
    have hcnt := tree_count _ _ _ ht
    obtain ⟨x, xs, hlx, hsz, hnode, hm⟩ := tree_parts ht
    have hx0 : l[0]? = some x := by rw [hlx]; rfl
    obtain ⟨a, p1, n1, c1, p2, n2, c2, e1, hb, t1, t2, d0, d1, d2, d3, d4, d5, d6, d7, d8, d9, d10⟩ := r.at hx0 rfl
    cases t with
    | mk y ps =>
    simp only [T.node] at hnode
    subst hnode
    simp only [T.parts] at hm
    refine ⟨a, e1, hb, _, d0, fun h1 => ⟨Le.refl _, ?_⟩, fun h1 => ?_⟩
    · simp only [decide_eq_true_eq] at h1
      simp only [T.places, if_pos h1]; rfl
    simp only [decide_eq_false_iff_not] at h1
    have hpb := places_bound _ hF
    simp only [T.formed, Bool.and_eq_true] at hF
    refine (c_tree_Parts r hn).mono fun v h4 ⟨l4, q, m, k, ev, pr⟩ => ⟨_, _, _, ev, ?_⟩
    have hml := mapM_length hm
    have hm1 := pr.1
    have hpl := parts_len l
    have hpL := placesL_bound ps hF.2
    have hle2 : countL ps * 8 ^ deepL ps ≤ (T.mk y ps).count * 8 ^ (T.mk y ps).deep := Nat.mul_le_mul_right _ (by simp [T.count])
    refine ⟨fun kk L h' => Le h4 h' ∧ ∃ (i : Nat), L = [.int .i64 i, .int .i64 (placesL (ps.take i))] ∧ kk + i = m, ⟨m, Le.refl _, 0, rfl, rfl⟩, ?_⟩
    rintro kk x11 x12 h13 ⟨le, i, e, hk⟩
    simp only [List.cons.injEq, Value.int.injEq, true_and, and_true] at e
    obtain ⟨rfl, rfl⟩ := e
    refine ⟨fun hi => ?_, fun hi => ?_⟩
    · simp only [decide_eq_true_eq] at hi
      obtain ⟨u, hu, _⟩ := get_lt (l := parts l) (i := i) (by omega)
      obtain ⟨t', ht', hg⟩ := mapM_get hm i u hu
      obtain ⟨a, q, m', k', e1, hb, c0, nr⟩ := pr.at hu rfl
      refine ⟨a, e1, hb, _, _, _, cell_le le c0, ?_⟩
      have hlt := (parts_shorter (List.mem_of_getElem? hu)).2
      have hB' : t'.count * 8 ^ t'.deep < 2 ^ 60 := by
        refine Nat.lt_of_le_of_lt (Nat.le_trans (Nat.mul_le_mul (countL_le ht') (Nat.pow_le_pow_right (by omega) (by have := deepL_le ht'; omega : t'.deep ≤ deepL ps))) hle2) hB
      refine (c_tree_places f u t' hg (formedL_get hF.2 ht') hB' (nr.mono le) (by have := nr.1; omega)).mono fun v h19 ⟨l19, ev⟩ => ⟨_, ev, kk - 1, by omega, le.trans l19, i + 1, ?_, by omega⟩
      have h1 := placesL_take_le ps (i + 1)
      rw [placesL_take ht'] at h1 ⊢
      rw [wrap_succ (by omega), wrap_i64_of (by omega) (by omega)]
      rfl
    · simp only [decide_eq_false_iff_not] at hi
      rw [List.take_of_length_le (by omega)]
      refine ⟨fun l h' => h' = h13 ∧ l = [.int .i64 (T.mk y ps).places], ⟨a, e1, hb, _, cell_le (l4.trans le) d0, fun h4 => ⟨a, e1, hb, _, cell_le (l4.trans le) d9, rfl, ?_⟩, fun h4 => ⟨rfl, ?_⟩⟩, ?_⟩
      · simp only [decide_eq_true_eq] at h4
        have hh := plain_hi hF.1.1 h4
        simp only [T.places, if_neg h1, if_pos h4] at hpb ⊢
        have e : IntKind.i64.wrap y.hi = ((y.hi.toNat : Nat) : Int) := by rw [wrap_i64_of (by omega) (by omega)]; omega
        rw [e, wrap_i64_of (by omega) (by
          have : ((placesL ps : Nat) : Int) * (y.hi.toNat : Int) = ((placesL ps * y.hi.toNat : Nat) : Int) := by simp
          rw [this]; omega)]
        simp
      · simp only [decide_eq_false_iff_not] at h4
        simp only [T.places, if_neg h1, if_neg h4]
      · rintro x28 h29 ⟨rfl, e⟩
        simp only [List.cons.injEq, Value.int.injEq, true_and, and_true] at e
        subst e
        exact ⟨l4.trans le, rfl⟩

/-- Whether a pattern may be: the error's number. -/
def mayP (q : Ptn) : Int :=
  if q.nodes.length > 32 then 12 else
  match tree q.nodes.length q.nodes with
  | none => 2
  | some t =>
    if !t.formed then 2 else if q.nodes.any fun x => !x.pred.may || !x.guard.may then 1 else if t.deep > 8 then 16 else
    if q.window < 1 ∨ q.window > 1048576 then 5 else if t.places > 32 then 4 else 0

theorem c_tree_May {q : Ptn} {p : Option Addr} {n c : Nat} (r : NodesR h p n c q.nodes) (hs : ∀ x, x ∈ q.nodes → Small x) (hn : n < 2 ^ 35) :
    Spec P n_tree_May #[.agg #[.slice p n c, .int .u64 q.window]] h (fun v h' => Le h h' ∧ v = .int .i64 (mayP q)) := by
  apply s_tree_May
  unfold f_tree_May
  have hl := r.1
  refine ⟨fun h1 => ⟨Le.refl _, ?_⟩, fun h1 => ?_⟩
  · simp only [decide_eq_true_eq] at h1
    unfold mayP; rw [if_pos (by omega)]
  simp only [decide_eq_false_iff_not] at h1
  have h32 : ¬ q.nodes.length > 32 := by omega
  refine (c_tree_formed q.nodes.length q.nodes (Nat.le_refl _) r hn).mono fun v h5 ⟨l5, ev⟩ => ⟨_, ev, fun hF => ⟨l5, ?_⟩, fun hF => ?_⟩
  · unfold mayP; rw [if_neg h32]
    unfold formedP at hF
    cases ht : tree q.nodes.length q.nodes with
    | none => rfl
    | some t => rw [ht] at hF; simp only [Option.any_some] at hF ⊢; rw [if_pos hF]
  unfold formedP at hF
  obtain ⟨t, ht, hform⟩ : ∃ t, tree q.nodes.length q.nodes = some t ∧ t.formed = true := by
    cases ht : tree q.nodes.length q.nodes with
    | none => rw [ht] at hF; simp at hF
    | some t => rw [ht] at hF; exact ⟨t, rfl, by simpa using hF⟩
  have hcnt := tree_count _ _ _ ht
  refine (c_ContainsFunc_Node (r.mono l5) (by omega) (fun x => !x.pred.may || !x.guard.may) fun x hx p1 n1 c1 p2 n2 c2 t1 t2 => CallV.of (by kernel_rfl) (c_tree_May_1 (x := x) t1 t2 (by have := hs x hx; have := t1.1; unfold Small at *; omega) (by have := hs x hx; have := t2.1; unfold Small at *; omega))).mono fun v h8 ⟨e8, ev⟩ => ⟨_, ev, fun h2 => ⟨e8 ▸ l5, ?_⟩, fun h2 => ?_⟩
  · unfold mayP; rw [if_neg h32, ht]; simp only [hform, h2, Bool.not_true, Bool.false_eq_true, if_false, if_true]
  subst e8
  refine (c_tree_deep _ _ t ht (r.mono l5) hn).mono fun v h11 ⟨l11, ev⟩ => ⟨_, ev, fun h3 => ⟨l5.trans l11, ?_⟩, fun h3 => ?_⟩
  · simp only [decide_eq_true_eq] at h3
    unfold mayP; rw [if_neg h32, ht]; simp only [hform, h2, Bool.not_true, Bool.false_eq_true, if_false]
    rw [if_pos (by omega)]
  simp only [decide_eq_false_iff_not] at h3
  refine pBB (fun b _ h' => h' = h11 ∧ b = decide (q.window < 1 ∨ q.window > 1048576)) ⟨fun h4 => ⟨_, _, rfl, rfl, by grind⟩, fun h4 => ⟨_, _, rfl, rfl, by grind⟩⟩ ?_
  rintro b _ h16 ⟨rfl, hb⟩
  refine ⟨fun h4 => ⟨l5.trans l11, ?_⟩, fun h4 => ?_⟩
  · unfold mayP; rw [if_neg h32, ht]; simp only [hform, h2, Bool.not_true, Bool.false_eq_true, if_false]
    rw [if_neg (by omega), if_pos (by grind)]
  refine (c_tree_places _ _ t ht hform ?_ (r.mono (l5.trans l11)) hn).mono fun v h18 ⟨l18, ev⟩ => ⟨_, ev, fun h5 => ⟨(l5.trans l11).trans l18, ?_⟩, fun h5 => ⟨(l5.trans l11).trans l18, ?_⟩⟩
  · calc t.count * 8 ^ t.deep ≤ 32 * 8 ^ 8 := Nat.mul_le_mul (by omega) (Nat.pow_le_pow_right (by omega) (by omega))
      _ < 2 ^ 60 := by decide
  · simp only [decide_eq_true_eq] at h5
    unfold mayP; rw [if_neg h32, ht]; simp only [hform, h2, Bool.not_true, Bool.false_eq_true, if_false]
    rw [if_neg (by omega), if_neg (by grind), if_pos (by omega)]
  · simp only [decide_eq_false_iff_not] at h5
    unfold mayP; rw [if_neg h32, ht]; simp only [hform, h2, Bool.not_true, Bool.false_eq_true, if_false]
    rw [if_neg (by omega), if_neg (by grind), if_neg (by omega)]
end Pt

