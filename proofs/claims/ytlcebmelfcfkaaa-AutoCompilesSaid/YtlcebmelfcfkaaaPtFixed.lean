/- The chapter's example of automata. -/
import Derived.Test.YtlcebmelfcfkaaaPtComp
import Derived.Test.YtlcebmelfcfkaaaPtGreat
import Derived.Test.YtlcebmelfcfkaaaLibB
namespace Pt
open Go Lf Pat
variable {h : H}

def pred0 : Prd := ⟨false, 0, []⟩
def oneN (a : Int) : Nd := ⟨1, ⟨false, a, []⟩, false, pred0, 0, 0, 0⟩
def twoP (a b : Int) : Ptn := ⟨[⟨2, pred0, false, pred0, 0, 0, 2⟩, oneN a, oneN b], 10⟩

theorem tests_nil (h : H) : TestsR h none 0 0 [] := ⟨rfl, Nat.le_refl _, RowsL.nil _ _ _⟩

theorem c_Two (a b : Int) : Spec P n_law11_Two #[.int .u8 a, .int .u8 b] h fun v h' => Le h h' ∧ ∃ p, v = .agg #[.slice p 3 3, .int .u64 10] ∧ NodesR h' p 3 3 (twoP a b).nodes := by
  apply s_law11_Two
  unfold f_law11_Two
  intro n hn h3 e3
  subst e3
  refine ⟨le_hnew hn, _, rfl, rfl, Nat.le_refl _, fun i x hi => ?_⟩
  have hlt : i < 3 := by simpa [twoP] using (List.getElem?_eq_some_iff.1 hi).1
  rcases (show i = 0 ∨ i = 1 ∨ i = 2 by omega) with rfl | rfl | rfl
  all_goals
    simp only [twoP, List.getElem?_cons_zero, List.getElem?_cons_succ, Option.some.injEq] at hi
    subst hi
    refine ⟨_, _, rfl, ⟨none, 0, 0, none, 0, 0, rfl, tests_nil _, tests_nil _⟩, fun j v hj => ?_⟩
    rw [blk_mk, add_mk, aidx_mk, add_mk, cell_of hnew_same]
    match j, hj with
    | 0, hj | 1, hj | 2, hj | 3, hj | 4, hj | 5, hj | 6, hj | 7, hj | 8, hj | 9, hj | 10, hj => exact hj
    | j + 11, hj => simp at hj

theorem small_two (a b : Int) : ∀ x, x ∈ (twoP a b).nodes → Small x := by
  intro x hx
  simp only [twoP, List.mem_cons, List.not_mem_nil, or_false] at hx
  rcases hx with rfl | rfl | rfl <;> exact ⟨(by show 0 < 2 ^ 36; decide), (by show 0 < 2 ^ 36; decide)⟩

def twoT : T := .mk ⟨2, pred0, false, pred0, 0, 0, 2⟩ [.mk (oneN 1) [], .mk (oneN 2) []]

theorem two_tree : tree (twoP 1 2).nodes.length (twoP 1 2).nodes = some twoT := by rfl
theorem two_may : mayP (twoP 1 2) = 0 := by
  unfold mayP
  rw [two_tree]
  rfl
theorem two_out : twoT.out 0 = ⟨1, 2, [⟨false, 1, []⟩, ⟨false, 2, []⟩], [⟨0, 1, false, pred0⟩]⟩ := by rfl

theorem small_out {q : Ptn} (sm : ∀ x, x ∈ q.nodes → Small x) : ∀ t, tree q.nodes.length q.nodes = some t → (∀ x, x ∈ (t.out 0).preds → x.tests.length < 2 ^ 36) ∧ ∀ e, e ∈ (t.out 0).edges → e.guard.tests.length < 2 ^ 36 := by
  intro t ht
  have f := out_from t 0
  have hn := tree_nodes _ _ t ht
  refine ⟨fun x hx => ?_, fun e he => ?_⟩
  · obtain ⟨y, hy, rfl⟩ := f.preds x hx
    exact (sm y (hn y hy)).1
  · obtain ⟨y, hy, e1, _⟩ := f.edges e he
    rw [e1]; exact (sm y (hn y hy)).2

/-- An edge of the automaton, read. -/
theorem MkO.edge {h0 h : H} {M : Nat} {s : MS} {Q : List Prd} {E : List Edg} {f l i j : Nat} (m : MkO h0 h M s Q E f l i j) {k : Nat} {e : Edg} (he : E[k]? = some e) {x : Int} (hx : x = (k : Int)) :
    ∃ a p n c, s.pe = some a ∧ (0 ≤ x ∧ x < (s.ne : Int)) ∧ cell h ((aidx a 0 x 6).add 0) = some (.int .u8 (e.src : Int)) ∧ cell h ((aidx a 0 x 6).add 1) = some (.int .u8 (e.dst : Int)) ∧ cell h ((aidx a 0 x 6).add 2) = some (.bool e.guarded) ∧
      cell h ((aidx a 0 x 6).add 3) = some (.bool e.guard.any) ∧ cell h ((aidx a 0 x 6).add 4) = some (.int .u8 e.guard.topic) ∧ cell h ((aidx a 0 x 6).add 5) = some (.slice p n c) ∧ OwnR h0 (off h M s) (k < j) p n c e.guard.tests := by
  subst hx
  obtain ⟨r2, a2, n2, x2⟩ := m.eds
  obtain ⟨row, hrow, p, n, c, rfl, tr⟩ := x2 k e he
  obtain ⟨a, ea, hc⟩ := a2.rows k _ hrow
  have := (List.getElem?_eq_some_iff.1 he).1
  have hne := m.ne
  exact ⟨a, p, n, c, ea, ⟨by omega, by omega⟩, hc 0 _ rfl, hc 1 _ rfl, hc 2 _ rfl, hc 3 _ rfl, hc 4 _ rfl, hc 5 _ rfl, tr⟩

theorem c_fixed (hj : JoinsOk) (hs : SortOk) : Spec P n_law14_fixed #[] h fun v h' => Le h h' ∧ v = .bool true := by
  apply s_law14_fixed
  unfold f_law14_fixed
  refine (c_Two 1 2).mono fun v h1 ⟨l1, p, ev, r⟩ => ⟨_, _, _, _, ev, ?_⟩
  have sm := small_two 1 2
  refine (c_Compile hj hs r sm (by omega) (small_out sm)).mono fun v h7 ⟨l7, hA⟩ => ?_
  rw [if_neg (by simpa using two_may)] at hA
  obtain ⟨t, ht, hf, hp, hA⟩ := hA
  rw [two_tree] at ht
  obtain rfl : twoT = t := by simpa using ht
  rw [two_out] at hA
  simp only [List.length_cons, List.length_nil] at hA
  rw [if_neg (by omega)] at hA
  obtain ⟨M, s, E', ev, m, le, pm, _⟩ := hA
  have hE : E' = [⟨0, 1, false, pred0⟩] := List.perm_singleton.1 pm
  subst hE
  have hnp := m.np
  have hne := m.ne
  simp only [List.length_cons, List.length_nil] at hnp hne
  obtain ⟨a, p0, n0, c0, ea, hb, c1, c2, _⟩ := m.edge (k := 0) (e := ⟨0, 1, false, pred0⟩) rfl (x := 0) rfl
  refine ⟨_, _, _, _, _, _, _, _, _, ev, ?_⟩
  refine ⟨fun L h' => h' = h7 ∧ ∃ b1 b2 b3 b4 b5 b7, L = [.bool b1, .bool b2, .bool b3, .bool b4, .bool b5, .bool true, .bool b7], ⟨fun _ => ⟨fun _ => ⟨fun _ => ⟨fun _ => ?_, fun e => ?_⟩, fun e => ?_⟩, fun e => ?_⟩, fun e => ?_⟩, ?_⟩
  · refine ⟨a, ea, hb, _, c1, fun _ => ⟨a, ea, hb, _, c2, fun _ => ?_, fun e => ?_⟩, fun e => ?_⟩
    · have e2 : decide (((s.np : Nat) : Int) = 2) = true := by rw [hnp]; rfl
      rw [e2]
      exact ⟨rfl, _, _, _, _, _, _, rfl⟩
    · simp at e
    · simp at e
  · rw [hne] at e; simp at e
  · simp at e
  · simp at e
  · simp at e
  · rintro b22 b23 b24 b25 b26 b27 b28 h29 ⟨rfl, b1, b2, b3, b4, b5, b7, e⟩
    simp only [List.cons.injEq, Value.bool.injEq, and_true] at e
    obtain ⟨-, -, -, -, -, rfl, -⟩ := e
    exact ⟨l1.trans l7, rfl⟩
end Pt

