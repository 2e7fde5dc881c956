/- Patterns by their values' bits: what the statements' functions hand back. -/
import Derived.Test.YtlcebmelfcfkaaaPtRefMay
import Derived.Test.YtlcebmelfcfkaaaLibB
namespace Pt
open Go Lf Pat
variable {h : H}

abbrev rvalV (v : Val) : Value := .agg #[.int .u8 v.kind, .int .i64 v.int, .int .u64 (v.real : Int), .string v.text]

theorem c_law04_Raw_Value (v : Val) : Spec P n_law04_Raw_Value #[rvalV v] h (fun r h' => h' = h ∧ r = valV v) := by
  apply s_law04_Raw_Value
  unfold f_law04_Raw_Value
  exact RunL.float64frombits ext_math_Float64frombits ⟨_, rfl, Le.refl _, rfl, by simp⟩

theorem c_law10_Raw_Pred {q : Prd} {p : Option Addr} {n c : Nat} (r : RTestsR h p n c q.tests) (hn : n < 2 ^ 63) :
    Spec P n_law10_Raw_Pred #[.agg #[.bool q.any, .int .u8 q.topic, .slice p n c]] h (fun v h' => Le h h' ∧ ∃ p' n' c', v = .agg #[.bool q.any, .int .u8 q.topic, .slice p' n' c'] ∧ TestsR h' p' n' c' q.cut.tests ∧ NewIn h p') := by
  apply s_law10_Raw_Pred
  unfold f_law10_Raw_Pred
  have hl := r.1
  refine ⟨fun k L h' => ∃ (i : Nat) (p' : Option Addr) (n' c' : Nat), L = [.int .i64 i, .agg #[.bool q.any, .int .u8 q.topic, .slice p' n' c']] ∧ k + i = n ∧ Le h h' ∧ NewIn h p' ∧ n' = min i 10 ∧ ArrL h' t_api_Test 6 p' n' c' ((q.tests.take (min i 10)).map Tst.enc),
    ⟨n, 0, none, 0, 0, rfl, rfl, Le.refl _, NewIn.none _, rfl, by simpa using ArrL.nilA _ _ _⟩, ?_⟩
  rintro k x8 b9 x10 p11 n12 n13 h14 ⟨i, p', n', c', e, hk, le, nw, hn', a⟩
  simp only [List.cons.injEq, Value.int.injEq, Value.bool.injEq, Value.agg.injEq, Array.mk.injEq, Value.slice.injEq, true_and, and_true] at e
  obtain ⟨rfl, rfl, rfl, rfl, rfl, rfl⟩ := e
  refine ⟨fun hi => ?_, fun hi => ?_⟩
  · simp only [decide_eq_true_eq] at hi
    have w1 : IntKind.i64.wrap ((i : Int) + 1) = ((i + 1 : Nat) : Int) := by rw [wrap_i64_of (by omega) (by omega)]; rfl
    obtain ⟨t, ht, _⟩ := get_lt (l := q.tests) (i := i) (by omega)
    obtain ⟨ad, e1, hb, c0, c1, c2, c3, c4, c5⟩ := (r.mono le).at ht rfl
    refine ⟨fun l h' => ∃ p' n' c', l = [.agg #[.bool q.any, .int .u8 q.topic, .slice p' n' c']] ∧ Le h h' ∧ NewIn h p' ∧ n' = min (i + 1) 10 ∧ ArrL h' t_api_Test 6 p' n' c' ((q.tests.take (min (i + 1) 10)).map Tst.enc), ?_, ?_⟩
    · refine ⟨ad, e1, hb, _, c0, _, c1, _, c2, _, c3, _, c4, _, c5, fun h10 => ?_, fun h10 => ?_⟩
      · simp only [decide_eq_true_eq] at h10
        refine (c_law04_Raw_Value t.val).mono fun v h24 ⟨e24, ev⟩ => ⟨_, _, _, _, ev, ?_⟩
        subst e24
        refine ⟨Le.refl _, fun n29 hn29 h30 e30 => ⟨e30 ▸ le_hnew hn29, ?_⟩⟩
        refine RunL.append1 (cs := t.enc) ef_api_Test (by omega) a rfl (fun v hv => ?_) (fun h32 p' cap' a' ka fr => ⟨_, _, _, rfl, p', _, cap', rfl, ka.leN le nw, ?_, by omega, ?_⟩) n29 hn29 h30 e30
        · simp only [Tst.enc, List.mem_cons, List.not_mem_nil, or_false] at hv
          rcases hv with rfl | rfl | rfl | rfl | rfl | rfl <;> rfl
        · intro A off sp e
          rcases fr A off sp e with h2 | h2
          · exact nw A off sp h2
          · cases hA : h A with
            | none => rfl
            | some o => rw [le A o hA] at h2; cases h2
        · have e1 : min i 10 = i := by omega
          have e2 : min (i + 1) 10 = i + 1 := by omega
          rw [e1] at a'
          rw [e2, List.take_add_one, ht]
          simpa using a'
      · simp only [decide_eq_false_iff_not] at h10
        have e1 : min i 10 = 10 := by omega
        have e2 : min (i + 1) 10 = 10 := by omega
        rw [e1] at a
        exact ⟨_, _, _, rfl, le, nw, by omega, by rw [e2]; exact a⟩
    · rintro b36 x37 p38 n39 n40 h41 ⟨p', n', c', e, le', nw', hn2, a'⟩
      simp only [List.cons.injEq, Value.int.injEq, Value.bool.injEq, Value.agg.injEq, Array.mk.injEq, Value.slice.injEq, true_and, and_true] at e
      obtain ⟨rfl, rfl, rfl, rfl, rfl⟩ := e
      exact ⟨k - 1, by omega, i + 1, _, _, _, by rw [w1], by omega, le', nw', hn2, a'⟩
  · simp only [decide_eq_false_iff_not] at hi
    refine ⟨le, _, _, _, rfl, ?_, nw⟩
    have : q.tests.take (min i 10) = q.cut.tests := by
      unfold Prd.cut
      rw [show min i 10 = min 10 q.tests.length by omega]
      rw [List.take_eq_take_iff]; omega
    rw [this] at a
    exact testsR_of_arr a

theorem c_law11_Raw_Pattern {q : Ptn} {p : Option Addr} {n c : Nat} (r : RNodesR h p n c q.nodes) (hf : q.Fits) :
    Spec P n_law11_Raw_Pattern #[.agg #[.slice p n c, .int .u64 q.window]] h (fun v h' => Le h h' ∧ ∃ p' n' c', v = .agg #[.slice p' n' c', .int .u64 q.window] ∧ NodesR h' p' n' c' q.cut.nodes ∧ NewIn h p') := by
  apply s_law11_Raw_Pattern
  unfold f_law11_Raw_Pattern
  have hl := r.1
  have hn := hf.nodes
  refine ⟨fun k L h' => ∃ (i : Nat) (p' : Option Addr) (n' c' : Nat), L = [.int .i64 i, .agg #[.slice p' n' c', .int .u64 q.window]] ∧ k + i = n ∧ Le h (wo h' p') ∧ NewIn h p' ∧ n' = min i 40 ∧ GathR NodeR h' t_api_Node 11 p' n' c' ((q.nodes.take (min i 40)).map Nd.cut),
    ⟨n, 0, none, 0, 0, rfl, rfl, by rw [wo_nil]; exact Le.refl _, NewIn.none _, rfl, by simpa using GathR.nil _ _ _ _⟩, ?_⟩
  rintro k x7 p8 n9 n10 x11 h12 ⟨i, p', n', c', e, hk, le, nw, hn', g⟩
  simp only [List.cons.injEq, Value.int.injEq, Value.agg.injEq, Array.mk.injEq, Value.slice.injEq, true_and, and_true] at e
  obtain ⟨rfl, ⟨rfl, rfl, rfl⟩, rfl⟩ := e
  have le12 : Le h h12 := le.trans (wo_le _ _)
  refine ⟨fun hi => ?_, fun hi => ?_⟩
  · simp only [decide_eq_true_eq] at hi
    have w1 : IntKind.i64.wrap ((i : Int) + 1) = ((i + 1 : Nat) : Int) := by rw [wrap_i64_of (by omega) (by omega)]; rfl
    obtain ⟨x, hx, hm⟩ := get_lt (l := q.nodes) (i := i) (by omega)
    obtain ⟨a, p1, n1, c1, p2, n2, c2, e1, hb, t1, t2, d0, d1, d2, d3, d4, d5, d6, d7, d8, d9, d10⟩ := (r.mono le).at hx rfl
    have wl := wo_le h12 p8
    obtain ⟨ht1, ht2⟩ := hf.tests x hm
    refine ⟨fun l h' => ∃ p' n' c', l = [.agg #[.slice p' n' c', .int .u64 q.window]] ∧ Le h (wo h' p') ∧ NewIn h p' ∧ n' = min (i + 1) 40 ∧ GathR NodeR h' t_api_Node 11 p' n' c' ((q.nodes.take (min (i + 1) 40)).map Nd.cut), ?_, ?_⟩
    · refine ⟨a, e1, hb, _, cell_le wl d0, _, cell_le wl d1, _, cell_le wl d2, _, _, _, cell_le wl d3, _, cell_le wl d4, _, cell_le wl d5, _, cell_le wl d6, _, _, _, cell_le wl d7, _, cell_le wl d8, _, cell_le wl d9, _, cell_le wl d10, fun h40 => ?_, fun h40 => ?_⟩
      · simp only [decide_eq_true_eq] at h40
        refine ((c_law10_Raw_Pred (q := x.pred) t1 (by have := t1.1; omega)).beside g.has).mono fun v h31 hA => ?_
        obtain ⟨⟨l31, q1, m1, k1, ev, u1, _⟩, same1⟩ := hA
        have f31 : Le h12 h31 := le_beside l31 same1
        have g31 := g.beside (fun l x => x.mono l) same1 l31
        refine ⟨_, _, _, _, _, ev, f31, ?_⟩
        refine ((c_law10_Raw_Pred (q := x.guard) (t2.mono l31) (by have := t2.1; omega)).beside g31.has).mono fun v h38 hA => ?_
        obtain ⟨⟨l38, q2, m2, k2, ev, u2, _⟩, same2⟩ := hA
        have f38 : Le h31 h38 := le_beside l38 same2
        have g38 := g31.beside (fun l x => x.mono l) same2 l38
        refine ⟨_, _, _, _, _, ev, f31.trans f38, fun n44 hn44 h45 e45 => ⟨(f31.trans f38).trans (e45 ▸ le_hnew hn44), ?_⟩⟩
        have hlen := g38.len
        refine GathR.push (x := x.cut) (fun l x => x.mono l) ef_api_Node g38 (by omega) ⟨_, _, _, _, _, _, rfl, u1.mono l38, u2⟩ rfl (fun v hv => ?_) (fun h47 p' c' g47 l47 => ⟨_, _, _, rfl, p', _, c', rfl, le.trans (l31.trans (l38.trans l47)), ?_, by omega, ?_⟩) n44 hn44 h45 e45
        · simp only [List.mem_cons, List.not_mem_nil, or_false] at hv
          rcases hv with rfl | rfl | rfl | rfl | rfl | rfl | rfl | rfl | rfl | rfl | rfl <;> rfl
        · exact (newIn_wo h47 p').le (le.trans (l31.trans (l38.trans l47)))
        · have e1 : min i 40 = i := by omega
          have e2 : min (i + 1) 40 = i + 1 := by omega
          rw [e1] at g47
          rw [e2, List.take_add_one, hx]
          simpa using g47
      · simp only [decide_eq_false_iff_not] at h40
        have e1 : min i 40 = 40 := by omega
        have e2 : min (i + 1) 40 = 40 := by omega
        rw [e1] at g
        exact ⟨_, _, _, rfl, le, nw, by omega, by rw [e2]; exact g⟩
    · rintro p38 n39 n40 x54 h41 ⟨p', n', c', e, le', nw', hn2, a'⟩
      simp only [List.cons.injEq, Value.int.injEq, Value.agg.injEq, Array.mk.injEq, Value.slice.injEq, true_and, and_true] at e
      obtain ⟨⟨rfl, rfl, rfl⟩, rfl⟩ := e
      exact ⟨k - 1, by omega, i + 1, _, _, _, by rw [w1], by omega, le', nw', hn2, a'⟩
  · simp only [decide_eq_false_iff_not] at hi
    refine ⟨le12, _, _, _, rfl, ?_, nw⟩
    have : q.nodes.take (min i 40) = q.nodes.take 40 := by rw [List.take_eq_take_iff]; omega
    rw [this] at g
    exact g.rows (fun l x => x.mono l)
end Pt

