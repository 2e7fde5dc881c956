/- What is the same is found to be so: values, questions, nodes, automata. -/
import Derived.Test.YtlcebmelfcfkaaaPtRefC
import Derived.Test.YtlcebmelfcfkaaaLibD
namespace Pt
open Go Lf Pat
variable {h : H}

def ofBitsF (x : Int) : Value := .agg #[.bool (decide (x ≥ 9223372036854775808)), .int .i64 (IntKind.wrap .i64 (Int.tmod (IntKind.wrap .u64 (Int.tdiv x 4503599627370496)) 2048)), .int .u64 (Int.tmod x 4503599627370496)]

theorem c_OfBits (x : Int) : Spec P n_ref02_OfBits #[.int .u64 x] h fun v h' => h' = h ∧ v = ofBitsF x := by
  apply s_ref02_OfBits
  unfold f_ref02_OfBits
  exact ⟨rfl, rfl⟩

theorem c_ref02_Of (n : Nat) : Spec P n_ref02_Of #[.float .f64 n] h fun v h' => h' = h ∧ v = ofBitsF (n : Int) := by
  apply s_ref02_Of
  unfold f_ref02_Of
  refine RunL.float64bits ext_math_Float64bits ⟨_, rfl, (c_OfBits (n : Int)).mono fun v h5 ⟨e, ev⟩ => ?_⟩
  exact ⟨_, _, _, ev, e, rfl⟩

def nanF (x y : Int) : Bool := decide (x = 2047) && !decide (y = 0)

theorem c_NaN (b : Bool) (x y : Int) : Spec P n_ref02_Parts_NaN #[.agg #[.bool b, .int .i64 x, .int .u64 y]] h fun v h' => h' = h ∧ v = .bool (nanF x y) := by
  apply s_ref02_Parts_NaN
  unfold f_ref02_Parts_NaN
  refine ⟨fun L h' => h' = h ∧ ∃ u, L = [.bool (nanF x y), .bool u], ⟨fun e => ⟨rfl, true, ?_⟩, fun e => ⟨rfl, false, ?_⟩⟩, ?_⟩
  · simp only [nanF, e, Bool.true_and]
  · simp only [nanF, e, Bool.false_and]
  · rintro b4 b5 h6 ⟨rfl, u, e⟩
    simp only [List.cons.injEq, Value.bool.injEq, and_true] at e
    obtain ⟨rfl, rfl⟩ := e
    exact ⟨rfl, rfl⟩

theorem c_Bits (b : Bool) (x y : Int) : ∃ r : Int, ∀ {h : H}, Spec P n_ref02_Parts_Bits #[.agg #[.bool b, .int .i64 x, .int .u64 y]] h fun v h' => h' = h ∧ v = .int .u64 r := by
  refine ⟨if nanF x y then 9221120237041090560 else if b then IntKind.wrap .u64 ((IntKind.wrap .u64 ((IntKind.wrap .u64 ((IntKind.wrap .u64 x) * 4503599627370496)) + y)) + 9223372036854775808) else IntKind.wrap .u64 ((IntKind.wrap .u64 ((IntKind.wrap .u64 x) * 4503599627370496)) + y), ?_⟩
  intro h
  apply s_ref02_Parts_Bits
  unfold f_ref02_Parts_Bits
  refine (c_NaN b x y).mono fun v h4 ⟨e4, ev⟩ => ⟨_, ev, fun hn => ⟨e4, by rw [if_pos hn]⟩, fun hn => ?_⟩
  rw [if_neg (by simp [hn])]
  refine ⟨fun L h' => h' = h4 ∧ L = [.int .u64 (if b then IntKind.wrap .u64 ((IntKind.wrap .u64 ((IntKind.wrap .u64 ((IntKind.wrap .u64 x) * 4503599627370496)) + y)) + 9223372036854775808) else IntKind.wrap .u64 ((IntKind.wrap .u64 ((IntKind.wrap .u64 x) * 4503599627370496)) + y))], ⟨fun hb => ⟨rfl, by rw [if_pos hb]⟩, fun hb => ⟨rfl, by rw [if_neg (by simp [hb])]⟩⟩, ?_⟩
  rintro x7 h8 ⟨rfl, e⟩
  simp only [List.cons.injEq, Value.int.injEq, true_and, and_true] at e
  exact ⟨e4, by rw [e]⟩

theorem c_ref04_Same (v : Val) : Spec P n_ref04_Same #[.agg #[.int .u8 v.kind, .int .i64 v.int, .float .f64 v.real, .string v.text], .agg #[.int .u8 v.kind, .int .i64 v.int, .float .f64 v.real, .string v.text]] h fun r h' => h' = h ∧ r = .bool true := by
  apply s_ref04_Same
  unfold f_ref04_Same
  obtain ⟨rr, hrr⟩ := c_Bits (decide ((v.real : Int) ≥ 9223372036854775808)) (IntKind.wrap .i64 (Int.tmod (IntKind.wrap .u64 (Int.tdiv (v.real : Int) 4503599627370496)) 2048)) (Int.tmod (v.real : Int) 4503599627370496)
  refine ⟨fun e => (by simp at e), fun _ => ⟨fun _ => ⟨rfl, by simp⟩, fun _ => ⟨fun _ => ?_, fun _ => ⟨fun _ => ⟨rfl, by simp [scmpF]⟩, fun _ => ⟨rfl, rfl⟩⟩⟩⟩⟩
  refine (c_ref02_Of v.real).mono fun v8 h9 ⟨e9, ev⟩ => ⟨_, _, _, ev, e9 ▸ Le.refl _, ?_⟩
  refine hrr.mono fun v13 h14 ⟨e14, ev⟩ => ⟨_, ev, by rw [e14, e9]; exact Le.refl _, ?_⟩
  refine (c_ref02_Of v.real).mono fun v16 h17 ⟨e17, ev⟩ => ⟨_, _, _, ev, ?_⟩
  refine hrr.mono fun v21 h22 ⟨e22, ev⟩ => ⟨_, ev, ?_⟩
  exact ⟨by rw [e22, e17, e14, e9], by simp⟩

theorem TestsR.at {h : H} {p : Option Addr} {n c : Nat} {ts : List Tst} (r : TestsR h p n c ts) {i : Nat} {x : Tst} (hi : ts[i]? = some x) {k : Int} (hk : k = (i : Int)) :
    ∃ a, p = some a ∧ (0 ≤ k ∧ k < (n : Int)) ∧ cell h ((aidx a 0 k 6).add 0) = some (.int .u8 x.field) ∧ cell h ((aidx a 0 k 6).add 1) = some (.int .u8 x.op) ∧ cell h ((aidx a 0 k 6).add 2) = some (.int .u8 x.val.kind) ∧
      cell h ((aidx a 0 k 6).add 3) = some (.int .i64 x.val.int) ∧ cell h ((aidx a 0 k 6).add 4) = some (.float .f64 x.val.real) ∧ cell h ((aidx a 0 k 6).add 5) = some (.string x.val.text) := by
  subst hk
  obtain ⟨a, e, hc⟩ := r.2.2 i x.enc (by rw [List.getElem?_map, hi]; rfl)
  have hlt := (List.getElem?_eq_some_iff.1 hi).1
  exact ⟨a, e, ⟨by omega, by have := r.1; omega⟩, hc 0 _ rfl, hc 1 _ rfl, hc 2 _ rfl, hc 3 _ rfl, hc 4 _ rfl, hc 5 _ rfl⟩

theorem c_ref10_Same {q : Prd} {p p' : Option Addr} {n c n' c' : Nat} (r : TestsR h p n c q.tests) (r' : TestsR h p' n' c' q.tests) (hn : n < 2 ^ 62) :
    Spec P n_ref10_Same #[.agg #[.bool q.any, .int .u8 q.topic, .slice p n c], .agg #[.bool q.any, .int .u8 q.topic, .slice p' n' c']] h fun v h' => h' = h ∧ v = .bool true := by
  apply s_ref10_Same
  unfold f_ref10_Same
  have hnn : n = n' := by rw [r.1, r'.1]
  refine ⟨fun L h' => h' = h ∧ ∃ b1 b3, L = [.bool b1, .bool false, .bool b3], ⟨fun e => (by simp at e), fun _ => ⟨fun e => (by simp at e), fun _ => ⟨rfl, _, _, by rw [hnn]; simp; exact ⟨rfl, rfl⟩⟩⟩⟩, ?_⟩
  rintro b11 b12 b13 h14 ⟨rfl, b1, b3, e⟩
  simp only [List.cons.injEq, Value.bool.injEq, and_true] at e
  obtain ⟨rfl, rfl, rfl⟩ := e
  refine ⟨fun e => (by cases e), fun _ => ?_⟩
  refine ⟨fun k L h' => ∃ (i : Nat) (b : Bool), L = [.int .i64 (i : Int), .bool b] ∧ k + i = n ∧ h' = h14, ⟨n, 0, _, rfl, rfl, rfl⟩, ?_⟩
  rintro k x18 b19 h20 ⟨i, b, e, hk, rfl⟩
  simp only [List.cons.injEq, Value.int.injEq, Value.bool.injEq, true_and, and_true] at e
  obtain ⟨rfl, rfl⟩ := e
  refine ⟨fun hi => ?_, fun _ => ⟨rfl, rfl⟩⟩
  simp only [decide_eq_true_eq] at hi
  obtain ⟨t, ht, _⟩ := get_lt (l := q.tests) (i := i) (by have := r.1; omega)
  obtain ⟨a, ea, hb, d0, d1, d2, d3, d4, d5⟩ := TestsR.at r ht rfl
  obtain ⟨a', ea', hb', d0', d1', d2', d3', d4', d5'⟩ := TestsR.at r' ht rfl
  refine ⟨fun L h' => h' = h20 ∧ ∃ b1, L = [.bool b1, .bool false], ⟨a, ea, hb, _, d0, a', ea', hb', _, d0', fun e => (by simp at e), fun _ => ⟨a, ea, hb, _, d1, a', ea', hb', _, d1', fun e => (by simp at e), fun _ => ?_⟩⟩, ?_⟩
  · refine ⟨a, ea, hb, _, d2, _, d3, _, d4, _, d5, a', ea', hb', _, d2', _, d3', _, d4', _, d5', ?_⟩
    refine (c_ref04_Same t.val).mono fun v h41 ⟨e41, ev⟩ => ⟨_, ev, e41, _, rfl⟩
  · rintro b43 b44 h45 ⟨rfl, b1, e⟩
    simp only [List.cons.injEq, Value.bool.injEq, and_true] at e
    obtain ⟨rfl, rfl⟩ := e
    exact ⟨fun e => (by cases e), fun _ => ⟨k - 1, by omega, i + 1, _, by rw [wrap_succ (by omega)], by omega, rfl⟩⟩
end Pt

/- What is the same is found to be so: nodes, patterns, automata. -/
namespace Pt
open Go Lf Pat
variable {h : H}

theorem c_ref11_SameNode {x : Nd} {p1 : Option Addr} {n1 c1 : Nat} {p2 : Option Addr} {n2 c2 : Nat} {q1 : Option Addr} {m1 k1 : Nat} {q2 : Option Addr} {m2 k2 : Nat}
    (t1 : TestsR h p1 n1 c1 x.pred.tests) (t2 : TestsR h p2 n2 c2 x.guard.tests) (t1' : TestsR h q1 m1 k1 x.pred.tests) (t2' : TestsR h q2 m2 k2 x.guard.tests) (b1 : n1 < 2 ^ 62) (b2 : n2 < 2 ^ 62) :
    Spec P n_ref11_SameNode #[ndV x p1 n1 c1 p2 n2 c2, ndV x q1 m1 k1 q2 m2 k2] h fun v h' => h' = h ∧ v = .bool true := by
  apply s_ref11_SameNode
  unfold f_ref11_SameNode
  refine ⟨fun L h' => h' = h ∧ ∃ a b c d e f, L = [.bool a, .bool b, .bool c, .bool d, .bool e, .bool true, .bool f], ⟨fun _ => ⟨fun _ => ⟨fun _ => ⟨fun _ => ⟨fun _ => ?_, fun e => (by simp at e)⟩, fun e => (by simp at e)⟩, fun e => (by simp at e)⟩, fun e => (by simp at e)⟩, fun e => (by simp at e)⟩, ?_⟩
  · refine (c_ref10_Same t1 t1' b1).mono fun v h32 ⟨e32, ev⟩ => ⟨_, ev, fun _ => ?_, fun e => (by cases e)⟩
    subst e32
    exact (c_ref10_Same t2 t2' b2).mono fun v h35 ⟨e35, ev⟩ => ⟨_, ev, e35, _, _, _, _, _, _, rfl⟩
  · rintro b37 b38 b39 b40 b41 b42 b43 h44 ⟨rfl, a, b, c, d, e, f, e2⟩
    simp only [List.cons.injEq, Value.bool.injEq, and_true] at e2
    obtain ⟨-, -, -, -, -, rfl, -⟩ := e2
    exact ⟨rfl, rfl⟩

theorem c_ref11_SameNodes {p : Option Addr} {n c : Nat} {p' : Option Addr} {n' c' : Nat} {xs : List Nd} (r : NodesR h p n c xs) (r' : NodesR h p' n' c' xs) (sm : ∀ x, x ∈ xs → Small x) (hn : n < 2 ^ 35) :
    Spec P n_ref11_SameNodes #[.slice p n c, .slice p' n' c'] h fun v h' => h' = h ∧ v = .bool true := by
  apply s_ref11_SameNodes
  unfold f_ref11_SameNodes
  have hl := r.1
  have hl' := r'.1
  have hnn : n = n' := by omega
  refine ⟨fun e => (by rw [hnn] at e; simp at e), fun _ => ?_⟩
  refine ⟨fun k L h' => ∃ (i : Nat) (b : Bool), L = [.int .i64 (i : Int), .bool b] ∧ k + i = n ∧ h' = h, ⟨n, 0, _, rfl, rfl, rfl⟩, ?_⟩
  rintro k x9 b10 h11 ⟨i, b, e, hk, rfl⟩
  simp only [List.cons.injEq, Value.int.injEq, Value.bool.injEq, true_and, and_true] at e
  obtain ⟨rfl, rfl⟩ := e
  refine ⟨fun hi => ?_, fun _ => ⟨rfl, rfl⟩⟩
  simp only [decide_eq_true_eq] at hi
  obtain ⟨x, hx, hm⟩ := get_lt (l := xs) (i := i) (by omega)
  obtain ⟨s1, s2⟩ := sm x hm
  obtain ⟨a, p1, n1, c1, p2, n2, c2, e1, hb, t1, t2, d0, d1, d2, d3, d4, d5, d6, d7, d8, d9, d10⟩ := r.at hx rfl
  obtain ⟨a', q1, m1, k1, q2, m2, k2, e1', hb', t1', t2', d0', d1', d2', d3', d4', d5', d6', d7', d8', d9', d10'⟩ := r'.at hx rfl
  refine ⟨a, e1, hb, _, d0, _, d1, _, d2, _, _, _, d3, _, d4, _, d5, _, d6, _, _, _, d7, _, d8, _, d9, _, d10, a', e1', hb', _, d0', _, d1', _, d2', _, _, _, d3', _, d4', _, d5', _, d6', _, _, _, d7', _, d8', _, d9', _, d10', ?_⟩
  refine (c_ref11_SameNode t1 t2 t1' t2' (by have := t1.1; omega) (by have := t2.1; omega)).mono fun v h45 ⟨e45, ev⟩ => ⟨_, ev, fun e => (by cases e), fun _ => ⟨k - 1, by omega, i + 1, _, by rw [wrap_succ (by omega)], by omega, e45⟩⟩

theorem c_ref11_Same {p : Option Addr} {n c : Nat} {p' : Option Addr} {n' c' : Nat} {q : Ptn} (r : NodesR h p n c q.nodes) (r' : NodesR h p' n' c' q.nodes) (sm : ∀ x, x ∈ q.nodes → Small x) (hn : n < 2 ^ 35) :
    Spec P n_ref11_Same #[.agg #[.slice p n c, .int .u64 q.window], .agg #[.slice p' n' c', .int .u64 q.window]] h fun v h' => h' = h ∧ v = .bool true := by
  apply s_ref11_Same
  unfold f_ref11_Same
  refine ⟨fun L h' => h' = h ∧ ∃ b, L = [.bool true, .bool b], ⟨fun _ => (c_ref11_SameNodes r r' sm hn).mono fun v h10 ⟨e10, ev⟩ => ⟨_, ev, e10, _, rfl⟩, fun e => (by simp at e)⟩, ?_⟩
  rintro b12 b13 h14 ⟨rfl, b, e⟩
  simp only [List.cons.injEq, Value.bool.injEq, and_true] at e
  obtain ⟨rfl, rfl⟩ := e
  exact ⟨rfl, rfl⟩

theorem EdgesR.at {p : Option Addr} {n c : Nat} {xs : List Edg} (r : EdgesR h p n c xs) {i : Nat} {e : Edg} (hi : xs[i]? = some e) {k : Int} (hk : k = (i : Int)) :
    ∃ a q m l, p = some a ∧ (0 ≤ k ∧ k < (n : Int)) ∧ cell h ((aidx a 0 k 6).add 0) = some (.int .u8 (e.src : Int)) ∧ cell h ((aidx a 0 k 6).add 1) = some (.int .u8 (e.dst : Int)) ∧ cell h ((aidx a 0 k 6).add 2) = some (.bool e.guarded) ∧
      cell h ((aidx a 0 k 6).add 3) = some (.bool e.guard.any) ∧ cell h ((aidx a 0 k 6).add 4) = some (.int .u8 e.guard.topic) ∧ cell h ((aidx a 0 k 6).add 5) = some (.slice q m l) ∧ TestsR h q m l e.guard.tests := by
  subst hk
  obtain ⟨a, row, ea, ⟨q, m, l, rfl, t⟩, hc⟩ := r.2.2 i e hi
  have hlt := (List.getElem?_eq_some_iff.1 hi).1
  exact ⟨a, q, m, l, ea, ⟨by omega, by have := r.1; omega⟩, hc 0 _ rfl, hc 1 _ rfl, hc 2 _ rfl, hc 3 _ rfl, hc 4 _ rfl, hc 5 _ rfl, t⟩

theorem PredsR.at {p : Option Addr} {n c : Nat} {xs : List Prd} (r : PredsR h p n c xs) {i : Nat} {e : Prd} (hi : xs[i]? = some e) {k : Int} (hk : k = (i : Int)) :
    ∃ a q m l, p = some a ∧ (0 ≤ k ∧ k < (n : Int)) ∧ cell h ((aidx a 0 k 3).add 0) = some (.bool e.any) ∧ cell h ((aidx a 0 k 3).add 1) = some (.int .u8 e.topic) ∧ cell h ((aidx a 0 k 3).add 2) = some (.slice q m l) ∧ TestsR h q m l e.tests := by
  subst hk
  obtain ⟨a, row, ea, ⟨q, m, l, rfl, t⟩, hc⟩ := r.2.2 i e hi
  have hlt := (List.getElem?_eq_some_iff.1 hi).1
  exact ⟨a, q, m, l, ea, ⟨by omega, by have := r.1; omega⟩, hc 0 _ rfl, hc 1 _ rfl, hc 2 _ rfl, t⟩

theorem c_ref14_Same {Q : List Prd} {E : List Edg} {f l : Nat} {pp : Option Addr} {np cp : Nat} {pe : Option Addr} {ne ce : Nat} {pp' : Option Addr} {np' cp' : Nat} {pe' : Option Addr} {ne' ce' : Nat}
    (rq : PredsR h pp np cp Q) (re : EdgesR h pe ne ce E) (rq' : PredsR h pp' np' cp' Q) (re' : EdgesR h pe' ne' ce' E)
    (sq : ∀ q, q ∈ Q → q.tests.length < 2 ^ 36) (se : ∀ e, e ∈ E → e.guard.tests.length < 2 ^ 36) (lq : Q.length < 2 ^ 36) (le : E.length < 2 ^ 36) :
    Spec P n_ref14_Same #[autoR pp np cp f l pe ne ce, autoR pp' np' cp' f l pe' ne' ce'] h fun v h' => h' = h ∧ v = .bool true := by
  apply s_ref14_Same
  unfold f_ref14_Same
  have e1 : np = np' := by rw [rq.1, rq'.1]
  have e2 : ne = ne' := by rw [re.1, re'.1]
  have hq := rq.1
  have he := re.1
  have w2 : (!decide (((ne : Nat) : Int) = ((ne' : Nat) : Int))) = false := by rw [e2]; simp
  refine ⟨fun L h' => h' = h ∧ ∃ a b d, L = [.bool a, .bool b, .bool false, .bool d], ⟨fun e => (by simp at e), fun _ => ⟨fun e => (by simp at e), fun _ => ⟨fun e => (by rw [e1] at e; simp at e), fun _ => by rw [w2]; exact ⟨rfl, _, _, _, rfl⟩⟩⟩⟩, ?_⟩
  rintro b17 b18 b19 b20 h21 ⟨rfl, a, b, d, e⟩
  simp only [List.cons.injEq, Value.bool.injEq, and_true] at e
  obtain ⟨rfl, rfl, rfl, rfl⟩ := e
  refine ⟨fun e => (by cases e), fun _ => ?_⟩
  refine ⟨fun k L h' => ∃ (i : Nat) (b : Bool), L = [.int .i64 (i : Int), .bool b] ∧ k + i = np ∧ h' = h21, ⟨np, 0, _, rfl, rfl, rfl⟩, ?_⟩
  rintro k x25 b26 h27 ⟨i, b, e, hk, rfl⟩
  simp only [List.cons.injEq, Value.int.injEq, Value.bool.injEq, true_and, and_true] at e
  obtain ⟨rfl, rfl⟩ := e
  refine ⟨fun hi => ?_, fun _ => ?_⟩
  · simp only [decide_eq_true_eq] at hi
    obtain ⟨q, hqi, hm⟩ := get_lt (l := Q) (i := i) (by omega)
    obtain ⟨a, q1, m1, l1, ea, hb, d0, d1, d2, t1⟩ := PredsR.at rq hqi rfl
    obtain ⟨a', q1', m1', l1', ea', hb', d0', d1', d2', t1'⟩ := PredsR.at rq' hqi rfl
    refine ⟨a, ea, hb, _, d0, _, d1, _, _, _, d2, a', ea', hb', _, d0', _, d1', _, _, _, d2', ?_⟩
    refine (c_ref10_Same t1 t1' (by have := t1.1; have := sq q hm; omega)).mono fun v h41 ⟨e41, ev⟩ => ⟨_, ev, fun e => (by cases e), fun _ => ⟨k - 1, by omega, i + 1, _, by rw [wrap_succ (by omega)], by omega, e41⟩⟩
  · refine ⟨fun k L h' => ∃ (i : Nat) (b : Bool), L = [.int .i64 (i : Int), .bool b] ∧ k + i = ne ∧ h' = h27, ⟨ne, 0, _, rfl, rfl, rfl⟩, ?_⟩
    rintro k x46 b47 h48 ⟨i, b, e, hk, rfl⟩
    simp only [List.cons.injEq, Value.int.injEq, Value.bool.injEq, true_and, and_true] at e
    obtain ⟨rfl, rfl⟩ := e
    refine ⟨fun hi => ?_, fun _ => ⟨rfl, rfl⟩⟩
    simp only [decide_eq_true_eq] at hi
    obtain ⟨x, hxi, hm⟩ := get_lt (l := E) (i := i) (by omega)
    obtain ⟨a, q1, m1, l1, ea, hb, d0, d1, d2, d3, d4, d5, t1⟩ := EdgesR.at re hxi rfl
    obtain ⟨a', q1', m1', l1', ea', hb', d0', d1', d2', d3', d4', d5', t1'⟩ := EdgesR.at re' hxi rfl
    refine ⟨a, ea, hb, _, d0, _, d1, _, d2, _, d3, _, d4, _, _, _, d5, a', ea', hb', _, d0', _, d1', _, d2', _, d3', _, d4', _, _, _, d5', ?_⟩
    refine ⟨fun L h' => h' = h48 ∧ ∃ a b d, L = [.bool a, .bool b, .bool false, .bool d], ⟨fun e => (by simp at e), fun _ => ⟨fun e => (by simp at e), fun _ => ⟨fun e => (by simp at e), fun _ => ?_⟩⟩⟩, ?_⟩
    · exact (c_ref10_Same t1 t1' (by have := t1.1; have := se x hm; omega)).mono fun v h69 ⟨e69, ev⟩ => ⟨_, ev, e69, _, _, _, rfl⟩
    · rintro b71 b72 b73 b74 h75 ⟨rfl, a, b, d, e⟩
      simp only [List.cons.injEq, Value.bool.injEq, and_true] at e
      obtain ⟨rfl, rfl, rfl, rfl⟩ := e
      exact ⟨fun e => (by cases e), fun _ => ⟨k - 1, by omega, i + 1, _, by rw [wrap_succ (by omega)], by omega, rfl⟩⟩
end Pt

/- The program's automaton is the document's. -/
namespace Pt
open Go Lf Pat
variable {h h0 : H} {M : Nat} {s : MS} {Q : List Prd} {E : List Edg} {f l i j : Nat}

theorem MkO.predsR (m : MkO h0 h M s Q E f l i j) : PredsR h s.pp s.np s.cp Q := by
  obtain ⟨r, a, n, x⟩ := m.prs
  refine ⟨by rw [a.hl, n], a.le, fun k q hk => ?_⟩
  obtain ⟨row, e, p, n', c', er, o⟩ := x k q hk
  obtain ⟨ad, ea, hc⟩ := a.rows k row e
  exact ⟨ad, row, ea, ⟨p, n', c', er, o.1.mono (offS_le _ _)⟩, hc⟩

theorem MkO.edgesR (m : MkO h0 h M s Q E f l i j) : EdgesR h s.pe s.ne s.ce E := by
  obtain ⟨r, a, n, x⟩ := m.eds
  refine ⟨by rw [a.hl, n], a.le, fun k q hk => ?_⟩
  obtain ⟨row, e, p, n', c', er, o⟩ := x k q hk
  obtain ⟨ad, ea, hc⟩ := a.rows k row e
  exact ⟨ad, row, ea, ⟨p, n', c', er, o.1.mono (offS_le _ _)⟩, hc⟩

/-- A list to be cleared: it may be written, and is no part of what is to stay. -/
def Clr (h0 h : H) (O : List Nat) (p : Option Addr) (n : Nat) : Prop := Wr h t_api_Test 6 p n ∧ ∀ b, blkOf p = some b → b ∉ O ∧ h0 b = none

/-- What the clearing keeps. -/
structure Inv (h0 h : H) (O : List Nat) (h' : H) : Prop where
  own : ∀ b, b ∈ O → h' b = h b
  size : SameSize h h'
  le : Le h0 h'

theorem zero_test : ((zeroOf P t_api_Test).map fun z => z.cells.toList.all fun v => v.oneCell) = some true := by kernel_rfl

theorem Inv.clear {O : List Nat} {h' : H} (v : Inv h0 h O h') {p : Option Addr} {n c ty : Nat} (x : Clr h0 h O p n) {K : Value → H → Prop} (k : ∀ h'', Inv h0 h O h'' → K (.tuple #[]) h'') :
    RunL P (X.sem (.bi .clear #[t_s_api_Test] ty [.slice p n c])) h' K := by
  refine RunL.clearS ef_api_Test (fun z hz v hv => ?_) (x.1.same v.size) fun h'' same ss => k h'' ⟨fun b hb => ?_, v.size.trans ss, fun b o hb => ?_⟩
  · have := zero_test
    rw [hz] at this
    simp only [Option.map_some, Option.some.injEq, List.all_eq_true] at this
    exact this v hv
  · rw [same b fun e => (x.2 b e).1 hb]; exact v.own b hb
  · rw [same b fun e => by rw [(x.2 b e).2] at hb; cases hb]; exact v.le b o hb

/-- The header of a list, and the list. -/
def Hdr (h0 h : H) (O : List Nat) (pp : Option Addr) (np size off : Nat) : Prop := ∀ i : Nat, i < np → ∃ a p n c, pp = some a ∧ (∀ h', (∀ b, b ∈ O → h' b = h b) → cell h' ((aidx a 0 (i : Int) size).add off) = some (.slice p n c)) ∧ Clr h0 h O p n

theorem clr_of {p : Option Addr} {n c : Nat} {ts : List Tst} (o : OwnR h0 (off h M s) True p n c ts) : Clr h0 h (own M s) p n := by
  obtain ⟨a, nw⟩ := o.2 trivial
  refine ⟨(a.mono (offS_le _ _)).wr, fun b hb => ⟨fun hbo => ?_, ?_⟩⟩
  · exact a.has b hb (offS_none hbo)
  · obtain ⟨o', sp, rfl⟩ := blkOf_some hb
    exact nw b o' sp rfl

theorem cell_same {h' : H} {O : List Nat} {a : Addr} {v : Value} (hb : a.block ∈ O) (s : ∀ b, b ∈ O → h' b = h b) (c : cell h a = some v) : cell h' a = some v := by
  unfold cell at c ⊢
  rw [s _ hb]; exact c

theorem MkO.hdrP (m : MkO h0 h M s Q E f l Q.length j) : Hdr h0 h (own M s) s.pp s.np 3 2 := by
  intro i hi
  have hnp := m.np
  obtain ⟨r, a, n, x⟩ := m.prs
  obtain ⟨q, hq, _⟩ := get_lt (l := Q) (i := i) (by omega)
  obtain ⟨row, hrow, p, n', c', rfl, o⟩ := x i q hq
  obtain ⟨ad, ea, _, hc, up⟩ := a.upd hrow
  obtain ⟨_, _, _, hbk⟩ := up 2 (.slice p n' c') (by omega)
  exact ⟨ad, p, n', c', ea, fun h' sm => cell_same (mem_own.2 (.inr (.inl hbk))) sm (hc 2 _ rfl), clr_of ⟨o.1, fun _ => o.2 (by omega)⟩⟩

theorem MkO.hdrE (m : MkO h0 h M s Q E f l i E.length) : Hdr h0 h (own M s) s.pe s.ne 6 5 := by
  intro i hi
  have hne := m.ne
  obtain ⟨r, a, n, x⟩ := m.eds
  obtain ⟨q, hq, _⟩ := get_lt (l := E) (i := i) (by omega)
  obtain ⟨row, hrow, p, n', c', rfl, o⟩ := x i q hq
  obtain ⟨ad, ea, _, hc, up⟩ := a.upd hrow
  obtain ⟨_, _, _, hbk⟩ := up 5 (.slice p n' c') (by omega)
  exact ⟨ad, p, n', c', ea, fun h' sm => cell_same (mem_own.2 (.inr (.inr hbk))) sm (hc 5 _ rfl), clr_of ⟨o.1, fun _ => o.2 (by omega)⟩⟩

/-- The document has as many edges as the program. -/
theorem edges_len {t : T} (hf : t.formed = true) (h32 : t.places ≤ 32) : (edgesOf (t.widen 0).1.edge t.places t.places).length = (t.out 0).edges.length := by
  have pm := List.mergeSort_perm (t.out 0).edges fun x y => decide (x.src < y.src ∨ x.src = y.src ∧ x.dst ≤ y.dst)
  have so := List.pairwise_mergeSort (le := fun x y : Edg => decide (x.src < y.src ∨ x.src = y.src ∧ x.dst ≤ y.dst)) (fun a b c h1 h2 => by simp only [decide_eq_true_eq] at *; omega) (fun a b => by simp only [Bool.or_eq_true, decide_eq_true_eq]; omega) (t.out 0).edges
  rw [← edges_eq hf h32 pm fun i j x y hij hx hy => ?_]
  · exact pm.length_eq
  · rw [List.pairwise_iff_getElem] at so
    obtain ⟨hi, rfl⟩ := List.getElem?_eq_some_iff.1 hx
    obtain ⟨hj, rfl⟩ := List.getElem?_eq_some_iff.1 hy
    simpa using so i j hi hj hij
end Pt

/- The automaton of any pattern is the document's, or it is refused with its error; what is handed in stays. -/
namespace Pt
open Go Lf Pat
variable {h : H}

theorem c_AutoCompiles (hj : JoinsOk) (hso : SortOk) {q : Ptn} {p : Option Addr} {n c : Nat} (r : RNodesR h p n c q.nodes) (hf : q.Fits) (hw : 0 ≤ q.window) :
    Spec P n_law14_AutoCompiles #[.agg #[.slice p n c, .int .u64 q.window]] h fun v h' => Le h h' ∧ v = .bool true := by
  apply s_law14_AutoCompiles
  unfold f_law14_AutoCompiles
  refine (c_law11_Raw_Pattern r hf).mono fun v h5 ⟨l5, p', n', c', ev, r5, _⟩ => ⟨_, _, _, _, ev, ?_⟩
  have hl := r5.1
  have hcl := cut_len q
  have sm : ∀ x, x ∈ q.cut.nodes → Small x := fun x hx => (by have := cut_small q x hx; unfold Small; omega)
  have hwin : q.window = q.cut.window := rfl
  refine (c_ref11_Great r5 sm (by omega)).mono fun v h11 ⟨e11, g, ev⟩ => ⟨_, ev, fun _ => ?_, fun _ => ?_⟩
  · exact (c_fixed hj hso).mono fun v h14 ⟨l, ev⟩ => ⟨_, ev, l5.trans (e11 ▸ l), rfl⟩
  subst e11
  rw [hwin]
  refine (c_Compile hj hso r5 sm (by omega) (small_out sm)).mono fun v16 h17 ⟨l17, hA⟩ => ?_
  -- what both sides hand back
  have key : ∃ (pp : Option Addr) (np cp f l : Nat) (pe : Option Addr) (ne ce : Nat) (e : Int) (Q : List Prd) (E : List Edg), v16 = .tuple #[autoR pp np cp f l pe ne ce, .int .i64 e] ∧
      PredsR h17 pp np cp Q ∧ EdgesR h17 pe ne ce E ∧ (∀ q, q ∈ Q → q.tests.length < 2 ^ 36) ∧ (∀ e, e ∈ E → e.guard.tests.length < 2 ^ 36) ∧ Q.length < 2 ^ 36 ∧ E.length < 2 ^ 36 ∧
      (∀ {h28 : H}, Le h17 h28 → ∃ O, Hdr h11 h28 O pp np 3 2 ∧ Hdr h11 h28 O pe ne 6 5) ∧
      (∀ {v27 : Value} {h28 : H}, Le h17 h28 → (if mayP q.cut ≠ 0 then v27 = .tuple #[autoZ, .int .i64 (mayP q.cut)] else
        ∃ t, tree q.cut.nodes.length q.cut.nodes = some t ∧ t.formed = true ∧ t.places ≤ 32 ∧
          if 64 < (edgesOf (t.widen 0).1.edge t.places t.places).length then v27 = .tuple #[autoZ, .int .i64 12] else
          ∃ pp np cp pe ne ce, v27 = .tuple #[autoR pp np cp (t.out 0).first (t.out 0).last pe ne ce, .int .i64 0] ∧ PredsR h28 pp np cp (t.out 0).preds ∧ EdgesR h28 pe ne ce (edgesOf (t.widen 0).1.edge t.places t.places)) →
        ∃ pp' np' cp' pe' ne' ce', v27 = .tuple #[autoR pp' np' cp' f l pe' ne' ce', .int .i64 e] ∧ PredsR h28 pp' np' cp' Q ∧ EdgesR h28 pe' ne' ce' E) := by
    have none0 : ∀ {hh : H}, PredsR hh none 0 0 [] ∧ EdgesR hh none 0 0 [] := fun {hh} => ⟨⟨rfl, Nat.le_refl _, fun i x hi => by simp at hi⟩, ⟨rfl, Nat.le_refl _, fun i x hi => by simp at hi⟩⟩
    have hd0 : ∀ {h28 : H}, ∃ O, Hdr h11 h28 O none 0 3 2 ∧ Hdr h11 h28 O none 0 6 5 := ⟨[], fun i hi => (by omega), fun i hi => (by omega)⟩
    by_cases hm : mayP q.cut = 0
    case neg =>
      rw [if_pos hm] at hA
      exact ⟨none, 0, 0, 0, 0, none, 0, 0, mayP q.cut, [], [], hA, none0.1, none0.2, fun q hq => by simp at hq, fun q hq => by simp at hq, by simp, by simp, fun _ => hd0, fun _ hB => by
        rw [if_pos hm] at hB
        exact ⟨none, 0, 0, none, 0, 0, hB, none0.1, none0.2⟩⟩
    rw [if_neg (by simpa using hm)] at hA
    obtain ⟨t, ht, hfo, hp32, hA⟩ := hA
    have hel := edges_len hfo hp32
    by_cases h64 : 64 < (t.out 0).edges.length
    · rw [if_pos h64] at hA
      exact ⟨none, 0, 0, 0, 0, none, 0, 0, 12, [], [], hA, none0.1, none0.2, fun q hq => by simp at hq, fun q hq => by simp at hq, by simp, by simp, fun _ => hd0, fun _ hB => by
        rw [if_neg (by simpa using hm)] at hB
        obtain ⟨t', ht', _, _, hB⟩ := hB
        rw [ht] at ht'; cases ht'
        rw [if_pos (by omega)] at hB
        exact ⟨none, 0, 0, none, 0, 0, hB, none0.1, none0.2⟩⟩
    rw [if_neg h64] at hA
    obtain ⟨M, s, E', ev, m, le, pm, so⟩ := hA
    obtain ⟨sQ, sE⟩ := small_out sm t ht
    have hlen := out_len t 0 hfo
    have hEl := pm.length_eq
    have hE : E' = edgesOf (t.widen 0).1.edge t.places t.places := edges_eq hfo hp32 pm so
    refine ⟨s.pp, s.np, s.cp, (t.out 0).first, (t.out 0).last, s.pe, s.ne, s.ce, 0, (t.out 0).preds, E', ev, m.predsR, m.edgesR, sQ, fun e he => sE e (pm.mem_iff.1 he), by omega, by omega, fun {h28} l28 => ?_, fun _ hB => ?_⟩
    · have same : ∀ b, b ∈ own M s → h28 b = h17 b := fun b hb => by
        cases hx : h17 b with
        | none => exact absurd hx (m.has b hb)
        | some o => exact l28 b o hx
      have m28 := m.beside same (l28.offS _)
      exact ⟨own M s, m28.hdrP, m28.hdrE⟩
    · rw [if_neg (by simpa using hm)] at hB
      obtain ⟨t', ht', _, _, hB⟩ := hB
      rw [ht] at ht'; cases ht'
      rw [if_neg (by omega)] at hB
      obtain ⟨pp', np', cp', pe', ne', ce', ev', rq', re'⟩ := hB
      exact ⟨pp', np', cp', pe', ne', ce', ev', rq', hE ▸ re'⟩
  obtain ⟨pp, np, cp, f, l, pe, ne, ce, e, Q, E, ev16, rq, re, sq, se, lq, lE, hdr, hB⟩ := key
  refine ⟨_, _, _, _, _, _, _, _, _, ev16, ?_⟩
  refine (c_ref14_Compile (r5.mono l17) sm (by omega) (by rw [← hwin]; exact hw)).mono fun v27 h28 ⟨l28, hC⟩ => ?_
  obtain ⟨pp', np', cp', pe', ne', ce', ev27, rq', re'⟩ := hB l28 hC
  refine ⟨_, _, _, _, _, _, _, _, _, ev27, ?_⟩
  have rq28 : PredsR h28 pp np cp Q := RowsR.mono' l28 (fun _ _ x => x.mono l28) rq
  have re28 : EdgesR h28 pe ne ce E := RowsR.mono' l28 (fun _ _ x => x.mono l28) re
  refine (c_ref14_Same rq28 re28 rq' re' sq se lq lE).mono fun v38 h39 ⟨e39, ev38⟩ => ⟨_, ev38, ?_⟩
  subst e39
  refine ⟨fun L h' => h' = h39 ∧ ∃ b, L = [.bool false, .bool b], ⟨fun h1 => (by simp at h1), fun _ => ⟨rfl, _, by simp; rfl⟩⟩, ?_⟩
  rintro b42 b43 h44 ⟨rfl, b, e2⟩
  simp only [List.cons.injEq, Value.bool.injEq, and_true] at e2
  obtain ⟨rfl, rfl⟩ := e2
  refine ⟨fun h1 => (by cases h1), fun _ => ?_⟩
  obtain ⟨O, hp, he⟩ := hdr l28
  have l0 : Le h11 h44 := l17.trans l28
  have hnp := rq.1
  have hne := re.1
  refine ⟨fun k L h' => ∃ i : Nat, L = [.int .i64 (i : Int)] ∧ k + i = np ∧ Inv h11 h44 O h', ⟨np, 0, rfl, rfl, fun _ _ => rfl, SameSize.refl _, l0⟩, ?_⟩
  rintro k x48 h49 ⟨i, e3, hk, iv⟩
  simp only [List.cons.injEq, Value.int.injEq, true_and, and_true] at e3
  subst e3
  refine ⟨fun hi => ?_, fun _ => ?_⟩
  · simp only [decide_eq_true_eq] at hi
    obtain ⟨a, p1, n1, c1, ea, hc, cl⟩ := hp i (by omega)
    refine ⟨a, ea, ⟨by omega, by omega⟩, _, _, _, hc h49 iv.own, iv.clear cl fun h55 iv' => ⟨k - 1, by omega, i + 1, by rw [wrap_succ (by omega)], by omega, iv'⟩⟩
  refine ⟨fun k L h' => ∃ i : Nat, L = [.int .i64 (i : Int)] ∧ k + i = ne ∧ Inv h11 h44 O h', ⟨ne, 0, rfl, rfl, iv⟩, ?_⟩
  rintro k x59 h60 ⟨i, e3, hk, iv⟩
  simp only [List.cons.injEq, Value.int.injEq, true_and, and_true] at e3
  subst e3
  refine ⟨fun hi => ?_, fun _ => ?_⟩
  · simp only [decide_eq_true_eq] at hi
    obtain ⟨a, p1, n1, c1, ea, hc, cl⟩ := he i (by omega)
    refine ⟨a, ea, ⟨by omega, by omega⟩, _, _, _, hc h60 iv.own, iv.clear cl fun h55 iv' => ⟨k - 1, by omega, i + 1, by rw [wrap_succ (by omega)], by omega, iv'⟩⟩
  refine ⟨fun L h' => Le h h' ∧ ∃ b, L = [.bool b, .bool true], ?_, ?_⟩
  · refine (c_fixed hj hso).mono fun v h69 ⟨l69, ev⟩ => ⟨_, ev, l69, fun _ => ?_, fun h1 => (by cases h1)⟩
    have lh : Le h h69 := l5.trans (iv.le.trans l69)
    refine (c_law11_Raw_Pattern (r.mono lh) hf).mono fun v h72 ⟨l72, p2, n2, c2, ev, r72, _⟩ => ⟨_, _, _, _, ev, l69.trans l72, ?_⟩
    rw [hwin]
    refine (c_ref11_Same (r5.mono (iv.le.trans (l69.trans l72))) r72 sm (by omega)).mono fun v h78 ⟨e78, ev⟩ => ⟨_, ev, e78 ▸ lh.trans l72, _, rfl⟩
  · rintro b80 b81 h82 ⟨lh, b, e4⟩
    simp only [List.cons.injEq, Value.bool.injEq, and_true] at e4
    obtain ⟨rfl, rfl⟩ := e4
    exact ⟨lh, rfl⟩
end Pt

