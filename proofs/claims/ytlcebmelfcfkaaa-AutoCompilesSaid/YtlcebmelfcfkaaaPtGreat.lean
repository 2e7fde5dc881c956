/- Is a pattern more than is gone through? The document's function ends. -/
import Derived.Test.YtlcebmelfcfkaaaPtRefMay
namespace Pt
open Go Lf Pat
variable {h : H}

theorem c_ref10_Great {p : Option Addr} {n c : Nat} {b : Bool} {x : Int} {ts : List Tst} (r : TestsR h p n c ts) (hn : n < 2 ^ 62) :
    Spec P n_ref10_Great #[.agg #[.bool b, .int .u8 x, .slice p n c]] h fun v h' => h' = h ∧ ∃ g : Bool, v = .bool g := by
  apply s_ref10_Great
  unfold f_ref10_Great
  refine ⟨fun _ => ⟨rfl, _, rfl⟩, fun _ => ?_⟩
  refine ⟨fun k L h' => ∃ (i : Nat) (y : Int), L = [.int .i64 (i : Int), .int .i64 y] ∧ k + i = n ∧ h' = h, ⟨n, 0, _, rfl, rfl, rfl⟩, ?_⟩
  rintro k x8 x9 h10 ⟨i, y, e, hk, rfl⟩
  simp only [List.cons.injEq, Value.int.injEq, true_and, and_true] at e
  obtain ⟨rfl, rfl⟩ := e
  refine ⟨fun hi => ?_, fun _ => ⟨rfl, _, rfl⟩⟩
  simp only [decide_eq_true_eq] at hi
  obtain ⟨t, ht, _⟩ := get_lt (l := ts) (i := i) (by have := r.1; omega)
  obtain ⟨a, ea, hc⟩ := r.2.2 i t.enc (by rw [List.getElem?_map, ht]; rfl)
  exact ⟨a, ea, ⟨by omega, by omega⟩, _, hc 5 _ rfl, k - 1, by omega, i + 1, _, by rw [wrap_succ (by omega)], by omega, rfl⟩

theorem c_ref11_Great {p : Option Addr} {n c : Nat} {w : Int} {xs : List Nd} (r : NodesR h p n c xs) (hs : ∀ x, x ∈ xs → Small x) (hn : n < 2 ^ 35) :
    Spec P n_ref11_Great #[.agg #[.slice p n c, .int .u64 w]] h fun v h' => h' = h ∧ ∃ g : Bool, v = .bool g := by
  apply s_ref11_Great
  unfold f_ref11_Great
  have hl := r.1
  refine ⟨fun _ => ⟨rfl, _, rfl⟩, fun _ => ?_⟩
  refine ⟨fun k L h' => ∃ (i : Nat) (b : Bool), L = [.int .i64 (i : Int), .bool b] ∧ k + i = n ∧ h' = h, ⟨n, 0, _, rfl, rfl, rfl⟩, ?_⟩
  rintro k x7 b8 h9 ⟨i, b, e, hk, rfl⟩
  simp only [List.cons.injEq, Value.int.injEq, Value.bool.injEq, true_and, and_true] at e
  obtain ⟨rfl, rfl⟩ := e
  refine ⟨fun hi => ?_, fun _ => ⟨rfl, _, rfl⟩⟩
  simp only [decide_eq_true_eq] at hi
  obtain ⟨x, hx, hm⟩ := get_lt (l := xs) (i := i) (by omega)
  obtain ⟨s1, s2⟩ := hs x hm
  obtain ⟨a, p1, n1, c1, p2, n2, c2, e1, hb, t1, t2, d0, d1, d2, d3, d4, d5, d6, d7, d8, d9, d10⟩ := r.at hx rfl
  refine ⟨a, e1, hb, _, d1, _, d2, _, _, _, d3, ?_⟩
  refine (c_ref10_Great t1 (by have := t1.1; omega)).mono fun v h17 hA => ?_
  obtain ⟨rfl, g, rfl⟩ := hA
  refine ⟨_, rfl, fun l h' => ∃ u v : Bool, l = [.bool u, .bool v] ∧ h' = h17, ⟨fun _ => ⟨_, _, rfl, rfl⟩, fun _ => ⟨a, e1, hb, _, d5, _, d6, _, _, _, d7, ?_⟩⟩, ?_⟩
  · refine (c_ref10_Great t2 (by have := t2.1; omega)).mono fun v h27 hB => ?_
    obtain ⟨rfl, g2, rfl⟩ := hB
    exact ⟨_, rfl, _, _, rfl, rfl⟩
  · rintro b29 b30 h31 ⟨u, v, e, rfl⟩
    simp only [List.cons.injEq, Value.bool.injEq, and_true] at e
    obtain ⟨rfl, rfl⟩ := e
    exact ⟨fun _ => ⟨rfl, _, rfl⟩, fun _ => ⟨k - 1, by omega, i + 1, _, by rw [wrap_succ (by omega)], by omega, rfl⟩⟩
end Pt

