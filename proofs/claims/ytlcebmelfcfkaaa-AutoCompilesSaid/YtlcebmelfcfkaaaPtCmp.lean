/- The order of edges: the program's comparison. -/
import Derived.Test.YtlcebmelfcfkaaaPtMakes
namespace Pt
open Go Lf Pat
variable {h : H}

/-- cmp.Compare of two numbers. -/
def cmpI (x y : Int) : Int := if x < y then -1 else if x > y then 1 else 0

theorem c_isNaN (x : Int) : Spec P n_cmp_isNaN_uint8 #[.int .u8 x] h fun v h' => v = .bool false ∧ h' = h := by
  apply s_cmp_isNaN_uint8
  unfold f_cmp_isNaN_uint8
  exact ⟨by simp, rfl⟩

theorem c_Compare (x y : Int) : Spec P n_cmp_Compare_uint8 #[.int .u8 x, .int .u8 y] h fun v h' => v = .int .i64 (cmpI x y) ∧ h' = h := by
  apply s_cmp_Compare_uint8
  unfold f_cmp_Compare_uint8
  refine (c_isNaN x).mono fun v h3 hA => ?_
  obtain ⟨rfl, rfl⟩ := hA
  refine ⟨_, rfl, (c_isNaN y).mono fun v h6 hB => ?_⟩
  obtain ⟨rfl, rfl⟩ := hB
  refine ⟨_, rfl, fun e => (by cases e), fun _ => ⟨fun e => (by cases e), fun _ => ⟨fun h1 => ?_, fun h1 => ⟨fun h2 => ?_, fun h2 => ?_⟩⟩⟩⟩
  · simp only [decide_eq_true_eq] at h1
    exact ⟨by rw [cmpI, if_pos h1], rfl⟩
  · simp only [decide_eq_true_eq, decide_eq_false_iff_not] at h1 h2
    exact ⟨by rw [cmpI, if_neg h1, if_pos h2], rfl⟩
  · simp only [decide_eq_false_iff_not] at h1 h2
    exact ⟨by rw [cmpI, if_neg h1, if_neg h2], rfl⟩

def orI (x y : Int) : Int := if x ≠ 0 then x else y

theorem c_Or {b : Nat} {x y : Int} {t : TypeId} (hb : h b = some (.cells #[.int .i64 x, .int .i64 y] t (0, 0))) :
    Spec P n_cmp_Or_int #[.slice (some ((blk b).add 0)) 2 2] h fun v h' => v = .int .i64 (orI x y) ∧ h' = h := by
  apply s_cmp_Or_int
  unfold f_cmp_Or_int
  refine ⟨fun kk L h' => ∃ i : Nat, L = [.int .i64 (i : Int), .int .i64 0] ∧ kk + i = 2 ∧ h' = h ∧ (i = 1 → x = 0) ∧ (i = 2 → x = 0 ∧ y = 0), ⟨2, 0, rfl, rfl, rfl, by omega, by omega⟩, ?_⟩
  rintro kk x6 x7 h8 ⟨i, e, hk, rfl, h1, h2⟩
  simp only [List.cons.injEq, Value.int.injEq, true_and, and_true] at e
  obtain ⟨rfl, rfl⟩ := e
  refine ⟨fun hi => ?_, fun hi => ?_⟩
  · simp only [decide_eq_true_eq] at hi
    have hi' : i < 2 := by omega
    refine ⟨_, rfl, ⟨by omega, by omega⟩, if i = 0 then x else y, ?_, fun hx => ?_, fun hx => ?_⟩
    · rw [blk_mk, add_mk, aidx_mk, add_mk, cell_of hb]
      rcases (show i = 0 ∨ i = 1 by omega) with rfl | rfl <;> rfl
    · refine ⟨?_, rfl⟩
      rcases (show i = 0 ∨ i = 1 by omega) with rfl | rfl
      · have : x ≠ 0 := by simpa using hx
        rw [orI, if_pos this]; rfl
      · have := h1 rfl
        subst this
        rw [orI, if_neg (by simp)]; rfl
    · refine ⟨kk - 1, by omega, i + 1, by rw [wrap_succ (by omega)], by omega, rfl, fun e => ?_, fun e => ?_⟩
      · obtain rfl : i = 0 := by omega
        simpa using hx
      · obtain rfl : i = 1 := by omega
        exact ⟨h1 rfl, by simpa using hx⟩
  · simp only [decide_eq_false_iff_not] at hi
    obtain rfl : i = 2 := by omega
    obtain ⟨rfl, rfl⟩ := h2 rfl
    exact ⟨by simp [orI], rfl⟩

/-- An edge's row. -/
structure ERow where
  src : Int
  dst : Int
  guarded : Bool
  any : Bool
  topic : Int
  p : Option Addr
  n : Nat
  c : Nat
deriving Inhabited

def ERow.enc (e : ERow) : List Value := [.int .u8 e.src, .int .u8 e.dst, .bool e.guarded, .bool e.any, .int .u8 e.topic, .slice e.p e.n e.c]
def ERow.cmp (x y : ERow) : Int := orI (cmpI x.src y.src) (cmpI x.dst y.dst)

theorem c_Compile_1 (x y : ERow) : Spec P n_auto_Compile_1 #[.agg x.enc.toArray, .agg y.enc.toArray] h fun v h' => v = .int .i64 (x.cmp y) := by
  unfold ERow.enc
  apply s_auto_Compile_1
  unfold f_auto_Compile_1
  refine (c_Compare _ _).mono fun v h17 hA => ?_
  obtain ⟨rfl, rfl⟩ := hA
  refine ⟨_, rfl, Le.refl _, (c_Compare _ _).mono fun v h20 hB => ?_⟩
  obtain ⟨rfl, rfl⟩ := hB
  refine ⟨_, rfl, fun n22 hn h23 e23 => ?_⟩
  subst e23
  refine (c_Or (b := n22) hnew_same).mono fun v h25 hC => ?_
  obtain ⟨rfl, rfl⟩ := hC
  exact ⟨_, rfl, rfl⟩
end Pt

