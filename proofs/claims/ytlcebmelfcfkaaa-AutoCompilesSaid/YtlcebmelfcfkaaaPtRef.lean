/- Values, questions, trees: what the document's functions hand back. -/
import Derived.Test.YtlcebmelfcfkaaaPtMay
import Derived.Test.YtlcebmelfcfkaaaPtTxt2
import Derived.Test.YtlcebmelfcfkaaaLibB
namespace Pt
open Go Lf Pat
variable {h : H}

theorem c_ref04_May (v : Val) : Spec P n_ref04_May #[valV v] h (fun r h' => h' = h ∧ r = .bool v.may) := by
  apply s_ref04_May
  unfold f_ref04_May
  simp only [scmpF_eql]
  refine pBB (fun b _ h' => h' = h ∧ b = (decide (v.int = 0) || decide (v.kind = 1))) ⟨fun h1 => ⟨_, _, rfl, rfl, by grind⟩, fun h1 => ⟨_, _, rfl, rfl, by grind⟩⟩ ?_
  rintro b5 _ h7 ⟨rfl, e5⟩
  refine RunL.float64bits ext_math_Float64bits ⟨_, rfl, ?_⟩
  refine pBB (fun b _ h' => h' = h7 ∧ b = (decide (v.real = 0) || decide (v.kind = 2))) ⟨fun h1 => ⟨_, _, rfl, rfl, by grind⟩, fun h1 => ⟨_, _, rfl, rfl, by grind⟩⟩ ?_
  rintro b12 _ h14 ⟨rfl, e12⟩
  refine pBB (fun b _ h' => h' = h14 ∧ b = (decide (v.text = ⟨#[]⟩) || decide (v.kind = 3))) ⟨fun h1 => ⟨_, _, rfl, rfl, by grind⟩, fun h1 => ⟨_, _, rfl, rfl, by grind⟩⟩ ?_
  rintro b16 _ h18 ⟨rfl, e16⟩
  refine jBBBBB ⟨fun h1 => ⟨fun h2 => ⟨fun h3 => ⟨fun h4 => ⟨_, _, _, _, _, rfl, rfl, ?_⟩, fun h4 => ⟨_, _, _, _, _, rfl, rfl, ?_⟩⟩, fun h3 => ⟨_, _, _, _, _, rfl, rfl, ?_⟩⟩, fun h2 => ⟨_, _, _, _, _, rfl, rfl, ?_⟩⟩, fun h1 => ⟨_, _, _, _, _, rfl, rfl, ?_⟩⟩
  all_goals (congr 1; unfold Val.may; grind)

theorem c_ref10_Right (t : Tst) : Spec P n_ref10_Right #[tstV t] h (fun r h' => h' = h ∧ r = .bool t.right) := by
  apply s_ref10_Right
  unfold f_ref10_Right
  refine pBBB (fun _ b _ h' => h' = h ∧ b = (decide (t.op < 1) || decide (t.op > 8) || !t.val.may)) ⟨fun h1 => ⟨_, _, _, rfl, rfl, by grind⟩, fun h1 => ⟨fun h2 => ⟨_, _, _, rfl, rfl, by grind⟩, fun h2 => ?_⟩⟩ ?_
  · exact (c_ref04_May t.val).mono fun r h5 ⟨e5, er⟩ => ⟨_, er, _, _, _, rfl, e5, by grind⟩
  rintro _ b _ h13 ⟨rfl, e⟩
  refine ⟨fun h1 => ⟨rfl, ?_⟩, fun h1 => ⟨fun h2 => ⟨rfl, ?_⟩, fun h2 => ⟨fun h3 => ⟨rfl, ?_⟩, fun h3 => ⟨rfl, ?_⟩⟩⟩⟩
  all_goals (congr 1; unfold Tst.right; grind)

theorem c_ref10_May {q : Prd} {p : Option Addr} {n c : Nat} (r : TestsR h p n c q.tests) (hn : n < 2 ^ 36) :
    Spec P n_ref10_May #[.agg #[.bool q.any, .int .u8 q.topic, .slice p n c]] h (fun r h' => h' = h ∧ r = .bool q.may) := by
  apply s_ref10_May
  unfold f_ref10_May
  have hl := r.1
  refine ⟨fun k L h' => h' = h ∧ ∃ (i : Nat) (y : Bool), L = [.int .i64 i, .bool y] ∧ k + i = n ∧ (q.tests.take i).all Tst.right = true, ⟨n, rfl, 0, _, rfl, rfl, rfl⟩, ?_⟩
  rintro k x7 x8 h9 ⟨rfl, i, y, e, hk, hany⟩
  simp only [List.cons.injEq, Value.int.injEq, Value.bool.injEq, true_and, and_true] at e
  obtain ⟨rfl, rfl⟩ := e
  refine ⟨fun hi => ?_, fun hi => ?_⟩
  · simp only [decide_eq_true_eq] at hi
    obtain ⟨t, ht, hm⟩ := get_lt (l := q.tests) (i := i) (by omega)
    obtain ⟨a, e1, hb, c0, c1, c2, c3, c4, c5⟩ := r.at ht rfl
    refine ⟨a, e1, hb, _, c0, _, c1, _, c2, _, c3, _, c4, _, c5, ?_⟩
    refine (c_ref10_Right t).mono fun v h18 ⟨e18, ev⟩ => ⟨_, ev, fun hb => ⟨e18, ?_⟩, fun hb => ?_⟩
    · congr 1
      have : q.tests.all Tst.right = false := by
        rw [List.all_eq_false]; exact ⟨t, hm, by simpa using hb⟩
      unfold Prd.may; rw [this]; simp
    · rw [wrap_succ (by omega)]
      exact ⟨k - 1, by omega, e18, i + 1, _, rfl, by omega, by rw [all_take_succ _ ht, hany]; simpa using hb⟩
  · simp only [decide_eq_false_iff_not] at hi
    rw [List.take_of_length_le (by omega)] at hany
    refine jBB ⟨fun h1 => ⟨fun h2 => ⟨_, _, rfl, rfl, ?_⟩, fun h2 => ⟨_, _, rfl, rfl, ?_⟩⟩, fun h1 => ⟨_, _, rfl, rfl, ?_⟩⟩
    all_goals (congr 1; unfold Prd.may; grind)

theorem c_ref11_none {q : Prd} {p : Option Addr} {n c : Nat} (r : TestsR h p n c q.tests) :
    Spec P n_ref11_none #[.agg #[.bool q.any, .int .u8 q.topic, .slice p n c]] h (fun r h' => h' = h ∧ r = .bool q.none) := by
  apply s_ref11_none
  unfold f_ref11_none
  have hl := r.1
  refine jBBB ⟨fun h1 => ⟨fun h2 => ⟨_, _, _, rfl, rfl, ?_⟩, fun h2 => ⟨_, _, _, rfl, rfl, ?_⟩⟩, fun h1 => ⟨_, _, _, rfl, rfl, ?_⟩⟩
  all_goals (congr 1; unfold Prd.none; subst hl; grind [List.length_eq_zero_iff])

/-- A tree as an argument. -/
abbrev tV (row : List Value) : Value := .agg row.toArray

theorem c_ref11_T_Depth : ∀ (t : T) {h : H} {row : List Value}, TR h row t → t.count < 2 ^ 35 → Spec P n_ref11_T_Depth #[tV row] h (fun v h' => h' = h ∧ v = .int .i64 t.deep)
  | .mk x ps, h, row, r, hN => by
    obtain ⟨p1, n1, c1, p2, n2, c2, p, n, c, rfl, t1, t2, tr⟩ := r.out
    simp only [T.node] at t1 t2 ⊢
    apply s_ref11_T_Depth
    unfold f_ref11_T_Depth
    simp only [T.parts] at tr
    have hl := tr.1
    have hc := length_le_countL ps
    have hd := deepL_le' ps
    simp only [T.count] at hN
    refine ⟨fun kk L h' => h' = h ∧ ∃ (i : Nat), L = [.int .i64 i, .int .i64 (deepL (ps.take i))] ∧ kk + i = n, ⟨n, rfl, 0, rfl, rfl⟩, ?_⟩
    rintro kk x11 x12 h13 ⟨rfl, i, e, hk⟩
    simp only [List.cons.injEq, Value.int.injEq, true_and, and_true] at e
    obtain ⟨rfl, rfl⟩ := e
    refine ⟨fun hi => ?_, fun hi => ⟨rfl, ?_⟩⟩
    · simp only [decide_eq_true_eq] at hi
      obtain ⟨u, hu, hmem⟩ := get_lt (l := ps) (i := i) (by omega)
      obtain ⟨a, p1, n1, c1, p2, n2, c2, q, m, kq, e1, hb, hT, d0, d1, d2, d3, d4, d5, d6, d7, d8, d9, d10, d11⟩ := tr.at hu rfl
      refine ⟨a, e1, hb, _, d0, _, d1, _, d2, _, _, _, d3, _, d4, _, d5, _, d6, _, _, _, d7, _, d8, _, d9, _, d10, _, _, _, d11, ?_⟩
      have hcu := countL_le hu
      refine (c_ref11_T_Depth u hT (by omega)).mono fun v h19 ⟨l19, ev⟩ => ⟨_, ev, kk - 1, by omega, l19, i + 1, ?_, by omega⟩
      have h1 := deepL_le hu
      have e2 : (1 : Int) + (u.deep : Int) = (u.deep : Int) + 1 := by omega
      rw [e2, wrap_succ (by omega), wrap_succ (by omega), deepL_take hu]
      congr 3
      omega
    · simp only [decide_eq_false_iff_not] at hi
      rw [List.take_of_length_le (by omega)]
      rfl

theorem c_ref11_T_Places : ∀ (t : T) {h : H} {row : List Value}, TR h row t → t.formed = true → t.count * 8 ^ t.deep < 2 ^ 60 → t.count < 2 ^ 35 → Sized t → Spec P n_ref11_T_Places #[tV row] h (fun v h' => h' = h ∧ v = .int .i64 t.places)
  | .mk x ps, h, row, r, hF, hB, hN, hS => by
    obtain ⟨p1, n1, c1, p2, n2, c2, p, n, c, rfl, t1, t2, tr⟩ := r.out
    simp only [T.node] at t1 t2 ⊢
    apply s_ref11_T_Places
    unfold f_ref11_T_Places
    simp only [T.parts] at tr
    have hl := tr.1
    have hc := length_le_countL ps
    have hpb := places_bound _ hF
    have hF' := hF
    simp only [T.formed, Bool.and_eq_true, decide_eq_true_eq] at hF
    have hpL := placesL_bound ps hF.2
    have hle2 : countL ps * 8 ^ deepL ps ≤ (T.mk x ps).count * 8 ^ (T.mk x ps).deep := Nat.mul_le_mul_right _ (by simp [T.count])
    cases hS with
    | mk hs hch =>
    have hk1 : x.kind = 1 ↔ ps = [] := ⟨hF.1.2, fun e => by
      subst e
      have := hF.1.1
      simp only [List.length_nil] at this
      unfold plain at this; grind⟩
    refine ⟨fun h1 => ⟨rfl, ?_⟩, fun h1 => ?_⟩
    · simp only [decide_eq_true_eq] at h1
      have : ps = [] := List.length_eq_zero_iff.1 (by omega)
      simp only [T.places, if_pos (hk1.2 this)]; rfl
    simp only [decide_eq_false_iff_not] at h1
    have hne : ¬ x.kind = 1 := fun e => h1 (by have := hk1.1 e; subst this; simpa using hl)
    simp only [T.count] at hN
    refine ⟨fun kk L h' => h' = h ∧ ∃ (i : Nat), L = [.int .i64 i, .int .i64 (placesL (ps.take i))] ∧ kk + i = n, ⟨n, rfl, 0, rfl, rfl⟩, ?_⟩
    rintro kk x11 x12 h13 ⟨rfl, i, e, hk⟩
    simp only [List.cons.injEq, Value.int.injEq, true_and, and_true] at e
    obtain ⟨rfl, rfl⟩ := e
    refine ⟨fun hi => ?_, fun hi => ?_⟩
    · simp only [decide_eq_true_eq] at hi
      obtain ⟨u, hu, hmem⟩ := get_lt (l := ps) (i := i) (by omega)
      obtain ⟨a, p1, n1, c1, p2, n2, c2, q, m, kq, e1, hb, hT, d0, d1, d2, d3, d4, d5, d6, d7, d8, d9, d10, d11⟩ := tr.at hu rfl
      refine ⟨a, e1, hb, _, d0, _, d1, _, d2, _, _, _, d3, _, d4, _, d5, _, d6, _, _, _, d7, _, d8, _, d9, _, d10, _, _, _, d11, ?_⟩
      have hcu := countL_le hu
      have hB' : u.count * 8 ^ u.deep < 2 ^ 60 := by
        refine Nat.lt_of_le_of_lt (Nat.le_trans (Nat.mul_le_mul (countL_le hu) (Nat.pow_le_pow_right (by omega) (by have := deepL_le hu; omega : u.deep ≤ deepL ps))) hle2) hB
      refine (c_ref11_T_Places u hT (formedL_get hF.2 hu) hB' (by omega) (hch i u hu)).mono fun v h19 ⟨l19, ev⟩ => ⟨_, ev, kk - 1, by omega, l19, i + 1, ?_, by omega⟩
      have h1 := placesL_take_le ps (i + 1)
      rw [placesL_take hu] at h1 ⊢
      rw [wrap_succ (by omega), wrap_i64_of (by omega) (by omega)]
      rfl
    · simp only [decide_eq_false_iff_not] at hi
      rw [List.take_of_length_le (by omega)]
      refine ⟨fun l h' => h' = h13 ∧ l = [.int .i64 (T.mk x ps).places], ⟨fun h4 => ⟨rfl, ?_⟩, fun h4 => ⟨rfl, ?_⟩⟩, ?_⟩
      · simp only [decide_eq_true_eq] at h4
        have hh := plain_hi hF.1.1 h4
        simp only [T.places, if_neg hne, if_pos h4] at hpb ⊢
        have e : IntKind.i64.wrap x.hi = ((x.hi.toNat : Nat) : Int) := by rw [wrap_i64_of (by omega) (by omega)]; omega
        rw [e, wrap_i64_of (by omega) (by
          have : ((placesL ps : Nat) : Int) * (x.hi.toNat : Int) = ((placesL ps * x.hi.toNat : Nat) : Int) := by simp
          rw [this]; omega)]
        simp
      · simp only [decide_eq_false_iff_not] at h4
        simp only [T.places, if_neg hne, if_neg h4]
      · rintro x28 h29 ⟨rfl, e⟩
        simp only [List.cons.injEq, Value.int.injEq, true_and, and_true] at e
        subst e
        exact ⟨rfl, rfl⟩

theorem c_ref11_T_formed : ∀ (t : T) {h : H} {row : List Value}, TR h row t → t.count < 2 ^ 35 → Sized t → Spec P n_ref11_T_formed #[tV row] h (fun v h' => h' = h ∧ v = .bool t.formed)
  | .mk x ps, h, row, r, hN, hS => by
    obtain ⟨p1, n1, c1, p2, n2, c2, p, n, c, rfl, t1, t2, tr⟩ := r.out
    simp only [T.node] at t1 t2 ⊢
    apply s_ref11_T_formed
    unfold f_ref11_T_formed
    simp only [T.parts] at tr
    have hl := tr.1
    have hc := length_le_countL ps
    simp only [T.count] at hN
    cases hS with
    | mk hs hch =>
    have hz : ps = [] ↔ n = 0 := by rw [hl]; exact List.length_eq_zero_iff.symm
    have hcz : ps = [] → x.size = 0 := fun e => by subst e; rw [hs]; rfl
    have hsz : x.kind = 1 → (x.size = 0 ↔ n = 0) := fun _ => ⟨fun e => by omega, fun e => by rw [hs]; have := hz.2 e; subst this; rfl⟩
    have hsn : (x.size = 0 ↔ n = 0) := ⟨fun e => by omega, fun e => by rw [hs]; have := hz.2 e; subst this; rfl⟩
    -- what the kind asks
    refine ⟨fun l h' => h' = h ∧ l = [.bool (if x.kind = 1 then decide (n = 0) && decide (x.lo = 0) && decide (x.hi = 0) && !x.guarded
        else if x.kind = 2 then decide (1 < n) && decide (x.lo = 0) && decide (x.hi = 0) && x.pred.none
        else if x.kind = 3 then decide (1 < n) && decide (x.lo = 0) && decide (x.hi = 0) && x.pred.none && !x.guarded
        else if x.kind = 4 then decide (n = 1) && decide (0 < x.lo) && decide (x.lo ≤ x.hi) && decide (x.hi < 9) && x.pred.none else false)], ⟨fun k1 => ?_, fun k1 => ⟨fun k2 => ?_, fun k2 => ⟨fun k3 => ?_, fun k3 => ⟨fun k4 => ?_, fun k4 => ⟨rfl, ?_⟩⟩⟩⟩⟩, ?_⟩
    · refine jBBBB ⟨fun h1 => ⟨fun h2 => ⟨fun h3 => ⟨_, _, _, _, rfl, rfl, ?_⟩, fun h3 => ⟨_, _, _, _, rfl, rfl, ?_⟩⟩, fun h2 => ⟨_, _, _, _, rfl, rfl, ?_⟩⟩, fun h1 => ⟨_, _, _, _, rfl, rfl, ?_⟩⟩
      all_goals (congr 2; grind)
    · refine jBBBB ⟨fun h1 => ⟨fun h2 => ⟨fun h3 => (c_ref11_none (q := x.pred) t1).mono fun v h' ⟨e, ev⟩ => ⟨_, ev, _, _, _, _, rfl, e, ?_⟩, fun h3 => ⟨_, _, _, _, rfl, rfl, ?_⟩⟩, fun h2 => ⟨_, _, _, _, rfl, rfl, ?_⟩⟩, fun h1 => ⟨_, _, _, _, rfl, rfl, ?_⟩⟩
      all_goals (congr 2; grind)
    · refine jBBBBB ⟨fun h1 => ⟨fun h2 => ⟨fun h3 => (c_ref11_none (q := x.pred) t1).mono fun v h' ⟨e, ev⟩ => ⟨_, ev, fun h4 => ⟨_, _, _, _, _, rfl, e, ?_⟩, fun h4 => ⟨_, _, _, _, _, rfl, e, ?_⟩⟩, fun h3 => ⟨_, _, _, _, _, rfl, rfl, ?_⟩⟩, fun h2 => ⟨_, _, _, _, _, rfl, rfl, ?_⟩⟩, fun h1 => ⟨_, _, _, _, _, rfl, rfl, ?_⟩⟩
      all_goals (congr 2; grind)
    · refine jBBBBB ⟨fun h1 => ⟨fun h2 => ⟨fun h3 => ⟨fun h4 => (c_ref11_none (q := x.pred) t1).mono fun v h' ⟨e, ev⟩ => ⟨_, ev, _, _, _, _, _, rfl, e, ?_⟩, fun h4 => ⟨_, _, _, _, _, rfl, rfl, ?_⟩⟩, fun h3 => ⟨_, _, _, _, _, rfl, rfl, ?_⟩⟩, fun h2 => ⟨_, _, _, _, _, rfl, rfl, ?_⟩⟩, fun h1 => ⟨_, _, _, _, _, rfl, rfl, ?_⟩⟩
      all_goals (simp only [decide_eq_true_eq, decide_eq_false_iff_not] at k1 k2 k3 k4 h1; congr 2; rw [if_neg k1, if_neg k2, if_neg k3, if_pos k4]; grind)
    · congr 2; grind
    rintro b54 h55 ⟨rfl, e54⟩
    simp only [List.cons.injEq, Value.bool.injEq, and_true] at e54
    have hplain : ((x.guarded || x.guard.none) && b54) = (plain x ps.length && decide (x.kind = 1 → ps = [])) := by
      have e2 : decide (x.kind = 1 → ps = []) = (!decide (x.kind = 1) || decide (n = 0)) := by
        by_cases hk : x.kind = 1 <;> by_cases hn : n = 0 <;> simp [hk, hn, hz]
      rw [e54, ← hl, e2]
      clear r tr t1 t2 hch hz hcz e2
      unfold plain
      grind
    refine ⟨fun l h' => h' = h55 ∧ l = [.bool (plain x ps.length && decide (x.kind = 1 → ps = []))], ?_, ?_⟩
    · refine pBB (fun b _ h' => h' = h55 ∧ b = !(x.guarded || x.guard.none)) ⟨fun h1 => (c_ref11_none (q := x.guard) t2).mono fun v h' ⟨e, ev⟩ => ⟨_, ev, _, _, rfl, e, by grind⟩, fun h1 => ⟨_, _, rfl, rfl, by grind⟩⟩ ?_
      rintro b _ h63 ⟨rfl, e⟩
      refine ⟨fun h1 => ⟨rfl, ?_⟩, fun h1 => ⟨rfl, ?_⟩⟩
      all_goals (rw [← hplain]; congr 2; grind)
    rintro b64 h65 ⟨rfl, e64⟩
    simp only [List.cons.injEq, Value.bool.injEq, and_true] at e64
    refine ⟨fun kk L h' => h' = h65 ∧ ∃ (i : Nat), L = [.int .i64 i, .bool (b64 && (ps.take i).all T.formed)] ∧ kk + i = n, ⟨n, rfl, 0, by simp, rfl⟩, ?_⟩
    rintro kk x11 x12 h13 ⟨rfl, i, e, hk⟩
    simp only [List.cons.injEq, Value.int.injEq, Value.bool.injEq, true_and, and_true] at e
    obtain ⟨rfl, rfl⟩ := e
    refine ⟨fun hi => ?_, fun hi => ⟨rfl, ?_⟩⟩
    · simp only [decide_eq_true_eq] at hi
      obtain ⟨u, hu, hmem⟩ := get_lt (l := ps) (i := i) (by omega)
      have hcu := countL_le hu
      have step : ∀ b : Bool, b = ((b64 && (ps.take i).all T.formed) && u.formed) → ∃ j, j < kk ∧ h13 = h13 ∧ ∃ i' : Nat, [Value.int .i64 (IntKind.i64.wrap ((i : Int) + 1)), .bool b] = [.int .i64 i', .bool (b64 && (ps.take i').all T.formed)] ∧ j + i' = n := fun b hb => by
        rw [wrap_succ (by omega)]
        exact ⟨kk - 1, by omega, rfl, i + 1, by rw [all_take_succ _ hu, hb, Bool.and_assoc], by omega⟩
      refine jBB ⟨fun h1 => ?_, fun h1 => ⟨_, _, rfl, step _ (by rw [h1]; rfl)⟩⟩
      obtain ⟨a, p1, n1, c1, p2, n2, c2, q, m, kq, e1, hb, hT, d0, d1, d2, d3, d4, d5, d6, d7, d8, d9, d10, d11⟩ := tr.at hu rfl
      refine ⟨a, e1, hb, _, d0, _, d1, _, d2, _, _, _, d3, _, d4, _, d5, _, d6, _, _, _, d7, _, d8, _, d9, _, d10, _, _, _, d11, ?_⟩
      refine (c_ref11_T_formed u hT (by omega) (hch i u hu)).mono fun v h19 ⟨e19, ev⟩ => ⟨_, ev, _, _, rfl, ?_⟩
      subst e19
      exact step _ (by rw [h1]; rfl)
    · simp only [decide_eq_false_iff_not] at hi
      rw [List.take_of_length_le (by omega)]
      simp only [T.formed, formedL_all, e64]
end Pt

