/- Edges lead to later places, each pair once, in order; first and last are places. -/
import Derived.Test.YtlcebmelfcfkaaaPtFixed
namespace Pt
open Go Lf Pat
variable {h : H}

theorem mayP_deep {q : Ptn} (h : mayP q = 0) {t : T} (ht : tree q.nodes.length q.nodes = some t) : t.deep ≤ 8 := by
  unfold mayP at h
  rw [ht] at h
  simp only at h
  split at h
  · cases h
  · split at h
    · cases h
    · split at h
      · cases h
      · split at h
        · cases h
        · omega

theorem shl_u64 {n : Nat} (h : n ≤ 32) : iopF .shl .u64 1 (n : Int) = ((2 ^ n : Nat) : Int) := by
  simp only [iopF, IntKind.bits, Int.toNat_natCast, Int.one_mul]
  rw [show min n 64 = n by omega]
  have : 2 ^ n ≤ 2 ^ 32 := Nat.pow_le_pow_right (by omega) h
  have e : (2 : Int) ^ n = ((2 ^ n : Nat) : Int) := by simp
  rw [e, IntKind.wrap_u64]
  generalize 2 ^ n = m at *
  omega

/-- Two edges of a row without pairs that are alike. -/
theorem pair_ne {E : List Edg} (hn : (E.map Edg.pair).Nodup) {i j : Nat} {x y : Edg} (hij : i < j) (hx : E[i]? = some x) (hy : E[j]? = some y) : ¬ (x.src = y.src ∧ x.dst = y.dst) := by
  intro ⟨e1, e2⟩
  have hjl := (List.getElem?_eq_some_iff.1 hy).1
  have hp : (E.map Edg.pair)[i]? = (E.map Edg.pair)[j]? := by
    rw [List.getElem?_map, List.getElem?_map, hx, hy]
    simp [Edg.pair, e1, e2]
  have := (List.getElem?_inj (by rw [List.length_map]; omega) hn).1 hp
  omega

theorem c_AutoRises (hj : JoinsOk) (hs : SortOk) {q : Ptn} {p : Option Addr} {n c : Nat} (r : RNodesR h p n c q.nodes) (hf : q.Fits) :
    Spec P n_law14_AutoRises #[.agg #[.slice p n c, .int .u64 q.window]] h fun v h' => Le h h' ∧ v = .bool true := by
  apply s_law14_AutoRises
  unfold f_law14_AutoRises
  refine (c_law11_Raw_Pattern r hf).mono fun v h5 ⟨l5, p', n', c', ev, r5, _⟩ => ⟨_, _, _, _, ev, ?_⟩
  have hl := r5.1
  have hcl := cut_len q
  have sm : ∀ x, x ∈ q.cut.nodes → Small x := fun x hx => (by have := cut_small q x hx; unfold Small; omega)
  have hwin : q.window = q.cut.window := rfl
  refine (c_ref11_Great r5 sm (by omega)).mono fun v h11 ⟨e11, g, ev⟩ => ⟨_, ev, fun _ => ?_, fun _ => ?_⟩
  · exact (c_fixed hj hs).mono fun v h14 ⟨l, ev⟩ => ⟨_, ev, l5.trans (e11 ▸ l), rfl⟩
  subst e11
  rw [hwin]
  refine (c_Compile hj hs r5 sm (by omega) (small_out sm)).mono fun v h17 ⟨l17, hA⟩ => ?_
  by_cases hm : mayP q.cut = 0
  case neg =>
    rw [if_pos hm] at hA
    exact ⟨_, _, _, _, _, _, _, _, _, hA, fun _ => (c_fixed hj hs).mono fun v h28 ⟨l28, ev⟩ => ⟨_, ev, l5.trans (l17.trans l28), rfl⟩, fun e => absurd (by simpa using e) hm⟩
  rw [if_neg (by simpa using hm)] at hA
  obtain ⟨t, ht, hfo, hp32, hA⟩ := hA
  by_cases h64 : 64 < (t.out 0).edges.length
  · rw [if_pos h64] at hA
    exact ⟨_, _, _, _, _, _, _, _, _, hA, fun _ => (c_fixed hj hs).mono fun v h28 ⟨l28, ev⟩ => ⟨_, ev, l5.trans (l17.trans l28), rfl⟩, fun e => (by simp at e)⟩
  rw [if_neg h64] at hA
  obtain ⟨M, s, E', ev, m, le, pm, so⟩ := hA
  obtain ⟨gd, g0⟩ := out_good t 0 hfo
  have fn := out_fine t 0 hfo
  have hlen := out_len t 0 hfo
  have hnp := m.np
  have hne := m.ne
  have hEl := pm.length_eq
  have wth : ∀ e, e ∈ E' → e.src < e.dst ∧ e.dst < t.places := fun e he => by
    have := gd.within e (pm.mem_iff.1 he); omega
  have hnd : (E'.map Edg.pair).Nodup := (pm.map _).nodup_iff.2 gd.once
  refine ⟨_, _, _, _, _, _, _, _, _, ev, fun e => (by simp at e), fun _ => ?_⟩
  refine ⟨fun k L h' => ∃ (i : Nat) (b : Bool), L = [.int .i64 (i : Int), .bool b] ∧ k + i = E'.length ∧ h' = h17, ⟨E'.length, 0, _, rfl, rfl, rfl⟩, ?_⟩
  rintro k x33 b34 h35 ⟨i, b, e, hk, rfl⟩
  simp only [List.cons.injEq, Value.int.injEq, Value.bool.injEq, true_and, and_true] at e
  obtain ⟨rfl, rfl⟩ := e
  refine ⟨fun hi => ?_, fun hi => ?_⟩
  · simp only [decide_eq_true_eq] at hi
    obtain ⟨e, he, hmem⟩ := get_lt (l := E') (i := i) (by omega)
    obtain ⟨w1, w2⟩ := wth e hmem
    obtain ⟨a, p0, n0, c0, ea, hb, k0, k1, k2, k3, k4, k5, _⟩ := m.edge he (x := (i : Int)) rfl
    have wd : IntKind.wrap .i64 (e.dst : Int) = (e.dst : Int) := wrap_i64_of (by omega) (by omega)
    have nge : decide ((e.src : Int) ≥ (e.dst : Int)) = false := by simp; omega
    have nge2 : decide ((IntKind.wrap .i64 (e.dst : Int)) ≥ ((s.np : Nat) : Int)) = false := by rw [wd, hnp, hlen]; simp; omega
    refine ⟨a, ea, hb, _, k0, _, k1, _, k2, _, k3, _, k4, _, _, _, k5, ?_⟩
    refine ⟨fun L h' => h' = h35 ∧ ∃ u, L = [.bool u, .bool false], ⟨fun e => (by rw [nge] at e; cases e), fun _ => ⟨fun e => (by rw [nge2] at e; cases e), fun _ => ⟨fun h0 => ?_, fun _ => ⟨rfl, _, rfl⟩⟩⟩⟩, ?_⟩
    · simp only [gt_iff_lt, decide_eq_true_eq] at h0
      have hi0 : 0 < i := by omega
      have wi : IntKind.wrap .i64 ((i : Int) - 1) = ((i - 1 : Nat) : Int) := by rw [wrap_i64_of (by omega) (by omega)]; omega
      obtain ⟨e', he', hmem'⟩ := get_lt (l := E') (i := i - 1) (by omega)
      have ord := so (i - 1) i e' e (by omega) he' he
      have pne := pair_ne hnd (show i - 1 < i by omega) he' he
      obtain ⟨a', p0', n0', c0', ea', hb', k0', k1', _⟩ := m.edge he' (x := IntKind.wrap .i64 ((i : Int) - 1)) wi
      rw [ea] at ea'
      obtain rfl : a = a' := by simpa using ea'
      unfold Pat.Edg.after at ord
      refine ⟨a, ea, hb', _, k0', fun e2 => (by simp only [gt_iff_lt, decide_eq_true_eq] at e2; omega), fun _ => ⟨a, ea, hb', _, k0', fun e2 => ⟨a, ea, hb', _, k1', ?_⟩, fun _ => ⟨rfl, _, rfl⟩⟩⟩
      simp only [decide_eq_true_eq] at e2
      have : decide ((e'.dst : Int) ≥ (e.dst : Int)) = false := by simp; omega
      rw [this]
      exact ⟨rfl, _, rfl⟩
    · rintro b52 b53 h54 ⟨rfl, u, e2⟩
      simp only [List.cons.injEq, Value.bool.injEq, and_true] at e2
      obtain ⟨rfl, rfl⟩ := e2
      exact ⟨fun e => (by cases e), fun _ => ⟨k - 1, by omega, i + 1, _, by rw [wrap_succ (by omega)], by omega, rfl⟩⟩
  · refine (c_ref11_Tree (r5.mono l17) (by omega)).mono fun v h56 hB => ?_
    obtain ⟨l56, row, ok, ev, ⟨ux, u1, u2, u3, u4, u5, u6, u7, u8, u9, rfl⟩, _, hyes⟩ := hB
    obtain ⟨hok, hTR⟩ := hyes t ht
    refine ⟨_, _, _, _, _, _, _, _, _, _, _, _, _, _, _, _, _, _, _, ev, ?_⟩
    have hcnt := tree_count _ _ _ ht
    have hdeep := mayP_deep hm ht
    have hc32 : t.count ≤ 32 := by have := (mayP_zero hm).1; omega
    have hpow : t.count * 8 ^ t.deep < 2 ^ 60 := by
      have h1 : 8 ^ t.deep ≤ 8 ^ 8 := Nat.pow_le_pow_right (by omega) hdeep
      have h2 : t.count * 8 ^ t.deep ≤ 32 * 8 ^ 8 := Nat.mul_le_mul hc32 h1
      exact Nat.lt_of_le_of_lt h2 (by decide)
    have b1 : (decide (((s.np : Nat) : Int) = (t.places : Int))) = true := by rw [hnp, hlen]; simp
    have b2 : (!decide (((t.out 0).first : Int) = 0)) = true := by have := gd.some; simp; exact this
    have b3 : (!decide (((t.out 0).last : Int) = 0)) = true := by simp; exact g0
    have hnp32 : s.np ≤ 32 := by omega
    have hpl : s.np = t.places := by omega
    have p32 : 2 ^ t.places ≤ 2 ^ 32 := Nat.pow_le_pow_right (by omega) hp32
    have f1 : (t.out 0).first < 2 ^ t.places := by have := fn.first; rwa [Nat.zero_add] at this
    have f2 : (t.out 0).last < 2 ^ t.places := by have := fn.last; rwa [Nat.zero_add] at this
    have w1 : IntKind.wrap .u64 ((t.out 0).first : Int) = ((t.out 0).first : Int) := by rw [IntKind.wrap_u64]; omega
    have w2 : IntKind.wrap .u64 ((t.out 0).last : Int) = ((t.out 0).last : Int) := by rw [IntKind.wrap_u64]; omega
    have b4 : (decide ((IntKind.wrap .u64 ((t.out 0).first : Int)) < (iopF .shl .u64 1 ((s.np : Nat) : Int)))) = true := by
      rw [w1, shl_u64 hnp32, hpl]; simp only [decide_eq_true_eq]; omega
    have b5 : (decide ((IntKind.wrap .u64 ((t.out 0).last : Int)) < (iopF .shl .u64 1 ((s.np : Nat) : Int)))) = true := by
      rw [w2, shl_u64 hnp32, hpl]; simp only [decide_eq_true_eq]; omega
    refine ⟨fun L h' => Le h h' ∧ ∃ c1 c2 c3 c4 c5, L = [.bool c1, .bool c2, .bool c3, .bool c4, .bool c5, .bool true], ?_, ?_⟩
    · refine (c_fixed hj hs).mono fun v h78 ⟨l78, ev⟩ => ⟨_, ev, fun _ => ?_, fun e => (by cases e)⟩
      refine (c_ref11_T_Places t (hTR.mono l78) hfo hpow (by omega) (tree_sized _ _ _ ht)).mono fun v h81 ⟨e81, ev⟩ => ⟨_, ev, ?_⟩
      refine ⟨fun _ => ⟨fun _ => ⟨fun _ => ⟨by simp, fun _ => ⟨by simp, ?_⟩, fun e => (by rw [b4] at e; cases e)⟩, fun e => (by rw [b3] at e; cases e)⟩, fun e => (by rw [b2] at e; cases e)⟩, fun e => (by rw [b1] at e; cases e)⟩
      rw [b5]
      exact ⟨(l5.trans l17).trans ((l56.trans l78).trans (e81 ▸ Le.refl _)), _, _, _, _, _, rfl⟩
    · rintro b83 b84 b85 b86 b87 b88 h89 ⟨le, d1, d2, d3, d4, d5, e⟩
      simp only [List.cons.injEq, Value.bool.injEq, and_true] at e
      obtain ⟨-, -, -, -, -, rfl⟩ := e
      exact ⟨le, rfl⟩
end Pt

