/- Layer 6: the law DueOrder over partial heaps. -/
import Derived.Test.YtpdgjniflbglgaaDueFix
import Derived.Test.YtpdgjniflbglgaaLfSep
namespace DueP
open Go Lf

/-- A row of numbers that is handed in. -/
def NumsR (h : H) (p : Option Addr) (n : Nat) (xs : List Int) : Prop :=
  n = xs.length ∧ ∀ i : Nat, i < n → ∃ a, p = some a ∧ cell h ((aidx a 0 i 1).add 0) = some (.int .u64 (xs.getD i 0))

theorem NumsR.mono {h h' : H} {p : Option Addr} {n : Nat} {xs : List Int} (r : NumsR h p n xs) (l : Le h h') : NumsR h' p n xs :=
  ⟨r.1, fun i hi => let ⟨a, e, c⟩ := r.2 i hi; ⟨a, e, cell_le l c⟩⟩

theorem Takes.sub {now : Int} {M M' : Int → Option Int} {ks : List Int} (t : Takes now M ks M') : ∀ k x, M' k = some x → M k = some x := by
  induction t with
  | done h => exact fun k x e => e
  | step f hl r ih =>
    intro k x e
    have := ih k x e
    unfold upd at this
    split at this
    · cases this
    · exact this

theorem Takes.left {now : Int} {M M' : Int → Option Int} {ks : List Int} (t : Takes now M ks M') : ∀ k x, M' k = some x → now < x := by
  induction t with
  | done h => exact h
  | step f hl r ih => exact ih

theorem Dues.zero {h : H} {d : Nat} {M : Int → Option Int} {n : Nat} (r : Dues h d M n) (hM : ∀ k, M k = none) : n = 0 := by
  obtain ⟨m, f, sp, cap, get, _, _, _, _, _, m1, _⟩ := r
  rcases Nat.eq_zero_or_pos n with h0 | h0
  · exact h0
  · have := m1 0 h0; rw [hM] at this; cases this

/-- What was set in the places from lo to hi. -/
def part (xs : List Int) (lo hi : Nat) : Int → Option Int := fun k => if (lo : Int) ≤ k ∧ k < (hi : Int) then some (xs.getD k.toNat 0) else none

theorem part_up (xs : List Int) (i : Nat) : upd (part xs 0 i) i (some (xs.getD i 0)) = part xs 0 (i + 1) := by
  funext k
  unfold upd part
  by_cases h : k = (i : Int)
  · subst h; rw [if_pos rfl, if_pos (by omega)]; rfl
  · rw [if_neg h]
    by_cases h2 : ((0 : Nat) : Int) ≤ k ∧ k < (i : Int)
    · rw [if_pos h2, if_pos (by omega)]
    · rw [if_neg h2, if_neg (by omega)]

theorem part_down (xs : List Int) (i n : Nat) (hi : i < n) : upd (part xs (i + 1) n) i (some (xs.getD i 0)) = part xs i n := by
  funext k
  unfold upd part
  by_cases h : k = (i : Int)
  · subst h; rw [if_pos rfl, if_pos (by omega)]; rfl
  · rw [if_neg h]
    by_cases h2 : (((i + 1 : Nat)) : Int) ≤ k ∧ k < (n : Int)
    · rw [if_pos h2, if_pos (by omega)]
    · rw [if_neg h2, if_neg (by omega)]

theorem part_none (xs : List Int) (i : Nat) (k : Int) : part xs i i k = none := by
  unfold part; rw [if_neg (by omega)]

theorem dueOrder {h : H} {p : Option Addr} {n c : Nat} {xs : List Int} (r : NumsR h p n xs) (hx : ∀ i, i < n → xs.getD i 0 < 18446744073709551616) (now : Int) :
    Spec P 3 #[.slice p n c, .int .u64 now] h (fun v h' => v = .bool true ∧ Le h h') := by
  apply s3
  unfold f3
  refine ((S3.start h).onX (c6 _)).mono fun v h5 ⟨X, s5, a, ev, dA, _⟩ => ⟨_, ev, ?_⟩
  refine (s5.onY (c6 _)).mono fun v h8 ⟨Y, s8, b, ev, dB, _⟩ => ⟨_, ev, ?_⟩
  refine jBBB ⟨fun h => (by cases h), fun _ => ⟨fun h => (by cases h), fun _ => ⟨_, _, _, rfl, fun _ => ?_, fun hc => ?_⟩⟩⟩
  · refine jBBB ⟨fun _ => ⟨fun _ => ?_, fun h => (by simp at h)⟩, fun h => (by simp at h)⟩
    exact (c7 h8).mono fun v h17 ⟨ev, l⟩ => ⟨true, ev, _, _, _, rfl, rfl, s8.leR.trans l⟩
  simp only [decide_eq_false_iff_not, Int.not_lt, gt_iff_lt] at hc
  have hn300 : n ≤ 300 := by omega
  refine ⟨fun k l h' => ∃ (i : Nat) (X : H), l = [.int .i64 i] ∧ k + i = n ∧ S3 h' X Y h ∧ Dues X a (part xs 0 i) i, ⟨n, 0, X, rfl, rfl, s8, ?_⟩, ?_⟩
  · have e0 : (fun _ => none) = part xs 0 0 := by funext k; rw [part_none]
    rw [← e0]; exact dA
  rintro k x26 h27 ⟨i, X, e, hk, s27, dA⟩
  simp only [List.cons.injEq, Value.int.injEq, true_and, and_true] at e
  subst e
  refine ⟨fun hi => ?_, fun hi => ?_⟩
  · simp only [decide_eq_true_eq] at hi
    obtain ⟨ad, e1, h1⟩ := r.2 i (by omega)
    rw [wrap_u64_of (by omega) (by omega)]
    refine ⟨ad, e1, by omega, _, cell_le s27.leR h1, ?_⟩
    refine (s27.onX (c8 dA (by omega) i (xs.getD i 0))).mono fun v h31 ⟨X', s31, ev, d31⟩ => ⟨ev, k - 1, by omega, i + 1, X', by rw [wrap_i64_of (by omega) (by omega)]; rfl, by omega, s31, ?_⟩
    rw [part_up] at d31
    have : (part xs 0 i (i : Int)).isSome = false := by unfold part; rw [if_neg (by omega)]; rfl
    rw [this] at d31; exact d31
  simp only [decide_eq_false_iff_not] at hi
  have hin : i = n := by omega
  subst hin
  refine ⟨fun k l h' => ∃ (j : Nat) (Y : H), l = [.int .i64 ((j : Int) - 1)] ∧ k = j ∧ j ≤ i ∧ S3 h' X Y h ∧ Dues Y b (part xs j i) (i - j), ⟨i, i, Y, by rw [wrap_i64_of (by omega) (by omega)], rfl, Nat.le_refl _, s27, ?_⟩, ?_⟩
  · have e0 : (fun _ => none) = part xs i i := by funext k; rw [part_none]
    rw [← e0, Nat.sub_self]; exact dB
  rintro k2 x35 h36 ⟨j, Y, e, rfl, hj, s36, dB⟩
  simp only [List.cons.injEq, Value.int.injEq, true_and, and_true] at e
  subst e
  refine ⟨fun hi => ?_, fun hi => ?_⟩
  · simp only [decide_eq_true_eq] at hi
    obtain ⟨j', rfl⟩ : ∃ j', k2 = j' + 1 := ⟨k2 - 1, by omega⟩
    have ej : ((j' + 1 : Nat) : Int) - 1 = (j' : Int) := by omega
    rw [ej]
    obtain ⟨ad, e1, h1⟩ := r.2 j' (by omega)
    rw [wrap_u64_of (by omega) (by omega)]
    refine ⟨ad, e1, by omega, _, cell_le s36.leR h1, ?_⟩
    refine (s36.onY (c8 dB (by omega) j' (xs.getD j' 0))).mono fun v h40 ⟨Y', s40, ev, d40⟩ => ⟨ev, j', by omega, j', Y', by rw [wrap_i64_of (by omega) (by omega)], rfl, by omega, s40, ?_⟩
    rw [part_down xs j' i (by omega)] at d40
    have : (part xs (j' + 1) i (j' : Int)).isSome = false := by unfold part; rw [if_neg (by omega)]; rfl
    rw [this] at d40
    have e2 : i - (j' + 1) + 1 = i - j' := by omega
    simp only [Bool.false_eq_true, if_false] at d40
    rw [e2] at d40; exact d40
  simp only [decide_eq_false_iff_not] at hi
  have hj0 : k2 = 0 := by omega
  subst hj0
  refine (s36.onX (c7 X)).mono fun v h42 ⟨X2, s42, ev, lX⟩ => ⟨_, ev, ?_⟩
  refine jBBBB ⟨fun _ => ?_, fun h => by cases h⟩
  refine (s42.onX (c10' (dA.mono lX) (by omega) now)).mono fun v h46 ⟨X3, s46, p1, len1, cap1, ks1, M1, n1, ev, ns1, d1, t1, hl1, kt1⟩ => ⟨_, _, _, ev, ?_⟩
  refine (s46.onY (c10' dB (by omega) now)).mono fun v h51 ⟨Y3, s51, p2, len2, cap2, ks2, M2, n2, ev, ns2, d2, t2, hl2, kt2⟩ => ⟨_, _, _, ev, ?_⟩
  obtain ⟨rfl, rfl⟩ := t1.uniq t2
  refine (c9 (ns1.mono s51.leX) (ns2.mono s51.leY) (by have := ns1.1; omega)).mono fun v h56 ⟨ev, e56⟩ => ⟨_, ev, fun _ => ?_, fun h => by simp at h⟩
  subst e56
  refine (s51.onX (c10' d1 (by omega) 18446744073709551615)).mono fun v h59 ⟨X4, s59, p3, len3, cap3, ks3, M3, n3, ev, ns3, d3, t3, hl3, kt3⟩ => ⟨_, _, _, ev, ?_⟩
  refine (s59.onY (c10' d2 (by omega) 18446744073709551615)).mono fun v h64 ⟨Y4, s64, p4, len4, cap4, ks4, M4, n4, ev, ns4, d4, t4, hl4, kt4⟩ => ⟨_, _, _, ev, ?_⟩
  obtain ⟨rfl, rfl⟩ := t3.uniq t4
  refine (c9 (ns3.mono s64.leX) (ns4.mono s64.leY) (by have := ns3.1; omega)).mono fun v h69 ⟨ev, e69⟩ => ⟨_, ev, fun _ => ?_, fun h => by simp at h⟩
  subst e69
  have z : n3 = 0 := d3.zero fun k => by
    cases hM : M3 k with
    | none => rfl
    | some t =>
      have h1 := t3.left k t hM
      have h2 := t1.sub k t (t3.sub k t hM)
      unfold part at h2
      split at h2
      · rename_i hk
        have := hx k.toNat (by omega)
        have := Option.some.inj h2
        omega
      · cases h2
  refine (c11 (d3.mono s64.leX)).mono fun v h72 ⟨ev, e72⟩ => ⟨_, ev, _, _, _, _, rfl, by simp [z], by rw [e72]; exact s64.leR⟩
end DueP
