/- Layer 6: the document's functions over lists of pairs. -/
import Derived.Test.YtpdgjniflbglgaaDueFix
import Derived.Test.YtpdgjniflbglgaaLfSep
namespace DueP
open Go Lf
variable {h : H}

abbrev Pair := Int × Int

def gP (l : List Pair) (i : Nat) : Value := if i % 2 = 0 then .int .u64 (l.getD (i / 2) (0, 0)).1 else .int .u64 (l.getD (i / 2) (0, 0)).2

/-- A slice of pairs that owns its cells. -/
def Pairs (h : H) (p : Option Addr) (n c : Nat) (l : List Pair) : Prop := n = l.length ∧ Arr h 43 2 p n c (gP l)

theorem u33 : P.underlying 33 = some (.slice 43) := by kernel_rfl
theorem s43' : sizeO P 43 = some 2 := by kernel_rfl
theorem z43 : zeroOf P 43 = some (.agg #[.int .u64 0, .int .u64 0]) := by kernel_rfl
theorem b43 : (P.info? 43).map (·.bytes) = some 16 := by kernel_rfl

theorem Pairs.nil (h : H) : Pairs h none 0 0 [] := ⟨rfl, Arr.nilA h 43 2 _⟩
theorem Pairs.mono {h' : H} {p : Option Addr} {n c : Nat} {l : List Pair} (r : Pairs h p n c l) (le : Le h h') : Pairs h' p n c l := ⟨r.1, r.2.mono le⟩

theorem Pairs.at {p : Option Addr} {n c : Nat} {l : List Pair} (r : Pairs h p n c l) {i : Nat} (hi : i < n) :
    ∃ A, p = some ⟨A, 0, none⟩ ∧ cell h ⟨A, i * 2, none⟩ = some (.int .u64 (l.getD i (0, 0)).1) ∧ cell h ⟨A, i * 2 + 1, none⟩ = some (.int .u64 (l.getD i (0, 0)).2) := by
  cases p with
  | none => have h1 := r.2.nil rfl; have h2 := r.2.le; omega
  | some a =>
    obtain ⟨A, c, rfl, h1, h2, h3⟩ := r.2.arr a rfl
    refine ⟨A, rfl, ?_, ?_⟩
    · rw [cell_of h1, h3 (i * 2) (by omega)]; unfold gP; rw [if_pos (by omega), show i * 2 / 2 = i by omega]
    · rw [cell_of h1, h3 (i * 2 + 1) (by omega)]; unfold gP; rw [if_neg (by omega), show (i * 2 + 1) / 2 = i by omega]

theorem Pairs.push {p : Option Addr} {n c b mc : Nat} {l : List Pair} {x : Pair} {e : TypeId} {K : Value → H → Prop} (r : Pairs h p n c l) (hl : n < 2 ^ 40 - 1) (hb : h b = some (.cells #[.int .u64 x.1, .int .u64 x.2] e (0, 0)))
    (kk : ∀ h' p' c', Pairs h' p' (n + 1) c' (l ++ [x]) → KeepA p h h' → (∀ A, p' = some ⟨A, 0, none⟩ → p = some ⟨A, 0, none⟩ ∨ h A = none) → K (.slice p' (n + 1) c') h') :
    RunL P (X.sem (.bi .append #[33, 33] 33 [.slice p n c, .slice (some ⟨b, 0, none⟩) 1 mc])) h K := by
  refine append_run (bytes := 16) (y := fun i => if i = 0 then .int .u64 x.1 else .int .u64 x.2) u33 u33 s43' z43 rfl b43 (by omega) (by omega) r.2
    (.inr ⟨b, e, _, rfl, hb, by simp, fun i hi => by
      have : i = 0 ∨ i = 1 := by omega
      rcases this with rfl | rfl <;> rfl⟩) (fun i _ => by split <;> rfl) fun h' p' c' ha ka fr => kk h' p' c' ⟨by simp [r.1], ?_⟩ ka fr
  refine ⟨ha.le, ha.nil, fun a e => ?_⟩
  obtain ⟨A, c, e1, h1, h2, h3⟩ := ha.arr a e
  refine ⟨A, c, e1, h1, h2, fun i hi => ?_⟩
  rw [h3 i hi]
  have hlen := r.1
  unfold gP
  by_cases e2 : i < n * 2
  · rw [if_pos e2]
    have : (l ++ [x]).getD (i / 2) (0, 0) = l.getD (i / 2) (0, 0) := by
      simp only [List.getD_eq_getElem?_getD]; rw [List.getElem?_append_left (by omega)]
    rw [this]
  · rw [if_neg e2]
    have hx : (l ++ [x]).getD (i / 2) (0, 0) = x := by
      have : i / 2 = l.length := by omega
      rw [this]; simp
    rw [hx]
    by_cases e3 : i % 2 = 0
    · rw [if_pos (by omega), if_pos e3]
    · rw [if_neg (by omega), if_neg e3]

/-- Without a key. -/
def cutL (l : List Pair) (k : Int) : List Pair := l.filter fun x => !decide (x.1 = k)

theorem c21 {p : Option Addr} {n c : Nat} {l : List Pair} (r : Pairs h p n c l) (hn : n < 2 ^ 40 - 1) (k : Int) :
    Spec P 21 #[.slice p n c, .int .u64 k] h (fun v h' => ∃ p' n' c', v = .tuple #[.slice p' n' c', .bool (decide (n' < n))] ∧ Pairs h' p' n' c' (cutL l k) ∧ Le h h' ∧
      ∀ A off, p' = some ⟨A, off, none⟩ → h A = none) := by
  apply s21
  unfold f21
  intro n4 hn4 h5 e5
  have l5 : Le h h5 := e5 ▸ le_hnew hn4
  have hl := r.1
  refine ⟨fun k' l' h' => ∃ (i : Nat) (p' : Option Addr) (n' c' : Nat), l' = [.int .i64 i, .slice p' n' c'] ∧ k' + i = n ∧ Pairs h' p' n' c' (cutL (l.take i) k) ∧ Le h h' ∧ ∀ A off, p' = some ⟨A, off, none⟩ → h A = none,
    ⟨n, 0, _, 0, 0, rfl, rfl, ⟨rfl, ⟨Nat.le_refl _, fun e => (by cases e), fun a e => ⟨n4, _, (by simp at e; exact e.symm), by rw [e5, hnew_same], by simp, fun i hi => by omega⟩⟩⟩, l5, fun A off e => by
      simp only [blk_mk, add_mk, Option.some.injEq, Addr.mk.injEq] at e; rw [← e.1]; exact hn4⟩, ?_⟩
  rintro k' x9 p10 n11 n12 h13 ⟨i, p', n', c', e, hk, pr, le, fr⟩
  simp only [List.cons.injEq, Value.int.injEq, Value.slice.injEq, true_and, and_true] at e
  obtain ⟨rfl, rfl, rfl, rfl⟩ := e
  have hlen' : n11 ≤ i := by
    have h1 := pr.1
    have h2 : (cutL (l.take i) k).length ≤ (l.take i).length := List.length_filter_le _ _
    simp at h2; omega
  refine ⟨fun hi => ?_, fun hi => ?_⟩
  · simp only [decide_eq_true_eq] at hi
    have hin : i < n := by omega
    obtain ⟨A, e1, h1, h2⟩ := (r.mono le).at hin
    have tk : l.take (i + 1) = l.take i ++ [l.getD i (0, 0)] := by
      rw [List.take_add_one, List.getD_eq_getElem?_getD, List.getElem?_eq_getElem (by omega)]; rfl
    have wr : IntKind.i64.wrap ((i : Int) + 1) = ((i + 1 : Nat) : Int) := by rw [wrap_i64_of (by omega) (by omega)]; rfl
    rw [wr]
    refine jS ⟨_, e1, by omega, _, by simpa using h1, fun hc => ?_, fun hc => ?_⟩
    · simp only [Bool.not_eq_true', decide_eq_false_iff_not] at hc
      refine ⟨_, e1, by omega, _, by simpa using h1, _, by simpa using h2, fun n20 hn20 h21 e21 => ?_⟩
      have l21 : Le h13 h21 := e21 ▸ le_hnew hn20
      refine Pairs.push (x := l.getD i (0, 0)) (e := 43) (pr.mono l21) (by omega) (by rw [e21, hnew_same, List.getD_eq_getElem?_getD]) fun h23 p24 c24 pr24 ka fr24 => ⟨_, _, _, rfl, _, _, _, rfl, k' - 1, by omega, i + 1, _, _, _, rfl, by omega, ?_, ka.le (le.trans l21) fr, fun A off e => ?_⟩
      · have : cutL (l.take (i + 1)) k = cutL (l.take i) k ++ [l.getD i (0, 0)] := by
          rw [tk]; unfold cutL; rw [List.filter_append]; congr 1
          simp only [List.filter_cons, List.filter_nil]
          rw [if_pos (by simpa using hc)]
        rw [this]; exact pr24
      · obtain ⟨A', c', e', h3, _⟩ := pr24.2.arr _ e
        simp only [Addr.mk.injEq, and_true] at e'
        obtain ⟨rfl, rfl⟩ := e'
        rcases fr24 A e with h4 | h4
        · exact fr A 0 h4
        · cases hA : h A with
          | none => rfl
          | some o => rw [(le.trans l21) A o hA] at h4; cases h4
    · simp only [Bool.not_eq_false', decide_eq_true_eq] at hc
      refine ⟨_, _, _, rfl, k' - 1, by omega, i + 1, _, _, _, rfl, by omega, ?_, le, fr⟩
      have : cutL (l.take (i + 1)) k = cutL (l.take i) k := by
        rw [tk]; unfold cutL; rw [List.filter_append]
        simp only [List.filter_cons, List.filter_nil]
        rw [if_neg (by simpa using hc), List.append_nil]
      rw [this]; exact pr
  · simp only [decide_eq_false_iff_not] at hi
    have : l.take i = l := List.take_of_length_le (by omega)
    rw [this] at pr
    exact ⟨_, _, _, by congr 1; simp, pr, le, fr⟩

theorem c20 {p : Option Addr} {n c : Nat} {l : List Pair} (r : Pairs h p n c l) (hn : n < 2 ^ 40 - 1) (k t : Int) :
    Spec P 20 #[.slice p n c, .int .u64 k, .int .u64 t] h (fun v h' => ∃ p' n' c', v = .slice p' n' c' ∧ Pairs h' p' n' c' (cutL l k ++ [(k, t)]) ∧ Le h h' ∧ ∀ A off, p' = some ⟨A, off, none⟩ → h A = none) := by
  apply s20
  unfold f20
  refine (c21 r hn k).mono fun v h6 ⟨p', n', c', ev, pr, le, fr⟩ => ⟨_, _, _, _, ev, fun n11 hn11 h12 e12 => ?_⟩
  have l12 : Le h6 h12 := e12 ▸ le_hnew hn11
  have hlen : n' ≤ n := by
    have h1 := pr.1
    have h2 : (cutL l k).length ≤ l.length := List.length_filter_le _ _
    have := r.1
    omega
  refine Pairs.push (x := (k, t)) (e := 43) (pr.mono l12) (by omega) (by rw [e12, hnew_same]) fun h14 p14 c14 pr14 ka fr14 => ⟨_, _, _, rfl, _, _, _, rfl, pr14, ka.le (le.trans l12) fr, fun A off e => ?_⟩
  obtain ⟨A', c', e', h3, _⟩ := pr14.2.arr _ e
  simp only [Addr.mk.injEq, and_true] at e'
  obtain ⟨rfl, rfl⟩ := e'
  rcases fr14 A e with h4 | h4
  · exact fr A 0 h4
  · cases hA : h A with
    | none => rfl
    | some o => rw [(le.trans l12) A o hA] at h4; cases h4

def leP (x y : Pair) : Prop := x.2 < y.2 ∨ (x.2 = y.2 ∧ x.1 ≤ y.1)

theorem c15 {p : Option Addr} {n c : Nat} {l : List Pair} (r : Pairs h p n c l) (hn : n < 2 ^ 40 - 1) :
    Spec P 15 #[.slice p n c] h (fun v h' => h' = h ∧ ∃ b : Int, v = .int .i64 b ∧ ((b = -1 ∧ n = 0) ∨ ∃ i : Nat, b = i ∧ i < n ∧ ∀ j, j < n → leP (l.getD i (0, 0)) (l.getD j (0, 0)))) := by
  apply s15
  unfold f15
  refine ⟨fun k l' h' => h' = h ∧ ∃ (i : Nat) (b : Int), l' = [.int .i64 i, .int .i64 b] ∧ k + i = n ∧ ((b = -1 ∧ i = 0) ∨ ∃ m : Nat, b = m ∧ m < i ∧ ∀ j, j < i → leP (l.getD m (0, 0)) (l.getD j (0, 0))),
    ⟨n, rfl, 0, -1, rfl, rfl, .inl ⟨rfl, rfl⟩⟩, ?_⟩
  rintro k x6 x7 h8 ⟨rfl, i, b, e, hk, hb⟩
  simp only [List.cons.injEq, Value.int.injEq, true_and, and_true] at e
  obtain ⟨rfl, rfl⟩ := e
  refine ⟨fun hi => ?_, fun hi => ?_⟩
  · simp only [decide_eq_true_eq] at hi
    have hin : i < n := by omega
    obtain ⟨A, e1, h1, h2⟩ := r.at hin
    have wr : IntKind.i64.wrap ((i : Int) + 1) = ((i + 1 : Nat) : Int) := by rw [wrap_i64_of (by omega) (by omega)]; rfl
    rw [wr]
    have keep : (∃ m : Nat, x7 = m ∧ m < i ∧ (∀ j, j < i → leP (l.getD m (0, 0)) (l.getD j (0, 0))) ∧ leP (l.getD m (0, 0)) (l.getD i (0, 0))) →
        ∃ x, [Value.int .i64 x7] = [.int .i64 x] ∧ ∃ j5, j5 < k ∧ h8 = h8 ∧ ∃ (i' : Nat) (b : Int), [Value.int .i64 ((i + 1 : Nat) : Int), .int .i64 x] = [.int .i64 i', .int .i64 b] ∧ j5 + i' = n ∧
          ((b = -1 ∧ i' = 0) ∨ ∃ m : Nat, b = m ∧ m < i' ∧ ∀ j, j < i' → leP (l.getD m (0, 0)) (l.getD j (0, 0))) := by
      rintro ⟨m, rfl, hm, ha, hl⟩
      refine ⟨_, rfl, k - 1, by omega, rfl, i + 1, _, rfl, by omega, .inr ⟨m, rfl, by omega, fun j hj => ?_⟩⟩
      by_cases ej : j = i
      · subst ej; exact hl
      · exact ha j (by omega)
    have take : (∀ j, j < i → leP (l.getD i (0, 0)) (l.getD j (0, 0))) →
        ∃ x, [Value.int .i64 (i : Int)] = [.int .i64 x] ∧ ∃ j5, j5 < k ∧ h8 = h8 ∧ ∃ (i' : Nat) (b : Int), [Value.int .i64 ((i + 1 : Nat) : Int), .int .i64 x] = [.int .i64 i', .int .i64 b] ∧ j5 + i' = n ∧
          ((b = -1 ∧ i' = 0) ∨ ∃ m : Nat, b = m ∧ m < i' ∧ ∀ j, j < i' → leP (l.getD m (0, 0)) (l.getD j (0, 0))) := by
      intro ha
      refine ⟨_, rfl, k - 1, by omega, rfl, i + 1, _, rfl, by omega, .inr ⟨i, rfl, by omega, fun j hj => ?_⟩⟩
      by_cases ej : j = i
      · subst ej; unfold leP; omega
      · exact ha j (by omega)
    refine jI (jBB ⟨fun hc => ?_, fun hc => ?_⟩)
    · simp only [decide_eq_true_eq] at hc
      refine ⟨_, _, rfl, fun _ => take fun j hj => ?_, by simp⟩
      rcases hb with ⟨_, h0⟩ | ⟨m, hm, _⟩ <;> omega
    · simp only [decide_eq_false_iff_not] at hc
      obtain ⟨m, rfl, hm, ha⟩ : ∃ m : Nat, x7 = m ∧ m < i ∧ ∀ j, j < i → leP (l.getD m (0, 0)) (l.getD j (0, 0)) := by
        rcases hb with ⟨h1, _⟩ | h
        · omega
        · exact h
      obtain ⟨A', e1', h1', h2'⟩ := r.at (show m < n by omega)
      have bi : (0 : Int) ≤ (i : Int) ∧ (i : Int) < (n : Int) := by omega
      have bm : (0 : Int) ≤ (m : Int) ∧ (m : Int) < (n : Int) := by omega
      refine ⟨_, e1, bi, _, by simpa using h2, _, e1', bm, _, by simpa using h2', fun hlt => ?_, fun hge => ?_⟩
      · simp only [decide_eq_true_eq] at hlt
        refine ⟨_, _, rfl, fun _ => take fun j hj => ?_, by simp⟩
        have := ha j hj
        unfold leP at *; simp only [List.getD_eq_getElem?_getD] at *; omega
      · simp only [decide_eq_false_iff_not] at hge
        refine ⟨_, e1, bi, _, by simpa using h2, _, e1', bm, _, by simpa using h2', fun heq => ?_, fun hne => ?_⟩
        · simp only [decide_eq_true_eq] at heq
          refine ⟨_, e1, bi, _, by simpa using h1, _, e1', bm, _, by simpa using h1', _, _, rfl, fun hk2 => ?_, fun hk2 => ?_⟩
          · simp only [decide_eq_true_eq] at hk2
            refine take fun j hj => ?_
            have := ha j hj
            unfold leP at *; simp only [List.getD_eq_getElem?_getD] at *; omega
          · simp only [decide_eq_false_iff_not] at hk2
            refine keep ⟨m, rfl, hm, ha, ?_⟩
            unfold leP; simp only [List.getD_eq_getElem?_getD] at *; omega
        · simp only [decide_eq_false_iff_not] at hne
          refine ⟨_, _, rfl, by simp, fun _ => keep ⟨m, rfl, hm, ha, ?_⟩⟩
          unfold leP; simp only [List.getD_eq_getElem?_getD] at *; omega
  · simp only [decide_eq_false_iff_not] at hi
    have : i = n := by omega
    subst this
    exact ⟨rfl, _, rfl, hb⟩
end DueP
