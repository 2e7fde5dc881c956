/- Layer 6: container/heap over the rows: down, Fix. -/
import Derived.Test.YtpdgjniflbglgaaDueOrd
namespace DueP
open Go Lf
variable {h : H} {d : Nat} {mv : Value} {N n : Nat} {f : Nat → E} {sp : Option Nat} {cap : Nat}

theorem j1_eq {i : Nat} (hb : i < 2 ^ 40) : IntKind.i64.wrap (IntKind.i64.wrap (2 * (i : Int)) + 1) = ((2 * i + 1 : Nat) : Int) := by
  rw [wrap_i64_of (n := 2 * (i : Int)) (by omega) (by omega), wrap_i64_of (by omega) (by omega)]; omega

theorem j2_eq {i : Nat} (hb : i < 2 ^ 40) : IntKind.i64.wrap (IntKind.i64.wrap (IntKind.i64.wrap (2 * (i : Int)) + 1) + 1) = ((2 * i + 2 : Nat) : Int) := by
  rw [j1_eq hb, wrap_i64_of (by omega) (by omega)]; omega

theorem c23 (r : Row h d mv N f sp cap) (hnN : n ≤ N) (hN : N < 2 ^ 40) {i0 : Nat} (hi : i0 < n) (u : DownOk n f i0 i0) :
    Spec P 23 #[rowPtr d, .int .i64 i0, .int .i64 n] h (fun v h' => ∃ f' m, v = .bool m ∧ Row h' d mv N f' sp cap ∧ KeepM h h' ∧ PermE n f f' ∧ (m = true → Heap n f') ∧ (m = false → UpOk n f' i0)) := by
  apply s23 (a0 := ⟨d, 0, none⟩)
  unfold f23
  refine jI ⟨fun k l h' => ∃ (i : Nat) (f' : Nat → E), l = [.int .i64 i] ∧ k + i = n ∧ i0 ≤ i ∧ i < n ∧ Row h' d mv N f' sp cap ∧ KeepM h h' ∧ PermE n f f' ∧ DownOk n f' i i0,
    ⟨n - i0, i0, f, rfl, by omega, Nat.le_refl _, hi, r, KeepM.refl h, PermE.refl n f, u⟩, ?_⟩
  rintro k x h8 ⟨i, f', e, hk, h0i, hin, r', km, pm, u'⟩
  simp only [List.cons.injEq, Value.int.injEq, true_and, and_true] at e
  subst e
  have b40 : i < 2 ^ 40 := by omega
  rw [j2_eq b40, j1_eq b40]
  -- what comes behind the loop
  have exit : ∀ {h' : H} {f'' : Nat → E} {i : Nat}, i0 ≤ i → Row h' d mv N f'' sp cap → KeepM h h' → PermE n f f'' → (i ≠ i0 → Heap n f'') → (i = i0 → UpOk n f'' i0) →
      ∃ f' m, Value.bool (decide ((i : Int) > (i0 : Int))) = .bool m ∧ Row h' d mv N f' sp cap ∧ KeepM h h' ∧ PermE n f f' ∧ (m = true → Heap n f') ∧ (m = false → UpOk n f' i0) := by
    intro h' f'' i h0 r k p a b
    refine ⟨f'', _, rfl, r, k, p, fun hm => a ?_, fun hm => b ?_⟩
    · simp only [decide_eq_true_eq] at hm; omega
    · simp only [decide_eq_false_iff_not] at hm; omega
  refine jBB ⟨fun hc => ?_, fun hc => ?_⟩
  · simp only [decide_eq_true_eq] at hc
    refine ⟨_, _, rfl, fun _ => ⟨_, rfl, ?_⟩, by simp⟩
    have dn := u'.done fun c h1 h2 h3 => by omega
    exact exit h0i r' km pm dn.1 dn.2
  · simp only [decide_eq_false_iff_not] at hc
    have hj1 : 2 * i + 1 < n := by omega
    refine ⟨_, _, rfl, fun hb => ?_, fun _ => ?_⟩
    · simp only [decide_eq_true_eq] at hb; omega
    -- the smaller child
    have child : ∀ {h' : H} {j : Nat}, Le h8 h' → (j = 2 * i + 1 ∨ j = 2 * i + 2) → j < n → (∀ c, 0 < c → c < n → (c - 1) / 2 = i → leE (f' j) (f' c)) →
        ∃ p26 n27 n28, cell h' ((⟨d, 0, none⟩ : Addr).add 0) = some (.slice p26 n27 n28) ∧ Spec P 43 #[(.slice p26 n27 n28), (.int .i64 j), (.int .i64 i)] h' (fun v29 h30 =>
          ∃ b31 : Bool, v29 = (.bool b31) ∧ (((!b31) = true → ∃ x : Int, [Value.int .i64 i] = [.int .i64 x] ∧
              ∃ f' m, Value.bool (decide (x > (i0 : Int))) = .bool m ∧ Row h30 d mv N f' sp cap ∧ KeepM h h30 ∧ PermE n f f' ∧ (m = true → Heap n f') ∧ (m = false → UpOk n f' i0)) ∧
            ((!b31) = false → ∃ p32 n33 n34, cell h30 ((⟨d, 0, none⟩ : Addr).add 0) = some (.slice p32 n33 n34) ∧ Spec P 44 #[(.slice p32 n33 n34), (.int .i64 i), (.int .i64 j)] h30 (fun v35 h36 =>
              v35 = (.tuple #[]) ∧ (∃ j6 : Nat, j6 < k ∧ ∃ (i : Nat) (f' : Nat → E), [Value.int .i64 (j : Int)] = [.int .i64 i] ∧ j6 + i = n ∧ i0 ≤ i ∧ i < n ∧ Row h36 d mv N f' sp cap ∧ KeepM h h36 ∧ PermE n f f' ∧ DownOk n f' i i0))))) := by
      intro h' j l hj hjn hm
      have rl := r'.mono l
      refine ⟨_, _, _, rl.cell0, ?_⟩
      refine (c43 rl (show j < N by omega) (show i < N by omega)).mono fun v h12 ⟨ev, l12⟩ => ⟨_, ev, fun hb => ?_, fun hb => ?_⟩
      · simp only [Bool.not_eq_true'] at hb
        have dn := u'.done fun c h1 h2 h3 => (notless_le hb).trans (hm c h1 h2 h3)
        exact ⟨_, rfl, exit h0i (rl.mono l12) ((km.trans l.keepM).trans l12.keepM) pm dn.1 dn.2⟩
      · simp only [Bool.not_eq_false'] at hb
        have r12 := rl.mono l12
        refine ⟨_, _, _, r12.cell0, ?_⟩
        refine (c44 r12 (show i < N by omega) (show j < N by omega) (by omega)).mono fun v h21 ⟨ev, r21, k21⟩ => ⟨ev, n - j, by omega, j, _, rfl, by omega, by omega, hjn, r21,
          ((km.trans l.keepM).trans l12.keepM).trans k21, pm.trans (PermE.swap f' (by omega) (by omega)), u'.step h0i hj hjn hm (less_le hb)⟩
    refine jI (jBB ⟨fun hc2 => ?_, fun hc2 => ?_⟩)
    · simp only [decide_eq_true_eq] at hc2
      have hj2 : 2 * i + 2 < n := by omega
      refine ⟨_, _, _, r'.cell0, ?_⟩
      refine (c43 r' (show 2 * i + 2 < N by omega) (show 2 * i + 1 < N by omega)).mono fun v h12 ⟨ev, l12⟩ => ⟨_, ev, _, _, rfl, fun hb => ?_, fun hb => ?_⟩
      · exact ⟨_, rfl, child l12 (.inr rfl) hj2 fun c h1 h2 h3 => by
          have : c = 2 * i + 1 ∨ c = 2 * i + 2 := by omega
          rcases this with rfl | rfl
          · exact less_le hb
          · exact leE.refl _⟩
      · exact ⟨_, rfl, child l12 (.inl rfl) hj1 fun c h1 h2 h3 => by
          have : c = 2 * i + 1 ∨ c = 2 * i + 2 := by omega
          rcases this with rfl | rfl
          · exact leE.refl _
          · exact notless_le hb⟩
    · simp only [decide_eq_false_iff_not] at hc2
      exact ⟨_, _, rfl, by simp, fun _ => ⟨_, rfl, child (Le.refl _) (.inl rfl) hj1 fun c h1 h2 h3 => by
        have : c = 2 * i + 1 := by omega
        subst this; exact leE.refl _⟩⟩

/-- The order but for one place, whose value was changed. -/
structure FixOk (n : Nat) (f : Nat → E) (i : Nat) : Prop where
  a : ∀ c, 0 < c → c < n → (c - 1) / 2 ≠ i → c ≠ i → leE (f ((c - 1) / 2)) (f c)
  b : ∀ c, 0 < c → c < n → (c - 1) / 2 = i → 0 < i → leE (f ((i - 1) / 2)) (f c)

theorem FixOk.down {i : Nat} (u : FixOk n f i) : DownOk n f i i := ⟨fun c h1 h2 h3 h4 => u.a c h1 h2 h3 fun e => h4 e rfl, u.b⟩

theorem c42 (p : Option Addr) (n c : Nat) (h : H) : Spec P 42 #[.slice p n c] h (fun v h' => v = .int .i64 n ∧ h' = h) := by
  apply s42; exact ⟨rfl, rfl⟩

theorem c17 (r : Row h d mv N f sp cap) (hN : N < 2 ^ 40) {i : Nat} (hi : i < N) (u : FixOk N f i) :
    Spec P 17 #[rowPtr d, .int .i64 i] h (fun v h' => ∃ f', v = .tuple #[] ∧ Row h' d mv N f' sp cap ∧ KeepM h h' ∧ PermE N f f' ∧ Heap N f') := by
  apply s17 (a0 := ⟨d, 0, none⟩)
  unfold f17
  refine ⟨_, _, _, r.cell0, (c42 _ _ _ h).mono fun v h1 ⟨e, e1⟩ => ⟨_, e, ?_⟩⟩
  subst e1
  refine (c23 r (Nat.le_refl _) hN hi u.down).mono fun v h2 ⟨f', m, ev, r', km, pm, h1, h2⟩ => ⟨m, ev, fun hm => ?_, fun hm => ?_⟩
  · simp only [Bool.not_eq_true'] at hm
    exact (c24 r' (Nat.le_refl _) hN hi (h2 hm)).mono fun v h3 ⟨f'', ev, r'', km', pm', hp⟩ => ⟨ev, f'', rfl, r'', km.trans km', pm.trans pm', hp⟩
  · simp only [Bool.not_eq_false'] at hm
    exact ⟨f', rfl, r', km, pm, h1 hm⟩
end DueP
