/- Layer 6: the list of what is due when: its functions. -/
import Derived.Test.YtpdgjniflbglgaaDueOps
namespace DueP
open Go Lf
variable {h : H} {d : Nat} {mv : Value} {N n : Nat} {f : Nat → E} {sp : Option Nat} {cap : Nat}

theorem snoc_n (f : Nat → E) (n : Nat) (e : E) : snoc f n e n = e := if_pos rfl
theorem snoc_ne (f : Nat → E) {n i : Nat} (e : E) (h : i ≠ n) : snoc f n e i = f i := if_neg h

theorem c18 (r : Row h d mv n f sp cap) (hN : n < 2 ^ 40 - 1) (hp : Heap n f) {e : E} {pl : Int} (he : h e.b = some (.cells #[.int .u64 e.k, .int .u64 e.t, .int .i64 pl] 55 (0, 0))) (hne : ∀ i, i < n → (f i).b ≠ e.b) :
    Spec P 18 #[rowPtr d, .iface 52 (.pointer (some ⟨e.b, 0, none⟩))] h
      (fun v h' => v = .tuple #[] ∧ ∃ f' sp' cap', Row h' d mv (n + 1) f' sp' cap' ∧ KeepM h h' ∧ PermE (n + 1) (snoc f n e) f' ∧ Heap (n + 1) f') := by
  apply s18 (a0 := ⟨d, 0, none⟩)
  unfold f18
  refine (c49 r hN he hne).mono fun v h1 ⟨ev, ⟨sp', cap', r1⟩, k1⟩ => ⟨ev, _, _, _, r1.cell0, ?_⟩
  refine (c42 _ _ _ h1).mono fun v h2 ⟨ev, e2⟩ => ⟨_, ev, ?_⟩
  subst e2
  have hw : IntKind.i64.wrap (((n + 1 : Nat) : Int) - 1) = (n : Int) := by rw [wrap_i64_of (by omega) (by omega)]; omega
  rw [hw]
  have u : UpOk (n + 1) (snoc f n e) n := ⟨fun c h1 h2 h3 => by
    rw [snoc_ne _ _ h3, snoc_ne _ _ (by omega)]; exact hp c h1 (by omega), fun c h1 h2 h3 h4 => by omega⟩
  exact (c24 r1 (Nat.le_refl _) (by omega) (by omega) u).mono fun v h3 ⟨f', ev, r', k', pm, hp'⟩ => ⟨ev, rfl, f', sp', cap', r', k1.trans k', pm, hp'⟩

theorem PermE.succ {n : Nat} {f g : Nat → E} (p : PermE n f g) : PermE (n + 1) f g where
  to x hx := by
    by_cases e : x = n
    · subst e; exact ⟨x, hx, p.out x (Nat.le_refl _)⟩
    · obtain ⟨y, h1, h2⟩ := p.to x (by omega); exact ⟨y, by omega, h2⟩
  fro x hx := by
    by_cases e : x = n
    · subst e; exact ⟨x, hx, (p.out x (Nat.le_refl _)).symm⟩
    · obtain ⟨y, h1, h2⟩ := p.fro x (by omega); exact ⟨y, by omega, h2⟩
  out x hx := p.out x (by omega)

theorem Heap.drop {n : Nat} {f : Nat → E} (h : Heap (n + 1) f) : Heap n f := fun c h1 h2 => h c h1 (by omega)

theorem c25 (r : Row h d mv (n + 1) f sp cap) (hN : n < 2 ^ 40 - 1) (hp : Heap (n + 1) f) {i : Nat} (hi : i < n + 1) :
    Spec P 25 #[rowPtr d, .int .i64 i] h (fun _ h' => ∃ f', Row h' d mv n f' sp cap ∧ KeepM h h' ∧ PermE (n + 1) f f' ∧ f' n = f i ∧ Heap n f' ∧ ∀ x, x < n → (f' x).b ≠ (f i).b) := by
  apply s25 (a0 := ⟨d, 0, none⟩)
  unfold f25
  refine ⟨_, _, _, r.cell0, (c42 _ _ _ h).mono fun v h1 ⟨ev, e1⟩ => ⟨_, ev, ?_⟩⟩
  subst e1
  have hw : IntKind.i64.wrap (((n + 1 : Nat) : Int) - 1) = (n : Int) := by rw [wrap_i64_of (by omega) (by omega)]; omega
  rw [hw]
  -- what Pop leaves
  have pop : ∀ {h2 : H} {f2 : Nat → E}, Row h2 d mv (n + 1) f2 sp cap → KeepM h1 h2 → PermE (n + 1) f f2 → f2 n = f i → Heap n f2 →
      Spec P 48 #[.pointer (some ⟨d, 0, none⟩)] h2 (fun v20 h21 => ∃ v22 : Value, v20 = v22 ∧ ∃ f', Row h21 d mv n f' sp cap ∧ KeepM h1 h21 ∧ PermE (n + 1) f f' ∧ f' n = f i ∧ Heap n f' ∧ ∀ x, x < n → (f' x).b ≠ (f i).b) := by
    intro h2 f2 r2 k2 p2 e2 hp2
    exact (c48 r2 (by omega)).mono fun v h3 ⟨_, r3, k3, _⟩ => ⟨v, rfl, f2, r3, k2.trans k3, p2, e2, hp2, fun x hx e => by rw [← e2] at e; have := r2.inj x n (by omega) (by omega) e; omega⟩
  refine jN ⟨fun hc => ?_, fun hc => ?_⟩
  · simp only [Bool.not_eq_true', decide_eq_false_iff_not] at hc
    have hin : i < n := by omega
    refine ⟨_, _, _, r.cell0, (c44 r (show i < n + 1 by omega) (show n < n + 1 by omega) (by omega)).mono fun v h2 ⟨ev, r2, k2⟩ => ⟨ev, ?_⟩⟩
    have e2 : swapF f i n n = f i := swapF_j _ _ _
    have u : DownOk n (swapF f i n) i i := by
      refine FixOk.down ⟨fun c h1 h2 h3 h4 => ?_, fun c h1 h2 h3 h4 => ?_⟩
      · rw [swapF_ne f h3 (by omega), swapF_ne f h4 (by omega)]; exact hp c h1 (by omega)
      · rw [swapF_ne f (by omega) (by omega), swapF_ne f (by omega) (by omega)]
        exact (hp i h4 (by omega)).trans (h3 ▸ hp c h1 (by omega))
    refine (c23 r2 (show n ≤ n + 1 by omega) (by omega) hin u).mono fun v h3 ⟨f3, m, ev, r3, k3, p3, q1, q2⟩ => ⟨m, ev, fun hm => ?_, fun hm => ?_⟩
    · simp only [Bool.not_eq_true'] at hm
      refine (c24 r3 (show n ≤ n + 1 by omega) (by omega) hin (q2 hm)).mono fun v h4 ⟨f4, ev, r4, k4, p4, hp4⟩ => ⟨ev, rfl, ?_⟩
      have pp := p3.trans p4
      exact pop r4 ((k2.trans k3).trans k4) ((PermE.swap f (by omega) (by omega)).trans pp.succ) ((pp.out n (Nat.le_refl _)).trans e2) hp4
    · simp only [Bool.not_eq_false'] at hm
      exact ⟨rfl, pop r3 (k2.trans k3) ((PermE.swap f (by omega) (by omega)).trans p3.succ) ((p3.out n (Nat.le_refl _)).trans e2) (q1 hm)⟩
  · simp only [Bool.not_eq_false', decide_eq_true_eq] at hc
    have : i = n := by omega
    subst this
    exact ⟨rfl, pop r (KeepM.refl _) (PermE.refl _ _) rfl hp.drop⟩
end DueP
