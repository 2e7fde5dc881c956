/- Layer 6: the order of a heap, in plain Lean. -/
import Derived.Test.YtpdgjniflbglgaaDueRow
namespace DueP
open Go Lf

def leE (x y : E) : Prop := x.t < y.t ∨ (x.t = y.t ∧ x.k ≤ y.k)

theorem leE.trans {x y z : E} (a : leE x y) (b : leE y z) : leE x z := by unfold leE at *; omega
theorem leE.refl (x : E) : leE x x := by unfold leE; omega
theorem less_le {x y : E} (h : lessE x y = true) : leE x y := by
  simp only [lessE, Bool.or_eq_true, Bool.and_eq_true, decide_eq_true_eq] at h; unfold leE; omega
theorem notless_le {x y : E} (h : lessE x y = false) : leE y x := by
  simp only [lessE, Bool.or_eq_false_iff, Bool.and_eq_false_iff, decide_eq_false_iff_not] at h; unfold leE; omega

def Heap (n : Nat) (f : Nat → E) : Prop := ∀ c, 0 < c → c < n → leE (f ((c - 1) / 2)) (f c)

structure UpOk (n : Nat) (f : Nat → E) (j : Nat) : Prop where
  a : ∀ c, 0 < c → c < n → c ≠ j → leE (f ((c - 1) / 2)) (f c)
  b : ∀ c, 0 < c → c < n → (c - 1) / 2 = j → 0 < j → leE (f ((j - 1) / 2)) (f c)

structure DownOk (n : Nat) (f : Nat → E) (i i0 : Nat) : Prop where
  a : ∀ c, 0 < c → c < n → (c - 1) / 2 ≠ i → (c = i0 → i ≠ i0) → leE (f ((c - 1) / 2)) (f c)
  b : ∀ c, 0 < c → c < n → (c - 1) / 2 = i → 0 < i → leE (f ((i - 1) / 2)) (f c)

theorem swapF_i (f : Nat → E) (i j : Nat) : swapF f i j i = f j := by simp [swapF]
theorem swapF_j (f : Nat → E) (i j : Nat) : swapF f i j j = f i := by
  unfold swapF; by_cases h : j = i
  · subst h; simp
  · simp [h]
theorem swapF_ne (f : Nat → E) {i j x : Nat} (h1 : x ≠ i) (h2 : x ≠ j) : swapF f i j x = f x := by simp [swapF, h1, h2]

theorem UpOk.done0 {n : Nat} {f : Nat → E} (u : UpOk n f 0) : Heap n f := fun c h1 h2 => u.a c h1 h2 (by omega)
theorem UpOk.done {n j : Nat} {f : Nat → E} (u : UpOk n f j) (h : leE (f ((j - 1) / 2)) (f j)) : Heap n f := fun c h1 h2 => by
  by_cases e : c = j
  · subst e; exact h
  · exact u.a c h1 h2 e

theorem UpOk.step {n j : Nat} {f : Nat → E} (u : UpOk n f j) (hj : 0 < j) (hn : j < n) (h : leE (f j) (f ((j - 1) / 2))) : UpOk n (swapF f ((j - 1) / 2) j) ((j - 1) / 2) := by
  generalize hi : (j - 1) / 2 = i at *
  have hij : i < j := by omega
  constructor
  · intro c h1 h2 hc
    by_cases e : c = j
    · subst e; rw [hi, swapF_i, swapF_j]; exact h
    · by_cases p1 : (c - 1) / 2 = i
      · rw [p1, swapF_i, swapF_ne f hc e]
        exact h.trans (p1 ▸ u.a c h1 h2 e)
      · by_cases p2 : (c - 1) / 2 = j
        · rw [p2, swapF_j, swapF_ne f hc e]
          have := u.b c h1 h2 p2 hj
          rwa [hi] at this
        · rw [swapF_ne f p1 p2, swapF_ne f hc e]; exact u.a c h1 h2 e
  · intro c h1 h2 hc hi0
    have n1 : (i - 1) / 2 ≠ i := by omega
    have n2 : (i - 1) / 2 ≠ j := by omega
    rw [swapF_ne f n1 n2]
    have hpi : leE (f ((i - 1) / 2)) (f i) := u.a i hi0 (by omega) (by omega)
    by_cases e : c = j
    · subst e; rw [swapF_j]; exact hpi
    · rw [swapF_ne f (by omega) e]
      exact hpi.trans (hc ▸ u.a c h1 h2 e)

theorem DownOk.done {n i i0 : Nat} {f : Nat → E} (u : DownOk n f i i0) (h : ∀ c, 0 < c → c < n → (c - 1) / 2 = i → leE (f i) (f c)) :
    (i ≠ i0 → Heap n f) ∧ (i = i0 → UpOk n f i0) := by
  refine ⟨fun hne c h1 h2 => ?_, fun e => ?_⟩
  · by_cases p : (c - 1) / 2 = i
    · rw [p]; exact h c h1 h2 p
    · exact u.a c h1 h2 p (fun _ => hne)
  · subst e
    exact ⟨fun c h1 h2 hc => by
      by_cases p : (c - 1) / 2 = i
      · rw [p]; exact h c h1 h2 p
      · exact u.a c h1 h2 p (fun e => absurd e hc), u.b⟩

theorem DownOk.step {n i i0 j : Nat} {f : Nat → E} (u : DownOk n f i i0) (h0 : i0 ≤ i) (hj : j = 2 * i + 1 ∨ j = 2 * i + 2) (hn : j < n) (hm : ∀ c, 0 < c → c < n → (c - 1) / 2 = i → leE (f j) (f c))
    (h : leE (f j) (f i)) : DownOk n (swapF f i j) j i0 := by
  have pj : (j - 1) / 2 = i := by omega
  have hji : i < j := by omega
  constructor
  · intro c h1 h2 hc _
    by_cases e : c = j
    · subst e; rw [pj, swapF_i, swapF_j]; exact h
    · by_cases p1 : (c - 1) / 2 = i
      · rw [p1, swapF_i, swapF_ne f (by omega) e]; exact hm c h1 h2 p1
      · by_cases e2 : c = i
        · subst e2
          rw [swapF_i, swapF_ne f (by omega) (by omega)]
          exact u.b j (by omega) hn pj h1
        · rw [swapF_ne f p1 hc, swapF_ne f e2 e]
          exact u.a c h1 h2 p1 (fun e3 => by omega)
  · intro c h1 h2 hc hj0
    rw [pj, swapF_i, swapF_ne f (by omega) (by omega)]
    have := u.a c h1 h2 (by omega) (fun e => by omega)
    rwa [hc] at this

/-- The same entries in the first n places. -/
structure PermE (n : Nat) (f f' : Nat → E) : Prop where
  to : ∀ x, x < n → ∃ y, y < n ∧ f' x = f y
  fro : ∀ y, y < n → ∃ x, x < n ∧ f y = f' x
  out : ∀ x, n ≤ x → f' x = f x

theorem PermE.refl (n : Nat) (f : Nat → E) : PermE n f f := ⟨fun x h => ⟨x, h, rfl⟩, fun x h => ⟨x, h, rfl⟩, fun _ _ => rfl⟩
theorem PermE.trans {n : Nat} {f g k : Nat → E} (a : PermE n f g) (b : PermE n g k) : PermE n f k where
  to x h := let ⟨y, h1, e1⟩ := b.to x h; let ⟨z, h2, e2⟩ := a.to y h1; ⟨z, h2, e1.trans e2⟩
  fro x h := let ⟨y, h1, e1⟩ := a.fro x h; let ⟨z, h2, e2⟩ := b.fro y h1; ⟨z, h2, e1.trans e2⟩
  out x h := (b.out x h).trans (a.out x h)
theorem PermE.swap {n i j : Nat} (f : Nat → E) (hi : i < n) (hj : j < n) : PermE n f (swapF f i j) where
  to x h := by
    by_cases e1 : x = i
    · subst e1; exact ⟨j, hj, swapF_i _ _ _⟩
    · by_cases e2 : x = j
      · subst e2; exact ⟨i, hi, swapF_j _ _ _⟩
      · exact ⟨x, h, swapF_ne f e1 e2⟩
  fro x h := by
    by_cases e1 : x = i
    · subst e1; exact ⟨j, hj, (swapF_j _ _ _).symm⟩
    · by_cases e2 : x = j
      · subst e2; exact ⟨i, hi, (swapF_i _ _ _).symm⟩
      · exact ⟨x, h, (swapF_ne f e1 e2).symm⟩
  out x h := swapF_ne f (by omega) (by omega)

variable {h : H} {d : Nat} {mv : Value} {N n : Nat} {f : Nat → E} {sp : Option Nat} {cap : Nat}

abbrev rowPtr (d : Nat) : Value := .iface 57 (.pointer (some ⟨d, 0, none⟩))

theorem tdiv_par {j : Nat} (hj : 0 < j) (hb : j < 2 ^ 40) : IntKind.i64.wrap (Int.tdiv (IntKind.i64.wrap ((j : Int) - 1)) 2) = (((j - 1) / 2 : Nat) : Int) := by
  rw [wrap_i64_of (n := (j : Int) - 1) (by omega) (by omega)]
  have e1 : (j : Int) - 1 = ((j - 1 : Nat) : Int) := by omega
  have e2 : Int.tdiv (((j - 1 : Nat) : Int)) 2 = (((j - 1) / 2 : Nat) : Int) := rfl
  rw [e1, e2, wrap_i64_of (by omega) (by omega)]

theorem Row.cell0 (r : Row h d mv N f sp cap) : cell h ((⟨d, 0, none⟩ : Addr).add 0) = some (.slice (sp.map fun A => ⟨A, 0, none⟩) N cap) := by
  rw [add_mk, cell_of r.dues]; rfl

theorem c24 (r : Row h d mv N f sp cap) (hnN : n ≤ N) (hN : N < 2 ^ 40) {j : Nat} (hj : j < n) (u : UpOk n f j) :
    Spec P 24 #[rowPtr d, .int .i64 j] h (fun v h' => ∃ f', v = .tuple #[] ∧ Row h' d mv N f' sp cap ∧ KeepM h h' ∧ PermE n f f' ∧ Heap n f') := by
  apply s24 (a0 := ⟨d, 0, none⟩)
  unfold f24
  refine ⟨fun k l h' => ∃ (j' : Nat) (f' : Nat → E), l = [.int .i64 j'] ∧ k = j' ∧ j' < n ∧ Row h' d mv N f' sp cap ∧ KeepM h h' ∧ PermE n f f' ∧ UpOk n f' j', ⟨j, j, f, rfl, rfl, hj, r, KeepM.refl h, PermE.refl n f, u⟩, ?_⟩
  rintro k x h6 ⟨j', f', e, rfl, hj', r', km, pm, u'⟩
  simp only [List.cons.injEq, Value.int.injEq, true_and, and_true] at e
  subst e
  refine jBB ⟨fun hc => ?_, fun hc => ?_⟩
  · refine ⟨_, _, rfl, fun _ => ⟨f', rfl, r', km, pm, ?_⟩, by simp⟩
    simp only [decide_eq_true_eq] at hc
    rcases Nat.eq_zero_or_pos k with h0 | h0
    · subst h0; exact u'.done0
    · rw [tdiv_par h0 (by omega)] at hc; omega
  · simp only [decide_eq_false_iff_not] at hc
    have h0 : 0 < k := by
      rcases Nat.eq_zero_or_pos k with h0 | h0
      · subst h0; exact absurd (by decide) hc
      · exact h0
    have ep := tdiv_par h0 (show k < 2 ^ 40 by omega)
    rw [ep]
    refine ⟨_, _, _, r'.cell0, ?_⟩
    refine (c43 r' (show k < N by omega) (show (k - 1) / 2 < N by omega)).mono fun v h12 ⟨ev, l12⟩ => ⟨_, ev, _, _, rfl, fun hb => ?_, fun hb => ?_⟩
    · simp only [Bool.not_eq_true'] at hb
      exact ⟨f', rfl, r'.mono l12, km.trans l12.keepM, pm, u'.done (notless_le hb)⟩
    · simp only [Bool.not_eq_false'] at hb
      have r12 := r'.mono l12
      refine ⟨_, _, _, r12.cell0, ?_⟩
      refine (c44 r12 (show (k - 1) / 2 < N by omega) (show k < N by omega) (by omega)).mono fun v h21 ⟨ev, r21, k21⟩ => ⟨ev, (k - 1) / 2, by omega, _, _, rfl, rfl, by omega, r21, (km.trans l12.keepM).trans k21,
        pm.trans (PermE.swap f' (by omega) (by omega)), u'.step h0 hj' (less_le hb)⟩
end DueP
