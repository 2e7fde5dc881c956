/- Layer 6: At, Next, Len, Take. -/
import Derived.Test.YtpdgjniflbglgaaDueDues
namespace DueP
open Go Lf
variable {h : H} {d : Nat} {M : Int → Option Int} {n : Nat}

/-- k is the first one, due at t. -/
def First (M : Int → Option Int) (k t : Int) : Prop := M k = some t ∧ ∀ k' t', M k' = some t' → t < t' ∨ (t = t' ∧ k ≤ k')

/-- What is taken, and what is left. -/
inductive Takes (now : Int) : (Int → Option Int) → List Int → (Int → Option Int) → Prop where
  | done {M : Int → Option Int} (h : ∀ k t, M k = some t → now < t) : Takes now M [] M
  | step {M M' : Int → Option Int} {k t : Int} {ks : List Int} (f : First M k t) (hl : t ≤ now) (r : Takes now (upd M k none) ks M') : Takes now M (k :: ks) M'

theorem First.uniq {M : Int → Option Int} {k t k' t' : Int} (a : First M k t) (b : First M k' t') : k = k' ∧ t = t' := by
  have h1 := a.2 k' t' b.1
  have h2 := b.2 k t a.1
  omega

theorem Takes.uniq {now : Int} {M : Int → Option Int} {ks ks' : List Int} {M1 M2 : Int → Option Int} (a : Takes now M ks M1) (b : Takes now M ks' M2) : ks = ks' ∧ M1 = M2 := by
  induction a generalizing ks' M2 with
  | done h =>
    cases b with
    | done => exact ⟨rfl, rfl⟩
    | step f hl r => have := h _ _ f.1; omega
  | step f hl r ih =>
    cases b with
    | done h => have := h _ _ f.1; omega
    | step f' hl' r' =>
      obtain ⟨rfl, rfl⟩ := f.uniq f'
      obtain ⟨rfl, rfl⟩ := ih r'
      exact ⟨rfl, rfl⟩

theorem heap_min {n : Nat} {f : Nat → E} (hp : Heap n f) : ∀ i, i < n → leE (f 0) (f i) := by
  intro i
  induction i using Nat.strongRecOn with
  | _ i ih =>
    intro hi
    rcases Nat.eq_zero_or_pos i with h0 | h0
    · subst h0; exact leE.refl _
    · exact (ih ((i - 1) / 2) (by omega) (by omega)).trans (hp i h0 hi)

theorem c11 (r : Dues h d M n) : Spec P 11 #[ptrTo d] h (fun v h' => v = .int .i64 n ∧ h' = h) := by
  obtain ⟨m, f, sp, cap, get, rw0, hp, mp, g1, g2, m1, m2⟩ := r
  apply s11
  unfold f11
  exact ⟨fun h => (by cases h), fun _ => ⟨_, rfl, _, _, _, rw0.cell0, rfl, rfl⟩⟩

theorem c16 (r : Dues h d M n) (k : Int) : Spec P 16 #[ptrTo d, .int .u64 k] h (fun v h' => v = .tuple #[.int .u64 ((M k).getD 0), .bool (M k).isSome] ∧ h' = h) := by
  obtain ⟨m, f, sp, cap, get, rw0, hp, mp, g1, g2, m1, m2⟩ := r
  apply s16
  unfold f16
  refine ⟨fun h => (by cases h), fun _ => ⟨_, rfl, _, cell1 rw0, ?_⟩⟩
  refine lookup_run (kk := fun a : Int => .int .u64 a) (a := k) u47 k23 z52 mp ?_
  simp only [if_true]
  cases hg : get k with
  | some v =>
    obtain ⟨i, hi, hk⟩ := g2 k v hg
    have hv : v = ptrTo (f i).b := by have := g1 i hi; rw [hk, hg] at this; exact Option.some.inj this
    subst hv
    have hM : M k = some (f i).t := by rw [← hk]; exact m1 i hi
    rw [hM]
    exact ⟨_, true, rfl, by simp, fun _ => ⟨_, rfl, (f i).t, by simp [cell_of (rw0.ent i hi)], ⟨rfl, trivial⟩⟩⟩
  | none =>
    have hM : M k = none := by
      cases hM : M k with
      | none => rfl
      | some t' => obtain ⟨i, hi, e⟩ := m2 k t' hM; have := g1 i hi; rw [e, hg] at this; cases this
    rw [hM]
    exact ⟨none, false, rfl, fun _ => ⟨rfl, trivial⟩, by simp⟩

/-- What Next answers. -/
def NextIs (M : Int → Option Int) (n : Nat) (t : Int) (any : Bool) : Prop := (any = false → n = 0 ∧ t = 0) ∧ (any = true → 0 < n ∧ ∃ k, First M k t)

theorem Dues.first (r : Dues h d M n) (hn : 0 < n) : ∃ A cp b k t, cell h ⟨d, 0, none⟩ = some (Value.slice (some ⟨A, 0, none⟩) n cp) ∧
    cell h ⟨A, 0, none⟩ = some (ptrTo b) ∧ cell h ⟨b, 0, none⟩ = some (.int .u64 k) ∧ cell h ⟨b, 1, none⟩ = some (.int .u64 t) ∧ First M k t := by
  obtain ⟨m, f, sp, cap, get, rw0, hp, mp, g1, g2, m1, m2⟩ := r
  obtain ⟨A, c, rfl, hA, hc, hpp⟩ := rw0.has hn
  refine ⟨A, cap, (f 0).b, (f 0).k, (f 0).t, by rw [cell_of rw0.dues]; rfl, by rw [cell_of hA]; exact hpp 0 hn, by rw [cell_of (rw0.ent 0 hn)]; rfl, by rw [cell_of (rw0.ent 0 hn)]; rfl, m1 0 hn, fun k' t' e => ?_⟩
  obtain ⟨i, hi, e2⟩ := m2 k' t' e
  have := m1 i hi
  rw [e2, e] at this
  have ht := Option.some.inj this
  have := heap_min hp i hi
  unfold leE at this
  rw [← ht, e2] at this
  exact this

theorem c14 (r : Dues h d M n) : Spec P 14 #[ptrTo d] h (fun v h' => ∃ t any, v = .tuple #[.int .u64 t, .bool any] ∧ h' = h ∧ NextIs M n t any) := by
  have r0 := r
  obtain ⟨m, f, sp, cap, get, rw0, hp, mp, g1, g2, m1, m2⟩ := r
  apply s14
  unfold f14
  refine jBB ⟨fun h => (by cases h), fun _ => ⟨_, rfl, _, _, _, rw0.cell0, _, _, rfl, fun hc => ?_, fun hc => ?_⟩⟩
  · simp only [decide_eq_true_eq] at hc
    exact ⟨0, false, rfl, rfl, fun _ => ⟨by omega, rfl⟩, by simp⟩
  · simp only [decide_eq_false_iff_not] at hc
    have hn : 0 < n := by omega
    obtain ⟨A, c, b, k, t, h2, h3, h4, h5, h6⟩ := r0.first hn
    exact ⟨_, rfl, _, _, _, by rw [add_mk]; exact h2, _, rfl, by omega, _, by simpa using h3, _, rfl, _, by simpa using h5, t, true, rfl, rfl, by simp, fun _ => ⟨hn, k, h6⟩⟩

/-- A slice of numbers that owns its cells. -/
def Nums (h : H) (p : Option Addr) (len cap : Nat) (ks : List Int) : Prop := len = ks.length ∧ Arr h 23 1 p len cap (fun i => .int .u64 (ks.getD i 0))

theorem u22 : P.underlying 22 = some (.slice 23) := by kernel_rfl
theorem s23' : sizeO P 23 = some 1 := by kernel_rfl
theorem z23 : zeroOf P 23 = some (.int .u64 0) := by kernel_rfl
theorem b23 : (P.info? 23).map (·.bytes) = some 8 := by kernel_rfl

theorem Nums.nil (h : H) : Nums h none 0 0 [] := ⟨rfl, Arr.nilA h 23 1 _⟩
theorem Nums.mono {h' : H} {p : Option Addr} {len cap : Nat} {ks : List Int} (r : Nums h p len cap ks) (l : Le h h') : Nums h' p len cap ks := ⟨r.1, r.2.mono l⟩

/-- One number more. -/
theorem Nums.push {T2 : Nat} {p : Option Addr} {len cap b mc : Nat} {ks : List Int} {k : Int} {e : TypeId} {K : Value → H → Prop} (r : Nums h p len cap ks) (hl : len < 2 ^ 40 - 1) (hb : h b = some (.cells #[.int .u64 k] e (0, 0)))
    (kk : ∀ h' p' cap', Nums h' p' (len + 1) cap' (ks ++ [k]) → KeepA p h h' → (∀ A, p' = some ⟨A, 0, none⟩ → p = some ⟨A, 0, none⟩ ∨ h A = none) → K (.slice p' (len + 1) cap') h') :
    RunL P (X.sem (.bi .append #[22, 22] 22 [.slice p len cap, .slice (some ⟨b, 0, none⟩) 1 mc])) h K := by
  refine append_run (bytes := 8) (y := fun _ => .int .u64 k) u22 u22 s23' z23 rfl b23 (by omega) (by omega) r.2
    (.inr ⟨b, e, _, rfl, hb, by simp, fun i hi => by have : i = 0 := by omega
                                                     subst this; rfl⟩) (fun _ _ => rfl) fun h' p' cap' ha ka fr => kk h' p' cap' ⟨by simp [r.1], ?_⟩ ka fr
  refine ⟨ha.le, ha.nil, fun a e => ?_⟩
  obtain ⟨A, c, e1, h1, h2, h3⟩ := ha.arr a e
  refine ⟨A, c, e1, h1, h2, fun i hi => ?_⟩
  rw [h3 i hi]
  have hlen := r.1
  by_cases e2 : i < len
  · rw [if_pos (by omega)]; congr 2; simp only [List.getD_eq_getElem?_getD]; rw [List.getElem?_append_left (by omega)]
  · have : i = ks.length := by omega
    rw [if_neg (by omega)]; subst this; simp
end DueP
