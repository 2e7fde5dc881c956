/- Layer 6: slices.Equal, the chapter's example. -/
import Derived.Test.YtpdgjniflbglgaaDueTake2
namespace DueP
open Go Lf
variable {h : H} {d : Nat} {M : Int → Option Int} {n : Nat}

theorem Nums.at {p : Option Addr} {len cap : Nat} {ks : List Int} (r : Nums h p len cap ks) {i : Nat} (hi : i < len) : ∃ A, p = some ⟨A, 0, none⟩ ∧ cell h ⟨A, i, none⟩ = some (.int .u64 (ks.getD i 0)) := by
  cases p with
  | none => have h1 := r.2.nil rfl; have h2 := r.2.le; omega
  | some a =>
    obtain ⟨A, c, rfl, h1, h2, h3⟩ := r.2.arr a rfl
    exact ⟨A, rfl, by rw [cell_of h1]; exact h3 i (by omega)⟩

theorem c9 {p q : Option Addr} {n c n' c' : Nat} {xs ys : List Int} (a : Nums h p n c xs) (b : Nums h q n' c' ys) (hn : n < 2 ^ 40) :
    Spec P 9 #[.slice p n c, .slice q n' c'] h (fun v h' => v = .bool (decide (xs = ys)) ∧ h' = h) := by
  apply s9
  unfold f9
  have la := a.1
  have lb := b.1
  refine ⟨fun hc => ?_, fun hc => ?_⟩
  · simp only [Bool.not_eq_true', decide_eq_false_iff_not] at hc
    have : xs ≠ ys := fun e => hc (by rw [la, lb, e])
    exact ⟨by simp [this], rfl⟩
  · simp only [Bool.not_eq_false', decide_eq_true_eq] at hc
    have hl : xs.length = ys.length := by omega
    refine ⟨fun k l h' => h' = h ∧ ∃ i : Nat, l = [.int .i64 i, .bool false] ∧ k + i = n ∧ ∀ j, j < i → xs.getD j 0 = ys.getD j 0, ⟨n, rfl, 0, rfl, rfl, fun j hj => by omega⟩, ?_⟩
    rintro k x9 b10 h11 ⟨rfl, i, e, hk, he⟩
    simp only [List.cons.injEq, Value.int.injEq, Value.bool.injEq, true_and, and_true] at e
    obtain ⟨rfl, rfl⟩ := e
    refine ⟨fun hi => ?_, fun hi => ?_⟩
    · simp only [decide_eq_true_eq] at hi
      have hi' : i < n := by omega
      obtain ⟨A, e1, h1⟩ := a.at hi'
      obtain ⟨B, e2, h2⟩ := b.at (show i < n' by omega)
      refine ⟨_, e1, by omega, _, by simpa using h1, _, e2, by omega, _, by simpa using h2, fun hx => ?_, fun hx => ?_⟩
      · simp only [Bool.not_eq_true', decide_eq_false_iff_not] at hx
        have : xs ≠ ys := fun e => hx (by rw [e])
        exact ⟨by simp [this], rfl⟩
      · simp only [Bool.not_eq_false', decide_eq_true_eq] at hx
        refine ⟨k - 1, by omega, rfl, i + 1, by rw [wrap_i64_of (by omega) (by omega)]; rfl, by omega, fun j hj => ?_⟩
        by_cases e : j = i
        · subst e; exact hx
        · exact he j (by omega)
    · simp only [decide_eq_false_iff_not] at hi
      have : xs = ys := by
        apply List.ext_getElem hl
        intro j h1 h2
        have := he j (by omega)
        rw [List.getD_eq_getElem?_getD, List.getD_eq_getElem?_getD, List.getElem?_eq_getElem h1, List.getElem?_eq_getElem h2] at this
        exact this
      exact ⟨by simp [this], rfl⟩

/-- What is known of a call without anything in sight. -/
theorem Spec.empty {f : FuncId} {args : Array Value} {R : Value → H → Prop} (s : Spec P f args (fun _ => none) R) (h : H) : Spec P f args h fun v h' => (∃ h1, R v h1 ∧ Le h1 h') ∧ Le h h' := by
  have := s.frame (p := h) (fun b => .inl rfl)
  have e : join (fun _ => none) h = h := by funext b; rfl
  rw [e] at this
  exact this.mono fun v h' ⟨h1, e, ap, r⟩ => ⟨⟨h1, r, e ▸ Le.join_left _ _⟩, e ▸ join_right ap⟩

theorem first_ex {now : Int} {M : Int → Option Int} {k t : Int} {ks : List Int} {M' : Int → Option Int} (f : First M k t) (hl : t ≤ now) (r : Takes now (upd M k none) ks M') : Takes now M (k :: ks) M' := .step f hl r

/-- The example's list. -/
def exM : Int → Option Int := upd (upd (upd (fun _ => none) 1 (some 5)) 2 (some 5)) 3 (some 4)

theorem exM_eq (x : Int) : exM x = if x = 3 then some 4 else if x = 2 then some 5 else if x = 1 then some 5 else none := rfl

theorem ex_takes : ∃ M', Takes 5 exM [3, 1, 2] M' := by
  refine ⟨upd (upd (upd exM 3 none) 1 none) 2 none, .step (t := 4) ⟨rfl, fun k' t' e => ?_⟩ (by omega) (.step (t := 5) ⟨rfl, fun k' t' e => ?_⟩ (by omega) (.step (t := 5) ⟨rfl, fun k' t' e => ?_⟩ (by omega) (.done fun k t e => ?_)))⟩
  all_goals simp only [upd, exM_eq] at e
  all_goals repeat' split at e
  all_goals first | (cases e; done) | (have := Option.some.inj e; omega)

theorem c7e : Spec P 7 #[] (fun _ => none) (fun v _ => v = .bool true) := by
  apply s7
  unfold f7
  refine (c6 _).mono fun v h1 ⟨d, ev, r1, _⟩ => ⟨_, ev, fun h => (by cases h), fun _ => ?_⟩
  refine (c8' r1 (by omega) 1 5).mono fun v h4 ⟨ev, r2, _⟩ => ⟨ev, ?_⟩
  refine (c8' r2 (by split <;> omega) 2 5).mono fun v h6 ⟨ev, r3, _⟩ => ⟨ev, ?_⟩
  refine (c8' r3 (by (repeat' split) <;> omega) 3 4).mono fun v h8 ⟨ev, r4, _⟩ => ⟨ev, ?_⟩
  have e4 : Dues h8 d exM 3 := r4
  refine (c10' e4 (by omega) 5).mono fun v h10 ⟨p, len, cap, ks, M', n', ev, ns, r5, tk, hl, _⟩ => ⟨p, len, cap, ev, fun n14 hn h15 e15 => ?_⟩
  obtain ⟨M2, t2⟩ := ex_takes
  obtain ⟨rfl, rfl⟩ := tk.uniq t2
  have l15 : Le h10 h15 := e15 ▸ le_hnew hn
  have n0 : n' = 0 := by simpa using hl
  subst n0
  have hb : Nums h15 (some ⟨n14, 0, none⟩) 3 3 [3, 1, 2] := ⟨rfl, Nat.le_refl _, fun e => (by cases e), fun a e => by
    simp only [Option.some.injEq] at e; subst e
    refine ⟨n14, _, rfl, by rw [e15, hnew_same], by simp, fun i hi => ?_⟩
    have : i = 0 ∨ i = 1 ∨ i = 2 := by omega
    rcases this with rfl | rfl | rfl <;> rfl⟩
  refine (c9 (ns.mono l15) hb (by have := ns.1; simp at this; omega)).mono fun v h17 ⟨ev, e17⟩ => ⟨_, ev, ?_⟩
  subst e17
  refine jBB ⟨fun _ => ?_, fun hc => by simp at hc⟩
  refine (c11 (r5.mono l15)).mono fun v h21 ⟨ev, e21⟩ => ⟨_, ev, _, _, rfl, by simp⟩

theorem c7 (h : H) : Spec P 7 #[] h (fun v h' => v = .bool true ∧ Le h h') :=
  (Spec.empty c7e h).mono fun v h' ⟨⟨_, e, _⟩, l⟩ => ⟨e, l⟩
end DueP
