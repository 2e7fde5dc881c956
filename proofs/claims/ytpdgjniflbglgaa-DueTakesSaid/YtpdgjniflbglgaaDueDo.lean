/- Layer 6: one operation of both lists. -/
import Derived.Test.YtpdgjniflbglgaaDueRefTake
namespace DueP
open Go Lf

/-- The program's list and the document's say the same. -/
structure Both (X Y : H) (d : Nat) (p : Option Addr) (n c : Nat) (l : List Pair) : Prop where
  du : Dues X d (asM l) n
  pr : Pairs Y p n c l
  ko : KeysOk l

theorem set_length {l : List Pair} (h : KeysOk l) (k t : Int) : (cutL l k ++ [(k, t)]).length = if (asM l k).isSome then l.length else l.length + 1 := by
  rw [List.length_append, cut_length h]
  split
  · rename_i hs
    have : l ≠ [] := by intro e; subst e; simp [asM] at hs
    have := List.length_pos_iff.2 this
    simp; omega
  · simp

theorem c13 {h X Y R : H} {d : Nat} {p : Option Addr} {n c : Nat} {l : List Pair} (s : S3 h X Y R) (b : Both X Y d p n c l) (hn : n < 2 ^ 40 - 2) (kd k t : Int) :
    Spec P 13 #[ptrTo d, .slice p n c, .agg #[.int .i64 kd, .int .u64 k, .int .u64 t]] h (fun v h' => ∃ X' Y' p' n' c' l', v = .tuple #[.bool true, .slice p' n' c'] ∧ S3 h' X' Y' R ∧ Both X' Y' d p' n' c' l' ∧ n' ≤ n + 1) := by
  apply s13
  unfold f13
  have hl := b.pr.1
  refine ⟨fun _ => ?_, fun _ => ⟨fun _ => ?_, fun _ => ⟨fun _ => ?_, fun _ => ?_⟩⟩⟩
  · refine (s.onX (c8 b.du (by omega) k t)).mono fun v h8 ⟨X', s8, ev, d8⟩ => ⟨ev, ?_⟩
    refine (s8.onY (c20 b.pr (by omega) k t)).mono fun v h10 ⟨Y', s10, p', n', c', ev, pr, _⟩ => ⟨_, _, _, ev, X', Y', _, _, _, _, rfl, s10, ⟨?_, pr, b.ko.set k t⟩, ?_⟩
    · have e := pr.1
      rw [set_length b.ko] at e
      rw [asM_set, e, ← hl]; exact d8
    · have e := pr.1
      rw [set_length b.ko] at e
      split at e <;> omega
  · refine (s.onY (c21 b.pr (by omega) k)).mono fun v h15 ⟨Y', s15, p', n', c', ev, pr, _⟩ => ⟨_, _, _, _, ev, ?_⟩
    refine (s15.onX (c19 b.du (by omega) k)).mono fun v h21 ⟨X', s21, ev, d21⟩ => ⟨_, ev, X', Y', _, _, _, _, ?_, s21, ⟨?_, pr, b.ko.cut k⟩, ?_⟩
    · have e := pr.1
      rw [cut_length b.ko] at e
      congr 3
      cases hs : (asM l k).isSome with
      | true =>
        rw [hs] at e
        have : l ≠ [] := by intro e; subst e; simp [asM] at hs
        have := List.length_pos_iff.2 this
        simp only [if_true] at e
        simp; omega
      | false =>
        rw [hs] at e
        simp only [Bool.false_eq_true, if_false] at e
        simp; omega
    · have e := pr.1
      rw [cut_length b.ko] at e
      rw [asM_cut, e, ← hl]; exact d21
    · have e := pr.1
      rw [cut_length b.ko] at e
      split at e <;> omega
  · refine (s.onY (c22 b.pr b.ko (by omega) t)).mono fun v h24 ⟨Y', s24, p1, n1, c1, ks, p2, n2, c2, l', ev, ns, pr, ko, tk, hlen, _⟩ => ⟨_, _, _, _, _, _, ev, ?_⟩
    refine (s24.onX (c10 b.du (by omega) t)).mono fun v h32 ⟨X', s32, p3, n3, c3, ks', M', n', ev, ns', d', tk', hlen'⟩ => ⟨_, _, _, ev, ?_⟩
    obtain ⟨rfl, rfl⟩ := tk.uniq tk'
    refine (c9 (ns'.mono s32.leX) (ns.mono s32.leY) (by have := ns'.1; omega)).mono fun v h37 ⟨ev, e37⟩ => ⟨_, ev, X', Y', _, _, _, l', by simp, by rw [e37]; exact s32, ⟨?_, pr, ko⟩, by omega⟩
    have : n' = n2 := by omega
    rw [← this]; exact d'
  · refine (c16 (b.du.mono s.leX) k).mono fun v h40 ⟨ev, e40⟩ => ⟨_, _, ev, ?_⟩
    subst e40
    refine ⟨fun kk L h' => h' = h40 ∧ ∃ (i : Nat) (pz : Option Addr) (nz cz : Nat) (bz : Bool), L = [.int .i64 i, .slice pz nz cz, .bool bz] ∧ kk + i = n ∧ ∀ j, j < i → (l.getD j (0, 0)).1 ≠ k, ⟨n, rfl, 0, _, _, _, _, rfl, rfl, fun j hj => by omega⟩, ?_⟩
    rintro kk x46 p47 n48 n49 b50 h51 ⟨rfl, i, pz, nz, cz, bz, e, hk, hno⟩
    simp only [List.cons.injEq, Value.int.injEq, Value.slice.injEq, Value.bool.injEq, true_and, and_true] at e
    obtain ⟨rfl, ⟨rfl, rfl, rfl⟩, rfl⟩ := e
    refine ⟨fun hi => ?_, fun hi => ?_⟩
    · simp only [decide_eq_true_eq] at hi
      have hin : i < n := by omega
      obtain ⟨A, e1, h1, h2⟩ := (b.pr.mono s.leY).at hin
      have bi : (0 : Int) ≤ (i : Int) ∧ (i : Int) < (n : Int) := by omega
      refine ⟨_, e1, bi, _, by simpa using h1, _, by simpa using h2, fun hc => ?_, fun hc => ?_⟩
      · simp only [decide_eq_true_eq] at hc
        have eg : l.getD i (0, 0) = l[i]'(by omega) := by rw [List.getD_eq_getElem?_getD, List.getElem?_eq_getElem (by omega)]; rfl
        have hM : asM l k = some (l.getD i (0, 0)).2 := by
          rw [← hc, ← List.getD_eq_getElem?_getD, eg]; exact mem_asM b.ko (List.getElem_mem _)
        rw [hM]
        exact jBB ⟨fun _ => ⟨_, _, rfl, X, Y, p, n, c, l, by simp, s, b, by omega⟩, fun h => by simp at h⟩
      · simp only [decide_eq_false_iff_not] at hc
        exact ⟨kk - 1, by omega, rfl, i + 1, _, _, _, _, by rw [wrap_i64_of (by omega) (by omega)]; rfl, by omega, fun j hj => by
          by_cases ej : j = i
          · subst ej; rw [List.getD_eq_getElem?_getD]; exact hc
          · exact hno j (by omega)⟩
    · simp only [decide_eq_false_iff_not] at hi
      have hM : asM l k = none := by
        cases hM : asM l k with
        | none => rfl
        | some t' =>
          obtain ⟨j, hj, e2⟩ := List.getElem_of_mem (asM_mem hM)
          have := hno j (by omega)
          rw [List.getD_eq_getElem?_getD, List.getElem?_eq_getElem hj] at this
          exact absurd (by rw [Option.getD_some, e2]) this
      rw [hM]
      exact jBB ⟨fun _ => ⟨_, _, rfl, X, Y, p, n, c, l, by simp, s, b, by omega⟩, fun h => by simp at h⟩
end DueP
