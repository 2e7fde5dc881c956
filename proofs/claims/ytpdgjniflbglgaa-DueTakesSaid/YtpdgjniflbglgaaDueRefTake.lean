/- Layer 6: the document's Take. -/
import Derived.Test.YtpdgjniflbglgaaDueList
namespace DueP
open Go Lf
variable {h : H}

theorem c22 {p : Option Addr} {n c : Nat} {l : List Pair} (r : Pairs h p n c l) (hk : KeysOk l) (hn : n < 2 ^ 40 - 1) (now : Int) :
    Spec P 22 #[.slice p n c, .int .u64 now] h (fun v h' => ∃ p1 n1 c1 ks p2 n2 c2 l', v = .tuple #[.slice p1 n1 c1, .slice p2 n2 c2] ∧ Nums h' p1 n1 c1 ks ∧ Pairs h' p2 n2 c2 l' ∧ KeysOk l' ∧
      Takes now (asM l) ks (asM l') ∧ n2 + ks.length = n ∧ Le h h') := by
  apply s22
  unfold f22
  intro n4 hn4 h5 e5
  have l5 : Le h h5 := e5 ▸ le_hnew hn4
  refine ⟨fun k L h' => ∃ p1 n1 c1 ks pa na ca pb nb cb p2 n2 c2 l', L = [.slice p1 n1 c1, .slice pa na ca, .slice pb nb cb, .slice p2 n2 c2] ∧ Nums h' p1 n1 c1 ks ∧ Pairs h' p2 n2 c2 l' ∧ KeysOk l' ∧
      k = n2 ∧ n2 + ks.length = n ∧ Le h h' ∧ (∀ A off, p1 = some ⟨A, off, none⟩ → h A = none) ∧ (∀ ks2 M2, Takes now (asM l') ks2 M2 → Takes now (asM l) (ks ++ ks2) M2),
    ⟨n, _, 0, 0, [], _, _, _, _, _, _, p, n, c, l, rfl, ⟨rfl, ⟨Nat.le_refl _, fun e => (by cases e), fun a e => ⟨n4, _, (by simp at e; exact e.symm), by rw [e5, hnew_same], by simp, fun i hi => by omega⟩⟩⟩,
      r.mono l5, hk, rfl, rfl, l5, fun A off e => by simp only [blk_mk, add_mk, Option.some.injEq, Addr.mk.injEq] at e; rw [← e.1]; exact hn4, fun _ _ x => x⟩, ?_⟩
  rintro k p9 n10 n11 p12 n13 n14 p15 n16 n17 p18 n19 n20 h21 ⟨p1, n1, c1, ks, pa, na, ca, pb, nb, cb, p2, n2, c2, l', e, ns, pr, ko, rfl, hlen, le, fr, tk⟩
  simp only [List.cons.injEq, Value.slice.injEq, and_true] at e
  obtain ⟨⟨rfl, rfl, rfl⟩, ⟨rfl, rfl, rfl⟩, ⟨rfl, rfl, rfl⟩, ⟨rfl, rfl, rfl⟩⟩ := e
  refine (c15 pr (by omega)).mono fun v h23 ⟨e23, b, ev, hb⟩ => ⟨b, ev, ?_⟩
  subst e23
  have hl2 := pr.1
  have stop : (∀ k' t', asM l' k' = some t' → now < t') → ∃ p1 n1 c1 ks p2 n2 c2 l2, Value.tuple #[.slice p9 n10 n11, .slice p18 n19 n20] = .tuple #[.slice p1 n1 c1, .slice p2 n2 c2] ∧ Nums h23 p1 n1 c1 ks ∧ Pairs h23 p2 n2 c2 l2 ∧ KeysOk l2 ∧
      Takes now (asM l) ks (asM l2) ∧ n2 + ks.length = n ∧ Le h h23 := fun hs =>
    ⟨_, _, _, ks, _, _, _, l', rfl, ns, pr, ko, by have := tk [] _ (.done hs); simpa using this, hlen, le⟩
  refine jBB ⟨fun hc => ?_, fun hc => ?_⟩
  · simp only [decide_eq_true_eq] at hc
    refine ⟨_, _, rfl, fun _ => stop fun k' t' e => ?_, by simp⟩
    rcases hb with ⟨_, h0⟩ | ⟨i, hi, _⟩
    · have := List.length_pos_of_mem (asM_mem e); omega
    · omega
  · simp only [decide_eq_false_iff_not] at hc
    obtain ⟨i, rfl, hin, hmin⟩ : ∃ i : Nat, b = i ∧ i < n19 ∧ ∀ j, j < n19 → leP (l'.getD i (0, 0)) (l'.getD j (0, 0)) := by
      rcases hb with ⟨h1, _⟩ | h
      · omega
      · exact h
    have hfst := first_of ko (i := i) (by omega) (fun j hj => hmin j (by omega))
    obtain ⟨A, e1, h1, h2⟩ := pr.at hin
    have bi : (0 : Int) ≤ (i : Int) ∧ (i : Int) < (n19 : Int) := by omega
    refine ⟨_, e1, bi, _, by simpa using h2, _, _, rfl, fun hgt => ?_, fun hle => ?_⟩
    · simp only [decide_eq_true_eq] at hgt
      refine stop fun k' t' e => ?_
      have := hfst.2 k' t' e
      simp only [List.getD_eq_getElem?_getD] at *; omega
    · simp only [decide_eq_false_iff_not] at hle
      refine ⟨_, e1, bi, _, by simpa using h1, fun n33 hn33 h34 e34 => ?_⟩
      have l34 : Le h23 h34 := e34 ▸ le_hnew hn33
      refine Nums.push (T2 := 22) (k := (l'.getD i (0, 0)).1) (e := 23) (ns.mono l34) (by have := ns.1; omega) (by rw [e34, hnew_same, List.getD_eq_getElem?_getD]) fun h36 p36 c36 ns36 ka fr36 => ⟨_, _, _, rfl, ?_⟩
      have kt := ka.keepT (T := fun e => e == 43) (ns.mono l34).2 rfl
      have pr36 : Pairs h36 p18 n19 n20 l' := ⟨pr.1, (pr.mono l34).2.keepT kt rfl⟩
      have le36 : Le h h36 := ka.le (le.trans l34) fr
      obtain ⟨A2, e2, h3, h4⟩ := pr36.at hin
      refine ⟨_, e2, bi, _, by simpa using h3, ?_⟩
      refine (c21 pr36 (by omega) _).mono fun v h43 ⟨p', n', c', ev, pr43, le43, fr43⟩ => ⟨_, _, _, _, ev, n', ?_, _, _, _, ks ++ [(l'.getD i (0, 0)).1], _, _, _, _, _, _, _, n', _, _, rfl, ns36.mono le43, pr43, ko.cut _, rfl, ?_, le36.trans le43, fun A off e => ?_, fun ks2 M2 x => ?_⟩
      · have h5 := pr43.1
        rw [cut_length ko] at h5
        simp only [List.getD_eq_getElem?_getD] at hfst h5
        rw [hfst.1] at h5
        simp only [Option.isSome_some, if_true] at h5; omega
      · have h5 := pr43.1
        rw [cut_length ko] at h5
        simp only [List.getD_eq_getElem?_getD] at hfst h5
        rw [hfst.1] at h5
        simp only [Option.isSome_some, if_true] at h5
        simp; omega
      · obtain ⟨A', c', e', h6, _⟩ := ns36.2.arr _ e
        simp only [Addr.mk.injEq, and_true] at e'
        obtain ⟨rfl, rfl⟩ := e'
        rcases fr36 A e with h4 | h4
        · exact fr A 0 h4
        · cases hA : h A with
          | none => rfl
          | some o => rw [(le.trans l34) A o hA] at h4; cases h4
      · rw [List.append_assoc]
        refine tk _ _ (.step hfst ?_ ?_)
        · simp only [List.getD_eq_getElem?_getD]; omega
        · rw [asM_cut] at x; simp only [List.getD_eq_getElem?_getD] at *; exact x
end DueP
