/- Layer 6: the law DueTakes over partial heaps. -/
import Derived.Test.YtpdgjniflbglgaaDuePlays
namespace DueP
open Go Lf

theorem Takes.gone {now : Int} {M M' : Int → Option Int} {ks : List Int} (t : Takes now M ks M') : ∀ k, k ∈ ks → M' k = none := by
  induction t with
  | done h => intro k hk; cases hk
  | step f hl r ih =>
    intro k hk
    rcases List.mem_cons.1 hk with rfl | hk
    · rename_i M1 M2 t0 ks0
      cases e : M2 k with
      | none => rfl
      | some x =>
        have := r.sub k x e
        unfold upd at this
        rw [if_pos rfl] at this; cases this
    · exact ih k hk

theorem dueTakes {h : H} {p : Option Addr} {n c : Nat} {g : Nat → Int × Int × Int} (r : OpsR h p n g) (hc : n ≤ c) (now : Int) :
    Spec P 5 #[.slice p n c, .int .u64 now] h (fun v h' => v = .bool true ∧ Le h h') := by
  apply s5
  unfold f5
  refine ((S3.start h).onX (c6 _)).mono fun v h4 ⟨X, s4, d, ev, dA, _⟩ => ⟨_, ev, ?_⟩
  refine jBB ⟨fun h => (by cases h), fun _ => ?_⟩
  refine (s4.onX (c7 X)).mono fun v h8 ⟨X2, s8, ev, lX⟩ => ⟨true, ev, _, _, rfl, fun h => (by simp at h), fun _ => ?_⟩
  refine (c12 p hc).mono fun v h14 ⟨ev, e14⟩ => ⟨_, _, _, ev, ?_⟩
  subst e14
  refine ⟨fun k L h' => ∃ (i : Nat) (p' : Option Addr) (n' c' : Nat) (X Y : H) (l : List Pair), L = [.int .i64 i, .slice p' n' c'] ∧ k + i = min n 200 ∧ S3 h' X Y h ∧ Both X Y d p' n' c' l ∧ n' ≤ i,
    ⟨min n 200, 0, none, 0, 0, X2, _, [], rfl, rfl, s8, ⟨dA.mono lX, Pairs.nil _, List.nodup_nil⟩, Nat.le_refl _⟩, ?_⟩
  rintro k x21 p22 n23 n24 h26 ⟨i, p', n', c', X, Y, l, e, hk, s, b, hni⟩
  simp only [List.cons.injEq, Value.int.injEq, Value.slice.injEq, true_and, and_true] at e
  obtain ⟨rfl, rfl, rfl, rfl⟩ := e
  refine ⟨fun hi => ?_, fun hi => ?_⟩
  · simp only [decide_eq_true_eq] at hi
    have hin : i < min n 200 := by omega
    have hk2 : k - 1 + (i + 1) = min n 200 := by omega
    have hk3 : k - 1 < k := by omega
    have wr : IntKind.i64.wrap ((i : Int) + 1) = ((i + 1 : Nat) : Int) := by rw [wrap_i64_of (by omega) (by omega)]; rfl
    obtain ⟨a, e1, h1, h2, h3⟩ := r i (by omega)
    refine ⟨a, e1, by omega, _, cell_le s.leR h1, _, cell_le s.leR h2, _, cell_le s.leR h3, ?_⟩
    refine (c13 s b (by omega) _ _ _).mono fun v h32 ⟨X', Y', p3, n3, c3, l', ev, s32, b32, hn3⟩ => ⟨_, _, _, _, ev, k - 1, hk3, i + 1, p3, n3, c3, X', Y', l', by rw [wr], hk2, s32, b32, Nat.le_trans hn3 (Nat.add_le_add_right hni 1)⟩
  · simp only [decide_eq_false_iff_not] at hi
    refine (s.onX (c10' b.du (by omega) now)).mono fun v h38 ⟨X3, s38, p1, len1, cap1, ks1, M1, n1, ev, ns1, d1, t1, hl1, kt1⟩ => ⟨_, _, _, ev, ?_⟩
    have hlen := ns1.1
    refine ⟨fun kk L h' => h' = h38 ∧ ∃ (i : Nat) (bz : Bool), L = [.int .i64 i, .bool bz] ∧ kk + i = len1, ⟨len1, rfl, 0, _, rfl, rfl⟩, ?_⟩
    rintro kk x45 b46 h47 ⟨rfl, j, bz, e, hkk⟩
    simp only [List.cons.injEq, Value.int.injEq, Value.bool.injEq, true_and, and_true] at e
    obtain ⟨rfl, rfl⟩ := e
    refine ⟨fun hj => ?_, fun hj => ?_⟩
    · simp only [decide_eq_true_eq] at hj
      have hjn : j < len1 := by omega
      have wr : IntKind.i64.wrap ((j : Int) + 1) = ((j + 1 : Nat) : Int) := by rw [wrap_i64_of (by omega) (by omega)]; rfl
      obtain ⟨A, e1, h1⟩ := (ns1.mono s38.leX).at hjn
      have hg := t1.gone (ks1.getD j 0) (by rw [List.getD_eq_getElem?_getD, List.getElem?_eq_getElem (by omega)]; exact List.getElem_mem _)
      refine ⟨_, e1, by omega, _, by simpa using h1, ?_⟩
      refine (c16 (d1.mono s38.leX) _).mono fun v h51 ⟨ev, e51⟩ => ⟨_, _, ev, ?_⟩
      subst e51
      simp only [List.getD_eq_getElem?_getD] at hg ⊢
      rw [hg]
      exact ⟨fun h => (by cases h), fun _ => ⟨kk - 1, by omega, trivial, j + 1, _, by rw [wr], by omega⟩⟩
    · simp only [decide_eq_false_iff_not] at hj
      refine (c14 (d1.mono s38.leX)).mono fun v h55 ⟨t, any, ev, e55, ni⟩ => ⟨_, _, ev, ?_⟩
      subst e55
      refine (s38.onX (c10' d1 (by omega) now)).mono fun v h59 ⟨X4, s59, p2, len2, cap2, ks2, M2, n2, ev, ns2, d2, t2, hl2, kt2⟩ => ⟨_, _, _, ev, ?_⟩
      obtain ⟨rfl, rfl⟩ := t2.uniq (.done t1.left)
      have z2 : len2 = 0 := ns2.1
      subst z2
      have fin : ∀ x : Int, x = n2 → decide (IntKind.wrap .i64 (x + ((len1 : Nat) : Int)) = ((n23 : Nat) : Int)) = true := fun x hx => by
        subst hx
        rw [wrap_i64_of (by omega) (by omega)]
        simp at hl2
        simp; omega
      refine jBBB ⟨fun _ => ⟨fun _ => ?_, fun ha => ⟨fun _ => ?_, fun hgt => ?_⟩⟩, fun h => by simp at h⟩
      · exact (c11 (d2.mono s59.leX)).mono fun v h65 ⟨ev, e65⟩ => ⟨_, ev, _, _, _, rfl, by rw [fin _ rfl], by rw [e65]; exact s59.leR⟩
      · exact (c11 (d2.mono s59.leX)).mono fun v h65 ⟨ev, e65⟩ => ⟨_, ev, _, _, _, rfl, by rw [fin _ rfl], by rw [e65]; exact s59.leR⟩
      · exfalso
        simp only [Bool.not_eq_false'] at ha
        simp only [decide_eq_false_iff_not] at hgt
        obtain ⟨_, kf, hf⟩ := ni.2 ha
        have := t1.left kf t hf.1
        exact hgt this
end DueP
