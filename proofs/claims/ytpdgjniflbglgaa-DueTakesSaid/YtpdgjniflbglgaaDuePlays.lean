/- Layer 6: the law DuePlays over partial heaps. -/
import Derived.Test.YtpdgjniflbglgaaDueDo
import Derived.Test.YtpdgjniflbglgaaDueOrder
namespace DueP
open Go Lf

/-- A row of operations that is handed in: kind, key, time. -/
def OpsR (h : H) (p : Option Addr) (n : Nat) (g : Nat → Int × Int × Int) : Prop :=
  ∀ i : Nat, i < n → ∃ a, p = some a ∧ cell h ((aidx a 0 i 3).add 0) = some (.int .i64 (g i).1) ∧ cell h ((aidx a 0 i 3).add 1) = some (.int .u64 (g i).2.1) ∧ cell h ((aidx a 0 i 3).add 2) = some (.int .u64 (g i).2.2)

theorem c12 {h : H} (p : Option Addr) {n c : Nat} (hc : n ≤ c) : Spec P 12 #[.slice p n c] h (fun v h' => v = .slice p (min n 200) c ∧ h' = h) := by
  apply s12
  unfold f12
  refine ⟨by omega, ?_, rfl⟩
  rw [sliceP_zero]
  congr 1
  omega

theorem Both.next {X Y : H} {d : Nat} {p : Option Addr} {n c : Nat} {l : List Pair} (b : Both X Y d p n c l) {t : Int} {any : Bool} {x : Int} (ni : NextIs (asM l) n t any)
    (hx : (x = -1 ∧ n = 0) ∨ ∃ i : Nat, x = i ∧ i < n ∧ ∀ j, j < n → leP (l.getD i (0, 0)) (l.getD j (0, 0))) :
    (any = false ∧ x = -1 ∧ t = 0) ∨ (any = true ∧ ∃ i : Nat, x = i ∧ i < n ∧ t = (l.getD i (0, 0)).2) := by
  have hl := b.pr.1
  rcases hx with ⟨h1, h2⟩ | ⟨i, h1, h2, h3⟩
  · left
    cases any with
    | false => exact ⟨rfl, h1, (ni.1 rfl).2⟩
    | true => have := (ni.2 rfl).1; omega
  · right
    cases any with
    | false => have := (ni.1 rfl).1; omega
    | true =>
      obtain ⟨_, k, hf⟩ := ni.2 rfl
      exact ⟨rfl, i, h1, h2, (hf.uniq (first_of b.ko (by omega) fun j hj => h3 j (by omega))).2⟩

theorem duePlays {h : H} {p : Option Addr} {n c : Nat} {g : Nat → Int × Int × Int} (r : OpsR h p n g) (hc : n ≤ c) :
    Spec P 4 #[.slice p n c] h (fun v h' => v = .bool true ∧ Le h h') := by
  apply s4
  unfold f4
  refine ((S3.start h).onX (c6 _)).mono fun v h4 ⟨X, s4, d, ev, dA, _⟩ => ⟨_, ev, ?_⟩
  refine jBB ⟨fun h => (by cases h), fun _ => ?_⟩
  refine (s4.onX (c7 X)).mono fun v h8 ⟨X2, s8, ev, lX⟩ => ⟨true, ev, _, _, rfl, by simp, fun _ => ?_⟩
  refine (c12 p hc).mono fun v h14 ⟨ev, e14⟩ => ⟨_, _, _, ev, ?_⟩
  subst e14
  refine ⟨fun k L h' => ∃ (i : Nat) (p' : Option Addr) (n' c' : Nat) (bz : Bool) (X Y : H) (l : List Pair), L = [.int .i64 i, .slice p' n' c', .bool bz] ∧ k + i = min n 200 ∧ S3 h' X Y h ∧ Both X Y d p' n' c' l ∧ n' ≤ i,
    ⟨min n 200, 0, none, 0, 0, false, X2, _, [], rfl, rfl, s8, ⟨dA.mono lX, Pairs.nil _, List.nodup_nil⟩, Nat.le_refl _⟩, ?_⟩
  rintro k x21 p22 n23 n24 b25 h26 ⟨i, p', n', c', bz, X, Y, l, e, hk, s, b, hni⟩
  simp only [List.cons.injEq, Value.int.injEq, Value.slice.injEq, Value.bool.injEq, true_and, and_true] at e
  obtain ⟨rfl, ⟨rfl, rfl, rfl⟩, rfl⟩ := e
  refine ⟨fun hi => ?_, fun hi => ⟨rfl, s.leR⟩⟩
  simp only [decide_eq_true_eq] at hi
  have hin : i < min n 200 := by omega
  have hk2 : k - 1 + (i + 1) = min n 200 := by omega
  have hk3 : k - 1 < k := by omega
  have wr : IntKind.i64.wrap ((i : Int) + 1) = ((i + 1 : Nat) : Int) := by rw [wrap_i64_of (by omega) (by omega)]; rfl
  obtain ⟨a, e1, h1, h2, h3⟩ := r i (by omega)
  refine ⟨a, e1, by omega, _, cell_le s.leR h1, _, cell_le s.leR h2, _, cell_le s.leR h3, ?_⟩
  refine (c13 s b (by omega) _ _ _).mono fun v h32 ⟨X', Y', p3, n3, c3, l', ev, s32, b32, hn3⟩ => ⟨_, _, _, _, ev, by simp, fun _ => ?_⟩
  refine (c14 (b32.du.mono s32.leX)).mono fun v h38 ⟨t, any, ev, e38, ni⟩ => ⟨_, _, ev, ?_⟩
  subst e38
  refine (c15 (b32.pr.mono s32.leY) (by omega)).mono fun v h42 ⟨e42, x, ev, hx⟩ => ⟨_, ev, ?_⟩
  subst e42
  have go : ∀ {h' : H}, h' = h42 → ∃ j, j < k ∧ ∃ (i' : Nat) (p' : Option Addr) (n' c' : Nat) (bz : Bool) (X Y : H) (l : List Pair), [Value.int .i64 (IntKind.i64.wrap ((i : Int) + 1)), .slice p3 n3 c3, .bool b25] = [.int .i64 i', .slice p' n' c', .bool bz] ∧
      j + i' = min n 200 ∧ S3 h' X Y h ∧ Both X Y d p' n' c' l ∧ n' ≤ i' := fun e => by
    subst e
    exact ⟨k - 1, hk3, i + 1, p3, n3, c3, b25, X', Y', l', by rw [wr], hk2, s32, b32, Nat.le_trans hn3 (Nat.add_le_add_right hni 1)⟩
  rcases b32.next ni hx with ⟨rfl, rfl, rfl⟩ | ⟨rfl, m, rfl, hm, rfl⟩
  · refine jBBBB ⟨fun h => (by simp at h), fun _ => ⟨fun h => (by simp at h), fun _ => ⟨fun _ => ⟨fun h => (by simp at h), fun _ => (c11 (b32.du.mono s32.leX)).mono fun v h' ⟨ev, e⟩ => ?_⟩, fun h => (by simp at h)⟩⟩⟩
    subst e
    exact ⟨_, ev, _, _, _, _, rfl, fun h => (by simp at h), fun _ => go rfl⟩
  · obtain ⟨A, e2, _, h5⟩ := (b32.pr.mono s32.leY).at hm
    refine jBBBB ⟨fun h => (by simp at h), fun _ => ⟨fun _ => ⟨_, e2, by omega, _, by simpa using h5, fun h => (by simp at h), fun _ => ⟨fun h => (by simp at h), fun _ => (c11 (b32.du.mono s32.leX)).mono fun v h' ⟨ev, e⟩ => ?_⟩⟩, fun h => (by simp at h)⟩⟩
    subst e
    exact ⟨_, ev, _, _, _, _, rfl, fun h => (by simp at h), fun _ => go rfl⟩
end DueP
