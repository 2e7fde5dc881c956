/- Layer 6: container/heap over the rows: Pop, Push, Remove. -/
import Derived.Test.YtpdgjniflbglgaaDueHeap
import Derived.Test.YtpdgjniflbglgaaLfMap
import Derived.KernelRfl
namespace DueP
open Go Lf
variable {h : H} {d : Nat} {mv : Value} {N n : Nat} {f : Nat → E} {sp : Option Nat} {cap : Nat}

theorem u49 : P.underlying 49 = some (.slice 52) := by kernel_rfl
theorem s52 : sizeO P 52 = some 1 := by kernel_rfl
theorem z52 : zeroOf P 52 = some (.pointer none) := by kernel_rfl
theorem b52 : (P.info? 52).map (·.bytes) = some 8 := by kernel_rfl

theorem Row.short (r : Row h d mv (n + 1) f sp cap) {h' : H} (hd : h' d = some (.cells #[.slice (sp.map fun A => ⟨A, 0, none⟩) n cap, mv] 51 (0, 0))) (ho : ∀ b, b ≠ d → h' b = h b) :
    Row h' d mv n f sp cap where
  dues := hd
  arr A hA := by
    obtain ⟨c, h1, h2, h3⟩ := r.arr A hA
    exact ⟨c, by rw [ho A (ne_of h1 r.dues (by simp))]; exact h1, h2, fun i hi => h3 i (by omega)⟩
  nil e := by have := r.nil e; omega
  le := by have := r.le; omega
  ent i hi := by rw [ho _ (ne_of (r.ent i (by omega)) r.dues (by simp))]; exact r.ent i (by omega)
  inj i j hi hj e := r.inj i j (by omega) (by omega) e

theorem c48 (r : Row h d mv (n + 1) f sp cap) (hN : n < 2 ^ 40) :
    Spec P 48 #[.pointer (some ⟨d, 0, none⟩)] h (fun v h' => v = .iface 52 (.pointer (some ⟨(f n).b, 0, none⟩)) ∧ Row h' d mv n f sp cap ∧ KeepM h h' ∧ ∀ b, b ≠ d → h' b = h b) := by
  apply s48 (a0 := ⟨d, 0, none⟩)
  unfold f48
  obtain ⟨A, c, rfl, hA, hc, hp⟩ := r.has (show 0 < n + 1 by omega)
  have hw : IntKind.i64.wrap (((n + 1 : Nat) : Int) - 1) = (n : Int) := by rw [wrap_i64_of (by omega) (by omega)]; omega
  have le := r.le
  refine ⟨_, _, _, r.cell0, _, rfl, by rw [hw]; omega, _, by rw [hw]; simp [cell_of hA]; exact hp n (by omega), by rw [hw]; omega, by simpa using isSet_of r.dues (by simp), fun h6 e6 => ⟨rfl, ?_, ?_, ?_⟩⟩
  · refine r.short ?_ fun b hb => by rw [e6]; simp only [add_mk]; rw [hset_other hb]
    rw [e6, hw]
    simp only [add_mk, sliceP_zero]
    rw [hset_same r.dues]
    simp
  · rw [e6]; exact keepM_hset _ _ _
  · intro b hb; rw [e6]; simp only [add_mk]; rw [hset_other hb]

/-- One more entry behind the others. -/
def snoc (f : Nat → E) (n : Nat) (e : E) : Nat → E := fun x => if x = n then e else f x

theorem c49 (r : Row h d mv n f sp cap) (hN : n < 2 ^ 40 - 1) {e : E} {pl : Int} (he : h e.b = some (.cells #[.int .u64 e.k, .int .u64 e.t, .int .i64 pl] 55 (0, 0))) (hne : ∀ i, i < n → (f i).b ≠ e.b) :
    Spec P 49 #[.pointer (some ⟨d, 0, none⟩), .iface 52 (.pointer (some ⟨e.b, 0, none⟩))] h
      (fun v h' => v = .tuple #[] ∧ (∃ sp' cap', Row h' d mv (n + 1) (snoc f n e) sp' cap') ∧ KeepM h h') := by
  apply s49 (a0 := ⟨d, 0, none⟩)
  unfold f49
  refine ⟨_, _, _, r.cell0, _, rfl, by simpa using isSet_of he (by simp), fun h6 e6 => ?_⟩
  have ned : e.b ≠ d := ne_of he r.dues (by simp)
  have o6 : ∀ b, b ≠ e.b → h6 b = h b := fun b hb => by rw [e6]; simp only [add_mk]; rw [hset_other hb]
  have he6 : h6 e.b = some (.cells #[.int .u64 e.k, .int .u64 e.t, .int .i64 n] 55 (0, 0)) := by
    rw [e6]; simp only [add_mk]; rw [hset_same he]; rfl
  have r6 : Row h6 d mv n f sp cap := {
    dues := by rw [o6 d (Ne.symm ned)]; exact r.dues
    arr := fun A hA => by
      obtain ⟨c, h1, h2, h3⟩ := r.arr A hA
      exact ⟨c, by rw [o6 A (ne_of h1 he (by simp))]; exact h1, h2, h3⟩
    nil := r.nil, le := r.le
    ent := fun i hi => by rw [o6 _ (hne i hi)]; exact r.ent i hi
    inj := r.inj }
  refine ⟨_, _, _, r6.cell0, fun n10 hn10 h11 e11 => ?_⟩
  have l11 : Le h6 h11 := e11 ▸ le_hnew hn10
  have r11 := r6.mono l11
  have ha : Arr h11 52 1 (sp.map fun A => ⟨A, 0, none⟩) n cap (fun i => .pointer (some ⟨(f i).b, 0, none⟩)) := {
    le := r.le
    nil := fun e => (r.nil (by cases sp <;> simp_all)).2
    arr := fun a e => by
      cases sp with
      | none => cases e
      | some A =>
        simp only [Option.map_some, Option.some.injEq] at e; subst e
        obtain ⟨c, h1, h2, h3⟩ := r11.arr A rfl
        exact ⟨A, c, rfl, h1, by omega, fun i hi => h3 i (by omega)⟩ }
  have hB : h11 n10 = some (.cells #[.pointer (some ⟨e.b, 0, none⟩)] 52 (0, 0)) := by rw [e11, hnew_same]
  refine append_run (bytes := 8) (y := fun _ => .pointer (some ⟨e.b, 0, none⟩)) u49 u49 s52 z52 rfl b52 (by omega) (by omega) ha
    (.inr ⟨n10, 52, _, by simp, hB, by simp, fun i hi => by have : i = 0 := by omega
                                                            subst this; rfl⟩) (fun _ _ => rfl) fun h13 p13 cap13 ha13 ka _ => ?_
  refine ⟨_, _, _, rfl, ?_⟩
  -- the blocks that stay
  have stay : ∀ b o, h11 b = some o → (∀ c, o ≠ .cells c 52 (0, 0)) → h13 b = some o := fun b o hb hne => ka b o hb fun off e' => by
    obtain ⟨A, c, e1, h1, _⟩ := ha.arr _ e'
    simp only [Addr.mk.injEq] at e1
    rw [e1.1, h1] at hb
    exact hne c (Option.some.inj hb).symm
  have hd13 := stay d _ r11.dues (by simp)
  refine ⟨by simpa using isSet_of hd13 (by simp), fun h17 e17 => ⟨rfl, ?_, ?_⟩⟩
  · obtain ⟨A', hp13⟩ : ∃ A', p13 = some ⟨A', 0, none⟩ := by
      cases hp : p13 with
      | none => have h1 := ha13.nil hp; have h2 := ha13.le; omega
      | some a => obtain ⟨A', c, e1, _⟩ := ha13.arr a hp; exact ⟨A', by rw [e1]⟩
    obtain ⟨A2, c', e1, h1, h2, h3⟩ := ha13.arr _ hp13
    simp only [Addr.mk.injEq, and_true] at e1
    subst e1
    have o17 : ∀ b, b ≠ d → h17 b = h13 b := fun b hb => by rw [e17]; simp only [add_mk]; rw [hset_other hb]
    have nA : A' ≠ d := ne_of h1 hd13 (by simp)
    refine ⟨some A', cap13, ?_⟩
    exact {
      dues := by rw [e17]; simp only [add_mk]; rw [hset_same hd13, hp13]; rfl
      arr := fun A hA => by
        cases hA
        refine ⟨c', by rw [o17 A' nA]; exact h1, by omega, fun i hi => ?_⟩
        have := h3 i (by omega)
        rw [this]
        unfold snoc
        by_cases e2 : i = n
        · subst e2; rw [if_pos rfl, if_neg (by omega)]
        · rw [if_neg e2, if_pos (by omega)]
      nil := fun e => by cases e
      le := ha13.le
      ent := fun i hi => by
        unfold snoc
        by_cases e2 : i = n
        · subst e2; rw [if_pos rfl, o17 _ ned]
          exact stay _ _ (l11 _ _ he6) (by simp)
        · rw [if_neg e2, o17 _ (ne_of (r.ent i (by omega)) r.dues (by simp))]
          exact stay _ _ (r11.ent i (by omega)) (by simp)
      inj := fun i j hi hj e2 => by
        unfold snoc at e2
        by_cases e3 : i = n <;> by_cases e4 : j = n <;> simp only [e3, e4, if_true, if_false] at e2
        · omega
        · exact absurd e2.symm (hne j (by omega))
        · exact absurd e2 (hne i (by omega))
        · exact r.inj i j (by omega) (by omega) e2 }
  · intro b es ck hb
    have h1 : h6 b = some (.map es ck) := by rw [e6]; exact keepM_hset _ _ _ _ _ _ hb
    have h2 := stay b _ (l11 _ _ h1) (by simp)
    rw [e17]; exact keepM_hset _ _ _ _ _ _ h2
end DueP
