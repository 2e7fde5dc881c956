/- Calls beside blocks of some types: these stay. -/
import Derived.Test.YtpdgjniflbglgaaLfMap
namespace Lf
open Go
variable {P : Program}

def isT (T : TypeId → Bool) (h : H) (b : Nat) : Bool :=
  match h b with
  | some (.cells _ e _) => T e
  | _ => false

def hide (T : TypeId → Bool) (h : H) : H := fun b => if isT T h b then none else h b

theorem hide_cells {T : TypeId → Bool} {h : H} {b : Nat} {c : Array Value} {e : TypeId} {fr : Nat × Nat} (hb : h b = some (.cells c e fr)) (hT : T e = false) : hide T h b = some (.cells c e fr) := by
  unfold hide isT; simp [hb, hT]

theorem hide_map {T : TypeId → Bool} {h : H} {b : Nat} {es : Array MapEntry} {ck : Nat} (hb : h b = some (.map es ck)) : hide T h b = some (.map es ck) := by
  unfold hide isT; simp [hb]

theorem hide_le (T : TypeId → Bool) (h : H) : Le (hide T h) h := fun b o x => by
  unfold hide at x; split at x
  · cases x
  · exact x

/-- What a call leaves that does not know of some blocks. -/
def KeepT (T : TypeId → Bool) (h h' : H) : Prop := ∀ b c e fr, T e = true → h b = some (.cells c e fr) → h' b = some (.cells c e fr)

theorem KeepT.refl (T : TypeId → Bool) (h : H) : KeepT T h h := fun _ _ _ _ _ x => x
theorem KeepT.trans {T : TypeId → Bool} {a b c : H} (x : KeepT T a b) (y : KeepT T b c) : KeepT T a c := fun p q e f hT h => y p q e f hT (x p q e f hT h)
theorem Le.keepT {T : TypeId → Bool} {h h' : H} (l : Le h h') : KeepT T h h' := fun _ _ _ _ _ x => l _ _ x

theorem Spec.hide {f : FuncId} {args : Array Value} {h : H} {R : Value → H → Prop} (T : TypeId → Bool) (s : Spec P f args (Lf.hide T h) R) :
    Spec P f args h fun v h' => ∃ h1, R v h1 ∧ Le h1 h' ∧ KeepT T h h' := by
  have ap : Apart (Lf.hide T h) (fun b => if isT T h b then h b else none) := fun b => by
    unfold Lf.hide; by_cases e : isT T h b = true <;> simp [e]
  have ej : join (Lf.hide T h) (fun b => if isT T h b then h b else none) = h := by
    funext b; unfold join Lf.hide
    by_cases e : isT T h b = true
    · simp [e]
    · simp [e]; cases h b <;> rfl
  have := s.frame ap
  rw [ej] at this
  refine this.mono fun v h' ⟨h1, e, ap', r⟩ => ⟨h1, r, e ▸ Le.join_left _ _, fun b c e' fr hT hb => ?_⟩
  rw [e]
  refine join_right ap' b _ ?_
  have : isT T h b = true := by unfold isT; simp [hb, hT]
  simp [this, hb]

theorem Arr.keepT {T : TypeId → Bool} {h h' : H} {elem size : Nat} {p : Option Addr} {len cap : Nat} {g : Nat → Value} (r : Arr h elem size p len cap g) (k : KeepT T h h') (hT : T elem = true) : Arr h' elem size p len cap g :=
  ⟨r.le, r.nil, fun a e => let ⟨A, c, e1, x, y⟩ := r.arr a e; ⟨A, c, e1, k _ _ _ _ hT x, y⟩⟩

/-- Growing touches blocks of its own type alone. -/
theorem KeepA.keepT {T : TypeId → Bool} {h h' : H} {elem size : Nat} {p : Option Addr} {len cap : Nat} {g : Nat → Value} (k : KeepA p h h') (r : Arr h elem size p len cap g) (hT : T elem = false) : KeepT T h h' := fun b c e fr hTe hb =>
  k b _ hb fun off e' => by
    obtain ⟨A, c', e1, h1, _⟩ := r.arr _ e'
    simp only [Addr.mk.injEq] at e1
    rw [e1.1, h1] at hb
    cases hb
    rw [hT] at hTe; cases hTe

theorem KeepA.keepM {h h' : H} {elem size : Nat} {p : Option Addr} {len cap : Nat} {g : Nat → Value} (k : KeepA p h h') (r : Arr h elem size p len cap g) : KeepM h h' := fun b es ck hb =>
  k b _ hb fun off e' => by
    obtain ⟨A, c', e1, h1, _⟩ := r.arr _ e'
    simp only [Addr.mk.injEq] at e1
    rw [e1.1, h1] at hb
    cases hb

theorem KeepA.le {h0 h h' : H} {p : Option Addr} (k : KeepA p h h') (l : Le h0 h) (hp : ∀ A off, p = some ⟨A, off, none⟩ → h0 A = none) : Le h0 h' := fun b o hb =>
  k b o (l b o hb) fun off e => by rw [hp b off e] at hb; cases hb
end Lf
