/- Three parts of a heap, each apart from the others. -/
import Derived.Test.YtpdgjniflbglgaaLfHide
namespace Lf
open Go
variable {P : Program}

def S3 (h X Y R : H) : Prop := h = join X (join Y R) ∧ Apart X (join Y R) ∧ Apart Y R

theorem S3.start (h : H) : S3 h (fun _ => none) (fun _ => none) h := ⟨by funext b; rfl, fun b => .inl rfl, fun b => .inl rfl⟩

theorem S3.swap {h X Y R : H} (s : S3 h X Y R) : S3 h Y X R := by
  obtain ⟨e, a1, a2⟩ := s
  have ax : ∀ b, X b = none ∨ (Y b = none ∧ R b = none) := fun b => (a1 b).imp id fun h => join_none.1 h
  refine ⟨?_, fun b => ?_, fun b => (ax b).imp id fun h => h.2⟩
  · rw [e]; funext b
    unfold join
    rcases ax b with h | ⟨h, h'⟩
    · simp [h]
    · simp only [h]
  · rcases a2 b with h | h
    · exact .inl h
    · rcases ax b with h' | ⟨h', _⟩
      · exact .inr (join_none.2 ⟨h', h⟩)
      · exact .inl h'

theorem S3.onX {f : FuncId} {args : Array Value} {h X Y R : H} {Q : Value → H → Prop} (s : S3 h X Y R) (c : Spec P f args X Q) : Spec P f args h fun v h' => ∃ X', S3 h' X' Y R ∧ Q v X' := by
  obtain ⟨e, a1, a2⟩ := s
  rw [e]
  exact (c.frame a1).mono fun v h' ⟨X', e', a', q⟩ => ⟨X', ⟨e', a', a2⟩, q⟩

theorem S3.onY {f : FuncId} {args : Array Value} {h X Y R : H} {Q : Value → H → Prop} (s : S3 h X Y R) (c : Spec P f args Y Q) : Spec P f args h fun v h' => ∃ Y', S3 h' X Y' R ∧ Q v Y' :=
  (s.swap.onX c).mono fun v h' ⟨Y', s', q⟩ => ⟨Y', s'.swap, q⟩

theorem S3.leX {h X Y R : H} (s : S3 h X Y R) : Le X h := s.1 ▸ Le.join_left _ _
theorem S3.leY {h X Y R : H} (s : S3 h X Y R) : Le Y h := s.swap.leX
theorem S3.leR {h X Y R : H} (s : S3 h X Y R) : Le R h := by
  obtain ⟨e, a1, a2⟩ := s
  rw [e]; exact (join_right a2).trans (join_right a1)

/-- Cells seen stay seen. -/
theorem cell_le {h h' : H} (l : Le h h') {a : Addr} {v : Value} (c : cell h a = some v) : cell h' a = some v := by
  unfold cell at *
  split at c
  · rename_i x hb; rw [l _ _ hb]; exact c
  · cases c
end Lf
