/- Reading and writing partial heaps: addresses, cells, joins by their continuation. -/
import Derived.Test.YtpdgjniflbglgaaLfSnd8
import Derived.Laws.BitsLemmas
import Derived.Laws.Bits64
namespace Lf
open Go

/-! ### Addresses -/
@[simp] theorem add_mk (b o n : Nat) : (⟨b, o, none⟩ : Addr).add n = ⟨b, o + n, none⟩ := by
  unfold Addr.add; split
  · rename_i h; simp [h]
  · rfl
theorem add_zero (a : Addr) : a.add 0 = a := Addr_add_zero a
@[simp] theorem blk_mk (b : Nat) : blk b = ⟨b, 0, none⟩ := rfl
@[simp] theorem aidx_mk (b o off : Nat) (i : Int) (s : Nat) : aidx ⟨b, o, none⟩ off i s = ⟨b, o + off + i.toNat * s, none⟩ := by
  unfold aidx; rw [add_mk, add_mk]
theorem sliceP_zero (p : Option Addr) (m s : Nat) : sliceP p 0 m s = p := by
  unfold sliceP; split
  · rfl
  · cases p <;> simp [Addr_add_zero]

/-! ### Numbers -/
theorem wrap_i64_of {n : Int} (h1 : -9223372036854775808 ≤ n) (h2 : n < 9223372036854775808) : IntKind.i64.wrap n = n := by
  rw [IntKind.wrap_i64]; omega
theorem wrap_u64_of {n : Int} (h1 : 0 ≤ n) (h2 : n < 18446744073709551616) : IntKind.u64.wrap n = n := by
  rw [IntKind.wrap_u64]; omega

/-! ### Cells -/
section
variable {h : H} {b off : Nat} {c : Array Value} {e : TypeId} {v : Value}

theorem cell_of (hb : h b = some (.cells c e (0, 0))) : cell h ⟨b, off, none⟩ = c[off]? := by
  unfold cell; simp only [hb]; rfl

theorem free_of (hb : h b = some (.cells c e (0, 0))) : free h ⟨b, off, none⟩ = true := by
  unfold free; simp only [hb]; simp

theorem isSet_of (hb : h b = some (.cells c e (0, 0))) (ho : off < c.size) : isSet h ⟨b, off, none⟩ :=
  ⟨by rw [cell_of hb, Array.getElem?_eq_getElem ho]; rfl, free_of hb⟩

theorem hset_same (hb : h b = some (.cells c e (0, 0))) : hset h ⟨b, off, none⟩ v b = some (.cells (c.setIfInBounds off v) e (0, 0)) := by
  unfold hset; simp [hb]

theorem hset_other {b' : Nat} (hne : b' ≠ b) : hset h ⟨b, off, none⟩ v b' = h b' := by
  unfold hset; simp [hne]

theorem hnew_same {o : Obj} : hnew h b o b = some o := by simp [hnew]
theorem hnew_other {b' : Nat} {o : Obj} (hne : b' ≠ b) : hnew h b o b' = h b' := by simp [hnew, hne]
theorem le_hnew {o : Obj} (hb : h b = none) : Le h (hnew h b o) := fun b' o' x => by
  rw [hnew_other]; · exact x
  intro e; subst e; rw [hb] at x; cases x

theorem ne_of {b' : Nat} {o o' : Obj} (h1 : h b = some o) (h2 : h b' = some o') (hne : o ≠ o') : b ≠ b' := by
  intro e; subst e; rw [h1] at h2; exact hne (Option.some.inj h2)
end

/-- Blocks that hold no cells (maps) stay. -/
def KeepM (h h' : H) : Prop := ∀ b es ck, h b = some (.map es ck) → h' b = some (.map es ck)
theorem KeepM.refl (h : H) : KeepM h h := fun _ _ _ x => x
theorem KeepM.trans {a b c : H} (x : KeepM a b) (y : KeepM b c) : KeepM a c := fun p o k h => y p o k (x p o k h)
theorem Le.keepM {h h' : H} (l : Le h h') : KeepM h h' := fun _ _ _ x => l _ _ x
theorem keepM_hset (h : H) (a : Addr) (v : Value) : KeepM h (hset h a v) := fun b es ck x => by
  unfold hset; split
  · simp [x]
  · exact x

/-! ### A join is gone through by what comes behind it -/
theorem jN {A : (List Value → H → Prop) → Prop} {R : H → Prop} (x : A (fun l h => l = [] ∧ R  h)) :
    ∃ I : List Value → H → Prop, A I ∧ (∀ h : H, I [] h → R  h) :=
  ⟨_, x, by rintro  h ⟨e, r⟩; simp only [List.cons.injEq, Value.bool.injEq, Value.int.injEq, Value.slice.injEq, true_and, and_true] at e; exact r⟩

theorem jB {A : (List Value → H → Prop) → Prop} {R : Bool → H → Prop} (x : A (fun l h => ∃ b0 : Bool, l = [.bool b0] ∧ R b0 h)) :
    ∃ I : List Value → H → Prop, A I ∧ (∀ b0 : Bool, ∀ h : H, I [.bool b0] h → R b0 h) :=
  ⟨_, x, by rintro b0 h ⟨_, e, r⟩; simp only [List.cons.injEq, Value.bool.injEq, Value.int.injEq, Value.slice.injEq, true_and, and_true] at e; subst e; exact r⟩

theorem jBB {A : (List Value → H → Prop) → Prop} {R : Bool → Bool → H → Prop} (x : A (fun l h => ∃ b0 : Bool, ∃ b1 : Bool, l = [.bool b0, .bool b1] ∧ R b0 b1 h)) :
    ∃ I : List Value → H → Prop, A I ∧ (∀ b0 : Bool, ∀ b1 : Bool, ∀ h : H, I [.bool b0, .bool b1] h → R b0 b1 h) :=
  ⟨_, x, by rintro b0 b1 h ⟨_, _, e, r⟩; simp only [List.cons.injEq, Value.bool.injEq, Value.int.injEq, Value.slice.injEq, true_and, and_true] at e; obtain ⟨rfl, rfl⟩ := e; exact r⟩

theorem jBBB {A : (List Value → H → Prop) → Prop} {R : Bool → Bool → Bool → H → Prop} (x : A (fun l h => ∃ b0 : Bool, ∃ b1 : Bool, ∃ b2 : Bool, l = [.bool b0, .bool b1, .bool b2] ∧ R b0 b1 b2 h)) :
    ∃ I : List Value → H → Prop, A I ∧ (∀ b0 : Bool, ∀ b1 : Bool, ∀ b2 : Bool, ∀ h : H, I [.bool b0, .bool b1, .bool b2] h → R b0 b1 b2 h) :=
  ⟨_, x, by rintro b0 b1 b2 h ⟨_, _, _, e, r⟩; simp only [List.cons.injEq, Value.bool.injEq, Value.int.injEq, Value.slice.injEq, true_and, and_true] at e; obtain ⟨rfl, rfl, rfl⟩ := e; exact r⟩

theorem jBBBB {A : (List Value → H → Prop) → Prop} {R : Bool → Bool → Bool → Bool → H → Prop} (x : A (fun l h => ∃ b0 : Bool, ∃ b1 : Bool, ∃ b2 : Bool, ∃ b3 : Bool, l = [.bool b0, .bool b1, .bool b2, .bool b3] ∧ R b0 b1 b2 b3 h)) :
    ∃ I : List Value → H → Prop, A I ∧ (∀ b0 : Bool, ∀ b1 : Bool, ∀ b2 : Bool, ∀ b3 : Bool, ∀ h : H, I [.bool b0, .bool b1, .bool b2, .bool b3] h → R b0 b1 b2 b3 h) :=
  ⟨_, x, by rintro b0 b1 b2 b3 h ⟨_, _, _, _, e, r⟩; simp only [List.cons.injEq, Value.bool.injEq, Value.int.injEq, Value.slice.injEq, true_and, and_true] at e; obtain ⟨rfl, rfl, rfl, rfl⟩ := e; exact r⟩

theorem jBBBBB {A : (List Value → H → Prop) → Prop} {R : Bool → Bool → Bool → Bool → Bool → H → Prop} (x : A (fun l h => ∃ b0 : Bool, ∃ b1 : Bool, ∃ b2 : Bool, ∃ b3 : Bool, ∃ b4 : Bool, l = [.bool b0, .bool b1, .bool b2, .bool b3, .bool b4] ∧ R b0 b1 b2 b3 b4 h)) :
    ∃ I : List Value → H → Prop, A I ∧ (∀ b0 : Bool, ∀ b1 : Bool, ∀ b2 : Bool, ∀ b3 : Bool, ∀ b4 : Bool, ∀ h : H, I [.bool b0, .bool b1, .bool b2, .bool b3, .bool b4] h → R b0 b1 b2 b3 b4 h) :=
  ⟨_, x, by rintro b0 b1 b2 b3 b4 h ⟨_, _, _, _, _, e, r⟩; simp only [List.cons.injEq, Value.bool.injEq, Value.int.injEq, Value.slice.injEq, true_and, and_true] at e; obtain ⟨rfl, rfl, rfl, rfl, rfl⟩ := e; exact r⟩

theorem jBBBBBB {A : (List Value → H → Prop) → Prop} {R : Bool → Bool → Bool → Bool → Bool → Bool → H → Prop} (x : A (fun l h => ∃ b0 : Bool, ∃ b1 : Bool, ∃ b2 : Bool, ∃ b3 : Bool, ∃ b4 : Bool, ∃ b5 : Bool, l = [.bool b0, .bool b1, .bool b2, .bool b3, .bool b4, .bool b5] ∧ R b0 b1 b2 b3 b4 b5 h)) :
    ∃ I : List Value → H → Prop, A I ∧ (∀ b0 : Bool, ∀ b1 : Bool, ∀ b2 : Bool, ∀ b3 : Bool, ∀ b4 : Bool, ∀ b5 : Bool, ∀ h : H, I [.bool b0, .bool b1, .bool b2, .bool b3, .bool b4, .bool b5] h → R b0 b1 b2 b3 b4 b5 h) :=
  ⟨_, x, by rintro b0 b1 b2 b3 b4 b5 h ⟨_, _, _, _, _, _, e, r⟩; simp only [List.cons.injEq, Value.bool.injEq, Value.int.injEq, Value.slice.injEq, true_and, and_true] at e; obtain ⟨rfl, rfl, rfl, rfl, rfl, rfl⟩ := e; exact r⟩

theorem jI {A : (List Value → H → Prop) → Prop} {R : Int → H → Prop} (x : A (fun l h => ∃ x0 : Int, l = [.int .i64 x0] ∧ R x0 h)) :
    ∃ I : List Value → H → Prop, A I ∧ (∀ x0 : Int, ∀ h : H, I [.int .i64 x0] h → R x0 h) :=
  ⟨_, x, by rintro x0 h ⟨_, e, r⟩; simp only [List.cons.injEq, Value.bool.injEq, Value.int.injEq, Value.slice.injEq, true_and, and_true] at e; subst e; exact r⟩

theorem jS {A : (List Value → H → Prop) → Prop} {R : Option Addr → Nat → Nat → H → Prop} (x : A (fun l h => ∃ p0 : Option Addr, ∃ n0 : Nat, ∃ c0 : Nat, l = [.slice p0 n0 c0] ∧ R p0 n0 c0 h)) :
    ∃ I : List Value → H → Prop, A I ∧ (∀ p0 : Option Addr, ∀ n0 : Nat, ∀ c0 : Nat, ∀ h : H, I [.slice p0 n0 c0] h → R p0 n0 c0 h) :=
  ⟨_, x, by rintro p0 n0 c0 h ⟨_, _, _, e, r⟩; simp only [List.cons.injEq, Value.bool.injEq, Value.int.injEq, Value.slice.injEq, true_and, and_true] at e; obtain ⟨rfl, rfl, rfl⟩ := e; exact r⟩

end Lf
