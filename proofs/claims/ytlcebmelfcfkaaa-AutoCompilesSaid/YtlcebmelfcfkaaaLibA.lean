/- Reading and writing partial heaps: addresses, cells, joins by their continuation. -/
import Derived.Test.YtlcebmelfcfkaaaLfSnd8
import Derived.Laws.BitsLemmas
import Derived.Laws.Bits64
namespace Lf
open Go

/-! ### Addresses -/
@[simp] theorem add_mk (b o n : Nat) : (⟨b, o, none⟩ : Addr).add n = ⟨b, o + n, none⟩ := by
  unfold Addr.add; split
  · rename_i h; simp [h]
  · rfl
theorem add_zero (a : Addr) : a.add 0 = a := Addr_add_zero a
@[simp] theorem blk_mk (b : Nat) : blk b = ⟨b, 0, none⟩ := rfl
@[simp] theorem aidx_mk (b o off : Nat) (i : Int) (s : Nat) : aidx ⟨b, o, none⟩ off i s = ⟨b, o + off + i.toNat * s, none⟩ := by
  unfold aidx; rw [add_mk, add_mk]
theorem sliceP_zero (p : Option Addr) (m s : Nat) : sliceP p 0 m s = p := by
  unfold sliceP; split
  · rfl
  · cases p <;> simp [Addr_add_zero]

/-! ### Numbers -/
theorem wrap_i64_of {n : Int} (h1 : -9223372036854775808 ≤ n) (h2 : n < 9223372036854775808) : IntKind.i64.wrap n = n := by
  rw [IntKind.wrap_i64]; omega
theorem wrap_u64_of {n : Int} (h1 : 0 ≤ n) (h2 : n < 18446744073709551616) : IntKind.u64.wrap n = n := by
  rw [IntKind.wrap_u64]; omega

/-! ### Cells -/
section
variable {h : H} {b off : Nat} {c : Array Value} {e : TypeId} {v : Value}

theorem cell_of (hb : h b = some (.cells c e (0, 0))) : cell h ⟨b, off, none⟩ = c[off]? := by
  unfold cell; simp only [hb]; rfl

theorem free_of (hb : h b = some (.cells c e (0, 0))) : free h ⟨b, off, none⟩ = true := by
  unfold free; simp only [hb]; simp

theorem isSet_of (hb : h b = some (.cells c e (0, 0))) (ho : off < c.size) : isSet h ⟨b, off, none⟩ :=
  ⟨by rw [cell_of hb, Array.getElem?_eq_getElem ho]; rfl, free_of hb⟩

theorem hset_same (hb : h b = some (.cells c e (0, 0))) : hset h ⟨b, off, none⟩ v b = some (.cells (c.setIfInBounds off v) e (0, 0)) := by
  unfold hset; simp [hb]

theorem hset_other {b' : Nat} (hne : b' ≠ b) : hset h ⟨b, off, none⟩ v b' = h b' := by
  unfold hset; simp [hne]

theorem hnew_same {o : Obj} : hnew h b o b = some o := by simp [hnew]
theorem hnew_other {b' : Nat} {o : Obj} (hne : b' ≠ b) : hnew h b o b' = h b' := by simp [hnew, hne]
theorem le_hnew {o : Obj} (hb : h b = none) : Le h (hnew h b o) := fun b' o' x => by
  rw [hnew_other]; · exact x
  intro e; subst e; rw [hb] at x; cases x

theorem ne_of {b' : Nat} {o o' : Obj} (h1 : h b = some o) (h2 : h b' = some o') (hne : o ≠ o') : b ≠ b' := by
  intro e; subst e; rw [h1] at h2; exact hne (Option.some.inj h2)
end

/-- Blocks that hold no cells (maps) stay. -/
def KeepM (h h' : H) : Prop := ∀ b es ck, h b = some (.map es ck) → h' b = some (.map es ck)
theorem KeepM.refl (h : H) : KeepM h h := fun _ _ _ x => x
theorem KeepM.trans {a b c : H} (x : KeepM a b) (y : KeepM b c) : KeepM a c := fun p o k h => y p o k (x p o k h)
theorem Le.keepM {h h' : H} (l : Le h h') : KeepM h h' := fun _ _ _ x => l _ _ x
theorem keepM_hset (h : H) (a : Addr) (v : Value) : KeepM h (hset h a v) := fun b es ck x => by
  unfold hset; split
  · simp [x]
  · exact x

/-! ### A join is gone through by what comes behind it -/
theorem jN {A : (List Value → H → Prop) → Prop} {R : H → Prop} (x : A (fun l h => l = [] ∧ R  h)) :
    ∃ I : List Value → H → Prop, A I ∧ (∀ h : H, I [] h → R  h) :=
  ⟨_, x, by rintro  h ⟨e, r⟩; simp only [List.cons.injEq, Value.bool.injEq, Value.int.injEq, Value.slice.injEq, true_and, and_true] at e; exact r⟩

theorem jB {A : (List Value → H → Prop) → Prop} {R : Bool → H → Prop} (x : A (fun l h => ∃ b0 : Bool, l = [.bool b0] ∧ R b0 h)) :
    ∃ I : List Value → H → Prop, A I ∧ (∀ b0 : Bool, ∀ h : H, I [.bool b0] h → R b0 h) :=
  ⟨_, x, by rintro b0 h ⟨_, e, r⟩; simp only [List.cons.injEq, Value.bool.injEq, Value.int.injEq, Value.slice.injEq, true_and, and_true] at e; subst e; exact r⟩

theorem jBB {A : (List Value → H → Prop) → Prop} {R : Bool → Bool → H → Prop} (x : A (fun l h => ∃ b0 : Bool, ∃ b1 : Bool, l = [.bool b0, .bool b1] ∧ R b0 b1 h)) :
    ∃ I : List Value → H → Prop, A I ∧ (∀ b0 : Bool, ∀ b1 : Bool, ∀ h : H, I [.bool b0, .bool b1] h → R b0 b1 h) :=
  ⟨_, x, by rintro b0 b1 h ⟨_, _, e, r⟩; simp only [List.cons.injEq, Value.bool.injEq, Value.int.injEq, Value.slice.injEq, true_and, and_true] at e; obtain ⟨rfl, rfl⟩ := e; exact r⟩

theorem jBBB {A : (List Value → H → Prop) → Prop} {R : Bool → Bool → Bool → H → Prop} (x : A (fun l h => ∃ b0 : Bool, ∃ b1 : Bool, ∃ b2 : Bool, l = [.bool b0, .bool b1, .bool b2] ∧ R b0 b1 b2 h)) :
    ∃ I : List Value → H → Prop, A I ∧ (∀ b0 : Bool, ∀ b1 : Bool, ∀ b2 : Bool, ∀ h : H, I [.bool b0, .bool b1, .bool b2] h → R b0 b1 b2 h) :=
  ⟨_, x, by rintro b0 b1 b2 h ⟨_, _, _, e, r⟩; simp only [List.cons.injEq, Value.bool.injEq, Value.int.injEq, Value.slice.injEq, true_and, and_true] at e; obtain ⟨rfl, rfl, rfl⟩ := e; exact r⟩

theorem jBBBB {A : (List Value → H → Prop) → Prop} {R : Bool → Bool → Bool → Bool → H → Prop} (x : A (fun l h => ∃ b0 : Bool, ∃ b1 : Bool, ∃ b2 : Bool, ∃ b3 : Bool, l = [.bool b0, .bool b1, .bool b2, .bool b3] ∧ R b0 b1 b2 b3 h)) :
    ∃ I : List Value → H → Prop, A I ∧ (∀ b0 : Bool, ∀ b1 : Bool, ∀ b2 : Bool, ∀ b3 : Bool, ∀ h : H, I [.bool b0, .bool b1, .bool b2, .bool b3] h → R b0 b1 b2 b3 h) :=
  ⟨_, x, by rintro b0 b1 b2 b3 h ⟨_, _, _, _, e, r⟩; simp only [List.cons.injEq, Value.bool.injEq, Value.int.injEq, Value.slice.injEq, true_and, and_true] at e; obtain ⟨rfl, rfl, rfl, rfl⟩ := e; exact r⟩

theorem jBBBBB {A : (List Value → H → Prop) → Prop} {R : Bool → Bool → Bool → Bool → Bool → H → Prop} (x : A (fun l h => ∃ b0 : Bool, ∃ b1 : Bool, ∃ b2 : Bool, ∃ b3 : Bool, ∃ b4 : Bool, l = [.bool b0, .bool b1, .bool b2, .bool b3, .bool b4] ∧ R b0 b1 b2 b3 b4 h)) :
    ∃ I : List Value → H → Prop, A I ∧ (∀ b0 : Bool, ∀ b1 : Bool, ∀ b2 : Bool, ∀ b3 : Bool, ∀ b4 : Bool, ∀ h : H, I [.bool b0, .bool b1, .bool b2, .bool b3, .bool b4] h → R b0 b1 b2 b3 b4 h) :=
  ⟨_, x, by rintro b0 b1 b2 b3 b4 h ⟨_, _, _, _, _, e, r⟩; simp only [List.cons.injEq, Value.bool.injEq, Value.int.injEq, Value.slice.injEq, true_and, and_true] at e; obtain ⟨rfl, rfl, rfl, rfl, rfl⟩ := e; exact r⟩

theorem jBBBBBB {A : (List Value → H → Prop) → Prop} {R : Bool → Bool → Bool → Bool → Bool → Bool → H → Prop} (x : A (fun l h => ∃ b0 : Bool, ∃ b1 : Bool, ∃ b2 : Bool, ∃ b3 : Bool, ∃ b4 : Bool, ∃ b5 : Bool, l = [.bool b0, .bool b1, .bool b2, .bool b3, .bool b4, .bool b5] ∧ R b0 b1 b2 b3 b4 b5 h)) :
    ∃ I : List Value → H → Prop, A I ∧ (∀ b0 : Bool, ∀ b1 : Bool, ∀ b2 : Bool, ∀ b3 : Bool, ∀ b4 : Bool, ∀ b5 : Bool, ∀ h : H, I [.bool b0, .bool b1, .bool b2, .bool b3, .bool b4, .bool b5] h → R b0 b1 b2 b3 b4 b5 h) :=
  ⟨_, x, by rintro b0 b1 b2 b3 b4 b5 h ⟨_, _, _, _, _, _, e, r⟩; simp only [List.cons.injEq, Value.bool.injEq, Value.int.injEq, Value.slice.injEq, true_and, and_true] at e; obtain ⟨rfl, rfl, rfl, rfl, rfl, rfl⟩ := e; exact r⟩

theorem jI {A : (List Value → H → Prop) → Prop} {R : Int → H → Prop} (x : A (fun l h => ∃ x0 : Int, l = [.int .i64 x0] ∧ R x0 h)) :
    ∃ I : List Value → H → Prop, A I ∧ (∀ x0 : Int, ∀ h : H, I [.int .i64 x0] h → R x0 h) :=
  ⟨_, x, by rintro x0 h ⟨_, e, r⟩; simp only [List.cons.injEq, Value.bool.injEq, Value.int.injEq, Value.slice.injEq, true_and, and_true] at e; subst e; exact r⟩

theorem jS {A : (List Value → H → Prop) → Prop} {R : Option Addr → Nat → Nat → H → Prop} (x : A (fun l h => ∃ p0 : Option Addr, ∃ n0 : Nat, ∃ c0 : Nat, l = [.slice p0 n0 c0] ∧ R p0 n0 c0 h)) :
    ∃ I : List Value → H → Prop, A I ∧ (∀ p0 : Option Addr, ∀ n0 : Nat, ∀ c0 : Nat, ∀ h : H, I [.slice p0 n0 c0] h → R p0 n0 c0 h) :=
  ⟨_, x, by rintro p0 n0 c0 h ⟨_, _, _, e, r⟩; simp only [List.cons.injEq, Value.bool.injEq, Value.int.injEq, Value.slice.injEq, true_and, and_true] at e; obtain ⟨rfl, rfl, rfl⟩ := e; exact r⟩

end Lf

/- Slices that grow: append over partial heaps. -/
namespace Lf
open Go
variable {P : Program}

theorem RunL.of_run {α : Type} {s : Sem α} {h : H} {x : α} {K : α → H → Prop} (r : ∀ W, Sub h W → s.run P W = .ok x W) (k : K x h) : RunL P s h K :=
  fun W sw => ⟨x, W, h, r W sw, sw, Frame.refl _ _, k⟩

theorem RunL.under {t : TypeId} {dd : TypeDesc} {h : H} {K : TypeDesc → H → Prop} (hu : P.underlying t = some dd) (k : K dd h) : RunL P (underlying t) h K :=
  RunL.of_run (fun W _ => run_under hu W) k
theorem RunL.sizeOf {t n : Nat} {h : H} {K : Nat → H → Prop} (hs : sizeO P t = some n) (k : K n h) : RunL P (Go.sizeOf t) h K :=
  RunL.of_run (fun W _ => run_size hs W) k
theorem RunL.zero {t : Nat} {z : Value} {h : H} {K : Value → H → Prop} (hz : zeroOf P t = some z) (k : K z h) : RunL P (zeroValue t) h K :=
  RunL.of_run (fun W _ => run_zero hz W) k
theorem RunL.info {t : TypeId} {i : TypeInfo} {h : H} {K : TypeInfo → H → Prop} (hi : P.info? t = some i) (k : K i h) : RunL P (typeInfo t) h K :=
  RunL.of_run (fun W _ => run_info hi W) k

/-- The first n cells of a block. -/
theorem RunL.loadCells {A n : Nat} {c : Array Value} {e : TypeId} {h : H} {K : Array Value → H → Prop} (hA : h A = some (.cells c e (0, 0))) (hn : n ≤ c.size) (k : K (c.extract 0 n) h) :
    RunL P (Go.loadCells ⟨A, 0, none⟩ n) h K := by
  refine RunL.of_run (x := c.extract 0 n) (fun W sw => ?_) k
  have := run_loadCells (P := P) ⟨A, 0, none⟩ W n (c.toList.take n) (by simp; omega) (fun j v hj => by
    rw [add_mk]
    refine sw.cell ?_
    rw [cell_of hA, Nat.zero_add]
    rw [List.getElem?_take] at hj
    split at hj
    · simpa using hj
    · cases hj)
  rw [this]
  congr 1
  apply Array.ext'
  simp [List.extract_eq_take_drop]

theorem RunL.storeCells {A : Nat} {e : TypeId} {off : Nat} : ∀ (vs : List Value) (i : Nat) (c : Array Value) (h : H) (K : Unit → H → Prop), h A = some (.cells c e (0, 0)) → off + i + vs.length ≤ c.size → (∀ v ∈ vs, v.oneCell = true) →
    (∀ h' c', h' A = some (.cells c' e (0, 0)) → c'.size = c.size → (∀ j, c'[j]? = if off + i ≤ j ∧ j < off + i + vs.length then vs[j - (off + i)]? else c[j]?) → (∀ b, b ≠ A → h' b = h b) → K () h') →
    RunL P (Go.storeCells ⟨A, off, none⟩ vs i) h K
  | [], i, c, h, K, hA, _, _, k => by
    simp only [Go.storeCells]
    refine RunL.pure (k h c hA rfl (fun j => ?_) (fun _ _ => rfl))
    rw [if_neg (by simp)]
  | v :: vs, i, c, h, K, hA, hl, ho, k => by
    simp only [Go.storeCells]
    simp only [List.length_cons] at hl
    refine RunL.bind ?_
    rw [add_mk]
    have hlt : off + i < c.size := by omega
    refine RunL.store (ho v (by simp)) (u := c[off + i]) (by rw [cell_of hA]; simp [hlt]) (free_of hA) ?_
    refine RunL.storeCells vs (i + 1) (c.setIfInBounds (off + i) v) _ K (hset_same hA) (by simp; omega) (fun u hu => ho u (by simp [hu])) fun h' c' h1 h2 h3 h4 => ?_
    refine k h' c' h1 (by simpa using h2) (fun j => ?_) (fun b hb => by rw [h4 b hb, hset_other hb])
    rw [h3 j, Array.getElem?_setIfInBounds]
    by_cases e1 : j = off + i
    · subst e1
      rw [if_neg (by omega), if_pos rfl, if_pos hlt, if_pos (by simp)]
      simp
    · by_cases e2 : off + (i + 1) ≤ j ∧ j < off + (i + 1) + vs.length
      · rw [if_pos e2, if_pos (by simp; omega)]
        have : j - (off + i) = (j - (off + (i + 1))) + 1 := by omega
        rw [this]; simp
      · rw [if_neg e2, if_neg (Ne.symm e1), if_neg (by simp; omega)]

theorem growBy_le (need : Nat) : ∀ (r c : Nat), c ≤ 2 * need + 192 → Builtin.growBy need r c ≤ 2 * need + 192
  | 0, c, h => by simp only [Builtin.growBy]; exact h
  | r + 1, c, h => by
    simp only [Builtin.growBy]
    split
    · exact h
    · rename_i hc
      exact growBy_le need r _ (by omega)

theorem nextslicecap_le {need cap : Nat} (h : cap < need) : Builtin.nextslicecap need cap ≤ 2 * need + 192 := by
  unfold Builtin.nextslicecap
  split
  · omega
  · split
    · omega
    · exact growBy_le need 4 cap (by omega)

/-- A slice that owns the cells from the block's beginning on. -/
structure Arr (h : H) (elem size : Nat) (p : Option Addr) (len cap : Nat) (g : Nat → Value) : Prop where
  le : len ≤ cap
  nil : p = none → cap = 0
  arr : ∀ a, p = some a → ∃ A c, a = ⟨A, 0, none⟩ ∧ h A = some (.cells c elem (0, 0)) ∧ cap * size ≤ c.size ∧ ∀ i, i < len * size → c[i]? = some (g i)

theorem Arr.mono {h h' : H} {elem size : Nat} {p : Option Addr} {len cap : Nat} {g : Nat → Value} (r : Arr h elem size p len cap g) (l : Le h h') : Arr h' elem size p len cap g :=
  ⟨r.le, r.nil, fun a e => let ⟨A, c, e1, x, y⟩ := r.arr a e; ⟨A, c, e1, l _ _ x, y⟩⟩

theorem Arr.nilA (h : H) (elem size : Nat) (g : Nat → Value) : Arr h elem size none 0 0 g := ⟨Nat.le_refl _, fun _ => rfl, fun a e => by cases e⟩

/-- What stays when a slice grows: every block but its own. -/
def KeepA (p : Option Addr) (h h' : H) : Prop := ∀ b o, h b = some o → (∀ off, p ≠ some ⟨b, off, none⟩) → h' b = some o

/-- What a slice's elements are. -/
def Part (h : H) (q : Option Addr) (n : Nat) (y : Nat → Value) : Prop := ∀ i, i < n → ∃ a, q = some a ∧ cell h (a.add i) = some (y i)

theorem RunL.loadAt {a : Addr} {n : Nat} {y : Nat → Value} {h : H} {K : Array Value → H → Prop} (hc : ∀ i, i < n → cell h (a.add i) = some (y i)) (k : K ((List.range n).map y).toArray h) :
    RunL P (Go.loadCells a n) h K := by
  refine RunL.of_run (x := ((List.range n).map y).toArray) (fun W sw => ?_) k
  have := run_loadCells (P := P) a W n ((List.range n).map y) (by simp) (fun j v hj => by
    have hlt : j < n := by simpa using (List.getElem?_eq_some_iff.1 hj).1
    refine sw.cell ?_
    rw [hc j hlt]
    simpa [hlt] using hj)
  rw [this]

theorem RunL.firstCells {h : H} {q : Option Addr} {size n m mc : Nat} {y : Nat → Value} {K : Array Value → H → Prop} (hq : Part h q (n * size) y)
    (k : ∀ c : Array Value, c.size = n * size → (∀ i, i < n * size → c[i]? = some (y i)) → K c h) : RunL P (Builtin.firstCells size n (.slice q m mc)) h K := by
  cases q with
  | none =>
    have h0 : n * size = 0 := by
      rcases Nat.eq_zero_or_pos (n * size) with h | h
      · exact h
      · obtain ⟨a, e, _⟩ := hq 0 h; cases e
    exact RunL.pure (k #[] (by simp [h0]) (fun i hi => by omega))
  | some a =>
    refine RunL.loadAt (a := a) (y := y) (fun i hi => ?_) (k _ (by simp) fun i hi => by simp [hi])
    obtain ⟨a', e, hc⟩ := hq i hi
    cases e; exact hc

theorem zeroCells_size (z : Array Value) (n : Nat) : (Builtin.zeroCells z n).size = n * z.size := by simp [Builtin.zeroCells]

/-- Some more to a slice that grows: m elements from another one. -/
theorem append_run {T T2 ty elem size e2 bytes : Nat} {z : Value} {h : H} {p q : Option Addr} {len cap m mc : Nat} {g y : Nat → Value} {K : Value → H → Prop}
    (hu : P.underlying T = some (.slice elem)) (hu2 : P.underlying T2 = some (.slice e2)) (hs : sizeO P elem = some size) (hz : zeroOf P elem = some z) (hzs : z.cells.size = size) (hi' : (P.info? elem).map (·.bytes) = some bytes)
    (hb' : 0 < bytes ∧ bytes ≤ 512) (hlen : len + m < 2 ^ 36) (ha : Arr h elem size p len cap g) (hq : Part h q (m * size) y)
    (hy : ∀ i, i < m * size → (y i).oneCell = true)
    (k : ∀ h' p' cap', Arr h' elem size p' (len + m) cap' (fun i => if i < len * size then g i else y (i - len * size)) → KeepA p h h' →
      (∀ A, p' = some ⟨A, 0, none⟩ → p = some ⟨A, 0, none⟩ ∨ h A = none) → K (.slice p' (len + m) cap') h') :
    RunL P (X.sem (.bi .append #[T, T2] ty [.slice p len cap, .slice q m mc])) h K := by
  obtain ⟨info, hi, hbe⟩ : ∃ info, P.info? elem = some info ∧ info.bytes = bytes := by
    cases hh : P.info? elem with
    | none => rw [hh] at hi'; cases hi'
    | some i => rw [hh] at hi'; exact ⟨i, rfl, by simpa using hi'⟩
  have hb : 0 < info.bytes ∧ info.bytes ≤ 512 := by rw [hbe]; exact hb'
  have hp : Part h p (len * size) g := fun i hi => by
    cases p with
    | none =>
      have h0 : len = 0 := by have := ha.nil rfl; have := ha.le; omega
      subst h0; omega
    | some a =>
      obtain ⟨A, c, rfl, hA, hc, hg⟩ := ha.arr a rfl
      exact ⟨_, rfl, by rw [add_mk, cell_of hA, Nat.zero_add]; exact hg i hi⟩
  suffices hmain : RunL P (Builtin.append_ #[T, T2] ty #[.slice p len cap, .slice q m mc]) h K by
    refine RunL.bind (RunL.bind (hmain.mono fun v h' hk => RunL.pure (RunL.pure hk)))
  unfold Builtin.append_
  simp only [List.getElem?_toArray, List.getElem?_cons_zero, List.getElem?_cons_succ]
  refine RunL.bind (RunL.under hu ?_)
  simp only []
  refine RunL.bind (RunL.sizeOf hs ?_)
  refine RunL.bind (RunL.under hu2 ?_)
  refine RunL.bind (RunL.pure ?_)
  simp only [Bool.false_eq_true, if_false, Bool.not_false, if_true, false_or]
  refine RunL.bind (RunL.pure ?_)
  by_cases hfit : len + m ≤ cap
  · rw [if_pos hfit]
    refine RunL.bind (RunL.firstCells hq fun cs hcs hcy => ?_)
    have hone : ∀ v ∈ cs.toList, v.oneCell = true := fun v hv => by
      obtain ⟨i, hi', rfl⟩ := List.getElem_of_mem hv
      have hlt : i < m * size := by simpa [hcs] using hi'
      have := hcy i hlt
      have e : cs.toList[i] = y i := by
        rw [Array.getElem_toList]
        rw [Array.getElem?_eq_getElem (by omega)] at this
        exact Option.some.inj this
      rw [e]; exact hy i hlt
    cases p with
    | none =>
      refine RunL.pure ?_
      have c0 := ha.nil rfl
      have : len + m = 0 := by omega
      refine k h none cap ⟨hfit, fun _ => c0, fun a e => by cases e⟩ (fun b o hb _ => hb) (fun A e => by cases e)
    | some a =>
      obtain ⟨A, c, rfl, hA, hc, hg⟩ := ha.arr a rfl
      have hle : len * size + m * size ≤ c.size := by
        rw [← Nat.add_mul]; exact Nat.le_trans (Nat.mul_le_mul_right _ hfit) hc
      refine RunL.bind ?_
      rw [add_mk]
      refine RunL.storeCells cs.toList 0 c h _ hA (by simp [hcs]; omega) hone fun h' c' h1 h2 h3 h4 => ?_
      refine RunL.pure (k h' _ cap ⟨hfit, fun e => (by cases e), fun a e => ?_⟩ (fun b o hb hne => ?_) (fun A' e => .inl e))
      · simp only [Option.some.injEq] at e; subst e
        refine ⟨A, c', rfl, h1, by omega, fun i hi' => ?_⟩
        rw [h3 i]
        rw [Nat.add_mul] at hi'
        by_cases e1 : i < len * size
        · rw [if_neg (by omega), if_pos e1]; exact hg i e1
        · rw [if_pos (by simp [hcs]; omega), if_neg e1]
          have := hcy (i - len * size) (by omega)
          simpa using this
      · rw [h4 b (fun e => hne 0 (by rw [e]))]; exact hb
  · rw [if_neg hfit]
    have hcl : cap < len + m := by omega
    refine RunL.bind (RunL.info hi ?_)
    rw [if_neg (by rintro ⟨_, h⟩; omega)]
    refine RunL.bind (RunL.info hi ?_)
    have hnc := nextslicecap_le hcl
    have hb1 : Builtin.nextslicecap (len + m) cap * info.bytes ≤ 2 ^ 48 := by
      calc Builtin.nextslicecap (len + m) cap * info.bytes ≤ (2 * (len + m) + 192) * 512 := Nat.mul_le_mul hnc hb.2
        _ ≤ 2 ^ 48 := by omega
    rw [if_neg (by omega)]
    refine RunL.bind (RunL.choose rfl fun tt => ?_)
    refine RunL.bind (RunL.info hi ?_)
    generalize hcap : Question.cut (Question.appendCap (len + m) cap elem) tt = newCap
    have hge : len + m ≤ newCap := by rw [← hcap]; simp only [Question.cut]; omega
    have room : ∀ {K : Unit → H → Prop}, K () h → RunL P (askRoom (newCap * info.bytes)) h K := fun {K} hk => by
      unfold askRoom; split
      · exact RunL.mark hk
      · exact RunL.pure hk
    refine RunL.bind (room ?_)
    refine RunL.bind (RunL.firstCells hp fun c1 hc1 hg1 => ?_)
    refine RunL.bind (RunL.firstCells hq fun c2 hc2 hg2 => ?_)
    refine RunL.bind (RunL.zero hz ?_)
    unfold newRow
    refine RunL.bind (RunL.bind (RunL.newObj fun b hbn => RunL.pure ?_))
    refine RunL.pure (k _ _ newCap ⟨hge, fun e => (by cases e), fun a e => ?_⟩ (fun b' o hb' _ => ?_) (fun A' e => .inr (by simp only [Option.some.injEq, Addr.mk.injEq, and_true] at e; rw [← e]; exact hbn)))
    · simp only [Option.some.injEq] at e; subst e
      refine ⟨b, _, rfl, hnew_same, ?_, fun i hi' => ?_⟩
      · simp only [Array.size_append, hc1, hc2, zeroCells_size, hzs]
        rw [← Nat.add_mul, ← Nat.add_mul]; exact Nat.mul_le_mul_right _ (by omega)
      · rw [Nat.add_mul] at hi'
        rw [Array.getElem?_append]
        rw [if_pos (by simp [hc1, hc2]; omega), Array.getElem?_append]
        by_cases e1 : i < len * size
        · rw [if_pos (by omega), if_pos e1]; exact hg1 i e1
        · rw [if_neg (by omega), if_neg e1, hc1]; exact hg2 _ (by omega)
    · rw [hnew_other]
      · exact hb'
      · intro e; subst e; rw [hbn] at hb'; cases hb'
end Lf

/- Maps whose keys are numbers or strings, over partial heaps. -/
namespace Lf
open Go
variable {P : Program} {α : Type} [DecidableEq α]

structure KeyOk (P : Program) (key : TypeId) (kk : α → Value) : Prop where
  und : ∃ kd, P.underlying key = some kd ∧ ∀ a b, Instr.sameNow kd (kk a) (kk b) = some (decide (a = b))
  chk : ∀ b a W, (Instr.checkKey b 10000 key (kk a)).run P W = .ok () W
  bits : ∀ a, Instr.sameBits 10000 (kk a) (kk a) = true

theorem keyInt {key : TypeId} {j : IntKind} (k : IntKind) (hu : P.underlying key = some (.int j)) : KeyOk P key (fun a : Int => .int k a) where
  und := ⟨_, hu, fun a b => by simp only [Instr.sameNow, if_true]; congr 1⟩
  chk b a W := by
    rw [show (10000 : Nat) = 9999 + 1 from rfl, Instr.checkKey, run_bind, run_under hu]; rfl
  bits a := by unfold Instr.sameBits; simp

theorem byte_beq (a b : ByteArray) : (a == b) = decide (a = b) := by
  obtain ⟨x⟩ := a
  obtain ⟨y⟩ := b
  show (x == y) = _
  by_cases h : x = y
  · subst h; simp
  · rw [beq_eq_false_iff_ne.2 h]; simp [h]

theorem keyStr {key : TypeId} (hu : P.underlying key = some .string) : KeyOk P key (fun a : ByteArray => .string a) where
  und := ⟨_, hu, fun a b => by simp only [Instr.sameNow]; congr 1; exact byte_beq a b⟩
  chk b a W := by
    rw [show (10000 : Nat) = 9999 + 1 from rfl, Instr.checkKey, run_bind, run_under hu]; rfl
  bits a := by unfold Instr.sameBits; rw [byte_beq]; simp

def getL (l : List (α × Value)) (a : α) : Option Value := (l.find? fun x => decide (x.1 = a)).map (·.2)

/-- A map in memory. -/
def Mp (h : H) (m : Nat) (kk : α → Value) (get : α → Option Value) : Prop :=
  ∃ es ck l, h m = some (.map es ck) ∧ es.toList.map (fun e => (e.key, e.val)) = l.map (fun x : α × Value => (kk x.1, x.2)) ∧ (l.map (·.1)).Nodup ∧ ∀ a, getL l a = get a

theorem Mp.mono {h h' : H} {m : Nat} {kk : α → Value} {get : α → Option Value} (r : Mp h m kk get) (k : KeepM h h') : Mp h' m kk get :=
  let ⟨es, ck, l, h1, h2⟩ := r; ⟨es, ck, l, k _ _ _ h1, h2⟩

def findIx (a : α) : List (α × Value) → Nat → Option (Nat × Value)
  | [], _ => none
  | x :: r, i => if x.1 = a then some (i, x.2) else findIx a r (i + 1)

theorem findNow_eq {kd : TypeDesc} {kk : α → Value} (same : ∀ a b, Instr.sameNow kd (kk a) (kk b) = some (decide (a = b))) (a : α) : ∀ (es : List MapEntry) (l : List (α × Value)) (i : Nat),
    es.map (fun e => (e.key, e.val)) = l.map (fun x : α × Value => (kk x.1, x.2)) → Instr.findNow kd (kk a) es i = some (findIx a l i)
  | [], [], i, _ => rfl
  | [], _ :: _, _, h => by simp at h
  | _ :: _, [], _, h => by simp at h
  | e :: es, x :: l, i, h => by
    simp only [List.map_cons, List.cons.injEq, Prod.mk.injEq] at h
    obtain ⟨⟨h1, h2⟩, h3⟩ := h
    simp only [Instr.findNow, findIx, h1, same]
    by_cases e1 : x.1 = a
    · rw [if_pos e1, decide_eq_true e1.symm, h2]
    · rw [if_neg e1, decide_eq_false (fun e => e1 e.symm)]
      exact findNow_eq same a es l (i + 1) h3

theorem findIx_get (a : α) : ∀ (l : List (α × Value)) (i : Nat), (findIx a l i).map (·.2) = getL l a
  | [], _ => rfl
  | x :: r, i => by
    simp only [findIx, getL, List.find?_cons]
    by_cases e : x.1 = a
    · simp [e]
    · simp only [e, if_false, decide_false]; exact findIx_get a r (i + 1)

theorem findIx_spec (a : α) : ∀ (l : List (α × Value)) (i : Nat) {j : Nat} {v : Value}, findIx a l i = some (j, v) → i ≤ j ∧ l[j - i]? = some (a, v)
  | x :: r, i, j, v, h => by
    simp only [findIx] at h
    by_cases e : x.1 = a
    · rw [if_pos e] at h; simp only [Option.some.injEq, Prod.mk.injEq] at h; obtain ⟨rfl, rfl⟩ := h
      refine ⟨Nat.le_refl _, ?_⟩
      simp [← e]
    · rw [if_neg e] at h
      obtain ⟨h1, h2⟩ := findIx_spec a r (i + 1) h
      refine ⟨by omega, ?_⟩
      have : j - i = (j - (i + 1)) + 1 := by omega
      rw [this, List.getElem?_cons_succ]; exact h2

theorem findIx_none (a : α) : ∀ (l : List (α × Value)) (i : Nat), findIx a l i = none → a ∉ l.map (·.1)
  | [], _, _ => by simp
  | x :: r, i, h => by
    simp only [findIx] at h
    by_cases e : x.1 = a
    · rw [if_pos e] at h; cases h
    · rw [if_neg e] at h
      simp only [List.map_cons, List.mem_cons, not_or]
      exact ⟨fun h => e h.symm, findIx_none a r (i + 1) h⟩

theorem getL_none {l : List (α × Value)} {a : α} (h : a ∉ l.map (·.1)) : getL l a = none := by
  unfold getL
  rw [List.find?_eq_none.2]; · rfl
  intro x hx; simp only [decide_eq_true_eq]
  intro e; exact h (List.mem_map.2 ⟨x, hx, e⟩)

theorem getL_append (l : List (α × Value)) (a b : α) (v : Value) : getL (l ++ [(a, v)]) b = (getL l b).or (if b = a then some v else none) := by
  unfold getL
  rw [List.find?_append]
  cases h : l.find? (fun x => decide (x.1 = b)) with
  | some y => simp
  | none =>
    by_cases e : a = b
    · subst e; simp
    · have : ¬ b = a := fun x => e x.symm
      simp [e, this]

theorem getL_set {a b : α} {v : Value} : ∀ {l : List (α × Value)} {j : Nat} {w : Value}, (l.map (·.1)).Nodup → l[j]? = some (a, w) → getL (l.set j (a, v)) b = if b = a then some v else getL l b
  | [], j, w, _, h => by simp at h
  | x :: r, 0, w, hn, h => by
    simp only [List.getElem?_cons_zero, Option.some.injEq] at h
    subst h
    simp only [List.set_cons_zero, getL, List.find?_cons]
    by_cases e : a = b
    · subst e; simp
    · have : ¬ b = a := fun x => e x.symm
      simp [e, this]
  | x :: r, j + 1, w, hn, h => by
    simp only [List.getElem?_cons_succ] at h
    simp only [List.map_cons, List.nodup_cons] at hn
    have ih := getL_set (b := b) (v := v) hn.2 h
    simp only [List.set_cons_succ, getL, List.find?_cons] at ih ⊢
    have hm : a ∈ r.map (·.1) := List.mem_map.2 ⟨_, List.mem_of_getElem? h, rfl⟩
    by_cases e : x.1 = b
    · have : ¬ b = a := fun e2 => hn.1 (by rw [e, e2]; exact hm)
      simp [e, this]
    · simp only [e, decide_false]; exact ih

theorem getL_erase {a b : α} : ∀ {l : List (α × Value)} {j : Nat} {w : Value}, (l.map (·.1)).Nodup → l[j]? = some (a, w) → getL (l.eraseIdx j) b = if b = a then none else getL l b
  | [], j, w, _, h => by simp at h
  | x :: r, 0, w, hn, h => by
    simp only [List.getElem?_cons_zero, Option.some.injEq] at h
    subst h
    simp only [List.map_cons, List.nodup_cons] at hn
    simp only [List.eraseIdx_cons_zero]
    by_cases e : a = b
    · subst e; rw [if_pos rfl, getL_none hn.1]
    · have : ¬ b = a := fun x => e x.symm
      rw [if_neg this]; simp [getL, List.find?_cons, e]
  | x :: r, j + 1, w, hn, h => by
    simp only [List.getElem?_cons_succ] at h
    simp only [List.map_cons, List.nodup_cons] at hn
    have ih := getL_erase (b := b) hn.2 h
    simp only [List.eraseIdx_cons_succ, getL, List.find?_cons] at ih ⊢
    have hm : a ∈ r.map (·.1) := List.mem_map.2 ⟨_, List.mem_of_getElem? h, rfl⟩
    by_cases e : x.1 = b
    · have : ¬ b = a := fun e2 => hn.1 (by rw [e, e2]; exact hm)
      simp [e, this]
    · simp only [e, decide_false]; exact ih

theorem findKey_run {key : TypeId} {kk : α → Value} (ok : KeyOk P key kk) {es : List MapEntry} {l : List (α × Value)} (hl : es.map (fun e => (e.key, e.val)) = l.map (fun x : α × Value => (kk x.1, x.2)))
    (a : α) (W : World) : (Instr.findKey key (kk a) es).run P W = .ok (findIx a l 0) W := by
  obtain ⟨kd, hu, same⟩ := ok.und
  simp only [Instr.findKey, run_bind, run_under hu, findNow_eq same a es l 0 hl]
  rfl

theorem getObj_run {r : Nat} {es : Array MapEntry} {ck : Nat} {W : World} {h : H} (sw : Sub h W) (hm : h r = some (.map es ck)) : (getObj r).run P W = .ok (.map es ck) W := by
  simp only [getObj, Sem.run, sw r _ hm]

theorem lookup_run {T key elem m : Nat} {kk : α → Value} {get : α → Option Value} {z : Value} {h : H} {a : α} {ok : Bool} {K : Value → H → Prop} (hu : P.underlying T = some (.map key elem)) (ko : KeyOk P key kk)
    (hz : zeroOf P elem = some z) (hm : Mp h m kk get) (k : K (if ok then .tuple #[(get a).getD z, .bool (get a).isSome] else (get a).getD z) h) :
    RunL P (X.sem (.lookup T (.map (some m)) (kk a) ok)) h K := by
  obtain ⟨es, ck, l, h1, h2, h3, h4⟩ := hm
  refine RunL.of_run (x := if ok then .tuple #[(get a).getD z, .bool (get a).isSome] else (get a).getD z) (fun W sw => ?_) k
  simp only [X.sem, Instr.lookup, run_bind, run_under hu, getObj_run sw h1, run_pure, ko.chk, findKey_run ko h2]
  have hg := findIx_get a l 0
  rw [h4 a] at hg
  cases hf : findIx a l 0 with
  | none =>
    rw [hf] at hg
    simp only [run_bind, run_zero hz, run_pure]
    rw [← hg]; rfl
  | some q =>
    rw [hf] at hg
    simp only [run_pure]
    rw [← hg]; rfl

theorem nodup_set {γ : Type} {l : List (γ × Value)} {j : Nat} {a : γ} {v w : Value} (hn : (l.map (·.1)).Nodup) (h : l[j]? = some (a, w)) : ((l.set j (a, v)).map (·.1)).Nodup := by
  have : (l.set j (a, v)).map (·.1) = l.map (·.1) := by
    rw [List.map_set]
    apply List.ext_getElem?
    intro i
    rw [List.getElem?_set]
    by_cases e : j = i
    · subst e
      have hlt := (List.getElem?_eq_some_iff.1 h).1
      rw [if_pos rfl, if_pos (by simpa using hlt), List.getElem?_map, h]; rfl
    · rw [if_neg e]
  rw [this]; exact hn

theorem mapUpdate_run {T key elem m : Nat} {kk : α → Value} {get : α → Option Value} {v : Value} {h : H} {a : α} {K : Value → H → Prop} (hu : P.underlying T = some (.map key elem)) (ko : KeyOk P key kk) (hm : Mp h m kk get)
    (k : ∀ h', Mp h' m kk (fun x => if x = a then some v else get x) → (∀ b, b ≠ m → h' b = h b) → K (.tuple #[]) h') :
    RunL P (X.sem (.mapUpdate T (.map (some m)) (kk a) v)) h K := by
  obtain ⟨es, ck, l, h1, h2, h3, h4⟩ := hm
  simp only [X.sem]
  refine RunL.bind (RunL.mono (K := fun _ h' => Mp h' m kk (fun x => if x = a then some v else get x) ∧ ∀ b, b ≠ m → h' b = h b) ?_ fun _ h' hk => RunL.pure (k h' hk.1 hk.2))
  unfold Instr.mapUpdate
  refine RunL.bind (RunL.under hu ?_)
  simp only []
  refine RunL.bind (RunL.getObj h1 (by simp) ?_)
  simp only []
  refine RunL.bind (RunL.of_run (x := ()) (fun W _ => ko.chk _ _ W) ?_)
  refine RunL.bind (RunL.of_run (fun W _ => findKey_run ko h2 a W) ?_)
  have hg := findIx_get a l 0
  rw [h4 a] at hg
  cases hf : findIx a l 0 with
  | none =>
    simp only []
    have hnin := findIx_none a l 0 hf
    refine RunL.setObj h1 (by simp) ⟨⟨_, _, l ++ [(a, v)], hnew_same, ?_, ?_, fun b => ?_⟩, fun b hb => hnew_other hb⟩
    · simp only [Array.toList_push, List.map_append, h2, List.map_cons, List.map_nil]
    · rw [List.map_append, List.nodup_append]
      refine ⟨h3, by simp, fun x hx y hy => ?_⟩
      simp only [List.map_cons, List.map_nil, List.mem_singleton] at hy
      subst hy; intro e; subst e; exact hnin hx
    · rw [getL_append, h4 b]
      by_cases e : b = a
      · subst e
        have : get b = none := by rw [← h4 b]; exact getL_none hnin
        simp [this]
      · simp [e]
  | some q =>
    obtain ⟨j, w⟩ := q
    simp only []
    have hsp := (findIx_spec a l 0 hf).2
    rw [Nat.sub_zero] at hsp
    have hmap : ∀ i : Nat, (es.toList[i]?).map (fun e : MapEntry => (e.key, e.val)) = (l[i]?).map (fun x : α × Value => (kk x.1, x.2)) := fun i => by
      rw [← List.getElem?_map, ← List.getElem?_map, h2]
    have hkey : ((es[j]?).map (·.key)).getD (kk a) = kk a := by
      have := hmap j
      rw [hsp] at this
      cases hj : es.toList[j]? with
      | none => rw [hj] at this; cases this
      | some e =>
        rw [hj] at this; simp only [Option.map_some, Option.some.injEq, Prod.mk.injEq] at this
        have : es[j]? = some e := by simpa using hj
        rename_i this1
        rw [this]; simp [this1.1]
    rw [hkey]
    refine RunL.bind ?_
    unfold Instr.keyThatStays
    rw [if_pos (ko.bits a)]
    refine RunL.pure ?_
    refine RunL.setObj h1 (by simp) ⟨⟨_, _, l.set j (a, v), hnew_same, ?_, nodup_set h3 hsp, fun b => ?_⟩, fun b hb => hnew_other hb⟩
    · apply List.ext_getElem?
      intro i
      rw [List.getElem?_map, List.getElem?_map, List.getElem?_set]
      have := hmap i
      by_cases e : j = i
      · subst e
        have hlt := (List.getElem?_eq_some_iff.1 hsp).1
        rw [if_pos rfl, if_pos hlt]
        cases hj : es.toList[j]? with
        | none => rw [hj, hsp] at this; cases this
        | some e' =>
          have e2 : es[j]? = some e' := by simpa using hj
          simp [Array.getElem?_modify, e2]
      · rw [if_neg e, ← this]
        simp [Array.getElem?_modify, e]
    · rw [getL_set h3 hsp, h4 b]

theorem delete_run {T T2 ty key elem m : Nat} {kk : α → Value} {get : α → Option Value} {h : H} {a : α} {K : Value → H → Prop} (hu : P.underlying T = some (.map key elem)) (ko : KeyOk P key kk) (hm : Mp h m kk get)
    (k : ∀ h', Mp h' m kk (fun x => if x = a then none else get x) → (∀ b, b ≠ m → h' b = h b) → K (.tuple #[]) h') :
    RunL P (X.sem (.bi .delete #[T, T2] ty [.map (some m), kk a])) h K := by
  obtain ⟨es, ck, l, h1, h2, h3, h4⟩ := hm
  suffices hmain : RunL P (Builtin.delete_ #[T, T2] ty #[.map (some m), kk a]) h (fun v h' => v = .tuple #[] ∧ Mp h' m kk (fun x => if x = a then none else get x) ∧ ∀ b, b ≠ m → h' b = h b) by
    refine RunL.bind (RunL.bind (hmain.mono fun v h' hk => RunL.pure (RunL.pure (by rw [hk.1]; exact k h' hk.2.1 hk.2.2))))
  unfold Builtin.delete_
  simp only [List.getElem?_toArray, List.getElem?_cons_zero, List.getElem?_cons_succ]
  refine RunL.bind (RunL.under hu ?_)
  simp only []
  refine RunL.bind (RunL.getObj h1 (by simp) ?_)
  simp only []
  refine RunL.bind (RunL.of_run (x := ()) (fun W _ => ko.chk _ _ W) ?_)
  refine RunL.bind (RunL.of_run (fun W _ => findKey_run ko h2 a W) ?_)
  have hg := findIx_get a l 0
  rw [h4 a] at hg
  cases hf : findIx a l 0 with
  | none =>
    simp only []
    refine RunL.bind (RunL.setObj h1 (by simp) (RunL.pure ⟨rfl, ⟨_, _, l, hnew_same, h2, h3, fun b => ?_⟩, fun b hb => hnew_other hb⟩))
    rw [hf] at hg
    by_cases e : b = a
    · subst e; simp only [if_true]; rw [h4 b]; exact hg.symm
    · simp only [e, if_false]; rw [h4 b]
  | some q =>
    obtain ⟨j, w⟩ := q
    simp only []
    have hsp := (findIx_spec a l 0 hf).2
    rw [Nat.sub_zero] at hsp
    refine RunL.bind (RunL.setObj h1 (by simp) (RunL.pure ⟨rfl, ⟨_, _, l.eraseIdx j, hnew_same, ?_, ?_, fun b => ?_⟩, fun b hb => hnew_other hb⟩))
    · have hlt : j < es.size := by
        have h5 := (List.getElem?_eq_some_iff.1 hsp).1
        have h6 := congrArg List.length h2
        simp at h6; omega
      have : (es.eraseIdxIfInBounds j).toList = es.toList.eraseIdx j := by
        unfold Array.eraseIdxIfInBounds
        rw [dif_pos hlt]; simp
      rw [this]
      simp only [List.eraseIdx_eq_take_drop_succ, List.map_append, List.map_take, List.map_drop, h2]
    · exact List.Nodup.sublist ((List.eraseIdx_sublist l j).map _) h3
    · rw [getL_erase h3 hsp, h4 b]

theorem makeMap_run {T : Nat} {kk : α → Value} {h : H} {K : Value → H → Prop} (k : ∀ m h', h m = none → Mp h' m kk (fun _ => none) → (∀ b, b ≠ m → h' b = h b) → K (.map (some m)) h') :
    RunL P (X.sem (.makeMap T)) h K := by
  simp only [X.sem, Instr.makeMap]
  refine RunL.bind (RunL.newObj fun b hb => RunL.pure (k b _ hb ⟨#[], 0, [], hnew_same, rfl, by simp, fun a => rfl⟩ fun b' hb' => hnew_other hb'))
end Lf

/- Calls beside blocks of some types: these stay. -/
namespace Lf
open Go
variable {P : Program}

def isT (T : TypeId → Bool) (h : H) (b : Nat) : Bool :=
  match h b with
  | some (.cells _ e _) => T e
  | _ => false

def hide (T : TypeId → Bool) (h : H) : H := fun b => if isT T h b then none else h b

theorem hide_cells {T : TypeId → Bool} {h : H} {b : Nat} {c : Array Value} {e : TypeId} {fr : Nat × Nat} (hb : h b = some (.cells c e fr)) (hT : T e = false) : hide T h b = some (.cells c e fr) := by
  unfold hide isT; simp [hb, hT]

theorem hide_map {T : TypeId → Bool} {h : H} {b : Nat} {es : Array MapEntry} {ck : Nat} (hb : h b = some (.map es ck)) : hide T h b = some (.map es ck) := by
  unfold hide isT; simp [hb]

theorem hide_le (T : TypeId → Bool) (h : H) : Le (hide T h) h := fun b o x => by
  unfold hide at x; split at x
  · cases x
  · exact x

/-- What a call leaves that does not know of some blocks. -/
def KeepT (T : TypeId → Bool) (h h' : H) : Prop := ∀ b c e fr, T e = true → h b = some (.cells c e fr) → h' b = some (.cells c e fr)

theorem KeepT.refl (T : TypeId → Bool) (h : H) : KeepT T h h := fun _ _ _ _ _ x => x
theorem KeepT.trans {T : TypeId → Bool} {a b c : H} (x : KeepT T a b) (y : KeepT T b c) : KeepT T a c := fun p q e f hT h => y p q e f hT (x p q e f hT h)
theorem Le.keepT {T : TypeId → Bool} {h h' : H} (l : Le h h') : KeepT T h h' := fun _ _ _ _ _ x => l _ _ x

theorem Spec.hide {f : FuncId} {args : Array Value} {h : H} {R : Value → H → Prop} (T : TypeId → Bool) (s : Spec P f args (Lf.hide T h) R) :
    Spec P f args h fun v h' => ∃ h1, R v h1 ∧ Le h1 h' ∧ KeepT T h h' := by
  have ap : Apart (Lf.hide T h) (fun b => if isT T h b then h b else none) := fun b => by
    unfold Lf.hide; by_cases e : isT T h b = true <;> simp [e]
  have ej : join (Lf.hide T h) (fun b => if isT T h b then h b else none) = h := by
    funext b; unfold join Lf.hide
    by_cases e : isT T h b = true
    · simp [e]
    · simp [e]; cases h b <;> rfl
  have := s.frame ap
  rw [ej] at this
  refine this.mono fun v h' ⟨h1, e, ap', r⟩ => ⟨h1, r, e ▸ Le.join_left _ _, fun b c e' fr hT hb => ?_⟩
  rw [e]
  refine join_right ap' b _ ?_
  have : isT T h b = true := by unfold isT; simp [hb, hT]
  simp [this, hb]

theorem Arr.keepT {T : TypeId → Bool} {h h' : H} {elem size : Nat} {p : Option Addr} {len cap : Nat} {g : Nat → Value} (r : Arr h elem size p len cap g) (k : KeepT T h h') (hT : T elem = true) : Arr h' elem size p len cap g :=
  ⟨r.le, r.nil, fun a e => let ⟨A, c, e1, x, y⟩ := r.arr a e; ⟨A, c, e1, k _ _ _ _ hT x, y⟩⟩

/-- Growing touches blocks of its own type alone. -/
theorem KeepA.keepT {T : TypeId → Bool} {h h' : H} {elem size : Nat} {p : Option Addr} {len cap : Nat} {g : Nat → Value} (k : KeepA p h h') (r : Arr h elem size p len cap g) (hT : T elem = false) : KeepT T h h' := fun b c e fr hTe hb =>
  k b _ hb fun off e' => by
    obtain ⟨A, c', e1, h1, _⟩ := r.arr _ e'
    simp only [Addr.mk.injEq] at e1
    rw [e1.1, h1] at hb
    cases hb
    rw [hT] at hTe; cases hTe

theorem KeepA.keepM {h h' : H} {elem size : Nat} {p : Option Addr} {len cap : Nat} {g : Nat → Value} (k : KeepA p h h') (r : Arr h elem size p len cap g) : KeepM h h' := fun b es ck hb =>
  k b _ hb fun off e' => by
    obtain ⟨A, c', e1, h1, _⟩ := r.arr _ e'
    simp only [Addr.mk.injEq] at e1
    rw [e1.1, h1] at hb
    cases hb

theorem KeepA.le {h0 h h' : H} {p : Option Addr} (k : KeepA p h h') (l : Le h0 h) (hp : ∀ A off, p = some ⟨A, off, none⟩ → h0 A = none) : Le h0 h' := fun b o hb =>
  k b o (l b o hb) fun off e => by rw [hp b off e] at hb; cases hb
end Lf

/- Three parts of a heap, each apart from the others. -/
namespace Lf
open Go
variable {P : Program}

def S3 (h X Y R : H) : Prop := h = join X (join Y R) ∧ Apart X (join Y R) ∧ Apart Y R

theorem S3.start (h : H) : S3 h (fun _ => none) (fun _ => none) h := ⟨by funext b; rfl, fun b => .inl rfl, fun b => .inl rfl⟩

theorem S3.swap {h X Y R : H} (s : S3 h X Y R) : S3 h Y X R := by
  obtain ⟨e, a1, a2⟩ := s
  have ax : ∀ b, X b = none ∨ (Y b = none ∧ R b = none) := fun b => (a1 b).imp id fun h => join_none.1 h
  refine ⟨?_, fun b => ?_, fun b => (ax b).imp id fun h => h.2⟩
  · rw [e]; funext b
    unfold join
    rcases ax b with h | ⟨h, h'⟩
    · simp [h]
    · simp only [h]
  · rcases a2 b with h | h
    · exact .inl h
    · rcases ax b with h' | ⟨h', _⟩
      · exact .inr (join_none.2 ⟨h', h⟩)
      · exact .inl h'

theorem S3.onX {f : FuncId} {args : Array Value} {h X Y R : H} {Q : Value → H → Prop} (s : S3 h X Y R) (c : Spec P f args X Q) : Spec P f args h fun v h' => ∃ X', S3 h' X' Y R ∧ Q v X' := by
  obtain ⟨e, a1, a2⟩ := s
  rw [e]
  exact (c.frame a1).mono fun v h' ⟨X', e', a', q⟩ => ⟨X', ⟨e', a', a2⟩, q⟩

theorem S3.onY {f : FuncId} {args : Array Value} {h X Y R : H} {Q : Value → H → Prop} (s : S3 h X Y R) (c : Spec P f args Y Q) : Spec P f args h fun v h' => ∃ Y', S3 h' X Y' R ∧ Q v Y' :=
  (s.swap.onX c).mono fun v h' ⟨Y', s', q⟩ => ⟨Y', s'.swap, q⟩

theorem S3.leX {h X Y R : H} (s : S3 h X Y R) : Le X h := s.1 ▸ Le.join_left _ _
theorem S3.leY {h X Y R : H} (s : S3 h X Y R) : Le Y h := s.swap.leX
theorem S3.leR {h X Y R : H} (s : S3 h X Y R) : Le R h := by
  obtain ⟨e, a1, a2⟩ := s
  rw [e]; exact (join_right a2).trans (join_right a1)

/-- Cells seen stay seen. -/
theorem cell_le {h h' : H} (l : Le h h') {a : Addr} {v : Value} (c : cell h a = some v) : cell h' a = some v := by
  unfold cell at *
  split at c
  · rename_i x hb; rw [l _ _ hb]; exact c
  · cases c
end Lf

/- Rows of structs in slices: reading them, and growing slices of them. -/
namespace Lf
open Go
variable {P : Program}

/-- What the model knows of a slice type and its elements. -/
structure ElemFacts (P : Program) (T elem size : Nat) : Prop where
  hu : P.underlying T = some (.slice elem)
  hs : sizeO P elem = some size
  hz' : (zeroOf P elem).map (fun z => z.cells.size) = some size
  hb : ∃ b, (P.info? elem).map (·.bytes) = some b ∧ (0 < b ∧ b ≤ 512)

theorem ElemFacts.hz {T elem size : Nat} (e : ElemFacts P T elem size) : ∃ z, zeroOf P elem = some z ∧ z.cells.size = size := by
  have h := e.hz'
  cases hz : zeroOf P elem with
  | none => rw [hz] at h; cases h
  | some z => rw [hz] at h; exact ⟨z, rfl, by simpa using h⟩

/-- Rows that can be read. -/
def RowsL (h : H) (p : Option Addr) (size : Nat) (rows : List (List Value)) : Prop :=
  ∀ (i : Nat) (r : List Value), rows[i]? = some r → ∃ a, p = some a ∧ ∀ (j : Nat) (v : Value), r[j]? = some v → cell h ((aidx a 0 (i : Int) size).add j) = some v

theorem RowsL.mono {h h' : H} {p : Option Addr} {size : Nat} {rows : List (List Value)} (r : RowsL h p size rows) (l : Le h h') : RowsL h' p size rows :=
  fun i r' hi => let ⟨a, e, c⟩ := r i r' hi; ⟨a, e, fun j v hj => cell_le l (c j v hj)⟩

theorem RowsL.nil (h : H) (p : Option Addr) (size : Nat) : RowsL h p size [] := fun i r hi => by simp at hi

/-- Rows that grow: a slice that owns its block. -/
structure ArrL (h : H) (elem size : Nat) (p : Option Addr) (len cap : Nat) (rows : List (List Value)) : Prop where
  hl : len = rows.length
  le : len ≤ cap
  nil : p = none → cap = 0
  row : ∀ r, r ∈ rows → r.length = size
  arr : ∀ a, p = some a → ∃ A c, a = ⟨A, 0, none⟩ ∧ h A = some (.cells c elem (0, 0)) ∧ cap * size ≤ c.size ∧ ∀ (i j : Nat) (r : List Value) (v : Value), rows[i]? = some r → r[j]? = some v → c[i * size + j]? = some v

theorem ArrL.mono {h h' : H} {elem size : Nat} {p : Option Addr} {len cap : Nat} {rows : List (List Value)} (r : ArrL h elem size p len cap rows) (l : Le h h') : ArrL h' elem size p len cap rows :=
  ⟨r.hl, r.le, r.nil, r.row, fun a e => let ⟨A, c, e1, x, y⟩ := r.arr a e; ⟨A, c, e1, l _ _ x, y⟩⟩

theorem ArrL.nilA (h : H) (elem size : Nat) : ArrL h elem size none 0 0 [] := ⟨rfl, Nat.le_refl _, fun _ => rfl, fun _ h => (by cases h), fun a e => (by cases e)⟩

theorem ArrL.rows {h : H} {elem size : Nat} {p : Option Addr} {len cap : Nat} {rows : List (List Value)} (r : ArrL h elem size p len cap rows) : RowsL h p size rows := by
  intro i r' hi
  cases p with
  | none =>
    have h1 := r.nil rfl; have h2 := r.le; have h3 := r.hl
    have := (List.getElem?_eq_some_iff.1 hi).1
    omega
  | some a =>
    obtain ⟨A, c, rfl, hA, hc, hg⟩ := r.arr a rfl
    refine ⟨_, rfl, fun j v hj => ?_⟩
    rw [aidx_mk, add_mk, cell_of hA]
    have := hg i j r' v hi hj
    simpa using this

/-- The block of a slice is not among those of a heap. -/
def NewIn (h : H) (p : Option Addr) : Prop := ∀ A off sp, p = some ⟨A, off, sp⟩ → h A = none

theorem NewIn.none (h : H) : NewIn h none := fun A off sp e => by cases e

theorem KeepA.leN {h0 h h' : H} {p : Option Addr} (k : KeepA p h h') (l : Le h0 h) (hp : NewIn h0 p) : Le h0 h' := fun b o hb =>
  k b o (l b o hb) fun off e => by rw [hp b off _ e] at hb; cases hb

def flat (rows : List (List Value)) (size : Nat) : Nat → Value := fun k => ((rows.getD (k / size) []).getD (k % size) .nilFunc)

theorem flat_at {rows : List (List Value)} {size i j : Nat} {r : List Value} {v : Value} (hr : r.length = size) (hi : rows[i]? = some r) (hj : r[j]? = some v) : flat rows size (i * size + j) = v := by
  have hlt : j < size := by rw [← hr]; exact (List.getElem?_eq_some_iff.1 hj).1
  have h1 : (i * size + j) / size = i := by
    rw [Nat.mul_comm, Nat.mul_add_div (by omega), Nat.div_eq_of_lt hlt]; omega
  have h2 : (i * size + j) % size = j := by
    rw [Nat.mul_comm, Nat.mul_add_mod, Nat.mod_eq_of_lt hlt]
  unfold flat
  rw [h1, h2, List.getD_eq_getElem?_getD (l := rows), hi, Option.getD_some, List.getD_eq_getElem?_getD, hj, Option.getD_some]

theorem ArrL.toArr {h : H} {elem size : Nat} {p : Option Addr} {len cap : Nat} {rows : List (List Value)} (r : ArrL h elem size p len cap rows) : Arr h elem size p len cap (flat rows size) :=
  ⟨r.le, r.nil, fun a e => by
    obtain ⟨A, c, e1, hA, hc, hg⟩ := r.arr a e
    refine ⟨A, c, e1, hA, hc, fun k hk => ?_⟩
    have hsz : 0 < size := Nat.pos_of_ne_zero fun h0 => by subst h0; omega
    have hdm := Nat.div_add_mod k size
    have hi : k / size < rows.length := by rw [← r.hl]; exact Nat.div_lt_of_lt_mul (by rw [Nat.mul_comm]; exact hk)
    have hr := r.row rows[k / size] (List.getElem_mem hi)
    have hj : k % size < (rows[k / size]).length := by rw [hr]; exact Nat.mod_lt _ hsz
    have := hg (k / size) (k % size) rows[k / size] ((rows[k / size])[k % size]) (List.getElem?_eq_getElem hi) (List.getElem?_eq_getElem hj)
    rw [show k / size * size + k % size = k by rw [Nat.mul_comm]; exact hdm] at this
    rw [this]
    unfold flat
    rw [List.getD_eq_getElem?_getD (l := rows), List.getElem?_eq_getElem hi, Option.getD_some, List.getD_eq_getElem?_getD, List.getElem?_eq_getElem hj, Option.getD_some]⟩

theorem ArrL.ofArr {h : H} {elem size : Nat} {p : Option Addr} {len cap : Nat} {rows : List (List Value)} {g : Nat → Value} (r : Arr h elem size p len cap g) (hl : len = rows.length) (hr : ∀ r, r ∈ rows → r.length = size)
    (hg : ∀ (i j : Nat) (r : List Value) (v : Value), rows[i]? = some r → r[j]? = some v → g (i * size + j) = v) : ArrL h elem size p len cap rows :=
  ⟨hl, r.le, r.nil, hr, fun a e => by
    obtain ⟨A, c, e1, hA, hc, hgc⟩ := r.arr a e
    refine ⟨A, c, e1, hA, hc, fun i j r' v hi hj => ?_⟩
    have h1 : i < len := by rw [hl]; exact (List.getElem?_eq_some_iff.1 hi).1
    have h2 : j < size := by rw [← hr r' (List.mem_of_getElem? hi)]; exact (List.getElem?_eq_some_iff.1 hj).1
    rw [hgc (i * size + j) (by
      calc i * size + j < i * size + size := by omega
        _ = (i + 1) * size := by rw [Nat.add_mul, Nat.one_mul]
        _ ≤ len * size := Nat.mul_le_mul_right _ h1), hg i j r' v hi hj]⟩

/-- m elements of another slice (from its block's beginning on) behind those of a slice. -/
theorem appendL {T T2 e2 ty elem size : Nat} {h : H} {p q : Option Addr} {len cap m mc : Nat} {rows ys : List (List Value)} {K : Value → H → Prop}
    (ef : ElemFacts P T elem size) (hu2 : P.underlying T2 = some (.slice e2)) (hlen : len + m < 2 ^ 36) (ha : ArrL h elem size p len cap rows)
    (hm : m = ys.length) (hys : ∀ r, r ∈ ys → r.length = size) (hq : Part h q (m * size) (flat ys size)) (ho : ∀ r, r ∈ ys → ∀ v, v ∈ r → v.oneCell = true)
    (k : ∀ h' p' cap', ArrL h' elem size p' (len + m) cap' (rows ++ ys) → KeepA p h h' → (∀ A off sp, p' = some ⟨A, off, sp⟩ → p = some ⟨A, off, sp⟩ ∨ h A = none) → K (.slice p' (len + m) cap') h') :
    RunL P (X.sem (.bi .append #[T, T2] ty [.slice p len cap, .slice q m mc])) h K := by
  obtain ⟨z, hz, hzs⟩ := ef.hz
  obtain ⟨b, hb, hb'⟩ := ef.hb
  refine append_run ef.hu hu2 ef.hs hz hzs hb hb' hlen ha.toArr hq (fun i hi => ?_) fun h' p' cap' a' ka fr => ?_
  · have hsz : 0 < size := Nat.pos_of_ne_zero fun h0 => by subst h0; omega
    have hi1 : i / size < ys.length := by rw [← hm]; exact Nat.div_lt_of_lt_mul (by rw [Nat.mul_comm]; exact hi)
    have hr := hys ys[i / size] (List.getElem_mem hi1)
    have hj : i % size < (ys[i / size]).length := by rw [hr]; exact Nat.mod_lt _ hsz
    unfold flat
    rw [List.getD_eq_getElem?_getD (l := ys), List.getElem?_eq_getElem hi1, Option.getD_some, List.getD_eq_getElem?_getD, List.getElem?_eq_getElem hj, Option.getD_some]
    exact ho _ (List.getElem_mem hi1) _ (List.getElem_mem hj)
  · refine k h' p' cap' (ArrL.ofArr a' (by simp [ha.hl, hm]) (fun r hr => ?_) fun i j r v hi hj => ?_) ka fun A off sp e => ?_
    · rcases List.mem_append.1 hr with h1 | h1
      · exact ha.row r h1
      · exact hys r h1
    · have hrs : r.length = size := by
        rcases List.mem_append.1 (List.mem_of_getElem? hi) with h1 | h1
        · exact ha.row r h1
        · exact hys r h1
      have hj2 : j < size := by rw [← hrs]; exact (List.getElem?_eq_some_iff.1 hj).1
      rcases Nat.lt_or_ge i rows.length with h1 | h1
      · rw [List.getElem?_append_left h1] at hi
        rw [if_pos (by
          calc i * size + j < i * size + size := by omega
            _ = (i + 1) * size := by rw [Nat.add_mul, Nat.one_mul]
            _ ≤ len * size := Nat.mul_le_mul_right _ (by rw [ha.hl]; exact h1))]
        exact flat_at hrs hi hj
      · rw [List.getElem?_append_right h1] at hi
        have hle : len * size ≤ i * size := Nat.mul_le_mul_right _ (by rw [ha.hl]; exact h1)
        rw [if_neg (by omega)]
        have e : i * size + j - len * size = (i - rows.length) * size + j := by
          rw [Nat.sub_mul, ← ha.hl]; omega
        rw [e]; exact flat_at hrs hi hj
    · obtain ⟨A', c', e', _⟩ := a'.arr _ e
      simp only [Addr.mk.injEq] at e'
      obtain ⟨rfl, rfl, rfl⟩ := e'
      exact fr A e

theorem part_of_rows {h : H} {size : Nat} {p : Option Addr} {rows : List (List Value)} (hr : ∀ r, r ∈ rows → r.length = size) (r : RowsL h p size rows) : Part h p (rows.length * size) (flat rows size) := fun k hk => by
  have hsz : 0 < size := Nat.pos_of_ne_zero fun h0 => by subst h0; omega
  have hi : k / size < rows.length := Nat.div_lt_of_lt_mul (by rw [Nat.mul_comm]; exact hk)
  have hl := hr rows[k / size] (List.getElem_mem hi)
  have hj : k % size < (rows[k / size]).length := by rw [hl]; exact Nat.mod_lt _ hsz
  obtain ⟨a, e, hc⟩ := r (k / size) _ (List.getElem?_eq_getElem hi)
  refine ⟨a, e, ?_⟩
  have := hc (k % size) _ (List.getElem?_eq_getElem hj)
  unfold aidx at this
  rw [Addr_add_zero, Addr_add_add, Int.toNat_natCast, show k / size * size + k % size = k by rw [Nat.mul_comm]; exact Nat.div_add_mod k size] at this
  rw [this]
  unfold flat
  rw [List.getD_eq_getElem?_getD (l := rows), List.getElem?_eq_getElem hi, Option.getD_some, List.getD_eq_getElem?_getD, List.getElem?_eq_getElem hj, Option.getD_some]

theorem RunL.append1 {T e2 ty elem size : Nat} {h : H} {p : Option Addr} {len cap : Nat} {rows : List (List Value)} {K : Value → H → Prop} {cs : List Value}
    (ef : ElemFacts P T elem size) (hlen : len + 1 < 2 ^ 36) (ha : ArrL h elem size p len cap rows) (hc : cs.length = size) (ho : ∀ v, v ∈ cs → v.oneCell = true)
    (k : ∀ h' p' cap', ArrL h' elem size p' (len + 1) cap' (rows ++ [cs]) → KeepA p h h' → (∀ A off sp, p' = some ⟨A, off, sp⟩ → p = some ⟨A, off, sp⟩ ∨ h A = none) → K (.slice p' (len + 1) cap') h') :
    ∀ n : Nat, h n = none → ∀ h1 : H, h1 = hnew h n (.cells cs.toArray e2 (0, 0)) →
      RunL P (X.sem (.bi .append #[T, T] ty [.slice p len cap, .slice (some ((blk n).add 0)) 1 1])) h1 K := by
  intro n hn h1 e1
  have l1 : Le h h1 := e1 ▸ le_hnew hn
  refine appendL (ys := [cs]) ef ef.hu hlen (ha.mono l1) rfl (fun r hr => by rw [List.mem_singleton.1 hr]; exact hc) (fun i hi => ?_)
    (fun r hr => by rw [List.mem_singleton.1 hr]; exact ho) fun h' p' cap' a' ka fr => k h' p' cap' a' (fun b o hb hne => ka b o (l1 b o hb) hne) fun A off sp e => ?_
  · rw [Nat.one_mul] at hi
    refine ⟨_, rfl, ?_⟩
    have hf : flat [cs] size (0 * size + i) = cs[i] := flat_at (i := 0) (r := cs) hc rfl (List.getElem?_eq_getElem (by omega))
    rw [Nat.zero_mul, Nat.zero_add] at hf
    rw [hf, blk_mk, add_mk, add_mk, e1, cell_of hnew_same]
    simp [hc, hi]
  · rcases fr A off sp e with h2 | h2
    · exact .inl h2
    · refine .inr ?_
      cases hA : h A with
      | none => rfl
      | some o => rw [l1 A o hA] at h2; cases h2
end Lf

/- Functions of the library without a text: what the model says of them. -/
namespace Lf
open Go
variable {P : Program}

def extOf (P : Program) (f : FuncId) : Option (Array Value → Sem Value) :=
  (P.funcs[f]?).bind fun fn => if fn.name == "runtime.NumGoroutine" || fn.body.isSome || (Extern.findNext fn).isSome then none else Extern.find fn

theorem RunL.ext {f : FuncId} {args : List Value} {e : Array Value → Sem Value} {v : Value} {h : H} {K : Value → H → Prop} (he : extOf P f = some e) (hr : ∀ W, (e args.toArray).run P W = .ok v W) (k : K v h) :
    RunL P (X.sem (.ext f args)) h K := by
  unfold extOf at he
  obtain ⟨fn, hf, h1⟩ := Option.bind_eq_some_iff.1 he
  split at h1
  · cases h1
  · rename_i hc
    simp only [Bool.or_eq_true, not_or, Bool.not_eq_true, Option.isSome_eq_false_iff, Option.isNone_iff_eq_none] at hc
    obtain ⟨⟨h2, h3⟩, h4⟩ := hc
    simp only [X.sem]
    refine RunL.bind ?_
    unfold callFunc
    refine RunL.bind (RunL.program ?_)
    simp only [hf, h2, h3, h4, h1, Option.isNone_none, if_true, Bool.false_eq_true, if_false]
    refine RunL.bind (RunL.mark ?_)
    refine RunL.bind (RunL.of_run (x := v) (fun W _ => hr W) ?_)
    refine RunL.pure ?_
    exact RunL.pure k

theorem RunL.float64bits {f : FuncId} {b : Nat} {h : H} {K : Value → H → Prop} (he : extOf P f = some Extern.MathFloatBits.float64bits) (k : K (.int .u64 b) h) :
    RunL P (X.sem (.ext f [.float .f64 b])) h K := RunL.ext he (fun _ => rfl) k
theorem RunL.float64frombits {f : FuncId} {n : Int} {h : H} {K : Value → H → Prop} (he : extOf P f = some Extern.MathFloatBits.float64frombits) (k : K (.float .f64 n.toNat) h) :
    RunL P (X.sem (.ext f [.int .u64 n])) h K := RunL.ext he (fun _ => rfl) k
end Lf

