/- Slices that grow: append over partial heaps. -/
import Derived.Test.YtpdgjniflbglgaaLfData
namespace Lf
open Go
variable {P : Program}

theorem RunL.of_run {α : Type} {s : Sem α} {h : H} {x : α} {K : α → H → Prop} (r : ∀ W, Sub h W → s.run P W = .ok x W) (k : K x h) : RunL P s h K :=
  fun W sw => ⟨x, W, h, r W sw, sw, Frame.refl _ _, k⟩

theorem RunL.under {t : TypeId} {dd : TypeDesc} {h : H} {K : TypeDesc → H → Prop} (hu : P.underlying t = some dd) (k : K dd h) : RunL P (underlying t) h K :=
  RunL.of_run (fun W _ => run_under hu W) k
theorem RunL.sizeOf {t n : Nat} {h : H} {K : Nat → H → Prop} (hs : sizeO P t = some n) (k : K n h) : RunL P (Go.sizeOf t) h K :=
  RunL.of_run (fun W _ => run_size hs W) k
theorem RunL.zero {t : Nat} {z : Value} {h : H} {K : Value → H → Prop} (hz : zeroOf P t = some z) (k : K z h) : RunL P (zeroValue t) h K :=
  RunL.of_run (fun W _ => run_zero hz W) k
theorem RunL.info {t : TypeId} {i : TypeInfo} {h : H} {K : TypeInfo → H → Prop} (hi : P.info? t = some i) (k : K i h) : RunL P (typeInfo t) h K :=
  RunL.of_run (fun W _ => run_info hi W) k

/-- The first n cells of a block. -/
theorem RunL.loadCells {A n : Nat} {c : Array Value} {e : TypeId} {h : H} {K : Array Value → H → Prop} (hA : h A = some (.cells c e (0, 0))) (hn : n ≤ c.size) (k : K (c.extract 0 n) h) :
    RunL P (Go.loadCells ⟨A, 0, none⟩ n) h K := by
  refine RunL.of_run (x := c.extract 0 n) (fun W sw => ?_) k
  have := run_loadCells (P := P) ⟨A, 0, none⟩ W n (c.toList.take n) (by simp; omega) (fun j v hj => by
    rw [add_mk]
    refine sw.cell ?_
    rw [cell_of hA, Nat.zero_add]
    rw [List.getElem?_take] at hj
    split at hj
    · simpa using hj
    · cases hj)
  rw [this]
  congr 1
  apply Array.ext'
  simp [List.extract_eq_take_drop]

theorem RunL.storeCells {A : Nat} {e : TypeId} {off : Nat} : ∀ (vs : List Value) (i : Nat) (c : Array Value) (h : H) (K : Unit → H → Prop), h A = some (.cells c e (0, 0)) → off + i + vs.length ≤ c.size → (∀ v ∈ vs, v.oneCell = true) →
    (∀ h' c', h' A = some (.cells c' e (0, 0)) → c'.size = c.size → (∀ j, c'[j]? = if off + i ≤ j ∧ j < off + i + vs.length then vs[j - (off + i)]? else c[j]?) → (∀ b, b ≠ A → h' b = h b) → K () h') →
    RunL P (Go.storeCells ⟨A, off, none⟩ vs i) h K
  | [], i, c, h, K, hA, _, _, k => by
    simp only [Go.storeCells]
    refine RunL.pure (k h c hA rfl (fun j => ?_) (fun _ _ => rfl))
    rw [if_neg (by simp)]
  | v :: vs, i, c, h, K, hA, hl, ho, k => by
    simp only [Go.storeCells]
    simp only [List.length_cons] at hl
    refine RunL.bind ?_
    rw [add_mk]
    have hlt : off + i < c.size := by omega
    refine RunL.store (ho v (by simp)) (u := c[off + i]) (by rw [cell_of hA]; simp [hlt]) (free_of hA) ?_
    refine RunL.storeCells vs (i + 1) (c.setIfInBounds (off + i) v) _ K (hset_same hA) (by simp; omega) (fun u hu => ho u (by simp [hu])) fun h' c' h1 h2 h3 h4 => ?_
    refine k h' c' h1 (by simpa using h2) (fun j => ?_) (fun b hb => by rw [h4 b hb, hset_other hb])
    rw [h3 j, Array.getElem?_setIfInBounds]
    by_cases e1 : j = off + i
    · subst e1
      rw [if_neg (by omega), if_pos rfl, if_pos hlt, if_pos (by simp)]
      simp
    · by_cases e2 : off + (i + 1) ≤ j ∧ j < off + (i + 1) + vs.length
      · rw [if_pos e2, if_pos (by simp; omega)]
        have : j - (off + i) = (j - (off + (i + 1))) + 1 := by omega
        rw [this]; simp
      · rw [if_neg e2, if_neg (Ne.symm e1), if_neg (by simp; omega)]

theorem growBy_le (need : Nat) : ∀ (r c : Nat), c ≤ 2 * need + 192 → Builtin.growBy need r c ≤ 2 * need + 192
  | 0, c, h => by simp only [Builtin.growBy]; exact h
  | r + 1, c, h => by
    simp only [Builtin.growBy]
    split
    · exact h
    · rename_i hc
      exact growBy_le need r _ (by omega)

theorem nextslicecap_le {need cap : Nat} (h : cap < need) : Builtin.nextslicecap need cap ≤ 2 * need + 192 := by
  unfold Builtin.nextslicecap
  split
  · omega
  · split
    · omega
    · exact growBy_le need 4 cap (by omega)

/-- A slice that owns the cells from the block's beginning on. -/
structure Arr (h : H) (elem size : Nat) (p : Option Addr) (len cap : Nat) (g : Nat → Value) : Prop where
  le : len ≤ cap
  nil : p = none → cap = 0
  arr : ∀ a, p = some a → ∃ A c, a = ⟨A, 0, none⟩ ∧ h A = some (.cells c elem (0, 0)) ∧ cap * size ≤ c.size ∧ ∀ i, i < len * size → c[i]? = some (g i)

theorem Arr.mono {h h' : H} {elem size : Nat} {p : Option Addr} {len cap : Nat} {g : Nat → Value} (r : Arr h elem size p len cap g) (l : Le h h') : Arr h' elem size p len cap g :=
  ⟨r.le, r.nil, fun a e => let ⟨A, c, e1, x, y⟩ := r.arr a e; ⟨A, c, e1, l _ _ x, y⟩⟩

theorem Arr.nilA (h : H) (elem size : Nat) (g : Nat → Value) : Arr h elem size none 0 0 g := ⟨Nat.le_refl _, fun _ => rfl, fun a e => by cases e⟩

/-- What stays when a slice grows: every block but its own. -/
def KeepA (p : Option Addr) (h h' : H) : Prop := ∀ b o, h b = some o → (∀ off, p ≠ some ⟨b, off, none⟩) → h' b = some o

/-- What a slice's elements are: none, or the cells at a block's beginning. -/
def Part (h : H) (q : Option Addr) (n : Nat) (y : Nat → Value) : Prop :=
  (q = none ∧ n = 0) ∨ ∃ B e c, q = some ⟨B, 0, none⟩ ∧ h B = some (.cells c e (0, 0)) ∧ n ≤ c.size ∧ ∀ i, i < n → c[i]? = some (y i)

theorem RunL.firstCells {h : H} {q : Option Addr} {size n m mc : Nat} {y : Nat → Value} {K : Array Value → H → Prop} (hq : Part h q (n * size) y)
    (k : ∀ c : Array Value, c.size = n * size → (∀ i, i < n * size → c[i]? = some (y i)) → K c h) : RunL P (Builtin.firstCells size n (.slice q m mc)) h K := by
  rcases hq with ⟨rfl, h0⟩ | ⟨B, e, c, rfl, hB, hn, hc⟩
  · refine RunL.pure (k #[] (by simp [h0]) (fun i hi => by omega))
  · refine RunL.loadCells hB hn (k _ (by simp; omega) fun i hi => ?_)
    rw [Array.getElem?_extract]
    rw [if_pos (by omega)]
    simpa using hc i hi

theorem zeroCells_size (z : Array Value) (n : Nat) : (Builtin.zeroCells z n).size = n * z.size := by simp [Builtin.zeroCells]

/-- Some more to a slice that grows: m elements from another one. -/
theorem append_run {T T2 ty elem size e2 bytes : Nat} {z : Value} {h : H} {p q : Option Addr} {len cap m mc : Nat} {g y : Nat → Value} {K : Value → H → Prop}
    (hu : P.underlying T = some (.slice elem)) (hu2 : P.underlying T2 = some (.slice e2)) (hs : sizeO P elem = some size) (hz : zeroOf P elem = some z) (hzs : z.cells.size = size) (hi' : (P.info? elem).map (·.bytes) = some bytes)
    (hb' : 0 < bytes ∧ bytes ≤ 64) (hlen : len + m < 2 ^ 40) (ha : Arr h elem size p len cap g) (hq : Part h q (m * size) y)
    (hy : ∀ i, i < m * size → (y i).oneCell = true)
    (k : ∀ h' p' cap', Arr h' elem size p' (len + m) cap' (fun i => if i < len * size then g i else y (i - len * size)) → KeepA p h h' →
      (∀ A, p' = some ⟨A, 0, none⟩ → p = some ⟨A, 0, none⟩ ∨ h A = none) → K (.slice p' (len + m) cap') h') :
    RunL P (X.sem (.bi .append #[T, T2] ty [.slice p len cap, .slice q m mc])) h K := by
  obtain ⟨info, hi, hbe⟩ : ∃ info, P.info? elem = some info ∧ info.bytes = bytes := by
    cases hh : P.info? elem with
    | none => rw [hh] at hi'; cases hi'
    | some i => rw [hh] at hi'; exact ⟨i, rfl, by simpa using hi'⟩
  have hb : 0 < info.bytes ∧ info.bytes ≤ 64 := by rw [hbe]; exact hb'
  have hp : Part h p (len * size) g := by
    cases p with
    | none => exact .inl ⟨rfl, by have := ha.nil rfl; have := ha.le; rw [show len = 0 by omega]; simp⟩
    | some a =>
      obtain ⟨A, c, rfl, hA, hc, hg⟩ := ha.arr a rfl
      exact .inr ⟨A, elem, c, rfl, hA, Nat.le_trans (Nat.mul_le_mul_right _ ha.le) hc, hg⟩
  suffices hmain : RunL P (Builtin.append_ #[T, T2] ty #[.slice p len cap, .slice q m mc]) h K by
    refine RunL.bind (RunL.bind (hmain.mono fun v h' hk => RunL.pure (RunL.pure hk)))
  unfold Builtin.append_
  simp only [List.getElem?_toArray, List.getElem?_cons_zero, List.getElem?_cons_succ]
  refine RunL.bind (RunL.under hu ?_)
  simp only []
  refine RunL.bind (RunL.sizeOf hs ?_)
  refine RunL.bind (RunL.under hu2 ?_)
  refine RunL.bind (RunL.pure ?_)
  simp only [Bool.false_eq_true, if_false, Bool.not_false, if_true, false_or]
  refine RunL.bind (RunL.pure ?_)
  by_cases hfit : len + m ≤ cap
  · rw [if_pos hfit]
    refine RunL.bind (RunL.firstCells hq fun cs hcs hcy => ?_)
    have hone : ∀ v ∈ cs.toList, v.oneCell = true := fun v hv => by
      obtain ⟨i, hi', rfl⟩ := List.getElem_of_mem hv
      have hlt : i < m * size := by simpa [hcs] using hi'
      have := hcy i hlt
      have e : cs.toList[i] = y i := by
        rw [Array.getElem_toList]
        rw [Array.getElem?_eq_getElem (by omega)] at this
        exact Option.some.inj this
      rw [e]; exact hy i hlt
    cases p with
    | none =>
      refine RunL.pure ?_
      have c0 := ha.nil rfl
      have : len + m = 0 := by omega
      refine k h none cap ⟨hfit, fun _ => c0, fun a e => by cases e⟩ (fun b o hb _ => hb) (fun A e => by cases e)
    | some a =>
      obtain ⟨A, c, rfl, hA, hc, hg⟩ := ha.arr a rfl
      have hle : len * size + m * size ≤ c.size := by
        rw [← Nat.add_mul]; exact Nat.le_trans (Nat.mul_le_mul_right _ hfit) hc
      refine RunL.bind ?_
      rw [add_mk]
      refine RunL.storeCells cs.toList 0 c h _ hA (by simp [hcs]; omega) hone fun h' c' h1 h2 h3 h4 => ?_
      refine RunL.pure (k h' _ cap ⟨hfit, fun e => (by cases e), fun a e => ?_⟩ (fun b o hb hne => ?_) (fun A' e => .inl e))
      · simp only [Option.some.injEq] at e; subst e
        refine ⟨A, c', rfl, h1, by omega, fun i hi' => ?_⟩
        rw [h3 i]
        rw [Nat.add_mul] at hi'
        by_cases e1 : i < len * size
        · rw [if_neg (by omega), if_pos e1]; exact hg i e1
        · rw [if_pos (by simp [hcs]; omega), if_neg e1]
          have := hcy (i - len * size) (by omega)
          simpa using this
      · rw [h4 b (fun e => hne 0 (by rw [e]))]; exact hb
  · rw [if_neg hfit]
    have hcl : cap < len + m := by omega
    refine RunL.bind (RunL.info hi ?_)
    rw [if_neg (by rintro ⟨_, h⟩; omega)]
    refine RunL.bind (RunL.info hi ?_)
    have hnc := nextslicecap_le hcl
    have hb1 : Builtin.nextslicecap (len + m) cap * info.bytes ≤ 2 ^ 48 := by
      calc Builtin.nextslicecap (len + m) cap * info.bytes ≤ (2 * (len + m) + 192) * 64 := Nat.mul_le_mul hnc hb.2
        _ ≤ 2 ^ 48 := by omega
    rw [if_neg (by omega)]
    refine RunL.bind (RunL.choose rfl fun tt => ?_)
    refine RunL.bind (RunL.info hi ?_)
    generalize hcap : Question.cut (Question.appendCap (len + m) cap elem) tt = newCap
    have hge : len + m ≤ newCap := by rw [← hcap]; simp only [Question.cut]; omega
    have room : ∀ {K : Unit → H → Prop}, K () h → RunL P (askRoom (newCap * info.bytes)) h K := fun {K} hk => by
      unfold askRoom; split
      · exact RunL.mark hk
      · exact RunL.pure hk
    refine RunL.bind (room ?_)
    refine RunL.bind (RunL.firstCells hp fun c1 hc1 hg1 => ?_)
    refine RunL.bind (RunL.firstCells hq fun c2 hc2 hg2 => ?_)
    refine RunL.bind (RunL.zero hz ?_)
    unfold newRow
    refine RunL.bind (RunL.bind (RunL.newObj fun b hbn => RunL.pure ?_))
    refine RunL.pure (k _ _ newCap ⟨hge, fun e => (by cases e), fun a e => ?_⟩ (fun b' o hb' _ => ?_) (fun A' e => .inr (by simp only [Option.some.injEq, Addr.mk.injEq, and_true] at e; rw [← e]; exact hbn)))
    · simp only [Option.some.injEq] at e; subst e
      refine ⟨b, _, rfl, hnew_same, ?_, fun i hi' => ?_⟩
      · simp only [Array.size_append, hc1, hc2, zeroCells_size, hzs]
        rw [← Nat.add_mul, ← Nat.add_mul]; exact Nat.mul_le_mul_right _ (by omega)
      · rw [Nat.add_mul] at hi'
        rw [Array.getElem?_append]
        rw [if_pos (by simp [hc1, hc2]; omega), Array.getElem?_append]
        by_cases e1 : i < len * size
        · rw [if_pos (by omega), if_pos e1]; exact hg1 i e1
        · rw [if_neg (by omega), if_neg e1, hc1]; exact hg2 _ (by omega)
    · rw [hnew_other]
      · exact hb'
      · intro e; subst e; rw [hbn] at hb'; cases hb'
end Lf
