/- Layer 6: the heap's rows in memory; comparing and swapping. -/
import Derived.Test.YtpdgjniflbglgaaDueTxt
import Derived.Test.YtpdgjniflbglgaaLfData
namespace DueP
open Go Lf

/-- An entry: its block, its key, when it is due. -/
structure E where
  b : Nat
  k : Int
  t : Int

def lessE (x y : E) : Bool := decide (x.t < y.t) || (decide (x.t = y.t) && decide (x.k < y.k))

/-- A row of entries in memory. -/
structure Row (h : H) (d : Nat) (mv : Value) (n : Nat) (f : Nat → E) (sp : Option Nat) (cap : Nat) : Prop where
  dues : h d = some (.cells #[.slice (sp.map fun A => ⟨A, 0, none⟩) n cap, mv] 51 (0, 0))
  arr : ∀ A, sp = some A → ∃ c, h A = some (.cells c 52 (0, 0)) ∧ cap ≤ c.size ∧ ∀ i, i < n → c[i]? = some (.pointer (some ⟨(f i).b, 0, none⟩))
  nil : sp = none → n = 0 ∧ cap = 0
  le : n ≤ cap
  ent : ∀ i, i < n → h (f i).b = some (.cells #[.int .u64 (f i).k, .int .u64 (f i).t, .int .i64 i] 55 (0, 0))
  inj : ∀ i j, i < n → j < n → (f i).b = (f j).b → i = j

variable {h : H} {d : Nat} {mv : Value} {n : Nat} {f : Nat → E} {sp : Option Nat} {cap : Nat}

theorem Row.mono {h' : H} (r : Row h d mv n f sp cap) (l : Le h h') : Row h' d mv n f sp cap where
  dues := l _ _ r.dues
  arr A hA := let ⟨c, x, y⟩ := r.arr A hA; ⟨c, l _ _ x, y⟩
  nil := r.nil
  le := r.le
  ent i hi := l _ _ (r.ent i hi)
  inj := r.inj

theorem Row.has (r : Row h d mv n f sp cap) {i : Nat} (hi : i < n) : ∃ A c, sp = some A ∧ h A = some (.cells c 52 (0, 0)) ∧ cap ≤ c.size ∧ ∀ i, i < n → c[i]? = some (.pointer (some ⟨(f i).b, 0, none⟩)) := by
  cases sp with
  | none => have := (r.nil rfl).1; omega
  | some A => obtain ⟨c, x⟩ := r.arr A rfl; exact ⟨A, c, rfl, x⟩

def cmpI (x y : Int) : Int := if x < y then -1 else if x > y then 1 else 0

theorem c47 (x : Int) (h : H) : Spec P 47 #[.int .u64 x] h (fun v h' => v = .bool false ∧ h' = h) := by
  apply s47
  unfold f47
  exact ⟨by simp, rfl⟩

theorem c46 (x y : Int) (h : H) : Spec P 46 #[.int .u64 x, .int .u64 y] h (fun v h' => v = .int .i64 (cmpI x y) ∧ h' = h) := by
  apply s46
  unfold f46
  refine (c47 x h).mono fun v h1 ⟨e, e1⟩ => ⟨false, e, ?_⟩
  subst e1
  refine (c47 y h1).mono fun v h2 ⟨e, e1⟩ => ⟨false, e, ?_⟩
  subst e1
  refine ⟨by simp, fun _ => ⟨by simp, fun _ => ⟨fun hl => ?_, fun hl => ⟨fun hg => ?_, fun hg => ?_⟩⟩⟩⟩
  · simp only [decide_eq_true_eq] at hl; exact ⟨by simp [cmpI, hl], rfl⟩
  · simp only [decide_eq_false_iff_not, decide_eq_true_eq] at hl hg; exact ⟨by simp [cmpI, hl, hg], rfl⟩
  · simp only [decide_eq_false_iff_not] at hl hg; exact ⟨by simp [cmpI, hl, hg], rfl⟩

theorem c45 (x y : Int) (b : Nat) (h : H) (hb : h b = some (.cells #[.int .i64 x, .int .i64 y] 3 (0, 0))) :
    Spec P 45 #[.slice (some ⟨b, 0, none⟩) 2 2] h (fun v h' => v = .int .i64 (if x = 0 then y else x) ∧ h' = h) := by
  apply s45
  unfold f45
  refine ⟨fun k l h' => h' = h ∧ ∃ i : Nat, k + i = 2 ∧ l = [.int .i64 i, .int .i64 0] ∧ (1 ≤ i → x = 0) ∧ (2 ≤ i → y = 0), ⟨2, rfl, 0, rfl, rfl, by omega, by omega⟩, ?_⟩
  rintro k x6 x7 h8 ⟨rfl, i, hk, e, h1, h2⟩
  simp only [List.cons.injEq, Value.int.injEq, true_and, and_true] at e
  obtain ⟨rfl, rfl⟩ := e
  refine ⟨fun hl => ?_, fun hl => ?_⟩
  · simp only [decide_eq_true_eq] at hl
    have hi : i = 0 ∨ i = 1 := by omega
    rcases hi with rfl | rfl
    · refine ⟨_, rfl, by omega, x, by simp [cell_of hb], ?_, ?_⟩
      · intro hx; simp only [Bool.not_eq_true', decide_eq_false_iff_not] at hx; simp [hx]
      · intro hx; simp only [Bool.not_eq_false', decide_eq_true_eq] at hx
        exact ⟨1, by omega, rfl, 1, rfl, by simp [wrap_i64_of], fun _ => hx, by omega⟩
    · refine ⟨_, rfl, by omega, y, by simp [cell_of hb], ?_, ?_⟩
      · intro hx; exact ⟨by simp [h1 (by omega)], rfl⟩
      · intro hx; simp only [Bool.not_eq_false', decide_eq_true_eq] at hx
        exact ⟨0, by omega, rfl, 2, rfl, by simp [wrap_i64_of], fun _ => h1 (by omega), fun _ => hx⟩
  · simp only [decide_eq_false_iff_not] at hl
    have : 2 ≤ i := by omega
    exact ⟨by simp [h1 (by omega), h2 this], rfl⟩

theorem c43 (r : Row h d mv n f sp cap) {i j : Nat} (hi : i < n) (hj : j < n) :
    Spec P 43 #[.slice (sp.map fun A => ⟨A, 0, none⟩) n cap, .int .i64 i, .int .i64 j] h (fun v h' => v = .bool (lessE (f i) (f j)) ∧ Le h h') := by
  obtain ⟨A, c, rfl, hA, hc, hp⟩ := r.has hi
  apply s43
  unfold f43
  have ci : cell h ⟨A, i, none⟩ = some (.pointer (some ⟨(f i).b, 0, none⟩)) := by rw [cell_of hA, hp i hi]
  have cj : cell h ⟨A, j, none⟩ = some (.pointer (some ⟨(f j).b, 0, none⟩)) := by rw [cell_of hA, hp j hj]
  have bi : (0 : Int) ≤ (i : Int) ∧ (i : Int) < (n : Int) := by omega
  have bj : (0 : Int) ≤ (j : Int) ∧ (j : Int) < (n : Int) := by omega
  refine ⟨_, rfl, bi, _, by simpa using ci, _, rfl, _, by simp [cell_of (r.ent i hi)]; rfl, _, rfl, bj, _, by simpa using cj, _, rfl, _, by simp [cell_of (r.ent j hj)]; rfl,
    _, rfl, bi, _, by simpa using ci, _, rfl, _, by simp [cell_of (r.ent i hi)]; rfl, _, rfl, bj, _, by simpa using cj, _, rfl, _, by simp [cell_of (r.ent j hj)]; rfl, ?_⟩
  refine (c46 _ _ h).mono fun v h1 ⟨e, e1⟩ => ⟨_, e, e1 ▸ Le.refl _, ?_⟩
  subst e1
  refine (c46 _ _ h1).mono fun v h2 ⟨e, e1⟩ => ⟨_, e, e1 ▸ Le.refl _, ?_⟩
  subst e1
  intro n27 hn h28 e28
  have l : Le h2 h28 := e28 ▸ le_hnew hn
  refine ⟨l, ?_⟩
  refine (c45 (cmpI (f i).t (f j).t) (cmpI (f i).k (f j).k) n27 h28 (by rw [e28, hnew_same])).mono fun v h3 ⟨e, e1⟩ => ⟨_, e, ?_, by rw [e1]; exact l⟩
  congr 1
  unfold cmpI lessE
  by_cases h1 : (f i).t < (f j).t
  · simp [h1]
  · by_cases h2 : (f i).t > (f j).t
    · have : ¬ (f i).t = (f j).t := by omega
      simp [h1, h2, this]
    · have : (f i).t = (f j).t := by omega
      simp only [this, Int.lt_irrefl, if_false, gt_iff_lt, decide_false, Bool.false_or, decide_true, Bool.true_and]
      by_cases h3 : (f i).k < (f j).k
      · simp [h3]
      · by_cases h4 : (f j).k < (f i).k
        · simp [h3, h4]
        · simp [h3, h4]

/-- Two entries change their places. -/
def swapF (f : Nat → E) (i j : Nat) : Nat → E := fun x => if x = i then f j else if x = j then f i else f x

theorem c44 (r : Row h d mv n f sp cap) {i j : Nat} (hi : i < n) (hj : j < n) (hij : i ≠ j) :
    Spec P 44 #[.slice (sp.map fun A => ⟨A, 0, none⟩) n cap, .int .i64 i, .int .i64 j] h (fun v h' => v = .tuple #[] ∧ Row h' d mv n (swapF f i j) sp cap ∧ KeepM h h') := by
  obtain ⟨A, c, rfl, hA, hc, hp⟩ := r.has hi
  apply s44
  unfold f44
  have ci : cell h ⟨A, i, none⟩ = some (.pointer (some ⟨(f i).b, 0, none⟩)) := by rw [cell_of hA, hp i hi]
  have cj : cell h ⟨A, j, none⟩ = some (.pointer (some ⟨(f j).b, 0, none⟩)) := by rw [cell_of hA, hp j hj]
  have bi : (0 : Int) ≤ (i : Int) ∧ (i : Int) < (n : Int) := by omega
  have bj : (0 : Int) ≤ (j : Int) ∧ (j : Int) < (n : Int) := by omega
  have le := r.le
  refine ⟨_, rfl, bj, _, by simpa using cj, _, rfl, bi, _, by simpa using ci, _, rfl, bi, by simpa using isSet_of hA (by omega), fun h10 e10 => ?_⟩
  have hA10 : h10 A = some (.cells (c.setIfInBounds i (.pointer (some ⟨(f j).b, 0, none⟩))) 52 (0, 0)) := by
    rw [e10]; simpa using hset_same hA
  refine ⟨_, rfl, bj, by simpa using isSet_of hA10 (by simp; omega), fun h12 e12 => ?_⟩
  have hA12 : h12 A = some (.cells ((c.setIfInBounds i (.pointer (some ⟨(f j).b, 0, none⟩))).setIfInBounds j (.pointer (some ⟨(f i).b, 0, none⟩))) 52 (0, 0)) := by
    rw [e12]; simpa using hset_same hA10
  have oth : ∀ b, b ≠ A → h12 b = h b := fun b hb => by
    rw [e12, e10]; simp only [aidx_mk, add_mk]; rw [hset_other hb, hset_other hb]
  have neA : ∀ x, x < n → (f x).b ≠ A := fun x hx => ne_of (r.ent x hx) hA (by simp)
  have ei := (oth _ (neA i hi)).trans (r.ent i hi)
  have ej := (oth _ (neA j hj)).trans (r.ent j hj)
  have c12 : ∀ x, x < n → ((c.setIfInBounds i (.pointer (some ⟨(f j).b, 0, none⟩))).setIfInBounds j (.pointer (some ⟨(f i).b, 0, none⟩)))[x]? = some (.pointer (some ⟨(swapF f i j x).b, 0, none⟩)) := by
    intro x hx
    rw [Array.getElem?_setIfInBounds]
    unfold swapF
    by_cases h1 : j = x
    · subst h1; rw [if_pos rfl, if_pos (by simp; omega), if_neg (Ne.symm hij), if_pos rfl]
    · rw [if_neg h1, Array.getElem?_setIfInBounds]
      by_cases h2 : i = x
      · subst h2; rw [if_pos rfl, if_pos (by omega), if_pos rfl]
      · rw [if_neg h2, if_neg (Ne.symm h2), if_neg (Ne.symm h1)]; exact hp x hx
  have si := c12 i hi
  have sj := c12 j hj
  refine ⟨_, rfl, bi, _, by simp [cell_of hA12]; exact si, _, rfl, bj, _, by simp [cell_of hA12]; exact sj, ?_⟩
  have fi : swapF f i j i = f j := by simp [swapF]
  have fj : swapF f i j j = f i := by simp [swapF, Ne.symm hij]
  rw [fi, fj]
  refine ⟨_, rfl, by simpa using isSet_of ej (by simp), fun h18 e18 => ?_⟩
  have hne : (f i).b ≠ (f j).b := fun e => hij (r.inj i j hi hj e)
  have ei18 : h18 (f i).b = some (.cells #[.int .u64 (f i).k, .int .u64 (f i).t, .int .i64 i] 55 (0, 0)) := by
    rw [e18]; simp only [add_mk]; rw [hset_other hne]; exact ei
  refine ⟨_, rfl, by simpa using isSet_of ei18 (by simp), fun h20 e20 => ⟨rfl, ?_, ?_⟩⟩
  · have o2 : ∀ b, b ≠ (f i).b → b ≠ (f j).b → h20 b = h12 b := fun b h1 h2 => by
      rw [e20, e18]; simp only [add_mk]; rw [hset_other h1, hset_other h2]
    have ej20 : h20 (f j).b = some (.cells #[.int .u64 (f j).k, .int .u64 (f j).t, .int .i64 i] 55 (0, 0)) := by
      rw [e20]; simp only [add_mk]; rw [hset_other (Ne.symm hne), e18]; simp only [add_mk]
      rw [hset_same ej]; rfl
    have ei20 : h20 (f i).b = some (.cells #[.int .u64 (f i).k, .int .u64 (f i).t, .int .i64 j] 55 (0, 0)) := by
      rw [e20]; simp only [add_mk]; rw [hset_same ei18]; rfl
    have nd : ∀ x, x < n → (f x).b ≠ d := fun x hx => ne_of (r.ent x hx) r.dues (by simp)
    have nAd : A ≠ d := ne_of hA r.dues (by simp)
    exact {
      dues := by rw [o2 d (Ne.symm (nd i hi)) (Ne.symm (nd j hj)), oth d (Ne.symm nAd)]; exact r.dues
      arr := fun A' e => by
        cases e
        exact ⟨_, by rw [o2 A (Ne.symm (neA i hi)) (Ne.symm (neA j hj))]; exact hA12, by simpa using hc, c12⟩
      nil := fun e => by cases e
      le := r.le
      ent := fun x hx => by
        unfold swapF
        by_cases h1 : x = i
        · subst h1; rw [if_pos rfl]; exact ej20
        · by_cases h2 : x = j
          · subst h2; rw [if_neg h1, if_pos rfl]; exact ei20
          · rw [if_neg h1, if_neg h2, o2 _ (fun e => h1 (r.inj _ _ hx hi e)) (fun e => h2 (r.inj _ _ hx hj e)), oth _ (neA x hx)]; exact r.ent x hx
      inj := fun x y hx hy e => by
        have key : ∀ z, ∃ z', swapF f i j z = f z' ∧ (z < n → z' < n) ∧ ((z = i ∧ z' = j) ∨ (z = j ∧ z' = i) ∨ (z ≠ i ∧ z ≠ j ∧ z' = z)) := fun z => by
          unfold swapF
          by_cases h1 : z = i
          · exact ⟨j, by rw [if_pos h1], fun _ => hj, .inl ⟨h1, rfl⟩⟩
          · by_cases h2 : z = j
            · exact ⟨i, by rw [if_neg h1, if_pos h2], fun _ => hi, .inr (.inl ⟨h2, rfl⟩)⟩
            · exact ⟨z, by rw [if_neg h1, if_neg h2], id, .inr (.inr ⟨h1, h2, rfl⟩)⟩
        obtain ⟨x', e1, l1, h1⟩ := key x
        obtain ⟨y', e2, l2, h2⟩ := key y
        rw [e1, e2] at e
        have := r.inj _ _ (l1 hx) (l2 hy) e
        omega }
  · intro b es ck hb
    rw [e20, e18, e12, e10]
    exact keepM_hset _ _ _ _ _ _ (keepM_hset _ _ _ _ _ _ (keepM_hset _ _ _ _ _ _ (keepM_hset _ _ _ _ _ _ hb)))
end DueP
