/- Layer 6: a list of what is due when, in memory; New, Set, Cut. -/
import Derived.Test.YtpdgjniflbglgaaDueSet
namespace DueP
open Go Lf

theorem u47 : P.underlying 47 = some (.map 23 52) := by kernel_rfl
theorem u23 : P.underlying 23 = some (.int .u64) := by kernel_rfl
theorem k23 : KeyOk P 23 (fun a : Int => .int .u64 a) := keyInt .u64 u23

def upd (M : Int → Option Int) (k : Int) (t : Option Int) : Int → Option Int := fun x => if x = k then t else M x

abbrev ptrTo (b : Nat) : Value := .pointer (some ⟨b, 0, none⟩)

/-- A list of what is due when. -/
def Dues (h : H) (d : Nat) (M : Int → Option Int) (n : Nat) : Prop :=
  ∃ m f sp cap get, Row h d (.map (some m)) n f sp cap ∧ Heap n f ∧ Mp h m (fun a : Int => .int .u64 a) get ∧
    (∀ i, i < n → get (f i).k = some (ptrTo (f i).b)) ∧ (∀ a v, get a = some v → ∃ i, i < n ∧ (f i).k = a) ∧
    (∀ i, i < n → M (f i).k = some (f i).t) ∧ (∀ a t, M a = some t → ∃ i, i < n ∧ (f i).k = a)

variable {h : H} {d : Nat} {M : Int → Option Int} {n : Nat}

theorem Dues.mono {h' : H} (r : Dues h d M n) (l : Le h h') : Dues h' d M n :=
  let ⟨m, f, sp, cap, get, a, b, c, r⟩ := r; ⟨m, f, sp, cap, get, a.mono l, b, c.mono l.keepM, r⟩

theorem cell1 {mv : Value} {f : Nat → E} {sp : Option Nat} {cap : Nat} (r : Row h d mv n f sp cap) : cell h ((⟨d, 0, none⟩ : Addr).add 1) = some mv := by
  rw [add_mk, cell_of r.dues]; rfl

theorem c6 (h : H) : Spec P 6 #[] h (fun v h' => ∃ d, v = ptrTo d ∧ Dues h' d (fun _ => none) 0 ∧ Le h h') := by
  apply s6
  unfold f6
  refine makeMap_run (kk := fun a : Int => .int .u64 a) fun m h1 hm mp ho => ⟨some m, rfl, fun n3 hn h4 e4 => ?_⟩
  have l1 : Le h h1 := fun b o hb => by rw [ho b]; · exact hb
                                        intro e; subst e; rw [hm] at hb; cases hb
  have l4 : Le h1 h4 := e4 ▸ le_hnew hn
  refine ⟨n3, rfl, ⟨m, fun _ => ⟨0, 0, 0⟩, none, 0, _, ?_, fun c h1 h2 => (by omega), mp.mono l4.keepM, fun i hi => (by omega), fun a v e => (by cases e), fun i hi => (by omega), fun a t e => (by cases e)⟩, l1.trans l4⟩
  exact {
    dues := by rw [e4, hnew_same]; rfl
    arr := fun A e => by cases e
    nil := fun _ => ⟨rfl, rfl⟩
    le := Nat.le_refl _
    ent := fun i hi => by omega
    inj := fun i j hi => by omega }

theorem c8 (r : Dues h d M n) (hN : n < 2 ^ 40 - 1) (k t : Int) :
    Spec P 8 #[ptrTo d, .int .u64 k, .int .u64 t] h (fun v h' => v = .tuple #[] ∧ Dues h' d (upd M k (some t)) (if (M k).isSome then n else n + 1)) := by
  obtain ⟨m, f, sp, cap, get, rw0, hp, mp, g1, g2, m1, m2⟩ := r
  apply s8
  unfold f8
  refine ⟨fun h => (by cases h), fun _ => ⟨_, rfl, _, cell1 rw0, ?_⟩⟩
  refine lookup_run (kk := fun a : Int => .int .u64 a) (a := k) u47 k23 z52 mp ?_
  simp only [if_true]
  cases hg : get k with
  | some v =>
    obtain ⟨i, hi, hk⟩ := g2 k v hg
    have hv : v = ptrTo (f i).b := by have := g1 i hi; rw [hk, hg] at this; exact Option.some.inj this
    subst hv
    refine ⟨_, true, rfl, fun _ => ⟨_, rfl, by simpa using isSet_of (rw0.ent i hi) (by simp), fun h10 e10 => ?_⟩, by simp⟩
    have he10 : h10 (f i).b = some (.cells #[.int .u64 (f i).k, .int .u64 t, .int .i64 i] 55 (0, 0)) := by
      rw [e10]; simp only [add_mk]; rw [hset_same (rw0.ent i hi)]; rfl
    have o10 : ∀ b, b ≠ (f i).b → h10 b = h b := fun b hb => by rw [e10]; simp only [add_mk]; rw [hset_other hb]
    let f' : Nat → E := fun x => if x = i then ⟨(f i).b, (f i).k, t⟩ else f x
    have fi : f' i = ⟨(f i).b, (f i).k, t⟩ := if_pos rfl
    have fne : ∀ x, x ≠ i → f' x = f x := fun x hx => if_neg hx
    have fb : ∀ x, (f' x).b = (f x).b := fun x => by by_cases e : x = i
                                                     · subst e; rw [fi]
                                                     · rw [fne x e]
    have fk : ∀ x, (f' x).k = (f x).k := fun x => by by_cases e : x = i
                                                     · subst e; rw [fi]
                                                     · rw [fne x e]
    have r10 : Row h10 d (.map (some m)) n f' sp cap := {
      dues := by rw [o10 d (Ne.symm (ne_of (rw0.ent i hi) rw0.dues (by simp)))]; exact rw0.dues
      arr := fun A hA => by
        obtain ⟨c, h1, h2, h3⟩ := rw0.arr A hA
        exact ⟨c, by rw [o10 A (ne_of h1 (rw0.ent i hi) (by simp))]; exact h1, h2, fun x hx => by rw [fb]; exact h3 x hx⟩
      nil := rw0.nil, le := rw0.le
      ent := fun x hx => by
        by_cases e : x = i
        · subst e; rw [fi]; exact he10
        · rw [fne x e, o10 _ (fun e2 => e (rw0.inj x i hx hi e2))]; exact rw0.ent x hx
      inj := fun x y hx hy e => rw0.inj x y hx hy (by rw [← fb x, ← fb y]; exact e) }
    refine ⟨_, rfl, _, rfl, i, by simp [cell_of he10], ?_⟩
    have u : FixOk n f' i := ⟨fun c h1 h2 h3 h4 => by rw [fne _ h3, fne _ h4]; exact hp c h1 h2, fun c h1 h2 h3 h4 => by
      rw [fne _ (by omega), fne _ (by omega)]
      exact (hp i h4 (by omega)).trans (h3 ▸ hp c h1 h2)⟩
    refine (c17 r10 (by omega) hi u).mono fun v h15 ⟨f'', ev, r15, k15, pm, hp15⟩ => ⟨ev, trivial, ?_⟩
    have hM : (M k).isSome = true := by have := m1 i hi; rw [hk] at this; rw [this]; rfl
    rw [if_pos hM]
    have kinj : ∀ x, x < n → (f x).k = k → x = i := fun x hx e => by
      have h1 := g1 x hx; have h2 := g1 i hi
      rw [e] at h1; rw [hk] at h2; rw [h1] at h2
      simp only [Option.some.injEq, ptrTo, Value.pointer.injEq, Addr.mk.injEq, and_true] at h2
      exact rw0.inj x i hx hi h2
    refine ⟨m, f'', sp, cap, get, r15, hp15, mp.mono ((by rw [e10]; exact keepM_hset _ _ _ : KeepM h h10).trans k15), fun x hx => ?_, fun a v e => ?_, fun x hx => ?_, fun a t' e => ?_⟩
    · obtain ⟨y, hy, e⟩ := pm.to x hx
      rw [e, fk, fb]; exact g1 y hy
    · obtain ⟨y, hy, e⟩ := g2 a v e
      obtain ⟨x, hx, e2⟩ := pm.fro y hy
      exact ⟨x, hx, by rw [← e2, fk]; exact e⟩
    · obtain ⟨y, hy, e⟩ := pm.to x hx
      rw [e, fk]
      unfold upd
      by_cases e2 : y = i
      · subst e2; rw [if_pos hk, fi]
      · rw [if_neg (fun e3 => e2 (kinj y hy e3)), fne y e2]; exact m1 y hy
    · have : ∃ y, y < n ∧ (f y).k = a := by
        unfold upd at e
        by_cases e2 : a = k
        · exact ⟨i, hi, hk.trans e2.symm⟩
        · rw [if_neg e2] at e; exact m2 a t' e
      obtain ⟨y, hy, e⟩ := this
      obtain ⟨x, hx, e2⟩ := pm.fro y hy
      exact ⟨x, hx, by rw [← e2, fk]; exact e⟩
  | none =>
    have nk : ∀ i, i < n → (f i).k ≠ k := fun i hi e => by have := g1 i hi; rw [e, hg] at this; cases this
    refine ⟨none, false, rfl, by simp, fun _ => ⟨_, rfl, _, cell1 rw0, fun n18 hn h19 e19 => ?_⟩⟩
    have l19 : Le h h19 := e19 ▸ le_hnew hn
    refine mapUpdate_run (kk := fun a : Int => .int .u64 a) (a := k) u47 k23 (mp.mono l19.keepM) fun h21 mp21 o21 => ⟨_, rfl, ?_⟩
    have hm19 : ∀ {b c e}, h19 b = some (.cells c e (0, 0)) → h21 b = some (.cells c e (0, 0)) := fun {b c e} hb => by
      rw [o21 b]
      · exact hb
      · obtain ⟨es, ck, l, h1, _⟩ := mp.mono l19.keepM
        exact ne_of hb h1 (by simp)
    have r19 := rw0.mono l19
    have r21 : Row h21 d (.map (some m)) n f sp cap := {
      dues := hm19 r19.dues
      arr := fun A hA => let ⟨c, h1, h2⟩ := r19.arr A hA; ⟨c, hm19 h1, h2⟩
      nil := r19.nil, le := r19.le, ent := fun i hi => hm19 (r19.ent i hi), inj := r19.inj }
    have he : h21 n18 = some (.cells #[.int .u64 k, .int .u64 t, .int .i64 0] 55 (0, 0)) := hm19 (by rw [e19, hnew_same])
    have hne : ∀ i, i < n → (f i).b ≠ n18 := fun i hi e => by have := rw0.ent i hi; rw [e, hn] at this; cases this
    refine (c18 (e := ⟨n18, k, t⟩) r21 hN hp he hne).mono fun v h24 ⟨ev, f', sp', cap', r24, k24, pm, hp24⟩ => ⟨ev, trivial, ?_⟩
    have hM : (M k).isSome = false := by
      cases hM : M k with
      | none => rfl
      | some t' => obtain ⟨i, hi, e⟩ := m2 k t' hM; exact absurd e (nk i hi)
    rw [if_neg (by rw [hM]; simp)]
    refine ⟨m, f', sp', cap', _, r24, hp24, mp21.mono k24, fun x hx => ?_, fun a v e => ?_, fun x hx => ?_, fun a t' e => ?_⟩
    · obtain ⟨y, hy, e⟩ := pm.to x hx
      rw [e]
      by_cases e2 : y = n
      · subst e2; rw [snoc_n, if_pos rfl]; rfl
      · rw [snoc_ne _ _ e2, if_neg (nk y (by omega))]; exact g1 y (by omega)
    · have : ∃ y, y < n + 1 ∧ (snoc f n ⟨n18, k, t⟩ y).k = a := by
        by_cases e2 : a = k
        · exact ⟨n, by omega, by rw [snoc_n, e2]⟩
        · rw [if_neg e2] at e
          obtain ⟨y, hy, e⟩ := g2 a v e
          exact ⟨y, by omega, by rw [snoc_ne _ _ (by omega)]; exact e⟩
      obtain ⟨y, hy, e⟩ := this
      obtain ⟨x, hx, e2⟩ := pm.fro y hy
      exact ⟨x, hx, by rw [← e2]; exact e⟩
    · obtain ⟨y, hy, e⟩ := pm.to x hx
      rw [e]
      unfold upd
      by_cases e2 : y = n
      · subst e2; rw [snoc_n, if_pos rfl]
      · rw [snoc_ne _ _ e2, if_neg (nk y (by omega))]; exact m1 y (by omega)
    · have : ∃ y, y < n + 1 ∧ (snoc f n ⟨n18, k, t⟩ y).k = a := by
        unfold upd at e
        by_cases e2 : a = k
        · exact ⟨n, by omega, by rw [snoc_n, e2]⟩
        · rw [if_neg e2] at e
          obtain ⟨y, hy, e⟩ := m2 a t' e
          exact ⟨y, by omega, by rw [snoc_ne _ _ (by omega)]; exact e⟩
      obtain ⟨y, hy, e⟩ := this
      obtain ⟨x, hx, e2⟩ := pm.fro y hy
      exact ⟨x, hx, by rw [← e2]; exact e⟩

theorem c19 (r : Dues h d M n) (hN : n < 2 ^ 40 - 1) (k : Int) :
    Spec P 19 #[ptrTo d, .int .u64 k] h (fun v h' => v = .bool (M k).isSome ∧ Dues h' d (upd M k none) (if (M k).isSome then n - 1 else n)) := by
  have r0 := r
  obtain ⟨m, f, sp, cap, get, rw0, hp, mp, g1, g2, m1, m2⟩ := r
  apply s19
  unfold f19
  refine ⟨fun h => (by cases h), fun _ => ⟨_, rfl, _, cell1 rw0, ?_⟩⟩
  refine lookup_run (kk := fun a : Int => .int .u64 a) (a := k) u47 k23 z52 mp ?_
  simp only [if_true]
  cases hg : get k with
  | some v =>
    obtain ⟨i, hi, hk⟩ := g2 k v hg
    have hv : v = ptrTo (f i).b := by have := g1 i hi; rw [hk, hg] at this; exact Option.some.inj this
    subst hv
    refine ⟨_, true, rfl, jN ⟨fun _ => ⟨_, rfl, _, rfl, i, by simp [cell_of (rw0.ent i hi)], ?_⟩, by simp⟩⟩
    obtain ⟨n', rfl⟩ : ∃ n', n = n' + 1 := ⟨n - 1, by omega⟩
    refine (c25 rw0 (by omega) hp hi).mono fun v h13 ⟨f', r13, k13, pm, en, hp13, enb⟩ => ⟨v, rfl, ?_⟩
    refine ⟨_, rfl, _, cell1 r13, ?_⟩
    refine delete_run (kk := fun a : Int => .int .u64 a) (a := k) u47 k23 (mp.mono k13) fun h18 mp18 o18 => ⟨rfl, ?_⟩
    have hM : M k = some (f i).t := by rw [← hk]; exact m1 i hi
    refine ⟨by rw [hM]; rfl, ?_⟩
    rw [hM]; simp only [Option.isSome_some, if_true, Nat.add_sub_cancel]
    have hm13 : ∀ {b c e}, h13 b = some (.cells c e (0, 0)) → h18 b = some (.cells c e (0, 0)) := fun {b c e} hb => by
      rw [o18 b]
      · exact hb
      · obtain ⟨es, ck, l, h1, _⟩ := mp.mono k13
        exact ne_of hb h1 (by simp)
    have r18 : Row h18 d (.map (some m)) n' f' sp cap := {
      dues := hm13 r13.dues
      arr := fun A hA => let ⟨c, h1, h2⟩ := r13.arr A hA; ⟨c, hm13 h1, h2⟩
      nil := r13.nil, le := r13.le, ent := fun i hi => hm13 (r13.ent i hi), inj := r13.inj }
    have kinj : ∀ x, x < n' + 1 → (f x).k = k → x = i := fun x hx e => by
      have h1 := g1 x hx; have h2 := g1 i hi
      rw [e] at h1; rw [hk] at h2; rw [h1] at h2
      simp only [Option.some.injEq, ptrTo, Value.pointer.injEq, Addr.mk.injEq, and_true] at h2
      exact rw0.inj x i hx hi h2
    -- the others are those but the last
    have rest : ∀ y, y < n' + 1 → y ≠ i → ∃ x, x < n' ∧ f y = f' x := fun y hy hne => by
      obtain ⟨x, hx, e⟩ := pm.fro y hy
      by_cases e2 : x = n'
      · subst e2; rw [en] at e; exact absurd (rw0.inj y i hy hi (by rw [e])) hne
      · exact ⟨x, by omega, e⟩
    have uniq : ∀ x, x < n' → ∃ y, y < n' + 1 ∧ y ≠ i ∧ f' x = f y := fun x hx => by
      obtain ⟨y, hy, e⟩ := pm.to x (by omega)
      refine ⟨y, hy, fun e2 => ?_, e⟩
      subst e2
      exact enb x hx (by rw [e])
    refine ⟨m, f', sp, cap, _, r18, hp13, mp18, fun x hx => ?_, fun a v e => ?_, fun x hx => ?_, fun a t' e => ?_⟩
    · obtain ⟨y, hy, hne, e⟩ := uniq x hx
      rw [e, if_neg (fun e2 => hne (kinj y hy e2))]; exact g1 y hy
    · by_cases e2 : a = k
      · rw [if_pos e2] at e; cases e
      · rw [if_neg e2] at e
        obtain ⟨y, hy, e⟩ := g2 a v e
        obtain ⟨x, hx, e3⟩ := rest y hy (fun e4 => e2 (by rw [← e, e4]; exact hk))
        exact ⟨x, hx, by rw [← e3]; exact e⟩
    · obtain ⟨y, hy, hne, e⟩ := uniq x hx
      unfold upd
      rw [e, if_neg (fun e2 => hne (kinj y hy e2))]; exact m1 y hy
    · unfold upd at e
      by_cases e2 : a = k
      · rw [if_pos e2] at e; cases e
      · rw [if_neg e2] at e
        obtain ⟨y, hy, e⟩ := m2 a t' e
        obtain ⟨x, hx, e3⟩ := rest y hy (fun e4 => e2 (by rw [← e, e4]; exact hk))
        exact ⟨x, hx, by rw [← e3]; exact e⟩
  | none =>
    have nk : ∀ i, i < n → (f i).k ≠ k := fun i hi e => by have := g1 i hi; rw [e, hg] at this; cases this
    have hM : M k = none := by
      cases hM : M k with
      | none => rfl
      | some t' => obtain ⟨i, hi, e⟩ := m2 k t' hM; exact absurd e (nk i hi)
    refine ⟨none, false, rfl, jN ⟨by simp, fun _ => ⟨rfl, ?_⟩⟩⟩
    rw [hM]
    refine ⟨rfl, ?_⟩
    have : upd M k none = M := by funext x; unfold upd; split <;> simp_all
    rw [this]
    exact r0
end DueP
