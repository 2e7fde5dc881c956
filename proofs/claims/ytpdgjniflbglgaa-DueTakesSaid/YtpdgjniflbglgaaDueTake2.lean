/- Layer 6: Take. -/
import Derived.Test.YtpdgjniflbglgaaDueTake
import Derived.Test.YtpdgjniflbglgaaLfHide
namespace DueP
open Go Lf
variable {h : H} {d : Nat} {M : Int → Option Int} {n : Nat}

/-- The types that a list is made of. -/
def ofDues (e : TypeId) : Bool := e == 51 || e == 52 || e == 55
def noDues (e : TypeId) : Bool := !ofDues e

theorem Dues.keep {h' : H} (r : Dues h d M n) (k : KeepT ofDues h h') (km : KeepM h h') : Dues h' d M n := by
  obtain ⟨m, f, sp, cap, get, a, b, c, r⟩ := r
  refine ⟨m, f, sp, cap, get, ?_, b, c.mono km, r⟩
  exact {
    dues := k _ _ _ _ rfl a.dues
    arr := fun A hA => let ⟨c, x, y⟩ := a.arr A hA; ⟨c, k _ _ _ _ rfl x, y⟩
    nil := a.nil, le := a.le
    ent := fun i hi => k _ _ _ _ rfl (a.ent i hi)
    inj := a.inj }

theorem Dues.hide (r : Dues h d M n) : Dues (Lf.hide noDues h) d M n :=
  r.keep (fun b c e fr hT hb => hide_cells hb (by unfold noDues; rw [hT]; rfl)) (fun b es ck hb => hide_map hb)

/-- Cut, beside others. -/
theorem c19' (r : Dues h d M n) (hN : n < 2 ^ 40 - 1) (k : Int) :
    Spec P 19 #[ptrTo d, .int .u64 k] h (fun v h' => v = .bool (M k).isSome ∧ Dues h' d (upd M k none) (if (M k).isSome then n - 1 else n) ∧ KeepT noDues h h') :=
  (Spec.hide noDues (c19 r.hide hN k)).mono fun v h' ⟨h1, ⟨e, r'⟩, l, kt⟩ => ⟨e, r'.mono l, kt⟩

theorem c8' (r : Dues h d M n) (hN : n < 2 ^ 40 - 1) (k t : Int) :
    Spec P 8 #[ptrTo d, .int .u64 k, .int .u64 t] h (fun v h' => v = .tuple #[] ∧ Dues h' d (upd M k (some t)) (if (M k).isSome then n else n + 1) ∧ KeepT noDues h h') :=
  (Spec.hide noDues (c8 r.hide hN k t)).mono fun v h' ⟨h1, ⟨e, r'⟩, l, kt⟩ => ⟨e, r'.mono l, kt⟩

theorem c10 (r : Dues h d M n) (hN : n < 2 ^ 40 - 1) (now : Int) :
    Spec P 10 #[ptrTo d, .int .u64 now] h (fun v h' => ∃ p len cap ks M' n', v = .slice p len cap ∧ Nums h' p len cap ks ∧ Dues h' d M' n' ∧ Takes now M ks M' ∧ n' + ks.length = n) := by
  apply s10
  unfold f10
  refine (c14 r).mono fun v h3 ⟨t, any, ev, e3, ni⟩ => ⟨t, any, ev, ?_⟩
  subst e3
  refine ⟨fun k l h' => ∃ any t p len cap ks M' n', l = [.bool any, .int .u64 t, .slice p len cap] ∧ Dues h' d M' n' ∧ Nums h' p len cap ks ∧ NextIs M' n' t any ∧ k = n' ∧ n' + ks.length = n ∧
      (∀ ks2 M2, Takes now M' ks2 M2 → Takes now M (ks ++ ks2) M2),
    ⟨n, any, t, none, 0, 0, [], M, n, rfl, r, Nums.nil _, ni, rfl, rfl, fun _ _ x => x⟩, ?_⟩
  rintro k b9 x10 p11 n12 n13 h14 ⟨any, t, p, len, cap, ks, M', n', e, r', ns, ni, rfl, hlen, tk⟩
  simp only [List.cons.injEq, Value.bool.injEq, Value.int.injEq, Value.slice.injEq, true_and, and_true] at e
  obtain ⟨rfl, rfl, rfl, rfl, rfl⟩ := e
  have stop : (∀ k' t', M' k' = some t' → now < t') → ∃ p len cap ks M1 n1, Value.slice p11 n12 n13 = .slice p len cap ∧ Nums h14 p len cap ks ∧ Dues h14 d M1 n1 ∧ Takes now M ks M1 ∧ n1 + ks.length = n := fun hs =>
    ⟨_, _, _, ks, M', k, rfl, ns, r', by have := tk [] M' (.done hs); simpa using this, hlen⟩
  refine jBB ⟨fun hb => ⟨_, _, rfl, fun hc => ?_, fun hc => ?_⟩, fun hb => ⟨_, _, rfl, by simp, fun _ => ?_⟩⟩
  · simp only [decide_eq_true_eq] at hc
    obtain ⟨hn, k0, hk0⟩ := ni.2 hb
    obtain ⟨A, c, b, k1, t1, h2, h3, h4, h5, h6⟩ := r'.first hn
    obtain ⟨rfl, rfl⟩ := h6.uniq hk0
    refine ⟨_, rfl, _, _, _, by rw [add_mk]; exact h2, _, rfl, by omega, _, by simpa using h3, _, rfl, _, by simpa using h4, fun n27 hn27 h28 e28 => ?_⟩
    have l28 : Le h14 h28 := e28 ▸ le_hnew hn27
    refine Nums.push (T2 := 22) (k := k1) (e := 23) (ns.mono l28) (by have := ns.1; omega) (by rw [e28, hnew_same]) fun h30 p30 cap30 ns30 ka fr => ⟨_, _, _, rfl, ?_⟩
    have r30 : Dues h30 d M' k := (r'.mono l28).keep (ka.keepT (ns.mono l28).2 rfl) (ka.keepM (ns.mono l28).2)
    refine (c19' r30 (by omega) k1).mono fun v h35 ⟨ev, r35, kt⟩ => ⟨_, ev, ?_⟩
    rw [h6.1] at r35
    simp only [Option.isSome_some, if_true] at r35
    refine (c14 r35).mono fun v h38 ⟨t2, any2, ev, e38, ni2⟩ => ⟨t2, any2, ev, k - 1, by omega, any2, t2, _, _, _, ks ++ [k1], upd M' k1 none, k - 1, rfl, ?_⟩
    subst e38
    refine ⟨r35, ⟨ns30.1, ns30.2.keepT kt rfl⟩, ni2, rfl, by simp; omega, fun ks2 M2 x => ?_⟩
    rw [List.append_assoc]
    exact tk _ _ (.step h6 hc x)
  · simp only [decide_eq_false_iff_not] at hc
    obtain ⟨hn, k0, hk0⟩ := ni.2 hb
    exact stop fun k' t' e => by have := hk0.2 k' t' e; omega
  · obtain ⟨h0, _⟩ := ni.1 hb
    subst h0
    obtain ⟨m, f, sp, cap', get, _, _, _, _, _, _, m2⟩ := r'
    exact stop fun k' t' e => by obtain ⟨i, hi, _⟩ := m2 k' t' e; omega

theorem c10' (r : Dues h d M n) (hN : n < 2 ^ 40 - 1) (now : Int) :
    Spec P 10 #[ptrTo d, .int .u64 now] h (fun v h' => ∃ p len cap ks M' n', v = .slice p len cap ∧ Nums h' p len cap ks ∧ Dues h' d M' n' ∧ Takes now M ks M' ∧ n' + ks.length = n ∧ KeepT noDues h h') :=
  (Spec.hide noDues (c10 r.hide hN now)).mono fun v h' ⟨h1, ⟨p, len, cap, ks, M', n', e, a, b, c, dd⟩, l, kt⟩ => ⟨p, len, cap, ks, M', n', e, a.mono l, b.mono l, c, dd, kt⟩
end DueP
