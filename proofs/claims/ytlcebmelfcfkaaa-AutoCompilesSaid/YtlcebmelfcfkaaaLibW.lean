/- The document's tree without repetitions: what its functions make, and say. -/
import Derived.Test.YtlcebmelfcfkaaaPtRises
import Derived.Test.YtlcebmelfcfkaaaLibD
namespace Pt
open Go Lf Pat
variable {h : H}

theorem widenL_next : ∀ (ts : List T) (n : Nat), formedL ts = true → n + placesL ts ≤ 32 → (widenL ts n).2 = n + placesL ts
  | [], n, _, _ => by simp [widenL, placesL]
  | t :: ts, n, hf, hn => by
    simp only [formedL, Bool.and_eq_true] at hf
    simp only [placesL] at hn ⊢
    simp only [widenL]
    rw [(out_rel t n hf.1 (by omega)).2, widenL_next ts _ hf.2 (by omega)]; omega

theorem widenK_next {ts : List T} {n : Nat} (hf : formedL ts = true) : ∀ k, n + k * placesL ts ≤ 32 → (widenK (widenL ts) k n).2 = n + k * placesL ts
  | 0, _ => by simp [widenK]
  | k + 1, hn => by
    have hk : (k + 1) * placesL ts = k * placesL ts + placesL ts := by rw [Nat.add_mul, Nat.one_mul]
    show (widenL ts (widenK (widenL ts) k n).2).2 = _
    rw [widenK_next hf k (by omega), widenL_next ts _ hf (by omega)]; omega

theorem widenL_append : ∀ (a b : List T) (n : Nat), widenL (a ++ b) n = ((widenL a n).1 ++ (widenL b (widenL a n).2).1, (widenL b (widenL a n).2).2)
  | [], b, n => by simp [widenL]
  | t :: a, b, n => by
    simp only [List.cons_append, widenL]
    rw [widenL_append a b]

theorem widenL_take {ts : List T} {i : Nat} {u : T} (hu : ts[i]? = some u) (n : Nat) : widenL (ts.take (i + 1)) n = ((widenL (ts.take i) n).1 ++ [(u.widen (widenL (ts.take i) n).2).1], (u.widen (widenL (ts.take i) n).2).2) := by
  rw [List.take_add_one, hu]
  simp only [Option.toList_some]
  rw [widenL_append]
  simp [widenL]

theorem formedL_take {ts : List T} (h : formedL ts = true) (i : Nat) : formedL (ts.take i) = true := by
  rw [formedL_all, List.all_eq_true] at h ⊢
  exact fun z hz => h z (List.mem_of_mem_take hz)

theorem wr_mono {a b : H} {r : List Value} {x : Wd} (l : Le a b) (w : WR a r x) : WR b r x := w.mono l

set_option maxRecDepth 10000 in
theorem c_widen : ∀ (t : T) {h : H} {row : List Value} {n0 : Nat}, TR h row t → t.formed = true → n0 + t.places ≤ 32 → t.count < 2 ^ 31 →
    Spec P n_ref14_widen #[tV row, .int .i64 (n0 : Int)] h fun v h' => Le h h' ∧ ∃ p1 n1 c1 p2 n2 c2 p n c, v = .tuple #[.agg (wideRow t.node (t.widen n0).1.place p1 n1 c1 p2 n2 c2 p n c).toArray, .int .i64 ((n0 + t.places : Nat) : Int)] ∧
      WR h' (wideRow t.node (t.widen n0).1.place p1 n1 c1 p2 n2 c2 p n c) (t.widen n0).1
  | .mk x ps, h, row, n0, r, hF, h32, hN => by
    obtain ⟨p1, n1, c1, p2, n2, c2, p, n, c, rfl, t1, t2, tr⟩ := r.out
    simp only [T.node] at t1 t2 ⊢
    apply s_ref14_widen
    unfold f_ref14_widen
    simp only [T.parts] at tr
    have hl := tr.1
    have hF' := hF
    simp only [T.formed, Bool.and_eq_true, decide_eq_true_eq] at hF
    have hcl := length_le_countL ps
    simp only [T.count] at hN
    refine ⟨fun h1 => ⟨Le.refl _, ?_⟩, fun h1 => ?_⟩
    · simp only [decide_eq_true_eq] at h1
      simp only [T.places, if_pos h1, T.widen, Wd.place] at h32 ⊢
      refine ⟨p1, n1, c1, p2, n2, c2, none, 0, 0, ?_, WR.of t1 t2 ⟨rfl, Nat.le_refl _, fun i t hi => by simp at hi⟩⟩
      rw [wrap_succ (by omega)]
    simp only [decide_eq_false_iff_not] at h1
    obtain ⟨tm, htm⟩ : ∃ tm, tm = timesOf x := ⟨_, rfl⟩
    have htm8 : tm ≤ 8 := by
      rw [htm]; unfold timesOf
      split
      · rename_i h4; have := plain_hi hF.1.1 h4; omega
      · omega
    have hpl : (T.mk x ps).places = tm * placesL ps := by
      simp only [T.places, if_neg h1, htm, timesOf]
      split
      · rw [Nat.mul_comm]
      · rw [Nat.one_mul]
    rw [hpl] at h32 ⊢
    have hw : (T.mk x ps).widen n0 = (.mk x 0 (widenK (widenL ps) tm n0).1, (widenK (widenL ps) tm n0).2) := by
      simp only [T.widen, if_neg h1, htm]
    have hstep : ∀ k, k < tm → n0 + k * placesL ps + placesL ps ≤ 32 := fun k hk => by
      have : (k + 1) * placesL ps ≤ tm * placesL ps := Nat.mul_le_mul_right _ hk
      rw [Nat.add_mul, Nat.one_mul] at this
      omega
    refine ⟨fun L h' => h' = h ∧ L = [.int .i64 (tm : Int)], ⟨fun h4 => ⟨rfl, ?_⟩, fun h4 => ⟨rfl, ?_⟩⟩, ?_⟩
    · simp only [decide_eq_true_eq] at h4
      have := plain_hi hF.1.1 h4
      rw [htm, timesOf, if_pos h4, wrap_i64_of (by omega) (by omega)]
      congr 2; omega
    · simp only [decide_eq_false_iff_not] at h4
      rw [htm, timesOf, if_neg h4]; rfl
    rintro x20 h21 ⟨rfl, e⟩
    simp only [List.cons.injEq, Value.int.injEq, true_and, and_true] at e
    subst e
    refine ⟨fun kk L h' => ∃ (k : Nat) (q : Option Addr) (m mc : Nat), L = [.int .i64 (k : Int), .int .i64 ((n0 + k * placesL ps : Nat) : Int), .agg (wideRow x 0 p1 n1 c1 p2 n2 c2 q m mc).toArray] ∧ kk + k = tm ∧
      GathR WR h' t_equerryref14_Wide 13 q m mc (widenK (widenL ps) k n0).1 ∧ Le h21 (wo h' q), ⟨tm, 0, none, 0, 0, by simp, rfl, GathR.nil _ _ _ _, by rw [wo_nil]; exact Le.refl _⟩, ?_⟩
    rintro kk x25 x26 x27 b28 x29 p30 n31 n32 b33 b34 x35 p36 n37 n38 x39 x40 x41 x42 p43 n44 n45 h46 ⟨k, q, m, mc, e, hk, g, le⟩
    simp only [List.cons.injEq, Value.int.injEq, Value.bool.injEq, Value.slice.injEq, Value.agg.injEq, Array.mk.injEq, true_and, and_true] at e
    obtain ⟨rfl, rfl, rfl, rfl, rfl, ⟨rfl, rfl, rfl⟩, rfl, rfl, rfl, ⟨rfl, rfl, rfl⟩, rfl, rfl, rfl, rfl, rfl, rfl, rfl⟩ := e
    refine ⟨fun hi => ?_, fun hi => ?_⟩
    · simp only [decide_eq_true_eq] at hi
      have hkt : k < tm := by omega
      have hst := hstep k hkt
      have hkn : (widenK (widenL ps) k n0).2 = n0 + k * placesL ps := widenK_next hF.2 k (by omega)
      refine ⟨fun k2 L h' => ∃ (i : Nat) (q : Option Addr) (m mc : Nat), L = [.int .i64 (i : Int), .int .i64 ((n0 + k * placesL ps + placesL (ps.take i) : Nat) : Int), .agg (wideRow x 0 p30 n31 n32 p36 n37 n38 q m mc).toArray] ∧ k2 + i = ps.length ∧
        GathR WR h' t_equerryref14_Wide 13 q m mc ((widenK (widenL ps) k n0).1 ++ (widenL (ps.take i) (n0 + k * placesL ps)).1) ∧ Le h21 (wo h' q), ⟨ps.length, 0, p43, n44, n45, by simp [placesL], rfl, by simpa [widenL] using g, le⟩, ?_⟩
      rintro k2 x50 x51 x52 b53 x54 p55 n56 n57 b58 b59 x60 p61 n62 n63 x64 x65 x66 x67 p68 n69 n70 h71 ⟨i, q, m, mc, e, hk2, g, le⟩
      simp only [List.cons.injEq, Value.int.injEq, Value.bool.injEq, Value.slice.injEq, Value.agg.injEq, Array.mk.injEq, true_and, and_true] at e
      obtain ⟨rfl, rfl, rfl, rfl, rfl, ⟨rfl, rfl, rfl⟩, rfl, rfl, rfl, ⟨rfl, rfl, rfl⟩, rfl, rfl, rfl, rfl, rfl, rfl, rfl⟩ := e
      have htl := placesL_take_le ps i
      have hin : (widenL (ps.take i) (n0 + k * placesL ps)).2 = n0 + k * placesL ps + placesL (ps.take i) := widenL_next _ _ (formedL_take hF.2 i) (by omega)
      refine ⟨fun hi => ?_, fun hi => ?_⟩
      · simp only [decide_eq_true_eq] at hi
        obtain ⟨u, hu, hmem⟩ := get_lt (l := ps) (i := i) (by omega)
        obtain ⟨a, q1, m1, k1, q2, m2, k2', qq, mm, kq, e1, hb, hT, d0, d1, d2, d3, d4, d5, d6, d7, d8, d9, d10, d11⟩ := (tr.mono le).at hu rfl
        have wl := wo_le h71 p68
        refine ⟨a, e1, hb, _, cell_le wl d0, _, cell_le wl d1, _, cell_le wl d2, _, _, _, cell_le wl d3, _, cell_le wl d4, _, cell_le wl d5, _, cell_le wl d6, _, _, _, cell_le wl d7, _, cell_le wl d8, _, cell_le wl d9, _, cell_le wl d10, _, _, _, cell_le wl d11, ?_⟩
        have hcu := countL_le hu
        have h1 := placesL_take_le ps (i + 1)
        rw [placesL_take hu] at h1
        refine ((c_widen u hT (formedL_get hF.2 hu) (by omega) (by omega)).beside g.has).mono fun v h92 hA => ?_
        obtain ⟨⟨l92, r1, s1, y1, r2, s2, y2, r3, s3, y3, ev, hwr⟩, same⟩ := hA
        have g92 := g.beside wr_mono same l92
        refine ⟨_, _, _, _, _, _, _, _, _, _, _, _, _, _, _, _, _, _, _, _, ev, ?_⟩
        have hml := g.len
        have hlen1 : ((widenK (widenL ps) k n0).1 ++ (widenL (ps.take i) (n0 + k * placesL ps)).1).length + 1 < 2 ^ 36 := by
          have wlL : ∀ (ts : List T) (n : Nat), (widenL ts n).1.length = ts.length := fun ts => by
            induction ts with
            | nil => intro n; rfl
            | cons t ts ih => intro n; simp [widenL, ih]
          have wlK : ∀ (k n : Nat), (widenK (widenL ps) k n).1.length = k * ps.length := fun k => by
            induction k with
            | zero => intro n; simp [widenK]
            | succ k ih =>
              intro n
              show ((widenK (widenL ps) k n).1 ++ (widenL ps (widenK (widenL ps) k n).2).1).length = _
              rw [List.length_append, ih, wlL, Nat.add_mul, Nat.one_mul]
          rw [List.length_append, wlK, wlL, List.length_take]
          have : k * ps.length ≤ 8 * ps.length := Nat.mul_le_mul_right _ (by omega)
          omega
        refine GathR.push (R := WR) wr_mono ef_equerryref14_Wide g92 (by omega) hwr (wide_len hwr).1 (wide_len hwr).2 fun h116 q' c' g' l' => ?_
        refine ⟨_, _, _, rfl, k2 - 1, by omega, i + 1, q', n69 + 1, c', ?_, by omega, ?_, ?_⟩
        · rw [wrap_succ (by omega), placesL_take hu]
          simp only [Nat.add_assoc]
        · rw [widenL_take hu, hin, ← List.append_assoc]
          exact g'
        · exact le.trans (l92.trans l')
      · simp only [decide_eq_false_iff_not] at hi
        obtain rfl : i = ps.length := by omega
        rw [List.take_length] at g
        refine ⟨kk - 1, by omega, k + 1, p68, n69, n70, ?_, by omega, ?_, le⟩
        · rw [wrap_succ (by omega), List.take_length, Nat.add_mul, Nat.one_mul]
          simp only [Nat.add_assoc]
        · show GathR WR h71 _ 13 p68 n69 n70 ((widenK (widenL ps) k n0).1 ++ (widenL ps (widenK (widenL ps) k n0).2).1)
          rw [hkn]; exact g
    · simp only [decide_eq_false_iff_not] at hi
      obtain rfl : k = tm := by omega
      refine ⟨le.trans (wo_le _ _), p30, n31, n32, p36, n37, n38, p43, n44, n45, ?_, ?_⟩
      · rw [hw]; rfl
      · rw [hw]
        refine WR.of (t1.mono (le.trans (wo_le _ _))) (t2.mono (le.trans (wo_le _ _))) ?_
        exact g.rows wr_mono
end Pt

/- The document's tree without repetitions: which places are first, last, and lead to which. -/
namespace Pat
open Go Lf

theorem firstL_iff (alt : Bool) (q : Nat) : ∀ (ws : List Wd) (b : Bool), firstL alt b ws q = true ↔ ∃ j u, ws[j]? = some u ∧ u.first q = true ∧ ((j = 0 ∧ b = true) ∨ alt = true)
  | [], b => by simp [firstL]
  | w :: ws, b => by
    simp only [firstL, Bool.or_eq_true, Bool.and_eq_true]
    rw [firstL_iff alt q ws false]
    constructor
    · rintro (⟨h1, h2⟩ | ⟨j, u, h1, h2, h3⟩)
      · exact ⟨0, w, rfl, h1, h2.imp (fun h => ⟨rfl, h⟩) id⟩
      · exact ⟨j + 1, u, by simpa using h1, h2, h3.imp (fun h => by cases h.2) id⟩
    · rintro ⟨j, u, h1, h2, h3⟩
      match j, h1 with
      | 0, h1 =>
        simp only [List.getElem?_cons_zero, Option.some.injEq] at h1
        subst h1
        exact .inl ⟨h2, h3.imp (fun h => h.2) id⟩
      | j + 1, h1 =>
        simp only [List.getElem?_cons_succ] at h1
        rcases h3 with h3 | h3
        · omega
        · exact .inr ⟨j, u, h1, h2, .inr h3⟩

theorem lastL_iff (x : Nd) (q : Nat) : ∀ (ws : List Wd) (k : Nat), lastL x k ws q = true ↔ ∃ j u, ws[j]? = some u ∧ (endAt x (k + j) = true ∨ j + 1 = ws.length) ∧ u.last q = true
  | [], k => by simp [lastL]
  | w :: ws, k => by
    simp only [lastL, Bool.or_eq_true, Bool.and_eq_true]
    rw [lastL_iff x q ws (k + 1)]
    constructor
    · rintro (⟨h1, h2⟩ | ⟨j, u, h1, h2, h3⟩)
      · exact ⟨0, w, rfl, h1.imp id (fun h => by simp [List.isEmpty_iff.1 h]), h2⟩
      · refine ⟨j + 1, u, by simpa using h1, ?_, h3⟩
        rw [show k + (j + 1) = k + 1 + j by omega]
        exact h2.imp id (fun h => by simp [h])
    · rintro ⟨j, u, h1, h2, h3⟩
      match j, h1 with
      | 0, h1 =>
        simp only [List.getElem?_cons_zero, Option.some.injEq] at h1
        subst h1
        exact .inl ⟨h2.imp id (fun h => by cases ws with
          | nil => rfl
          | cons u us => simp at h), h3⟩
      | j + 1, h1 =>
        simp only [List.getElem?_cons_succ] at h1
        refine .inr ⟨j, u, h1, ?_, h3⟩
        rw [show k + 1 + j = k + (j + 1) by omega]
        exact h2.imp id (fun h => by simpa using h)

theorem edgeL_append (x : Nd) (f t : Nat) : ∀ (a b : List Wd) (pr : Option Wd), edgeL x pr (a ++ b) f t = match edgeL x pr a f t with
    | some y => some y
    | none => edgeL x (a.getLast?.or pr) b f t
  | [], b, pr => by simp [edgeL]
  | u :: a, b, pr => by
    simp only [List.cons_append, edgeL]
    cases u.edge f t with
    | some y => rfl
    | none =>
      simp only
      split
      · rfl
      · rw [edgeL_append x f t a b (some u)]
        have : (u :: a).getLast?.or pr = a.getLast?.or (some u) := by
          cases a with
          | nil => simp
          | cons v vs => simp [List.getLast?_cons]
        rw [this]

theorem edgeL_take {x : Nd} {f t : Nat} {ws : List Wd} {i : Nat} {y : Nd} (h : edgeL x none (ws.take i) f t = some y) : edgeL x none ws f t = some y := by
  have := edgeL_append x f t (ws.take i) (ws.drop i) none
  rw [List.take_append_drop, h] at this
  exact this

theorem edgeL_take_succ {x : Nd} {f t : Nat} {ws : List Wd} {i : Nat} {u : Wd} (hu : ws[i]? = some u) (h : edgeL x none (ws.take i) f t = none) : edgeL x none (ws.take (i + 1)) f t = stepE x (ws.take i).getLast? u f t := by
  rw [List.take_add_one, hu]
  simp only [Option.toList_some]
  rw [edgeL_snoc, h]
  simp

/-- Few parts, and numbers of times in their range. -/
inductive Sm : Wd → Prop where
  | mk {x : Nd} {pl : Nat} {ps : List Wd} (hl : ps.length < 2 ^ 31) (hlo : x.kind = 4 → 0 ≤ x.lo ∧ x.lo < 2 ^ 31) (hp : pl < 2 ^ 31) (h : ∀ (i : Nat) (u : Wd), ps[i]? = some u → Sm u) : Sm (.mk x pl ps)
end Pat

namespace Pt
open Go Lf Pat
variable {h : H}

theorem c_Wide_first : ∀ (w : Wd) {h : H} {row : List Value} (q : Nat), WR h row w → Sm w → q < 2 ^ 31 → Spec P n_ref14_Wide_first #[tV row, .int .i64 (q : Int)] h fun v h' => h' = h ∧ v = .bool (w.first q)
  | .mk x pl ps, h, row, q, r, sm, hq => by
    obtain ⟨p1, n1, c1, p2, n2, c2, p, n, c, rfl, t1, t2, tr⟩ := r.out
    simp only [Wd.node, Wd.place] at t1 t2 ⊢
    cases sm with
    | mk hl hlo hp hch =>
    apply s_ref14_Wide_first
    unfold f_ref14_Wide_first
    simp only [Wd.parts] at tr
    have hn := tr.1
    refine ⟨fun h1 => ⟨rfl, ?_⟩, fun h1 => ?_⟩
    · simp only [decide_eq_true_eq] at h1
      simp only [Wd.first, if_pos h1]
      congr 1
      simp [Int.ofNat_inj]
    simp only [decide_eq_false_iff_not] at h1
    have hwf : (Wd.mk x pl ps).first q = firstL (decide (x.kind = 3)) true ps q := by simp only [Wd.first, if_neg h1]
    rw [hwf]
    refine ⟨fun k L h' => ∃ (i : Nat) (b : Bool), L = [.int .i64 (i : Int), .bool b] ∧ k + i = n ∧ h' = h ∧ ∀ j u, j < i → ps[j]? = some u → ¬ (u.first q = true ∧ (j = 0 ∨ x.kind = 3)), ⟨n, 0, _, rfl, rfl, rfl, fun j u hj => by omega⟩, ?_⟩
    rintro k x23 b24 h25 ⟨i, b, e, hk, rfl, hno⟩
    simp only [List.cons.injEq, Value.int.injEq, Value.bool.injEq, true_and, and_true] at e
    obtain ⟨rfl, rfl⟩ := e
    refine ⟨fun hi => ?_, fun hi => ⟨rfl, ?_⟩⟩
    · simp only [decide_eq_true_eq] at hi
      obtain ⟨u, hu, hmem⟩ := get_lt (l := ps) (i := i) (by omega)
      obtain ⟨a, q1, m1, k1, q2, m2, k2, qq, mm, kq, e1, hb, hT, d0, d1, d2, d3, d4, d5, d6, d7, d8, d9, d10, d11, d12⟩ := tr.at hu rfl
      refine ⟨a, e1, hb, _, d0, _, d1, _, d2, _, _, _, d3, _, d4, _, d5, _, d6, _, _, _, d7, _, d8, _, d9, _, d10, _, d11, _, _, _, d12, ?_⟩
      refine (c_Wide_first u q hT (hch i u hu) hq).mono fun v h47 ⟨e47, ev⟩ => ⟨_, ev, ?_⟩
      refine ⟨fun L h' => h' = h25 ∧ ∃ b1 b2 : Bool, L = [.bool b1, .bool b2] ∧ (b1 = true ↔ u.first q = true ∧ (i = 0 ∨ x.kind = 3)), ⟨fun h2 => ⟨fun h3 => ⟨e47, _, _, rfl, ?_⟩, fun h3 => ⟨e47, _, _, rfl, ?_⟩⟩, fun h2 => ⟨e47, _, _, rfl, ?_⟩⟩, ?_⟩
      · simp only [decide_eq_true_eq] at h3
        simp only [h2, true_and, true_iff]
        exact .inl (by omega)
      · simp only [decide_eq_false_iff_not] at h3
        simp only [h2, true_and, decide_eq_true_eq]
        exact ⟨.inr, fun h => h.resolve_left (by omega)⟩
      · simp [h2]
      rintro b50 b51 h52 ⟨rfl, b1, b2, e, hb1⟩
      simp only [List.cons.injEq, Value.bool.injEq, and_true] at e
      obtain ⟨rfl, rfl⟩ := e
      refine ⟨fun h2 => ⟨rfl, ?_⟩, fun h2 => ⟨k - 1, by omega, i + 1, _, by rw [wrap_succ (by omega)], by omega, rfl, fun j u' hj hu' => ?_⟩⟩
      · replace h2 := hb1.1 h2
        rw [(firstL_iff _ q ps true).2 ⟨i, u, hu, h2.1, h2.2.imp (fun h => ⟨h, rfl⟩) (fun h => by simpa using h)⟩]
      · rcases Nat.lt_or_ge j i with h4 | h4
        · exact hno j u' h4 hu'
        · obtain rfl : j = i := by omega
          rw [hu] at hu'; cases hu'
          exact fun h5 => by rw [hb1.2 h5] at h2; cases h2
    · simp only [decide_eq_false_iff_not] at hi
      cases hf : firstL (decide (x.kind = 3)) true ps q with
      | false => rfl
      | true =>
        obtain ⟨j, u, h2, h3, h4⟩ := (firstL_iff _ q ps true).1 hf
        have := (List.getElem?_eq_some_iff.1 h2).1
        exact (hno j u (by omega) h2 ⟨h3, h4.imp (fun h => h.1) (fun h => by simpa using h)⟩).elim

theorem c_Wide_last : ∀ (w : Wd) {h : H} {row : List Value} (q : Nat), WR h row w → Sm w → q < 2 ^ 31 → Spec P n_ref14_Wide_last #[tV row, .int .i64 (q : Int)] h fun v h' => h' = h ∧ v = .bool (w.last q)
  | .mk x pl ps, h, row, q, r, sm, hq => by
    obtain ⟨p1, n1, c1, p2, n2, c2, p, n, c, rfl, t1, t2, tr⟩ := r.out
    simp only [Wd.node, Wd.place] at t1 t2 ⊢
    cases sm with
    | mk hl hlo hp hch =>
    apply s_ref14_Wide_last
    unfold f_ref14_Wide_last
    simp only [Wd.parts] at tr
    have hn := tr.1
    refine ⟨fun h1 => ⟨rfl, ?_⟩, fun h1 => ?_⟩
    · simp only [decide_eq_true_eq] at h1
      simp only [Wd.last, if_pos h1]
      congr 1
      simp [Int.ofNat_inj]
    simp only [decide_eq_false_iff_not] at h1
    have hwf : (Wd.mk x pl ps).last q = lastL x 0 ps q := by simp only [Wd.last, if_neg h1]
    rw [hwf]
    refine ⟨fun k L h' => ∃ (i : Nat) (b : Bool), L = [.int .i64 (i : Int), .bool b] ∧ k + i = n ∧ h' = h ∧ ∀ j u, j < i → ps[j]? = some u → ¬ ((endAt x j = true ∨ j + 1 = ps.length) ∧ u.last q = true), ⟨n, 0, _, rfl, rfl, rfl, fun j u hj => by omega⟩, ?_⟩
    rintro k x23 b24 h25 ⟨i, b, e, hk, rfl, hno⟩
    simp only [List.cons.injEq, Value.int.injEq, Value.bool.injEq, true_and, and_true] at e
    obtain ⟨rfl, rfl⟩ := e
    refine ⟨fun hi => ?_, fun hi => ⟨rfl, ?_⟩⟩
    · simp only [decide_eq_true_eq] at hi
      obtain ⟨u, hu, hmem⟩ := get_lt (l := ps) (i := i) (by omega)
      obtain ⟨a, q1, m1, k1, q2, m2, k2, qq, mm, kq, e1, hb, hT, d0, d1, d2, d3, d4, d5, d6, d7, d8, d9, d10, d11, d12⟩ := tr.at hu rfl
      have wi : IntKind.i64.wrap ((i : Int) + 1) = ((i + 1 : Nat) : Int) := wrap_succ (by omega)
      have wn : IntKind.i64.wrap ((n : Int) - 1) = ((n - 1 : Nat) : Int) := by rw [wrap_i64_of (by omega) (by omega)]; omega
      refine ⟨fun L h' => h' = h25 ∧ ∃ b1 : Bool, L = [.bool b1] ∧ (b1 = true ↔ endAt x i = true ∨ i + 1 = ps.length), ?_, ?_⟩
      · refine ⟨fun L h' => h' = h25 ∧ ∃ b1 b2 : Bool, L = [.bool b1, .bool b2] ∧ b1 = endAt x i, ⟨fun h3 => ⟨rfl, _, _, rfl, ?_⟩, fun h3 => ⟨fun h4 => ⟨rfl, _, _, rfl, ?_⟩, fun h4 => ⟨rfl, _, _, rfl, ?_⟩⟩⟩, ?_⟩
        · simp only [decide_eq_true_eq] at h3
          simp [endAt, h3]
        · simp only [decide_eq_true_eq, decide_eq_false_iff_not] at h3 h4
          obtain ⟨l1, l2⟩ := hlo h4
          rw [wi, wrap_i64_of (by omega) (by omega)]
          simp only [endAt, h4, decide_true, Bool.true_and]
          have : ¬ ((4 : Int) = 3) := by decide
          simp
        · simp only [decide_eq_false_iff_not] at h3 h4
          simp [endAt, h3, h4]
        · rintro b28 b29 h30 ⟨rfl, b1, b2, e, eb⟩
          simp only [List.cons.injEq, Value.bool.injEq, and_true] at e
          obtain ⟨rfl, rfl⟩ := e
          refine ⟨fun h5 => ⟨rfl, _, rfl, ?_⟩, fun h5 => ⟨rfl, _, rfl, ?_⟩⟩
          · rw [← eb, h5]; simp
          · rw [← eb, h5, wn]
            simp only [decide_eq_true_eq, Bool.false_eq_true, false_or]
            omega
      · rintro b31 h32 ⟨rfl, b1, e, hb1⟩
        simp only [List.cons.injEq, Value.bool.injEq, and_true] at e
        subst e
        refine ⟨fun L h' => h' = h32 ∧ ∃ c1 c2 : Bool, L = [.bool c1, .bool c2] ∧ (c1 = true ↔ (endAt x i = true ∨ i + 1 = ps.length) ∧ u.last q = true), ⟨fun h5 => ?_, fun h5 => ⟨rfl, _, _, rfl, ?_⟩⟩, ?_⟩
        · refine ⟨a, e1, hb, _, d0, _, d1, _, d2, _, _, _, d3, _, d4, _, d5, _, d6, _, _, _, d7, _, d8, _, d9, _, d10, _, d11, _, _, _, d12, ?_⟩
          refine (c_Wide_last u q hT (hch i u hu) hq).mono fun v h55 ⟨e55, ev⟩ => ⟨_, ev, e55, _, _, rfl, ?_⟩
          have := hb1.1 h5
          simp [this]
        · have : ¬ (endAt x i = true ∨ i + 1 = ps.length) := fun h6 => by rw [hb1.2 h6] at h5; cases h5
          simp [this]
        · rintro b57 b58 h59 ⟨rfl, c1', c2', e, hc⟩
          simp only [List.cons.injEq, Value.bool.injEq, and_true] at e
          obtain ⟨rfl, rfl⟩ := e
          refine ⟨fun h6 => ⟨rfl, ?_⟩, fun h6 => ⟨k - 1, by omega, i + 1, _, by rw [wi], by omega, rfl, fun j u' hj hu' => ?_⟩⟩
          · rw [(lastL_iff x q ps 0).2 ⟨i, u, hu, by rw [Nat.zero_add]; exact (hc.1 h6).1, (hc.1 h6).2⟩]
          · rcases Nat.lt_or_ge j i with h4 | h4
            · exact hno j u' h4 hu'
            · obtain rfl : j = i := by omega
              rw [hu] at hu'; cases hu'
              exact fun h7 => by rw [hc.2 h7] at h6; cases h6
    · simp only [decide_eq_false_iff_not] at hi
      cases hf : lastL x 0 ps q with
      | false => rfl
      | true =>
        obtain ⟨j, u, h2, h3, h4⟩ := (lastL_iff x q ps 0).1 hf
        have := (List.getElem?_eq_some_iff.1 h2).1
        rw [Nat.zero_add] at h3
        exact (hno j u (by omega) h2 ⟨h3, h4⟩).elim
end Pt

/- The document's tree without repetitions: what leads from a place to another one. -/
namespace Pt
open Go Lf Pat
variable {h : H}

def ndZ : Value := .agg #[.int .u8 0, .bool false, .int .u8 0, .slice none 0 0, .bool false, .bool false, .int .u8 0, .slice none 0 0, .int .u8 0, .int .u8 0, .int .i64 0]

def EdgeV (h : H) (r : Option Nd) (v : Value) : Prop := match r with
  | none => v = .tuple #[ndZ, .bool false]
  | some y => ∃ p1 n1 c1 p2 n2 c2, v = .tuple #[ndV y p1 n1 c1 p2 n2 c2, .bool true] ∧ TestsR h p1 n1 c1 y.pred.tests ∧ TestsR h p2 n2 c2 y.guard.tests

set_option maxRecDepth 10000 in
theorem c_Wide_edge : ∀ (w : Wd) {h : H} {row : List Value} (f t : Nat), WR h row w → Sm w → f < 2 ^ 31 → t < 2 ^ 31 → Spec P n_ref14_Wide_edge #[tV row, .int .i64 (f : Int), .int .i64 (t : Int)] h fun v h' => h' = h ∧ EdgeV h (w.edge f t) v
  | .mk x pl ps, h, row, f, t, r, sm, hf, ht => by
    obtain ⟨p1, n1, c1, p2, n2, c2, p, n, c, rfl, t1, t2, tr⟩ := r.out
    simp only [Wd.node, Wd.place] at t1 t2 ⊢
    cases sm with
    | mk hl hlo hp hch =>
    apply s_ref14_Wide_edge
    unfold f_ref14_Wide_edge
    simp only [Wd.parts] at tr
    have hn := tr.1
    have hwf : (Wd.mk x pl ps).edge f t = edgeL x none ps f t := by simp only [Wd.edge]
    rw [hwf]
    refine ⟨fun k L h' => ∃ (i : Nat) (b : Bool), L = [.int .i64 (i : Int), .bool b, ndZ] ∧ k + i = n ∧ h' = h ∧ edgeL x none (ps.take i) f t = none, ⟨n, 0, _, rfl, rfl, rfl, by simp [edgeL]⟩, ?_⟩
    rintro k x24 b25 x26 b27 x28 p29 n30 n31 b32 b33 x34 p35 n36 n37 x38 x39 x40 h41 ⟨i, b, e, hk, rfl, hno⟩
    simp only [ndZ, List.cons.injEq, Value.int.injEq, Value.bool.injEq, Value.slice.injEq, Value.agg.injEq, Array.mk.injEq, true_and, and_true] at e
    obtain ⟨rfl, rfl, rfl, rfl, rfl, ⟨rfl, rfl, rfl⟩, rfl, rfl, rfl, ⟨rfl, rfl, rfl⟩, rfl, rfl, rfl⟩ := e
    refine ⟨fun hi => ?_, fun hi => ⟨rfl, ?_⟩⟩
    · simp only [decide_eq_true_eq] at hi
      obtain ⟨u, hu, hmem⟩ := get_lt (l := ps) (i := i) (by omega)
      have hstep := edgeL_take_succ (x := x) (f := f) (t := t) hu hno
      obtain ⟨a, q1, m1, k1, q2, m2, k2, qq, mm, kq, e1, hb, hT, d0, d1, d2, d3, d4, d5, d6, d7, d8, d9, d10, d11, d12⟩ := tr.at hu rfl
      refine ⟨a, e1, hb, _, d0, _, d1, _, d2, _, _, _, d3, _, d4, _, d5, _, d6, _, _, _, d7, _, d8, _, d9, _, d10, _, d11, _, _, _, d12, ?_⟩
      refine (c_Wide_edge u f t hT (hch i u hu) hf ht).mono fun v h63 ⟨e63, ev⟩ => ?_
      cases hue : u.edge f t with
      | some y =>
        rw [hue] at ev
        obtain ⟨r1, s1, y1, r2, s2, y2, ev, u1, u2⟩ := ev
        refine ⟨_, _, _, _, _, _, _, _, _, _, _, _, _, _, _, _, ev, fun _ => ⟨e63, ?_⟩, fun h2 => (by cases h2)⟩
        have : edgeL x none (ps.take (i + 1)) f t = some y := by rw [hstep]; simp only [stepE, hue]
        rw [edgeL_take this]
        exact ⟨r1, s1, y1, r2, s2, y2, rfl, u1, u2⟩
      | none =>
        rw [hue] at ev
        refine ⟨_, _, _, _, _, _, _, _, _, _, _, _, _, _, _, _, ev, fun h2 => (by cases h2), fun _ => ?_⟩
        have hs2 : edgeL x none (ps.take (i + 1)) f t = if decide (x.kind ≠ 3) && ((ps.take i).getLast?.any fun u => u.last f) && u.first t then some x else none := by
          rw [hstep]; simp only [stepE, hue]
        refine ⟨fun L h' => h' = h41 ∧ ∃ b1 b2 b3 b4 : Bool, L = [.bool b1, .bool b2, .bool b3, .bool b4] ∧ (b3 = (decide (x.kind ≠ 3) && ((ps.take i).getLast?.any fun u => u.last f) && u.first t)), ⟨fun h3 => ⟨fun h4 => ?_, fun h4 => ⟨e63, _, _, _, _, rfl, ?_⟩⟩, fun h3 => ⟨e63, _, _, _, _, rfl, ?_⟩⟩, ?_⟩
        · simp only [gt_iff_lt, decide_eq_true_eq] at h4
          simp only [Bool.not_eq_true', decide_eq_false_iff_not] at h3
          obtain ⟨z, hz, hzm⟩ := get_lt (l := ps) (i := i - 1) (by omega)
          have wi : IntKind.i64.wrap ((i : Int) - 1) = ((i - 1 : Nat) : Int) := by rw [wrap_i64_of (by omega) (by omega)]; omega
          have hlast : (ps.take i).getLast? = some z := by
            rw [List.getLast?_eq_getElem?, List.length_take, List.getElem?_take]
            rw [show min i ps.length - 1 = i - 1 by omega, if_pos (by omega)]
            exact hz
          obtain ⟨a', q1', m1', k1', q2', m2', k2', qq', mm', kq', e1', hb', hT', d0', d1', d2', d3', d4', d5', d6', d7', d8', d9', d10', d11', d12'⟩ := tr.at hz wi
          rw [e63]
          refine ⟨a', e1', hb', _, d0', _, d1', _, d2', _, _, _, d3', _, d4', _, d5', _, d6', _, _, _, d7', _, d8', _, d9', _, d10', _, d11', _, _, _, d12', ?_⟩
          refine (c_Wide_last z f hT' (hch (i - 1) z hz) hf).mono fun v h102 ⟨e102, ev2⟩ => ⟨_, ev2, fun h5 => ?_, fun h5 => ⟨e102, _, _, _, _, rfl, ?_⟩⟩
          · rw [e102]
            refine ⟨a, e1, hb, _, d0, _, d1, _, d2, _, _, _, d3, _, d4, _, d5, _, d6, _, _, _, d7, _, d8, _, d9, _, d10, _, d11, _, _, _, d12, ?_⟩
            refine (c_Wide_first u t hT (hch i u hu) ht).mono fun v h125 ⟨e125, ev3⟩ => ⟨_, ev3, e125, _, _, _, _, rfl, ?_⟩
            rw [hlast]; simp [h5, h3]
          · rw [hlast]; simp [h5]
        · simp only [gt_iff_lt, decide_eq_false_iff_not] at h4
          obtain rfl : i = 0 := by omega
          simp
        · simp only [Bool.not_eq_false', decide_eq_true_eq] at h3
          simp [h3]
        · rintro b127 b128 b129 b130 h131 ⟨rfl, b1, b2, b3, b4, e, hb3⟩
          simp only [List.cons.injEq, Value.bool.injEq, and_true] at e
          obtain ⟨rfl, rfl, rfl, rfl⟩ := e
          refine ⟨fun h5 => ⟨rfl, ?_⟩, fun h5 => ⟨k - 1, by omega, i + 1, _, by rw [wrap_succ (by omega)]; rfl, by omega, rfl, ?_⟩⟩
          · rw [← hb3, h5] at hs2
            rw [edgeL_take (y := x) (i := i + 1) (by rw [hs2]; rfl)]
            exact ⟨_, _, _, _, _, _, rfl, t1, t2⟩
          · rw [hs2, ← hb3, h5]; rfl
    · simp only [decide_eq_false_iff_not] at hi
      rw [List.take_of_length_le (by omega)] at hno
      rw [hno]; rfl
end Pt

/- The document's tree without repetitions: the questions of all places. -/
namespace Lf
open Go
variable {P : Program}
/-- Some more to a slice whose elements stand for things. -/
theorem GathR.pushL {α : Type} {R : H → List Value → α → Prop} {h : H} {elem size : Nat} {p q : Option Addr} {n c m mc : Nat} {xs ys : List α} {T ty : Nat} {K : Value → H → Prop}
    (mono : ∀ {a b : H} {r x}, Le a b → R a r x → R b r x) (ef : ElemFacts P T elem size) (g : GathR R h elem size p n c xs)
    (hn : n + m < 2 ^ 36) (hm : m = ys.length)
    (hy : ∀ (i : Nat) (y : α), ys[i]? = some y → ∃ a row, q = some a ∧ R (wo h p) row y ∧ row.length = size ∧ (∀ v, v ∈ row → v.oneCell = true) ∧ ∀ (j : Nat) (v : Value), row[j]? = some v → cell h ((aidx a 0 (i : Int) size).add j) = some v)
    (k : ∀ h' p' c', GathR R h' elem size p' (n + m) c' (xs ++ ys) → Le (wo h p) (wo h' p') → K (.slice p' (n + m) c') h') :
    RunL P (X.sem (.bi .append #[T, T] ty [.slice p n c, .slice q m mc])) h K := by
  obtain ⟨rows, a, hl, hr⟩ := g.ex
  have hh : ∀ i : Nat, ∃ row : List Value, ∀ y, ys[i]? = some y → ∃ a, q = some a ∧ R (wo h p) row y ∧ row.length = size ∧ (∀ v, v ∈ row → v.oneCell = true) ∧ ∀ (j : Nat) (v : Value), row[j]? = some v → cell h ((aidx a 0 (i : Int) size).add j) = some v := fun i => by
    cases hyi : ys[i]? with
    | none => exact ⟨[], fun y e => by cases e⟩
    | some y =>
      obtain ⟨a, row, x⟩ := hy i y hyi
      exact ⟨row, fun y' e => by cases e; exact ⟨a, x⟩⟩
  obtain ⟨rw', hrw⟩ : ∃ f : Nat → List Value, ∀ i y, ys[i]? = some y → ∃ a, q = some a ∧ R (wo h p) (f i) y ∧ (f i).length = size ∧ (∀ v, v ∈ f i → v.oneCell = true) ∧ ∀ (j : Nat) (v : Value), (f i)[j]? = some v → cell h ((aidx a 0 (i : Int) size).add j) = some v :=
    ⟨fun i => Classical.choose (hh i), fun i => Classical.choose_spec (hh i)⟩
  obtain ⟨yr, hyr⟩ : ∃ yr, yr = (List.range ys.length).map rw' := ⟨_, rfl⟩
  have hyl : yr.length = ys.length := by rw [hyr]; simp
  have hget : ∀ i, i < ys.length → yr[i]? = some (rw' i) := fun i hi => by rw [hyr, List.getElem?_map, List.getElem?_range hi]; rfl
  have hmem : ∀ r, r ∈ yr → ∃ i, i < ys.length ∧ r = rw' i := fun r hr => by
    obtain ⟨i, hi, rfl⟩ := List.getElem_of_mem hr
    exact ⟨i, by omega, by have := hget i (by omega); rw [List.getElem?_eq_getElem hi] at this; simpa using this⟩
  have hrows : RowsL h q size yr := fun i r hi => by
    have hlt := (List.getElem?_eq_some_iff.1 hi).1
    rw [hget i (by omega)] at hi
    cases hi
    obtain ⟨a, e, _, _, _, hc⟩ := hrw i ys[i] (List.getElem?_eq_getElem (by omega))
    exact ⟨a, e, hc⟩
  have hsz : ∀ r, r ∈ yr → r.length = size := fun r hr => by
    obtain ⟨i, hi, rfl⟩ := hmem r hr
    exact (hrw i ys[i] (List.getElem?_eq_getElem hi)).choose_spec.2.2.1
  have hone : ∀ r, r ∈ yr → ∀ v, v ∈ r → v.oneCell = true := fun r hr => by
    obtain ⟨i, hi, rfl⟩ := hmem r hr
    exact (hrw i ys[i] (List.getElem?_eq_getElem hi)).choose_spec.2.2.2.1
  have hq : Part h q (m * size) (flat yr size) := by
    have := part_of_rows hsz hrows
    rwa [hyl, ← hm] at this
  refine appendL ef ef.hu hn a (by omega) hsz hq hone fun h' p' c' a' ka fr => ?_
  have le : Le (wo h p) (wo h' p') := by
    refine le_wo (ka.leN (wo_le h p) (newIn_wo h p)) fun A off sp e => ?_
    rcases fr A off sp e with h2 | h2
    · exact newIn_wo h p A off sp h2
    · unfold wo; split
      · rfl
      · exact h2
  refine k h' p' c' ⟨_, a', by simp [hl, hyl], fun i y hi => ?_⟩ le
  rcases Nat.lt_or_ge i xs.length with h2 | h2
  · rw [List.getElem?_append_left h2] at hi
    obtain ⟨row, e, r⟩ := hr i y hi
    exact ⟨row, by rw [List.getElem?_append_left (by omega)]; exact e, mono le r⟩
  · rw [List.getElem?_append_right h2] at hi
    have hlt := (List.getElem?_eq_some_iff.1 hi).1
    refine ⟨_, by rw [List.getElem?_append_right (by omega), hl, hget _ hlt], mono le ?_⟩
    exact (hrw (i - xs.length) y hi).choose_spec.2.1
end Lf

namespace Pat
theorem predsL_take {ps : List Wd} {i : Nat} {u : Wd} (hu : ps[i]? = some u) : predsL (ps.take (i + 1)) = predsL (ps.take i) ++ u.preds := by
  rw [List.take_add_one, hu]
  simp [predsL_append, predsL]

theorem predsL_take_len (ps : List Wd) (i : Nat) : (predsL (ps.take i)).length ≤ (predsL ps).length := by
  have := predsL_append (ps.take i) (ps.drop i)
  rw [List.take_append_drop] at this
  rw [this, List.length_append]; omega
end Pat

namespace Pt
open Go Lf Pat
variable {h : H}

theorem pred_len {h : H} {r : List Value} {q : Prd} (x : PredR h r q) : r.length = 3 ∧ ∀ v, v ∈ r → v.oneCell = true := by
  obtain ⟨p, n, c, rfl, _⟩ := x
  refine ⟨rfl, fun v hv => ?_⟩
  simp only [List.mem_cons, List.not_mem_nil, or_false] at hv
  rcases hv with rfl | rfl | rfl <;> rfl

theorem c_Wide_preds : ∀ (w : Wd) {h : H} {row : List Value}, WR h row w → Sm w → w.preds.length < 2 ^ 31 → Spec P n_ref14_Wide_preds #[tV row] h fun v h' => Le h h' ∧ ∃ p n c, v = .slice p n c ∧ PredsR h' p n c w.preds
  | .mk x pl ps, h, row, r, sm, hb31 => by
    obtain ⟨p1, n1, c1, p2, n2, c2, p, n, c, rfl, t1, t2, tr⟩ := r.out
    simp only [Wd.node, Wd.place] at t1 t2 ⊢
    cases sm with
    | mk hl hlo hp hch =>
    apply s_ref14_Wide_preds
    unfold f_ref14_Wide_preds
    simp only [Wd.parts] at tr
    have hn := tr.1
    refine ⟨fun h1 => ?_, fun h1 => ?_⟩
    · simp only [decide_eq_true_eq] at h1
      intro b hbn h20 e20
      have le : Le h h20 := e20 ▸ le_hnew hbn
      refine ⟨le, _, _, _, rfl, ?_⟩
      simp only [Wd.preds, if_pos h1]
      refine ⟨rfl, Nat.le_refl _, fun i q hi => ?_⟩
      have hlt := (List.getElem?_eq_some_iff.1 hi).1
      simp only [List.length_cons, List.length_nil] at hlt
      obtain rfl : i = 0 := by omega
      simp only [List.getElem?_cons_zero, Option.some.injEq] at hi
      subst hi
      refine ⟨_, _, rfl, ⟨p1, n1, c1, rfl, t1.mono le⟩, fun j v hj => ?_⟩
      rw [blk_mk, add_mk, aidx_mk, add_mk, cell_of (by rw [e20]; exact hnew_same)]
      simpa using hj
    simp only [decide_eq_false_iff_not] at h1
    simp only [Wd.preds, if_neg h1] at hb31 ⊢
    intro b hbn h22 e22
    have le0 : Le h h22 := e22 ▸ le_hnew hbn
    have hb22 : h22 b = some (.cells #[] t_api_Pred (0, 0)) := by rw [e22]; exact hnew_same
    have g0 : GathR PredR h22 t_api_Pred 3 (some ((blk b).add 0)) 0 0 [] := ⟨[], ⟨rfl, Nat.le_refl _, fun _ => rfl, fun _ h => (by cases h), fun a e => by
      cases e
      exact ⟨b, #[], by simp, hb22, by simp, fun i j r v h => by simp at h⟩⟩, rfl, fun i x hi => by simp at hi⟩
    refine ⟨fun k L h' => ∃ (i : Nat) (q : Option Addr) (m mc : Nat), L = [.int .i64 (i : Int), .slice q m mc] ∧ k + i = n ∧ GathR PredR h' t_api_Pred 3 q m mc (predsL (ps.take i)) ∧ Le h (wo h' q),
      ⟨n, 0, _, 0, 0, rfl, rfl, by simpa [predsL] using g0, le_wo le0 fun A off sp e => by
        simp only [blk_mk, add_mk, Option.some.injEq, Addr.mk.injEq] at e
        rw [← e.1]; exact hbn⟩, ?_⟩
    rintro k x26 p27 n28 n29 h30 ⟨i, q, m, mc, e, hk, g, le⟩
    simp only [List.cons.injEq, Value.int.injEq, Value.slice.injEq, true_and, and_true] at e
    obtain ⟨rfl, rfl, rfl, rfl⟩ := e
    refine ⟨fun hi => ?_, fun hi => ?_⟩
    · simp only [decide_eq_true_eq] at hi
      obtain ⟨u, hu, hmem⟩ := get_lt (l := ps) (i := i) (by omega)
      obtain ⟨a, q1, m1, k1, q2, m2, k2, qq, mm, kq, e1, hb, hT, d0, d1, d2, d3, d4, d5, d6, d7, d8, d9, d10, d11, d12⟩ := (tr.mono le).at hu rfl
      have wl := wo_le h30 p27
      have hlen := predsL_take_len ps (i + 1)
      rw [predsL_take hu, List.length_append] at hlen
      refine ⟨a, e1, hb, _, cell_le wl d0, _, cell_le wl d1, _, cell_le wl d2, _, _, _, cell_le wl d3, _, cell_le wl d4, _, cell_le wl d5, _, cell_le wl d6, _, _, _, cell_le wl d7, _, cell_le wl d8, _, cell_le wl d9, _, cell_le wl d10, _, cell_le wl d11, _, _, _, cell_le wl d12, ?_⟩
      refine ((c_Wide_preds u hT (hch i u hu) (by omega)).beside g.has).mono fun v h52 hA => ?_
      obtain ⟨⟨l52, q3, m3, k3, ev, pr⟩, same⟩ := hA
      have g52 := g.beside (fun l x => x.mono l) same l52
      have hml := g.len
      refine ⟨_, _, _, ev, ?_⟩
      refine GathR.pushL (R := PredR) (fun l x => x.mono l) ef_api_Pred g52 (by have := pr.1; omega) pr.1 (fun j y hy => ?_) fun h57 q' c' g' l' => ?_
      · obtain ⟨a3, row, e3, rr, hc⟩ := pr.2.2 j y hy
        exact ⟨a3, row, e3, rr, (pred_len rr).1, (pred_len rr).2, fun jj v hv => cell_le (wo_le _ _) (hc jj v hv)⟩
      · exact ⟨_, _, _, rfl, k - 1, by omega, i + 1, q', _, c', by rw [wrap_succ (by omega)], by omega, by rw [predsL_take hu]; exact g', le.trans (l52.trans l')⟩
    · simp only [decide_eq_false_iff_not] at hi
      rw [List.take_of_length_le (by omega)] at g
      exact ⟨le.trans (wo_le _ _), _, _, _, rfl, g.rows (fun l x => x.mono l)⟩
end Pt

