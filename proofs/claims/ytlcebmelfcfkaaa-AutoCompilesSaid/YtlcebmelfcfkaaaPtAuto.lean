/- Each question with a list of its own: what the program's functions hand back. -/
import Derived.Test.YtlcebmelfcfkaaaPtCmp
namespace Lf
open Go
/-- One cell of a row turned. -/
theorem ArrL.upd {h : H} {elem size : Nat} {p : Option Addr} {n c : Nat} {rows : List (List Value)} (ar : ArrL h elem size p n c rows) {i : Nat} {row : List Value} (hrow : rows[i]? = some row) :
    ∃ a, p = some a ∧ (0 ≤ (i : Int) ∧ (i : Int) < (n : Int)) ∧ (∀ (j : Nat) (v : Value), row[j]? = some v → cell h ((aidx a 0 (i : Int) size).add j) = some v) ∧
      ∀ (j : Nat) (v : Value), j < size → isSet h ((aidx a 0 (i : Int) size).add j) ∧ ArrL (hset h ((aidx a 0 (i : Int) size).add j) v) elem size p n c (rows.set i (row.set j v)) ∧
        (∀ b, blkOf p ≠ some b → hset h ((aidx a 0 (i : Int) size).add j) v b = h b) ∧ blkOf p = some ((aidx a 0 (i : Int) size).add j).block := by
  have hlt : i < rows.length := (List.getElem?_eq_some_iff.1 hrow).1
  have hn := ar.hl
  cases p with
  | none => have h1 := ar.nil rfl; have h2 := ar.le; omega
  | some ad =>
    obtain ⟨A, cc, rfl, hA, hcc, hg⟩ := ar.arr ad rfl
    have hsz := ar.row row (List.mem_of_getElem? hrow)
    refine ⟨_, rfl, ⟨by omega, by omega⟩, fun j v hj => ?_, fun j v hj => ?_⟩
    · rw [aidx_mk, add_mk, cell_of hA]
      have := hg i j row v hrow hj
      simpa using this
    · simp only [aidx_mk, add_mk, Nat.add_zero, Nat.zero_add, Int.toNat_natCast]
      have hlt2 : i * size + j < cc.size := by
        refine Nat.lt_of_lt_of_le ?_ hcc
        calc i * size + j < i * size + size := by omega
          _ = (i + 1) * size := by rw [Nat.add_mul, Nat.one_mul]
          _ ≤ c * size := Nat.mul_le_mul_right _ (by have := ar.le; omega)
      refine ⟨isSet_of hA hlt2, ⟨by simp [ar.hl], ar.le, fun e => (by cases e), fun r hr' => ?_, fun a e => ?_⟩, fun b hb => hset_other (fun e => hb (by subst e; rfl)), rfl⟩
      · rcases List.mem_or_eq_of_mem_set hr' with h1 | rfl
        · exact ar.row r h1
        · simp [hsz]
      · cases e
        refine ⟨A, _, rfl, hset_same hA, by simpa using hcc, fun i' j' r' v' h1 h2 => ?_⟩
        rw [List.getElem?_set] at h1
        rw [Array.getElem?_setIfInBounds]
        split at h1
        · rename_i ei
          subst ei
          simp only [hlt, if_true, Option.some.injEq] at h1; subst h1
          rw [List.getElem?_set] at h2
          split at h2
          · rename_i ej
            subst ej
            rw [if_pos rfl, if_pos hlt2]
            first
              | exact h2
              | (split at h2 <;> first | exact h2 | cases h2)
          · rename_i ej
            rw [if_neg (by omega)]
            exact hg i j' row v' hrow h2
        · rename_i ei
          have hj' : j' < size := by rw [← ar.row r' (List.mem_of_getElem? h1)]; exact (List.getElem?_eq_some_iff.1 h2).1
          rw [if_neg (fun e => ei (by
            have h3 : (i * size + j) / size = i := by rw [Nat.mul_comm, Nat.mul_add_div (by omega), Nat.div_eq_of_lt hj]; omega
            have h4 : (i' * size + j') / size = i' := by rw [Nat.mul_comm, Nat.mul_add_div (by omega), Nat.div_eq_of_lt hj']; omega
            rw [e, h4] at h3; exact h3.symm))]
          exact hg i' j' r' v' h1 h2
end Lf

namespace Pt
open Go Lf Pat
variable {h h0 : H} {M : Nat} {s : MS} {Q : List Prd} {E : List Edg} {f l i j : Nat}

def OwnR (h0 h : H) (o : Prop) (p : Option Addr) (n c : Nat) (ts : List Tst) : Prop := TestsR h p n c ts ∧ (o → ArrL h t_api_Test 6 p n c (ts.map Tst.enc) ∧ NewIn h0 p)
theorem OwnR.mono {h h' : H} {o : Prop} {p : Option Addr} {n c : Nat} {ts : List Tst} (le : Le h h') (x : OwnR h0 h o p n c ts) : OwnR h0 h' o p n c ts := ⟨x.1.mono le, fun y => ⟨(x.2 y).1.mono le, (x.2 y).2⟩⟩

def PredO (h0 h : H) (o : Prop) (r : List Value) (q : Prd) : Prop := ∃ p n c, r = [.bool q.any, .int .u8 q.topic, .slice p n c] ∧ OwnR h0 h o p n c q.tests
def EdgeO (h0 h : H) (o : Prop) (r : List Value) (e : Edg) : Prop := ∃ p n c, r = [.int .u8 (e.src : Int), .int .u8 (e.dst : Int), .bool e.guarded, .bool e.guard.any, .int .u8 e.guard.topic, .slice p n c] ∧ OwnR h0 h o p n c e.guard.tests
theorem PredO.mono {h h' : H} {o : Prop} {r : List Value} {q : Prd} (le : Le h h') (x : PredO h0 h o r q) : PredO h0 h' o r q := let ⟨p, n, c, e, t⟩ := x; ⟨p, n, c, e, t.mono le⟩
theorem EdgeO.mono {h h' : H} {o : Prop} {r : List Value} {q : Edg} (le : Le h h') (x : EdgeO h0 h o r q) : EdgeO h0 h' o r q := let ⟨p, n, c, e, t⟩ := x; ⟨p, n, c, e, t.mono le⟩

/-- The automaton that is made: so many of its questions have lists of their own. -/
structure MkO (h0 h : H) (M : Nat) (s : MS) (Q : List Prd) (E : List Edg) (f l i j : Nat) : Prop where
  hM : h M = some (.cells #[.slice s.pp s.np s.cp, .int .u32 (f : Int), .int .u32 (l : Int), .slice s.pe s.ne s.ce] t_auto_maker (0, 0))
  dp : blkOf s.pp ≠ some M
  de : blkOf s.pe ≠ some M
  dd : ∀ b, blkOf s.pp = some b → blkOf s.pe ≠ some b
  prs : ∃ rows, ArrL h t_api_Pred 3 s.pp s.np s.cp rows ∧ rows.length = Q.length ∧ ∀ (k : Nat) (q : Prd), Q[k]? = some q → ∃ row, rows[k]? = some row ∧ PredO h0 (off h M s) (k < i) row q
  eds : ∃ rows, ArrL h t_api_Edge 6 s.pe s.ne s.ce rows ∧ rows.length = E.length ∧ ∀ (k : Nat) (e : Edg), E[k]? = some e → ∃ row, rows[k]? = some row ∧ EdgeO h0 (off h M s) (k < j) row e

theorem MkO.has (m : MkO h0 h M s Q E f l i j) : ∀ b, b ∈ own M s → h b ≠ none := by
  intro b hb
  obtain ⟨r1, a1, _⟩ := m.prs
  obtain ⟨r2, a2, _⟩ := m.eds
  rcases mem_own.1 hb with rfl | e | e
  · rw [m.hM]; simp
  · exact a1.has b e
  · exact a2.has b e

theorem MkO.beside (m : MkO h0 h M s Q E f l i j) {h' : H} (same : ∀ b, b ∈ own M s → h' b = h b) (le : Le (off h M s) (off h' M s)) : MkO h0 h' M s Q E f l i j := by
  obtain ⟨r1, a1, n1, x1⟩ := m.prs
  obtain ⟨r2, a2, n2, x2⟩ := m.eds
  exact ⟨by rw [same M (mem_own.2 (.inl rfl))]; exact m.hM, m.dp, m.de, m.dd,
    ⟨r1, a1.same fun b hb => same b (mem_own.2 (.inr (.inl hb))), n1, fun i q hq => let ⟨row, e, r⟩ := x1 i q hq; ⟨row, e, r.mono le⟩⟩,
    ⟨r2, a2.same fun b hb => same b (mem_own.2 (.inr (.inr hb))), n2, fun i q hq => let ⟨row, e, r⟩ := x2 i q hq; ⟨row, e, r.mono le⟩⟩⟩

theorem off_hset {a : Addr} {v : Value} (hb : a.block ∈ own M s) : off (hset h a v) M s = off h M s := by
  funext b
  show offS _ _ b = offS _ _ b
  unfold offS
  split
  · rfl
  · rename_i e
    unfold hset
    rw [if_neg (fun e2 => e (by rw [e2]; exact hb))]

/-- A question gets its own list. -/
theorem MkO.setP (m : MkO h0 h M s Q E f l i j) {q : Prd} (hq : Q[i]? = some q) : ∃ a p n c, s.pp = some a ∧ (0 ≤ (i : Int) ∧ (i : Int) < (s.np : Int)) ∧ cell h ((aidx a 0 (i : Int) 3).add 2) = some (.slice p n c) ∧ TestsR (off h M s) p n c q.tests ∧
    ∀ p' n' c', OwnR h0 (off h M s) True p' n' c' q.tests → isSet h ((aidx a 0 (i : Int) 3).add 2) ∧ MkO h0 (hset h ((aidx a 0 (i : Int) 3).add 2) (.slice p' n' c')) M s Q E f l (i + 1) j ∧
      off (hset h ((aidx a 0 (i : Int) 3).add 2) (.slice p' n' c')) M s = off h M s := by
  obtain ⟨r1, a1, n1, x1⟩ := m.prs
  obtain ⟨r2, a2, n2, x2⟩ := m.eds
  obtain ⟨row, hrow, p, n, c, rfl, tr⟩ := x1 i q hq
  obtain ⟨a, ea, hb, hc, up⟩ := a1.upd hrow
  refine ⟨a, p, n, c, ea, hb, hc 2 _ rfl, tr.1, fun p' n' c' ow => ?_⟩
  obtain ⟨is1, ar, oth, hbk⟩ := up 2 (.slice p' n' c') (by omega)
  have hblk : ((aidx a 0 (i : Int) 3).add 2).block ∈ own M s := mem_own.2 (.inr (.inl hbk))
  have eo := off_hset (h := h) (v := .slice p' n' c') hblk
  refine ⟨is1, ⟨by rw [oth M m.dp]; exact m.hM, m.dp, m.de, m.dd, ⟨_, ar, by simp [n1], fun k q' hk => ?_⟩, ⟨r2, a2.same fun b hb => oth b fun e => m.dd b e hb, n2, fun k e he => ?_⟩⟩, eo⟩
  · rw [eo, List.getElem?_set]
    by_cases ek : i = k
    · subst ek
      rw [hq] at hk; cases hk
      rw [if_pos rfl, if_pos (List.getElem?_eq_some_iff.1 hrow).1]
      exact ⟨_, rfl, p', n', c', rfl, ow.1, fun _ => ow.2 trivial⟩
    · rw [if_neg ek]
      obtain ⟨row', e', p2, n2, c2, er, o2⟩ := x1 k q' hk
      exact ⟨row', e', p2, n2, c2, er, o2.1, fun hk' => o2.2 (by omega)⟩
  · rw [eo]; exact x2 k e he

theorem MkO.setE (m : MkO h0 h M s Q E f l i j) {e : Edg} (hq : E[j]? = some e) : ∃ a p n c, s.pe = some a ∧ (0 ≤ (j : Int) ∧ (j : Int) < (s.ne : Int)) ∧ cell h ((aidx a 0 (j : Int) 6).add 5) = some (.slice p n c) ∧ TestsR (off h M s) p n c e.guard.tests ∧
    ∀ p' n' c', OwnR h0 (off h M s) True p' n' c' e.guard.tests → isSet h ((aidx a 0 (j : Int) 6).add 5) ∧ MkO h0 (hset h ((aidx a 0 (j : Int) 6).add 5) (.slice p' n' c')) M s Q E f l i (j + 1) ∧
      off (hset h ((aidx a 0 (j : Int) 6).add 5) (.slice p' n' c')) M s = off h M s := by
  obtain ⟨r1, a1, n1, x1⟩ := m.prs
  obtain ⟨r2, a2, n2, x2⟩ := m.eds
  obtain ⟨row, hrow, p, n, c, rfl, tr⟩ := x2 j e hq
  obtain ⟨a, ea, hb, hc, up⟩ := a2.upd hrow
  refine ⟨a, p, n, c, ea, hb, hc 5 _ rfl, tr.1, fun p' n' c' ow => ?_⟩
  obtain ⟨is1, ar, oth, hbk⟩ := up 5 (.slice p' n' c') (by omega)
  have hblk : ((aidx a 0 (j : Int) 6).add 5).block ∈ own M s := mem_own.2 (.inr (.inr hbk))
  have eo := off_hset (h := h) (v := .slice p' n' c') hblk
  refine ⟨is1, ⟨by rw [oth M m.de]; exact m.hM, m.dp, m.de, m.dd, ⟨r1, a1.same fun b hb => oth b fun e => m.dd b hb e, n1, fun k q hk => ?_⟩, ⟨_, ar, by simp [n2], fun k e' hk => ?_⟩⟩, eo⟩
  · rw [eo]; exact x1 k q hk
  · rw [eo, List.getElem?_set]
    by_cases ek : j = k
    · subst ek
      rw [hq] at hk; cases hk
      rw [if_pos rfl, if_pos (List.getElem?_eq_some_iff.1 hrow).1]
      exact ⟨_, rfl, p', n', c', rfl, ow.1, fun _ => ow.2 trivial⟩
    · rw [if_neg ek]
      obtain ⟨row', e2, p2, n2, c2, er, o2⟩ := x2 k e' hk
      exact ⟨row', e2, p2, n2, c2, er, o2.1, fun hk' => o2.2 (by omega)⟩

theorem MkO.np (m : MkO h0 h M s Q E f l i j) : s.np = Q.length := by obtain ⟨r, a, n, _⟩ := m.prs; rw [a.hl, n]
theorem MkO.ne (m : MkO h0 h M s Q E f l i j) : s.ne = E.length := by obtain ⟨r, a, n, _⟩ := m.eds; rw [a.hl, n]

theorem c_own (m : MkO h0 h M s Q E f l 0 0) (hle : Le h0 (off h M s)) (hQ : ∀ q, q ∈ Q → q.tests.length < 2 ^ 36) (hE : ∀ e, e ∈ E → e.guard.tests.length < 2 ^ 36) (lQ : Q.length < 2 ^ 36) (lE : E.length < 2 ^ 36) :
    Spec P n_auto_own #[.pointer (some ⟨M, 0, none⟩)] h fun v h' => v = .tuple #[] ∧ MkO h0 h' M s Q E f l Q.length E.length ∧ Le (off h M s) (off h' M s) := by
  apply s_auto_own
  unfold f_auto_own
  have hnp := m.np
  have hne := m.ne
  refine ⟨_, rfl, _, _, _, by rw [add_mk, cell_of m.hM]; rfl, ?_⟩
  refine ⟨fun k L h' => ∃ i : Nat, L = [.int .i64 (i : Int)] ∧ k + i = Q.length ∧ MkO h0 h' M s Q E f l i 0 ∧ Le (off h M s) (off h' M s), ⟨Q.length, 0, rfl, rfl, m, Le.refl _⟩, ?_⟩
  rintro k x8 h9 ⟨i, e, hk, m9, l9⟩
  simp only [List.cons.injEq, Value.int.injEq, true_and, and_true] at e
  subst e
  refine ⟨fun hi => ?_, fun hi => ?_⟩
  · simp only [decide_eq_true_eq] at hi
    obtain ⟨q, hq, hm⟩ := get_lt (l := Q) (i := i) (by omega)
    obtain ⟨a, p, n, c, ea, hb, hc, tr, _⟩ := m9.setP hq
    refine ⟨_, rfl, _, _, _, by rw [add_mk, cell_of m9.hM]; rfl, _, rfl, _, _, _, by rw [add_mk, cell_of m9.hM]; rfl, a, ea, hb, _, _, _, hc, ?_⟩
    refine ((c_Clone_Test tr (by rw [tr.1]; exact hQ q hm)).besideS m9.has).mono fun v h23 hA => ?_
    obtain ⟨⟨l23, p', c', ev, ar, nw⟩, same⟩ := hA
    have m23 := m9.beside same l23
    obtain ⟨a', p2, n2, c2, ea', hb', hc', tr', up⟩ := m23.setP hq
    rw [ea] at ea'; cases ea'
    obtain ⟨is1, m28, o28⟩ := up p' n c' ⟨testsR_of_arr ar, fun _ => ⟨ar, nw.le (hle.trans l9)⟩⟩
    refine ⟨_, _, _, ev, ?_, a, ea, hb', is1, fun h28 e28 => ⟨k - 1, by omega, i + 1, by rw [wrap_succ (by omega)], by omega, e28 ▸ m28, ?_⟩⟩
    · intro b o x
      by_cases hbo : b ∈ own M s
      · rw [same b hbo]; exact x
      · exact offS_le _ _ b o (l23 b o (by show offS h9 (own M s) b = _; rw [offS_out hbo]; exact x))
    · rw [e28, o28]; exact l9.trans l23
  · simp only [decide_eq_false_iff_not] at hi
    obtain rfl : i = Q.length := by omega
    refine ⟨_, rfl, _, _, _, by rw [add_mk, cell_of m9.hM]; rfl, ?_⟩
    refine ⟨fun k L h' => ∃ j : Nat, L = [.int .i64 (j : Int)] ∧ k + j = E.length ∧ MkO h0 h' M s Q E f l Q.length j ∧ Le (off h M s) (off h' M s), ⟨E.length, 0, rfl, rfl, m9, l9⟩, ?_⟩
    rintro k2 x36 h37 ⟨j, e, hk2, m37, l37⟩
    simp only [List.cons.injEq, Value.int.injEq, true_and, and_true] at e
    subst e
    refine ⟨fun hj => ?_, fun hj => ?_⟩
    · simp only [decide_eq_true_eq] at hj
      obtain ⟨q, hq, hm⟩ := get_lt (l := E) (i := j) (by omega)
      obtain ⟨a, p, n, c, ea, hb, hc, tr, _⟩ := m37.setE hq
      refine ⟨_, rfl, _, _, _, by rw [add_mk, cell_of m37.hM]; rfl, _, rfl, _, _, _, by rw [add_mk, cell_of m37.hM]; rfl, a, ea, hb, _, _, _, hc, ?_⟩
      refine ((c_Clone_Test tr (by rw [tr.1]; exact hE q hm)).besideS m37.has).mono fun v h51 hA => ?_
      obtain ⟨⟨l51, p', c', ev, ar, nw⟩, same⟩ := hA
      have m51 := m37.beside same l51
      obtain ⟨a', p2, n2, c2, ea', hb', hc', tr', up⟩ := m51.setE hq
      rw [ea] at ea'; cases ea'
      obtain ⟨is1, m56, o56⟩ := up p' n c' ⟨testsR_of_arr ar, fun _ => ⟨ar, nw.le (hle.trans l37)⟩⟩
      refine ⟨_, _, _, ev, ?_, a, ea, hb', is1, fun h56 e56 => ⟨k2 - 1, by omega, j + 1, by rw [wrap_succ (by omega)], by omega, e56 ▸ m56, ?_⟩⟩
      · intro b o x
        by_cases hbo : b ∈ own M s
        · rw [same b hbo]; exact x
        · exact offS_le _ _ b o (l51 b o (by show offS h37 (own M s) b = _; rw [offS_out hbo]; exact x))
      · rw [e56, o56]; exact l37.trans l51
    · simp only [decide_eq_false_iff_not] at hj
      obtain rfl : j = E.length := by omega
      exact ⟨rfl, m37, l37⟩
end Pt

