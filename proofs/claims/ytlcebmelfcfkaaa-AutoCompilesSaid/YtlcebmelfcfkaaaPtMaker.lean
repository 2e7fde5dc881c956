/- The maker of automata: what the program's functions make. -/
import Derived.Test.YtlcebmelfcfkaaaPtOwn
import Derived.Test.YtlcebmelfcfkaaaLibB
namespace Pt
open Go Lf Pat
variable {h : H}

def EdgeR (h : H) (r : List Value) (e : Edg) : Prop := ∃ p n c, r = [.int .u8 (e.src : Int), .int .u8 (e.dst : Int), .bool e.guarded, .bool e.guard.any, .int .u8 e.guard.topic, .slice p n c] ∧ TestsR h p n c e.guard.tests

theorem EdgeR.mono {h h' : H} (l : Le h h') {r : List Value} {e : Edg} (x : EdgeR h r e) : EdgeR h' r e := let ⟨p, n, c, a, t⟩ := x; ⟨p, n, c, a, t.mono l⟩

/-- The maker's slices: of questions, and of edges. -/
structure MS where
  pp : Option Addr
  np : Nat
  cp : Nat
  pe : Option Addr
  ne : Nat
  ce : Nat

/-- The maker's own blocks. -/
def own (M : Nat) (s : MS) : List Nat := M :: ((blkOf s.pp).toList ++ (blkOf s.pe).toList)
abbrev off (h : H) (M : Nat) (s : MS) : H := offS h (own M s)

structure Mk (h : H) (M : Nat) (s : MS) (Q : List Prd) (E : List Edg) : Prop where
  hM : ∃ f l, h M = some (.cells #[.slice s.pp s.np s.cp, .int .u32 f, .int .u32 l, .slice s.pe s.ne s.ce] t_auto_maker (0, 0))
  dp : blkOf s.pp ≠ some M
  de : blkOf s.pe ≠ some M
  dd : ∀ b, blkOf s.pp = some b → blkOf s.pe ≠ some b
  prs : ∃ rows, ArrL h t_api_Pred 3 s.pp s.np s.cp rows ∧ rows.length = Q.length ∧ ∀ (i : Nat) (q : Prd), Q[i]? = some q → ∃ row, rows[i]? = some row ∧ PredR (off h M s) row q
  eds : ∃ rows, ArrL h t_api_Edge 6 s.pe s.ne s.ce rows ∧ rows.length = E.length ∧ ∀ (i : Nat) (e : Edg), E[i]? = some e → ∃ row, rows[i]? = some row ∧ EdgeR (off h M s) row e

variable {M : Nat} {s : MS} {Q : List Prd} {E : List Edg}

theorem mem_own {b : Nat} : b ∈ own M s ↔ b = M ∨ blkOf s.pp = some b ∨ blkOf s.pe = some b := by
  unfold own; simp [Option.mem_toList]

theorem Mk.has (m : Mk h M s Q E) : ∀ b, b ∈ own M s → h b ≠ none := by
  intro b hb
  obtain ⟨f, l, hM⟩ := m.hM
  obtain ⟨r1, a1, _⟩ := m.prs
  obtain ⟨r2, a2, _⟩ := m.eds
  rcases mem_own.1 hb with rfl | e | e
  · rw [hM]; simp
  · exact a1.has b e
  · exact a2.has b e

/-- What lies beside the maker may grow. -/
theorem Mk.beside (m : Mk h M s Q E) {h' : H} (same : ∀ b, b ∈ own M s → h' b = h b) (l : Le (off h M s) (off h' M s)) : Mk h' M s Q E := by
  obtain ⟨f, l', hM⟩ := m.hM
  obtain ⟨r1, a1, n1, x1⟩ := m.prs
  obtain ⟨r2, a2, n2, x2⟩ := m.eds
  exact ⟨⟨f, l', by rw [same M (mem_own.2 (.inl rfl))]; exact hM⟩, m.dp, m.de, m.dd,
    ⟨r1, a1.same fun b hb => same b (mem_own.2 (.inr (.inl hb))), n1, fun i q hq => let ⟨row, e, r⟩ := x1 i q hq; ⟨row, e, r.mono l⟩⟩,
    ⟨r2, a2.same fun b hb => same b (mem_own.2 (.inr (.inr hb))), n2, fun i q hq => let ⟨row, e, r⟩ := x2 i q hq; ⟨row, e, r.mono l⟩⟩⟩

theorem Mk.np (m : Mk h M s Q E) : s.np = Q.length := by obtain ⟨r, a, n, _⟩ := m.prs; rw [a.hl, n]
theorem Mk.ne (m : Mk h M s Q E) : s.ne = E.length := by obtain ⟨r, a, n, _⟩ := m.eds; rw [a.hl, n]

theorem blkOf_mk {p : Option Addr} {A off : Nat} {sp : Option Nat} : blkOf (some ⟨A, off, sp⟩) = some A := rfl

theorem blkOf_some {p : Option Addr} {b : Nat} (h : blkOf p = some b) : ∃ o sp, p = some ⟨b, o, sp⟩ := by
  obtain ⟨a, rfl, e⟩ := Option.map_eq_some_iff.1 h
  exact ⟨a.off, a.spot, by rw [← e]⟩

/-- The maker, its questions' slice grown and stored. -/
theorem Mk.pushP (m : Mk h M s Q E) {h1 : H} {p' : Option Addr} {n' c' : Nat} {r1 : List (List Value)} {q : Prd} {cs : List Value}
    (n1 : r1.length = Q.length) (x1 : ∀ (i : Nat) (q : Prd), Q[i]? = some q → ∃ row, r1[i]? = some row ∧ PredR (off h M s) row q) (ar : ArrL h1 t_api_Pred 3 p' n' c' (r1 ++ [cs])) (ka : KeepA s.pp h h1) (fr : ∀ A o sp, p' = some ⟨A, o, sp⟩ → s.pp = some ⟨A, o, sp⟩ ∨ h A = none)
    (hq : PredR (off h M s) cs q) :
    isSet h1 ⟨M, 0, none⟩ ∧ Mk (hset h1 ⟨M, 0, none⟩ (.slice p' n' c')) M { s with pp := p', np := n', cp := c' } (Q ++ [q]) E ∧
      Le (off h M s) (off (hset h1 ⟨M, 0, none⟩ (.slice p' n' c')) M { s with pp := p', np := n', cp := c' }) := by
  obtain ⟨f, l', hM⟩ := m.hM
  obtain ⟨r2, a2, n2, x2⟩ := m.eds
  have kb : ∀ b o, h b = some o → blkOf s.pp ≠ some b → h1 b = some o := fun b o x ne => ka b o x fun of e => ne (by rw [e]; rfl)
  have hM1 : h1 M = some (.cells #[.slice s.pp s.np s.cp, .int .u32 f, .int .u32 l', .slice s.pe s.ne s.ce] t_auto_maker (0, 0)) := kb M _ hM m.dp
  have newp : ∀ b, blkOf p' = some b → blkOf s.pp = some b ∨ h b = none := fun b hb => by
    obtain ⟨o, sp, rfl⟩ := blkOf_some hb
    rcases fr b o sp rfl with e | e
    · exact .inl (by rw [e]; rfl)
    · exact .inr e
  have hMne : h M ≠ none := by rw [hM]; simp
  have dp' : blkOf p' ≠ some M := fun e => by
    rcases newp M e with e2 | e2
    · exact m.dp e2
    · exact hMne e2
  have hpe : ∀ b, blkOf s.pe = some b → h b ≠ none := a2.has
  have dd' : ∀ b, blkOf p' = some b → blkOf s.pe ≠ some b := fun b hb e => by
    rcases newp b hb with e2 | e2
    · exact m.dd b e2 e
    · exact hpe b e e2
  have le : Le (off h M s) (off (hset h1 ⟨M, 0, none⟩ (.slice p' n' c')) M { s with pp := p', np := n', cp := c' }) := by
    refine le_offS (fun b o x => ?_) fun b hb => ?_
    · have hno : b ∉ own M s := fun hb => by have x' : offS h (own M s) b = some o := x; rw [offS_none hb] at x'; cases x'
      have hx := offS_le _ _ b o x
      rw [mem_own] at hno
      rw [hset_other (fun e => hno (.inl e))]
      exact kb b o hx fun e => hno (.inr (.inl e))
    · rcases mem_own.1 hb with e | e | e
      · subst e; exact offS_none (mem_own.2 (.inl rfl))
      · rcases newp b e with e2 | e2
        · exact offS_none (mem_own.2 (.inr (.inl e2)))
        · cases x : off h M s b with
          | none => rfl
          | some o => rw [offS_le _ _ b o x] at e2; cases e2
      · exact offS_none (mem_own.2 (.inr (.inr e)))
  refine ⟨isSet_of hM1 (by simp), ⟨⟨f, l', by rw [hset_same hM1]; rfl⟩, dp', m.de, dd', ⟨r1 ++ [cs], ar.same fun b hb => hset_other fun e => dp' (by rw [← e]; exact hb), by simp [n1], fun i q' hi => ?_⟩, ⟨r2, ?_, n2, fun i e he => ?_⟩⟩, le⟩
  · rcases Nat.lt_or_ge i Q.length with h2 | h2
    · rw [List.getElem?_append_left h2] at hi
      obtain ⟨row, e, r⟩ := x1 i q' hi
      exact ⟨row, by rw [List.getElem?_append_left (by omega)]; exact e, r.mono le⟩
    · rw [List.getElem?_append_right h2] at hi
      have h0 : i - Q.length = 0 := by
        have := (List.getElem?_eq_some_iff.1 hi).1
        simpa using this
      rw [h0] at hi
      simp only [List.getElem?_cons_zero, Option.some.injEq] at hi
      subst hi
      exact ⟨cs, by rw [List.getElem?_append_right (by omega), n1, h0]; rfl, hq.mono le⟩
  · have : ArrL h1 t_api_Edge 6 s.pe s.ne s.ce r2 := a2.same fun b hb => by
      cases x : h b with
      | none => exact absurd x (hpe b hb)
      | some o => exact kb b o x fun e => m.dd b e hb
    exact this.same fun b hb => hset_other fun e => m.de (by rw [← e]; exact hb)
  · obtain ⟨row, e', r⟩ := x2 i e he
    exact ⟨row, e', r.mono le⟩

/-- What a call of the maker leaves. -/
def Made (h h' : H) (M : Nat) (s : MS) (Q : List Prd) (E : List Edg) : Prop := ∃ s', Mk h' M s' Q E ∧ Le (off h M s) (off h' M s')

/-- What putting edges does. -/
def JoinsOk : Prop := ∀ {h : H} {M : Nat} {s : MS} {Q : List Prd} {E : List Edg} {x : Nd} {p1 : Option Addr} {n1 c1 : Nat} {p2 : Option Addr} {n2 c2 : Nat} {af al bf bl : Nat}, Mk h M s Q E → TestsR (off h M s) p2 n2 c2 x.guard.tests →
  af < 2 ^ 32 → al < 2 ^ 32 → bf < 2 ^ 32 → bl < 2 ^ 32 → E.length < 2 ^ 35 →
  Spec P n_auto_maker_joins #[.pointer (some ⟨M, 0, none⟩), ndV x p1 n1 c1 p2 n2 c2, .agg #[.int .u32 (af : Int), .int .u32 (al : Int)], .agg #[.int .u32 (bf : Int), .int .u32 (bl : Int)]] h
    fun v h' => v = .tuple #[] ∧ Made h h' M s Q (E ++ joins x al bf)

end Pt

