/- Edges between two parts: what the program's function puts. -/
import Derived.Test.YtlcebmelfcfkaaaPtMaker
import Derived.Test.YtlcebmelfcfkaaaLibC
namespace Pt
open Go Lf Pat
variable {h : H} {M : Nat} {s : MS} {Q : List Prd} {E : List Edg}

/-- The maker, its edges' slice grown and stored. -/
theorem Mk.pushE (m : Mk h M s Q E) {h1 : H} {p' : Option Addr} {n' c' : Nat} {r1 : List (List Value)} {e : Edg} {cs : List Value}
    (n1 : r1.length = E.length) (x1 : ∀ (i : Nat) (e : Edg), E[i]? = some e → ∃ row, r1[i]? = some row ∧ EdgeR (off h M s) row e) (ar : ArrL h1 t_api_Edge 6 p' n' c' (r1 ++ [cs])) (ka : KeepA s.pe h h1)
    (fr : ∀ A o sp, p' = some ⟨A, o, sp⟩ → s.pe = some ⟨A, o, sp⟩ ∨ h A = none) (he : EdgeR (off h M s) cs e) :
    isSet h1 ⟨M, 3, none⟩ ∧ Mk (hset h1 ⟨M, 3, none⟩ (.slice p' n' c')) M { s with pe := p', ne := n', ce := c' } Q (E ++ [e]) ∧
      Le (off h M s) (off (hset h1 ⟨M, 3, none⟩ (.slice p' n' c')) M { s with pe := p', ne := n', ce := c' }) := by
  obtain ⟨f, l', hM⟩ := m.hM
  obtain ⟨r2, a2, n2, x2⟩ := m.prs
  have kb : ∀ b o, h b = some o → blkOf s.pe ≠ some b → h1 b = some o := fun b o x ne => ka b o x fun of e => ne (by rw [e]; rfl)
  have hM1 : h1 M = some (.cells #[.slice s.pp s.np s.cp, .int .u32 f, .int .u32 l', .slice s.pe s.ne s.ce] t_auto_maker (0, 0)) := kb M _ hM m.de
  have newp : ∀ b, blkOf p' = some b → blkOf s.pe = some b ∨ h b = none := fun b hb => by
    obtain ⟨o, sp, rfl⟩ := blkOf_some hb
    rcases fr b o sp rfl with e | e
    · exact .inl (by rw [e]; rfl)
    · exact .inr e
  have hMne : h M ≠ none := by rw [hM]; simp
  have de' : blkOf p' ≠ some M := fun e => by
    rcases newp M e with e2 | e2
    · exact m.de e2
    · exact hMne e2
  have hpp : ∀ b, blkOf s.pp = some b → h b ≠ none := a2.has
  have dd' : ∀ b, blkOf s.pp = some b → blkOf p' ≠ some b := fun b hb e => by
    rcases newp b e with e2 | e2
    · exact m.dd b hb e2
    · exact hpp b hb e2
  have le : Le (off h M s) (off (hset h1 ⟨M, 3, none⟩ (.slice p' n' c')) M { s with pe := p', ne := n', ce := c' }) := by
    refine le_offS (fun b o x => ?_) fun b hb => ?_
    · have hno : b ∉ own M s := fun hb => by have x' : offS h (own M s) b = some o := x; rw [offS_none hb] at x'; cases x'
      have hx := offS_le _ _ b o x
      rw [mem_own] at hno
      rw [hset_other (fun e => hno (.inl e))]
      exact kb b o hx fun e => hno (.inr (.inr e))
    · rcases mem_own.1 hb with e | e | e
      · subst e; exact offS_none (mem_own.2 (.inl rfl))
      · exact offS_none (mem_own.2 (.inr (.inl e)))
      · rcases newp b e with e2 | e2
        · exact offS_none (mem_own.2 (.inr (.inr e2)))
        · cases x : off h M s b with
          | none => rfl
          | some o => rw [offS_le _ _ b o x] at e2; cases e2
  refine ⟨isSet_of hM1 (by simp), ⟨⟨f, l', by rw [hset_same hM1]; rfl⟩, m.dp, de', dd', ⟨r2, ?_, n2, fun i q hq => ?_⟩, ⟨r1 ++ [cs], ar.same fun b hb => hset_other fun e => de' (by rw [← e]; exact hb), by simp [n1], fun i e' hi => ?_⟩⟩, le⟩
  · have : ArrL h1 t_api_Pred 3 s.pp s.np s.cp r2 := a2.same fun b hb => by
      cases x : h b with
      | none => exact absurd x (hpp b hb)
      | some o => exact kb b o x fun e => m.dd b hb e
    exact this.same fun b hb => hset_other fun e => m.dp (by rw [← e]; exact hb)
  · obtain ⟨row, e', r⟩ := x2 i q hq
    exact ⟨row, e', r.mono le⟩
  · rcases Nat.lt_or_ge i E.length with h2 | h2
    · rw [List.getElem?_append_left h2] at hi
      obtain ⟨row, e, r⟩ := x1 i e' hi
      exact ⟨row, by rw [List.getElem?_append_left (by omega)]; exact e, r.mono le⟩
    · rw [List.getElem?_append_right h2] at hi
      have h0 : i - E.length = 0 := by
        have := (List.getElem?_eq_some_iff.1 hi).1
        simpa using this
      rw [h0] at hi
      simp only [List.getElem?_cons_zero, Option.some.injEq] at hi
      subst hi
      exact ⟨cs, by rw [List.getElem?_append_right (by omega), n1, h0]; rfl, he.mono le⟩

/-- What is to be read where edges are put: the boxes. -/
structure Boxes (h : H) (M B0 B1 : Nat) (x : Nd) (p1 : Option Addr) (n1 c1 : Nat) (p2 : Option Addr) (n2 c2 : Nat) : Prop where
  b0 : h B0 = some (.cells #[.pointer (some ⟨M, 0, none⟩)] 67 (0, 0))
  b1 : h B1 = some (.cells #[.int .u8 x.kind, .bool x.pred.any, .int .u8 x.pred.topic, .slice p1 n1 c1, .bool x.guarded, .bool x.guard.any, .int .u8 x.guard.topic, .slice p2 n2 c2, .int .u8 x.lo, .int .u8 x.hi, .int .i64 x.size] 51 (0, 0))

def putText (h hs : H) (a4 a5 a8 : Addr) (x9 : Int) (Kt : H → Prop) : Prop :=
  ∃ p100 : Option Addr, cell hs (a4.add 0) = some (.pointer p100) ∧ ∃ p101 : Option Addr, cell hs (a4.add 0) = some (.pointer p101) ∧ ∃ a102 : Addr, p101 = some a102 ∧ ∃ p103 : Option Addr, ∃ n104 : Nat, ∃ n105 : Nat, cell hs (a102.add 3) = some (.slice p103 n104 n105) ∧ ∃ x106 : Int, cell hs (a8.add 0) = some (.int .i64 x106) ∧ ∃ b107 : Bool, cell hs (a5.add 4) = some (.bool b107) ∧ ∃ b108 : Bool, cell hs (a5.add 5) = some (.bool b108) ∧ ∃ x109 : Int, cell hs (a5.add 6) = some (.int .u8 x109) ∧ ∃ p110 : Option Addr, ∃ n111 : Nat, ∃ n112 : Nat, cell hs (a5.add 7) = some (.slice p110 n111 n112) ∧ ∀ n113 : Nat, h n113 = none → ∀ h114 : H, h114 = (hnew h n113 (.cells #[(.int .u8 (IntKind.wrap .u8 x106)), (.int .u8 (IntKind.wrap .u8 x9)), (.bool b107), (.bool b108), (.int .u8 x109), (.slice p110 n111 n112)] 47 (0, 0))) →
 (Le hs h114) ∧ RunL P (X.sem (.bi .append #[34, 34] 34 [(.slice p103 n104 n105), (.slice (some ((blk n113).add 0)) 1 1)])) h114 (fun v115 h116 =>
 ∃ p117 : Option Addr, ∃ n118 : Nat, ∃ n119 : Nat, v115 = (.slice p117 n118 n119) ∧ (Le hs h116) ∧ ∃ a120 : Addr, p100 = some a120 ∧ isSet h116 (a120.add 3) ∧ ∀ h121 : H, h121 = (hset h116 (a120.add 3) (.slice p117 n118 n119)) →
 Kt h121)

theorem put_ok {B0 B1 B2 : Nat} {x : Nd} {p1 : Option Addr} {n1 c1 : Nat} {p2 : Option Addr} {n2 c2 fr to : Nat} (m : Mk h M s Q E) (bx : Boxes h M B0 B1 x p1 n1 c1 p2 n2 c2) (b2 : h B2 = some (.cells #[.int .i64 (fr : Int)] 3 (0, 0)))
    (o0 : B0 ∉ own M s) (o1 : B1 ∉ own M s) (o2 : B2 ∉ own M s) (t2 : TestsR (off h M s) p2 n2 c2 x.guard.tests) (hf : fr < 32) (ht : to < 32) (hE : E.length < 2 ^ 35 + 5000) :
    putText h (offS h ((blkOf s.pe).toList)) ⟨B0, 0, none⟩ ⟨B1, 0, none⟩ ⟨B2, 0, none⟩ (to : Int) fun h' =>
      Made h h' M s Q (E ++ [⟨fr, to, x.guarded, x.guard⟩]) := by
  unfold putText
  obtain ⟨ff, ll, hM⟩ := m.hM
  obtain ⟨r1, a1, nn1, x1⟩ := m.eds
  have hs_of : ∀ {b : Nat} {o : Obj}, h b = some o → blkOf s.pe ≠ some b → offS h ((blkOf s.pe).toList) b = some o := fun {b o} e ne => by
    rw [offS_out (by simpa [Option.mem_toList] using ne)]; exact e
  have n0 : blkOf s.pe ≠ some B0 := fun e => o0 (mem_own.2 (.inr (.inr e)))
  have n1' : blkOf s.pe ≠ some B1 := fun e => o1 (mem_own.2 (.inr (.inr e)))
  have n2' : blkOf s.pe ≠ some B2 := fun e => o2 (mem_own.2 (.inr (.inr e)))
  have h0 := hs_of bx.b0 n0
  have h1 := hs_of bx.b1 n1'
  have h2 := hs_of b2 n2'
  have h3 := hs_of hM m.de
  have hne : ∀ (n : Nat) {h' : H}, h' = hnew h n (.cells #[(.int .u8 (IntKind.wrap .u8 (fr : Int))), (.int .u8 (IntKind.wrap .u8 (to : Int))), (.bool x.guarded), (.bool x.guard.any), (.int .u8 x.guard.topic), (.slice p2 n2 c2)] 47 (0, 0)) → h n = none → Le (offS h ((blkOf s.pe).toList)) h' := fun n h' e hn =>
    (offS_le _ _).trans (e ▸ le_hnew hn)
  refine ⟨_, by rw [add_mk, cell_of h0]; rfl, _, by rw [add_mk, cell_of h0]; rfl, _, rfl, _, _, _, by rw [add_mk, cell_of h3]; rfl, _, by rw [add_mk, cell_of h2]; rfl, _, by rw [add_mk, cell_of h1]; rfl,
    _, by rw [add_mk, cell_of h1]; rfl, _, by rw [add_mk, cell_of h1]; rfl, _, _, _, by rw [add_mk, cell_of h1]; rfl, fun n113 hn h114 e114 => ⟨hne n113 e114 hn, ?_⟩⟩
  refine RunL.append1 (cs := [.int .u8 (IntKind.wrap .u8 (fr : Int)), .int .u8 (IntKind.wrap .u8 (to : Int)), .bool x.guarded, .bool x.guard.any, .int .u8 x.guard.topic, .slice p2 n2 c2]) ef_api_Edge (by rw [a1.hl, nn1]; omega) a1 rfl (fun v hv => ?_) (fun h36 p' cap' ar ka fr' => ⟨_, _, _, rfl, ?_, _, rfl, ?_⟩) n113 hn h114 e114
  · simp only [List.mem_cons, List.not_mem_nil, or_false] at hv
    rcases hv with rfl | rfl | rfl | rfl | rfl | rfl <;> rfl
  · intro b o e
    have hb := offS_le _ _ b o e
    refine ka b o hb fun of e2 => ?_
    have : b ∈ (blkOf s.pe).toList := by rw [Option.mem_toList, e2]; rfl
    rw [offS_none this] at e; cases e
  · have wf : IntKind.wrap .u8 (fr : Int) = (fr : Int) := by rw [IntKind.wrap_u8]; omega
    have wt : IntKind.wrap .u8 (to : Int) = (to : Int) := by rw [IntKind.wrap_u8]; omega
    obtain ⟨is1, m41, l41⟩ := m.pushE (e := ⟨fr, to, x.guarded, x.guard⟩) nn1 x1 ar ka fr' ⟨_, _, _, by rw [wf, wt], t2⟩
    rw [add_mk]
    exact ⟨is1, fun h41 e41 => ⟨_, e41 ▸ m41, e41 ▸ l41⟩⟩
end Pt

