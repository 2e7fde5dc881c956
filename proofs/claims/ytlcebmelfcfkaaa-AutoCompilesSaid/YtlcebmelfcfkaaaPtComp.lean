/- A pattern's automaton: what the program makes. -/
import Derived.Test.YtlcebmelfcfkaaaPtAuto
namespace Pt
open Go Lf Pat
variable {h h0 : H} {M : Nat} {s : MS} {Q : List Prd} {E : List Edg}

/-- What the library's sort does to edges. -/
def SortOk : Prop := ∀ {h : H} {p : Option Addr} {n c : Nat} {d : List (ERow × Edg)}, ArrL h t_api_Edge 6 p n c (d.map fun x => x.1.enc) → d.length < 2 ^ 36 →
  Spec P n_slices_SortFunc_api_Edge #[.slice p n c, .func (.func n_auto_Compile_1) #[] #[]] h fun v h' => v = .tuple #[] ∧ ∃ d' : List (ERow × Edg), d'.Perm d ∧
    (∀ (i j : Nat) (x y : ERow × Edg), i < j → d'[i]? = some x → d'[j]? = some y → ¬ (y.1.cmp x.1 < 0)) ∧ ArrL h' t_api_Edge 6 p n c (d'.map fun x => x.1.enc) ∧ ∀ b, blkOf p ≠ some b → h' b = h b

def RowOf (h : H) (x : ERow × Edg) : Prop := EdgeR h x.1.enc x.2

theorem edgeR_row {h : H} {row : List Value} {e : Edg} (x : EdgeR h row e) : ∃ r : ERow, row = r.enc := by
  obtain ⟨p, n, c, rfl, _⟩ := x
  exact ⟨⟨_, _, _, _, _, p, n, c⟩, rfl⟩

theorem zip_rows {h : H} : ∀ (E : List Edg) (rows : List (List Value)), rows.length = E.length → (∀ (k : Nat) (e : Edg), E[k]? = some e → ∃ row, rows[k]? = some row ∧ EdgeR h row e) →
    ∃ d : List (ERow × Edg), (d.map fun x => x.1.enc) = rows ∧ d.map (·.2) = E ∧ ∀ x, x ∈ d → RowOf h x
  | [], rows, hl, _ => ⟨[], (List.length_eq_zero_iff.1 hl).symm, rfl, fun x hx => (by simp at hx)⟩
  | e :: E, rows, hl, hr => by
    obtain ⟨row, h1, h2⟩ := hr 0 e rfl
    match rows, hl, h1, hr with
    | r :: rows, hl, h1, hr =>
      simp only [List.getElem?_cons_zero, Option.some.injEq] at h1
      subst h1
      obtain ⟨d, d1, d2, d3⟩ := zip_rows E rows (by simpa using hl) (fun k e' hk => by
        obtain ⟨row', a, b⟩ := hr (k + 1) e' (by simpa using hk)
        exact ⟨row', by simpa using a, b⟩)
      obtain ⟨er, he⟩ := edgeR_row h2
      subst he
      exact ⟨(er, e) :: d, by simp [d1], by simp [d2], fun x hx => by
        rcases List.mem_cons.1 hx with rfl | hx
        · exact h2
        · exact d3 x hx⟩

theorem row_src {h : H} {x : ERow × Edg} (r : RowOf h x) : x.1.src = (x.2.src : Int) ∧ x.1.dst = (x.2.dst : Int) := by
  obtain ⟨p, n, c, e, _⟩ := r
  simp only [ERow.enc, List.cons.injEq, Value.int.injEq, true_and] at e
  exact ⟨e.1, e.2.1⟩

/-- Is an edge behind another one? -/
def _root_.Pat.Edg.after (x y : Edg) : Prop := x.src < y.src ∨ x.src = y.src ∧ x.dst ≤ y.dst

theorem cmp_after {h h' : H} {x y : ERow × Edg} (rx : RowOf h x) (ry : RowOf h' y) (hc : ¬ (y.1.cmp x.1 < 0)) : x.2.after y.2 := by
  obtain ⟨a1, a2⟩ := row_src rx
  obtain ⟨b1, b2⟩ := row_src ry
  unfold ERow.cmp orI cmpI at hc
  rw [a1, a2, b1, b2] at hc
  unfold Pat.Edg.after
  by_cases h1 : (y.2.src : Int) < x.2.src
  · simp [h1] at hc
  · by_cases h2 : (y.2.src : Int) > x.2.src
    · exact .inl (by omega)
    · have e : y.2.src = x.2.src := by omega
      simp only [if_neg h1, if_neg h2, ne_eq, not_true, if_false] at hc
      by_cases h3 : (y.2.dst : Int) < x.2.dst
      · simp [h3] at hc
      · exact .inr ⟨e.symm, by omega⟩

/-- Edges in order. -/
def InOrder (E : List Edg) : Prop := ∀ (i j : Nat) (x y : Edg), i < j → E[i]? = some x → E[j]? = some y → x.after y

/-- No automaton. -/
def autoZ : Value := .agg #[.slice none 0 0, .int .u32 0, .int .u32 0, .slice none 0 0]
def autoV (s : MS) (f l : Nat) : Value := .agg #[.slice s.pp s.np s.cp, .int .u32 (f : Int), .int .u32 (l : Int), .slice s.pe s.ne s.ce]

theorem mayP_zero {q : Ptn} (h : mayP q = 0) : q.nodes.length ≤ 32 ∧ ∃ t, tree q.nodes.length q.nodes = some t ∧ t.formed = true ∧ t.places ≤ 32 := by
  unfold mayP at h
  split at h
  · cases h
  · rename_i h1
    split at h
    · cases h
    · rename_i t ht
      refine ⟨by omega, t, ht, ?_⟩
      split at h
      · cases h
      · rename_i hf
        split at h
        · cases h
        · split at h
          · cases h
          · split at h
            · cases h
            · split at h
              · cases h
              · exact ⟨by simpa using hf, by omega⟩

theorem c_Compile (hj : JoinsOk) (hs : SortOk) {q : Ptn} {p : Option Addr} {n c : Nat} (r : NodesR h p n c q.nodes) (sm : ∀ x, x ∈ q.nodes → Small x) (hn : n < 2 ^ 35)
    (hsm : ∀ t, tree q.nodes.length q.nodes = some t → (∀ x, x ∈ (t.out 0).preds → x.tests.length < 2 ^ 36) ∧ ∀ e, e ∈ (t.out 0).edges → e.guard.tests.length < 2 ^ 36) :
    Spec P n_auto_Compile #[.agg #[.slice p n c, .int .u64 q.window]] h fun v h' => Le h h' ∧
      if mayP q ≠ 0 then v = .tuple #[autoZ, .int .i64 (mayP q)] else
      ∃ t, tree q.nodes.length q.nodes = some t ∧ t.formed = true ∧ t.places ≤ 32 ∧
        if 64 < (t.out 0).edges.length then v = .tuple #[autoZ, .int .i64 12] else
        ∃ M s E', v = .tuple #[autoV s (t.out 0).first (t.out 0).last, .int .i64 0] ∧ MkO h h' M s (t.out 0).preds E' (t.out 0).first (t.out 0).last (t.out 0).preds.length E'.length ∧ Le h (off h' M s) ∧
          E'.Perm (t.out 0).edges ∧ InOrder E' := by
  apply s_auto_Compile
  unfold f_auto_Compile
  refine (c_tree_May r sm hn).mono fun v h5 ⟨l5, ev⟩ => ⟨_, ev, fun h1 => ⟨l5, ?_⟩, fun h1 => ?_⟩
  · have : mayP q ≠ 0 := by simpa using h1
    rw [if_pos this]; rfl
  have hm : mayP q = 0 := by simpa using h1
  obtain ⟨hl32, t, ht, hf, hp⟩ := mayP_zero hm
  obtain ⟨smQ, smE⟩ := hsm t ht
  refine (c_tree_Own (r.mono l5) sm (by omega)).mono fun v h8 ⟨l8, p', c', ev, r8⟩ => ⟨_, _, _, _, ev, fun M hM h14 e14 => ?_⟩
  have le14 : Le h8 h14 := e14 ▸ le_hnew hM
  -- the maker, empty
  have m14 : Mk h14 M ⟨none, 0, 0, none, 0, 0⟩ [] [] := ⟨⟨0, 0, by rw [e14]; exact hnew_same⟩, by simp [blkOf], by simp [blkOf], by simp [blkOf], ⟨[], ArrL.nilA _ _ _, rfl, fun i q hq => by simp at hq⟩, ⟨[], ArrL.nilA _ _ _, rfl, fun i q hq => by simp at hq⟩⟩
  have lo14 : Le h8 (off h14 M ⟨none, 0, 0, none, 0, 0⟩) := le_offS le14 fun b hb => by
    rcases mem_own.1 hb with e | e | e
    · rw [e]; exact hM
    · cases e
    · cases e
  have hfine := out_fine t 0 hf
  have hlen := out_len t 0 hf
  refine (c_makes hj q.nodes.length q.nodes t ht hf (by simpa using hp) (by simp; omega) m14 (r8.mono lo14) hn).mono fun v h16 ⟨ev, s, m16, l16⟩ => ?_
  simp only [List.length_nil, List.nil_append] at ev m16
  refine ⟨_, _, ev, ?_⟩
  obtain ⟨ff, ll, hM16⟩ := m16.hM
  have hne := m16.ne
  have lall : Le h (off h16 M s) := (l5.trans l8).trans (lo14.trans l16)
  rw [blk_mk]
  refine ⟨_, _, _, by rw [add_mk, cell_of hM16]; rfl, fun h2 => ⟨lall.trans (offS_le _ _), ?_⟩, fun h2 => ?_⟩
  · rw [if_neg (by simpa using hm)]
    simp only [decide_eq_true_eq] at h2
    exact ⟨t, ht, hf, hp, by rw [if_pos (by omega)]; rfl⟩
  simp only [decide_eq_false_iff_not] at h2
  have hedges : ¬ 64 < (t.out 0).edges.length := by omega
  refine ⟨by rw [add_mk]; exact isSet_of hM16 (by simp), fun h22 e22 => ⟨fun b o x => (by cases x), ?_⟩⟩
  rw [add_mk] at e22
  have hM22 : h22 M = some (.cells #[.slice s.pp s.np s.cp, .int .u32 ((t.out 0).first : Int), .int .u32 ll, .slice s.pe s.ne s.ce] t_auto_maker (0, 0)) := by rw [e22, hset_same hM16]; rfl
  refine ⟨by rw [add_mk]; exact isSet_of hM22 (by simp), fun h23 e23 => ?_⟩
  rw [add_mk] at e23
  have hM23 : h23 M = some (.cells #[.slice s.pp s.np s.cp, .int .u32 ((t.out 0).first : Int), .int .u32 ((t.out 0).last : Int), .slice s.pe s.ne s.ce] t_auto_maker (0, 0)) := by rw [e23, hset_same hM22]; rfl
  have hMown : M ∈ own M s := mem_own.2 (.inl rfl)
  have o23 : off h23 M s = off h16 M s := by rw [e23, off_hset (by exact hMown), e22, off_hset (by exact hMown)]
  have oth23 : ∀ b, b ≠ M → h23 b = h16 b := fun b hb => by rw [e23, hset_other hb, e22, hset_other hb]
  obtain ⟨r1, a1, n1, x1⟩ := m16.prs
  obtain ⟨r2, a2, n2, x2⟩ := m16.eds
  obtain ⟨d, d1, d2, d3⟩ := zip_rows _ r2 n2 x2
  have a23 : ArrL h23 t_api_Edge 6 s.pe s.ne s.ce (d.map fun x => x.1.enc) := by
    rw [d1]; exact a2.same fun b hb => oth23 b fun e => m16.de (by rw [← e]; exact hb)
  refine ⟨_, _, _, by rw [add_mk, cell_of hM23]; rfl, ?_⟩
  refine (hs a23 (by have : d.length = r2.length := by rw [← d1]; simp
                     omega)).mono fun v h28 ⟨ev, d', pm, so, a28, oth28⟩ => ⟨ev, ?_⟩
  have o28 : off h28 M s = off h23 M s := by
    funext b
    show offS _ _ b = offS _ _ b
    unfold offS
    split
    · rfl
    · rename_i e; exact oth28 b fun e2 => e (mem_own.2 (.inr (.inr e2)))
  have oe : off h28 M s = off h16 M s := o28.trans o23
  have rowd : ∀ x, x ∈ d' → RowOf (off h16 M s) x := fun x hx => d3 x (pm.mem_iff.1 hx)
  have pE : (d'.map (·.2)).Perm (t.out 0).edges := by rw [← d2]; exact pm.map _
  have m28 : MkO h h28 M s (t.out 0).preds (d'.map (·.2)) (t.out 0).first (t.out 0).last 0 0 := by
    refine ⟨by rw [oth28 M m16.de]; exact hM23, m16.dp, m16.de, m16.dd, ⟨r1, (a1.same fun b hb => ?_), n1, fun k q' hk => ?_⟩, ⟨_, a28, by simp, fun k e hk => ?_⟩⟩
    · rw [oth28 b (m16.dd b hb), oth23 b fun e => m16.dp (by rw [← e]; exact hb)]
    · obtain ⟨row, e1, p1, n1', c1, e2, t1⟩ := x1 k q' hk
      rw [oe]
      exact ⟨row, e1, p1, n1', c1, e2, t1, fun hk' => (by omega)⟩
    · rw [List.getElem?_map] at hk
      obtain ⟨x, hx, rfl⟩ := Option.map_eq_some_iff.1 hk
      obtain ⟨p1, n1', c1, e2, t1⟩ := rowd x (List.mem_of_getElem? hx)
      rw [oe]
      exact ⟨_, by rw [List.getElem?_map, hx]; rfl, p1, n1', c1, e2, t1, fun hk' => (by omega)⟩
  have hEl : (d'.map (·.2)).length = (t.out 0).edges.length := pE.length_eq
  refine (c_own m28 (by rw [oe]; exact lall) smQ (fun e he => smE e (pE.mem_iff.1 he)) (by omega) (by omega)).mono fun v h30 ⟨ev, m30, l30⟩ => ⟨ev, ?_⟩
  have hM30 := m30.hM
  refine ⟨_, _, _, by rw [add_mk, cell_of hM30]; rfl, _, by rw [add_mk, cell_of hM30]; rfl, _, by rw [add_mk, cell_of hM30]; rfl, _, _, _, by rw [add_mk, cell_of hM30]; rfl, ?_⟩
  have lfin : Le h (off h30 M s) := (by rw [← oe] at lall; exact lall.trans l30)
  refine ⟨lfin.trans (offS_le _ _), ?_⟩
  rw [if_neg (by simpa using hm)]
  refine ⟨t, ht, hf, hp, ?_⟩
  rw [if_neg hedges]
  refine ⟨M, s, _, rfl, m30, lfin, pE, fun i j x y hij hx hy => ?_⟩
  rw [List.getElem?_map] at hx hy
  obtain ⟨x', hx', rfl⟩ := Option.map_eq_some_iff.1 hx
  obtain ⟨y', hy', rfl⟩ := Option.map_eq_some_iff.1 hy
  exact cmp_after (rowd x' (List.mem_of_getElem? hx')) (rowd y' (List.mem_of_getElem? hy')) (so i j x' y' hij hx' hy')
end Pt

