/- A pattern's automaton: what the document makes. -/
import Derived.Test.YtlcebmelfcfkaaaLibW
namespace Pat
open Go Lf

theorem widenL_len : ∀ (ts : List T) (n : Nat), (widenL ts n).1.length = ts.length
  | [], n => rfl
  | t :: ts, n => by simp [widenL, widenL_len ts]

theorem widenK_len' (ts : List T) : ∀ (k n : Nat), (widenK (widenL ts) k n).1.length = k * ts.length
  | 0, n => by simp [widenK]
  | k + 1, n => by
    show ((widenK (widenL ts) k n).1 ++ (widenL ts (widenK (widenL ts) k n).2).1).length = _
    rw [List.length_append, widenK_len' ts k, widenL_len, Nat.add_mul, Nat.one_mul]
end Pat

namespace Pt
open Go Lf Pat
variable {h : H}

mutual
theorem sm_widen : ∀ (t : T) (n : Nat), t.formed = true → n + t.places ≤ 32 → t.count < 2 ^ 27 → Sm (t.widen n).1
  | .mk x ps, n, hF, h32, hc => by
    have hF' := hF
    simp only [T.formed, Bool.and_eq_true, decide_eq_true_eq] at hF
    have hcl := length_le_countL ps
    simp only [T.count] at hc
    simp only [T.widen]
    by_cases h1 : x.kind = 1
    · rw [if_pos h1]
      exact .mk (by simp) (fun h4 => by omega) (by omega) (fun i u hi => by simp at hi)
    · rw [if_neg h1]
      have htm8 : timesOf x ≤ 8 := by
        unfold timesOf
        split
        · rename_i h4; have := plain_hi hF.1.1 h4; omega
        · omega
      have hpl : (T.mk x ps).places = timesOf x * placesL ps := by
        simp only [T.places, if_neg h1, timesOf]
        split
        · rw [Nat.mul_comm]
        · rw [Nat.one_mul]
      rw [hpl] at h32
      have key : ∀ k, n + k * placesL ps ≤ 32 → ∀ w, w ∈ (widenK (widenL ps) k n).1 → Sm w := by
        intro k
        induction k with
        | zero => intro _ w hw; simp [widenK] at hw
        | succ k ih =>
          intro hk w hw
          have hmul : (k + 1) * placesL ps = k * placesL ps + placesL ps := by rw [Nat.add_mul, Nat.one_mul]
          replace hw : w ∈ (widenK (widenL ps) k n).1 ++ (widenL ps (widenK (widenL ps) k n).2).1 := hw
          rcases List.mem_append.1 hw with hw | hw
          · exact ih (by omega) w hw
          · rw [widenK_next hF.2 k (by omega)] at hw
            exact sm_widenL ps _ hF.2 (by omega) (by omega) w hw
      refine .mk ?_ (fun h4 => ?_) (by omega) (fun i u hi => key _ h32 u (List.mem_of_getElem? hi))
      · rw [widenK_len']
        have : timesOf x * ps.length ≤ 8 * ps.length := Nat.mul_le_mul_right _ htm8
        omega
      · have := plain_hi hF.1.1 h4; omega
theorem sm_widenL : ∀ (ts : List T) (n : Nat), formedL ts = true → n + placesL ts ≤ 32 → countL ts < 2 ^ 27 → ∀ w, w ∈ (widenL ts n).1 → Sm w
  | [], n, _, _, _, w, hw => by simp [widenL] at hw
  | t :: ts, n, hf, h32, hc, w, hw => by
    simp only [formedL, Bool.and_eq_true] at hf
    simp only [placesL] at h32
    simp only [countL] at hc
    simp only [widenL, List.mem_cons] at hw
    rcases hw with rfl | hw
    · exact sm_widen t n hf.1 (by omega) (by omega)
    · rw [(out_rel t n hf.1 (by omega)).2] at hw
      exact sm_widenL ts _ hf.2 (by omega) (by omega) w hw
end

theorem edge_len {h : H} {r : List Value} {e : Edg} (x : EdgeR h r e) : r.length = 6 ∧ ∀ v, v ∈ r → v.oneCell = true := by
  obtain ⟨p, n, c, rfl, _⟩ := x
  refine ⟨rfl, fun v hv => ?_⟩
  simp only [List.mem_cons, List.not_mem_nil, or_false] at hv
  rcases hv with rfl | rfl | rfl | rfl | rfl | rfl <;> rfl

def EdgesR (h : H) (p : Option Addr) (n c : Nat) (xs : List Edg) : Prop := RowsR (EdgeR h) h 6 p n c xs

def autoR (pp : Option Addr) (np cp : Nat) (f l : Nat) (pe : Option Addr) (ne ce : Nat) : Value := .agg #[.slice pp np cp, .int .u32 (f : Int), .int .u32 (l : Int), .slice pe ne ce]

theorem edgesTo_len (g : Nat → Nat → Option Nd) (f : Nat) : ∀ k, (edgesTo g f k).length ≤ k
  | 0 => by simp [edgesTo]
  | k + 1 => by
    rw [edgesTo, List.length_append]
    have := edgesTo_len g f k
    split <;> simp <;> omega

theorem edgesOf_len (g : Nat → Nat → Option Nd) (n : Nat) : ∀ i, (edgesOf g n i).length ≤ i * n
  | 0 => by simp [edgesOf]
  | i + 1 => by
    rw [edgesOf, List.length_append, Nat.add_mul, Nat.one_mul]
    have := edgesOf_len g n i
    have := edgesTo_len g i n
    omega

theorem sumBits_lt (m : Nat) : ∀ i, sumBits m i < 2 ^ i
  | i => by rw [sumBits_mod]; exact Nat.mod_lt _ (Nat.pow_pos (by omega))

theorem sumBits_step {m i : Nat} (hi : i < 32) (b : Bool) (hb : m.testBit i = b) : (if b then IntKind.wrap .u32 ((sumBits m i : Int) + ((2 ^ i : Nat) : Int)) else (sumBits m i : Int)) = ((sumBits m (i + 1) : Nat) : Int) := by
  have h1 := sumBits_lt m (i + 1)
  have h2 : 2 ^ (i + 1) ≤ 2 ^ 32 := Nat.pow_le_pow_right (by omega) (by omega)
  rw [sumBits, hb] at *
  cases b with
  | true =>
    simp only [if_true] at *
    rw [IntKind.wrap_u32]
    generalize 2 ^ i = z at *
    omega
  | false => simp

set_option maxRecDepth 10000 in
theorem c_ref14_Compile {q : Ptn} {p : Option Addr} {n c : Nat} (r : NodesR h p n c q.nodes) (hs : ∀ x, x ∈ q.nodes → Small x) (hn : n < 2 ^ 35) (hw : 0 ≤ q.window) :
    Spec P n_ref14_Compile #[.agg #[.slice p n c, .int .u64 q.window]] h fun v h' => Le h h' ∧
      if mayP q ≠ 0 then v = .tuple #[autoZ, .int .i64 (mayP q)] else
      ∃ t, tree q.nodes.length q.nodes = some t ∧ t.formed = true ∧ t.places ≤ 32 ∧
        if 64 < (edgesOf (t.widen 0).1.edge t.places t.places).length then v = .tuple #[autoZ, .int .i64 12] else
        ∃ pp np cp pe ne ce, v = .tuple #[autoR pp np cp (t.out 0).first (t.out 0).last pe ne ce, .int .i64 0] ∧ PredsR h' pp np cp (t.out 0).preds ∧ EdgesR h' pe ne ce (edgesOf (t.widen 0).1.edge t.places t.places) := by
  apply s_ref14_Compile
  unfold f_ref14_Compile
  refine (c_ref11_May r hs hn hw).mono fun v h5 ⟨l5, ev⟩ => ⟨_, ev, fun h1 => ⟨l5, ?_⟩, fun h1 => ?_⟩
  · have : mayP q ≠ 0 := by simpa using h1
    rw [if_pos this]; rfl
  have hm : mayP q = 0 := by simpa using h1
  obtain ⟨hl32, t, ht, hf, hp⟩ := mayP_zero hm
  refine (c_ref11_Tree (r.mono l5) hn).mono fun v h8 hB => ?_
  obtain ⟨l8, row, ok, ev, ⟨ux, u1, u2, u3, u4, u5, u6, u7, u8, u9, rfl⟩, _, hyes⟩ := hB
  obtain ⟨hok, hTR⟩ := hyes t ht
  refine ⟨_, _, _, _, _, _, _, _, _, _, _, _, _, _, _, _, _, _, _, ev, ?_⟩
  have hcnt := tree_count _ _ _ ht
  have h0p : 0 + t.places ≤ 32 := by omega
  refine (c_widen t (n0 := 0) hTR hf h0p (by omega)).mono fun v h29 ⟨l29, p1, n1, c1, p2, n2, c2, p3, n3, c3, ev, hWR⟩ => ?_
  refine ⟨_, _, _, _, _, _, _, _, _, _, _, _, _, _, _, _, _, _, _, _, ev, ?_⟩
  obtain ⟨rl, _⟩ := out_rel t 0 hf h0p
  have sm := sm_widen t 0 hf h0p (by omega)
  have hlen := out_len t 0 hf
  have fn := out_fine t 0 hf
  obtain ⟨N, hN⟩ : ∃ N, N = t.places := ⟨_, rfl⟩
  obtain ⟨g, hg⟩ : ∃ g, g = (t.widen 0).1.edge := ⟨_, rfl⟩
  refine (c_Wide_preds _ hWR sm (by rw [rl.preds, hlen]; omega)).mono fun v h51 ⟨l51, pp, np, cp, ev, hpr⟩ => ⟨_, _, _, ev, ?_⟩
  rw [rl.preds] at hpr
  have hWR51 := hWR.mono l51
  have l0 : Le h h51 := (l5.trans l8).trans (l29.trans l51)
  have h0N : ((0 + N : Nat) : Int) = (N : Int) := by rw [Nat.zero_add]
  rw [← hN, h0N]
  refine ⟨fun k L h' => ∃ (i : Nat) (pe : Option Addr) (ne ce : Nat), L = [.int .i64 (i : Int), .int .u32 (IntKind.wrap .u32 ((2 ^ i : Nat) : Int)), .agg #[.slice pp np cp, .int .u32 (sumBits (t.out 0).first i : Int), .int .u32 (sumBits (t.out 0).last i : Int), .slice pe ne ce]] ∧ k + i = N ∧
    GathR EdgeR h' t_api_Edge 6 pe ne ce (edgesOf g N i) ∧ Le h51 (wo h' pe), ⟨N, 0, none, 0, 0, rfl, rfl, GathR.nil _ _ _ _, by rw [wo_nil]; exact Le.refl _⟩, ?_⟩
  rintro k x58 x59 p60 n61 n62 x63 x64 p65 n66 n67 h68 ⟨i, pe, ne, ce, e, hk, gr, le⟩
  simp only [List.cons.injEq, Value.int.injEq, Value.slice.injEq, Value.agg.injEq, Array.mk.injEq, true_and, and_true] at e
  obtain ⟨rfl, rfl, ⟨rfl, rfl, rfl⟩, rfl, rfl, rfl, rfl, rfl⟩ := e
  refine ⟨fun hi => ?_, fun hi => ?_⟩
  · simp only [decide_eq_true_eq] at hi
    have hi32 : i < 32 := by omega
    have hWR68 := hWR51.mono (le.trans (wo_le _ _))
    have hbit : IntKind.wrap .u32 ((2 ^ i : Nat) : Int) = ((2 ^ i : Nat) : Int) := by
      have : 2 ^ i < 2 ^ 32 := Nat.pow_lt_pow_right (by omega) hi32
      rw [IntKind.wrap_u32]
      generalize 2 ^ i = z at *
      omega
    rw [hbit]
    refine ⟨fun L h' => h' = h68 ∧ L = [.agg #[.slice p60 n61 n62, .int .u32 (sumBits (t.out 0).first (i + 1) : Int), .int .u32 (sumBits (t.out 0).last i : Int), .slice p65 n66 n67]], ?_, ?_⟩
    · refine (c_Wide_first _ i hWR68 sm (by omega)).mono fun v h71 ⟨e71, ev⟩ => ⟨_, ev, fun hb => ⟨e71, ?_⟩, fun hb => ⟨e71, ?_⟩⟩
      · rw [rl.first] at hb
        have := sumBits_step (m := (t.out 0).first) hi32 true hb
        rw [if_pos rfl] at this
        rw [this]
      · rw [rl.first] at hb
        have := sumBits_step (m := (t.out 0).first) hi32 false hb
        simp only [Bool.false_eq_true, if_false] at this
        rw [this]
    rintro p73 n74 n75 x76 x77 p78 n79 n80 h81 ⟨rfl, e⟩
    simp only [List.cons.injEq, Value.int.injEq, Value.slice.injEq, Value.agg.injEq, Array.mk.injEq, true_and, and_true] at e
    obtain ⟨⟨rfl, rfl, rfl⟩, rfl, rfl, rfl, rfl, rfl⟩ := e
    refine ⟨fun L h' => h' = h81 ∧ L = [.agg #[.slice p73 n74 n75, .int .u32 (sumBits (t.out 0).first (i + 1) : Int), .int .u32 (sumBits (t.out 0).last (i + 1) : Int), .slice p78 n79 n80]], ?_, ?_⟩
    · refine (c_Wide_last _ i hWR68 sm (by omega)).mono fun v h84 ⟨e84, ev⟩ => ⟨_, ev, fun hb => ⟨e84, ?_⟩, fun hb => ⟨e84, ?_⟩⟩
      · rw [rl.last] at hb
        have := sumBits_step (m := (t.out 0).last) hi32 true hb
        rw [if_pos rfl] at this
        rw [this]
      · rw [rl.last] at hb
        have := sumBits_step (m := (t.out 0).last) hi32 false hb
        simp only [Bool.false_eq_true, if_false] at this
        rw [this]
    rintro p86 n87 n88 x89 x90 p91 n92 n93 h94 ⟨rfl, e⟩
    simp only [List.cons.injEq, Value.int.injEq, Value.slice.injEq, Value.agg.injEq, Array.mk.injEq, true_and, and_true] at e
    obtain ⟨⟨rfl, rfl, rfl⟩, rfl, rfl, rfl, rfl, rfl⟩ := e
    refine ⟨fun k2 L h' => ∃ (j : Nat) (pe : Option Addr) (ne ce : Nat), L = [.int .i64 (j : Int), .agg #[.slice p86 n87 n88, .int .u32 (sumBits (t.out 0).first (i + 1) : Int), .int .u32 (sumBits (t.out 0).last (i + 1) : Int), .slice pe ne ce]] ∧ k2 + j = N ∧
      GathR EdgeR h' t_api_Edge 6 pe ne ce (edgesOf g N i ++ edgesTo g i j) ∧ Le h51 (wo h' pe), ⟨N, 0, p91, n92, n93, rfl, rfl, by simpa [edgesTo] using gr, le⟩, ?_⟩
    rintro k2 x98 p99 n100 n101 x102 x103 p104 n105 n106 h107 ⟨j, pe, ne, ce, e, hk2, gr2, le2⟩
    simp only [List.cons.injEq, Value.int.injEq, Value.slice.injEq, Value.agg.injEq, Array.mk.injEq, true_and, and_true] at e
    obtain ⟨rfl, ⟨rfl, rfl, rfl⟩, rfl, rfl, rfl, rfl, rfl⟩ := e
    refine ⟨fun hj => ?_, fun hj => ?_⟩
    · simp only [decide_eq_true_eq] at hj
      have hj32 : j < 32 := by omega
      have hgl := gr2.len
      have hl1 := edgesOf_len g N i
      have hl2 := edgesTo_len g i j
      have hl3 : i * N ≤ 32 * 32 := Nat.mul_le_mul (by omega) (by omega)
      rw [List.length_append] at hgl
      refine ⟨fun L h' => ∃ (pe : Option Addr) (ne ce : Nat), L = [.agg #[.slice p99 n100 n101, .int .u32 (sumBits (t.out 0).first (i + 1) : Int), .int .u32 (sumBits (t.out 0).last (i + 1) : Int), .slice pe ne ce]] ∧
        GathR EdgeR h' t_api_Edge 6 pe ne ce (edgesOf g N i ++ edgesTo g i (j + 1)) ∧ Le h51 (wo h' pe), ?_, ?_⟩
      · refine ((c_Wide_edge _ i j (hWR51.mono le2) sm (by omega) (by omega)).beside gr2.has).mono fun v h110 ⟨⟨e110, ev⟩, same⟩ => ?_
        have g110 := gr2.beside (fun l x => x.mono l) same (by rw [e110]; exact Le.refl _)
        rw [← hg] at ev
        have le110 : Le h51 (wo h110 p104) := by rw [e110]; exact le2
        cases hge : g i j with
        | none =>
          rw [hge] at ev
          refine ⟨_, _, _, _, _, _, _, _, _, _, _, _, _, _, _, _, ev, fun hb => (by cases hb), fun _ => ⟨p104, n105, n106, rfl, ?_, le110⟩⟩
          simp only [edgesTo, hge, List.append_nil]
          exact g110
        | some y =>
          rw [hge] at ev
          obtain ⟨r1, s1, y1, r2, s2, y2, ev, u1, u2⟩ := ev
          refine ⟨_, _, _, _, _, _, _, _, _, _, _, _, _, _, _, _, ev, fun _ => ?_, fun hb => (by cases hb)⟩
          have wi : IntKind.wrap .u8 (i : Int) = (i : Int) := by rw [IntKind.wrap_u8]; omega
          have wj : IntKind.wrap .u8 (j : Int) = (j : Int) := by rw [IntKind.wrap_u8]; omega
          rw [wi, wj]
          have hER : EdgeR (wo h110 p104) [.int .u8 (i : Int), .int .u8 (j : Int), .bool y.guarded, .bool y.guard.any, .int .u8 y.guard.topic, .slice r2 s2 y2] ⟨i, j, y.guarded, y.guard⟩ := ⟨_, _, _, rfl, by rw [e110]; exact u2⟩
          refine GathR.push (R := EdgeR) (fun l x => x.mono l) ef_api_Edge g110 (by omega) hER (edge_len hER).1 (edge_len hER).2 fun h130 q' c' g' l' => ?_
          refine ⟨_, _, _, rfl, q', _, c', rfl, ?_, le110.trans l'⟩
          simp only [edgesTo, hge, ← List.append_assoc]
          exact g'
      · rintro p134 n135 n136 x137 x138 p139 n140 n141 h142 ⟨pe, ne, ce, e, g3, le3⟩
        simp only [List.cons.injEq, Value.int.injEq, Value.slice.injEq, Value.agg.injEq, Array.mk.injEq, true_and, and_true] at e
        obtain ⟨⟨rfl, rfl, rfl⟩, rfl, rfl, rfl, rfl, rfl⟩ := e
        exact ⟨k2 - 1, by omega, j + 1, p139, n140, n141, by rw [wrap_succ (by omega)], by omega, g3, le3⟩
    · simp only [decide_eq_false_iff_not] at hj
      obtain rfl : j = N := by omega
      refine ⟨k - 1, by omega, i + 1, p104, n105, n106, ?_, by omega, gr2, le2⟩
      rw [wrap_succ (by omega)]
      congr 3
  · simp only [decide_eq_false_iff_not] at hi
    obtain rfl : i = N := by omega
    have hgl := gr.len
    have lf := l0.trans (le.trans (wo_le _ _))
    have s1 : sumBits (t.out 0).first i = (t.out 0).first := sumBits_all (by have := fn.first; rwa [Nat.zero_add, ← hN] at this)
    have s2 : sumBits (t.out 0).last i = (t.out 0).last := sumBits_all (by have := fn.last; rwa [Nat.zero_add, ← hN] at this)
    refine ⟨fun h6 => ⟨lf, ?_⟩, fun h6 => ⟨lf, ?_⟩⟩
    · rw [if_neg (by simpa using hm)]
      refine ⟨t, ht, hf, hp, ?_⟩
      simp only [gt_iff_lt, decide_eq_true_eq] at h6
      rw [← hN, ← hg, if_pos (by omega)]; rfl
    · rw [if_neg (by simpa using hm)]
      refine ⟨t, ht, hf, hp, ?_⟩
      simp only [gt_iff_lt, decide_eq_false_iff_not] at h6
      rw [← hN, ← hg, if_neg (by omega)]
      refine ⟨p60, n61, n62, p65, n66, n67, ?_, hpr.mono (le.trans (wo_le _ _)), ?_⟩
      · rw [s1, s2]; rfl
      · exact gr.rows (fun l x => x.mono l)
end Pt

