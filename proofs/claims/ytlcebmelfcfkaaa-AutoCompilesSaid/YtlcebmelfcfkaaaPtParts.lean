/- The parts of a pattern: what the program's functions hand back. -/
import Derived.Test.YtlcebmelfcfkaaaPtTree
namespace Pt
open Go Lf Pat
variable {h : H}

/-- A slice of slices of nodes. -/
def PartsR (h : H) (p : Option Addr) (n c : Nat) (ls : List (List Nd)) : Prop := RowsR (fun row l => ∃ q m k, row = [.slice q m k] ∧ NodesR h q m k l) h 1 p n c ls

theorem PartsR.mono {h h' : H} (l : Le h h') {p : Option Addr} {n c : Nat} {ls : List (List Nd)} (r : PartsR h p n c ls) : PartsR h' p n c ls :=
  RowsR.mono' l (fun _ _ ⟨q, m, k, e, x⟩ => ⟨q, m, k, e, x.mono l⟩) r

theorem PartsR.at {p : Option Addr} {n c : Nat} {ls : List (List Nd)} (r : PartsR h p n c ls) {i : Nat} {l : List Nd} (hi : ls[i]? = some l) {k : Int} (hk : k = (i : Int)) :
    ∃ a q m kk, p = some a ∧ (0 ≤ k ∧ k < (n : Int)) ∧ cell h ((aidx a 0 k 1).add 0) = some (.slice q m kk) ∧ NodesR h q m kk l := by
  subst hk
  obtain ⟨a, row, e, ⟨q, m, kk, rfl, x⟩, hc⟩ := r.2.2 i l hi
  have hlt := (List.getElem?_eq_some_iff.1 hi).1
  exact ⟨a, q, m, kk, e, ⟨by omega, by have := r.1; omega⟩, hc 0 _ rfl, x⟩

/-- Parts that are gathered: the nodes lie in h0. -/
def Gath (h0 h : H) (p : Option Addr) (n c : Nat) (ls : List (List Nd)) : Prop :=
  ∃ rows, ArrL h t_s_api_Node 1 p n c rows ∧ rows.length = ls.length ∧ ∀ (i : Nat) (l : List Nd), ls[i]? = some l → ∃ q m k, rows[i]? = some [.slice q m k] ∧ NodesR h0 q m k l

theorem Gath.toR {h0 : H} {p : Option Addr} {n c : Nat} {ls : List (List Nd)} (g : Gath h0 h p n c ls) (le : Le h0 h) : PartsR h p n c ls := by
  obtain ⟨rows, a, hl, hr⟩ := g
  refine ⟨by rw [a.hl, hl], a.le, fun i l hi => ?_⟩
  obtain ⟨q, m, k, h1, h2⟩ := hr i l hi
  obtain ⟨ad, e, hc⟩ := a.rows i _ h1
  exact ⟨ad, _, e, ⟨q, m, k, rfl, h2.mono le⟩, hc⟩

theorem toNat_succ {x : Int} (h1 : 0 ≤ x) (h2 : x < 2 ^ 62) : IntKind.i64.wrap (x + 1) = ((x.toNat + 1 : Nat) : Int) := by
  rw [wrap_i64_of (by omega) (by omega)]; omega

theorem c_tree_Parts {p : Option Addr} {n c : Nat} {l : List Nd} (r : NodesR h p n c l) (hn : n < 2 ^ 35) :
    Spec P n_tree_Parts #[.slice p n c] h (fun v h' => Le h h' ∧ ∃ q m k, v = .slice q m k ∧ PartsR h' q m k (parts l)) := by
  apply s_tree_Parts
  unfold f_tree_Parts
  have hl := r.1
  have bad : ∀ h', Le h h' → parts l = [] → Le h h' ∧ ∃ q m k, Value.slice none 0 0 = .slice q m k ∧ PartsR h' q m k (parts l) := fun h' le e =>
    ⟨le, _, _, _, rfl, by rw [e]; exact ⟨rfl, Nat.le_refl _, fun i x hi => by simp at hi⟩⟩
  cases l with
  | nil =>
    simp only [List.length_nil] at hl
    subst hl
    exact jBB ⟨fun _ => ⟨_, _, rfl, fun _ => bad _ (Le.refl _) rfl, fun h => by cases h⟩, fun h => by simp at h⟩
  | cons x xs =>
    simp only [List.length_cons] at hl
    obtain ⟨a, p1, n1, c1, p2, n2, c2, e1, hb, t1, t2, d0, d1, d2, d3, d4, d5, d6, d7, d8, d9, d10⟩ := r.at (i := 0) rfl rfl
    refine pBB (fun b _ h' => h' = h ∧ b = !decide (x.size = (xs.length : Int))) ⟨fun h1 => (by simp only [decide_eq_true_eq] at h1; omega), fun h1 => ⟨a, e1, hb, _, d10, _, _, rfl, rfl, ?_⟩⟩ ?_
    · rw [wrap_i64_of (by omega) (by omega), hl]
      congr 2
      simp only [eq_iff_iff]
      constructor <;> intro <;> omega
    rintro b _ h8 ⟨rfl, hbx⟩
    refine ⟨fun h1 => bad _ (Le.refl _) ?_, fun h1 => ⟨by omega, ?_⟩⟩
    · rw [h1] at hbx
      have hx : ¬ x.size = (xs.length : Int) := by simpa using hbx.symm
      simp only [parts, if_neg hx]
    rw [h1] at hbx
    have hx : x.size = (xs.length : Int) := by simpa using hbx.symm
    have hp : parts (x :: xs) = (partsGo xs.length xs).getD [] := by simp only [parts, if_pos hx]
    refine ⟨fun k L h' => ∃ (rest : List Nd) (p1 : Option Addr) (n1 c1 : Nat) (p2 : Option Addr) (n2 c2 : Nat) (p3 : Option Addr) (n3 c3 : Nat) (ls : List (List Nd)),
        L = [.slice p1 n1 c1, .slice p2 n2 c2, .slice p3 n3 c3] ∧ Le h8 h' ∧ k = rest.length ∧ n1 = rest.length ∧ rest.length ≤ xs.length ∧ ls.length + rest.length ≤ xs.length ∧ NodesR h8 p1 n1 c1 rest ∧ Gath h8 h' p2 n2 c2 ls ∧ NewIn h8 p2 ∧
        (∀ f, rest.length ≤ f → partsGo xs.length xs = (partsGo f rest).map (ls ++ ·)),
      ⟨xs.length, xs, _, _, _, none, 0, 0, none, 0, 0, [], rfl, Le.refl _, rfl, by simp; omega, Nat.le_refl _, by simp, ?_, ⟨[], ArrL.nilA _ _ _, rfl, fun i l hi => by simp at hi⟩, NewIn.none _, fun f hf => by simp [partsGo_fuel f hf]⟩, ?_⟩
    · have := RowsR.sub (l := 1) (hi := n) (m := c) r (by omega) (Nat.le_refl _) r.2.1
      simp only [List.drop_succ_cons, List.drop_zero] at this
      rw [List.take_of_length_le (by omega)] at this
      exact this
    rintro k p12 n13 n14 p15 n16 n17 p18 n19 n20 h21 ⟨rest, p1, n1, c1, p2, n2, c2, p3, n3, c3, ls, e, le, hk, hn1, hrl, hls, nr, g, nw, hpg⟩
    simp only [List.cons.injEq, Value.slice.injEq, and_true] at e
    obtain ⟨⟨rfl, rfl, rfl⟩, ⟨rfl, rfl, rfl⟩, ⟨rfl, rfl, rfl⟩⟩ := e
    subst hk
    refine ⟨fun hpos => ?_, fun hz => ⟨le, _, _, _, rfl, ?_⟩⟩
    · simp only [decide_eq_true_eq] at hpos
      cases rest with
      | nil => simp at hn1; omega
      | cons y ys =>
        simp only [List.length_cons] at hn1 hrl hls
        obtain ⟨a, p1, m1, c1, p2, m2, c2, e1, hb, t1, t2, d0, d1, d2, d3, d4, d5, d6, d7, d8, d9, d10⟩ := nr.at (i := 0) rfl rfl
        have hpg1 := hpg (ys.length + 1) (by simp)
        refine ⟨a, e1, hb, _, cell_le le d10, ?_⟩
        refine pBB (fun b _ h' => h' = h21 ∧ b = decide (y.size < 0 ∨ y.size ≥ ((y :: ys).length : Int))) ⟨fun h1 => ⟨_, _, rfl, rfl, by grind⟩, fun h1 => ⟨_, _, rfl, rfl, by grind⟩⟩ ?_
        rintro b _ h27 ⟨rfl, hbb⟩
        refine ⟨fun h1 => bad _ le ?_, fun h1 => ?_⟩
        · rw [h1] at hbb
          have : y.size < 0 ∨ y.size ≥ ((y :: ys).length : Int) := by simpa using hbb.symm
          rw [hp, hpg1]
          simp only [partsGo]
          rw [if_pos this]; rfl
        · rw [h1] at hbb
          have hin : ¬ (y.size < 0 ∨ y.size ≥ ((y :: ys).length : Int)) := by simpa using hbb.symm
          have hin' := hin
          simp only [List.length_cons] at hin
          have hs0 : 0 ≤ y.size := by omega
          rw [toNat_succ hs0 (by omega)]
          simp only [Int.toNat_natCast]
          refine ⟨⟨by omega, by have := nr.2.1; omega⟩, ⟨by omega, by omega⟩, ?_⟩
          obtain ⟨rows, ga, gl, gr⟩ := g
          refine RunL.append1 (cs := [_]) ef_s_api_Node (by have := ga.hl; omega) ga rfl (fun v hv => by rw [List.mem_singleton.1 hv]; rfl) fun h31 p' cap' ga' ka fr => ⟨_, _, _, rfl, ⟨by omega, by omega⟩, ?_⟩
          have l31 : Le h8 h31 := ka.leN le nw
          have hdl : ((y :: ys).drop (y.size.toNat + 1)).length = ys.length - y.size.toNat := by simp
          refine ⟨ys.length - y.size.toNat, by simp; omega, (y :: ys).drop (y.size.toNat + 1), _, _, _, _, _, _, _, _, _, ls ++ [(y :: ys).take (y.size.toNat + 1)], rfl, l31, hdl.symm, by rw [hdl]; omega, by rw [hdl]; omega, by rw [hdl]; simp; omega, ?_, ⟨_, ga', by simp [gl], fun i l hi => ?_⟩, ?_, fun f hf => ?_⟩
          · have := RowsR.sub (l := y.size.toNat + 1) (hi := n13) (m := n14) nr (by omega) (Nat.le_refl _) nr.2.1
            rw [List.take_of_length_le (by rw [hdl]; omega)] at this
            exact this
          · rcases Nat.lt_or_ge i ls.length with h2 | h2
            · rw [List.getElem?_append_left h2] at hi
              rw [List.getElem?_append_left (by omega)]
              exact gr i l hi
            · rw [List.getElem?_append_right h2] at hi
              have hi0 : i - ls.length = 0 := by
                have := (List.getElem?_eq_some_iff.1 hi).1
                simpa using this
              rw [hi0] at hi
              simp only [List.getElem?_cons_zero, Option.some.injEq] at hi
              subst hi
              refine ⟨_, _, _, by rw [List.getElem?_append_right (by omega), gl, hi0]; rfl, ?_⟩
              have := RowsR.sub (l := 0) (hi := y.size.toNat + 1) (m := y.size.toNat + 1) nr (by omega) (by omega) (Nat.le_refl _)
              unfold NodesR; simpa using this
          · intro A off sp e
            rcases fr A off sp e with h2 | h2
            · exact nw A off sp h2
            · cases hA : h8 A with
              | none => rfl
              | some o => rw [le A o hA] at h2; cases h2
          · rw [hpg (ys.length + 1) (by simp)]
            simp only [partsGo]
            rw [if_neg hin', partsGo_fuel2 _ f (by rw [hdl]; omega) hf]
            cases partsGo f ((y :: ys).drop (y.size.toNat + 1)) <;> simp
    · simp only [decide_eq_false_iff_not] at hz
      have : rest = [] := List.length_eq_zero_iff.1 (by omega)
      subst this
      rw [hp, hpg 0 (by simp)]
      simp only [partsGo, Option.map_some, List.append_nil, Option.getD_some]
      exact g.toR le
end Pt

