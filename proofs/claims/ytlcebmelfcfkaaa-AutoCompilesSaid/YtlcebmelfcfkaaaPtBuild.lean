/- The document's trees: what its functions hand back. -/
import Derived.Test.YtlcebmelfcfkaaaPtRef
namespace Pt
open Go Lf Pat
variable {h : H}

theorem bld_nil {f : Nat} : bld f [] = none := rfl

/-- What is left of a tree's parts, and what there is of them. -/
theorem bld_step {f : Nat} {rest : List Nd} {z : Nd} {zs : List Nd} (e : rest = z :: zs) {g : Nat} (hg : rest.length ≤ g) :
    (bld f rest = none → (partsGo g rest).bind (fun ps => ps.mapM (tree f)) = none) ∧
    (∀ t, bld f rest = some t → 0 ≤ z.size ∧ z.size ≤ (zs.length : Int) ∧ ∀ g', zs.length - z.size.toNat ≤ g' →
      (partsGo g rest).bind (fun ps => ps.mapM (tree f)) = ((partsGo g' (zs.drop z.size.toNat)).bind (fun ps => ps.mapM (tree f))).map (t :: ·)) := by
  subst e
  obtain ⟨g, rfl⟩ : ∃ k, g = k + 1 := ⟨g - 1, by simp at hg; omega⟩
  simp only [List.length_cons] at hg
  simp only [bld, partsGo]
  by_cases hc : z.size < 0 ∨ z.size > (zs.length : Int)
  · have hc' : z.size < 0 ∨ z.size ≥ ((z :: zs).length : Int) := by simp only [List.length_cons]; omega
    rw [if_pos hc, if_pos hc']
    exact ⟨fun _ => rfl, fun t ht => by cases ht⟩
  · have hc' : ¬ (z.size < 0 ∨ z.size ≥ ((z :: zs).length : Int)) := by simp only [List.length_cons]; omega
    rw [if_neg hc, if_neg hc']
    have hd : (z :: zs).drop (z.size.toNat + 1) = zs.drop z.size.toNat := rfl
    have ht : (z :: zs).take (z.size.toNat + 1) = z :: zs.take z.size.toNat := rfl
    rw [hd, ht]
    refine ⟨fun hn => ?_, fun t hs => ⟨by omega, by omega, fun g' hg' => ?_⟩⟩
    · cases partsGo g (zs.drop z.size.toNat) with
      | none => rfl
      | some ps => simp only [Option.map_some, Option.bind_some, List.mapM_cons, hn]; rfl
    · rw [partsGo_fuel2 g g' (by simp; omega) (by simp; omega)]
      cases partsGo g' (zs.drop z.size.toNat) with
      | none => rfl
      | some ps =>
        simp only [Option.map_some, Option.bind_some, List.mapM_cons, hs]
        cases ps.mapM (tree f) <;> rfl

theorem drop_cons {α : Type} {xs : List α} {i : Nat} {y : α} (h : xs[i]? = some y) : xs.drop i = y :: xs.drop (i + 1) := by
  obtain ⟨hlt, rfl⟩ := List.getElem?_eq_some_iff.1 h
  exact List.drop_eq_getElem_cons hlt

abbrev zeroRow : List Value := [.int .u8 0, .bool false, .int .u8 0, .slice none 0 0, .bool false, .bool false, .int .u8 0, .slice none 0 0, .int .u8 0, .int .u8 0, .int .i64 0, .slice none 0 0]

/-- What building hands back. -/
def Built (h h' : H) (f at_ : Nat) (seg : List Nd) (v : Value) : Prop :=
  Le h h' ∧ ∃ (row : List Value) (nx : Int) (ok : Bool), v = .tuple #[tV row, .int .i64 nx, .bool ok] ∧ (∃ x p1 n1 c1 p2 n2 c2 p n c, row = treeRow x p1 n1 c1 p2 n2 c2 p n c) ∧
    (bld f seg = none → ok = false) ∧ (∀ t, bld f seg = some t → ok = true ∧ nx = (at_ : Int) + 1 + t.node.size ∧ TR h' row t)

theorem built_bad {h h' : H} (le : Le h h') {f at_ : Nat} {seg : List Nd} (hb : bld f seg = none) : Built h h' f at_ seg (.tuple #[tV zeroRow, .int .i64 0, .bool false]) :=
  ⟨le, _, _, _, rfl, ⟨⟨0, ⟨false, 0, []⟩, false, ⟨false, 0, []⟩, 0, 0, 0⟩, none, 0, 0, none, 0, 0, none, 0, 0, rfl⟩, fun _ => rfl, fun t ht => by rw [hb] at ht; cases ht⟩

set_option maxRecDepth 20000 in
theorem c_ref11_build : ∀ (f : Nat) {h : H} {p : Option Addr} {n c : Nat} {xs : List Nd} (at_ end_ : Nat), NodesR h p n c xs → n < 2 ^ 35 → end_ ≤ n → end_ - at_ ≤ f →
    Spec P n_ref11_build #[.slice p n c, .int .i64 at_, .int .i64 end_] h (fun v h' => Built h h' f at_ ((xs.drop at_).take (end_ - at_)) v)
  | f, h, p, n, c, xs, at_, end_, r, hn, he, hf => by
    apply s_ref11_build
    unfold f_ref11_build
    have hl := r.1
    refine ⟨fun h1 => ?_, fun h1 => ?_⟩
    · simp only [decide_eq_true_eq] at h1
      refine built_bad (Le.refl _) ?_
      rw [show end_ - at_ = 0 by omega]
      simp [bld]
    simp only [decide_eq_false_iff_not] at h1
    have hlt : at_ < end_ := by omega
    obtain ⟨y, hy, _⟩ := get_lt (l := xs) (i := at_) (by omega)
    obtain ⟨f, rfl⟩ : ∃ k, f = k + 1 := ⟨f - 1, by omega⟩
    obtain ⟨a, p1, n1, c1, p2, n2, c2, e1, hb, t1, t2, d0, d1, d2, d3, d4, d5, d6, d7, d8, d9, d10⟩ := r.at hy rfl
    have hseg : (xs.drop at_).take (end_ - at_) = y :: (xs.drop (at_ + 1)).take (end_ - at_ - 1) := by
      rw [drop_cons hy, show end_ - at_ = (end_ - at_ - 1) + 1 by omega]; rfl
    rw [hseg]
    have hsl : ((xs.drop (at_ + 1)).take (end_ - at_ - 1)).length = end_ - at_ - 1 := by simp; omega
    refine ⟨a, e1, hb, _, d0, _, d1, _, d2, _, _, _, d3, _, d4, _, d5, _, d6, _, _, _, d7, _, d8, _, d9, _, d10, a, e1, hb, _, d10, ?_⟩
    refine pBB (fun b _ h' => h' = h ∧ b = decide (y.size < 0 ∨ y.size > ((end_ - at_ - 1 : Nat) : Int))) ⟨fun h2 => ⟨_, _, rfl, rfl, by grind⟩, fun h2 => ⟨_, _, rfl, rfl, ?_⟩⟩ ?_
    · rw [wrap_i64_of (n := (end_ : Int) - at_) (by omega) (by omega), wrap_i64_of (by omega) (by omega)]
      simp only [decide_eq_false_iff_not] at h2
      congr 1
      simp only [eq_iff_iff]
      constructor <;> intro <;> omega
    rintro b _ h26 ⟨rfl, eb⟩
    refine ⟨fun h2 => built_bad (Le.refl _) ?_, fun h2 => ?_⟩
    · rw [h2] at eb
      have : y.size < 0 ∨ y.size > ((end_ - at_ - 1 : Nat) : Int) := by simpa using eb.symm
      simp only [bld, hsl]
      rw [if_pos this]
    rw [h2] at eb
    have hsz : ¬ (y.size < 0 ∨ y.size > ((end_ - at_ - 1 : Nat) : Int)) := by simpa using eb.symm
    obtain ⟨s, hs⟩ : ∃ s : Nat, y.size = (s : Int) := ⟨y.size.toNat, by omega⟩
    rw [hs] at hsz
    have w1 : IntKind.i64.wrap ((at_ : Int) + 1) = ((at_ + 1 : Nat) : Int) := by rw [wrap_i64_of (by omega) (by omega)]; rfl
    have w2 : IntKind.i64.wrap (((at_ + 1 : Nat) : Int) + y.size) = ((at_ + 1 + s : Nat) : Int) := by rw [hs, wrap_i64_of (by omega) (by omega)]; rfl
    rw [w1, w2]
    -- the parts
    have hC : (xs.drop (at_ + 1)).take s = ((xs.drop (at_ + 1)).take (end_ - at_ - 1)).take s := by rw [List.take_take, show min s (end_ - at_ - 1) = s by omega]
    have hbld : bld (f + 1) (y :: (xs.drop (at_ + 1)).take (end_ - at_ - 1)) = ((partsGo s ((xs.drop (at_ + 1)).take s)).bind fun ps => ps.mapM (tree f)).map (T.mk y) := by
      simp only [bld, hsl]
      rw [hs, if_neg hsz]
      simp only [Int.toNat_natCast, ← hC, tree]
      have hl2 : ((xs.drop (at_ + 1)).take s).length = s := by simp; omega
      rw [hl2, if_pos hs]
      cases partsGo s ((xs.drop (at_ + 1)).take s) <;> rfl
    refine ⟨fun k L h' => ∃ (i : Nat) (b2 : Bool) (x3 : Int) (q : Option Addr) (m cc : Nat) (junk : List Value) (ts : List T), L = [.int .i64 (at_ + 1 + i : Nat), .bool b2, .int .i64 x3, tV (treeRow y p1 n1 c1 p2 n2 c2 q m cc), tV junk] ∧ i ≤ s ∧ k + i = s ∧ ts.length ≤ i ∧
        (∃ x p1 n1 c1 p2 n2 c2 p n c, junk = treeRow x p1 n1 c1 p2 n2 c2 p n c) ∧ Le h26 (wo h' q) ∧ GathR TR h' t_equerryref11_T 12 q m cc ts ∧
        ((partsGo s ((xs.drop (at_ + 1)).take s)).bind fun ps => ps.mapM (tree f)) = (((partsGo (s - i) ((xs.drop (at_ + 1 + i)).take (s - i))).bind fun ps => ps.mapM (tree f)).map (ts ++ ·)),
      ⟨s, 0, _, _, none, 0, 0, zeroRow, [], rfl, Nat.zero_le _, rfl, Nat.le_refl _, ⟨⟨0, ⟨false, 0, []⟩, false, ⟨false, 0, []⟩, 0, 0, 0⟩, none, 0, 0, none, 0, 0, none, 0, 0, rfl⟩, by rw [wo_nil]; exact Le.refl _, GathR.nil _ _ _ _, by simp⟩, ?_⟩
    rintro k x30 b31 x32 x33 b34 x35 p36 n37 n38 b39 b40 x41 p42 n43 n44 x45 x46 x47 p48 n49 n50 x51 b52 x53 p54 n55 n56 b57 b58 x59 p60 n61 n62 x63 x64 x65 p66 n67 n68 h69 ⟨i, b2, x3, q, m, cc, junk, ts, e, hi, hk, hts, hj, le, g, hpg⟩
    simp only [List.cons.injEq, Value.int.injEq, Value.bool.injEq, Value.agg.injEq, Array.mk.injEq, List.toArray_inj, Value.slice.injEq, true_and, and_true] at e
    obtain ⟨rfl, rfl, rfl, ⟨rfl, rfl, rfl, ⟨rfl, rfl, rfl⟩, rfl, rfl, rfl, ⟨rfl, rfl, rfl⟩, rfl, rfl, rfl, ⟨rfl, rfl, rfl⟩⟩, rfl⟩ := e
    have le69 : Le h26 h69 := le.trans (wo_le _ _)
    refine ⟨fun hlt2 => ?_, fun hge => ?_⟩
    · simp only [decide_eq_true_eq] at hlt2
      have hsub : (at_ + 1 + s) - (at_ + 1 + i) = s - i := by omega
      refine ((c_ref11_build f (at_ + 1 + i) (at_ + 1 + s) (r.mono le) hn (by omega) (by omega)).beside g.has).mono fun v h71 hB => ?_
      obtain ⟨⟨l71, row, nx, ok, ev, ⟨ux, u1, u2, u3, u4, u5, u6, u7, u8, u9, rfl⟩, hno, hyes⟩, same⟩ := hB
      refine ⟨_, _, _, _, _, _, _, _, _, _, _, _, _, _, _, _, _, _, _, _, ev, ?_⟩
      rw [hsub] at hno hyes
      obtain ⟨z, hz, _⟩ := get_lt (l := xs) (i := at_ + 1 + i) (by omega)
      have hrest : (xs.drop (at_ + 1 + i)).take (s - i) = z :: (xs.drop (at_ + 1 + i + 1)).take (s - i - 1) := by
        rw [drop_cons hz, show s - i = (s - i - 1) + 1 by omega]; rfl
      have hrl : ((xs.drop (at_ + 1 + i)).take (s - i)).length = s - i := by simp; omega
      have hstep := bld_step (f := f) hrest (g := s - i) (by rw [hrl]; exact Nat.le_refl _)
      have hzl : ((xs.drop (at_ + 1 + i + 1)).take (s - i - 1)).length = s - i - 1 := by simp; omega
      refine ⟨fun hbad => ?_, fun hok => ?_⟩
      · refine built_bad (le.trans (l71.trans (wo_le _ _))) ?_
        have hb : bld f ((xs.drop (at_ + 1 + i)).take (s - i)) = none := by
          cases hb : bld f ((xs.drop (at_ + 1 + i)).take (s - i)) with
          | none => rfl
          | some t => have := (hyes t hb).1; rw [this] at hbad; cases hbad
        rw [hbld, hpg, hstep.1 hb]; rfl
      · cases hb : bld f ((xs.drop (at_ + 1 + i)).take (s - i)) with
        | none => rw [hno hb] at hok; cases hok
        | some t =>
          obtain ⟨_, hnx, hTR⟩ := hyes t hb
          obtain ⟨z0, z1, hz2⟩ := hstep.2 t hb
          rw [hzl] at z1 hz2
          have hzn : t.node = z := by
            rw [hrest] at hb
            simp only [bld] at hb
            split at hb
            · cases hb
            · cases f with
              | zero => simp [tree] at hb
              | succ f =>
                obtain ⟨x', r', hx', _, hnode, _⟩ := tree_parts hb
                simp only [List.cons.injEq] at hx'
                rw [hnode, hx'.1]
          obtain ⟨w, hw⟩ : ∃ w : Nat, z.size = (w : Int) := ⟨z.size.toNat, by omega⟩
          rw [hw] at z1
          have g71 : GathR TR h71 t_equerryref11_T 12 p48 n49 n50 ts := g.beside (fun l x => x.mono l) same l71
          have hlen := g71.len
          refine GathR.push (fun l x => x.mono l) ef_equerryref11_T g71 (by omega) hTR rfl (fun v hv => ?_) fun h95 p' c' g95 l95 => ⟨_, _, _, rfl, ?_⟩
          · simp only [treeRow, List.mem_cons, List.not_mem_nil, or_false] at hv
            rcases hv with rfl | rfl | rfl | rfl | rfl | rfl | rfl | rfl | rfl | rfl | rfl | rfl <;> rfl
          refine ⟨s - (i + 1 + w), by omega, i + 1 + w, b31, x32, _, _, _, _, ts ++ [t], ?_, by omega, by omega, by simp; omega, hj, le.trans (l71.trans l95), g95, ?_⟩
          · rw [hnx, hzn, hw]
            congr 2
            omega
          · rw [hpg, hz2 (s - (i + 1 + w)) (by rw [hw]; simp; omega)]
            rw [hw, Int.toNat_natCast, List.drop_take, List.drop_drop]
            have e3 : s - i - 1 - w = s - (i + 1 + w) := by omega
            have e4 : at_ + 1 + i + 1 + w = at_ + 1 + (i + 1 + w) := by omega
            rw [e3, e4]
            cases (partsGo (s - (i + 1 + w)) ((xs.drop (at_ + 1 + (i + 1 + w))).take (s - (i + 1 + w)))).bind fun ps => ps.mapM (tree f) <;> simp
    · simp only [decide_eq_false_iff_not] at hge
      have : i = s := by omega
      subst this
      have hfin : bld (f + 1) (y :: (xs.drop (at_ + 1)).take (end_ - at_ - 1)) = some (T.mk y ts) := by
        rw [hbld, hpg]; simp [partsGo]
      refine ⟨le69, _, _, _, rfl, ⟨_, _, _, _, _, _, _, _, _, _, rfl⟩, fun hno => (by rw [hfin] at hno; cases hno), fun t ht => ?_⟩
      rw [hfin] at ht; cases ht
      refine ⟨rfl, by simp only [T.node, hs]; omega, TR.of (t1.mono le69) (t2.mono le69) (g.rows (fun l x => x.mono l))⟩
end Pt

