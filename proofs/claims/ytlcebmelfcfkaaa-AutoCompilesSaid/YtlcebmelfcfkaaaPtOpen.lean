/- What is handed in, opened: a pattern by its values' bits. -/
import Derived.Test.YtlcebmelfcfkaaaPtRaw
import Derived.Deep.Slices
namespace Pt
open Go Go.ChangeShapes Go.WideShapes Lf Pat

/-- The whole heap, seen. -/
def seen (W : World) : H := fun b => W.heap[b]?
theorem seen_sub (W : World) : Lf.Sub (seen W) W := fun _ _ h => h
theorem seen_cell {W : World} {a : Addr} {v : Value} (h : W.cell? a = some v) : cell (seen W) a = some v := by
  unfold Lf.cell seen
  unfold World.cell? at h
  exact h

theorem list_of {α : Type} {Q : Nat → α → Prop} : ∀ {n : Nat}, (∀ i, i < n → ∃ x, Q i x) → ∃ l : List α, l.length = n ∧ ∀ (i : Nat) (x : α), l[i]? = some x → Q i x
  | 0, _ => ⟨[], rfl, fun i x h => by simp at h⟩
  | n + 1, h => by
    obtain ⟨l, hl, hq⟩ := list_of (n := n) fun i hi => h i (by omega)
    obtain ⟨x, hx⟩ := h n (by omega)
    refine ⟨l ++ [x], by simp [hl], fun i y hy => ?_⟩
    rcases Nat.lt_or_ge i l.length with h1 | h1
    · rw [List.getElem?_append_left h1] at hy; exact hq i y hy
    · rw [List.getElem?_append_right h1] at hy
      have h0 : i - l.length = 0 := by
        have := (List.getElem?_eq_some_iff.1 hy).1
        simpa using this
      rw [h0] at hy
      simp only [List.getElem?_cons_zero, Option.some.injEq] at hy
      subst hy
      rw [show i = n by omega]; exact hx

section
variable {HH : Type} {enc : TypeId × Value → HH} {W : World} {base : Nat} {spare : Nat → Bool} {held : Bool}

/-- These cells read as a value of the type. -/
def Rd (enc : TypeId × Value → HH) (W : World) (base : Nat) (spare : Nat → Bool) (held : Bool) (t : TypeId) (cs : List Value) : Prop := ∃ fuel x, DataW.trod enc P W base spare held fuel t cs = some x

/-- A struct's fields: type, first cell, cells. -/
noncomputable def shape (t : TypeId) : List (TypeId × Nat × Nat) := match P.underlying t with
  | some (.struct fs) => fs.toList.map fun f => (f.type, f.offset, P.cellsOf f.type)
  | _ => []

theorem rd_struct {t : TypeId} {cs : List Value} (h : Rd enc W base spare held t cs) (hne : shape t ≠ []) : ∀ u o k, (u, o, k) ∈ shape t → Rd enc W base spare held u ((cs.drop o).take k) := by
  intro u o k hm
  unfold shape at hm hne
  split at hm
  · rename_i fs hfs
    obtain ⟨fuel, x, hx⟩ := h
    obtain ⟨xs, n, _, _, _, hlen, hf⟩ := DataW.trod_struct hfs hx
    obtain ⟨f, hfm, e⟩ := List.mem_map.1 hm
    simp only [Prod.mk.injEq] at e
    obtain ⟨rfl, rfl, rfl⟩ := e
    obtain ⟨i, hi, rfl⟩ := List.getElem_of_mem hfm
    have hi' : i < fs.size := by simpa using hi
    have := hf i fs[i] (by simp [hi'])
    rw [List.getElem?_eq_getElem (by omega)] at this
    exact ⟨n, _, by simpa using this⟩
  · cases hm

theorem rd_int {t : TypeId} {k : IntKind} {cs : List Value} (ht : P.underlying t = some (.int k)) (h : Rd enc W base spare held t cs) : ∃ n, cs = [.int k n] ∧ (Lit.int k n).wf = true := by
  obtain ⟨fuel, x, hx⟩ := h
  obtain ⟨n, e, _, w⟩ := DataW.trod_int ht hx
  exact ⟨n, e, w⟩
theorem rd_bool {t : TypeId} {cs : List Value} (ht : P.underlying t = some .bool) (h : Rd enc W base spare held t cs) : ∃ b, cs = [.bool b] := by
  obtain ⟨fuel, x, hx⟩ := h
  obtain ⟨b, e, _⟩ := DataW.trod_bool ht hx
  exact ⟨b, e⟩
theorem rd_string {t : TypeId} {cs : List Value} (ht : P.underlying t = some .string) (h : Rd enc W base spare held t cs) : ∃ s, cs = [.string s] := by
  obtain ⟨fuel, x, hx⟩ := h
  obtain ⟨s, e, _⟩ := DataW.trod_string ht hx
  exact ⟨s, e⟩

theorem rd_slice {t e : TypeId} {k : Nat} {cs : List Value} (ht : P.underlying t = some (.slice e)) (hk : P.cellsOf e = k) (h : Rd enc W base spare held t cs) :
    ∃ p len cap, cs = [.slice p len cap] ∧ len ≤ cap ∧ len < 2 ^ 63 ∧ ∀ i, i < len → ∃ a cs', p = some a ∧ cs'.length = k ∧ Rd enc W base spare held e cs' ∧ ∀ (j : Nat) (v : Value), cs'[j]? = some v → cell (seen W) ((aidx a 0 (i : Int) k).add j) = some v := by
  obtain ⟨fuel, x, hx⟩ := h
  rcases Go.Deep.open_slice ht hx with ⟨rfl, _⟩ | ⟨a, len, cap, m, n, D, Pl, rfl, _, hl, hm, hmm, _, hel⟩
  · exact ⟨none, 0, 0, rfl, Nat.le_refl _, by decide, fun i hi => by omega⟩
  · refine ⟨some a, len, cap, rfl, hl, ?_, fun i hi => ?_⟩
    · have : maxLen = 2 ^ 63 - 1 := rfl
      omega
    · obtain ⟨cs', h1, h2⟩ := hel i (by subst hmm; split <;> omega)
      rw [hk] at h1
      obtain ⟨_, hlen, hc⟩ := World.cells?_some h1
      refine ⟨a, cs', rfl, hlen, ⟨n, _, h2⟩, fun j v hj => ?_⟩
      have hlt : j < k := by rw [← hlen]; exact (List.getElem?_eq_some_iff.1 hj).1
      have e : (aidx a 0 (i : Int) k).add j = (a.add (i * k)).add j := by unfold aidx; simp [Addr_add_zero]
      rw [e]
      refine seen_cell ?_
      rw [hc j hlt]; exact hj

theorem u_u8 : P.underlying 5 = some (.int .u8) := by kernel_rfl
theorem u_bool : P.underlying 4 = some .bool := by kernel_rfl
theorem u_int : P.underlying 3 = some (.int .i64) := by kernel_rfl
theorem u_u64 : P.underlying 23 = some (.int .u64) := by kernel_rfl
theorem u_str : P.underlying 9 = some .string := by kernel_rfl
theorem u_i64 : P.underlying 2 = some (.int .i64) := by kernel_rfl
theorem sh_val : shape 95 = [(5, 0, 1), (2, 1, 1), (23, 2, 1), (9, 3, 1)] := by kernel_rfl
theorem sh_test : shape 97 = [(5, 0, 1), (5, 1, 1), (95, 2, 4)] := by kernel_rfl
theorem sh_pred : shape 60 = [(4, 0, 1), (5, 1, 1), (58, 2, 1)] := by kernel_rfl
theorem sh_node : shape 62 = [(5, 0, 1), (60, 1, 3), (4, 4, 1), (60, 5, 3), (5, 8, 1), (5, 9, 1), (3, 10, 1)] := by kernel_rfl
theorem sh_raw : shape 25 = [(22, 0, 1), (23, 1, 1)] := by kernel_rfl
theorem u_tests : P.underlying 58 = some (.slice 97) := by kernel_rfl
theorem u_nodes : P.underlying 22 = some (.slice 62) := by kernel_rfl
theorem c_test : P.cellsOf 97 = 6 := by kernel_rfl
theorem c_node : P.cellsOf 62 = 11 := by kernel_rfl

theorem rd_test {cs : List Value} (hl : cs.length = 6) (h : Rd enc W base spare held 97 cs) : ∃ t : Tst, cs = t.renc := by
  have hf := rd_struct h (by rw [sh_test]; simp)
  rw [sh_test] at hf
  obtain ⟨f, ef, _⟩ := rd_int u_u8 (hf _ _ _ (by simp : (5, 0, 1) ∈ _))
  obtain ⟨o, eo, _⟩ := rd_int u_u8 (hf _ _ _ (by simp : (5, 1, 1) ∈ _))
  have hv := rd_struct (hf _ _ _ (by simp : (95, 2, 4) ∈ _)) (by rw [sh_val]; simp)
  rw [sh_val] at hv
  obtain ⟨k, ek, _⟩ := rd_int u_u8 (hv _ _ _ (by simp : (5, 0, 1) ∈ _))
  obtain ⟨n, en, _⟩ := rd_int u_i64 (hv _ _ _ (by simp : (2, 1, 1) ∈ _))
  obtain ⟨b, eb, wb⟩ := rd_int u_u64 (hv _ _ _ (by simp : (23, 2, 1) ∈ _))
  obtain ⟨s, es⟩ := rd_string u_str (hv _ _ _ (by simp : (9, 3, 1) ∈ _))
  match cs, hl with
  | [c0, c1, c2, c3, c4, c5], _ =>
    simp at ef eo ek en eb es
    subst ef eo ek en eb es
    have hb : 0 ≤ b := by
      simp only [Lit.wf, Bool.and_eq_true, decide_eq_true_eq] at wb
      have h0 : IntKind.u64.min = 0 := rfl
      omega
    exact ⟨⟨f, o, ⟨k, n, b.toNat, s⟩⟩, by simp only [Tst.renc]; rw [Int.toNat_of_nonneg hb]⟩

theorem rd_tests {cs : List Value} (h : Rd enc W base spare held 58 cs) : ∃ p n c ts, cs = [.slice p n c] ∧ RTestsR (seen W) p n c ts ∧ ts.length < 2 ^ 63 := by
  obtain ⟨p, n, c, rfl, hl, hm, hel⟩ := rd_slice u_tests c_test h
  obtain ⟨ts, htl, hts⟩ := list_of (Q := fun i (t : Tst) => ∃ a, p = some a ∧ ∀ (j : Nat) (v : Value), t.renc[j]? = some v → cell (seen W) ((aidx a 0 (i : Int) 6).add j) = some v) (n := n) fun i hi => by
    obtain ⟨a, cs', ea, hlen, hr, hc⟩ := hel i hi
    obtain ⟨t, rfl⟩ := rd_test hlen hr
    exact ⟨t, a, ea, hc⟩
  refine ⟨p, n, c, ts, rfl, ⟨htl.symm, hl, fun i r hi => ?_⟩, by omega⟩
  rw [List.getElem?_map] at hi
  obtain ⟨t, ht, rfl⟩ := Option.map_eq_some_iff.1 hi
  exact hts i t ht

theorem rd_pred {cs : List Value} (hl : cs.length = 3) (h : Rd enc W base spare held 60 cs) : ∃ (q : Prd) (p : Option Addr) (n c : Nat), cs = [.bool q.any, .int .u8 q.topic, .slice p n c] ∧ RTestsR (seen W) p n c q.tests ∧ q.tests.length < 2 ^ 63 := by
  have hf := rd_struct h (by rw [sh_pred]; simp)
  rw [sh_pred] at hf
  obtain ⟨a, ea⟩ := rd_bool u_bool (hf _ _ _ (by simp : (4, 0, 1) ∈ _))
  obtain ⟨o, eo, _⟩ := rd_int u_u8 (hf _ _ _ (by simp : (5, 1, 1) ∈ _))
  obtain ⟨p, n, c, ts, et, r, b⟩ := rd_tests (hf _ _ _ (by simp : (58, 2, 1) ∈ _))
  match cs, hl with
  | [c0, c1, c2], _ =>
    simp at ea eo et
    subst ea eo et
    exact ⟨⟨a, o, ts⟩, p, n, c, rfl, r, b⟩

theorem rd_node {cs : List Value} (hl : cs.length = 11) (h : Rd enc W base spare held 62 cs) : ∃ x : Nd, RNodeR (seen W) cs x ∧ x.pred.tests.length < 2 ^ 63 ∧ x.guard.tests.length < 2 ^ 63 := by
  have hf := rd_struct h (by rw [sh_node]; simp)
  rw [sh_node] at hf
  obtain ⟨k, ek, _⟩ := rd_int u_u8 (hf _ _ _ (by simp : (5, 0, 1) ∈ _))
  obtain ⟨g, eg⟩ := rd_bool u_bool (hf _ _ _ (by simp : (4, 4, 1) ∈ _))
  obtain ⟨lo, el, _⟩ := rd_int u_u8 (hf _ _ _ (by simp : (5, 8, 1) ∈ _))
  obtain ⟨hi, eh, _⟩ := rd_int u_u8 (hf _ _ _ (by simp : (5, 9, 1) ∈ _))
  obtain ⟨sz, es, _⟩ := rd_int u_int (hf _ _ _ (by simp : (3, 10, 1) ∈ _))
  have hp := hf _ _ _ (by simp : (60, 1, 3) ∈ _)
  have hg := hf _ _ _ (by simp : (60, 5, 3) ∈ _)
  match cs, hl with
  | [c0, c1, c2, c3, c4, c5, c6, c7, c8, c9, c10], _ =>
    obtain ⟨q1, p1, n1, m1, e1, r1, b1⟩ := rd_pred (by simp) hp
    obtain ⟨q2, p2, n2, m2, e2, r2, b2⟩ := rd_pred (by simp) hg
    simp at ek eg el eh es e1 e2
    obtain ⟨rfl, rfl, rfl⟩ := e1
    obtain ⟨rfl, rfl, rfl⟩ := e2
    subst ek eg el eh es
    exact ⟨⟨k, q1, g, q2, lo, hi, sz⟩, ⟨p1, n1, m1, p2, n2, m2, rfl, r1, r2⟩, b1, b2⟩

theorem rd_raw {cs : List Value} (hl : cs.length = 2) (h : Rd enc W base spare held 25 cs) : ∃ (q : Ptn) (p : Option Addr) (n c : Nat), cs = [.slice p n c, .int .u64 q.window] ∧ RNodesR (seen W) p n c q.nodes ∧ q.Fits ∧ (Lit.int .u64 q.window).wf = true := by
  have hf := rd_struct h (by rw [sh_raw]; simp)
  rw [sh_raw] at hf
  obtain ⟨p, n, c, en, hlc, hm, hel⟩ := rd_slice u_nodes c_node (hf _ _ _ (by simp : (22, 0, 1) ∈ _))
  obtain ⟨w, ew, ww⟩ := rd_int u_u64 (hf _ _ _ (by simp : (23, 1, 1) ∈ _))
  obtain ⟨xs, hxl, hxs⟩ := list_of (Q := fun i (x : Nd) => (∃ a row, p = some a ∧ RNodeR (seen W) row x ∧ ∀ (j : Nat) (v : Value), row[j]? = some v → cell (seen W) ((aidx a 0 (i : Int) 11).add j) = some v) ∧ x.pred.tests.length < 2 ^ 63 ∧ x.guard.tests.length < 2 ^ 63) (n := n) fun i hi => by
    obtain ⟨a, cs', ea, hlen, hr, hc⟩ := hel i hi
    obtain ⟨x, rx, b1, b2⟩ := rd_node hlen hr
    exact ⟨x, ⟨a, cs', ea, rx, hc⟩, b1, b2⟩
  match cs, hl with
  | [c0, c1], _ =>
    simp at en ew
    subst en ew
    refine ⟨⟨xs, w⟩, p, n, c, rfl, ⟨hxl.symm, hlc, fun i x hx => (hxs i x hx).1⟩, ⟨by simp only; omega, fun x hx => ?_⟩, ww⟩
    obtain ⟨i, hi, rfl⟩ := List.getElem_of_mem hx
    exact (hxs i xs[i] (List.getElem?_eq_getElem hi)).2
end
end Pt

