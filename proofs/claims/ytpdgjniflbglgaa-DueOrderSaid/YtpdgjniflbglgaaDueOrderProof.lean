/- DueOrder: whatever the input, the law hands back true and what is handed in reads as it did. -/
import Derived.Test.YtpdgjniflbglgaaRows
import Derived.ProofKit
import Derived.Test.YtpdgjniflbglgaaDueOrder
namespace Go.Proofs.Ytpdgjniflbglgaa
open Go.ChangeShapes Go.WideShapes Go.ChangeAt Go.RowKit

theorem Try.own : ownKnob Try.prog.godebug = none := by kernel_rfl
theorem Try.laidOut : laidOutB Try.prog = true := by kernel_rfl

/-- The whole heap, seen. -/
def seen (W : World) : Lf.H := fun b => W.heap[b]?

theorem seen_sub (W : World) : Lf.Sub (seen W) W := fun _ _ h => h

theorem below_of {W W' : World} {h' : Lf.H} (s : Lf.Sub h' W') (f : Lf.Frame (seen W) W h' W') (l : Lf.Le (seen W) h') : Below W.heap.size W W' :=
  ⟨f.out.os, f.out.tape, f.out.output, f.size, fun k hk => by
    have e : seen W k = some W.heap[k] := by simp [seen, hk]
    rw [s k _ (l k _ e)]
    exact e.symm⟩

theorem seen_cell {W : World} {a : Addr} {v : Value} (h : W.cell? a = some v) : Lf.cell (seen W) a = some v := by
  unfold Lf.cell seen
  unfold World.cell? at h
  exact h

theorem cells23 : Try.prog.cellsOf 23 = 1 := by kernel_rfl

set_option maxRecDepth 100000 in
theorem order_lifted (os : Os) (started : os.Started) (H : Type) (enc : TypeId × Value → H) :
    ReturnsInHanded {} Try.checked os 3 .any (Rows.dueOrderSpec.pre6 enc Try.prog Try.f3 Rows.dueOrderRow.domain false) (Rows.dueOrderSpec.post enc Try.prog Try.f3 false true false false) := by
  refine returnsInHanded_of_change (C := Try.checked) Try.own started (by kernel_rfl) Try.func3
    (ChangeSpec.witness6 (enc := enc) (C := Try.checked) false ⟨#[], #[.slice none 0 0, .int .u64 0], []⟩ 8 (by kernel_rfl) (by kernel_rfl) (by kernel_rfl) (by kernel_rfl)) ?_
  intro W base args ds gs before hval0 hW hcnd _
  have hval : ∀ (j : Nat) t v, Try.f3.params[j]? = some t → args[j]? = some v → Value.okWide Try.prog W .any base t v := hval0
  have hW' := hW
  obtain ⟨p, q, hA0, hV, rfl, hfz, hnd⟩ := hW
  have hA : DataW.TrodAll enc Try.prog W 0 (fun _ => true) true Try.f3.params.toList args.toList ds p := hA0
  rw [Try.params3] at hA hval
  obtain ⟨v0, v1, d0, d1, p0, p1, rfl, rfl, rfl, h0, h1⟩ := trodAll_two hA
  obtain ⟨rfl, rfl⟩ := trodVars_none hV
  obtain ⟨now, rfl, rfl, rfl, wn⟩ := open_int Try.underlying23 (hval 1 23 v1 rfl rfl) h1
  obtain ⟨a0, len, cap, rfl⟩ := okWide_slice Try.underlying22 (hval 0 22 v0 rfl rfl)
  have h0k := h0
  obtain ⟨fuel, hf⟩ := h0
  clear hA0 hval0
  simp only [List.append_nil] at hW'
  have hlt : ∀ x ∈ p0, x.block < W.heap.size := fun x hx => by simpa using hW'.lt x hx
  have hargs : ∀ (W' : World), Below W.heap.size W W' → DataW.Trod enc Try.prog W' 0 (fun b => decide (b < W.heap.size)) true 22 (.slice a0 len cap) d0 p0 :=
    fun W' hn => Below.trod Try.laidOut (by kernel_rfl) (of_decide_eq_true (by kernel_rfl)) h0k hn hlt
  have nums : ∃ xs : List Int, DueP.NumsR (seen W) a0 len xs ∧ (∀ i, i < len → xs.getD i 0 < 18446744073709551616) := by
    rcases open_ints Try.underlying22 Try.underlying23 cells23 hf with ⟨hcs, hx⟩ | ⟨a, len', cap', zs, hcs, _, hl, hm, hz, hx, hcell, hwz⟩
    · simp [Value.cells] at hcs
      obtain ⟨rfl, rfl, rfl⟩ := hcs
      exact ⟨[], ⟨rfl, fun i hi => by omega⟩, fun i hi => by omega⟩
    · simp [Value.cells] at hcs
      obtain ⟨rfl, rfl, rfl⟩ := hcs
      simp only [if_true] at hz
      refine ⟨zs.take len, ⟨by simp; omega, fun i hi => ⟨a, rfl, ?_⟩⟩, fun i hi => ?_⟩
      · have e : (Lf.aidx a 0 i 1).add 0 = a.add i := by unfold Lf.aidx; simp [Lf.Addr_add_add, Lf.Addr_add_zero]
        rw [e]
        refine seen_cell ?_
        rw [hcell i (by omega)]
        simp [List.getElem?_take, hi]
      · have hmem : (zs.take len).getD i 0 ∈ zs := by
          rw [List.getD_eq_getElem?_getD, List.getElem?_take, if_pos hi, List.getElem?_eq_getElem (by omega)]
          exact List.getElem_mem _
        have := hwz _ hmem
        simp [Lit.wf] at this
        have hm : IntKind.u64.max = 18446744073709551615 := by decide
        rw [List.getD_eq_getElem?_getD]
        omega
  obtain ⟨xs, hx1, hx2⟩ := nums
  refine (DueP.dueOrder (c := cap) hx1 hx2 now W (seen_sub W)).mono fun e W' ⟨v, h', he, hs, hfr, hv, hle⟩ => ?_
  subst he
  subst hv
  have hb := below_of hs hfr hle
  exact ⟨_, rfl, _, _, _, [], p0 ++ [], [], hW', trodAll_mk1 (shut_bool Try.underlying4 true), trodAll_mk2 (hargs _ hb) (shut_int Try.underlying23 wn), rfl, hb.frame _, fun h => by cases h⟩

theorem order_holds : Rows.DueOrderSaid :=
  OpenClaim.holds_of_wide 3 Try.f3 rfl rfl rfl rfl rfl rfl rfl ⟨rfl, rfl, rfl, rfl, rfl⟩ rfl rfl rfl rfl rfl (by kernel_rfl) Try.func3 (by kernel_rfl)
    (of_decide_eq_true (by kernel_rfl)) (by unfold Func.isWrapper; rw [if_neg (of_decide_eq_false (by kernel_rfl))]; exact ⟨rfl, rfl⟩)
    (fun os started H enc _ => order_lifted os started H enc)

end Go.Proofs.Ytpdgjniflbglgaa
