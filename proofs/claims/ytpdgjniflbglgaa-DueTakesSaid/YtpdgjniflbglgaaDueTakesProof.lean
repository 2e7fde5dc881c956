/- DueTakes: whatever the input, the law hands back true and what is handed in reads as it did. -/
import Derived.Test.YtpdgjniflbglgaaRows
import Derived.ProofKit
import Derived.Test.YtpdgjniflbglgaaDueTakes
import Derived.Deep.Slices
import Derived.Deep.Strs
namespace Go.Proofs.Ytpdgjniflbglgaa
open Go.ChangeShapes Go.WideShapes Go.ChangeAt Go.RowKit

theorem Try.own : ownKnob Try.prog.godebug = none := by kernel_rfl
theorem Try.laidOut : laidOutB Try.prog = true := by kernel_rfl

/-- The whole heap, seen. -/
def seen (W : World) : Lf.H := fun b => W.heap[b]?

theorem seen_sub (W : World) : Lf.Sub (seen W) W := fun _ _ h => h

theorem below_of {W W' : World} {h' : Lf.H} (s : Lf.Sub h' W') (f : Lf.Frame (seen W) W h' W') (l : Lf.Le (seen W) h') : Below W.heap.size W W' :=
  ⟨f.out.os, f.out.tape, f.out.output, f.size, fun k hk => by
    have e : seen W k = some W.heap[k] := by simp [seen, hk]
    rw [s k _ (l k _ e)]
    exact e.symm⟩

theorem seen_cell {W : World} {a : Addr} {v : Value} (h : W.cell? a = some v) : Lf.cell (seen W) a = some v := by
  unfold Lf.cell seen
  unfold World.cell? at h
  exact h

theorem cells36 : Try.prog.cellsOf 36 = 3 := by kernel_rfl
theorem cells3 : Try.prog.cellsOf 3 = 1 := by kernel_rfl
theorem cells23 : Try.prog.cellsOf 23 = 1 := by kernel_rfl

set_option maxRecDepth 100000 in
theorem takes_lifted (os : Os) (started : os.Started) (H : Type) (enc : TypeId × Value → H) :
    ReturnsInHanded {} Try.checked os 5 .any (Rows.dueTakesSpec.pre6 enc Try.prog Try.f5 Rows.dueTakesRow.domain false) (Rows.dueTakesSpec.post enc Try.prog Try.f5 false true false false) := by
  refine returnsInHanded_of_change (C := Try.checked) Try.own started (by kernel_rfl) Try.func5
    (ChangeSpec.witness6 (enc := enc) (C := Try.checked) false ⟨#[], #[.slice none 0 0, .int .u64 0], []⟩ 8 (by kernel_rfl) (by kernel_rfl) (by kernel_rfl) (by kernel_rfl)) ?_
  intro W base args ds gs before hval0 hW hcnd _
  have hval : ∀ (j : Nat) t v, Try.f5.params[j]? = some t → args[j]? = some v → Value.okWide Try.prog W .any base t v := hval0
  have hW' := hW
  obtain ⟨p, q, hA0, hV, rfl, hfz, hnd⟩ := hW
  have hA : DataW.TrodAll enc Try.prog W 0 (fun _ => true) true Try.f5.params.toList args.toList ds p := hA0
  rw [Try.params5] at hA hval
  obtain ⟨v0, v1, d0, d1, p0, p1, rfl, rfl, rfl, h0, h1⟩ := trodAll_two hA
  obtain ⟨rfl, rfl⟩ := trodVars_none hV
  obtain ⟨now, rfl, rfl, rfl, wn⟩ := open_int Try.underlying23 (hval 1 23 v1 rfl rfl) h1
  obtain ⟨a0, len, cap, rfl⟩ := okWide_slice Try.underlying32 (hval 0 32 v0 rfl rfl)
  have h0k := h0
  obtain ⟨fuel, hf⟩ := h0
  clear hA0 hval0
  simp only [List.append_nil] at hW'
  have hlt : ∀ x ∈ p0, x.block < W.heap.size := fun x hx => by simpa using hW'.lt x hx
  have hargs : ∀ (W' : World), Below W.heap.size W W' → DataW.Trod enc Try.prog W' 0 (fun b => decide (b < W.heap.size)) true 32 (.slice a0 len cap) d0 p0 :=
    fun W' hn => Below.trod Try.laidOut (by kernel_rfl) (of_decide_eq_true (by kernel_rfl)) h0k hn hlt
  have ops : len ≤ cap ∧ ∃ g, DueP.OpsR (seen W) a0 len g := by
    rcases Go.Deep.open_slice Try.underlying32 hf with ⟨hcs, hx⟩ | ⟨a, len', cap', m, n, D, Pl, hcs, _, hl, hm, hmm, hx, hel⟩
    · simp [Value.cells] at hcs
      obtain ⟨rfl, rfl, rfl⟩ := hcs
      exact ⟨Nat.le_refl _, fun _ => (0, 0, 0), fun i hi => by omega⟩
    · simp [Value.cells] at hcs
      obtain ⟨rfl, rfl, rfl⟩ := hcs
      refine ⟨hl, ?_⟩
      have each : ∀ i, i < len → ∃ q : Int × Int × Int, ∀ j u, [Value.int .i64 q.1, .int .u64 q.2.1, .int .u64 q.2.2][j]? = some u → W.cell? ((a.add (i * 3)).add j) = some u := by
        intro i hi
        obtain ⟨cs', h1, h2⟩ := hel i (by simp at hmm; omega)
        rw [cells36] at h1
        obtain ⟨_, hlen, hc⟩ := World.cells?_some h1
        obtain ⟨y0, y1, y2, n', _, _, t0, t1, t2⟩ := Go.Deep.trod_struct3 Try.underlying36 h2
        match cs', hlen with
        | [x0, x1, x2], _ =>
          obtain ⟨k0, e0, _⟩ := DataW.trod_int Try.underlying3 t0
          obtain ⟨k1, e1, _⟩ := DataW.trod_int Try.underlying23 t1
          obtain ⟨k2, e2, _⟩ := DataW.trod_int Try.underlying23 t2
          simp [cells3, cells23] at e0 e1 e2
          subst e0 e1 e2
          refine ⟨(k0, k1, k2), fun j u hu => ?_⟩
          have hj : j < 3 := (List.getElem?_eq_some_iff.1 hu).1
          rw [hc j hj]; exact hu
      refine ⟨fun i => if h : i < len then Classical.choose (each i h) else (0, 0, 0), fun i hi => ⟨a, rfl, ?_⟩⟩
      have hs := Classical.choose_spec (each i hi)
      have e : ∀ j, (Lf.aidx a 0 i 3).add j = (a.add (i * 3)).add j := fun j => by unfold Lf.aidx; simp [Lf.Addr_add_zero]
      simp only [dif_pos hi, e]
      exact ⟨seen_cell (hs 0 _ rfl), seen_cell (hs 1 _ rfl), seen_cell (hs 2 _ rfl)⟩
  obtain ⟨hlc, g, hg⟩ := ops
  refine (DueP.dueTakes (c := cap) hg hlc now W (seen_sub W)).mono fun e W' ⟨v, h', he, hs, hfr, hv, hle⟩ => ?_
  subst he
  subst hv
  have hb := below_of hs hfr hle
  exact ⟨_, rfl, _, _, _, [], p0 ++ [], [], hW', trodAll_mk1 (shut_bool Try.underlying4 true), trodAll_mk2 (hargs _ hb) (shut_int Try.underlying23 wn), rfl, hb.frame _, fun h => by cases h⟩

theorem takes_holds : Rows.DueTakesSaid :=
  OpenClaim.holds_of_wide 5 Try.f5 rfl rfl rfl rfl rfl rfl rfl ⟨rfl, rfl, rfl, rfl, rfl⟩ rfl rfl rfl rfl rfl (by kernel_rfl) Try.func5 (by kernel_rfl)
    (of_decide_eq_true (by kernel_rfl)) (by unfold Func.isWrapper; rw [if_neg (of_decide_eq_false (by kernel_rfl))]; exact ⟨rfl, rfl⟩)
    (fun os started H enc _ => takes_lifted os started H enc)

end Go.Proofs.Ytpdgjniflbglgaa
