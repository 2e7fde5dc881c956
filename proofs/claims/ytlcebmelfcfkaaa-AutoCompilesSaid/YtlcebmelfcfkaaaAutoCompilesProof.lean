/- AutoCompiles: whatever the input, the law hands back true and what is handed in reads as it did. -/
import Derived.Test.YtlcebmelfcfkaaaRows
import Derived.ProofKit
import Derived.Test.YtlcebmelfcfkaaaLibS
import Derived.Test.YtlcebmelfcfkaaaPtJoin
import Derived.Test.YtlcebmelfcfkaaaPtSort
import Derived.Test.YtlcebmelfcfkaaaPtOpen
import Derived.Deep.Slices
import Derived.Deep.Strs
namespace Go.Proofs.Ytlcebmelfcfkaaa
open Go.ChangeShapes Go.WideShapes Go.ChangeAt Go.RowKit

theorem Try.own : ownKnob Try.prog.godebug = none := by kernel_rfl
theorem Try.laidOut : laidOutB Try.prog = true := by kernel_rfl

theorem below_of {W W' : World} {h' : Lf.H} (s : Lf.Sub h' W') (f : Lf.Frame (Pt.seen W) W h' W') (l : Lf.Le (Pt.seen W) h') : Below W.heap.size W W' :=
  ⟨f.out.os, f.out.tape, f.out.output, f.size, fun k hk => by
    have e : Pt.seen W k = some W.heap[k] := by simp [Pt.seen, hk]
    rw [s k _ (l k _ e)]
    exact e.symm⟩

theorem params3 : Try.f3.params = #[25] := by kernel_rfl
theorem cells25 : Try.prog.cellsOf 25 = 2 := by kernel_rfl

theorem agg_two {v : Value} {x y : Value} (h : v.cells.toList = [x, y]) : v = .agg #[x, y] := by
  cases v <;> simp [Value.cells] at h
  rename_i cs
  congr 1
  apply Array.ext'
  simpa using h

set_option maxRecDepth 100000 in
theorem compiles_lifted (os : Os) (started : os.Started) (H : Type) (enc : TypeId × Value → H) :
    ReturnsInHanded {} Try.checked os 3 .any (Rows.autoCompilesSpec.pre6 enc Try.prog Try.f3 Rows.autoCompilesRow.domain false) (Rows.autoCompilesSpec.post enc Try.prog Try.f3 false true false false) := by
  refine returnsInHanded_of_change (C := Try.checked) Try.own started (by kernel_rfl) Try.func3
    (ChangeSpec.witness6 (enc := enc) (C := Try.checked) false ⟨#[], #[.agg #[.slice none 0 0, .int .u64 0]], []⟩ 8 (by kernel_rfl) (by kernel_rfl) (by kernel_rfl) (by kernel_rfl)) ?_
  intro W base args ds gs before hval0 hW hcnd _
  have hW' := hW
  obtain ⟨p, q, hA0, hV, rfl, hfz, hnd⟩ := hW
  have hA : DataW.TrodAll enc Try.prog W 0 (fun _ => true) true Try.f3.params.toList args.toList ds p := hA0
  rw [params3] at hA
  obtain ⟨v0, d0, rfl, rfl, h0⟩ := trodAll_one hA
  obtain ⟨rfl, rfl⟩ := trodVars_none hV
  have h0k := h0
  obtain ⟨fuel, hf⟩ := h0
  clear hA0 hval0
  simp only [List.append_nil] at hW'
  have hlt : ∀ x ∈ p, x.block < W.heap.size := fun x hx => by simpa using hW'.lt x hx
  have hargs : ∀ (W' : World), Below W.heap.size W W' → DataW.Trod enc Try.prog W' 0 (fun b => decide (b < W.heap.size)) true 25 v0 d0 p :=
    fun W' hn => Below.trod Try.laidOut (by kernel_rfl) (of_decide_eq_true (by kernel_rfl)) h0k hn hlt
  have hlen : v0.cells.toList.length = 2 := by
    have hu : (match Try.prog.underlying 25 with | some (.struct _) => true | _ => false) = true := by kernel_rfl
    split at hu
    · rename_i fs hfs
      obtain ⟨_, _, _, _, hl, _⟩ := DataW.trod_struct hfs hf
      rw [hl, cells25]
    · cases hu
  obtain ⟨q, pp, n, c, ecs, hn, hfit, hwf⟩ := Pt.rd_raw (enc := enc) (W := W) hlen ⟨fuel, _, hf⟩
  obtain rfl := agg_two ecs
  have hwn : 0 ≤ q.window := by
    simp only [Lit.wf, Bool.and_eq_true, decide_eq_true_eq] at hwf
    have h0 : IntKind.u64.min = 0 := rfl
    omega
  refine (Pt.c_AutoCompiles Pt.c_joins Pt.c_SortFunc hn hfit hwn W (Pt.seen_sub W)).mono fun e W' ⟨v, h', he, hs, hfr, hle, hv⟩ => ?_
  subst he
  subst hv
  have hb := below_of hs hfr hle
  exact ⟨_, rfl, _, _, _, [], p, [], hW', trodAll_mk1 (shut_bool Try.underlying4 true), trodAll_mk1 (hargs _ hb), rfl, hb.frame _, fun h => by cases h⟩

theorem compiles_holds : Rows.AutoCompilesSaid :=
  OpenClaim.holds_of_wide 3 Try.f3 rfl rfl rfl rfl rfl rfl rfl ⟨rfl, rfl, rfl, rfl, rfl⟩ rfl rfl rfl rfl rfl (by kernel_rfl) Try.func3 (by kernel_rfl)
    (of_decide_eq_true (by kernel_rfl)) (by unfold Func.isWrapper; rw [if_neg (of_decide_eq_false (by kernel_rfl))]; exact ⟨rfl, rfl⟩)
    (fun os started H enc _ => compiles_lifted os started H enc)

end Go.Proofs.Ytlcebmelfcfkaaa

