/-
  No cell of these rows narrows 'for every input' (looked for: loops, veiled, ifaces, maps, wideKeys, modest, calm, conditions, laid).
  DERIVED. THE GIVEN ROWS OF THIS SEAT. 2 by the template 'for every input the law returns true; each argument reads behind the call as it read before'; 0 by the template 'total and deterministic' (their statements: YtlcebmelfcfkaaaTotals.lean).
  GIVEN WITH THE SEED: the statements are not yours to turn. If you find one false, say at which input.
  Laid BY PROGRAM, IN A SANDBOX (cutbox-rows.mjs): the forced cells as the released guide's own fill.sh prints them over the translation a564d38c33dad3ce… (all of the seat's roots in one cut). By AI agents, Wed Nov 11 2026. No macro, syntax, notation, axiom, sorry.
-/
import Derived.Test.YtlcebmelfcfkaaaChecked
import GoSem.Claim
import GoSem.ClaimJoined
import GoSem.ClaimMapViews
import Derived.JoinedTies
import Derived.KernelRfl
namespace Go.Proofs.Ytlcebmelfcfkaaa
/- THE CELL 'sum', in the pinned program and in every row, IS THE sha256 OF THE DUMP (.gsa) THAT YtlcebmelfcfkaaaProg.lean LOADS. Nothing in Lean hashes anything: it is a label: what it is worth is what the hold of that sum in a sandbox is worth. -/
noncomputable def Try.pinned : Pinned := { name := "ytlcebmelfcfkaaa", sum := "a564d38c33dad3ce1d002620b2921bf03b1c9d1c50674b4abb73f6e993eb43d4", checked := Try.checked }
namespace Rows
def none {H : Type} : Left H := { results := [], args := [] }

/-- 'equerrylaw14.AutoCompiles': WHATEVER THE INPUT: true; the input reads as it did. -/
def autoCompilesSpec : ChangeSpec := { name := "autoCompiles", fn := fun _ => fun
  | [d] => { results := [.lit (.bool true)], args := [d] }
  | _ => none }
def autoCompilesRow : OpenClaim := { program := "ytlcebmelfcfkaaa", sum := "a564d38c33dad3ce1d002620b2921bf03b1c9d1c50674b4abb73f6e993eb43d4", func := "equerry/equerrylaw14.AutoCompiles", spec := "autoCompiles", inPlace := ["math.Float64frombits", "math.Float64bits"], unfollowed := true, recurses := true, apart := false }
def AutoCompilesSaid : Prop := autoCompilesRow.holds Try.pinned (OpenSpec.ofChange autoCompilesSpec)

/-- ITS FALSE NEIGHBOUR: 'it returns false'. Refute it at one input. -/
def autoCompilesWrong : ChangeSpec := { name := "autoCompiles", fn := fun _ => fun
  | [d] => { results := [.lit (.bool false)], args := [d] }
  | _ => none }
def AutoCompilesWrongFalsely : Prop := autoCompilesRow.holds Try.pinned (OpenSpec.ofChange autoCompilesWrong)

/-- 'equerrylaw14.AutoRises': WHATEVER THE INPUT: true; the input reads as it did. -/
def autoRisesSpec : ChangeSpec := { name := "autoRises", fn := fun _ => fun
  | [d] => { results := [.lit (.bool true)], args := [d] }
  | _ => none }
def autoRisesRow : OpenClaim := { program := "ytlcebmelfcfkaaa", sum := "a564d38c33dad3ce1d002620b2921bf03b1c9d1c50674b4abb73f6e993eb43d4", func := "equerry/equerrylaw14.AutoRises", spec := "autoRises", inPlace := ["math.Float64frombits", "math.Float64bits"], unfollowed := true, recurses := true, apart := false }
def AutoRisesSaid : Prop := autoRisesRow.holds Try.pinned (OpenSpec.ofChange autoRisesSpec)

/-- ITS FALSE NEIGHBOUR: 'it returns false'. Refute it at one input. -/
def autoRisesWrong : ChangeSpec := { name := "autoRises", fn := fun _ => fun
  | [d] => { results := [.lit (.bool false)], args := [d] }
  | _ => none }
def AutoRisesWrongFalsely : Prop := autoRisesRow.holds Try.pinned (OpenSpec.ofChange autoRisesWrong)

/- THE SECOND FORM. 'bulk': how many values and letters a reading holds, each counted each time it is reached (what is shared counts as often as it is met; a slice's spare places count too). A statement '..UptoSaid' is the law's where the arguments, and the package variables that the reading takes, are together of bulk at most 1048576: NARROWER than '..Said'. Prove '..Said' where nothing that the law and all that it calls make is longer than what came in: it says more and counts as full. Else prove '..UptoSaid'. A law counts once. -/
mutual
def uptoBulk {H : Type} : DataW H → Nat
  | .lit (.string bytes) => bytes.length + 1
  | .lit _ => 1
  | .nil => 1
  | .ptr d => uptoBulk d + 1
  | .slice elems spare => uptoBulkAll elems + uptoBulkAll spare + 1
  | .agg parts => uptoBulkAll parts + 1
  | .iface _ d => uptoBulk d + 1
  | .map entries => uptoBulkEntries entries + 1
  | .held _ => 1
def uptoBulkAll {H : Type} : List (DataW H) → Nat
  | [] => 0
  | d :: r => uptoBulk d + uptoBulkAll r
def uptoBulkEntries {H : Type} : List (Lit × DataW H) → Nat
  | [] => 0
  | x :: r => uptoBulkEntry x + uptoBulkEntries r
def uptoBulkEntry {H : Type} : Lit × DataW H → Nat
  | (.string bytes, d) => bytes.length + uptoBulk d + 1
  | (_, d) => uptoBulk d + 1
 end
def uptoSmall : (H : Type) → List (DataW H) → Bool := fun _ ds => decide (uptoBulkAll ds ≤ 1048576)
def OpenSpec.upto (s : _root_.Go.ChangeSpec) : _root_.Go.OpenSpec := { _root_.Go.OpenSpec.ofChange s with cond := some uptoSmall }

/-- 'equerrylaw14.AutoCompiles', WHERE WHAT IT READS IS OF BULK AT MOST 1048576: true; the input reads as it did. -/
def autoCompilesUptoRow : OpenClaim := { program := "ytlcebmelfcfkaaa", sum := "a564d38c33dad3ce1d002620b2921bf03b1c9d1c50674b4abb73f6e993eb43d4", func := "equerry/equerrylaw14.AutoCompiles", spec := "autoCompiles", inPlace := ["math.Float64frombits", "math.Float64bits"], unfollowed := true, recurses := true, apart := false, narrowed := true }
def AutoCompilesUptoSaid : Prop := autoCompilesUptoRow.holds Try.pinned (OpenSpec.upto autoCompilesSpec)

/-- 'equerrylaw14.AutoRises', WHERE WHAT IT READS IS OF BULK AT MOST 1048576: true; the input reads as it did. -/
def autoRisesUptoRow : OpenClaim := { program := "ytlcebmelfcfkaaa", sum := "a564d38c33dad3ce1d002620b2921bf03b1c9d1c50674b4abb73f6e993eb43d4", func := "equerry/equerrylaw14.AutoRises", spec := "autoRises", inPlace := ["math.Float64frombits", "math.Float64bits"], unfollowed := true, recurses := true, apart := false, narrowed := true }
def AutoRisesUptoSaid : Prop := autoRisesUptoRow.holds Try.pinned (OpenSpec.upto autoRisesSpec)

end Rows
end Go.Proofs.Ytlcebmelfcfkaaa
