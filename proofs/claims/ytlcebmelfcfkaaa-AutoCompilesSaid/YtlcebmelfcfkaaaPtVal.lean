/- Values and questions: what the program's functions hand back. -/
import Derived.Test.YtlcebmelfcfkaaaPtTxt1
import Derived.Test.YtlcebmelfcfkaaaLibB
namespace Pt
open Go Lf Pat
variable {h : H}

abbrev valV (v : Val) : Value := .agg #[.int .u8 v.kind, .int .i64 v.int, .float .f64 v.real, .string v.text]
abbrev tstV (t : Tst) : Value := .agg #[.int .u8 t.field, .int .u8 t.op, .int .u8 t.val.kind, .int .i64 t.val.int, .float .f64 t.val.real, .string t.val.text]

theorem c_value_held (v : Val) : Spec P n_value_held #[valV v] h (fun r h' => h' = h ∧ r = .agg #[.int .u8 v.kind, .int .i64 (if v.kind = 1 then v.int else 0), .float .f64 (if v.kind = 2 then v.real else 0), .string (if v.kind = 3 then v.text else ⟨#[]⟩)]) := by
  apply s_value_held
  unfold f_value_held
  refine ⟨fun e => ?_, fun e => ⟨fun e2 => ?_, fun e2 => ⟨fun e3 => ?_, fun e3 => ?_⟩⟩⟩ <;> simp_all

theorem c_value_May (v : Val) : Spec P n_value_May #[valV v] h (fun r h' => h' = h ∧ r = .bool v.may) := by
  apply s_value_May
  unfold f_value_May
  refine (c_value_held v).mono fun r h5 ⟨e5, er⟩ => ⟨_, _, _, _, er, ?_⟩
  subst e5
  refine jBBBBB ?_
  simp only [scmpF_eql]
  refine ⟨fun h1 => ⟨fun h2 => ⟨fun h3 => ⟨fun h4 => RunL.float64bits ext_math_Float64bits ⟨_, rfl, Le.refl _, RunL.float64bits ext_math_Float64bits ⟨_, rfl, _, _, _, _, _, rfl, by simp, ?_⟩⟩, fun h4 => ⟨_, _, _, _, _, rfl, by simp, ?_⟩⟩, fun h3 => ⟨_, _, _, _, _, rfl, by simp, ?_⟩⟩, fun h2 => ⟨_, _, _, _, _, rfl, by simp, ?_⟩⟩, fun h1 => ⟨_, _, _, _, _, rfl, by simp, ?_⟩⟩
  all_goals (congr 1; unfold Val.may; grind)
end Pt

