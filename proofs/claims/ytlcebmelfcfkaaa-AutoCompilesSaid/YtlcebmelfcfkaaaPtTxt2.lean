/- The lifted texts of the functions, each held against the program. -/
import Derived.Test.YtlcebmelfcfkaaaLfSnd8
import Derived.Test.YtlcebmelfcfkaaaPtNum
namespace Pt
open Go Lf
set_option maxRecDepth 10000

/-- equerry/equerryref04.May -/
def f_ref04_May (x0 : Int) (x1 : Int) (n2 : Nat) (s3 : ByteArray) (h : H) (K : Value → H → Prop) : Prop :=
 ∃ I4 : List Value → H → Prop, (((((decide (x1 = 0)) = true → I4 [(.bool true), (.bool true)] h) ∧
 ((decide (x1 = 0)) = false → I4 [(.bool (decide (x0 = 1))), (.bool false)] h))) ∧
 (∀ b5 : Bool, ∀ b6 : Bool, ∀ h7 : H, (I4 [(.bool b5), (.bool b6)] h7) →
 RunL P (X.sem (.ext 89 [(.float .f64 n2)])) h7 (fun v8 h9 =>
 ∃ x10 : Int, v8 = (.int .u64 x10) ∧ ∃ I11 : List Value → H → Prop, (((((decide (x10 = 0)) = true → I11 [(.bool true), (.bool true)] h9) ∧
 ((decide (x10 = 0)) = false → I11 [(.bool (decide (x0 = 2))), (.bool false)] h9))) ∧
 (∀ b12 : Bool, ∀ b13 : Bool, ∀ h14 : H, (I11 [(.bool b12), (.bool b13)] h14) →
 ∃ I15 : List Value → H → Prop, (((((scmpF .eql s3 (ByteArray.mk #[])) = true → I15 [(.bool true), (.bool true)] h14) ∧
 ((scmpF .eql s3 (ByteArray.mk #[])) = false → I15 [(.bool (decide (x0 = 3))), (.bool false)] h14))) ∧
 (∀ b16 : Bool, ∀ b17 : Bool, ∀ h18 : H, (I15 [(.bool b16), (.bool b17)] h18) →
 ∃ I19 : List Value → H → Prop, (((((decide (x0 < 4)) = true → ((b5 = true → ((b12 = true → ((b16 = true → I19 [(.bool b5), (.bool b12), (.bool b16), (.bool (decide ((((ByteArray.size s3) : Nat) : Int) ≤ 255))), (.bool true)] h18) ∧
 (b16 = false → I19 [(.bool b5), (.bool b12), (.bool b16), (.bool false), (.bool true)] h18))) ∧
 (b12 = false → I19 [(.bool b5), (.bool b12), (.bool false), (.bool false), (.bool true)] h18))) ∧
 (b5 = false → I19 [(.bool b5), (.bool false), (.bool false), (.bool false), (.bool true)] h18))) ∧
 ((decide (x0 < 4)) = false → I19 [(.bool false), (.bool false), (.bool false), (.bool false), (.bool false)] h18))) ∧
 (∀ b20 : Bool, ∀ b21 : Bool, ∀ b22 : Bool, ∀ b23 : Bool, ∀ b24 : Bool, ∀ h25 : H, (I19 [(.bool b20), (.bool b21), (.bool b22), (.bool b23), (.bool b24)] h25) →
 K (.bool b23) h25)))))))))

theorem e_ref04_May (x0 : Int) (x1 : Int) (n2 : Nat) (s3 : ByteArray) (h : H) (K : Value → H → Prop) : liftFn P (semAlg P K) 87 [(.agg [(.int .u8 x0), (.int .i64 x1), (.flt .f64 n2), (.str s3)])] h = f_ref04_May x0 x1 n2 s3 h K := by kernel_rfl

theorem s_ref04_May {x0 : Int} {x1 : Int} {n2 : Nat} {s3 : ByteArray} {h : H} {K : Value → H → Prop} (hf : f_ref04_May x0 x1 n2 s3 h K) : Spec P 87 #[(.agg #[(.int .u8 x0), (.int .i64 x1), (.float .f64 n2), (.string s3)])] h K :=
  lift_sound mixed (args := [(.agg [(.int .u8 x0), (.int .i64 x1), (.flt .f64 n2), (.str s3)])]) (by rw [e_ref04_May]; exact hf)

/-- equerry/equerryref10.Right -/
def f_ref10_Right (x0 : Int) (x1 : Int) (x2 : Int) (x3 : Int) (n4 : Nat) (s5 : ByteArray) (h : H) (K : Value → H → Prop) : Prop :=
 ∃ I6 : List Value → H → Prop, (((((decide (x1 < 1)) = true → I6 [(.bool true), (.bool true), (.bool true)] h) ∧
 ((decide (x1 < 1)) = false → (((decide (x1 > 8)) = true → I6 [(.bool (decide (x1 > 8))), (.bool true), (.bool false)] h) ∧
 ((decide (x1 > 8)) = false → Spec P 87 #[(.agg #[(.int .u8 x2), (.int .i64 x3), (.float .f64 n4), (.string s5)])] h (fun v7 h8 =>
 ∃ b9 : Bool, v7 = (.bool b9) ∧ I6 [(.bool (decide (x1 > 8))), (.bool (!b9)), (.bool false)] h8)))))) ∧
 (∀ b10 : Bool, ∀ b11 : Bool, ∀ b12 : Bool, ∀ h13 : H, (I6 [(.bool b10), (.bool b11), (.bool b12)] h13) →
 ((b11 = true → K (.bool false) h13) ∧
 (b11 = false → (((decide (x1 = 7)) = true → K (.bool (decide (x2 = 0))) h13) ∧
 ((decide (x1 = 7)) = false → (((decide (x1 = 8)) = true → K (.bool (decide (x2 = 3))) h13) ∧
 ((decide (x1 = 8)) = false → K (.bool (!decide (x2 = 0))) h13))))))))

theorem e_ref10_Right (x0 : Int) (x1 : Int) (x2 : Int) (x3 : Int) (n4 : Nat) (s5 : ByteArray) (h : H) (K : Value → H → Prop) : liftFn P (semAlg P K) 74 [(.agg [(.int .u8 x0), (.int .u8 x1), (.int .u8 x2), (.int .i64 x3), (.flt .f64 n4), (.str s5)])] h = f_ref10_Right x0 x1 x2 x3 n4 s5 h K := by kernel_rfl

theorem s_ref10_Right {x0 : Int} {x1 : Int} {x2 : Int} {x3 : Int} {n4 : Nat} {s5 : ByteArray} {h : H} {K : Value → H → Prop} (hf : f_ref10_Right x0 x1 x2 x3 n4 s5 h K) : Spec P 74 #[(.agg #[(.int .u8 x0), (.int .u8 x1), (.int .u8 x2), (.int .i64 x3), (.float .f64 n4), (.string s5)])] h K :=
  lift_sound mixed (args := [(.agg [(.int .u8 x0), (.int .u8 x1), (.int .u8 x2), (.int .i64 x3), (.flt .f64 n4), (.str s5)])]) (by rw [e_ref10_Right]; exact hf)

/-- equerry/equerryref10.May -/
def f_ref10_May (b0 : Bool) (x1 : Int) (p2 : Option Addr) (n3 n4 : Nat) (h : H) (K : Value → H → Prop) : Prop :=
 ∃ L5 : Nat → List Value → H → Prop, ((∃ k6 : Nat, L5 k6 [(.int .i64 0), (.bool false)] h) ∧ ∀ k6 : Nat,
 ∀ x8 : Int, ∀ b9 : Bool, ∀ h10 : H, (L5 k6 [(.int .i64 x8), (.bool b9)] h10) →
 (((decide (x8 < ((n3 : Nat) : Int))) = true → ∃ a11 : Addr, p2 = some a11 ∧ ((0 : Int) ≤ x8 ∧ (x8 : Int) < ((n3 : Nat) : Int)) ∧ ∃ x12 : Int, cell h10 ((aidx a11 0 x8 6).add 0) = some (.int .u8 x12) ∧ ∃ x13 : Int, cell h10 ((aidx a11 0 x8 6).add 1) = some (.int .u8 x13) ∧ ∃ x14 : Int, cell h10 ((aidx a11 0 x8 6).add 2) = some (.int .u8 x14) ∧ ∃ x15 : Int, cell h10 ((aidx a11 0 x8 6).add 3) = some (.int .i64 x15) ∧ ∃ n16 : Nat, cell h10 ((aidx a11 0 x8 6).add 4) = some (.float .f64 n16) ∧ ∃ s17 : ByteArray, cell h10 ((aidx a11 0 x8 6).add 5) = some (.string s17) ∧ Spec P 74 #[(.agg #[(.int .u8 x12), (.int .u8 x13), (.int .u8 x14), (.int .i64 x15), (.float .f64 n16), (.string s17)])] h10 (fun v18 h19 =>
 ∃ b20 : Bool, v18 = (.bool b20) ∧ (((!b20) = true → K (.bool false) h19) ∧
 ((!b20) = false → (∃ j7 : Nat, j7 < k6 ∧ L5 j7 [(.int .i64 (IntKind.wrap .i64 (x8 + 1))), (.bool b9)] h19))))) ∧
 ((decide (x8 < ((n3 : Nat) : Int))) = false → ∃ I21 : List Value → H → Prop, (((((decide (((n3 : Nat) : Int) ≤ 4)) = true → ((b0 = true → I21 [(.bool (!(!decide (x1 = 0)))), (.bool true)] h10) ∧
 (b0 = false → I21 [(.bool true), (.bool true)] h10))) ∧
 ((decide (((n3 : Nat) : Int) ≤ 4)) = false → I21 [(.bool false), (.bool false)] h10))) ∧
 (∀ b22 : Bool, ∀ b23 : Bool, ∀ h24 : H, (I21 [(.bool b22), (.bool b23)] h24) →
 K (.bool b22) h24)))))

theorem e_ref10_May (b0 : Bool) (x1 : Int) (p2 : Option Addr) (n3 n4 : Nat) (h : H) (K : Value → H → Prop) : liftFn P (semAlg P K) 50 [(.agg [(.bool b0), (.int .u8 x1), (.slice p2 n3 n4)])] h = f_ref10_May b0 x1 p2 n3 n4 h K := by kernel_rfl

theorem s_ref10_May {b0 : Bool} {x1 : Int} {p2 : Option Addr} {n3 n4 : Nat} {h : H} {K : Value → H → Prop} (hf : f_ref10_May b0 x1 p2 n3 n4 h K) : Spec P 50 #[(.agg #[(.bool b0), (.int .u8 x1), (.slice p2 n3 n4)])] h K :=
  lift_sound mixed (args := [(.agg [(.bool b0), (.int .u8 x1), (.slice p2 n3 n4)])]) (by rw [e_ref10_May]; exact hf)

/-- equerry/equerryref10.Great -/
def f_ref10_Great (b0 : Bool) (x1 : Int) (p2 : Option Addr) (n3 n4 : Nat) (h : H) (K : Value → H → Prop) : Prop :=
 (((decide (((n3 : Nat) : Int) > 20)) = true → K (.bool true) h) ∧
 ((decide (((n3 : Nat) : Int) > 20)) = false → ∃ L5 : Nat → List Value → H → Prop, ((∃ k6 : Nat, L5 k6 [(.int .i64 0), (.int .i64 ((n3 : Nat) : Int))] h) ∧ ∀ k6 : Nat,
 ∀ x8 : Int, ∀ x9 : Int, ∀ h10 : H, (L5 k6 [(.int .i64 x8), (.int .i64 x9)] h10) →
 (((decide (x8 < ((n3 : Nat) : Int))) = true → ∃ a11 : Addr, p2 = some a11 ∧ ((0 : Int) ≤ x8 ∧ (x8 : Int) < ((n3 : Nat) : Int)) ∧ ∃ s12 : ByteArray, cell h10 ((aidx a11 0 x8 6).add 5) = some (.string s12) ∧ (∃ j7 : Nat, j7 < k6 ∧ L5 j7 [(.int .i64 (IntKind.wrap .i64 (x8 + 1))), (.int .i64 (IntKind.wrap .i64 (x9 + (min (((ByteArray.size s12) : Nat) : Int) 3000))))] h10)) ∧
 ((decide (x8 < ((n3 : Nat) : Int))) = false → K (.bool (decide (x9 > 3000))) h10)))))

theorem e_ref10_Great (b0 : Bool) (x1 : Int) (p2 : Option Addr) (n3 n4 : Nat) (h : H) (K : Value → H → Prop) : liftFn P (semAlg P K) 15 [(.agg [(.bool b0), (.int .u8 x1), (.slice p2 n3 n4)])] h = f_ref10_Great b0 x1 p2 n3 n4 h K := by kernel_rfl

theorem s_ref10_Great {b0 : Bool} {x1 : Int} {p2 : Option Addr} {n3 n4 : Nat} {h : H} {K : Value → H → Prop} (hf : f_ref10_Great b0 x1 p2 n3 n4 h K) : Spec P 15 #[(.agg #[(.bool b0), (.int .u8 x1), (.slice p2 n3 n4)])] h K :=
  lift_sound mixed (args := [(.agg [(.bool b0), (.int .u8 x1), (.slice p2 n3 n4)])]) (by rw [e_ref10_Great]; exact hf)

/-- equerry/equerryref11.Great -/
def f_ref11_Great (p0 : Option Addr) (n1 n2 : Nat) (x3 : Int) (h : H) (K : Value → H → Prop) : Prop :=
 (((decide (((n1 : Nat) : Int) > 50)) = true → K (.bool true) h) ∧
 ((decide (((n1 : Nat) : Int) > 50)) = false → ∃ L4 : Nat → List Value → H → Prop, ((∃ k5 : Nat, L4 k5 [(.int .i64 0), (.bool false)] h) ∧ ∀ k5 : Nat,
 ∀ x7 : Int, ∀ b8 : Bool, ∀ h9 : H, (L4 k5 [(.int .i64 x7), (.bool b8)] h9) →
 (((decide (x7 < ((n1 : Nat) : Int))) = true → ∃ a10 : Addr, p0 = some a10 ∧ ((0 : Int) ≤ x7 ∧ (x7 : Int) < ((n1 : Nat) : Int)) ∧ ∃ b11 : Bool, cell h9 ((aidx a10 0 x7 11).add 1) = some (.bool b11) ∧ ∃ x12 : Int, cell h9 ((aidx a10 0 x7 11).add 2) = some (.int .u8 x12) ∧ ∃ p13 : Option Addr, ∃ n14 : Nat, ∃ n15 : Nat, cell h9 ((aidx a10 0 x7 11).add 3) = some (.slice p13 n14 n15) ∧ Spec P 15 #[(.agg #[(.bool b11), (.int .u8 x12), (.slice p13 n14 n15)])] h9 (fun v16 h17 =>
 ∃ b18 : Bool, v16 = (.bool b18) ∧ ∃ I19 : List Value → H → Prop, ((((b18 = true → I19 [(.bool true), (.bool true)] h17) ∧
 (b18 = false → ∃ a20 : Addr, p0 = some a20 ∧ ((0 : Int) ≤ x7 ∧ (x7 : Int) < ((n1 : Nat) : Int)) ∧ ∃ b21 : Bool, cell h17 ((aidx a20 0 x7 11).add 5) = some (.bool b21) ∧ ∃ x22 : Int, cell h17 ((aidx a20 0 x7 11).add 6) = some (.int .u8 x22) ∧ ∃ p23 : Option Addr, ∃ n24 : Nat, ∃ n25 : Nat, cell h17 ((aidx a20 0 x7 11).add 7) = some (.slice p23 n24 n25) ∧ Spec P 15 #[(.agg #[(.bool b21), (.int .u8 x22), (.slice p23 n24 n25)])] h17 (fun v26 h27 =>
 ∃ b28 : Bool, v26 = (.bool b28) ∧ I19 [(.bool b28), (.bool false)] h27)))) ∧
 (∀ b29 : Bool, ∀ b30 : Bool, ∀ h31 : H, (I19 [(.bool b29), (.bool b30)] h31) →
 ((b29 = true → K (.bool true) h31) ∧
 (b29 = false → (∃ j6 : Nat, j6 < k5 ∧ L4 j6 [(.int .i64 (IntKind.wrap .i64 (x7 + 1))), (.bool b8)] h31))))))) ∧
 ((decide (x7 < ((n1 : Nat) : Int))) = false → K (.bool false) h9)))))

theorem e_ref11_Great (p0 : Option Addr) (n1 n2 : Nat) (x3 : Int) (h : H) (K : Value → H → Prop) : liftFn P (semAlg P K) 6 [(.agg [(.slice p0 n1 n2), (.int .u64 x3)])] h = f_ref11_Great p0 n1 n2 x3 h K := by kernel_rfl

theorem s_ref11_Great {p0 : Option Addr} {n1 n2 : Nat} {x3 : Int} {h : H} {K : Value → H → Prop} (hf : f_ref11_Great p0 n1 n2 x3 h K) : Spec P 6 #[(.agg #[(.slice p0 n1 n2), (.int .u64 x3)])] h K :=
  lift_sound mixed (args := [(.agg [(.slice p0 n1 n2), (.int .u64 x3)])]) (by rw [e_ref11_Great]; exact hf)

/-- equerry/equerryref11.none -/
def f_ref11_none (b0 : Bool) (x1 : Int) (p2 : Option Addr) (n3 n4 : Nat) (h : H) (K : Value → H → Prop) : Prop :=
 ∃ I5 : List Value → H → Prop, (((((!b0) = true → (((decide (x1 = 0)) = true → I5 [(.bool (decide (x1 = 0))), (.bool (decide (((n3 : Nat) : Int) = 0))), (.bool true)] h) ∧
 ((decide (x1 = 0)) = false → I5 [(.bool (decide (x1 = 0))), (.bool false), (.bool true)] h))) ∧
 ((!b0) = false → I5 [(.bool false), (.bool false), (.bool false)] h))) ∧
 (∀ b6 : Bool, ∀ b7 : Bool, ∀ b8 : Bool, ∀ h9 : H, (I5 [(.bool b6), (.bool b7), (.bool b8)] h9) →
 K (.bool b7) h9))

theorem e_ref11_none (b0 : Bool) (x1 : Int) (p2 : Option Addr) (n3 n4 : Nat) (h : H) (K : Value → H → Prop) : liftFn P (semAlg P K) 73 [(.agg [(.bool b0), (.int .u8 x1), (.slice p2 n3 n4)])] h = f_ref11_none b0 x1 p2 n3 n4 h K := by kernel_rfl

theorem s_ref11_none {b0 : Bool} {x1 : Int} {p2 : Option Addr} {n3 n4 : Nat} {h : H} {K : Value → H → Prop} (hf : f_ref11_none b0 x1 p2 n3 n4 h K) : Spec P 73 #[(.agg #[(.bool b0), (.int .u8 x1), (.slice p2 n3 n4)])] h K :=
  lift_sound mixed (args := [(.agg [(.bool b0), (.int .u8 x1), (.slice p2 n3 n4)])]) (by rw [e_ref11_none]; exact hf)

/-- equerry/equerryref11.build -/
def f_ref11_build (p0 : Option Addr) (n1 n2 : Nat) (x3 : Int) (x4 : Int) (h : H) (K : Value → H → Prop) : Prop :=
 (((decide (x3 ≥ x4)) = true → K (.tuple #[(.agg #[(.int .u8 0), (.bool false), (.int .u8 0), (.slice none 0 0), (.bool false), (.bool false), (.int .u8 0), (.slice none 0 0), (.int .u8 0), (.int .u8 0), (.int .i64 0), (.slice none 0 0)]), (.int .i64 0), (.bool false)]) h) ∧
 ((decide (x3 ≥ x4)) = false → ∃ a5 : Addr, p0 = some a5 ∧ ((0 : Int) ≤ x3 ∧ (x3 : Int) < ((n1 : Nat) : Int)) ∧ ∃ x6 : Int, cell h ((aidx a5 0 x3 11).add 0) = some (.int .u8 x6) ∧ ∃ b7 : Bool, cell h ((aidx a5 0 x3 11).add 1) = some (.bool b7) ∧ ∃ x8 : Int, cell h ((aidx a5 0 x3 11).add 2) = some (.int .u8 x8) ∧ ∃ p9 : Option Addr, ∃ n10 : Nat, ∃ n11 : Nat, cell h ((aidx a5 0 x3 11).add 3) = some (.slice p9 n10 n11) ∧ ∃ b12 : Bool, cell h ((aidx a5 0 x3 11).add 4) = some (.bool b12) ∧ ∃ b13 : Bool, cell h ((aidx a5 0 x3 11).add 5) = some (.bool b13) ∧ ∃ x14 : Int, cell h ((aidx a5 0 x3 11).add 6) = some (.int .u8 x14) ∧ ∃ p15 : Option Addr, ∃ n16 : Nat, ∃ n17 : Nat, cell h ((aidx a5 0 x3 11).add 7) = some (.slice p15 n16 n17) ∧ ∃ x18 : Int, cell h ((aidx a5 0 x3 11).add 8) = some (.int .u8 x18) ∧ ∃ x19 : Int, cell h ((aidx a5 0 x3 11).add 9) = some (.int .u8 x19) ∧ ∃ x20 : Int, cell h ((aidx a5 0 x3 11).add 10) = some (.int .i64 x20) ∧ ∃ a21 : Addr, p0 = some a21 ∧ ((0 : Int) ≤ x3 ∧ (x3 : Int) < ((n1 : Nat) : Int)) ∧ ∃ x22 : Int, cell h ((aidx a21 0 x3 11).add 10) = some (.int .i64 x22) ∧ ∃ I23 : List Value → H → Prop, (((((decide (x22 < 0)) = true → I23 [(.bool true), (.bool true)] h) ∧
 ((decide (x22 < 0)) = false → I23 [(.bool (decide (x22 > (IntKind.wrap .i64 ((IntKind.wrap .i64 (x4 - x3)) - 1))))), (.bool false)] h))) ∧
 (∀ b24 : Bool, ∀ b25 : Bool, ∀ h26 : H, (I23 [(.bool b24), (.bool b25)] h26) →
 ((b24 = true → K (.tuple #[(.agg #[(.int .u8 0), (.bool false), (.int .u8 0), (.slice none 0 0), (.bool false), (.bool false), (.int .u8 0), (.slice none 0 0), (.int .u8 0), (.int .u8 0), (.int .i64 0), (.slice none 0 0)]), (.int .i64 0), (.bool false)]) h26) ∧
 (b24 = false → ∃ L27 : Nat → List Value → H → Prop, ((∃ k28 : Nat, L27 k28 [(.int .i64 (IntKind.wrap .i64 (x3 + 1))), (.bool false), (.int .i64 0), (.agg #[(.int .u8 x6), (.bool b7), (.int .u8 x8), (.slice p9 n10 n11), (.bool b12), (.bool b13), (.int .u8 x14), (.slice p15 n16 n17), (.int .u8 x18), (.int .u8 x19), (.int .i64 x20), (.slice none 0 0)]), (.agg #[(.int .u8 0), (.bool false), (.int .u8 0), (.slice none 0 0), (.bool false), (.bool false), (.int .u8 0), (.slice none 0 0), (.int .u8 0), (.int .u8 0), (.int .i64 0), (.slice none 0 0)])] h26) ∧ ∀ k28 : Nat,
 ∀ x30 : Int, ∀ b31 : Bool, ∀ x32 : Int, ∀ x33 : Int, ∀ b34 : Bool, ∀ x35 : Int, ∀ p36 : Option Addr, ∀ n37 : Nat, ∀ n38 : Nat, ∀ b39 : Bool, ∀ b40 : Bool, ∀ x41 : Int, ∀ p42 : Option Addr, ∀ n43 : Nat, ∀ n44 : Nat, ∀ x45 : Int, ∀ x46 : Int, ∀ x47 : Int, ∀ p48 : Option Addr, ∀ n49 : Nat, ∀ n50 : Nat, ∀ x51 : Int, ∀ b52 : Bool, ∀ x53 : Int, ∀ p54 : Option Addr, ∀ n55 : Nat, ∀ n56 : Nat, ∀ b57 : Bool, ∀ b58 : Bool, ∀ x59 : Int, ∀ p60 : Option Addr, ∀ n61 : Nat, ∀ n62 : Nat, ∀ x63 : Int, ∀ x64 : Int, ∀ x65 : Int, ∀ p66 : Option Addr, ∀ n67 : Nat, ∀ n68 : Nat, ∀ h69 : H, (L27 k28 [(.int .i64 x30), (.bool b31), (.int .i64 x32), (.agg #[(.int .u8 x33), (.bool b34), (.int .u8 x35), (.slice p36 n37 n38), (.bool b39), (.bool b40), (.int .u8 x41), (.slice p42 n43 n44), (.int .u8 x45), (.int .u8 x46), (.int .i64 x47), (.slice p48 n49 n50)]), (.agg #[(.int .u8 x51), (.bool b52), (.int .u8 x53), (.slice p54 n55 n56), (.bool b57), (.bool b58), (.int .u8 x59), (.slice p60 n61 n62), (.int .u8 x63), (.int .u8 x64), (.int .i64 x65), (.slice p66 n67 n68)])] h69) →
 (((decide (x30 < (IntKind.wrap .i64 ((IntKind.wrap .i64 (x3 + 1)) + x22)))) = true → Spec P 33 #[(.slice p0 n1 n2), (.int .i64 x30), (.int .i64 (IntKind.wrap .i64 ((IntKind.wrap .i64 (x3 + 1)) + x22)))] h69 (fun v70 h71 =>
 ∃ x72 : Int, ∃ b73 : Bool, ∃ x74 : Int, ∃ p75 : Option Addr, ∃ n76 : Nat, ∃ n77 : Nat, ∃ b78 : Bool, ∃ b79 : Bool, ∃ x80 : Int, ∃ p81 : Option Addr, ∃ n82 : Nat, ∃ n83 : Nat, ∃ x84 : Int, ∃ x85 : Int, ∃ x86 : Int, ∃ p87 : Option Addr, ∃ n88 : Nat, ∃ n89 : Nat, ∃ x90 : Int, ∃ b91 : Bool, v70 = (.tuple #[(.agg #[(.int .u8 x72), (.bool b73), (.int .u8 x74), (.slice p75 n76 n77), (.bool b78), (.bool b79), (.int .u8 x80), (.slice p81 n82 n83), (.int .u8 x84), (.int .u8 x85), (.int .i64 x86), (.slice p87 n88 n89)]), (.int .i64 x90), (.bool b91)]) ∧ (((!b91) = true → K (.tuple #[(.agg #[(.int .u8 0), (.bool false), (.int .u8 0), (.slice none 0 0), (.bool false), (.bool false), (.int .u8 0), (.slice none 0 0), (.int .u8 0), (.int .u8 0), (.int .i64 0), (.slice none 0 0)]), (.int .i64 0), (.bool false)]) h71) ∧
 ((!b91) = false → ∀ n92 : Nat, h71 n92 = none → ∀ h93 : H, h93 = (hnew h71 n92 (.cells #[(.int .u8 x72), (.bool b73), (.int .u8 x74), (.slice p75 n76 n77), (.bool b78), (.bool b79), (.int .u8 x80), (.slice p81 n82 n83), (.int .u8 x84), (.int .u8 x85), (.int .i64 x86), (.slice p87 n88 n89)] 54 (0, 0))) →
 RunL P (X.sem (.bi .append #[52, 52] 52 [(.slice p48 n49 n50), (.slice (some ((blk n92).add 0)) 1 1)])) h93 (fun v94 h95 =>
 ∃ p96 : Option Addr, ∃ n97 : Nat, ∃ n98 : Nat, v94 = (.slice p96 n97 n98) ∧ (∃ j29 : Nat, j29 < k28 ∧ L27 j29 [(.int .i64 x90), (.bool b31), (.int .i64 x32), (.agg #[(.int .u8 x33), (.bool b34), (.int .u8 x35), (.slice p36 n37 n38), (.bool b39), (.bool b40), (.int .u8 x41), (.slice p42 n43 n44), (.int .u8 x45), (.int .u8 x46), (.int .i64 x47), (.slice p96 n97 n98)]), (.agg #[(.int .u8 x51), (.bool b52), (.int .u8 x53), (.slice p54 n55 n56), (.bool b57), (.bool b58), (.int .u8 x59), (.slice p60 n61 n62), (.int .u8 x63), (.int .u8 x64), (.int .i64 x65), (.slice p66 n67 n68)])] h95)))))) ∧
 ((decide (x30 < (IntKind.wrap .i64 ((IntKind.wrap .i64 (x3 + 1)) + x22)))) = false → K (.tuple #[(.agg #[(.int .u8 x33), (.bool b34), (.int .u8 x35), (.slice p36 n37 n38), (.bool b39), (.bool b40), (.int .u8 x41), (.slice p42 n43 n44), (.int .u8 x45), (.int .u8 x46), (.int .i64 x47), (.slice p48 n49 n50)]), (.int .i64 x30), (.bool true)]) h69)))))))))

theorem e_ref11_build (p0 : Option Addr) (n1 n2 : Nat) (x3 : Int) (x4 : Int) (h : H) (K : Value → H → Prop) : liftFn P (semAlg P K) 33 [(.slice p0 n1 n2), (.int .i64 x3), (.int .i64 x4)] h = f_ref11_build p0 n1 n2 x3 x4 h K := by kernel_rfl

theorem s_ref11_build {p0 : Option Addr} {n1 n2 : Nat} {x3 : Int} {x4 : Int} {h : H} {K : Value → H → Prop} (hf : f_ref11_build p0 n1 n2 x3 x4 h K) : Spec P 33 #[(.slice p0 n1 n2), (.int .i64 x3), (.int .i64 x4)] h K :=
  lift_sound mixed (args := [(.slice p0 n1 n2), (.int .i64 x3), (.int .i64 x4)]) (by rw [e_ref11_build]; exact hf)

/-- equerry/equerryref11.Tree -/
def f_ref11_Tree (p0 : Option Addr) (n1 n2 : Nat) (h : H) (K : Value → H → Prop) : Prop :=
 Spec P 33 #[(.slice p0 n1 n2), (.int .i64 0), (.int .i64 ((n1 : Nat) : Int))] h (fun v3 h4 =>
 ∃ x5 : Int, ∃ b6 : Bool, ∃ x7 : Int, ∃ p8 : Option Addr, ∃ n9 : Nat, ∃ n10 : Nat, ∃ b11 : Bool, ∃ b12 : Bool, ∃ x13 : Int, ∃ p14 : Option Addr, ∃ n15 : Nat, ∃ n16 : Nat, ∃ x17 : Int, ∃ x18 : Int, ∃ x19 : Int, ∃ p20 : Option Addr, ∃ n21 : Nat, ∃ n22 : Nat, ∃ x23 : Int, ∃ b24 : Bool, v3 = (.tuple #[(.agg #[(.int .u8 x5), (.bool b6), (.int .u8 x7), (.slice p8 n9 n10), (.bool b11), (.bool b12), (.int .u8 x13), (.slice p14 n15 n16), (.int .u8 x17), (.int .u8 x18), (.int .i64 x19), (.slice p20 n21 n22)]), (.int .i64 x23), (.bool b24)]) ∧ ∃ I25 : List Value → H → Prop, ((((b24 = true → I25 [(.bool (decide (x23 = ((n1 : Nat) : Int)))), (.bool true)] h4) ∧
 (b24 = false → I25 [(.bool false), (.bool false)] h4))) ∧
 (∀ b26 : Bool, ∀ b27 : Bool, ∀ h28 : H, (I25 [(.bool b26), (.bool b27)] h28) →
 K (.tuple #[(.agg #[(.int .u8 x5), (.bool b6), (.int .u8 x7), (.slice p8 n9 n10), (.bool b11), (.bool b12), (.int .u8 x13), (.slice p14 n15 n16), (.int .u8 x17), (.int .u8 x18), (.int .i64 x19), (.slice p20 n21 n22)]), (.bool b26)]) h28)))

theorem e_ref11_Tree (p0 : Option Addr) (n1 n2 : Nat) (h : H) (K : Value → H → Prop) : liftFn P (semAlg P K) 12 [(.slice p0 n1 n2)] h = f_ref11_Tree p0 n1 n2 h K := by kernel_rfl

theorem s_ref11_Tree {p0 : Option Addr} {n1 n2 : Nat} {h : H} {K : Value → H → Prop} (hf : f_ref11_Tree p0 n1 n2 h K) : Spec P 12 #[(.slice p0 n1 n2)] h K :=
  lift_sound mixed (args := [(.slice p0 n1 n2)]) (by rw [e_ref11_Tree]; exact hf)

/-- (equerry/equerryref11.T).formed -/
def f_ref11_T_formed (x0 : Int) (b1 : Bool) (x2 : Int) (p3 : Option Addr) (n4 n5 : Nat) (b6 : Bool) (b7 : Bool) (x8 : Int) (p9 : Option Addr) (n10 n11 : Nat) (x12 : Int) (x13 : Int) (x14 : Int) (p15 : Option Addr) (n16 n17 : Nat) (h : H) (K : Value → H → Prop) : Prop :=
 ∃ I18 : List Value → H → Prop, (((((decide (x0 = 1)) = true → ∃ I19 : List Value → H → Prop, (((((decide (((n16 : Nat) : Int) = 0)) = true → (((decide (x12 = 0)) = true → (((decide (x13 = 0)) = true → I19 [(.bool (decide (x12 = 0))), (.bool (decide (x13 = 0))), (.bool (!b6)), (.bool true)] h) ∧
 ((decide (x13 = 0)) = false → I19 [(.bool (decide (x12 = 0))), (.bool (decide (x13 = 0))), (.bool false), (.bool true)] h))) ∧
 ((decide (x12 = 0)) = false → I19 [(.bool (decide (x12 = 0))), (.bool false), (.bool false), (.bool true)] h))) ∧
 ((decide (((n16 : Nat) : Int) = 0)) = false → I19 [(.bool false), (.bool false), (.bool false), (.bool false)] h))) ∧
 (∀ b20 : Bool, ∀ b21 : Bool, ∀ b22 : Bool, ∀ b23 : Bool, ∀ h24 : H, (I19 [(.bool b20), (.bool b21), (.bool b22), (.bool b23)] h24) →
 I18 [(.bool b22)] h24))) ∧
 ((decide (x0 = 1)) = false → (((decide (x0 = 2)) = true → ∃ I25 : List Value → H → Prop, (((((decide (((n16 : Nat) : Int) > 1)) = true → (((decide (x12 = 0)) = true → (((decide (x13 = 0)) = true → Spec P 73 #[(.agg #[(.bool b1), (.int .u8 x2), (.slice p3 n4 n5)])] h (fun v26 h27 =>
 ∃ b28 : Bool, v26 = (.bool b28) ∧ I25 [(.bool (decide (x12 = 0))), (.bool (decide (x13 = 0))), (.bool b28), (.bool true)] h27)) ∧
 ((decide (x13 = 0)) = false → I25 [(.bool (decide (x12 = 0))), (.bool (decide (x13 = 0))), (.bool false), (.bool true)] h))) ∧
 ((decide (x12 = 0)) = false → I25 [(.bool (decide (x12 = 0))), (.bool false), (.bool false), (.bool true)] h))) ∧
 ((decide (((n16 : Nat) : Int) > 1)) = false → I25 [(.bool false), (.bool false), (.bool false), (.bool false)] h))) ∧
 (∀ b29 : Bool, ∀ b30 : Bool, ∀ b31 : Bool, ∀ b32 : Bool, ∀ h33 : H, (I25 [(.bool b29), (.bool b30), (.bool b31), (.bool b32)] h33) →
 I18 [(.bool b31)] h33))) ∧
 ((decide (x0 = 2)) = false → (((decide (x0 = 3)) = true → ∃ I34 : List Value → H → Prop, (((((decide (((n16 : Nat) : Int) > 1)) = true → (((decide (x12 = 0)) = true → (((decide (x13 = 0)) = true → Spec P 73 #[(.agg #[(.bool b1), (.int .u8 x2), (.slice p3 n4 n5)])] h (fun v35 h36 =>
 ∃ b37 : Bool, v35 = (.bool b37) ∧ ((b37 = true → I34 [(.bool (decide (x12 = 0))), (.bool (decide (x13 = 0))), (.bool b37), (.bool (!b6)), (.bool true)] h36) ∧
 (b37 = false → I34 [(.bool (decide (x12 = 0))), (.bool (decide (x13 = 0))), (.bool b37), (.bool false), (.bool true)] h36)))) ∧
 ((decide (x13 = 0)) = false → I34 [(.bool (decide (x12 = 0))), (.bool (decide (x13 = 0))), (.bool false), (.bool false), (.bool true)] h))) ∧
 ((decide (x12 = 0)) = false → I34 [(.bool (decide (x12 = 0))), (.bool false), (.bool false), (.bool false), (.bool true)] h))) ∧
 ((decide (((n16 : Nat) : Int) > 1)) = false → I34 [(.bool false), (.bool false), (.bool false), (.bool false), (.bool false)] h))) ∧
 (∀ b38 : Bool, ∀ b39 : Bool, ∀ b40 : Bool, ∀ b41 : Bool, ∀ b42 : Bool, ∀ h43 : H, (I34 [(.bool b38), (.bool b39), (.bool b40), (.bool b41), (.bool b42)] h43) →
 I18 [(.bool b41)] h43))) ∧
 ((decide (x0 = 3)) = false → (((decide (x0 = 4)) = true → ∃ I44 : List Value → H → Prop, (((((decide (((n16 : Nat) : Int) = 1)) = true → (((decide (x12 > 0)) = true → (((decide (x13 ≥ x12)) = true → (((decide (x13 < 9)) = true → Spec P 73 #[(.agg #[(.bool b1), (.int .u8 x2), (.slice p3 n4 n5)])] h (fun v45 h46 =>
 ∃ b47 : Bool, v45 = (.bool b47) ∧ I44 [(.bool (decide (x12 > 0))), (.bool (decide (x13 ≥ x12))), (.bool (decide (x13 < 9))), (.bool b47), (.bool true)] h46)) ∧
 ((decide (x13 < 9)) = false → I44 [(.bool (decide (x12 > 0))), (.bool (decide (x13 ≥ x12))), (.bool (decide (x13 < 9))), (.bool false), (.bool true)] h))) ∧
 ((decide (x13 ≥ x12)) = false → I44 [(.bool (decide (x12 > 0))), (.bool (decide (x13 ≥ x12))), (.bool false), (.bool false), (.bool true)] h))) ∧
 ((decide (x12 > 0)) = false → I44 [(.bool (decide (x12 > 0))), (.bool false), (.bool false), (.bool false), (.bool true)] h))) ∧
 ((decide (((n16 : Nat) : Int) = 1)) = false → I44 [(.bool false), (.bool false), (.bool false), (.bool false), (.bool false)] h))) ∧
 (∀ b48 : Bool, ∀ b49 : Bool, ∀ b50 : Bool, ∀ b51 : Bool, ∀ b52 : Bool, ∀ h53 : H, (I44 [(.bool b48), (.bool b49), (.bool b50), (.bool b51), (.bool b52)] h53) →
 I18 [(.bool b51)] h53))) ∧
 ((decide (x0 = 4)) = false → I18 [(.bool false)] h))))))))) ∧
 (∀ b54 : Bool, ∀ h55 : H, (I18 [(.bool b54)] h55) →
 ∃ I56 : List Value → H → Prop, ((∃ I57 : List Value → H → Prop, (((((!b6) = true → Spec P 73 #[(.agg #[(.bool b7), (.int .u8 x8), (.slice p9 n10 n11)])] h55 (fun v58 h59 =>
 ∃ b60 : Bool, v58 = (.bool b60) ∧ I57 [(.bool (!b60)), (.bool true)] h59)) ∧
 ((!b6) = false → I57 [(.bool false), (.bool false)] h55))) ∧
 (∀ b61 : Bool, ∀ b62 : Bool, ∀ h63 : H, (I57 [(.bool b61), (.bool b62)] h63) →
 ((b61 = true → I56 [(.bool false)] h63) ∧
 (b61 = false → I56 [(.bool b54)] h63))))) ∧
 (∀ b64 : Bool, ∀ h65 : H, (I56 [(.bool b64)] h65) →
 ∃ L66 : Nat → List Value → H → Prop, ((∃ k67 : Nat, L66 k67 [(.int .i64 0), (.bool b64)] h65) ∧ ∀ k67 : Nat,
 ∀ x69 : Int, ∀ b70 : Bool, ∀ h71 : H, (L66 k67 [(.int .i64 x69), (.bool b70)] h71) →
 (((decide (x69 < ((n16 : Nat) : Int))) = true → ∃ I72 : List Value → H → Prop, ((((b70 = true → ∃ a73 : Addr, p15 = some a73 ∧ ((0 : Int) ≤ x69 ∧ (x69 : Int) < ((n16 : Nat) : Int)) ∧ ∃ x74 : Int, cell h71 ((aidx a73 0 x69 12).add 0) = some (.int .u8 x74) ∧ ∃ b75 : Bool, cell h71 ((aidx a73 0 x69 12).add 1) = some (.bool b75) ∧ ∃ x76 : Int, cell h71 ((aidx a73 0 x69 12).add 2) = some (.int .u8 x76) ∧ ∃ p77 : Option Addr, ∃ n78 : Nat, ∃ n79 : Nat, cell h71 ((aidx a73 0 x69 12).add 3) = some (.slice p77 n78 n79) ∧ ∃ b80 : Bool, cell h71 ((aidx a73 0 x69 12).add 4) = some (.bool b80) ∧ ∃ b81 : Bool, cell h71 ((aidx a73 0 x69 12).add 5) = some (.bool b81) ∧ ∃ x82 : Int, cell h71 ((aidx a73 0 x69 12).add 6) = some (.int .u8 x82) ∧ ∃ p83 : Option Addr, ∃ n84 : Nat, ∃ n85 : Nat, cell h71 ((aidx a73 0 x69 12).add 7) = some (.slice p83 n84 n85) ∧ ∃ x86 : Int, cell h71 ((aidx a73 0 x69 12).add 8) = some (.int .u8 x86) ∧ ∃ x87 : Int, cell h71 ((aidx a73 0 x69 12).add 9) = some (.int .u8 x87) ∧ ∃ x88 : Int, cell h71 ((aidx a73 0 x69 12).add 10) = some (.int .i64 x88) ∧ ∃ p89 : Option Addr, ∃ n90 : Nat, ∃ n91 : Nat, cell h71 ((aidx a73 0 x69 12).add 11) = some (.slice p89 n90 n91) ∧ Spec P 49 #[(.agg #[(.int .u8 x74), (.bool b75), (.int .u8 x76), (.slice p77 n78 n79), (.bool b80), (.bool b81), (.int .u8 x82), (.slice p83 n84 n85), (.int .u8 x86), (.int .u8 x87), (.int .i64 x88), (.slice p89 n90 n91)])] h71 (fun v92 h93 =>
 ∃ b94 : Bool, v92 = (.bool b94) ∧ I72 [(.bool b94), (.bool true)] h93)) ∧
 (b70 = false → I72 [(.bool false), (.bool false)] h71))) ∧
 (∀ b95 : Bool, ∀ b96 : Bool, ∀ h97 : H, (I72 [(.bool b95), (.bool b96)] h97) →
 (∃ j68 : Nat, j68 < k67 ∧ L66 j68 [(.int .i64 (IntKind.wrap .i64 (x69 + 1))), (.bool b95)] h97)))) ∧
 ((decide (x69 < ((n16 : Nat) : Int))) = false → K (.bool b70) h71)))))))

theorem e_ref11_T_formed (x0 : Int) (b1 : Bool) (x2 : Int) (p3 : Option Addr) (n4 n5 : Nat) (b6 : Bool) (b7 : Bool) (x8 : Int) (p9 : Option Addr) (n10 n11 : Nat) (x12 : Int) (x13 : Int) (x14 : Int) (p15 : Option Addr) (n16 n17 : Nat) (h : H) (K : Value → H → Prop) : liftFn P (semAlg P K) 49 [(.agg [(.int .u8 x0), (.bool b1), (.int .u8 x2), (.slice p3 n4 n5), (.bool b6), (.bool b7), (.int .u8 x8), (.slice p9 n10 n11), (.int .u8 x12), (.int .u8 x13), (.int .i64 x14), (.slice p15 n16 n17)])] h = f_ref11_T_formed x0 b1 x2 p3 n4 n5 b6 b7 x8 p9 n10 n11 x12 x13 x14 p15 n16 n17 h K := by kernel_rfl

theorem s_ref11_T_formed {x0 : Int} {b1 : Bool} {x2 : Int} {p3 : Option Addr} {n4 n5 : Nat} {b6 : Bool} {b7 : Bool} {x8 : Int} {p9 : Option Addr} {n10 n11 : Nat} {x12 : Int} {x13 : Int} {x14 : Int} {p15 : Option Addr} {n16 n17 : Nat} {h : H} {K : Value → H → Prop} (hf : f_ref11_T_formed x0 b1 x2 p3 n4 n5 b6 b7 x8 p9 n10 n11 x12 x13 x14 p15 n16 n17 h K) : Spec P 49 #[(.agg #[(.int .u8 x0), (.bool b1), (.int .u8 x2), (.slice p3 n4 n5), (.bool b6), (.bool b7), (.int .u8 x8), (.slice p9 n10 n11), (.int .u8 x12), (.int .u8 x13), (.int .i64 x14), (.slice p15 n16 n17)])] h K :=
  lift_sound mixed (args := [(.agg [(.int .u8 x0), (.bool b1), (.int .u8 x2), (.slice p3 n4 n5), (.bool b6), (.bool b7), (.int .u8 x8), (.slice p9 n10 n11), (.int .u8 x12), (.int .u8 x13), (.int .i64 x14), (.slice p15 n16 n17)])]) (by rw [e_ref11_T_formed]; exact hf)

/-- (equerry/equerryref11.T).Depth -/
def f_ref11_T_Depth (x0 : Int) (b1 : Bool) (x2 : Int) (p3 : Option Addr) (n4 n5 : Nat) (b6 : Bool) (b7 : Bool) (x8 : Int) (p9 : Option Addr) (n10 n11 : Nat) (x12 : Int) (x13 : Int) (x14 : Int) (p15 : Option Addr) (n16 n17 : Nat) (h : H) (K : Value → H → Prop) : Prop :=
 ∃ L18 : Nat → List Value → H → Prop, ((∃ k19 : Nat, L18 k19 [(.int .i64 0), (.int .i64 0)] h) ∧ ∀ k19 : Nat,
 ∀ x21 : Int, ∀ x22 : Int, ∀ h23 : H, (L18 k19 [(.int .i64 x21), (.int .i64 x22)] h23) →
 (((decide (x21 < ((n16 : Nat) : Int))) = true → ∃ a24 : Addr, p15 = some a24 ∧ ((0 : Int) ≤ x21 ∧ (x21 : Int) < ((n16 : Nat) : Int)) ∧ ∃ x25 : Int, cell h23 ((aidx a24 0 x21 12).add 0) = some (.int .u8 x25) ∧ ∃ b26 : Bool, cell h23 ((aidx a24 0 x21 12).add 1) = some (.bool b26) ∧ ∃ x27 : Int, cell h23 ((aidx a24 0 x21 12).add 2) = some (.int .u8 x27) ∧ ∃ p28 : Option Addr, ∃ n29 : Nat, ∃ n30 : Nat, cell h23 ((aidx a24 0 x21 12).add 3) = some (.slice p28 n29 n30) ∧ ∃ b31 : Bool, cell h23 ((aidx a24 0 x21 12).add 4) = some (.bool b31) ∧ ∃ b32 : Bool, cell h23 ((aidx a24 0 x21 12).add 5) = some (.bool b32) ∧ ∃ x33 : Int, cell h23 ((aidx a24 0 x21 12).add 6) = some (.int .u8 x33) ∧ ∃ p34 : Option Addr, ∃ n35 : Nat, ∃ n36 : Nat, cell h23 ((aidx a24 0 x21 12).add 7) = some (.slice p34 n35 n36) ∧ ∃ x37 : Int, cell h23 ((aidx a24 0 x21 12).add 8) = some (.int .u8 x37) ∧ ∃ x38 : Int, cell h23 ((aidx a24 0 x21 12).add 9) = some (.int .u8 x38) ∧ ∃ x39 : Int, cell h23 ((aidx a24 0 x21 12).add 10) = some (.int .i64 x39) ∧ ∃ p40 : Option Addr, ∃ n41 : Nat, ∃ n42 : Nat, cell h23 ((aidx a24 0 x21 12).add 11) = some (.slice p40 n41 n42) ∧ Spec P 51 #[(.agg #[(.int .u8 x25), (.bool b26), (.int .u8 x27), (.slice p28 n29 n30), (.bool b31), (.bool b32), (.int .u8 x33), (.slice p34 n35 n36), (.int .u8 x37), (.int .u8 x38), (.int .i64 x39), (.slice p40 n41 n42)])] h23 (fun v43 h44 =>
 ∃ x45 : Int, v43 = (.int .i64 x45) ∧ (∃ j20 : Nat, j20 < k19 ∧ L18 j20 [(.int .i64 (IntKind.wrap .i64 (x21 + 1))), (.int .i64 (max x22 (IntKind.wrap .i64 (1 + x45))))] h44))) ∧
 ((decide (x21 < ((n16 : Nat) : Int))) = false → K (.int .i64 x22) h23)))

theorem e_ref11_T_Depth (x0 : Int) (b1 : Bool) (x2 : Int) (p3 : Option Addr) (n4 n5 : Nat) (b6 : Bool) (b7 : Bool) (x8 : Int) (p9 : Option Addr) (n10 n11 : Nat) (x12 : Int) (x13 : Int) (x14 : Int) (p15 : Option Addr) (n16 n17 : Nat) (h : H) (K : Value → H → Prop) : liftFn P (semAlg P K) 51 [(.agg [(.int .u8 x0), (.bool b1), (.int .u8 x2), (.slice p3 n4 n5), (.bool b6), (.bool b7), (.int .u8 x8), (.slice p9 n10 n11), (.int .u8 x12), (.int .u8 x13), (.int .i64 x14), (.slice p15 n16 n17)])] h = f_ref11_T_Depth x0 b1 x2 p3 n4 n5 b6 b7 x8 p9 n10 n11 x12 x13 x14 p15 n16 n17 h K := by kernel_rfl

theorem s_ref11_T_Depth {x0 : Int} {b1 : Bool} {x2 : Int} {p3 : Option Addr} {n4 n5 : Nat} {b6 : Bool} {b7 : Bool} {x8 : Int} {p9 : Option Addr} {n10 n11 : Nat} {x12 : Int} {x13 : Int} {x14 : Int} {p15 : Option Addr} {n16 n17 : Nat} {h : H} {K : Value → H → Prop} (hf : f_ref11_T_Depth x0 b1 x2 p3 n4 n5 b6 b7 x8 p9 n10 n11 x12 x13 x14 p15 n16 n17 h K) : Spec P 51 #[(.agg #[(.int .u8 x0), (.bool b1), (.int .u8 x2), (.slice p3 n4 n5), (.bool b6), (.bool b7), (.int .u8 x8), (.slice p9 n10 n11), (.int .u8 x12), (.int .u8 x13), (.int .i64 x14), (.slice p15 n16 n17)])] h K :=
  lift_sound mixed (args := [(.agg [(.int .u8 x0), (.bool b1), (.int .u8 x2), (.slice p3 n4 n5), (.bool b6), (.bool b7), (.int .u8 x8), (.slice p9 n10 n11), (.int .u8 x12), (.int .u8 x13), (.int .i64 x14), (.slice p15 n16 n17)])]) (by rw [e_ref11_T_Depth]; exact hf)

/-- (equerry/equerryref11.T).Places -/
def f_ref11_T_Places (x0 : Int) (b1 : Bool) (x2 : Int) (p3 : Option Addr) (n4 n5 : Nat) (b6 : Bool) (b7 : Bool) (x8 : Int) (p9 : Option Addr) (n10 n11 : Nat) (x12 : Int) (x13 : Int) (x14 : Int) (p15 : Option Addr) (n16 n17 : Nat) (h : H) (K : Value → H → Prop) : Prop :=
 (((decide (((n16 : Nat) : Int) = 0)) = true → K (.int .i64 1) h) ∧
 ((decide (((n16 : Nat) : Int) = 0)) = false → ∃ L18 : Nat → List Value → H → Prop, ((∃ k19 : Nat, L18 k19 [(.int .i64 0), (.int .i64 0)] h) ∧ ∀ k19 : Nat,
 ∀ x21 : Int, ∀ x22 : Int, ∀ h23 : H, (L18 k19 [(.int .i64 x21), (.int .i64 x22)] h23) →
 (((decide (x21 < ((n16 : Nat) : Int))) = true → ∃ a24 : Addr, p15 = some a24 ∧ ((0 : Int) ≤ x21 ∧ (x21 : Int) < ((n16 : Nat) : Int)) ∧ ∃ x25 : Int, cell h23 ((aidx a24 0 x21 12).add 0) = some (.int .u8 x25) ∧ ∃ b26 : Bool, cell h23 ((aidx a24 0 x21 12).add 1) = some (.bool b26) ∧ ∃ x27 : Int, cell h23 ((aidx a24 0 x21 12).add 2) = some (.int .u8 x27) ∧ ∃ p28 : Option Addr, ∃ n29 : Nat, ∃ n30 : Nat, cell h23 ((aidx a24 0 x21 12).add 3) = some (.slice p28 n29 n30) ∧ ∃ b31 : Bool, cell h23 ((aidx a24 0 x21 12).add 4) = some (.bool b31) ∧ ∃ b32 : Bool, cell h23 ((aidx a24 0 x21 12).add 5) = some (.bool b32) ∧ ∃ x33 : Int, cell h23 ((aidx a24 0 x21 12).add 6) = some (.int .u8 x33) ∧ ∃ p34 : Option Addr, ∃ n35 : Nat, ∃ n36 : Nat, cell h23 ((aidx a24 0 x21 12).add 7) = some (.slice p34 n35 n36) ∧ ∃ x37 : Int, cell h23 ((aidx a24 0 x21 12).add 8) = some (.int .u8 x37) ∧ ∃ x38 : Int, cell h23 ((aidx a24 0 x21 12).add 9) = some (.int .u8 x38) ∧ ∃ x39 : Int, cell h23 ((aidx a24 0 x21 12).add 10) = some (.int .i64 x39) ∧ ∃ p40 : Option Addr, ∃ n41 : Nat, ∃ n42 : Nat, cell h23 ((aidx a24 0 x21 12).add 11) = some (.slice p40 n41 n42) ∧ Spec P 13 #[(.agg #[(.int .u8 x25), (.bool b26), (.int .u8 x27), (.slice p28 n29 n30), (.bool b31), (.bool b32), (.int .u8 x33), (.slice p34 n35 n36), (.int .u8 x37), (.int .u8 x38), (.int .i64 x39), (.slice p40 n41 n42)])] h23 (fun v43 h44 =>
 ∃ x45 : Int, v43 = (.int .i64 x45) ∧ (∃ j20 : Nat, j20 < k19 ∧ L18 j20 [(.int .i64 (IntKind.wrap .i64 (x21 + 1))), (.int .i64 (IntKind.wrap .i64 (x22 + x45)))] h44))) ∧
 ((decide (x21 < ((n16 : Nat) : Int))) = false → ∃ I46 : List Value → H → Prop, (((((decide (x0 = 4)) = true → I46 [(.int .i64 (IntKind.wrap .i64 (x22 * (IntKind.wrap .i64 x13))))] h23) ∧
 ((decide (x0 = 4)) = false → I46 [(.int .i64 x22)] h23))) ∧
 (∀ x47 : Int, ∀ h48 : H, (I46 [(.int .i64 x47)] h48) →
 K (.int .i64 x47) h48)))))))

theorem e_ref11_T_Places (x0 : Int) (b1 : Bool) (x2 : Int) (p3 : Option Addr) (n4 n5 : Nat) (b6 : Bool) (b7 : Bool) (x8 : Int) (p9 : Option Addr) (n10 n11 : Nat) (x12 : Int) (x13 : Int) (x14 : Int) (p15 : Option Addr) (n16 n17 : Nat) (h : H) (K : Value → H → Prop) : liftFn P (semAlg P K) 13 [(.agg [(.int .u8 x0), (.bool b1), (.int .u8 x2), (.slice p3 n4 n5), (.bool b6), (.bool b7), (.int .u8 x8), (.slice p9 n10 n11), (.int .u8 x12), (.int .u8 x13), (.int .i64 x14), (.slice p15 n16 n17)])] h = f_ref11_T_Places x0 b1 x2 p3 n4 n5 b6 b7 x8 p9 n10 n11 x12 x13 x14 p15 n16 n17 h K := by kernel_rfl

theorem s_ref11_T_Places {x0 : Int} {b1 : Bool} {x2 : Int} {p3 : Option Addr} {n4 n5 : Nat} {b6 : Bool} {b7 : Bool} {x8 : Int} {p9 : Option Addr} {n10 n11 : Nat} {x12 : Int} {x13 : Int} {x14 : Int} {p15 : Option Addr} {n16 n17 : Nat} {h : H} {K : Value → H → Prop} (hf : f_ref11_T_Places x0 b1 x2 p3 n4 n5 b6 b7 x8 p9 n10 n11 x12 x13 x14 p15 n16 n17 h K) : Spec P 13 #[(.agg #[(.int .u8 x0), (.bool b1), (.int .u8 x2), (.slice p3 n4 n5), (.bool b6), (.bool b7), (.int .u8 x8), (.slice p9 n10 n11), (.int .u8 x12), (.int .u8 x13), (.int .i64 x14), (.slice p15 n16 n17)])] h K :=
  lift_sound mixed (args := [(.agg [(.int .u8 x0), (.bool b1), (.int .u8 x2), (.slice p3 n4 n5), (.bool b6), (.bool b7), (.int .u8 x8), (.slice p9 n10 n11), (.int .u8 x12), (.int .u8 x13), (.int .i64 x14), (.slice p15 n16 n17)])]) (by rw [e_ref11_T_Places]; exact hf)

/-- equerry/equerryref11.May -/
def f_ref11_May (p0 : Option Addr) (n1 n2 : Nat) (x3 : Int) (h : H) (K : Value → H → Prop) : Prop :=
 (((decide (((n1 : Nat) : Int) > 32)) = true → K (.int .i64 12) h) ∧
 ((decide (((n1 : Nat) : Int) > 32)) = false → Spec P 12 #[(.slice p0 n1 n2)] h (fun v4 h5 =>
 ∃ x6 : Int, ∃ b7 : Bool, ∃ x8 : Int, ∃ p9 : Option Addr, ∃ n10 : Nat, ∃ n11 : Nat, ∃ b12 : Bool, ∃ b13 : Bool, ∃ x14 : Int, ∃ p15 : Option Addr, ∃ n16 : Nat, ∃ n17 : Nat, ∃ x18 : Int, ∃ x19 : Int, ∃ x20 : Int, ∃ p21 : Option Addr, ∃ n22 : Nat, ∃ n23 : Nat, ∃ b24 : Bool, v4 = (.tuple #[(.agg #[(.int .u8 x6), (.bool b7), (.int .u8 x8), (.slice p9 n10 n11), (.bool b12), (.bool b13), (.int .u8 x14), (.slice p15 n16 n17), (.int .u8 x18), (.int .u8 x19), (.int .i64 x20), (.slice p21 n22 n23)]), (.bool b24)]) ∧ ∃ I25 : List Value → H → Prop, (((((!b24) = true → I25 [(.bool true), (.bool true)] h5) ∧
 ((!b24) = false → Spec P 49 #[(.agg #[(.int .u8 x6), (.bool b7), (.int .u8 x8), (.slice p9 n10 n11), (.bool b12), (.bool b13), (.int .u8 x14), (.slice p15 n16 n17), (.int .u8 x18), (.int .u8 x19), (.int .i64 x20), (.slice p21 n22 n23)])] h5 (fun v26 h27 =>
 ∃ b28 : Bool, v26 = (.bool b28) ∧ I25 [(.bool (!b28)), (.bool false)] h27)))) ∧
 (∀ b29 : Bool, ∀ b30 : Bool, ∀ h31 : H, (I25 [(.bool b29), (.bool b30)] h31) →
 ((b29 = true → K (.int .i64 2) h31) ∧
 (b29 = false → ∃ L32 : Nat → List Value → H → Prop, ((∃ k33 : Nat, L32 k33 [(.int .i64 0), (.int .i64 0)] h31) ∧ ∀ k33 : Nat,
 ∀ x35 : Int, ∀ x36 : Int, ∀ h37 : H, (L32 k33 [(.int .i64 x35), (.int .i64 x36)] h37) →
 (((decide (x35 < ((n1 : Nat) : Int))) = true → ∃ a38 : Addr, p0 = some a38 ∧ ((0 : Int) ≤ x35 ∧ (x35 : Int) < ((n1 : Nat) : Int)) ∧ ∃ b39 : Bool, cell h37 ((aidx a38 0 x35 11).add 1) = some (.bool b39) ∧ ∃ x40 : Int, cell h37 ((aidx a38 0 x35 11).add 2) = some (.int .u8 x40) ∧ ∃ p41 : Option Addr, ∃ n42 : Nat, ∃ n43 : Nat, cell h37 ((aidx a38 0 x35 11).add 3) = some (.slice p41 n42 n43) ∧ Spec P 50 #[(.agg #[(.bool b39), (.int .u8 x40), (.slice p41 n42 n43)])] h37 (fun v44 h45 =>
 ∃ b46 : Bool, v44 = (.bool b46) ∧ ∃ I47 : List Value → H → Prop, (((((!b46) = true → I47 [(.bool true), (.bool true)] h45) ∧
 ((!b46) = false → ∃ a48 : Addr, p0 = some a48 ∧ ((0 : Int) ≤ x35 ∧ (x35 : Int) < ((n1 : Nat) : Int)) ∧ ∃ b49 : Bool, cell h45 ((aidx a48 0 x35 11).add 5) = some (.bool b49) ∧ ∃ x50 : Int, cell h45 ((aidx a48 0 x35 11).add 6) = some (.int .u8 x50) ∧ ∃ p51 : Option Addr, ∃ n52 : Nat, ∃ n53 : Nat, cell h45 ((aidx a48 0 x35 11).add 7) = some (.slice p51 n52 n53) ∧ Spec P 50 #[(.agg #[(.bool b49), (.int .u8 x50), (.slice p51 n52 n53)])] h45 (fun v54 h55 =>
 ∃ b56 : Bool, v54 = (.bool b56) ∧ I47 [(.bool (!b56)), (.bool false)] h55)))) ∧
 (∀ b57 : Bool, ∀ b58 : Bool, ∀ h59 : H, (I47 [(.bool b57), (.bool b58)] h59) →
 ((b57 = true → K (.int .i64 1) h59) ∧
 (b57 = false → (∃ j34 : Nat, j34 < k33 ∧ L32 j34 [(.int .i64 (IntKind.wrap .i64 (x35 + 1))), (.int .i64 x36)] h59))))))) ∧
 ((decide (x35 < ((n1 : Nat) : Int))) = false → Spec P 51 #[(.agg #[(.int .u8 x6), (.bool b7), (.int .u8 x8), (.slice p9 n10 n11), (.bool b12), (.bool b13), (.int .u8 x14), (.slice p15 n16 n17), (.int .u8 x18), (.int .u8 x19), (.int .i64 x20), (.slice p21 n22 n23)])] h37 (fun v60 h61 =>
 ∃ x62 : Int, v60 = (.int .i64 x62) ∧ (((decide (x62 > 8)) = true → K (.int .i64 16) h61) ∧
 ((decide (x62 > 8)) = false → ∃ I63 : List Value → H → Prop, (((((decide (x3 = 0)) = true → I63 [(.bool true), (.bool true)] h61) ∧
 ((decide (x3 = 0)) = false → I63 [(.bool (decide (x3 > 1048576))), (.bool false)] h61))) ∧
 (∀ b64 : Bool, ∀ b65 : Bool, ∀ h66 : H, (I63 [(.bool b64), (.bool b65)] h66) →
 ((b64 = true → K (.int .i64 5) h66) ∧
 (b64 = false → Spec P 13 #[(.agg #[(.int .u8 x6), (.bool b7), (.int .u8 x8), (.slice p9 n10 n11), (.bool b12), (.bool b13), (.int .u8 x14), (.slice p15 n16 n17), (.int .u8 x18), (.int .u8 x19), (.int .i64 x20), (.slice p21 n22 n23)])] h66 (fun v67 h68 =>
 ∃ x69 : Int, v67 = (.int .i64 x69) ∧ (((decide (x69 > 32)) = true → K (.int .i64 4) h68) ∧
 ((decide (x69 > 32)) = false → K (.int .i64 0) h68))))))))))))))))))))

theorem e_ref11_May (p0 : Option Addr) (n1 n2 : Nat) (x3 : Int) (h : H) (K : Value → H → Prop) : liftFn P (semAlg P K) 25 [(.agg [(.slice p0 n1 n2), (.int .u64 x3)])] h = f_ref11_May p0 n1 n2 x3 h K := by kernel_rfl

theorem s_ref11_May {p0 : Option Addr} {n1 n2 : Nat} {x3 : Int} {h : H} {K : Value → H → Prop} (hf : f_ref11_May p0 n1 n2 x3 h K) : Spec P 25 #[(.agg #[(.slice p0 n1 n2), (.int .u64 x3)])] h K :=
  lift_sound mixed (args := [(.agg [(.slice p0 n1 n2), (.int .u64 x3)])]) (by rw [e_ref11_May]; exact hf)

/-- equerry/equerrylaw11.Two -/
def f_law11_Two (x0 : Int) (x1 : Int) (h : H) (K : Value → H → Prop) : Prop :=
 ∀ n2 : Nat, h n2 = none → ∀ h3 : H, h3 = (hnew h n2 (.cells #[(.int .u8 2), (.bool false), (.int .u8 0), (.slice none 0 0), (.bool false), (.bool false), (.int .u8 0), (.slice none 0 0), (.int .u8 0), (.int .u8 0), (.int .i64 2), (.int .u8 1), (.bool false), (.int .u8 x0), (.slice none 0 0), (.bool false), (.bool false), (.int .u8 0), (.slice none 0 0), (.int .u8 0), (.int .u8 0), (.int .i64 0), (.int .u8 1), (.bool false), (.int .u8 x1), (.slice none 0 0), (.bool false), (.bool false), (.int .u8 0), (.slice none 0 0), (.int .u8 0), (.int .u8 0), (.int .i64 0)] 51 (0, 0))) →
 K (.agg #[(.slice (some ((blk n2).add 0)) 3 3), (.int .u64 10)]) h3

theorem e_law11_Two (x0 : Int) (x1 : Int) (h : H) (K : Value → H → Prop) : liftFn P (semAlg P K) 16 [(.int .u8 x0), (.int .u8 x1)] h = f_law11_Two x0 x1 h K := by kernel_rfl

theorem s_law11_Two {x0 : Int} {x1 : Int} {h : H} {K : Value → H → Prop} (hf : f_law11_Two x0 x1 h K) : Spec P 16 #[(.int .u8 x0), (.int .u8 x1)] h K :=
  lift_sound mixed (args := [(.int .u8 x0), (.int .u8 x1)]) (by rw [e_law11_Two]; exact hf)

end Pt

