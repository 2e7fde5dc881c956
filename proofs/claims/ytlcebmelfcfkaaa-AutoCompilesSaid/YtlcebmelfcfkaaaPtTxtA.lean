/- The lifted texts of the functions, each held against the program. -/
import Derived.Test.YtlcebmelfcfkaaaLfSnd8
import Derived.Test.YtlcebmelfcfkaaaPtNum
namespace Pt
open Go Lf
set_option maxRecDepth 10000

/-- equerry/equerryref04.Same -/
def f_ref04_Same (x0 : Int) (x1 : Int) (n2 : Nat) (s3 : ByteArray) (x4 : Int) (x5 : Int) (n6 : Nat) (s7 : ByteArray) (h : H) (K : Value → H → Prop) : Prop :=
 (((!decide (x0 = x4)) = true → K (.bool false) h) ∧
 ((!decide (x0 = x4)) = false → (((decide (x0 = 1)) = true → K (.bool (decide (x1 = x5))) h) ∧
 ((decide (x0 = 1)) = false → (((decide (x0 = 2)) = true → Spec P 75 #[(.float .f64 n2)] h (fun v8 h9 =>
 ∃ b10 : Bool, ∃ x11 : Int, ∃ x12 : Int, v8 = (.agg #[(.bool b10), (.int .i64 x11), (.int .u64 x12)]) ∧ (Le h h9) ∧ Spec P 76 #[(.agg #[(.bool b10), (.int .i64 x11), (.int .u64 x12)])] h9 (fun v13 h14 =>
 ∃ x15 : Int, v13 = (.int .u64 x15) ∧ (Le h h14) ∧ Spec P 75 #[(.float .f64 n6)] h14 (fun v16 h17 =>
 ∃ b18 : Bool, ∃ x19 : Int, ∃ x20 : Int, v16 = (.agg #[(.bool b18), (.int .i64 x19), (.int .u64 x20)]) ∧ Spec P 76 #[(.agg #[(.bool b18), (.int .i64 x19), (.int .u64 x20)])] h17 (fun v21 h22 =>
 ∃ x23 : Int, v21 = (.int .u64 x23) ∧ K (.bool (decide (x15 = x23))) h22))))) ∧
 ((decide (x0 = 2)) = false → (((decide (x0 = 3)) = true → K (.bool (scmpF .eql s3 s7)) h) ∧
 ((decide (x0 = 3)) = false → K (.bool true) h))))))))

theorem e_ref04_Same (x0 : Int) (x1 : Int) (n2 : Nat) (s3 : ByteArray) (x4 : Int) (x5 : Int) (n6 : Nat) (s7 : ByteArray) (h : H) (K : Value → H → Prop) : liftFn P (semAlg P K) 52 [(.agg [(.int .u8 x0), (.int .i64 x1), (.flt .f64 n2), (.str s3)]), (.agg [(.int .u8 x4), (.int .i64 x5), (.flt .f64 n6), (.str s7)])] h = f_ref04_Same x0 x1 n2 s3 x4 x5 n6 s7 h K := by kernel_rfl

theorem s_ref04_Same {x0 : Int} {x1 : Int} {n2 : Nat} {s3 : ByteArray} {x4 : Int} {x5 : Int} {n6 : Nat} {s7 : ByteArray} {h : H} {K : Value → H → Prop} (hf : f_ref04_Same x0 x1 n2 s3 x4 x5 n6 s7 h K) : Spec P 52 #[(.agg #[(.int .u8 x0), (.int .i64 x1), (.float .f64 n2), (.string s3)]), (.agg #[(.int .u8 x4), (.int .i64 x5), (.float .f64 n6), (.string s7)])] h K :=
  lift_sound mixed (args := [(.agg [(.int .u8 x0), (.int .i64 x1), (.flt .f64 n2), (.str s3)]), (.agg [(.int .u8 x4), (.int .i64 x5), (.flt .f64 n6), (.str s7)])]) (by rw [e_ref04_Same]; exact hf)

/-- equerry/equerryref02.OfBits -/
def f_ref02_OfBits (x0 : Int) (h : H) (K : Value → H → Prop) : Prop :=
 K (.agg #[(.bool (decide (x0 ≥ 9223372036854775808))), (.int .i64 (IntKind.wrap .i64 (Int.tmod (IntKind.wrap .u64 (Int.tdiv x0 4503599627370496)) 2048))), (.int .u64 (Int.tmod x0 4503599627370496))]) h

theorem e_ref02_OfBits (x0 : Int) (h : H) (K : Value → H → Prop) : liftFn P (semAlg P K) 88 [(.int .u64 x0)] h = f_ref02_OfBits x0 h K := by kernel_rfl

theorem s_ref02_OfBits {x0 : Int} {h : H} {K : Value → H → Prop} (hf : f_ref02_OfBits x0 h K) : Spec P 88 #[(.int .u64 x0)] h K :=
  lift_sound mixed (args := [(.int .u64 x0)]) (by rw [e_ref02_OfBits]; exact hf)

/-- equerry/equerryref02.Of -/
def f_ref02_Of (n0 : Nat) (h : H) (K : Value → H → Prop) : Prop :=
 RunL P (X.sem (.ext 89 [(.float .f64 n0)])) h (fun v1 h2 =>
 ∃ x3 : Int, v1 = (.int .u64 x3) ∧ Spec P 88 #[(.int .u64 x3)] h2 (fun v4 h5 =>
 ∃ b6 : Bool, ∃ x7 : Int, ∃ x8 : Int, v4 = (.agg #[(.bool b6), (.int .i64 x7), (.int .u64 x8)]) ∧ K (.agg #[(.bool b6), (.int .i64 x7), (.int .u64 x8)]) h5))

theorem e_ref02_Of (n0 : Nat) (h : H) (K : Value → H → Prop) : liftFn P (semAlg P K) 75 [(.flt .f64 n0)] h = f_ref02_Of n0 h K := by kernel_rfl

theorem s_ref02_Of {n0 : Nat} {h : H} {K : Value → H → Prop} (hf : f_ref02_Of n0 h K) : Spec P 75 #[(.float .f64 n0)] h K :=
  lift_sound mixed (args := [(.flt .f64 n0)]) (by rw [e_ref02_Of]; exact hf)

/-- (equerry/equerryref02.Parts).NaN -/
def f_ref02_Parts_NaN (b0 : Bool) (x1 : Int) (x2 : Int) (h : H) (K : Value → H → Prop) : Prop :=
 ∃ I3 : List Value → H → Prop, (((((decide (x1 = 2047)) = true → I3 [(.bool (!decide (x2 = 0))), (.bool true)] h) ∧
 ((decide (x1 = 2047)) = false → I3 [(.bool false), (.bool false)] h))) ∧
 (∀ b4 : Bool, ∀ b5 : Bool, ∀ h6 : H, (I3 [(.bool b4), (.bool b5)] h6) →
 K (.bool b4) h6))

theorem e_ref02_Parts_NaN (b0 : Bool) (x1 : Int) (x2 : Int) (h : H) (K : Value → H → Prop) : liftFn P (semAlg P K) 90 [(.agg [(.bool b0), (.int .i64 x1), (.int .u64 x2)])] h = f_ref02_Parts_NaN b0 x1 x2 h K := by kernel_rfl

theorem s_ref02_Parts_NaN {b0 : Bool} {x1 : Int} {x2 : Int} {h : H} {K : Value → H → Prop} (hf : f_ref02_Parts_NaN b0 x1 x2 h K) : Spec P 90 #[(.agg #[(.bool b0), (.int .i64 x1), (.int .u64 x2)])] h K :=
  lift_sound mixed (args := [(.agg [(.bool b0), (.int .i64 x1), (.int .u64 x2)])]) (by rw [e_ref02_Parts_NaN]; exact hf)

/-- (equerry/equerryref02.Parts).Bits -/
def f_ref02_Parts_Bits (b0 : Bool) (x1 : Int) (x2 : Int) (h : H) (K : Value → H → Prop) : Prop :=
 Spec P 90 #[(.agg #[(.bool b0), (.int .i64 x1), (.int .u64 x2)])] h (fun v3 h4 =>
 ∃ b5 : Bool, v3 = (.bool b5) ∧ ((b5 = true → K (.int .u64 9221120237041090560) h4) ∧
 (b5 = false → ∃ I6 : List Value → H → Prop, ((((b0 = true → I6 [(.int .u64 (IntKind.wrap .u64 ((IntKind.wrap .u64 ((IntKind.wrap .u64 ((IntKind.wrap .u64 x1) * 4503599627370496)) + x2)) + 9223372036854775808)))] h4) ∧
 (b0 = false → I6 [(.int .u64 (IntKind.wrap .u64 ((IntKind.wrap .u64 ((IntKind.wrap .u64 x1) * 4503599627370496)) + x2)))] h4))) ∧
 (∀ x7 : Int, ∀ h8 : H, (I6 [(.int .u64 x7)] h8) →
 K (.int .u64 x7) h8)))))

theorem e_ref02_Parts_Bits (b0 : Bool) (x1 : Int) (x2 : Int) (h : H) (K : Value → H → Prop) : liftFn P (semAlg P K) 76 [(.agg [(.bool b0), (.int .i64 x1), (.int .u64 x2)])] h = f_ref02_Parts_Bits b0 x1 x2 h K := by kernel_rfl

theorem s_ref02_Parts_Bits {b0 : Bool} {x1 : Int} {x2 : Int} {h : H} {K : Value → H → Prop} (hf : f_ref02_Parts_Bits b0 x1 x2 h K) : Spec P 76 #[(.agg #[(.bool b0), (.int .i64 x1), (.int .u64 x2)])] h K :=
  lift_sound mixed (args := [(.agg [(.bool b0), (.int .i64 x1), (.int .u64 x2)])]) (by rw [e_ref02_Parts_Bits]; exact hf)

/-- equerry/equerryref10.Same -/
def f_ref10_Same (b0 : Bool) (x1 : Int) (p2 : Option Addr) (n3 n4 : Nat) (b5 : Bool) (x6 : Int) (p7 : Option Addr) (n8 n9 : Nat) (h : H) (K : Value → H → Prop) : Prop :=
 ∃ I10 : List Value → H → Prop, (((((!(b0 == b5)) = true → I10 [(.bool true), (.bool true), (.bool true)] h) ∧
 ((!(b0 == b5)) = false → (((!decide (x1 = x6)) = true → I10 [(.bool (!decide (x1 = x6))), (.bool true), (.bool false)] h) ∧
 ((!decide (x1 = x6)) = false → I10 [(.bool (!decide (x1 = x6))), (.bool (!decide (((n3 : Nat) : Int) = ((n8 : Nat) : Int)))), (.bool false)] h))))) ∧
 (∀ b11 : Bool, ∀ b12 : Bool, ∀ b13 : Bool, ∀ h14 : H, (I10 [(.bool b11), (.bool b12), (.bool b13)] h14) →
 ((b12 = true → K (.bool false) h14) ∧
 (b12 = false → ∃ L15 : Nat → List Value → H → Prop, ((∃ k16 : Nat, L15 k16 [(.int .i64 0), (.bool false)] h14) ∧ ∀ k16 : Nat,
 ∀ x18 : Int, ∀ b19 : Bool, ∀ h20 : H, (L15 k16 [(.int .i64 x18), (.bool b19)] h20) →
 (((decide (x18 < ((n3 : Nat) : Int))) = true → ∃ I21 : List Value → H → Prop, ((∃ a22 : Addr, p2 = some a22 ∧ ((0 : Int) ≤ x18 ∧ (x18 : Int) < ((n3 : Nat) : Int)) ∧ ∃ x23 : Int, cell h20 ((aidx a22 0 x18 6).add 0) = some (.int .u8 x23) ∧ ∃ a24 : Addr, p7 = some a24 ∧ ((0 : Int) ≤ x18 ∧ (x18 : Int) < ((n8 : Nat) : Int)) ∧ ∃ x25 : Int, cell h20 ((aidx a24 0 x18 6).add 0) = some (.int .u8 x25) ∧ (((!decide (x23 = x25)) = true → I21 [(.bool true), (.bool true)] h20) ∧
 ((!decide (x23 = x25)) = false → ∃ a26 : Addr, p2 = some a26 ∧ ((0 : Int) ≤ x18 ∧ (x18 : Int) < ((n3 : Nat) : Int)) ∧ ∃ x27 : Int, cell h20 ((aidx a26 0 x18 6).add 1) = some (.int .u8 x27) ∧ ∃ a28 : Addr, p7 = some a28 ∧ ((0 : Int) ≤ x18 ∧ (x18 : Int) < ((n8 : Nat) : Int)) ∧ ∃ x29 : Int, cell h20 ((aidx a28 0 x18 6).add 1) = some (.int .u8 x29) ∧ (((!decide (x27 = x29)) = true → I21 [(.bool (!decide (x27 = x29))), (.bool true)] h20) ∧
 ((!decide (x27 = x29)) = false → ∃ a30 : Addr, p2 = some a30 ∧ ((0 : Int) ≤ x18 ∧ (x18 : Int) < ((n3 : Nat) : Int)) ∧ ∃ x31 : Int, cell h20 ((aidx a30 0 x18 6).add 2) = some (.int .u8 x31) ∧ ∃ x32 : Int, cell h20 ((aidx a30 0 x18 6).add 3) = some (.int .i64 x32) ∧ ∃ n33 : Nat, cell h20 ((aidx a30 0 x18 6).add 4) = some (.float .f64 n33) ∧ ∃ s34 : ByteArray, cell h20 ((aidx a30 0 x18 6).add 5) = some (.string s34) ∧ ∃ a35 : Addr, p7 = some a35 ∧ ((0 : Int) ≤ x18 ∧ (x18 : Int) < ((n8 : Nat) : Int)) ∧ ∃ x36 : Int, cell h20 ((aidx a35 0 x18 6).add 2) = some (.int .u8 x36) ∧ ∃ x37 : Int, cell h20 ((aidx a35 0 x18 6).add 3) = some (.int .i64 x37) ∧ ∃ n38 : Nat, cell h20 ((aidx a35 0 x18 6).add 4) = some (.float .f64 n38) ∧ ∃ s39 : ByteArray, cell h20 ((aidx a35 0 x18 6).add 5) = some (.string s39) ∧ Spec P 52 #[(.agg #[(.int .u8 x31), (.int .i64 x32), (.float .f64 n33), (.string s34)]), (.agg #[(.int .u8 x36), (.int .i64 x37), (.float .f64 n38), (.string s39)])] h20 (fun v40 h41 =>
 ∃ b42 : Bool, v40 = (.bool b42) ∧ I21 [(.bool (!decide (x27 = x29))), (.bool (!b42))] h41)))))) ∧
 (∀ b43 : Bool, ∀ b44 : Bool, ∀ h45 : H, (I21 [(.bool b43), (.bool b44)] h45) →
 ((b44 = true → K (.bool false) h45) ∧
 (b44 = false → (∃ j17 : Nat, j17 < k16 ∧ L15 j17 [(.int .i64 (IntKind.wrap .i64 (x18 + 1))), (.bool b19)] h45)))))) ∧
 ((decide (x18 < ((n3 : Nat) : Int))) = false → K (.bool true) h20)))))))

theorem e_ref10_Same (b0 : Bool) (x1 : Int) (p2 : Option Addr) (n3 n4 : Nat) (b5 : Bool) (x6 : Int) (p7 : Option Addr) (n8 n9 : Nat) (h : H) (K : Value → H → Prop) : liftFn P (semAlg P K) 31 [(.agg [(.bool b0), (.int .u8 x1), (.slice p2 n3 n4)]), (.agg [(.bool b5), (.int .u8 x6), (.slice p7 n8 n9)])] h = f_ref10_Same b0 x1 p2 n3 n4 b5 x6 p7 n8 n9 h K := by kernel_rfl

theorem s_ref10_Same {b0 : Bool} {x1 : Int} {p2 : Option Addr} {n3 n4 : Nat} {b5 : Bool} {x6 : Int} {p7 : Option Addr} {n8 n9 : Nat} {h : H} {K : Value → H → Prop} (hf : f_ref10_Same b0 x1 p2 n3 n4 b5 x6 p7 n8 n9 h K) : Spec P 31 #[(.agg #[(.bool b0), (.int .u8 x1), (.slice p2 n3 n4)]), (.agg #[(.bool b5), (.int .u8 x6), (.slice p7 n8 n9)])] h K :=
  lift_sound mixed (args := [(.agg [(.bool b0), (.int .u8 x1), (.slice p2 n3 n4)]), (.agg [(.bool b5), (.int .u8 x6), (.slice p7 n8 n9)])]) (by rw [e_ref10_Same]; exact hf)

/-- equerry/equerryref11.SameNode -/
def f_ref11_SameNode (x0 : Int) (b1 : Bool) (x2 : Int) (p3 : Option Addr) (n4 n5 : Nat) (b6 : Bool) (b7 : Bool) (x8 : Int) (p9 : Option Addr) (n10 n11 : Nat) (x12 : Int) (x13 : Int) (x14 : Int) (x15 : Int) (b16 : Bool) (x17 : Int) (p18 : Option Addr) (n19 n20 : Nat) (b21 : Bool) (b22 : Bool) (x23 : Int) (p24 : Option Addr) (n25 n26 : Nat) (x27 : Int) (x28 : Int) (x29 : Int) (h : H) (K : Value → H → Prop) : Prop :=
 ∃ I30 : List Value → H → Prop, (((((decide (x0 = x15)) = true → (((b6 == b21) = true → (((decide (x12 = x27)) = true → (((decide (x13 = x28)) = true → (((decide (x14 = x29)) = true → Spec P 31 #[(.agg #[(.bool b1), (.int .u8 x2), (.slice p3 n4 n5)]), (.agg #[(.bool b16), (.int .u8 x17), (.slice p18 n19 n20)])] h (fun v31 h32 =>
 ∃ b33 : Bool, v31 = (.bool b33) ∧ ((b33 = true → Spec P 31 #[(.agg #[(.bool b7), (.int .u8 x8), (.slice p9 n10 n11)]), (.agg #[(.bool b22), (.int .u8 x23), (.slice p24 n25 n26)])] h32 (fun v34 h35 =>
 ∃ b36 : Bool, v34 = (.bool b36) ∧ I30 [(.bool (b6 == b21)), (.bool (decide (x12 = x27))), (.bool (decide (x13 = x28))), (.bool (decide (x14 = x29))), (.bool b33), (.bool b36), (.bool true)] h35)) ∧
 (b33 = false → I30 [(.bool (b6 == b21)), (.bool (decide (x12 = x27))), (.bool (decide (x13 = x28))), (.bool (decide (x14 = x29))), (.bool b33), (.bool false), (.bool true)] h32)))) ∧
 ((decide (x14 = x29)) = false → I30 [(.bool (b6 == b21)), (.bool (decide (x12 = x27))), (.bool (decide (x13 = x28))), (.bool (decide (x14 = x29))), (.bool false), (.bool false), (.bool true)] h))) ∧
 ((decide (x13 = x28)) = false → I30 [(.bool (b6 == b21)), (.bool (decide (x12 = x27))), (.bool (decide (x13 = x28))), (.bool false), (.bool false), (.bool false), (.bool true)] h))) ∧
 ((decide (x12 = x27)) = false → I30 [(.bool (b6 == b21)), (.bool (decide (x12 = x27))), (.bool false), (.bool false), (.bool false), (.bool false), (.bool true)] h))) ∧
 ((b6 == b21) = false → I30 [(.bool (b6 == b21)), (.bool false), (.bool false), (.bool false), (.bool false), (.bool false), (.bool true)] h))) ∧
 ((decide (x0 = x15)) = false → I30 [(.bool false), (.bool false), (.bool false), (.bool false), (.bool false), (.bool false), (.bool false)] h))) ∧
 (∀ b37 : Bool, ∀ b38 : Bool, ∀ b39 : Bool, ∀ b40 : Bool, ∀ b41 : Bool, ∀ b42 : Bool, ∀ b43 : Bool, ∀ h44 : H, (I30 [(.bool b37), (.bool b38), (.bool b39), (.bool b40), (.bool b41), (.bool b42), (.bool b43)] h44) →
 K (.bool b42) h44))

theorem e_ref11_SameNode (x0 : Int) (b1 : Bool) (x2 : Int) (p3 : Option Addr) (n4 n5 : Nat) (b6 : Bool) (b7 : Bool) (x8 : Int) (p9 : Option Addr) (n10 n11 : Nat) (x12 : Int) (x13 : Int) (x14 : Int) (x15 : Int) (b16 : Bool) (x17 : Int) (p18 : Option Addr) (n19 n20 : Nat) (b21 : Bool) (b22 : Bool) (x23 : Int) (p24 : Option Addr) (n25 n26 : Nat) (x27 : Int) (x28 : Int) (x29 : Int) (h : H) (K : Value → H → Prop) : liftFn P (semAlg P K) 53 [(.agg [(.int .u8 x0), (.bool b1), (.int .u8 x2), (.slice p3 n4 n5), (.bool b6), (.bool b7), (.int .u8 x8), (.slice p9 n10 n11), (.int .u8 x12), (.int .u8 x13), (.int .i64 x14)]), (.agg [(.int .u8 x15), (.bool b16), (.int .u8 x17), (.slice p18 n19 n20), (.bool b21), (.bool b22), (.int .u8 x23), (.slice p24 n25 n26), (.int .u8 x27), (.int .u8 x28), (.int .i64 x29)])] h = f_ref11_SameNode x0 b1 x2 p3 n4 n5 b6 b7 x8 p9 n10 n11 x12 x13 x14 x15 b16 x17 p18 n19 n20 b21 b22 x23 p24 n25 n26 x27 x28 x29 h K := by kernel_rfl

theorem s_ref11_SameNode {x0 : Int} {b1 : Bool} {x2 : Int} {p3 : Option Addr} {n4 n5 : Nat} {b6 : Bool} {b7 : Bool} {x8 : Int} {p9 : Option Addr} {n10 n11 : Nat} {x12 : Int} {x13 : Int} {x14 : Int} {x15 : Int} {b16 : Bool} {x17 : Int} {p18 : Option Addr} {n19 n20 : Nat} {b21 : Bool} {b22 : Bool} {x23 : Int} {p24 : Option Addr} {n25 n26 : Nat} {x27 : Int} {x28 : Int} {x29 : Int} {h : H} {K : Value → H → Prop} (hf : f_ref11_SameNode x0 b1 x2 p3 n4 n5 b6 b7 x8 p9 n10 n11 x12 x13 x14 x15 b16 x17 p18 n19 n20 b21 b22 x23 p24 n25 n26 x27 x28 x29 h K) : Spec P 53 #[(.agg #[(.int .u8 x0), (.bool b1), (.int .u8 x2), (.slice p3 n4 n5), (.bool b6), (.bool b7), (.int .u8 x8), (.slice p9 n10 n11), (.int .u8 x12), (.int .u8 x13), (.int .i64 x14)]), (.agg #[(.int .u8 x15), (.bool b16), (.int .u8 x17), (.slice p18 n19 n20), (.bool b21), (.bool b22), (.int .u8 x23), (.slice p24 n25 n26), (.int .u8 x27), (.int .u8 x28), (.int .i64 x29)])] h K :=
  lift_sound mixed (args := [(.agg [(.int .u8 x0), (.bool b1), (.int .u8 x2), (.slice p3 n4 n5), (.bool b6), (.bool b7), (.int .u8 x8), (.slice p9 n10 n11), (.int .u8 x12), (.int .u8 x13), (.int .i64 x14)]), (.agg [(.int .u8 x15), (.bool b16), (.int .u8 x17), (.slice p18 n19 n20), (.bool b21), (.bool b22), (.int .u8 x23), (.slice p24 n25 n26), (.int .u8 x27), (.int .u8 x28), (.int .i64 x29)])]) (by rw [e_ref11_SameNode]; exact hf)

/-- equerry/equerryref11.SameNodes -/
def f_ref11_SameNodes (p0 : Option Addr) (n1 n2 : Nat) (p3 : Option Addr) (n4 n5 : Nat) (h : H) (K : Value → H → Prop) : Prop :=
 (((!decide (((n1 : Nat) : Int) = ((n4 : Nat) : Int))) = true → K (.bool false) h) ∧
 ((!decide (((n1 : Nat) : Int) = ((n4 : Nat) : Int))) = false → ∃ L6 : Nat → List Value → H → Prop, ((∃ k7 : Nat, L6 k7 [(.int .i64 0), (.bool false)] h) ∧ ∀ k7 : Nat,
 ∀ x9 : Int, ∀ b10 : Bool, ∀ h11 : H, (L6 k7 [(.int .i64 x9), (.bool b10)] h11) →
 (((decide (x9 < ((n1 : Nat) : Int))) = true → ∃ a12 : Addr, p0 = some a12 ∧ ((0 : Int) ≤ x9 ∧ (x9 : Int) < ((n1 : Nat) : Int)) ∧ ∃ x13 : Int, cell h11 ((aidx a12 0 x9 11).add 0) = some (.int .u8 x13) ∧ ∃ b14 : Bool, cell h11 ((aidx a12 0 x9 11).add 1) = some (.bool b14) ∧ ∃ x15 : Int, cell h11 ((aidx a12 0 x9 11).add 2) = some (.int .u8 x15) ∧ ∃ p16 : Option Addr, ∃ n17 : Nat, ∃ n18 : Nat, cell h11 ((aidx a12 0 x9 11).add 3) = some (.slice p16 n17 n18) ∧ ∃ b19 : Bool, cell h11 ((aidx a12 0 x9 11).add 4) = some (.bool b19) ∧ ∃ b20 : Bool, cell h11 ((aidx a12 0 x9 11).add 5) = some (.bool b20) ∧ ∃ x21 : Int, cell h11 ((aidx a12 0 x9 11).add 6) = some (.int .u8 x21) ∧ ∃ p22 : Option Addr, ∃ n23 : Nat, ∃ n24 : Nat, cell h11 ((aidx a12 0 x9 11).add 7) = some (.slice p22 n23 n24) ∧ ∃ x25 : Int, cell h11 ((aidx a12 0 x9 11).add 8) = some (.int .u8 x25) ∧ ∃ x26 : Int, cell h11 ((aidx a12 0 x9 11).add 9) = some (.int .u8 x26) ∧ ∃ x27 : Int, cell h11 ((aidx a12 0 x9 11).add 10) = some (.int .i64 x27) ∧ ∃ a28 : Addr, p3 = some a28 ∧ ((0 : Int) ≤ x9 ∧ (x9 : Int) < ((n4 : Nat) : Int)) ∧ ∃ x29 : Int, cell h11 ((aidx a28 0 x9 11).add 0) = some (.int .u8 x29) ∧ ∃ b30 : Bool, cell h11 ((aidx a28 0 x9 11).add 1) = some (.bool b30) ∧ ∃ x31 : Int, cell h11 ((aidx a28 0 x9 11).add 2) = some (.int .u8 x31) ∧ ∃ p32 : Option Addr, ∃ n33 : Nat, ∃ n34 : Nat, cell h11 ((aidx a28 0 x9 11).add 3) = some (.slice p32 n33 n34) ∧ ∃ b35 : Bool, cell h11 ((aidx a28 0 x9 11).add 4) = some (.bool b35) ∧ ∃ b36 : Bool, cell h11 ((aidx a28 0 x9 11).add 5) = some (.bool b36) ∧ ∃ x37 : Int, cell h11 ((aidx a28 0 x9 11).add 6) = some (.int .u8 x37) ∧ ∃ p38 : Option Addr, ∃ n39 : Nat, ∃ n40 : Nat, cell h11 ((aidx a28 0 x9 11).add 7) = some (.slice p38 n39 n40) ∧ ∃ x41 : Int, cell h11 ((aidx a28 0 x9 11).add 8) = some (.int .u8 x41) ∧ ∃ x42 : Int, cell h11 ((aidx a28 0 x9 11).add 9) = some (.int .u8 x42) ∧ ∃ x43 : Int, cell h11 ((aidx a28 0 x9 11).add 10) = some (.int .i64 x43) ∧ Spec P 53 #[(.agg #[(.int .u8 x13), (.bool b14), (.int .u8 x15), (.slice p16 n17 n18), (.bool b19), (.bool b20), (.int .u8 x21), (.slice p22 n23 n24), (.int .u8 x25), (.int .u8 x26), (.int .i64 x27)]), (.agg #[(.int .u8 x29), (.bool b30), (.int .u8 x31), (.slice p32 n33 n34), (.bool b35), (.bool b36), (.int .u8 x37), (.slice p38 n39 n40), (.int .u8 x41), (.int .u8 x42), (.int .i64 x43)])] h11 (fun v44 h45 =>
 ∃ b46 : Bool, v44 = (.bool b46) ∧ (((!b46) = true → K (.bool false) h45) ∧
 ((!b46) = false → (∃ j8 : Nat, j8 < k7 ∧ L6 j8 [(.int .i64 (IntKind.wrap .i64 (x9 + 1))), (.bool b10)] h45))))) ∧
 ((decide (x9 < ((n1 : Nat) : Int))) = false → K (.bool true) h11)))))

theorem e_ref11_SameNodes (p0 : Option Addr) (n1 n2 : Nat) (p3 : Option Addr) (n4 n5 : Nat) (h : H) (K : Value → H → Prop) : liftFn P (semAlg P K) 32 [(.slice p0 n1 n2), (.slice p3 n4 n5)] h = f_ref11_SameNodes p0 n1 n2 p3 n4 n5 h K := by kernel_rfl

theorem s_ref11_SameNodes {p0 : Option Addr} {n1 n2 : Nat} {p3 : Option Addr} {n4 n5 : Nat} {h : H} {K : Value → H → Prop} (hf : f_ref11_SameNodes p0 n1 n2 p3 n4 n5 h K) : Spec P 32 #[(.slice p0 n1 n2), (.slice p3 n4 n5)] h K :=
  lift_sound mixed (args := [(.slice p0 n1 n2), (.slice p3 n4 n5)]) (by rw [e_ref11_SameNodes]; exact hf)

/-- equerry/equerryref11.Same -/
def f_ref11_Same (p0 : Option Addr) (n1 n2 : Nat) (x3 : Int) (p4 : Option Addr) (n5 n6 : Nat) (x7 : Int) (h : H) (K : Value → H → Prop) : Prop :=
 ∃ I8 : List Value → H → Prop, (((((decide (x3 = x7)) = true → Spec P 32 #[(.slice p0 n1 n2), (.slice p4 n5 n6)] h (fun v9 h10 =>
 ∃ b11 : Bool, v9 = (.bool b11) ∧ I8 [(.bool b11), (.bool true)] h10)) ∧
 ((decide (x3 = x7)) = false → I8 [(.bool false), (.bool false)] h))) ∧
 (∀ b12 : Bool, ∀ b13 : Bool, ∀ h14 : H, (I8 [(.bool b12), (.bool b13)] h14) →
 K (.bool b12) h14))

theorem e_ref11_Same (p0 : Option Addr) (n1 n2 : Nat) (x3 : Int) (p4 : Option Addr) (n5 n6 : Nat) (x7 : Int) (h : H) (K : Value → H → Prop) : liftFn P (semAlg P K) 11 [(.agg [(.slice p0 n1 n2), (.int .u64 x3)]), (.agg [(.slice p4 n5 n6), (.int .u64 x7)])] h = f_ref11_Same p0 n1 n2 x3 p4 n5 n6 x7 h K := by kernel_rfl

theorem s_ref11_Same {p0 : Option Addr} {n1 n2 : Nat} {x3 : Int} {p4 : Option Addr} {n5 n6 : Nat} {x7 : Int} {h : H} {K : Value → H → Prop} (hf : f_ref11_Same p0 n1 n2 x3 p4 n5 n6 x7 h K) : Spec P 11 #[(.agg #[(.slice p0 n1 n2), (.int .u64 x3)]), (.agg #[(.slice p4 n5 n6), (.int .u64 x7)])] h K :=
  lift_sound mixed (args := [(.agg [(.slice p0 n1 n2), (.int .u64 x3)]), (.agg [(.slice p4 n5 n6), (.int .u64 x7)])]) (by rw [e_ref11_Same]; exact hf)

/-- equerry/tree.Own -/
def f_tree_Own (p0 : Option Addr) (n1 n2 : Nat) (x3 : Int) (h : H) (K : Value → H → Prop) : Prop :=
 Spec P 44 #[(.slice p0 n1 n2)] h (fun v4 h5 =>
 ∃ p6 : Option Addr, ∃ n7 : Nat, ∃ n8 : Nat, v4 = (.slice p6 n7 n8) ∧ ∃ L9 : Nat → List Value → H → Prop, ((∃ k10 : Nat, L9 k10 [(.int .i64 0)] h5) ∧ ∀ k10 : Nat,
 ∀ x12 : Int, ∀ h13 : H, (L9 k10 [(.int .i64 x12)] h13) →
 (((decide (x12 < ((n7 : Nat) : Int))) = true → ∃ a14 : Addr, p6 = some a14 ∧ ((0 : Int) ≤ x12 ∧ (x12 : Int) < ((n7 : Nat) : Int)) ∧ ∃ p15 : Option Addr, ∃ n16 : Nat, ∃ n17 : Nat, cell h13 ((aidx a14 0 x12 11).add 3) = some (.slice p15 n16 n17) ∧ Spec P 45 #[(.slice p15 n16 n17)] h13 (fun v18 h19 =>
 ∃ p20 : Option Addr, ∃ n21 : Nat, ∃ n22 : Nat, v18 = (.slice p20 n21 n22) ∧ isSet h19 ((aidx a14 0 x12 11).add 3) ∧ ∀ h23 : H, h23 = (hset h19 ((aidx a14 0 x12 11).add 3) (.slice p20 n21 n22)) →
 ∃ p24 : Option Addr, ∃ n25 : Nat, ∃ n26 : Nat, cell h23 ((aidx a14 0 x12 11).add 7) = some (.slice p24 n25 n26) ∧ Spec P 45 #[(.slice p24 n25 n26)] h23 (fun v27 h28 =>
 ∃ p29 : Option Addr, ∃ n30 : Nat, ∃ n31 : Nat, v27 = (.slice p29 n30 n31) ∧ isSet h28 ((aidx a14 0 x12 11).add 7) ∧ ∀ h32 : H, h32 = (hset h28 ((aidx a14 0 x12 11).add 7) (.slice p29 n30 n31)) →
 (∃ j11 : Nat, j11 < k10 ∧ L9 j11 [(.int .i64 (IntKind.wrap .i64 (x12 + 1)))] h32)))) ∧
 ((decide (x12 < ((n7 : Nat) : Int))) = false → K (.agg #[(.slice p6 n7 n8), (.int .u64 x3)]) h13))))

theorem e_tree_Own (p0 : Option Addr) (n1 n2 : Nat) (x3 : Int) (h : H) (K : Value → H → Prop) : liftFn P (semAlg P K) 19 [(.agg [(.slice p0 n1 n2), (.int .u64 x3)])] h = f_tree_Own p0 n1 n2 x3 h K := by kernel_rfl

theorem s_tree_Own {p0 : Option Addr} {n1 n2 : Nat} {x3 : Int} {h : H} {K : Value → H → Prop} (hf : f_tree_Own p0 n1 n2 x3 h K) : Spec P 19 #[(.agg #[(.slice p0 n1 n2), (.int .u64 x3)])] h K :=
  lift_sound mixed (args := [(.agg [(.slice p0 n1 n2), (.int .u64 x3)])]) (by rw [e_tree_Own]; exact hf)

/-- slices.Clone[[]equerry/api.Node,equerry/api.Node] -/
def f_slices_Clone_api_Node (p0 : Option Addr) (n1 n2 : Nat) (h : H) (K : Value → H → Prop) : Prop :=
 RunL P (X.sem (.binOp .eql 26 (.slice p0 n1 n2) (.slice none 0 0))) h (fun v3 h4 =>
 ∃ b5 : Bool, v3 = (.bool b5) ∧ ((b5 = true → K (.slice none 0 0) h4) ∧
 (b5 = false → ∀ n6 : Nat, h4 n6 = none → ∀ h7 : H, h7 = (hnew h4 n6 (.cells #[] 51 (0, 0))) →
 RunL P (X.sem (.bi .append #[26, 26] 26 [(.slice (some ((blk n6).add 0)) 0 0), (.slice p0 n1 n2)])) h7 (fun v8 h9 =>
 ∃ p10 : Option Addr, ∃ n11 : Nat, ∃ n12 : Nat, v8 = (.slice p10 n11 n12) ∧ K (.slice p10 n11 n12) h9))))

theorem e_slices_Clone_api_Node (p0 : Option Addr) (n1 n2 : Nat) (h : H) (K : Value → H → Prop) : liftFn P (semAlg P K) 44 [(.slice p0 n1 n2)] h = f_slices_Clone_api_Node p0 n1 n2 h K := by kernel_rfl

theorem s_slices_Clone_api_Node {p0 : Option Addr} {n1 n2 : Nat} {h : H} {K : Value → H → Prop} (hf : f_slices_Clone_api_Node p0 n1 n2 h K) : Spec P 44 #[(.slice p0 n1 n2)] h K :=
  lift_sound mixed (args := [(.slice p0 n1 n2)]) (by rw [e_slices_Clone_api_Node]; exact hf)

/-- slices.Clone[[]equerry/api.Test,equerry/api.Test] -/
def f_slices_Clone_api_Test (p0 : Option Addr) (n1 n2 : Nat) (h : H) (K : Value → H → Prop) : Prop :=
 RunL P (X.sem (.binOp .eql 43 (.slice p0 n1 n2) (.slice none 0 0))) h (fun v3 h4 =>
 ∃ b5 : Bool, v3 = (.bool b5) ∧ ((b5 = true → K (.slice none 0 0) h4) ∧
 (b5 = false → ∀ n6 : Nat, h4 n6 = none → ∀ h7 : H, h7 = (hnew h4 n6 (.cells #[] 103 (0, 0))) →
 RunL P (X.sem (.bi .append #[43, 43] 43 [(.slice (some ((blk n6).add 0)) 0 0), (.slice p0 n1 n2)])) h7 (fun v8 h9 =>
 ∃ p10 : Option Addr, ∃ n11 : Nat, ∃ n12 : Nat, v8 = (.slice p10 n11 n12) ∧ K (.slice p10 n11 n12) h9))))

theorem e_slices_Clone_api_Test (p0 : Option Addr) (n1 n2 : Nat) (h : H) (K : Value → H → Prop) : liftFn P (semAlg P K) 45 [(.slice p0 n1 n2)] h = f_slices_Clone_api_Test p0 n1 n2 h K := by kernel_rfl

theorem s_slices_Clone_api_Test {p0 : Option Addr} {n1 n2 : Nat} {h : H} {K : Value → H → Prop} (hf : f_slices_Clone_api_Test p0 n1 n2 h K) : Spec P 45 #[(.slice p0 n1 n2)] h K :=
  lift_sound mixed (args := [(.slice p0 n1 n2)]) (by rw [e_slices_Clone_api_Test]; exact hf)

/-- (*equerry/auto.maker).makes -/
def f_auto_maker_makes (p0 : Option Addr) (p1 : Option Addr) (n2 n3 : Nat) (h : H) (K : Value → H → Prop) : Prop :=
 ∃ a4 : Addr, p1 = some a4 ∧ ((0 : Int) ≤ 0 ∧ (0 : Int) < ((n2 : Nat) : Int)) ∧ ∃ x5 : Int, cell h ((aidx a4 0 0 11).add 0) = some (.int .u8 x5) ∧ ∃ b6 : Bool, cell h ((aidx a4 0 0 11).add 1) = some (.bool b6) ∧ ∃ x7 : Int, cell h ((aidx a4 0 0 11).add 2) = some (.int .u8 x7) ∧ ∃ p8 : Option Addr, ∃ n9 : Nat, ∃ n10 : Nat, cell h ((aidx a4 0 0 11).add 3) = some (.slice p8 n9 n10) ∧ ∃ b11 : Bool, cell h ((aidx a4 0 0 11).add 4) = some (.bool b11) ∧ ∃ b12 : Bool, cell h ((aidx a4 0 0 11).add 5) = some (.bool b12) ∧ ∃ x13 : Int, cell h ((aidx a4 0 0 11).add 6) = some (.int .u8 x13) ∧ ∃ p14 : Option Addr, ∃ n15 : Nat, ∃ n16 : Nat, cell h ((aidx a4 0 0 11).add 7) = some (.slice p14 n15 n16) ∧ ∃ x17 : Int, cell h ((aidx a4 0 0 11).add 8) = some (.int .u8 x17) ∧ ∃ x18 : Int, cell h ((aidx a4 0 0 11).add 9) = some (.int .u8 x18) ∧ ∃ x19 : Int, cell h ((aidx a4 0 0 11).add 10) = some (.int .i64 x19) ∧ Spec P 41 #[(.slice p1 n2 n3)] h (fun v20 h21 =>
 ∃ p22 : Option Addr, ∃ n23 : Nat, ∃ n24 : Nat, v20 = (.slice p22 n23 n24) ∧ (((decide (x5 = 1)) = true → ∃ a25 : Addr, p0 = some a25 ∧ ∃ p26 : Option Addr, ∃ n27 : Nat, ∃ n28 : Nat, cell h21 (a25.add 0) = some (.slice p26 n27 n28) ∧ ∃ a29 : Addr, p0 = some a29 ∧ ∃ p30 : Option Addr, ∃ n31 : Nat, ∃ n32 : Nat, cell h21 (a29.add 0) = some (.slice p30 n31 n32) ∧ ∀ n33 : Nat, h21 n33 = none → ∀ h34 : H, h34 = (hnew h21 n33 (.cells #[(.bool b6), (.int .u8 x7), (.slice p8 n9 n10)] 45 (0, 0))) →
 (Le h21 h34) ∧ RunL P (X.sem (.bi .append #[32, 32] 32 [(.slice p30 n31 n32), (.slice (some ((blk n33).add 0)) 1 1)])) h34 (fun v35 h36 =>
 ∃ p37 : Option Addr, ∃ n38 : Nat, ∃ n39 : Nat, v35 = (.slice p37 n38 n39) ∧ ∃ a40 : Addr, p0 = some a40 ∧ isSet h36 (a40.add 0) ∧ ∀ h41 : H, h41 = (hset h36 (a40.add 0) (.slice p37 n38 n39)) →
 (decide (((n27 : Nat) : Int) ≥ 0)) = true ∧ (decide (((n27 : Nat) : Int) ≥ 0)) = true ∧ K (.agg #[(.int .u32 (iopF .shl .u32 1 ((n27 : Nat) : Int))), (.int .u32 (iopF .shl .u32 1 ((n27 : Nat) : Int)))]) h41)) ∧
 ((decide (x5 = 1)) = false → (((decide (x5 = 3)) = true → ∃ L42 : Nat → List Value → H → Prop, ((∃ k43 : Nat, L42 k43 [(.int .i64 0), (.agg #[(.int .u32 0), (.int .u32 0)])] h21) ∧ ∀ k43 : Nat,
 ∀ x45 : Int, ∀ x46 : Int, ∀ x47 : Int, ∀ h48 : H, (L42 k43 [(.int .i64 x45), (.agg #[(.int .u32 x46), (.int .u32 x47)])] h48) →
 (((decide (x45 < ((n23 : Nat) : Int))) = true → ∃ a49 : Addr, p22 = some a49 ∧ ((0 : Int) ≤ x45 ∧ (x45 : Int) < ((n23 : Nat) : Int)) ∧ ∃ p50 : Option Addr, ∃ n51 : Nat, ∃ n52 : Nat, cell h48 ((aidx a49 0 x45 1).add 0) = some (.slice p50 n51 n52) ∧ Spec P 18 #[(.pointer p0), (.slice p50 n51 n52)] h48 (fun v53 h54 =>
 ∃ x55 : Int, ∃ x56 : Int, v53 = (.agg #[(.int .u32 x55), (.int .u32 x56)]) ∧ (∃ j44 : Nat, j44 < k43 ∧ L42 j44 [(.int .i64 (IntKind.wrap .i64 (x45 + 1))), (.agg #[(.int .u32 (iopF .or .u32 x46 x55)), (.int .u32 (iopF .or .u32 x47 x56))])] h54))) ∧
 ((decide (x45 < ((n23 : Nat) : Int))) = false → K (.agg #[(.int .u32 x46), (.int .u32 x47)]) h48)))) ∧
 ((decide (x5 = 3)) = false → (((decide (x5 = 4)) = true → ∃ a57 : Addr, p22 = some a57 ∧ ((0 : Int) ≤ 0 ∧ (0 : Int) < ((n23 : Nat) : Int)) ∧ ∃ p58 : Option Addr, ∃ n59 : Nat, ∃ n60 : Nat, cell h21 ((aidx a57 0 0 1).add 0) = some (.slice p58 n59 n60) ∧ Spec P 42 #[(.pointer p0), (.agg #[(.int .u8 x5), (.bool b6), (.int .u8 x7), (.slice p8 n9 n10), (.bool b11), (.bool b12), (.int .u8 x13), (.slice p14 n15 n16), (.int .u8 x17), (.int .u8 x18), (.int .i64 x19)]), (.slice p58 n59 n60)] h21 (fun v61 h62 =>
 ∃ x63 : Int, ∃ x64 : Int, v61 = (.agg #[(.int .u32 x63), (.int .u32 x64)]) ∧ K (.agg #[(.int .u32 x63), (.int .u32 x64)]) h62)) ∧
 ((decide (x5 = 4)) = false → ∃ a65 : Addr, p22 = some a65 ∧ ((0 : Int) ≤ 0 ∧ (0 : Int) < ((n23 : Nat) : Int)) ∧ ∃ p66 : Option Addr, ∃ n67 : Nat, ∃ n68 : Nat, cell h21 ((aidx a65 0 0 1).add 0) = some (.slice p66 n67 n68) ∧ Spec P 18 #[(.pointer p0), (.slice p66 n67 n68)] h21 (fun v69 h70 =>
 ∃ x71 : Int, ∃ x72 : Int, v69 = (.agg #[(.int .u32 x71), (.int .u32 x72)]) ∧ ((0 : Int) ≤ 1 ∧ (1 : Int) ≤ ((n23 : Nat) : Int)) ∧ ∃ L73 : Nat → List Value → H → Prop, ((∃ k74 : Nat, L73 k74 [(.int .i64 0), (.agg #[(.int .u32 x71), (.int .u32 x72)])] h70) ∧ ∀ k74 : Nat,
 ∀ x76 : Int, ∀ x77 : Int, ∀ x78 : Int, ∀ h79 : H, (L73 k74 [(.int .i64 x76), (.agg #[(.int .u32 x77), (.int .u32 x78)])] h79) →
 (((decide (x76 < (((n23 - (Int.toNat 1)) : Nat) : Int))) = true → ∃ a80 : Addr, (sliceP p22 (Int.toNat 1) n24 1) = some a80 ∧ ((0 : Int) ≤ x76 ∧ (x76 : Int) < (((n23 - (Int.toNat 1)) : Nat) : Int)) ∧ ∃ p81 : Option Addr, ∃ n82 : Nat, ∃ n83 : Nat, cell h79 ((aidx a80 0 x76 1).add 0) = some (.slice p81 n82 n83) ∧ Spec P 18 #[(.pointer p0), (.slice p81 n82 n83)] h79 (fun v84 h85 =>
 ∃ x86 : Int, ∃ x87 : Int, v84 = (.agg #[(.int .u32 x86), (.int .u32 x87)]) ∧ Spec P 43 #[(.pointer p0), (.agg #[(.int .u8 x5), (.bool b6), (.int .u8 x7), (.slice p8 n9 n10), (.bool b11), (.bool b12), (.int .u8 x13), (.slice p14 n15 n16), (.int .u8 x17), (.int .u8 x18), (.int .i64 x19)]), (.agg #[(.int .u32 x77), (.int .u32 x78)]), (.agg #[(.int .u32 x86), (.int .u32 x87)])] h85 (fun v88 h89 =>
 v88 = (.tuple #[]) ∧ (∃ j75 : Nat, j75 < k74 ∧ L73 j75 [(.int .i64 (IntKind.wrap .i64 (x76 + 1))), (.agg #[(.int .u32 x77), (.int .u32 x87)])] h89)))) ∧
 ((decide (x76 < (((n23 - (Int.toNat 1)) : Nat) : Int))) = false → K (.agg #[(.int .u32 x77), (.int .u32 x78)]) h79)))))))))))

theorem e_auto_maker_makes (p0 : Option Addr) (p1 : Option Addr) (n2 n3 : Nat) (h : H) (K : Value → H → Prop) : liftFn P (semAlg P K) 18 [(.optr p0), (.slice p1 n2 n3)] h = f_auto_maker_makes p0 p1 n2 n3 h K := by kernel_rfl

theorem s_auto_maker_makes {p0 : Option Addr} {p1 : Option Addr} {n2 n3 : Nat} {h : H} {K : Value → H → Prop} (hf : f_auto_maker_makes p0 p1 n2 n3 h K) : Spec P 18 #[(.pointer p0), (.slice p1 n2 n3)] h K :=
  lift_sound mixed (args := [(.optr p0), (.slice p1 n2 n3)]) (by rw [e_auto_maker_makes]; exact hf)

/-- (*equerry/auto.maker).repeats -/
def f_auto_maker_repeats (p0 : Option Addr) (x1 : Int) (b2 : Bool) (x3 : Int) (p4 : Option Addr) (n5 n6 : Nat) (b7 : Bool) (b8 : Bool) (x9 : Int) (p10 : Option Addr) (n11 n12 : Nat) (x13 : Int) (x14 : Int) (x15 : Int) (p16 : Option Addr) (n17 n18 : Nat) (h : H) (K : Value → H → Prop) : Prop :=
 ∃ L19 : Nat → List Value → H → Prop, ((∃ k20 : Nat, L19 k20 [(.int .i64 1), (.agg #[(.int .u32 0), (.int .u32 0)]), (.agg #[(.int .u32 0), (.int .u32 0)])] h) ∧ ∀ k20 : Nat,
 ∀ x22 : Int, ∀ x23 : Int, ∀ x24 : Int, ∀ x25 : Int, ∀ x26 : Int, ∀ h27 : H, (L19 k20 [(.int .i64 x22), (.agg #[(.int .u32 x23), (.int .u32 x24)]), (.agg #[(.int .u32 x25), (.int .u32 x26)])] h27) →
 (((decide (x22 ≤ (IntKind.wrap .i64 x14))) = true → Spec P 18 #[(.pointer p0), (.slice p16 n17 n18)] h27 (fun v28 h29 =>
 ∃ x30 : Int, ∃ x31 : Int, v28 = (.agg #[(.int .u32 x30), (.int .u32 x31)]) ∧ ∃ I32 : List Value → H → Prop, (((((decide (x22 = 1)) = true → I32 [(.agg #[(.int .u32 x30), (.int .u32 x26)])] h29) ∧
 ((decide (x22 = 1)) = false → Spec P 43 #[(.pointer p0), (.agg #[(.int .u8 x1), (.bool b2), (.int .u8 x3), (.slice p4 n5 n6), (.bool b7), (.bool b8), (.int .u8 x9), (.slice p10 n11 n12), (.int .u8 x13), (.int .u8 x14), (.int .i64 x15)]), (.agg #[(.int .u32 x23), (.int .u32 x24)]), (.agg #[(.int .u32 x30), (.int .u32 x31)])] h29 (fun v33 h34 =>
 v33 = (.tuple #[]) ∧ I32 [(.agg #[(.int .u32 x25), (.int .u32 x26)])] h34)))) ∧
 (∀ x35 : Int, ∀ x36 : Int, ∀ h37 : H, (I32 [(.agg #[(.int .u32 x35), (.int .u32 x36)])] h37) →
 ∃ I38 : List Value → H → Prop, (((((decide (x22 ≥ (IntKind.wrap .i64 x13))) = true → I38 [(.agg #[(.int .u32 x35), (.int .u32 (iopF .or .u32 x36 x31))])] h37) ∧
 ((decide (x22 ≥ (IntKind.wrap .i64 x13))) = false → I38 [(.agg #[(.int .u32 x35), (.int .u32 x36)])] h37))) ∧
 (∀ x39 : Int, ∀ x40 : Int, ∀ h41 : H, (I38 [(.agg #[(.int .u32 x39), (.int .u32 x40)])] h41) →
 (∃ j21 : Nat, j21 < k20 ∧ L19 j21 [(.int .i64 (IntKind.wrap .i64 (x22 + 1))), (.agg #[(.int .u32 x30), (.int .u32 x31)]), (.agg #[(.int .u32 x39), (.int .u32 x40)])] h41))))))) ∧
 ((decide (x22 ≤ (IntKind.wrap .i64 x14))) = false → K (.agg #[(.int .u32 x25), (.int .u32 x26)]) h27)))

theorem e_auto_maker_repeats (p0 : Option Addr) (x1 : Int) (b2 : Bool) (x3 : Int) (p4 : Option Addr) (n5 n6 : Nat) (b7 : Bool) (b8 : Bool) (x9 : Int) (p10 : Option Addr) (n11 n12 : Nat) (x13 : Int) (x14 : Int) (x15 : Int) (p16 : Option Addr) (n17 n18 : Nat) (h : H) (K : Value → H → Prop) : liftFn P (semAlg P K) 42 [(.optr p0), (.agg [(.int .u8 x1), (.bool b2), (.int .u8 x3), (.slice p4 n5 n6), (.bool b7), (.bool b8), (.int .u8 x9), (.slice p10 n11 n12), (.int .u8 x13), (.int .u8 x14), (.int .i64 x15)]), (.slice p16 n17 n18)] h = f_auto_maker_repeats p0 x1 b2 x3 p4 n5 n6 b7 b8 x9 p10 n11 n12 x13 x14 x15 p16 n17 n18 h K := by kernel_rfl

theorem s_auto_maker_repeats {p0 : Option Addr} {x1 : Int} {b2 : Bool} {x3 : Int} {p4 : Option Addr} {n5 n6 : Nat} {b7 : Bool} {b8 : Bool} {x9 : Int} {p10 : Option Addr} {n11 n12 : Nat} {x13 : Int} {x14 : Int} {x15 : Int} {p16 : Option Addr} {n17 n18 : Nat} {h : H} {K : Value → H → Prop} (hf : f_auto_maker_repeats p0 x1 b2 x3 p4 n5 n6 b7 b8 x9 p10 n11 n12 x13 x14 x15 p16 n17 n18 h K) : Spec P 42 #[(.pointer p0), (.agg #[(.int .u8 x1), (.bool b2), (.int .u8 x3), (.slice p4 n5 n6), (.bool b7), (.bool b8), (.int .u8 x9), (.slice p10 n11 n12), (.int .u8 x13), (.int .u8 x14), (.int .i64 x15)]), (.slice p16 n17 n18)] h K :=
  lift_sound mixed (args := [(.optr p0), (.agg [(.int .u8 x1), (.bool b2), (.int .u8 x3), (.slice p4 n5 n6), (.bool b7), (.bool b8), (.int .u8 x9), (.slice p10 n11 n12), (.int .u8 x13), (.int .u8 x14), (.int .i64 x15)]), (.slice p16 n17 n18)]) (by rw [e_auto_maker_repeats]; exact hf)

/-- equerry/auto.Compile -/
def f_auto_Compile (p0 : Option Addr) (n1 n2 : Nat) (x3 : Int) (h : H) (K : Value → H → Prop) : Prop :=
 Spec P 17 #[(.agg #[(.slice p0 n1 n2), (.int .u64 x3)])] h (fun v4 h5 =>
 ∃ x6 : Int, v4 = (.int .i64 x6) ∧ (((!decide (x6 = 0)) = true → K (.tuple #[(.agg #[(.slice none 0 0), (.int .u32 0), (.int .u32 0), (.slice none 0 0)]), (.int .i64 x6)]) h5) ∧
 ((!decide (x6 = 0)) = false → Spec P 19 #[(.agg #[(.slice p0 n1 n2), (.int .u64 x3)])] h5 (fun v7 h8 =>
 ∃ p9 : Option Addr, ∃ n10 : Nat, ∃ n11 : Nat, ∃ x12 : Int, v7 = (.agg #[(.slice p9 n10 n11), (.int .u64 x12)]) ∧ ∀ n13 : Nat, h8 n13 = none → ∀ h14 : H, h14 = (hnew h8 n13 (.cells #[(.slice none 0 0), (.int .u32 0), (.int .u32 0), (.slice none 0 0)] 69 (0, 0))) →
 Spec P 18 #[(.pointer (some ((blk n13).add 0))), (.slice p9 n10 n11)] h14 (fun v15 h16 =>
 ∃ x17 : Int, ∃ x18 : Int, v15 = (.agg #[(.int .u32 x17), (.int .u32 x18)]) ∧ ∃ p19 : Option Addr, ∃ n20 : Nat, ∃ n21 : Nat, cell h16 ((blk n13).add 3) = some (.slice p19 n20 n21) ∧ (((decide (((n20 : Nat) : Int) > 64)) = true → K (.tuple #[(.agg #[(.slice none 0 0), (.int .u32 0), (.int .u32 0), (.slice none 0 0)]), (.int .i64 12)]) h16) ∧
 ((decide (((n20 : Nat) : Int) > 64)) = false → isSet h16 ((blk n13).add 1) ∧ ∀ h22 : H, h22 = (hset h16 ((blk n13).add 1) (.int .u32 x17)) →
 (Le hnil h22) ∧ isSet h22 ((blk n13).add 2) ∧ ∀ h23 : H, h23 = (hset h22 ((blk n13).add 2) (.int .u32 x18)) →
 ∃ p24 : Option Addr, ∃ n25 : Nat, ∃ n26 : Nat, cell h23 ((blk n13).add 3) = some (.slice p24 n25 n26) ∧ Spec P 20 #[(.slice p24 n25 n26), (.func (.func 21) #[] #[])] h23 (fun v27 h28 =>
 v27 = (.tuple #[]) ∧ Spec P 24 #[(.pointer (some ((blk n13).add 0)))] h28 (fun v29 h30 =>
 v29 = (.tuple #[]) ∧ ∃ p31 : Option Addr, ∃ n32 : Nat, ∃ n33 : Nat, cell h30 ((blk n13).add 0) = some (.slice p31 n32 n33) ∧ ∃ x34 : Int, cell h30 ((blk n13).add 1) = some (.int .u32 x34) ∧ ∃ x35 : Int, cell h30 ((blk n13).add 2) = some (.int .u32 x35) ∧ ∃ p36 : Option Addr, ∃ n37 : Nat, ∃ n38 : Nat, cell h30 ((blk n13).add 3) = some (.slice p36 n37 n38) ∧ K (.tuple #[(.agg #[(.slice p31 n32 n33), (.int .u32 x34), (.int .u32 x35), (.slice p36 n37 n38)]), (.int .i64 0)]) h30)))))))))

theorem e_auto_Compile (p0 : Option Addr) (n1 n2 : Nat) (x3 : Int) (h : H) (K : Value → H → Prop) : liftFn P (semAlg P K) 8 [(.agg [(.slice p0 n1 n2), (.int .u64 x3)])] h = f_auto_Compile p0 n1 n2 x3 h K := by kernel_rfl

theorem s_auto_Compile {p0 : Option Addr} {n1 n2 : Nat} {x3 : Int} {h : H} {K : Value → H → Prop} (hf : f_auto_Compile p0 n1 n2 x3 h K) : Spec P 8 #[(.agg #[(.slice p0 n1 n2), (.int .u64 x3)])] h K :=
  lift_sound mixed (args := [(.agg [(.slice p0 n1 n2), (.int .u64 x3)])]) (by rw [e_auto_Compile]; exact hf)

/-- equerry/auto.own -/
def f_auto_own (p0 : Option Addr) (h : H) (K : Value → H → Prop) : Prop :=
 ∃ a1 : Addr, p0 = some a1 ∧ ∃ p2 : Option Addr, ∃ n3 : Nat, ∃ n4 : Nat, cell h (a1.add 0) = some (.slice p2 n3 n4) ∧ ∃ L5 : Nat → List Value → H → Prop, ((∃ k6 : Nat, L5 k6 [(.int .i64 0)] h) ∧ ∀ k6 : Nat,
 ∀ x8 : Int, ∀ h9 : H, (L5 k6 [(.int .i64 x8)] h9) →
 (((decide (x8 < ((n3 : Nat) : Int))) = true → ∃ a10 : Addr, p0 = some a10 ∧ ∃ p11 : Option Addr, ∃ n12 : Nat, ∃ n13 : Nat, cell h9 (a10.add 0) = some (.slice p11 n12 n13) ∧ ∃ a14 : Addr, p0 = some a14 ∧ ∃ p15 : Option Addr, ∃ n16 : Nat, ∃ n17 : Nat, cell h9 (a14.add 0) = some (.slice p15 n16 n17) ∧ ∃ a18 : Addr, p15 = some a18 ∧ ((0 : Int) ≤ x8 ∧ (x8 : Int) < ((n16 : Nat) : Int)) ∧ ∃ p19 : Option Addr, ∃ n20 : Nat, ∃ n21 : Nat, cell h9 ((aidx a18 0 x8 3).add 2) = some (.slice p19 n20 n21) ∧ Spec P 45 #[(.slice p19 n20 n21)] h9 (fun v22 h23 =>
 ∃ p24 : Option Addr, ∃ n25 : Nat, ∃ n26 : Nat, v22 = (.slice p24 n25 n26) ∧ (Le h9 h23) ∧ ∃ a27 : Addr, p11 = some a27 ∧ ((0 : Int) ≤ x8 ∧ (x8 : Int) < ((n12 : Nat) : Int)) ∧ isSet h23 ((aidx a27 0 x8 3).add 2) ∧ ∀ h28 : H, h28 = (hset h23 ((aidx a27 0 x8 3).add 2) (.slice p24 n25 n26)) →
 (∃ j7 : Nat, j7 < k6 ∧ L5 j7 [(.int .i64 (IntKind.wrap .i64 (x8 + 1)))] h28))) ∧
 ((decide (x8 < ((n3 : Nat) : Int))) = false → ∃ a29 : Addr, p0 = some a29 ∧ ∃ p30 : Option Addr, ∃ n31 : Nat, ∃ n32 : Nat, cell h9 (a29.add 3) = some (.slice p30 n31 n32) ∧ ∃ L33 : Nat → List Value → H → Prop, ((∃ k34 : Nat, L33 k34 [(.int .i64 0)] h9) ∧ ∀ k34 : Nat,
 ∀ x36 : Int, ∀ h37 : H, (L33 k34 [(.int .i64 x36)] h37) →
 (((decide (x36 < ((n31 : Nat) : Int))) = true → ∃ a38 : Addr, p0 = some a38 ∧ ∃ p39 : Option Addr, ∃ n40 : Nat, ∃ n41 : Nat, cell h37 (a38.add 3) = some (.slice p39 n40 n41) ∧ ∃ a42 : Addr, p0 = some a42 ∧ ∃ p43 : Option Addr, ∃ n44 : Nat, ∃ n45 : Nat, cell h37 (a42.add 3) = some (.slice p43 n44 n45) ∧ ∃ a46 : Addr, p43 = some a46 ∧ ((0 : Int) ≤ x36 ∧ (x36 : Int) < ((n44 : Nat) : Int)) ∧ ∃ p47 : Option Addr, ∃ n48 : Nat, ∃ n49 : Nat, cell h37 ((aidx a46 0 x36 6).add 5) = some (.slice p47 n48 n49) ∧ Spec P 45 #[(.slice p47 n48 n49)] h37 (fun v50 h51 =>
 ∃ p52 : Option Addr, ∃ n53 : Nat, ∃ n54 : Nat, v50 = (.slice p52 n53 n54) ∧ (Le h37 h51) ∧ ∃ a55 : Addr, p39 = some a55 ∧ ((0 : Int) ≤ x36 ∧ (x36 : Int) < ((n40 : Nat) : Int)) ∧ isSet h51 ((aidx a55 0 x36 6).add 5) ∧ ∀ h56 : H, h56 = (hset h51 ((aidx a55 0 x36 6).add 5) (.slice p52 n53 n54)) →
 (∃ j35 : Nat, j35 < k34 ∧ L33 j35 [(.int .i64 (IntKind.wrap .i64 (x36 + 1)))] h56))) ∧
 ((decide (x36 < ((n31 : Nat) : Int))) = false → K (.tuple #[]) h37))))))

theorem e_auto_own (p0 : Option Addr) (h : H) (K : Value → H → Prop) : liftFn P (semAlg P K) 24 [(.optr p0)] h = f_auto_own p0 h K := by kernel_rfl

theorem s_auto_own {p0 : Option Addr} {h : H} {K : Value → H → Prop} (hf : f_auto_own p0 h K) : Spec P 24 #[(.pointer p0)] h K :=
  lift_sound mixed (args := [(.optr p0)]) (by rw [e_auto_own]; exact hf)

/-- equerry/auto.Compile$1 -/
def f_auto_Compile_1 (x0 : Int) (x1 : Int) (b2 : Bool) (b3 : Bool) (x4 : Int) (p5 : Option Addr) (n6 n7 : Nat) (x8 : Int) (x9 : Int) (b10 : Bool) (b11 : Bool) (x12 : Int) (p13 : Option Addr) (n14 n15 : Nat) (h : H) (K : Value → H → Prop) : Prop :=
 Spec P 23 #[(.int .u8 x0), (.int .u8 x8)] h (fun v16 h17 =>
 ∃ x18 : Int, v16 = (.int .i64 x18) ∧ (Le h h17) ∧ Spec P 23 #[(.int .u8 x1), (.int .u8 x9)] h17 (fun v19 h20 =>
 ∃ x21 : Int, v19 = (.int .i64 x21) ∧ ∀ n22 : Nat, h20 n22 = none → ∀ h23 : H, h23 = (hnew h20 n22 (.cells #[(.int .i64 x18), (.int .i64 x21)] 3 (0, 0))) →
 Spec P 22 #[(.slice (some ((blk n22).add 0)) 2 2)] h23 (fun v24 h25 =>
 ∃ x26 : Int, v24 = (.int .i64 x26) ∧ K (.int .i64 x26) h25)))

theorem e_auto_Compile_1 (x0 : Int) (x1 : Int) (b2 : Bool) (b3 : Bool) (x4 : Int) (p5 : Option Addr) (n6 n7 : Nat) (x8 : Int) (x9 : Int) (b10 : Bool) (b11 : Bool) (x12 : Int) (p13 : Option Addr) (n14 n15 : Nat) (h : H) (K : Value → H → Prop) : liftFn P (semAlg P K) 21 [(.agg [(.int .u8 x0), (.int .u8 x1), (.bool b2), (.bool b3), (.int .u8 x4), (.slice p5 n6 n7)]), (.agg [(.int .u8 x8), (.int .u8 x9), (.bool b10), (.bool b11), (.int .u8 x12), (.slice p13 n14 n15)])] h = f_auto_Compile_1 x0 x1 b2 b3 x4 p5 n6 n7 x8 x9 b10 b11 x12 p13 n14 n15 h K := by kernel_rfl

theorem s_auto_Compile_1 {x0 : Int} {x1 : Int} {b2 : Bool} {b3 : Bool} {x4 : Int} {p5 : Option Addr} {n6 n7 : Nat} {x8 : Int} {x9 : Int} {b10 : Bool} {b11 : Bool} {x12 : Int} {p13 : Option Addr} {n14 n15 : Nat} {h : H} {K : Value → H → Prop} (hf : f_auto_Compile_1 x0 x1 b2 b3 x4 p5 n6 n7 x8 x9 b10 b11 x12 p13 n14 n15 h K) : Spec P 21 #[(.agg #[(.int .u8 x0), (.int .u8 x1), (.bool b2), (.bool b3), (.int .u8 x4), (.slice p5 n6 n7)]), (.agg #[(.int .u8 x8), (.int .u8 x9), (.bool b10), (.bool b11), (.int .u8 x12), (.slice p13 n14 n15)])] h K :=
  lift_sound mixed (args := [(.agg [(.int .u8 x0), (.int .u8 x1), (.bool b2), (.bool b3), (.int .u8 x4), (.slice p5 n6 n7)]), (.agg [(.int .u8 x8), (.int .u8 x9), (.bool b10), (.bool b11), (.int .u8 x12), (.slice p13 n14 n15)])]) (by rw [e_auto_Compile_1]; exact hf)

/-- cmp.Or[int] -/
def f_cmp_Or_int (p0 : Option Addr) (n1 n2 : Nat) (h : H) (K : Value → H → Prop) : Prop :=
 ∃ L3 : Nat → List Value → H → Prop, ((∃ k4 : Nat, L3 k4 [(.int .i64 0), (.int .i64 0)] h) ∧ ∀ k4 : Nat,
 ∀ x6 : Int, ∀ x7 : Int, ∀ h8 : H, (L3 k4 [(.int .i64 x6), (.int .i64 x7)] h8) →
 (((decide (x6 < ((n1 : Nat) : Int))) = true → ∃ a9 : Addr, p0 = some a9 ∧ ((0 : Int) ≤ x6 ∧ (x6 : Int) < ((n1 : Nat) : Int)) ∧ ∃ x10 : Int, cell h8 ((aidx a9 0 x6 1).add 0) = some (.int .i64 x10) ∧ (((!decide (x10 = 0)) = true → K (.int .i64 x10) h8) ∧
 ((!decide (x10 = 0)) = false → (∃ j5 : Nat, j5 < k4 ∧ L3 j5 [(.int .i64 (IntKind.wrap .i64 (x6 + 1))), (.int .i64 x7)] h8)))) ∧
 ((decide (x6 < ((n1 : Nat) : Int))) = false → K (.int .i64 0) h8)))

theorem e_cmp_Or_int (p0 : Option Addr) (n1 n2 : Nat) (h : H) (K : Value → H → Prop) : liftFn P (semAlg P K) 22 [(.slice p0 n1 n2)] h = f_cmp_Or_int p0 n1 n2 h K := by kernel_rfl

theorem s_cmp_Or_int {p0 : Option Addr} {n1 n2 : Nat} {h : H} {K : Value → H → Prop} (hf : f_cmp_Or_int p0 n1 n2 h K) : Spec P 22 #[(.slice p0 n1 n2)] h K :=
  lift_sound mixed (args := [(.slice p0 n1 n2)]) (by rw [e_cmp_Or_int]; exact hf)

/-- cmp.Compare[uint8] -/
def f_cmp_Compare_uint8 (x0 : Int) (x1 : Int) (h : H) (K : Value → H → Prop) : Prop :=
 Spec P 48 #[(.int .u8 x0)] h (fun v2 h3 =>
 ∃ b4 : Bool, v2 = (.bool b4) ∧ Spec P 48 #[(.int .u8 x1)] h3 (fun v5 h6 =>
 ∃ b7 : Bool, v5 = (.bool b7) ∧ ((b4 = true → ((b7 = true → K (.int .i64 0) h6) ∧
 (b7 = false → K (.int .i64 (-1)) h6))) ∧
 (b4 = false → ((b7 = true → K (.int .i64 1) h6) ∧
 (b7 = false → (((decide (x0 < x1)) = true → K (.int .i64 (-1)) h6) ∧
 ((decide (x0 < x1)) = false → (((decide (x0 > x1)) = true → K (.int .i64 1) h6) ∧
 ((decide (x0 > x1)) = false → K (.int .i64 0) h6))))))))))

theorem e_cmp_Compare_uint8 (x0 : Int) (x1 : Int) (h : H) (K : Value → H → Prop) : liftFn P (semAlg P K) 23 [(.int .u8 x0), (.int .u8 x1)] h = f_cmp_Compare_uint8 x0 x1 h K := by kernel_rfl

theorem s_cmp_Compare_uint8 {x0 : Int} {x1 : Int} {h : H} {K : Value → H → Prop} (hf : f_cmp_Compare_uint8 x0 x1 h K) : Spec P 23 #[(.int .u8 x0), (.int .u8 x1)] h K :=
  lift_sound mixed (args := [(.int .u8 x0), (.int .u8 x1)]) (by rw [e_cmp_Compare_uint8]; exact hf)

/-- cmp.isNaN[uint8] -/
def f_cmp_isNaN_uint8 (x0 : Int) (h : H) (K : Value → H → Prop) : Prop :=
 K (.bool (!decide (x0 = x0))) h

theorem e_cmp_isNaN_uint8 (x0 : Int) (h : H) (K : Value → H → Prop) : liftFn P (semAlg P K) 48 [(.int .u8 x0)] h = f_cmp_isNaN_uint8 x0 h K := by kernel_rfl

theorem s_cmp_isNaN_uint8 {x0 : Int} {h : H} {K : Value → H → Prop} (hf : f_cmp_isNaN_uint8 x0 h K) : Spec P 48 #[(.int .u8 x0)] h K :=
  lift_sound mixed (args := [(.int .u8 x0)]) (by rw [e_cmp_isNaN_uint8]; exact hf)

/-- equerry/equerryref14.widen -/
def f_ref14_widen (x0 : Int) (b1 : Bool) (x2 : Int) (p3 : Option Addr) (n4 n5 : Nat) (b6 : Bool) (b7 : Bool) (x8 : Int) (p9 : Option Addr) (n10 n11 : Nat) (x12 : Int) (x13 : Int) (x14 : Int) (p15 : Option Addr) (n16 n17 : Nat) (x18 : Int) (h : H) (K : Value → H → Prop) : Prop :=
 (((decide (x0 = 1)) = true → K (.tuple #[(.agg #[(.int .u8 x0), (.bool b1), (.int .u8 x2), (.slice p3 n4 n5), (.bool b6), (.bool b7), (.int .u8 x8), (.slice p9 n10 n11), (.int .u8 x12), (.int .u8 x13), (.int .i64 x14), (.int .i64 x18), (.slice none 0 0)]), (.int .i64 (IntKind.wrap .i64 (x18 + 1)))]) h) ∧
 ((decide (x0 = 1)) = false → ∃ I19 : List Value → H → Prop, (((((decide (x0 = 4)) = true → I19 [(.int .i64 (IntKind.wrap .i64 x13))] h) ∧
 ((decide (x0 = 4)) = false → I19 [(.int .i64 1)] h))) ∧
 (∀ x20 : Int, ∀ h21 : H, (I19 [(.int .i64 x20)] h21) →
 ∃ L22 : Nat → List Value → H → Prop, ((∃ k23 : Nat, L22 k23 [(.int .i64 0), (.int .i64 x18), (.agg #[(.int .u8 x0), (.bool b1), (.int .u8 x2), (.slice p3 n4 n5), (.bool b6), (.bool b7), (.int .u8 x8), (.slice p9 n10 n11), (.int .u8 x12), (.int .u8 x13), (.int .i64 x14), (.int .i64 0), (.slice none 0 0)])] h21) ∧ ∀ k23 : Nat,
 ∀ x25 : Int, ∀ x26 : Int, ∀ x27 : Int, ∀ b28 : Bool, ∀ x29 : Int, ∀ p30 : Option Addr, ∀ n31 : Nat, ∀ n32 : Nat, ∀ b33 : Bool, ∀ b34 : Bool, ∀ x35 : Int, ∀ p36 : Option Addr, ∀ n37 : Nat, ∀ n38 : Nat, ∀ x39 : Int, ∀ x40 : Int, ∀ x41 : Int, ∀ x42 : Int, ∀ p43 : Option Addr, ∀ n44 : Nat, ∀ n45 : Nat, ∀ h46 : H, (L22 k23 [(.int .i64 x25), (.int .i64 x26), (.agg #[(.int .u8 x27), (.bool b28), (.int .u8 x29), (.slice p30 n31 n32), (.bool b33), (.bool b34), (.int .u8 x35), (.slice p36 n37 n38), (.int .u8 x39), (.int .u8 x40), (.int .i64 x41), (.int .i64 x42), (.slice p43 n44 n45)])] h46) →
 (((decide (x25 < x20)) = true → ∃ L47 : Nat → List Value → H → Prop, ((∃ k48 : Nat, L47 k48 [(.int .i64 0), (.int .i64 x26), (.agg #[(.int .u8 x27), (.bool b28), (.int .u8 x29), (.slice p30 n31 n32), (.bool b33), (.bool b34), (.int .u8 x35), (.slice p36 n37 n38), (.int .u8 x39), (.int .u8 x40), (.int .i64 x41), (.int .i64 x42), (.slice p43 n44 n45)])] h46) ∧ ∀ k48 : Nat,
 ∀ x50 : Int, ∀ x51 : Int, ∀ x52 : Int, ∀ b53 : Bool, ∀ x54 : Int, ∀ p55 : Option Addr, ∀ n56 : Nat, ∀ n57 : Nat, ∀ b58 : Bool, ∀ b59 : Bool, ∀ x60 : Int, ∀ p61 : Option Addr, ∀ n62 : Nat, ∀ n63 : Nat, ∀ x64 : Int, ∀ x65 : Int, ∀ x66 : Int, ∀ x67 : Int, ∀ p68 : Option Addr, ∀ n69 : Nat, ∀ n70 : Nat, ∀ h71 : H, (L47 k48 [(.int .i64 x50), (.int .i64 x51), (.agg #[(.int .u8 x52), (.bool b53), (.int .u8 x54), (.slice p55 n56 n57), (.bool b58), (.bool b59), (.int .u8 x60), (.slice p61 n62 n63), (.int .u8 x64), (.int .u8 x65), (.int .i64 x66), (.int .i64 x67), (.slice p68 n69 n70)])] h71) →
 (((decide (x50 < ((n16 : Nat) : Int))) = true → ∃ a72 : Addr, p15 = some a72 ∧ ((0 : Int) ≤ x50 ∧ (x50 : Int) < ((n16 : Nat) : Int)) ∧ ∃ x73 : Int, cell h71 ((aidx a72 0 x50 12).add 0) = some (.int .u8 x73) ∧ ∃ b74 : Bool, cell h71 ((aidx a72 0 x50 12).add 1) = some (.bool b74) ∧ ∃ x75 : Int, cell h71 ((aidx a72 0 x50 12).add 2) = some (.int .u8 x75) ∧ ∃ p76 : Option Addr, ∃ n77 : Nat, ∃ n78 : Nat, cell h71 ((aidx a72 0 x50 12).add 3) = some (.slice p76 n77 n78) ∧ ∃ b79 : Bool, cell h71 ((aidx a72 0 x50 12).add 4) = some (.bool b79) ∧ ∃ b80 : Bool, cell h71 ((aidx a72 0 x50 12).add 5) = some (.bool b80) ∧ ∃ x81 : Int, cell h71 ((aidx a72 0 x50 12).add 6) = some (.int .u8 x81) ∧ ∃ p82 : Option Addr, ∃ n83 : Nat, ∃ n84 : Nat, cell h71 ((aidx a72 0 x50 12).add 7) = some (.slice p82 n83 n84) ∧ ∃ x85 : Int, cell h71 ((aidx a72 0 x50 12).add 8) = some (.int .u8 x85) ∧ ∃ x86 : Int, cell h71 ((aidx a72 0 x50 12).add 9) = some (.int .u8 x86) ∧ ∃ x87 : Int, cell h71 ((aidx a72 0 x50 12).add 10) = some (.int .i64 x87) ∧ ∃ p88 : Option Addr, ∃ n89 : Nat, ∃ n90 : Nat, cell h71 ((aidx a72 0 x50 12).add 11) = some (.slice p88 n89 n90) ∧ Spec P 26 #[(.agg #[(.int .u8 x73), (.bool b74), (.int .u8 x75), (.slice p76 n77 n78), (.bool b79), (.bool b80), (.int .u8 x81), (.slice p82 n83 n84), (.int .u8 x85), (.int .u8 x86), (.int .i64 x87), (.slice p88 n89 n90)]), (.int .i64 x51)] h71 (fun v91 h92 =>
 ∃ x93 : Int, ∃ b94 : Bool, ∃ x95 : Int, ∃ p96 : Option Addr, ∃ n97 : Nat, ∃ n98 : Nat, ∃ b99 : Bool, ∃ b100 : Bool, ∃ x101 : Int, ∃ p102 : Option Addr, ∃ n103 : Nat, ∃ n104 : Nat, ∃ x105 : Int, ∃ x106 : Int, ∃ x107 : Int, ∃ x108 : Int, ∃ p109 : Option Addr, ∃ n110 : Nat, ∃ n111 : Nat, ∃ x112 : Int, v91 = (.tuple #[(.agg #[(.int .u8 x93), (.bool b94), (.int .u8 x95), (.slice p96 n97 n98), (.bool b99), (.bool b100), (.int .u8 x101), (.slice p102 n103 n104), (.int .u8 x105), (.int .u8 x106), (.int .i64 x107), (.int .i64 x108), (.slice p109 n110 n111)]), (.int .i64 x112)]) ∧ ∀ n113 : Nat, h92 n113 = none → ∀ h114 : H, h114 = (hnew h92 n113 (.cells #[(.int .u8 x93), (.bool b94), (.int .u8 x95), (.slice p96 n97 n98), (.bool b99), (.bool b100), (.int .u8 x101), (.slice p102 n103 n104), (.int .u8 x105), (.int .u8 x106), (.int .i64 x107), (.int .i64 x108), (.slice p109 n110 n111)] 83 (0, 0))) →
 RunL P (X.sem (.bi .append #[81, 81] 81 [(.slice p68 n69 n70), (.slice (some ((blk n113).add 0)) 1 1)])) h114 (fun v115 h116 =>
 ∃ p117 : Option Addr, ∃ n118 : Nat, ∃ n119 : Nat, v115 = (.slice p117 n118 n119) ∧ (∃ j49 : Nat, j49 < k48 ∧ L47 j49 [(.int .i64 (IntKind.wrap .i64 (x50 + 1))), (.int .i64 x112), (.agg #[(.int .u8 x52), (.bool b53), (.int .u8 x54), (.slice p55 n56 n57), (.bool b58), (.bool b59), (.int .u8 x60), (.slice p61 n62 n63), (.int .u8 x64), (.int .u8 x65), (.int .i64 x66), (.int .i64 x67), (.slice p117 n118 n119)])] h116)))) ∧
 ((decide (x50 < ((n16 : Nat) : Int))) = false → (∃ j24 : Nat, j24 < k23 ∧ L22 j24 [(.int .i64 (IntKind.wrap .i64 (x25 + 1))), (.int .i64 x51), (.agg #[(.int .u8 x52), (.bool b53), (.int .u8 x54), (.slice p55 n56 n57), (.bool b58), (.bool b59), (.int .u8 x60), (.slice p61 n62 n63), (.int .u8 x64), (.int .u8 x65), (.int .i64 x66), (.int .i64 x67), (.slice p68 n69 n70)])] h71))))) ∧
 ((decide (x25 < x20)) = false → K (.tuple #[(.agg #[(.int .u8 x27), (.bool b28), (.int .u8 x29), (.slice p30 n31 n32), (.bool b33), (.bool b34), (.int .u8 x35), (.slice p36 n37 n38), (.int .u8 x39), (.int .u8 x40), (.int .i64 x41), (.int .i64 x42), (.slice p43 n44 n45)]), (.int .i64 x26)]) h46)))))))

theorem e_ref14_widen (x0 : Int) (b1 : Bool) (x2 : Int) (p3 : Option Addr) (n4 n5 : Nat) (b6 : Bool) (b7 : Bool) (x8 : Int) (p9 : Option Addr) (n10 n11 : Nat) (x12 : Int) (x13 : Int) (x14 : Int) (p15 : Option Addr) (n16 n17 : Nat) (x18 : Int) (h : H) (K : Value → H → Prop) : liftFn P (semAlg P K) 26 [(.agg [(.int .u8 x0), (.bool b1), (.int .u8 x2), (.slice p3 n4 n5), (.bool b6), (.bool b7), (.int .u8 x8), (.slice p9 n10 n11), (.int .u8 x12), (.int .u8 x13), (.int .i64 x14), (.slice p15 n16 n17)]), (.int .i64 x18)] h = f_ref14_widen x0 b1 x2 p3 n4 n5 b6 b7 x8 p9 n10 n11 x12 x13 x14 p15 n16 n17 x18 h K := by kernel_rfl

theorem s_ref14_widen {x0 : Int} {b1 : Bool} {x2 : Int} {p3 : Option Addr} {n4 n5 : Nat} {b6 : Bool} {b7 : Bool} {x8 : Int} {p9 : Option Addr} {n10 n11 : Nat} {x12 : Int} {x13 : Int} {x14 : Int} {p15 : Option Addr} {n16 n17 : Nat} {x18 : Int} {h : H} {K : Value → H → Prop} (hf : f_ref14_widen x0 b1 x2 p3 n4 n5 b6 b7 x8 p9 n10 n11 x12 x13 x14 p15 n16 n17 x18 h K) : Spec P 26 #[(.agg #[(.int .u8 x0), (.bool b1), (.int .u8 x2), (.slice p3 n4 n5), (.bool b6), (.bool b7), (.int .u8 x8), (.slice p9 n10 n11), (.int .u8 x12), (.int .u8 x13), (.int .i64 x14), (.slice p15 n16 n17)]), (.int .i64 x18)] h K :=
  lift_sound mixed (args := [(.agg [(.int .u8 x0), (.bool b1), (.int .u8 x2), (.slice p3 n4 n5), (.bool b6), (.bool b7), (.int .u8 x8), (.slice p9 n10 n11), (.int .u8 x12), (.int .u8 x13), (.int .i64 x14), (.slice p15 n16 n17)]), (.int .i64 x18)]) (by rw [e_ref14_widen]; exact hf)

/-- (equerry/equerryref14.Wide).first -/
def f_ref14_Wide_first (x0 : Int) (b1 : Bool) (x2 : Int) (p3 : Option Addr) (n4 n5 : Nat) (b6 : Bool) (b7 : Bool) (x8 : Int) (p9 : Option Addr) (n10 n11 : Nat) (x12 : Int) (x13 : Int) (x14 : Int) (x15 : Int) (p16 : Option Addr) (n17 n18 : Nat) (x19 : Int) (h : H) (K : Value → H → Prop) : Prop :=
 (((decide (x0 = 1)) = true → K (.bool (decide (x15 = x19))) h) ∧
 ((decide (x0 = 1)) = false → ∃ L20 : Nat → List Value → H → Prop, ((∃ k21 : Nat, L20 k21 [(.int .i64 0), (.bool false)] h) ∧ ∀ k21 : Nat,
 ∀ x23 : Int, ∀ b24 : Bool, ∀ h25 : H, (L20 k21 [(.int .i64 x23), (.bool b24)] h25) →
 (((decide (x23 < ((n17 : Nat) : Int))) = true → ∃ a26 : Addr, p16 = some a26 ∧ ((0 : Int) ≤ x23 ∧ (x23 : Int) < ((n17 : Nat) : Int)) ∧ ∃ x27 : Int, cell h25 ((aidx a26 0 x23 13).add 0) = some (.int .u8 x27) ∧ ∃ b28 : Bool, cell h25 ((aidx a26 0 x23 13).add 1) = some (.bool b28) ∧ ∃ x29 : Int, cell h25 ((aidx a26 0 x23 13).add 2) = some (.int .u8 x29) ∧ ∃ p30 : Option Addr, ∃ n31 : Nat, ∃ n32 : Nat, cell h25 ((aidx a26 0 x23 13).add 3) = some (.slice p30 n31 n32) ∧ ∃ b33 : Bool, cell h25 ((aidx a26 0 x23 13).add 4) = some (.bool b33) ∧ ∃ b34 : Bool, cell h25 ((aidx a26 0 x23 13).add 5) = some (.bool b34) ∧ ∃ x35 : Int, cell h25 ((aidx a26 0 x23 13).add 6) = some (.int .u8 x35) ∧ ∃ p36 : Option Addr, ∃ n37 : Nat, ∃ n38 : Nat, cell h25 ((aidx a26 0 x23 13).add 7) = some (.slice p36 n37 n38) ∧ ∃ x39 : Int, cell h25 ((aidx a26 0 x23 13).add 8) = some (.int .u8 x39) ∧ ∃ x40 : Int, cell h25 ((aidx a26 0 x23 13).add 9) = some (.int .u8 x40) ∧ ∃ x41 : Int, cell h25 ((aidx a26 0 x23 13).add 10) = some (.int .i64 x41) ∧ ∃ x42 : Int, cell h25 ((aidx a26 0 x23 13).add 11) = some (.int .i64 x42) ∧ ∃ p43 : Option Addr, ∃ n44 : Nat, ∃ n45 : Nat, cell h25 ((aidx a26 0 x23 13).add 12) = some (.slice p43 n44 n45) ∧ Spec P 28 #[(.agg #[(.int .u8 x27), (.bool b28), (.int .u8 x29), (.slice p30 n31 n32), (.bool b33), (.bool b34), (.int .u8 x35), (.slice p36 n37 n38), (.int .u8 x39), (.int .u8 x40), (.int .i64 x41), (.int .i64 x42), (.slice p43 n44 n45)]), (.int .i64 x19)] h25 (fun v46 h47 =>
 ∃ b48 : Bool, v46 = (.bool b48) ∧ ∃ I49 : List Value → H → Prop, ((((b48 = true → (((decide (x23 = 0)) = true → I49 [(.bool true), (.bool true)] h47) ∧
 ((decide (x23 = 0)) = false → I49 [(.bool (decide (x0 = 3))), (.bool true)] h47))) ∧
 (b48 = false → I49 [(.bool false), (.bool false)] h47))) ∧
 (∀ b50 : Bool, ∀ b51 : Bool, ∀ h52 : H, (I49 [(.bool b50), (.bool b51)] h52) →
 ((b50 = true → K (.bool true) h52) ∧
 (b50 = false → (∃ j22 : Nat, j22 < k21 ∧ L20 j22 [(.int .i64 (IntKind.wrap .i64 (x23 + 1))), (.bool b24)] h52))))))) ∧
 ((decide (x23 < ((n17 : Nat) : Int))) = false → K (.bool false) h25)))))

theorem e_ref14_Wide_first (x0 : Int) (b1 : Bool) (x2 : Int) (p3 : Option Addr) (n4 n5 : Nat) (b6 : Bool) (b7 : Bool) (x8 : Int) (p9 : Option Addr) (n10 n11 : Nat) (x12 : Int) (x13 : Int) (x14 : Int) (x15 : Int) (p16 : Option Addr) (n17 n18 : Nat) (x19 : Int) (h : H) (K : Value → H → Prop) : liftFn P (semAlg P K) 28 [(.agg [(.int .u8 x0), (.bool b1), (.int .u8 x2), (.slice p3 n4 n5), (.bool b6), (.bool b7), (.int .u8 x8), (.slice p9 n10 n11), (.int .u8 x12), (.int .u8 x13), (.int .i64 x14), (.int .i64 x15), (.slice p16 n17 n18)]), (.int .i64 x19)] h = f_ref14_Wide_first x0 b1 x2 p3 n4 n5 b6 b7 x8 p9 n10 n11 x12 x13 x14 x15 p16 n17 n18 x19 h K := by kernel_rfl

theorem s_ref14_Wide_first {x0 : Int} {b1 : Bool} {x2 : Int} {p3 : Option Addr} {n4 n5 : Nat} {b6 : Bool} {b7 : Bool} {x8 : Int} {p9 : Option Addr} {n10 n11 : Nat} {x12 : Int} {x13 : Int} {x14 : Int} {x15 : Int} {p16 : Option Addr} {n17 n18 : Nat} {x19 : Int} {h : H} {K : Value → H → Prop} (hf : f_ref14_Wide_first x0 b1 x2 p3 n4 n5 b6 b7 x8 p9 n10 n11 x12 x13 x14 x15 p16 n17 n18 x19 h K) : Spec P 28 #[(.agg #[(.int .u8 x0), (.bool b1), (.int .u8 x2), (.slice p3 n4 n5), (.bool b6), (.bool b7), (.int .u8 x8), (.slice p9 n10 n11), (.int .u8 x12), (.int .u8 x13), (.int .i64 x14), (.int .i64 x15), (.slice p16 n17 n18)]), (.int .i64 x19)] h K :=
  lift_sound mixed (args := [(.agg [(.int .u8 x0), (.bool b1), (.int .u8 x2), (.slice p3 n4 n5), (.bool b6), (.bool b7), (.int .u8 x8), (.slice p9 n10 n11), (.int .u8 x12), (.int .u8 x13), (.int .i64 x14), (.int .i64 x15), (.slice p16 n17 n18)]), (.int .i64 x19)]) (by rw [e_ref14_Wide_first]; exact hf)

/-- (equerry/equerryref14.Wide).last -/
def f_ref14_Wide_last (x0 : Int) (b1 : Bool) (x2 : Int) (p3 : Option Addr) (n4 n5 : Nat) (b6 : Bool) (b7 : Bool) (x8 : Int) (p9 : Option Addr) (n10 n11 : Nat) (x12 : Int) (x13 : Int) (x14 : Int) (x15 : Int) (p16 : Option Addr) (n17 n18 : Nat) (x19 : Int) (h : H) (K : Value → H → Prop) : Prop :=
 (((decide (x0 = 1)) = true → K (.bool (decide (x15 = x19))) h) ∧
 ((decide (x0 = 1)) = false → ∃ L20 : Nat → List Value → H → Prop, ((∃ k21 : Nat, L20 k21 [(.int .i64 0), (.bool false)] h) ∧ ∀ k21 : Nat,
 ∀ x23 : Int, ∀ b24 : Bool, ∀ h25 : H, (L20 k21 [(.int .i64 x23), (.bool b24)] h25) →
 (((decide (x23 < ((n17 : Nat) : Int))) = true → ∃ I26 : List Value → H → Prop, ((∃ I27 : List Value → H → Prop, (((((decide (x0 = 3)) = true → I27 [(.bool true), (.bool true)] h25) ∧
 ((decide (x0 = 3)) = false → (((decide (x0 = 4)) = true → I27 [(.bool (decide ((IntKind.wrap .i64 (x23 + 1)) ≥ (IntKind.wrap .i64 x12)))), (.bool false)] h25) ∧
 ((decide (x0 = 4)) = false → I27 [(.bool false), (.bool false)] h25))))) ∧
 (∀ b28 : Bool, ∀ b29 : Bool, ∀ h30 : H, (I27 [(.bool b28), (.bool b29)] h30) →
 ((b28 = true → I26 [(.bool true)] h30) ∧
 (b28 = false → I26 [(.bool (decide (x23 = (IntKind.wrap .i64 (((n17 : Nat) : Int) - 1)))))] h30))))) ∧
 (∀ b31 : Bool, ∀ h32 : H, (I26 [(.bool b31)] h32) →
 ∃ I33 : List Value → H → Prop, ((((b31 = true → ∃ a34 : Addr, p16 = some a34 ∧ ((0 : Int) ≤ x23 ∧ (x23 : Int) < ((n17 : Nat) : Int)) ∧ ∃ x35 : Int, cell h32 ((aidx a34 0 x23 13).add 0) = some (.int .u8 x35) ∧ ∃ b36 : Bool, cell h32 ((aidx a34 0 x23 13).add 1) = some (.bool b36) ∧ ∃ x37 : Int, cell h32 ((aidx a34 0 x23 13).add 2) = some (.int .u8 x37) ∧ ∃ p38 : Option Addr, ∃ n39 : Nat, ∃ n40 : Nat, cell h32 ((aidx a34 0 x23 13).add 3) = some (.slice p38 n39 n40) ∧ ∃ b41 : Bool, cell h32 ((aidx a34 0 x23 13).add 4) = some (.bool b41) ∧ ∃ b42 : Bool, cell h32 ((aidx a34 0 x23 13).add 5) = some (.bool b42) ∧ ∃ x43 : Int, cell h32 ((aidx a34 0 x23 13).add 6) = some (.int .u8 x43) ∧ ∃ p44 : Option Addr, ∃ n45 : Nat, ∃ n46 : Nat, cell h32 ((aidx a34 0 x23 13).add 7) = some (.slice p44 n45 n46) ∧ ∃ x47 : Int, cell h32 ((aidx a34 0 x23 13).add 8) = some (.int .u8 x47) ∧ ∃ x48 : Int, cell h32 ((aidx a34 0 x23 13).add 9) = some (.int .u8 x48) ∧ ∃ x49 : Int, cell h32 ((aidx a34 0 x23 13).add 10) = some (.int .i64 x49) ∧ ∃ x50 : Int, cell h32 ((aidx a34 0 x23 13).add 11) = some (.int .i64 x50) ∧ ∃ p51 : Option Addr, ∃ n52 : Nat, ∃ n53 : Nat, cell h32 ((aidx a34 0 x23 13).add 12) = some (.slice p51 n52 n53) ∧ Spec P 29 #[(.agg #[(.int .u8 x35), (.bool b36), (.int .u8 x37), (.slice p38 n39 n40), (.bool b41), (.bool b42), (.int .u8 x43), (.slice p44 n45 n46), (.int .u8 x47), (.int .u8 x48), (.int .i64 x49), (.int .i64 x50), (.slice p51 n52 n53)]), (.int .i64 x19)] h32 (fun v54 h55 =>
 ∃ b56 : Bool, v54 = (.bool b56) ∧ I33 [(.bool b56), (.bool true)] h55)) ∧
 (b31 = false → I33 [(.bool false), (.bool false)] h32))) ∧
 (∀ b57 : Bool, ∀ b58 : Bool, ∀ h59 : H, (I33 [(.bool b57), (.bool b58)] h59) →
 ((b57 = true → K (.bool true) h59) ∧
 (b57 = false → (∃ j22 : Nat, j22 < k21 ∧ L20 j22 [(.int .i64 (IntKind.wrap .i64 (x23 + 1))), (.bool b24)] h59)))))))) ∧
 ((decide (x23 < ((n17 : Nat) : Int))) = false → K (.bool false) h25)))))

theorem e_ref14_Wide_last (x0 : Int) (b1 : Bool) (x2 : Int) (p3 : Option Addr) (n4 n5 : Nat) (b6 : Bool) (b7 : Bool) (x8 : Int) (p9 : Option Addr) (n10 n11 : Nat) (x12 : Int) (x13 : Int) (x14 : Int) (x15 : Int) (p16 : Option Addr) (n17 n18 : Nat) (x19 : Int) (h : H) (K : Value → H → Prop) : liftFn P (semAlg P K) 29 [(.agg [(.int .u8 x0), (.bool b1), (.int .u8 x2), (.slice p3 n4 n5), (.bool b6), (.bool b7), (.int .u8 x8), (.slice p9 n10 n11), (.int .u8 x12), (.int .u8 x13), (.int .i64 x14), (.int .i64 x15), (.slice p16 n17 n18)]), (.int .i64 x19)] h = f_ref14_Wide_last x0 b1 x2 p3 n4 n5 b6 b7 x8 p9 n10 n11 x12 x13 x14 x15 p16 n17 n18 x19 h K := by kernel_rfl

theorem s_ref14_Wide_last {x0 : Int} {b1 : Bool} {x2 : Int} {p3 : Option Addr} {n4 n5 : Nat} {b6 : Bool} {b7 : Bool} {x8 : Int} {p9 : Option Addr} {n10 n11 : Nat} {x12 : Int} {x13 : Int} {x14 : Int} {x15 : Int} {p16 : Option Addr} {n17 n18 : Nat} {x19 : Int} {h : H} {K : Value → H → Prop} (hf : f_ref14_Wide_last x0 b1 x2 p3 n4 n5 b6 b7 x8 p9 n10 n11 x12 x13 x14 x15 p16 n17 n18 x19 h K) : Spec P 29 #[(.agg #[(.int .u8 x0), (.bool b1), (.int .u8 x2), (.slice p3 n4 n5), (.bool b6), (.bool b7), (.int .u8 x8), (.slice p9 n10 n11), (.int .u8 x12), (.int .u8 x13), (.int .i64 x14), (.int .i64 x15), (.slice p16 n17 n18)]), (.int .i64 x19)] h K :=
  lift_sound mixed (args := [(.agg [(.int .u8 x0), (.bool b1), (.int .u8 x2), (.slice p3 n4 n5), (.bool b6), (.bool b7), (.int .u8 x8), (.slice p9 n10 n11), (.int .u8 x12), (.int .u8 x13), (.int .i64 x14), (.int .i64 x15), (.slice p16 n17 n18)]), (.int .i64 x19)]) (by rw [e_ref14_Wide_last]; exact hf)

/-- (equerry/equerryref14.Wide).edge -/
def f_ref14_Wide_edge (x0 : Int) (b1 : Bool) (x2 : Int) (p3 : Option Addr) (n4 n5 : Nat) (b6 : Bool) (b7 : Bool) (x8 : Int) (p9 : Option Addr) (n10 n11 : Nat) (x12 : Int) (x13 : Int) (x14 : Int) (x15 : Int) (p16 : Option Addr) (n17 n18 : Nat) (x19 : Int) (x20 : Int) (h : H) (K : Value → H → Prop) : Prop :=
 ∃ L21 : Nat → List Value → H → Prop, ((∃ k22 : Nat, L21 k22 [(.int .i64 0), (.bool false), (.agg #[(.int .u8 0), (.bool false), (.int .u8 0), (.slice none 0 0), (.bool false), (.bool false), (.int .u8 0), (.slice none 0 0), (.int .u8 0), (.int .u8 0), (.int .i64 0)])] h) ∧ ∀ k22 : Nat,
 ∀ x24 : Int, ∀ b25 : Bool, ∀ x26 : Int, ∀ b27 : Bool, ∀ x28 : Int, ∀ p29 : Option Addr, ∀ n30 : Nat, ∀ n31 : Nat, ∀ b32 : Bool, ∀ b33 : Bool, ∀ x34 : Int, ∀ p35 : Option Addr, ∀ n36 : Nat, ∀ n37 : Nat, ∀ x38 : Int, ∀ x39 : Int, ∀ x40 : Int, ∀ h41 : H, (L21 k22 [(.int .i64 x24), (.bool b25), (.agg #[(.int .u8 x26), (.bool b27), (.int .u8 x28), (.slice p29 n30 n31), (.bool b32), (.bool b33), (.int .u8 x34), (.slice p35 n36 n37), (.int .u8 x38), (.int .u8 x39), (.int .i64 x40)])] h41) →
 (((decide (x24 < ((n17 : Nat) : Int))) = true → ∃ a42 : Addr, p16 = some a42 ∧ ((0 : Int) ≤ x24 ∧ (x24 : Int) < ((n17 : Nat) : Int)) ∧ ∃ x43 : Int, cell h41 ((aidx a42 0 x24 13).add 0) = some (.int .u8 x43) ∧ ∃ b44 : Bool, cell h41 ((aidx a42 0 x24 13).add 1) = some (.bool b44) ∧ ∃ x45 : Int, cell h41 ((aidx a42 0 x24 13).add 2) = some (.int .u8 x45) ∧ ∃ p46 : Option Addr, ∃ n47 : Nat, ∃ n48 : Nat, cell h41 ((aidx a42 0 x24 13).add 3) = some (.slice p46 n47 n48) ∧ ∃ b49 : Bool, cell h41 ((aidx a42 0 x24 13).add 4) = some (.bool b49) ∧ ∃ b50 : Bool, cell h41 ((aidx a42 0 x24 13).add 5) = some (.bool b50) ∧ ∃ x51 : Int, cell h41 ((aidx a42 0 x24 13).add 6) = some (.int .u8 x51) ∧ ∃ p52 : Option Addr, ∃ n53 : Nat, ∃ n54 : Nat, cell h41 ((aidx a42 0 x24 13).add 7) = some (.slice p52 n53 n54) ∧ ∃ x55 : Int, cell h41 ((aidx a42 0 x24 13).add 8) = some (.int .u8 x55) ∧ ∃ x56 : Int, cell h41 ((aidx a42 0 x24 13).add 9) = some (.int .u8 x56) ∧ ∃ x57 : Int, cell h41 ((aidx a42 0 x24 13).add 10) = some (.int .i64 x57) ∧ ∃ x58 : Int, cell h41 ((aidx a42 0 x24 13).add 11) = some (.int .i64 x58) ∧ ∃ p59 : Option Addr, ∃ n60 : Nat, ∃ n61 : Nat, cell h41 ((aidx a42 0 x24 13).add 12) = some (.slice p59 n60 n61) ∧ Spec P 30 #[(.agg #[(.int .u8 x43), (.bool b44), (.int .u8 x45), (.slice p46 n47 n48), (.bool b49), (.bool b50), (.int .u8 x51), (.slice p52 n53 n54), (.int .u8 x55), (.int .u8 x56), (.int .i64 x57), (.int .i64 x58), (.slice p59 n60 n61)]), (.int .i64 x19), (.int .i64 x20)] h41 (fun v62 h63 =>
 ∃ x64 : Int, ∃ b65 : Bool, ∃ x66 : Int, ∃ p67 : Option Addr, ∃ n68 : Nat, ∃ n69 : Nat, ∃ b70 : Bool, ∃ b71 : Bool, ∃ x72 : Int, ∃ p73 : Option Addr, ∃ n74 : Nat, ∃ n75 : Nat, ∃ x76 : Int, ∃ x77 : Int, ∃ x78 : Int, ∃ b79 : Bool, v62 = (.tuple #[(.agg #[(.int .u8 x64), (.bool b65), (.int .u8 x66), (.slice p67 n68 n69), (.bool b70), (.bool b71), (.int .u8 x72), (.slice p73 n74 n75), (.int .u8 x76), (.int .u8 x77), (.int .i64 x78)]), (.bool b79)]) ∧ ((b79 = true → K (.tuple #[(.agg #[(.int .u8 x64), (.bool b65), (.int .u8 x66), (.slice p67 n68 n69), (.bool b70), (.bool b71), (.int .u8 x72), (.slice p73 n74 n75), (.int .u8 x76), (.int .u8 x77), (.int .i64 x78)]), (.bool true)]) h63) ∧
 (b79 = false → ∃ I80 : List Value → H → Prop, (((((!decide (x0 = 3)) = true → (((decide (x24 > 0)) = true → ∃ a81 : Addr, p16 = some a81 ∧ ((0 : Int) ≤ (IntKind.wrap .i64 (x24 - 1)) ∧ ((IntKind.wrap .i64 (x24 - 1)) : Int) < ((n17 : Nat) : Int)) ∧ ∃ x82 : Int, cell h63 ((aidx a81 0 (IntKind.wrap .i64 (x24 - 1)) 13).add 0) = some (.int .u8 x82) ∧ ∃ b83 : Bool, cell h63 ((aidx a81 0 (IntKind.wrap .i64 (x24 - 1)) 13).add 1) = some (.bool b83) ∧ ∃ x84 : Int, cell h63 ((aidx a81 0 (IntKind.wrap .i64 (x24 - 1)) 13).add 2) = some (.int .u8 x84) ∧ ∃ p85 : Option Addr, ∃ n86 : Nat, ∃ n87 : Nat, cell h63 ((aidx a81 0 (IntKind.wrap .i64 (x24 - 1)) 13).add 3) = some (.slice p85 n86 n87) ∧ ∃ b88 : Bool, cell h63 ((aidx a81 0 (IntKind.wrap .i64 (x24 - 1)) 13).add 4) = some (.bool b88) ∧ ∃ b89 : Bool, cell h63 ((aidx a81 0 (IntKind.wrap .i64 (x24 - 1)) 13).add 5) = some (.bool b89) ∧ ∃ x90 : Int, cell h63 ((aidx a81 0 (IntKind.wrap .i64 (x24 - 1)) 13).add 6) = some (.int .u8 x90) ∧ ∃ p91 : Option Addr, ∃ n92 : Nat, ∃ n93 : Nat, cell h63 ((aidx a81 0 (IntKind.wrap .i64 (x24 - 1)) 13).add 7) = some (.slice p91 n92 n93) ∧ ∃ x94 : Int, cell h63 ((aidx a81 0 (IntKind.wrap .i64 (x24 - 1)) 13).add 8) = some (.int .u8 x94) ∧ ∃ x95 : Int, cell h63 ((aidx a81 0 (IntKind.wrap .i64 (x24 - 1)) 13).add 9) = some (.int .u8 x95) ∧ ∃ x96 : Int, cell h63 ((aidx a81 0 (IntKind.wrap .i64 (x24 - 1)) 13).add 10) = some (.int .i64 x96) ∧ ∃ x97 : Int, cell h63 ((aidx a81 0 (IntKind.wrap .i64 (x24 - 1)) 13).add 11) = some (.int .i64 x97) ∧ ∃ p98 : Option Addr, ∃ n99 : Nat, ∃ n100 : Nat, cell h63 ((aidx a81 0 (IntKind.wrap .i64 (x24 - 1)) 13).add 12) = some (.slice p98 n99 n100) ∧ Spec P 29 #[(.agg #[(.int .u8 x82), (.bool b83), (.int .u8 x84), (.slice p85 n86 n87), (.bool b88), (.bool b89), (.int .u8 x90), (.slice p91 n92 n93), (.int .u8 x94), (.int .u8 x95), (.int .i64 x96), (.int .i64 x97), (.slice p98 n99 n100)]), (.int .i64 x19)] h63 (fun v101 h102 =>
 ∃ b103 : Bool, v101 = (.bool b103) ∧ ((b103 = true → ∃ a104 : Addr, p16 = some a104 ∧ ((0 : Int) ≤ x24 ∧ (x24 : Int) < ((n17 : Nat) : Int)) ∧ ∃ x105 : Int, cell h102 ((aidx a104 0 x24 13).add 0) = some (.int .u8 x105) ∧ ∃ b106 : Bool, cell h102 ((aidx a104 0 x24 13).add 1) = some (.bool b106) ∧ ∃ x107 : Int, cell h102 ((aidx a104 0 x24 13).add 2) = some (.int .u8 x107) ∧ ∃ p108 : Option Addr, ∃ n109 : Nat, ∃ n110 : Nat, cell h102 ((aidx a104 0 x24 13).add 3) = some (.slice p108 n109 n110) ∧ ∃ b111 : Bool, cell h102 ((aidx a104 0 x24 13).add 4) = some (.bool b111) ∧ ∃ b112 : Bool, cell h102 ((aidx a104 0 x24 13).add 5) = some (.bool b112) ∧ ∃ x113 : Int, cell h102 ((aidx a104 0 x24 13).add 6) = some (.int .u8 x113) ∧ ∃ p114 : Option Addr, ∃ n115 : Nat, ∃ n116 : Nat, cell h102 ((aidx a104 0 x24 13).add 7) = some (.slice p114 n115 n116) ∧ ∃ x117 : Int, cell h102 ((aidx a104 0 x24 13).add 8) = some (.int .u8 x117) ∧ ∃ x118 : Int, cell h102 ((aidx a104 0 x24 13).add 9) = some (.int .u8 x118) ∧ ∃ x119 : Int, cell h102 ((aidx a104 0 x24 13).add 10) = some (.int .i64 x119) ∧ ∃ x120 : Int, cell h102 ((aidx a104 0 x24 13).add 11) = some (.int .i64 x120) ∧ ∃ p121 : Option Addr, ∃ n122 : Nat, ∃ n123 : Nat, cell h102 ((aidx a104 0 x24 13).add 12) = some (.slice p121 n122 n123) ∧ Spec P 28 #[(.agg #[(.int .u8 x105), (.bool b106), (.int .u8 x107), (.slice p108 n109 n110), (.bool b111), (.bool b112), (.int .u8 x113), (.slice p114 n115 n116), (.int .u8 x117), (.int .u8 x118), (.int .i64 x119), (.int .i64 x120), (.slice p121 n122 n123)]), (.int .i64 x20)] h102 (fun v124 h125 =>
 ∃ b126 : Bool, v124 = (.bool b126) ∧ I80 [(.bool (decide (x24 > 0))), (.bool b103), (.bool b126), (.bool true)] h125)) ∧
 (b103 = false → I80 [(.bool (decide (x24 > 0))), (.bool b103), (.bool false), (.bool true)] h102)))) ∧
 ((decide (x24 > 0)) = false → I80 [(.bool (decide (x24 > 0))), (.bool false), (.bool false), (.bool true)] h63))) ∧
 ((!decide (x0 = 3)) = false → I80 [(.bool false), (.bool false), (.bool false), (.bool false)] h63))) ∧
 (∀ b127 : Bool, ∀ b128 : Bool, ∀ b129 : Bool, ∀ b130 : Bool, ∀ h131 : H, (I80 [(.bool b127), (.bool b128), (.bool b129), (.bool b130)] h131) →
 ((b129 = true → K (.tuple #[(.agg #[(.int .u8 x0), (.bool b1), (.int .u8 x2), (.slice p3 n4 n5), (.bool b6), (.bool b7), (.int .u8 x8), (.slice p9 n10 n11), (.int .u8 x12), (.int .u8 x13), (.int .i64 x14)]), (.bool true)]) h131) ∧
 (b129 = false → (∃ j23 : Nat, j23 < k22 ∧ L21 j23 [(.int .i64 (IntKind.wrap .i64 (x24 + 1))), (.bool b25), (.agg #[(.int .u8 x26), (.bool b27), (.int .u8 x28), (.slice p29 n30 n31), (.bool b32), (.bool b33), (.int .u8 x34), (.slice p35 n36 n37), (.int .u8 x38), (.int .u8 x39), (.int .i64 x40)])] h131))))))))) ∧
 ((decide (x24 < ((n17 : Nat) : Int))) = false → K (.tuple #[(.agg #[(.int .u8 0), (.bool false), (.int .u8 0), (.slice none 0 0), (.bool false), (.bool false), (.int .u8 0), (.slice none 0 0), (.int .u8 0), (.int .u8 0), (.int .i64 0)]), (.bool false)]) h41)))

theorem e_ref14_Wide_edge (x0 : Int) (b1 : Bool) (x2 : Int) (p3 : Option Addr) (n4 n5 : Nat) (b6 : Bool) (b7 : Bool) (x8 : Int) (p9 : Option Addr) (n10 n11 : Nat) (x12 : Int) (x13 : Int) (x14 : Int) (x15 : Int) (p16 : Option Addr) (n17 n18 : Nat) (x19 : Int) (x20 : Int) (h : H) (K : Value → H → Prop) : liftFn P (semAlg P K) 30 [(.agg [(.int .u8 x0), (.bool b1), (.int .u8 x2), (.slice p3 n4 n5), (.bool b6), (.bool b7), (.int .u8 x8), (.slice p9 n10 n11), (.int .u8 x12), (.int .u8 x13), (.int .i64 x14), (.int .i64 x15), (.slice p16 n17 n18)]), (.int .i64 x19), (.int .i64 x20)] h = f_ref14_Wide_edge x0 b1 x2 p3 n4 n5 b6 b7 x8 p9 n10 n11 x12 x13 x14 x15 p16 n17 n18 x19 x20 h K := by kernel_rfl

theorem s_ref14_Wide_edge {x0 : Int} {b1 : Bool} {x2 : Int} {p3 : Option Addr} {n4 n5 : Nat} {b6 : Bool} {b7 : Bool} {x8 : Int} {p9 : Option Addr} {n10 n11 : Nat} {x12 : Int} {x13 : Int} {x14 : Int} {x15 : Int} {p16 : Option Addr} {n17 n18 : Nat} {x19 : Int} {x20 : Int} {h : H} {K : Value → H → Prop} (hf : f_ref14_Wide_edge x0 b1 x2 p3 n4 n5 b6 b7 x8 p9 n10 n11 x12 x13 x14 x15 p16 n17 n18 x19 x20 h K) : Spec P 30 #[(.agg #[(.int .u8 x0), (.bool b1), (.int .u8 x2), (.slice p3 n4 n5), (.bool b6), (.bool b7), (.int .u8 x8), (.slice p9 n10 n11), (.int .u8 x12), (.int .u8 x13), (.int .i64 x14), (.int .i64 x15), (.slice p16 n17 n18)]), (.int .i64 x19), (.int .i64 x20)] h K :=
  lift_sound mixed (args := [(.agg [(.int .u8 x0), (.bool b1), (.int .u8 x2), (.slice p3 n4 n5), (.bool b6), (.bool b7), (.int .u8 x8), (.slice p9 n10 n11), (.int .u8 x12), (.int .u8 x13), (.int .i64 x14), (.int .i64 x15), (.slice p16 n17 n18)]), (.int .i64 x19), (.int .i64 x20)]) (by rw [e_ref14_Wide_edge]; exact hf)

/-- (equerry/equerryref14.Wide).preds -/
def f_ref14_Wide_preds (x0 : Int) (b1 : Bool) (x2 : Int) (p3 : Option Addr) (n4 n5 : Nat) (b6 : Bool) (b7 : Bool) (x8 : Int) (p9 : Option Addr) (n10 n11 : Nat) (x12 : Int) (x13 : Int) (x14 : Int) (x15 : Int) (p16 : Option Addr) (n17 n18 : Nat) (h : H) (K : Value → H → Prop) : Prop :=
 (((decide (x0 = 1)) = true → ∀ n19 : Nat, h n19 = none → ∀ h20 : H, h20 = (hnew h n19 (.cells #[(.bool b1), (.int .u8 x2), (.slice p3 n4 n5)] 45 (0, 0))) →
 K (.slice (some ((blk n19).add 0)) 1 1) h20) ∧
 ((decide (x0 = 1)) = false → ∀ n21 : Nat, h n21 = none → ∀ h22 : H, h22 = (hnew h n21 (.cells #[] 45 (0, 0))) →
 ∃ L23 : Nat → List Value → H → Prop, ((∃ k24 : Nat, L23 k24 [(.int .i64 0), (.slice (some ((blk n21).add 0)) 0 0)] h22) ∧ ∀ k24 : Nat,
 ∀ x26 : Int, ∀ p27 : Option Addr, ∀ n28 : Nat, ∀ n29 : Nat, ∀ h30 : H, (L23 k24 [(.int .i64 x26), (.slice p27 n28 n29)] h30) →
 (((decide (x26 < ((n17 : Nat) : Int))) = true → ∃ a31 : Addr, p16 = some a31 ∧ ((0 : Int) ≤ x26 ∧ (x26 : Int) < ((n17 : Nat) : Int)) ∧ ∃ x32 : Int, cell h30 ((aidx a31 0 x26 13).add 0) = some (.int .u8 x32) ∧ ∃ b33 : Bool, cell h30 ((aidx a31 0 x26 13).add 1) = some (.bool b33) ∧ ∃ x34 : Int, cell h30 ((aidx a31 0 x26 13).add 2) = some (.int .u8 x34) ∧ ∃ p35 : Option Addr, ∃ n36 : Nat, ∃ n37 : Nat, cell h30 ((aidx a31 0 x26 13).add 3) = some (.slice p35 n36 n37) ∧ ∃ b38 : Bool, cell h30 ((aidx a31 0 x26 13).add 4) = some (.bool b38) ∧ ∃ b39 : Bool, cell h30 ((aidx a31 0 x26 13).add 5) = some (.bool b39) ∧ ∃ x40 : Int, cell h30 ((aidx a31 0 x26 13).add 6) = some (.int .u8 x40) ∧ ∃ p41 : Option Addr, ∃ n42 : Nat, ∃ n43 : Nat, cell h30 ((aidx a31 0 x26 13).add 7) = some (.slice p41 n42 n43) ∧ ∃ x44 : Int, cell h30 ((aidx a31 0 x26 13).add 8) = some (.int .u8 x44) ∧ ∃ x45 : Int, cell h30 ((aidx a31 0 x26 13).add 9) = some (.int .u8 x45) ∧ ∃ x46 : Int, cell h30 ((aidx a31 0 x26 13).add 10) = some (.int .i64 x46) ∧ ∃ x47 : Int, cell h30 ((aidx a31 0 x26 13).add 11) = some (.int .i64 x47) ∧ ∃ p48 : Option Addr, ∃ n49 : Nat, ∃ n50 : Nat, cell h30 ((aidx a31 0 x26 13).add 12) = some (.slice p48 n49 n50) ∧ Spec P 27 #[(.agg #[(.int .u8 x32), (.bool b33), (.int .u8 x34), (.slice p35 n36 n37), (.bool b38), (.bool b39), (.int .u8 x40), (.slice p41 n42 n43), (.int .u8 x44), (.int .u8 x45), (.int .i64 x46), (.int .i64 x47), (.slice p48 n49 n50)])] h30 (fun v51 h52 =>
 ∃ p53 : Option Addr, ∃ n54 : Nat, ∃ n55 : Nat, v51 = (.slice p53 n54 n55) ∧ RunL P (X.sem (.bi .append #[32, 32] 32 [(.slice p27 n28 n29), (.slice p53 n54 n55)])) h52 (fun v56 h57 =>
 ∃ p58 : Option Addr, ∃ n59 : Nat, ∃ n60 : Nat, v56 = (.slice p58 n59 n60) ∧ (∃ j25 : Nat, j25 < k24 ∧ L23 j25 [(.int .i64 (IntKind.wrap .i64 (x26 + 1))), (.slice p58 n59 n60)] h57)))) ∧
 ((decide (x26 < ((n17 : Nat) : Int))) = false → K (.slice p27 n28 n29) h30)))))

theorem e_ref14_Wide_preds (x0 : Int) (b1 : Bool) (x2 : Int) (p3 : Option Addr) (n4 n5 : Nat) (b6 : Bool) (b7 : Bool) (x8 : Int) (p9 : Option Addr) (n10 n11 : Nat) (x12 : Int) (x13 : Int) (x14 : Int) (x15 : Int) (p16 : Option Addr) (n17 n18 : Nat) (h : H) (K : Value → H → Prop) : liftFn P (semAlg P K) 27 [(.agg [(.int .u8 x0), (.bool b1), (.int .u8 x2), (.slice p3 n4 n5), (.bool b6), (.bool b7), (.int .u8 x8), (.slice p9 n10 n11), (.int .u8 x12), (.int .u8 x13), (.int .i64 x14), (.int .i64 x15), (.slice p16 n17 n18)])] h = f_ref14_Wide_preds x0 b1 x2 p3 n4 n5 b6 b7 x8 p9 n10 n11 x12 x13 x14 x15 p16 n17 n18 h K := by kernel_rfl

theorem s_ref14_Wide_preds {x0 : Int} {b1 : Bool} {x2 : Int} {p3 : Option Addr} {n4 n5 : Nat} {b6 : Bool} {b7 : Bool} {x8 : Int} {p9 : Option Addr} {n10 n11 : Nat} {x12 : Int} {x13 : Int} {x14 : Int} {x15 : Int} {p16 : Option Addr} {n17 n18 : Nat} {h : H} {K : Value → H → Prop} (hf : f_ref14_Wide_preds x0 b1 x2 p3 n4 n5 b6 b7 x8 p9 n10 n11 x12 x13 x14 x15 p16 n17 n18 h K) : Spec P 27 #[(.agg #[(.int .u8 x0), (.bool b1), (.int .u8 x2), (.slice p3 n4 n5), (.bool b6), (.bool b7), (.int .u8 x8), (.slice p9 n10 n11), (.int .u8 x12), (.int .u8 x13), (.int .i64 x14), (.int .i64 x15), (.slice p16 n17 n18)])] h K :=
  lift_sound mixed (args := [(.agg [(.int .u8 x0), (.bool b1), (.int .u8 x2), (.slice p3 n4 n5), (.bool b6), (.bool b7), (.int .u8 x8), (.slice p9 n10 n11), (.int .u8 x12), (.int .u8 x13), (.int .i64 x14), (.int .i64 x15), (.slice p16 n17 n18)])]) (by rw [e_ref14_Wide_preds]; exact hf)

/-- equerry/equerryref14.Compile -/
def f_ref14_Compile (p0 : Option Addr) (n1 n2 : Nat) (x3 : Int) (h : H) (K : Value → H → Prop) : Prop :=
 Spec P 25 #[(.agg #[(.slice p0 n1 n2), (.int .u64 x3)])] h (fun v4 h5 =>
 ∃ x6 : Int, v4 = (.int .i64 x6) ∧ (((!decide (x6 = 0)) = true → K (.tuple #[(.agg #[(.slice none 0 0), (.int .u32 0), (.int .u32 0), (.slice none 0 0)]), (.int .i64 x6)]) h5) ∧
 ((!decide (x6 = 0)) = false → Spec P 12 #[(.slice p0 n1 n2)] h5 (fun v7 h8 =>
 ∃ x9 : Int, ∃ b10 : Bool, ∃ x11 : Int, ∃ p12 : Option Addr, ∃ n13 : Nat, ∃ n14 : Nat, ∃ b15 : Bool, ∃ b16 : Bool, ∃ x17 : Int, ∃ p18 : Option Addr, ∃ n19 : Nat, ∃ n20 : Nat, ∃ x21 : Int, ∃ x22 : Int, ∃ x23 : Int, ∃ p24 : Option Addr, ∃ n25 : Nat, ∃ n26 : Nat, ∃ b27 : Bool, v7 = (.tuple #[(.agg #[(.int .u8 x9), (.bool b10), (.int .u8 x11), (.slice p12 n13 n14), (.bool b15), (.bool b16), (.int .u8 x17), (.slice p18 n19 n20), (.int .u8 x21), (.int .u8 x22), (.int .i64 x23), (.slice p24 n25 n26)]), (.bool b27)]) ∧ Spec P 26 #[(.agg #[(.int .u8 x9), (.bool b10), (.int .u8 x11), (.slice p12 n13 n14), (.bool b15), (.bool b16), (.int .u8 x17), (.slice p18 n19 n20), (.int .u8 x21), (.int .u8 x22), (.int .i64 x23), (.slice p24 n25 n26)]), (.int .i64 0)] h8 (fun v28 h29 =>
 ∃ x30 : Int, ∃ b31 : Bool, ∃ x32 : Int, ∃ p33 : Option Addr, ∃ n34 : Nat, ∃ n35 : Nat, ∃ b36 : Bool, ∃ b37 : Bool, ∃ x38 : Int, ∃ p39 : Option Addr, ∃ n40 : Nat, ∃ n41 : Nat, ∃ x42 : Int, ∃ x43 : Int, ∃ x44 : Int, ∃ x45 : Int, ∃ p46 : Option Addr, ∃ n47 : Nat, ∃ n48 : Nat, ∃ x49 : Int, v28 = (.tuple #[(.agg #[(.int .u8 x30), (.bool b31), (.int .u8 x32), (.slice p33 n34 n35), (.bool b36), (.bool b37), (.int .u8 x38), (.slice p39 n40 n41), (.int .u8 x42), (.int .u8 x43), (.int .i64 x44), (.int .i64 x45), (.slice p46 n47 n48)]), (.int .i64 x49)]) ∧ Spec P 27 #[(.agg #[(.int .u8 x30), (.bool b31), (.int .u8 x32), (.slice p33 n34 n35), (.bool b36), (.bool b37), (.int .u8 x38), (.slice p39 n40 n41), (.int .u8 x42), (.int .u8 x43), (.int .i64 x44), (.int .i64 x45), (.slice p46 n47 n48)])] h29 (fun v50 h51 =>
 ∃ p52 : Option Addr, ∃ n53 : Nat, ∃ n54 : Nat, v50 = (.slice p52 n53 n54) ∧ ∃ L55 : Nat → List Value → H → Prop, ((∃ k56 : Nat, L55 k56 [(.int .i64 0), (.int .u32 1), (.agg #[(.slice p52 n53 n54), (.int .u32 0), (.int .u32 0), (.slice none 0 0)])] h51) ∧ ∀ k56 : Nat,
 ∀ x58 : Int, ∀ x59 : Int, ∀ p60 : Option Addr, ∀ n61 : Nat, ∀ n62 : Nat, ∀ x63 : Int, ∀ x64 : Int, ∀ p65 : Option Addr, ∀ n66 : Nat, ∀ n67 : Nat, ∀ h68 : H, (L55 k56 [(.int .i64 x58), (.int .u32 x59), (.agg #[(.slice p60 n61 n62), (.int .u32 x63), (.int .u32 x64), (.slice p65 n66 n67)])] h68) →
 (((decide (x58 < x49)) = true → ∃ I69 : List Value → H → Prop, ((Spec P 28 #[(.agg #[(.int .u8 x30), (.bool b31), (.int .u8 x32), (.slice p33 n34 n35), (.bool b36), (.bool b37), (.int .u8 x38), (.slice p39 n40 n41), (.int .u8 x42), (.int .u8 x43), (.int .i64 x44), (.int .i64 x45), (.slice p46 n47 n48)]), (.int .i64 x58)] h68 (fun v70 h71 =>
 ∃ b72 : Bool, v70 = (.bool b72) ∧ ((b72 = true → I69 [(.agg #[(.slice p60 n61 n62), (.int .u32 (IntKind.wrap .u32 (x63 + x59))), (.int .u32 x64), (.slice p65 n66 n67)])] h71) ∧
 (b72 = false → I69 [(.agg #[(.slice p60 n61 n62), (.int .u32 x63), (.int .u32 x64), (.slice p65 n66 n67)])] h71)))) ∧
 (∀ p73 : Option Addr, ∀ n74 : Nat, ∀ n75 : Nat, ∀ x76 : Int, ∀ x77 : Int, ∀ p78 : Option Addr, ∀ n79 : Nat, ∀ n80 : Nat, ∀ h81 : H, (I69 [(.agg #[(.slice p73 n74 n75), (.int .u32 x76), (.int .u32 x77), (.slice p78 n79 n80)])] h81) →
 ∃ I82 : List Value → H → Prop, ((Spec P 29 #[(.agg #[(.int .u8 x30), (.bool b31), (.int .u8 x32), (.slice p33 n34 n35), (.bool b36), (.bool b37), (.int .u8 x38), (.slice p39 n40 n41), (.int .u8 x42), (.int .u8 x43), (.int .i64 x44), (.int .i64 x45), (.slice p46 n47 n48)]), (.int .i64 x58)] h81 (fun v83 h84 =>
 ∃ b85 : Bool, v83 = (.bool b85) ∧ ((b85 = true → I82 [(.agg #[(.slice p73 n74 n75), (.int .u32 x76), (.int .u32 (IntKind.wrap .u32 (x77 + x59))), (.slice p78 n79 n80)])] h84) ∧
 (b85 = false → I82 [(.agg #[(.slice p73 n74 n75), (.int .u32 x76), (.int .u32 x77), (.slice p78 n79 n80)])] h84)))) ∧
 (∀ p86 : Option Addr, ∀ n87 : Nat, ∀ n88 : Nat, ∀ x89 : Int, ∀ x90 : Int, ∀ p91 : Option Addr, ∀ n92 : Nat, ∀ n93 : Nat, ∀ h94 : H, (I82 [(.agg #[(.slice p86 n87 n88), (.int .u32 x89), (.int .u32 x90), (.slice p91 n92 n93)])] h94) →
 ∃ L95 : Nat → List Value → H → Prop, ((∃ k96 : Nat, L95 k96 [(.int .i64 0), (.agg #[(.slice p86 n87 n88), (.int .u32 x89), (.int .u32 x90), (.slice p91 n92 n93)])] h94) ∧ ∀ k96 : Nat,
 ∀ x98 : Int, ∀ p99 : Option Addr, ∀ n100 : Nat, ∀ n101 : Nat, ∀ x102 : Int, ∀ x103 : Int, ∀ p104 : Option Addr, ∀ n105 : Nat, ∀ n106 : Nat, ∀ h107 : H, (L95 k96 [(.int .i64 x98), (.agg #[(.slice p99 n100 n101), (.int .u32 x102), (.int .u32 x103), (.slice p104 n105 n106)])] h107) →
 (((decide (x98 < x49)) = true → ∃ I108 : List Value → H → Prop, ((Spec P 30 #[(.agg #[(.int .u8 x30), (.bool b31), (.int .u8 x32), (.slice p33 n34 n35), (.bool b36), (.bool b37), (.int .u8 x38), (.slice p39 n40 n41), (.int .u8 x42), (.int .u8 x43), (.int .i64 x44), (.int .i64 x45), (.slice p46 n47 n48)]), (.int .i64 x58), (.int .i64 x98)] h107 (fun v109 h110 =>
 ∃ x111 : Int, ∃ b112 : Bool, ∃ x113 : Int, ∃ p114 : Option Addr, ∃ n115 : Nat, ∃ n116 : Nat, ∃ b117 : Bool, ∃ b118 : Bool, ∃ x119 : Int, ∃ p120 : Option Addr, ∃ n121 : Nat, ∃ n122 : Nat, ∃ x123 : Int, ∃ x124 : Int, ∃ x125 : Int, ∃ b126 : Bool, v109 = (.tuple #[(.agg #[(.int .u8 x111), (.bool b112), (.int .u8 x113), (.slice p114 n115 n116), (.bool b117), (.bool b118), (.int .u8 x119), (.slice p120 n121 n122), (.int .u8 x123), (.int .u8 x124), (.int .i64 x125)]), (.bool b126)]) ∧ ((b126 = true → ∀ n127 : Nat, h110 n127 = none → ∀ h128 : H, h128 = (hnew h110 n127 (.cells #[(.int .u8 (IntKind.wrap .u8 x58)), (.int .u8 (IntKind.wrap .u8 x98)), (.bool b117), (.bool b118), (.int .u8 x119), (.slice p120 n121 n122)] 47 (0, 0))) →
 RunL P (X.sem (.bi .append #[34, 34] 34 [(.slice p104 n105 n106), (.slice (some ((blk n127).add 0)) 1 1)])) h128 (fun v129 h130 =>
 ∃ p131 : Option Addr, ∃ n132 : Nat, ∃ n133 : Nat, v129 = (.slice p131 n132 n133) ∧ I108 [(.agg #[(.slice p99 n100 n101), (.int .u32 x102), (.int .u32 x103), (.slice p131 n132 n133)])] h130)) ∧
 (b126 = false → I108 [(.agg #[(.slice p99 n100 n101), (.int .u32 x102), (.int .u32 x103), (.slice p104 n105 n106)])] h110)))) ∧
 (∀ p134 : Option Addr, ∀ n135 : Nat, ∀ n136 : Nat, ∀ x137 : Int, ∀ x138 : Int, ∀ p139 : Option Addr, ∀ n140 : Nat, ∀ n141 : Nat, ∀ h142 : H, (I108 [(.agg #[(.slice p134 n135 n136), (.int .u32 x137), (.int .u32 x138), (.slice p139 n140 n141)])] h142) →
 (∃ j97 : Nat, j97 < k96 ∧ L95 j97 [(.int .i64 (IntKind.wrap .i64 (x98 + 1))), (.agg #[(.slice p134 n135 n136), (.int .u32 x137), (.int .u32 x138), (.slice p139 n140 n141)])] h142)))) ∧
 ((decide (x98 < x49)) = false → (∃ j57 : Nat, j57 < k56 ∧ L55 j57 [(.int .i64 (IntKind.wrap .i64 (x58 + 1))), (.int .u32 (IntKind.wrap .u32 (x59 * 2))), (.agg #[(.slice p99 n100 n101), (.int .u32 x102), (.int .u32 x103), (.slice p104 n105 n106)])] h107))))))))) ∧
 ((decide (x58 < x49)) = false → (((decide (((n66 : Nat) : Int) > 64)) = true → K (.tuple #[(.agg #[(.slice none 0 0), (.int .u32 0), (.int .u32 0), (.slice none 0 0)]), (.int .i64 12)]) h68) ∧
 ((decide (((n66 : Nat) : Int) > 64)) = false → K (.tuple #[(.agg #[(.slice p60 n61 n62), (.int .u32 x63), (.int .u32 x64), (.slice p65 n66 n67)]), (.int .i64 0)]) h68)))))))))))

theorem e_ref14_Compile (p0 : Option Addr) (n1 n2 : Nat) (x3 : Int) (h : H) (K : Value → H → Prop) : liftFn P (semAlg P K) 9 [(.agg [(.slice p0 n1 n2), (.int .u64 x3)])] h = f_ref14_Compile p0 n1 n2 x3 h K := by kernel_rfl

theorem s_ref14_Compile {p0 : Option Addr} {n1 n2 : Nat} {x3 : Int} {h : H} {K : Value → H → Prop} (hf : f_ref14_Compile p0 n1 n2 x3 h K) : Spec P 9 #[(.agg #[(.slice p0 n1 n2), (.int .u64 x3)])] h K :=
  lift_sound mixed (args := [(.agg [(.slice p0 n1 n2), (.int .u64 x3)])]) (by rw [e_ref14_Compile]; exact hf)

/-- equerry/equerryref14.Same -/
def f_ref14_Same (p0 : Option Addr) (n1 n2 : Nat) (x3 : Int) (x4 : Int) (p5 : Option Addr) (n6 n7 : Nat) (p8 : Option Addr) (n9 n10 : Nat) (x11 : Int) (x12 : Int) (p13 : Option Addr) (n14 n15 : Nat) (h : H) (K : Value → H → Prop) : Prop :=
 ∃ I16 : List Value → H → Prop, (((((!decide (x3 = x11)) = true → I16 [(.bool true), (.bool true), (.bool true), (.bool true)] h) ∧
 ((!decide (x3 = x11)) = false → (((!decide (x4 = x12)) = true → I16 [(.bool (!decide (x4 = x12))), (.bool true), (.bool true), (.bool false)] h) ∧
 ((!decide (x4 = x12)) = false → (((!decide (((n1 : Nat) : Int) = ((n9 : Nat) : Int))) = true → I16 [(.bool (!decide (x4 = x12))), (.bool (!decide (((n1 : Nat) : Int) = ((n9 : Nat) : Int)))), (.bool true), (.bool false)] h) ∧
 ((!decide (((n1 : Nat) : Int) = ((n9 : Nat) : Int))) = false → I16 [(.bool (!decide (x4 = x12))), (.bool (!decide (((n1 : Nat) : Int) = ((n9 : Nat) : Int)))), (.bool (!decide (((n6 : Nat) : Int) = ((n14 : Nat) : Int)))), (.bool false)] h))))))) ∧
 (∀ b17 : Bool, ∀ b18 : Bool, ∀ b19 : Bool, ∀ b20 : Bool, ∀ h21 : H, (I16 [(.bool b17), (.bool b18), (.bool b19), (.bool b20)] h21) →
 ((b19 = true → K (.bool false) h21) ∧
 (b19 = false → ∃ L22 : Nat → List Value → H → Prop, ((∃ k23 : Nat, L22 k23 [(.int .i64 0), (.bool false)] h21) ∧ ∀ k23 : Nat,
 ∀ x25 : Int, ∀ b26 : Bool, ∀ h27 : H, (L22 k23 [(.int .i64 x25), (.bool b26)] h27) →
 (((decide (x25 < ((n1 : Nat) : Int))) = true → ∃ a28 : Addr, p0 = some a28 ∧ ((0 : Int) ≤ x25 ∧ (x25 : Int) < ((n1 : Nat) : Int)) ∧ ∃ b29 : Bool, cell h27 ((aidx a28 0 x25 3).add 0) = some (.bool b29) ∧ ∃ x30 : Int, cell h27 ((aidx a28 0 x25 3).add 1) = some (.int .u8 x30) ∧ ∃ p31 : Option Addr, ∃ n32 : Nat, ∃ n33 : Nat, cell h27 ((aidx a28 0 x25 3).add 2) = some (.slice p31 n32 n33) ∧ ∃ a34 : Addr, p8 = some a34 ∧ ((0 : Int) ≤ x25 ∧ (x25 : Int) < ((n9 : Nat) : Int)) ∧ ∃ b35 : Bool, cell h27 ((aidx a34 0 x25 3).add 0) = some (.bool b35) ∧ ∃ x36 : Int, cell h27 ((aidx a34 0 x25 3).add 1) = some (.int .u8 x36) ∧ ∃ p37 : Option Addr, ∃ n38 : Nat, ∃ n39 : Nat, cell h27 ((aidx a34 0 x25 3).add 2) = some (.slice p37 n38 n39) ∧ Spec P 31 #[(.agg #[(.bool b29), (.int .u8 x30), (.slice p31 n32 n33)]), (.agg #[(.bool b35), (.int .u8 x36), (.slice p37 n38 n39)])] h27 (fun v40 h41 =>
 ∃ b42 : Bool, v40 = (.bool b42) ∧ (((!b42) = true → K (.bool false) h41) ∧
 ((!b42) = false → (∃ j24 : Nat, j24 < k23 ∧ L22 j24 [(.int .i64 (IntKind.wrap .i64 (x25 + 1))), (.bool b26)] h41))))) ∧
 ((decide (x25 < ((n1 : Nat) : Int))) = false → ∃ L43 : Nat → List Value → H → Prop, ((∃ k44 : Nat, L43 k44 [(.int .i64 0), (.bool b26)] h27) ∧ ∀ k44 : Nat,
 ∀ x46 : Int, ∀ b47 : Bool, ∀ h48 : H, (L43 k44 [(.int .i64 x46), (.bool b47)] h48) →
 (((decide (x46 < ((n6 : Nat) : Int))) = true → ∃ a49 : Addr, p5 = some a49 ∧ ((0 : Int) ≤ x46 ∧ (x46 : Int) < ((n6 : Nat) : Int)) ∧ ∃ x50 : Int, cell h48 ((aidx a49 0 x46 6).add 0) = some (.int .u8 x50) ∧ ∃ x51 : Int, cell h48 ((aidx a49 0 x46 6).add 1) = some (.int .u8 x51) ∧ ∃ b52 : Bool, cell h48 ((aidx a49 0 x46 6).add 2) = some (.bool b52) ∧ ∃ b53 : Bool, cell h48 ((aidx a49 0 x46 6).add 3) = some (.bool b53) ∧ ∃ x54 : Int, cell h48 ((aidx a49 0 x46 6).add 4) = some (.int .u8 x54) ∧ ∃ p55 : Option Addr, ∃ n56 : Nat, ∃ n57 : Nat, cell h48 ((aidx a49 0 x46 6).add 5) = some (.slice p55 n56 n57) ∧ ∃ a58 : Addr, p13 = some a58 ∧ ((0 : Int) ≤ x46 ∧ (x46 : Int) < ((n14 : Nat) : Int)) ∧ ∃ x59 : Int, cell h48 ((aidx a58 0 x46 6).add 0) = some (.int .u8 x59) ∧ ∃ x60 : Int, cell h48 ((aidx a58 0 x46 6).add 1) = some (.int .u8 x60) ∧ ∃ b61 : Bool, cell h48 ((aidx a58 0 x46 6).add 2) = some (.bool b61) ∧ ∃ b62 : Bool, cell h48 ((aidx a58 0 x46 6).add 3) = some (.bool b62) ∧ ∃ x63 : Int, cell h48 ((aidx a58 0 x46 6).add 4) = some (.int .u8 x63) ∧ ∃ p64 : Option Addr, ∃ n65 : Nat, ∃ n66 : Nat, cell h48 ((aidx a58 0 x46 6).add 5) = some (.slice p64 n65 n66) ∧ ∃ I67 : List Value → H → Prop, (((((!decide (x50 = x59)) = true → I67 [(.bool true), (.bool true), (.bool true), (.bool true)] h48) ∧
 ((!decide (x50 = x59)) = false → (((!decide (x51 = x60)) = true → I67 [(.bool (!decide (x51 = x60))), (.bool true), (.bool true), (.bool false)] h48) ∧
 ((!decide (x51 = x60)) = false → (((!(b52 == b61)) = true → I67 [(.bool (!decide (x51 = x60))), (.bool (!(b52 == b61))), (.bool true), (.bool false)] h48) ∧
 ((!(b52 == b61)) = false → Spec P 31 #[(.agg #[(.bool b53), (.int .u8 x54), (.slice p55 n56 n57)]), (.agg #[(.bool b62), (.int .u8 x63), (.slice p64 n65 n66)])] h48 (fun v68 h69 =>
 ∃ b70 : Bool, v68 = (.bool b70) ∧ I67 [(.bool (!decide (x51 = x60))), (.bool (!(b52 == b61))), (.bool (!b70)), (.bool false)] h69)))))))) ∧
 (∀ b71 : Bool, ∀ b72 : Bool, ∀ b73 : Bool, ∀ b74 : Bool, ∀ h75 : H, (I67 [(.bool b71), (.bool b72), (.bool b73), (.bool b74)] h75) →
 ((b73 = true → K (.bool false) h75) ∧
 (b73 = false → (∃ j45 : Nat, j45 < k44 ∧ L43 j45 [(.int .i64 (IntKind.wrap .i64 (x46 + 1))), (.bool b47)] h75)))))) ∧
 ((decide (x46 < ((n6 : Nat) : Int))) = false → K (.bool true) h48))))))))))

theorem e_ref14_Same (p0 : Option Addr) (n1 n2 : Nat) (x3 : Int) (x4 : Int) (p5 : Option Addr) (n6 n7 : Nat) (p8 : Option Addr) (n9 n10 : Nat) (x11 : Int) (x12 : Int) (p13 : Option Addr) (n14 n15 : Nat) (h : H) (K : Value → H → Prop) : liftFn P (semAlg P K) 10 [(.agg [(.slice p0 n1 n2), (.int .u32 x3), (.int .u32 x4), (.slice p5 n6 n7)]), (.agg [(.slice p8 n9 n10), (.int .u32 x11), (.int .u32 x12), (.slice p13 n14 n15)])] h = f_ref14_Same p0 n1 n2 x3 x4 p5 n6 n7 p8 n9 n10 x11 x12 p13 n14 n15 h K := by kernel_rfl

theorem s_ref14_Same {p0 : Option Addr} {n1 n2 : Nat} {x3 : Int} {x4 : Int} {p5 : Option Addr} {n6 n7 : Nat} {p8 : Option Addr} {n9 n10 : Nat} {x11 : Int} {x12 : Int} {p13 : Option Addr} {n14 n15 : Nat} {h : H} {K : Value → H → Prop} (hf : f_ref14_Same p0 n1 n2 x3 x4 p5 n6 n7 p8 n9 n10 x11 x12 p13 n14 n15 h K) : Spec P 10 #[(.agg #[(.slice p0 n1 n2), (.int .u32 x3), (.int .u32 x4), (.slice p5 n6 n7)]), (.agg #[(.slice p8 n9 n10), (.int .u32 x11), (.int .u32 x12), (.slice p13 n14 n15)])] h K :=
  lift_sound mixed (args := [(.agg [(.slice p0 n1 n2), (.int .u32 x3), (.int .u32 x4), (.slice p5 n6 n7)]), (.agg [(.slice p8 n9 n10), (.int .u32 x11), (.int .u32 x12), (.slice p13 n14 n15)])]) (by rw [e_ref14_Same]; exact hf)

/-- equerry/equerrylaw14.fixed -/
def f_law14_fixed  (h : H) (K : Value → H → Prop) : Prop :=
 Spec P 16 #[(.int .u8 1), (.int .u8 2)] h (fun v0 h1 =>
 ∃ p2 : Option Addr, ∃ n3 : Nat, ∃ n4 : Nat, ∃ x5 : Int, v0 = (.agg #[(.slice p2 n3 n4), (.int .u64 x5)]) ∧ Spec P 8 #[(.agg #[(.slice p2 n3 n4), (.int .u64 x5)])] h1 (fun v6 h7 =>
 ∃ p8 : Option Addr, ∃ n9 : Nat, ∃ n10 : Nat, ∃ x11 : Int, ∃ x12 : Int, ∃ p13 : Option Addr, ∃ n14 : Nat, ∃ n15 : Nat, ∃ x16 : Int, v6 = (.tuple #[(.agg #[(.slice p8 n9 n10), (.int .u32 x11), (.int .u32 x12), (.slice p13 n14 n15)]), (.int .i64 x16)]) ∧ ∃ I17 : List Value → H → Prop, (((((decide (x16 = 0)) = true → (((decide (x11 = 1)) = true → (((decide (x12 = 2)) = true → (((decide (((n14 : Nat) : Int) = 1)) = true → ∃ a18 : Addr, p13 = some a18 ∧ ((0 : Int) ≤ 0 ∧ (0 : Int) < ((n14 : Nat) : Int)) ∧ ∃ x19 : Int, cell h7 ((aidx a18 0 0 6).add 0) = some (.int .u8 x19) ∧ (((decide (x19 = 0)) = true → ∃ a20 : Addr, p13 = some a20 ∧ ((0 : Int) ≤ 0 ∧ (0 : Int) < ((n14 : Nat) : Int)) ∧ ∃ x21 : Int, cell h7 ((aidx a20 0 0 6).add 1) = some (.int .u8 x21) ∧ (((decide (x21 = 1)) = true → I17 [(.bool (decide (x11 = 1))), (.bool (decide (x12 = 2))), (.bool (decide (((n14 : Nat) : Int) = 1))), (.bool (decide (x19 = 0))), (.bool (decide (x21 = 1))), (.bool (decide (((n9 : Nat) : Int) = 2))), (.bool true)] h7) ∧
 ((decide (x21 = 1)) = false → I17 [(.bool (decide (x11 = 1))), (.bool (decide (x12 = 2))), (.bool (decide (((n14 : Nat) : Int) = 1))), (.bool (decide (x19 = 0))), (.bool (decide (x21 = 1))), (.bool false), (.bool true)] h7))) ∧
 ((decide (x19 = 0)) = false → I17 [(.bool (decide (x11 = 1))), (.bool (decide (x12 = 2))), (.bool (decide (((n14 : Nat) : Int) = 1))), (.bool (decide (x19 = 0))), (.bool false), (.bool false), (.bool true)] h7))) ∧
 ((decide (((n14 : Nat) : Int) = 1)) = false → I17 [(.bool (decide (x11 = 1))), (.bool (decide (x12 = 2))), (.bool (decide (((n14 : Nat) : Int) = 1))), (.bool false), (.bool false), (.bool false), (.bool true)] h7))) ∧
 ((decide (x12 = 2)) = false → I17 [(.bool (decide (x11 = 1))), (.bool (decide (x12 = 2))), (.bool false), (.bool false), (.bool false), (.bool false), (.bool true)] h7))) ∧
 ((decide (x11 = 1)) = false → I17 [(.bool (decide (x11 = 1))), (.bool false), (.bool false), (.bool false), (.bool false), (.bool false), (.bool true)] h7))) ∧
 ((decide (x16 = 0)) = false → I17 [(.bool false), (.bool false), (.bool false), (.bool false), (.bool false), (.bool false), (.bool false)] h7))) ∧
 (∀ b22 : Bool, ∀ b23 : Bool, ∀ b24 : Bool, ∀ b25 : Bool, ∀ b26 : Bool, ∀ b27 : Bool, ∀ b28 : Bool, ∀ h29 : H, (I17 [(.bool b22), (.bool b23), (.bool b24), (.bool b25), (.bool b26), (.bool b27), (.bool b28)] h29) →
 K (.bool b27) h29))))

theorem e_law14_fixed  (h : H) (K : Value → H → Prop) : liftFn P (semAlg P K) 7 [] h = f_law14_fixed  h K := by kernel_rfl

theorem s_law14_fixed  {h : H} {K : Value → H → Prop} (hf : f_law14_fixed  h K) : Spec P 7 #[] h K :=
  lift_sound mixed (args := []) (by rw [e_law14_fixed]; exact hf)

/-- equerry/equerrylaw14.AutoCompiles -/
def f_law14_AutoCompiles (p0 : Option Addr) (n1 n2 : Nat) (x3 : Int) (h : H) (K : Value → H → Prop) : Prop :=
 Spec P 5 #[(.agg #[(.slice p0 n1 n2), (.int .u64 x3)])] h (fun v4 h5 =>
 ∃ p6 : Option Addr, ∃ n7 : Nat, ∃ n8 : Nat, ∃ x9 : Int, v4 = (.agg #[(.slice p6 n7 n8), (.int .u64 x9)]) ∧ Spec P 6 #[(.agg #[(.slice p6 n7 n8), (.int .u64 x9)])] h5 (fun v10 h11 =>
 ∃ b12 : Bool, v10 = (.bool b12) ∧ ((b12 = true → Spec P 7 #[] h11 (fun v13 h14 =>
 ∃ b15 : Bool, v13 = (.bool b15) ∧ K (.bool b15) h14)) ∧
 (b12 = false → Spec P 8 #[(.agg #[(.slice p6 n7 n8), (.int .u64 x9)])] h11 (fun v16 h17 =>
 ∃ p18 : Option Addr, ∃ n19 : Nat, ∃ n20 : Nat, ∃ x21 : Int, ∃ x22 : Int, ∃ p23 : Option Addr, ∃ n24 : Nat, ∃ n25 : Nat, ∃ x26 : Int, v16 = (.tuple #[(.agg #[(.slice p18 n19 n20), (.int .u32 x21), (.int .u32 x22), (.slice p23 n24 n25)]), (.int .i64 x26)]) ∧ Spec P 9 #[(.agg #[(.slice p6 n7 n8), (.int .u64 x9)])] h17 (fun v27 h28 =>
 ∃ p29 : Option Addr, ∃ n30 : Nat, ∃ n31 : Nat, ∃ x32 : Int, ∃ x33 : Int, ∃ p34 : Option Addr, ∃ n35 : Nat, ∃ n36 : Nat, ∃ x37 : Int, v27 = (.tuple #[(.agg #[(.slice p29 n30 n31), (.int .u32 x32), (.int .u32 x33), (.slice p34 n35 n36)]), (.int .i64 x37)]) ∧ Spec P 10 #[(.agg #[(.slice p18 n19 n20), (.int .u32 x21), (.int .u32 x22), (.slice p23 n24 n25)]), (.agg #[(.slice p29 n30 n31), (.int .u32 x32), (.int .u32 x33), (.slice p34 n35 n36)])] h28 (fun v38 h39 =>
 ∃ b40 : Bool, v38 = (.bool b40) ∧ ∃ I41 : List Value → H → Prop, (((((!b40) = true → I41 [(.bool true), (.bool true)] h39) ∧
 ((!b40) = false → I41 [(.bool (!decide (x26 = x37))), (.bool false)] h39))) ∧
 (∀ b42 : Bool, ∀ b43 : Bool, ∀ h44 : H, (I41 [(.bool b42), (.bool b43)] h44) →
 ((b42 = true → K (.bool false) h44) ∧
 (b42 = false → ∃ L45 : Nat → List Value → H → Prop, ((∃ k46 : Nat, L45 k46 [(.int .i64 0)] h44) ∧ ∀ k46 : Nat,
 ∀ x48 : Int, ∀ h49 : H, (L45 k46 [(.int .i64 x48)] h49) →
 (((decide (x48 < ((n19 : Nat) : Int))) = true → ∃ a50 : Addr, p18 = some a50 ∧ ((0 : Int) ≤ x48 ∧ (x48 : Int) < ((n19 : Nat) : Int)) ∧ ∃ p51 : Option Addr, ∃ n52 : Nat, ∃ n53 : Nat, cell h49 ((aidx a50 0 x48 3).add 2) = some (.slice p51 n52 n53) ∧ RunL P (X.sem (.bi .clear #[43] 0 [(.slice p51 n52 n53)])) h49 (fun v54 h55 =>
 (∃ j47 : Nat, j47 < k46 ∧ L45 j47 [(.int .i64 (IntKind.wrap .i64 (x48 + 1)))] h55))) ∧
 ((decide (x48 < ((n19 : Nat) : Int))) = false → ∃ L56 : Nat → List Value → H → Prop, ((∃ k57 : Nat, L56 k57 [(.int .i64 0)] h49) ∧ ∀ k57 : Nat,
 ∀ x59 : Int, ∀ h60 : H, (L56 k57 [(.int .i64 x59)] h60) →
 (((decide (x59 < ((n24 : Nat) : Int))) = true → ∃ a61 : Addr, p23 = some a61 ∧ ((0 : Int) ≤ x59 ∧ (x59 : Int) < ((n24 : Nat) : Int)) ∧ ∃ p62 : Option Addr, ∃ n63 : Nat, ∃ n64 : Nat, cell h60 ((aidx a61 0 x59 6).add 5) = some (.slice p62 n63 n64) ∧ RunL P (X.sem (.bi .clear #[43] 0 [(.slice p62 n63 n64)])) h60 (fun v65 h66 =>
 (∃ j58 : Nat, j58 < k57 ∧ L56 j58 [(.int .i64 (IntKind.wrap .i64 (x59 + 1)))] h66))) ∧
 ((decide (x59 < ((n24 : Nat) : Int))) = false → ∃ I67 : List Value → H → Prop, ((Spec P 7 #[] h60 (fun v68 h69 =>
 ∃ b70 : Bool, v68 = (.bool b70) ∧ (Le h60 h69) ∧ ((b70 = true → Spec P 5 #[(.agg #[(.slice p0 n1 n2), (.int .u64 x3)])] h69 (fun v71 h72 =>
 ∃ p73 : Option Addr, ∃ n74 : Nat, ∃ n75 : Nat, ∃ x76 : Int, v71 = (.agg #[(.slice p73 n74 n75), (.int .u64 x76)]) ∧ (Le h60 h72) ∧ Spec P 11 #[(.agg #[(.slice p6 n7 n8), (.int .u64 x9)]), (.agg #[(.slice p73 n74 n75), (.int .u64 x76)])] h72 (fun v77 h78 =>
 ∃ b79 : Bool, v77 = (.bool b79) ∧ I67 [(.bool b79), (.bool b79)] h78))) ∧
 (b70 = false → I67 [(.bool false), (.bool false)] h69)))) ∧
 (∀ b80 : Bool, ∀ b81 : Bool, ∀ h82 : H, (I67 [(.bool b80), (.bool b81)] h82) →
 K (.bool b81) h82)))))))))))))))))))

theorem e_law14_AutoCompiles (p0 : Option Addr) (n1 n2 : Nat) (x3 : Int) (h : H) (K : Value → H → Prop) : liftFn P (semAlg P K) 3 [(.agg [(.slice p0 n1 n2), (.int .u64 x3)])] h = f_law14_AutoCompiles p0 n1 n2 x3 h K := by kernel_rfl

theorem s_law14_AutoCompiles {p0 : Option Addr} {n1 n2 : Nat} {x3 : Int} {h : H} {K : Value → H → Prop} (hf : f_law14_AutoCompiles p0 n1 n2 x3 h K) : Spec P 3 #[(.agg #[(.slice p0 n1 n2), (.int .u64 x3)])] h K :=
  lift_sound mixed (args := [(.agg [(.slice p0 n1 n2), (.int .u64 x3)])]) (by rw [e_law14_AutoCompiles]; exact hf)

/-- equerry/equerrylaw14.AutoRises -/
def f_law14_AutoRises (p0 : Option Addr) (n1 n2 : Nat) (x3 : Int) (h : H) (K : Value → H → Prop) : Prop :=
 Spec P 5 #[(.agg #[(.slice p0 n1 n2), (.int .u64 x3)])] h (fun v4 h5 =>
 ∃ p6 : Option Addr, ∃ n7 : Nat, ∃ n8 : Nat, ∃ x9 : Int, v4 = (.agg #[(.slice p6 n7 n8), (.int .u64 x9)]) ∧ Spec P 6 #[(.agg #[(.slice p6 n7 n8), (.int .u64 x9)])] h5 (fun v10 h11 =>
 ∃ b12 : Bool, v10 = (.bool b12) ∧ ((b12 = true → Spec P 7 #[] h11 (fun v13 h14 =>
 ∃ b15 : Bool, v13 = (.bool b15) ∧ K (.bool b15) h14)) ∧
 (b12 = false → Spec P 8 #[(.agg #[(.slice p6 n7 n8), (.int .u64 x9)])] h11 (fun v16 h17 =>
 ∃ p18 : Option Addr, ∃ n19 : Nat, ∃ n20 : Nat, ∃ x21 : Int, ∃ x22 : Int, ∃ p23 : Option Addr, ∃ n24 : Nat, ∃ n25 : Nat, ∃ x26 : Int, v16 = (.tuple #[(.agg #[(.slice p18 n19 n20), (.int .u32 x21), (.int .u32 x22), (.slice p23 n24 n25)]), (.int .i64 x26)]) ∧ (((!decide (x26 = 0)) = true → Spec P 7 #[] h17 (fun v27 h28 =>
 ∃ b29 : Bool, v27 = (.bool b29) ∧ K (.bool b29) h28)) ∧
 ((!decide (x26 = 0)) = false → ∃ L30 : Nat → List Value → H → Prop, ((∃ k31 : Nat, L30 k31 [(.int .i64 0), (.bool false)] h17) ∧ ∀ k31 : Nat,
 ∀ x33 : Int, ∀ b34 : Bool, ∀ h35 : H, (L30 k31 [(.int .i64 x33), (.bool b34)] h35) →
 (((decide (x33 < ((n24 : Nat) : Int))) = true → ∃ a36 : Addr, p23 = some a36 ∧ ((0 : Int) ≤ x33 ∧ (x33 : Int) < ((n24 : Nat) : Int)) ∧ ∃ x37 : Int, cell h35 ((aidx a36 0 x33 6).add 0) = some (.int .u8 x37) ∧ ∃ x38 : Int, cell h35 ((aidx a36 0 x33 6).add 1) = some (.int .u8 x38) ∧ ∃ b39 : Bool, cell h35 ((aidx a36 0 x33 6).add 2) = some (.bool b39) ∧ ∃ b40 : Bool, cell h35 ((aidx a36 0 x33 6).add 3) = some (.bool b40) ∧ ∃ x41 : Int, cell h35 ((aidx a36 0 x33 6).add 4) = some (.int .u8 x41) ∧ ∃ p42 : Option Addr, ∃ n43 : Nat, ∃ n44 : Nat, cell h35 ((aidx a36 0 x33 6).add 5) = some (.slice p42 n43 n44) ∧ ∃ I45 : List Value → H → Prop, (((((decide (x37 ≥ x38)) = true → I45 [(.bool true), (.bool true)] h35) ∧
 ((decide (x37 ≥ x38)) = false → (((decide ((IntKind.wrap .i64 x38) ≥ ((n19 : Nat) : Int))) = true → I45 [(.bool (decide ((IntKind.wrap .i64 x38) ≥ ((n19 : Nat) : Int)))), (.bool true)] h35) ∧
 ((decide ((IntKind.wrap .i64 x38) ≥ ((n19 : Nat) : Int))) = false → (((decide (x33 > 0)) = true → ∃ a46 : Addr, p23 = some a46 ∧ ((0 : Int) ≤ (IntKind.wrap .i64 (x33 - 1)) ∧ ((IntKind.wrap .i64 (x33 - 1)) : Int) < ((n24 : Nat) : Int)) ∧ ∃ x47 : Int, cell h35 ((aidx a46 0 (IntKind.wrap .i64 (x33 - 1)) 6).add 0) = some (.int .u8 x47) ∧ (((decide (x47 > x37)) = true → I45 [(.bool (decide ((IntKind.wrap .i64 x38) ≥ ((n19 : Nat) : Int)))), (.bool true)] h35) ∧
 ((decide (x47 > x37)) = false → ∃ a48 : Addr, p23 = some a48 ∧ ((0 : Int) ≤ (IntKind.wrap .i64 (x33 - 1)) ∧ ((IntKind.wrap .i64 (x33 - 1)) : Int) < ((n24 : Nat) : Int)) ∧ ∃ x49 : Int, cell h35 ((aidx a48 0 (IntKind.wrap .i64 (x33 - 1)) 6).add 0) = some (.int .u8 x49) ∧ (((decide (x49 = x37)) = true → ∃ a50 : Addr, p23 = some a50 ∧ ((0 : Int) ≤ (IntKind.wrap .i64 (x33 - 1)) ∧ ((IntKind.wrap .i64 (x33 - 1)) : Int) < ((n24 : Nat) : Int)) ∧ ∃ x51 : Int, cell h35 ((aidx a50 0 (IntKind.wrap .i64 (x33 - 1)) 6).add 1) = some (.int .u8 x51) ∧ I45 [(.bool (decide ((IntKind.wrap .i64 x38) ≥ ((n19 : Nat) : Int)))), (.bool (decide (x51 ≥ x38)))] h35) ∧
 ((decide (x49 = x37)) = false → I45 [(.bool (decide ((IntKind.wrap .i64 x38) ≥ ((n19 : Nat) : Int)))), (.bool false)] h35))))) ∧
 ((decide (x33 > 0)) = false → I45 [(.bool (decide ((IntKind.wrap .i64 x38) ≥ ((n19 : Nat) : Int)))), (.bool false)] h35))))))) ∧
 (∀ b52 : Bool, ∀ b53 : Bool, ∀ h54 : H, (I45 [(.bool b52), (.bool b53)] h54) →
 ((b53 = true → K (.bool false) h54) ∧
 (b53 = false → (∃ j32 : Nat, j32 < k31 ∧ L30 j32 [(.int .i64 (IntKind.wrap .i64 (x33 + 1))), (.bool b34)] h54)))))) ∧
 ((decide (x33 < ((n24 : Nat) : Int))) = false → Spec P 12 #[(.slice p6 n7 n8)] h35 (fun v55 h56 =>
 ∃ x57 : Int, ∃ b58 : Bool, ∃ x59 : Int, ∃ p60 : Option Addr, ∃ n61 : Nat, ∃ n62 : Nat, ∃ b63 : Bool, ∃ b64 : Bool, ∃ x65 : Int, ∃ p66 : Option Addr, ∃ n67 : Nat, ∃ n68 : Nat, ∃ x69 : Int, ∃ x70 : Int, ∃ x71 : Int, ∃ p72 : Option Addr, ∃ n73 : Nat, ∃ n74 : Nat, ∃ b75 : Bool, v55 = (.tuple #[(.agg #[(.int .u8 x57), (.bool b58), (.int .u8 x59), (.slice p60 n61 n62), (.bool b63), (.bool b64), (.int .u8 x65), (.slice p66 n67 n68), (.int .u8 x69), (.int .u8 x70), (.int .i64 x71), (.slice p72 n73 n74)]), (.bool b75)]) ∧ ∃ I76 : List Value → H → Prop, ((Spec P 7 #[] h56 (fun v77 h78 =>
 ∃ b79 : Bool, v77 = (.bool b79) ∧ ((b79 = true → Spec P 13 #[(.agg #[(.int .u8 x57), (.bool b58), (.int .u8 x59), (.slice p60 n61 n62), (.bool b63), (.bool b64), (.int .u8 x65), (.slice p66 n67 n68), (.int .u8 x69), (.int .u8 x70), (.int .i64 x71), (.slice p72 n73 n74)])] h78 (fun v80 h81 =>
 ∃ x82 : Int, v80 = (.int .i64 x82) ∧ (((decide (((n19 : Nat) : Int) = x82)) = true → (((!decide (x21 = 0)) = true → (((!decide (x22 = 0)) = true → (decide (((n19 : Nat) : Int) ≥ 0)) = true ∧ (((decide ((IntKind.wrap .u64 x21) < (iopF .shl .u64 1 ((n19 : Nat) : Int)))) = true → (decide (((n19 : Nat) : Int) ≥ 0)) = true ∧ I76 [(.bool (decide (((n19 : Nat) : Int) = x82))), (.bool (!decide (x21 = 0))), (.bool (!decide (x22 = 0))), (.bool (decide ((IntKind.wrap .u64 x21) < (iopF .shl .u64 1 ((n19 : Nat) : Int))))), (.bool (decide ((IntKind.wrap .u64 x22) < (iopF .shl .u64 1 ((n19 : Nat) : Int))))), (.bool (decide ((IntKind.wrap .u64 x22) < (iopF .shl .u64 1 ((n19 : Nat) : Int)))))] h81) ∧
 ((decide ((IntKind.wrap .u64 x21) < (iopF .shl .u64 1 ((n19 : Nat) : Int)))) = false → I76 [(.bool (decide (((n19 : Nat) : Int) = x82))), (.bool (!decide (x21 = 0))), (.bool (!decide (x22 = 0))), (.bool (decide ((IntKind.wrap .u64 x21) < (iopF .shl .u64 1 ((n19 : Nat) : Int))))), (.bool false), (.bool false)] h81))) ∧
 ((!decide (x22 = 0)) = false → I76 [(.bool (decide (((n19 : Nat) : Int) = x82))), (.bool (!decide (x21 = 0))), (.bool (!decide (x22 = 0))), (.bool false), (.bool false), (.bool false)] h81))) ∧
 ((!decide (x21 = 0)) = false → I76 [(.bool (decide (((n19 : Nat) : Int) = x82))), (.bool (!decide (x21 = 0))), (.bool false), (.bool false), (.bool false), (.bool false)] h81))) ∧
 ((decide (((n19 : Nat) : Int) = x82)) = false → I76 [(.bool (decide (((n19 : Nat) : Int) = x82))), (.bool false), (.bool false), (.bool false), (.bool false), (.bool false)] h81)))) ∧
 (b79 = false → I76 [(.bool false), (.bool false), (.bool false), (.bool false), (.bool false), (.bool false)] h78)))) ∧
 (∀ b83 : Bool, ∀ b84 : Bool, ∀ b85 : Bool, ∀ b86 : Bool, ∀ b87 : Bool, ∀ b88 : Bool, ∀ h89 : H, (I76 [(.bool b83), (.bool b84), (.bool b85), (.bool b86), (.bool b87), (.bool b88)] h89) →
 K (.bool b88) h89)))))))))))))

theorem e_law14_AutoRises (p0 : Option Addr) (n1 n2 : Nat) (x3 : Int) (h : H) (K : Value → H → Prop) : liftFn P (semAlg P K) 4 [(.agg [(.slice p0 n1 n2), (.int .u64 x3)])] h = f_law14_AutoRises p0 n1 n2 x3 h K := by kernel_rfl

theorem s_law14_AutoRises {p0 : Option Addr} {n1 n2 : Nat} {x3 : Int} {h : H} {K : Value → H → Prop} (hf : f_law14_AutoRises p0 n1 n2 x3 h K) : Spec P 4 #[(.agg #[(.slice p0 n1 n2), (.int .u64 x3)])] h K :=
  lift_sound mixed (args := [(.agg [(.slice p0 n1 n2), (.int .u64 x3)])]) (by rw [e_law14_AutoRises]; exact hf)

end Pt

