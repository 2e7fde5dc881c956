/- The lifted texts of the functions, each held against the program. -/
import Derived.Test.YtpdgjniflbglgaaLfSnd8
import Derived.KernelRfl
import Derived.Test.YtpdgjniflbglgaaProg
namespace DueP
open Go Lf
noncomputable abbrev P : Program := Go.Proofs.Try.prog
theorem mixed : P.follows .mixedOrders = true := by kernel_rfl

/-- equerry/equerrylaw06.DueOrder -/
def f3 (p0 : Option Addr) (n1 n2 : Nat) (x3 : Int) (h : H) (K : Value → H → Prop) : Prop :=
 Spec P 6 #[] h (fun v4 h5 =>
 ∃ p6 : Option Addr, v4 = (.pointer p6) ∧ Spec P 6 #[] h5 (fun v7 h8 =>
 ∃ p9 : Option Addr, v7 = (.pointer p9) ∧ ∃ I10 : List Value → H → Prop, (((((Option.isNone p6) = true → I10 [(.bool true), (.bool true), (.bool true)] h8) ∧
 ((Option.isNone p6) = false → (((Option.isNone p9) = true → I10 [(.bool (Option.isNone p9)), (.bool true), (.bool false)] h8) ∧
 ((Option.isNone p9) = false → I10 [(.bool (Option.isNone p9)), (.bool (decide (((n1 : Nat) : Int) > 300))), (.bool false)] h8))))) ∧
 (∀ b11 : Bool, ∀ b12 : Bool, ∀ b13 : Bool, ∀ h14 : H, (I10 [(.bool b11), (.bool b12), (.bool b13)] h14) →
 ((b12 = true → ∃ I15 : List Value → H → Prop, (((((!(Option.isNone p6)) = true → (((!(Option.isNone p9)) = true → Spec P 7 #[] h14 (fun v16 h17 =>
 ∃ b18 : Bool, v16 = (.bool b18) ∧ I15 [(.bool (!(Option.isNone p9))), (.bool b18), (.bool true)] h17)) ∧
 ((!(Option.isNone p9)) = false → I15 [(.bool (!(Option.isNone p9))), (.bool false), (.bool true)] h14))) ∧
 ((!(Option.isNone p6)) = false → I15 [(.bool false), (.bool false), (.bool false)] h14))) ∧
 (∀ b19 : Bool, ∀ b20 : Bool, ∀ b21 : Bool, ∀ h22 : H, (I15 [(.bool b19), (.bool b20), (.bool b21)] h22) →
 K (.bool b20) h22))) ∧
 (b12 = false → ∃ L23 : Nat → List Value → H → Prop, ((∃ k24 : Nat, L23 k24 [(.int .i64 0)] h14) ∧ ∀ k24 : Nat,
 ∀ x26 : Int, ∀ h27 : H, (L23 k24 [(.int .i64 x26)] h27) →
 (((decide (x26 < ((n1 : Nat) : Int))) = true → ∃ a28 : Addr, p0 = some a28 ∧ ((0 : Int) ≤ x26 ∧ (x26 : Int) < ((n1 : Nat) : Int)) ∧ ∃ x29 : Int, cell h27 ((aidx a28 0 x26 1).add 0) = some (.int .u64 x29) ∧ Spec P 8 #[(.pointer p6), (.int .u64 (IntKind.wrap .u64 x26)), (.int .u64 x29)] h27 (fun v30 h31 =>
 v30 = (.tuple #[]) ∧ (∃ j25 : Nat, j25 < k24 ∧ L23 j25 [(.int .i64 (IntKind.wrap .i64 (x26 + 1)))] h31))) ∧
 ((decide (x26 < ((n1 : Nat) : Int))) = false → ∃ L32 : Nat → List Value → H → Prop, ((∃ k33 : Nat, L32 k33 [(.int .i64 (IntKind.wrap .i64 (((n1 : Nat) : Int) - 1)))] h27) ∧ ∀ k33 : Nat,
 ∀ x35 : Int, ∀ h36 : H, (L32 k33 [(.int .i64 x35)] h36) →
 (((decide (x35 ≥ 0)) = true → ∃ a37 : Addr, p0 = some a37 ∧ ((0 : Int) ≤ x35 ∧ (x35 : Int) < ((n1 : Nat) : Int)) ∧ ∃ x38 : Int, cell h36 ((aidx a37 0 x35 1).add 0) = some (.int .u64 x38) ∧ Spec P 8 #[(.pointer p9), (.int .u64 (IntKind.wrap .u64 x35)), (.int .u64 x38)] h36 (fun v39 h40 =>
 v39 = (.tuple #[]) ∧ (∃ j34 : Nat, j34 < k33 ∧ L32 j34 [(.int .i64 (IntKind.wrap .i64 (x35 - 1)))] h40))) ∧
 ((decide (x35 ≥ 0)) = false → Spec P 7 #[] h36 (fun v41 h42 =>
 ∃ b43 : Bool, v41 = (.bool b43) ∧ ∃ I44 : List Value → H → Prop, ((((b43 = true → Spec P 10 #[(.pointer p6), (.int .u64 x3)] h42 (fun v45 h46 =>
 ∃ p47 : Option Addr, ∃ n48 : Nat, ∃ n49 : Nat, v45 = (.slice p47 n48 n49) ∧ Spec P 10 #[(.pointer p9), (.int .u64 x3)] h46 (fun v50 h51 =>
 ∃ p52 : Option Addr, ∃ n53 : Nat, ∃ n54 : Nat, v50 = (.slice p52 n53 n54) ∧ Spec P 9 #[(.slice p47 n48 n49), (.slice p52 n53 n54)] h51 (fun v55 h56 =>
 ∃ b57 : Bool, v55 = (.bool b57) ∧ ((b57 = true → Spec P 10 #[(.pointer p6), (.int .u64 18446744073709551615)] h56 (fun v58 h59 =>
 ∃ p60 : Option Addr, ∃ n61 : Nat, ∃ n62 : Nat, v58 = (.slice p60 n61 n62) ∧ Spec P 10 #[(.pointer p9), (.int .u64 18446744073709551615)] h59 (fun v63 h64 =>
 ∃ p65 : Option Addr, ∃ n66 : Nat, ∃ n67 : Nat, v63 = (.slice p65 n66 n67) ∧ Spec P 9 #[(.slice p60 n61 n62), (.slice p65 n66 n67)] h64 (fun v68 h69 =>
 ∃ b70 : Bool, v68 = (.bool b70) ∧ ((b70 = true → Spec P 11 #[(.pointer p6)] h69 (fun v71 h72 =>
 ∃ x73 : Int, v71 = (.int .i64 x73) ∧ I44 [(.bool b57), (.bool b70), (.bool (decide (x73 = 0))), (.bool true)] h72)) ∧
 (b70 = false → I44 [(.bool b57), (.bool b70), (.bool false), (.bool true)] h69)))))) ∧
 (b57 = false → I44 [(.bool b57), (.bool false), (.bool false), (.bool true)] h56)))))) ∧
 (b43 = false → I44 [(.bool false), (.bool false), (.bool false), (.bool false)] h42))) ∧
 (∀ b74 : Bool, ∀ b75 : Bool, ∀ b76 : Bool, ∀ b77 : Bool, ∀ h78 : H, (I44 [(.bool b74), (.bool b75), (.bool b76), (.bool b77)] h78) →
 K (.bool b76) h78)))))))))))))))

theorem e3 (p0 : Option Addr) (n1 n2 : Nat) (x3 : Int) (h : H) (K : Value → H → Prop) : liftFn P (semAlg P K) 3 [(.slice p0 n1 n2), (.int .u64 x3)] h = f3 p0 n1 n2 x3 h K := by kernel_rfl

theorem s3 {p0 : Option Addr} {n1 n2 : Nat} {x3 : Int} {h : H} {K : Value → H → Prop} (hf : f3 p0 n1 n2 x3 h K) : Spec P 3 #[(.slice p0 n1 n2), (.int .u64 x3)] h K :=
  lift_sound mixed (args := [(.slice p0 n1 n2), (.int .u64 x3)]) (by rw [e3]; exact hf)

/-- equerry/equerrylaw06.DuePlays -/
def f4 (p0 : Option Addr) (n1 n2 : Nat) (h : H) (K : Value → H → Prop) : Prop :=
 Spec P 6 #[] h (fun v3 h4 =>
 ∃ p5 : Option Addr, v3 = (.pointer p5) ∧ ∃ I6 : List Value → H → Prop, (((((Option.isNone p5) = true → I6 [(.bool true), (.bool true)] h4) ∧
 ((Option.isNone p5) = false → Spec P 7 #[] h4 (fun v7 h8 =>
 ∃ b9 : Bool, v7 = (.bool b9) ∧ I6 [(.bool (!b9)), (.bool false)] h8)))) ∧
 (∀ b10 : Bool, ∀ b11 : Bool, ∀ h12 : H, (I6 [(.bool b10), (.bool b11)] h12) →
 ((b10 = true → K (.bool false) h12) ∧
 (b10 = false → Spec P 12 #[(.slice p0 n1 n2)] h12 (fun v13 h14 =>
 ∃ p15 : Option Addr, ∃ n16 : Nat, ∃ n17 : Nat, v13 = (.slice p15 n16 n17) ∧ ∃ L18 : Nat → List Value → H → Prop, ((∃ k19 : Nat, L18 k19 [(.int .i64 0), (.slice none 0 0), (.bool false)] h14) ∧ ∀ k19 : Nat,
 ∀ x21 : Int, ∀ p22 : Option Addr, ∀ n23 : Nat, ∀ n24 : Nat, ∀ b25 : Bool, ∀ h26 : H, (L18 k19 [(.int .i64 x21), (.slice p22 n23 n24), (.bool b25)] h26) →
 (((decide (x21 < ((n16 : Nat) : Int))) = true → ∃ a27 : Addr, p15 = some a27 ∧ ((0 : Int) ≤ x21 ∧ (x21 : Int) < ((n16 : Nat) : Int)) ∧ ∃ x28 : Int, cell h26 ((aidx a27 0 x21 3).add 0) = some (.int .i64 x28) ∧ ∃ x29 : Int, cell h26 ((aidx a27 0 x21 3).add 1) = some (.int .u64 x29) ∧ ∃ x30 : Int, cell h26 ((aidx a27 0 x21 3).add 2) = some (.int .u64 x30) ∧ Spec P 13 #[(.pointer p5), (.slice p22 n23 n24), (.agg #[(.int .i64 x28), (.int .u64 x29), (.int .u64 x30)])] h26 (fun v31 h32 =>
 ∃ b33 : Bool, ∃ p34 : Option Addr, ∃ n35 : Nat, ∃ n36 : Nat, v31 = (.tuple #[(.bool b33), (.slice p34 n35 n36)]) ∧ (((!b33) = true → K (.bool false) h32) ∧
 ((!b33) = false → Spec P 14 #[(.pointer p5)] h32 (fun v37 h38 =>
 ∃ x39 : Int, ∃ b40 : Bool, v37 = (.tuple #[(.int .u64 x39), (.bool b40)]) ∧ Spec P 15 #[(.slice p34 n35 n36)] h38 (fun v41 h42 =>
 ∃ x43 : Int, v41 = (.int .i64 x43) ∧ ∃ I44 : List Value → H → Prop, (((((!(b40 == (decide (x43 ≥ 0)))) = true → I44 [(.bool true), (.bool true), (.bool true), (.bool true)] h42) ∧
 ((!(b40 == (decide (x43 ≥ 0)))) = false → ((b40 = true → ∃ a45 : Addr, p34 = some a45 ∧ ((0 : Int) ≤ x43 ∧ (x43 : Int) < ((n35 : Nat) : Int)) ∧ ∃ x46 : Int, cell h42 ((aidx a45 0 x43 2).add 1) = some (.int .u64 x46) ∧ (((!decide (x39 = x46)) = true → I44 [(.bool (!decide (x39 = x46))), (.bool true), (.bool true), (.bool false)] h42) ∧
 ((!decide (x39 = x46)) = false → (((!b40) = true → (((!decide (x39 = 0)) = true → I44 [(.bool (!decide (x39 = x46))), (.bool (!decide (x39 = 0))), (.bool true), (.bool false)] h42) ∧
 ((!decide (x39 = 0)) = false → Spec P 11 #[(.pointer p5)] h42 (fun v47 h48 =>
 ∃ x49 : Int, v47 = (.int .i64 x49) ∧ I44 [(.bool (!decide (x39 = x46))), (.bool (!decide (x39 = 0))), (.bool (!decide (x49 = ((n35 : Nat) : Int)))), (.bool false)] h48)))) ∧
 ((!b40) = false → Spec P 11 #[(.pointer p5)] h42 (fun v50 h51 =>
 ∃ x52 : Int, v50 = (.int .i64 x52) ∧ I44 [(.bool (!decide (x39 = x46))), (.bool false), (.bool (!decide (x52 = ((n35 : Nat) : Int)))), (.bool false)] h51)))))) ∧
 (b40 = false → (((!b40) = true → (((!decide (x39 = 0)) = true → I44 [(.bool false), (.bool (!decide (x39 = 0))), (.bool true), (.bool false)] h42) ∧
 ((!decide (x39 = 0)) = false → Spec P 11 #[(.pointer p5)] h42 (fun v53 h54 =>
 ∃ x55 : Int, v53 = (.int .i64 x55) ∧ I44 [(.bool false), (.bool (!decide (x39 = 0))), (.bool (!decide (x55 = ((n35 : Nat) : Int)))), (.bool false)] h54)))) ∧
 ((!b40) = false → Spec P 11 #[(.pointer p5)] h42 (fun v56 h57 =>
 ∃ x58 : Int, v56 = (.int .i64 x58) ∧ I44 [(.bool false), (.bool false), (.bool (!decide (x58 = ((n35 : Nat) : Int)))), (.bool false)] h57)))))))) ∧
 (∀ b59 : Bool, ∀ b60 : Bool, ∀ b61 : Bool, ∀ b62 : Bool, ∀ h63 : H, (I44 [(.bool b59), (.bool b60), (.bool b61), (.bool b62)] h63) →
 ((b61 = true → K (.bool false) h63) ∧
 (b61 = false → (∃ j20 : Nat, j20 < k19 ∧ L18 j20 [(.int .i64 (IntKind.wrap .i64 (x21 + 1))), (.slice p34 n35 n36), (.bool b25)] h63))))))))))) ∧
 ((decide (x21 < ((n16 : Nat) : Int))) = false → K (.bool true) h26)))))))))

theorem e4 (p0 : Option Addr) (n1 n2 : Nat) (h : H) (K : Value → H → Prop) : liftFn P (semAlg P K) 4 [(.slice p0 n1 n2)] h = f4 p0 n1 n2 h K := by kernel_rfl

theorem s4 {p0 : Option Addr} {n1 n2 : Nat} {h : H} {K : Value → H → Prop} (hf : f4 p0 n1 n2 h K) : Spec P 4 #[(.slice p0 n1 n2)] h K :=
  lift_sound mixed (args := [(.slice p0 n1 n2)]) (by rw [e4]; exact hf)

/-- equerry/equerrylaw06.DueTakes -/
def f5 (p0 : Option Addr) (n1 n2 : Nat) (x3 : Int) (h : H) (K : Value → H → Prop) : Prop :=
 Spec P 6 #[] h (fun v4 h5 =>
 ∃ p6 : Option Addr, v4 = (.pointer p6) ∧ ∃ I7 : List Value → H → Prop, (((((Option.isNone p6) = true → I7 [(.bool true), (.bool true)] h5) ∧
 ((Option.isNone p6) = false → Spec P 7 #[] h5 (fun v8 h9 =>
 ∃ b10 : Bool, v8 = (.bool b10) ∧ I7 [(.bool (!b10)), (.bool false)] h9)))) ∧
 (∀ b11 : Bool, ∀ b12 : Bool, ∀ h13 : H, (I7 [(.bool b11), (.bool b12)] h13) →
 ((b11 = true → K (.bool false) h13) ∧
 (b11 = false → Spec P 12 #[(.slice p0 n1 n2)] h13 (fun v14 h15 =>
 ∃ p16 : Option Addr, ∃ n17 : Nat, ∃ n18 : Nat, v14 = (.slice p16 n17 n18) ∧ ∃ L19 : Nat → List Value → H → Prop, ((∃ k20 : Nat, L19 k20 [(.int .i64 0), (.slice none 0 0)] h15) ∧ ∀ k20 : Nat,
 ∀ x22 : Int, ∀ p23 : Option Addr, ∀ n24 : Nat, ∀ n25 : Nat, ∀ h26 : H, (L19 k20 [(.int .i64 x22), (.slice p23 n24 n25)] h26) →
 (((decide (x22 < ((n17 : Nat) : Int))) = true → ∃ a27 : Addr, p16 = some a27 ∧ ((0 : Int) ≤ x22 ∧ (x22 : Int) < ((n17 : Nat) : Int)) ∧ ∃ x28 : Int, cell h26 ((aidx a27 0 x22 3).add 0) = some (.int .i64 x28) ∧ ∃ x29 : Int, cell h26 ((aidx a27 0 x22 3).add 1) = some (.int .u64 x29) ∧ ∃ x30 : Int, cell h26 ((aidx a27 0 x22 3).add 2) = some (.int .u64 x30) ∧ Spec P 13 #[(.pointer p6), (.slice p23 n24 n25), (.agg #[(.int .i64 x28), (.int .u64 x29), (.int .u64 x30)])] h26 (fun v31 h32 =>
 ∃ b33 : Bool, ∃ p34 : Option Addr, ∃ n35 : Nat, ∃ n36 : Nat, v31 = (.tuple #[(.bool b33), (.slice p34 n35 n36)]) ∧ (∃ j21 : Nat, j21 < k20 ∧ L19 j21 [(.int .i64 (IntKind.wrap .i64 (x22 + 1))), (.slice p34 n35 n36)] h32))) ∧
 ((decide (x22 < ((n17 : Nat) : Int))) = false → Spec P 10 #[(.pointer p6), (.int .u64 x3)] h26 (fun v37 h38 =>
 ∃ p39 : Option Addr, ∃ n40 : Nat, ∃ n41 : Nat, v37 = (.slice p39 n40 n41) ∧ ∃ L42 : Nat → List Value → H → Prop, ((∃ k43 : Nat, L42 k43 [(.int .i64 0), (.bool false)] h38) ∧ ∀ k43 : Nat,
 ∀ x45 : Int, ∀ b46 : Bool, ∀ h47 : H, (L42 k43 [(.int .i64 x45), (.bool b46)] h47) →
 (((decide (x45 < ((n40 : Nat) : Int))) = true → ∃ a48 : Addr, p39 = some a48 ∧ ((0 : Int) ≤ x45 ∧ (x45 : Int) < ((n40 : Nat) : Int)) ∧ ∃ x49 : Int, cell h47 ((aidx a48 0 x45 1).add 0) = some (.int .u64 x49) ∧ Spec P 16 #[(.pointer p6), (.int .u64 x49)] h47 (fun v50 h51 =>
 ∃ x52 : Int, ∃ b53 : Bool, v50 = (.tuple #[(.int .u64 x52), (.bool b53)]) ∧ ((b53 = true → K (.bool false) h51) ∧
 (b53 = false → (∃ j44 : Nat, j44 < k43 ∧ L42 j44 [(.int .i64 (IntKind.wrap .i64 (x45 + 1))), (.bool b46)] h51))))) ∧
 ((decide (x45 < ((n40 : Nat) : Int))) = false → Spec P 14 #[(.pointer p6)] h47 (fun v54 h55 =>
 ∃ x56 : Int, ∃ b57 : Bool, v54 = (.tuple #[(.int .u64 x56), (.bool b57)]) ∧ Spec P 10 #[(.pointer p6), (.int .u64 x3)] h55 (fun v58 h59 =>
 ∃ p60 : Option Addr, ∃ n61 : Nat, ∃ n62 : Nat, v58 = (.slice p60 n61 n62) ∧ ∃ I63 : List Value → H → Prop, (((((decide (((n61 : Nat) : Int) = 0)) = true → (((!b57) = true → Spec P 11 #[(.pointer p6)] h59 (fun v64 h65 =>
 ∃ x66 : Int, v64 = (.int .i64 x66) ∧ I63 [(.bool true), (.bool (decide ((IntKind.wrap .i64 (x66 + ((n40 : Nat) : Int))) = ((n24 : Nat) : Int)))), (.bool true)] h65)) ∧
 ((!b57) = false → (((decide (x56 > x3)) = true → Spec P 11 #[(.pointer p6)] h59 (fun v67 h68 =>
 ∃ x69 : Int, v67 = (.int .i64 x69) ∧ I63 [(.bool (decide (x56 > x3))), (.bool (decide ((IntKind.wrap .i64 (x69 + ((n40 : Nat) : Int))) = ((n24 : Nat) : Int)))), (.bool true)] h68)) ∧
 ((decide (x56 > x3)) = false → I63 [(.bool (decide (x56 > x3))), (.bool false), (.bool true)] h59))))) ∧
 ((decide (((n61 : Nat) : Int) = 0)) = false → I63 [(.bool false), (.bool false), (.bool false)] h59))) ∧
 (∀ b70 : Bool, ∀ b71 : Bool, ∀ b72 : Bool, ∀ h73 : H, (I63 [(.bool b70), (.bool b71), (.bool b72)] h73) →
 K (.bool b71) h73)))))))))))))))))

theorem e5 (p0 : Option Addr) (n1 n2 : Nat) (x3 : Int) (h : H) (K : Value → H → Prop) : liftFn P (semAlg P K) 5 [(.slice p0 n1 n2), (.int .u64 x3)] h = f5 p0 n1 n2 x3 h K := by kernel_rfl

theorem s5 {p0 : Option Addr} {n1 n2 : Nat} {x3 : Int} {h : H} {K : Value → H → Prop} (hf : f5 p0 n1 n2 x3 h K) : Spec P 5 #[(.slice p0 n1 n2), (.int .u64 x3)] h K :=
  lift_sound mixed (args := [(.slice p0 n1 n2), (.int .u64 x3)]) (by rw [e5]; exact hf)

/-- equerry/due.New -/
def f6  (h : H) (K : Value → H → Prop) : Prop :=
 RunL P (X.sem (.makeMap 47)) h (fun v0 h1 =>
 ∃ m2 : Option Nat, v0 = (.map m2) ∧ ∀ n3 : Nat, h1 n3 = none → ∀ h4 : H, h4 = (hnew h1 n3 (.cells #[(.slice none 0 0), (.map m2)] 51 (0, 0))) →
 K (.pointer (some ((blk n3).add 0))) h4)

theorem e6  (h : H) (K : Value → H → Prop) : liftFn P (semAlg P K) 6 [] h = f6  h K := by kernel_rfl

theorem s6  {h : H} {K : Value → H → Prop} (hf : f6  h K) : Spec P 6 #[] h K :=
  lift_sound mixed (args := []) (by rw [e6]; exact hf)

/-- equerry/equerrylaw06.fixed -/
def f7  (h : H) (K : Value → H → Prop) : Prop :=
 Spec P 6 #[] h (fun v0 h1 =>
 ∃ p2 : Option Addr, v0 = (.pointer p2) ∧ (((Option.isNone p2) = true → K (.bool false) h1) ∧
 ((Option.isNone p2) = false → Spec P 8 #[(.pointer p2), (.int .u64 1), (.int .u64 5)] h1 (fun v3 h4 =>
 v3 = (.tuple #[]) ∧ Spec P 8 #[(.pointer p2), (.int .u64 2), (.int .u64 5)] h4 (fun v5 h6 =>
 v5 = (.tuple #[]) ∧ Spec P 8 #[(.pointer p2), (.int .u64 3), (.int .u64 4)] h6 (fun v7 h8 =>
 v7 = (.tuple #[]) ∧ Spec P 10 #[(.pointer p2), (.int .u64 5)] h8 (fun v9 h10 =>
 ∃ p11 : Option Addr, ∃ n12 : Nat, ∃ n13 : Nat, v9 = (.slice p11 n12 n13) ∧ ∀ n14 : Nat, h10 n14 = none → ∀ h15 : H, h15 = (hnew h10 n14 (.cells #[(.int .u64 3), (.int .u64 1), (.int .u64 2)] 23 (0, 0))) →
 Spec P 9 #[(.slice p11 n12 n13), (.slice (some ((blk n14).add 0)) 3 3)] h15 (fun v16 h17 =>
 ∃ b18 : Bool, v16 = (.bool b18) ∧ ∃ I19 : List Value → H → Prop, ((((b18 = true → Spec P 11 #[(.pointer p2)] h17 (fun v20 h21 =>
 ∃ x22 : Int, v20 = (.int .i64 x22) ∧ I19 [(.bool (decide (x22 = 0))), (.bool true)] h21)) ∧
 (b18 = false → I19 [(.bool false), (.bool false)] h17))) ∧
 (∀ b23 : Bool, ∀ b24 : Bool, ∀ h25 : H, (I19 [(.bool b23), (.bool b24)] h25) →
 K (.bool b23) h25))))))))))

theorem e7  (h : H) (K : Value → H → Prop) : liftFn P (semAlg P K) 7 [] h = f7  h K := by kernel_rfl

theorem s7  {h : H} {K : Value → H → Prop} (hf : f7  h K) : Spec P 7 #[] h K :=
  lift_sound mixed (args := []) (by rw [e7]; exact hf)

/-- (*equerry/due.Dues).Set -/
def f8 (p0 : Option Addr) (x1 : Int) (x2 : Int) (h : H) (K : Value → H → Prop) : Prop :=
 (((Option.isNone p0) = true → K (.tuple #[]) h) ∧
 ((Option.isNone p0) = false → ∃ a3 : Addr, p0 = some a3 ∧ ∃ m4 : Option Nat, cell h (a3.add 1) = some (.map m4) ∧ RunL P (X.sem (.lookup 47 (.map m4) (.int .u64 x1) true)) h (fun v5 h6 =>
 ∃ p7 : Option Addr, ∃ b8 : Bool, v5 = (.tuple #[(.pointer p7), (.bool b8)]) ∧ ((b8 = true → ∃ a9 : Addr, p7 = some a9 ∧ isSet h6 (a9.add 1) ∧ ∀ h10 : H, h10 = (hset h6 (a9.add 1) (.int .u64 x2)) →
 ∃ a11 : Addr, p0 = some a11 ∧ ∃ a12 : Addr, p7 = some a12 ∧ ∃ x13 : Int, cell h10 (a12.add 2) = some (.int .i64 x13) ∧ Spec P 17 #[(.iface 57 (.pointer (some (a11.add 0)))), (.int .i64 x13)] h10 (fun v14 h15 =>
 v14 = (.tuple #[]) ∧ K (.tuple #[]) h15)) ∧
 (b8 = false → ∃ a16 : Addr, p0 = some a16 ∧ ∃ m17 : Option Nat, cell h6 (a16.add 1) = some (.map m17) ∧ ∀ n18 : Nat, h6 n18 = none → ∀ h19 : H, h19 = (hnew h6 n18 (.cells #[(.int .u64 x1), (.int .u64 x2), (.int .i64 0)] 55 (0, 0))) →
 RunL P (X.sem (.mapUpdate 47 (.map m17) (.int .u64 x1) (.pointer (some ((blk n18).add 0))))) h19 (fun v20 h21 =>
 ∃ a22 : Addr, p0 = some a22 ∧ Spec P 18 #[(.iface 57 (.pointer (some (a22.add 0)))), (.iface 52 (.pointer (some ((blk n18).add 0))))] h21 (fun v23 h24 =>
 v23 = (.tuple #[]) ∧ K (.tuple #[]) h24)))))))

theorem e8 (p0 : Option Addr) (x1 : Int) (x2 : Int) (h : H) (K : Value → H → Prop) : liftFn P (semAlg P K) 8 [(.optr p0), (.int .u64 x1), (.int .u64 x2)] h = f8 p0 x1 x2 h K := by kernel_rfl

theorem s8 {p0 : Option Addr} {x1 : Int} {x2 : Int} {h : H} {K : Value → H → Prop} (hf : f8 p0 x1 x2 h K) : Spec P 8 #[(.pointer p0), (.int .u64 x1), (.int .u64 x2)] h K :=
  lift_sound mixed (args := [(.optr p0), (.int .u64 x1), (.int .u64 x2)]) (by rw [e8]; exact hf)

/-- slices.Equal[[]uint64,uint64] -/
def f9 (p0 : Option Addr) (n1 n2 : Nat) (p3 : Option Addr) (n4 n5 : Nat) (h : H) (K : Value → H → Prop) : Prop :=
 (((!decide (((n1 : Nat) : Int) = ((n4 : Nat) : Int))) = true → K (.bool false) h) ∧
 ((!decide (((n1 : Nat) : Int) = ((n4 : Nat) : Int))) = false → ∃ L6 : Nat → List Value → H → Prop, ((∃ k7 : Nat, L6 k7 [(.int .i64 0), (.bool false)] h) ∧ ∀ k7 : Nat,
 ∀ x9 : Int, ∀ b10 : Bool, ∀ h11 : H, (L6 k7 [(.int .i64 x9), (.bool b10)] h11) →
 (((decide (x9 < ((n1 : Nat) : Int))) = true → ∃ a12 : Addr, p0 = some a12 ∧ ((0 : Int) ≤ x9 ∧ (x9 : Int) < ((n1 : Nat) : Int)) ∧ ∃ x13 : Int, cell h11 ((aidx a12 0 x9 1).add 0) = some (.int .u64 x13) ∧ ∃ a14 : Addr, p3 = some a14 ∧ ((0 : Int) ≤ x9 ∧ (x9 : Int) < ((n4 : Nat) : Int)) ∧ ∃ x15 : Int, cell h11 ((aidx a14 0 x9 1).add 0) = some (.int .u64 x15) ∧ (((!decide (x13 = x15)) = true → K (.bool false) h11) ∧
 ((!decide (x13 = x15)) = false → (∃ j8 : Nat, j8 < k7 ∧ L6 j8 [(.int .i64 (IntKind.wrap .i64 (x9 + 1))), (.bool b10)] h11)))) ∧
 ((decide (x9 < ((n1 : Nat) : Int))) = false → K (.bool true) h11)))))

theorem e9 (p0 : Option Addr) (n1 n2 : Nat) (p3 : Option Addr) (n4 n5 : Nat) (h : H) (K : Value → H → Prop) : liftFn P (semAlg P K) 9 [(.slice p0 n1 n2), (.slice p3 n4 n5)] h = f9 p0 n1 n2 p3 n4 n5 h K := by kernel_rfl

theorem s9 {p0 : Option Addr} {n1 n2 : Nat} {p3 : Option Addr} {n4 n5 : Nat} {h : H} {K : Value → H → Prop} (hf : f9 p0 n1 n2 p3 n4 n5 h K) : Spec P 9 #[(.slice p0 n1 n2), (.slice p3 n4 n5)] h K :=
  lift_sound mixed (args := [(.slice p0 n1 n2), (.slice p3 n4 n5)]) (by rw [e9]; exact hf)

/-- (*equerry/due.Dues).Take -/
def f10 (p0 : Option Addr) (x1 : Int) (h : H) (K : Value → H → Prop) : Prop :=
 Spec P 14 #[(.pointer p0)] h (fun v2 h3 =>
 ∃ x4 : Int, ∃ b5 : Bool, v2 = (.tuple #[(.int .u64 x4), (.bool b5)]) ∧ ∃ L6 : Nat → List Value → H → Prop, ((∃ k7 : Nat, L6 k7 [(.bool b5), (.int .u64 x4), (.slice none 0 0)] h3) ∧ ∀ k7 : Nat,
 ∀ b9 : Bool, ∀ x10 : Int, ∀ p11 : Option Addr, ∀ n12 : Nat, ∀ n13 : Nat, ∀ h14 : H, (L6 k7 [(.bool b9), (.int .u64 x10), (.slice p11 n12 n13)] h14) →
 ∃ I15 : List Value → H → Prop, ((((b9 = true → I15 [(.bool (decide (x10 ≤ x1))), (.bool true)] h14) ∧
 (b9 = false → I15 [(.bool false), (.bool false)] h14))) ∧
 (∀ b16 : Bool, ∀ b17 : Bool, ∀ h18 : H, (I15 [(.bool b16), (.bool b17)] h18) →
 ((b16 = true → ∃ a19 : Addr, p0 = some a19 ∧ ∃ p20 : Option Addr, ∃ n21 : Nat, ∃ n22 : Nat, cell h18 (a19.add 0) = some (.slice p20 n21 n22) ∧ ∃ a23 : Addr, p20 = some a23 ∧ ((0 : Int) ≤ 0 ∧ (0 : Int) < ((n21 : Nat) : Int)) ∧ ∃ p24 : Option Addr, cell h18 ((aidx a23 0 0 1).add 0) = some (.pointer p24) ∧ ∃ a25 : Addr, p24 = some a25 ∧ ∃ x26 : Int, cell h18 (a25.add 0) = some (.int .u64 x26) ∧ ∀ n27 : Nat, h18 n27 = none → ∀ h28 : H, h28 = (hnew h18 n27 (.cells #[(.int .u64 x26)] 23 (0, 0))) →
 RunL P (X.sem (.bi .append #[22, 22] 22 [(.slice p11 n12 n13), (.slice (some ((blk n27).add 0)) 1 1)])) h28 (fun v29 h30 =>
 ∃ p31 : Option Addr, ∃ n32 : Nat, ∃ n33 : Nat, v29 = (.slice p31 n32 n33) ∧ Spec P 19 #[(.pointer p0), (.int .u64 x26)] h30 (fun v34 h35 =>
 ∃ b36 : Bool, v34 = (.bool b36) ∧ Spec P 14 #[(.pointer p0)] h35 (fun v37 h38 =>
 ∃ x39 : Int, ∃ b40 : Bool, v37 = (.tuple #[(.int .u64 x39), (.bool b40)]) ∧ (∃ j8 : Nat, j8 < k7 ∧ L6 j8 [(.bool b40), (.int .u64 x39), (.slice p31 n32 n33)] h38))))) ∧
 (b16 = false → K (.slice p11 n12 n13) h18))))))

theorem e10 (p0 : Option Addr) (x1 : Int) (h : H) (K : Value → H → Prop) : liftFn P (semAlg P K) 10 [(.optr p0), (.int .u64 x1)] h = f10 p0 x1 h K := by kernel_rfl

theorem s10 {p0 : Option Addr} {x1 : Int} {h : H} {K : Value → H → Prop} (hf : f10 p0 x1 h K) : Spec P 10 #[(.pointer p0), (.int .u64 x1)] h K :=
  lift_sound mixed (args := [(.optr p0), (.int .u64 x1)]) (by rw [e10]; exact hf)

/-- (*equerry/due.Dues).Len -/
def f11 (p0 : Option Addr) (h : H) (K : Value → H → Prop) : Prop :=
 (((Option.isNone p0) = true → K (.int .i64 0) h) ∧
 ((Option.isNone p0) = false → ∃ a1 : Addr, p0 = some a1 ∧ ∃ p2 : Option Addr, ∃ n3 : Nat, ∃ n4 : Nat, cell h (a1.add 0) = some (.slice p2 n3 n4) ∧ K (.int .i64 ((n3 : Nat) : Int)) h))

theorem e11 (p0 : Option Addr) (h : H) (K : Value → H → Prop) : liftFn P (semAlg P K) 11 [(.optr p0)] h = f11 p0 h K := by kernel_rfl

theorem s11 {p0 : Option Addr} {h : H} {K : Value → H → Prop} (hf : f11 p0 h K) : Spec P 11 #[(.pointer p0)] h K :=
  lift_sound mixed (args := [(.optr p0)]) (by rw [e11]; exact hf)

/-- equerry/equerrylaw06.cut -/
def f12 (p0 : Option Addr) (n1 n2 : Nat) (h : H) (K : Value → H → Prop) : Prop :=
 ((0 : Int) ≤ (min ((n1 : Nat) : Int) 200) ∧ ((min ((n1 : Nat) : Int) 200) : Int) ≤ ((n2 : Nat) : Int)) ∧ K (.slice (sliceP p0 0 n2 3) ((Int.toNat (min ((n1 : Nat) : Int) 200)) - 0) (n2 - 0)) h

theorem e12 (p0 : Option Addr) (n1 n2 : Nat) (h : H) (K : Value → H → Prop) : liftFn P (semAlg P K) 12 [(.slice p0 n1 n2)] h = f12 p0 n1 n2 h K := by kernel_rfl

theorem s12 {p0 : Option Addr} {n1 n2 : Nat} {h : H} {K : Value → H → Prop} (hf : f12 p0 n1 n2 h K) : Spec P 12 #[(.slice p0 n1 n2)] h K :=
  lift_sound mixed (args := [(.slice p0 n1 n2)]) (by rw [e12]; exact hf)

/-- equerry/equerrylaw06.do -/
def f13 (p0 : Option Addr) (p1 : Option Addr) (n2 n3 : Nat) (x4 : Int) (x5 : Int) (x6 : Int) (h : H) (K : Value → H → Prop) : Prop :=
 (((decide (x4 = 0)) = true → Spec P 8 #[(.pointer p0), (.int .u64 x5), (.int .u64 x6)] h (fun v7 h8 =>
 v7 = (.tuple #[]) ∧ Spec P 20 #[(.slice p1 n2 n3), (.int .u64 x5), (.int .u64 x6)] h8 (fun v9 h10 =>
 ∃ p11 : Option Addr, ∃ n12 : Nat, ∃ n13 : Nat, v9 = (.slice p11 n12 n13) ∧ K (.tuple #[(.bool true), (.slice p11 n12 n13)]) h10))) ∧
 ((decide (x4 = 0)) = false → (((decide (x4 = 1)) = true → Spec P 21 #[(.slice p1 n2 n3), (.int .u64 x5)] h (fun v14 h15 =>
 ∃ p16 : Option Addr, ∃ n17 : Nat, ∃ n18 : Nat, ∃ b19 : Bool, v14 = (.tuple #[(.slice p16 n17 n18), (.bool b19)]) ∧ Spec P 19 #[(.pointer p0), (.int .u64 x5)] h15 (fun v20 h21 =>
 ∃ b22 : Bool, v20 = (.bool b22) ∧ K (.tuple #[(.bool (b22 == b19)), (.slice p16 n17 n18)]) h21))) ∧
 ((decide (x4 = 1)) = false → (((decide (x4 = 2)) = true → Spec P 22 #[(.slice p1 n2 n3), (.int .u64 x6)] h (fun v23 h24 =>
 ∃ p25 : Option Addr, ∃ n26 : Nat, ∃ n27 : Nat, ∃ p28 : Option Addr, ∃ n29 : Nat, ∃ n30 : Nat, v23 = (.tuple #[(.slice p25 n26 n27), (.slice p28 n29 n30)]) ∧ Spec P 10 #[(.pointer p0), (.int .u64 x6)] h24 (fun v31 h32 =>
 ∃ p33 : Option Addr, ∃ n34 : Nat, ∃ n35 : Nat, v31 = (.slice p33 n34 n35) ∧ Spec P 9 #[(.slice p33 n34 n35), (.slice p25 n26 n27)] h32 (fun v36 h37 =>
 ∃ b38 : Bool, v36 = (.bool b38) ∧ K (.tuple #[(.bool b38), (.slice p28 n29 n30)]) h37)))) ∧
 ((decide (x4 = 2)) = false → Spec P 16 #[(.pointer p0), (.int .u64 x5)] h (fun v39 h40 =>
 ∃ x41 : Int, ∃ b42 : Bool, v39 = (.tuple #[(.int .u64 x41), (.bool b42)]) ∧ ∃ L43 : Nat → List Value → H → Prop, ((∃ k44 : Nat, L43 k44 [(.int .i64 0), (.slice none 0 0), (.bool false)] h40) ∧ ∀ k44 : Nat,
 ∀ x46 : Int, ∀ p47 : Option Addr, ∀ n48 : Nat, ∀ n49 : Nat, ∀ b50 : Bool, ∀ h51 : H, (L43 k44 [(.int .i64 x46), (.slice p47 n48 n49), (.bool b50)] h51) →
 (((decide (x46 < ((n2 : Nat) : Int))) = true → ∃ a52 : Addr, p1 = some a52 ∧ ((0 : Int) ≤ x46 ∧ (x46 : Int) < ((n2 : Nat) : Int)) ∧ ∃ x53 : Int, cell h51 ((aidx a52 0 x46 2).add 0) = some (.int .u64 x53) ∧ ∃ x54 : Int, cell h51 ((aidx a52 0 x46 2).add 1) = some (.int .u64 x54) ∧ (((decide (x53 = x5)) = true → ∃ I55 : List Value → H → Prop, ((((b42 = true → I55 [(.bool (decide (x41 = x54))), (.bool true)] h51) ∧
 (b42 = false → I55 [(.bool false), (.bool false)] h51))) ∧
 (∀ b56 : Bool, ∀ b57 : Bool, ∀ h58 : H, (I55 [(.bool b56), (.bool b57)] h58) →
 K (.tuple #[(.bool b56), (.slice p1 n2 n3)]) h58))) ∧
 ((decide (x53 = x5)) = false → (∃ j45 : Nat, j45 < k44 ∧ L43 j45 [(.int .i64 (IntKind.wrap .i64 (x46 + 1))), (.slice p47 n48 n49), (.bool b50)] h51)))) ∧
 ((decide (x46 < ((n2 : Nat) : Int))) = false → ∃ I59 : List Value → H → Prop, (((((!b42) = true → I59 [(.bool (decide (x41 = 0))), (.bool true)] h51) ∧
 ((!b42) = false → I59 [(.bool false), (.bool false)] h51))) ∧
 (∀ b60 : Bool, ∀ b61 : Bool, ∀ h62 : H, (I59 [(.bool b60), (.bool b61)] h62) →
 K (.tuple #[(.bool b60), (.slice p1 n2 n3)]) h62))))))))))))

theorem e13 (p0 : Option Addr) (p1 : Option Addr) (n2 n3 : Nat) (x4 : Int) (x5 : Int) (x6 : Int) (h : H) (K : Value → H → Prop) : liftFn P (semAlg P K) 13 [(.optr p0), (.slice p1 n2 n3), (.agg [(.int .i64 x4), (.int .u64 x5), (.int .u64 x6)])] h = f13 p0 p1 n2 n3 x4 x5 x6 h K := by kernel_rfl

theorem s13 {p0 : Option Addr} {p1 : Option Addr} {n2 n3 : Nat} {x4 : Int} {x5 : Int} {x6 : Int} {h : H} {K : Value → H → Prop} (hf : f13 p0 p1 n2 n3 x4 x5 x6 h K) : Spec P 13 #[(.pointer p0), (.slice p1 n2 n3), (.agg #[(.int .i64 x4), (.int .u64 x5), (.int .u64 x6)])] h K :=
  lift_sound mixed (args := [(.optr p0), (.slice p1 n2 n3), (.agg [(.int .i64 x4), (.int .u64 x5), (.int .u64 x6)])]) (by rw [e13]; exact hf)

/-- (*equerry/due.Dues).Next -/
def f14 (p0 : Option Addr) (h : H) (K : Value → H → Prop) : Prop :=
 ∃ I1 : List Value → H → Prop, (((((Option.isNone p0) = true → I1 [(.bool true), (.bool true)] h) ∧
 ((Option.isNone p0) = false → ∃ a2 : Addr, p0 = some a2 ∧ ∃ p3 : Option Addr, ∃ n4 : Nat, ∃ n5 : Nat, cell h (a2.add 0) = some (.slice p3 n4 n5) ∧ I1 [(.bool (decide (((n4 : Nat) : Int) = 0))), (.bool false)] h))) ∧
 (∀ b6 : Bool, ∀ b7 : Bool, ∀ h8 : H, (I1 [(.bool b6), (.bool b7)] h8) →
 ((b6 = true → K (.tuple #[(.int .u64 0), (.bool false)]) h8) ∧
 (b6 = false → ∃ a9 : Addr, p0 = some a9 ∧ ∃ p10 : Option Addr, ∃ n11 : Nat, ∃ n12 : Nat, cell h8 (a9.add 0) = some (.slice p10 n11 n12) ∧ ∃ a13 : Addr, p10 = some a13 ∧ ((0 : Int) ≤ 0 ∧ (0 : Int) < ((n11 : Nat) : Int)) ∧ ∃ p14 : Option Addr, cell h8 ((aidx a13 0 0 1).add 0) = some (.pointer p14) ∧ ∃ a15 : Addr, p14 = some a15 ∧ ∃ x16 : Int, cell h8 (a15.add 1) = some (.int .u64 x16) ∧ K (.tuple #[(.int .u64 x16), (.bool true)]) h8))))

theorem e14 (p0 : Option Addr) (h : H) (K : Value → H → Prop) : liftFn P (semAlg P K) 14 [(.optr p0)] h = f14 p0 h K := by kernel_rfl

theorem s14 {p0 : Option Addr} {h : H} {K : Value → H → Prop} (hf : f14 p0 h K) : Spec P 14 #[(.pointer p0)] h K :=
  lift_sound mixed (args := [(.optr p0)]) (by rw [e14]; exact hf)

/-- equerry/equerryref06.Next -/
def f15 (p0 : Option Addr) (n1 n2 : Nat) (h : H) (K : Value → H → Prop) : Prop :=
 ∃ L3 : Nat → List Value → H → Prop, ((∃ k4 : Nat, L3 k4 [(.int .i64 0), (.int .i64 (-1))] h) ∧ ∀ k4 : Nat,
 ∀ x6 : Int, ∀ x7 : Int, ∀ h8 : H, (L3 k4 [(.int .i64 x6), (.int .i64 x7)] h8) →
 (((decide (x6 < ((n1 : Nat) : Int))) = true → ∃ I9 : List Value → H → Prop, ((∃ I10 : List Value → H → Prop, (((((decide (x7 < 0)) = true → I10 [(.bool true), (.bool true)] h8) ∧
 ((decide (x7 < 0)) = false → ∃ a11 : Addr, p0 = some a11 ∧ ((0 : Int) ≤ x6 ∧ (x6 : Int) < ((n1 : Nat) : Int)) ∧ ∃ x12 : Int, cell h8 ((aidx a11 0 x6 2).add 1) = some (.int .u64 x12) ∧ ∃ a13 : Addr, p0 = some a13 ∧ ((0 : Int) ≤ x7 ∧ (x7 : Int) < ((n1 : Nat) : Int)) ∧ ∃ x14 : Int, cell h8 ((aidx a13 0 x7 2).add 1) = some (.int .u64 x14) ∧ (((decide (x12 < x14)) = true → I10 [(.bool (decide (x12 < x14))), (.bool true)] h8) ∧
 ((decide (x12 < x14)) = false → ∃ a15 : Addr, p0 = some a15 ∧ ((0 : Int) ≤ x6 ∧ (x6 : Int) < ((n1 : Nat) : Int)) ∧ ∃ x16 : Int, cell h8 ((aidx a15 0 x6 2).add 1) = some (.int .u64 x16) ∧ ∃ a17 : Addr, p0 = some a17 ∧ ((0 : Int) ≤ x7 ∧ (x7 : Int) < ((n1 : Nat) : Int)) ∧ ∃ x18 : Int, cell h8 ((aidx a17 0 x7 2).add 1) = some (.int .u64 x18) ∧ (((decide (x16 = x18)) = true → ∃ a19 : Addr, p0 = some a19 ∧ ((0 : Int) ≤ x6 ∧ (x6 : Int) < ((n1 : Nat) : Int)) ∧ ∃ x20 : Int, cell h8 ((aidx a19 0 x6 2).add 0) = some (.int .u64 x20) ∧ ∃ a21 : Addr, p0 = some a21 ∧ ((0 : Int) ≤ x7 ∧ (x7 : Int) < ((n1 : Nat) : Int)) ∧ ∃ x22 : Int, cell h8 ((aidx a21 0 x7 2).add 0) = some (.int .u64 x22) ∧ I10 [(.bool (decide (x12 < x14))), (.bool (decide (x20 < x22)))] h8) ∧
 ((decide (x16 = x18)) = false → I10 [(.bool (decide (x12 < x14))), (.bool false)] h8))))))) ∧
 (∀ b23 : Bool, ∀ b24 : Bool, ∀ h25 : H, (I10 [(.bool b23), (.bool b24)] h25) →
 ((b24 = true → I9 [(.int .i64 x6)] h25) ∧
 (b24 = false → I9 [(.int .i64 x7)] h25))))) ∧
 (∀ x26 : Int, ∀ h27 : H, (I9 [(.int .i64 x26)] h27) →
 (∃ j5 : Nat, j5 < k4 ∧ L3 j5 [(.int .i64 (IntKind.wrap .i64 (x6 + 1))), (.int .i64 x26)] h27)))) ∧
 ((decide (x6 < ((n1 : Nat) : Int))) = false → K (.int .i64 x7) h8)))

theorem e15 (p0 : Option Addr) (n1 n2 : Nat) (h : H) (K : Value → H → Prop) : liftFn P (semAlg P K) 15 [(.slice p0 n1 n2)] h = f15 p0 n1 n2 h K := by kernel_rfl

theorem s15 {p0 : Option Addr} {n1 n2 : Nat} {h : H} {K : Value → H → Prop} (hf : f15 p0 n1 n2 h K) : Spec P 15 #[(.slice p0 n1 n2)] h K :=
  lift_sound mixed (args := [(.slice p0 n1 n2)]) (by rw [e15]; exact hf)

/-- (*equerry/due.Dues).At -/
def f16 (p0 : Option Addr) (x1 : Int) (h : H) (K : Value → H → Prop) : Prop :=
 (((Option.isNone p0) = true → K (.tuple #[(.int .u64 0), (.bool false)]) h) ∧
 ((Option.isNone p0) = false → ∃ a2 : Addr, p0 = some a2 ∧ ∃ m3 : Option Nat, cell h (a2.add 1) = some (.map m3) ∧ RunL P (X.sem (.lookup 47 (.map m3) (.int .u64 x1) true)) h (fun v4 h5 =>
 ∃ p6 : Option Addr, ∃ b7 : Bool, v4 = (.tuple #[(.pointer p6), (.bool b7)]) ∧ (((!b7) = true → K (.tuple #[(.int .u64 0), (.bool false)]) h5) ∧
 ((!b7) = false → ∃ a8 : Addr, p6 = some a8 ∧ ∃ x9 : Int, cell h5 (a8.add 1) = some (.int .u64 x9) ∧ K (.tuple #[(.int .u64 x9), (.bool true)]) h5)))))

theorem e16 (p0 : Option Addr) (x1 : Int) (h : H) (K : Value → H → Prop) : liftFn P (semAlg P K) 16 [(.optr p0), (.int .u64 x1)] h = f16 p0 x1 h K := by kernel_rfl

theorem s16 {p0 : Option Addr} {x1 : Int} {h : H} {K : Value → H → Prop} (hf : f16 p0 x1 h K) : Spec P 16 #[(.pointer p0), (.int .u64 x1)] h K :=
  lift_sound mixed (args := [(.optr p0), (.int .u64 x1)]) (by rw [e16]; exact hf)

/-- container/heap.Fix -/
def f17 (a0 : Addr) (x1 : Int) (h : H) (K : Value → H → Prop) : Prop :=
 ∃ p2 : Option Addr, ∃ n3 : Nat, ∃ n4 : Nat, cell h (a0.add 0) = some (.slice p2 n3 n4) ∧ Spec P 42 #[(.slice p2 n3 n4)] h (fun v5 h6 =>
 ∃ x7 : Int, v5 = (.int .i64 x7) ∧ Spec P 23 #[(.iface 57 (.pointer (some (a0.add 0)))), (.int .i64 x1), (.int .i64 x7)] h6 (fun v8 h9 =>
 ∃ b10 : Bool, v8 = (.bool b10) ∧ (((!b10) = true → Spec P 24 #[(.iface 57 (.pointer (some (a0.add 0)))), (.int .i64 x1)] h9 (fun v11 h12 =>
 v11 = (.tuple #[]) ∧ K (.tuple #[]) h12)) ∧
 ((!b10) = false → K (.tuple #[]) h9))))

theorem e17 (a0 : Addr) (x1 : Int) (h : H) (K : Value → H → Prop) : liftFn P (semAlg P K) 17 [(.iface 57 (.addr a0 0)), (.int .i64 x1)] h = f17 a0 x1 h K := by kernel_rfl

theorem s17 {a0 : Addr} {x1 : Int} {h : H} {K : Value → H → Prop} (hf : f17 a0 x1 h K) : Spec P 17 #[(.iface 57 (.pointer (some (a0.add 0)))), (.int .i64 x1)] h K :=
  lift_sound mixed (args := [(.iface 57 (.addr a0 0)), (.int .i64 x1)]) (by rw [e17]; exact hf)

/-- container/heap.Push -/
def f18 (a0 : Addr) (p1 : Option Addr) (h : H) (K : Value → H → Prop) : Prop :=
 Spec P 49 #[(.pointer (some (a0.add 0))), (.iface 52 (.pointer p1))] h (fun v2 h3 =>
 v2 = (.tuple #[]) ∧ ∃ p4 : Option Addr, ∃ n5 : Nat, ∃ n6 : Nat, cell h3 (a0.add 0) = some (.slice p4 n5 n6) ∧ Spec P 42 #[(.slice p4 n5 n6)] h3 (fun v7 h8 =>
 ∃ x9 : Int, v7 = (.int .i64 x9) ∧ Spec P 24 #[(.iface 57 (.pointer (some (a0.add 0)))), (.int .i64 (IntKind.wrap .i64 (x9 - 1)))] h8 (fun v10 h11 =>
 v10 = (.tuple #[]) ∧ K (.tuple #[]) h11)))

theorem e18 (a0 : Addr) (p1 : Option Addr) (h : H) (K : Value → H → Prop) : liftFn P (semAlg P K) 18 [(.iface 57 (.addr a0 0)), (.iface 52 (.optr p1))] h = f18 a0 p1 h K := by kernel_rfl

theorem s18 {a0 : Addr} {p1 : Option Addr} {h : H} {K : Value → H → Prop} (hf : f18 a0 p1 h K) : Spec P 18 #[(.iface 57 (.pointer (some (a0.add 0)))), (.iface 52 (.pointer p1))] h K :=
  lift_sound mixed (args := [(.iface 57 (.addr a0 0)), (.iface 52 (.optr p1))]) (by rw [e18]; exact hf)

/-- (*equerry/due.Dues).Cut -/
def f19 (p0 : Option Addr) (x1 : Int) (h : H) (K : Value → H → Prop) : Prop :=
 (((Option.isNone p0) = true → K (.bool false) h) ∧
 ((Option.isNone p0) = false → ∃ a2 : Addr, p0 = some a2 ∧ ∃ m3 : Option Nat, cell h (a2.add 1) = some (.map m3) ∧ RunL P (X.sem (.lookup 47 (.map m3) (.int .u64 x1) true)) h (fun v4 h5 =>
 ∃ p6 : Option Addr, ∃ b7 : Bool, v4 = (.tuple #[(.pointer p6), (.bool b7)]) ∧ ∃ I8 : List Value → H → Prop, ((((b7 = true → ∃ a9 : Addr, p0 = some a9 ∧ ∃ a10 : Addr, p6 = some a10 ∧ ∃ x11 : Int, cell h5 (a10.add 2) = some (.int .i64 x11) ∧ Spec P 25 #[(.iface 57 (.pointer (some (a9.add 0)))), (.int .i64 x11)] h5 (fun v12 h13 =>
 ∃ v14 : Value, v12 = v14 ∧ ∃ a15 : Addr, p0 = some a15 ∧ ∃ m16 : Option Nat, cell h13 (a15.add 1) = some (.map m16) ∧ RunL P (X.sem (.bi .delete #[47, 23] 0 [(.map m16), (.int .u64 x1)])) h13 (fun v17 h18 =>
 I8 [] h18))) ∧
 (b7 = false → I8 [] h5))) ∧
 (∀ h19 : H, (I8 [] h19) →
 K (.bool b7) h19)))))

theorem e19 (p0 : Option Addr) (x1 : Int) (h : H) (K : Value → H → Prop) : liftFn P (semAlg P K) 19 [(.optr p0), (.int .u64 x1)] h = f19 p0 x1 h K := by kernel_rfl

theorem s19 {p0 : Option Addr} {x1 : Int} {h : H} {K : Value → H → Prop} (hf : f19 p0 x1 h K) : Spec P 19 #[(.pointer p0), (.int .u64 x1)] h K :=
  lift_sound mixed (args := [(.optr p0), (.int .u64 x1)]) (by rw [e19]; exact hf)

/-- equerry/equerryref06.Set -/
def f20 (p0 : Option Addr) (n1 n2 : Nat) (x3 : Int) (x4 : Int) (h : H) (K : Value → H → Prop) : Prop :=
 Spec P 21 #[(.slice p0 n1 n2), (.int .u64 x3)] h (fun v5 h6 =>
 ∃ p7 : Option Addr, ∃ n8 : Nat, ∃ n9 : Nat, ∃ b10 : Bool, v5 = (.tuple #[(.slice p7 n8 n9), (.bool b10)]) ∧ ∀ n11 : Nat, h6 n11 = none → ∀ h12 : H, h12 = (hnew h6 n11 (.cells #[(.int .u64 x3), (.int .u64 x4)] 43 (0, 0))) →
 RunL P (X.sem (.bi .append #[33, 33] 33 [(.slice p7 n8 n9), (.slice (some ((blk n11).add 0)) 1 1)])) h12 (fun v13 h14 =>
 ∃ p15 : Option Addr, ∃ n16 : Nat, ∃ n17 : Nat, v13 = (.slice p15 n16 n17) ∧ K (.slice p15 n16 n17) h14))

theorem e20 (p0 : Option Addr) (n1 n2 : Nat) (x3 : Int) (x4 : Int) (h : H) (K : Value → H → Prop) : liftFn P (semAlg P K) 20 [(.slice p0 n1 n2), (.int .u64 x3), (.int .u64 x4)] h = f20 p0 n1 n2 x3 x4 h K := by kernel_rfl

theorem s20 {p0 : Option Addr} {n1 n2 : Nat} {x3 : Int} {x4 : Int} {h : H} {K : Value → H → Prop} (hf : f20 p0 n1 n2 x3 x4 h K) : Spec P 20 #[(.slice p0 n1 n2), (.int .u64 x3), (.int .u64 x4)] h K :=
  lift_sound mixed (args := [(.slice p0 n1 n2), (.int .u64 x3), (.int .u64 x4)]) (by rw [e20]; exact hf)

/-- equerry/equerryref06.Cut -/
def f21 (p0 : Option Addr) (n1 n2 : Nat) (x3 : Int) (h : H) (K : Value → H → Prop) : Prop :=
 ∀ n4 : Nat, h n4 = none → ∀ h5 : H, h5 = (hnew h n4 (.cells #[] 43 (0, 0))) →
 ∃ L6 : Nat → List Value → H → Prop, ((∃ k7 : Nat, L6 k7 [(.int .i64 0), (.slice (some ((blk n4).add 0)) 0 0)] h5) ∧ ∀ k7 : Nat,
 ∀ x9 : Int, ∀ p10 : Option Addr, ∀ n11 : Nat, ∀ n12 : Nat, ∀ h13 : H, (L6 k7 [(.int .i64 x9), (.slice p10 n11 n12)] h13) →
 (((decide (x9 < ((n1 : Nat) : Int))) = true → ∃ I14 : List Value → H → Prop, ((∃ a15 : Addr, p0 = some a15 ∧ ((0 : Int) ≤ x9 ∧ (x9 : Int) < ((n1 : Nat) : Int)) ∧ ∃ x16 : Int, cell h13 ((aidx a15 0 x9 2).add 0) = some (.int .u64 x16) ∧ (((!decide (x16 = x3)) = true → ∃ a17 : Addr, p0 = some a17 ∧ ((0 : Int) ≤ x9 ∧ (x9 : Int) < ((n1 : Nat) : Int)) ∧ ∃ x18 : Int, cell h13 ((aidx a17 0 x9 2).add 0) = some (.int .u64 x18) ∧ ∃ x19 : Int, cell h13 ((aidx a17 0 x9 2).add 1) = some (.int .u64 x19) ∧ ∀ n20 : Nat, h13 n20 = none → ∀ h21 : H, h21 = (hnew h13 n20 (.cells #[(.int .u64 x18), (.int .u64 x19)] 43 (0, 0))) →
 RunL P (X.sem (.bi .append #[33, 33] 33 [(.slice p10 n11 n12), (.slice (some ((blk n20).add 0)) 1 1)])) h21 (fun v22 h23 =>
 ∃ p24 : Option Addr, ∃ n25 : Nat, ∃ n26 : Nat, v22 = (.slice p24 n25 n26) ∧ I14 [(.slice p24 n25 n26)] h23)) ∧
 ((!decide (x16 = x3)) = false → I14 [(.slice p10 n11 n12)] h13))) ∧
 (∀ p27 : Option Addr, ∀ n28 : Nat, ∀ n29 : Nat, ∀ h30 : H, (I14 [(.slice p27 n28 n29)] h30) →
 (∃ j8 : Nat, j8 < k7 ∧ L6 j8 [(.int .i64 (IntKind.wrap .i64 (x9 + 1))), (.slice p27 n28 n29)] h30)))) ∧
 ((decide (x9 < ((n1 : Nat) : Int))) = false → K (.tuple #[(.slice p10 n11 n12), (.bool (decide (((n11 : Nat) : Int) < ((n1 : Nat) : Int))))]) h13)))

theorem e21 (p0 : Option Addr) (n1 n2 : Nat) (x3 : Int) (h : H) (K : Value → H → Prop) : liftFn P (semAlg P K) 21 [(.slice p0 n1 n2), (.int .u64 x3)] h = f21 p0 n1 n2 x3 h K := by kernel_rfl

theorem s21 {p0 : Option Addr} {n1 n2 : Nat} {x3 : Int} {h : H} {K : Value → H → Prop} (hf : f21 p0 n1 n2 x3 h K) : Spec P 21 #[(.slice p0 n1 n2), (.int .u64 x3)] h K :=
  lift_sound mixed (args := [(.slice p0 n1 n2), (.int .u64 x3)]) (by rw [e21]; exact hf)

/-- equerry/equerryref06.Take -/
def f22 (p0 : Option Addr) (n1 n2 : Nat) (x3 : Int) (h : H) (K : Value → H → Prop) : Prop :=
 ∀ n4 : Nat, h n4 = none → ∀ h5 : H, h5 = (hnew h n4 (.cells #[] 23 (0, 0))) →
 ∃ L6 : Nat → List Value → H → Prop, ((∃ k7 : Nat, L6 k7 [(.slice (some ((blk n4).add 0)) 0 0), (.slice none 0 0), (.slice none 0 0), (.slice p0 n1 n2)] h5) ∧ ∀ k7 : Nat,
 ∀ p9 : Option Addr, ∀ n10 : Nat, ∀ n11 : Nat, ∀ p12 : Option Addr, ∀ n13 : Nat, ∀ n14 : Nat, ∀ p15 : Option Addr, ∀ n16 : Nat, ∀ n17 : Nat, ∀ p18 : Option Addr, ∀ n19 : Nat, ∀ n20 : Nat, ∀ h21 : H, (L6 k7 [(.slice p9 n10 n11), (.slice p12 n13 n14), (.slice p15 n16 n17), (.slice p18 n19 n20)] h21) →
 Spec P 15 #[(.slice p18 n19 n20)] h21 (fun v22 h23 =>
 ∃ x24 : Int, v22 = (.int .i64 x24) ∧ ∃ I25 : List Value → H → Prop, (((((decide (x24 < 0)) = true → I25 [(.bool true), (.bool true)] h23) ∧
 ((decide (x24 < 0)) = false → ∃ a26 : Addr, p18 = some a26 ∧ ((0 : Int) ≤ x24 ∧ (x24 : Int) < ((n19 : Nat) : Int)) ∧ ∃ x27 : Int, cell h23 ((aidx a26 0 x24 2).add 1) = some (.int .u64 x27) ∧ I25 [(.bool (decide (x27 > x3))), (.bool false)] h23))) ∧
 (∀ b28 : Bool, ∀ b29 : Bool, ∀ h30 : H, (I25 [(.bool b28), (.bool b29)] h30) →
 ((b28 = true → K (.tuple #[(.slice p9 n10 n11), (.slice p18 n19 n20)]) h30) ∧
 (b28 = false → ∃ a31 : Addr, p18 = some a31 ∧ ((0 : Int) ≤ x24 ∧ (x24 : Int) < ((n19 : Nat) : Int)) ∧ ∃ x32 : Int, cell h30 ((aidx a31 0 x24 2).add 0) = some (.int .u64 x32) ∧ ∀ n33 : Nat, h30 n33 = none → ∀ h34 : H, h34 = (hnew h30 n33 (.cells #[(.int .u64 x32)] 23 (0, 0))) →
 RunL P (X.sem (.bi .append #[22, 22] 22 [(.slice p9 n10 n11), (.slice (some ((blk n33).add 0)) 1 1)])) h34 (fun v35 h36 =>
 ∃ p37 : Option Addr, ∃ n38 : Nat, ∃ n39 : Nat, v35 = (.slice p37 n38 n39) ∧ ∃ a40 : Addr, p18 = some a40 ∧ ((0 : Int) ≤ x24 ∧ (x24 : Int) < ((n19 : Nat) : Int)) ∧ ∃ x41 : Int, cell h36 ((aidx a40 0 x24 2).add 0) = some (.int .u64 x41) ∧ Spec P 21 #[(.slice p18 n19 n20), (.int .u64 x41)] h36 (fun v42 h43 =>
 ∃ p44 : Option Addr, ∃ n45 : Nat, ∃ n46 : Nat, ∃ b47 : Bool, v42 = (.tuple #[(.slice p44 n45 n46), (.bool b47)]) ∧ (∃ j8 : Nat, j8 < k7 ∧ L6 j8 [(.slice p37 n38 n39), (.slice p12 n13 n14), (.slice p15 n16 n17), (.slice p44 n45 n46)] h43)))))))))

theorem e22 (p0 : Option Addr) (n1 n2 : Nat) (x3 : Int) (h : H) (K : Value → H → Prop) : liftFn P (semAlg P K) 22 [(.slice p0 n1 n2), (.int .u64 x3)] h = f22 p0 n1 n2 x3 h K := by kernel_rfl

theorem s22 {p0 : Option Addr} {n1 n2 : Nat} {x3 : Int} {h : H} {K : Value → H → Prop} (hf : f22 p0 n1 n2 x3 h K) : Spec P 22 #[(.slice p0 n1 n2), (.int .u64 x3)] h K :=
  lift_sound mixed (args := [(.slice p0 n1 n2), (.int .u64 x3)]) (by rw [e22]; exact hf)

/-- container/heap.down -/
def f23 (a0 : Addr) (x1 : Int) (x2 : Int) (h : H) (K : Value → H → Prop) : Prop :=
 ∃ I3 : List Value → H → Prop, ((∃ L4 : Nat → List Value → H → Prop, ((∃ k5 : Nat, L4 k5 [(.int .i64 x1)] h) ∧ ∀ k5 : Nat,
 ∀ x7 : Int, ∀ h8 : H, (L4 k5 [(.int .i64 x7)] h8) →
 ∃ I9 : List Value → H → Prop, (((((decide ((IntKind.wrap .i64 ((IntKind.wrap .i64 (2 * x7)) + 1)) ≥ x2)) = true → I9 [(.bool true), (.bool true)] h8) ∧
 ((decide ((IntKind.wrap .i64 ((IntKind.wrap .i64 (2 * x7)) + 1)) ≥ x2)) = false → I9 [(.bool (decide ((IntKind.wrap .i64 ((IntKind.wrap .i64 (2 * x7)) + 1)) < 0))), (.bool false)] h8))) ∧
 (∀ b10 : Bool, ∀ b11 : Bool, ∀ h12 : H, (I9 [(.bool b10), (.bool b11)] h12) →
 ((b10 = true → I3 [(.int .i64 x7)] h12) ∧
 (b10 = false → ∃ I13 : List Value → H → Prop, ((∃ I14 : List Value → H → Prop, (((((decide ((IntKind.wrap .i64 ((IntKind.wrap .i64 ((IntKind.wrap .i64 (2 * x7)) + 1)) + 1)) < x2)) = true → ∃ p15 : Option Addr, ∃ n16 : Nat, ∃ n17 : Nat, cell h12 (a0.add 0) = some (.slice p15 n16 n17) ∧ Spec P 43 #[(.slice p15 n16 n17), (.int .i64 (IntKind.wrap .i64 ((IntKind.wrap .i64 ((IntKind.wrap .i64 (2 * x7)) + 1)) + 1))), (.int .i64 (IntKind.wrap .i64 ((IntKind.wrap .i64 (2 * x7)) + 1)))] h12 (fun v18 h19 =>
 ∃ b20 : Bool, v18 = (.bool b20) ∧ I14 [(.bool b20), (.bool true)] h19)) ∧
 ((decide ((IntKind.wrap .i64 ((IntKind.wrap .i64 ((IntKind.wrap .i64 (2 * x7)) + 1)) + 1)) < x2)) = false → I14 [(.bool false), (.bool false)] h12))) ∧
 (∀ b21 : Bool, ∀ b22 : Bool, ∀ h23 : H, (I14 [(.bool b21), (.bool b22)] h23) →
 ((b21 = true → I13 [(.int .i64 (IntKind.wrap .i64 ((IntKind.wrap .i64 ((IntKind.wrap .i64 (2 * x7)) + 1)) + 1)))] h23) ∧
 (b21 = false → I13 [(.int .i64 (IntKind.wrap .i64 ((IntKind.wrap .i64 (2 * x7)) + 1)))] h23))))) ∧
 (∀ x24 : Int, ∀ h25 : H, (I13 [(.int .i64 x24)] h25) →
 ∃ p26 : Option Addr, ∃ n27 : Nat, ∃ n28 : Nat, cell h25 (a0.add 0) = some (.slice p26 n27 n28) ∧ Spec P 43 #[(.slice p26 n27 n28), (.int .i64 x24), (.int .i64 x7)] h25 (fun v29 h30 =>
 ∃ b31 : Bool, v29 = (.bool b31) ∧ (((!b31) = true → I3 [(.int .i64 x7)] h30) ∧
 ((!b31) = false → ∃ p32 : Option Addr, ∃ n33 : Nat, ∃ n34 : Nat, cell h30 (a0.add 0) = some (.slice p32 n33 n34) ∧ Spec P 44 #[(.slice p32 n33 n34), (.int .i64 x7), (.int .i64 x24)] h30 (fun v35 h36 =>
 v35 = (.tuple #[]) ∧ (∃ j6 : Nat, j6 < k5 ∧ L4 j6 [(.int .i64 x24)] h36))))))))))))) ∧
 (∀ x37 : Int, ∀ h38 : H, (I3 [(.int .i64 x37)] h38) →
 K (.bool (decide (x37 > x1))) h38))

theorem e23 (a0 : Addr) (x1 : Int) (x2 : Int) (h : H) (K : Value → H → Prop) : liftFn P (semAlg P K) 23 [(.iface 57 (.addr a0 0)), (.int .i64 x1), (.int .i64 x2)] h = f23 a0 x1 x2 h K := by kernel_rfl

theorem s23 {a0 : Addr} {x1 : Int} {x2 : Int} {h : H} {K : Value → H → Prop} (hf : f23 a0 x1 x2 h K) : Spec P 23 #[(.iface 57 (.pointer (some (a0.add 0)))), (.int .i64 x1), (.int .i64 x2)] h K :=
  lift_sound mixed (args := [(.iface 57 (.addr a0 0)), (.int .i64 x1), (.int .i64 x2)]) (by rw [e23]; exact hf)

/-- container/heap.up -/
def f24 (a0 : Addr) (x1 : Int) (h : H) (K : Value → H → Prop) : Prop :=
 ∃ L2 : Nat → List Value → H → Prop, ((∃ k3 : Nat, L2 k3 [(.int .i64 x1)] h) ∧ ∀ k3 : Nat,
 ∀ x5 : Int, ∀ h6 : H, (L2 k3 [(.int .i64 x5)] h6) →
 ∃ I7 : List Value → H → Prop, (((((decide ((IntKind.wrap .i64 (Int.tdiv (IntKind.wrap .i64 (x5 - 1)) 2)) = x5)) = true → I7 [(.bool true), (.bool true)] h6) ∧
 ((decide ((IntKind.wrap .i64 (Int.tdiv (IntKind.wrap .i64 (x5 - 1)) 2)) = x5)) = false → ∃ p8 : Option Addr, ∃ n9 : Nat, ∃ n10 : Nat, cell h6 (a0.add 0) = some (.slice p8 n9 n10) ∧ Spec P 43 #[(.slice p8 n9 n10), (.int .i64 x5), (.int .i64 (IntKind.wrap .i64 (Int.tdiv (IntKind.wrap .i64 (x5 - 1)) 2)))] h6 (fun v11 h12 =>
 ∃ b13 : Bool, v11 = (.bool b13) ∧ I7 [(.bool (!b13)), (.bool false)] h12)))) ∧
 (∀ b14 : Bool, ∀ b15 : Bool, ∀ h16 : H, (I7 [(.bool b14), (.bool b15)] h16) →
 ((b14 = true → K (.tuple #[]) h16) ∧
 (b14 = false → ∃ p17 : Option Addr, ∃ n18 : Nat, ∃ n19 : Nat, cell h16 (a0.add 0) = some (.slice p17 n18 n19) ∧ Spec P 44 #[(.slice p17 n18 n19), (.int .i64 (IntKind.wrap .i64 (Int.tdiv (IntKind.wrap .i64 (x5 - 1)) 2))), (.int .i64 x5)] h16 (fun v20 h21 =>
 v20 = (.tuple #[]) ∧ (∃ j4 : Nat, j4 < k3 ∧ L2 j4 [(.int .i64 (IntKind.wrap .i64 (Int.tdiv (IntKind.wrap .i64 (x5 - 1)) 2)))] h21)))))))

theorem e24 (a0 : Addr) (x1 : Int) (h : H) (K : Value → H → Prop) : liftFn P (semAlg P K) 24 [(.iface 57 (.addr a0 0)), (.int .i64 x1)] h = f24 a0 x1 h K := by kernel_rfl

theorem s24 {a0 : Addr} {x1 : Int} {h : H} {K : Value → H → Prop} (hf : f24 a0 x1 h K) : Spec P 24 #[(.iface 57 (.pointer (some (a0.add 0)))), (.int .i64 x1)] h K :=
  lift_sound mixed (args := [(.iface 57 (.addr a0 0)), (.int .i64 x1)]) (by rw [e24]; exact hf)

/-- container/heap.Remove -/
def f25 (a0 : Addr) (x1 : Int) (h : H) (K : Value → H → Prop) : Prop :=
 ∃ p2 : Option Addr, ∃ n3 : Nat, ∃ n4 : Nat, cell h (a0.add 0) = some (.slice p2 n3 n4) ∧ Spec P 42 #[(.slice p2 n3 n4)] h (fun v5 h6 =>
 ∃ x7 : Int, v5 = (.int .i64 x7) ∧ ∃ I8 : List Value → H → Prop, (((((!decide ((IntKind.wrap .i64 (x7 - 1)) = x1)) = true → ∃ p9 : Option Addr, ∃ n10 : Nat, ∃ n11 : Nat, cell h6 (a0.add 0) = some (.slice p9 n10 n11) ∧ Spec P 44 #[(.slice p9 n10 n11), (.int .i64 x1), (.int .i64 (IntKind.wrap .i64 (x7 - 1)))] h6 (fun v12 h13 =>
 v12 = (.tuple #[]) ∧ Spec P 23 #[(.iface 57 (.pointer (some (a0.add 0)))), (.int .i64 x1), (.int .i64 (IntKind.wrap .i64 (x7 - 1)))] h13 (fun v14 h15 =>
 ∃ b16 : Bool, v14 = (.bool b16) ∧ (((!b16) = true → Spec P 24 #[(.iface 57 (.pointer (some (a0.add 0)))), (.int .i64 x1)] h15 (fun v17 h18 =>
 v17 = (.tuple #[]) ∧ I8 [] h18)) ∧
 ((!b16) = false → I8 [] h15))))) ∧
 ((!decide ((IntKind.wrap .i64 (x7 - 1)) = x1)) = false → I8 [] h6))) ∧
 (∀ h19 : H, (I8 [] h19) →
 Spec P 48 #[(.pointer (some (a0.add 0)))] h19 (fun v20 h21 =>
 ∃ v22 : Value, v20 = v22 ∧ K v22 h21))))

theorem e25 (a0 : Addr) (x1 : Int) (h : H) (K : Value → H → Prop) : liftFn P (semAlg P K) 25 [(.iface 57 (.addr a0 0)), (.int .i64 x1)] h = f25 a0 x1 h K := by kernel_rfl

theorem s25 {a0 : Addr} {x1 : Int} {h : H} {K : Value → H → Prop} (hf : f25 a0 x1 h K) : Spec P 25 #[(.iface 57 (.pointer (some (a0.add 0)))), (.int .i64 x1)] h K :=
  lift_sound mixed (args := [(.iface 57 (.addr a0 0)), (.int .i64 x1)]) (by rw [e25]; exact hf)

/-- (equerry/due.row).Len -/
def f42 (p0 : Option Addr) (n1 n2 : Nat) (h : H) (K : Value → H → Prop) : Prop :=
 K (.int .i64 ((n1 : Nat) : Int)) h

theorem e42 (p0 : Option Addr) (n1 n2 : Nat) (h : H) (K : Value → H → Prop) : liftFn P (semAlg P K) 42 [(.slice p0 n1 n2)] h = f42 p0 n1 n2 h K := by kernel_rfl

theorem s42 {p0 : Option Addr} {n1 n2 : Nat} {h : H} {K : Value → H → Prop} (hf : f42 p0 n1 n2 h K) : Spec P 42 #[(.slice p0 n1 n2)] h K :=
  lift_sound mixed (args := [(.slice p0 n1 n2)]) (by rw [e42]; exact hf)

/-- (equerry/due.row).Less -/
def f43 (p0 : Option Addr) (n1 n2 : Nat) (x3 : Int) (x4 : Int) (h : H) (K : Value → H → Prop) : Prop :=
 ∃ a5 : Addr, p0 = some a5 ∧ ((0 : Int) ≤ x3 ∧ (x3 : Int) < ((n1 : Nat) : Int)) ∧ ∃ p6 : Option Addr, cell h ((aidx a5 0 x3 1).add 0) = some (.pointer p6) ∧ ∃ a7 : Addr, p6 = some a7 ∧ ∃ x8 : Int, cell h (a7.add 1) = some (.int .u64 x8) ∧ ∃ a9 : Addr, p0 = some a9 ∧ ((0 : Int) ≤ x4 ∧ (x4 : Int) < ((n1 : Nat) : Int)) ∧ ∃ p10 : Option Addr, cell h ((aidx a9 0 x4 1).add 0) = some (.pointer p10) ∧ ∃ a11 : Addr, p10 = some a11 ∧ ∃ x12 : Int, cell h (a11.add 1) = some (.int .u64 x12) ∧ ∃ a13 : Addr, p0 = some a13 ∧ ((0 : Int) ≤ x3 ∧ (x3 : Int) < ((n1 : Nat) : Int)) ∧ ∃ p14 : Option Addr, cell h ((aidx a13 0 x3 1).add 0) = some (.pointer p14) ∧ ∃ a15 : Addr, p14 = some a15 ∧ ∃ x16 : Int, cell h (a15.add 0) = some (.int .u64 x16) ∧ ∃ a17 : Addr, p0 = some a17 ∧ ((0 : Int) ≤ x4 ∧ (x4 : Int) < ((n1 : Nat) : Int)) ∧ ∃ p18 : Option Addr, cell h ((aidx a17 0 x4 1).add 0) = some (.pointer p18) ∧ ∃ a19 : Addr, p18 = some a19 ∧ ∃ x20 : Int, cell h (a19.add 0) = some (.int .u64 x20) ∧ Spec P 46 #[(.int .u64 x8), (.int .u64 x12)] h (fun v21 h22 =>
 ∃ x23 : Int, v21 = (.int .i64 x23) ∧ (Le h h22) ∧ Spec P 46 #[(.int .u64 x16), (.int .u64 x20)] h22 (fun v24 h25 =>
 ∃ x26 : Int, v24 = (.int .i64 x26) ∧ (Le h h25) ∧ ∀ n27 : Nat, h25 n27 = none → ∀ h28 : H, h28 = (hnew h25 n27 (.cells #[(.int .i64 x23), (.int .i64 x26)] 3 (0, 0))) →
 (Le h h28) ∧ Spec P 45 #[(.slice (some ((blk n27).add 0)) 2 2)] h28 (fun v29 h30 =>
 ∃ x31 : Int, v29 = (.int .i64 x31) ∧ K (.bool (decide (x31 < 0))) h30)))

theorem e43 (p0 : Option Addr) (n1 n2 : Nat) (x3 : Int) (x4 : Int) (h : H) (K : Value → H → Prop) : liftFn P (semAlg P K) 43 [(.slice p0 n1 n2), (.int .i64 x3), (.int .i64 x4)] h = f43 p0 n1 n2 x3 x4 h K := by kernel_rfl

theorem s43 {p0 : Option Addr} {n1 n2 : Nat} {x3 : Int} {x4 : Int} {h : H} {K : Value → H → Prop} (hf : f43 p0 n1 n2 x3 x4 h K) : Spec P 43 #[(.slice p0 n1 n2), (.int .i64 x3), (.int .i64 x4)] h K :=
  lift_sound mixed (args := [(.slice p0 n1 n2), (.int .i64 x3), (.int .i64 x4)]) (by rw [e43]; exact hf)

/-- (equerry/due.row).Swap -/
def f44 (p0 : Option Addr) (n1 n2 : Nat) (x3 : Int) (x4 : Int) (h : H) (K : Value → H → Prop) : Prop :=
 ∃ a5 : Addr, p0 = some a5 ∧ ((0 : Int) ≤ x4 ∧ (x4 : Int) < ((n1 : Nat) : Int)) ∧ ∃ p6 : Option Addr, cell h ((aidx a5 0 x4 1).add 0) = some (.pointer p6) ∧ ∃ a7 : Addr, p0 = some a7 ∧ ((0 : Int) ≤ x3 ∧ (x3 : Int) < ((n1 : Nat) : Int)) ∧ ∃ p8 : Option Addr, cell h ((aidx a7 0 x3 1).add 0) = some (.pointer p8) ∧ ∃ a9 : Addr, p0 = some a9 ∧ ((0 : Int) ≤ x3 ∧ (x3 : Int) < ((n1 : Nat) : Int)) ∧ isSet h ((aidx a9 0 x3 1).add 0) ∧ ∀ h10 : H, h10 = (hset h ((aidx a9 0 x3 1).add 0) (.pointer p6)) →
 ∃ a11 : Addr, p0 = some a11 ∧ ((0 : Int) ≤ x4 ∧ (x4 : Int) < ((n1 : Nat) : Int)) ∧ isSet h10 ((aidx a11 0 x4 1).add 0) ∧ ∀ h12 : H, h12 = (hset h10 ((aidx a11 0 x4 1).add 0) (.pointer p8)) →
 ∃ a13 : Addr, p0 = some a13 ∧ ((0 : Int) ≤ x3 ∧ (x3 : Int) < ((n1 : Nat) : Int)) ∧ ∃ p14 : Option Addr, cell h12 ((aidx a13 0 x3 1).add 0) = some (.pointer p14) ∧ ∃ a15 : Addr, p0 = some a15 ∧ ((0 : Int) ≤ x4 ∧ (x4 : Int) < ((n1 : Nat) : Int)) ∧ ∃ p16 : Option Addr, cell h12 ((aidx a15 0 x4 1).add 0) = some (.pointer p16) ∧ ∃ a17 : Addr, p14 = some a17 ∧ isSet h12 (a17.add 2) ∧ ∀ h18 : H, h18 = (hset h12 (a17.add 2) (.int .i64 x3)) →
 ∃ a19 : Addr, p16 = some a19 ∧ isSet h18 (a19.add 2) ∧ ∀ h20 : H, h20 = (hset h18 (a19.add 2) (.int .i64 x4)) →
 K (.tuple #[]) h20

theorem e44 (p0 : Option Addr) (n1 n2 : Nat) (x3 : Int) (x4 : Int) (h : H) (K : Value → H → Prop) : liftFn P (semAlg P K) 44 [(.slice p0 n1 n2), (.int .i64 x3), (.int .i64 x4)] h = f44 p0 n1 n2 x3 x4 h K := by kernel_rfl

theorem s44 {p0 : Option Addr} {n1 n2 : Nat} {x3 : Int} {x4 : Int} {h : H} {K : Value → H → Prop} (hf : f44 p0 n1 n2 x3 x4 h K) : Spec P 44 #[(.slice p0 n1 n2), (.int .i64 x3), (.int .i64 x4)] h K :=
  lift_sound mixed (args := [(.slice p0 n1 n2), (.int .i64 x3), (.int .i64 x4)]) (by rw [e44]; exact hf)

/-- cmp.Or[int] -/
def f45 (p0 : Option Addr) (n1 n2 : Nat) (h : H) (K : Value → H → Prop) : Prop :=
 ∃ L3 : Nat → List Value → H → Prop, ((∃ k4 : Nat, L3 k4 [(.int .i64 0), (.int .i64 0)] h) ∧ ∀ k4 : Nat,
 ∀ x6 : Int, ∀ x7 : Int, ∀ h8 : H, (L3 k4 [(.int .i64 x6), (.int .i64 x7)] h8) →
 (((decide (x6 < ((n1 : Nat) : Int))) = true → ∃ a9 : Addr, p0 = some a9 ∧ ((0 : Int) ≤ x6 ∧ (x6 : Int) < ((n1 : Nat) : Int)) ∧ ∃ x10 : Int, cell h8 ((aidx a9 0 x6 1).add 0) = some (.int .i64 x10) ∧ (((!decide (x10 = 0)) = true → K (.int .i64 x10) h8) ∧
 ((!decide (x10 = 0)) = false → (∃ j5 : Nat, j5 < k4 ∧ L3 j5 [(.int .i64 (IntKind.wrap .i64 (x6 + 1))), (.int .i64 x7)] h8)))) ∧
 ((decide (x6 < ((n1 : Nat) : Int))) = false → K (.int .i64 0) h8)))

theorem e45 (p0 : Option Addr) (n1 n2 : Nat) (h : H) (K : Value → H → Prop) : liftFn P (semAlg P K) 45 [(.slice p0 n1 n2)] h = f45 p0 n1 n2 h K := by kernel_rfl

theorem s45 {p0 : Option Addr} {n1 n2 : Nat} {h : H} {K : Value → H → Prop} (hf : f45 p0 n1 n2 h K) : Spec P 45 #[(.slice p0 n1 n2)] h K :=
  lift_sound mixed (args := [(.slice p0 n1 n2)]) (by rw [e45]; exact hf)

/-- cmp.Compare[uint64] -/
def f46 (x0 : Int) (x1 : Int) (h : H) (K : Value → H → Prop) : Prop :=
 Spec P 47 #[(.int .u64 x0)] h (fun v2 h3 =>
 ∃ b4 : Bool, v2 = (.bool b4) ∧ Spec P 47 #[(.int .u64 x1)] h3 (fun v5 h6 =>
 ∃ b7 : Bool, v5 = (.bool b7) ∧ ((b4 = true → ((b7 = true → K (.int .i64 0) h6) ∧
 (b7 = false → K (.int .i64 (-1)) h6))) ∧
 (b4 = false → ((b7 = true → K (.int .i64 1) h6) ∧
 (b7 = false → (((decide (x0 < x1)) = true → K (.int .i64 (-1)) h6) ∧
 ((decide (x0 < x1)) = false → (((decide (x0 > x1)) = true → K (.int .i64 1) h6) ∧
 ((decide (x0 > x1)) = false → K (.int .i64 0) h6))))))))))

theorem e46 (x0 : Int) (x1 : Int) (h : H) (K : Value → H → Prop) : liftFn P (semAlg P K) 46 [(.int .u64 x0), (.int .u64 x1)] h = f46 x0 x1 h K := by kernel_rfl

theorem s46 {x0 : Int} {x1 : Int} {h : H} {K : Value → H → Prop} (hf : f46 x0 x1 h K) : Spec P 46 #[(.int .u64 x0), (.int .u64 x1)] h K :=
  lift_sound mixed (args := [(.int .u64 x0), (.int .u64 x1)]) (by rw [e46]; exact hf)

/-- cmp.isNaN[uint64] -/
def f47 (x0 : Int) (h : H) (K : Value → H → Prop) : Prop :=
 K (.bool (!decide (x0 = x0))) h

theorem e47 (x0 : Int) (h : H) (K : Value → H → Prop) : liftFn P (semAlg P K) 47 [(.int .u64 x0)] h = f47 x0 h K := by kernel_rfl

theorem s47 {x0 : Int} {h : H} {K : Value → H → Prop} (hf : f47 x0 h K) : Spec P 47 #[(.int .u64 x0)] h K :=
  lift_sound mixed (args := [(.int .u64 x0)]) (by rw [e47]; exact hf)

/-- (*equerry/due.row).Pop -/
def f48 (a0 : Addr) (h : H) (K : Value → H → Prop) : Prop :=
 ∃ p1 : Option Addr, ∃ n2 : Nat, ∃ n3 : Nat, cell h (a0.add 0) = some (.slice p1 n2 n3) ∧ ∃ a4 : Addr, p1 = some a4 ∧ ((0 : Int) ≤ (IntKind.wrap .i64 (((n2 : Nat) : Int) - 1)) ∧ ((IntKind.wrap .i64 (((n2 : Nat) : Int) - 1)) : Int) < ((n2 : Nat) : Int)) ∧ ∃ p5 : Option Addr, cell h ((aidx a4 0 (IntKind.wrap .i64 (((n2 : Nat) : Int) - 1)) 1).add 0) = some (.pointer p5) ∧ ((0 : Int) ≤ (IntKind.wrap .i64 (((n2 : Nat) : Int) - 1)) ∧ ((IntKind.wrap .i64 (((n2 : Nat) : Int) - 1)) : Int) ≤ ((n3 : Nat) : Int)) ∧ isSet h (a0.add 0) ∧ ∀ h6 : H, h6 = (hset h (a0.add 0) (.slice (sliceP p1 0 n3 1) ((Int.toNat (IntKind.wrap .i64 (((n2 : Nat) : Int) - 1))) - 0) (n3 - 0))) →
 K (.iface 52 (.pointer p5)) h6

theorem e48 (a0 : Addr) (h : H) (K : Value → H → Prop) : liftFn P (semAlg P K) 48 [(.addr a0 0)] h = f48 a0 h K := by kernel_rfl

theorem s48 {a0 : Addr} {h : H} {K : Value → H → Prop} (hf : f48 a0 h K) : Spec P 48 #[(.pointer (some (a0.add 0)))] h K :=
  lift_sound mixed (args := [(.addr a0 0)]) (by rw [e48]; exact hf)

/-- (*equerry/due.row).Push -/
def f49 (a0 : Addr) (p1 : Option Addr) (h : H) (K : Value → H → Prop) : Prop :=
 ∃ p2 : Option Addr, ∃ n3 : Nat, ∃ n4 : Nat, cell h (a0.add 0) = some (.slice p2 n3 n4) ∧ ∃ a5 : Addr, p1 = some a5 ∧ isSet h (a5.add 2) ∧ ∀ h6 : H, h6 = (hset h (a5.add 2) (.int .i64 ((n3 : Nat) : Int))) →
 ∃ p7 : Option Addr, ∃ n8 : Nat, ∃ n9 : Nat, cell h6 (a0.add 0) = some (.slice p7 n8 n9) ∧ ∀ n10 : Nat, h6 n10 = none → ∀ h11 : H, h11 = (hnew h6 n10 (.cells #[(.pointer p1)] 52 (0, 0))) →
 RunL P (X.sem (.bi .append #[49, 49] 49 [(.slice p7 n8 n9), (.slice (some ((blk n10).add 0)) 1 1)])) h11 (fun v12 h13 =>
 ∃ p14 : Option Addr, ∃ n15 : Nat, ∃ n16 : Nat, v12 = (.slice p14 n15 n16) ∧ isSet h13 (a0.add 0) ∧ ∀ h17 : H, h17 = (hset h13 (a0.add 0) (.slice p14 n15 n16)) →
 K (.tuple #[]) h17)

theorem e49 (a0 : Addr) (p1 : Option Addr) (h : H) (K : Value → H → Prop) : liftFn P (semAlg P K) 49 [(.addr a0 0), (.iface 52 (.optr p1))] h = f49 a0 p1 h K := by kernel_rfl

theorem s49 {a0 : Addr} {p1 : Option Addr} {h : H} {K : Value → H → Prop} (hf : f49 a0 p1 h K) : Spec P 49 #[(.pointer (some (a0.add 0))), (.iface 52 (.pointer p1))] h K :=
  lift_sound mixed (args := [(.addr a0 0), (.iface 52 (.optr p1))]) (by rw [e49]; exact hf)

end DueP
