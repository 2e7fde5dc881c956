/- The lifted texts of the functions, each held against the program. -/
import Derived.Test.YtlcebmelfcfkaaaLfSnd8
import Derived.Test.YtlcebmelfcfkaaaPtNum
namespace Pt
open Go Lf
set_option maxRecDepth 10000

/-- (equerry/equerrylaw04.Raw).Value -/
def f_law04_Raw_Value (x0 : Int) (x1 : Int) (x2 : Int) (s3 : ByteArray) (h : H) (K : Value → H → Prop) : Prop :=
 RunL P (X.sem (.ext 54 [(.int .u64 x2)])) h (fun v4 h5 =>
 ∃ n6 : Nat, v4 = (.float .f64 n6) ∧ (Le h h5) ∧ K (.agg #[(.int .u8 x0), (.int .i64 x1), (.float .f64 n6), (.string s3)]) h5)

theorem e_law04_Raw_Value (x0 : Int) (x1 : Int) (x2 : Int) (s3 : ByteArray) (h : H) (K : Value → H → Prop) : liftFn P (semAlg P K) 34 [(.agg [(.int .u8 x0), (.int .i64 x1), (.int .u64 x2), (.str s3)])] h = f_law04_Raw_Value x0 x1 x2 s3 h K := by kernel_rfl

theorem s_law04_Raw_Value {x0 : Int} {x1 : Int} {x2 : Int} {s3 : ByteArray} {h : H} {K : Value → H → Prop} (hf : f_law04_Raw_Value x0 x1 x2 s3 h K) : Spec P 34 #[(.agg #[(.int .u8 x0), (.int .i64 x1), (.int .u64 x2), (.string s3)])] h K :=
  lift_sound mixed (args := [(.agg [(.int .u8 x0), (.int .i64 x1), (.int .u64 x2), (.str s3)])]) (by rw [e_law04_Raw_Value]; exact hf)

/-- (equerry/equerrylaw10.Raw).Pred -/
def f_law10_Raw_Pred (b0 : Bool) (x1 : Int) (p2 : Option Addr) (n3 n4 : Nat) (h : H) (K : Value → H → Prop) : Prop :=
 ∃ L5 : Nat → List Value → H → Prop, ((∃ k6 : Nat, L5 k6 [(.int .i64 0), (.agg #[(.bool b0), (.int .u8 x1), (.slice none 0 0)])] h) ∧ ∀ k6 : Nat,
 ∀ x8 : Int, ∀ b9 : Bool, ∀ x10 : Int, ∀ p11 : Option Addr, ∀ n12 : Nat, ∀ n13 : Nat, ∀ h14 : H, (L5 k6 [(.int .i64 x8), (.agg #[(.bool b9), (.int .u8 x10), (.slice p11 n12 n13)])] h14) →
 (((decide (x8 < ((n3 : Nat) : Int))) = true → ∃ I15 : List Value → H → Prop, ((∃ a16 : Addr, p2 = some a16 ∧ ((0 : Int) ≤ x8 ∧ (x8 : Int) < ((n3 : Nat) : Int)) ∧ ∃ x17 : Int, cell h14 ((aidx a16 0 x8 6).add 0) = some (.int .u8 x17) ∧ ∃ x18 : Int, cell h14 ((aidx a16 0 x8 6).add 1) = some (.int .u8 x18) ∧ ∃ x19 : Int, cell h14 ((aidx a16 0 x8 6).add 2) = some (.int .u8 x19) ∧ ∃ x20 : Int, cell h14 ((aidx a16 0 x8 6).add 3) = some (.int .i64 x20) ∧ ∃ x21 : Int, cell h14 ((aidx a16 0 x8 6).add 4) = some (.int .u64 x21) ∧ ∃ s22 : ByteArray, cell h14 ((aidx a16 0 x8 6).add 5) = some (.string s22) ∧ (((decide (x8 < 10)) = true → Spec P 34 #[(.agg #[(.int .u8 x19), (.int .i64 x20), (.int .u64 x21), (.string s22)])] h14 (fun v23 h24 =>
 ∃ x25 : Int, ∃ x26 : Int, ∃ n27 : Nat, ∃ s28 : ByteArray, v23 = (.agg #[(.int .u8 x25), (.int .i64 x26), (.float .f64 n27), (.string s28)]) ∧ (Le h14 h24) ∧ ∀ n29 : Nat, h24 n29 = none → ∀ h30 : H, h30 = (hnew h24 n29 (.cells #[(.int .u8 x17), (.int .u8 x18), (.int .u8 x25), (.int .i64 x26), (.float .f64 n27), (.string s28)] 103 (0, 0))) →
 (Le h14 h30) ∧ RunL P (X.sem (.bi .append #[43, 43] 43 [(.slice p11 n12 n13), (.slice (some ((blk n29).add 0)) 1 1)])) h30 (fun v31 h32 =>
 ∃ p33 : Option Addr, ∃ n34 : Nat, ∃ n35 : Nat, v31 = (.slice p33 n34 n35) ∧ I15 [(.agg #[(.bool b9), (.int .u8 x10), (.slice p33 n34 n35)])] h32))) ∧
 ((decide (x8 < 10)) = false → I15 [(.agg #[(.bool b9), (.int .u8 x10), (.slice p11 n12 n13)])] h14))) ∧
 (∀ b36 : Bool, ∀ x37 : Int, ∀ p38 : Option Addr, ∀ n39 : Nat, ∀ n40 : Nat, ∀ h41 : H, (I15 [(.agg #[(.bool b36), (.int .u8 x37), (.slice p38 n39 n40)])] h41) →
 (∃ j7 : Nat, j7 < k6 ∧ L5 j7 [(.int .i64 (IntKind.wrap .i64 (x8 + 1))), (.agg #[(.bool b36), (.int .u8 x37), (.slice p38 n39 n40)])] h41)))) ∧
 ((decide (x8 < ((n3 : Nat) : Int))) = false → K (.agg #[(.bool b9), (.int .u8 x10), (.slice p11 n12 n13)]) h14)))

theorem e_law10_Raw_Pred (b0 : Bool) (x1 : Int) (p2 : Option Addr) (n3 n4 : Nat) (h : H) (K : Value → H → Prop) : liftFn P (semAlg P K) 14 [(.agg [(.bool b0), (.int .u8 x1), (.slice p2 n3 n4)])] h = f_law10_Raw_Pred b0 x1 p2 n3 n4 h K := by kernel_rfl

theorem s_law10_Raw_Pred {b0 : Bool} {x1 : Int} {p2 : Option Addr} {n3 n4 : Nat} {h : H} {K : Value → H → Prop} (hf : f_law10_Raw_Pred b0 x1 p2 n3 n4 h K) : Spec P 14 #[(.agg #[(.bool b0), (.int .u8 x1), (.slice p2 n3 n4)])] h K :=
  lift_sound mixed (args := [(.agg [(.bool b0), (.int .u8 x1), (.slice p2 n3 n4)])]) (by rw [e_law10_Raw_Pred]; exact hf)

/-- (equerry/equerrylaw11.Raw).Pattern -/
def f_law11_Raw_Pattern (p0 : Option Addr) (n1 n2 : Nat) (x3 : Int) (h : H) (K : Value → H → Prop) : Prop :=
 ∃ L4 : Nat → List Value → H → Prop, ((∃ k5 : Nat, L4 k5 [(.int .i64 0), (.agg #[(.slice none 0 0), (.int .u64 x3)])] h) ∧ ∀ k5 : Nat,
 ∀ x7 : Int, ∀ p8 : Option Addr, ∀ n9 : Nat, ∀ n10 : Nat, ∀ x11 : Int, ∀ h12 : H, (L4 k5 [(.int .i64 x7), (.agg #[(.slice p8 n9 n10), (.int .u64 x11)])] h12) →
 (((decide (x7 < ((n1 : Nat) : Int))) = true → ∃ I13 : List Value → H → Prop, ((∃ a14 : Addr, p0 = some a14 ∧ ((0 : Int) ≤ x7 ∧ (x7 : Int) < ((n1 : Nat) : Int)) ∧ ∃ x15 : Int, cell h12 ((aidx a14 0 x7 11).add 0) = some (.int .u8 x15) ∧ ∃ b16 : Bool, cell h12 ((aidx a14 0 x7 11).add 1) = some (.bool b16) ∧ ∃ x17 : Int, cell h12 ((aidx a14 0 x7 11).add 2) = some (.int .u8 x17) ∧ ∃ p18 : Option Addr, ∃ n19 : Nat, ∃ n20 : Nat, cell h12 ((aidx a14 0 x7 11).add 3) = some (.slice p18 n19 n20) ∧ ∃ b21 : Bool, cell h12 ((aidx a14 0 x7 11).add 4) = some (.bool b21) ∧ ∃ b22 : Bool, cell h12 ((aidx a14 0 x7 11).add 5) = some (.bool b22) ∧ ∃ x23 : Int, cell h12 ((aidx a14 0 x7 11).add 6) = some (.int .u8 x23) ∧ ∃ p24 : Option Addr, ∃ n25 : Nat, ∃ n26 : Nat, cell h12 ((aidx a14 0 x7 11).add 7) = some (.slice p24 n25 n26) ∧ ∃ x27 : Int, cell h12 ((aidx a14 0 x7 11).add 8) = some (.int .u8 x27) ∧ ∃ x28 : Int, cell h12 ((aidx a14 0 x7 11).add 9) = some (.int .u8 x28) ∧ ∃ x29 : Int, cell h12 ((aidx a14 0 x7 11).add 10) = some (.int .i64 x29) ∧ (((decide (x7 < 40)) = true → Spec P 14 #[(.agg #[(.bool b16), (.int .u8 x17), (.slice p18 n19 n20)])] h12 (fun v30 h31 =>
 ∃ b32 : Bool, ∃ x33 : Int, ∃ p34 : Option Addr, ∃ n35 : Nat, ∃ n36 : Nat, v30 = (.agg #[(.bool b32), (.int .u8 x33), (.slice p34 n35 n36)]) ∧ (Le h12 h31) ∧ Spec P 14 #[(.agg #[(.bool b22), (.int .u8 x23), (.slice p24 n25 n26)])] h31 (fun v37 h38 =>
 ∃ b39 : Bool, ∃ x40 : Int, ∃ p41 : Option Addr, ∃ n42 : Nat, ∃ n43 : Nat, v37 = (.agg #[(.bool b39), (.int .u8 x40), (.slice p41 n42 n43)]) ∧ (Le h12 h38) ∧ ∀ n44 : Nat, h38 n44 = none → ∀ h45 : H, h45 = (hnew h38 n44 (.cells #[(.int .u8 x15), (.bool b32), (.int .u8 x33), (.slice p34 n35 n36), (.bool b21), (.bool b39), (.int .u8 x40), (.slice p41 n42 n43), (.int .u8 x27), (.int .u8 x28), (.int .i64 x29)] 51 (0, 0))) →
 (Le h12 h45) ∧ RunL P (X.sem (.bi .append #[26, 26] 26 [(.slice p8 n9 n10), (.slice (some ((blk n44).add 0)) 1 1)])) h45 (fun v46 h47 =>
 ∃ p48 : Option Addr, ∃ n49 : Nat, ∃ n50 : Nat, v46 = (.slice p48 n49 n50) ∧ I13 [(.agg #[(.slice p48 n49 n50), (.int .u64 x11)])] h47)))) ∧
 ((decide (x7 < 40)) = false → I13 [(.agg #[(.slice p8 n9 n10), (.int .u64 x11)])] h12))) ∧
 (∀ p51 : Option Addr, ∀ n52 : Nat, ∀ n53 : Nat, ∀ x54 : Int, ∀ h55 : H, (I13 [(.agg #[(.slice p51 n52 n53), (.int .u64 x54)])] h55) →
 (∃ j6 : Nat, j6 < k5 ∧ L4 j6 [(.int .i64 (IntKind.wrap .i64 (x7 + 1))), (.agg #[(.slice p51 n52 n53), (.int .u64 x54)])] h55)))) ∧
 ((decide (x7 < ((n1 : Nat) : Int))) = false → K (.agg #[(.slice p8 n9 n10), (.int .u64 x11)]) h12)))

theorem e_law11_Raw_Pattern (p0 : Option Addr) (n1 n2 : Nat) (x3 : Int) (h : H) (K : Value → H → Prop) : liftFn P (semAlg P K) 5 [(.agg [(.slice p0 n1 n2), (.int .u64 x3)])] h = f_law11_Raw_Pattern p0 n1 n2 x3 h K := by kernel_rfl

theorem s_law11_Raw_Pattern {p0 : Option Addr} {n1 n2 : Nat} {x3 : Int} {h : H} {K : Value → H → Prop} (hf : f_law11_Raw_Pattern p0 n1 n2 x3 h K) : Spec P 5 #[(.agg #[(.slice p0 n1 n2), (.int .u64 x3)])] h K :=
  lift_sound mixed (args := [(.agg [(.slice p0 n1 n2), (.int .u64 x3)])]) (by rw [e_law11_Raw_Pattern]; exact hf)

/-- equerry/value.held -/
def f_value_held (x0 : Int) (x1 : Int) (n2 : Nat) (s3 : ByteArray) (h : H) (K : Value → H → Prop) : Prop :=
 (((decide (x0 = 1)) = true → K (.agg #[(.int .u8 x0), (.int .i64 x1), (.float .f64 0), (.string ⟨#[]⟩)]) h) ∧
 ((decide (x0 = 1)) = false → (((decide (x0 = 2)) = true → K (.agg #[(.int .u8 x0), (.int .i64 0), (.float .f64 n2), (.string ⟨#[]⟩)]) h) ∧
 ((decide (x0 = 2)) = false → (((decide (x0 = 3)) = true → K (.agg #[(.int .u8 x0), (.int .i64 0), (.float .f64 0), (.string s3)]) h) ∧
 ((decide (x0 = 3)) = false → K (.agg #[(.int .u8 x0), (.int .i64 0), (.float .f64 0), (.string ⟨#[]⟩)]) h))))))

theorem e_value_held (x0 : Int) (x1 : Int) (n2 : Nat) (s3 : ByteArray) (h : H) (K : Value → H → Prop) : liftFn P (semAlg P K) 91 [(.agg [(.int .u8 x0), (.int .i64 x1), (.flt .f64 n2), (.str s3)])] h = f_value_held x0 x1 n2 s3 h K := by kernel_rfl

theorem s_value_held {x0 : Int} {x1 : Int} {n2 : Nat} {s3 : ByteArray} {h : H} {K : Value → H → Prop} (hf : f_value_held x0 x1 n2 s3 h K) : Spec P 91 #[(.agg #[(.int .u8 x0), (.int .i64 x1), (.float .f64 n2), (.string s3)])] h K :=
  lift_sound mixed (args := [(.agg [(.int .u8 x0), (.int .i64 x1), (.flt .f64 n2), (.str s3)])]) (by rw [e_value_held]; exact hf)

/-- equerry/value.May -/
def f_value_May (x0 : Int) (x1 : Int) (n2 : Nat) (s3 : ByteArray) (h : H) (K : Value → H → Prop) : Prop :=
 Spec P 91 #[(.agg #[(.int .u8 x0), (.int .i64 x1), (.float .f64 n2), (.string s3)])] h (fun v4 h5 =>
 ∃ x6 : Int, ∃ x7 : Int, ∃ n8 : Nat, ∃ s9 : ByteArray, v4 = (.agg #[(.int .u8 x6), (.int .i64 x7), (.float .f64 n8), (.string s9)]) ∧ ∃ I10 : List Value → H → Prop, (((((decide (x0 ≤ 3)) = true → (((decide ((((ByteArray.size s3) : Nat) : Int) ≤ 255)) = true → (((decide (x7 = x1)) = true → (((scmpF .eql s9 s3) = true → RunL P (X.sem (.ext 89 [(.float .f64 n8)])) h5 (fun v11 h12 =>
 ∃ x13 : Int, v11 = (.int .u64 x13) ∧ (Le h5 h12) ∧ RunL P (X.sem (.ext 89 [(.float .f64 n2)])) h12 (fun v14 h15 =>
 ∃ x16 : Int, v14 = (.int .u64 x16) ∧ I10 [(.bool (decide ((((ByteArray.size s3) : Nat) : Int) ≤ 255))), (.bool (decide (x7 = x1))), (.bool (scmpF .eql s9 s3)), (.bool (decide (x13 = x16))), (.bool (decide (x13 = x16)))] h15))) ∧
 ((scmpF .eql s9 s3) = false → I10 [(.bool (decide ((((ByteArray.size s3) : Nat) : Int) ≤ 255))), (.bool (decide (x7 = x1))), (.bool (scmpF .eql s9 s3)), (.bool false), (.bool false)] h5))) ∧
 ((decide (x7 = x1)) = false → I10 [(.bool (decide ((((ByteArray.size s3) : Nat) : Int) ≤ 255))), (.bool (decide (x7 = x1))), (.bool false), (.bool false), (.bool false)] h5))) ∧
 ((decide ((((ByteArray.size s3) : Nat) : Int) ≤ 255)) = false → I10 [(.bool (decide ((((ByteArray.size s3) : Nat) : Int) ≤ 255))), (.bool false), (.bool false), (.bool false), (.bool false)] h5))) ∧
 ((decide (x0 ≤ 3)) = false → I10 [(.bool false), (.bool false), (.bool false), (.bool false), (.bool false)] h5))) ∧
 (∀ b17 : Bool, ∀ b18 : Bool, ∀ b19 : Bool, ∀ b20 : Bool, ∀ b21 : Bool, ∀ h22 : H, (I10 [(.bool b17), (.bool b18), (.bool b19), (.bool b20), (.bool b21)] h22) →
 K (.bool b21) h22)))

theorem e_value_May (x0 : Int) (x1 : Int) (n2 : Nat) (s3 : ByteArray) (h : H) (K : Value → H → Prop) : liftFn P (semAlg P K) 78 [(.agg [(.int .u8 x0), (.int .i64 x1), (.flt .f64 n2), (.str s3)])] h = f_value_May x0 x1 n2 s3 h K := by kernel_rfl

theorem s_value_May {x0 : Int} {x1 : Int} {n2 : Nat} {s3 : ByteArray} {h : H} {K : Value → H → Prop} (hf : f_value_May x0 x1 n2 s3 h K) : Spec P 78 #[(.agg #[(.int .u8 x0), (.int .i64 x1), (.float .f64 n2), (.string s3)])] h K :=
  lift_sound mixed (args := [(.agg [(.int .u8 x0), (.int .i64 x1), (.flt .f64 n2), (.str s3)])]) (by rw [e_value_May]; exact hf)

/-- equerry/pred.right -/
def f_pred_right (x0 : Int) (x1 : Int) (x2 : Int) (x3 : Int) (n4 : Nat) (s5 : ByteArray) (h : H) (K : Value → H → Prop) : Prop :=
 Spec P 78 #[(.agg #[(.int .u8 x2), (.int .i64 x3), (.float .f64 n4), (.string s5)])] h (fun v6 h7 =>
 ∃ b8 : Bool, v6 = (.bool b8) ∧ (((!b8) = true → K (.bool false) h7) ∧
 ((!b8) = false → (((decide (x1 = 7)) = true → K (.bool (decide (x2 = 0))) h7) ∧
 ((decide (x1 = 7)) = false → (((decide (x1 = 8)) = true → K (.bool (decide (x2 = 3))) h7) ∧
 ((decide (x1 = 8)) = false → ∃ I9 : List Value → H → Prop, (((((decide (x1 ≥ 1)) = true → (((decide (x1 ≤ 6)) = true → I9 [(.bool (decide (x1 ≤ 6))), (.bool (!decide (x2 = 0))), (.bool true)] h7) ∧
 ((decide (x1 ≤ 6)) = false → I9 [(.bool (decide (x1 ≤ 6))), (.bool false), (.bool true)] h7))) ∧
 ((decide (x1 ≥ 1)) = false → I9 [(.bool false), (.bool false), (.bool false)] h7))) ∧
 (∀ b10 : Bool, ∀ b11 : Bool, ∀ b12 : Bool, ∀ h13 : H, (I9 [(.bool b10), (.bool b11), (.bool b12)] h13) →
 K (.bool b11) h13)))))))))

theorem e_pred_right (x0 : Int) (x1 : Int) (x2 : Int) (x3 : Int) (n4 : Nat) (s5 : ByteArray) (h : H) (K : Value → H → Prop) : liftFn P (semAlg P K) 57 [(.agg [(.int .u8 x0), (.int .u8 x1), (.int .u8 x2), (.int .i64 x3), (.flt .f64 n4), (.str s5)])] h = f_pred_right x0 x1 x2 x3 n4 s5 h K := by kernel_rfl

theorem s_pred_right {x0 : Int} {x1 : Int} {x2 : Int} {x3 : Int} {n4 : Nat} {s5 : ByteArray} {h : H} {K : Value → H → Prop} (hf : f_pred_right x0 x1 x2 x3 n4 s5 h K) : Spec P 57 #[(.agg #[(.int .u8 x0), (.int .u8 x1), (.int .u8 x2), (.int .i64 x3), (.float .f64 n4), (.string s5)])] h K :=
  lift_sound mixed (args := [(.agg [(.int .u8 x0), (.int .u8 x1), (.int .u8 x2), (.int .i64 x3), (.flt .f64 n4), (.str s5)])]) (by rw [e_pred_right]; exact hf)

/-- equerry/pred.May$1 -/
def f_pred_May_1 (x0 : Int) (x1 : Int) (x2 : Int) (x3 : Int) (n4 : Nat) (s5 : ByteArray) (h : H) (K : Value → H → Prop) : Prop :=
 Spec P 57 #[(.agg #[(.int .u8 x0), (.int .u8 x1), (.int .u8 x2), (.int .i64 x3), (.float .f64 n4), (.string s5)])] h (fun v6 h7 =>
 ∃ b8 : Bool, v6 = (.bool b8) ∧ K (.bool (!b8)) h7)

theorem e_pred_May_1 (x0 : Int) (x1 : Int) (x2 : Int) (x3 : Int) (n4 : Nat) (s5 : ByteArray) (h : H) (K : Value → H → Prop) : liftFn P (semAlg P K) 56 [(.agg [(.int .u8 x0), (.int .u8 x1), (.int .u8 x2), (.int .i64 x3), (.flt .f64 n4), (.str s5)])] h = f_pred_May_1 x0 x1 x2 x3 n4 s5 h K := by kernel_rfl

theorem s_pred_May_1 {x0 : Int} {x1 : Int} {x2 : Int} {x3 : Int} {n4 : Nat} {s5 : ByteArray} {h : H} {K : Value → H → Prop} (hf : f_pred_May_1 x0 x1 x2 x3 n4 s5 h K) : Spec P 56 #[(.agg #[(.int .u8 x0), (.int .u8 x1), (.int .u8 x2), (.int .i64 x3), (.float .f64 n4), (.string s5)])] h K :=
  lift_sound mixed (args := [(.agg [(.int .u8 x0), (.int .u8 x1), (.int .u8 x2), (.int .i64 x3), (.flt .f64 n4), (.str s5)])]) (by rw [e_pred_May_1]; exact hf)

/-- slices.IndexFunc[[]equerry/api.Test,equerry/api.Test] -/
def f_slices_IndexFunc_api_Test (p0 : Option Addr) (n1 n2 : Nat) (v3 : Value) (h : H) (K : Value → H → Prop) : Prop :=
 ∃ L4 : Nat → List Value → H → Prop, ((∃ k5 : Nat, L4 k5 [(.int .i64 0), (.int .i64 0)] h) ∧ ∀ k5 : Nat,
 ∀ x7 : Int, ∀ x8 : Int, ∀ h9 : H, (L4 k5 [(.int .i64 x7), (.int .i64 x8)] h9) →
 (((decide (x7 < ((n1 : Nat) : Int))) = true → ∃ a10 : Addr, p0 = some a10 ∧ ((0 : Int) ≤ x7 ∧ (x7 : Int) < ((n1 : Nat) : Int)) ∧ ∃ x11 : Int, cell h9 ((aidx a10 0 x7 6).add 0) = some (.int .u8 x11) ∧ ∃ x12 : Int, cell h9 ((aidx a10 0 x7 6).add 1) = some (.int .u8 x12) ∧ ∃ x13 : Int, cell h9 ((aidx a10 0 x7 6).add 2) = some (.int .u8 x13) ∧ ∃ x14 : Int, cell h9 ((aidx a10 0 x7 6).add 3) = some (.int .i64 x14) ∧ ∃ n15 : Nat, cell h9 ((aidx a10 0 x7 6).add 4) = some (.float .f64 n15) ∧ ∃ s16 : ByteArray, cell h9 ((aidx a10 0 x7 6).add 5) = some (.string s16) ∧ CallV P v3 #[(.agg #[(.int .u8 x11), (.int .u8 x12), (.int .u8 x13), (.int .i64 x14), (.float .f64 n15), (.string s16)])] h9 (fun v17 h18 =>
 ∃ b19 : Bool, v17 = (.bool b19) ∧ ((b19 = true → K (.int .i64 x7) h18) ∧
 (b19 = false → (∃ j6 : Nat, j6 < k5 ∧ L4 j6 [(.int .i64 (IntKind.wrap .i64 (x7 + 1))), (.int .i64 x8)] h18))))) ∧
 ((decide (x7 < ((n1 : Nat) : Int))) = false → K (.int .i64 (-1)) h9)))

theorem e_slices_IndexFunc_api_Test (p0 : Option Addr) (n1 n2 : Nat) (v3 : Value) (h : H) (K : Value → H → Prop) : liftFn P (semAlg P K) 77 [(.slice p0 n1 n2), (.raw v3)] h = f_slices_IndexFunc_api_Test p0 n1 n2 v3 h K := by kernel_rfl

theorem s_slices_IndexFunc_api_Test {p0 : Option Addr} {n1 n2 : Nat} {v3 : Value} {h : H} {K : Value → H → Prop} (hf : f_slices_IndexFunc_api_Test p0 n1 n2 v3 h K) : Spec P 77 #[(.slice p0 n1 n2), v3] h K :=
  lift_sound mixed (args := [(.slice p0 n1 n2), (.raw v3)]) (by rw [e_slices_IndexFunc_api_Test]; exact hf)

/-- slices.ContainsFunc[[]equerry/api.Test,equerry/api.Test] -/
def f_slices_ContainsFunc_api_Test (p0 : Option Addr) (n1 n2 : Nat) (v3 : Value) (h : H) (K : Value → H → Prop) : Prop :=
 Spec P 77 #[(.slice p0 n1 n2), v3] h (fun v4 h5 =>
 ∃ x6 : Int, v4 = (.int .i64 x6) ∧ K (.bool (decide (x6 ≥ 0))) h5)

theorem e_slices_ContainsFunc_api_Test (p0 : Option Addr) (n1 n2 : Nat) (v3 : Value) (h : H) (K : Value → H → Prop) : liftFn P (semAlg P K) 55 [(.slice p0 n1 n2), (.raw v3)] h = f_slices_ContainsFunc_api_Test p0 n1 n2 v3 h K := by kernel_rfl

theorem s_slices_ContainsFunc_api_Test {p0 : Option Addr} {n1 n2 : Nat} {v3 : Value} {h : H} {K : Value → H → Prop} (hf : f_slices_ContainsFunc_api_Test p0 n1 n2 v3 h K) : Spec P 55 #[(.slice p0 n1 n2), v3] h K :=
  lift_sound mixed (args := [(.slice p0 n1 n2), (.raw v3)]) (by rw [e_slices_ContainsFunc_api_Test]; exact hf)

/-- equerry/pred.May -/
def f_pred_May (b0 : Bool) (x1 : Int) (p2 : Option Addr) (n3 n4 : Nat) (h : H) (K : Value → H → Prop) : Prop :=
 ∃ I5 : List Value → H → Prop, ((((b0 = true → (((!decide (x1 = 0)) = true → I5 [(.bool (!decide (x1 = 0))), (.bool true), (.bool true)] h) ∧
 ((!decide (x1 = 0)) = false → I5 [(.bool (!decide (x1 = 0))), (.bool (decide (((n3 : Nat) : Int) > 4))), (.bool true)] h))) ∧
 (b0 = false → I5 [(.bool false), (.bool (decide (((n3 : Nat) : Int) > 4))), (.bool false)] h))) ∧
 (∀ b6 : Bool, ∀ b7 : Bool, ∀ b8 : Bool, ∀ h9 : H, (I5 [(.bool b6), (.bool b7), (.bool b8)] h9) →
 ((b7 = true → K (.bool false) h9) ∧
 (b7 = false → Spec P 55 #[(.slice p2 n3 n4), (.func (.func 56) #[] #[])] h9 (fun v10 h11 =>
 ∃ b12 : Bool, v10 = (.bool b12) ∧ K (.bool (!b12)) h11)))))

theorem e_pred_May (b0 : Bool) (x1 : Int) (p2 : Option Addr) (n3 n4 : Nat) (h : H) (K : Value → H → Prop) : liftFn P (semAlg P K) 36 [(.agg [(.bool b0), (.int .u8 x1), (.slice p2 n3 n4)])] h = f_pred_May b0 x1 p2 n3 n4 h K := by kernel_rfl

theorem s_pred_May {b0 : Bool} {x1 : Int} {p2 : Option Addr} {n3 n4 : Nat} {h : H} {K : Value → H → Prop} (hf : f_pred_May b0 x1 p2 n3 n4 h K) : Spec P 36 #[(.agg #[(.bool b0), (.int .u8 x1), (.slice p2 n3 n4)])] h K :=
  lift_sound mixed (args := [(.agg [(.bool b0), (.int .u8 x1), (.slice p2 n3 n4)])]) (by rw [e_pred_May]; exact hf)

/-- equerry/tree.May$1 -/
def f_tree_May_1 (x0 : Int) (b1 : Bool) (x2 : Int) (p3 : Option Addr) (n4 n5 : Nat) (b6 : Bool) (b7 : Bool) (x8 : Int) (p9 : Option Addr) (n10 n11 : Nat) (x12 : Int) (x13 : Int) (x14 : Int) (h : H) (K : Value → H → Prop) : Prop :=
 Spec P 36 #[(.agg #[(.bool b1), (.int .u8 x2), (.slice p3 n4 n5)])] h (fun v15 h16 =>
 ∃ b17 : Bool, v15 = (.bool b17) ∧ ∃ I18 : List Value → H → Prop, (((((!b17) = true → I18 [(.bool true), (.bool true)] h16) ∧
 ((!b17) = false → Spec P 36 #[(.agg #[(.bool b7), (.int .u8 x8), (.slice p9 n10 n11)])] h16 (fun v19 h20 =>
 ∃ b21 : Bool, v19 = (.bool b21) ∧ I18 [(.bool (!b21)), (.bool false)] h20)))) ∧
 (∀ b22 : Bool, ∀ b23 : Bool, ∀ h24 : H, (I18 [(.bool b22), (.bool b23)] h24) →
 K (.bool b22) h24)))

theorem e_tree_May_1 (x0 : Int) (b1 : Bool) (x2 : Int) (p3 : Option Addr) (n4 n5 : Nat) (b6 : Bool) (b7 : Bool) (x8 : Int) (p9 : Option Addr) (n10 n11 : Nat) (x12 : Int) (x13 : Int) (x14 : Int) (h : H) (K : Value → H → Prop) : liftFn P (semAlg P K) 35 [(.agg [(.int .u8 x0), (.bool b1), (.int .u8 x2), (.slice p3 n4 n5), (.bool b6), (.bool b7), (.int .u8 x8), (.slice p9 n10 n11), (.int .u8 x12), (.int .u8 x13), (.int .i64 x14)])] h = f_tree_May_1 x0 b1 x2 p3 n4 n5 b6 b7 x8 p9 n10 n11 x12 x13 x14 h K := by kernel_rfl

theorem s_tree_May_1 {x0 : Int} {b1 : Bool} {x2 : Int} {p3 : Option Addr} {n4 n5 : Nat} {b6 : Bool} {b7 : Bool} {x8 : Int} {p9 : Option Addr} {n10 n11 : Nat} {x12 : Int} {x13 : Int} {x14 : Int} {h : H} {K : Value → H → Prop} (hf : f_tree_May_1 x0 b1 x2 p3 n4 n5 b6 b7 x8 p9 n10 n11 x12 x13 x14 h K) : Spec P 35 #[(.agg #[(.int .u8 x0), (.bool b1), (.int .u8 x2), (.slice p3 n4 n5), (.bool b6), (.bool b7), (.int .u8 x8), (.slice p9 n10 n11), (.int .u8 x12), (.int .u8 x13), (.int .i64 x14)])] h K :=
  lift_sound mixed (args := [(.agg [(.int .u8 x0), (.bool b1), (.int .u8 x2), (.slice p3 n4 n5), (.bool b6), (.bool b7), (.int .u8 x8), (.slice p9 n10 n11), (.int .u8 x12), (.int .u8 x13), (.int .i64 x14)])]) (by rw [e_tree_May_1]; exact hf)

/-- slices.IndexFunc[[]equerry/api.Node,equerry/api.Node] -/
def f_slices_IndexFunc_api_Node (p0 : Option Addr) (n1 n2 : Nat) (v3 : Value) (h : H) (K : Value → H → Prop) : Prop :=
 ∃ L4 : Nat → List Value → H → Prop, ((∃ k5 : Nat, L4 k5 [(.int .i64 0), (.int .i64 0)] h) ∧ ∀ k5 : Nat,
 ∀ x7 : Int, ∀ x8 : Int, ∀ h9 : H, (L4 k5 [(.int .i64 x7), (.int .i64 x8)] h9) →
 (((decide (x7 < ((n1 : Nat) : Int))) = true → ∃ a10 : Addr, p0 = some a10 ∧ ((0 : Int) ≤ x7 ∧ (x7 : Int) < ((n1 : Nat) : Int)) ∧ ∃ x11 : Int, cell h9 ((aidx a10 0 x7 11).add 0) = some (.int .u8 x11) ∧ ∃ b12 : Bool, cell h9 ((aidx a10 0 x7 11).add 1) = some (.bool b12) ∧ ∃ x13 : Int, cell h9 ((aidx a10 0 x7 11).add 2) = some (.int .u8 x13) ∧ ∃ p14 : Option Addr, ∃ n15 : Nat, ∃ n16 : Nat, cell h9 ((aidx a10 0 x7 11).add 3) = some (.slice p14 n15 n16) ∧ ∃ b17 : Bool, cell h9 ((aidx a10 0 x7 11).add 4) = some (.bool b17) ∧ ∃ b18 : Bool, cell h9 ((aidx a10 0 x7 11).add 5) = some (.bool b18) ∧ ∃ x19 : Int, cell h9 ((aidx a10 0 x7 11).add 6) = some (.int .u8 x19) ∧ ∃ p20 : Option Addr, ∃ n21 : Nat, ∃ n22 : Nat, cell h9 ((aidx a10 0 x7 11).add 7) = some (.slice p20 n21 n22) ∧ ∃ x23 : Int, cell h9 ((aidx a10 0 x7 11).add 8) = some (.int .u8 x23) ∧ ∃ x24 : Int, cell h9 ((aidx a10 0 x7 11).add 9) = some (.int .u8 x24) ∧ ∃ x25 : Int, cell h9 ((aidx a10 0 x7 11).add 10) = some (.int .i64 x25) ∧ CallV P v3 #[(.agg #[(.int .u8 x11), (.bool b12), (.int .u8 x13), (.slice p14 n15 n16), (.bool b17), (.bool b18), (.int .u8 x19), (.slice p20 n21 n22), (.int .u8 x23), (.int .u8 x24), (.int .i64 x25)])] h9 (fun v26 h27 =>
 ∃ b28 : Bool, v26 = (.bool b28) ∧ ((b28 = true → K (.int .i64 x7) h27) ∧
 (b28 = false → (∃ j6 : Nat, j6 < k5 ∧ L4 j6 [(.int .i64 (IntKind.wrap .i64 (x7 + 1))), (.int .i64 x8)] h27))))) ∧
 ((decide (x7 < ((n1 : Nat) : Int))) = false → K (.int .i64 (-1)) h9)))

theorem e_slices_IndexFunc_api_Node (p0 : Option Addr) (n1 n2 : Nat) (v3 : Value) (h : H) (K : Value → H → Prop) : liftFn P (semAlg P K) 61 [(.slice p0 n1 n2), (.raw v3)] h = f_slices_IndexFunc_api_Node p0 n1 n2 v3 h K := by kernel_rfl

theorem s_slices_IndexFunc_api_Node {p0 : Option Addr} {n1 n2 : Nat} {v3 : Value} {h : H} {K : Value → H → Prop} (hf : f_slices_IndexFunc_api_Node p0 n1 n2 v3 h K) : Spec P 61 #[(.slice p0 n1 n2), v3] h K :=
  lift_sound mixed (args := [(.slice p0 n1 n2), (.raw v3)]) (by rw [e_slices_IndexFunc_api_Node]; exact hf)

/-- slices.ContainsFunc[[]equerry/api.Node,equerry/api.Node] -/
def f_slices_ContainsFunc_api_Node (p0 : Option Addr) (n1 n2 : Nat) (v3 : Value) (h : H) (K : Value → H → Prop) : Prop :=
 Spec P 61 #[(.slice p0 n1 n2), v3] h (fun v4 h5 =>
 ∃ x6 : Int, v4 = (.int .i64 x6) ∧ K (.bool (decide (x6 ≥ 0))) h5)

theorem e_slices_ContainsFunc_api_Node (p0 : Option Addr) (n1 n2 : Nat) (v3 : Value) (h : H) (K : Value → H → Prop) : liftFn P (semAlg P K) 38 [(.slice p0 n1 n2), (.raw v3)] h = f_slices_ContainsFunc_api_Node p0 n1 n2 v3 h K := by kernel_rfl

theorem s_slices_ContainsFunc_api_Node {p0 : Option Addr} {n1 n2 : Nat} {v3 : Value} {h : H} {K : Value → H → Prop} (hf : f_slices_ContainsFunc_api_Node p0 n1 n2 v3 h K) : Spec P 38 #[(.slice p0 n1 n2), v3] h K :=
  lift_sound mixed (args := [(.slice p0 n1 n2), (.raw v3)]) (by rw [e_slices_ContainsFunc_api_Node]; exact hf)

/-- equerry/tree.none -/
def f_tree_none (b0 : Bool) (x1 : Int) (p2 : Option Addr) (n3 n4 : Nat) (h : H) (K : Value → H → Prop) : Prop :=
 ∃ I5 : List Value → H → Prop, (((((!b0) = true → (((decide (x1 = 0)) = true → I5 [(.bool (decide (x1 = 0))), (.bool (decide (((n3 : Nat) : Int) = 0))), (.bool true)] h) ∧
 ((decide (x1 = 0)) = false → I5 [(.bool (decide (x1 = 0))), (.bool false), (.bool true)] h))) ∧
 ((!b0) = false → I5 [(.bool false), (.bool false), (.bool false)] h))) ∧
 (∀ b6 : Bool, ∀ b7 : Bool, ∀ b8 : Bool, ∀ h9 : H, (I5 [(.bool b6), (.bool b7), (.bool b8)] h9) →
 K (.bool b7) h9))

theorem e_tree_none (b0 : Bool) (x1 : Int) (p2 : Option Addr) (n3 n4 : Nat) (h : H) (K : Value → H → Prop) : liftFn P (semAlg P K) 79 [(.agg [(.bool b0), (.int .u8 x1), (.slice p2 n3 n4)])] h = f_tree_none b0 x1 p2 n3 n4 h K := by kernel_rfl

theorem s_tree_none {b0 : Bool} {x1 : Int} {p2 : Option Addr} {n3 n4 : Nat} {h : H} {K : Value → H → Prop} (hf : f_tree_none b0 x1 p2 n3 n4 h K) : Spec P 79 #[(.agg #[(.bool b0), (.int .u8 x1), (.slice p2 n3 n4)])] h K :=
  lift_sound mixed (args := [(.agg [(.bool b0), (.int .u8 x1), (.slice p2 n3 n4)])]) (by rw [e_tree_none]; exact hf)

/-- equerry/tree.plain -/
def f_tree_plain (x0 : Int) (b1 : Bool) (x2 : Int) (p3 : Option Addr) (n4 n5 : Nat) (b6 : Bool) (b7 : Bool) (x8 : Int) (p9 : Option Addr) (n10 n11 : Nat) (x12 : Int) (x13 : Int) (x14 : Int) (x15 : Int) (h : H) (K : Value → H → Prop) : Prop :=
 ∃ I16 : List Value → H → Prop, (((((decide (x12 = 0)) = true → I16 [(.bool (decide (x13 = 0))), (.bool true)] h) ∧
 ((decide (x12 = 0)) = false → I16 [(.bool false), (.bool false)] h))) ∧
 (∀ b17 : Bool, ∀ b18 : Bool, ∀ h19 : H, (I16 [(.bool b17), (.bool b18)] h19) →
 ∃ I20 : List Value → H → Prop, (((((!decide (x0 = 1)) = true → Spec P 79 #[(.agg #[(.bool b1), (.int .u8 x2), (.slice p3 n4 n5)])] h19 (fun v21 h22 =>
 ∃ b23 : Bool, v21 = (.bool b23) ∧ (((!b23) = true → I20 [(.bool (!b23)), (.bool true), (.bool true)] h22) ∧
 ((!b23) = false → (((!b6) = true → Spec P 79 #[(.agg #[(.bool b7), (.int .u8 x8), (.slice p9 n10 n11)])] h22 (fun v24 h25 =>
 ∃ b26 : Bool, v24 = (.bool b26) ∧ I20 [(.bool (!b23)), (.bool (!b26)), (.bool true)] h25)) ∧
 ((!b6) = false → I20 [(.bool (!b23)), (.bool false), (.bool true)] h22)))))) ∧
 ((!decide (x0 = 1)) = false → (((!b6) = true → Spec P 79 #[(.agg #[(.bool b7), (.int .u8 x8), (.slice p9 n10 n11)])] h19 (fun v27 h28 =>
 ∃ b29 : Bool, v27 = (.bool b29) ∧ I20 [(.bool false), (.bool (!b29)), (.bool false)] h28)) ∧
 ((!b6) = false → I20 [(.bool false), (.bool false), (.bool false)] h19))))) ∧
 (∀ b30 : Bool, ∀ b31 : Bool, ∀ b32 : Bool, ∀ h33 : H, (I20 [(.bool b30), (.bool b31), (.bool b32)] h33) →
 ((b31 = true → K (.bool false) h33) ∧
 (b31 = false → (((decide (x0 = 1)) = true → ∃ I34 : List Value → H → Prop, ((((b17 = true → (((!b6) = true → I34 [(.bool (!b6)), (.bool (decide (x14 = 0))), (.bool true)] h33) ∧
 ((!b6) = false → I34 [(.bool (!b6)), (.bool false), (.bool true)] h33))) ∧
 (b17 = false → I34 [(.bool false), (.bool false), (.bool false)] h33))) ∧
 (∀ b35 : Bool, ∀ b36 : Bool, ∀ b37 : Bool, ∀ h38 : H, (I34 [(.bool b35), (.bool b36), (.bool b37)] h38) →
 K (.bool b36) h38))) ∧
 ((decide (x0 = 1)) = false → (((decide (x0 = 2)) = true → ∃ I39 : List Value → H → Prop, ((((b17 = true → I39 [(.bool (decide (x15 ≥ 2))), (.bool true)] h33) ∧
 (b17 = false → I39 [(.bool false), (.bool false)] h33))) ∧
 (∀ b40 : Bool, ∀ b41 : Bool, ∀ h42 : H, (I39 [(.bool b40), (.bool b41)] h42) →
 K (.bool b40) h42))) ∧
 ((decide (x0 = 2)) = false → (((decide (x0 = 3)) = true → ∃ I43 : List Value → H → Prop, ((((b17 = true → (((decide (x15 ≥ 2)) = true → I43 [(.bool (decide (x15 ≥ 2))), (.bool (!b6)), (.bool true)] h33) ∧
 ((decide (x15 ≥ 2)) = false → I43 [(.bool (decide (x15 ≥ 2))), (.bool false), (.bool true)] h33))) ∧
 (b17 = false → I43 [(.bool false), (.bool false), (.bool false)] h33))) ∧
 (∀ b44 : Bool, ∀ b45 : Bool, ∀ b46 : Bool, ∀ h47 : H, (I43 [(.bool b44), (.bool b45), (.bool b46)] h47) →
 K (.bool b45) h47))) ∧
 ((decide (x0 = 3)) = false → (((decide (x0 = 4)) = true → ∃ I48 : List Value → H → Prop, (((((decide (x15 = 1)) = true → (((decide (x12 ≥ 1)) = true → (((decide (x12 ≤ x13)) = true → I48 [(.bool (decide (x12 ≥ 1))), (.bool (decide (x12 ≤ x13))), (.bool (decide (x13 ≤ 8))), (.bool true)] h33) ∧
 ((decide (x12 ≤ x13)) = false → I48 [(.bool (decide (x12 ≥ 1))), (.bool (decide (x12 ≤ x13))), (.bool false), (.bool true)] h33))) ∧
 ((decide (x12 ≥ 1)) = false → I48 [(.bool (decide (x12 ≥ 1))), (.bool false), (.bool false), (.bool true)] h33))) ∧
 ((decide (x15 = 1)) = false → I48 [(.bool false), (.bool false), (.bool false), (.bool false)] h33))) ∧
 (∀ b49 : Bool, ∀ b50 : Bool, ∀ b51 : Bool, ∀ b52 : Bool, ∀ h53 : H, (I48 [(.bool b49), (.bool b50), (.bool b51), (.bool b52)] h53) →
 K (.bool b51) h53))) ∧
 ((decide (x0 = 4)) = false → K (.bool false) h33))))))))))))))

theorem e_tree_plain (x0 : Int) (b1 : Bool) (x2 : Int) (p3 : Option Addr) (n4 n5 : Nat) (b6 : Bool) (b7 : Bool) (x8 : Int) (p9 : Option Addr) (n10 n11 : Nat) (x12 : Int) (x13 : Int) (x14 : Int) (x15 : Int) (h : H) (K : Value → H → Prop) : liftFn P (semAlg P K) 58 [(.agg [(.int .u8 x0), (.bool b1), (.int .u8 x2), (.slice p3 n4 n5), (.bool b6), (.bool b7), (.int .u8 x8), (.slice p9 n10 n11), (.int .u8 x12), (.int .u8 x13), (.int .i64 x14)]), (.int .i64 x15)] h = f_tree_plain x0 b1 x2 p3 n4 n5 b6 b7 x8 p9 n10 n11 x12 x13 x14 x15 h K := by kernel_rfl

theorem s_tree_plain {x0 : Int} {b1 : Bool} {x2 : Int} {p3 : Option Addr} {n4 n5 : Nat} {b6 : Bool} {b7 : Bool} {x8 : Int} {p9 : Option Addr} {n10 n11 : Nat} {x12 : Int} {x13 : Int} {x14 : Int} {x15 : Int} {h : H} {K : Value → H → Prop} (hf : f_tree_plain x0 b1 x2 p3 n4 n5 b6 b7 x8 p9 n10 n11 x12 x13 x14 x15 h K) : Spec P 58 #[(.agg #[(.int .u8 x0), (.bool b1), (.int .u8 x2), (.slice p3 n4 n5), (.bool b6), (.bool b7), (.int .u8 x8), (.slice p9 n10 n11), (.int .u8 x12), (.int .u8 x13), (.int .i64 x14)]), (.int .i64 x15)] h K :=
  lift_sound mixed (args := [(.agg [(.int .u8 x0), (.bool b1), (.int .u8 x2), (.slice p3 n4 n5), (.bool b6), (.bool b7), (.int .u8 x8), (.slice p9 n10 n11), (.int .u8 x12), (.int .u8 x13), (.int .i64 x14)]), (.int .i64 x15)]) (by rw [e_tree_plain]; exact hf)

/-- equerry/tree.Parts -/
def f_tree_Parts (p0 : Option Addr) (n1 n2 : Nat) (h : H) (K : Value → H → Prop) : Prop :=
 ∃ I3 : List Value → H → Prop, (((((decide (((n1 : Nat) : Int) = 0)) = true → I3 [(.bool true), (.bool true)] h) ∧
 ((decide (((n1 : Nat) : Int) = 0)) = false → ∃ a4 : Addr, p0 = some a4 ∧ ((0 : Int) ≤ 0 ∧ (0 : Int) < ((n1 : Nat) : Int)) ∧ ∃ x5 : Int, cell h ((aidx a4 0 0 11).add 10) = some (.int .i64 x5) ∧ I3 [(.bool (!decide (x5 = (IntKind.wrap .i64 (((n1 : Nat) : Int) - 1))))), (.bool false)] h))) ∧
 (∀ b6 : Bool, ∀ b7 : Bool, ∀ h8 : H, (I3 [(.bool b6), (.bool b7)] h8) →
 ((b6 = true → K (.slice none 0 0) h8) ∧
 (b6 = false → ((0 : Int) ≤ 1 ∧ (1 : Int) ≤ ((n1 : Nat) : Int)) ∧ ∃ L9 : Nat → List Value → H → Prop, ((∃ k10 : Nat, L9 k10 [(.slice (sliceP p0 (Int.toNat 1) n2 11) (n1 - (Int.toNat 1)) (n2 - (Int.toNat 1))), (.slice none 0 0), (.slice none 0 0)] h8) ∧ ∀ k10 : Nat,
 ∀ p12 : Option Addr, ∀ n13 : Nat, ∀ n14 : Nat, ∀ p15 : Option Addr, ∀ n16 : Nat, ∀ n17 : Nat, ∀ p18 : Option Addr, ∀ n19 : Nat, ∀ n20 : Nat, ∀ h21 : H, (L9 k10 [(.slice p12 n13 n14), (.slice p15 n16 n17), (.slice p18 n19 n20)] h21) →
 (((decide (((n13 : Nat) : Int) > 0)) = true → ∃ a22 : Addr, p12 = some a22 ∧ ((0 : Int) ≤ 0 ∧ (0 : Int) < ((n13 : Nat) : Int)) ∧ ∃ x23 : Int, cell h21 ((aidx a22 0 0 11).add 10) = some (.int .i64 x23) ∧ ∃ I24 : List Value → H → Prop, (((((decide (x23 < 0)) = true → I24 [(.bool true), (.bool true)] h21) ∧
 ((decide (x23 < 0)) = false → I24 [(.bool (decide (x23 ≥ ((n13 : Nat) : Int)))), (.bool false)] h21))) ∧
 (∀ b25 : Bool, ∀ b26 : Bool, ∀ h27 : H, (I24 [(.bool b25), (.bool b26)] h27) →
 ((b25 = true → K (.slice none 0 0) h27) ∧
 (b25 = false → ((0 : Int) ≤ (IntKind.wrap .i64 (x23 + 1)) ∧ ((IntKind.wrap .i64 (x23 + 1)) : Int) ≤ ((n14 : Nat) : Int)) ∧ ((0 : Int) ≤ (IntKind.wrap .i64 (x23 + 1)) ∧ ((IntKind.wrap .i64 (x23 + 1)) : Int) ≤ (((Int.toNat (IntKind.wrap .i64 (x23 + 1))) : Nat) : Int)) ∧ ∀ n28 : Nat, h27 n28 = none → ∀ h29 : H, h29 = (hnew h27 n28 (.cells #[(.slice (sliceP p12 0 (Int.toNat (IntKind.wrap .i64 (x23 + 1))) 11) ((Int.toNat (IntKind.wrap .i64 (x23 + 1))) - 0) ((Int.toNat (IntKind.wrap .i64 (x23 + 1))) - 0))] 26 (0, 0))) →
 RunL P (X.sem (.bi .append #[108, 108] 108 [(.slice p15 n16 n17), (.slice (some ((blk n28).add 0)) 1 1)])) h29 (fun v30 h31 =>
 ∃ p32 : Option Addr, ∃ n33 : Nat, ∃ n34 : Nat, v30 = (.slice p32 n33 n34) ∧ ((0 : Int) ≤ (IntKind.wrap .i64 (x23 + 1)) ∧ ((IntKind.wrap .i64 (x23 + 1)) : Int) ≤ ((n13 : Nat) : Int)) ∧ (∃ j11 : Nat, j11 < k10 ∧ L9 j11 [(.slice (sliceP p12 (Int.toNat (IntKind.wrap .i64 (x23 + 1))) n14 11) (n13 - (Int.toNat (IntKind.wrap .i64 (x23 + 1)))) (n14 - (Int.toNat (IntKind.wrap .i64 (x23 + 1))))), (.slice p32 n33 n34), (.slice p18 n19 n20)] h31))))))) ∧
 ((decide (((n13 : Nat) : Int) > 0)) = false → K (.slice p15 n16 n17) h21)))))))

theorem e_tree_Parts (p0 : Option Addr) (n1 n2 : Nat) (h : H) (K : Value → H → Prop) : liftFn P (semAlg P K) 41 [(.slice p0 n1 n2)] h = f_tree_Parts p0 n1 n2 h K := by kernel_rfl

theorem s_tree_Parts {p0 : Option Addr} {n1 n2 : Nat} {h : H} {K : Value → H → Prop} (hf : f_tree_Parts p0 n1 n2 h K) : Spec P 41 #[(.slice p0 n1 n2)] h K :=
  lift_sound mixed (args := [(.slice p0 n1 n2)]) (by rw [e_tree_Parts]; exact hf)

/-- slices.IndexFunc[[][]equerry/api.Node,[]equerry/api.Node] -/
def f_slices_IndexFunc_s_api_Node (p0 : Option Addr) (n1 n2 : Nat) (v3 : Value) (h : H) (K : Value → H → Prop) : Prop :=
 ∃ L4 : Nat → List Value → H → Prop, ((∃ k5 : Nat, L4 k5 [(.int .i64 0), (.int .i64 0)] h) ∧ ∀ k5 : Nat,
 ∀ x7 : Int, ∀ x8 : Int, ∀ h9 : H, (L4 k5 [(.int .i64 x7), (.int .i64 x8)] h9) →
 (((decide (x7 < ((n1 : Nat) : Int))) = true → ∃ a10 : Addr, p0 = some a10 ∧ ((0 : Int) ≤ x7 ∧ (x7 : Int) < ((n1 : Nat) : Int)) ∧ ∃ p11 : Option Addr, ∃ n12 : Nat, ∃ n13 : Nat, cell h9 ((aidx a10 0 x7 1).add 0) = some (.slice p11 n12 n13) ∧ CallV P v3 #[(.slice p11 n12 n13)] h9 (fun v14 h15 =>
 ∃ b16 : Bool, v14 = (.bool b16) ∧ ((b16 = true → K (.int .i64 x7) h15) ∧
 (b16 = false → (∃ j6 : Nat, j6 < k5 ∧ L4 j6 [(.int .i64 (IntKind.wrap .i64 (x7 + 1))), (.int .i64 x8)] h15))))) ∧
 ((decide (x7 < ((n1 : Nat) : Int))) = false → K (.int .i64 (-1)) h9)))

theorem e_slices_IndexFunc_s_api_Node (p0 : Option Addr) (n1 n2 : Nat) (v3 : Value) (h : H) (K : Value → H → Prop) : liftFn P (semAlg P K) 80 [(.slice p0 n1 n2), (.raw v3)] h = f_slices_IndexFunc_s_api_Node p0 n1 n2 v3 h K := by kernel_rfl

theorem s_slices_IndexFunc_s_api_Node {p0 : Option Addr} {n1 n2 : Nat} {v3 : Value} {h : H} {K : Value → H → Prop} (hf : f_slices_IndexFunc_s_api_Node p0 n1 n2 v3 h K) : Spec P 80 #[(.slice p0 n1 n2), v3] h K :=
  lift_sound mixed (args := [(.slice p0 n1 n2), (.raw v3)]) (by rw [e_slices_IndexFunc_s_api_Node]; exact hf)

/-- slices.ContainsFunc[[][]equerry/api.Node,[]equerry/api.Node] -/
def f_slices_ContainsFunc_s_api_Node (p0 : Option Addr) (n1 n2 : Nat) (v3 : Value) (h : H) (K : Value → H → Prop) : Prop :=
 Spec P 80 #[(.slice p0 n1 n2), v3] h (fun v4 h5 =>
 ∃ x6 : Int, v4 = (.int .i64 x6) ∧ K (.bool (decide (x6 ≥ 0))) h5)

theorem e_slices_ContainsFunc_s_api_Node (p0 : Option Addr) (n1 n2 : Nat) (v3 : Value) (h : H) (K : Value → H → Prop) : liftFn P (semAlg P K) 59 [(.slice p0 n1 n2), (.raw v3)] h = f_slices_ContainsFunc_s_api_Node p0 n1 n2 v3 h K := by kernel_rfl

theorem s_slices_ContainsFunc_s_api_Node {p0 : Option Addr} {n1 n2 : Nat} {v3 : Value} {h : H} {K : Value → H → Prop} (hf : f_slices_ContainsFunc_s_api_Node p0 n1 n2 v3 h K) : Spec P 59 #[(.slice p0 n1 n2), v3] h K :=
  lift_sound mixed (args := [(.slice p0 n1 n2), (.raw v3)]) (by rw [e_slices_ContainsFunc_s_api_Node]; exact hf)

/-- equerry/tree.formed$1 -/
def f_tree_formed_1 (p0 : Option Addr) (n1 n2 : Nat) (h : H) (K : Value → H → Prop) : Prop :=
 Spec P 37 #[(.slice p0 n1 n2)] h (fun v3 h4 =>
 ∃ b5 : Bool, v3 = (.bool b5) ∧ K (.bool (!b5)) h4)

theorem e_tree_formed_1 (p0 : Option Addr) (n1 n2 : Nat) (h : H) (K : Value → H → Prop) : liftFn P (semAlg P K) 60 [(.slice p0 n1 n2)] h = f_tree_formed_1 p0 n1 n2 h K := by kernel_rfl

theorem s_tree_formed_1 {p0 : Option Addr} {n1 n2 : Nat} {h : H} {K : Value → H → Prop} (hf : f_tree_formed_1 p0 n1 n2 h K) : Spec P 60 #[(.slice p0 n1 n2)] h K :=
  lift_sound mixed (args := [(.slice p0 n1 n2)]) (by rw [e_tree_formed_1]; exact hf)

/-- equerry/tree.formed -/
def f_tree_formed (p0 : Option Addr) (n1 n2 : Nat) (h : H) (K : Value → H → Prop) : Prop :=
 Spec P 41 #[(.slice p0 n1 n2)] h (fun v3 h4 =>
 ∃ p5 : Option Addr, ∃ n6 : Nat, ∃ n7 : Nat, v3 = (.slice p5 n6 n7) ∧ ∃ I8 : List Value → H → Prop, (((((decide (((n1 : Nat) : Int) = 0)) = true → I8 [(.bool true), (.bool true), (.bool true)] h4) ∧
 ((decide (((n1 : Nat) : Int) = 0)) = false → ∃ a9 : Addr, p0 = some a9 ∧ ((0 : Int) ≤ 0 ∧ (0 : Int) < ((n1 : Nat) : Int)) ∧ ∃ x10 : Int, cell h4 ((aidx a9 0 0 11).add 0) = some (.int .u8 x10) ∧ ∃ b11 : Bool, cell h4 ((aidx a9 0 0 11).add 1) = some (.bool b11) ∧ ∃ x12 : Int, cell h4 ((aidx a9 0 0 11).add 2) = some (.int .u8 x12) ∧ ∃ p13 : Option Addr, ∃ n14 : Nat, ∃ n15 : Nat, cell h4 ((aidx a9 0 0 11).add 3) = some (.slice p13 n14 n15) ∧ ∃ b16 : Bool, cell h4 ((aidx a9 0 0 11).add 4) = some (.bool b16) ∧ ∃ b17 : Bool, cell h4 ((aidx a9 0 0 11).add 5) = some (.bool b17) ∧ ∃ x18 : Int, cell h4 ((aidx a9 0 0 11).add 6) = some (.int .u8 x18) ∧ ∃ p19 : Option Addr, ∃ n20 : Nat, ∃ n21 : Nat, cell h4 ((aidx a9 0 0 11).add 7) = some (.slice p19 n20 n21) ∧ ∃ x22 : Int, cell h4 ((aidx a9 0 0 11).add 8) = some (.int .u8 x22) ∧ ∃ x23 : Int, cell h4 ((aidx a9 0 0 11).add 9) = some (.int .u8 x23) ∧ ∃ x24 : Int, cell h4 ((aidx a9 0 0 11).add 10) = some (.int .i64 x24) ∧ Spec P 58 #[(.agg #[(.int .u8 x10), (.bool b11), (.int .u8 x12), (.slice p13 n14 n15), (.bool b16), (.bool b17), (.int .u8 x18), (.slice p19 n20 n21), (.int .u8 x22), (.int .u8 x23), (.int .i64 x24)]), (.int .i64 ((n6 : Nat) : Int))] h4 (fun v25 h26 =>
 ∃ b27 : Bool, v25 = (.bool b27) ∧ (((!b27) = true → I8 [(.bool (!b27)), (.bool true), (.bool false)] h26) ∧
 ((!b27) = false → ∃ a28 : Addr, p0 = some a28 ∧ ((0 : Int) ≤ 0 ∧ (0 : Int) < ((n1 : Nat) : Int)) ∧ ∃ x29 : Int, cell h26 ((aidx a28 0 0 11).add 10) = some (.int .i64 x29) ∧ I8 [(.bool (!b27)), (.bool (!decide (x29 = (IntKind.wrap .i64 (((n1 : Nat) : Int) - 1))))), (.bool false)] h26)))))) ∧
 (∀ b30 : Bool, ∀ b31 : Bool, ∀ b32 : Bool, ∀ h33 : H, (I8 [(.bool b30), (.bool b31), (.bool b32)] h33) →
 ((b31 = true → K (.bool false) h33) ∧
 (b31 = false → Spec P 59 #[(.slice p5 n6 n7), (.func (.func 60) #[] #[])] h33 (fun v34 h35 =>
 ∃ b36 : Bool, v34 = (.bool b36) ∧ K (.bool (!b36)) h35))))))

theorem e_tree_formed (p0 : Option Addr) (n1 n2 : Nat) (h : H) (K : Value → H → Prop) : liftFn P (semAlg P K) 37 [(.slice p0 n1 n2)] h = f_tree_formed p0 n1 n2 h K := by kernel_rfl

theorem s_tree_formed {p0 : Option Addr} {n1 n2 : Nat} {h : H} {K : Value → H → Prop} (hf : f_tree_formed p0 n1 n2 h K) : Spec P 37 #[(.slice p0 n1 n2)] h K :=
  lift_sound mixed (args := [(.slice p0 n1 n2)]) (by rw [e_tree_formed]; exact hf)

/-- equerry/tree.deep -/
def f_tree_deep (p0 : Option Addr) (n1 n2 : Nat) (h : H) (K : Value → H → Prop) : Prop :=
 Spec P 41 #[(.slice p0 n1 n2)] h (fun v3 h4 =>
 ∃ p5 : Option Addr, ∃ n6 : Nat, ∃ n7 : Nat, v3 = (.slice p5 n6 n7) ∧ ∃ L8 : Nat → List Value → H → Prop, ((∃ k9 : Nat, L8 k9 [(.int .i64 0), (.int .i64 0)] h4) ∧ ∀ k9 : Nat,
 ∀ x11 : Int, ∀ x12 : Int, ∀ h13 : H, (L8 k9 [(.int .i64 x11), (.int .i64 x12)] h13) →
 (((decide (x11 < ((n6 : Nat) : Int))) = true → ∃ a14 : Addr, p5 = some a14 ∧ ((0 : Int) ≤ x11 ∧ (x11 : Int) < ((n6 : Nat) : Int)) ∧ ∃ p15 : Option Addr, ∃ n16 : Nat, ∃ n17 : Nat, cell h13 ((aidx a14 0 x11 1).add 0) = some (.slice p15 n16 n17) ∧ Spec P 39 #[(.slice p15 n16 n17)] h13 (fun v18 h19 =>
 ∃ x20 : Int, v18 = (.int .i64 x20) ∧ (∃ j10 : Nat, j10 < k9 ∧ L8 j10 [(.int .i64 (IntKind.wrap .i64 (x11 + 1))), (.int .i64 (max x12 (IntKind.wrap .i64 (x20 + 1))))] h19))) ∧
 ((decide (x11 < ((n6 : Nat) : Int))) = false → K (.int .i64 x12) h13))))

theorem e_tree_deep (p0 : Option Addr) (n1 n2 : Nat) (h : H) (K : Value → H → Prop) : liftFn P (semAlg P K) 39 [(.slice p0 n1 n2)] h = f_tree_deep p0 n1 n2 h K := by kernel_rfl

theorem s_tree_deep {p0 : Option Addr} {n1 n2 : Nat} {h : H} {K : Value → H → Prop} (hf : f_tree_deep p0 n1 n2 h K) : Spec P 39 #[(.slice p0 n1 n2)] h K :=
  lift_sound mixed (args := [(.slice p0 n1 n2)]) (by rw [e_tree_deep]; exact hf)

/-- equerry/tree.places -/
def f_tree_places (p0 : Option Addr) (n1 n2 : Nat) (h : H) (K : Value → H → Prop) : Prop :=
 ∃ a3 : Addr, p0 = some a3 ∧ ((0 : Int) ≤ 0 ∧ (0 : Int) < ((n1 : Nat) : Int)) ∧ ∃ x4 : Int, cell h ((aidx a3 0 0 11).add 0) = some (.int .u8 x4) ∧ (((decide (x4 = 1)) = true → K (.int .i64 1) h) ∧
 ((decide (x4 = 1)) = false → Spec P 41 #[(.slice p0 n1 n2)] h (fun v5 h6 =>
 ∃ p7 : Option Addr, ∃ n8 : Nat, ∃ n9 : Nat, v5 = (.slice p7 n8 n9) ∧ ∃ L10 : Nat → List Value → H → Prop, ((∃ k11 : Nat, L10 k11 [(.int .i64 0), (.int .i64 0)] h6) ∧ ∀ k11 : Nat,
 ∀ x13 : Int, ∀ x14 : Int, ∀ h15 : H, (L10 k11 [(.int .i64 x13), (.int .i64 x14)] h15) →
 (((decide (x13 < ((n8 : Nat) : Int))) = true → ∃ a16 : Addr, p7 = some a16 ∧ ((0 : Int) ≤ x13 ∧ (x13 : Int) < ((n8 : Nat) : Int)) ∧ ∃ p17 : Option Addr, ∃ n18 : Nat, ∃ n19 : Nat, cell h15 ((aidx a16 0 x13 1).add 0) = some (.slice p17 n18 n19) ∧ Spec P 40 #[(.slice p17 n18 n19)] h15 (fun v20 h21 =>
 ∃ x22 : Int, v20 = (.int .i64 x22) ∧ (∃ j12 : Nat, j12 < k11 ∧ L10 j12 [(.int .i64 (IntKind.wrap .i64 (x13 + 1))), (.int .i64 (IntKind.wrap .i64 (x14 + x22)))] h21))) ∧
 ((decide (x13 < ((n8 : Nat) : Int))) = false → ∃ I23 : List Value → H → Prop, ((∃ a24 : Addr, p0 = some a24 ∧ ((0 : Int) ≤ 0 ∧ (0 : Int) < ((n1 : Nat) : Int)) ∧ ∃ x25 : Int, cell h15 ((aidx a24 0 0 11).add 0) = some (.int .u8 x25) ∧ (((decide (x25 = 4)) = true → ∃ a26 : Addr, p0 = some a26 ∧ ((0 : Int) ≤ 0 ∧ (0 : Int) < ((n1 : Nat) : Int)) ∧ ∃ x27 : Int, cell h15 ((aidx a26 0 0 11).add 9) = some (.int .u8 x27) ∧ I23 [(.int .i64 (IntKind.wrap .i64 (x14 * (IntKind.wrap .i64 x27))))] h15) ∧
 ((decide (x25 = 4)) = false → I23 [(.int .i64 x14)] h15))) ∧
 (∀ x28 : Int, ∀ h29 : H, (I23 [(.int .i64 x28)] h29) →
 K (.int .i64 x28) h29))))))))

theorem e_tree_places (p0 : Option Addr) (n1 n2 : Nat) (h : H) (K : Value → H → Prop) : liftFn P (semAlg P K) 40 [(.slice p0 n1 n2)] h = f_tree_places p0 n1 n2 h K := by kernel_rfl

theorem s_tree_places {p0 : Option Addr} {n1 n2 : Nat} {h : H} {K : Value → H → Prop} (hf : f_tree_places p0 n1 n2 h K) : Spec P 40 #[(.slice p0 n1 n2)] h K :=
  lift_sound mixed (args := [(.slice p0 n1 n2)]) (by rw [e_tree_places]; exact hf)

/-- equerry/tree.May -/
def f_tree_May (p0 : Option Addr) (n1 n2 : Nat) (x3 : Int) (h : H) (K : Value → H → Prop) : Prop :=
 (((decide (((n1 : Nat) : Int) > 32)) = true → K (.int .i64 12) h) ∧
 ((decide (((n1 : Nat) : Int) > 32)) = false → Spec P 37 #[(.slice p0 n1 n2)] h (fun v4 h5 =>
 ∃ b6 : Bool, v4 = (.bool b6) ∧ (((!b6) = true → K (.int .i64 2) h5) ∧
 ((!b6) = false → Spec P 38 #[(.slice p0 n1 n2), (.func (.func 35) #[] #[])] h5 (fun v7 h8 =>
 ∃ b9 : Bool, v7 = (.bool b9) ∧ ((b9 = true → K (.int .i64 1) h8) ∧
 (b9 = false → Spec P 39 #[(.slice p0 n1 n2)] h8 (fun v10 h11 =>
 ∃ x12 : Int, v10 = (.int .i64 x12) ∧ (((decide (x12 > 8)) = true → K (.int .i64 16) h11) ∧
 ((decide (x12 > 8)) = false → ∃ I13 : List Value → H → Prop, (((((decide (x3 < 1)) = true → I13 [(.bool true), (.bool true)] h11) ∧
 ((decide (x3 < 1)) = false → I13 [(.bool (decide (x3 > 1048576))), (.bool false)] h11))) ∧
 (∀ b14 : Bool, ∀ b15 : Bool, ∀ h16 : H, (I13 [(.bool b14), (.bool b15)] h16) →
 ((b14 = true → K (.int .i64 5) h16) ∧
 (b14 = false → Spec P 40 #[(.slice p0 n1 n2)] h16 (fun v17 h18 =>
 ∃ x19 : Int, v17 = (.int .i64 x19) ∧ (((decide (x19 > 32)) = true → K (.int .i64 4) h18) ∧
 ((decide (x19 > 32)) = false → K (.int .i64 0) h18))))))))))))))))))

theorem e_tree_May (p0 : Option Addr) (n1 n2 : Nat) (x3 : Int) (h : H) (K : Value → H → Prop) : liftFn P (semAlg P K) 17 [(.agg [(.slice p0 n1 n2), (.int .u64 x3)])] h = f_tree_May p0 n1 n2 x3 h K := by kernel_rfl

theorem s_tree_May {p0 : Option Addr} {n1 n2 : Nat} {x3 : Int} {h : H} {K : Value → H → Prop} (hf : f_tree_May p0 n1 n2 x3 h K) : Spec P 17 #[(.agg #[(.slice p0 n1 n2), (.int .u64 x3)])] h K :=
  lift_sound mixed (args := [(.agg [(.slice p0 n1 n2), (.int .u64 x3)])]) (by rw [e_tree_May]; exact hf)

end Pt

