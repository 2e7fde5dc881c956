/- The places of some bits: the iterator's contract. -/
import Derived.Test.YtlcebmelfcfkaaaPtMaker
import Derived.RangeFuncNested
import Derived.RangeFuncLeaves
import Derived.Shelf.Abstract
import Derived.WalkKit
import Derived.OwnWalkIn
import Derived.TacticsInMore
import Derived.LoopNIn
import Derived.LoopIn
namespace Pt
open Go Go.RowKit Go.Proofs Go.Shelf Lf Pat

attribute [local go_sem] Oper.semAt_some

theorem c_places (F : Fence) (n : Nat) (h5 : F.fn 62) (hro : F.round = none) (s : Nat) (w : World) :
    CallsIn F n Go.Proofs.Try.prog 62 #[.int .u32 (s : Int)] w fun e w' => e = .returned (.func (.func 81) #[] #[.pointer (some ⟨w.heap.size, 0, none⟩)]) ∧ w' = w.alloc (.cells #[.int .u32 (s : Int)] 33) := by
  refine callsIn_of_wp Go.Proofs.Try.func62 rfl h5 ?_ hro
  simp only [Go.Proofs.Try.ntmps62, List.size_toArray, List.length_cons, List.length_nil, Nat.reduceAdd, Nat.reduceSub, Array.replicate_succ, Array.replicate_zero, List.push_toArray, List.append_toArray, List.nil_append, List.cons_append]
  gi_wp2
  go_ret
  exact ⟨rfl, rfl⟩

def bitsTo (s i : Nat) : List Nat := (List.range i).filter s.testBit
theorem bitsTo_succ (s i : Nat) : bitsTo s (i + 1) = bitsTo s i ++ (if s.testBit i then [i] else []) := by
  unfold bitsTo; rw [List.range_succ, List.filter_append]; by_cases h : s.testBit i <;> simp [h]

theorem bitsTo_len (s i : Nat) : (bitsTo s i).length ≤ i := by
  unfold bitsTo; refine Nat.le_trans (List.length_filter_le _ _) (by simp)

theorem bitsTo_mono (s : Nat) {i : Nat} : ∀ {j : Nat}, i ≤ j → bitsTo s i <+: bitsTo s j
  | 0, h => by obtain rfl : i = 0 := by omega
               exact List.prefix_refl _
  | j + 1, h => by
    rcases Nat.lt_or_ge i (j + 1) with h' | h'
    · exact (bitsTo_mono s (j := j) (by omega)).trans (by rw [bitsTo_succ]; exact List.prefix_append _ _)
    · obtain rfl : i = j + 1 := by omega
      exact List.prefix_refl _

theorem bitsTo_pre {s i : Nat} (h : s.testBit i = true) (hi : i < 32) : bitsTo s i ++ [i] <+: bitsTo s 32 := by
  have := bitsTo_mono s (i := i + 1) (j := 32) (by omega)
  rwa [bitsTo_succ, if_pos h] at this

theorem bit_val (s i : Nat) : bits BinOp.and IntKind.u32 ((s : Int) / 2 ^ i) 1 = if s.testBit i then 1 else 0 := by
  have h0 : ((s : Int) / 2 ^ i) = ((s / 2 ^ i : Nat) : Int) := by simp
  rw [h0]
  generalize hm : s / 2 ^ i = m
  have hm2 : s.testBit i = decide (m % 2 = 1) := by rw [← hm, Nat.testBit_eq_decide_div_mod_eq]
  rw [hm2]
  have e : ((BitVec.ofInt 32 (m : Int) &&& BitVec.ofInt 32 1).toNat : Nat) = m % 2 := by
    rw [BitVec.toNat_and, BitVec.toNat_ofInt, BitVec.toNat_ofInt]
    have h1 : ((m : Int) % ((2 ^ 32 : Nat) : Int)).toNat = m % 2 ^ 32 := by omega
    have h2 : ((1 : Int) % ((2 ^ 32 : Nat) : Int)).toNat = 1 := by decide
    rw [h1, h2, Nat.and_one_is_mod]; omega
  show IntKind.u32.wrap (((BitVec.ofInt 32 (m : Int) &&& BitVec.ofInt 32 1).toNat : Nat) : Int) = _
  rw [e, IntKind.wrap_u32]
  by_cases h2 : m % 2 = 1
  · simp [h2]
  · have : m % 2 = 0 := by omega
    simp [this]
theorem bit_one {s i : Nat} (h : s.testBit i = true) : bits BinOp.and IntKind.u32 ((s : Int) / 2 ^ i) 1 = 1 := by rw [bit_val, if_pos h]
theorem bit_zero {s i : Nat} (h : s.testBit i = false) : bits BinOp.and IntKind.u32 ((s : Int) / 2 ^ i) 1 = 0 := by rw [bit_val, if_neg (by simp [h])]

set_option maxRecDepth 100000 in
set_option maxHeartbeats 1000000 in
theorem c_places1 (F : Fence) (n : Nat) (h6 : F.fn 81) (hro : F.round = none) (hn : 1 ≤ n) (l Bn : Nat) (s : Nat) (J : List (Fin 32) → World → Prop)
    (hJ : ∀ pre W, J pre W → W.cell? ⟨Bn, 0, none⟩ = some (.int .u32 (s : Int)))
    (hY : ∀ (pre : List (Fin 32)) (x : Fin 32) (W : World), pre.length < 32 → J pre W → YieldAt F (n - 1) Go.Proofs.Try.prog l #[.int .i64 (x.val : Int)] W fun e W' => e = .returned (.bool true) ∧ J (pre ++ [x]) W')
    (W : World) (h0 : J [] W) :
    CallsIn F n Go.Proofs.Try.prog 81 #[.func (.yield l) #[] #[], .pointer (some ⟨Bn, 0, none⟩)] W fun e W' => (∃ v, e = .returned v) ∧ ∃ xs : List (Fin 32), xs.map (·.val) = bitsTo s 32 ∧ J xs W' := by
  refine callsIn_of_wp Go.Proofs.Try.func81 rfl h6 ?_ hro
  simp only [Go.Proofs.Try.ntmps81, List.size_toArray, List.length_cons, List.length_nil, Nat.reduceAdd, Nat.reduceSub, Array.replicate_succ, Array.replicate_zero, List.push_toArray, List.append_toArray, List.nil_append, List.cons_append]
  gi_wp2
  gi_loopw [4] (fun p wr => ∃ (i : Nat) (xs : List (Fin 32)), p = .int .i64 (i : Int) ∧ i ≤ 32 ∧ xs.map (·.val) = bitsTo s i ∧ J xs wr)
    (fun p _ => 32 - (match p with | .int _ i => i.toNat | _ => 0))
  case atStart => exact ⟨0, [], rfl, by omega, rfl, h0⟩
  case round =>
    obtain ⟨i, xs, rfl, hi, hxs, hJs⟩ := hrel
    have hc := hJ _ _ hJs
    by_cases h32 : (i : Int) < 32
    · cases hti : s.testBit i with
      | true =>
        have hbt : bits BinOp.and IntKind.u32 (s / 2 ^ i) 1 = 1 := bit_one hti
        obtain ⟨fn, tmps, assign, body, hy, hR⟩ := hY xs ⟨i, by omega⟩ wr (by have := bitsTo_len s i; rw [← hxs, List.length_map] at this; omega) hJs
        gi_wp2
        refine hR.mono ?_
        rintro e W3 ⟨rfl, hJ3⟩
        gi_wp2
        go_roundw
        case rel => exact ⟨i + 1, _, by simp, by omega, by rw [bitsTo_succ, if_pos hti, ← hxs]; simp, hJ3⟩
        case measure => simp only [Int.toNat_natCast]; omega
      | false =>
        have hbt : ¬ bits BinOp.and IntKind.u32 (s / 2 ^ i) 1 = 1 := by rw [bit_zero hti]; decide
        gi_wp2
        case h_2 =>
          refine ⟨fun f hf => (by cases hf), ?_⟩
          gi_wp2
          go_roundw
          case rel => exact ⟨i + 1, _, by simp, by omega, by rw [bitsTo_succ, if_neg (by simp [hti]), List.append_nil, ← hxs], hJs⟩
          case measure => simp only [Int.toNat_natCast]; omega
    · gi_wp2
      go_end0
      obtain rfl : i = 32 := by omega
      exact ⟨⟨_, rfl⟩, xs, hxs, hJs⟩

theorem bitsTo_all (s : Nat) : bitsTo s 32 = bitsOf s := rfl
end Pt

