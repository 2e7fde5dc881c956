/- What the lifted text says: over Lean's own numbers, lists and partial heaps. -/
import Derived.Test.YtlcebmelfcfkaaaLfLift
namespace Lf
open Go

abbrev semAt : AK → Type
  | .int => Int
  | .bool => Bool
  | .str => ByteArray
  | .nat => Nat
  | .optr => Option Addr
  | .addr => Addr
  | .omap => Option Nat
  | .raw => Value
  | .heap => H

/-- Nothing seen. -/
def hnil : H := fun _ => none

abbrev SVs := SV semAt

mutual
def toV (β : Nat → Nat) : SVs → Value
  | .int k x => .int k x
  | .ints k n => .int k n
  | .bool b => .bool b
  | .bools b => .bool b
  | .flt k x => .float k x
  | .str s => .string s
  | .strs s => .string s
  | .nilp => .pointer none
  | .optr p => .pointer p
  | .addr a off => .pointer (some (a.add off))
  | .bp i off => .pointer (some ((⟨β i, 0, none⟩ : Addr).add off))
  | .slice p l c => .slice p l c
  | .nilslice => .slice none 0 0
  | .omap m => .map m
  | .nilmap => .map none
  | .func fn f c => .func fn (toVs β f).toArray (toVs β c).toArray
  | .nilfunc => .nilFunc
  | .iface t v => .iface t (toV β v)
  | .niliface => .nilIface
  | .raw v => v
  | .agg cs => .agg (toVs β cs).toArray
  | .tuple vs => .tuple (toVs β vs).toArray
  | .undef => undef
def toVs (β : Nat → Nat) : List SVs → List Value
  | [] => []
  | v :: vs => toV β v :: toVs β vs
end

abbrev toV0 (v : SVs) : Value := toV (fun _ => 0) v
abbrev toVs0 (v : List SVs) : List Value := toVs (fun _ => 0) v

/-- and, or, xor, andNot, and the shifts. -/
def iopF (op : BinOp) (k : IntKind) (x y : Int) : Int :=
  match op with
  | .and => k.wrap (BitVec.ofInt k.bits x &&& BitVec.ofInt k.bits y).toNat
  | .or => k.wrap (BitVec.ofInt k.bits x ||| BitVec.ofInt k.bits y).toNat
  | .xor => k.wrap (BitVec.ofInt k.bits x ^^^ BitVec.ofInt k.bits y).toNat
  | .andNot => k.wrap (BitVec.ofInt k.bits x &&& ~~~BitVec.ofInt k.bits y).toNat
  | .shl => k.wrap (x * 2 ^ (min y.toNat k.bits))
  | .shr => x.fdiv (2 ^ (min y.toNat k.bits))
  | _ => 0

def iopS (op : BinOp) (k : IntKind) (x y : Int) : Int :=
  match op with
  | .add => k.wrap (x + y)
  | .sub => k.wrap (x - y)
  | .mul => k.wrap (x * y)
  | .quo => k.wrap (Int.tdiv x y)
  | .rem => Int.tmod x y
  | op => iopF op k x y

def icmpS (op : BinOp) (x y : Int) : Bool :=
  match op with
  | .eql => decide (x = y)
  | .neq => !decide (x = y)
  | .lss => decide (x < y)
  | .leq => decide (x ≤ y)
  | .gtr => decide (x > y)
  | _ => decide (x ≥ y)

def scmpF (op : BinOp) (x y : ByteArray) : Bool :=
  match op with
  | .eql => x.toList == y.toList
  | .neq => !(x.toList == y.toList)
  | .lss => Op.bytesLess x.toList y.toList
  | .leq => Op.bytesLess x.toList y.toList || x.toList == y.toList
  | .gtr => !(Op.bytesLess x.toList y.toList || x.toList == y.toList)
  | _ => !Op.bytesLess x.toList y.toList

def sgetF (s : ByteArray) (i : Int) : Int := ((s[i.toNat]?).getD 0).toNat

def blk (b : Nat) : Addr := ⟨b, 0, none⟩
def aidx (a : Addr) (off : Nat) (i : Int) (size : Nat) : Addr := (a.add off).add (i.toNat * size)
def sliceP (p : Option Addr) (l m size : Nat) : Option Addr := if m = l then p else p.map (·.add (l * size))
def isSet (h : H) (a : Addr) : Prop := (cell h a).isSome = true ∧ free h a = true

/-- A call of a function value. -/
def CallV (P : Program) (fv : Value) (args : Array Value) (h : H) (K : Value → H → Prop) : Prop :=
  ∃ f first cap, fv = .func (.func f) first cap ∧ hasBody P f = true ∧ Spec P f (first ++ args ++ cap) h K

abbrev semAlg (P : Program) (K : Value → H → Prop) : Alg where
  At := semAt
  R := Prop
  Cd := Prop
  ilit n := n
  iop := iopS
  icmp := icmpS
  iconv k x := k.wrap x
  imin x y := min x y
  imax x y := max x y
  blit b := b
  bnot b := !b
  beq a b := a == b
  bsel c a b := cond c a b
  slit b := b
  scmp := scmpF
  slen s := s.size
  sext s l h := s.extract l h
  sget := sgetF
  nlit n := n
  nsub a b := a - b
  ncast n := (n : Int)
  toNat x := x.toNat
  pnil := none
  psome a off := some (a.add off)
  pisnil p := p.isNone
  pslice := sliceP
  blk := blk
  aidx := aidx
  mnil := none
  misnil m := m.isNone
  val v := toV0 v
  fls := False
  br b x y := (b = true → x) ∧ (b = false → y)
  ex k f := ∃ x : semAt k, f x
  all k f := ∀ x : semAt k, f x
  imp a b := a → b
  req c r := c ∧ r
  asm c r := c → r
  cCell h a off v := cell h (a.add off) = some (toV0 v)
  cSet h a off := isSet h (a.add off)
  cFree h b := h b = none
  cSome p a := p = some a
  cIdx i n := 0 ≤ i ∧ i < (n : Int)
  cLe i n := 0 ≤ i ∧ i ≤ (n : Int)
  cLeH x y := Le x y
  cTrue b := b = true
  cVal v sv := v = toV0 sv
  cOne v := v.oneCell = true
  hnew h b t cells := hnew h b (.cells (toVs0 cells).toArray t (0, 0))
  hset h a off v := hset h (a.add off) (toV0 v)
  hnil := hnil
  letH e f := ∀ h : H, h = e → f h
  call f args h k := Spec P f (toVs0 args).toArray h fun v h' => k v h'
  callv fv args h k := CallV P (toV0 fv) (toVs0 args).toArray h fun v h' => k v h'
  x o h k := RunL P (X.sem (o.map toV0)) h fun v h' => k v h'
  join body rest := ∃ I : List Value → H → Prop, body (fun vs h => I (toVs0 vs) h) ∧ rest (fun vs h => I (toVs0 vs) h)
  loop init h f := ∃ I : Nat → List Value → H → Prop, (∃ n, I n (toVs0 init) h) ∧
    ∀ n, f (fun vs h => ∃ m : Nat, m < n ∧ I m (toVs0 vs) h) (fun vs h => I n (toVs0 vs) h)
  ret v h := K (toV0 v) h
end Lf

