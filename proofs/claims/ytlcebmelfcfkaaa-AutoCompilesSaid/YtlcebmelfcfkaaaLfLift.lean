/- The lifter: a function's code as a formula over partial heaps; local boxes that do not escape are kept as values. -/
import Derived.Test.YtlcebmelfcfkaaaLfHeap
import Derived.OrdersHeld
namespace Lf
open Go

inductive AK where
  | int | bool | str | nat | optr | addr | omap | raw | heap
  deriving DecidableEq, Repr

/-- A symbolic value over atoms. 'bp': a pointer into a private box. -/
inductive SV (At : AK → Type) where
  | int (k : IntKind) (x : At .int)
  | ints (k : IntKind) (n : Int)
  | bool (b : At .bool)
  | bools (b : Bool)
  | flt (k : FloatKind) (x : At .nat)
  | str (s : At .str)
  | strs (s : ByteArray)
  | nilp
  | optr (p : At .optr)
  | addr (a : At .addr) (off : Nat)
  | bp (i off : Nat)
  | slice (p : At .optr) (len cap : At .nat)
  | nilslice
  | omap (m : At .omap)
  | nilmap
  | func (fn : Fn) (first captured : List (SV At))
  | nilfunc
  | iface (t : TypeId) (v : SV At)
  | niliface
  | raw (v : At .raw)
  | agg (cs : List (SV At))
  | tuple (vs : List (SV At))
  | undef

/-- Operations that are told by their own semantics. -/
inductive X (V : Type) where
  | lookup (t : TypeId) (m k : V) (ok : Bool)
  | mapUpdate (t : TypeId) (m k v : V)
  | makeMap (t : TypeId)
  | makeSlice (t : TypeId) (l c : V)
  | bi (b : Builtin) (ats : Array TypeId) (type : TypeId) (args : List V)
  | convert (s d : TypeId) (x : V)
  | binOp (op : BinOp) (t : TypeId) (x y : V)
  | index (t : TypeId) (x i : V)
  | ext (f : FuncId) (args : List V)

def X.sem : X Value → Sem Value
  | .lookup t m k ok => Instr.lookup t m k ok
  | .mapUpdate t m k v => do Instr.mapUpdate t m k v; pure (.tuple #[])
  | .makeMap t => Instr.makeMap t none
  | .makeSlice t l c => Instr.makeSlice t l c
  | .bi b ats type args => do match ← builtin b ats type #[] args.toArray with | .value v => pure v | _ => stuck "builtin"
  | .convert s d x => Go.convert s d x
  | .binOp op t x y => Go.binOp op t x y
  | .index t x i => Instr.index t x i
  | .ext f args => do match ← callFunc f args.toArray with | .value v => pure v | _ => stuck "ext"

def X.map {V U : Type} (g : V → U) : X V → X U
  | .lookup t m k ok => .lookup t (g m) (g k) ok
  | .mapUpdate t m k v => .mapUpdate t (g m) (g k) (g v)
  | .makeMap t => .makeMap t
  | .makeSlice t l c => .makeSlice t (g l) (g c)
  | .bi b ats type args => .bi b ats type (args.map g)
  | .convert s d x => .convert s d (g x)
  | .binOp op t x y => .binOp op t (g x) (g y)
  | .index t x i => .index t (g x) (g i)
  | .ext f args => .ext f (args.map g)

/-- What a lifted text is made of. -/
structure Alg where
  At : AK → Type
  R : Type
  Cd : Type
  ilit : Int → At .int
  iop : BinOp → IntKind → At .int → At .int → At .int
  icmp : BinOp → At .int → At .int → At .bool
  iconv : IntKind → At .int → At .int
  imin : At .int → At .int → At .int
  imax : At .int → At .int → At .int
  blit : Bool → At .bool
  bnot : At .bool → At .bool
  beq : At .bool → At .bool → At .bool
  bsel : At .bool → At .bool → At .bool → At .bool
  slit : ByteArray → At .str
  scmp : BinOp → At .str → At .str → At .bool
  slen : At .str → At .nat
  sext : At .str → At .nat → At .nat → At .str
  sget : At .str → At .int → At .int
  nlit : Nat → At .nat
  nsub : At .nat → At .nat → At .nat
  ncast : At .nat → At .int
  toNat : At .int → At .nat
  pnil : At .optr
  psome : At .addr → Nat → At .optr
  pisnil : At .optr → At .bool
  pslice : At .optr → At .nat → At .nat → Nat → At .optr
  blk : At .nat → At .addr
  aidx : At .addr → Nat → At .int → Nat → At .addr
  mnil : At .omap
  misnil : At .omap → At .bool
  val : SV At → At .raw
  fls : R
  br : At .bool → R → R → R
  ex : (k : AK) → (At k → R) → R
  all : (k : AK) → (At k → R) → R
  imp : R → R → R
  req : Cd → R → R
  asm : Cd → R → R
  cCell : At .heap → At .addr → Nat → SV At → Cd
  cSet : At .heap → At .addr → Nat → Cd
  cFree : At .heap → At .nat → Cd
  cSome : At .optr → At .addr → Cd
  cIdx : At .int → At .nat → Cd
  cLe : At .int → At .nat → Cd
  cLeH : At .heap → At .heap → Cd
  cTrue : At .bool → Cd
  cVal : At .raw → SV At → Cd
  cOne : At .raw → Cd
  hnew : At .heap → At .nat → TypeId → List (SV At) → At .heap
  hset : At .heap → At .addr → Nat → SV At → At .heap
  hnil : At .heap
  letH : At .heap → (At .heap → R) → R
  call : FuncId → List (SV At) → At .heap → (At .raw → At .heap → R) → R
  callv : SV At → List (SV At) → At .heap → (At .raw → At .heap → R) → R
  x : X (SV At) → At .heap → (At .raw → At .heap → R) → R
  join : ((List (SV At) → At .heap → R) → R) → ((List (SV At) → At .heap → R) → R) → R
  loop : List (SV At) → At .heap → ((self I : List (SV At) → At .heap → R) → R) → R
  ret : SV At → At .heap → R

/-- Kinds of values that atoms can be asked for. -/
inductive CK where
  | int (k : IntKind) | bool | str | flt (k : FloatKind) | optr | slice | omap | raw
  | agg (l : List CK) | tuple (l : List CK)

mutual
def kindOf : Value → CK
  | .int k _ => .int k
  | .bool _ => .bool
  | .string _ => .str
  | .float k _ => .flt k
  | .pointer _ => .optr
  | .slice .. => .slice
  | .map _ => .omap
  | .agg ⟨cs⟩ => .agg (kindsOf cs)
  | _ => .raw
def kindsOf : List Value → List CK
  | [] => []
  | v :: vs => kindOf v :: kindsOf vs
end

variable (P : Program)

def zeroOf (t : TypeId) : Option Value := (P.info? t).bind (·.zero)
def sizeO (t : TypeId) : Option Nat := (P.info? t).map (·.size)

def ckOf (t : TypeId) : CK :=
  match P.underlying t with
  | some (.tuple ts) => .tuple (ts.toList.map fun u => ((zeroOf P u).map kindOf).getD .raw)
  | _ => ((zeroOf P t).map kindOf).getD .raw

section
variable (A : Alg)

mutual
def ofValue : Value → SV A.At
  | .int k n => .ints k n
  | .bool b => .bools b
  | .string s => .strs s
  | .float k b => .flt k (A.nlit b)
  | .pointer none => .nilp
  | .slice none 0 0 => .nilslice
  | .map none => .nilmap
  | .nilFunc => .nilfunc
  | .nilIface => .niliface
  | .agg ⟨cs⟩ => .agg (ofValues cs)
  | .tuple ⟨cs⟩ => .tuple (ofValues cs)
  | .func fn ⟨f⟩ ⟨c⟩ => .func fn (ofValues f) (ofValues c)
  | .iface t v => .iface t (ofValue v)
  | _ => .undef
def ofValues : List Value → List (SV A.At)
  | [] => []
  | v :: vs => ofValue v :: ofValues vs
end

end

mutual
/-- No 'undef' in it. -/
def SV.defd {At : AK → Type} : SV At → Bool
  | .undef => false
  | .func _ f c => defds f && defds c
  | .iface _ v => v.defd
  | .agg cs => defds cs
  | .tuple cs => defds cs
  | _ => true
def SV.defds {At : AK → Type} : List (SV At) → Bool
  | [] => true
  | v :: vs => v.defd && defds vs
end

mutual
/-- The private boxes that it points to. -/
def SV.bps {At : AK → Type} : SV At → List Nat
  | .bp i _ => [i]
  | .func _ f c => bpss f ++ bpss c
  | .iface _ v => v.bps
  | .agg cs => bpss cs
  | .tuple cs => bpss cs
  | _ => []
def SV.bpss {At : AK → Type} : List (SV At) → List Nat
  | [] => []
  | v :: vs => v.bps ++ bpss vs
end

mutual
/-- A private box turned into a block that is seen. -/
def SV.subst {At : AK → Type} (i : Nat) (b : At .addr) : SV At → SV At
  | .bp j off => if j == i then .addr b off else .bp j off
  | .func fn f c => .func fn (substs i b f) (substs i b c)
  | .iface t v => .iface t (v.subst i b)
  | .agg cs => .agg (substs i b cs)
  | .tuple cs => .tuple (substs i b cs)
  | v => v
def SV.substs {At : AK → Type} (i : Nat) (b : At .addr) : List (SV At) → List (SV At)
  | [] => []
  | v :: vs => v.subst i b :: substs i b vs
end

def SV.cellsOf {At : AK → Type} : SV At → List (SV At)
  | .agg cs => cs
  | v => [v]

structure Box (At : AK → Type) where
  id : Nat
  type : TypeId
  cells : List (SV At)

structure St (At : AK → Type) where
  env : List (Nat × SV At)
  boxes : List (Box At)
  heap : At .heap

/-- Slots and boxes that may not be turned; how many slots there are. -/
structure Prot where
  slots : List Nat
  boxes : List Nat
  n : Nat

def getEnv {At : AK → Type} : List (Nat × SV At) → Nat → SV At
  | [], _ => .undef
  | (u, v) :: r, t => if u == t then v else getEnv r t

def dropEnv {At : AK → Type} (t : Nat) : List (Nat × SV At) → List (Nat × SV At)
  | [] => []
  | (u, v) :: r => if u == t then dropEnv t r else (u, v) :: dropEnv t r

def keepEnv {At : AK → Type} (ts : List Nat) : List (Nat × SV At) → List (Nat × SV At)
  | [] => []
  | (u, v) :: r => if ts.contains u then keepEnv ts r else (u, v) :: keepEnv ts r

def getBox {At : AK → Type} : List (Box At) → Nat → Option (Box At)
  | [], _ => none
  | x :: r, i => if x.id == i then some x else getBox r i

def dropBox {At : AK → Type} (i : Nat) : List (Box At) → List (Box At)
  | [] => []
  | x :: r => if x.id == i then dropBox i r else x :: dropBox i r

def setBox {At : AK → Type} (i : Nat) (cs : List (SV At)) : List (Box At) → List (Box At)
  | [] => []
  | x :: r => if x.id == i then { x with cells := cs } :: setBox i cs r else x :: setBox i cs r

/-- Cells in the place of others. -/
def setCells {α : Type} : List α → Nat → List α → List α
  | cs, _, [] => cs
  | [], _, _ => []
  | _ :: cs, 0, v :: vs => v :: setCells cs 0 vs
  | c :: cs, off + 1, vs => c :: setCells cs off vs

section
variable (A : Alg)

def chk {At : AK → Type} (v : SV At) : SV At := if v.defd then v else .undef

def opnd (σ : St A.At) : Operand → SV A.At
  | .tmp t => chk (getEnv σ.env t)
  | .const v => chk (ofValue A v)
  | .global g => .addr (A.blk (A.nlit g)) 0
  | .func f => .func (.func f) [] []

/-- A value into a slot. -/
def put (pr : Prot) (dst : Option Nat) (v : SV A.At) (σ : St A.At) (K : St A.At → A.R) : A.R :=
  match dst with
  | none => K σ
  | some d => if pr.slots.contains d || !Nat.blt d pr.n then A.fls else K { σ with env := (d, chk v) :: dropEnv d σ.env }

def substEnv {At : AK → Type} (i : Nat) (b : At .addr) : List (Nat × SV At) → List (Nat × SV At)
  | [] => []
  | (u, v) :: r => (u, v.subst i b) :: substEnv i b r

def substBoxes {At : AK → Type} (i : Nat) (b : At .addr) : List (Box At) → List (Box At)
  | [] => []
  | x :: r => { x with cells := SV.substs i b x.cells } :: substBoxes i b r

/-- A private box becomes a block that is seen (those that it points to first). -/
def publish (pr : Prot) : Nat → Nat → St A.At → (St A.At → A.R) → A.R
  | 0, _, _, _ => A.fls
  | n + 1, i, σ, K =>
    if pr.boxes.contains i || (pr.slots.any fun t => (getEnv σ.env t).bps.contains i) || (pr.boxes.any fun j => match getBox σ.boxes j with | some y => (SV.bpss y.cells).contains i | none => false) then A.fls else
    match getBox σ.boxes i with
    | none => A.fls
    | some x =>
      match SV.bpss x.cells with
      | [] => A.all .nat fun b => A.asm (A.cFree σ.heap b)
          (A.letH (A.hnew σ.heap b x.type x.cells) fun h =>
            K { env := substEnv i (A.blk b) σ.env, boxes := substBoxes i (A.blk b) (dropBox i σ.boxes), heap := h })
      | j :: _ => publish pr n j σ fun σ' => publish pr n i σ' K

def publishAll (pr : Prot) : List Nat → St A.At → (St A.At → A.R) → A.R
  | [], σ, K => K σ
  | i :: r, σ, K =>
    match getBox σ.boxes i with
    | none => publishAll pr r σ K
    | some _ => publish A pr 5 i σ fun σ' => publishAll pr r σ' K

def asInt : SV A.At → Option (IntKind × A.At .int)
  | .int k x => some (k, x)
  | .ints k n => some (k, A.ilit n)
  | _ => none
def asBool : SV A.At → Option (A.At .bool)
  | .bool b => some b
  | .bools b => some (A.blit b)
  | _ => none
def asStr : SV A.At → Option (A.At .str)
  | .str s => some s
  | .strs s => some (A.slit s)
  | _ => none
def asOptr : SV A.At → Option (A.At .optr)
  | .nilp => some A.pnil
  | .optr p => some p
  | .addr a off => some (A.psome a off)
  | _ => none
def asSlice : SV A.At → Option (A.At .optr × A.At .nat × A.At .nat)
  | .slice p l c => some (p, l, c)
  | .nilslice => some (A.pnil, A.nlit 0, A.nlit 0)
  | _ => none
def asMap : SV A.At → Option (A.At .omap)
  | .omap m => some m
  | .nilmap => some A.mnil
  | _ => none

mutual
/-- Some value of a kind. -/
def exs : CK → (SV A.At → A.R) → A.R
  | .int k, K => A.ex .int fun x => K (.int k x)
  | .bool, K => A.ex .bool fun x => K (.bool x)
  | .str, K => A.ex .str fun x => K (.str x)
  | .flt k, K => A.ex .nat fun x => K (.flt k x)
  | .optr, K => A.ex .optr fun x => K (.optr x)
  | .slice, K => A.ex .optr fun p => A.ex .nat fun l => A.ex .nat fun c => K (.slice p l c)
  | .omap, K => A.ex .omap fun x => K (.omap x)
  | .raw, K => A.ex .raw fun x => K (.raw x)
  | .agg l, K => exsL l fun vs => K (.agg vs)
  | .tuple l, K => exsL l fun vs => K (.tuple vs)
def exsL : List CK → (List (SV A.At) → A.R) → A.R
  | [], K => K []
  | c :: cs, K => exs c fun v => exsL cs fun vs => K (v :: vs)
end

mutual
/-- Every value of a kind. -/
def alls : CK → (SV A.At → A.R) → A.R
  | .int k, K => A.all .int fun x => K (.int k x)
  | .bool, K => A.all .bool fun x => K (.bool x)
  | .str, K => A.all .str fun x => K (.str x)
  | .flt k, K => A.all .nat fun x => K (.flt k x)
  | .optr, K => A.all .optr fun x => K (.optr x)
  | .slice, K => A.all .optr fun p => A.all .nat fun l => A.all .nat fun c => K (.slice p l c)
  | .omap, K => A.all .omap fun x => K (.omap x)
  | .raw, K => A.all .raw fun x => K (.raw x)
  | .agg l, K => allsL l fun vs => K (.agg vs)
  | .tuple l, K => allsL l fun vs => K (.tuple vs)
def allsL : List CK → (List (SV A.At) → A.R) → A.R
  | [], K => K []
  | c :: cs, K => alls c fun v => allsL cs fun vs => K (v :: vs)
end

/-- Values each of which fills one cell (raw ones are asked). -/
def ones {At : AK → Type} : List (SV At) → Bool
  | [] => true
  | .agg _ :: _ => false
  | .tuple _ :: _ => false
  | .undef :: _ => false
  | _ :: r => ones r

mutual
/-- Is a value of a kind? -/
def conf {At : AK → Type} : CK → SV At → Bool
  | .int k, .int j _ => decide (j = k)
  | .int k, .ints j _ => decide (j = k)
  | .bool, .bool _ => true
  | .bool, .bools _ => true
  | .str, .str _ => true
  | .str, .strs _ => true
  | .flt k, .flt j _ => decide (j = k)
  | .optr, .nilp => true
  | .optr, .optr _ => true
  | .optr, .addr _ _ => true
  | .slice, .slice .. => true
  | .slice, .nilslice => true
  | .omap, .omap _ => true
  | .omap, .nilmap => true
  | .raw, v => v.defd && v.bps.isEmpty && ones [v]
  | .agg l, .agg vs => confL l vs
  | .tuple l, .tuple vs => confL l vs
  | _, _ => false
def confL {At : AK → Type} : List CK → List (SV At) → Bool
  | [], [] => true
  | c :: cs, v :: vs => conf c v && confL cs vs
  | _, _ => false
end

mutual
/-- The kind of a value, if it can be carried round. -/
def ckSV {At : AK → Type} : SV At → Option CK
  | .int k _ => some (.int k)
  | .ints k _ => some (.int k)
  | .bool _ => some .bool
  | .bools _ => some .bool
  | .str _ => some .str
  | .strs _ => some .str
  | .flt k _ => some (.flt k)
  | .nilp => some .optr
  | .optr _ => some .optr
  | .addr _ _ => some .optr
  | .slice .. => some .slice
  | .nilslice => some .slice
  | .omap _ => some .omap
  | .nilmap => some .omap
  | .agg cs => (cksSV cs).map .agg
  | .raw _ => some .raw
  | .nilfunc => some .raw
  | .niliface => some .raw
  | .func _ f c => if (SV.bpss f).isEmpty && (SV.bpss c).isEmpty then some .raw else none
  | .iface _ v => if v.bps.isEmpty then some .raw else none
  | _ => none
def cksSV {At : AK → Type} : List (SV At) → Option (List CK)
  | [] => some []
  | v :: vs => match ckSV v, cksSV vs with
    | some c, some cs => some (c :: cs)
    | _, _ => none
end

/-- Cells read one by one. -/
def loadCells (h : A.At .heap) (a : A.At .addr) : Nat → List CK → (List (SV A.At) → A.R) → A.R
  | _, [], K => K []
  | off, c :: cs, K => exs A c fun v => A.req (A.cCell h a off v) (loadCells h a (off + 1) cs fun vs => K (v :: vs))

/-- Values of which it must be known that they fill one cell. -/
def rawsOf {At : AK → Type} : List (SV At) → List (At .raw)
  | [] => []
  | .raw v :: r => v :: rawsOf r
  | _ :: r => rawsOf r

def reqOnes : List (A.At .raw) → A.R → A.R
  | [], K => K
  | v :: r, K => A.req (A.cOne v) (reqOnes r K)

def storeCells (a : A.At .addr) : Nat → List (SV A.At) → A.At .heap → (A.At .heap → A.R) → A.R
  | _, [], h, K => K h
  | off, v :: vs, h, K => A.req (A.cSet h a off) (storeCells a (off + 1) vs (A.hset h a off v) K)

def fieldOff (s : TypeId) (f : Nat) : Option Nat :=
  match P.underlying s with
  | some (.struct fs) => match fs[f]? with
    | some x => match sizeO P x.type with
      | some 0 => none
      | some _ => some x.offset
      | none => none
    | none => none
  | _ => none

def isAggB (t : TypeId) : Option Bool :=
  match P.underlying t with
  | some (.struct _) | some (.array _ _) => some true
  | some _ => some false
  | none => none

/-- Parts put at their places. -/
def fillS (places : List (Nat × Nat)) (cells : List (SV A.At)) : List (Nat × SV A.At) → Option (List (SV A.At))
  | [] => some cells
  | (i, v) :: rest =>
    match places[i]? with
    | none => none
    | some (off, size) =>
      if v.cellsOf.length == size && Nat.ble (off + size) cells.length then fillS places (setCells cells off v.cellsOf) rest else none

def structPlaces (fs : List Field) : Option (List (Nat × Nat)) :=
  match fs with
  | [] => some []
  | f :: r => match sizeO P f.type, structPlaces r with
    | some n, some l => some ((f.offset, n) :: l)
    | _, _ => none

def buildS (t : TypeId) (parts : List (Nat × SV A.At)) : Option (SV A.At) :=
  match P.underlying t, zeroOf P t with
  | some (.struct ⟨fs⟩), some (.agg ⟨z⟩) =>
    match structPlaces P fs with
    | some ps => if SV.defds (ofValues A z) then (fillS A ps (ofValues A z) parts).map .agg else none
    | none => none
  | some (.array len e), some (.agg ⟨z⟩) =>
    match sizeO P e with
    | some size => if SV.defds (ofValues A z) then (fillS A ((List.range len).map fun i => (i * size, size)) (ofValues A z) parts).map .agg else none
    | none => none
  | _, _ => none

/-- The cells of a slice that is written out. -/
def sliceCells (t : TypeId) (len : Nat) (parts : List (Nat × SV A.At)) : Option (TypeId × List (SV A.At)) :=
  match P.underlying t with
  | some (.slice e) =>
    match sizeO P e, zeroOf P e with
    | some size, some z =>
      if size == 0 || Nat.blt (2 ^ 24) (len * size) || !(z.cells.size == size) || !SV.defds (ofValues A z.cells.toList) then none else
      (fillS A ((List.range len).map fun i => (i * size, size)) ((List.replicate len (ofValues A z.cells.toList)).flatten) parts).map fun c => (e, c)
    | _, _ => none
  | _ => none

/-- A private box in a slot. -/
def newBox (pr : Prot) (dst : Option Nat) (t : TypeId) (cells : List (SV A.At)) (σ : St A.At) (K : St A.At → A.R) : A.R :=
  match dst with
  | none => A.fls
  | some d =>
    if pr.slots.contains d || pr.boxes.contains d || !SV.defds cells || !Nat.blt d pr.n || !ones cells then A.fls else
    if (SV.bpss (dropEnv d σ.env |>.map (·.2))).contains d || (σ.boxes.any fun x => (SV.bpss x.cells).contains d) || (SV.bpss cells).contains d then A.fls else
    K { σ with env := (d, .bp d 0) :: dropEnv d σ.env, boxes := ⟨d, t, cells⟩ :: dropBox d σ.boxes }

def isCmp : BinOp → Bool
  | .eql | .neq | .lss | .leq | .gtr | .geq => true
  | _ => false

def cmpS (op : BinOp) (a b : Int) : Bool :=
  match op with
  | .eql => decide (a = b)
  | .neq => !decide (a = b)
  | .lss => decide (a < b)
  | .leq => decide (a ≤ b)
  | .gtr => decide (a > b)
  | _ => decide (a ≥ b)

/-- What is held against nil. -/
def nilness : SV A.At → SV A.At → Option (SV A.At)
  | .nilp, .nilp => some (.bools true)
  | .optr p, .nilp => some (.bool (A.pisnil p))
  | .nilp, .optr p => some (.bool (A.pisnil p))
  | .addr _ _, .nilp => some (.bools false)
  | .nilp, .addr _ _ => some (.bools false)
  | .bp _ _, .nilp => some (.bools false)
  | .nilp, .bp _ _ => some (.bools false)
  | .omap m, .nilmap => some (.bool (A.misnil m))
  | .nilmap, .omap m => some (.bool (A.misnil m))
  | .nilmap, .nilmap => some (.bools true)
  | _, _ => none

def notS : SV A.At → Option (SV A.At)
  | .bool b => some (.bool (A.bnot b))
  | .bools b => some (.bools (!b))
  | _ => none

/-- Results of a callee. -/
def resKind (f : FuncId) : Option CK :=
  match P.funcs[f]? with
  | none => none
  | some fn => match fn.resultTypes.toList with
    | [] => some (.tuple [])
    | [t] => some (ckOf P t)
    | ts => some (.tuple (ts.map (ckOf P)))

def hasBody (f : FuncId) : Bool :=
  match P.funcs[f]? with
  | some fn => fn.body.isSome && !(fn.name == "runtime.NumGoroutine")
  | none => false

def callS (pr : Prot) (dst : Option Nat) (f : FuncId) (args : List (SV A.At)) (σ : St A.At) (K : St A.At → A.R) : A.R :=
  if !SV.defds args || !(SV.bpss args).isEmpty || !hasBody P f then A.fls else
  match resKind P f with
  | none => A.fls
  | some c => A.call f args σ.heap fun v h => exs A c fun r => A.req (A.cVal v r) (put A pr dst r { σ with heap := h } K)

def xop (pr : Prot) (dst : Option Nat) (type : TypeId) (o : X (SV A.At)) (σ : St A.At) (K : St A.At → A.R) : A.R :=
  A.x o σ.heap fun v h => match dst with
    | none => K { σ with heap := h }
    | some _ => exs A (ckOf P type) fun r => A.req (A.cVal v r) (put A pr dst r { σ with heap := h } K)

def lowS : Option (SV A.At) → Option (Option (A.At .int))
  | none => some none
  | some v => (asInt A v).map fun x => some x.2

/-- x[lo:hi:max] of a slice. -/
def sliceS (size : Nat) (p : A.At .optr) (len cap : A.At .nat) (lo hi mx : Option (A.At .int)) (K : SV A.At → A.R) : A.R :=
  let withM (K : A.At .nat → A.R) : A.R := match mx with
    | some v => A.req (A.cLe v cap) (K (A.toNat v))
    | none => K cap
  withM fun m =>
    let withH (K : A.At .nat → A.R) : A.R := match hi, mx with
      | some v, _ => A.req (A.cLe v m) (K (A.toNat v))
      | none, none => K len
      | none, some _ => A.fls
    withH fun h => match lo with
      | some v => A.req (A.cLe v h) (K (.slice (A.pslice p (A.toNat v) m size) (A.nsub h (A.toNat v)) (A.nsub m (A.toNat v))))
      | none => K (.slice (A.pslice p (A.nlit 0) m size) (A.nsub h (A.nlit 0)) (A.nsub m (A.nlit 0)))

def noBps (l : List (SV A.At)) : Bool := (SV.bpss l).isEmpty && SV.defds l

/-- Neither an aggregate nor an interface value. -/
def plainS {At : AK → Type} : SV At → Bool
  | .int .. | .ints .. | .bool _ | .bools _ | .flt .. | .str _ | .strs _ | .slice .. | .nilslice | .omap _ | .nilmap | .nilfunc => true
  | _ => false

/-- Two aggregates. -/
def bothAgg {At : AK → Type} : SV At → SV At → Bool
  | .agg _, .agg _ => true
  | _, _ => false

def ptrS {At : AK → Type} : SV At → Bool
  | .nilp | .optr _ | .addr .. | .bp .. => true
  | _ => false

def fitsB {At : AK → Type} (t : TypeId) (v : SV At) : Bool :=
  match P.underlying t with
  | some (.pointer _) => ptrS v
  | some (.map _ _) => !ptrS v
  | _ => false

def opBin (pr : Prot) (o : Oper) (op : BinOp) (t : TypeId) (vx vy : SV A.At) (σ : St A.At) (K : St A.At → A.R) : A.R :=
  match vx, vy with
  | .ints k a, .ints j b =>
    if isCmp op && decide (k = j) then put A pr o.dst (.bools (cmpS op a b)) σ K else A.fls
  | _, _ =>
  match asInt A vx, asInt A vy with
  | some (k, a), some (j, b) =>
    match op with
    | .shl | .shr =>
      match vy with
      | .ints _ n => if decide (n < 0) then A.fls else put A pr o.dst (.int k (A.iop op k a b)) σ K
      | _ => A.req (A.cTrue (A.icmp .geq b (A.ilit 0))) (put A pr o.dst (.int k (A.iop op k a b)) σ K)
    | .quo | .rem =>
      if !decide (k = j) then A.fls else
      match vy with
      | .ints _ n => if decide (n = 0) then A.fls else put A pr o.dst (.int k (A.iop op k a b)) σ K
      | _ => A.req (A.cTrue (A.icmp .neq b (A.ilit 0))) (put A pr o.dst (.int k (A.iop op k a b)) σ K)
    | _ =>
      if !decide (k = j) then A.fls else
      if isCmp op then put A pr o.dst (.bool (A.icmp op a b)) σ K else put A pr o.dst (.int k (A.iop op k a b)) σ K
  | _, _ =>
  match asBool A vx, asBool A vy with
  | some a, some b =>
    match op, P.underlying t with
    | .eql, some .bool => put A pr o.dst (.bool (A.beq a b)) σ K
    | .neq, some .bool => put A pr o.dst (.bool (A.bnot (A.beq a b))) σ K
    | _, _ => A.fls
  | _, _ =>
  match asStr A vx, asStr A vy with
  | some a, some b =>
    if isCmp op then put A pr o.dst (.bool (A.scmp op a b)) σ K
    else xop P A pr o.dst o.type (.binOp op t vx vy) σ K
  | _, _ =>
  match nilness A vx vy with
  | some r =>
    if !fitsB P t vx then A.fls else
    match op, notS A r with
    | .eql, _ => put A pr o.dst r σ K
    | .neq, some r' => put A pr o.dst r' σ K
    | _, _ => A.fls
  | none =>
    match P.underlying t with
    | some (.interface _) | some (.pointer _) => A.fls
    | some (.struct _) | some (.array _ _) => if noBps A [vx, vy] && bothAgg vx vy && !P.eqGuardType P.depth t then xop P A pr o.dst o.type (.binOp op t vx vy) σ K else A.fls
    | _ => if plainS vx && plainS vy then xop P A pr o.dst o.type (.binOp op t vx vy) σ K else A.fls

def opCall (pr : Prot) (o : Oper) (c : Call) (σ : St A.At) (K : St A.At → A.R) : A.R :=
  let args := c.args.toList.map (opnd A σ)
  match c.callee with
  | .builtin b =>
    match b, args with
    | .len, [v] =>
      match v, (c.argTypes[0]?).bind P.underlying with
      | .omap _, some (.map _ _) => xop P A pr o.dst o.type (.bi b c.argTypes o.type args) σ K
      | v, some (.slice _) => match asSlice A v with
        | some (_, l, _) => put A pr o.dst (.int .i64 (A.ncast l)) σ K
        | none => A.fls
      | v, some .string => match asStr A v with
        | some s => put A pr o.dst (.int .i64 (A.ncast (A.slen s))) σ K
        | none => A.fls
      | _, _ => A.fls
    | .min, [x, y] => match asInt A x, asInt A y with
      | some (k, a), some (j, b) => if decide (k = j) then put A pr o.dst (.int k (A.imin a b)) σ K else A.fls
      | _, _ => A.fls
    | .max, [x, y] => match asInt A x, asInt A y with
      | some (k, a), some (j, b) => if decide (k = j) then put A pr o.dst (.int k (A.imax a b)) σ K else A.fls
      | _, _ => A.fls
    | .append, _ | .copy, _ | .delete, _ | .clear, _ | .cap, _ => if noBps A args then xop P A pr o.dst o.type (.bi b c.argTypes o.type args) σ K else A.fls
    | _, _ => A.fls
  | .value f =>
    match opnd A σ f with
    | .func (.func f) first cap =>
      if hasBody P f then callS P A pr o.dst f (first ++ args ++ cap) σ K
      else if noBps A (first ++ args ++ cap) then xop P A pr o.dst o.type (.ext f (first ++ args ++ cap)) σ K else A.fls
    | .raw fv => if noBps A args then A.callv (.raw fv) args σ.heap fun v h => exs A (ckOf P o.type) fun r => A.req (A.cVal v r) (put A pr o.dst r { σ with heap := h } K) else A.fls
    | _ => A.fls
  | .invoke r name =>
    match opnd A σ r with
    | .iface t v =>
      match (P.info? t).bind (fun i => i.methods.find? (·.name == name)) with
      | some m =>
        match m.func, m.path.toList with
        | some (f, pointerReceiver), [] =>
          match P.underlying t, pointerReceiver, v with
          | some (.pointer _), true, v => callS P A pr o.dst f (v :: args) σ K
          | some (.pointer e), false, .addr a off =>
            match isAggB P e, zeroOf P e with
            | some false, some z => loadCells A σ.heap a off [kindOf z] fun vs => match vs with
              | [w] => callS P A pr o.dst f (w :: args) σ K
              | _ => A.fls
            | _, _ => A.fls
          | some (.pointer _), false, _ => A.fls
          | some _, false, v => callS P A pr o.dst f (v :: args) σ K
          | _, _, _ => A.fls
        | _, _ => A.fls
      | none => A.fls
    | _ => A.fls

/-- The operands whose private boxes must be seen. -/
def mustSee (σ : St A.At) (op : Op) : List Nat :=
  let vs (l : List Operand) : List Nat := SV.bpss (l.map (opnd A σ))
  match op with
  | .call c => match c.callee with
    | .builtin .len => []
    | .invoke r _ => vs (r :: c.args.toList)
    | .value f => vs (f :: c.args.toList)
    | _ => vs c.args.toList
  | .store _ a v => match opnd A σ a with
    | .bp .. => []
    | _ => vs [v]
  | .buildSlice _ _ ps => vs (ps.toList.map (·.2))
  | .mapUpdate _ m k v => vs [m, k, v]
  | .makeFunc _ _ cap => vs cap.toList
  | .lookup _ m k _ => vs [m, k]
  | .slice _ x _ _ _ => vs [x]
  | .indexAddr t x _ => match opnd A σ x, P.underlying t with
    | .bp .., some (.array ..) => []
    | v, _ => v.bps
  | _ => []

def opCore (pr : Prot) (o : Oper) (σ : St A.At) (K : St A.At → A.R) : A.R :=
  let ev := opnd A σ
  match o.op with
  | .move x | .assign x => put A pr o.dst (ev x) σ K
  | .pick c a b =>
    match ev c with
    | .bools true => put A pr o.dst (ev a) σ K
    | .bools false => put A pr o.dst (ev b) σ K
    | .bool c => match asBool A (ev a), asBool A (ev b) with
      | some a, some b => put A pr o.dst (.bool (A.bsel c a b)) σ K
      | _, _ => A.fls
    | _ => A.fls
  | .alloc t => match zeroOf P t with
    | some z => newBox A pr o.dst t (ofValues A z.cells.toList) σ K
    | none => A.fls
  | .box t x => reqOnes A (rawsOf (ev x).cellsOf) (newBox A pr o.dst t (ev x).cellsOf σ K)
  | .build t parts => match buildS P A t (parts.toList.map fun p => (p.1, ev p.2)) with
    | some v => if SV.defds (parts.toList.map fun p => ev p.2) then reqOnes A (rawsOf (parts.toList.map fun p => ev p.2)) (put A pr o.dst v σ K) else A.fls
    | none => A.fls
  | .buildSlice t len parts => match sliceCells P A t len (parts.toList.map fun p => (p.1, ev p.2)) with
    | some (e, cells) =>
      if noBps A cells && SV.defds (parts.toList.map fun p => ev p.2) then reqOnes A (rawsOf (parts.toList.map fun p => ev p.2)) <| A.all .nat fun b => A.asm (A.cFree σ.heap b)
        (A.letH (A.hnew σ.heap b e cells) fun h => put A pr o.dst (.slice (A.psome (A.blk b) 0) (A.nlit len) (A.nlit len)) { σ with heap := h } K)
      else A.fls
    | none => A.fls
  | .load t a =>
    match ev a, isAggB P t, zeroOf P t, sizeO P t with
    | .bp i off, some true, _, some n => match getBox σ.boxes i with
      | some x => if Nat.ble (off + n) x.cells.length then put A pr o.dst (.agg ((x.cells.drop off).take n)) σ K else A.fls
      | none => A.fls
    | .bp i off, some false, _, _ => match (getBox σ.boxes i).bind (·.cells[off]?) with
      | some v => put A pr o.dst v σ K
      | none => A.fls
    | .addr a off, some true, some (.agg ⟨z⟩), some n =>
      if z.length == n then loadCells A σ.heap a off (kindsOf z) fun vs => put A pr o.dst (.agg vs) σ K else A.fls
    | .addr a off, some false, some z, _ => loadCells A σ.heap a off [kindOf z] fun vs => match vs with
      | [v] => put A pr o.dst v σ K
      | _ => A.fls
    | _, _, _, _ => A.fls
  | .store t a x =>
    if o.dst.isSome then A.fls else
    match ev a, sizeO P t with
    | .bp i off, some n =>
      if pr.boxes.contains i || !(ev x).defd || !ones (ev x).cellsOf then A.fls else
      match getBox σ.boxes i with
      | some y =>
        if (ev x).cellsOf.length == n && Nat.ble (off + n) y.cells.length then reqOnes A (rawsOf (ev x).cellsOf) <| K { σ with boxes := setBox i (setCells y.cells off (ev x).cellsOf) σ.boxes } else A.fls
      | none => A.fls
    | .addr a off, some n =>
      if (ev x).cellsOf.length == n && noBps A [ev x] && ones (ev x).cellsOf then reqOnes A (rawsOf (ev x).cellsOf) <| storeCells A a off (ev x).cellsOf σ.heap fun h => A.letH h fun h => K { σ with heap := h } else A.fls
    | _, _ => A.fls
  | .nilCheck x =>
    match ev x with
    | .bp i off => put A pr o.dst (.bp i off) σ K
    | .addr a off => put A pr o.dst (.addr a off) σ K
    | .optr p => A.ex .addr fun a => A.req (A.cSome p a) (put A pr o.dst (.addr a 0) σ K)
    | .func (.func f) first cap => put A pr o.dst (.func (.func f) first cap) σ K
    | .iface t v => put A pr o.dst (.iface t v) σ K
    | _ => A.fls
  | .binOp op t x y _ => opBin P A pr o op t (ev x) (ev y) σ K
  | .unOp op _ x =>
    match op, ev x with
    | .not, v => match notS A v with
      | some r => put A pr o.dst r σ K
      | none => A.fls
    | .neg, v => match asInt A v with
      | some (k, a) => put A pr o.dst (.int k (A.iop .sub k (A.ilit 0) a)) σ K
      | none => A.fls
    | _, _ => A.fls
  | .convert s d x =>
    match P.underlying s, P.underlying d, ev x with
    | some (.int _), some (.int k), .int _ a => put A pr o.dst (.int k (A.iconv k a)) σ K
    | some (.int _), some (.int k), .ints _ n => put A pr o.dst (.ints k (k.wrap n)) σ K
    | some .string, some .string, v => match asStr A v with
      | some _ => put A pr o.dst v σ K
      | none => A.fls
    | some (.int _), some .string, _ => A.fls
    | some _, some _, v => if noBps A [v] then xop P A pr o.dst o.type (.convert s d v) σ K else A.fls
    | _, _, _ => A.fls
  | .makeInterface t x => match P.underlying t with
    | some (.interface _) => A.fls
    | some _ => put A pr o.dst (.iface t (ev x)) σ K
    | none => A.fls
  | .makeFunc fn first cap => put A pr o.dst (.func fn (first.toList.map ev) (cap.toList.map ev)) σ K
  | .makeMap t none => xop P A pr o.dst o.type (.makeMap t) σ K
  | .makeSlice t l c => if noBps A [ev l, ev c] then xop P A pr o.dst o.type (.makeSlice t (ev l) (ev c)) σ K else A.fls
  | .lookup t m k ok => if noBps A [ev m, ev k] then xop P A pr o.dst o.type (.lookup t (ev m) (ev k) ok) σ K else A.fls
  | .mapUpdate t m k v => if o.dst.isNone && noBps A [ev m, ev k, ev v] then xop P A pr none o.type (.mapUpdate t (ev m) (ev k) (ev v)) σ K else A.fls
  | .slice t x lo hi mx =>
    match P.underlying t, lowS A (lo.map ev), lowS A (hi.map ev), lowS A (mx.map ev) with
    | some (.slice e), some l, some h, some m => match asSlice A (ev x), sizeO P e with
      | some (p, len, cap), some size => sliceS A size p len cap l h m fun v => put A pr o.dst v σ K
      | _, _ => A.fls
    | some .string, some l, some h, some none => match asStr A (ev x) with
      | some s =>
        let withH (K : A.At .nat → A.R) : A.R := match h with
          | some v => A.req (A.cLe v (A.slen s)) (K (A.toNat v))
          | none => K (A.slen s)
        withH fun h => match l with
          | some v => A.req (A.cLe v h) (put A pr o.dst (.str (A.sext s (A.toNat v) h)) σ K)
          | none => put A pr o.dst (.str (A.sext s (A.nlit 0) h)) σ K
      | none => A.fls
    | _, _, _, _ => A.fls
  | .fieldAddr s x f =>
    match ev x, fieldOff P s f with
    | .bp i off, some n => put A pr o.dst (.bp i (off + n)) σ K
    | .addr a off, some n => put A pr o.dst (.addr a (off + n)) σ K
    | _, _ => A.fls
  | .field t x f =>
    match ev x, P.underlying t with
    | .agg cs, some (.struct fs) => match fs[f]? with
      | some fl => match isAggB P fl.type, sizeO P fl.type with
        | some true, some n => if Nat.ble (fl.offset + n) cs.length then put A pr o.dst (.agg ((cs.drop fl.offset).take n)) σ K else A.fls
        | some false, _ => match cs[fl.offset]? with
          | some v => put A pr o.dst v σ K
          | none => A.fls
        | _, _ => A.fls
      | none => A.fls
    | _, _ => A.fls
  | .indexAddr t x i =>
    match P.underlying t, ev x, asInt A (ev i) with
    | some (.slice e), .slice p len _, some (_, n) => match sizeO P e with
      | some size => A.ex .addr fun a => A.req (A.cSome p a) (A.req (A.cIdx n len) (put A pr o.dst (.addr (A.aidx a 0 n size) 0) σ K))
      | none => A.fls
    | some (.array len e), .bp j off, some _ => match ev i, sizeO P e with
      | .ints _ n, some size => if decide (0 ≤ n) && decide (n < (len : Int)) then put A pr o.dst (.bp j (off + n.toNat * size)) σ K else A.fls
      | _, _ => A.fls
    | some (.array len e), .addr a off, some (_, n) => match sizeO P e with
      | some size => A.req (A.cIdx n (A.nlit len)) (put A pr o.dst (.addr (A.aidx a off n size) 0) σ K)
      | none => A.fls
    | _, _, _ => A.fls
  | .index t x i =>
    match P.underlying t, asInt A (ev i) with
    | some .string, some (_, n) => match asStr A (ev x) with
      | some s => A.req (A.cIdx n (A.slen s)) (put A pr o.dst (.int .u8 (A.sget s n)) σ K)
      | none => A.fls
    | some (.array len e), some _ => match ev x, ev i, isAggB P e with
      | .agg cs, .ints _ n, some false => if decide (0 ≤ n) && decide (n < (len : Int)) then match cs[n.toNat * 1]? with
          | some v => if sizeO P e == some 1 then put A pr o.dst v σ K else A.fls
          | none => A.fls
        else A.fls
      | _, _, _ => A.fls
    | _, _ => A.fls
  | .extract t i =>
    match ev t with
    | .tuple vs => match vs[i]? with
      | some v => put A pr o.dst v σ K
      | none => A.fls
    | _ => A.fls
  | .typeAssert x _ t ok =>
    match ev x, P.underlying t with
    | _, some (.interface _) => A.fls
    | .iface u v, some _ => if u == t then put A pr o.dst (if ok then .tuple [v, .bools true] else v) σ K else A.fls
    | _, _ => A.fls
  | .call c => opCall P A pr o c σ K
  | _ => A.fls

def liftOp (pr : Prot) (o : Oper) (σ : St A.At) (K : St A.At → A.R) : A.R :=
  publishAll A pr (mustSee P A σ o.op) σ fun σ' => opCore P A pr o σ' K

/-- Slots of a state that are carried round, with their kinds. -/
def packs (ts : List Nat) : List (Nat × SV A.At) → List (Nat × CK)
  | [] => []
  | (u, v) :: r => if ts.contains u then match ckSV v with
      | some c => (u, c) :: packs ts r
      | none => packs ts r
    else packs ts r

def packBoxes (is : List Nat) : List (Box A.At) → List (Nat × TypeId × List CK)
  | [] => []
  | x :: r => if is.contains x.id then match cksSV x.cells with
      | some c => (x.id, x.type, c) :: packBoxes is r
      | none => packBoxes is r
    else packBoxes is r

def keepBoxes {At : AK → Type} (is : List Nat) : List (Box At) → List (Box At)
  | [] => []
  | x :: r => if is.contains x.id then keepBoxes is r else x :: keepBoxes is r

structure JS where
  slots : List (Nat × CK)
  boxes : List (Nat × TypeId × List CK)

def JS.kinds (j : JS) : List CK := j.slots.map (·.2) ++ j.boxes.map (fun x => .agg x.2.2)

def packSlots (σ : St A.At) : List (Nat × CK) → Option (List (SV A.At))
  | [] => some []
  | (t, c) :: r =>
    let v := getEnv σ.env t
    if conf c v then (packSlots σ r).map (v :: ·) else none

def packBx (σ : St A.At) : List (Nat × TypeId × List CK) → Option (List (SV A.At))
  | [] => some []
  | (i, t, c) :: r =>
    match getBox σ.boxes i with
    | some x => if confL c x.cells && x.type == t then (packBx σ r).map (.agg x.cells :: ·) else none
    | none => none

def JS.pack (j : JS) (σ : St A.At) : Option (List (SV A.At)) :=
  match packSlots A σ j.slots, packBx A σ j.boxes with
  | some a, some b => some (a ++ b)
  | _, _ => none

def unpackSlots : List (Nat × CK) → List (SV A.At) → List (Nat × SV A.At)
  | (t, _) :: r, v :: vs => (t, v) :: unpackSlots r vs
  | _, _ => []

def unpackBx : List (Nat × TypeId × List CK) → List (SV A.At) → List (Box A.At)
  | (i, t, _) :: r, v :: vs => ⟨i, t, v.cellsOf⟩ :: unpackBx r vs
  | _, _ => []

def JS.unpack (j : JS) (base : St A.At) (vs : List (SV A.At)) (h : A.At .heap) : St A.At :=
  { env := unpackSlots A j.slots (vs.take j.slots.length) ++ base.env, boxes := unpackBx A j.boxes (vs.drop j.slots.length) ++ base.boxes, heap := h }

/-- What a piece of code may turn: its slots, and the boxes that it may store into. -/
def JS.of (ts : List Nat) (is : List Nat) (σ : St A.At) : JS := ⟨packs A ts σ.env, packBoxes A is σ.boxes⟩
def baseOf (ts : List Nat) (is : List Nat) (σ : St A.At) : St A.At := { σ with env := keepEnv ts σ.env, boxes := keepBoxes is σ.boxes }
def Prot.add (pr : Prot) (base : St A.At) : Prot := ⟨base.env.map (·.1) ++ pr.slots, base.boxes.map (·.id) ++ pr.boxes, pr.n⟩

def openOf (closed l : List Nat) : List Nat := l.filter fun t => !closed.contains t

/-- A join: body ends (once or more often), rest goes on from there. -/
def joinAt (pr : Prot) (ts is : List Nat) (extra : List (Nat × CK)) (σ : St A.At)
    (body : Prot → (St A.At → A.R) → St A.At → A.R) (rest : St A.At → A.R) : A.R :=
  let ts := openOf pr.slots ts
  let is := openOf pr.boxes is
  let j0 := JS.of A ts is σ
  let j : JS := { j0 with slots := (extra.filter fun x => ts.contains x.1) ++ j0.slots.filter fun x => !(extra.any fun y => y.1 == x.1) }
  let base := baseOf A ts is σ
  A.join
    (fun I => body (pr.add A base) (fun σ' => match j.pack A σ' with | some vs => I vs σ'.heap | none => A.fls) σ)
    (fun I => allsL A j.kinds fun vs => A.all .heap fun h => A.imp (I vs h) (rest (j.unpack A base vs h)))

/-- A region's operations, one behind the other. -/
def isGuarded (o : Oper) : Bool := o.guard.isSome
def isPick : Op → Bool
  | .pick .. => true
  | _ => false

/-- Up to the last operation that is guarded, or picks. -/
def segLen : List Oper → Nat
  | [] => 0
  | o :: r => if isGuarded o || isPick o.op then segLen r + 1 else match segLen r with | 0 => 0 | n => n + 1

def dsts (l : List Oper) : List Nat := l.filterMap (·.dst)

/-- The slots that guards ask. -/
def gslots (all : Array Oper) (l : List Oper) : List Nat :=
  l.filterMap fun o => match o.guard with
    | some (j, _) => (all[j]?).bind (·.dst)
    | none => none

/-- Slots that unguarded operations of a segment fill, with kinds by their types. -/
def segOuts (l : List Oper) : List (Nat × CK) :=
  l.filterMap fun o => match o.op, o.dst, o.guard with
    | .pick .., some d, none => some (d, ckOf P o.type)
    | _, _, _ => none

def setKnown (t : Nat) (b : Bool) (σ : St A.At) : St A.At := { σ with env := (t, .bools b) :: dropEnv t σ.env }

/-- Operations, each behind its guard; where a guard is open, both ways. -/
def opsFork (pr : Prot) (all : Array Oper) : List Oper → St A.At → (St A.At → A.R) → A.R
  | [], σ, K => K σ
  | o :: r, σ, K =>
    match o.guard with
    | none => liftOp P A pr o σ fun σ' => opsFork pr all r σ' K
    | some (j, want) =>
      match (all[j]?).bind (·.dst) with
      | none => A.fls
      | some t =>
        match getEnv σ.env t with
        | .bools b => if b == want then liftOp P A pr o σ fun σ' => opsFork pr all r σ' K
            else put A pr o.dst (.tuple []) σ fun σ' => opsFork pr all r σ' K
        | .bool b =>
          if pr.slots.contains t then A.fls else
          A.br b
            (if want then liftOp P A pr o (setKnown A t true σ) fun σ' => opsFork pr all r σ' K
              else put A pr o.dst (.tuple []) (setKnown A t true σ) fun σ' => opsFork pr all r σ' K)
            (if want then put A pr o.dst (.tuple []) (setKnown A t false σ) fun σ' => opsFork pr all r σ' K
              else liftOp P A pr o (setKnown A t false σ) fun σ' => opsFork pr all r σ' K)
        | .tuple [] => put A pr o.dst (.tuple []) σ fun σ' => opsFork pr all r σ' K
        | _ => A.fls

def liftOps (pr : Prot) (all : Array Oper) : Nat → List Oper → St A.At → (St A.At → A.R) → A.R
  | 0, _, _, _ => A.fls
  | _ + 1, [], σ, K => K σ
  | n + 1, o :: r, σ, K =>
    match o.guard with
    | none => liftOp P A pr o σ fun σ' => liftOps pr all n r σ' K
    | some _ =>
      let k := segLen (o :: r)
      let seg := (o :: r).take k
      let rest := (o :: r).drop k
      match rest with
      | [] => joinAt A pr (gslots all seg ++ dsts seg) [] (segOuts P seg) σ (fun pr' K' σ => opsFork P A pr' all seg σ K') K
      | _ => joinAt A pr (gslots all seg ++ dsts seg) [] (segOuts P seg) σ (fun pr' K' σ => opsFork P A pr' all seg σ K') fun σ' => liftOps pr all n rest σ' K

/-! ### Regions that draw their order -/

/-- Slots whose boxes are stored into (a store's address, and what it was made from). -/
def storedFrom : List Oper → List Nat → List Nat
  | [], acc => acc
  | o :: r, acc =>
    let acc := match o.op with
      | .store _ (.tmp t) _ => t :: acc
      | .fieldAddr _ (.tmp t) _ | .nilCheck (.tmp t) | .indexAddr _ (.tmp t) _ | .move (.tmp t) =>
        match o.dst with | some d => if acc.contains d then t :: acc else acc | none => acc
      | _ => acc
    storedFrom r acc


def quietBin (op : BinOp) (vx vy : SV A.At) : Bool :=
  match asInt A vx, asInt A vy with
  | some _, some _ => true
  | _, _ => match asBool A vx, asBool A vy with
    | some _, some _ => true
    | _, _ => match asStr A vx, asStr A vy with
      | some _, some _ => isCmp op
      | _, _ => (nilness A vx vy).isSome

/-- Operations that yield a value and do nothing else. -/
def isQuiet (σ : St A.At) : Op → Bool
  | .move _ | .assign _ | .pick .. | .build .. | .load .. | .nilCheck _ | .unOp .. | .makeInterface .. | .makeFunc .. | .fieldAddr .. | .field ..
  | .indexAddr .. | .index .. | .extract .. | .typeAssert .. | .slice .. => true
  | .convert s d x => match P.underlying s, P.underlying d, opnd A σ x with
    | some (.int _), some (.int _), .int .. => true
    | some (.int _), some (.int _), .ints .. => true
    | some .string, some .string, _ => true
    | _, _, _ => false
  | .binOp op _ x y _ => quietBin A op (opnd A σ x) (opnd A σ y)
  | .call c => match c.callee, c.args.toList.map (opnd A σ) with
    | .builtin .len, [.omap _] => false
    | .builtin .len, [_] => true
    | .builtin .min, [_, _] => true
    | .builtin .max, [_, _] => true
    | _, _ => false
  | _ => false

def isLoad : Op → Bool
  | .load .. => true
  | _ => false

def isGrow : Op → Bool
  | .store .. | .alloc _ | .box .. | .mapUpdate .. | .insert .. => true
  | .call c => match c.callee with
    | .builtin .append | .builtin .copy | .builtin .delete | .builtin .clear => true
    | _ => false
  | _ => false

def growIx : List Oper → Nat → Nat
  | [], k => k
  | o :: r, k => if isGrow o.op then k else growIx r (k + 1)

/-- What must have come up before what is marked. -/
def backs (ops : Array Oper) : Nat → List Nat → List Nat
  | 0, m => m
  | k + 1, m => backs ops k (if m.contains k then (match ops[k]? with
      | some o => (o.after.toList.filter fun e => Region.binds .any e).map (·.on) ++ m
      | none => m) else m)

def isEff : Op → Bool
  | .call c => match c.callee with
    | .builtin .len | .builtin .min | .builtin .max | .builtin .cap => false
    | _ => true
  | _ => false

/-- The last call of a region. -/
def lastEff : List Oper → Nat → Nat → Nat
  | [], _, d => d
  | o :: r, k, d => lastEff r (k + 1) (if isEff o.op then k else d)

def loadsIn : List Oper → Nat → List Nat → Bool
  | [], _, _ => true
  | o :: r, k, anc => (!isLoad o.op || anc.contains k) && loadsIn r (k + 1) anc

/-- The operation behind which what was seen need not stand any more. -/
def growAt (ops : Array Oper) : Nat :=
  let g := growIx ops.toList 0
  if Nat.blt g ops.size then g else
    let e := lastEff ops.toList 0 ops.size
    if loadsIn ops.toList 0 (backs ops ops.size [e]) then e else ops.size

/-- Each load stands ahead of g, or behind it. -/
def loadsBy (ops : Array Oper) (g : Nat) : List Oper → Nat → List Nat → Bool
  | [], _, _ => true
  | o :: r, k, anc => (!isLoad o.op || anc.contains k || (backs ops ops.size [k]).contains g) && loadsBy ops g r (k + 1) anc

def isStore : Op → Bool
  | .store .. | .mapUpdate .. | .insert .. => true
  | _ => false

/-- Loads that don't stand ahead of g stand one behind the other. -/
def loadsChain (ops : Array Oper) (anc : List Nat) : List Oper → Nat → List Nat → Bool
  | [], _, _ => true
  | o :: r, k, seen =>
    if isLoad o.op && !anc.contains k then (seen.all fun j => (backs ops ops.size [k]).contains j) && loadsChain ops anc r (k + 1) (k :: seen)
    else loadsChain ops anc r (k + 1) seen

/-- What has an effect stands ahead of a load, or behind it. -/
def effApart (ops : Array Oper) (k : Nat) : List Oper → Nat → Bool
  | [], _ => true
  | o :: r, m => (!(isGrow o.op || isEff o.op) || (backs ops ops.size [k]).contains m || (backs ops ops.size [m]).contains k) && effApart ops k r (m + 1)

def loadsCalm (ops : Array Oper) (anc : List Nat) : List Oper → Nat → Bool
  | [], _ => true
  | o :: r, k => (!isLoad o.op || anc.contains k || effApart ops k ops.toList 0) && loadsCalm ops anc r (k + 1)

/-- The first operation with an effect ahead of which (or behind which) each load must stand. -/
def drawAt (ops : Array Oper) (strict : Bool) : List Oper → Nat → Option Nat
  | [], _ => none
  | o :: r, k => if (isGrow o.op || isEff o.op) && (if strict then loadsIn ops.toList 0 (backs ops ops.size [k]) else loadsBy ops k ops.toList 0 (backs ops ops.size [k]) && loadsChain ops (backs ops ops.size [k]) ops.toList 0 [] && loadsCalm ops (backs ops ops.size [k]) ops.toList 0) then some k else drawAt ops strict r (k + 1)

/-- Where what was seen ends to stand; false: nothing need stand but private boxes. -/
def drawMode (ops : Array Oper) : Nat × Bool :=
  match drawAt ops true ops.toList 0 with
  | some c => (c, !((ops.toList.take c).any fun o => isStore o.op))
  | none => match drawAt ops false ops.toList 0 with
    | some c => (c, !((ops.toList.take c).any fun o => isStore o.op))
    | none => (growAt ops, true)

inductive Gd (At : AK → Type) where
  | yes | no | bad
  | open (t : Nat) (b : At .bool)

def guardS (ops : Array Oper) (σ : St A.At) (o : Oper) : Gd A.At :=
  match o.guard with
  | none => .yes
  | some (j, want) => match (ops[j]?).bind (·.dst) with
    | none => .bad
    | some t => match getEnv σ.env t with
      | .bools b => if b == want then .yes else .no
      | .bool b => .open t b
      | .tuple [] => .no
      | _ => .bad

def openGuard (ops : Array Oper) (σ : St A.At) : List Nat → Option (Nat × A.At .bool)
  | [] => none
  | i :: r => match ops[i]? with
    | none => openGuard ops σ r
    | some o => match guardS A ops σ o with
      | .open t b => some (t, b)
      | _ => openGuard ops σ r

/-- May it be taken first? -/
def mayTake (ops : Array Oper) (j0 : Nat) (anc : List Nat) (L : Array Bool) (σ : St A.At) (i : Nat) : Bool :=
  match ops[i]? with
  | none => false
  | some o => match guardS A ops σ o with
    | .yes => !(i == j0) && isQuiet P A σ o.op && (!isLoad o.op || (!L.getD j0 false && (anc.contains i || Nat.ble ops.size j0))) && (mustSee P A σ o.op).isEmpty && Region.free .any ops L i
    | .no => !(i == j0) && Region.free .any ops L i
    | _ => false

def noBpEnv {At : AK → Type} : List (Nat × SV At) → List (Nat × SV At)
  | [] => []
  | (u, v) :: r => if v.bps.isEmpty then (u, v) :: noBpEnv r else (u, .undef) :: noBpEnv r

/-- An operation that may do something, which keeps what was seen. -/
def effOp (pr : Prot) (o : Oper) (hs : A.At .heap) (σ : St A.At) (K : St A.At → A.R) : A.R :=
  opCore P A pr o { env := noBpEnv σ.env, boxes := [], heap := σ.heap } fun σ' =>
    match o.dst with
    | none => A.req (A.cLeH hs σ'.heap) (K { σ with heap := σ'.heap })
    | some d => let v := getEnv σ'.env d
      if v.bps.isEmpty then A.req (A.cLeH hs σ'.heap) (put A pr (some d) v { σ with heap := σ'.heap } K) else A.fls

def drawGo (pr : Prot) (ops : Array Oper) (j0 : Nat) (anc : List Nat) (hs : A.At .heap) : Nat → Array Bool → St A.At → (St A.At → A.R) → A.R
  | 0, _, _, _ => A.fls
  | n + 1, L, σ, K =>
    match Region.ready .any ops L with
    | [] => K σ
    | i0 :: rs =>
      match openGuard A ops σ (i0 :: rs) with
      | some (t, b) => if pr.slots.contains t then A.fls else
          A.br b (drawGo pr ops j0 anc hs n L (setKnown A t true σ) K) (drawGo pr ops j0 anc hs n L (setKnown A t false σ) K)
      | none =>
        match (i0 :: rs).find? (mayTake P A ops j0 anc L σ) with
        | some i => match ops[i]? with
          | none => A.fls
          | some o => match guardS A ops σ o with
            | .yes => opCore P A pr o (if isLoad o.op then { σ with heap := hs } else σ) fun σ' => drawGo pr ops j0 anc hs n (L.setIfInBounds i true) (if isLoad o.op then { σ' with heap := σ.heap } else σ') K
            | .no => put A pr o.dst (.tuple []) σ fun σ' => drawGo pr ops j0 anc hs n (L.setIfInBounds i true) σ' K
            | _ => A.fls
        | none => match rs with
          | [] => match ops[i0]? with
            | none => A.fls
            | some o => match guardS A ops σ o with
              | .yes => if L.getD j0 false || i0 == j0 then liftOp P A pr o σ fun σ' => drawGo pr ops j0 anc hs n (L.setIfInBounds i0 true) σ' K
                  else effOp P A pr o hs σ fun σ' => drawGo pr ops j0 anc hs n (L.setIfInBounds i0 true) σ' K
              | .no => put A pr o.dst (.tuple []) σ fun σ' => drawGo pr ops j0 anc hs n (L.setIfInBounds i0 true) σ' K
              | _ => A.fls
          | _ => A.fls

def tmpsOf (l : List Operand) : List Nat := l.filterMap fun | .tmp t => some t | _ => none

/-- Slots whose boxes calls of a region may come to see. -/
def seenFrom : List Oper → List Nat → List Nat
  | [], acc => acc
  | o :: r, acc =>
    let acc := match o.op with
      | .call c => match c.callee with
        | .builtin .len => acc
        | _ => tmpsOf o.op.operands.toList ++ acc
      | .mapUpdate .. | .lookup .. | .buildSlice .. => tmpsOf o.op.operands.toList ++ acc
      | .move _ | .assign _ | .nilCheck _ | .fieldAddr .. | .indexAddr .. | .slice .. | .makeInterface .. | .makeFunc .. | .build .. | .pick .. | .extract .. | .typeAssert .. | .field .. =>
        match o.dst with | some d => if acc.contains d then tmpsOf o.op.operands.toList ++ acc else acc | none => acc
      | _ => acc
    seenFrom r acc

def drawOuts (l : List Oper) : List (Nat × CK) :=
  l.filterMap fun o => match o.op, o.dst, o.guard with
    | .pick .., some d, none => some (d, ckOf P o.type)
    | .assign _, some d, none => some (d, ckOf P o.type)
    | _, _, _ => none

def liftDraw (pr : Prot) (ops : Array Oper) (σ : St A.At) (K : St A.At → A.R) : A.R :=
  if !Region.noSelect ops then A.fls else
  let j0 := (drawMode ops).1
  let anc := backs ops ops.size [j0]
  let seen := (seenFrom (ops.toList.reverse) []).flatMap fun t => (getEnv σ.env t).bps
  publishAll A pr seen σ fun σ =>
    if ops.any isGuarded then
      joinAt A pr (dsts ops.toList) ((storedFrom ops.toList.reverse []).flatMap fun t => (getEnv σ.env t).bps) (drawOuts P ops.toList) σ
        (fun pr' K' σ => drawGo P A pr' ops j0 anc (if (drawMode ops).2 then σ.heap else A.hnil) (3 * ops.size + 3) (Array.replicate ops.size false) σ K') K
    else drawGo P A pr ops j0 anc (if (drawMode ops).2 then σ.heap else A.hnil) (3 * ops.size + 3) (Array.replicate ops.size false) σ K

/-- Slots that code fills. -/
def slotsIn : Code → List Nat
  | .region _ ops _ => dsts ops.toList
  | .seq a b => slotsIn a ++ slotsIn b
  | .cond _ a b => slotsIn a ++ slotsIn b
  | .block _ b => slotsIn b
  | .loop b => slotsIn b
  | .scope b => slotsIn b
  | _ => []

def opersIn : Code → List Oper
  | .region _ ops _ => ops.toList
  | .seq a b => opersIn a ++ opersIn b
  | .cond _ a b => opersIn a ++ opersIn b
  | .block _ b => opersIn b
  | .loop b => opersIn b
  | .scope b => opersIn b
  | _ => []

def storedBoxes (c : Code) (σ : St A.At) : List Nat :=
  (storedFrom (opersIn c).reverse []).flatMap fun t => (getEnv σ.env t).bps

/-- How often code ends by itself; how often it leaves a block. -/
def exitsOf (id : Nat) : Code → Nat
  | .exit j => if j == id then 1 else 0
  | .seq a b => exitsOf id a + exitsOf id b
  | .cond _ a b => exitsOf id a + exitsOf id b
  | .block _ b => exitsOf id b
  | .loop b => exitsOf id b
  | .scope b => exitsOf id b
  | _ => 0

def endsOf : Code → Nat
  | .skip => 1
  | .region .. => 1
  | .seq a b => if endsOf a == 0 then 0 else endsOf b
  | .cond _ a b => endsOf a + endsOf b
  | .block id b => endsOf b + exitsOf id b
  | .scope b => endsOf b
  | _ => 0

inductive Ex where
  | normal | exit (id : Nat) | ret

def liftCode : Code → Prot → (Ex → St A.At → A.R) → St A.At → A.R
  | .skip, _, K, σ => K .normal σ
  | .region _ ops draw, pr, K, σ => if draw then liftDraw P A pr ops σ (K .normal) else liftOps P A pr ops (ops.size + 1) ops.toList σ (K .normal)
  | .seq a b, pr, K, σ =>
    if Nat.ble 2 (endsOf a) then
      joinAt A pr (slotsIn a) (storedBoxes A a σ) [] σ
        (fun pr' K' σ => liftCode a pr' (fun e σ' => match e with | .normal => K' σ' | e => K e σ') σ)
        (liftCode b pr K)
    else liftCode a pr (fun e σ' => match e with | .normal => liftCode b pr K σ' | e => K e σ') σ
  | .cond c t e, pr, K, σ =>
    match opnd A σ c with
    | .bools true => liftCode t pr K σ
    | .bools false => liftCode e pr K σ
    | .bool b => A.br b (liftCode t pr K σ) (liftCode e pr K σ)
    | _ => A.fls
  | .block id b, pr, K, σ => liftCode b pr (fun e σ' => match e with
      | .exit j => if j == id then K .normal σ' else K (.exit j) σ'
      | e => K e σ') σ
  | .loop b, pr, K, σ =>
    let ts := openOf pr.slots (slotsIn b)
    let is := openOf pr.boxes (storedBoxes A b σ)
    let j := JS.of A ts is σ
    let base := baseOf A ts is σ
    match j.pack A σ with
    | none => A.fls
    | some init => A.loop init σ.heap fun self I => allsL A j.kinds fun vs => A.all .heap fun h => A.imp (I vs h)
        (liftCode b (pr.add A base) (fun e σ' => match e with
          | .normal => match j.pack A σ' with | some vs' => self vs' σ'.heap | none => A.fls
          | e => K e σ') (j.unpack A base vs h))
  | .exit id, _, K, σ => K (.exit id) σ
  | .ret, _, K, σ => K .ret σ
  | _, _, _, _ => A.fls

/-- A result variable's value. -/
def resultOf (σ : St A.At) : ResultVar → SV A.At
  | .tmp t => getEnv σ.env t
  | .cell a t => match getEnv σ.env a, isAggB P t, sizeO P t with
    | .bp i off, some true, some n => match getBox σ.boxes i with
      | some x => if Nat.ble (off + n) x.cells.length then .agg ((x.cells.drop off).take n) else .undef
      | none => .undef
    | .bp i off, some false, _ => ((getBox σ.boxes i).bind (·.cells[off]?)).getD .undef
    | _, _, _ => .undef

def resultS (fn : Func) (σ : St A.At) : SV A.At :=
  match fn.results.toList.map (resultOf P A σ) with
  | [v] => v
  | vs => .tuple vs

def liftFn (f : FuncId) (args : List (SV A.At)) (h : A.At .heap) : A.R :=
  match P.funcs[f]? with
  | none => A.fls
  | some fn =>
    match fn.body with
    | none => A.fls
    | some c =>
      if !(SV.defds args && (SV.bpss args).isEmpty) || !Nat.ble args.length fn.ntmps then A.fls else
      liftCode P A c ⟨[], [], fn.ntmps⟩ (fun e σ =>
          let fin (σ : St A.At) : A.R := publishAll A ⟨[], [], fn.ntmps⟩ (resultS P A fn σ).bps σ fun σ' =>
            let r := resultS P A fn σ'
            if r.defd && r.bps.isEmpty then A.ret r σ'.heap else A.fls
          match e with
          | .normal => fin σ
          | .ret => fin σ
          | .exit _ => A.fls)
        { env := args.zipIdx.map fun (v, i) => (i, v), boxes := [], heap := h }
end
end Lf

