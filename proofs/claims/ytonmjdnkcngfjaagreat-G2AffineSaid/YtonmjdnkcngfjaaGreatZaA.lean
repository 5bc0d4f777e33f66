/- DERIVED. Texts laid together: VEng VS1 VS2 VS3 VS4 VS5 VSQ VSY VS6 VS7 VS8 VS9 VSA VSB VSC. -/
import Derived.WalkKit
import Derived.Orders
import Derived.Laws.Strings
import Derived.Scope
import Derived.OrdersIn
import Derived.LoopNIn
import Derived.RangeFuncCalls
import Derived.Laws.BytesArg
/- DERIVED. A small executor over the model's code, the second, with slices and calls that write: definitions. -/
set_option linter.all false
namespace Go.Proofs.YtonmjdnkcngfjaaGreat.En
open Go

/-- Chunks of cells that the executor does not look into. -/
class Ab (A : Type) where
  cells : A → List Value
  size : A → Nat
  beq : A → A → Option Bool

/-- The name of a block: one of the state's own list, or one of the families that came in. -/
inductive Key where
  | own (k : Nat)
  | inp (t i : Nat)

/-- A step of an address: element number i of z cells each, and an offset behind it. -/
structure Stp where
  i : Nat
  z : Nat
  o : Nat

inductive LV (A : Type) where
  | any
  | undef
  | int (k : IntKind) (n : Int)
  | bool (b : Bool)
  | str (s : ByteArray)
  | ptr (b : Key) (o : Nat) (p : List Stp)
  | nilp
  /-- A slice of known capacity, never nil. -/
  | slice (b : Key) (o : Nat) (p : List Stp) (len cap : Nat)
  /-- A whole block as a slice; its capacity is the block's; nil if the block is none. -/
  | vec (b : Key) (len : Nat)
  | nils
  | nilfn
  | niliface
  | abs (x : A)
  /-- So many rows of so many cells. -/
  | rows (n z : Nat) (f : Nat → List (LV A))
  | agg (us : List (LV A))
  | tup (vs : List (LV A))
  | iface (t : TypeId) (v : LV A)
  | func (f : FuncId) (caps : List (LV A))

/-- Where a block lies: its number, the offset of its first cell; as a slice: its capacity; whether it has no cells, and, if so, what its empty slice points to (nil: nothing). -/
structure Loc where
  blk : Nat
  off : Nat
  cap : Nat
  none : Bool
  at0 : Option Addr

def Loc.at (l : Loc) (n : Nat) : Addr := ⟨l.blk, l.off + n, Option.none⟩
def adr (o : Nat) : List Stp → Nat
  | [] => o
  | s :: p => adr (o + s.i * s.z + s.o) p
def fitTo (z : Nat) (l : List Value) : List Value := (l ++ List.replicate z (Value.bool false)).take z
def vecV (l : Loc) (len : Nat) : Value := match l.none && Nat.beq len 0 with
  | true => .slice l.at0 0 0
  | false => .slice (some (l.at 0)) len l.cap

section
variable {A : Type} [Ab A] (ρ : Key → Loc)
mutual
def LV.tr : LV A → Value
  | .any => Go.undef
  | .undef => Go.undef
  | .int k n => .int k n
  | .bool b => .bool b
  | .str s => .string s
  | .ptr b o p => .pointer (some ((ρ b).at (adr o p)))
  | .nilp => .pointer none
  | .slice b o p len cap => .slice (some ((ρ b).at (adr o p))) len cap
  | .vec b len => vecV (ρ b) len
  | .nils => .slice none 0 0
  | .nilfn => .nilFunc
  | .niliface => .nilIface
  | .abs x => .agg (Ab.cells x).toArray
  | .rows n z f => .agg ((List.range n).flatMap fun i => fitTo z (cellsL (f i))).toArray
  | .agg us => .agg (cellsL us).toArray
  | .tup vs => .tuple (trs vs).toArray
  | .iface t v => .iface t (LV.tr v)
  | .func f caps => .func (.func f) #[] (trs caps).toArray
def LV.cells : LV A → List Value
  | .any => [.bool false]
  | .undef => [.bool false]
  | .int k n => [.int k n]
  | .bool b => [.bool b]
  | .str s => [.string s]
  | .ptr b o p => [.pointer (some ((ρ b).at (adr o p)))]
  | .nilp => [.pointer none]
  | .slice b o p len cap => [.slice (some ((ρ b).at (adr o p))) len cap]
  | .vec b len => [vecV (ρ b) len]
  | .nils => [.slice none 0 0]
  | .nilfn => [.nilFunc]
  | .niliface => [.nilIface]
  | .abs x => Ab.cells x
  | .rows n z f => (List.range n).flatMap fun i => fitTo z (cellsL (f i))
  | .agg us => cellsL us
  | .tup _ => [.bool false]
  | .iface t v => [.iface t (LV.tr v)]
  | .func f caps => [.func (.func f) #[] (trs caps).toArray]
def trs : List (LV A) → List Value
  | [] => []
  | v :: l => LV.tr v :: trs l
def cellsL : List (LV A) → List Value
  | [] => []
  | v :: l => LV.cells v ++ cellsL l
end
end

section
variable {A : Type} [Ab A]

mutual
/-- How many cells a value has. -/
def csz : LV A → Nat
  | .abs x => Ab.size x
  | .rows n z _ => n * z
  | .agg us => cszL us
  | .any => 1
  | .undef => 1
  | .int _ _ => 1
  | .bool _ => 1
  | .str _ => 1
  | .ptr _ _ _ => 1
  | .nilp => 1
  | .slice _ _ _ _ _ => 1
  | .vec _ _ => 1
  | .nils => 1
  | .nilfn => 1
  | .niliface => 1
  | .tup _ => 1
  | .iface _ _ => 1
  | .func _ _ => 1
def cszL : List (LV A) → Nat
  | [] => 0
  | v :: l => csz v + cszL l
end

/-- What a block is: only read · written too · a row of a slice of so a type, which may be appended to · gone. -/
inductive Kd where
  | ro | rw | row (e : TypeId) | dead

structure Blk (A : Type) where
  kd : Kd
  us : List (LV A)

abbrev Mem (A : Type) := List (Option (Blk A))

structure LS (A : Type) where
  tmps : List (LV A)
  mem : Mem A
  conds : List (Option Prop)

/-! ## constants -/
def ofCell : Value → Option (LV A)
  | .int k n => some (.int k n)
  | .bool b => some (.bool b)
  | .string s => some (.str s)
  | .pointer none => some .nilp
  | .slice none 0 0 => some .nils
  | .nilFunc => some .nilfn
  | .nilIface => some .niliface
  | _ => none
def ofCells : List Value → Option (List (LV A))
  | [] => some []
  | v :: l => match ofCell v with
    | some u => match ofCells l with
      | some us => some (u :: us)
      | none => none
    | none => none
def ofConst : Value → Option (LV A)
  | .agg cs => match ofCells cs.toList with
    | some us => some (.agg us)
    | none => none
  | v => ofCell v

def getT (l : List (LV A)) (t : Nat) : Option (LV A) := match l[t]? with
  | some .any => none
  | some v => some v
  | none => none
def ev (l : List (LV A)) : Operand → Option (LV A)
  | .tmp t => getT l t
  | .const v => ofConst v
  | .global _ => none
  | .func f => some (.func f [])
def mapE (E : Operand → Option (LV A)) : List Operand → Option (List (LV A))
  | [] => some []
  | x :: xs => match E x with
    | some v => match mapE E xs with
      | some vs => some (v :: vs)
      | none => none
    | none => none

/-! ## units -/
def noTup : LV A → Bool
  | .tup _ => false
  | .any => false
  | .undef => false
  | _ => true
/-- A value as units of a block. -/
def units : LV A → List (LV A)
  | .agg us => us
  | v => [v]
/-- So many cells from an offset on, as units. -/
def rd : List (LV A) → Nat → Nat → Option (List (LV A))
  | [], off, sz => match Nat.beq off 0 && Nat.beq sz 0 with
    | true => some []
    | false => none
  | u :: us, off, sz => match Nat.beq off 0 && Nat.beq sz 0 with
    | true => some []
    | false => match Nat.beq off 0 with
      | true => match Nat.ble (csz u) sz with
        | true => match rd us 0 (sz - csz u) with
          | some r => some (u :: r)
          | none => none
        | false => none
      | false => match Nat.ble (csz u) off with
        | true => rd us (off - csz u) sz
        | false => none
/-- Units as a value of a type that is (or is not) a struct or an array. -/
def ofUnits (isAgg : Bool) (us : List (LV A)) : Option (LV A) := match isAgg with
  | true => some (.agg us)
  | false => match us with
    | [u] => match u with
      | .abs _ => none
      | .rows _ _ _ => none
      | .agg _ => none
      | .tup _ => none
      | .any => none
      | .undef => none
      | u => some u
    | _ => none
/-- What is behind so many cells. -/
def skipU : List (LV A) → Nat → Option (List (LV A))
  | [], n => match Nat.beq n 0 with
    | true => some []
    | false => none
  | u :: us, n => match Nat.beq n 0 with
    | true => some (u :: us)
    | false => match Nat.ble (csz u) n with
      | true => skipU us (n - csz u)
      | false => none
/-- Units written over the cells from an offset on. -/
def wrU : List (LV A) → Nat → List (LV A) → Option (List (LV A))
  | [], off, new => match Nat.beq off 0 && Nat.beq (cszL new) 0 with
    | true => some new
    | false => none
  | u :: us, off, new => match Nat.beq off 0 with
    | true => match skipU (u :: us) (cszL new) with
      | some r => some (new ++ r)
      | none => none
    | false => match Nat.ble (csz u) off with
      | true => match wrU us (off - csz u) new with
        | some r => some (u :: r)
        | none => none
      | false => none

/-! ## either of two -/
mutual
/-- The first where c, else the second; told as one value of their shape. -/
def mrg (c : Bool) : LV A → LV A → Option (LV A)
  | .int k a, v => match v with
    | .int k' b => if k = k' then some (.int k (cond c a b)) else none
    | _ => none
  | .bool a, v => match v with
    | .bool b => some (.bool (cond c a b))
    | _ => none
  | .str a, v => match v with
    | .str b => some (.str (cond c a b))
    | _ => none
  | .abs a, v => match v with
    | .abs b => some (.abs (cond c a b))
    | _ => none
  | .rows n z f, v => match v with
    | .rows n' z' g => match Nat.beq n n' && Nat.beq z z' with
      | true => some (.rows n z fun j => match mrgL c (f j) (g j) with
        | some r => r
        | none => cond c (f j) (g j))
      | false => none
    | _ => none
  | .nils, v => match v with
    | .nils => some .nils
    | _ => none
  | .nilp, v => match v with
    | .nilp => some .nilp
    | _ => none
  | _, _ => none
def mrgL (c : Bool) : List (LV A) → List (LV A) → Option (List (LV A))
  | [], l => match l with
    | [] => some []
    | _ => none
  | u :: us, l => match l with
    | v :: vs => match mrg c u v with
      | some r => match mrgL c us vs with
        | some rs => some (r :: rs)
        | none => none
      | none => none
    | [] => none
end
def mrgR (c : Bool) (us vs : List (LV A)) : List (LV A) := match mrgL c us vs with
  | some r => r
  | none => cond c us vs

/-! ## places behind elements of open number -/
/-- The rows that begin at an offset, and what stands ahead of and behind them. -/
def rowsAt : List (LV A) → Nat → Option (Nat × Nat × (Nat → List (LV A)))
  | [], _ => none
  | u :: us, off => match Nat.beq off 0 with
    | true => match u with
      | .rows n z f => some (n, z, f)
      | _ => none
    | false => match Nat.ble (csz u) off with
      | true => rowsAt us (off - csz u)
      | false => none
def setRows : List (LV A) → Nat → (Nat → List (LV A)) → List (LV A)
  | [], _, _ => []
  | u :: us, off, g => match Nat.beq off 0 with
    | true => match u with
      | .rows n z _ => .rows n z g :: us
      | u => u :: us
    | false => match Nat.ble (csz u) off with
      | true => u :: setRows us (off - csz u) g
      | false => u :: us

/-! ## conditions: told, or found true at once -/
abbrev Cnd := Option Prop
def andC : Cnd → Cnd → Cnd
  | none, c => c
  | some a, none => some a
  | some a, some b => some (a ∧ b)
def chkC (rc b : Bool) : Option Cnd := match rc with
  | true => some (some (b = true))
  | false => match b with
    | true => some none
    | false => none

/-- What stands at a place: units, under a condition. -/
def rdP (rc : Bool) (us : List (LV A)) (o : Nat) (p : List Stp) (sz : Nat) : Option (List (LV A) × Cnd) := match p with
  | [] => match rd us o sz with
    | some r => some (r, none)
    | none => none
  | s :: p => match rowsAt us o with
    | some (n, z, f) => match Nat.beq z s.z && Nat.ble (cszL (f s.i)) z, chkC rc (Nat.blt s.i n) with
      | true, some c1 => match rdP rc (f s.i) s.o p sz with
        | some (r, c) => some (r, andC c1 c)
        | none => none
      | _, _ => none
    | none => rdP rc us (o + s.i * s.z + s.o) p sz
/-- Units written at a place. -/
def wrP (rc : Bool) (us : List (LV A)) (o : Nat) (p : List Stp) (new : List (LV A)) : Option (List (LV A) × Cnd) := match p with
  | [] => match wrU us o new with
    | some r => some (r, none)
    | none => none
  | s :: p => match rowsAt us o with
    | some (n, z, f) => match Nat.beq z s.z && Nat.ble (cszL (f s.i)) z, chkC rc (Nat.blt s.i n) with
      | true, some c1 => match wrP rc (f s.i) s.o p new with
        | some (r, c) => some (setRows us o (fun j => mrgR (Nat.beq j s.i) r (f j)), andC c1 c)
        | none => none
      | _, _ => none
    | none => wrP rc us (o + s.i * s.z + s.o) p new

/-- So many rows from an offset on, one by one. -/
def cutRows (us : List (LV A)) (o z : Nat) : Nat → Option (List (List (LV A)))
  | 0 => some []
  | n + 1 => match rd us o z with
    | some r => match cutRows us (o + z) z n with
      | some rs => some (r :: rs)
      | none => none
    | none => none
/-- The rows of a slice: a function, under a condition. -/
def rowsP (rc : Bool) (us : List (LV A)) (o : Nat) (p : List Stp) (z len : Nat) : Option ((Nat → List (LV A)) × Cnd) := match p with
  | [] => match rowsAt us o with
    | some (n, z', f) => match Nat.beq z z', chkC rc (Nat.ble len n) with
      | true, some c => some (f, c)
      | _, _ => none
    | none => match cutRows us o z len with
      | some l => some (fun j => l.getD j [], none)
      | none => none
  | s :: q => match rowsAt us o with
    | some (n, z', f) => match Nat.beq z' s.z with
      | true => match Nat.beq z s.z && Nat.beq s.o 0 && q.isEmpty with
        | true => match chkC rc (Nat.ble (s.i + len) n) with
          | some c => some (fun j => f (s.i + j), c)
          | none => none
        | false => match Nat.ble (cszL (f s.i)) z', chkC rc (Nat.blt s.i n) with
          | true, some c1 => match rowsP rc (f s.i) s.o q z len with
            | some (g, c) => some (g, andC c1 c)
            | none => none
          | _, _ => none
      | false => none
    | none => rowsP rc us (o + s.i * s.z + s.o) q z len
/-- Rows written over those of a slice from its beginning on: n of them, of a slice that has len. -/
def putRows (rc : Bool) (us : List (LV A)) (o : Nat) (p : List Stp) (z len n : Nat) (g : Nat → List (LV A)) : Option (List (LV A) × Cnd) := match p with
  | [] => match rowsAt us o with
    | some (n', z', f) => match Nat.beq z z', chkC rc (Nat.ble n n') with
      | true, some c => some (setRows us o (fun j => mrgR (Nat.blt j n) (g j) (f j)), c)
      | _, _ => none
    | none => match cutRows us o z len, chkC rc (Nat.ble n len) with
      | some l, some c => match wrU us o [.rows len z fun j => mrgR (Nat.blt j n) (g j) (l.getD j [])] with
        | some r => some (r, c)
        | none => none
      | _, _ => none
  | s :: q => match rowsAt us o with
    | some (n', z', f) => match Nat.beq z' s.z with
      | true => match Nat.beq z s.z && Nat.beq s.o 0 && q.isEmpty with
        | true => match chkC rc (Nat.ble (s.i + n) n') with
          | some c => some (setRows us o (fun j => mrgR (Nat.ble s.i j && Nat.blt j (s.i + n)) (g (j - s.i)) (f j)), c)
          | none => none
        | false => match Nat.ble (cszL (f s.i)) z', chkC rc (Nat.blt s.i n') with
          | true, some c1 => match putRows rc (f s.i) s.o q z len n g with
            | some (r, c) => some (setRows us o (fun j => mrgR (Nat.beq j s.i) r (f j)), andC c1 c)
            | none => none
          | _, _ => none
      | false => none
    | none => putRows rc us (o + s.i * s.z + s.o) q z len n g

/-! ## addresses -/
def addF : Nat → List Stp → Nat → Nat × List Stp
  | o, [], d => (o + d, [])
  | o, p, d => (o, go p d)
where
  go : List Stp → Nat → List Stp
    | [], _ => []
    | [s], d => [⟨s.i, s.z, s.o + d⟩]
    | s :: p, d => s :: go p d
def addE : List Stp → Nat → Nat → List Stp
  | [], i, z => [⟨i, z, 0⟩]
  | [s], i, z => match Nat.beq s.z z && Nat.beq s.o 0 with
    | true => [⟨s.i + i, z, 0⟩]
    | false => [s, ⟨i, z, 0⟩]
  | s :: p, i, z => s :: addE p i z

/-! ## types -/
variable (P : Program)
def agT (t : TypeId) : Option Bool := match P.underlying t with
  | some (.struct _) => some true
  | some (.array _ _) => some true
  | some _ => some false
  | none => none
def sizeT (t : TypeId) : Option Nat := match P.info? t with
  | some i => some i.size
  | none => none
def bytesT (t : TypeId) : Option Nat := match P.info? t with
  | some i => some i.bytes
  | none => none
def zeroT (t : TypeId) : Option (LV A) := match P.info? t with
  | some i => match i.zero with
    | some v => ofConst v
    | none => none
  | none => none

/-- The part of so a type that stands at a place. -/
def partV (rc : Bool) (t : TypeId) (us : List (LV A)) (o : Nat) (p : List Stp) : Option (LV A × Cnd) := match sizeT P t, agT P t with
  | some n, some b => match rdP rc us o p n with
    | some (r, c) => match ofUnits b r with
      | some v => some (v, c)
      | none => none
    | none => none
  | _, _ => none

/-! ## what the operations come to -/
inductive Kn where
  | pure | look | new | wr
  deriving DecidableEq

inductive Out where
  | normal | exit (id : Nat) | ret
  deriving DecidableEq

/-- A region's forms: does a slicing take the block's freedom to be written? are its loads of what came in alone? -/
structure Fm where
  fz : Bool
  pl : Bool

structure Sig (A : Type) where
  /-- the callees' contracts: of values alone -/
  ps : FuncId → List (LV A) → Option (LV A × Cnd)
  /-- callees that only read -/
  rs : FuncId → List (LV A) → Mem A → Option (LV A)
  /-- callees that write, or lay new blocks -/
  cs : FuncId → List (LV A) → Mem A → Option (LV A × Mem A × Cnd)
  /-- the blocks that such a callee may turn -/
  tc : FuncId → List (LV A) → Mem A → Option (List Nat)
  /-- callees that are walked through in place -/
  il : FuncId → Bool
  /-- how a callee is taken -/
  how : FuncId → Kn
  /-- the methods of values in interfaces -/
  ms : TypeId → String → Option FuncId
  /-- how open tests turn out -/
  dec : FuncId → Nat → Nat → Option Bool
  /-- are checks of open values told as conditions? by function, region, operation -/
  rc : FuncId → Nat → Nat → Bool
  /-- does a slicing take the block's freedom to be written? -/
  fz : FuncId → Nat → Fm
  /-- how many new blocks an operation of a region may lay -/
  res : FuncId → Nat → Nat
  /-- the blocks that came in -/
  inp : Nat → Nat → List (LV A)
  /-- loops that are known: by the function, and the way from its body down to the loop -/
  lp : FuncId → List Nat → Option (LS A → Option (Out × List (LV A) × Mem A × Cnd))

def dcd (d : Option Bool) (b : Bool) : Bool × Cnd := match d with
  | none => (b, none)
  | some x => (x, some (b = x))

def ibin (op : BinOp) (k : IntKind) (a b : Int) : Option (LV A) := match op with
  | .add => some (.int k (k.wrap (a + b)))
  | .sub => some (.int k (k.wrap (a - b)))
  | .mul => some (.int k (k.wrap (a * b)))
  | .and => some (.int k (bits .and k a b))
  | .or => some (.int k (bits .or k a b))
  | .xor => some (.int k (bits .xor k a b))
  | .andNot => some (.int k (bits .andNot k a b))
  | .eql => some (.bool (a == b))
  | .neq => some (.bool (a != b))
  | .lss => some (.bool (decide (a < b)))
  | .leq => some (.bool (decide (a ≤ b)))
  | .gtr => some (.bool (decide (b < a)))
  | .geq => some (.bool (decide (b ≤ a)))
  | _ => none

abbrev PR (A : Type) := Option (LV A × Cnd)
def okc (v : Option (LV A)) : PR A := match v with
  | some v => some (v, none)
  | none => none
/-- A check that must turn out true. -/
def chk (rc b : Bool) (v : LV A) : PR A := match chkC rc b with
  | some c => some (v, c)
  | none => none
/-- A test's own result. -/
def tst (d : Option Bool) : Option (LV A) → PR A
  | some (.bool b) => match dcd d b with
    | (x, c) => some (.bool x, c)
  | some v => some (v, none)
  | none => none

/-- What was read, where it is a test's result. -/
def tstC (d : Option Bool) (r : PR A) : PR A := match d with
  | none => r
  | some x => match r with
    | some (.bool b, c) => some (.bool x, andC c (some (b = x)))
    | r => r
/-- Bytes held against each other. -/
def eqBs : List UInt8 → List UInt8 → Bool
  | [], [] => true
  | a :: l, b :: m => Nat.beq a.toNat b.toNat && eqBs l m
  | _, _ => false
def strEq (a b : ByteArray) : Bool := eqBs a.data.toList b.data.toList

/-- Units with their rows laid out one by one. -/
def flatR (fl : List (LV A) → Option (List (LV A))) (z : Nat) (f : Nat → List (LV A)) : Nat → Nat → Option (List (LV A))
  | 0, _ => some []
  | n + 1, i => match Nat.beq (cszL (f i)) z, fl (f i), flatR fl z f n (i + 1) with
    | true, some us, some vs => some (us ++ vs)
    | _, _, _ => none
def flatL (fl : List (LV A) → Option (List (LV A))) : List (LV A) → Option (List (LV A))
  | [] => some []
  | u :: us => match flatL fl us with
    | some vs => match u with
      | .rows n z f => match flatR fl z f n 0 with
        | some r => some (r ++ vs)
        | none => none
      | u => some (u :: vs)
    | none => none
def flatD : Nat → List (LV A) → Option (List (LV A))
  | 0, _ => none
  | d + 1, us => flatL (flatD d) us
/-- Flat values of whole numbers held against each other. -/
def eqU : List (LV A) → List (LV A) → Option Bool
  | [], [] => some true
  | .int k a :: l, .int k' b :: m => if k = k' then match eqU l m with
      | some r => some (a == b && r)
      | none => none
    else none
  | .abs x :: l, .abs y :: m => match Ab.beq x y, eqU l m with
    | some b, some r => some (b && r)
    | _, _ => none
  | _, _ => none
def fieldsL (rec : TypeId → Option (List Nat)) : List Field → Option (List Nat)
  | [] => some []
  | f :: fs => match f.name == "_", rec f.type, sizeT P f.type, fieldsL rec fs with
    | false, some ls, some z, some r => match ls.all (fun l => Nat.blt l z) with
      | true => some ((ls.map fun l => f.offset + l) ++ r)
      | false => none
    | _, _, _, _ => none
/-- The offsets of the whole numbers that a type is made of. -/
def leavesT : Nat → TypeId → Option (List Nat)
  | 0, _ => none
  | n + 1, t => match P.underlying t with
    | some (.int _) => some [0]
    | some (.array len e) => match leavesT n e, sizeT P e with
      | some ls, some z => match ls.all (fun l => Nat.blt l z) with
        | true => some ((List.range len).flatMap fun i => ls.map fun l => i * z + l)
        | false => none
      | _, _ => none
    | some (.struct fs) => match P.stoodInHeld t with
      | true => none
      | false => fieldsL P (leavesT n) fs.toList
    | _ => none

def nilV : LV A → Option Bool
  | .nilp => some true
  | .nils => some true
  | .nilfn => some true
  | .niliface => some true
  | .ptr _ _ _ => some false
  | .slice _ _ _ _ _ => some false
  | .func _ _ => some false
  | _ => none

def binR (rc : Bool) (d : Option Bool) (op : BinOp) (t : TypeId) (x y : LV A) : PR A :=
  match x, y with
  | .int k a, .int k' b => match op with
    | .shl => chk rc (decide (0 ≤ b)) (.int k (k.wrap (a * 2 ^ (min b.toNat k.bits))))
    | .shr => chk rc (decide (0 ≤ b)) (.int k (a.fdiv (2 ^ (min b.toNat k.bits))))
    | .quo => if k = k' then chk rc (b != 0) (.int k (k.wrap (a.tdiv b))) else none
    | .rem => if k = k' then chk rc (b != 0) (.int k (a.tmod b)) else none
    | op => if k = k' then tst d (ibin op k a b) else none
  | .agg us, .agg vs => match flatD 4 us, flatD 4 vs with
    | some us, some vs => match decide (leavesT P 20 t = some (List.range (cszL us))) && !P.eqGuardType P.depth t && decide (agT P t = some true) with
      | true => match eqU us vs with
        | some b => match op with
          | .eql => tst d (some (.bool b))
          | .neq => tst d (some (.bool (!b)))
          | _ => none
        | none => none
      | false => none
    | _, _ => none
  | .bool a, .bool b => match P.underlying t with
    | some .bool => match op with
      | .eql => tst d (some (.bool (a == b)))
      | .neq => tst d (some (.bool (!(a == b))))
      | _ => none
    | _ => none
  | .str a, .str b => match op with
    | .eql => tst d (some (.bool (strEq a b)))
    | .neq => tst d (some (.bool (!strEq a b)))
    | _ => none
  | .ptr _ _ _, .nilp => match P.underlying t with
    | some (.pointer _) => match op with
      | .eql => some (.bool false, none)
      | .neq => some (.bool true, none)
      | _ => none
    | _ => none
  | .nilp, .nilp => match P.underlying t with
    | some (.pointer _) => match op with
      | .eql => some (.bool true, none)
      | .neq => some (.bool false, none)
      | _ => none
    | _ => none
  | _, _ => none

/-- The builtins that neither read nor write memory. -/
def bltR (ts : Array TypeId) (b : Builtin) (vs : List (LV A)) : PR A := match b with
  | .len => match vs, ts[0]? with
    | [u], some t => match P.underlying t with
      | some (.slice _) => match u with
        | .slice _ _ _ n _ => okc (some (.int .i64 n))
        | .vec _ n => okc (some (.int .i64 n))
        | .nils => okc (some (.int .i64 0))
        | _ => none
      | some (.string) => match u with
        | .str s => okc (some (.int .i64 s.size))
        | _ => none
      | _ => none
    | _, _ => none
  | .min => match vs with
    | [.int k a, .int _ b] => okc (some (.int k (if b < a then b else a)))
    | _ => none
  | .max => match vs with
    | [.int k a, .int _ b] => okc (some (.int k (if a < b then b else a)))
    | _ => none
  | _ => none

/-- The bounds of a slicing: the low and the high one, the greatest, and the check. -/
def bnds (E : Operand → Option (LV A)) (len cap : Nat) (low high max : Option Operand) : Option (Nat × Nat × Nat × Bool) :=
  let num (o : Option Operand) (n : Nat) : Option Int := match o with
    | none => some n
    | some x => match E x with
      | some (.int _ i) => some i
      | _ => none
  match max.isSome && high.isNone, num low 0, num high len, num max cap with
  | false, some l, some h, some m => some (l.toNat, h.toNat, m.toNat, decide (0 ≤ l ∧ l ≤ h ∧ h ≤ m ∧ m ≤ cap))
  | _, _, _, _ => none

/-- An array, or what points to one. -/
def arrOf (t : TypeId) : Option (Nat × TypeId) := match P.underlying t with
  | some (.array n e) => some (n, e)
  | some (.pointer a) => match P.underlying a with
    | some (.array n e) => some (n, e)
    | _ => none
  | _ => none
/-- A string's byte. -/
def strAt (s : ByteArray) : Int → Option Int
  | .ofNat m => match s.data.toList[m]? with
    | some b => some b.toNat
    | none => none
  | .negSucc _ => none
/-- The operations that neither read nor write memory. -/
def pureR (S : Sig A) (rc : Bool) (d : Option Bool) (E : Operand → Option (LV A)) (o : Op) : PR A := match o with
  | .move x | .assign x => okc (E x)
  | .pick c x y => match E c with
    | some (.bool b) => match dcd d b, E x, E y with
      | (true, c), some v, _ => some (v, c)
      | (false, c), _, some v => some (v, c)
      | _, _, _ => none
    | _ => none
  | .binOp op t x y _ => match E x, E y with
    | some a, some b => binR P rc d op t a b
    | _, _ => none
  | .unOp op _ x => match op, E x with
    | .not, some (.bool b) => tst d (some (.bool (!b)))
    | .neg, some (.int k n) => okc (some (.int k (k.wrap (0 - n))))
    | _, _ => none
  | .convert src dst x => match E x, P.underlying src, P.underlying dst with
    | some (.int _ n), some _, some (.int k) => okc (some (.int k (k.wrap n)))
    | _, _, _ => none
  | .fieldAddr s x f => match E x, P.underlying s with
    | some (.ptr b o p), some (.struct fs) => match fs[f]? with
      | some fd => match sizeT P fd.type with
        | some (n + 1) => match n with | _ => okc (some (.ptr b (addF o p fd.offset).1 (addF o p fd.offset).2))
        | _ => none
      | none => none
    | _, _ => none
  | .field s x f => match E x, P.underlying s with
    | some (.agg us), some (.struct fs) => match fs[f]? with
      | some fd => tstC d (partV P rc fd.type us fd.offset [])
      | none => none
    | _, _ => none
  | .indexAddr t x i => match E x, E i, P.underlying t with
    | some (.ptr b o p), some (.int _ n), some (.array len e) => match sizeT P e with
      | some z => chk rc (decide (0 ≤ n ∧ n < (len : Int))) (.ptr b o (addE p n.toNat z))
      | none => none
    | some (.slice b o p len _), some (.int _ n), some (.slice e) => match sizeT P e with
      | some z => chk rc (decide (0 ≤ n ∧ n < (len : Int))) (.ptr b o (addE p n.toNat z))
      | none => none
    | some (.vec b len), some (.int _ n), some (.slice e) => match sizeT P e with
      | some z => chk rc (decide (0 ≤ n ∧ n < (len : Int))) (.ptr b 0 [⟨n.toNat, z, 0⟩])
      | none => none
    | _, _, _ => none
  | .index t x i => match E x, E i, P.underlying t with
    | some (.agg us), some (.int _ n), some (.array len e) => match sizeT P e with
      | some z => match chkC rc (decide (0 ≤ n ∧ n < (len : Int))), partV P rc e us 0 [⟨n.toNat, z, 0⟩] with
        | some c, some (v, c') => tstC d (some (v, andC c c'))
        | _, _ => none
      | none => none
    | some (.str s), some (.int _ n), some .string => match strAt s n with
      | some b => some (.int .u8 b, none)
      | none => none
    | _, _, _ => none
  | .slice t x low high max => match E x, arrOf P t with
    | some (.ptr b o p), some (n, e) => match sizeT P e, bnds E n n low high max with
      | some z, some (l, h, m, ok) => match chkC rc ok, low with
        | some c, none => some (.slice b o p (h - l) (m - l), c)
        | some c, some _ => match Nat.beq m l with
          | true => some (.slice b o p (h - l) (m - l), c)
          | false => some (.slice b o (addE p l z) (h - l) (m - l), c)
        | _, _ => none
      | _, _ => none
    | _, _ => none
  | .extract x i => match E x with
    | some (.tup vs) => tstC d (okc vs[i]?)
    | _ => none
  | .makeInterface t x => match P.underlying t with
    | some (.interface _) => none
    | none => none
    | some _ => match E x with
      | some v => okc (some (.iface t v))
      | none => none
  | .makeFunc f first caps => match f, first.toList with
    | .func g, [] => match mapE E caps.toList with
      | some vs => okc (some (.func g vs))
      | none => none
    | _, _ => none
  | .build t parts => match zeroT P t with
    | some z => match P.underlying t with
      | some (.struct fs) => match fs.toList.all fun f => (sizeT P f.type).isSome with
        | true => bld (fun i => match fs.toList[i]? with
            | some f => match sizeT P f.type with
              | some n => some (f.offset, n)
              | none => none
            | none => none) E (units z) parts.toList
        | false => none
      | some (.array _ e) => match sizeT P e with
        | some n => bld (fun i => some (i * n, n)) E (units z) parts.toList
        | none => none
      | _ => none
    | none => none
  | .call c => match mapE E c.args.toList with
    | some vs => match c.callee with
      | .value f => match f with
        | .func g => tstC d (S.ps g vs)
        | _ => none
      | .invoke r m => match E r with
        | some (.iface t v) => match S.ms t m with
          | some f => tstC d (S.ps f (v :: vs))
          | none => none
        | _ => none
      | .builtin b => bltR P c.argTypes b vs
    | none => none
  | .nilCheck x => match E x with
    | some (.ptr b o p) => okc (some (.ptr b o p))
    | _ => none
  | _ => none
where
  /-- Parts laid over units. -/
  bld (pl : Nat → Option (Nat × Nat)) (E : Operand → Option (LV A)) (us : List (LV A)) : List (Nat × Operand) → PR A
    | [] => okc (some (.agg us))
    | (i, x) :: ps => match pl i, E x with
      | some (off, n), some v => match noTup v && Nat.beq (cszL (units v)) n with
        | true => match wrU us off (units v) with
          | some us' => bld pl E us' ps
          | none => none
        | false => none
      | _, _ => none

/-! ## memory -/
def getB (S : Sig A) (mem : Mem A) : Key → Option (Blk A)
  | .own k => match mem[k]? with
    | some (some b) => some b
    | _ => none
  | .inp t i => some ⟨.ro, S.inp t i⟩
/-- A slice's rows: how many, a function, a condition. -/
def rowsV (S : Sig A) (rc : Bool) (mem : Mem A) (z : Nat) : LV A → Option (Nat × (Nat → List (LV A)) × Cnd)
  | .nils => some (0, fun _ => [], none)
  | .slice b o p len _ => match getB S mem b with
    | some bl => match rowsP rc bl.us o p z len with
      | some (g, c) => some (len, g, c)
      | none => none
    | none => none
  | .vec b len => match getB S mem b with
    | some bl => match rowsP rc bl.us 0 [] z len with
      | some (g, c) => some (len, g, c)
      | none => none
    | none => none
  | _ => none

def byteOf : List (LV A) → Int
  | [.int _ x] => x
  | _ => 0
def isB8 : List (LV A) → Bool
  | [.int .u8 _] => true
  | _ => false
def allB8 (g : Nat → List (LV A)) : Nat → Bool
  | 0 => true
  | n + 1 => isB8 (g n) && allB8 g n
/-- Bytes as a string. -/
def strOf (m : Nat) (g : Nat → List (LV A)) : ByteArray := ⟨((List.range m).map fun j => UInt8.ofNat (byteOf (g j)).toNat).toArray⟩
/-- The operations that read memory. -/
def lookR (S : Sig A) (rc : Bool) (d : Option Bool) (E : Operand → Option (LV A)) (mem : Mem A) (o : Op) : PR A := match o with
  | .load t x => match E x with
    | some (.ptr b o p) => match getB S mem b with
      | some bl => tstC d (partV P rc t bl.us o p)
      | _ => none
    | _ => none
  | .convert src dst x => match E x, P.underlying src, P.underlying dst with
    | some v, some (.slice e), some .string => match P.underlying e, rowsV S rc mem 1 v with
      | some (.int .u8), some (m, g, c) => match chkC rc (allB8 g m) with
        | some c' => some (.str (strOf m g), andC c c')
        | none => none
      | _, _ => none
    | _, _, _ => none
  | .call c => match mapE E c.args.toList with
    | some vs => match c.callee with
      | .value f => match f with
        | .func g => tst d (S.rs g vs mem)
        | _ => none
      | _ => none
    | none => none
  | _ => none

def isRo : Kd → Bool
  | .ro => true
  | _ => false
def isDead : Kd → Bool
  | .dead => true
  | _ => false
/-- A part of a whole slice, as a block of its own. -/
def viewR (S : Sig A) (rc : Bool) (E : Operand → Option (LV A)) (mem : Mem A) (key z : Nat) (b : Key) (len : Nat) (low high max : Option Operand) : Option (LV A × Blk A × Cnd) :=
  match bnds E len len low high max, getB S mem b with
  | some (l, h, _, ok), some bl => match chkC rc ok, rowsP rc bl.us 0 [] z len with
    | some c, some (g, c') => match low with
      | none => some (.vec (.own key) h, ⟨.ro, [.rows h z g]⟩, andC c c')
      | some _ => some (.vec (.own key) (h - l), ⟨.ro, [.rows (h - l) z fun j => g (l + j)]⟩, andC c c')
    | _, _ => none
  | _, _ => none

/-- The operations that lay a new block: what they answer, what it holds. -/
def newR (S : Sig A) (rc : Bool) (E : Operand → Option (LV A)) (mem : Mem A) (key : Nat) (o : Op) : Option (LV A × Option (Blk A) × Cnd) := match o with
  | .alloc t => match zeroT P t with
    | some z => some (.ptr (.own key) 0 [], some ⟨.rw, units z⟩, none)
    | none => none
  | .box t x => match E x, sizeT P t with
    | some v, some _ => match noTup v with
      | true => some (.ptr (.own key) 0 [], some ⟨.rw, units v⟩, none)
      | false => none
    | _, _ => none
  | .makeSlice t len cap => match P.underlying t, E len, E cap with
    | some (.slice e), some (.int _ n), some (.int _ m) => match sizeT P e, bytesT P e, zeroT P e with
      | some (z + 1), some bs, some v => match chkC rc (decide (n = m ∧ 0 ≤ n ∧ bs * n ≤ 2 ^ 48)), Nat.beq (cszL (units v)) (z + 1) && Nat.blt 0 bs with
        | some c, true => some (.vec (.own key) n.toNat, some ⟨.row e, [.rows n.toNat (z + 1) fun _ => units v]⟩, c)
        | _, _ => none
      | _, _, _ => none
    | _, _, _ => none
  | .buildSlice t len parts => match P.underlying t with
    | some (.slice e) => match sizeT P e, zeroT P e with
      | some (z + 1), some v => match Nat.beq (cszL (units v)) (z + 1) && Nat.ble (len * (z + 1)) (2 ^ 24) with
        | true => match laid E (z + 1) (List.replicate len (units v)) parts.toList with
          | some l => some (.vec (.own key) len, some ⟨.row e, [.rows len (z + 1) fun j => l.getD j []]⟩, none)
          | none => none
        | false => none
      | _, _ => none
    | _ => none
  | .slice t x low high max => match E x, P.underlying t with
    | some (.vec b len), some (.slice e) => match sizeT P e with
      | some z => match viewR S rc E mem key z b len low high max, getB S mem b with
        | some (v, bl, c), some b0 => match isRo b0.kd with
          | true => some (v, some bl, c)
          | false => none
        | _, _ => none
      | none => none
    | some (.slice b o p len cap), some (.slice e) => match sizeT P e, bnds E len cap low high max with
      | some z, some (l, h, m, ok) => match chkC rc ok, low with
        | some c, none => some (.slice b o p (h - l) (m - l), none, c)
        | some c, some _ => match Nat.beq m l with
          | true => some (.slice b o p (h - l) (m - l), none, c)
          | false => some (.slice b o (addE p l z) (h - l) (m - l), none, c)
        | _, _ => none
      | _, _ => none
    | some .nils, some (.slice e) => match sizeT P e, bnds E 0 0 low high max with
      | some _, some (_, _, _, ok) => match chkC rc ok with
        | some c => some (.nils, none, c)
        | none => none
      | _, _ => none
    | _, _ => none
  | _ => none
where
  laid (E : Operand → Option (LV A)) (z : Nat) (l : List (List (LV A))) : List (Nat × Operand) → Option (List (List (LV A)))
    | [] => some l
    | (i, x) :: ps => match E x with
      | some v => match noTup v && Nat.beq (cszL (units v)) z && Nat.blt i l.length with
        | true => laid E z (l.set i (units v)) ps
        | false => none
      | none => none

/-- May it lie in a cell (or in cells)? -/
def stor : LV A → Bool
  | .any => false
  | .undef => false
  | .agg _ => false
  | .tup _ => false
  | _ => true

/-- A block may be written. -/
def isWr : Kd → Bool
  | .rw => true
  | .row _ => true
  | _ => false

/-- The types of an append: the element's, its cells, its bytes. -/
def appTy (t t' : TypeId) : Option (TypeId × Nat × Nat) := match P.underlying t, P.underlying t' with
  | some (.slice e), some (.slice _) => match sizeT P e, bytesT P e, zeroT (A := A) P e with
    | some z, some bs, some v => match Nat.blt 0 z && Nat.blt 0 bs && Nat.beq (cszL (units v)) z with
      | true => some (e, z, bs)
      | false => none
    | _, _, _ => none
  | _, _ => none

/-- The types of an append of so many zero values. -/
def appZ (t t' : TypeId) : Option (TypeId × Nat × Nat × LV A) := match P.underlying t, P.underlying t' with
  | some (.slice e), some (.int _) => match sizeT P e, bytesT P e, zeroT (A := A) P e with
    | some z, some bs, some v => match Nat.blt 0 z && Nat.blt 0 bs && Nat.beq (cszL (units v)) z with
      | true => some (e, z, bs, v)
      | false => none
    | _, _, _ => none
  | _, _ => none
/-- What is appended: the element's type, its cells, its bytes; how many, which; a condition. -/
def appSrc (S : Sig A) (rc : Bool) (mem : Mem A) (t t' : TypeId) (x : LV A) : Option (TypeId × Nat × Nat × Nat × (Nat → List (LV A)) × Cnd) := match appTy (A := A) P t t' with
  | some (e, z, bs) => match rowsV S rc mem z x with
    | some (m, g, c) => some (e, z, bs, m, g, c)
    | none => none
  | none => match appZ (A := A) P t t' with
    | some (e, z, bs, v) => match x with
      | .int _ n => match chkC rc (decide (0 ≤ n)) with
        | some c => some (e, z, bs, n.toNat, fun _ => units v, c)
        | none => none
      | _ => none
    | none => none

/-- A row of a slice stays one. -/
def rowOk (k : Kd) (old new : List (LV A)) : Bool := match k with
  | .row _ => match old, new with
    | [.rows n z _], [.rows n' z' _] => Nat.beq n n' && Nat.beq z z'
    | _, _ => false
  | _ => true

abbrev CallR (A : Type) := FuncId → List (LV A) → Mem A → Option (LV A × Mem A × Cnd)
/-- The operations that write: what they answer, the memory, a condition. -/
def wrR (S : Sig A) (cr : CallR A) (rc : Bool) (E : Operand → Option (LV A)) (mem : Mem A) (key r : Nat) (o : Op) : Option (LV A × Mem A × Cnd) := match o with
  | .store t x y => match E x, E y with
    | some (.ptr (.own b) o p), some v => match mem[b]? with
      | some (some bl) => match sizeT P t with
        | some n => match isWr bl.kd && Nat.beq (cszL (units v)) n && (units v).all stor with
          | true => match wrP rc bl.us o p (units v) with
            | some (us', c) => match chkC rc (rowOk bl.kd bl.us us') with
              | some c3 => some (.undef, mem.set b (some ⟨bl.kd, us'⟩), andC c c3)
              | none => none
            | none => none
          | false => none
        | none => none
      | _ => none
    | _, _ => none
  | .slice t x low high max => match E x, P.underlying t with
    | some (.vec (.own b) len), some (.slice e) => match sizeT P e, mem[b]? with
      | some z, some (some b0) => match viewR S rc E mem key z (.own b) len low high max, isDead b0.kd || Nat.beq r 0 with
        | some (v, bl, c), false => some (v, (mem.set b (some ⟨.ro, b0.us⟩)).set key (some bl), c)
        | _, _ => none
      | _, _ => none
    | _, _ => none
  | .call c => match mapE E c.args.toList with
    | some vs => match c.callee with
      | .builtin .append => match vs, c.argTypes.toList with
        | [s, x], [t, t'] => match appSrc P S rc mem t t' x, r with
          | some (e, z, bs, m, g, c1), _ + 1 => match s with
            | .nils => match chkC rc (Nat.ble (m * bs) (2 ^ 47)) with
              | some c2 => some (.vec (.own key) m, mem.set key (some ⟨.row e, [.rows m z g]⟩), andC c1 c2)
              | none => none
            | .vec (.own b) n => match mem[b]? with
              | some (some ⟨.row e', [.rows n' z' f]⟩) => match decide (e = e') && Nat.beq z' z, chkC rc (Nat.beq n' n && Nat.ble ((n + m) * bs) (2 ^ 47)) with
                | true, some c2 => some (.vec (.own key) (n + m), (mem.set b (some ⟨.dead, []⟩)).set key (some ⟨.row e, [.rows (n + m) z fun j => mrgR (Nat.blt j n) (f j) (g (j - n))]⟩), andC c1 c2)
                | _, _ => none
              | _ => none
            | _ => none
          | _, _ => none
        | _, _ => none
      | .builtin .copy => match vs, c.argTypes.toList with
        | [dst, src], [t, _] => match P.underlying t with
          | some (.slice e) => match sizeT P e with
            | some z => match rowsV S rc mem z src with
              | some (m, g, c1) => match dst with
                | .slice (.own b) o p len _ => match mem[b]? with
                  | some (some bl) => match isWr bl.kd, putRows rc bl.us o p z len (Nat.min m len) g with
                    | true, some (us', c2) => match chkC rc (rowOk bl.kd bl.us us') with
                      | some c3 => some (.int .i64 (Nat.min m len), mem.set b (some ⟨bl.kd, us'⟩), andC (andC c1 c2) c3)
                      | none => none
                    | _, _ => none
                  | _ => none
                | .vec (.own b) len => match mem[b]? with
                  | some (some bl) => match isWr bl.kd, putRows rc bl.us 0 [] z len (Nat.min m len) g with
                    | true, some (us', c2) => match chkC rc (rowOk bl.kd bl.us us') with
                      | some c3 => some (.int .i64 (Nat.min m len), mem.set b (some ⟨bl.kd, us'⟩), andC (andC c1 c2) c3)
                      | none => none
                    | _, _ => none
                  | _ => none
                | _ => none
              | none => none
            | none => none
          | _ => none
        | _, _ => none
      | .value f => match E f with
        | some (.func g caps) => match cr g (vs ++ caps) (mem.take key) with
          | some (v, m', c) => match Nat.ble m'.length (key + r) with
            | true => some (v, m' ++ List.replicate (key + r - m'.length) none ++ mem.drop (key + r), c)
            | false => none
          | none => none
        | _ => none
      | _ => none
    | none => none
  | _ => none

/-- Only these blocks. -/
def memK (l : List Nat) (k : Nat) : Bool := l.any fun x => Nat.beq x k
def onlyM (F : List Nat) : Nat → Mem A → Mem A
  | _, [] => []
  | i, b :: l => (match memK F i with | true => b | false => none) :: onlyM F (i + 1) l
def snapM (F : List Nat) (m : Mem A) : Mem A := match F with
  | [] => []
  | _ => onlyM F 0 m
/-- Does an operation that writes leave these blocks alone? -/
def safeW (S : Sig A) (F : List Nat) (key : Nat) (E : Operand → Option (LV A)) (mem : Mem A) (o : Op) : Bool := match F with
  | [] => true
  | _ => match o with
    | .store _ x _ => match E x with
      | some (.ptr (.own b) _ _) => !memK F b
      | _ => false
    | .call c => match c.callee with
      | .builtin .append => match mapE E c.args.toList with
        | some (.vec (.own b) _ :: _) => !memK F b && !memK F key
        | some (.nils :: _) => !memK F key
        | _ => false
      | .builtin .copy => match mapE E c.args.toList with
        | some (.slice (.own b) _ _ _ _ :: _) => !memK F b
        | some (.vec (.own b) _ :: _) => !memK F b
        | _ => false
      | .value f => match E f, mapE E c.args.toList with
        | some (.func g caps), some vs => match S.il g with
          | true => false
          | false => match S.tc g (vs ++ caps) (mem.take key) with
            | some l => Nat.ble key mem.length && F.all fun k => !memK l k && Nat.blt k key
            | none => false
        | _, _ => false
      | _ => false
    | _ => false

/-- A load of what came in, or of what no operation of its region turns, hangs on no order. -/
def isLoad : Op → Bool
  | .load .. => true
  | _ => false
def pureL (S : Sig A) (rc : Bool) (d : Option Bool) (E : Operand → Option (LV A)) (mem : Mem A) (o : Op) : PR A := match isLoad o with
  | true => lookR P S rc d E mem o
  | false => pureR P S rc d E o

def kind (P : Program) (how : FuncId → Kn) (fz : Fm) : Op → Kn
  | .load .. => match fz.pl with
    | true => .pure
    | false => .look
  | .convert t _ _ => match P.underlying t with
    | some (.slice _) => .look
    | _ => .pure
  | .alloc _ | .box .. | .makeSlice .. | .buildSlice .. => .new
  | .slice t .. => match P.underlying t with
    | some (.slice _) => match fz.fz with
      | true => .wr
      | false => .new
    | _ => .pure
  | .store .. => .wr
  | .call c => match c.callee with
    | .value (.func f) => how f
    | .value _ => .wr
    | .builtin .append => .wr
    | .builtin .copy => .wr
    | _ => .pure
  | _ => .pure

/-- What a step is told beside the operation: may checks be told as conditions · how an open test turns out · does a slicing freeze · what it may read lies below · its first new block · how many it may lay · the place of its condition. -/
structure Ctl where
  rc : Bool
  d : Option Bool
  fz : Fm
  base : Nat
  key : Nat
  r : Nat
  ck : Nat
  sn : List Nat

def putT (l : List (LV A)) (dst : Option Nat) (v : LV A) : List (LV A) := match dst with
  | some t => l.set t v
  | none => l
def putB (mem : Mem A) (key : Nat) : Option (Blk A) → Mem A
  | none => mem
  | some b => mem.set key (some b)
/-- One operation. -/
def step (S : Sig A) (cr : CallR A) (x : Ctl) (o : Oper) (s : LS A) : Option (LS A) :=
  let E := ev s.tmps
  match kind P S.how x.fz o.op with
  | .pure => match pureL P S x.rc x.d E (snapM x.sn (s.mem.take x.base)) o.op with
    | some (v, c) => some { s with tmps := putT s.tmps o.dst v, conds := s.conds.set x.ck c }
    | none => none
  | .look => match lookR P S x.rc x.d E (s.mem.take x.base) o.op with
    | some (v, c) => some { s with tmps := putT s.tmps o.dst v, conds := s.conds.set x.ck c }
    | none => none
  | .new => match newR P S x.rc E (s.mem.take x.base) x.key o.op with
    | some (v, b, c) => match b.isSome && Nat.beq x.r 0 with
      | false => some { s with tmps := putT s.tmps o.dst v, mem := putB s.mem x.key b, conds := s.conds.set x.ck c }
      | true => none
    | none => none
  | .wr => match safeW S x.sn x.key E s.mem o.op with
    | true => match wrR P S cr x.rc E s.mem x.key x.r o.op with
      | some (v, m, c) => some { s with tmps := putT s.tmps o.dst v, mem := m, conds := s.conds.set x.ck c }
      | none => none
    | false => none

/-- Does the guard want it? -/
def want (ops : List Oper) (l : List (LV A)) (o : Oper) : Option Bool := match o.guard with
  | none => some true
  | some (j, w) => match ops[j]? with
    | some oj => match oj.dst with
      | some t => match l[t]? with
        | some (.bool b) => some (b == w)
        | some .undef => some false
        | _ => none
      | none => some false
    | none => some false

def stepG (S : Sig A) (cr : CallR A) (x : Ctl) (ops : List Oper) (o : Oper) (s : LS A) : Option (LS A) :=
  match want ops s.tmps o with
  | some true => step P S cr x o s
  | some false => some { s with tmps := putT s.tmps o.dst .undef }
  | none => none

/-- A region in its own order. -/
def ctl (S : Sig A) (cur : FuncId) (rid r n0 c0 : Nat) (sn : List Nat) (i : Nat) (base : Nat) : Ctl where
  rc := S.rc cur rid i
  d := S.dec cur rid i
  fz := S.fz cur rid
  base := base
  key := n0 + r * i
  r := r
  ck := c0 + i
  sn := sn
def runOpsD (S : Sig A) (cr : CallR A) (cur : FuncId) (rid r : Nat) (ops : List Oper) (n0 c0 : Nat) (sn : List Nat) : Nat → List Oper → LS A → Option (LS A)
  | _, [], s => some s
  | i, o :: os, s => match stepG P S cr (ctl S cur rid r n0 c0 sn i n0) ops o s with
    | some s' => runOpsD S cr cur rid r ops n0 c0 sn (i + 1) os s'
    | none => none
/-- Without the nothing at its end. -/
def trimM (n : Nat) (m : Mem A) : Mem A := m.take n ++ trim (m.drop n)
where
  trim : Mem A → Mem A
    | [] => []
    | some b :: l => some b :: trim l
    | none :: l => match trim l with
      | [] => []
      | l' => none :: l'
/-- May an operation lay a block? -/
def lays (how : FuncId → Kn) (fz : Fm) (o : Oper) : Bool := match kind P how fz o.op with
  | .new => true
  | .wr => match o.op with
    | .store .. => false
    | .call c => match c.callee with
      | .builtin .copy => false
      | _ => true
    | _ => true
  | _ => false
/-- A call that may lay many. -/
def isCallW (how : FuncId → Kn) (o : Oper) : Bool := match o.op with
  | .call c => match c.callee with
    | .value (.func f) => match how f with
      | .wr => true
      | _ => false
    | .value _ => true
    | _ => false
  | _ => false
def resO (S : Sig A) (cur : FuncId) (rid : Nat) (ops : List Oper) : Nat := match ops.any (isCallW S.how) with
  | true => S.res cur rid
  | false => match ops.any (lays P S.how (S.fz cur rid)) with
    | true => 1
    | false => 0
/-- So many free places more. -/
def more (r : Nat) (s : LS A) : LS A := { s with mem := s.mem ++ List.replicate r none }
def cutS (n : Nat) (s : LS A) : LS A := { s with mem := trimM n s.mem }
/-- A number, looked at first. -/
def forceN {β : Type} (n : Nat) (f : Nat → β) : β := match n with
  | 0 => f 0
  | m + 1 => f (m + 1)
/-- How many blocks this operation may lay. -/
def rO (S : Sig A) (cur rid : Nat) (o : Oper) : Nat := match isCallW S.how o with
  | true => S.res cur rid
  | false => match lays P S.how (S.fz cur rid) o with
    | true => 1
    | false => 0
def ctlO (S : Sig A) (cur rid r key ck i : Nat) : Ctl where
  rc := S.rc cur rid i
  d := S.dec cur rid i
  fz := S.fz cur rid
  base := key
  key := key
  r := r
  ck := ck + i
  sn := []
/-- A region in its own order: blocks one behind the other. -/
def runOpsO (S : Sig A) (cr : CallR A) (cur rid : Nat) (ops : List Oper) (c0 : Nat) : Nat → List Oper → LS A → Option (LS A)
  | _, [], s => some s
  | i, o :: os, s => forceN s.mem.length fun key => match stepG P S cr (ctlO S cur rid (rO P S cur rid o) key c0 i) ops o (more (rO P S cur rid o) s) with
    | some s' => runOpsO S cr cur rid ops c0 (i + 1) os (cutS key s')
    | none => none
def pad (n k : Nat) (s : LS A) : LS A := { s with mem := s.mem ++ List.replicate k none, conds := List.replicate n none }

/-! ## the order that Go leaves open -/
def maskOf (ms : List Nat) (o : Oper) : Nat := o.after.toList.foldl (fun s e => match Region.binds .any e with
  | true => s ||| 2 ^ e.on ||| ms.getD e.on 0
  | false => s) 0
def masks : List Oper → List Nat → List Nat
  | [], ms => ms
  | o :: os, ms => masks os (ms ++ [maskOf ms o])
/-- Two operations that may change places. -/
def indep (how : FuncId → Kn) (fz : Fm) (ops : Array Oper) (x y : Oper) : Bool :=
  Oper.apart ops x y && match kind P how fz x.op, kind P how fz y.op with
    | .wr, .pure => true
    | .pure, .wr => true
    | .wr, _ => false
    | _, .wr => false
    | _, _ => true
def edgesOk : Nat → List Oper → Bool
  | _, [] => true
  | i, o :: os => o.after.toList.all (fun e => !Region.binds .any e || Nat.blt e.on i) && edgesOk (i + 1) os
def pairOk (how : FuncId → Kn) (fz : Fm) (ops : Array Oper) (ms : List Nat) (i j : Nat) : Bool :=
  match Nat.blt i j with
  | true => match (ms.getD j 0).testBit i with
    | true => true
    | false => match ops[i]?, ops[j]? with
      | some x, some y => indep P how fz ops x y
      | _, _ => true
  | false => true
def drawOk (how : FuncId → Kn) (fz : Fm) (ops : Array Oper) : Bool :=
  edgesOk 0 ops.toList && (ops.toList.all fun o => match o.op with | .select .. => false | _ => true) &&
  let ms := masks ops.toList []
  (List.range ops.size).all fun j => (List.range ops.size).all fun i => pairOk P how fz ops ms i j

def allC : List Cnd → Cnd
  | [] => none
  | c :: cs => andC c (allC cs)
/-- A region's end: its conditions put together. -/
def shutR (s : LS A) : Option (LS A) → Option (LS A)
  | some t => match allC t.conds with
    | none => some { t with conds := s.conds }
    | some c => some { t with conds := s.conds ++ [some c] }
  | none => none
/-- The blocks that a region's loads look at, where its loads are to hang on no order. -/
def snOf (pl : Bool) (l : List (LV A)) (ops : List Oper) : List Nat := match pl with
  | false => []
  | true => ops.filterMap fun o => match o.op with
    | .load _ x => match ev l x with
      | some (.ptr (.own k) _ _) => some k
      | _ => none
    | _ => none
def execR (S : Sig A) (cr : CallR A) (cur : FuncId) (rid : Nat) (ops : Array Oper) (draw : Bool) (s : LS A) : Option (LS A) :=
  match draw with
  | false => shutR s (runOpsO P S cr cur rid ops.toList 0 0 ops.toList (pad ops.toList.length 0 s))
  | true => match drawOk P S.how (S.fz cur rid) ops with
    | true => shutR s (runOpsD P S cr cur rid (resO P S cur rid ops.toList) ops.toList s.mem.length 0 (snOf (S.fz cur rid).pl s.tmps ops.toList) 0 ops.toList (pad ops.toList.length (resO P S cur rid ops.toList * ops.toList.length) s))
    | false => none

/-- What a function answers. -/
def resV (rc : Bool) (s : LS A) : ResultVar → Option (LV A × Cnd)
  | .tmp t => match getT s.tmps t with
    | some v => some (v, none)
    | none => none
  | .cell t ty => match getT s.tmps t with
    | some (.ptr (.own b) o p) => match s.mem[b]? with
      | some (some bl) => partV P rc ty bl.us o p
      | _ => none
    | _ => none
def resVs (rc : Bool) (s : LS A) : List ResultVar → Option (List (LV A) × Cnd)
  | [] => some ([], none)
  | r :: rs => match resV P rc s r with
    | some (v, c) => match resVs rc s rs with
      | some (vs, c') => some (v :: vs, andC c c')
      | none => none
    | none => none
def resF (rc : Bool) (fn : Func) (s : LS A) : Option (LV A × Cnd) := match resVs P rc s fn.results.toList with
  | some ([v], c) => some (v, c)
  | some (vs, c) => some (.tup vs, c)
  | none => none

def startS (fn : Func) (args : List (LV A)) (mem : Mem A) : LS A :=
  { tmps := args ++ List.replicate (fn.ntmps - args.length) .undef, mem, conds := [] }
/-- The code at a place of a function's body. -/
def child : Nat → Code → Code
  | 0, .seq a _ => a
  | 1, .seq _ b => b
  | 0, .cond _ a _ => a
  | 1, .cond _ _ b => b
  | 0, .block _ b => b
  | 0, .scope b => b
  | 0, .loop b => b
  | 0, .rangeFunc _ _ a _ => a
  | 1, .rangeFunc _ _ _ b => b
  | _, c => c
def bodyOf (f : FuncId) : Code := match P.funcs[f]? with
  | some fn => match fn.body with
    | some c => c
    | none => .skip
  | none => .skip
def codeAt (f : FuncId) : List Nat → Code
  | [] => bodyOf P f
  | i :: p => child i (codeAt f p)

/-- A whole call, out of what its body comes to. -/
def callN (S : Sig A) (ex : Code → LS A → Option (Out × LS A)) (f : FuncId) (args : List (LV A)) (mem : Mem A) : Option (LV A × Mem A × Cnd) :=
  match P.funcs[f]? with
  | some fn => match fn.body, fn.name == "runtime.NumGoroutine" with
    | some c, false => match ex c (startS fn args mem) with
      | some (.exit _, _) => none
      | some (_, s) => match resF P (S.rc f 1000000 0) fn s with
        | some (v, c) => some (v, trimM mem.length s.mem, andC c (allC s.conds))
        | none => none
      | none => none
    | _, _ => none
  | none => none

/-- A loop that is known. -/
def known (h : LS A → Option (Out × List (LV A) × Mem A × Cnd)) (s : LS A) : Option (Out × LS A) := match h s with
  | some (o, tm, m, c) => some (o, ⟨tm, m, s.conds ++ [c]⟩)
  | none => none

def exec (S : Sig A) : Nat → FuncId → List Nat → Code → LS A → Option (Out × LS A)
  | 0, _, _, _, _ => none
  | n + 1, cur, p, c, s => match c with
    | .skip => some (.normal, s)
    | .label _ => some (.normal, s)
    | .region id ops draw => match S.lp cur p with
      | some h => known h s
      | none => match execR P S (fun f args mem => match S.il f with
          | true => callN P S (exec S n f []) f args mem
          | false => S.cs f args mem) cur id ops draw s with
        | some s' => some (.normal, s')
        | none => none
    | .seq a b => match exec S n cur (0 :: p) a s with
      | some (.normal, s') => exec S n cur (1 :: p) b s'
      | r => r
    | .cond c a b => match ev s.tmps c with
      | some (.bool true) => exec S n cur (0 :: p) a s
      | some (.bool false) => exec S n cur (1 :: p) b s
      | _ => none
    | .block id b => match exec S n cur (0 :: p) b s with
      | some (.exit id', s') => match Nat.beq id' id with
        | true => some (.normal, s')
        | false => some (.exit id', s')
      | r => r
    | .scope b => exec S n cur (0 :: p) b s
    | .loop b => match S.lp cur p with
      | some h => known h s
      | none => match exec S n cur (0 :: p) b s with
        | some (.normal, s') => exec S n cur p (.loop b) s'
        | r => r
    | .rangeFunc _ _ _ _ => match S.lp cur p with
      | some h => known h s
      | none => none
    | .exit id => some (.exit id, s)
    | .ret => some (.ret, s)
    | _ => none
/-- A whole call. -/
def callF (S : Sig A) (n : Nat) (f : FuncId) (args : List (LV A)) (mem : Mem A) : Option (LV A × Mem A × Cnd) := callN P S (exec P S n f []) f args mem

end
end Go.Proofs.YtonmjdnkcngfjaaGreat.En

/- DERIVED. The second executor's values and units, as cells of the model: plain lemmas. -/
set_option linter.all false
namespace Go.Proofs.YtonmjdnkcngfjaaGreat.En
open Go

/-- The chunks' cells are whole numbers, as many as it says. -/
class LawAb (A : Type) [Ab A] : Prop where
  len : ∀ x : A, (Ab.cells x).length = Ab.size x
  flat : ∀ x : A, ∀ v ∈ Ab.cells x, ∃ k n, v = Value.int k n

section
variable {A : Type} [Ab A] (ρ : Key → Loc)

theorem beqN {a b : Nat} (h : Nat.beq a b = true) : a = b := Nat.eq_of_beq_eq_true h
theorem both {a b : Bool} (h : (a && b) = true) : a = true ∧ b = true := by simpa using h
theorem bleN {a b : Nat} (h : Nat.ble a b = true) : a ≤ b := Nat.le_of_ble_eq_true h
theorem bltN {a b : Nat} (h : Nat.blt a b = true) : a < b := Nat.le_of_ble_eq_true h

theorem len_fitTo (z : Nat) (l : List Value) : (fitTo z l).length = z := by simp [fitTo]
theorem fitTo_of_le {z : Nat} {l : List Value} (i : Nat) (h : l.length ≤ z) (hi : i < l.length) : (fitTo z l)[i]? = l[i]? := by
  rw [fitTo, List.getElem?_take_of_lt (by omega), List.getElem?_append_left hi]
theorem fitTo_eq {z : Nat} {l : List Value} (h : l.length = z) : fitTo z l = l := by
  subst h
  simp [fitTo]

theorem len_rows (z : Nat) (g : Nat → List Value) (h : ∀ i, (g i).length = z) : ∀ n, ((List.range n).flatMap g).length = n * z
  | 0 => by simp
  | n + 1 => by
    rw [List.range_succ, List.flatMap_append, List.length_append, len_rows z g h n]
    simp [h, Nat.succ_mul]

/-- A cell of rows. -/
theorem get_rows (z : Nat) (g : Nat → List Value) (h : ∀ i, (g i).length = z) : ∀ (n i j : Nat), i < n → j < z → ((List.range n).flatMap g)[i * z + j]? = (g i)[j]?
  | 0, i, j, hi, _ => by omega
  | n + 1, i, j, hi, hj => by
    rw [List.range_succ, List.flatMap_append]
    by_cases hin : i < n
    · have : i * z + j < ((List.range n).flatMap g).length := by
        rw [len_rows z g h n]
        have := Nat.mul_le_mul_right z (show i + 1 ≤ n from hin)
        rw [Nat.succ_mul] at this
        omega
      rw [List.getElem?_append_left this]
      exact get_rows z g h n i j hin hj
    · have : i = n := by omega
      subst this
      rw [List.getElem?_append_right (by rw [len_rows z g h i]; omega), len_rows z g h i]
      simp

theorem cells_tr {v : LV A} (h : noTup v = true) : (LV.tr ρ v).cells = (LV.cells ρ v).toArray := by
  cases v
  case tup vs => simp [noTup] at h
  case any => simp [noTup] at h
  case undef => simp [noTup] at h
  case vec b len =>
    simp only [LV.tr, LV.cells, vecV]
    split <;> rfl
  all_goals simp [LV.tr, LV.cells, Value.cells]

mutual
theorem len_cells [LawAb A] : ∀ v : LV A, (LV.cells ρ v).length = csz v
  | .abs x => by simp [LV.cells, csz, LawAb.len]
  | .rows n z f => by
    simp only [LV.cells, csz]
    exact len_rows z _ (fun i => len_fitTo z _) n
  | .agg us => by simp only [LV.cells, csz]; exact len_cellsL us
  | .any => rfl
  | .undef => rfl
  | .int _ _ => rfl
  | .bool _ => rfl
  | .str _ => rfl
  | .ptr _ _ _ => rfl
  | .nilp => rfl
  | .slice _ _ _ _ _ => rfl
  | .vec _ _ => rfl
  | .nils => rfl
  | .nilfn => rfl
  | .niliface => rfl
  | .tup _ => rfl
  | .iface _ _ => rfl
  | .func _ _ => rfl
theorem len_cellsL [LawAb A] : ∀ us : List (LV A), (cellsL ρ us).length = cszL us
  | [] => rfl
  | v :: l => by simp only [cellsL, cszL, List.length_append]; rw [len_cells v, len_cellsL l]
end

theorem cellsL_append (us vs : List (LV A)) : cellsL ρ (us ++ vs) = cellsL ρ us ++ cellsL ρ vs := by
  induction us with
  | nil => rfl
  | cons u us ih => simp [cellsL, ih]

theorem cellsL_units (v : LV A) : cellsL ρ (units v) = LV.cells ρ v := by
  cases v <;> simp [units, cellsL, LV.cells]

/-- What 'rd' reads. -/
theorem rd_sound [LawAb A] : ∀ (us : List (LV A)) (off sz : Nat) (r : List (LV A)), rd us off sz = some r →
    cellsL ρ r = ((cellsL ρ us).drop off).take sz ∧ off + sz ≤ cszL us
  | [], off, sz, r, h => by
    simp only [rd] at h
    split at h
    · rename_i hb
      cases h; simp [cellsL, cszL, beqN (both hb).1, beqN (both hb).2]
    · cases h
  | u :: us, off, sz, r, h => by
    have hl : (LV.cells ρ u).length = csz u := len_cells ρ u
    simp only [rd] at h
    split at h
    · rename_i hb
      cases h; rw [beqN (both hb).1, beqN (both hb).2]; simp [cellsL]
    · split at h
      · rename_i h0
        have h0 := beqN h0
        subst h0
        split at h
        · rename_i hb
          have hb := bleN hb
          split at h
          · rename_i r' hr
            cases h
            have ih := rd_sound us _ _ _ hr
            refine ⟨?_, by simp only [cszL]; omega⟩
            simp only [cellsL]
            have e2 : (LV.cells ρ u).take sz = LV.cells ρ u := List.take_of_length_le (by omega)
            rw [ih.1, List.drop_zero, List.drop_zero, List.take_append, hl, e2]
          · cases h
        · cases h
      · split at h
        · rename_i hb
          have hb := bleN hb
          have ih := rd_sound us _ _ _ h
          refine ⟨?_, by simp only [cszL]; omega⟩
          rw [ih.1]
          simp only [cellsL]
          have e1 : (LV.cells ρ u).drop off = [] := List.drop_eq_nil_of_le (by omega)
          rw [List.drop_append, hl, e1, List.nil_append]
        · cases h

theorem skipU_sound [LawAb A] : ∀ (us : List (LV A)) (n : Nat) (r : List (LV A)), skipU us n = some r →
    cellsL ρ r = (cellsL ρ us).drop n ∧ n ≤ cszL us
  | [], n, r, h => by
    simp only [skipU] at h
    split at h
    · rename_i hb; cases h; simp [cellsL, beqN hb]
    · cases h
  | u :: us, n, r, h => by
    have hl : (LV.cells ρ u).length = csz u := len_cells ρ u
    simp only [skipU] at h
    split at h
    · rename_i hb; cases h; rw [beqN hb]; simp
    · split at h
      · rename_i hb
        have hb := bleN hb
        have ih := skipU_sound us _ _ h
        refine ⟨?_, by simp only [cszL]; omega⟩
        have e1 : (LV.cells ρ u).drop n = [] := List.drop_eq_nil_of_le (by omega)
        rw [ih.1]
        simp only [cellsL]
        rw [List.drop_append, hl, e1, List.nil_append]
      · cases h

/-- What 'wrU' writes. -/
theorem wrU_sound [LawAb A] : ∀ (us : List (LV A)) (off : Nat) (new r : List (LV A)), wrU us off new = some r →
    cellsL ρ r = (cellsL ρ us).take off ++ cellsL ρ new ++ (cellsL ρ us).drop (off + cszL new) ∧ off + cszL new ≤ cszL us
  | [], off, new, r, h => by
    simp only [wrU] at h
    split at h
    · rename_i hb; cases h
      have h1 := beqN (both hb).1
      have h2 := beqN (both hb).2
      simp [cellsL, cszL, h1, h2]
    · cases h
  | u :: us, off, new, r, h => by
    have hl : (LV.cells ρ u).length = csz u := len_cells ρ u
    simp only [wrU] at h
    split at h
    · rename_i hb
      split at h
      · rename_i r' hs
        cases h
        obtain ⟨h1, h2⟩ := skipU_sound ρ _ _ _ hs
        rw [beqN hb, cellsL_append, h1]
        simpa using h2
      · cases h
    · split at h
      · rename_i hb
        have hb := bleN hb
        split at h
        · rename_i r' hs
          cases h
          obtain ⟨h1, h2⟩ := wrU_sound us _ _ _ hs
          refine ⟨?_, by simp only [cszL]; omega⟩
          simp only [cellsL]
          have e1 : (LV.cells ρ u).drop (off + cszL new) = [] := List.drop_eq_nil_of_le (by omega)
          have e2 : (LV.cells ρ u).take off = LV.cells ρ u := List.take_of_length_le (by omega)
          rw [h1, List.drop_append, List.take_append, hl, e1, e2, List.nil_append, show off + cszL new - csz u = off - csz u + cszL new by omega]
          simp
        · cases h
      · cases h

/-! ## either of two -/
mutual
theorem mrg_sound (c : Bool) : ∀ (u v r : LV A), mrg c u v = some r → LV.cells ρ r = cond c (LV.cells ρ u) (LV.cells ρ v)
  | .int k a, v, r, h => by
    cases v <;> simp only [mrg, reduceCtorEq] at h
    split at h
    · rename_i e; subst e; cases h; cases c <;> rfl
    · cases h
  | .bool a, v, r, h => by cases v <;> simp only [mrg, reduceCtorEq] at h; cases h; cases c <;> rfl
  | .str a, v, r, h => by cases v <;> simp only [mrg, reduceCtorEq] at h; cases h; cases c <;> rfl
  | .abs a, v, r, h => by cases v <;> simp only [mrg, reduceCtorEq] at h; cases h; cases c <;> rfl
  | .nils, v, r, h => by cases v <;> simp only [mrg, reduceCtorEq] at h; cases h; cases c <;> rfl
  | .nilp, v, r, h => by cases v <;> simp only [mrg, reduceCtorEq] at h; cases h; cases c <;> rfl
  | .rows n z f, v, r, h => by
    cases v <;> simp only [mrg, reduceCtorEq] at h
    rename_i n' z' g
    split at h
    · rename_i e
      have e1 := beqN (both e).1
      have e2 := beqN (both e).2
      subst e1; subst e2
      cases h
      have key : ∀ j, cellsL ρ (mrgR c (f j) (g j)) = cond c (cellsL ρ (f j)) (cellsL ρ (g j)) := by
        intro j
        unfold mrgR
        split
        · rename_i r hr; exact mrgL_sound c (f j) (g j) r hr
        · cases c <;> rfl
      show (List.range n).flatMap (fun i => fitTo z (cellsL ρ (mrgR c (f i) (g i)))) = _
      simp only [key]
      cases c <;> rfl
    · cases h
  | .any, v, r, h => by simp [mrg] at h
  | .undef, v, r, h => by simp [mrg] at h
  | .ptr _ _ _, v, r, h => by simp [mrg] at h
  | .slice _ _ _ _ _, v, r, h => by simp [mrg] at h
  | .vec _ _, v, r, h => by simp [mrg] at h
  | .nilfn, v, r, h => by simp [mrg] at h
  | .niliface, v, r, h => by simp [mrg] at h
  | .agg _, v, r, h => by simp [mrg] at h
  | .tup _, v, r, h => by simp [mrg] at h
  | .iface _ _, v, r, h => by simp [mrg] at h
  | .func _ _, v, r, h => by simp [mrg] at h
theorem mrgL_sound (c : Bool) : ∀ (us vs r : List (LV A)), mrgL c us vs = some r → cellsL ρ r = cond c (cellsL ρ us) (cellsL ρ vs)
  | [], vs, r, h => by
    cases vs <;> simp only [mrgL, reduceCtorEq] at h
    cases h; cases c <;> rfl
  | u :: us, vs, r, h => by
    cases vs <;> simp only [mrgL, reduceCtorEq] at h
    rename_i v vs
    split at h
    · rename_i x hx
      split at h
      · rename_i xs hxs
        cases h
        simp only [cellsL, mrg_sound c u v x hx, mrgL_sound c us vs xs hxs]
        cases c <;> rfl
      · cases h
    · cases h
end
theorem mrgR_sound (c : Bool) (us vs : List (LV A)) : cellsL ρ (mrgR c us vs) = cond c (cellsL ρ us) (cellsL ρ vs) := by
  unfold mrgR
  split
  · rename_i r hr; exact mrgL_sound ρ c us vs r hr
  · cases c <;> rfl

mutual
/-- No cell is a struct, an array or a tuple. -/
theorem one_cells [LawAb A] : ∀ v : LV A, ∀ u ∈ LV.cells ρ v, u.oneCell' = true
  | .abs x, u, hu => by obtain ⟨k, n, rfl⟩ := LawAb.flat x u hu; rfl
  | .rows n z f, u, hu => by
    simp only [LV.cells, List.mem_flatMap, fitTo] at hu
    obtain ⟨i, _, hu⟩ := hu
    rcases List.mem_append.1 (List.mem_of_mem_take hu) with hu | hu
    · exact one_cellsL (f i) u hu
    · rw [(List.mem_replicate.1 hu).2]; rfl
  | .agg us, u, hu => one_cellsL us u hu
  | .vec b len, u, hu => by
    simp only [LV.cells, List.mem_singleton] at hu
    subst hu
    unfold vecV
    split <;> rfl
  | .any, u, hu => by simp only [LV.cells, List.mem_singleton] at hu; subst hu; rfl
  | .undef, u, hu => by simp only [LV.cells, List.mem_singleton] at hu; subst hu; rfl
  | .int _ _, u, hu => by simp only [LV.cells, List.mem_singleton] at hu; subst hu; rfl
  | .bool _, u, hu => by simp only [LV.cells, List.mem_singleton] at hu; subst hu; rfl
  | .str _, u, hu => by simp only [LV.cells, List.mem_singleton] at hu; subst hu; rfl
  | .ptr _ _ _, u, hu => by simp only [LV.cells, List.mem_singleton] at hu; subst hu; rfl
  | .nilp, u, hu => by simp only [LV.cells, List.mem_singleton] at hu; subst hu; rfl
  | .slice _ _ _ _ _, u, hu => by simp only [LV.cells, List.mem_singleton] at hu; subst hu; rfl
  | .nils, u, hu => by simp only [LV.cells, List.mem_singleton] at hu; subst hu; rfl
  | .nilfn, u, hu => by simp only [LV.cells, List.mem_singleton] at hu; subst hu; rfl
  | .niliface, u, hu => by simp only [LV.cells, List.mem_singleton] at hu; subst hu; rfl
  | .tup _, u, hu => by simp only [LV.cells, List.mem_singleton] at hu; subst hu; rfl
  | .iface _ _, u, hu => by simp only [LV.cells, List.mem_singleton] at hu; subst hu; rfl
  | .func _ _, u, hu => by simp only [LV.cells, List.mem_singleton] at hu; subst hu; rfl
theorem one_cellsL [LawAb A] : ∀ us : List (LV A), ∀ u ∈ cellsL ρ us, u.oneCell' = true
  | [], u, hu => by cases hu
  | v :: l, u, hu => by
    simp only [cellsL, List.mem_append] at hu
    rcases hu with hu | hu
    · exact one_cells v u hu
    · exact one_cellsL l u hu
end
end
end Go.Proofs.YtonmjdnkcngfjaaGreat.En

/- DERIVED. Places behind elements of open number: what is read and written there. -/
set_option linter.all false
namespace Go.Proofs.YtonmjdnkcngfjaaGreat.En
open Go

def condOk : Cnd → Prop
  | none => True
  | some c => c

theorem leB {a b : Nat} (h : a ≤ b) : Nat.ble a b = true := Nat.ble_eq_true_of_le h
theorem ltB {a b : Nat} (h : a < b) : Nat.blt a b = true := Nat.ble_eq_true_of_le h
theorem beqF {a b : Nat} (h : a ≠ b) : Nat.beq a b = false := by
  cases e : Nat.beq a b with
  | true => exact absurd (beqN e) h
  | false => rfl
theorem andC_ok {a b : Cnd} (h : condOk (andC a b)) : condOk a ∧ condOk b := by
  cases a <;> cases b <;> simp_all [andC, condOk]
theorem chkC_ok {rc b : Bool} {c : Cnd} (h : chkC rc b = some c) (hc : condOk c) : b = true := by
  cases rc
  · cases b
    · simp [chkC] at h
    · rfl
  · simp only [chkC, Option.some.injEq] at h
    subst h
    exact hc

theorem adr_add (a b : Nat) : ∀ p : List Stp, adr (a + b) p = a + adr b p
  | [] => rfl
  | s :: p => by
    simp only [adr]
    rw [show a + b + s.i * s.z + s.o = a + (b + s.i * s.z + s.o) by omega, adr_add a _ p]

/-- D is C with N laid over it from a on. -/
structure Wrote (C : List Value) (a : Nat) (N D : List Value) : Prop where
  len : D.length = C.length
  fit : a + N.length ≤ C.length
  get : ∀ j, D[j]? = if a ≤ j ∧ j < a + N.length then N[j - a]? else C[j]?

theorem wrote_over {C N : List Value} {a : Nat} (h : a + N.length ≤ C.length) : Wrote C a N (C.take a ++ N ++ C.drop (a + N.length)) where
  len := by simp; omega
  fit := h
  get j := by
    by_cases h1 : j < a
    · rw [if_neg (by omega), List.append_assoc, List.getElem?_append_left (by simp; omega), List.getElem?_take_of_lt h1]
    · by_cases h2 : j < a + N.length
      · rw [if_pos ⟨by omega, h2⟩, List.append_assoc, List.getElem?_append_right (by simp; omega), List.getElem?_append_left (by simp; omega)]
        congr 1
        simp; omega
      · rw [if_neg (by omega), List.getElem?_append_right (by simp; omega), List.getElem?_drop]
        congr 1
        simp; omega

section
variable {A : Type} [Ab A] (ρ : Key → Loc)

/-- The cells of rows. -/
def rowCells (n z : Nat) (f : Nat → List (LV A)) : List Value := (List.range n).flatMap fun i => fitTo z (cellsL ρ (f i))
theorem len_rowCells (n z : Nat) (f : Nat → List (LV A)) : (rowCells ρ n z f).length = n * z := len_rows z _ (fun _ => len_fitTo _ _) n
theorem get_rowCells {n z : Nat} (f : Nat → List (LV A)) {i j : Nat} (hi : i < n) (hj : j < z) : (rowCells ρ n z f)[i * z + j]? = (fitTo z (cellsL ρ (f i)))[j]? :=
  get_rows z (fun i => fitTo z (cellsL ρ (f i))) (fun _ => len_fitTo _ _) n i j hi hj

theorem rowsAt_sound [LawAb A] : ∀ (us : List (LV A)) (o n z : Nat) (f : Nat → List (LV A)), rowsAt us o = some (n, z, f) →
    o + n * z ≤ cszL us ∧ ((cellsL ρ us).drop o).take (n * z) = rowCells ρ n z f ∧ ∀ g, cellsL ρ (setRows us o g) = (cellsL ρ us).take o ++ rowCells ρ n z g ++ (cellsL ρ us).drop (o + n * z)
  | [], o, n, z, f, h => by simp [rowsAt] at h
  | u :: us, o, n, z, f, h => by
    have hl : (LV.cells ρ u).length = csz u := len_cells ρ u
    simp only [rowsAt] at h
    split at h
    · rename_i h0
      have h0 := beqN h0
      subst h0
      cases u <;> simp only [reduceCtorEq, Option.some.injEq, Prod.mk.injEq] at h
      obtain ⟨rfl, rfl, rfl⟩ := h
      rename_i n z f
      have hr := len_rowCells ρ n z f
      refine ⟨by simp [cszL, csz], ?_, fun g => ?_⟩
      · simp only [cellsL, LV.cells, List.drop_zero]
        exact List.take_left' hr
      · simp only [setRows, cellsL, LV.cells, List.take_zero, List.nil_append, Nat.zero_add]
        congr 1
        exact (List.drop_left' hr).symm
    · rename_i h0
      split at h
      · rename_i hb
        have hle := bleN hb
        obtain ⟨h1, h2, h3⟩ := rowsAt_sound us _ n z f h
        refine ⟨by simp only [cszL]; omega, ?_, fun g => ?_⟩
        · have e1 : (LV.cells ρ u).drop o = [] := List.drop_eq_nil_of_le (by omega)
          rw [← h2]
          simp only [cellsL]
          rw [List.drop_append, hl, e1, List.nil_append]
        · simp only [setRows, h0, hb, cellsL, h3]
          have e1 : (LV.cells ρ u).drop (o + n * z) = [] := List.drop_eq_nil_of_le (by omega)
          have e2 : (LV.cells ρ u).take o = LV.cells ρ u := List.take_of_length_le (by omega)
          rw [List.drop_append, List.take_append, hl, e1, e2, List.nil_append, show o + n * z - csz u = o - csz u + n * z by omega]
          simp
      · cases h

theorem rowsAt_get [LawAb A] {us : List (LV A)} {o n z : Nat} {f : Nat → List (LV A)} (h : rowsAt us o = some (n, z, f)) {i j : Nat} (hi : i < n) (hj : j < z) :
    (cellsL ρ us)[o + i * z + j]? = (fitTo z (cellsL ρ (f i)))[j]? := by
  obtain ⟨_, h2, _⟩ := rowsAt_sound ρ us o n z f h
  rw [← get_rowCells ρ f hi hj, ← h2, List.getElem?_take_of_lt, List.getElem?_drop]
  · congr 1; omega
  · have := Nat.mul_le_mul_right z (show i + 1 ≤ n from hi)
    rw [Nat.succ_mul] at this
    omega

theorem row_lt {i n z : Nat} (hi : i < n) : i * z + z ≤ n * z := by
  have := Nat.mul_le_mul_right z (show i + 1 ≤ n from hi)
  rwa [Nat.succ_mul] at this

/-- What 'rdP' reads. -/
theorem rdP_sound [LawAb A] {rc : Bool} : ∀ (p : List Stp) (us : List (LV A)) (o sz : Nat) (r : List (LV A)) (c : Cnd), rdP rc us o p sz = some (r, c) → condOk c →
    cellsL ρ r = ((cellsL ρ us).drop (adr o p)).take sz ∧ adr o p + sz ≤ cszL us
  | [], us, o, sz, r, c, h, _ => by
    simp only [rdP] at h
    split at h
    · rename_i r' hr
      cases h
      exact rd_sound ρ us o sz r hr
    · cases h
  | s :: p, us, o, sz, r, c, h, hc => by
    simp only [rdP] at h
    simp only [adr]
    split at h
    · rename_i n z f hra
      split at h
      · rename_i c1 hb h1
        split at h
        · rename_i r' c2 hr
          cases h
          obtain ⟨hc1, hc2⟩ := andC_ok hc
          have hz := beqN (both hb).1
          have hle := bleN (both hb).2
          have hi := bltN (chkC_ok h1 hc1)
          obtain ⟨i1, i2⟩ := rdP_sound p (f s.i) s.o sz r c2 hr hc2
          obtain ⟨j1, _, _⟩ := rowsAt_sound ρ us o n z f hra
          have hrow := row_lt (z := z) hi
          rw [← hz, adr_add]
          refine ⟨?_, by omega⟩
          rw [i1]
          apply List.ext_getElem?
          intro j
          by_cases hj : j < sz
          · rw [List.getElem?_take_of_lt hj, List.getElem?_take_of_lt hj, List.getElem?_drop, List.getElem?_drop]
            rw [show o + s.i * z + adr s.o p + j = o + s.i * z + (adr s.o p + j) by omega, rowsAt_get ρ hra hi (by omega)]
            rw [fitTo_of_le _ (by rw [len_cellsL]; omega) (by rw [len_cellsL]; omega)]
          · rw [List.getElem?_eq_none (by simp; omega), List.getElem?_eq_none (by simp; omega)]
        · cases h
      · cases h
    · exact rdP_sound p us _ sz r c h hc

/-- A place in a row: its row and its place in the row. -/
theorem row_split {o n z x : Nat} (h1 : o ≤ x) (h2 : x < o + n * z) : ∃ i j, x = o + i * z + j ∧ j < z ∧ i < n := by
  have hz0 : 0 < z := by
    rcases Nat.eq_zero_or_pos z with e | e
    · subst e; simp at h2; omega
    · exact e
  have hx := Nat.div_add_mod (x - o) z
  rw [Nat.mul_comm] at hx
  refine ⟨(x - o) / z, (x - o) % z, by omega, Nat.mod_lt _ hz0, ?_⟩
  have := Nat.mod_lt (x - o) hz0
  rcases Nat.lt_or_ge ((x - o) / z) n with h' | h'
  · exact h'
  · have := Nat.mul_le_mul_right z h'; omega

/-- A list whose middle is made of rows. -/
theorem mid_get {C : List Value} {o n z : Nat} (g : Nat → List (LV A)) (hC : o + n * z ≤ C.length) (x : Nat) :
    (C.take o ++ rowCells ρ n z g ++ C.drop (o + n * z))[x]? = if o ≤ x ∧ x < o + n * z then (rowCells ρ n z g)[x - o]? else C[x]? := by
  have hlen := len_rowCells ρ n z g
  have := (wrote_over (C := C) (N := rowCells ρ n z g) (a := o) (by omega)).get x
  rw [hlen] at this
  exact this

theorem wrote_in_row [LawAb A] {us r : List (LV A)} {o n z i a : Nat} {f : Nat → List (LV A)} {N : List Value} (hra : rowsAt us o = some (n, z, f)) (hi : i < n) (hle : cszL (f i) ≤ z) (hw : Wrote (cellsL ρ (f i)) a N (cellsL ρ r)) :
    Wrote (cellsL ρ us) (o + i * z + a) N (cellsL ρ (setRows us o (fun j => mrgR (Nat.beq j i) r (f j)))) := by
  obtain ⟨j1, j2, j3⟩ := rowsAt_sound ρ us o n z f hra
  have hrow := row_lt (z := z) hi
  have hL := len_cellsL ρ us
  have hF := len_cellsL ρ (f i)
  have hfit := hw.fit
  have hlen : (rowCells ρ n z fun j => mrgR (Nat.beq j i) r (f j)).length = n * z := len_rowCells ρ n z _
  refine ⟨by rw [j3]; simp [hlen]; omega, by omega, fun x => ?_⟩
  rw [j3, mid_get ρ _ (by omega)]
  by_cases hx : o ≤ x ∧ x < o + n * z
  · obtain ⟨i', j, hxe, hj, hin⟩ := row_split hx.1 hx.2
    rw [if_pos hx, show x - o = i' * z + j by omega, get_rowCells ρ _ hin hj, mrgR_sound]
    by_cases hii : i' = i
    · subst hii
      rw [show Nat.beq i' i' = true by simp]
      simp only [cond_true]
      have hwg := hw.get j
      by_cases hjf : j < (cellsL ρ (f i')).length
      · rw [fitTo_of_le _ (by rw [hw.len]; omega) (by rw [hw.len]; exact hjf), hwg]
        have hc0 : (cellsL ρ us)[x]? = (cellsL ρ (f i'))[j]? := by
          rw [hxe, rowsAt_get ρ hra hi hj, fitTo_of_le _ (by omega) hjf]
        by_cases hin2 : a ≤ j ∧ j < a + N.length
        · rw [if_pos hin2, if_pos (by omega)]
          congr 1; omega
        · rw [if_neg hin2, if_neg (by omega), hc0]
      · have e3 : (fitTo z (cellsL ρ r))[j]? = (fitTo z (cellsL ρ (f i')))[j]? := by
          simp only [fitTo]
          rw [List.getElem?_take_of_lt hj, List.getElem?_take_of_lt hj, List.getElem?_append_right (by rw [hw.len]; omega), List.getElem?_append_right (by omega), hw.len]
        rw [e3, if_neg (by omega), hxe, rowsAt_get ρ hra hi hj]
    · rw [beqF hii]
      simp only [cond_false]
      have : ¬ (o + i * z + a ≤ x ∧ x < o + i * z + a + N.length) := by
        rcases Nat.lt_or_gt_of_ne hii with h' | h'
        · have := row_lt (z := z) h'; omega
        · have := row_lt (z := z) h'; omega
      rw [if_neg this, hxe, rowsAt_get ρ hra hin hj]
  · rw [if_neg hx, if_neg (by omega)]

/-- Rows written over rows. -/
theorem wrote_rows {C D : List Value} {o len z lo n : Nat} {g h : Nat → List (LV A)} (hC : o + len * z ≤ C.length) (hD : D = C.take o ++ rowCells ρ len z h ++ C.drop (o + len * z)) (hn : lo + n ≤ len)
    (hg : ∀ j, j < len → lo ≤ j ∧ j < lo + n → cellsL ρ (h j) = cellsL ρ (g (j - lo)))
    (ho : ∀ j, j < len → ¬ (lo ≤ j ∧ j < lo + n) → ∀ b, b < z → (fitTo z (cellsL ρ (h j)))[b]? = C[o + j * z + b]?) : Wrote C (o + lo * z) (rowCells ρ n z g) D := by
  subst hD
  have hlen : (rowCells ρ len z h).length = len * z := len_rowCells ρ len z h
  have hlen' : (rowCells ρ n z g).length = n * z := len_rowCells ρ n z g
  have hm : lo * z + n * z ≤ len * z := by rw [← Nat.add_mul]; exact Nat.mul_le_mul_right z hn
  refine ⟨by simp [hlen]; omega, by omega, fun x => ?_⟩
  rw [mid_get ρ _ hC]
  by_cases hx : o ≤ x ∧ x < o + len * z
  · obtain ⟨i, j, hxe, hj, hin⟩ := row_split hx.1 hx.2
    rw [if_pos hx, show x - o = i * z + j by omega, get_rowCells ρ _ hin hj]
    by_cases hi : lo ≤ i ∧ i < lo + n
    · have h1 := Nat.mul_le_mul_right z hi.1
      have h2 := row_lt (z := z) (show i - lo < n by omega)
      have h3 : i * z = lo * z + (i - lo) * z := by rw [← Nat.add_mul]; congr 1; omega
      rw [hg i hin hi, if_pos (by omega), show x - (o + lo * z) = (i - lo) * z + j by omega, get_rowCells ρ _ (by omega) hj]
    · rw [ho i hin hi j hj, ← hxe, if_neg]
      rintro ⟨h1, h2⟩
      apply hi
      constructor
      · rcases Nat.lt_or_ge i lo with h' | h'
        · have := row_lt (z := z) h'; omega
        · exact h'
      · rcases Nat.lt_or_ge i (lo + n) with h' | h'
        · exact h'
        · have := Nat.mul_le_mul_right z h'
          rw [Nat.add_mul] at this; omega
  · rw [if_neg hx, if_neg (by omega)]

/-- What 'wrP' writes. -/
theorem wrP_sound [LawAb A] {rc : Bool} : ∀ (p : List Stp) (us : List (LV A)) (o : Nat) (new r : List (LV A)) (c : Cnd), wrP rc us o p new = some (r, c) → condOk c →
    Wrote (cellsL ρ us) (adr o p) (cellsL ρ new) (cellsL ρ r)
  | [], us, o, new, r, c, h, _ => by
    simp only [wrP] at h
    split at h
    · rename_i r' hr
      cases h
      obtain ⟨h1, h2⟩ := wrU_sound ρ us o new r hr
      rw [h1, ← len_cellsL ρ new]
      exact wrote_over (by rw [len_cellsL, len_cellsL]; exact h2)
    · cases h
  | s :: p, us, o, new, r, c, h, hc => by
    simp only [wrP] at h
    simp only [adr]
    split at h
    · rename_i n z f hra
      split at h
      · rename_i c1 hb h1
        split at h
        · rename_i r' c2 hr
          cases h
          obtain ⟨hc1, hc2⟩ := andC_ok hc
          rw [← beqN (both hb).1, adr_add]
          exact wrote_in_row ρ hra (bltN (chkC_ok h1 hc1)) (bleN (both hb).2) (wrP_sound p (f s.i) s.o new r' c2 hr hc2)
        · cases h
      · cases h
    · exact wrP_sound p us _ new r c h hc

theorem cutRows_sound [LawAb A] (us : List (LV A)) (z : Nat) : ∀ (n o : Nat) (l : List (List (LV A))), cutRows us o z n = some l →
    ∀ i, i < n → cellsL ρ (l.getD i []) = ((cellsL ρ us).drop (o + i * z)).take z ∧ o + i * z + z ≤ cszL us
  | 0, o, l, _ => fun i hi => by omega
  | n + 1, o, l, h => by
    simp only [cutRows] at h
    split at h
    · rename_i r hr
      split at h
      · rename_i rs hrs
        cases h
        intro i hi
        cases i with
        | zero =>
          have := rd_sound ρ us o z r hr
          simpa using this
        | succ i =>
          have := cutRows_sound us z n (o + z) rs hrs i (by omega)
          rw [List.getD_cons_succ, show o + (i + 1) * z = o + z + i * z by rw [Nat.succ_mul]; omega]
          exact this
      · cases h
    · cases h

theorem cut_get [LawAb A] {us : List (LV A)} {z n o : Nat} {l : List (List (LV A))} (h : cutRows us o z n = some l) {i j : Nat} (hi : i < n) (hj : j < z) : (fitTo z (cellsL ρ (l.getD i [])))[j]? = (cellsL ρ us)[o + i * z + j]? := by
  obtain ⟨h1, h2⟩ := cutRows_sound ρ us z n o l h i hi
  have hL := len_cellsL ρ us
  have : (cellsL ρ (l.getD i [])).length = z := by rw [h1]; simp; omega
  rw [fitTo_eq this, h1, List.getElem?_take_of_lt hj, List.getElem?_drop]

/-- What 'rowsP' reads. -/
theorem rowsP_sound [LawAb A] {rc : Bool} {z len : Nat} : ∀ (p : List Stp) (us : List (LV A)) (o : Nat) (g : Nat → List (LV A)) (c : Cnd), rowsP rc us o p z len = some (g, c) → condOk c →
    ∀ i j, i < len → j < z → (fitTo z (cellsL ρ (g i)))[j]? = (cellsL ρ us)[adr o p + i * z + j]? ∧ adr o p + i * z + j < (cellsL ρ us).length
  | [], us, o, g, c, h, hc => by
    simp only [rowsP] at h
    simp only [adr]
    intro i j hi hj
    have hL := len_cellsL ρ us
    split at h
    · rename_i n z' f hra
      split at h
      · rename_i c' hz h1
        cases h
        have hz := beqN hz
        subst hz
        have hle := bleN (chkC_ok h1 hc)
        obtain ⟨j1, _, _⟩ := rowsAt_sound ρ us o n z _ hra
        have := row_lt (z := z) (show i < n by omega)
        exact ⟨(rowsAt_get ρ hra (by omega) hj).symm, by omega⟩
      · cases h
    · split at h
      · rename_i l hl
        cases h
        have := (cutRows_sound ρ us z len o l hl i hi).2
        exact ⟨cut_get ρ hl hi hj, by omega⟩
      · cases h
  | s :: q, us, o, g, c, h, hc => by
    simp only [rowsP] at h
    simp only [adr]
    have hL := len_cellsL ρ us
    split at h
    · rename_i n z' f hra
      obtain ⟨j1, _, _⟩ := rowsAt_sound ρ us o n z' f hra
      split at h
      · rename_i hz'
        have hz' := beqN hz'
        split at h
        · rename_i hb
          have hz := beqN (both (both hb).1).1
          have h0 := beqN (both (both hb).1).2
          have hq : q = [] := List.isEmpty_iff.1 (both hb).2
          subst hq
          split at h
          · rename_i c' h1
            cases h
            have hle := bleN (chkC_ok h1 hc)
            intro i j hi hj
            simp only [adr, h0]
            subst hz'
            have hz2 : z = s.z := hz
            rw [hz2] at hj ⊢
            have := row_lt (z := s.z) (show s.i + i < n by omega)
            rw [Nat.add_mul] at this
            rw [show o + s.i * s.z + 0 + i * s.z + j = o + (s.i + i) * s.z + j by rw [Nat.add_mul]; omega]
            refine ⟨(rowsAt_get ρ hra (by omega) hj).symm, ?_⟩
            rw [Nat.add_mul]; omega
          · cases h
        · split at h
          · rename_i c1 hb h1
            split at h
            · rename_i g' c2 hr
              cases h
              obtain ⟨hc1, hc2⟩ := andC_ok hc
              have hi' := bltN (chkC_ok h1 hc1)
              have hle := bleN hb
              intro i j hi hj
              obtain ⟨k1, k2⟩ := rowsP_sound q (f s.i) s.o g c2 hr hc2 i j hi hj
              have hF := len_cellsL ρ (f s.i)
              have hrow := row_lt (z := z') hi'
              rw [← hz', adr_add, k1]
              rw [show o + s.i * z' + adr s.o q + i * z + j = o + s.i * z' + (adr s.o q + i * z + j) by omega, rowsAt_get ρ hra hi' (by omega)]
              exact ⟨(fitTo_of_le _ (by omega) k2).symm, by omega⟩
            · cases h
          · cases h
      · cases h
    · exact rowsP_sound q us _ g c h hc

/-- What 'putRows' writes. -/
theorem putRows_sound [LawAb A] {rc : Bool} {z len n : Nat} {g : Nat → List (LV A)} : ∀ (p : List Stp) (us : List (LV A)) (o : Nat) (r : List (LV A)) (c : Cnd), putRows rc us o p z len n g = some (r, c) → condOk c →
    Wrote (cellsL ρ us) (adr o p) (rowCells ρ n z g) (cellsL ρ r)
  | [], us, o, r, c, h, hc => by
    simp only [putRows] at h
    simp only [adr]
    have hL := len_cellsL ρ us
    split at h
    · rename_i n' z' f hra
      split at h
      · rename_i c' hz h1
        cases h
        have hz := beqN hz
        subst hz
        have hle := bleN (chkC_ok h1 hc)
        obtain ⟨j1, _, j3⟩ := rowsAt_sound ρ us o n' z f hra
        have := wrote_rows ρ (o := o) (lo := 0) (n := n) (g := g) (by omega) (j3 (fun j => mrgR (Nat.blt j n) (g j) (f j))) (by omega)
          (fun j hj h => by rw [mrgR_sound, ltB (show j < n by omega)]; rfl)
          (fun j hj h b hb => by
            rw [mrgR_sound, show Nat.blt j n = false from by cases e : Nat.blt j n with | true => exact absurd ⟨Nat.zero_le _, by have := bltN e; omega⟩ h | false => rfl]
            exact (rowsAt_get ρ hra hj hb).symm)
        simpa using this
      · cases h
    · split at h
      · rename_i l c' hl h1
        split at h
        · rename_i r' hr
          cases h
          have hle := bleN (chkC_ok h1 hc)
          obtain ⟨k1, k2⟩ := wrU_sound ρ us o _ r hr
          have e : cszL [LV.rows len z fun j => mrgR (Nat.blt j n) (g j) (l.getD j [])] = len * z := by simp [cszL, csz]
          rw [e] at k1 k2
          have := wrote_rows ρ (C := cellsL ρ us) (D := cellsL ρ r) (o := o) (len := len) (z := z) (lo := 0) (n := n) (g := g) (h := fun j => mrgR (Nat.blt j n) (g j) (l.getD j [])) (by omega) (by rw [k1]; simp [cellsL, LV.cells, rowCells]) (by omega)
            (fun j hj h => by rw [mrgR_sound, ltB (show j < n by omega)]; rfl)
            (fun j hj h b hb => by
              rw [mrgR_sound, show Nat.blt j n = false from by cases e : Nat.blt j n with | true => exact absurd ⟨Nat.zero_le _, by have := bltN e; omega⟩ h | false => rfl]
              exact cut_get ρ hl hj hb)
          simpa using this
        · cases h
      · cases h
  | s :: q, us, o, r, c, h, hc => by
    simp only [putRows] at h
    simp only [adr]
    have hL := len_cellsL ρ us
    split at h
    · rename_i n' z' f hra
      obtain ⟨j1, _, j3⟩ := rowsAt_sound ρ us o n' z' f hra
      split at h
      · rename_i hz'
        have hz' := beqN hz'
        split at h
        · rename_i hb
          have hz := beqN (both (both hb).1).1
          have h0 := beqN (both (both hb).1).2
          have hq : q = [] := List.isEmpty_iff.1 (both hb).2
          subst hq
          split at h
          · rename_i c' h1
            cases h
            have hle := bleN (chkC_ok h1 hc)
            simp only [adr, h0]
            have hzz : z = z' := hz.trans hz'.symm
            subst hzz
            have := wrote_rows ρ (o := o) (lo := s.i) (n := n) (g := g) (by omega) (j3 (fun j => mrgR (Nat.ble s.i j && Nat.blt j (s.i + n)) (g (j - s.i)) (f j))) (by omega)
              (fun j hj h => by rw [mrgR_sound, leB h.1, ltB h.2]; rfl)
              (fun j hj h b hb => by
                rw [mrgR_sound, show (Nat.ble s.i j && Nat.blt j (s.i + n)) = false from by
                  cases e : (Nat.ble s.i j && Nat.blt j (s.i + n)) with
                  | true => exact absurd ⟨bleN (both e).1, bltN (both e).2⟩ h
                  | false => rfl]
                exact (rowsAt_get ρ hra hj hb).symm)
            rw [← hz]
            simpa using this
          · cases h
        · split at h
          · rename_i c1 hb h1
            split at h
            · rename_i r' c2 hr
              cases h
              obtain ⟨hc1, hc2⟩ := andC_ok hc
              rw [← hz', adr_add]
              exact wrote_in_row ρ hra (bltN (chkC_ok h1 hc1)) (bleN hb) (putRows_sound q (f s.i) s.o r' c2 hr hc2)
            · cases h
          · cases h
      · cases h
    · exact putRows_sound q us _ r c h hc
end
end Go.Proofs.YtonmjdnkcngfjaaGreat.En

/- DERIVED. Which blocks a value names; constants. -/
set_option linter.all false
namespace Go.Proofs.YtonmjdnkcngfjaaGreat.En
open Go Go.RowKit

section
variable {A : Type}

/-! ## which blocks a value names, and as slices of what length -/
mutual
def LV.kin (p : Key → Nat → Prop) : LV A → Prop
  | .ptr b _ _ => p b 0
  | .slice b _ _ _ _ => p b 0
  | .vec b len => p b len
  | .rows _ _ f => ∀ i, kinL p (f i)
  | .agg us => kinL p us
  | .tup vs => kinL p vs
  | .iface _ v => LV.kin p v
  | .func _ caps => kinL p caps
  | .any => True
  | .undef => True
  | .int _ _ => True
  | .bool _ => True
  | .str _ => True
  | .nilp => True
  | .nils => True
  | .nilfn => True
  | .niliface => True
  | .abs _ => True
def kinL (p : Key → Nat → Prop) : List (LV A) → Prop
  | [] => True
  | v :: l => LV.kin p v ∧ kinL p l
end

theorem kinL_iff (p : Key → Nat → Prop) (l : List (LV A)) : kinL p l ↔ ∀ v ∈ l, LV.kin p v := by
  induction l with
  | nil => simp [kinL]
  | cons v l ih => simp [kinL, ih]

mutual
theorem kin_mono {p q : Key → Nat → Prop} (h : ∀ k m, p k m → q k m) : ∀ v : LV A, v.kin p → v.kin q
  | .ptr b _ _, hv => h b 0 hv
  | .slice b _ _ _ _, hv => h b 0 hv
  | .vec b len, hv => h b len hv
  | .rows _ _ f, hv => fun i => kinL_mono h (f i) (hv i)
  | .agg us, hv => kinL_mono h us hv
  | .tup vs, hv => kinL_mono h vs hv
  | .iface _ v, hv => kin_mono h v hv
  | .func _ caps, hv => kinL_mono h caps hv
  | .any, _ => trivial
  | .undef, _ => trivial
  | .int _ _, _ => trivial
  | .bool _, _ => trivial
  | .str _, _ => trivial
  | .nilp, _ => trivial
  | .nils, _ => trivial
  | .nilfn, _ => trivial
  | .niliface, _ => trivial
  | .abs _, _ => trivial
theorem kinL_mono {p q : Key → Nat → Prop} (h : ∀ k m, p k m → q k m) : ∀ l : List (LV A), kinL p l → kinL q l
  | [], _ => trivial
  | v :: l, hv => ⟨kin_mono h v hv.1, kinL_mono h l hv.2⟩
end

theorem kin_units {p : Key → Nat → Prop} {v : LV A} (h : v.kin p) : kinL p (units v) := by
  cases v <;> first | exact h | exact ⟨h, trivial⟩

theorem kin_ofUnits {p : Key → Nat → Prop} {b : Bool} {us : List (LV A)} {v : LV A} (h : ofUnits b us = some v) (hk : kinL p us) : v.kin p := by
  unfold ofUnits at h
  split at h
  · cases h; exact hk
  · split at h
    · split at h <;> cases h <;> exact hk.1
    · cases h

theorem kinL_append {p : Key → Nat → Prop} {l m : List (LV A)} (h : kinL p l) (h' : kinL p m) : kinL p (l ++ m) := by
  rw [kinL_iff] at *
  intro v hv
  rcases List.mem_append.1 hv with hv | hv
  · exact h v hv
  · exact h' v hv
theorem kinL_get {p : Key → Nat → Prop} {l : List (LV A)} (h : kinL p l) {i : Nat} {v : LV A} (hv : l[i]? = some v) : v.kin p := (kinL_iff p l).1 h v (List.mem_of_getElem? hv)
theorem kinL_set {p : Key → Nat → Prop} {l : List (LV A)} (h : kinL p l) (i : Nat) {v : LV A} (hv : v.kin p) : kinL p (l.set i v) := by
  rw [kinL_iff] at *
  intro u hu
  rcases List.mem_or_eq_of_mem_set hu with hu | rfl
  · exact h u hu
  · exact hv
theorem kin_getD {p : Key → Nat → Prop} {l : List (List (LV A))} (h : ∀ us ∈ l, kinL p us) (i : Nat) : kinL p (l.getD i []) := by
  rw [List.getD_eq_getElem?_getD]
  cases e : l[i]? with
  | none => trivial
  | some us => exact h us (List.mem_of_getElem? e)

mutual
theorem kin_mrg {p : Key → Nat → Prop} (c : Bool) : ∀ (u v r : LV A), mrg c u v = some r → u.kin p → v.kin p → r.kin p
  | .int k a, v, r, h, _, _ => by
    cases v <;> simp only [mrg, reduceCtorEq] at h
    split at h <;> cases h
    trivial
  | .bool a, v, r, h, _, _ => by cases v <;> simp only [mrg, reduceCtorEq] at h; cases h; trivial
  | .str a, v, r, h, _, _ => by cases v <;> simp only [mrg, reduceCtorEq] at h; cases h; trivial
  | .abs a, v, r, h, _, _ => by cases v <;> simp only [mrg, reduceCtorEq] at h; cases h; trivial
  | .nils, v, r, h, _, _ => by cases v <;> simp only [mrg, reduceCtorEq] at h; cases h; trivial
  | .nilp, v, r, h, _, _ => by cases v <;> simp only [mrg, reduceCtorEq] at h; cases h; trivial
  | .rows n z f, v, r, h, hu, hv => by
    cases v <;> simp only [mrg, reduceCtorEq] at h
    rename_i n' z' g
    split at h
    · cases h
      intro j
      show kinL p (mrgR c (f j) (g j))
      unfold mrgR
      split
      · rename_i r hr; exact kin_mrgL c (f j) (g j) r hr (hu j) (hv j)
      · cases c
        · exact hv j
        · exact hu j
    · cases h
  | .any, v, r, h, _, _ => by simp [mrg] at h
  | .undef, v, r, h, _, _ => by simp [mrg] at h
  | .ptr _ _ _, v, r, h, _, _ => by simp [mrg] at h
  | .slice _ _ _ _ _, v, r, h, _, _ => by simp [mrg] at h
  | .vec _ _, v, r, h, _, _ => by simp [mrg] at h
  | .nilfn, v, r, h, _, _ => by simp [mrg] at h
  | .niliface, v, r, h, _, _ => by simp [mrg] at h
  | .agg _, v, r, h, _, _ => by simp [mrg] at h
  | .tup _, v, r, h, _, _ => by simp [mrg] at h
  | .iface _ _, v, r, h, _, _ => by simp [mrg] at h
  | .func _ _, v, r, h, _, _ => by simp [mrg] at h
theorem kin_mrgL {p : Key → Nat → Prop} (c : Bool) : ∀ (us vs r : List (LV A)), mrgL c us vs = some r → kinL p us → kinL p vs → kinL p r
  | [], vs, r, h, _, _ => by
    cases vs <;> simp only [mrgL, reduceCtorEq] at h
    cases h; trivial
  | u :: us, vs, r, h, hu, hv => by
    cases vs <;> simp only [mrgL, reduceCtorEq] at h
    rename_i v vs
    split at h
    · rename_i x hx
      split at h
      · rename_i xs hxs
        cases h
        exact ⟨kin_mrg c u v x hx hu.1 hv.1, kin_mrgL c us vs xs hxs hu.2 hv.2⟩
      · cases h
    · cases h
end
theorem kin_mrgR {p : Key → Nat → Prop} (c : Bool) {us vs : List (LV A)} (hu : kinL p us) (hv : kinL p vs) : kinL p (mrgR c us vs) := by
  unfold mrgR
  split
  · rename_i r hr; exact kin_mrgL c us vs r hr hu hv
  · cases c
    · exact hv
    · exact hu

variable [Ab A]

theorem vecV_congr {l l' : Loc} (h : l = l') (n : Nat) : vecV l n = vecV l' n := by rw [h]
mutual
theorem tr_congr {p : Key → Nat → Prop} {ρ ρ' : Key → Loc} (h : ∀ k m, p k m → ρ k = ρ' k) : ∀ v : LV A, v.kin p → LV.tr ρ v = LV.tr ρ' v
  | .ptr b _ _, hv => by simp only [LV.tr, h b 0 hv]
  | .slice b _ _ _ _, hv => by simp only [LV.tr, h b 0 hv]
  | .vec b len, hv => by simp only [LV.tr, h b len hv]
  | .rows n z f, hv => by
    have := fun i => cellsL_congr h (f i) (hv i)
    simp only [LV.tr, this]
  | .agg us, hv => by simp only [LV.tr, cellsL_congr h us hv]
  | .tup vs, hv => by simp only [LV.tr, trs_congr h vs hv]
  | .iface _ v, hv => by simp only [LV.tr, tr_congr h v hv]
  | .func _ caps, hv => by simp only [LV.tr, trs_congr h caps hv]
  | .any, _ => rfl
  | .undef, _ => rfl
  | .int _ _, _ => rfl
  | .bool _, _ => rfl
  | .str _, _ => rfl
  | .nilp, _ => rfl
  | .nils, _ => rfl
  | .nilfn, _ => rfl
  | .niliface, _ => rfl
  | .abs _, _ => rfl
theorem cells_congr {p : Key → Nat → Prop} {ρ ρ' : Key → Loc} (h : ∀ k m, p k m → ρ k = ρ' k) : ∀ v : LV A, v.kin p → LV.cells ρ v = LV.cells ρ' v
  | .ptr b _ _, hv => by simp only [LV.cells, h b 0 hv]
  | .slice b _ _ _ _, hv => by simp only [LV.cells, h b 0 hv]
  | .vec b len, hv => by simp only [LV.cells, h b len hv]
  | .rows n z f, hv => by
    have := fun i => cellsL_congr h (f i) (hv i)
    simp only [LV.cells, this]
  | .agg us, hv => by simp only [LV.cells, cellsL_congr h us hv]
  | .tup vs, hv => rfl
  | .iface _ v, hv => by simp only [LV.cells, tr_congr h v hv]
  | .func _ caps, hv => by simp only [LV.cells, trs_congr h caps hv]
  | .any, _ => rfl
  | .undef, _ => rfl
  | .int _ _, _ => rfl
  | .bool _, _ => rfl
  | .str _, _ => rfl
  | .nilp, _ => rfl
  | .nils, _ => rfl
  | .nilfn, _ => rfl
  | .niliface, _ => rfl
  | .abs _, _ => rfl
theorem trs_congr {p : Key → Nat → Prop} {ρ ρ' : Key → Loc} (h : ∀ k m, p k m → ρ k = ρ' k) : ∀ l : List (LV A), kinL p l → trs ρ l = trs ρ' l
  | [], _ => rfl
  | v :: l, hv => by simp only [trs]; rw [tr_congr h v hv.1, trs_congr h l hv.2]
theorem cellsL_congr {p : Key → Nat → Prop} {ρ ρ' : Key → Loc} (h : ∀ k m, p k m → ρ k = ρ' k) : ∀ l : List (LV A), kinL p l → cellsL ρ l = cellsL ρ' l
  | [], _ => rfl
  | v :: l, hv => by simp only [cellsL]; rw [cells_congr h v hv.1, cellsL_congr h l hv.2]
end

theorem kin_rd {p : Key → Nat → Prop} : ∀ (us : List (LV A)) (off sz : Nat) (r : List (LV A)), rd us off sz = some r → kinL p us → kinL p r
  | [], off, sz, r, h, _ => by
    simp only [rd] at h
    split at h <;> cases h
    trivial
  | u :: us, off, sz, r, h, hk => by
    simp only [rd] at h
    split at h
    · cases h; trivial
    · split at h
      · split at h
        · split at h
          · rename_i r' hr; cases h; exact ⟨hk.1, kin_rd us _ _ _ hr hk.2⟩
          · cases h
        · cases h
      · split at h
        · exact kin_rd us _ _ _ h hk.2
        · cases h
theorem kin_skipU {p : Key → Nat → Prop} : ∀ (us : List (LV A)) (n : Nat) (r : List (LV A)), skipU us n = some r → kinL p us → kinL p r
  | [], n, r, h, _ => by
    simp only [skipU] at h
    split at h <;> cases h
    trivial
  | u :: us, n, r, h, hk => by
    simp only [skipU] at h
    split at h
    · cases h; exact hk
    · split at h
      · exact kin_skipU us _ _ h hk.2
      · cases h
theorem kin_wrU {p : Key → Nat → Prop} : ∀ (us : List (LV A)) (off : Nat) (new r : List (LV A)), wrU us off new = some r → kinL p us → kinL p new → kinL p r
  | [], off, new, r, h, _, hn => by
    simp only [wrU] at h
    split at h <;> cases h
    exact hn
  | u :: us, off, new, r, h, hk, hn => by
    simp only [wrU] at h
    split at h
    · split at h
      · rename_i r' hr; cases h; exact kinL_append hn (kin_skipU _ _ _ hr hk)
      · cases h
    · split at h
      · split at h
        · rename_i r' hr; cases h; exact ⟨hk.1, kin_wrU us _ _ _ hr hk.2 hn⟩
        · cases h
      · cases h
theorem kin_rowsAt {p : Key → Nat → Prop} : ∀ (us : List (LV A)) (o n z : Nat) (f : Nat → List (LV A)), rowsAt us o = some (n, z, f) → kinL p us → ∀ i, kinL p (f i)
  | [], o, n, z, f, h, _ => by simp [rowsAt] at h
  | u :: us, o, n, z, f, h, hk => by
    simp only [rowsAt] at h
    split at h
    · cases u <;> simp only [reduceCtorEq, Option.some.injEq, Prod.mk.injEq] at h
      obtain ⟨rfl, rfl, rfl⟩ := h
      exact hk.1
    · split at h
      · exact kin_rowsAt us _ n z f h hk.2
      · cases h
theorem kin_setRows {p : Key → Nat → Prop} {g : Nat → List (LV A)} (hg : ∀ i, kinL p (g i)) : ∀ (us : List (LV A)) (o : Nat), kinL p us → kinL p (setRows us o g)
  | [], o, h => h
  | u :: us, o, h => by
    simp only [setRows]
    split
    · cases u <;> first | exact ⟨hg, h.2⟩ | exact h
    · split
      · exact ⟨h.1, kin_setRows hg us _ h.2⟩
      · exact h
theorem kin_rdP {p : Key → Nat → Prop} {rc : Bool} : ∀ (q : List Stp) (us : List (LV A)) (o sz : Nat) (r : List (LV A)) (c : Cnd), rdP rc us o q sz = some (r, c) → kinL p us → kinL p r
  | [], us, o, sz, r, c, h, hk => by
    simp only [rdP] at h
    split at h
    · rename_i r' hr; cases h; exact kin_rd us o sz r hr hk
    · cases h
  | s :: q, us, o, sz, r, c, h, hk => by
    simp only [rdP] at h
    split at h
    · rename_i n z f hra
      split at h
      · split at h
        · rename_i r' c2 hr
          cases h
          exact kin_rdP q (f s.i) s.o sz r c2 hr (kin_rowsAt us o n z f hra hk s.i)
        · cases h
      · cases h
    · exact kin_rdP q us _ sz r c h hk
theorem kin_wrP {p : Key → Nat → Prop} {rc : Bool} : ∀ (q : List Stp) (us : List (LV A)) (o : Nat) (new r : List (LV A)) (c : Cnd), wrP rc us o q new = some (r, c) → kinL p us → kinL p new → kinL p r
  | [], us, o, new, r, c, h, hk, hn => by
    simp only [wrP] at h
    split at h
    · rename_i r' hr; cases h; exact kin_wrU us o new r hr hk hn
    · cases h
  | s :: q, us, o, new, r, c, h, hk, hn => by
    simp only [wrP] at h
    split at h
    · rename_i n z f hra
      have hf := kin_rowsAt us o n z f hra hk
      split at h
      · split at h
        · rename_i r' c2 hr
          cases h
          exact kin_setRows (fun j => kin_mrgR _ (kin_wrP q (f s.i) s.o new r' c2 hr (hf s.i) hn) (hf j)) us o hk
        · cases h
      · cases h
    · exact kin_wrP q us _ new r c h hk hn
theorem kin_cutRows {p : Key → Nat → Prop} {us : List (LV A)} {z : Nat} (hk : kinL p us) : ∀ (n o : Nat) (l : List (List (LV A))), cutRows us o z n = some l → ∀ r ∈ l, kinL p r
  | 0, o, l, h => by simp only [cutRows, Option.some.injEq] at h; subst h; intro r hr; cases hr
  | n + 1, o, l, h => by
    simp only [cutRows] at h
    split at h
    · rename_i r hr
      split at h
      · rename_i rs hrs
        cases h
        intro x hx
        rcases List.mem_cons.1 hx with rfl | hx
        · exact kin_rd us o z _ hr hk
        · exact kin_cutRows hk n _ rs hrs x hx
      · cases h
    · cases h
theorem kin_rowsP {p : Key → Nat → Prop} {rc : Bool} {z len : Nat} : ∀ (q : List Stp) (us : List (LV A)) (o : Nat) (g : Nat → List (LV A)) (c : Cnd), rowsP rc us o q z len = some (g, c) → kinL p us → ∀ i, kinL p (g i)
  | [], us, o, g, c, h, hk => by
    simp only [rowsP] at h
    split at h
    · rename_i n z' f hra
      split at h
      · cases h; exact kin_rowsAt us o n z' _ hra hk
      · cases h
    · split at h
      · rename_i l hl
        cases h
        exact fun i => kin_getD (kin_cutRows hk len o l hl) i
      · cases h
  | s :: q, us, o, g, c, h, hk => by
    simp only [rowsP] at h
    split at h
    · rename_i n z' f hra
      have hf := kin_rowsAt us o n z' f hra hk
      split at h
      · split at h
        · split at h
          · cases h; exact fun i => hf _
          · cases h
        · split at h
          · split at h
            · rename_i g' c2 hr
              cases h
              exact kin_rowsP q (f s.i) s.o g c2 hr (hf s.i)
            · cases h
          · cases h
      · cases h
    · exact kin_rowsP q us _ g c h hk
theorem kin_putRows {p : Key → Nat → Prop} {rc : Bool} {z len n : Nat} {g : Nat → List (LV A)} (hg : ∀ i, kinL p (g i)) : ∀ (q : List Stp) (us : List (LV A)) (o : Nat) (r : List (LV A)) (c : Cnd), putRows rc us o q z len n g = some (r, c) → kinL p us → kinL p r
  | [], us, o, r, c, h, hk => by
    simp only [putRows] at h
    split at h
    · rename_i n' z' f hra
      split at h
      · cases h; exact kin_setRows (fun j => kin_mrgR _ (hg j) (kin_rowsAt us o n' z' f hra hk j)) us o hk
      · cases h
    · split at h
      · rename_i l c' hl h1
        split at h
        · rename_i r' hr
          cases h
          exact kin_wrU us o _ r hr hk ⟨fun j => kin_mrgR _ (hg j) (kin_getD (kin_cutRows hk len o l hl) j), trivial⟩
        · cases h
      · cases h
  | s :: q, us, o, r, c, h, hk => by
    simp only [putRows] at h
    split at h
    · rename_i n' z' f hra
      have hf := kin_rowsAt us o n' z' f hra hk
      split at h
      · split at h
        · split at h
          · cases h; exact kin_setRows (fun j => kin_mrgR _ (hg _) (hf j)) us o hk
          · cases h
        · split at h
          · split at h
            · rename_i r' c2 hr
              cases h
              exact kin_setRows (fun j => kin_mrgR _ (kin_putRows hg q (f s.i) s.o r' c2 hr (hf s.i)) (hf j)) us o hk
            · cases h
          · cases h
      · cases h
    · exact kin_putRows hg q us _ r c h hk

/-! ## constants -/
theorem ofCell_sound (ρ : Key → Loc) {v : Value} {u : LV A} (h : ofCell v = some u) : LV.tr ρ u = v ∧ LV.cells ρ u = [v] ∧ ∀ p, u.kin p := by
  unfold ofCell at h
  split at h <;> cases h <;> exact ⟨rfl, rfl, fun _ => trivial⟩
theorem ofCells_sound (ρ : Key → Loc) : ∀ {l : List Value} {us : List (LV A)}, ofCells l = some us → cellsL ρ us = l ∧ ∀ p, kinL p us
  | [], us, h => by simp only [ofCells] at h; cases h; exact ⟨rfl, fun _ => trivial⟩
  | v :: l, us, h => by
    simp only [ofCells] at h
    split at h
    · rename_i u hu
      split at h
      · rename_i us' hus
        cases h
        have h1 := ofCell_sound ρ hu
        have h2 := ofCells_sound ρ hus
        exact ⟨by simp [cellsL, h1.2.1, h2.1], fun p => ⟨h1.2.2 p, h2.2 p⟩⟩
      · cases h
    · cases h
theorem ofConst_sound (ρ : Key → Loc) {v : Value} {u : LV A} (h : ofConst v = some u) : LV.tr ρ u = v ∧ ∀ p, u.kin p := by
  unfold ofConst at h
  split at h
  · split at h
    · rename_i us hus
      cases h
      have h2 := ofCells_sound ρ hus
      exact ⟨by simp [LV.tr, h2.1], h2.2⟩
    · cases h
  · have h1 := ofCell_sound ρ h; exact ⟨h1.1, h1.2.2⟩
end
end Go.Proofs.YtonmjdnkcngfjaaGreat.En

/- DERIVED. The second executor's state against the model's frame and world. -/
set_option linter.all false
namespace Go.Proofs.YtonmjdnkcngfjaaGreat.En
open Go Go.RowKit

section
variable {A : Type} [Ab A]

/-! ## the relation -/
/-- A block that is there: own, or come in. -/
def at? (I : Nat → Nat → List (LV A)) (mem : Mem A) : Key → Option (Blk A)
  | .own k => match mem[k]? with
    | some (some b) => some b
    | _ => none
  | .inp t i => some ⟨.ro, I t i⟩
theorem getB_at (S : Sig A) (mem : Mem A) (k : Key) : getB S mem k = at? S.inp mem k := by cases k <;> rfl

structure MemRel (I : Nat → Nat → List (LV A)) (ρ : Key → Loc) (mem : Mem A) (w : World) : Prop where
  cell : ∀ k bl, at? I mem k = some bl → ∀ i v, (cellsL ρ bl.us)[i]? = some v → w.cell? ((ρ k).at i) = some v
  free : ∀ k bl, mem[k]? = some (some bl) → isWr bl.kd = true → ∀ i, i < cszL bl.us → w.frozen? ((ρ (.own k)).at i) = false
  apart : ∀ k k' bl bl', Key.own k ≠ k' → mem[k]? = some (some bl) → at? I mem k' = some bl' → isWr bl.kd = true → isDead bl'.kd = false → (ρ (.own k)).none = false → (ρ k').none = false → (ρ (.own k)).blk ≠ (ρ k').blk
  inb : ∀ k bl, at? I mem k = some bl → isDead bl.kd = false → (ρ k).none = false → (ρ k).blk < w.heap.size
  row : ∀ (k : Nat) (bl : Blk A) (e : TypeId), mem[k]? = some (some bl) → bl.kd = .row e → ∃ n z f, bl.us = [.rows n z f] ∧ (ρ (.own k)).at0 = none ∧ w.ownsRow 0 e z (vecV (ρ (.own k)) n) n (cellsL ρ bl.us)
  nilc : ∀ k, (ρ k).none = true → (ρ k).cap = 0
  empt : ∀ k bl, at? I mem k = some bl → (ρ k).none = true → cszL bl.us = 0
  dead : ∀ (k : Nat) (bl : Blk A), mem[k]? = some (some bl) → isDead bl.kd = true → bl.us = []

/-- The blocks that a call may write, and those that it may know of. -/
structure Dom where
  own : Nat → Prop
  src : Nat → Prop
  /-- what waits for the function's end -/
  ds : List Deferred
instance : CoeFun Dom (fun _ => Nat → Prop) := ⟨Dom.own⟩

/-- The blocks lie where they may. -/
structure Mine (I : Nat → Nat → List (LV A)) (Own : Dom) (ρ : Key → Loc) (mem : Mem A) : Prop where
  own : ∀ (k : Nat) (bl : Blk A), mem[k]? = some (some bl) → isWr bl.kd = true → (ρ (.own k)).none = false → Own (ρ (.own k)).blk
  src : ∀ (k : Key) (bl : Blk A), at? I mem k = some bl → isDead bl.kd = false → (ρ k).none = false → Own.src (ρ k).blk
theorem Mine.sub {I : Nat → Nat → List (LV A)} {Own : Dom} {ρ : Key → Loc} {mem mem' : Mem A} (h : Mine I Own ρ mem) (hs : ∀ (k : Nat) bl, mem'[k]? = some (some bl) → mem[k]? = some (some bl)) : Mine I Own ρ mem' where
  own k bl hk := h.own k bl (hs k bl hk)
  src k bl hk := by
    refine h.src k bl ?_
    cases k with
    | own k =>
      simp only [at?] at hk ⊢
      split at hk
      · rename_i b' hb; cases hk; rw [hs k _ hb]
      · cases hk
    | inp t i => exact hk

/-- What is not the call's own stands as it stood. -/
structure Keeps (Own : Dom) (w w' : World) : Prop where
  os : w'.os = w.os
  tape : w'.tape = w.tape
  output : w'.output = w.output
  size : w.heap.size ≤ w'.heap.size
  block : ∀ k, k < w.heap.size → ¬ Own k → w'.heap[k]? = w.heap[k]?

theorem Keeps.refl (Own : Dom) (w : World) : Keeps Own w w := ⟨rfl, rfl, rfl, Nat.le_refl _, fun _ _ _ => rfl⟩
theorem Keeps.trans {Own : Dom} {a b c : World} (h : Keeps Own a b) (k : Keeps Own b c) : Keeps Own a c :=
  ⟨k.os.trans h.os, k.tape.trans h.tape, k.output.trans h.output, Nat.le_trans h.size k.size, fun i hi hn => (k.block i (Nat.lt_of_lt_of_le hi h.size) hn).trans (h.block i hi hn)⟩
theorem Keeps.of_below {Own : Dom} {w w' : World} (h : Below w.heap.size w w') : Keeps Own w w' := ⟨h.os, h.tape, h.output, h.size, fun k hk _ => h.block k hk⟩
theorem Keeps.below {w w' : World} {ds : List Deferred} (h : Keeps ⟨fun k => w.heap.size ≤ k, fun _ => True, ds⟩ w w') : Below w.heap.size w w' := ⟨h.os, h.tape, h.output, h.size, fun k hk => h.block k hk (fun h' => absurd hk (Nat.not_lt.2 h'))⟩

/-- A key that may stand in a value, as a slice of so many. -/
def okKey (mem : Mem A) (ρ : Key → Loc) : Key → Nat → Prop
  | .own k, m => (∃ bl, mem[k]? = some (some bl)) ∧ m ≤ (ρ (.own k)).cap
  | .inp t i, m => m ≤ (ρ (.inp t i)).cap

/-- No slice is longer than its block's capacity. -/
def capOk (ρ : Key → Loc) (k : Key) (m : Nat) : Prop := m ≤ (ρ k).cap
theorem okKey_cap {mem : Mem A} {ρ : Key → Loc} (k : Key) (m : Nat) (h : okKey mem ρ k m) : capOk ρ k m := by
  cases k with
  | own k => exact h.2
  | inp t i => exact h

structure Rl (I : Nat → Nat → List (LV A)) (Own : Dom) (w0 : World) (ρ : Key → Loc) (s : LS A) (a : Act) (w : World) : Prop where
  size : a.tmps.size = s.tmps.length
  val : ∀ (i : Nat) (v : LV A), s.tmps[i]? = some v → v = .any ∨ a.tmps[i]? = some (LV.tr ρ v)
  defers : a.defers = Own.ds
  mem : MemRel I ρ s.mem w
  mine : Mine I Own ρ s.mem
  new : ∀ b, w0.heap.size ≤ b → Own b ∧ Own.src b
  keeps : Keeps Own w0 w
  occT : ∀ (i : Nat) (v : LV A), s.tmps[i]? = some v → v.kin (okKey s.mem ρ)
  occM : ∀ (k : Key) (bl : Blk A), at? I s.mem k = some bl → kinL (okKey s.mem ρ) bl.us

section
variable {I : Nat → Nat → List (LV A)} {Own : Dom} {w0 : World} {ρ : Key → Loc} {s : LS A} {a : Act} {w : World}

theorem ev_sound (h : Rl I Own w0 ρ s a w) {x : Operand} {v : LV A} (he : ev s.tmps x = some v) : a.eval x = LV.tr ρ v ∧ v.kin (okKey s.mem ρ) := by
  cases x with
  | tmp t =>
    simp only [ev, getT] at he
    split at he
    · cases he
    · rename_i u hne hu
      cases he
      rcases h.val t v hu with e | e
      · exact absurd e (by intro e; exact hne (e ▸ rfl))
      · refine ⟨?_, h.occT t v hu⟩
        show a.tmps.getD t Go.undef = _
        simp [e]
    · cases he
  | const c => exact ⟨(ofConst_sound ρ he).1.symm, (ofConst_sound ρ he).2 _⟩
  | global g => cases he
  | func f =>
    simp only [ev] at he; cases he
    exact ⟨rfl, trivial⟩
end
end
end Go.Proofs.YtonmjdnkcngfjaaGreat.En

/- DERIVED. The operations that touch no memory. -/
set_option linter.all false
namespace Go.Proofs.YtonmjdnkcngfjaaGreat.En
open Go Go.RowKit

section
variable {A : Type}

theorem dcd_true {d : Option Bool} {b : Bool} {c : Cnd} (h : dcd d b = (true, c)) (hc : condOk c) : b = true := by
  cases d with
  | none => simp only [dcd, Prod.mk.injEq] at h; exact h.1
  | some x =>
    simp only [dcd, Prod.mk.injEq] at h
    obtain ⟨rfl, rfl⟩ := h
    exact hc
theorem dcd_val {d : Option Bool} {b x : Bool} {c : Cnd} (h : dcd d b = (x, c)) (hc : condOk c) : b = x := by
  cases d with
  | none => simp only [dcd, Prod.mk.injEq] at h; exact h.1
  | some y =>
    simp only [dcd, Prod.mk.injEq] at h
    obtain ⟨rfl, rfl⟩ := h
    exact hc

theorem tst_sound {d : Option Bool} {u : Option (LV A)} {v : LV A} {c : Cnd} (h : tst d u = some (v, c)) (hc : condOk c) : u = some v := by
  cases u with
  | none => cases h
  | some u =>
    cases u <;> simp only [tst, Option.some.injEq, Prod.mk.injEq] at h <;> first
      | (obtain ⟨rfl, _⟩ := h; rfl)
      | (rename_i b
         generalize hd : dcd d b = q at h
         obtain ⟨x, c'⟩ := q
         simp only [Option.some.injEq, Prod.mk.injEq] at h
         obtain ⟨rfl, rfl⟩ := h
         rw [dcd_val hd hc])
theorem okc_sound {u : Option (LV A)} {v : LV A} {c : Cnd} (h : okc u = some (v, c)) : u = some v := by
  cases u with
  | none => cases h
  | some u => simp only [okc, Option.some.injEq, Prod.mk.injEq] at h; rw [h.1]

variable [Ab A] {P : Program} {ρ : Key → Loc}
theorem run_equalIn_bool (w : World) (d : Nat) {t : TypeId} (ht : P.underlying t = some .bool) (a b : Bool) : (Op.equalIn (d + 1) t (.bool a) (.bool b)).run P w = .ok (a == b) w := by
  simp [Op.equalIn, run_underlying ht]

theorem ibin_sound (w : World) (t : TypeId) {op : BinOp} {k : IntKind} {a b : Int} {v : LV A} (h : ibin op k a b = some v) :
    (binOp op t (.int k a) (.int k b)).run P w = .ok (LV.tr ρ v) w := by
  cases op <;> simp only [ibin, Option.some.injEq, reduceCtorEq] at h <;> subst h <;> simp [binOp, Op.intArith, Op.intBits, Op.intCmp, LV.tr, bits]

theorem run_equalIn_nilp (w : World) (d : Nat) {t e : TypeId} (ht : P.underlying t = some (.pointer e)) (a : Addr) : (Op.equalIn (d + 1) t (.pointer (some a)) (.pointer none)).run P w = .ok false w := by
  simp [Op.equalIn, run_underlying ht]

theorem run_equalIn_nilp2 (w : World) (d : Nat) {t e : TypeId} (ht : P.underlying t = some (.pointer e)) : (Op.equalIn (d + 1) t (.pointer none) (.pointer none)).run P w = .ok true w := by
  simp [Op.equalIn, run_underlying ht]

omit [Ab A] in
theorem chk_sound {rc b : Bool} {u v : LV A} {c : Cnd} (h : chk rc b u = some (v, c)) (hc : condOk c) : b = true ∧ u = v := by
  unfold chk at h
  split at h
  · rename_i c' h1
    simp only [Option.some.injEq, Prod.mk.injEq] at h
    obtain ⟨rfl, rfl⟩ := h
    exact ⟨chkC_ok h1 hc, rfl⟩
  · cases h

theorem tstC_sound {d : Option Bool} {r : PR A} {v : LV A} {c : Cnd} (h : tstC d r = some (v, c)) (hc : condOk c) : ∃ c', r = some (v, c') ∧ condOk c' := by
  unfold tstC at h
  cases d with
  | none => exact ⟨c, h, hc⟩
  | some x =>
    simp only at h
    split at h
    · rename_i b c'
      simp only [Option.some.injEq, Prod.mk.injEq] at h
      obtain ⟨rfl, rfl⟩ := h
      obtain ⟨h1, h2⟩ := andC_ok hc
      have h2 : b = x := h2
      subst h2
      exact ⟨c', rfl, h1⟩
    · exact ⟨c, h, hc⟩
theorem eqBs_spec : ∀ (l m : List UInt8), eqBs l m = (l == m)
  | [], [] => rfl
  | [], _ :: _ => rfl
  | _ :: _, [] => rfl
  | a :: l, b :: m => by
    simp only [eqBs, eqBs_spec l m]
    rw [List.cons_beq_cons]
    congr 1
    by_cases h : a = b
    · subst h; simp [Nat.beq_refl]
    · have h1 : ¬ a.toNat = b.toNat := fun e => h (UInt8.toNat_inj.1 e)
      rw [beq_false_of_ne h]
      cases hb : Nat.beq a.toNat b.toNat with
      | false => rfl
      | true => exact absurd (Nat.eq_of_beq_eq_true hb) h1
theorem strEq_spec (a b : ByteArray) : strEq a b = (a.toList == b.toList) := by
  rw [ByteArray.toList_eq, ByteArray.toList_eq]
  exact eqBs_spec _ _

theorem binR_sound (w : World) {rc : Bool} {d : Option Bool} {op : BinOp} {t : TypeId} {x y v : LV A} {c : Cnd} (hagg : ∀ us vs, x = .agg us → y = .agg vs → (binOp op t (LV.tr ρ x) (LV.tr ρ y)).run P w = .ok (LV.tr ρ v) w)
    (h : binR P rc d op t x y = some (v, c)) (hc : condOk c) : (binOp op t (LV.tr ρ x) (LV.tr ρ y)).run P w = .ok (LV.tr ρ v) w := by
  unfold binR at h
  split at h
  · rename_i k a k' b
    simp only [LV.tr]
    split at h
    · obtain ⟨h0, rfl⟩ := chk_sound h hc
      have h0 := of_decide_eq_true h0
      simp [binOp, Op.shift, LV.tr, show ¬ b < 0 by omega]
    · obtain ⟨h0, rfl⟩ := chk_sound h hc
      have h0 := of_decide_eq_true h0
      simp [binOp, Op.shift, LV.tr, show ¬ b < 0 by omega]
    · split at h
      · rename_i hk; subst hk
        obtain ⟨h0, rfl⟩ := chk_sound h hc
        have h0 : b ≠ 0 := by simpa using h0
        simp [binOp, Op.intDiv, LV.tr, h0]
      · cases h
    · split at h
      · rename_i hk; subst hk
        obtain ⟨h0, rfl⟩ := chk_sound h hc
        have h0 : b ≠ 0 := by simpa using h0
        simp [binOp, Op.intDiv, LV.tr, h0]
      · cases h
    · split at h
      · rename_i hk; subst hk
        exact ibin_sound w t (tst_sound h hc)
      · cases h
  · exact hagg _ _ rfl rfl
  · rename_i a b
    simp only [LV.tr]
    split at h
    · rename_i ht
      split at h
      · have := tst_sound h hc
        cases this
        simp [binOp, Op.equal, Op.maxDepth, run_equalIn_bool w 9999 ht a b, LV.tr]
      · have := tst_sound h hc
        cases this
        simp [binOp, Op.equal, Op.maxDepth, run_equalIn_bool w 9999 ht a b, LV.tr]
      · cases h
    · cases h
  · rename_i a b
    simp only [LV.tr]
    split at h
    · have := tst_sound h hc
      cases this
      simp [binOp, Op.stringOp, LV.tr, strEq_spec]
    · have := tst_sound h hc
      cases this
      simp [binOp, Op.stringOp, LV.tr, strEq_spec]
    · cases h
  · rename_i k o p
    simp only [LV.tr]
    split at h
    · rename_i e ht
      split at h
      · simp only [Option.some.injEq, Prod.mk.injEq] at h; obtain ⟨rfl, rfl⟩ := h
        simp [binOp, Op.equal, Op.maxDepth, run_equalIn_nilp w 9999 ht, LV.tr]
      · simp only [Option.some.injEq, Prod.mk.injEq] at h; obtain ⟨rfl, rfl⟩ := h
        simp [binOp, Op.equal, Op.maxDepth, run_equalIn_nilp w 9999 ht, LV.tr]
      · cases h
    · cases h
  · simp only [LV.tr]
    split at h
    · rename_i e ht
      split at h
      · simp only [Option.some.injEq, Prod.mk.injEq] at h; obtain ⟨rfl, rfl⟩ := h
        simp [binOp, Op.equal, Op.maxDepth, run_equalIn_nilp2 w 9999 ht, LV.tr]
      · simp only [Option.some.injEq, Prod.mk.injEq] at h; obtain ⟨rfl, rfl⟩ := h
        simp [binOp, Op.equal, Op.maxDepth, run_equalIn_nilp2 w 9999 ht, LV.tr]
      · cases h
    · cases h
  · cases h

theorem run_sizeOf (w : World) {t : TypeId} {n : Nat} (h : sizeT P t = some n) : (sizeOf t).run P w = .ok n w := by
  unfold sizeT at h
  split at h
  · rename_i i hi
    cases h
    simp [sizeOf, typeInfo, hi]
  · cases h
theorem run_isAgg (w : World) {t : TypeId} {b : Bool} (h : agT P t = some b) : (isAgg t).run P w = .ok b w := by
  unfold agT at h
  split at h <;> simp only [Option.some.injEq, reduceCtorEq] at h <;> subst h
  · rename_i hd; simp [isAgg, run_underlying hd]
  · rename_i hd; simp [isAgg, run_underlying hd]
  · rename_i d hn1 hn2 hd
    simp only [isAgg, Sem.run_bind, run_underlying hd, Result.andThen_ok]
    cases d <;> first | rfl | exact absurd rfl (hn1 _) | exact absurd rfl (hn2 _ _)

theorem loc_add (l : Loc) (off n : Nat) : (l.at off).add n = l.at (off + n) := by
  unfold Loc.at
  rw [Addr.add_lit, Nat.add_assoc]

theorem adr_addF_go (d : Nat) : ∀ (p : List Stp) (o : Nat), p ≠ [] → adr o (addF.go p d) = adr o p + d
  | [], o, h => absurd rfl h
  | [s], o, _ => by simp [addF.go, adr]; omega
  | s :: s' :: p, o, _ => by
    simp only [addF.go]
    show adr (o + s.i * s.z + s.o) (addF.go (s' :: p) d) = adr (o + s.i * s.z + s.o) (s' :: p) + d
    exact adr_addF_go d (s' :: p) _ (by simp)
theorem adr_addF (o : Nat) (p : List Stp) (d : Nat) : adr (addF o p d).1 (addF o p d).2 = adr o p + d := by
  cases p with
  | nil => rfl
  | cons s p => exact adr_addF_go d (s :: p) o (by simp)
theorem adr_addE (i z : Nat) : ∀ (p : List Stp) (o : Nat), adr o (addE p i z) = adr o p + i * z
  | [], o => by simp [addE, adr]
  | [s], o => by
    simp only [addE]
    split
    · rename_i h
      have h1 := beqN (both h).1
      have h2 := beqN (both h).2
      simp only [adr, h1, h2, Nat.add_mul]
      omega
    · simp [adr]
  | s :: s' :: p, o => by
    simp only [addE]
    show adr (o + s.i * s.z + s.o) (addE (s' :: p) i z) = adr (o + s.i * s.z + s.o) (s' :: p) + i * z
    exact adr_addE i z (s' :: p) _

theorem fieldAt_sound (w : World) {s : TypeId} {b : Key} {o : Nat} {p : List Stp} {fs : Array Field} {f : Nat} {fd : Field} {n : Nat} (hs : P.underlying s = some (.struct fs)) (hf : fs[f]? = some fd) (hz : sizeT P fd.type = some (n + 1)) :
    (Instr.fieldAt s (LV.tr ρ (.ptr b o p : LV A)) f).run P w = .ok (LV.tr ρ (.ptr b (addF o p fd.offset).1 (addF o p fd.offset).2 : LV A)) w := by
  simp [Instr.fieldAt, run_underlying hs, hf, Instr.sureAddr, LV.tr, fieldPlace, run_sizeOf w hz, loc_add, adr_addF]

theorem indexAt_array (w : World) {t e : TypeId} {b : Key} {o : Nat} {p : List Stp} {len z : Nat} {k : IntKind} {i : Int} (ht : P.underlying t = some (.array len e)) (hz : sizeT P e = some z) (h : 0 ≤ i ∧ i < (len : Int)) :
    (Instr.indexAt t (LV.tr ρ (.ptr b o p : LV A)) (.int k i)).run P w = .ok (LV.tr ρ (.ptr b o (addE p i.toNat z) : LV A)) w := by
  simp [Instr.indexAt, run_underlying ht, Instr.sureAddr, LV.tr, asIntOf, run_sizeOf w hz, h.1, h.2, loc_add, adr_addE]
theorem indexAt_slice (w : World) {t e : TypeId} {a : Addr} {len cap z : Nat} {k : IntKind} {i : Int} (ht : P.underlying t = some (.slice e)) (hz : sizeT P e = some z) (h : 0 ≤ i ∧ i < (len : Int)) :
    (Instr.indexAt t (.slice (some a) len cap) (.int k i)).run P w = .ok (.pointer (some (a.add (i.toNat * z)))) w := by
  simp [Instr.indexAt, run_underlying ht, asIntOf, run_sizeOf w hz, h.1, h.2]

/-- A part of a struct or an array. -/
theorem part_sound [LawAb A] (w : World) {rc : Bool} {t : TypeId} {us : List (LV A)} {o : Nat} {p : List Stp} {v : LV A} {c : Cnd} (h : partV P rc t us o p = some (v, c)) (hc : condOk c) :
    (part t (cellsL ρ us).toArray (adr o p)).run P w = .ok (LV.tr ρ v) w ∧ ∀ q, kinL q us → v.kin q := by
  unfold partV at h
  split at h
  rotate_left
  · cases h
  rename_i n b hz hu
  split at h
  rotate_left
  · cases h
  rename_i r c' hr
  split at h
  rotate_left
  · cases h
  rename_i u hv
  simp only [Option.some.injEq, Prod.mk.injEq] at h
  obtain ⟨rfl, rfl⟩ := h
  refine ⟨?_, fun q hq => kin_ofUnits hv (kin_rdP _ _ _ _ _ _ hr hq)⟩
  obtain ⟨h1, h2⟩ := rdP_sound ρ _ _ _ _ _ _ hr hc
  have hlen := len_cellsL ρ us
  generalize adr o p = off at h1 h2 ⊢
  unfold part
  simp only [Sem.run_bind, run_isAgg w hu, Result.andThen_ok]
  cases b with
  | true =>
    simp only [ofUnits, Option.some.injEq] at hv
    subst hv
    simp [run_sizeOf w hz, LV.tr, h1]
  | false =>
    simp only [ofUnits] at hv
    split at hv
    · rename_i x
      have key : LV.cells ρ u = [LV.tr ρ u] ∧ u = x := by
        split at hv <;> first | (cases hv; done) | (cases hv; refine ⟨?_, rfl⟩; cases u <;> first | rfl | simp_all)
      obtain ⟨key, rfl⟩ := key
      simp only [cellsL, List.append_nil] at h1
      rw [key] at h1
      have hn : n = 1 := by
        have := congrArg List.length h1
        simp only [List.length_cons, List.length_nil, List.length_take, List.length_drop, hlen] at this
        omega
      subst hn
      have hlt : off < (cellsL ρ us).length := by omega
      have hg : (cellsL ρ us)[off]? = some (LV.tr ρ u) := by
        have : ((cellsL ρ us).drop off).take 1 = [(cellsL ρ us)[off]] := by
          rw [List.take_one]
          simp [List.head?_drop, List.getElem?_eq_getElem hlt]
        rw [this] at h1
        rw [List.getElem?_eq_getElem hlt]
        simpa using (List.cons.inj h1).1.symm
      simp [hg]
    · cases hv
end
end Go.Proofs.YtonmjdnkcngfjaaGreat.En

/- DERIVED. Structs and arrays of whole numbers held against each other. -/
set_option linter.all false
namespace Go.Proofs.YtonmjdnkcngfjaaGreat.En
open Go Go.RowKit

def cmpV : Option Value → Option Value → Option Bool
  | some (.int k a), some (.int k' b) => if k = k' then some (a == b) else none
  | _, _ => none
/-- The cells at so many places held against each other. -/
def cmpAt (xs ys : Array Value) (off : Nat) : List Nat → Option Bool
  | [] => some true
  | l :: ls => match cmpV xs[off + l]? ys[off + l]?, cmpAt xs ys off ls with
    | some b, some r => some (b && r)
    | _, _ => none

theorem cmpAt_append (xs ys : Array Value) (off : Nat) : ∀ (l m : List Nat) (b : Bool), cmpAt xs ys off (l ++ m) = some b → ∃ b1 b2, cmpAt xs ys off l = some b1 ∧ cmpAt xs ys off m = some b2 ∧ b = (b1 && b2)
  | [], m, b, h => ⟨true, b, rfl, h, by simp⟩
  | x :: l, m, b, h => by
    simp only [List.cons_append, cmpAt] at h
    split at h
    · rename_i c r hc hr
      obtain ⟨b1, b2, h1, h2, rfl⟩ := cmpAt_append xs ys off l m r hr
      cases h
      exact ⟨c && b1, b2, by simp [cmpAt, hc, h1], h2, by simp [Bool.and_assoc]⟩
    · cases h
theorem cmpAt_shift (xs ys : Array Value) (off d : Nat) : ∀ l : List Nat, cmpAt xs ys off (l.map fun x => d + x) = cmpAt xs ys (off + d) l
  | [] => rfl
  | x :: l => by simp only [List.map_cons, cmpAt, cmpAt_shift xs ys off d l, Nat.add_assoc]
theorem cmpAt_extract (xs ys : Array Value) (off z : Nat) : ∀ l : List Nat, (∀ x ∈ l, x < z) → cmpAt (xs.extract off (off + z)) (ys.extract off (off + z)) 0 l = cmpAt xs ys off l
  | [], _ => rfl
  | x :: l, h => by
    have hx := h x (by simp)
    have e : ∀ zs : Array Value, (zs.extract off (off + z))[0 + x]? = zs[off + x]? := by
      intro zs
      rw [Array.getElem?_extract]
      simp
      omega
    simp only [cmpAt, cmpAt_extract xs ys off z l (fun y hy => h y (by simp [hy])), e]

section
variable {P : Program}

/-- The loop over an array's elements. -/
def eqElems (d : Nat) (e : TypeId) (n : Nat) (xs ys : Array Value) : List Nat → Sem Bool
  | [] => pure true
  | i :: is => do
    let a ← part e xs (i * n)
    let b ← part e ys (i * n)
    let r ← Op.equalIn d e a b
    if (!r) = true then pure false else eqElems d e n xs ys is

theorem run_equalIn_array (w : World) (d : Nat) (t e : TypeId) (len z : Nat) (xs ys : Array Value) (ht : P.underlying t = some (.array len e)) (hz : sizeT P e = some z) :
    (Op.equalIn (d + 1) t (.agg xs) (.agg ys)).run P w = (eqElems d e z xs ys (List.range len)).run P w := by
  simp only [Op.equalIn, Sem.run_bind, run_underlying ht, Result.andThen_ok, run_sizeOf w hz]
  rw [Std.Legacy.Range.forIn_eq_forIn_range']
  simp only [Std.Legacy.Range.size, Nat.sub_zero, Nat.add_sub_cancel, Nat.div_one, ← List.range_eq_range']
  generalize List.range len = is
  clear ht
  induction is generalizing w with
  | nil => simp [eqElems]
  | cons f fs ih =>
    simp only [List.forIn_cons, eqElems, Sem.run_bind]
    generalize (part e xs (f * z)).run P w = r1
    cases r1 with
    | ok a w1 =>
      simp only [Result.andThen_ok]
      generalize (part e ys (f * z)).run P w1 = r2
      cases r2 with
      | ok b w2 =>
        simp only [Result.andThen_ok]
        generalize (Op.equalIn d e a b).run P w2 = r3
        cases r3 with
        | ok r w3 =>
          cases r
          · simp
          · simp only [Result.andThen_ok, Bool.not_true, Bool.false_eq_true, if_false, Sem.run_pure]
            exact ih w3
        | halt x w3 => simp [Result.andThen]
      | halt x w2 => simp [Result.andThen]
    | halt x w1 => simp [Result.andThen]

/-- A part of either, and what holding them against each other gives. -/
def PartEq (P : Program) (d : Nat) (t : TypeId) (xs ys : Array Value) (off : Nat) (b : Bool) : Prop :=
  ∀ w, ∃ va vb, (part t xs off).run P w = .ok va w ∧ (part t ys off).run P w = .ok vb w ∧ (Op.equalIn d t va vb).run P w = .ok b w

theorem run_part_agg (w : World) {t : TypeId} {z : Nat} (h : agT P t = some true) (hz : sizeT P t = some z) (xs : Array Value) (off : Nat) : (part t xs off).run P w = .ok (.agg (xs.extract off (off + z))) w := by
  simp [part, run_isAgg w h, run_sizeOf w hz]

theorem eqElems_run {d : Nat} {e : TypeId} {z : Nat} {ls : List Nat} {xs ys : Array Value} (ih : ∀ off b, cmpAt xs ys off ls = some b → PartEq P d e xs ys off b) :
    ∀ (is : List Nat) (b : Bool), cmpAt xs ys 0 (is.flatMap fun i => ls.map fun l => i * z + l) = some b → ∀ w, (eqElems d e z xs ys is).run P w = .ok b w
  | [], b, h, w => by
    simp only [List.flatMap_nil, cmpAt, Option.some.injEq] at h
    subst h
    simp [eqElems]
  | i :: is, b, h, w => by
    rw [List.flatMap_cons] at h
    obtain ⟨b1, b2, h1, h2, rfl⟩ := cmpAt_append _ _ _ _ _ _ h
    rw [cmpAt_shift, Nat.zero_add] at h1
    obtain ⟨va, vb, e1, e2, e3⟩ := ih _ _ h1 w
    have e4 := eqElems_run ih is b2 h2 w
    simp only [eqElems, Sem.run_bind, e1, e2, e3, Result.andThen_ok]
    cases b1
    · simp
    · simp [e4]

theorem eqFields_run {d n : Nat} {xs ys : Array Value} (ih : ∀ t ls z, leavesT P n t = some ls → sizeT P t = some z → (∀ l ∈ ls, l < z) → ∀ off b, cmpAt xs ys off ls = some b → PartEq P d t xs ys off b) :
    ∀ (fs : List Field) (ls : List Nat) (b : Bool), fieldsL P (leavesT P n) fs = some ls → cmpAt xs ys 0 ls = some b → ∀ w, (Op.eqFields d xs ys fs).run P w = .ok b w
  | [], ls, b, hl, h, w => by
    simp only [fieldsL, Option.some.injEq] at hl
    subst hl
    simp only [cmpAt, Option.some.injEq] at h
    subst h
    simp [Op.eqFields]
  | f :: fs, ls, b, hl, h, w => by
    simp only [fieldsL] at hl
    split at hl
    · rename_i ls1 z r hn hl1 hz hr
      split at hl
      · rename_i hall
        cases hl
        obtain ⟨b1, b2, h1, h2, rfl⟩ := cmpAt_append _ _ _ _ _ _ h
        rw [cmpAt_shift, Nat.zero_add] at h1
        have hb : ∀ l ∈ ls1, l < z := by
          intro l hm
          have := List.all_eq_true.1 hall l hm
          exact Nat.le_of_ble_eq_true this
        obtain ⟨va, vb, e1, e2, e3⟩ := ih _ _ _ hl1 hz hb _ _ h1 w
        have e4 := eqFields_run ih fs r b2 hr h2 w
        have hne : f.name ≠ "_" := by simpa using hn
        simp only [Op.eqFields, Sem.run_ite, if_pos hne, Sem.run_bind, e1, e2, e3, Result.andThen_ok]
        cases b1
        · simp
        · simp [e4]
      · cases hl
    · cases hl

theorem agg_run : ∀ (n : Nat) (t : TypeId) (ls : List Nat), leavesT P n t = some ls → ∀ (d : Nat), n ≤ d →
    (∀ (z : Nat), sizeT P t = some z → (∀ l ∈ ls, l < z) → ∀ (xs ys : Array Value) (off : Nat) (b : Bool), cmpAt xs ys off ls = some b → PartEq P d t xs ys off b) ∧
    (agT P t = some true → ∀ (xs ys : Array Value) (b : Bool), cmpAt xs ys 0 ls = some b → ∀ w, (Op.equalIn d t (.agg xs) (.agg ys)).run P w = .ok b w)
  | 0, t, ls, h, _, _ => by simp [leavesT] at h
  | n + 1, t, ls, h, d, hd => by
    obtain ⟨d, rfl⟩ : ∃ e, d = e + 1 := ⟨d - 1, by omega⟩
    have hnd : n ≤ d := by omega
    have two : agT P t = some true → ∀ (xs ys : Array Value) (b : Bool), cmpAt xs ys 0 ls = some b → ∀ w, (Op.equalIn (d + 1) t (.agg xs) (.agg ys)).run P w = .ok b w := by
      intro hag xs ys b hb w
      simp only [leavesT] at h
      split at h
      · rename_i k hk; simp [agT, hk] at hag
      · rename_i len e he
        split at h
        · rename_i ls1 z hl1 hz
          split at h
          · rename_i hall
            cases h
            rw [run_equalIn_array w d t e len z xs ys he hz]
            have hb' : ∀ l ∈ ls1, l < z := fun l hm => Nat.le_of_ble_eq_true (List.all_eq_true.1 hall l hm)
            exact eqElems_run (fun off b hc => (agg_run n e ls1 hl1 d hnd).1 z hz hb' xs ys off b hc) _ _ hb w
          · cases h
        · cases h
      · rename_i fs hfs
        split at h
        · cases h
        · rename_i hst
          have e0 : P.fieldsOf t = fs := by simp [Program.fieldsOf, hfs]
          rw [run_equalIn_struct w d t xs ys (by rw [e0]; exact hfs) hst, e0]
          exact eqFields_run (fun t' ls' z' h1 h2 h3 off b hc => (agg_run n t' ls' h1 d hnd).1 z' h2 h3 xs ys off b hc) _ _ _ h hb w
      · cases h
    refine ⟨?_, two⟩
    intro z hz hlz xs ys off b hb w
    cases hag : agT P t with
    | none =>
      simp only [leavesT] at h
      unfold agT at hag
      split at h <;> simp_all
    | some ag =>
      cases ag with
      | true =>
        refine ⟨_, _, run_part_agg w hag hz xs off, run_part_agg w hag hz ys off, ?_⟩
        exact two hag _ _ _ (by rw [cmpAt_extract _ _ _ _ _ hlz]; exact hb) w
      | false =>
        simp only [leavesT] at h
        split at h
        · rename_i k hk
          cases h
          simp only [cmpAt, Nat.add_zero] at hb
          split at hb
          · rename_i c r hc hr
            cases hr
            cases hb
            unfold cmpV at hc
            split at hc
            · rename_i k1 a k2 b hx hy
              split at hc
              · rename_i hkk; subst hkk; cases hc
                refine ⟨.int k1 a, .int k1 b, ?_, ?_, ?_⟩
                · simp [part, run_isAgg w hag, hx]
                · simp [part, run_isAgg w hag, hy]
                · simp [run_equalIn_int w d t k1 k a b hk]
              · cases hc
            · cases hc
          · cases hb
        · rename_i he; simp [agT, he] at hag
        · rename_i he; simp [agT, he] at hag
        · cases h

/-! ## the executor's own comparison -/
def cmpLL : List Value → List Value → Option Bool
  | [], [] => some true
  | x :: l, y :: m => match cmpV (some x) (some y), cmpLL l m with
    | some b, some r => some (b && r)
    | _, _ => none
  | _, _ => none

theorem cmpLL_append : ∀ (l m l' m' : List Value) (b b' : Bool), cmpLL l m = some b → cmpLL l' m' = some b' → cmpLL (l ++ l') (m ++ m') = some (b && b')
  | [], [], l', m', b, b', h, h' => by simp only [cmpLL, Option.some.injEq] at h; subst h; simpa using h'
  | [], _ :: _, _, _, _, _, h, _ => by simp [cmpLL] at h
  | _ :: _, [], _, _, _, _, h, _ => by simp [cmpLL] at h
  | x :: l, y :: m, l', m', b, b', h, h' => by
    simp only [cmpLL] at h
    split at h
    · rename_i c r hc hr
      cases h
      simp [cmpLL, hc, cmpLL_append l m l' m' r b' hr h', Bool.and_assoc]
    · cases h

theorem cmpAt_range (pre pre' : List Value) (hp : pre.length = pre'.length) : ∀ (l m : List Value) (b : Bool), cmpLL l m = some b →
    ∀ (p p' : List Value), p.length = p'.length → cmpAt (p ++ l).toArray (p' ++ m).toArray 0 (List.range' p.length l.length) = some b
  | [], [], b, h, p, p', hl => by simp only [cmpLL, Option.some.injEq] at h; subst h; rfl
  | [], _ :: _, _, h, _, _, _ => by simp [cmpLL] at h
  | _ :: _, [], _, h, _, _, _ => by simp [cmpLL] at h
  | x :: l, y :: m, b, h, p, p', hl => by
    simp only [cmpLL] at h
    split at h
    · rename_i c r hc hr
      cases h
      have ih := cmpAt_range pre pre' hp l m r hr (p ++ [x]) (p' ++ [y]) (by simp [hl])
      simp only [List.append_assoc, List.singleton_append, List.length_append, List.length_singleton] at ih
      simp only [List.length_cons, List.range'_succ, cmpAt, ih]
      have e1 : (p ++ x :: l).toArray[0 + p.length]? = some x := by simp
      have e2 : (p' ++ y :: m).toArray[0 + p.length]? = some y := by simp [hl]
      rw [e1, e2, hc]
    · cases h

/-- What an abstract chunk's own comparison must be. -/
class LawEq (A : Type) [Ab A] : Prop where
  beq : ∀ (x y : A) (b : Bool), Ab.beq x y = some b → cmpLL (Ab.cells x) (Ab.cells y) = some b

theorem eqU_sound {A : Type} [Ab A] [LawEq A] (ρ : Key → Loc) : ∀ (us vs : List (LV A)) (b : Bool), eqU us vs = some b → cmpLL (cellsL ρ us) (cellsL ρ vs) = some b := by
  intro us
  induction us with
  | nil =>
    intro vs b h
    cases vs with
    | nil => exact h
    | cons v vs => simp [eqU] at h
  | cons u us ih =>
    intro vs b h
    unfold eqU at h
    split at h
    · rename_i hq; cases hq
    · rename_i k a l k' b' m heq
      cases heq
      split at h
      · rename_i hk
        subst hk
        split at h
        · rename_i r hr
          cases h
          exact cmpLL_append [.int k a] [.int k b'] _ _ _ _ (by simp [cmpLL, cmpV]) (ih _ _ hr)
        · cases h
      · cases h
    · rename_i x l y m heq
      cases heq
      split at h
      · rename_i c r hc hr
        cases h
        exact cmpLL_append _ _ _ _ _ _ (LawEq.beq x y c hc) (ih _ _ hr)
      · cases h
    · cases h

theorem flatR_sound {A : Type} [Ab A] [LawAb A] (ρ : Key → Loc) {fl : List (LV A) → Option (List (LV A))} (hfl : ∀ us vs, fl us = some vs → cellsL ρ vs = cellsL ρ us) (z : Nat) (f : Nat → List (LV A)) :
    ∀ (n i : Nat) (r : List (LV A)), flatR fl z f n i = some r → cellsL ρ r = (List.range' i n).flatMap fun i => fitTo z (cellsL ρ (f i))
  | 0, i, r, h => by simp only [flatR, Option.some.injEq] at h; subst h; rfl
  | n + 1, i, r, h => by
    simp only [flatR] at h
    split at h
    · rename_i us vs hb hus hvs
      cases h
      rw [cellsL_append, hfl _ _ hus, flatR_sound ρ hfl z f n (i + 1) vs hvs, List.range'_succ, List.flatMap_cons]
      rw [fitTo_eq (by rw [len_cellsL]; exact beqN hb)]
    · cases h
theorem flatL_sound {A : Type} [Ab A] [LawAb A] (ρ : Key → Loc) {fl : List (LV A) → Option (List (LV A))} (hfl : ∀ us vs, fl us = some vs → cellsL ρ vs = cellsL ρ us) :
    ∀ (us r : List (LV A)), flatL fl us = some r → cellsL ρ r = cellsL ρ us
  | [], r, h => by simp only [flatL, Option.some.injEq] at h; subst h; rfl
  | u :: us, r, h => by
    simp only [flatL] at h
    split at h
    · rename_i vs hvs
      have ih := flatL_sound ρ hfl us vs hvs
      split at h
      · rename_i n z f
        split at h
        · rename_i r' hr
          cases h
          rw [cellsL_append, ih, flatR_sound ρ hfl z f n 0 r' hr, ← List.range_eq_range']
          rfl
        · cases h
      · cases h
        simp only [cellsL, ih]
    · cases h
theorem flatD_sound {A : Type} [Ab A] [LawAb A] (ρ : Key → Loc) : ∀ (d : Nat) (us r : List (LV A)), flatD d us = some r → cellsL ρ r = cellsL ρ us
  | 0, us, r, h => by simp [flatD] at h
  | d + 1, us, r, h => flatL_sound ρ (fun us vs h => flatD_sound ρ d us vs h) us r h

theorem eqAgg_sound {A : Type} [Ab A] [LawAb A] [LawEq A] (ρ : Key → Loc) {t : TypeId} {us vs us' vs' : List (LV A)} {b : Bool} (hu : flatD 4 us = some us') (hv : flatD 4 vs = some vs') (hl : leavesT P 20 t = some (List.range (cszL us'))) (ha : agT P t = some true) (h : eqU us' vs' = some b) (w : World) :
    (Op.equalIn 10000 t (.agg (cellsL ρ us).toArray) (.agg (cellsL ρ vs).toArray)).run P w = .ok b w := by
  rw [← flatD_sound ρ 4 us us' hu, ← flatD_sound ρ 4 vs vs' hv]
  refine (agg_run 20 t _ hl 10000 (by omega)).2 ha _ _ _ ?_ w
  have := cmpAt_range [] [] rfl _ _ _ (eqU_sound ρ us' vs' b h) [] [] rfl
  rw [len_cellsL] at this
  rw [List.range_eq_range']
  exact this
end
end Go.Proofs.YtonmjdnkcngfjaaGreat.En

/- DERIVED. The rules of code, in whatever round of a range over a function. -/
set_option linter.all false
namespace Go.Proofs.YtonmjdnkcngfjaaGreat.En
open Go Go.RowKit

/-- No fence but the round. -/
def Fr (ro : Option Nat) : Fence := { Fence.wide with round := ro }
theorem fr_dep (ro : Option Nat) : (Fr ro).depth = none := rfl
theorem fenced_fr (P : Program) (ro : Option Nat) (m : Machine) : m.fenced P (Fr ro) := fenced_wide P m
theorem callsIn_fr {ro : Option Nat} {n : Nat} {P : Program} {f : FuncId} {args : Array Value} {w : World} {R : Ending → World → Prop} (h : Calls P f args w R) : CallsIn (Fr ro) n P f args w R := by
  have : CallsIn Fence.wide n P f args w R := callsIn_wide.2 h
  exact this

/-- What comes behind code, in whatever round it stands. -/
def wpR (P : Program) (c : Code) (Q : Exit → Act → World → Prop) (a : Act) (w : World) : Prop := ∀ (ro : Option Nat) (n : Nat), c.wpIn (Fr ro) n P Q a w

section
variable {P : Program} {Q : Exit → Act → World → Prop} {a : Act} {w : World}
theorem wpR.wp {c : Code} (h : wpR P c Q a w) : c.wp P Q a w := wpIn_wide.1 (h none 0)
theorem wpR_mono {c : Code} {Q' : Exit → Act → World → Prop} (h : wpR P c Q a w) (hq : ∀ e a w, Q e a w → Q' e a w) : wpR P c Q' a w := fun ro n => wpIn_mono (h ro n) hq
theorem wpR_skip (h : Q .normal a w) : wpR P .skip Q a w := fun ro n => wpIn_skip h
theorem wpR_label {l : Nat} (h : Q .normal a w) : wpR P (.label l) Q a w := fun ro n => wpIn_label h
theorem wpR_exit {id : Nat} (h : Q (.exit id) a w) : wpR P (.exit id) Q a w := fun ro n => wpIn_exit h
theorem wpR_ret (h : Q .ret a w) : wpR P .ret Q a w := fun ro n => wpIn_ret h
theorem wpR_seq {x y : Code} (h : wpR P x (Exit.then (wpR P y Q) Q) a w) : wpR P (.seq x y) Q a w := fun ro n =>
  wpIn_seq (wpIn_mono (h ro n) fun e a w hq => by
    cases e with
    | normal => exact hq ro n
    | _ => exact hq)
theorem wpR_cond {c : Operand} {x y : Code} {t : Bool} (hc : a.eval c = .bool t) (h : wpR P (if t then x else y) Q a w) : wpR P (.cond c x y) Q a w := fun ro n => wpIn_cond hc (h ro n)
theorem wpR_block {id : Nat} {c : Code} (h : wpR P c (Exit.inBlock id Q) a w) : wpR P (.block id c) Q a w := fun ro n => wpIn_block (h ro n)
def roundsR (P : Program) (c : Code) (Q : Exit → Act → World → Prop) : Nat → Act → World → Prop
  | 0, _, _ => False
  | n + 1, a, w => wpR P c (Exit.then (roundsR P c Q n) Q) a w
theorem roundsR_succ {c : Code} {n : Nat} : roundsR P c Q (n + 1) a w = wpR P c (Exit.then (roundsR P c Q n) Q) a w := rfl
theorem roundsR_in {c : Code} (ro : Option Nat) (n : Nat) : ∀ (m : Nat) (a : Act) (w : World), roundsR P c Q m a w → Code.roundsIn (Fr ro) n P c Q m a w
  | 0, _, _, h => h
  | m + 1, a, w, h => by
    rw [roundsIn_succ]
    refine wpIn_mono (h ro n) fun e a w hq => ?_
    cases e with
    | normal => exact roundsR_in ro n m a w hq
    | _ => exact hq
theorem wpR_loop_rounds {c : Code} (m : Nat) (h : roundsR P c Q m a w) : wpR P (.loop c) Q a w := fun ro n => wpIn_loop_rounds m (roundsR_in ro n m a w h)

section
variable {b : Frame} {k : List Item} {cs : List Frame}
theorem stepR_scope {c : Code} : Go.step P (lone (b.atR a (.code (.scope c) :: k)) cs w) = .next (lone (b.atR a (.code c :: .inScope c :: k)) cs w) :=
  step_lone_go (by simp [Go.stepG, Go.stepG.exec, Frame.atR])
theorem stepR_inScope {c : Code} : Go.step P (lone (b.atR a (.inScope c :: k)) cs w) = .next (lone (b.atR a k) cs w) :=
  step_lone_go (by simp [Go.stepG, Go.stepG.exec, Frame.atR])
end
theorem wpR_scope_straight {c : Code} (h : wpR P c (Exit.noGoto Q) a w) : wpR P (.scope c) Q a w := by
  intro ro n b k cs hro hb hr
  have h0 : (lone (b.atR a (.code (.scope c) :: k)) cs w).fenced P (Fr ro) := fenced_calm hb hr rfl
  obtain ⟨e, a₁, w₁, hq, harr⟩ := h ro n b (.inScope c :: k) cs hro hb hr
  cases e with
  | normal => exact ⟨.normal, a₁, w₁, hq, .head h0 stepR_scope (StepsIn.trans harr (.one (fenced_calm hb hr rfl) stepR_inScope))⟩
  | exit id =>
    have hx : exitTo id (.inScope c :: k) = exitTo id k := by simp [exitTo]
    exact ⟨.exit id, a₁, w₁, hq, fun k' hk => .head h0 stepR_scope (harr.1 k' (by rw [hx]; exact hk)),
      fun hr' hk => let ⟨k₁, h1, h2⟩ := harr.2 hr' (by rw [hx]; exact hk); ⟨k₁, h1, .head h0 stepR_scope h2⟩⟩
  | goto l => exact hq.elim
  | ret => exact ⟨_, a₁, w₁, hq, .of_steps (.one h0 stepR_scope) harr⟩
  | panic ch => exact ⟨_, a₁, w₁, hq, .of_steps (.one h0 stepR_scope) harr⟩
  | outgrown => exact ⟨_, a₁, w₁, hq, .of_steps (.one h0 stepR_scope) harr⟩

/-! ## operations -/
theorem rowsIn_fr {ro : Option Nat} {n : Nat} {row : String} {args : Array Value} {R : Value → World → Prop} (h : Rows P row args w R) : RowsIn (Fr ro) n P row args w R := by
  intro c cs _
  obtain ⟨v, w', hR, hs⟩ := h c cs
  exact ⟨v, w', hR, stepsIn_wide.2 hs⟩
theorem oper_in {o : Oper} (hnd : ∀ c, o.op ≠ .defer c) {K : Act → World → Prop} (h : o.wp P a w K Q) (ro : Option Nat) (n : Nat) : o.wpIn (Fr ro) n P a w K Q := by
  refine ⟨fun _ _ => trivial, ?_⟩
  rw [Oper.semAt_eq _ _ _ hnd]
  unfold Oper.wp at h
  generalize (execOp a.eval o).run P w = r at h
  cases r with
  | ok x w' =>
    cases x <;> simp only [Oper.upon, Oper.uponIn] at h ⊢ <;> first | exact h | exact ⟨fun h => absurd h (by simp [Fr, Fence.wide]), CallsIn.mono (callsIn_fr h) fun e w'' he => by cases e <;> exact he⟩ | exact ⟨fun h => absurd h (by simp [Fr, Fence.wide]), rowsIn_fr h⟩
  | halt x w' => cases x <;> simp only [Oper.upon, Oper.uponIn] at h ⊢ <;> exact h
def wpOpR (P : Program) (ops : Array Oper) (Q : Exit → Act → World → Prop) (i : Nat) (K : Act → World → Prop) (a : Act) (w : World) : Prop := ∀ (ro : Option Nat) (n : Nat), wpOpIn (Fr ro) n P ops Q i K a w
def wpOpsR (P : Program) (ops : Array Oper) (Q : Exit → Act → World → Prop) (l : List Nat) (a : Act) (w : World) : Prop := ∀ (ro : Option Nat) (n : Nat), wpOpsIn (Fr ro) n P ops Q l a w
def wpAnyR (P : Program) (ops : Array Oper) (Q : Exit → Act → World → Prop) (fuel : Nat) (l : Array Bool) (a : Act) (w : World) : Prop := ∀ (ro : Option Nat) (n : Nat), wpAnyIn (Fr ro) n P .any ops Q fuel l a w
theorem wpOpsR_nil {ops : Array Oper} (h : Q .normal a w) : wpOpsR P ops Q [] a w := fun _ _ => h
theorem wpOpsR_cons {ops : Array Oper} {i : Nat} {l : List Nat} (h : wpOpR P ops Q i (wpOpsR P ops Q l) a w) : wpOpsR P ops Q (i :: l) a w := fun ro n => by
  rw [wpOpsIn_cons]
  exact wpOpIn_mono (fun a w h => h ro n) (h ro n)
theorem wpAnyR_zero {ops : Array Oper} {l : Array Bool} (h0 : Region.ready .any ops l = []) (h : Q .normal a w) : wpAnyR P ops Q 0 l a w := fun _ _ => ⟨h0, h⟩
theorem wpAnyR_succ {ops : Array Oper} {fuel : Nat} {l : Array Bool} (h0 : Region.ready .any ops l = [] → Q .normal a w) (h : ∀ i ∈ Region.ready .any ops l, wpOpR P ops Q i (wpAnyR P ops Q fuel (l.setIfInBounds i true)) a w) : wpAnyR P ops Q (fuel + 1) l a w :=
  fun ro n => ⟨h0, fun i hi => wpOpIn_mono (fun a w h => h ro n) (h i hi ro n)⟩
theorem wpR_region {id : Nat} {ops : Array Oper} (h : wpOpsR P ops Q (List.range ops.size) a w) : wpR P (.region id ops false) Q a w := fun ro n => wpIn_region (h ro n)
theorem wpR_region_any {id : Nat} {ops : Array Oper} (hm : P.follows .mixedOrders = true) (h : wpAnyR P ops Q ops.size (Array.replicate ops.size false) a { w with drawn := w.drawn + 1 }) : wpR P (.region id ops true) Q a w := fun ro n => wpIn_region_any hm (h ro n)
theorem wpOpR_of {ops : Array Oper} {i : Nat} {o : Oper} {K : Act → World → Prop} (ho : ops[i]? = some o) (hnd : Region.wanted o (yielded ops a.tmps) = true → ∀ c, o.op ≠ .defer c) (h : if Region.wanted o (yielded ops a.tmps) then o.wp P a w K Q else K (a.put o.dst undef) w) : wpOpR P ops Q i K a w := fun ro n => by
  unfold wpOpIn
  simp only [ho]
  split
  · rename_i hw
    rw [if_pos hw] at h
    exact oper_in (hnd hw) h ro n
  · rename_i hw
    rw [if_neg hw] at h
    exact ⟨fun _ _ => trivial, h⟩
end
end Go.Proofs.YtonmjdnkcngfjaaGreat.En

/- DERIVED. What the tables of callees must be; an operation that touches no memory, in a walk. -/
set_option linter.all false
namespace Go.Proofs.YtonmjdnkcngfjaaGreat.En
open Go Go.RowKit

section
variable {A : Type} [Ab A] {P : Program}

/-- The operation writes this value, and nothing that was there is turned. -/
def Does (P : Program) (o : Oper) (a : Act) (w : World) (u : Value) : Prop :=
  ∀ (K : Act → World → Prop) (Q : Exit → Act → World → Prop), (∀ w', Below w.heap.size w w' → K (a.put o.dst u) w') → o.wp P a w K Q

theorem does_value {o : Oper} {a : Act} {w : World} {u : Value} (h : (execOp a.eval o).run P w = .ok (.value u) w) : Does P o a w u := by
  intro K Q hk
  unfold Oper.wp
  rw [h]
  exact hk w (Below.refl _ _)

theorem does_call {o : Oper} {a : Act} {w : World} {u : Value} {f : FuncId} {args : Array Value} (h : (execOp a.eval o).run P w = .ok (.enter f args) w)
    (hc : Calls P f args w fun e w' => e = .returned u ∧ Below w.heap.size w w') : Does P o a w u := by
  intro K Q hk
  unfold Oper.wp
  rw [h, Oper.upon_enter]
  exact hc.mono fun e w' ⟨he, hb⟩ => by subst he; exact hk w' hb

/-- What a call that writes leaves. -/
structure Left' (I : Nat → Nat → List (LV A)) (Own : Dom) (w0 : World) (mem : Mem A) (ρ ρ' : Key → Loc) (mem' : Mem A) (v : LV A) (w' : World) : Prop where
  agree : ∀ k m, okKey mem ρ k m → ρ k = ρ' k
  mem : MemRel I ρ' mem' w'
  mine : Mine I Own ρ' mem'
  keeps : Keeps Own w0 w'
  kinV : v.kin (okKey mem' ρ')
  kinM : ∀ (k : Key) (bl : Blk A), at? I mem' k = some bl → kinL (okKey mem' ρ') bl.us

/-- What stands ahead of a call. -/
structure Ahead (I : Nat → Nat → List (LV A)) (Own : Dom) (ρ : Key → Loc) (m : Mem A) (vs : List (LV A)) (w : World) : Prop where
  mem : MemRel I ρ m w
  mine : Mine I Own ρ m
  new : ∀ b, w.heap.size ≤ b → Own b ∧ Own.src b
  kinV : kinL (okKey m ρ) vs
  kinM : ∀ (k : Key) (bl : Blk A), at? I m k = some bl → kinL (okKey m ρ) bl.us

/-- Calls turn no blocks but those that are named. -/
def TcOk (S : Sig A) (cr : CallR A) : Prop := ∀ f vs mem v mem' c l, S.il f = false → cr f vs mem = some (v, mem', c) → S.tc f vs mem = some l → ∀ k : Nat, k < mem.length → k ∉ l → mem'[k]? = mem[k]?
/-- A table of calls that write says what is so. -/
structure CallOk (P : Program) (I : Nat → Nat → List (LV A)) (cr : CallR A) : Prop where
  ent : ∀ f vs mem r, cr f vs mem = some r → ∀ args w, (callFunc f args).run P w = .ok (.enter f args) w
  grow : ∀ f vs mem v mem' c, cr f vs mem = some (v, mem', c) → mem.length ≤ mem'.length ∧ ∀ (k : Nat), k < mem.length → ((∃ bl, mem[k]? = some (some bl)) ↔ ∃ bl, mem'[k]? = some (some bl))
  call : ∀ f vs mem v mem' c, cr f vs mem = some (v, mem', c) → condOk c → ∀ Own ρ w, Ahead I Own ρ mem vs w →
    Calls P f (trs ρ vs).toArray w fun e w' => ∃ ρ', e = .returned (LV.tr ρ' v) ∧ Left' I Own w mem ρ ρ' mem' v w'

def Out.toExit : Out → Exit
  | .normal => .normal
  | .exit id => .exit id
  | .ret => .ret

/-- What an execution says of the code. -/
structure Ex (P : Program) (I : Nat → Nat → List (LV A)) (c : Code) (s : LS A) (o : Out) (t : LS A) : Prop where
  live : ∀ (k : Nat) (bl : Blk A), s.mem[k]? = some (some bl) → ∃ bl' : Blk A, t.mem[k]? = some (some bl')
  run : ∀ (Own : Dom) (w0 : World) (ρ : Key → Loc) (a : Act) (w : World) (Q : Exit → Act → World → Prop), Rl I Own w0 ρ s a w →
    (∀ ρ' a' w', (∀ k m, okKey s.mem ρ k m → ρ k = ρ' k) → Rl I Own w0 ρ' t a' w' → Q o.toExit a' w') → wpR P c Q a w

/-- A call of plain values: walked, or done here and now. -/
def PureCall (P : Program) (f : FuncId) (args : Array Value) (v : Value) (w : World) : Prop :=
  ((callFunc f args).run P w = .ok (.enter f args) w ∧ Calls P f args w fun e w' => e = .returned v ∧ Below w.heap.size w w') ∨ (callFunc f args).run P w = .ok (.value v) w
/-- The tables of callees say what is so. -/
structure SigOk (P : Program) (S : Sig A) : Prop where
  psK : ∀ f vs v c, S.ps f vs = some (v, c) → ∀ p, v.kin p
  psC : ∀ f vs v c, S.ps f vs = some (v, c) → condOk c → ∀ ρ w, PureCall P f (trs ρ vs).toArray (LV.tr ρ v) w
  rsE : ∀ f vs mem v, S.rs f vs mem = some v → ∀ args w, (callFunc f args).run P w = .ok (.enter f args) w
  rsK : ∀ f vs mem v, S.rs f vs mem = some v → ∀ p, v.kin p
  rsC : ∀ f vs mem v, S.rs f vs mem = some v → ∀ ρ w, MemRel S.inp ρ mem w → kinL (capOk ρ) vs → (∀ (k : Key) (bl : Blk A), at? S.inp mem k = some bl → kinL (capOk ρ) bl.us) → Calls P f (trs ρ vs).toArray w fun e w' => e = .returned (LV.tr ρ v) ∧ Below w.heap.size w w'
  ms : ∀ t m f, S.ms t m = some f → ∀ v w, (method (P.types.size + Made.depth) t v m).run P w = .ok (f, v) w
  cs : CallOk P S.inp S.cs
  tc : ∀ f vs mem v mem' c l, S.cs f vs mem = some (v, mem', c) → S.tc f vs mem = some l → ∀ k : Nat, k < mem.length → k ∉ l → mem'[k]? = mem[k]?
  lpG : ∀ f p h s o tm m c, S.lp f p = some h → h s = some (o, tm, m, c) → tm.length = s.tmps.length ∧ s.mem.length ≤ m.length ∧ ∀ (k : Nat), k < s.mem.length → ((∃ bl, s.mem[k]? = some (some bl)) ↔ ∃ bl, m[k]? = some (some bl))
  lpC : ∀ f p h s o tm m c, S.lp f p = some h → h s = some (o, tm, m, c) → condOk c → Ex P S.inp (codeAt P f p) s o ⟨tm, m, s.conds⟩
end
end Go.Proofs.YtonmjdnkcngfjaaGreat.En

/- DERIVED. An operation that touches no memory, in a walk. -/
set_option linter.all false
namespace Go.Proofs.YtonmjdnkcngfjaaGreat.En
open Go Go.RowKit

section
variable {A : Type} [Ab A] {P : Program}

section
variable {I : Nat → Nat → List (LV A)} {Own : Dom} {w0 : World} {ρ : Key → Loc} {s : LS A} {a : Act} {w : World}

theorem mapE_sound (h : Rl I Own w0 ρ s a w) : ∀ {l : List Operand} {vs : List (LV A)}, mapE (ev s.tmps) l = some vs → l.map a.eval = trs ρ vs ∧ kinL (okKey s.mem ρ) vs
  | [], vs, he => by simp only [mapE] at he; cases he; exact ⟨rfl, trivial⟩
  | x :: l, vs, he => by
    simp only [mapE] at he
    split at he
    · rename_i v hv
      split at he
      · rename_i vs' hvs
        cases he
        have h1 := ev_sound h hv
        have h2 := mapE_sound h hvs
        exact ⟨by simp [trs, h1.1, h2.1], h1.2, h2.2⟩
      · cases he
    · cases he
theorem mapE_arr (h : Rl I Own w0 ρ s a w) {l : Array Operand} {vs : List (LV A)} (he : mapE (ev s.tmps) l.toList = some vs) : l.map a.eval = (trs ρ vs).toArray := by
  apply Array.ext'
  simpa using (mapE_sound h he).1

theorem trs_get {l : List (LV A)} {i : Nat} {v : LV A} (hv : l[i]? = some v) : (trs ρ l)[i]? = some (LV.tr ρ v) := by
  induction l generalizing i with
  | nil => simp at hv
  | cons u l ih =>
    cases i with
    | zero => simp at hv; subst hv; rfl
    | succ i => simp at hv; simpa [trs] using ih hv

theorem binR_kin {rc : Bool} {d : Option Bool} {op : BinOp} {t : TypeId} {x y v : LV A} {c : Cnd} {p : Key → Nat → Prop} (h : binR P rc d op t x y = some (v, c)) : v.kin p := by
  have it : ∀ {k : IntKind} {i j : Int} {v : LV A}, ibin op k i j = some v → v.kin p := by
    intro k i j v h
    cases op <;> simp only [ibin, Option.some.injEq, reduceCtorEq] at h <;> subst h <;> trivial
  have tb : ∀ {u : Option (LV A)} {v : LV A} {c : Cnd}, tst d u = some (v, c) → (∀ z, u = some z → z.kin p) → v.kin p := by
    intro u v c h hz
    cases u with
    | none => cases h
    | some u =>
      have hz := hz u rfl
      cases u <;> simp only [tst, Option.some.injEq, Prod.mk.injEq] at h <;> first
        | (obtain ⟨rfl, _⟩ := h; exact hz)
        | trivial
  unfold binR at h
  repeat' split at h
  all_goals first
    | (cases h; done)
    | (simp only [Option.some.injEq, Prod.mk.injEq] at h; obtain ⟨rfl, _⟩ := h; trivial)
    | (have hch := h; unfold chk at hch; split at hch <;> first | (cases hch; done) | (simp only [Option.some.injEq, Prod.mk.injEq] at hch; obtain ⟨rfl, _⟩ := hch; trivial))
    | exact tb h (fun z hz => it hz)
    | exact tb h (fun z hz => by cases hz; trivial)

theorem splice_fold (off : Nat) : ∀ (vs : List Value) (k : Nat) (cells : Array Value), off + k + vs.length ≤ cells.size →
    ((vs.zipIdx k).foldl (fun cs (x : Value × Nat) => cs.setIfInBounds (off + x.2) x.1) cells).toList = cells.toList.take (off + k) ++ vs ++ cells.toList.drop (off + k + vs.length)
  | [], k, cells, _ => by simp
  | v :: vs, k, cells, h => by
    simp only [List.length_cons] at h
    simp only [List.zipIdx_cons, List.foldl_cons, List.length_cons]
    rw [splice_fold off vs (k + 1) _ (by simp; omega)]
    have hlt : off + k < cells.toList.length := by simp; omega
    rw [Array.toList_setIfInBounds, show off + (k + 1) = off + k + 1 by omega, show off + k + (vs.length + 1) = off + k + 1 + vs.length by omega]
    rw [List.drop_set_of_lt (by omega), List.set_eq_take_append_cons_drop, if_pos hlt]
    rw [List.take_append, List.length_take, Nat.min_eq_left (Nat.le_of_lt hlt), List.take_take, Nat.min_eq_right (by omega), show off + k + 1 - (off + k) = 0 + 1 by omega, List.take_succ_cons, List.take_zero]
    simp

/-- One part laid over. -/
theorem fill_one (place : Nat → Option (Nat × Nat)) (cells : Array Value) (i : Nat) (v : Value) (rest : List (Nat × Value)) (off : Nat) (hp : place i = some (off, v.cells.size)) (hle : off + v.cells.size ≤ cells.size) :
    Instr.fill place cells ((i, v) :: rest) = Instr.fill place (cells.toList.take off ++ v.cells.toList ++ cells.toList.drop (off + v.cells.size)).toArray rest := by
  have h1 : ¬ (off + v.cells.size > cells.size) := by omega
  simp only [Instr.fill, hp]
  rw [if_neg (by simp; omega)]
  congr 1
  apply Array.ext'
  have := splice_fold off v.cells.toList 0 cells (by simpa using hle)
  rw [← Array.foldl_toList, Array.toList_zipIdx]
  simpa using this

theorem sized_places (w : World) {fs : Array Field} (h : (fs.toList.all fun f => (sizeT P f.type).isSome) = true) :
    ∃ pl : Array (Nat × Nat), (fs.mapM fun f => do pure (f.offset, ← sizeOf f.type) : Sem (Array (Nat × Nat))).run P w = .ok pl w ∧ ∀ (i : Nat) (f : Field) (n : Nat), fs[i]? = some f → sizeT P f.type = some n → pl[i]? = some (f.offset, n) := by
  have key : ∀ l : List Field, (l.all fun f => (sizeT P f.type).isSome) = true → (l.mapM fun f => do pure (f.offset, ← sizeOf f.type) : Sem (List (Nat × Nat))).run P w = .ok (l.map fun f => (f.offset, (sizeT P f.type).getD 0)) w := by
    intro l hl
    induction l with
    | nil => rfl
    | cons f l ih =>
      simp only [List.all_cons, Bool.and_eq_true] at hl
      obtain ⟨n, hn⟩ := Option.isSome_iff_exists.1 hl.1
      simp only [List.mapM_cons, Sem.run_bind, run_sizeOf w hn, Result.andThen_ok, ih hl.2, Sem.run_pure, List.map_cons, hn, Option.getD_some]
  refine ⟨(fs.toList.map fun f => (f.offset, (sizeT P f.type).getD 0)).toArray, ?_, ?_⟩
  · rw [Array.mapM_eq_mapM_toList]
    rw [Sem.run_map, key _ h]
    rfl
  · intro i f n hf hn
    simp [hf, hn]

theorem bld_sound [LawAb A] {E : Operand → Option (LV A)} {pl place : Nat → Option (Nat × Nat)} (hpl : ∀ i x, pl i = some x → place i = some x) {ev' : Operand → Value} {p : Key → Nat → Prop}
    (hE : ∀ x u, E x = some u → ev' x = LV.tr ρ u ∧ u.kin p) : ∀ (parts : List (Nat × Operand)) (us : List (LV A)) (v : LV A) (c : Cnd), pureR.bld pl E us parts = some (v, c) → kinL p us →
      ∃ cells, Instr.fill place (cellsL ρ us).toArray (parts.map fun x => (x.1, ev' x.2)) = some cells ∧ LV.tr ρ v = .agg cells ∧ v.kin p
  | [], us, v, c, h, hk => by
    simp only [pureR.bld] at h
    have := okc_sound h; cases this
    exact ⟨_, rfl, rfl, hk⟩
  | (i, x) :: ps, us, v, c, h, hk => by
    simp only [pureR.bld] at h
    split at h
    · rename_i off n u hp hu
      split at h
      · rename_i hb
        split at h
        · rename_i us' hw
          have hu := hE x u hu
          have hnt := (both hb).1
          have hn := beqN (both hb).2
          have hc1 : (LV.cells ρ u).length = n := by rw [← cellsL_units, len_cellsL]; exact hn
          obtain ⟨h1, h2⟩ := wrU_sound ρ _ _ _ _ hw
          rw [cellsL_units, hn] at h1
          rw [hn] at h2
          have hsz : (LV.tr ρ u).cells.size = n := by rw [cells_tr ρ hnt]; simpa using hc1
          obtain ⟨cells, hc, ht, hk'⟩ := bld_sound hpl hE ps us' v c h (kin_wrU _ _ _ _ hw hk (kin_units hu.2))
          refine ⟨cells, ?_, ht, hk'⟩
          simp only [List.map_cons, hu.1]
          rw [fill_one place _ i (LV.tr ρ u) _ off (by rw [hsz]; exact hpl i _ hp) (by rw [hsz]; simp [len_cellsL]; exact h2)]
          rw [cells_tr ρ hnt, ← hc, h1]
          simp [hc1]
        · cases h
      · cases h
    · cases h

theorem ofConst_noTup {v : Value} {u : LV A} (h : ofConst v = some u) : noTup u = true := by
  unfold ofConst at h
  split at h
  · split at h
    · cases h; rfl
    · cases h
  · unfold ofCell at h
    split at h <;> cases h <;> rfl
theorem run_zero (w : World) {t : TypeId} {z : LV A} (h : zeroT P t = some z) : (zeroValue t).run P w = .ok (LV.tr ρ z) w ∧ (∀ p, z.kin p) ∧ noTup z = true := by
  unfold zeroT at h
  split at h
  · rename_i i hi
    split at h
    · rename_i v hv
      have := ofConst_sound ρ h
      exact ⟨by simp [zeroValue, typeInfo, hi, hv, this.1], this.2, ofConst_noTup h⟩
    · cases h
  · cases h

theorem blt_sound (w : World) (ty : TypeId) (cs : Array Bool) {ts : Array TypeId} {b : Builtin} {vs : List (LV A)} {v : LV A} {c : Cnd} (h : bltR P ts b vs = some (v, c)) :
    (builtin b ts ty cs (trs ρ vs).toArray).run P w = .ok (.value (LV.tr ρ v)) w ∧ ∀ p, v.kin p := by
  unfold bltR at h
  split at h
  · split at h
    · rename_i u t ht
      split at h
      · rename_i e hs
        split at h
        · have := okc_sound h; cases this
          exact ⟨by simp [builtin, trs, LV.tr, Builtin.len_, ht, run_underlying hs, goInt], fun _ => trivial⟩
        · have := okc_sound h; cases this
          refine ⟨?_, fun _ => trivial⟩
          rename_i k m
          have hv : ∃ a c, vecV (ρ k) m = .slice a m c := by
            unfold vecV
            split
            · rename_i hb
              exact ⟨_, 0, by rw [beqN (both hb).2]⟩
            · exact ⟨_, _, rfl⟩
          obtain ⟨a, c, hv⟩ := hv
          simp [builtin, trs, LV.tr, Builtin.len_, ht, run_underlying hs, goInt, hv]
        · have := okc_sound h; cases this
          exact ⟨by simp [builtin, trs, LV.tr, Builtin.len_, ht, run_underlying hs, goInt], fun _ => trivial⟩
        · cases h
      · rename_i hs
        split at h
        · have := okc_sound h; cases this
          exact ⟨by simp [builtin, trs, LV.tr, Builtin.len_, ht, run_underlying hs, goInt], fun _ => trivial⟩
        · cases h
      · cases h
    · cases h
  · split at h
    · have := okc_sound h; cases this
      exact ⟨by simp [builtin, trs, LV.tr, Builtin.min_, Builtin.min2], fun _ => trivial⟩
    · cases h
  · split at h
    · have := okc_sound h; cases this
      exact ⟨by simp [builtin, trs, LV.tr, Builtin.max_, Builtin.max2], fun _ => trivial⟩
    · cases h
  · cases h

end
end
end Go.Proofs.YtonmjdnkcngfjaaGreat.En

/- DERIVED. An operation that touches no memory, in a walk: all of them. -/
set_option linter.all false
namespace Go.Proofs.YtonmjdnkcngfjaaGreat.En
open Go Go.RowKit

section
variable {A : Type} [Ab A] {P : Program}

section
variable {I : Nat → Nat → List (LV A)} {Own : Dom} {w0 : World} {ρ : Key → Loc} {s : LS A} {a : Act} {w : World}

theorem strAt_some {s : ByteArray} {n b : Int} (h : strAt s n = some b) : ∃ (m : Nat) (c : UInt8), n = Int.ofNat m ∧ s[m]? = some c ∧ b = c.toNat := by
  unfold strAt at h
  split at h
  · rename_i m
    split at h
    · rename_i c hc
      cases h
      refine ⟨m, c, rfl, ?_, rfl⟩
      rw [← hc]
      simp only [getElem?_def, ByteArray.size, Array.length_toList, ByteArray.getElem_eq_getElem_data, Array.getElem_toList]
    · cases h
  · cases h
theorem eqGuard_scalar (op : BinOp) (t : TypeId) (x y : Operand) {u v w : LV A} {rc : Bool} {d : Option Bool} {c : Cnd} (h : binR P rc d op t u v = some (w, c)) (hn : ∀ us vs, u = .agg us → v = .agg vs → False) : eqGuard op t x y (LV.tr ρ u) (LV.tr ρ v) = pure () := by
  unfold binR at h
  split at h
  · simp only [LV.tr]; exact eqGuard_at_int _ _ _ _ _ _ _
  · exact (hn _ _ rfl rfl).elim
  · simp only [LV.tr]; exact eqGuard_at_bool _ _ _ _ _ _
  · simp only [LV.tr]; simp [eqGuard]
  · simp only [LV.tr]; simp [eqGuard]
  · simp only [LV.tr]; simp [eqGuard]
  · cases h

/-- The bounds of a slicing. -/
theorem bnds_sound (hr : Rl I Own w0 ρ s a w) (isSlice : Bool) {len cap : Nat} {low high max : Option Operand} {l h m : Nat} {ok : Bool} (hb : bnds (ev s.tmps) len cap low high max = some (l, h, m, ok)) (hok : ok = true) :
    (Instr.sliceBounds isSlice len cap (low.map a.eval) (high.map a.eval) (max.map a.eval)).run P w = .ok (l, h, m) w ∧ l ≤ h ∧ h ≤ m ∧ m ≤ cap ∧ (low = none → l = 0) := by
  have one : ∀ (x : Operand) (k : IntKind) (i : Int) (y : Nat) (code : BoundsCode), ev s.tmps x = some (.int k i) → 0 ≤ i → i ≤ y → (Instr.sliceBound (a.eval x) y code).run P w = .ok i.toNat w := by
    intro x k i y code hx h0 h1
    have hx := (ev_sound hr hx).1
    simp [Instr.sliceBound, hx, LV.tr, asIntOf, h0, h1]
  subst hok
  simp only [bnds] at hb
  split at hb
  rotate_left
  · cases hb
  rename_i l' h' m' e0 e1 e2 e3
  simp only [Option.some.injEq, Prod.mk.injEq] at hb
  obtain ⟨rfl, rfl, rfl, hd⟩ := hb
  have hd := of_decide_eq_true hd
  refine ⟨?_, by omega, by omega, by omega, ?_⟩
  rotate_left
  · rintro rfl
    simp only [Option.some.injEq] at e1
    subst e1; rfl
  have key : ∀ (o : Option Operand) (n : Nat) (i : Int), (match o with
      | none => some (n : Int)
      | some x => match ev s.tmps x with
        | some (.int _ i) => some i
        | _ => none) = some i → (o = none ∧ i = n) ∨ ∃ x k, o = some x ∧ ev s.tmps x = some (.int k i) := by
    intro o n i h
    cases o with
    | none => simp only [Option.some.injEq] at h; exact .inl ⟨rfl, h.symm⟩
    | some x =>
      simp only at h
      split at h
      · rename_i k j hx; cases h; exact .inr ⟨x, k, rfl, hx⟩
      · cases h
  have k1 := key _ _ _ e1
  have k2 := key _ _ _ e2
  have k3 := key _ _ _ e3
  unfold Instr.sliceBounds
  rcases k3 with ⟨rfl, rfl⟩ | ⟨x3, t3, rfl, h3⟩
  · rcases k2 with ⟨rfl, rfl⟩ | ⟨x2, t2, rfl, h2⟩
    · rcases k1 with ⟨rfl, rfl⟩ | ⟨x1, t1, rfl, h1⟩
      · simp
      · have := fun y code => one x1 t1 l' y code h1 hd.1
        simp (disch := omega) [this]
    · have r2 := fun y code => one x2 t2 h' y code h2 (by omega)
      rcases k1 with ⟨rfl, rfl⟩ | ⟨x1, t1, rfl, h1⟩
      · simp (disch := omega) [r2]
      · have := fun y code => one x1 t1 l' y code h1 hd.1
        simp (disch := omega) [this, r2]
  · have r3 := fun y code => one x3 t3 m' y code h3 (by omega)
    rcases k2 with ⟨rfl, rfl⟩ | ⟨x2, t2, rfl, h2⟩
    · simp at e0
    · have r2 := fun y code => one x2 t2 h' y code h2 (by omega)
      rcases k1 with ⟨rfl, rfl⟩ | ⟨x1, t1, rfl, h1⟩
      · simp (disch := omega) [r2, r3]
      · have := fun y code => one x1 t1 l' y code h1 hd.1
        simp (disch := omega) [this, r2, r3]
theorem okKey_zero {mem : Mem A} {ρ : Key → Loc} {b : Key} {m : Nat} (h : okKey mem ρ b m) : okKey mem ρ b 0 := by
  cases b with
  | own k => exact ⟨h.1, Nat.zero_le _⟩
  | inp t i => exact Nat.zero_le _
theorem vecV_pos (l : Loc) {n : Nat} (h : n ≠ 0) : vecV l n = .slice (some (l.at 0)) n l.cap := by
  unfold vecV
  rw [beqF h, Bool.and_false]

theorem pure_sound [LawAb A] [LawEq A] {S : Sig A} (hS : SigOk P S) {o : Oper} {rc : Bool} {d : Option Bool} {v : LV A} {c : Cnd} (h : pureR P S rc d (ev s.tmps) o.op = some (v, c)) (hc : condOk c)
    (hr : Rl I Own w0 ρ s a w) : Does P o a w (LV.tr ρ v) ∧ v.kin (okKey s.mem ρ) := by
  obtain ⟨dst, op, ty, pos, after, guard⟩ := o
  cases op <;> simp only [pureR] at h <;> try (cases h; done)
  case move x =>
    have hx := ev_sound hr (okc_sound h)
    exact ⟨does_value (by simp [execOp, hx.1]), hx.2⟩
  case assign x =>
    have hx := ev_sound hr (okc_sound h)
    exact ⟨does_value (by simp [execOp, hx.1]), hx.2⟩
  case pick z x y =>
    split at h
    · rename_i b hz
      have hz := (ev_sound hr hz).1
      generalize hd : dcd d b = q at h
      obtain ⟨b', c'⟩ := q
      split at h
      · rename_i e1 e2
        simp only [Prod.mk.injEq] at e1
        obtain ⟨rfl, rfl⟩ := e1
        simp only [Option.some.injEq, Prod.mk.injEq] at h; obtain ⟨rfl, rfl⟩ := h
        have hb := dcd_val hd hc
        subst hb
        have hx := ev_sound hr e2
        exact ⟨does_value (by simp [execOp, hz, hx.1, LV.tr, asBool]), hx.2⟩
      · rename_i e1 e2
        simp only [Prod.mk.injEq] at e1
        obtain ⟨rfl, rfl⟩ := e1
        simp only [Option.some.injEq, Prod.mk.injEq] at h; obtain ⟨rfl, rfl⟩ := h
        have hb := dcd_val hd hc
        subst hb
        have hx := ev_sound hr e2
        exact ⟨does_value (by simp [execOp, hz, hx.1, LV.tr, asBool]), hx.2⟩
      · cases h
    · cases h
  case binOp op t x y yt =>
    split at h
    · rename_i u1 u2 h1 h2
      have h1 := (ev_sound hr h1).1
      have h2 := (ev_sound hr h2).1
      refine ⟨?_, binR_kin h⟩
      by_cases hag : ∃ us vs, u1 = .agg us ∧ u2 = .agg vs
      · obtain ⟨us, vs, rfl, rfl⟩ := hag
        refine does_value ?_
        simp only [binR] at h
        simp only [LV.tr] at h1 h2
        split at h
        · rename_i us' vs' hu hv
          split at h
          · rename_i hcond
            simp only [Bool.and_eq_true, decide_eq_true_eq, Bool.not_eq_true'] at hcond
            split at h
            · rename_i b hb
              have key := eqAgg_sound (P := P) ρ hu hv hcond.1.1 hcond.2 hb w
              split at h
              · have := tst_sound h hc; cases this
                simp only [execOp, h1, h2]
                simp [run_eqGuard_agg w _ t x y _ _ hcond.1.2, run_eql_struct, key, LV.tr]
              · have := tst_sound h hc; cases this
                simp only [execOp, h1, h2]
                simp [run_eqGuard_agg w _ t x y _ _ hcond.1.2, run_neq_struct, key, LV.tr]
              · cases h
            · cases h
          · cases h
        · cases h
      · have hn : ∀ us vs, u1 = .agg us → u2 = .agg vs → False := fun us vs e e' => hag ⟨us, vs, e, e'⟩
        refine does_value ?_
        simp only [execOp, h1, h2, eqGuard_scalar op t x y h hn]
        simp [binR_sound w (fun us vs e e' => (hn us vs e e').elim) h hc]
    · cases h
  case unOp op t x =>
    split at h
    · rename_i b hx
      have hx := (ev_sound hr hx).1
      have := tst_sound h hc
      cases this
      exact ⟨does_value (by simp [execOp, hx, Op.unary, LV.tr]), trivial⟩
    · rename_i k n hx
      have hx := (ev_sound hr hx).1
      have := okc_sound h
      cases this
      exact ⟨does_value (by simp [execOp, hx, Op.unary, Op.intArith, LV.tr]), trivial⟩
    · cases h
  case convert src dst x =>
    split at h
    · rename_i k n ds k' hx hs hd
      have hx := (ev_sound hr hx).1
      have := okc_sound h
      cases this
      exact ⟨does_value (by simp [execOp, hx, convert, run_underlying hs, run_underlying hd, Conv.intToInt, LV.tr]), trivial⟩
    · cases h
  case nilCheck x =>
    split at h
    · rename_i b off hx
      have hx := ev_sound hr hx
      have := okc_sound h
      cases this
      exact ⟨does_value (by simp [execOp, hx.1, LV.tr]), hx.2⟩
    · cases h
  case makeInterface t x =>
    split at h
    · cases h
    · cases h
    · rename_i dsc hni ht
      split at h
      · rename_i u hx
        have hx := ev_sound hr hx
        have := okc_sound h
        cases this
        refine ⟨does_value ?_, hx.2⟩
        simp only [execOp, Instr.makeInterface, hx.1, LV.tr]
        cases dsc <;> first | (exact absurd rfl (hni _)) | simp [run_underlying ht]
      · cases h
  case makeFunc f first caps =>
    split at h
    · rename_i g hg1 hg2
      split at h
      · rename_i vs hvs
        have := okc_sound h
        cases this
        have hm := mapE_arr hr hvs
        refine ⟨does_value ?_, (mapE_sound hr hvs).2⟩
        have hf : first = #[] := by simpa using hg2
        simp [execOp, Instr.makeFunc, hm, hf, LV.tr]
      · cases h
    · cases h
  case build t parts =>
    split at h
    · rename_i z hz
      split at h
      · rename_i fs hfs
        split at h
        · rename_i hall
          obtain ⟨pl, hrun, hpl⟩ := sized_places (P := P) w hall
          have hz' := run_zero (ρ := ρ) w hz
          obtain ⟨cells, hc1, hc2, hk⟩ := bld_sound (ρ := ρ) (place := (pl[·]?)) (by
            intro i x hx
            split at hx
            · rename_i f hf
              split at hx
              · rename_i n hn
                cases hx
                exact hpl i f n (by simpa using hf) hn
              · cases hx
            · cases hx) (fun x u hx => ev_sound hr hx) parts.toList (units z) v c h (kin_units (hz'.2.1 _))
          refine ⟨does_value ?_, hk⟩
          rw [cellsL_units] at hc1
          simp only [execOp, Instr.build, Sem.run_bind, hz'.1, Result.andThen_ok, run_underlying hfs, hrun, cells_tr ρ hz'.2.2]
          simp [hc1, hc2]
        · cases h
      · rename_i len e he
        split at h
        · rename_i n hn
          have hz' := run_zero (ρ := ρ) w hz
          obtain ⟨cells, hc1, hc2, hk⟩ := bld_sound (ρ := ρ) (place := fun i => some (i * n, n)) (fun i x hx => hx) (fun x u hx => ev_sound hr hx) parts.toList (units z) v c h (kin_units (hz'.2.1 _))
          refine ⟨does_value ?_, hk⟩
          rw [cellsL_units] at hc1
          simp only [execOp, Instr.build, Sem.run_bind, hz'.1, Result.andThen_ok, run_underlying he, run_sizeOf w hn, cells_tr ρ hz'.2.2]
          simp [hc1, hc2]
        · cases h
      · cases h
    · cases h
  case fieldAddr st x f =>
    split at h
    · rename_i b off fs hx hst
      have hx := ev_sound hr hx
      split at h
      · rename_i fd hfd
        split at h
        · rename_i n hz
          have := okc_sound h
          cases this
          refine ⟨does_value ?_, hx.2⟩
          simp only [execOp, hx.1]
          simp [fieldAt_sound w hst hfd hz]
        · cases h
      · cases h
    · cases h
  case field st x f => 
    split at h
    · rename_i us fs hx hst
      have hx := ev_sound hr hx
      split at h
      · rename_i fd hfd
        obtain ⟨c2, h, hc⟩ := tstC_sound h hc
        have hp := part_sound (ρ := ρ) w h hc
        simp only [adr] at hp
        refine ⟨does_value ?_, hp.2 _ hx.2⟩
        simp only [execOp, hx.1, LV.tr]
        simp [Instr.field, run_underlying hst, hfd, asAgg, hp.1]
      · cases h
    · cases h
  case indexAddr t x i =>
    split at h
    · rename_i b off k n len e hx hi ht
      have hx := ev_sound hr hx
      have hi := (ev_sound hr hi).1
      split at h
      · rename_i z hz
        unfold chk at h
        split at h
        · rename_i c' hd
          simp only [Option.some.injEq, Prod.mk.injEq] at h; obtain ⟨rfl, rfl⟩ := h
          have hb := of_decide_eq_true (chkC_ok hd hc)
          refine ⟨does_value ?_, hx.2⟩
          simp only [execOp, hx.1, hi]
          rw [show LV.tr ρ (LV.int k n : LV A) = .int k n from rfl]
          simp [indexAt_array w ht hz hb]
        · cases h
      · cases h
    · rename_i b off len cap k n e hx hi ht
      have hx := ev_sound hr hx
      have hi := (ev_sound hr hi).1
      split at h
      · rename_i z hz
        unfold chk at h
        split at h
        · rename_i c' hd
          simp only [Option.some.injEq, Prod.mk.injEq] at h; obtain ⟨rfl, rfl⟩ := h
          have hb := of_decide_eq_true (chkC_ok hd hc)
          refine ⟨does_value ?_, hx.2⟩
          simp only [execOp, hx.1, hi, LV.tr]
          simp [indexAt_slice w ht hz hb, loc_add, adr_addE]
        · cases h
      · cases h
    · rename_i b len k n e hx hi ht
      have hx := ev_sound hr hx
      have hi := (ev_sound hr hi).1
      split at h
      · rename_i z hz
        unfold chk at h
        split at h
        · rename_i c' hd
          simp only [Option.some.injEq, Prod.mk.injEq] at h; obtain ⟨rfl, rfl⟩ := h
          have hb := of_decide_eq_true (chkC_ok hd hc)
          refine ⟨does_value ?_, okKey_zero hx.2⟩
          simp only [execOp, hx.1, hi, LV.tr, vecV_pos (ρ b) (show len ≠ 0 by omega)]
          simp [indexAt_slice w ht hz hb, loc_add, adr]
        · cases h
      · cases h
    · cases h
  case index t x i =>
    split at h
    · rename_i us k n len e hx hi ht
      have hx := ev_sound hr hx
      have hi := (ev_sound hr hi).1
      split at h
      · rename_i z hz
        split at h
        · rename_i c1 v' c2 hd hv
          obtain ⟨c3, h, hc⟩ := tstC_sound h hc
          simp only [Option.some.injEq, Prod.mk.injEq] at h; obtain ⟨rfl, rfl⟩ := h
          obtain ⟨hc1, hc2⟩ := andC_ok hc
          have hb := of_decide_eq_true (chkC_ok hd hc1)
          have hp := part_sound (ρ := ρ) w hv hc2
          simp only [adr, Nat.zero_add, Nat.add_zero] at hp
          refine ⟨does_value ?_, hp.2 _ hx.2⟩
          simp only [execOp, hx.1, hi, LV.tr]
          simp [Instr.index, run_underlying ht, asIntOf, run_sizeOf w hz, hb.1, hb.2, hp.1]
        · cases h
      · cases h
    · rename_i sb k n hx hi ht
      have hx := ev_sound hr hx
      have hi := (ev_sound hr hi).1
      split at h
      · rename_i b hb
        cases h
        refine ⟨does_value ?_, trivial⟩
        simp only [execOp, hx.1, hi, LV.tr]
        obtain ⟨m, b', rfl, hg, rfl⟩ := strAt_some hb
        simp [Instr.index, run_underlying ht, asIntOf, hg]
      · cases h
    · cases h
  case slice t x low high max =>
    split at h
    rotate_left
    · cases h
    rename_i b o p n e hx ha
    have hx := ev_sound hr hx
    split at h
    rotate_left
    · cases h
    rename_i z l hh m ok hz hb
    have fin : ∀ {c' : Cnd}, chkC rc ok = some c' → condOk c' → ∀ (q : List Stp), (if m = l then adr o p else adr o p + l * z) = adr o q →
        Does P ⟨dst, .slice t x low high max, ty, pos, after, guard⟩ a w (LV.tr ρ (.slice b o q (hh - l) (m - l) : LV A)) ∧ (LV.slice b o q (hh - l) (m - l) : LV A).kin (okKey s.mem ρ) := by
      intro c' h1 h2 q hq
      obtain ⟨hrun, _⟩ := bnds_sound (P := P) hr false hb (chkC_ok h1 h2)
      refine ⟨does_value ?_, okKey_zero hx.2⟩
      have hd2 : (if m = l then (ρ b).at (adr o p) else (ρ b).at (adr o p + l * z)) = (ρ b).at (adr o q) := by
        rw [← hq]; split <;> rfl
      have hd3 : (if m = l then some ((ρ b).at (adr o p)) else some ((ρ b).at (adr o p + l * z))) = some ((ρ b).at (adr o q)) := by
        rw [← hd2]; split <;> rfl
      simp only [execOp, hx.1, LV.tr]
      unfold arrOf at ha
      split at ha
      · rename_i n' e' ht
        simp only [Option.some.injEq, Prod.mk.injEq] at ha
        obtain ⟨rfl, rfl⟩ := ha
        simp [Instr.sliceAt, run_underlying ht, Instr.sureAddr, hrun, run_sizeOf w hz, loc_add, hd2]
      · rename_i arr ht
        split at ha
        · rename_i n' e' hta
          simp only [Option.some.injEq, Prod.mk.injEq] at ha
          obtain ⟨rfl, rfl⟩ := ha
          simp [Instr.sliceAt, Instr.slice, run_underlying ht, run_underlying hta, asAddr, hrun, run_sizeOf w hz, loc_add, hd2]
        · cases ha
      · cases ha
    split at h
    · rename_i c' h1
      simp only [Option.some.injEq, Prod.mk.injEq] at h; obtain ⟨rfl, rfl⟩ := h
      obtain ⟨_, _, _, _, hl0⟩ := bnds_sound (P := P) (w := w) hr false hb (chkC_ok h1 hc)
      exact fin h1 hc p (by rw [hl0 rfl]; simp)
    · rename_i c' xl h1
      split at h
      · rename_i hml
        simp only [Option.some.injEq, Prod.mk.injEq] at h; obtain ⟨rfl, rfl⟩ := h
        exact fin h1 hc p (by simp [beqN hml])
      · rename_i hml
        simp only [Option.some.injEq, Prod.mk.injEq] at h; obtain ⟨rfl, rfl⟩ := h
        exact fin h1 hc _ (by rw [adr_addE, if_neg]; rintro rfl; simp [Nat.beq_refl] at hml)
    · cases h
  case extract x i =>
    split at h
    · rename_i vs hx
      have hx := ev_sound hr hx
      obtain ⟨c2, h, hc⟩ := tstC_sound h hc
      have hv := okc_sound h
      refine ⟨does_value ?_, kinL_get hx.2 hv⟩
      simp [execOp, hx.1, LV.tr, Instr.extract, trs_get hv]
    · cases h
  case call c =>
    obtain ⟨callee, args, ats⟩ := c
    simp only at h
    split at h
    rotate_left
    · cases h
    rename_i vs hvs
    have hm := mapE_arr hr hvs
    split at h
    · split at h
      · rename_i f
        obtain ⟨c', hv, hc'⟩ := tstC_sound h hc
        refine ⟨?_, hS.psK f vs v c' hv _⟩
        rcases hS.psC f vs v c' hv hc' ρ w with ⟨h1, h2⟩ | h1
        · refine does_call (f := f) (args := (trs ρ vs).toArray) ?_ h2
          simp [execOp, resolve, Act.eval, Deferred.ofValue, invoke, hm, h1]
        · refine does_value ?_
          simp [execOp, resolve, Act.eval, Deferred.ofValue, invoke, hm, h1]
      · cases h
    · rename_i r m
      split at h
      · rename_i t u hx
        have hx := (ev_sound hr hx).1
        split at h
        · rename_i f hf
          obtain ⟨c', hv, hc'⟩ := tstC_sound h hc
          refine ⟨?_, hS.psK f _ v c' hv _⟩
          rcases hS.psC f _ v c' hv hc' ρ w with ⟨h1, h2⟩ | h1
          · refine does_call (f := f) (args := (trs ρ (u :: vs)).toArray) ?_ h2
            simp only [trs] at h1
            simp [execOp, resolve, invoke, callMethod, hx, LV.tr, hm, hS.ms t m f hf, trs, h1]
          · refine does_value ?_
            simp only [trs] at h1
            simp [execOp, resolve, invoke, callMethod, hx, LV.tr, hm, hS.ms t m f hf, trs, h1]
        · cases h
      · cases h
    · rename_i b
      obtain ⟨h1, h2⟩ := blt_sound (ρ := ρ) w ty (args.map fun | .const _ => true | _ => false) h
      refine ⟨does_value ?_, h2 _⟩
      simp only [execOp, resolve, Sem.run_bind, Sem.run_pure, Result.andThen_ok, invoke, hm]
      exact h1
end
end
end Go.Proofs.YtonmjdnkcngfjaaGreat.En

/- DERIVED. Memory that is turned: what a step leaves. -/
set_option linter.all false
namespace Go.Proofs.YtonmjdnkcngfjaaGreat.En
open Go Go.RowKit

section
variable {A : Type} [Ab A] {P : Program}

theorem cell_same {w w' : World} {a : Addr} (h : w'.heap[a.block]? = w.heap[a.block]?) : w'.cell? a = w.cell? a := by simp [World.cell?, h]
theorem frozen_same {w w' : World} {a : Addr} (h : w'.heap[a.block]? = w.heap[a.block]?) : w'.frozen? a = w.frozen? a := by simp [World.frozen?, h]
theorem at_own {I : Nat → Nat → List (LV A)} {mem : Mem A} {k : Nat} {bl : Blk A} (h : mem[k]? = some (some bl)) : at? I mem (.own k) = some bl := by simp [at?, h]
theorem at_own' {I : Nat → Nat → List (LV A)} {mem : Mem A} {k : Nat} {bl : Blk A} (h : at? I mem (.own k) = some bl) : mem[k]? = some (some bl) := by
  simp only [at?] at h
  split at h
  · rename_i b hb; cases h; exact hb
  · cases h

/-- Blocks that stand in the world as they stood. -/
theorem MemRel.kept [LawAb A] {I : Nat → Nat → List (LV A)} {ρ : Key → Loc} {mem : Mem A} {w w' : World} {row : Option Nat} (h : MemRel I ρ mem w) (hg : w.grownBy w' row)
    (hrow : ∀ k bl, at? I mem k = some bl → isDead bl.kd = false → (ρ k).none = false → some (ρ k).blk ≠ row) : MemRel I ρ mem w' := by
  have blk : ∀ k bl, at? I mem k = some bl → isDead bl.kd = false → (ρ k).none = false → w'.heap[(ρ k).blk]? = w.heap[(ρ k).blk]? := fun k bl h1 h2 h3 => hg.block _ (h.inb k bl h1 h2 h3) (hrow k bl h1 h2 h3)
  have nod : ∀ k bl, at? I mem k = some bl → cszL bl.us ≠ 0 → isDead bl.kd = false ∧ (ρ k).none = false := by
    intro k bl hk hz
    refine ⟨?_, ?_⟩
    · cases hd : isDead bl.kd with
      | false => rfl
      | true =>
        cases k with
        | own k => rw [h.dead k bl (at_own' hk) hd] at hz; exact absurd rfl hz
        | inp t i => simp only [at?, Option.some.injEq] at hk; subst hk; cases hd
    · cases hn : (ρ k).none with
      | false => rfl
      | true => exact absurd (h.empt k bl hk hn) hz
  exact {
    cell := fun k bl hk i v hv => by
      have hz : cszL bl.us ≠ 0 := by
        intro e
        rw [← len_cellsL ρ] at e
        rw [List.length_eq_zero_iff.1 e] at hv
        cases hv
      obtain ⟨h1, h2⟩ := nod k bl hk hz
      rw [cell_same (a := (ρ k).at i) (blk k bl hk h1 h2)]
      exact h.cell k bl hk i v hv
    free := fun k bl hk hw i hi => by
      obtain ⟨h1, h2⟩ := nod (.own k) bl (at_own hk) (by omega)
      rw [frozen_same (a := (ρ (.own k)).at i) (blk _ bl (at_own hk) h1 h2)]
      exact h.free k bl hk hw i hi
    apart := h.apart
    inb := fun k bl h1 h2 h3 => Nat.lt_of_lt_of_le (h.inb k bl h1 h2 h3) hg.size
    row := fun k bl e hk he => by
      obtain ⟨n, z, f, h1, h0, h2⟩ := h.row k bl e hk he
      refine ⟨n, z, f, h1, h0, h2.kept hg ?_⟩
      unfold vecV
      split
      · left; rw [h0]; rfl
      · rename_i hb
        by_cases hn : (ρ (.own k)).none = true
        · have hz := h.empt _ bl (at_own hk) hn
          rcases h2.2 with ⟨e1, e2⟩ | ⟨g, cap, cur, e1, _, _, e3, _⟩
          · rw [e2, hn] at hb; simp [Nat.beq_refl] at hb
          · unfold vecV at e1
            split at e1
            · rw [h0] at e1; cases e1
            · simp only [Value.slice.injEq, Option.some.injEq] at e1
              have := h.nilc _ hn
              have e0 : n = 0 := by omega
              rw [e0, hn] at hb; simp [Nat.beq_refl] at hb
        · right
          have := hrow (.own k) bl (at_own hk) (by rw [he]; rfl) (by simpa using hn)
          exact this
    nilc := h.nilc
    empt := h.empt
    dead := h.dead }

theorem grownBy_below {w w' : World} (h : Below w.heap.size w w') : w.grownBy w' none := ⟨h.os, h.tape, h.output, h.size, fun k hk _ => h.block k hk⟩
theorem MemRel.below [LawAb A] {I : Nat → Nat → List (LV A)} {ρ : Key → Loc} {mem : Mem A} {w w' : World} (h : MemRel I ρ mem w) (hb : Below w.heap.size w w') : MemRel I ρ mem w' :=
  h.kept (grownBy_below hb) fun _ _ _ _ _ e => by cases e

/-! ## what a step leaves of memory -/
structure Next (I : Nat → Nat → List (LV A)) (Own : Dom) (ρ ρ' : Key → Loc) (mem mem' : Mem A) (w w' : World) : Prop where
  agree : ∀ k m, okKey mem ρ k m → ρ k = ρ' k
  live : ∀ (k : Nat) bl, mem[k]? = some (some bl) → ∃ bl', mem'[k]? = some (some bl')
  mem : MemRel I ρ' mem' w'
  mine : Mine I Own ρ' mem'
  keeps : Keeps Own w w'
  occM : ∀ (k : Key) (bl : Blk A), at? I mem' k = some bl → kinL (okKey mem' ρ') bl.us

theorem okKey_zero' {mem : Mem A} {ρ : Key → Loc} {k : Nat} {bl : Blk A} (h : mem[k]? = some (some bl)) : okKey mem ρ (.own k) 0 := ⟨⟨bl, h⟩, Nat.zero_le _⟩
theorem Next.mono {I : Nat → Nat → List (LV A)} {Own : Dom} {ρ ρ' : Key → Loc} {mem mem' : Mem A} {w w' : World} (h : Next I Own ρ ρ' mem mem' w w') : ∀ k m, okKey mem ρ k m → okKey mem' ρ' k m := by
  intro k m hk
  have e := h.agree k m hk
  cases k with
  | own k =>
    obtain ⟨⟨bl, hb⟩, hm⟩ := hk
    exact ⟨h.live k bl hb, by rw [← e]; exact hm⟩
  | inp t i =>
    show m ≤ (ρ' (.inp t i)).cap
    rw [← e]; exact hk
theorem Next.trans {I : Nat → Nat → List (LV A)} {Own : Dom} {ρ ρ' ρ'' : Key → Loc} {mem mem' mem'' : Mem A} {w w' w'' : World} (h : Next I Own ρ ρ' mem mem' w w') (k : Next I Own ρ' ρ'' mem' mem'' w' w'') : Next I Own ρ ρ'' mem mem'' w w'' where
  agree i m hi := (h.agree i m hi).trans (k.agree i m (h.mono i m hi))
  live i bl hb := by obtain ⟨b1, h1⟩ := h.live i bl hb; exact k.live i b1 h1
  mem := k.mem
  mine := k.mine
  keeps := h.keeps.trans k.keeps
  occM := k.occM

section
variable {I : Nat → Nat → List (LV A)} {Own : Dom} {w0 : World} {ρ : Key → Loc} {s : LS A} {a : Act} {w : World}

theorem getT_put {l : List (LV A)} {dst : Option Nat} {v : LV A} {i : Nat} {u : LV A} (h : (putT l dst v)[i]? = some u) : (dst = some i ∧ i < l.length ∧ u = v) ∨ (dst ≠ some i ∧ l[i]? = some u) := by
  cases dst with
  | none => exact .inr ⟨by simp, h⟩
  | some t =>
    simp only [putT] at h
    rw [List.getElem?_set] at h
    split at h
    · rename_i e; subst e
      split at h
      · rename_i hl; cases h; exact .inl ⟨rfl, hl, rfl⟩
      · cases h
    · rename_i e; exact .inr ⟨by simpa using e, h⟩
theorem len_put (l : List (LV A)) (dst : Option Nat) (v : LV A) : (putT l dst v).length = l.length := by
  cases dst <;> simp [putT]

theorem Rl.next (h : Rl I Own w0 ρ s a w) {ρ' : Key → Loc} {mem' : Mem A} {w' : World} (hn : Next I Own ρ ρ' s.mem mem' w w') (dst : Option Nat) {v : LV A} (hv : v.kin (okKey mem' ρ')) (cs : List Cnd) :
    Rl I Own w0 ρ' { tmps := putT s.tmps dst v, mem := mem', conds := cs } (a.put dst (LV.tr ρ' v)) w' where
  size := by cases dst <;> simp [Act.put, putT, h.size]
  val i u hu := by
    rcases getT_put hu with ⟨rfl, hl, rfl⟩ | ⟨hne, hu⟩
    · right
      have : i < a.tmps.size := by rw [h.size]; exact hl
      simp [Act.put, this]
    · rcases h.val i u hu with e | e
      · exact .inl e
      · right
        rw [← tr_congr hn.agree u (h.occT i u hu)]
        cases dst with
        | none => exact e
        | some t =>
          have : t ≠ i := fun e => hne (by rw [e])
          simp [Act.put, Array.getElem?_setIfInBounds_ne this, e]
  defers := by cases dst <;> exact h.defers
  mem := hn.mem
  mine := hn.mine
  new := h.new
  keeps := h.keeps.trans hn.keeps
  occT i u hu := by
    rcases getT_put hu with ⟨_, _, rfl⟩ | ⟨_, hu⟩
    · exact hv
    · exact kin_mono hn.mono u (h.occT i u hu)
  occM := hn.occM

theorem Rl.self (h : Rl I Own w0 ρ s a w) : Next I Own ρ ρ s.mem s.mem w w := ⟨fun _ _ _ => rfl, fun _ bl h => ⟨bl, h⟩, h.mem, h.mine, Keeps.refl _ _, h.occM⟩
theorem Rl.under [LawAb A] (h : Rl I Own w0 ρ s a w) {w' : World} (hb : Below w.heap.size w w') : Next I Own ρ ρ s.mem s.mem w w' := ⟨fun _ _ _ => rfl, fun _ bl h => ⟨bl, h⟩, h.mem.below hb, h.mine, .of_below hb, h.occM⟩

/-! ## a new block -/
def upd (ρ : Key → Loc) (key : Nat) (l : Loc) : Key → Loc
  | .own k => if k = key then l else ρ (.own k)
  | .inp t i => ρ (.inp t i)
theorem upd_self (ρ : Key → Loc) (key : Nat) (l : Loc) : upd ρ key l (.own key) = l := if_pos rfl
theorem upd_ne (ρ : Key → Loc) {key k : Nat} (l : Loc) (h : k ≠ key) : upd ρ key l (.own k) = ρ (.own k) := if_neg h

theorem mem_set_get {mem : Mem A} {key k : Nat} {x y : Blk A} (h : (mem.set key (some x))[k]? = some (some y)) : (k = key ∧ y = x) ∨ (k ≠ key ∧ mem[k]? = some (some y)) := by
  rw [List.getElem?_set] at h
  split at h
  · rename_i e; subst e
    split at h
    · cases h; exact .inl ⟨rfl, rfl⟩
    · cases h
  · rename_i e; exact .inr ⟨fun e' => e e'.symm, h⟩
theorem at_set {mem : Mem A} {key : Nat} {k : Key} {x y : Blk A} (h : at? I (mem.set key (some x)) k = some y) : (k = .own key ∧ y = x) ∨ (k ≠ .own key ∧ at? I mem k = some y) := by
  cases k with
  | own k =>
    rcases mem_set_get (at_own' h) with ⟨rfl, rfl⟩ | ⟨h1, h2⟩
    · exact .inl ⟨rfl, rfl⟩
    · exact .inr ⟨by simpa using h1, at_own h2⟩
  | inp t i => exact .inr ⟨by simp, h⟩
theorem set_live {mem : Mem A} {key k : Nat} {x bl : Blk A} (h : mem[k]? = some (some bl)) : ∃ bl', (mem.set key (some x))[k]? = some (some bl') := by
  by_cases e : key = k
  · subst e
    have hlt : key < mem.length := by
      rcases Nat.lt_or_ge key mem.length with h' | h'
      · exact h'
      · rw [List.getElem?_eq_none h'] at h; cases h
    exact ⟨x, List.getElem?_set_self hlt⟩
  · exact ⟨bl, by rw [List.getElem?_set_ne e]; exact h⟩

/-- What a new block must be. -/
structure Fresh (I : Nat → Nat → List (LV A)) (Own : Dom) (ρ : Key → Loc) (mem : Mem A) (w' : World) (l : Loc) (bl : Blk A) : Prop where
  kin : kinL (okKey mem ρ) bl.us
  cell : ∀ i v, (cellsL ρ bl.us)[i]? = some v → w'.cell? (l.at i) = some v
  free : isWr bl.kd = true → ∀ i, i < cszL bl.us → w'.frozen? (l.at i) = false
  inb : l.none = false → l.blk < w'.heap.size
  own : isWr bl.kd = true → l.none = false → Own l.blk
  src : l.none = false → Own.src l.blk
  far : isWr bl.kd = true → l.none = false → ∀ k bl', at? I mem k = some bl' → isDead bl'.kd = false → (ρ k).none = false → (ρ k).blk ≠ l.blk
  near : l.none = false → ∀ (k : Nat) bl', mem[k]? = some (some bl') → isWr bl'.kd = true → (ρ (.own k)).none = false → (ρ (.own k)).blk ≠ l.blk
  row : ∀ e, bl.kd = .row e → ∃ n z f, bl.us = [.rows n z f] ∧ l.at0 = none ∧ w'.ownsRow 0 e z (vecV l n) n (cellsL ρ bl.us)
  nilc : l.none = true → l.cap = 0
  empt : l.none = true → cszL bl.us = 0
  dead : isDead bl.kd = false

theorem Next.fresh [LawAb A] {mem : Mem A} {w w' : World} {row : Option Nat} {key : Nat} {l : Loc} {bl : Blk A} (hm : MemRel I ρ mem w) (hmine : Mine I Own ρ mem)
    (hocc : ∀ (k : Key) (bl : Blk A), at? I mem k = some bl → kinL (okKey mem ρ) bl.us) (hk : mem[key]? = some none) (hg : w.grownBy w' row)
    (hrow : ∀ k bl, at? I mem k = some bl → isDead bl.kd = false → (ρ k).none = false → some (ρ k).blk ≠ row) (hown : ∀ b, row = some b → Own b) (hf : Fresh I Own ρ mem w' l bl) :
    Next I Own ρ (upd ρ key l) mem (mem.set key (some bl)) w w' ∧ okKey (mem.set key (some bl)) (upd ρ key l) (.own key) l.cap := by
  have hlt : key < mem.length := by
    rcases Nat.lt_or_ge key mem.length with h' | h'
    · exact h'
    · rw [List.getElem?_eq_none h'] at hk; cases hk
  have hρ : ∀ k m, okKey mem ρ k m → ρ k = upd ρ key l k := by
    intro k m hkk
    cases k with
    | own k =>
      obtain ⟨⟨b, hb⟩, _⟩ := hkk
      have : k ≠ key := by rintro rfl; rw [hk] at hb; cases hb
      exact (upd_ne ρ l this).symm
    | inp t i => rfl
  have hne : ∀ (k : Nat) bl', mem[k]? = some (some bl') → k ≠ key := by rintro k bl' hb rfl; rw [hk] at hb; cases hb
  have hρa : ∀ k bl', at? I mem k = some bl' → upd ρ key l k = ρ k := by
    intro k bl' hb
    cases k with
    | own k => exact upd_ne ρ l (hne k bl' (at_own' hb))
    | inp t i => rfl
  have hm' := hm.kept hg hrow
  have hcc : ∀ us : List (LV A), kinL (okKey mem ρ) us → cellsL (upd ρ key l) us = cellsL ρ us := fun us hu => (cellsL_congr hρ us hu).symm
  have mono : ∀ k m, okKey mem ρ k m → okKey (mem.set key (some bl)) (upd ρ key l) k m := by
    intro k m hkk
    have e := hρ k m hkk
    cases k with
    | own k =>
      obtain ⟨⟨b, hb⟩, h2⟩ := hkk
      exact ⟨set_live hb, by rw [← e]; exact h2⟩
    | inp t i => exact hkk
  refine ⟨⟨hρ, fun k b hb => set_live hb, ?_, ?_, ?_, ?_⟩, ⟨⟨bl, List.getElem?_set_self hlt⟩, by rw [upd_self]; exact Nat.le_refl _⟩⟩
  · constructor
    · intro k b hb i v hv
      rcases at_set hb with ⟨rfl, rfl⟩ | ⟨h1, h2⟩
      · rw [hcc _ hf.kin] at hv
        rw [upd_self]; exact hf.cell i v hv
      · rw [hcc _ (hocc k b h2)] at hv
        rw [hρa k b h2]; exact hm'.cell k b h2 i v hv
    · intro k b hb hw i hi
      rcases mem_set_get hb with ⟨rfl, rfl⟩ | ⟨h1, h2⟩
      · rw [upd_self]; exact hf.free hw i hi
      · rw [upd_ne ρ l h1]; exact hm'.free k b h2 hw i hi
    · intro k k' b b' hne' hb hb' hw hd n1 n2
      rcases mem_set_get hb with ⟨rfl, rfl⟩ | ⟨h1, h2⟩
      · rcases at_set hb' with ⟨rfl, _⟩ | ⟨h3, h4⟩
        · exact absurd rfl hne'
        · rw [upd_self] at n1 ⊢
          rw [hρa k' b' h4] at n2 ⊢
          exact fun e => hf.far hw n1 k' b' h4 hd n2 e.symm
      · rcases at_set hb' with ⟨rfl, rfl⟩ | ⟨h3, h4⟩
        · rw [upd_self] at n2 ⊢
          rw [upd_ne ρ l h1] at n1 ⊢
          exact hf.near n2 k b h2 hw n1
        · rw [upd_ne ρ l h1] at n1 ⊢
          rw [hρa k' b' h4] at n2 ⊢
          exact hm'.apart k k' b b' hne' h2 h4 hw hd n1 n2
    · intro k b hb hd n1
      rcases at_set hb with ⟨rfl, rfl⟩ | ⟨h1, h2⟩
      · rw [upd_self] at n1 ⊢; exact hf.inb n1
      · rw [hρa k b h2] at n1 ⊢; exact hm'.inb k b h2 hd n1
    · intro k b e hb he
      rcases mem_set_get hb with ⟨rfl, rfl⟩ | ⟨h1, h2⟩
      · rw [upd_self, hcc _ hf.kin]; exact hf.row e he
      · rw [upd_ne ρ l h1, hcc _ (hocc _ b (at_own h2))]; exact hm'.row k b e h2 he
    · intro k n1
      cases k with
      | own k =>
        by_cases e : k = key
        · subst e; rw [upd_self] at n1 ⊢; exact hf.nilc n1
        · rw [upd_ne ρ l e] at n1 ⊢; exact hm'.nilc _ n1
      | inp t i => exact hm'.nilc _ n1
    · intro k b hb n1
      rcases at_set hb with ⟨rfl, rfl⟩ | ⟨h1, h2⟩
      · rw [upd_self] at n1; exact hf.empt n1
      · rw [hρa k b h2] at n1; exact hm'.empt k b h2 n1
    · intro k b hb hd
      rcases mem_set_get hb with ⟨rfl, rfl⟩ | ⟨h1, h2⟩
      · rw [hf.dead] at hd; cases hd
      · exact hm'.dead k b h2 hd
  · constructor
    · intro k b hb hw n1
      rcases mem_set_get hb with ⟨rfl, rfl⟩ | ⟨h1, h2⟩
      · rw [upd_self] at n1 ⊢; exact hf.own hw n1
      · rw [upd_ne ρ l h1] at n1 ⊢; exact hmine.own k b h2 hw n1
    · intro k b hb hd n1
      rcases at_set hb with ⟨rfl, rfl⟩ | ⟨h1, h2⟩
      · rw [upd_self] at n1 ⊢; exact hf.src n1
      · rw [hρa k b h2] at n1 ⊢; exact hmine.src k b h2 hd n1
  · exact ⟨hg.os, hg.tape, hg.output, hg.size, fun k hk' hn => hg.block k hk' (fun e => hn (hown k e.symm))⟩
  · intro k b hb
    rcases at_set hb with ⟨rfl, rfl⟩ | ⟨h1, h2⟩
    · exact kinL_mono mono _ hf.kin
    · exact kinL_mono mono _ (hocc k b h2)

/-! ## a block that is given up, or only read from now on -/
theorem Next.weak [LawAb A] {mem : Mem A} {w : World} {b : Nat} {bl bl' : Blk A} (hm : MemRel I ρ mem w) (hmine : Mine I Own ρ mem)
    (hocc : ∀ (k : Key) (bl : Blk A), at? I mem k = some bl → kinL (okKey mem ρ) bl.us) (hb : mem[b]? = some (some bl)) (hbl : (bl' = ⟨.ro, bl.us⟩ ∧ isDead bl.kd = false) ∨ bl' = ⟨.dead, []⟩) :
    Next I Own ρ ρ mem (mem.set b (some bl')) w w := by
  have hwr : isWr bl'.kd = false := by rcases hbl with ⟨rfl, _⟩ | rfl <;> rfl
  have hrow : ∀ e, bl'.kd ≠ .row e := by rcases hbl with ⟨rfl, _⟩ | rfl <;> simp
  have hcell : ∀ (i : Nat) (v : Value), (cellsL ρ bl'.us)[i]? = some v → (cellsL ρ bl.us)[i]? = some v := by
    rcases hbl with ⟨rfl, _⟩ | rfl
    · exact fun i v h => h
    · intro i v h; simp [cellsL] at h
  have hkin : ∀ p, kinL p bl.us → kinL p bl'.us := by
    rcases hbl with ⟨rfl, _⟩ | rfl
    · exact fun p h => h
    · intro p h; trivial
  have hdd : isDead bl'.kd = false → isDead bl.kd = false := by
    rcases hbl with ⟨rfl, h⟩ | rfl
    · exact fun _ => h
    · intro h; cases h
  have mono : ∀ k m, okKey mem ρ k m → okKey (mem.set b (some bl')) ρ k m := by
    intro k m hkk
    cases k with
    | own k => obtain ⟨⟨b', hb'⟩, h2⟩ := hkk; exact ⟨set_live hb', h2⟩
    | inp t i => exact hkk
  refine ⟨fun _ _ _ => rfl, fun k b' hb' => set_live hb', ?_, ?_, Keeps.refl _ _, ?_⟩
  · constructor
    · intro k y hy i v hv
      rcases at_set hy with ⟨rfl, rfl⟩ | ⟨h1, h2⟩
      · exact hm.cell _ bl (at_own hb) i v (hcell i v hv)
      · exact hm.cell k y h2 i v hv
    · intro k y hy hw i hi
      rcases mem_set_get hy with ⟨rfl, rfl⟩ | ⟨h1, h2⟩
      · rw [hwr] at hw; cases hw
      · exact hm.free k y h2 hw i hi
    · intro k k' y y' hne hy hy' hw hd n1 n2
      rcases mem_set_get hy with ⟨rfl, rfl⟩ | ⟨h1, h2⟩
      · rw [hwr] at hw; cases hw
      · rcases at_set hy' with ⟨rfl, rfl⟩ | ⟨h3, h4⟩
        · exact hm.apart k _ y bl hne h2 (at_own hb) hw (hdd hd) n1 n2
        · exact hm.apart k k' y y' hne h2 h4 hw hd n1 n2
    · intro k y hy hd n1
      rcases at_set hy with ⟨rfl, rfl⟩ | ⟨h1, h2⟩
      · exact hm.inb _ bl (at_own hb) (hdd hd) n1
      · exact hm.inb k y h2 hd n1
    · intro k y e hy he
      rcases mem_set_get hy with ⟨rfl, rfl⟩ | ⟨h1, h2⟩
      · exact absurd he (hrow e)
      · exact hm.row k y e h2 he
    · exact hm.nilc
    · intro k y hy n1
      rcases at_set hy with ⟨rfl, rfl⟩ | ⟨h1, h2⟩
      · have := hm.empt _ bl (at_own hb) n1
        rcases hbl with ⟨rfl, _⟩ | rfl
        · exact this
        · rfl
      · exact hm.empt k y h2 n1
    · intro k y hy hd
      rcases mem_set_get hy with ⟨rfl, rfl⟩ | ⟨h1, h2⟩
      · rcases hbl with ⟨rfl, _⟩ | rfl
        · cases hd
        · rfl
      · exact hm.dead k y h2 hd
  · constructor
    · intro k y hy hw n1
      rcases mem_set_get hy with ⟨rfl, rfl⟩ | ⟨h1, h2⟩
      · rw [hwr] at hw; cases hw
      · exact hmine.own k y h2 hw n1
    · intro k y hy hd n1
      rcases at_set hy with ⟨rfl, rfl⟩ | ⟨h1, h2⟩
      · exact hmine.src _ bl (at_own hb) (hdd hd) n1
      · exact hmine.src k y h2 hd n1
  · intro k y hy
    rcases at_set hy with ⟨rfl, rfl⟩ | ⟨h1, h2⟩
    · exact kinL_mono mono _ (hkin _ (hocc _ bl (at_own hb)))
    · exact kinL_mono mono _ (hocc k y h2)
end
end
end Go.Proofs.YtonmjdnkcngfjaaGreat.En

/- DERIVED. A block that is written. -/
set_option linter.all false
namespace Go.Proofs.YtonmjdnkcngfjaaGreat.En
open Go Go.RowKit

/-- So many cells of a block have been written, and nothing else. -/
structure Put (l : Loc) (lo : Nat) (vs : List Value) (w w' : World) : Prop where
  inside : ∀ (j : Nat) (v : Value), vs[j]? = some v → w'.cell? (l.at (lo + j)) = some v
  outside : ∀ b : Addr, (∀ j, j < vs.length → b ≠ l.at (lo + j)) → w'.cell? b = w.cell? b
  frozen : ∀ b : Addr, w'.frozen? b = w.frozen? b
  size : w'.heap.size = w.heap.size
  os : w'.os = w.os
  tape : w'.tape = w.tape
  output : w'.output = w.output
  block : ∀ k, k ≠ l.blk → w'.heap[k]? = w.heap[k]?
  form : ∀ cur e fr, w.heap[l.blk]? = some (.cells cur e fr) → ∃ cur', w'.heap[l.blk]? = some (.cells cur' e fr) ∧ cur'.size = cur.size
  none : vs = [] → w' = w

section
variable {P : Program}

theorem run_storeCells_put (l : Loc) (lo : Nat) : ∀ (vs : List Value) (i : Nat) (w : World), (∀ j, j < vs.length → (w.cell? (l.at (lo + (i + j)))).isSome = true ∧ w.frozen? (l.at (lo + (i + j))) = false) → (∀ v ∈ vs, v.oneCell' = true) →
    ∃ w', (storeCells (l.at lo) vs i).run P w = .ok () w' ∧ Put l (lo + i) vs w w'
  | [], i, w, _, _ => ⟨w, rfl, ⟨fun j v h => by simp at h, fun _ _ => rfl, fun _ => rfl, rfl, rfl, rfl, rfl, fun _ _ => rfl, fun cur e fr h => ⟨cur, h, rfl⟩, fun _ => rfl⟩⟩
  | v :: vs, i, w, h, hv => by
    obtain ⟨h0, h0'⟩ := h 0 (by simp)
    obtain ⟨u, hu⟩ := Option.isSome_iff_exists.1 h0
    simp only [Nat.add_zero] at hu h0'
    have hs : (store (l.at (lo + i)) v).run P w = .ok () (w.setCell (l.at (lo + i)) v) := by
      rw [run_store P w _ v _ (hv v (by simp)), hu]
      simp [h0']
    have hrest : ∀ j, j < vs.length → ((w.setCell (l.at (lo + i)) v).cell? (l.at (lo + (i + 1 + j)))).isSome = true ∧ (w.setCell (l.at (lo + i)) v).frozen? (l.at (lo + (i + 1 + j))) = false := by
      intro j hj
      have := h (j + 1) (by simpa using hj)
      rw [show i + 1 + j = i + (j + 1) by omega]
      rw [World.cell?_setCell_other _ _ _ _ (by simp [Loc.at] <;> omega), World.frozen?_setCell]
      exact this
    obtain ⟨w', hr, hw⟩ := run_storeCells_put l lo vs (i + 1) _ hrest (fun x hx => hv x (by simp [hx]))
    refine ⟨w', ?_, ?_⟩
    · simp only [storeCells, Sem.run_bind, loc_add, hs, Result.andThen_ok]
      exact hr
    · constructor
      · intro j x hj
        cases j with
        | zero =>
          simp only [List.getElem?_cons_zero, Option.some.injEq] at hj
          subst hj
          rw [Nat.add_zero, hw.outside _ (by intro j hj; simp [Loc.at] <;> omega)]
          exact World.cell?_setCell_same _ _ _ hu
        | succ j =>
          simp only [List.getElem?_cons_succ] at hj
          have := hw.inside j x hj
          rwa [show lo + (i + 1) + j = lo + i + (j + 1) by omega] at this
      · intro b hb
        rw [hw.outside b (fun j hj => by have := hb (j + 1) (by simpa using hj); rwa [show lo + i + (j + 1) = lo + (i + 1) + j by omega] at this)]
        have := hb 0 (by simp)
        exact World.cell?_setCell_other _ _ _ _ (fun e => this (by rw [← e, Nat.add_zero]))
      · intro b; rw [hw.frozen, World.frozen?_setCell]
      · rw [hw.size]; exact World.size_setCell _ _ _
      · exact hw.os
      · exact hw.tape
      · exact hw.output
      · intro k hk; rw [hw.block k hk]; exact Below.heap_setCell _ _ _ _ hk
      · intro cur e fr hh
        obtain ⟨cur', h1, h2⟩ := hw.form (cur.setIfInBounds (l.off + (lo + i)) v) e fr (by
          have : w.setCell (l.at (lo + i)) v = w.setRow l.blk (cur.setIfInBounds (l.off + (lo + i)) v) := setCell_eq_setRow w l.blk _ cur e fr v hh
          rw [this]
          exact setRow_heap w l.blk cur _ e fr hh)
        exact ⟨cur', h1, by simpa using h2⟩
      · intro h; cases h

section
variable {A : Type} [Ab A]
variable {I : Nat → Nat → List (LV A)} {Own : Dom} {ρ : Key → Loc}

theorem rowOk_spec {k : Kd} {old new : List (LV A)} (h : rowOk k old new = true) {e : TypeId} (hk : k = .row e) {n z : Nat} {f : Nat → List (LV A)} (ho : old = [.rows n z f]) : ∃ g, new = [.rows n z g] := by
  subst hk; subst ho
  simp only [rowOk] at h
  split at h
  · rename_i n1 z1 f1 n' z' g' heq
    simp only [List.cons.injEq, LV.rows.injEq, and_true] at heq
    obtain ⟨rfl, rfl, _⟩ := heq
    have h1 := beqN (both h).1
    have h2 := beqN (both h).2
    subst h1; subst h2
    exact ⟨g', rfl⟩
  · cases h

/-- A block written over. -/
theorem Next.put [LawAb A] {mem : Mem A} {w w' : World} {b lo : Nat} {bl : Blk A} {us' : List (LV A)} {vs : List Value} (hm : MemRel I ρ mem w) (hmine : Mine I Own ρ mem)
    (hocc : ∀ (k : Key) (bl : Blk A), at? I mem k = some bl → kinL (okKey mem ρ) bl.us) (hb : mem[b]? = some (some bl)) (hwr : isWr bl.kd = true) (hw : Put (ρ (.own b)) lo vs w w') (hc : Wrote (cellsL ρ bl.us) lo vs (cellsL ρ us')) (hok : rowOk bl.kd bl.us us' = true) (hus : kinL (okKey mem ρ) us') :
    Next I Own ρ ρ mem (mem.set b (some ⟨bl.kd, us'⟩)) w w' := by
  have hlen : (cellsL ρ bl.us).length = cszL bl.us := len_cellsL ρ bl.us
  have hlen' : (cellsL ρ us').length = cszL us' := len_cellsL ρ us'
  have hsz : cszL us' = cszL bl.us := by rw [← hlen, ← hlen', hc.len]
  have hdd : isDead bl.kd = false := by cases hk : bl.kd <;> rw [hk] at hwr <;> first | rfl | cases hwr
  -- where nothing is written the world stands
  have hnone : (ρ (.own b)).none = true → w' = w := by
    intro hn
    apply hw.none
    have := hm.empt _ bl (at_own hb) hn
    have := hc.fit
    exact List.eq_nil_of_length_eq_zero (by omega)
  have hrow1 : ∃ row, w.grownBy w' row ∧ (∀ k, row = some k → (ρ (.own b)).none = false ∧ k = (ρ (.own b)).blk) := by
    cases hn : (ρ (.own b)).none with
    | true => exact ⟨none, by rw [hnone hn]; exact ⟨rfl, rfl, rfl, Nat.le_refl _, fun _ _ _ => rfl⟩, fun k h => by cases h⟩
    | false => exact ⟨some (ρ (.own b)).blk, ⟨hw.os, hw.tape, hw.output, by rw [hw.size]; exact Nat.le_refl _, fun k _ hk => hw.block k (fun e => hk (by rw [e]))⟩, fun k h => ⟨rfl, by cases h; rfl⟩⟩
  obtain ⟨row, hg, hrow⟩ := hrow1
  have hx := Next.weak (bl' := ⟨.dead, []⟩) hm hmine hocc hb (.inr rfl)
  have ne1 : ∀ k y, at? I (mem.set b (some (⟨.dead, []⟩ : Blk A))) k = some y → isDead y.kd = false → k ≠ .own b ∧ at? I mem k = some y := by
    intro k y hy hd
    rcases at_set hy with ⟨_, rfl⟩ | h
    · cases hd
    · exact h
  have h2 : MemRel I ρ (mem.set b (some ⟨.dead, []⟩)) w' := hx.mem.kept hg (by
    intro k y hy hd n1 e
    obtain ⟨h1, h2⟩ := ne1 k y hy hd
    obtain ⟨n2, e2⟩ := hrow _ e.symm
    exact hm.apart b k bl y (Ne.symm h1) hb h2 hwr hd n2 n1 e2.symm)
  have old : ∀ k y, k ≠ Key.own b → at? I mem k = some y → at? I (mem.set b (some (⟨.dead, []⟩ : Blk A))) k = some y := by
    intro k y hne hy
    cases k with
    | own k =>
      have : b ≠ k := fun e => hne (by rw [e])
      have hy := at_own' hy
      exact at_own (by rw [List.getElem?_set_ne this]; exact hy)
    | inp t i => exact hy
  have mono : ∀ k m, okKey mem ρ k m → okKey (mem.set b (some ⟨bl.kd, us'⟩)) ρ k m := by
    intro k m hkk
    cases k with
    | own k => obtain ⟨⟨b', hb'⟩, h2⟩ := hkk; exact ⟨set_live hb', h2⟩
    | inp t i => exact hkk
  have ownne : ∀ {k : Nat}, k ≠ b → Key.own k ≠ Key.own b := fun h e => h (by cases e; rfl)
  -- the block's own cells
  have hcell : ∀ i v, (cellsL ρ us')[i]? = some v → w'.cell? ((ρ (.own b)).at i) = some v := by
    intro i v hv
    rw [hc.get i] at hv
    split at hv
    · rename_i hi
      have := hw.inside _ v hv
      rwa [show lo + (i - lo) = i by omega] at this
    · rename_i hi
      rw [hw.outside _ (by intro j hj e; simp only [Loc.at, Addr.mk.injEq, and_true, true_and] at e; omega)]
      exact hm.cell _ bl (at_own hb) i v hv
  refine ⟨fun _ _ _ => rfl, fun k b' hb' => set_live hb', ?_, ?_, ⟨hg.os, hg.tape, hg.output, hg.size, fun k hk hn => hg.block k hk (fun e => by obtain ⟨h1, h2⟩ := hrow k e.symm; exact hn (h2 ▸ hmine.own b bl hb hwr h1))⟩, ?_⟩
  · constructor
    · intro k y hy i v hv
      rcases at_set hy with ⟨rfl, rfl⟩ | ⟨h3, h4⟩
      · exact hcell i v hv
      · exact h2.cell k y (old k y h3 h4) i v hv
    · intro k y hy hwy i hi
      rcases mem_set_get hy with ⟨rfl, rfl⟩ | ⟨h3, h4⟩
      · rw [hw.frozen]
        exact hm.free k bl hb hwr i (by simp only at hi; omega)
      · exact h2.free k y (at_own' (old (.own k) y (ownne h3) (at_own h4))) hwy i hi
    · intro k k' y y' hne hy hy' hwy hd n1 n2
      rcases mem_set_get hy with ⟨rfl, rfl⟩ | ⟨h3, h4⟩
      · rcases at_set hy' with ⟨rfl, _⟩ | ⟨h5, h6⟩
        · exact absurd rfl hne
        · exact hm.apart k k' bl y' hne hb h6 hwr hd n1 n2
      · rcases at_set hy' with ⟨rfl, rfl⟩ | ⟨h5, h6⟩
        · exact hm.apart k _ y bl hne h4 (at_own hb) hwy hdd n1 n2
        · exact hm.apart k k' y y' hne h4 h6 hwy hd n1 n2
    · intro k y hy hd n1
      rcases at_set hy with ⟨rfl, rfl⟩ | ⟨h3, h4⟩
      · exact Nat.lt_of_lt_of_le (hm.inb _ bl (at_own hb) hdd n1) hg.size
      · exact h2.inb k y (old k y h3 h4) hd n1
    · intro k y e hy he
      rcases mem_set_get hy with ⟨rfl, rfl⟩ | ⟨h3, h4⟩
      · simp only at he
        obtain ⟨n, z, f, e1, e0, e2⟩ := hm.row k bl e hb he
        obtain ⟨g, e3⟩ := rowOk_spec hok he e1
        refine ⟨n, z, g, e3, e0, ?_⟩
        refine ⟨by show (cellsL ρ us').length = _; rw [hc.len]; exact e2.1, ?_⟩
        rcases e2.2 with hnil | ⟨blk, cap, cur, e4, _, e5, e6, e7, e8, e9⟩
        · exact .inl hnil
        · right
          have hv : (ρ (.own k)).none = false ∨ n ≠ 0 := by
            unfold vecV at e4
            cases hnn : (ρ (.own k)).none with
            | false => exact .inl rfl
            | true =>
              right
              rintro rfl
              rw [hnn] at e4
              simp [Nat.beq_refl, e0] at e4
          have hloc : (ρ (.own k)).blk = blk ∧ (ρ (.own k)).off = 0 ∧ (ρ (.own k)).cap = cap := by
            unfold vecV at e4
            split at e4
            · rw [e0] at e4; cases e4
            · simp only [Loc.at, Value.slice.injEq, Option.some.injEq, Addr.mk.injEq] at e4
              exact ⟨e4.1.1, by omega, e4.2.2⟩
          obtain ⟨hl1, hl2, hl3⟩ := hloc
          obtain ⟨cur', e10, e11⟩ := hw.form cur e (0, 0) (by rw [hl1]; exact e5)
          refine ⟨blk, cap, cur', e4, Nat.zero_le _, by rw [← hl1]; exact e10, e6, e7, by rw [e11]; exact e8, ?_⟩
          apply List.ext_getElem?
          intro j
          have hnz : n * z ≤ cur'.size := by rw [e11, e8]; exact Nat.mul_le_mul_right z e6
          have hx : (cellsL ρ us').length = n * z := by rw [hc.len]; exact e2.1
          show _ = (cellsL ρ us')[j]?
          by_cases hj : j < n * z
          · rw [List.getElem?_take_of_lt hj]
            have := hcell j _ (List.getElem?_eq_getElem (by omega))
            rw [List.getElem?_eq_getElem (l := cellsL ρ us') (by omega), ← this]
            simp only [World.cell?, Loc.at, hl2, Nat.zero_add]
            rw [e10]
            simp
          · rw [List.getElem?_eq_none (by simp; omega), List.getElem?_eq_none (by omega)]
      · exact h2.row k y e (at_own' (old (.own k) y (ownne h3) (at_own h4))) he
    · exact hm.nilc
    · intro k y hy n1
      rcases at_set hy with ⟨rfl, rfl⟩ | ⟨h3, h4⟩
      · show cszL us' = 0
        rw [hsz]; exact hm.empt _ bl (at_own hb) n1
      · exact hm.empt k y h4 n1
    · intro k y hy hd
      rcases mem_set_get hy with ⟨rfl, rfl⟩ | ⟨h3, h4⟩
      · simp only at hd; rw [hdd] at hd; cases hd
      · exact hm.dead k y h4 hd
  · constructor
    · intro k y hy hwy n1
      rcases mem_set_get hy with ⟨rfl, rfl⟩ | ⟨h3, h4⟩
      · exact hmine.own k bl hb hwr n1
      · exact hmine.own k y h4 hwy n1
    · intro k y hy hd n1
      rcases at_set hy with ⟨rfl, rfl⟩ | ⟨h3, h4⟩
      · exact hmine.src _ bl (at_own hb) hdd n1
      · exact hmine.src k y h4 hd n1
  · intro k y hy
    rcases at_set hy with ⟨rfl, rfl⟩ | ⟨h3, h4⟩
    · exact kinL_mono mono _ hus
    · exact kinL_mono mono _ (hocc k y h4)
end
end
end Go.Proofs.YtonmjdnkcngfjaaGreat.En

/- DERIVED. The operations that read memory, and those that lay a new block. -/
set_option linter.all false
namespace Go.Proofs.YtonmjdnkcngfjaaGreat.En
open Go Go.RowKit

section
variable {A : Type} [Ab A] {P : Program}
variable {I : Nat → Nat → List (LV A)} {Own : Dom} {w0 : World} {ρ : Key → Loc} {s : LS A} {a : Act} {w : World}

/-! ## reading -/
theorem run_load_sound [LawAb A] {rc : Bool} {t : TypeId} {k : Key} {o : Nat} {p : List Stp} {mem : Mem A} {bl : Blk A} {v : LV A} {c : Cnd} (hm : MemRel I ρ mem w) (hb : at? I mem k = some bl) (hp : partV P rc t bl.us o p = some (v, c)) (hc : condOk c) :
    (Instr.loadAt t (LV.tr ρ (.ptr k o p : LV A))).run P w = .ok (LV.tr ρ v) w ∧ ∀ q, kinL q bl.us → v.kin q := by
  unfold partV at hp
  split at hp
  rotate_left
  · cases hp
  rename_i n ag hz hu
  split at hp
  rotate_left
  · cases hp
  rename_i r c' hr
  split at hp
  rotate_left
  · cases hp
  rename_i v' hv
  simp only [Option.some.injEq, Prod.mk.injEq] at hp
  obtain ⟨rfl, rfl⟩ := hp
  refine ⟨?_, fun q hk => kin_ofUnits hv (kin_rdP _ _ _ _ _ _ hr hk)⟩
  obtain ⟨h1, h2⟩ := rdP_sound ρ _ _ _ _ _ _ hr hc
  have hlen := len_cellsL ρ bl.us
  have hd : ∀ off, off = adr o p → (Instr.loadAt t (LV.tr ρ (.ptr k o p : LV A))) = Instr.loadAt t (.pointer (some ((ρ k).at off))) := by rintro off rfl; rfl
  rw [hd _ rfl]
  generalize adr o p = off at h1 h2 ⊢
  simp only [Instr.loadAt, Instr.sureAddr, loadVar, Sem.run_bind, Sem.run_pure, Result.andThen_ok, run_isAgg w hu]
  have hcells : ∀ (j : Nat) (u : Value), (cellsL ρ r)[j]? = some u → w.cell? ((ρ k).at (off + j)) = some u := by
    intro j u hj
    rw [h1] at hj
    by_cases hjn : j < n
    · rw [List.getElem?_take_of_lt hjn, List.getElem?_drop] at hj
      exact hm.cell k bl hb _ _ hj
    · rw [List.getElem?_eq_none (by simp; omega)] at hj; cases hj
  have hrl : (cellsL ρ r).length = n := by rw [h1]; simp; omega
  cases ag with
  | true =>
    simp only [ofUnits, Option.some.injEq] at hv
    subst hv
    have := run_loadCells_list (P := P) w ((ρ k).at off) (cellsL ρ r) (fun j u hj => by rw [loc_add]; exact hcells j u hj)
    rw [hrl] at this
    simp only [if_true, run_sizeOf w hz, Result.andThen_ok, Sem.run_bind, this, Sem.run_pure, LV.tr]
  | false =>
    simp only [ofUnits] at hv
    split at hv
    · rename_i u
      have key : LV.cells ρ v' = [LV.tr ρ v'] ∧ v' = u := by
        split at hv <;> first | (cases hv; done) | (cases hv; refine ⟨?_, rfl⟩; cases v' <;> first | rfl | simp_all)
      obtain ⟨key, rfl⟩ := key
      have : w.cell? ((ρ k).at off) = some (LV.tr ρ v') := by
        have := hcells 0 (LV.tr ρ v') (by simp [cellsL, key])
        simpa using this
      simp [this]
    · cases hv

theorem take_get {l : Mem A} {n b : Nat} {x : Option (Blk A)} (h : (l.take n)[b]? = some x) : l[b]? = some x := by
  by_cases hb : b < n
  · rwa [List.getElem?_take_of_lt hb] at h
  · rw [List.getElem?_eq_none (by simp; omega)] at h; cases h
theorem at_take {mem : Mem A} {n : Nat} {k : Key} {bl : Blk A} (h : at? I (mem.take n) k = some bl) : at? I mem k = some bl := by
  cases k with
  | own k => exact at_own (take_get (at_own' h))
  | inp t i => exact h

theorem MemRel.take {mem : Mem A} (h : MemRel I ρ mem w) (n : Nat) : MemRel I ρ (mem.take n) w where
  cell k bl hk := h.cell k bl (at_take hk)
  free k bl hk := h.free k bl (take_get hk)
  apart k k' bl bl' hne hk hk' := h.apart k k' bl bl' hne (take_get hk) (at_take hk')
  inb k bl hk := h.inb k bl (at_take hk)
  row k bl e hk := h.row k bl e (take_get hk)
  nilc := h.nilc
  empt k bl hk := h.empt k bl (at_take hk)
  dead k bl hk := h.dead k bl (take_get hk)

theorem row_split' {n z x : Nat} (h : x < n * z) : ∃ i j, x = i * z + j ∧ j < z ∧ i < n := by
  obtain ⟨i, j, h1, h2, h3⟩ := row_split (o := 0) (n := n) (z := z) (x := x) (by omega) (by omega)
  exact ⟨i, j, by omega, h2, h3⟩

/-- A slice's cells. -/
theorem rowsV_sound [LawAb A] {S : Sig A} (hI : S.inp = I) {rc : Bool} {mem : Mem A} {z : Nat} {x : LV A} {m : Nat} {g : Nat → List (LV A)} {c : Cnd} (hm : MemRel I ρ mem w) (h : rowsV S rc mem z x = some (m, g, c)) (hc : condOk c) :
    ∃ (src : Option Addr) (cap : Nat), LV.tr ρ x = .slice src m cap ∧ (src = none → m = 0 ∧ cap = 0) ∧ (∀ ad, src = some ad → ∀ j u, (rowCells ρ m z g)[j]? = some u → w.cell? (ad.add j) = some u) ∧
      ∀ p, (∀ (k : Key) (bl : Blk A), at? I mem k = some bl → kinL p bl.us) → ∀ i, kinL p (g i) := by
  have blk : ∀ {b : Key} {o : Nat} {q : List Stp} {len : Nat} {bl : Blk A} {g : Nat → List (LV A)} {c : Cnd}, at? I mem b = some bl → rowsP rc bl.us o q z len = some (g, c) → condOk c →
      ∀ j u, (rowCells ρ len z g)[j]? = some u → w.cell? (((ρ b).at (adr o q)).add j) = some u := by
    intro b o q len bl g c hb hr hc j u hj
    have hlt : j < len * z := by
      rcases Nat.lt_or_ge j (len * z) with h' | h'
      · exact h'
      · rw [List.getElem?_eq_none (by rw [len_rowCells]; exact h')] at hj; cases hj
    obtain ⟨i, r, rfl, hr', hi⟩ := row_split' hlt
    rw [get_rowCells ρ g hi hr', (rowsP_sound ρ q bl.us o g c hr hc i r hi hr').1] at hj
    rw [loc_add, ← Nat.add_assoc]
    exact hm.cell b bl hb _ u hj
  unfold rowsV at h
  split at h
  · simp only [Option.some.injEq, Prod.mk.injEq] at h
    obtain ⟨rfl, rfl, _⟩ := h
    exact ⟨none, 0, rfl, fun _ => ⟨rfl, rfl⟩, fun ad e => (by cases e), fun p _ i => trivial⟩
  · rename_i b o q len cap
    split at h
    · rename_i bl hb
      rw [getB_at, hI] at hb
      split at h
      · rename_i g' c' hr
        simp only [Option.some.injEq, Prod.mk.injEq] at h
        obtain ⟨rfl, rfl, rfl⟩ := h
        exact ⟨_, _, rfl, fun e => (by cases e), fun ad e => (by cases e; exact blk hb hr hc), fun p hp i => kin_rowsP _ _ _ _ _ hr (hp b bl hb) i⟩
      · cases h
    · cases h
  · rename_i b len
    split at h
    · rename_i bl hb
      rw [getB_at, hI] at hb
      split at h
      · rename_i g' c' hr
        simp only [Option.some.injEq, Prod.mk.injEq] at h
        obtain ⟨rfl, rfl, rfl⟩ := h
        have kin : ∀ p, (∀ (k : Key) (bl : Blk A), at? I mem k = some bl → kinL p bl.us) → ∀ i, kinL p (g' i) := fun p hp i => kin_rowsP _ _ _ _ _ hr (hp b bl hb) i
        show ∃ src cap, vecV (ρ b) len = _ ∧ _
        unfold vecV
        split
        · rename_i hn
          have hl := beqN (both hn).2
          exact ⟨_, 0, by rw [hl], fun _ => ⟨hl, rfl⟩, fun ad e j u hu => (by rw [hl] at hu; simp [rowCells] at hu), kin⟩
        · exact ⟨_, _, rfl, fun e => (by cases e), fun ad e => (by cases e; exact blk hb hr hc), kin⟩
      · cases h
    · cases h
  · cases h

theorem allB8_spec {g : Nat → List (LV A)} : ∀ {n : Nat}, allB8 g n = true → ∀ j, j < n → g j = [.int .u8 (byteOf (g j))]
  | 0, _, j, hj => absurd hj (Nat.not_lt_zero j)
  | n + 1, h, j, hj => by
    obtain ⟨h1, h2⟩ := both h
    rcases Nat.lt_or_ge j n with hl | hl
    · exact allB8_spec h2 j hl
    · have e : j = n := by omega
      subst e
      revert h1
      generalize g j = l
      intro h1
      unfold isB8 at h1
      split at h1
      · rfl
      · cases h1
theorem allB8_of {g : Nat → List (LV A)} {f : Nat → Int} : ∀ {n : Nat}, (∀ j, j < n → g j = [.int .u8 (f j)]) → allB8 g n = true
  | 0, _ => rfl
  | n + 1, h => by
    simp only [allB8, h n (Nat.lt_succ_self n), isB8, Bool.true_and]
    exact allB8_of fun j hj => h j (by omega)

theorem look_sound [LawAb A] {S : Sig A} (hI : S.inp = I) (hS : SigOk P S) {o : Oper} {rc : Bool} {d : Option Bool} {base : Nat} {v : LV A} {c : Cnd} (h : lookR P S rc d (ev s.tmps) (s.mem.take base) o.op = some (v, c)) (hc : condOk c)
    (hr : Rl I Own w0 ρ s a w) : Does P o a w (LV.tr ρ v) ∧ v.kin (okKey s.mem ρ) := by
  obtain ⟨dst, op, ty, pos, after, guard⟩ := o
  cases op <;> simp only [lookR] at h <;> try (cases h; done)
  case load t x =>
    split at h
    · rename_i b o p hx
      have hx := (ev_sound hr hx).1
      split at h
      · rename_i bl hb
        rw [getB_at, hI] at hb
        have hb := at_take hb
        obtain ⟨c2, h, hc⟩ := tstC_sound h hc
        have hl := run_load_sound (P := P) hr.mem hb h hc
        exact ⟨does_value (by simp only [execOp, hx]; simp [hl.1]), hl.2 _ (hr.occM b bl hb)⟩
      · cases h
    · cases h
  case convert src dst x =>
    split at h
    rotate_left
    · cases h
    rename_i v e hx hs hd
    have hx := (ev_sound hr hx).1
    split at h
    rotate_left
    · cases h
    rename_i m g c' he hg
    split at h
    rotate_left
    · cases h
    rename_i c2 hch
    simp only [Option.some.injEq, Prod.mk.injEq] at h
    obtain ⟨rfl, rfl⟩ := h
    obtain ⟨hc1, hc2⟩ := andC_ok hc
    have hc2 : ∀ j, j < m → g j = [.int .u8 (byteOf (g j))] := allB8_spec (chkC_ok hch hc2)
    obtain ⟨src', cap, h1, h2, h3, _⟩ := rowsV_sound (w := w) hI (hr.mem.take base) hg hc1
    refine ⟨does_value ?_, trivial⟩
    simp only [execOp, hx, h1]
    cases src' with
    | none =>
      obtain ⟨rfl, rfl⟩ := h2 rfl
      simp [run_convert_bytes_nil w src e hs he 0 0 dst hd, LV.tr, strOf, ByteArray.empty, ByteArray.emptyWithCapacity]
      try rfl
    | some ad =>
      obtain ⟨ab, ao, ai⟩ := ad
      have hcell : ∀ i, i < m → w.cell? ((⟨ab, ao, ai⟩ : Addr).add i) = some (.int .u8 (((List.range m).map fun j => byteOf (g j)).getD i 0)) := by
        intro i hi
        refine h3 _ rfl i _ ?_
        have := get_rowCells ρ g (z := 1) hi (show 0 < 1 by omega)
        rw [Nat.mul_one, Nat.add_zero] at this
        rw [this]
        have hgi : cellsL ρ (g i) = [.int .u8 (byteOf (g i))] := by
          have := hc2 i hi
          generalize byteOf (g i) = b at this
          rw [this]; rfl
        rw [hgi]
        simp [fitTo, List.getD_eq_getElem?_getD, hi]
      have hrun := run_loadCells_list (P := P) w ⟨ab, ao, ai⟩ (((List.range m).map fun j => byteOf (g j)).map (Value.int .u8)) (fun j v hj => by
        have hjm : j < m := by
          rcases Nat.lt_or_ge j m with hh | hh
          · exact hh
          · rw [List.getElem?_eq_none (by simpa using hh)] at hj; cases hj
        rw [hcell j hjm]
        simp [hjm] at hj
        subst hj
        simp [List.getD_eq_getElem?_getD, hjm])
      have hl : (loadCells ⟨ab, ao, ai⟩ m).run P w = .ok (((List.range m).map fun j => byteOf (g j)).map (Value.int .u8)).toArray w := by simpa using hrun
      rw [show LV.tr ρ (LV.str (strOf m g) : LV A) = .string (strOf m g) from rfl]
      simp [run_convert_bytes_string w src dst e _ m cap hs he hd, run_bytesToString w ⟨ab, ao, ai⟩ m cap _ hl, foldl_push_bytes, strOf, ByteArray.empty, ByteArray.emptyWithCapacity]
      try rfl
  case call cl =>
    obtain ⟨callee, args, ats⟩ := cl
    simp only at h
    split at h
    · rename_i vs hvs
      split at h
      · split at h
        · rename_i f
          have hv := tst_sound h hc
          have hm := mapE_arr hr hvs
          refine ⟨does_call (f := f) (args := (trs ρ vs).toArray) ?_ (hS.rsC f vs _ v hv ρ w (hI ▸ hr.mem.take base) (kinL_mono okKey_cap _ (mapE_sound hr hvs).2) fun k bl hk => kinL_mono okKey_cap _ (hr.occM k bl (hI ▸ at_take hk))), hS.rsK f vs _ v hv _⟩
          simp [execOp, resolve, Act.eval, Deferred.ofValue, invoke, hm, hS.rsE f vs _ v hv]
        · cases h
      · cases h
    · cases h

/-! ## slices -/
theorem okKey_le {mem : Mem A} {k : Key} {m n : Nat} (h : okKey mem ρ k n) (hm : m ≤ n) : okKey mem ρ k m := by
  cases k with
  | own k => exact ⟨h.1, Nat.le_trans hm h.2⟩
  | inp t i => exact Nat.le_trans hm h

/-- The bounds of a slicing of which the capacity is known in part. -/
theorem bnds_cap (hr : Rl I Own w0 ρ s a w) {len cap : Nat} (hcap : len ≤ cap) {low high max : Option Operand} {l h m : Nat} {ok : Bool} (hb : bnds (ev s.tmps) len len low high max = some (l, h, m, ok)) (hok : ok = true) :
    ∃ m', (Instr.sliceBounds true len cap (low.map a.eval) (high.map a.eval) (max.map a.eval)).run P w = .ok (l, h, m') w ∧ l ≤ h ∧ h ≤ len ∧ h ≤ m' ∧ m' ≤ cap ∧ (low = none → l = 0) := by
  obtain ⟨h1, h2, h3, h4, h5⟩ := bnds_sound (P := P) (w := w) hr true hb hok
  cases max with
  | some x =>
    refine ⟨m, ?_, h2, by omega, h3, by omega, h5⟩
    have e : ∀ n : Nat, m ≤ n → (Instr.sliceBound (a.eval x) n .slice3Acap).run P w = .ok m w := by
      intro n hn
      have hx : ∃ k i, ev s.tmps x = some (.int k i) ∧ i.toNat = m ∧ 0 ≤ i := by
        subst hok
        simp only [bnds] at hb
        split at hb
        · rename_i l' h' m' e0 e1 e2 e3
          simp only [Option.some.injEq, Prod.mk.injEq] at hb
          obtain ⟨rfl, rfl, rfl, hd⟩ := hb
          have hd := of_decide_eq_true hd
          split at e3
          · rename_i k i hx; cases e3; exact ⟨k, _, hx, rfl, by omega⟩
          · cases e3
        · cases hb
      obtain ⟨k, i, hx, e1, e2⟩ := hx
      have hx := (ev_sound hr hx).1
      simp [Instr.sliceBound, hx, LV.tr, asIntOf, e2, show i ≤ (n : Int) by omega, e1]
    simp only [Instr.sliceBounds, Option.map_some, if_true, Sem.run_bind, e len (by omega), Result.andThen_ok] at h1 ⊢
    rw [e cap (by omega)]
    simp only [Result.andThen_ok]
    exact h1
  | none =>
    have hm : m = len := by
      subst hok
      simp only [bnds] at hb
      split at hb
      · rename_i l' h' m' e0 e1 e2 e3
        simp only [Option.some.injEq, Prod.mk.injEq] at hb
        simp only [Option.some.injEq] at e3
        omega
      · cases hb
    subst hm
    refine ⟨cap, ?_, h2, h3, by omega, Nat.le_refl _, h5⟩
    cases high with
    | none =>
      simp only [Instr.sliceBounds, Option.map_none, Sem.run_bind, Sem.run_pure, Result.andThen_ok] at h1 ⊢
      cases low with
      | none => simp only [Option.map_none, Sem.run_pure, Result.andThen_ok, Sem.run_bind, Result.ok.injEq, Prod.mk.injEq, and_true] at h1 ⊢; omega
      | some y =>
        simp only [Option.map_some, Sem.run_bind] at h1 ⊢
        cases hq : (Instr.sliceBound (a.eval y) m (if (Option.map a.eval (none : Option Operand)).isSome = true then .slice3C else .sliceB)).run P w <;> simp only [Option.map_none] at hq <;> rw [hq] at h1 ⊢ <;> simp_all
    | some x =>
      have e : ∀ n : Nat, h ≤ n → (Instr.sliceBound (a.eval x) n .sliceAcap).run P w = .ok h w := by
        intro n hn
        have hx : ∃ k i, ev s.tmps x = some (.int k i) ∧ i.toNat = h ∧ 0 ≤ i := by
          subst hok
          simp only [bnds] at hb
          split at hb
          · rename_i l' h' m' e0 e1 e2 e3
            simp only [Option.some.injEq, Prod.mk.injEq] at hb
            obtain ⟨rfl, rfl, _, hd⟩ := hb
            have hd := of_decide_eq_true hd
            split at e2
            · rename_i k i hx; cases e2; exact ⟨k, _, hx, rfl, by omega⟩
            · cases e2
          · cases hb
        obtain ⟨k, i, hx, e1, e2⟩ := hx
        have hx := (ev_sound hr hx).1
        simp [Instr.sliceBound, hx, LV.tr, asIntOf, e2, show i ≤ (n : Int) by omega, e1]
      simp only [Instr.sliceBounds, Option.map_none, Option.map_some, if_true, Sem.run_bind, Sem.run_pure, Result.andThen_ok, e m (by omega)] at h1 ⊢
      rw [e cap (by omega)]
      simp only [Result.andThen_ok]
      cases low with
      | none => simp only [Option.map_none, Sem.run_pure, Result.andThen_ok, Sem.run_bind, Result.ok.injEq, Prod.mk.injEq, and_true] at h1 ⊢; omega
      | some y =>
        simp only [Option.map_some, Sem.run_bind] at h1 ⊢
        cases hq : (Instr.sliceBound (a.eval y) h (if (Option.map a.eval (none : Option Operand)).isSome = true then .slice3C else .sliceB)).run P w <;> simp only [Option.map_none] at hq <;> rw [hq] at h1 ⊢ <;> simp_all
end
end Go.Proofs.YtonmjdnkcngfjaaGreat.En

/- DERIVED. The operations that lay a new block. -/
set_option linter.all false
namespace Go.Proofs.YtonmjdnkcngfjaaGreat.En
open Go Go.RowKit

theorem wrote_ext {C N D D' : List Value} {a : Nat} (h : Wrote C a N D) (h' : Wrote C a N D') : D = D' := by
  apply List.ext_getElem?
  intro j
  rw [h.get j, h'.get j]

section
variable {A : Type} [Ab A] {P : Program}
variable {I : Nat → Nat → List (LV A)} {Own : Dom} {w0 : World} {ρ : Key → Loc} {s : LS A} {a : Act} {w : World}

/-- Zeroes, row by row. -/
theorem made_rows [LawAb A] {us : List (LV A)} {z : Nat} (hz : cszL us = z) (h0 : 0 < z) (n : Nat) : (madeCells (cellsL ρ us).toArray (n * z)).toList = rowCells ρ n z fun _ => us := by
  have hl : (cellsL ρ us).length = z := by rw [len_cellsL]; exact hz
  apply List.ext_getElem?
  intro j
  by_cases hj : j < n * z
  · obtain ⟨i, r, rfl, hr, hi⟩ := row_split' hj
    rw [get_rowCells ρ _ hi hr, fitTo_eq hl]
    have hmod : (i * z + r) % z = r := by rw [Nat.mul_comm, Nat.mul_add_mod]; exact Nat.mod_eq_of_lt hr
    simp [madeCells, hj, hl, hmod, hr]
  · rw [List.getElem?_eq_none (by simp [madeCells]; omega), List.getElem?_eq_none (by rw [len_rowCells]; omega)]

/-- One row laid over. -/
theorem row_over [LawAb A] {u : List (LV A)} {n z i : Nat} {f : Nat → List (LV A)} (hi : i < n) (hu : cszL u = z) :
    (rowCells ρ n z f).take (i * z) ++ cellsL ρ u ++ (rowCells ρ n z f).drop (i * z + z) = rowCells ρ n z fun j => if j = i then u else f j := by
  have hl : (cellsL ρ u).length = z := by rw [len_cellsL]; exact hu
  have hle := row_lt (z := z) hi
  have e := wrote_over (C := rowCells ρ n z f) (N := cellsL ρ u) (a := i * z) (by rw [len_rowCells, hl]; exact hle)
  rw [hl] at e
  refine wrote_ext e ⟨by rw [len_rowCells, len_rowCells], by rw [len_rowCells, hl]; exact hle, fun j => ?_⟩
  rw [hl]
  by_cases hj : j < n * z
  · obtain ⟨k, r, rfl, hr, hk⟩ := row_split' hj
    rw [get_rowCells ρ _ hk hr, get_rowCells ρ _ hk hr]
    by_cases hki : k = i
    · subst hki
      rw [if_pos rfl, if_pos ⟨by omega, by omega⟩, fitTo_eq hl]
      congr 1
      omega
    · rw [if_neg hki, if_neg]
      rintro ⟨h1, h2⟩
      rcases Nat.lt_or_gt_of_ne hki with h' | h'
      · have := row_lt (z := z) h'; omega
      · have := row_lt (z := z) h'; omega
  · rw [List.getElem?_eq_none (by rw [len_rowCells]; omega), if_neg (by omega), List.getElem?_eq_none (by rw [len_rowCells]; omega)]

theorem laid_sound [LawAb A] {E : Operand → Option (LV A)} {z : Nat} {ev' : Operand → Value} {p : Key → Nat → Prop} (hE : ∀ x u, E x = some u → ev' x = LV.tr ρ u ∧ u.kin p) : ∀ (parts : List (Nat × Operand)) (l l' : List (List (LV A))), newR.laid E z l parts = some l' → (∀ us ∈ l, kinL p us) →
      Instr.fill (fun i => some (i * z, z)) (rowCells ρ l.length z fun j => l.getD j []).toArray (parts.map fun x => (x.1, ev' x.2)) = some (rowCells ρ l.length z fun j => l'.getD j []).toArray ∧ (∀ us ∈ l', kinL p us) ∧ l'.length = l.length
  | [], l, l', h, hk => by
    simp only [newR.laid, Option.some.injEq] at h
    subst h
    exact ⟨rfl, hk, rfl⟩
  | (i, x) :: ps, l, l', h, hk => by
    simp only [newR.laid] at h
    split at h
    rotate_left
    · cases h
    rename_i u hu
    split at h
    rotate_left
    · cases h
    rename_i hb
    obtain ⟨hb1, hi⟩ := both hb
    obtain ⟨hnt, hz⟩ := both hb1
    have hz := beqN hz
    have hi := bltN hi
    obtain ⟨e1, k1⟩ := hE x u hu
    have hc1 : (LV.cells ρ u).length = z := by rw [← cellsL_units, len_cellsL]; exact hz
    have hsz : (LV.tr ρ u).cells.size = z := by rw [cells_tr ρ hnt]; simpa using hc1
    obtain ⟨h1, h2, h3⟩ := laid_sound hE ps (l.set i (units u)) l' h (by
      intro us hus
      rcases List.mem_or_eq_of_mem_set hus with h' | rfl
      · exact hk us h'
      · exact kin_units k1)
    rw [List.length_set] at h1 h3
    refine ⟨?_, h2, h3⟩
    simp only [List.map_cons, e1]
    rw [fill_one _ _ i (LV.tr ρ u) _ (i * z) (by rw [hsz]) (by rw [hsz]; have := row_lt (z := z) hi; simpa [len_rowCells] using this)]
    rw [← h1, hsz]
    congr 2
    rw [cells_tr ρ hnt, ← cellsL_units, row_over hi hz]
    congr 1
    funext j
    by_cases hj : j = i
    · subst hj; simp [List.getD, hi]
    · rw [if_neg hj]
      simp [List.getD, List.getElem?_set_ne (fun e => hj e.symm)]

/-- A part of a whole slice, as a block of its own. -/
theorem view_fresh [LawAb A] {mem : Mem A} {b : Key} {bl : Blk A} {rc : Bool} {z len : Nat} {g : Nat → List (LV A)} {c : Cnd} (hm : MemRel I ρ mem w) (hmine : Mine I Own ρ mem) (hocc : ∀ (k : Key) (bl : Blk A), at? I mem k = some bl → kinL (okKey mem ρ) bl.us) (hb : at? I mem b = some bl) (hw : isWr bl.kd = false) (hd : isDead bl.kd = false)
    (hr : rowsP rc bl.us 0 [] z len = some (g, c)) (hc : condOk c) (hlen : len ≤ (ρ b).cap) {l h m' : Nat} (h1 : l ≤ h) (h2 : h ≤ len) (h3 : h ≤ m') (h4 : m' ≤ (ρ b).cap) :
    ∃ loc src, vecV (ρ b) len = .slice src len (ρ b).cap ∧ vecV loc (h - l) = .slice (if m' = l then src else src.map (·.add (l * z))) (h - l) (m' - l) ∧ h - l ≤ loc.cap ∧ Fresh I Own ρ mem w loc ⟨.ro, [.rows (h - l) z fun j => g (l + j)]⟩ := by
  have hnc := hm.nilc b
  refine ⟨⟨(ρ b).blk, if m' = l then (ρ b).off else (ρ b).off + l * z, m' - l, (ρ b).none, (ρ b).at0⟩, match (ρ b).none with | true => (ρ b).at0 | false => some ((ρ b).at 0), ?_, ?_, by simp only; omega, ?_⟩
  · unfold vecV
    cases hn : (ρ b).none with
    | true =>
      have := hnc hn
      have e0 : len = 0 := by omega
      subst e0
      simp [Nat.beq_refl, this]
    | false => rfl
  · unfold vecV
    cases hn : (ρ b).none with
    | true =>
      have := hnc hn
      have e1 : m' = 0 := by omega
      have e2 : h = 0 := by omega
      have e3 : l = 0 := by omega
      subst e1; subst e2; subst e3
      simp [Nat.beq_refl]
    | false =>
      simp only [Bool.false_and]
      split
      · simp [Loc.at]
      · simp only [Option.map_some, loc_add, Nat.zero_add]
        simp only [Loc.at, Nat.add_zero]
  · have hcells : ∀ (i : Nat) (v : Value), (cellsL ρ [LV.rows (h - l) z fun j => g (l + j)])[i]? = some v → m' ≠ l ∧ (cellsL ρ bl.us)[l * z + i]? = some v := by
      intro i v hv
      have hv : (rowCells ρ (h - l) z fun j => g (l + j))[i]? = some v := by simpa [cellsL, LV.cells, rowCells] using hv
      have hlt : i < (h - l) * z := by
        rcases Nat.lt_or_ge i ((h - l) * z) with h' | h'
        · exact h'
        · rw [List.getElem?_eq_none (by rw [len_rowCells]; exact h')] at hv; cases hv
      obtain ⟨q, r, rfl, hrz, hq⟩ := row_split' hlt
      rw [get_rowCells ρ _ hq hrz, (rowsP_sound ρ [] bl.us 0 g c hr hc (l + q) r (by omega) hrz).1] at hv
      refine ⟨by omega, ?_⟩
      rw [← hv]
      simp only [adr, Nat.add_mul]
      congr 1
      omega
    constructor
    · exact ⟨fun i => kin_rowsP _ _ _ _ _ hr (hocc b bl hb) _, trivial⟩
    · intro i v hv
      obtain ⟨h5, h6⟩ := hcells i v hv
      have := hm.cell b bl hb _ v h6
      simp only [Loc.at, if_neg h5] at this ⊢
      rwa [Nat.add_assoc]
    · intro h; cases h
    · intro hn; exact hm.inb b bl hb hd hn
    · intro h; cases h
    · intro hn; exact hmine.src b bl hb hd hn
    · intro h; cases h
    · intro hn k bl' hk hwk hnk
      refine hm.apart k b bl' bl ?_ hk hb hwk hd hnk hn
      rintro rfl
      have := at_own' hb
      rw [hk] at this; cases this
      rw [hw] at hwk; cases hwk
    · intro e h; cases h
    · intro hn
      have := hnc hn
      show m' - l = 0
      omega
    · intro hn
      have := hnc hn
      simp only [cszL, csz]
      have : h - l = 0 := by omega
      simp [this]
    · rfl
end
end Go.Proofs.YtonmjdnkcngfjaaGreat.En
