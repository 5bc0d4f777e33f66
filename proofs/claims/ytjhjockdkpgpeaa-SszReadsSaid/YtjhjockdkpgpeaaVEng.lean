/- DERIVED. A small executor over the model's code, the second, with slices and calls that write: definitions. -/
import Derived.WalkKit
import Derived.Orders
set_option linter.all false
namespace Go.Proofs.Ytjhjockdkpgpeaa.En
open Go

/-- Chunks of cells that the executor does not look into. -/
class Ab (A : Type) where
  cells : A → List Value
  size : A → Nat
  beq : A → A → Option Bool

/-- The name of a block: one of the state's own list, or one of the families that came in. -/
inductive Key where
  | own (k : Nat)
  | inp (t i : Nat)

/-- A step of an address: element number i of z cells each, and an offset behind it. -/
structure Stp where
  i : Nat
  z : Nat
  o : Nat

inductive LV (A : Type) where
  | any
  | undef
  | int (k : IntKind) (n : Int)
  | bool (b : Bool)
  | str (s : ByteArray)
  | ptr (b : Key) (o : Nat) (p : List Stp)
  | nilp
  /-- A slice of known capacity, never nil. -/
  | slice (b : Key) (o : Nat) (p : List Stp) (len cap : Nat)
  /-- A whole block as a slice; its capacity is the block's; nil if the block is none. -/
  | vec (b : Key) (len : Nat)
  | nils
  | nilfn
  | niliface
  | abs (x : A)
  /-- So many rows of so many cells. -/
  | rows (n z : Nat) (f : Nat → List (LV A))
  | agg (us : List (LV A))
  | tup (vs : List (LV A))
  | iface (t : TypeId) (v : LV A)
  | func (f : FuncId) (caps : List (LV A))

/-- Where a block lies: its number, the offset of its first cell; as a slice: its capacity; whether it has no cells, and, if so, what its empty slice points to (nil: nothing). -/
structure Loc where
  blk : Nat
  off : Nat
  cap : Nat
  none : Bool
  at0 : Option Addr

def Loc.at (l : Loc) (n : Nat) : Addr := ⟨l.blk, l.off + n, Option.none⟩
def adr (o : Nat) : List Stp → Nat
  | [] => o
  | s :: p => adr (o + s.i * s.z + s.o) p
def fitTo (z : Nat) (l : List Value) : List Value := (l ++ List.replicate z (Value.bool false)).take z
def vecV (l : Loc) (len : Nat) : Value := match l.none && Nat.beq len 0 with
  | true => .slice l.at0 0 0
  | false => .slice (some (l.at 0)) len l.cap

section
variable {A : Type} [Ab A] (ρ : Key → Loc)
mutual
def LV.tr : LV A → Value
  | .any => Go.undef
  | .undef => Go.undef
  | .int k n => .int k n
  | .bool b => .bool b
  | .str s => .string s
  | .ptr b o p => .pointer (some ((ρ b).at (adr o p)))
  | .nilp => .pointer none
  | .slice b o p len cap => .slice (some ((ρ b).at (adr o p))) len cap
  | .vec b len => vecV (ρ b) len
  | .nils => .slice none 0 0
  | .nilfn => .nilFunc
  | .niliface => .nilIface
  | .abs x => .agg (Ab.cells x).toArray
  | .rows n z f => .agg ((List.range n).flatMap fun i => fitTo z (cellsL (f i))).toArray
  | .agg us => .agg (cellsL us).toArray
  | .tup vs => .tuple (trs vs).toArray
  | .iface t v => .iface t (LV.tr v)
  | .func f caps => .func (.func f) #[] (trs caps).toArray
def LV.cells : LV A → List Value
  | .any => [.bool false]
  | .undef => [.bool false]
  | .int k n => [.int k n]
  | .bool b => [.bool b]
  | .str s => [.string s]
  | .ptr b o p => [.pointer (some ((ρ b).at (adr o p)))]
  | .nilp => [.pointer none]
  | .slice b o p len cap => [.slice (some ((ρ b).at (adr o p))) len cap]
  | .vec b len => [vecV (ρ b) len]
  | .nils => [.slice none 0 0]
  | .nilfn => [.nilFunc]
  | .niliface => [.nilIface]
  | .abs x => Ab.cells x
  | .rows n z f => (List.range n).flatMap fun i => fitTo z (cellsL (f i))
  | .agg us => cellsL us
  | .tup _ => [.bool false]
  | .iface t v => [.iface t (LV.tr v)]
  | .func f caps => [.func (.func f) #[] (trs caps).toArray]
def trs : List (LV A) → List Value
  | [] => []
  | v :: l => LV.tr v :: trs l
def cellsL : List (LV A) → List Value
  | [] => []
  | v :: l => LV.cells v ++ cellsL l
end
end

section
variable {A : Type} [Ab A]

mutual
/-- How many cells a value has. -/
def csz : LV A → Nat
  | .abs x => Ab.size x
  | .rows n z _ => n * z
  | .agg us => cszL us
  | .any => 1
  | .undef => 1
  | .int _ _ => 1
  | .bool _ => 1
  | .str _ => 1
  | .ptr _ _ _ => 1
  | .nilp => 1
  | .slice _ _ _ _ _ => 1
  | .vec _ _ => 1
  | .nils => 1
  | .nilfn => 1
  | .niliface => 1
  | .tup _ => 1
  | .iface _ _ => 1
  | .func _ _ => 1
def cszL : List (LV A) → Nat
  | [] => 0
  | v :: l => csz v + cszL l
end

/-- What a block is: only read · written too · a row of a slice of so a type, which may be appended to · gone. -/
inductive Kd where
  | ro | rw | row (e : TypeId) | dead

structure Blk (A : Type) where
  kd : Kd
  us : List (LV A)

abbrev Mem (A : Type) := List (Option (Blk A))

structure LS (A : Type) where
  tmps : List (LV A)
  mem : Mem A
  conds : List (Option Prop)

/-! ## constants -/
def ofCell : Value → Option (LV A)
  | .int k n => some (.int k n)
  | .bool b => some (.bool b)
  | .string s => some (.str s)
  | .pointer none => some .nilp
  | .slice none 0 0 => some .nils
  | .nilFunc => some .nilfn
  | .nilIface => some .niliface
  | _ => none
def ofCells : List Value → Option (List (LV A))
  | [] => some []
  | v :: l => match ofCell v with
    | some u => match ofCells l with
      | some us => some (u :: us)
      | none => none
    | none => none
def ofConst : Value → Option (LV A)
  | .agg cs => match ofCells cs.toList with
    | some us => some (.agg us)
    | none => none
  | v => ofCell v

def getT (l : List (LV A)) (t : Nat) : Option (LV A) := match l[t]? with
  | some .any => none
  | some v => some v
  | none => none
def ev (l : List (LV A)) : Operand → Option (LV A)
  | .tmp t => getT l t
  | .const v => ofConst v
  | .global _ => none
  | .func f => some (.func f [])
def mapE (E : Operand → Option (LV A)) : List Operand → Option (List (LV A))
  | [] => some []
  | x :: xs => match E x with
    | some v => match mapE E xs with
      | some vs => some (v :: vs)
      | none => none
    | none => none

/-! ## units -/
def noTup : LV A → Bool
  | .tup _ => false
  | .any => false
  | .undef => false
  | _ => true
/-- A value as units of a block. -/
def units : LV A → List (LV A)
  | .agg us => us
  | v => [v]
/-- So many cells from an offset on, as units. -/
def rd : List (LV A) → Nat → Nat → Option (List (LV A))
  | [], off, sz => match Nat.beq off 0 && Nat.beq sz 0 with
    | true => some []
    | false => none
  | u :: us, off, sz => match Nat.beq off 0 && Nat.beq sz 0 with
    | true => some []
    | false => match Nat.beq off 0 with
      | true => match Nat.ble (csz u) sz with
        | true => match rd us 0 (sz - csz u) with
          | some r => some (u :: r)
          | none => none
        | false => none
      | false => match Nat.ble (csz u) off with
        | true => rd us (off - csz u) sz
        | false => none
/-- Units as a value of a type that is (or is not) a struct or an array. -/
def ofUnits (isAgg : Bool) (us : List (LV A)) : Option (LV A) := match isAgg with
  | true => some (.agg us)
  | false => match us with
    | [u] => match u with
      | .abs _ => none
      | .rows _ _ _ => none
      | .agg _ => none
      | .tup _ => none
      | .any => none
      | .undef => none
      | u => some u
    | _ => none
/-- What is behind so many cells. -/
def skipU : List (LV A) → Nat → Option (List (LV A))
  | [], n => match Nat.beq n 0 with
    | true => some []
    | false => none
  | u :: us, n => match Nat.beq n 0 with
    | true => some (u :: us)
    | false => match Nat.ble (csz u) n with
      | true => skipU us (n - csz u)
      | false => none
/-- Units written over the cells from an offset on. -/
def wrU : List (LV A) → Nat → List (LV A) → Option (List (LV A))
  | [], off, new => match Nat.beq off 0 && Nat.beq (cszL new) 0 with
    | true => some new
    | false => none
  | u :: us, off, new => match Nat.beq off 0 with
    | true => match skipU (u :: us) (cszL new) with
      | some r => some (new ++ r)
      | none => none
    | false => match Nat.ble (csz u) off with
      | true => match wrU us (off - csz u) new with
        | some r => some (u :: r)
        | none => none
      | false => none

/-! ## either of two -/
mutual
/-- The first where c, else the second; told as one value of their shape. -/
def mrg (c : Bool) : LV A → LV A → Option (LV A)
  | .int k a, v => match v with
    | .int k' b => if k = k' then some (.int k (cond c a b)) else none
    | _ => none
  | .bool a, v => match v with
    | .bool b => some (.bool (cond c a b))
    | _ => none
  | .str a, v => match v with
    | .str b => some (.str (cond c a b))
    | _ => none
  | .abs a, v => match v with
    | .abs b => some (.abs (cond c a b))
    | _ => none
  | .rows n z f, v => match v with
    | .rows n' z' g => match Nat.beq n n' && Nat.beq z z' with
      | true => some (.rows n z fun j => match mrgL c (f j) (g j) with
        | some r => r
        | none => cond c (f j) (g j))
      | false => none
    | _ => none
  | .nils, v => match v with
    | .nils => some .nils
    | _ => none
  | .nilp, v => match v with
    | .nilp => some .nilp
    | _ => none
  | _, _ => none
def mrgL (c : Bool) : List (LV A) → List (LV A) → Option (List (LV A))
  | [], l => match l with
    | [] => some []
    | _ => none
  | u :: us, l => match l with
    | v :: vs => match mrg c u v with
      | some r => match mrgL c us vs with
        | some rs => some (r :: rs)
        | none => none
      | none => none
    | [] => none
end
def mrgR (c : Bool) (us vs : List (LV A)) : List (LV A) := match mrgL c us vs with
  | some r => r
  | none => cond c us vs

/-! ## places behind elements of open number -/
/-- The rows that begin at an offset, and what stands ahead of and behind them. -/
def rowsAt : List (LV A) → Nat → Option (Nat × Nat × (Nat → List (LV A)))
  | [], _ => none
  | u :: us, off => match Nat.beq off 0 with
    | true => match u with
      | .rows n z f => some (n, z, f)
      | _ => none
    | false => match Nat.ble (csz u) off with
      | true => rowsAt us (off - csz u)
      | false => none
def setRows : List (LV A) → Nat → (Nat → List (LV A)) → List (LV A)
  | [], _, _ => []
  | u :: us, off, g => match Nat.beq off 0 with
    | true => match u with
      | .rows n z _ => .rows n z g :: us
      | u => u :: us
    | false => match Nat.ble (csz u) off with
      | true => u :: setRows us (off - csz u) g
      | false => u :: us

/-! ## conditions: told, or found true at once -/
abbrev Cnd := Option Prop
def andC : Cnd → Cnd → Cnd
  | none, c => c
  | some a, none => some a
  | some a, some b => some (a ∧ b)
def chkC (rc b : Bool) : Option Cnd := match rc with
  | true => some (some (b = true))
  | false => match b with
    | true => some none
    | false => none

/-- What stands at a place: units, under a condition. -/
def rdP (rc : Bool) (us : List (LV A)) (o : Nat) (p : List Stp) (sz : Nat) : Option (List (LV A) × Cnd) := match p with
  | [] => match rd us o sz with
    | some r => some (r, none)
    | none => none
  | s :: p => match rowsAt us o with
    | some (n, z, f) => match Nat.beq z s.z && Nat.ble (cszL (f s.i)) z, chkC rc (Nat.blt s.i n) with
      | true, some c1 => match rdP rc (f s.i) s.o p sz with
        | some (r, c) => some (r, andC c1 c)
        | none => none
      | _, _ => none
    | none => rdP rc us (o + s.i * s.z + s.o) p sz
/-- Units written at a place. -/
def wrP (rc : Bool) (us : List (LV A)) (o : Nat) (p : List Stp) (new : List (LV A)) : Option (List (LV A) × Cnd) := match p with
  | [] => match wrU us o new with
    | some r => some (r, none)
    | none => none
  | s :: p => match rowsAt us o with
    | some (n, z, f) => match Nat.beq z s.z && Nat.ble (cszL (f s.i)) z, chkC rc (Nat.blt s.i n) with
      | true, some c1 => match wrP rc (f s.i) s.o p new with
        | some (r, c) => some (setRows us o (fun j => mrgR (Nat.beq j s.i) r (f j)), andC c1 c)
        | none => none
      | _, _ => none
    | none => wrP rc us (o + s.i * s.z + s.o) p new

/-- So many rows from an offset on, one by one. -/
def cutRows (us : List (LV A)) (o z : Nat) : Nat → Option (List (List (LV A)))
  | 0 => some []
  | n + 1 => match rd us o z with
    | some r => match cutRows us (o + z) z n with
      | some rs => some (r :: rs)
      | none => none
    | none => none
/-- The rows of a slice: a function, under a condition. -/
def rowsP (rc : Bool) (us : List (LV A)) (o : Nat) (p : List Stp) (z len : Nat) : Option ((Nat → List (LV A)) × Cnd) := match p with
  | [] => match rowsAt us o with
    | some (n, z', f) => match Nat.beq z z', chkC rc (Nat.ble len n) with
      | true, some c => some (f, c)
      | _, _ => none
    | none => match cutRows us o z len with
      | some l => some (fun j => l.getD j [], none)
      | none => none
  | s :: q => match rowsAt us o with
    | some (n, z', f) => match Nat.beq z' s.z with
      | true => match Nat.beq z s.z && Nat.beq s.o 0 && q.isEmpty with
        | true => match chkC rc (Nat.ble (s.i + len) n) with
          | some c => some (fun j => f (s.i + j), c)
          | none => none
        | false => match Nat.ble (cszL (f s.i)) z', chkC rc (Nat.blt s.i n) with
          | true, some c1 => match rowsP rc (f s.i) s.o q z len with
            | some (g, c) => some (g, andC c1 c)
            | none => none
          | _, _ => none
      | false => none
    | none => rowsP rc us (o + s.i * s.z + s.o) q z len
/-- Rows written over those of a slice from its beginning on: n of them, of a slice that has len. -/
def putRows (rc : Bool) (us : List (LV A)) (o : Nat) (p : List Stp) (z len n : Nat) (g : Nat → List (LV A)) : Option (List (LV A) × Cnd) := match p with
  | [] => match rowsAt us o with
    | some (n', z', f) => match Nat.beq z z', chkC rc (Nat.ble n n') with
      | true, some c => some (setRows us o (fun j => mrgR (Nat.blt j n) (g j) (f j)), c)
      | _, _ => none
    | none => match cutRows us o z len, chkC rc (Nat.ble n len) with
      | some l, some c => match wrU us o [.rows len z fun j => mrgR (Nat.blt j n) (g j) (l.getD j [])] with
        | some r => some (r, c)
        | none => none
      | _, _ => none
  | s :: q => match rowsAt us o with
    | some (n', z', f) => match Nat.beq z' s.z with
      | true => match Nat.beq z s.z && Nat.beq s.o 0 && q.isEmpty with
        | true => match chkC rc (Nat.ble (s.i + n) n') with
          | some c => some (setRows us o (fun j => mrgR (Nat.ble s.i j && Nat.blt j (s.i + n)) (g (j - s.i)) (f j)), c)
          | none => none
        | false => match Nat.ble (cszL (f s.i)) z', chkC rc (Nat.blt s.i n') with
          | true, some c1 => match putRows rc (f s.i) s.o q z len n g with
            | some (r, c) => some (setRows us o (fun j => mrgR (Nat.beq j s.i) r (f j)), andC c1 c)
            | none => none
          | _, _ => none
      | false => none
    | none => putRows rc us (o + s.i * s.z + s.o) q z len n g

/-! ## addresses -/
def addF : Nat → List Stp → Nat → Nat × List Stp
  | o, [], d => (o + d, [])
  | o, p, d => (o, go p d)
where
  go : List Stp → Nat → List Stp
    | [], _ => []
    | [s], d => [⟨s.i, s.z, s.o + d⟩]
    | s :: p, d => s :: go p d
def addE : List Stp → Nat → Nat → List Stp
  | [], i, z => [⟨i, z, 0⟩]
  | [s], i, z => match Nat.beq s.z z && Nat.beq s.o 0 with
    | true => [⟨s.i + i, z, 0⟩]
    | false => [s, ⟨i, z, 0⟩]
  | s :: p, i, z => s :: addE p i z

/-! ## types -/
variable (P : Program)
def agT (t : TypeId) : Option Bool := match P.underlying t with
  | some (.struct _) => some true
  | some (.array _ _) => some true
  | some _ => some false
  | none => none
def sizeT (t : TypeId) : Option Nat := match P.info? t with
  | some i => some i.size
  | none => none
def bytesT (t : TypeId) : Option Nat := match P.info? t with
  | some i => some i.bytes
  | none => none
def zeroT (t : TypeId) : Option (LV A) := match P.info? t with
  | some i => match i.zero with
    | some v => ofConst v
    | none => none
  | none => none

/-- The part of so a type that stands at a place. -/
def partV (rc : Bool) (t : TypeId) (us : List (LV A)) (o : Nat) (p : List Stp) : Option (LV A × Cnd) := match sizeT P t, agT P t with
  | some n, some b => match rdP rc us o p n with
    | some (r, c) => match ofUnits b r with
      | some v => some (v, c)
      | none => none
    | none => none
  | _, _ => none

/-! ## what the operations come to -/
inductive Kn where
  | pure | look | new | wr
  deriving DecidableEq

inductive Out where
  | normal | exit (id : Nat) | ret
  deriving DecidableEq

/-- A region's forms: does a slicing take the block's freedom to be written? are its loads of what came in alone? -/
structure Fm where
  fz : Bool
  pl : Bool

structure Sig (A : Type) where
  /-- the callees' contracts: of values alone -/
  ps : FuncId → List (LV A) → Option (LV A)
  /-- callees that only read -/
  rs : FuncId → List (LV A) → Mem A → Option (LV A)
  /-- callees that write, or lay new blocks -/
  cs : FuncId → List (LV A) → Mem A → Option (LV A × Mem A × Cnd)
  /-- callees that are walked through in place -/
  il : FuncId → Bool
  /-- how a callee is taken -/
  how : FuncId → Kn
  /-- the methods of values in interfaces -/
  ms : TypeId → String → Option FuncId
  /-- how open tests turn out -/
  dec : FuncId → Nat → Nat → Option Bool
  /-- are checks of open values told as conditions? by function, region, operation -/
  rc : FuncId → Nat → Nat → Bool
  /-- does a slicing take the block's freedom to be written? -/
  fz : FuncId → Nat → Fm
  /-- how many new blocks an operation of a region may lay -/
  res : FuncId → Nat → Nat
  /-- the blocks that came in -/
  inp : Nat → Nat → List (LV A)
  /-- loops that are known: by the function, and the way from its body down to the loop -/
  lp : FuncId → List Nat → Option (LS A → Option (Out × List (LV A) × Mem A × Cnd))

def dcd (d : Option Bool) (b : Bool) : Bool × Cnd := match d with
  | none => (b, none)
  | some x => (x, some (b = x))

def ibin (op : BinOp) (k : IntKind) (a b : Int) : Option (LV A) := match op with
  | .add => some (.int k (k.wrap (a + b)))
  | .sub => some (.int k (k.wrap (a - b)))
  | .mul => some (.int k (k.wrap (a * b)))
  | .and => some (.int k (bits .and k a b))
  | .or => some (.int k (bits .or k a b))
  | .xor => some (.int k (bits .xor k a b))
  | .andNot => some (.int k (bits .andNot k a b))
  | .eql => some (.bool (a == b))
  | .neq => some (.bool (a != b))
  | .lss => some (.bool (decide (a < b)))
  | .leq => some (.bool (decide (a ≤ b)))
  | .gtr => some (.bool (decide (b < a)))
  | .geq => some (.bool (decide (b ≤ a)))
  | _ => none

abbrev PR (A : Type) := Option (LV A × Cnd)
def okc (v : Option (LV A)) : PR A := match v with
  | some v => some (v, none)
  | none => none
/-- A check that must turn out true. -/
def chk (rc b : Bool) (v : LV A) : PR A := match chkC rc b with
  | some c => some (v, c)
  | none => none
/-- A test's own result. -/
def tst (d : Option Bool) : Option (LV A) → PR A
  | some (.bool b) => match dcd d b with
    | (x, c) => some (.bool x, c)
  | some v => some (v, none)
  | none => none

/-- What was read, where it is a test's result. -/
def tstC (d : Option Bool) (r : PR A) : PR A := match d with
  | none => r
  | some x => match r with
    | some (.bool b, c) => some (.bool x, andC c (some (b = x)))
    | r => r
/-- Bytes held against each other. -/
def eqBs : List UInt8 → List UInt8 → Bool
  | [], [] => true
  | a :: l, b :: m => Nat.beq a.toNat b.toNat && eqBs l m
  | _, _ => false
def strEq (a b : ByteArray) : Bool := eqBs a.data.toList b.data.toList

/-- Units with their rows laid out one by one. -/
def flatR (fl : List (LV A) → Option (List (LV A))) (z : Nat) (f : Nat → List (LV A)) : Nat → Nat → Option (List (LV A))
  | 0, _ => some []
  | n + 1, i => match Nat.beq (cszL (f i)) z, fl (f i), flatR fl z f n (i + 1) with
    | true, some us, some vs => some (us ++ vs)
    | _, _, _ => none
def flatL (fl : List (LV A) → Option (List (LV A))) : List (LV A) → Option (List (LV A))
  | [] => some []
  | u :: us => match flatL fl us with
    | some vs => match u with
      | .rows n z f => match flatR fl z f n 0 with
        | some r => some (r ++ vs)
        | none => none
      | u => some (u :: vs)
    | none => none
def flatD : Nat → List (LV A) → Option (List (LV A))
  | 0, _ => none
  | d + 1, us => flatL (flatD d) us
/-- Flat values of whole numbers held against each other. -/
def eqU : List (LV A) → List (LV A) → Option Bool
  | [], [] => some true
  | .int k a :: l, .int k' b :: m => if k = k' then match eqU l m with
      | some r => some (a == b && r)
      | none => none
    else none
  | .abs x :: l, .abs y :: m => match Ab.beq x y, eqU l m with
    | some b, some r => some (b && r)
    | _, _ => none
  | _, _ => none
def fieldsL (rec : TypeId → Option (List Nat)) : List Field → Option (List Nat)
  | [] => some []
  | f :: fs => match f.name == "_", rec f.type, sizeT P f.type, fieldsL rec fs with
    | false, some ls, some z, some r => match ls.all (fun l => Nat.blt l z) with
      | true => some ((ls.map fun l => f.offset + l) ++ r)
      | false => none
    | _, _, _, _ => none
/-- The offsets of the whole numbers that a type is made of. -/
def leavesT : Nat → TypeId → Option (List Nat)
  | 0, _ => none
  | n + 1, t => match P.underlying t with
    | some (.int _) => some [0]
    | some (.array len e) => match leavesT n e, sizeT P e with
      | some ls, some z => match ls.all (fun l => Nat.blt l z) with
        | true => some ((List.range len).flatMap fun i => ls.map fun l => i * z + l)
        | false => none
      | _, _ => none
    | some (.struct fs) => match P.stoodInHeld t with
      | true => none
      | false => fieldsL P (leavesT n) fs.toList
    | _ => none

def nilV : LV A → Option Bool
  | .nilp => some true
  | .nils => some true
  | .nilfn => some true
  | .niliface => some true
  | .ptr _ _ _ => some false
  | .slice _ _ _ _ _ => some false
  | .func _ _ => some false
  | _ => none

def binR (rc : Bool) (d : Option Bool) (op : BinOp) (t : TypeId) (x y : LV A) : PR A :=
  match x, y with
  | .int k a, .int k' b => match op with
    | .shl => chk rc (decide (0 ≤ b)) (.int k (k.wrap (a * 2 ^ (min b.toNat k.bits))))
    | .shr => chk rc (decide (0 ≤ b)) (.int k (a.fdiv (2 ^ (min b.toNat k.bits))))
    | .quo => if k = k' then chk rc (b != 0) (.int k (k.wrap (a.tdiv b))) else none
    | .rem => if k = k' then chk rc (b != 0) (.int k (a.tmod b)) else none
    | op => if k = k' then tst d (ibin op k a b) else none
  | .agg us, .agg vs => match flatD 4 us, flatD 4 vs with
    | some us, some vs => match decide (leavesT P 20 t = some (List.range (cszL us))) && !P.eqGuardType P.depth t && decide (agT P t = some true) with
      | true => match eqU us vs with
        | some b => match op with
          | .eql => tst d (some (.bool b))
          | .neq => tst d (some (.bool (!b)))
          | _ => none
        | none => none
      | false => none
    | _, _ => none
  | .bool a, .bool b => match P.underlying t with
    | some .bool => match op with
      | .eql => tst d (some (.bool (a == b)))
      | .neq => tst d (some (.bool (!(a == b))))
      | _ => none
    | _ => none
  | .str a, .str b => match op with
    | .eql => tst d (some (.bool (strEq a b)))
    | .neq => tst d (some (.bool (!strEq a b)))
    | _ => none
  | .ptr _ _ _, .nilp => match P.underlying t with
    | some (.pointer _) => match op with
      | .eql => some (.bool false, none)
      | .neq => some (.bool true, none)
      | _ => none
    | _ => none
  | _, _ => none

/-- The builtins that neither read nor write memory. -/
def bltR (ts : Array TypeId) (b : Builtin) (vs : List (LV A)) : PR A := match b with
  | .len => match vs, ts[0]? with
    | [u], some t => match P.underlying t with
      | some (.slice _) => match u with
        | .slice _ _ _ n _ => okc (some (.int .i64 n))
        | .vec _ n => okc (some (.int .i64 n))
        | .nils => okc (some (.int .i64 0))
        | _ => none
      | some (.string) => match u with
        | .str s => okc (some (.int .i64 s.size))
        | _ => none
      | _ => none
    | _, _ => none
  | .min => match vs with
    | [.int k a, .int _ b] => okc (some (.int k (if b < a then b else a)))
    | _ => none
  | .max => match vs with
    | [.int k a, .int _ b] => okc (some (.int k (if a < b then b else a)))
    | _ => none
  | _ => none

/-- The bounds of a slicing: the low and the high one, the greatest, and the check. -/
def bnds (E : Operand → Option (LV A)) (len cap : Nat) (low high max : Option Operand) : Option (Nat × Nat × Nat × Bool) :=
  let num (o : Option Operand) (n : Nat) : Option Int := match o with
    | none => some n
    | some x => match E x with
      | some (.int _ i) => some i
      | _ => none
  match max.isSome && high.isNone, num low 0, num high len, num max cap with
  | false, some l, some h, some m => some (l.toNat, h.toNat, m.toNat, decide (0 ≤ l ∧ l ≤ h ∧ h ≤ m ∧ m ≤ cap))
  | _, _, _, _ => none

/-- An array, or what points to one. -/
def arrOf (t : TypeId) : Option (Nat × TypeId) := match P.underlying t with
  | some (.array n e) => some (n, e)
  | some (.pointer a) => match P.underlying a with
    | some (.array n e) => some (n, e)
    | _ => none
  | _ => none
/-- The operations that neither read nor write memory. -/
def pureR (S : Sig A) (rc : Bool) (d : Option Bool) (E : Operand → Option (LV A)) (o : Op) : PR A := match o with
  | .move x | .assign x => okc (E x)
  | .pick c x y => match E c with
    | some (.bool b) => match dcd d b, E x, E y with
      | (true, c), some v, _ => some (v, c)
      | (false, c), _, some v => some (v, c)
      | _, _, _ => none
    | _ => none
  | .binOp op t x y _ => match E x, E y with
    | some a, some b => binR P rc d op t a b
    | _, _ => none
  | .unOp op _ x => match op, E x with
    | .not, some (.bool b) => tst d (some (.bool (!b)))
    | .neg, some (.int k n) => okc (some (.int k (k.wrap (0 - n))))
    | _, _ => none
  | .convert src dst x => match E x, P.underlying src, P.underlying dst with
    | some (.int _ n), some _, some (.int k) => okc (some (.int k (k.wrap n)))
    | _, _, _ => none
  | .fieldAddr s x f => match E x, P.underlying s with
    | some (.ptr b o p), some (.struct fs) => match fs[f]? with
      | some fd => match sizeT P fd.type with
        | some (n + 1) => match n with | _ => okc (some (.ptr b (addF o p fd.offset).1 (addF o p fd.offset).2))
        | _ => none
      | none => none
    | _, _ => none
  | .field s x f => match E x, P.underlying s with
    | some (.agg us), some (.struct fs) => match fs[f]? with
      | some fd => tstC d (partV P rc fd.type us fd.offset [])
      | none => none
    | _, _ => none
  | .indexAddr t x i => match E x, E i, P.underlying t with
    | some (.ptr b o p), some (.int _ n), some (.array len e) => match sizeT P e with
      | some z => chk rc (decide (0 ≤ n ∧ n < (len : Int))) (.ptr b o (addE p n.toNat z))
      | none => none
    | some (.slice b o p len _), some (.int _ n), some (.slice e) => match sizeT P e with
      | some z => chk rc (decide (0 ≤ n ∧ n < (len : Int))) (.ptr b o (addE p n.toNat z))
      | none => none
    | some (.vec b len), some (.int _ n), some (.slice e) => match sizeT P e with
      | some z => chk rc (decide (0 ≤ n ∧ n < (len : Int))) (.ptr b 0 [⟨n.toNat, z, 0⟩])
      | none => none
    | _, _, _ => none
  | .index t x i => match E x, E i, P.underlying t with
    | some (.agg us), some (.int _ n), some (.array len e) => match sizeT P e with
      | some z => match chkC rc (decide (0 ≤ n ∧ n < (len : Int))), partV P rc e us 0 [⟨n.toNat, z, 0⟩] with
        | some c, some (v, c') => tstC d (some (v, andC c c'))
        | _, _ => none
      | none => none
    | _, _, _ => none
  | .slice t x low high max => match E x, arrOf P t with
    | some (.ptr b o p), some (n, e) => match sizeT P e, bnds E n n low high max with
      | some z, some (l, h, m, ok) => match chkC rc ok, low with
        | some c, none => some (.slice b o p (h - l) (m - l), c)
        | some c, some _ => match Nat.beq m l with
          | true => some (.slice b o p (h - l) (m - l), c)
          | false => some (.slice b o (addE p l z) (h - l) (m - l), c)
        | _, _ => none
      | _, _ => none
    | _, _ => none
  | .extract x i => match E x with
    | some (.tup vs) => tstC d (okc vs[i]?)
    | _ => none
  | .makeInterface t x => match P.underlying t with
    | some (.interface _) => none
    | none => none
    | some _ => match E x with
      | some v => okc (some (.iface t v))
      | none => none
  | .makeFunc f first caps => match f, first.toList with
    | .func g, [] => match mapE E caps.toList with
      | some vs => okc (some (.func g vs))
      | none => none
    | _, _ => none
  | .build t parts => match zeroT P t with
    | some z => match P.underlying t with
      | some (.struct fs) => match fs.toList.all fun f => (sizeT P f.type).isSome with
        | true => bld (fun i => match fs.toList[i]? with
            | some f => match sizeT P f.type with
              | some n => some (f.offset, n)
              | none => none
            | none => none) E (units z) parts.toList
        | false => none
      | some (.array _ e) => match sizeT P e with
        | some n => bld (fun i => some (i * n, n)) E (units z) parts.toList
        | none => none
      | _ => none
    | none => none
  | .call c => match mapE E c.args.toList with
    | some vs => match c.callee with
      | .value f => match f with
        | .func g => tst d (S.ps g vs)
        | _ => none
      | .invoke r m => match E r with
        | some (.iface t v) => match S.ms t m with
          | some f => tst d (S.ps f (v :: vs))
          | none => none
        | _ => none
      | .builtin b => bltR P c.argTypes b vs
    | none => none
  | .nilCheck x => match E x with
    | some (.ptr b o p) => okc (some (.ptr b o p))
    | _ => none
  | _ => none
where
  /-- Parts laid over units. -/
  bld (pl : Nat → Option (Nat × Nat)) (E : Operand → Option (LV A)) (us : List (LV A)) : List (Nat × Operand) → PR A
    | [] => okc (some (.agg us))
    | (i, x) :: ps => match pl i, E x with
      | some (off, n), some v => match noTup v && Nat.beq (cszL (units v)) n with
        | true => match wrU us off (units v) with
          | some us' => bld pl E us' ps
          | none => none
        | false => none
      | _, _ => none

/-! ## memory -/
def getB (S : Sig A) (mem : Mem A) : Key → Option (Blk A)
  | .own k => match mem[k]? with
    | some (some b) => some b
    | _ => none
  | .inp t i => some ⟨.ro, S.inp t i⟩
/-- A slice's rows: how many, a function, a condition. -/
def rowsV (S : Sig A) (rc : Bool) (mem : Mem A) (z : Nat) : LV A → Option (Nat × (Nat → List (LV A)) × Cnd)
  | .nils => some (0, fun _ => [], none)
  | .slice b o p len _ => match getB S mem b with
    | some bl => match rowsP rc bl.us o p z len with
      | some (g, c) => some (len, g, c)
      | none => none
    | none => none
  | .vec b len => match getB S mem b with
    | some bl => match rowsP rc bl.us 0 [] z len with
      | some (g, c) => some (len, g, c)
      | none => none
    | none => none
  | _ => none

def byteOf : List (LV A) → Int
  | [.int _ x] => x
  | _ => 0
def isB8 : List (LV A) → Bool
  | [.int .u8 _] => true
  | _ => false
def allB8 (g : Nat → List (LV A)) : Nat → Bool
  | 0 => true
  | n + 1 => isB8 (g n) && allB8 g n
/-- Bytes as a string. -/
def strOf (m : Nat) (g : Nat → List (LV A)) : ByteArray := ⟨((List.range m).map fun j => UInt8.ofNat (byteOf (g j)).toNat).toArray⟩
/-- The operations that read memory. -/
def lookR (S : Sig A) (rc : Bool) (d : Option Bool) (E : Operand → Option (LV A)) (mem : Mem A) (o : Op) : PR A := match o with
  | .load t x => match E x with
    | some (.ptr b o p) => match getB S mem b with
      | some bl => tstC d (partV P rc t bl.us o p)
      | _ => none
    | _ => none
  | .convert src dst x => match E x, P.underlying src, P.underlying dst with
    | some v, some (.slice e), some .string => match P.underlying e, rowsV S rc mem 1 v with
      | some (.int .u8), some (m, g, c) => match chkC rc (allB8 g m) with
        | some c' => some (.str (strOf m g), andC c c')
        | none => none
      | _, _ => none
    | _, _, _ => none
  | .call c => match mapE E c.args.toList with
    | some vs => match c.callee with
      | .value f => match f with
        | .func g => tst d (S.rs g vs mem)
        | _ => none
      | _ => none
    | none => none
  | _ => none

def isRo : Kd → Bool
  | .ro => true
  | _ => false
def isDead : Kd → Bool
  | .dead => true
  | _ => false
/-- A part of a whole slice, as a block of its own. -/
def viewR (S : Sig A) (rc : Bool) (E : Operand → Option (LV A)) (mem : Mem A) (key z : Nat) (b : Key) (len : Nat) (low high max : Option Operand) : Option (LV A × Blk A × Cnd) :=
  match bnds E len len low high max, getB S mem b with
  | some (l, h, _, ok), some bl => match chkC rc ok, rowsP rc bl.us 0 [] z len with
    | some c, some (g, c') => match low with
      | none => some (.vec (.own key) h, ⟨.ro, [.rows h z g]⟩, andC c c')
      | some _ => some (.vec (.own key) (h - l), ⟨.ro, [.rows (h - l) z fun j => g (l + j)]⟩, andC c c')
    | _, _ => none
  | _, _ => none

/-- The operations that lay a new block: what they answer, what it holds. -/
def newR (S : Sig A) (rc : Bool) (E : Operand → Option (LV A)) (mem : Mem A) (key : Nat) (o : Op) : Option (LV A × Option (Blk A) × Cnd) := match o with
  | .alloc t => match zeroT P t with
    | some z => some (.ptr (.own key) 0 [], some ⟨.rw, units z⟩, none)
    | none => none
  | .box t x => match E x, sizeT P t with
    | some v, some _ => match noTup v with
      | true => some (.ptr (.own key) 0 [], some ⟨.rw, units v⟩, none)
      | false => none
    | _, _ => none
  | .makeSlice t len cap => match P.underlying t, E len, E cap with
    | some (.slice e), some (.int _ n), some (.int _ m) => match sizeT P e, bytesT P e, zeroT P e with
      | some (z + 1), some bs, some v => match chkC rc (decide (n = m ∧ 0 ≤ n ∧ bs * n ≤ 2 ^ 48)), Nat.beq (cszL (units v)) (z + 1) && Nat.blt 0 bs with
        | some c, true => some (.vec (.own key) n.toNat, some ⟨.row e, [.rows n.toNat (z + 1) fun _ => units v]⟩, c)
        | _, _ => none
      | _, _, _ => none
    | _, _, _ => none
  | .buildSlice t len parts => match P.underlying t with
    | some (.slice e) => match sizeT P e, zeroT P e with
      | some (z + 1), some v => match Nat.beq (cszL (units v)) (z + 1) && Nat.ble (len * (z + 1)) (2 ^ 24) with
        | true => match laid E (z + 1) (List.replicate len (units v)) parts.toList with
          | some l => some (.vec (.own key) len, some ⟨.row e, [.rows len (z + 1) fun j => l.getD j []]⟩, none)
          | none => none
        | false => none
      | _, _ => none
    | _ => none
  | .slice t x low high max => match E x, P.underlying t with
    | some (.vec b len), some (.slice e) => match sizeT P e with
      | some z => match viewR S rc E mem key z b len low high max, getB S mem b with
        | some (v, bl, c), some b0 => match isRo b0.kd with
          | true => some (v, some bl, c)
          | false => none
        | _, _ => none
      | none => none
    | some (.slice b o p len cap), some (.slice e) => match sizeT P e, bnds E len cap low high max with
      | some z, some (l, h, m, ok) => match chkC rc ok, low with
        | some c, none => some (.slice b o p (h - l) (m - l), none, c)
        | some c, some _ => match Nat.beq m l with
          | true => some (.slice b o p (h - l) (m - l), none, c)
          | false => some (.slice b o (addE p l z) (h - l) (m - l), none, c)
        | _, _ => none
      | _, _ => none
    | some .nils, some (.slice e) => match sizeT P e, bnds E 0 0 low high max with
      | some _, some (_, _, _, ok) => match chkC rc ok with
        | some c => some (.nils, none, c)
        | none => none
      | _, _ => none
    | _, _ => none
  | _ => none
where
  laid (E : Operand → Option (LV A)) (z : Nat) (l : List (List (LV A))) : List (Nat × Operand) → Option (List (List (LV A)))
    | [] => some l
    | (i, x) :: ps => match E x with
      | some v => match noTup v && Nat.beq (cszL (units v)) z && Nat.blt i l.length with
        | true => laid E z (l.set i (units v)) ps
        | false => none
      | none => none

/-- May it lie in a cell (or in cells)? -/
def stor : LV A → Bool
  | .any => false
  | .undef => false
  | .agg _ => false
  | .tup _ => false
  | _ => true

/-- A block may be written. -/
def isWr : Kd → Bool
  | .rw => true
  | .row _ => true
  | _ => false

/-- The types of an append: the element's, its cells, its bytes. -/
def appTy (t t' : TypeId) : Option (TypeId × Nat × Nat) := match P.underlying t, P.underlying t' with
  | some (.slice e), some (.slice _) => match sizeT P e, bytesT P e, zeroT (A := A) P e with
    | some z, some bs, some v => match Nat.blt 0 z && Nat.blt 0 bs && Nat.beq (cszL (units v)) z with
      | true => some (e, z, bs)
      | false => none
    | _, _, _ => none
  | _, _ => none

/-- A row of a slice stays one. -/
def rowOk (k : Kd) (old new : List (LV A)) : Bool := match k with
  | .row _ => match old, new with
    | [.rows n z _], [.rows n' z' _] => Nat.beq n n' && Nat.beq z z'
    | _, _ => false
  | _ => true

abbrev CallR (A : Type) := FuncId → List (LV A) → Mem A → Option (LV A × Mem A × Cnd)
/-- The operations that write: what they answer, the memory, a condition. -/
def wrR (S : Sig A) (cr : CallR A) (rc : Bool) (E : Operand → Option (LV A)) (mem : Mem A) (key r : Nat) (o : Op) : Option (LV A × Mem A × Cnd) := match o with
  | .store t x y => match E x, E y with
    | some (.ptr (.own b) o p), some v => match mem[b]? with
      | some (some bl) => match sizeT P t with
        | some n => match isWr bl.kd && Nat.beq (cszL (units v)) n && (units v).all stor with
          | true => match wrP rc bl.us o p (units v) with
            | some (us', c) => match chkC rc (rowOk bl.kd bl.us us') with
              | some c3 => some (.undef, mem.set b (some ⟨bl.kd, us'⟩), andC c c3)
              | none => none
            | none => none
          | false => none
        | none => none
      | _ => none
    | _, _ => none
  | .slice t x low high max => match E x, P.underlying t with
    | some (.vec (.own b) len), some (.slice e) => match sizeT P e, mem[b]? with
      | some z, some (some b0) => match viewR S rc E mem key z (.own b) len low high max, isDead b0.kd || Nat.beq r 0 with
        | some (v, bl, c), false => some (v, (mem.set b (some ⟨.ro, b0.us⟩)).set key (some bl), c)
        | _, _ => none
      | _, _ => none
    | _, _ => none
  | .call c => match mapE E c.args.toList with
    | some vs => match c.callee with
      | .builtin .append => match vs, c.argTypes.toList with
        | [s, x], [t, t'] => match appTy (A := A) P t t', r with
          | some (e, z, bs), _ + 1 => match rowsV S rc mem z x with
            | some (m, g, c1) => match s with
              | .nils => match chkC rc (Nat.ble (m * bs) (2 ^ 47)) with
                | some c2 => some (.vec (.own key) m, mem.set key (some ⟨.row e, [.rows m z g]⟩), andC c1 c2)
                | none => none
              | .vec (.own b) n => match mem[b]? with
                | some (some ⟨.row e', [.rows n' z' f]⟩) => match decide (e = e') && Nat.beq z' z, chkC rc (Nat.beq n' n && Nat.ble ((n + m) * bs) (2 ^ 47)) with
                  | true, some c2 => some (.vec (.own key) (n + m), (mem.set b (some ⟨.dead, []⟩)).set key (some ⟨.row e, [.rows (n + m) z fun j => mrgR (Nat.blt j n) (f j) (g (j - n))]⟩), andC c1 c2)
                  | _, _ => none
                | _ => none
              | _ => none
            | none => none
          | _, _ => none
        | _, _ => none
      | .builtin .copy => match vs, c.argTypes.toList with
        | [dst, src], [t, _] => match P.underlying t with
          | some (.slice e) => match sizeT P e with
            | some z => match rowsV S rc mem z src with
              | some (m, g, c1) => match dst with
                | .slice (.own b) o p len _ => match mem[b]? with
                  | some (some bl) => match isWr bl.kd, putRows rc bl.us o p z len (Nat.min m len) g with
                    | true, some (us', c2) => match chkC rc (rowOk bl.kd bl.us us') with
                      | some c3 => some (.int .i64 (Nat.min m len), mem.set b (some ⟨bl.kd, us'⟩), andC (andC c1 c2) c3)
                      | none => none
                    | _, _ => none
                  | _ => none
                | .vec (.own b) len => match mem[b]? with
                  | some (some bl) => match isWr bl.kd, putRows rc bl.us 0 [] z len (Nat.min m len) g with
                    | true, some (us', c2) => match chkC rc (rowOk bl.kd bl.us us') with
                      | some c3 => some (.int .i64 (Nat.min m len), mem.set b (some ⟨bl.kd, us'⟩), andC (andC c1 c2) c3)
                      | none => none
                    | _, _ => none
                  | _ => none
                | _ => none
              | none => none
            | none => none
          | _ => none
        | _, _ => none
      | .value f => match E f with
        | some (.func g caps) => match cr g (vs ++ caps) (mem.take key) with
          | some (v, m', c) => match Nat.ble m'.length (key + r) with
            | true => some (v, m' ++ List.replicate (key + r - m'.length) none ++ mem.drop (key + r), c)
            | false => none
          | none => none
        | _ => none
      | _ => none
    | none => none
  | _ => none

/-- A load of what came in hangs on no memory. -/
def isLoad : Op → Bool
  | .load .. => true
  | _ => false
def pureL (S : Sig A) (rc : Bool) (d : Option Bool) (E : Operand → Option (LV A)) (o : Op) : PR A := match isLoad o with
  | true => lookR P S rc d E [] o
  | false => pureR P S rc d E o

def kind (P : Program) (how : FuncId → Kn) (fz : Fm) : Op → Kn
  | .load .. => match fz.pl with
    | true => .pure
    | false => .look
  | .convert t _ _ => match P.underlying t with
    | some (.slice _) => .look
    | _ => .pure
  | .alloc _ | .box .. | .makeSlice .. | .buildSlice .. => .new
  | .slice t .. => match P.underlying t with
    | some (.slice _) => match fz.fz with
      | true => .wr
      | false => .new
    | _ => .pure
  | .store .. => .wr
  | .call c => match c.callee with
    | .value (.func f) => how f
    | .value _ => .wr
    | .builtin .append => .wr
    | .builtin .copy => .wr
    | _ => .pure
  | _ => .pure

/-- What a step is told beside the operation: may checks be told as conditions · how an open test turns out · does a slicing freeze · what it may read lies below · its first new block · how many it may lay · the place of its condition. -/
structure Ctl where
  rc : Bool
  d : Option Bool
  fz : Fm
  base : Nat
  key : Nat
  r : Nat
  ck : Nat

def putT (l : List (LV A)) (dst : Option Nat) (v : LV A) : List (LV A) := match dst with
  | some t => l.set t v
  | none => l
def putB (mem : Mem A) (key : Nat) : Option (Blk A) → Mem A
  | none => mem
  | some b => mem.set key (some b)
/-- One operation. -/
def step (S : Sig A) (cr : CallR A) (x : Ctl) (o : Oper) (s : LS A) : Option (LS A) :=
  let E := ev s.tmps
  match kind P S.how x.fz o.op with
  | .pure => match pureL P S x.rc x.d E o.op with
    | some (v, c) => some { s with tmps := putT s.tmps o.dst v, conds := s.conds.set x.ck c }
    | none => none
  | .look => match lookR P S x.rc x.d E (s.mem.take x.base) o.op with
    | some (v, c) => some { s with tmps := putT s.tmps o.dst v, conds := s.conds.set x.ck c }
    | none => none
  | .new => match newR P S x.rc E (s.mem.take x.base) x.key o.op with
    | some (v, b, c) => match b.isSome && Nat.beq x.r 0 with
      | false => some { s with tmps := putT s.tmps o.dst v, mem := putB s.mem x.key b, conds := s.conds.set x.ck c }
      | true => none
    | none => none
  | .wr => match wrR P S cr x.rc E s.mem x.key x.r o.op with
    | some (v, m, c) => some { s with tmps := putT s.tmps o.dst v, mem := m, conds := s.conds.set x.ck c }
    | none => none

/-- Does the guard want it? -/
def want (ops : List Oper) (l : List (LV A)) (o : Oper) : Option Bool := match o.guard with
  | none => some true
  | some (j, w) => match ops[j]? with
    | some oj => match oj.dst with
      | some t => match l[t]? with
        | some (.bool b) => some (b == w)
        | some .undef => some false
        | _ => none
      | none => some false
    | none => some false

def stepG (S : Sig A) (cr : CallR A) (x : Ctl) (ops : List Oper) (o : Oper) (s : LS A) : Option (LS A) :=
  match want ops s.tmps o with
  | some true => step P S cr x o s
  | some false => some { s with tmps := putT s.tmps o.dst .undef }
  | none => none

/-- A region in its own order. -/
def ctl (S : Sig A) (cur : FuncId) (rid r n0 c0 i : Nat) (base : Nat) : Ctl where
  rc := S.rc cur rid i
  d := S.dec cur rid i
  fz := S.fz cur rid
  base := base
  key := n0 + r * i
  r := r
  ck := c0 + i
def runOpsD (S : Sig A) (cr : CallR A) (cur : FuncId) (rid r : Nat) (ops : List Oper) (n0 c0 : Nat) : Nat → List Oper → LS A → Option (LS A)
  | _, [], s => some s
  | i, o :: os, s => match stepG P S cr (ctl S cur rid r n0 c0 i n0) ops o s with
    | some s' => runOpsD S cr cur rid r ops n0 c0 (i + 1) os s'
    | none => none
/-- Without the nothing at its end. -/
def trimM (n : Nat) (m : Mem A) : Mem A := m.take n ++ trim (m.drop n)
where
  trim : Mem A → Mem A
    | [] => []
    | some b :: l => some b :: trim l
    | none :: l => match trim l with
      | [] => []
      | l' => none :: l'
/-- May an operation lay a block? -/
def lays (how : FuncId → Kn) (fz : Fm) (o : Oper) : Bool := match kind P how fz o.op with
  | .new => true
  | .wr => match o.op with
    | .store .. => false
    | .call c => match c.callee with
      | .builtin .copy => false
      | _ => true
    | _ => true
  | _ => false
/-- A call that may lay many. -/
def isCallW (how : FuncId → Kn) (o : Oper) : Bool := match o.op with
  | .call c => match c.callee with
    | .value (.func f) => match how f with
      | .wr => true
      | _ => false
    | .value _ => true
    | _ => false
  | _ => false
def resO (S : Sig A) (cur : FuncId) (rid : Nat) (ops : List Oper) : Nat := match ops.any (isCallW S.how) with
  | true => S.res cur rid
  | false => match ops.any (lays P S.how (S.fz cur rid)) with
    | true => 1
    | false => 0
/-- So many free places more. -/
def more (r : Nat) (s : LS A) : LS A := { s with mem := s.mem ++ List.replicate r none }
def cutS (n : Nat) (s : LS A) : LS A := { s with mem := trimM n s.mem }
/-- A number, looked at first. -/
def forceN {β : Type} (n : Nat) (f : Nat → β) : β := match n with
  | 0 => f 0
  | m + 1 => f (m + 1)
/-- How many blocks this operation may lay. -/
def rO (S : Sig A) (cur rid : Nat) (o : Oper) : Nat := match isCallW S.how o with
  | true => S.res cur rid
  | false => match lays P S.how (S.fz cur rid) o with
    | true => 1
    | false => 0
def ctlO (S : Sig A) (cur rid r key ck i : Nat) : Ctl where
  rc := S.rc cur rid i
  d := S.dec cur rid i
  fz := S.fz cur rid
  base := key
  key := key
  r := r
  ck := ck + i
/-- A region in its own order: blocks one behind the other. -/
def runOpsO (S : Sig A) (cr : CallR A) (cur rid : Nat) (ops : List Oper) (c0 : Nat) : Nat → List Oper → LS A → Option (LS A)
  | _, [], s => some s
  | i, o :: os, s => forceN s.mem.length fun key => match stepG P S cr (ctlO S cur rid (rO P S cur rid o) key c0 i) ops o (more (rO P S cur rid o) s) with
    | some s' => runOpsO S cr cur rid ops c0 (i + 1) os (cutS key s')
    | none => none
def pad (n k : Nat) (s : LS A) : LS A := { s with mem := s.mem ++ List.replicate k none, conds := List.replicate n none }

/-! ## the order that Go leaves open -/
def maskOf (ms : List Nat) (o : Oper) : Nat := o.after.toList.foldl (fun s e => match Region.binds .any e with
  | true => s ||| 2 ^ e.on ||| ms.getD e.on 0
  | false => s) 0
def masks : List Oper → List Nat → List Nat
  | [], ms => ms
  | o :: os, ms => masks os (ms ++ [maskOf ms o])
/-- Two operations that may change places. -/
def indep (how : FuncId → Kn) (fz : Fm) (ops : Array Oper) (x y : Oper) : Bool :=
  Oper.apart ops x y && match kind P how fz x.op, kind P how fz y.op with
    | .wr, .pure => true
    | .pure, .wr => true
    | .wr, _ => false
    | _, .wr => false
    | _, _ => true
def edgesOk : Nat → List Oper → Bool
  | _, [] => true
  | i, o :: os => o.after.toList.all (fun e => !Region.binds .any e || Nat.blt e.on i) && edgesOk (i + 1) os
def pairOk (how : FuncId → Kn) (fz : Fm) (ops : Array Oper) (ms : List Nat) (i j : Nat) : Bool :=
  match Nat.blt i j with
  | true => match (ms.getD j 0).testBit i with
    | true => true
    | false => match ops[i]?, ops[j]? with
      | some x, some y => indep P how fz ops x y
      | _, _ => true
  | false => true
def drawOk (how : FuncId → Kn) (fz : Fm) (ops : Array Oper) : Bool :=
  edgesOk 0 ops.toList && (ops.toList.all fun o => match o.op with | .select .. => false | _ => true) &&
  let ms := masks ops.toList []
  (List.range ops.size).all fun j => (List.range ops.size).all fun i => pairOk P how fz ops ms i j

def allC : List Cnd → Cnd
  | [] => none
  | c :: cs => andC c (allC cs)
/-- A region's end: its conditions put together. -/
def shutR (s : LS A) : Option (LS A) → Option (LS A)
  | some t => match allC t.conds with
    | none => some { t with conds := s.conds }
    | some c => some { t with conds := s.conds ++ [some c] }
  | none => none
def execR (S : Sig A) (cr : CallR A) (cur : FuncId) (rid : Nat) (ops : Array Oper) (draw : Bool) (s : LS A) : Option (LS A) :=
  match draw with
  | false => shutR s (runOpsO P S cr cur rid ops.toList 0 0 ops.toList (pad ops.toList.length 0 s))
  | true => match drawOk P S.how (S.fz cur rid) ops with
    | true => shutR s (runOpsD P S cr cur rid (resO P S cur rid ops.toList) ops.toList s.mem.length 0 0 ops.toList (pad ops.toList.length (resO P S cur rid ops.toList * ops.toList.length) s))
    | false => none

/-- What a function answers. -/
def resV (rc : Bool) (s : LS A) : ResultVar → Option (LV A × Cnd)
  | .tmp t => match getT s.tmps t with
    | some v => some (v, none)
    | none => none
  | .cell t ty => match getT s.tmps t with
    | some (.ptr (.own b) o p) => match s.mem[b]? with
      | some (some bl) => partV P rc ty bl.us o p
      | _ => none
    | _ => none
def resVs (rc : Bool) (s : LS A) : List ResultVar → Option (List (LV A) × Cnd)
  | [] => some ([], none)
  | r :: rs => match resV P rc s r with
    | some (v, c) => match resVs rc s rs with
      | some (vs, c') => some (v :: vs, andC c c')
      | none => none
    | none => none
def resF (rc : Bool) (fn : Func) (s : LS A) : Option (LV A × Cnd) := match resVs P rc s fn.results.toList with
  | some ([v], c) => some (v, c)
  | some (vs, c) => some (.tup vs, c)
  | none => none

def startS (fn : Func) (args : List (LV A)) (mem : Mem A) : LS A :=
  { tmps := args ++ List.replicate (fn.ntmps - args.length) .undef, mem, conds := [] }
/-- The code at a place of a function's body. -/
def child : Nat → Code → Code
  | 0, .seq a _ => a
  | 1, .seq _ b => b
  | 0, .cond _ a _ => a
  | 1, .cond _ _ b => b
  | 0, .block _ b => b
  | 0, .scope b => b
  | 0, .loop b => b
  | 0, .rangeFunc _ _ a _ => a
  | 1, .rangeFunc _ _ _ b => b
  | _, c => c
def bodyOf (f : FuncId) : Code := match P.funcs[f]? with
  | some fn => match fn.body with
    | some c => c
    | none => .skip
  | none => .skip
def codeAt (f : FuncId) : List Nat → Code
  | [] => bodyOf P f
  | i :: p => child i (codeAt f p)

/-- A whole call, out of what its body comes to. -/
def callN (S : Sig A) (ex : Code → LS A → Option (Out × LS A)) (f : FuncId) (args : List (LV A)) (mem : Mem A) : Option (LV A × Mem A × Cnd) :=
  match P.funcs[f]? with
  | some fn => match fn.body, fn.name == "runtime.NumGoroutine" with
    | some c, false => match ex c (startS fn args mem) with
      | some (.exit _, _) => none
      | some (_, s) => match resF P (S.rc f 1000000 0) fn s with
        | some (v, c) => some (v, trimM mem.length s.mem, andC c (allC s.conds))
        | none => none
      | none => none
    | _, _ => none
  | none => none

/-- A loop that is known. -/
def known (h : LS A → Option (Out × List (LV A) × Mem A × Cnd)) (s : LS A) : Option (Out × LS A) := match h s with
  | some (o, tm, m, c) => some (o, ⟨tm, m, s.conds ++ [c]⟩)
  | none => none

def exec (S : Sig A) : Nat → FuncId → List Nat → Code → LS A → Option (Out × LS A)
  | 0, _, _, _, _ => none
  | n + 1, cur, p, c, s => match c with
    | .skip => some (.normal, s)
    | .label _ => some (.normal, s)
    | .region id ops draw =>
      match execR P S (fun f args mem => match S.il f with
          | true => callN P S (exec S n f []) f args mem
          | false => S.cs f args mem) cur id ops draw s with
      | some s' => some (.normal, s')
      | none => none
    | .seq a b => match exec S n cur (0 :: p) a s with
      | some (.normal, s') => exec S n cur (1 :: p) b s'
      | r => r
    | .cond c a b => match ev s.tmps c with
      | some (.bool true) => exec S n cur (0 :: p) a s
      | some (.bool false) => exec S n cur (1 :: p) b s
      | _ => none
    | .block id b => match exec S n cur (0 :: p) b s with
      | some (.exit id', s') => match Nat.beq id' id with
        | true => some (.normal, s')
        | false => some (.exit id', s')
      | r => r
    | .scope b => exec S n cur (0 :: p) b s
    | .loop b => match S.lp cur p with
      | some h => known h s
      | none => match exec S n cur (0 :: p) b s with
        | some (.normal, s') => exec S n cur p (.loop b) s'
        | r => r
    | .rangeFunc _ _ _ _ => match S.lp cur p with
      | some h => known h s
      | none => none
    | .exit id => some (.exit id, s)
    | .ret => some (.ret, s)
    | _ => none
/-- A whole call. -/
def callF (S : Sig A) (n : Nat) (f : FuncId) (args : List (LV A)) (mem : Mem A) : Option (LV A × Mem A × Cnd) := callN P S (exec P S n f []) f args mem

end
end Go.Proofs.Ytjhjockdkpgpeaa.En
