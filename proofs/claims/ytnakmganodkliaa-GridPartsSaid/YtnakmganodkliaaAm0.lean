/- Abstract values, abstract states and the computed effect of one operation: definitions alone. -/
import Derived.WalkKit
import Derived.KernelRfl
set_option linter.unusedVariables false
set_option linter.unusedSimpArgs false
namespace Go.Proofs.YtnakmganodkliaaAm
open Go

/-- The shapes of data that a slice may hold. -/
inductive Ty where
  | int (k : IntKind)
  | bool
  | str
  | sl (t : Ty)
  | prod (a b : Ty)
  | unit
  deriving DecidableEq

@[reducible] def Ty.El : Ty → Type
  | .int _ => Int
  | .bool => Bool
  | .str => ByteArray
  | .sl t => List t.El
  | .prod a b => a.El × b.El
  | .unit => Unit

def Ty.size : Ty → Nat
  | .int _ | .bool | .str | .sl _ => 1
  | .prod a b => a.size + b.size
  | .unit => 0

def Ty.dflt : (t : Ty) → t.El
  | .int _ => (0 : Int)
  | .bool => false
  | .str => (⟨#[]⟩ : ByteArray)
  | .sl t => ([] : List t.El)
  | .prod a b => (a.dflt, b.dflt)
  | .unit => ()

/-- Abstract values. 'sl': a slice that is only read (nn: not nil; cl: no room behind it); 'own': one into a row of the call's own; 'ptr': a pointer into one (element, cell in it); 'rptr': a pointer to memory that is only read; 'bsl': a slice over a whole box (elements of sz cells). -/
inductive D where
  | v (x : Value)
  | sl (nn cl : Bool) (t : Ty) (xs : List t.El)
  | arr (t : Ty) (xs : List t.El)
  | own (id off len : Nat) (cap : Option Nat)
  | ptr (id i off : Nat)
  | rptr (cs : List D)
  | bsl (id len sz : Nat)
  | agg (cs : List D)
  | fn (f : FuncId) (cs : List D)
  | tup (ds : List D)
  | top

instance : Inhabited D := ⟨.top⟩

def Ty.cells : (t : Ty) → t.El → List D
  | .int k, n => [.v (.int k n)]
  | .bool, b => [.v (.bool b)]
  | .str, s => [.v (.string s)]
  | .sl t, xs => [.sl false false t xs]
  | .prod a b, x => a.cells x.1 ++ b.cells x.2
  | .unit, _ => []

/-- A row of the call's own. 'box': a variable; 'data': elements of one shape. -/
inductive Row where
  | box (ty : TypeId) (cells : List D)
  | data (ty : TypeId) (t : Ty) (xs : List t.El)

/-- A place of the local heap: no row has come there yet; one that is gone; a row. -/
inductive Slot where
  | free
  | dead
  | live (r : Row)

abbrev Heap := List Slot

def slot (H : Heap) (id : Nat) : Slot := H.getD id .free

def hget (H : Heap) (id : Nat) : Option Row := match slot H id with
  | .live r => some r
  | _ => none

def slotOf : Option Row → Slot
  | some r => .live r
  | none => .dead

structure St where
  tmps : List D
  heap : Heap

structure Eff where
  val : D
  allocs : List Row := []
  writes : List (Nat × Option Row) := []
  obl : List Prop := []

def evalD (tmps : List D) : Operand → D
  | .tmp t => tmps.getD t .top
  | .const x => .v x
  | .global _ => .top
  | .func f => .fn f []

/-- What a place of the call's own holds, as data of a shape. -/
def rowData (rd : Nat → Option Row) (id off len : Nat) (t : Ty) : Option (List t.El) :=
  match rd id with
  | some (.data _ t' xs) => if h : t' = t then some (((h ▸ xs : List t.El).drop off).take len) else none
  | _ => none

def intC (k : IntKind) : List D → Option Int
  | [.v (.int k' n)] => if k' = k then some n else none
  | _ => none
def boolC : List D → Option Bool
  | [.v (.bool b)] => some b
  | _ => none
def strC : List D → Option ByteArray
  | [.v (.string s)] => some s
  | _ => none
def slC (rd : Nat → Option Row) (t : Ty) : List D → Option (List t.El)
  | [.sl _ _ t' xs] => if h : t' = t then some (h ▸ xs) else none
  | [.v (.slice none 0 0)] => some []
  | [.own id off len _] => rowData rd id off len t
  | _ => none
def nilC : List D → Option Unit
  | [] => some ()
  | _ => none

/-- Cells as an element of a shape; a slice of the call's own is taken as it stands. -/
def Ty.ofCells (rd : Nat → Option Row) : (t : Ty) → List D → Option t.El
  | .int k, cs => intC k cs
  | .bool, cs => boolC cs
  | .str, cs => strC cs
  | .sl t, cs => slC rd t cs
  | .prod a b, cs => match a.ofCells rd (cs.take a.size), b.ofCells rd (cs.drop a.size) with
    | some x, some y => some (x, y)
    | _, _ => none
  | .unit, cs => nilC cs

/-- The rows that go over into data. -/
def killIds : List D → List Nat
  | [] => []
  | .own id _ _ _ :: cs => id :: killIds cs
  | _ :: cs => killIds cs

def kills (cs : List D) : List (Nat × Option Row) := (killIds cs).map fun i => (i, none)

def aggB (P : Program) (t : TypeId) : Bool :=
  match P.underlying t with
  | some (.struct _) | some (.array _ _) => true
  | _ => false

/-- May it stand in one cell? -/
def cellB : D → Bool
  | .v (.agg _) | .v (.tuple _) => false
  | .agg _ | .arr _ _ | .tup _ | .top => false
  | _ => true

def cellsOf : D → Option (List D)
  | .agg cs => if cs.all cellB then some cs else none
  | d => if cellB d then some [d] else none

def valD (P : Program) (t : TypeId) (cs : List D) : Option D :=
  if aggB P t then some (.agg cs) else match cs with
    | [d] => some d
    | _ => none

/-- The shape of a type, where it has one. -/
def tyOf (P : Program) : Nat → TypeId → Option Ty
  | 0, _ => none
  | n + 1, t =>
    match P.underlying t with
    | some (.int k) => some (.int k)
    | some .bool => some .bool
    | some .string => some .str
    | some (.slice e) => (tyOf P n e).map .sl
    | some (.struct fs) => go n (fs.toList.map (·.type))
    | some (.array len e) => if len ≤ 16 then go n (List.replicate len e) else none
    | _ => none
where
  go : Nat → List TypeId → Option Ty
    | _, [] => some .unit
    | 0, _ => none
    | n + 1, [t] => tyOf P n t
    | n + 1, t :: ts => match tyOf P n t, go n ts with
      | some a, some b => some (.prod a b)
      | _, _ => none

def binI (op : BinOp) (k : IntKind) (a b : Int) : Option (Value × List Prop) :=
  match op with
  | .add => some (.int k (k.wrap (a + b)), [])
  | .sub => some (.int k (k.wrap (a - b)), [])
  | .mul => some (.int k (k.wrap (a * b)), [])
  | .quo => some (.int k (k.wrap (a.tdiv b)), [b ≠ 0])
  | .rem => some (.int k (a.tmod b), [b ≠ 0])
  | .and => some (.int k (k.wrap (BitVec.ofInt k.bits a &&& BitVec.ofInt k.bits b).toNat), [])
  | .or => some (.int k (k.wrap (BitVec.ofInt k.bits a ||| BitVec.ofInt k.bits b).toNat), [])
  | .xor => some (.int k (k.wrap (BitVec.ofInt k.bits a ^^^ BitVec.ofInt k.bits b).toNat), [])
  | .andNot => some (.int k (k.wrap (BitVec.ofInt k.bits a &&& ~~~(BitVec.ofInt k.bits b)).toNat), [])
  | .eql => some (.bool (a == b), [])
  | .neq => some (.bool (a != b), [])
  | .lss => some (.bool (decide (a < b)), [])
  | .leq => some (.bool (decide (a ≤ b)), [])
  | .gtr => some (.bool (decide (a > b)), [])
  | .geq => some (.bool (decide (a ≥ b)), [])
  | _ => none

def isNil : D → Option Bool
  | .v (.slice none _ _) => some true
  | .sl true _ _ _ => some false
  | _ => none

def binD (op : BinOp) (x y : D) : Option (Value × List Prop) :=
  match op, x, y with
  | .shl, .v (.int k a), .v (.int _ b) => some (.int k (k.wrap (a * 2 ^ (min b.toNat k.bits))), [¬ b < 0])
  | .shr, .v (.int k a), .v (.int _ b) => some (.int k (a.fdiv (2 ^ (min b.toNat k.bits))), [¬ b < 0])
  | _, .v (.int k a), .v (.int k' b) => if k = k' then binI op k a b else none
  | _, _, _ => none

def lenD : D → Option Nat
  | .v (.slice _ n _) => some n
  | .sl _ _ _ xs => some xs.length
  | .own _ _ len _ => some len
  | .bsl _ len _ => some len
  | _ => none

/-- Is it known whether the slice is nil? -/
def nilB : D → Option Bool
  | .v (.slice none _ _) => some true
  | .sl true _ _ _ => some false
  | _ => none

/-- Comparisons of other things than numbers. -/
def eqD (P : Program) (op : BinOp) (t : TypeId) (x y : D) : Option Value :=
  match op, P.underlying t, x, y with
  | .eql, some .bool, .v (.bool a), .v (.bool b) => some (.bool (a == b))
  | .neq, some .bool, .v (.bool a), .v (.bool b) => some (.bool (!(a == b)))
  | .eql, some .string, .v (.string a), .v (.string b) => some (.bool (a.toList == b.toList))
  | .neq, some .string, .v (.string a), .v (.string b) => some (.bool (!(a.toList == b.toList)))
  | .eql, some (.slice _), x, .v (.slice none 0 0) => (nilB x).map .bool
  | .neq, some (.slice _), x, .v (.slice none 0 0) => (nilB x).map fun b => .bool (!b)
  | _, _, _, _ => none

/-- A number as a bound of a slice. -/
def numD : D → Option Int
  | .v (.int _ n) => some n
  | _ => none

end Go.Proofs.YtnakmganodkliaaAm
