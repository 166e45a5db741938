/-
  An evaluator for the compact form of a translated function: values are plain data, memory that the call owns is a small list of blocks.
  This text holds definitions alone; that the evaluator is right is proved in the texts behind it.
-/
import GoSem.Core.View
import GoSem.Core.Utf8
namespace Go.Ev
open Go
set_option linter.unusedSectionVars false
set_option linter.unusedSimpArgs false
set_option linter.unusedVariables false

/-- A value. 'any': nothing is known of it. 'undef': the model's own 'undef'. 'ptr', 'eptr', 'own': into blocks of this call's: a variable, an element, a slice. 'rptr', 'ro': memory that nobody writes, with what it holds. 'nul': a slice without room. 'fresh': a slice handed over with its memory (at a call's border alone). 'io': a variable lent to a call (there alone). -/
inductive PV where
  | any
  | undef
  | bool (b : Bool)
  | int (k : IntKind) (n : Int)
  | str (s : List UInt8)
  | nilp
  | ptr (id j : Nat)
  | eptr (id i j cl : Nat)
  | rptr (cells : List PV)
  | nul
  | ro (rows : List (List PV))
  | own (id off len cl : Nat)
  | fresh (sz : Nat) (rows : List (List PV))
  | io (cells : List PV)
  | func (f : FuncId) (captured : List PV)
  | nilf
  | iface (t : TypeId) (v : PV)
  | nili
  | agg (cells : List PV)
  | tuple (vs : List PV)
  deriving Inhabited

inductive Blk where
  | box (cells : List PV)
  | arr (sz : Nat) (rows : List (List PV))
  | froz (sz : Nat) (rows : List (List PV))
  | iter (s : List UInt8) (pos : Nat)
  | dead
  deriving Inhabited

abbrev Heap := List (Nat × Blk)
abbrev Env := List (Nat × PV)

def hget : Heap → Nat → Option Blk
  | [], _ => none
  | (k, b) :: r, i => match Nat.beq k i with | true => some b | false => hget r i
def hset : Heap → Nat → Blk → Heap
  | [], i, b => [(i, b)]
  | (k, c) :: r, i, b => match Nat.beq k i with | true => (k, b) :: r | false => (k, c) :: hset r i b
def hsets : List (Nat × Blk) → Heap → Heap
  | [], H => H
  | (i, b) :: r, H => hsets r (hset H i b)

def getT : Env → Nat → PV
  | [], _ => .any
  | (k, v) :: r, i => match Nat.beq k i with | true => v | false => getT r i

inductive Opd where
  | t (i : Nat)
  | c (v : PV)
  | g (i : Nat)

/-- What a call is given: what other functions answer, and what the package-level tables hold. -/
structure Cx where
  call : FuncId → List PV → Option (PV × List (List PV))
  glob : Nat → List PV

def opd (cx : Cx) (env : Env) : Opd → PV
  | .t i => getT env i
  | .c v => v
  | .g i => .rptr (cx.glob i)

/-- The kinds of what is held against each other, cell by cell. -/
inductive EK where | i | b | s
  deriving DecidableEq

/-- How an argument is handed on: to be read alone; with its memory; as a variable that comes back. -/
inductive Mode where
  | shut
  | move (esz : Nat)
  | lend (szs : List Nat)

inductive IOp where
  | mov (x : Opd)
  | pick (c a b : Opd)
  | alloc (id : Nat) (zero : List PV)
  | box (id : Nat) (x : Opd)
  | build (zero : List PV) (parts : List (Nat × Nat × Opd))
  | bslice (id esz : Nat) (parts : List Opd)
  | load (sz : Nat) (agg : Bool) (a : Opd)
  | store (sz : Nat) (a x : Opd)
  | nilchk (x : Opd)
  | bin (op : BinOp) (x y : Opd)
  | eq (neg agg : Bool) (ks : List EK) (x y : Opd)
  | eqn (neg : Bool) (x : Opd)
  | un (op : UnOp) (x : Opd)
  | toInt (k : IntKind) (x : Opd)
  | same (x : Opd)
  | toBytes (x : Opd)
  | toStr (x : Opd)
  | mkf (f : FuncId) (caps : List Opd)
  | mki (t : TypeId) (x : Opd)
  | mksl (id esb : Nat) (zero : List PV) (l c : Opd)
  | slcS (x : Opd) (lo hi : Option Opd)
  | slc (esz : Nat) (x : Opd) (lo hi mx : Option Opd)
  | faddr (off : Nat) (x : Opd)
  | field (off sz : Nat) (agg : Bool) (x : Opd)
  | iaddr (esz : Nat) (x ix : Opd)
  | iaddrA (n esz : Nat) (x ix : Opd)
  | idxA (n esz : Nat) (agg : Bool) (x ix : Opd)
  | idxS (x ix : Opd)
  | ext (x : Opd) (i : Nat)
  | len (x : Opd)
  | lenS (x : Opd)
  | lenA (n : Nat) (x : Opd)
  | app (id esz esb : Nat) (x y : Opd)
  | copy (esz : Nat) (x y : Opd)
  | clear (esz : Nat) (zero : List PV) (x : Opd)
  | least (xs : List Opd)
  | most (xs : List Opd)
  | call (f : FuncId) (args : List (Mode × Opd)) (hints : List (Nat × Nat)) (base : Nat)
  | callv (fx : Opd) (args : List (Mode × Opd)) (hints : List (Nat × Nat)) (base : Nat)
  | inv (x : Opd) (tab : List (TypeId × FuncId)) (args : List (Mode × Opd)) (hints : List (Nat × Nat)) (base : Nat)
  | rng (id : Nat) (x : Opd)
  | nxt (x : Opd)
  | tas (t : TypeId) (comma : Bool) (zero : PV) (x : Opd)
  | stop

structure Opn where
  dst : Option Nat
  guard : Option (Nat × Bool)
  op : IOp

/-- What an operation does: its value, the blocks that it sets, the blocks that it looks at. -/
structure Eff where
  v : PV
  upd : List (Nat × Blk)
  rd : List Nat

/-- May a value stand in one cell? -/
def cellV : PV → Bool
  | .any | .undef | .agg _ | .tuple _ | .fresh _ _ | .io _ => false
  | _ => true
def allCell : List PV → Bool
  | [] => true
  | v :: r => match cellV v with | true => allCell r | false => false
/-- A value's cells. -/
def mcells : PV → Option (List PV)
  | .agg cs => some cs
  | v => match cellV v with | true => some [v] | false => none

def splice : List PV → Nat → List PV → List PV
  | cells, 0, new => new ++ cells.drop new.length
  | [], _ + 1, _ => []
  | c :: r, n + 1, new => c :: splice r n new

/-- Some of the cells, as one value. -/
def rdc (cells : List PV) (j sz : Nat) (agg : Bool) : Option PV :=
  match agg with
  | true => match Nat.ble (j + sz) cells.length with
    | true => some (.agg ((cells.drop j).take sz))
    | false => none
  | false => cells[j]?

def fillc (ρ : Opd → PV) : List (Nat × Nat × Opd) → List PV → Option (List PV)
  | [], z => some z
  | (o, n, x) :: r, z => match mcells (ρ x) with
    | some cs => match Nat.beq cs.length n, Nat.ble (o + n) z.length with
      | true, true => fillc ρ r (splice z o cs)
      | _, _ => none
    | none => none

def eqk : List EK → List PV → List PV → Option Bool
  | [], [], [] => some true
  | .i :: ks, .int k a :: r, .int l b :: s => if k = l then match eqk ks r s with | some x => some (decide (a = b) && x) | none => none else none
  | .b :: ks, .bool a :: r, .bool b :: s => match eqk ks r s with | some x => some ((a == b) && x) | none => none
  | .s :: ks, .str a :: r, .str b :: s => match eqk ks r s with | some x => some (decide (a = b) && x) | none => none
  | _, _, _ => none
def eqcells (agg : Bool) (v : PV) : Option (List PV) :=
  match agg with
  | false => some [v]
  | true => match v with
    | .agg cs => some cs
    | _ => none
def flip (neg b : Bool) : Bool := match neg with | true => !b | false => b
def isnil : PV → Option Bool
  | .nilp => some true
  | .ptr _ _ => some false
  | .rptr _ => some false
  | .nili => some true
  | .iface _ _ => some false
  | _ => none

def intBin (op : BinOp) (k : IntKind) (a b : Int) : Option PV :=
  match op with
  | .add => some (.int k (k.wrap (a + b)))
  | .sub => some (.int k (k.wrap (a - b)))
  | .mul => some (.int k (k.wrap (a * b)))
  | .quo => if b = 0 then none else some (.int k (k.wrap (a.tdiv b)))
  | .rem => if b = 0 then none else some (.int k (a.tmod b))
  | .and => some (.int k (k.wrap (BitVec.ofInt k.bits a &&& BitVec.ofInt k.bits b).toNat))
  | .or => some (.int k (k.wrap (BitVec.ofInt k.bits a ||| BitVec.ofInt k.bits b).toNat))
  | .xor => some (.int k (k.wrap (BitVec.ofInt k.bits a ^^^ BitVec.ofInt k.bits b).toNat))
  | .andNot => some (.int k (k.wrap (BitVec.ofInt k.bits a &&& ~~~BitVec.ofInt k.bits b).toNat))
  | .lss => some (.bool (decide (a < b)))
  | .leq => some (.bool (decide (a ≤ b)))
  | .gtr => some (.bool (decide (a > b)))
  | .geq => some (.bool (decide (a ≥ b)))
  | _ => none

def binv (op : BinOp) (x y : PV) : Option PV :=
  match op with
  | .shl => match x, y with
    | .int k a, .int _ b => if b < 0 then none else some (.int k (k.wrap (a * 2 ^ (min b.toNat k.bits))))
    | _, _ => none
  | .shr => match x, y with
    | .int k a, .int _ b => if b < 0 then none else some (.int k (a.fdiv (2 ^ (min b.toNat k.bits))))
    | _, _ => none
  | op => match x, y with
    | .int k a, .int l b => if k = l then intBin op k a b else none
    | .str a, .str b => match op with
      | .add => if a.length + b.length ≤ 9223372036854775807 then some (.str (a ++ b)) else none
      | _ => none
    | _, _ => none

def unv : UnOp → PV → Option PV
  | .not, .bool b => some (.bool (!b))
  | .neg, .int k n => some (.int k (k.wrap (0 - n)))
  | .xor, .int k n => some (.int k (k.wrap (BitVec.ofInt k.bits (if k.signed then -1 else k.max) ^^^ BitVec.ofInt k.bits n).toNat))
  | _, _ => none

/-- A cell made plain for memory that nobody writes any more; the blocks that are thereby given up. -/
def clo1 (H : Heap) : PV → Option (PV × List Nat)
  | .nul => some (.ro [], [])
  | .own id off len cl => match hget H id with
    | some (.arr _ rows) | some (.froz _ rows) => match Nat.beq rows.length cl with
      | true => some (.ro ((rows.drop off).take len), [id])
      | false => none
    | _ => none
  | .ptr _ _ => none
  | .eptr _ _ _ _ => none
  | .fresh _ _ => none
  | .io _ => none
  | .func _ _ => none
  | .iface _ _ => none
  | .agg _ => none
  | .tuple _ => none
  | v => some (v, [])
/-- Cells, made plain, one by one. -/
def cloL (H : Heap) : List PV → Option (List PV × List Nat)
  | [] => some ([], [])
  | v :: r => match clo1 H v with
    | some (a, x) => match cloL H r with
      | some (b, y) => some (a :: b, x ++ y)
      | none => none
    | none => none
/-- A captured variable, made plain. -/
def cloP (H : Heap) : PV → Option (PV × List Nat)
  | .ptr id j => match hget H id with
    | some (.box cells) => match cloL H cells with
      | some (cs, x) => match Nat.ble j cs.length with
        | true => some (.rptr (cs.drop j), id :: x)
        | false => none
      | none => none
    | _ => none
  | v => clo1 H v
def cloPs (H : Heap) : List PV → Option (List PV × List Nat)
  | [] => some ([], [])
  | v :: r => match cloP H v with
    | some (a, x) => match cloPs H r with
      | some (b, y) => some (a :: b, x ++ y)
      | none => none
    | none => none
def clo2 (H : Heap) : PV → Option (PV × List Nat)
  | .agg cs => (cloL H cs).map fun (a, x) => (.agg a, x)
  | .func f cs => (cloPs H cs).map fun (a, x) => (.func f a, x)
  | .iface t (.agg cs) => (cloL H cs).map fun (a, x) => (.iface t (.agg a), x)
  | .iface t v => (clo1 H v).map fun (a, x) => (.iface t a, x)
  | v => cloP H v
def clo2s (H : Heap) : List PV → Option (List PV × List Nat)
  | [] => some ([], [])
  | v :: r => match clo2 H v with
    | some (a, x) => match clo2s H r with
      | some (b, y) => some (a :: b, x ++ y)
      | none => none
    | none => none
/-- Any value. -/
def clo (H : Heap) : PV → Option (PV × List Nat)
  | .tuple vs => (clo2s H vs).map fun (a, x) => (.tuple a, x)
  | v => clo2 H v

/-- The slice handed over with its memory; the block that goes. (A slice without room: of rows of so many cells.) -/
def mov1 (H : Heap) (esz : Nat) : PV → Option (PV × List Nat)
  | .nul => some (.fresh esz [], [])
  | .own id off len cl => match hget H id with
    | some (.arr sz rows) => match Nat.beq rows.length cl with
      | true => some (.fresh sz ((rows.drop off).take len), [id])
      | false => none
    | _ => none
  | _ => none
/-- A cell of a variable that is lent. -/
def movC (H : Heap) (esz : Nat) : PV → Option (PV × List Nat × List Nat)
  | .nul => some (.fresh esz [], [], [])
  | .own id off len cl => match mov1 H esz (.own id off len cl) with
    | some (a, x) => some (a, x, [])
    | none => none
  | v => match clo1 H v with
    | some (a, x) => some (a, [], x)
    | none => none
def movCs (H : Heap) : List Nat → List PV → Option (List PV × List Nat × List Nat)
  | _, [] => some ([], [], [])
  | [], v :: r => match movC H 0 v with
    | some (a, x, s) => match movCs H [] r with
      | some (b, y, t) => some (a :: b, x ++ y, s ++ t)
      | none => none
    | none => none
  | z :: zs, v :: r => match movC H z v with
    | some (a, x, s) => match movCs H zs r with
      | some (b, y, t) => some (a :: b, x ++ y, s ++ t)
      | none => none
    | none => none

/-- An argument: what is handed on, the blocks handed over, the blocks shown, the variable lent. -/
structure Arg where
  v : PV
  gone : List Nat
  seen : List Nat
  lent : List Nat

def arg1 (H : Heap) : Mode → PV → Option Arg
  | .shut, v => (clo H v).map fun (a, x) => ⟨a, [], x, []⟩
  | .move esz, v => (mov1 H esz v).map fun (a, x) => ⟨a, x, [], []⟩
  | .lend szs, .ptr id 0 => match hget H id with
    | some (.box cells) => (movCs H szs cells).map fun (a, x, s) => ⟨.io a, x, s, [id]⟩
    | _ => none
  | .lend _, _ => none
structure Args where
  vs : List PV
  gone : List Nat
  seen : List Nat
  lent : List Nat
def args1 (H : Heap) (ρ : Opd → PV) : List (Mode × Opd) → Option Args
  | [] => some ⟨[], [], [], []⟩
  | (m, x) :: r => match arg1 H m (ρ x) with
    | some a => match args1 H ρ r with
      | some b => some ⟨a.v :: b.vs, a.gone ++ b.gone, a.seen ++ b.seen, a.lent ++ b.lent⟩
      | none => none
    | none => none

/-- Is no block in a list? -/
def memN (i : Nat) : List Nat → Bool
  | [] => false
  | k :: r => match Nat.beq k i with | true => true | false => memN i r
def apartN : List Nat → List Nat → Bool
  | [], _ => true
  | i :: r, l => match memN i l with | true => false | false => apartN r l
def nodupN : List Nat → Bool
  | [] => true
  | i :: r => match memN i r with | true => false | false => nodupN r

/-- Does a value lead to no memory? -/
def flat1 : PV → Bool
  | .any | .undef | .bool _ | .int _ _ | .str _ | .nilp | .nul | .ro [] | .fresh _ [] | .nilf | .nili => true
  | _ => false
def flatL : List PV → Bool
  | [] => true
  | v :: r => match flat1 v with | true => flatL r | false => false
def flat2 : PV → Bool
  | .agg cs => flatL cs
  | v => flat1 v
def flat2L : List PV → Bool
  | [] => true
  | v :: r => match flat2 v with | true => flat2L r | false => false
def flatv : PV → Bool
  | .tuple vs => flat2L vs
  | v => flat2 v

/-- A slice that comes with its memory is the call's own, where the call says so, or is read alone. -/
def adopt (hints : List (Nat × Nat)) (i : Nat) : PV → PV × List (Nat × Blk)
  | .fresh sz rows => match hints with
    | [] => (.ro rows, [])
    | (j, id) :: r => match Nat.beq j i with
      | true => (.own id 0 rows.length rows.length, [(id, .arr sz rows)])
      | false => adopt r i (.fresh sz rows)
  | v => (v, [])
def adoptL (hints : List (Nat × Nat)) : Nat → List PV → List PV × List (Nat × Blk)
  | _, [] => ([], [])
  | i, v :: r => ((adopt hints i v).1 :: (adoptL hints (i + 1) r).1, (adopt hints i v).2 ++ (adoptL hints (i + 1) r).2)
def adoptR (hints : List (Nat × Nat)) : PV → PV × List (Nat × Blk)
  | .tuple vs => (.tuple (adoptL hints 0 vs).1, (adoptL hints 0 vs).2)
  | v => adopt hints 0 v
/-- A lent variable comes back: its cells, and the blocks of those that come with memory. -/
def takeC (base : Nat) : Nat → List PV → List PV × List (Nat × Blk)
  | _, [] => ([], [])
  | j, .fresh sz rows :: r => (.own (base + j) 0 rows.length rows.length :: (takeC base (j + 1) r).1, (base + j, .arr sz rows) :: (takeC base (j + 1) r).2)
  | j, v :: r => (v :: (takeC base (j + 1) r).1, (takeC base (j + 1) r).2)
def takeL (base : Nat) : List Nat → List (List PV) → List (Nat × Blk)
  | id :: r, cs :: s => (id, .box (takeC base 0 cs).1) :: (takeC base 0 cs).2 ++ takeL (base + 100) r s
  | _, _ => []
def deads : List Nat → List (Nat × Blk)
  | [] => []
  | i :: r => (i, .dead) :: deads r
/-- The blocks that were shown are written no more. -/
def frees (H : Heap) : List Nat → Option (List (Nat × Blk))
  | [] => some []
  | i :: r => match hget H i, frees H r with
    | some (.arr sz rows), some u => some ((i, .froz sz rows) :: u)
    | some (.froz _ _), some u => some u
    | _, _ => none
def newIds (H : Heap) : List (Nat × Blk) → List Nat → Bool
  | [], _ => true
  | (i, _) :: r, seen => match hget H i with
    | some _ => false
    | none => match memN i seen with
      | true => false
      | false => newIds H r (i :: seen)

def sameLen (a : List Nat) (b : List (List PV)) : Bool := Nat.beq a.length b.length

/-- Is each of some blocks there? -/
def hasAll (H : Heap) : List Nat → Bool
  | [] => true
  | i :: r => match hget H i with
    | some .dead => false
    | some _ => hasAll H r
    | none => false

/-- What is shown is written no more, but where the answer leads to no memory. -/
def frz (H : Heap) (seen : List Nat) (r : PV) (ios : List (List PV)) : Option (List (Nat × Blk)) :=
  match flatv r, ios with
  | true, [] => some []
  | _, _ => frees H seen

/-- Behind a call. -/
def back (H : Heap) (a : Args) (hints : List (Nat × Nat)) (base : Nat) (r : PV) (ios : List (List PV)) : Option Eff :=
  match apartN a.gone a.seen, apartN a.lent a.seen, nodupN (a.gone ++ a.lent), sameLen a.lent ios, hasAll H (a.gone ++ a.lent ++ a.seen) with
  | true, true, true, true, true =>
    match frz H a.seen r ios with
    | some fr =>
      let (v, u) := adoptR hints r
      let b := takeL base a.lent ios
      match newIds H (u ++ b.filter fun p => !memN p.1 a.lent) [] with
      | true => some ⟨v, deads a.gone ++ fr ++ u ++ b, a.gone ++ a.seen ++ a.lent⟩
      | false => none
    | none => none
  | _, _, _, _, _ => none

def cellOK : PV → Bool
  | .ptr _ _ | .eptr _ _ _ _ | .own _ _ _ _ | .fresh _ _ | .io _ | .func _ _ | .iface _ _ | .agg _ | .tuple _ | .nul => false
  | _ => true

/-- Rows for memory that holds plain values alone: a value's cells, made plain. -/
def rowOf (H : Heap) (v : PV) : Option (List PV × List Nat) :=
  match mcells v with
  | some cs => cloL H cs
  | none => none
def rowsOf (H : Heap) (esz : Nat) : List PV → Option (List (List PV) × List Nat)
  | [] => some ([], [])
  | v :: r => match rowOf H v with
    | some (a, x) => match Nat.beq a.length esz, rowsOf H esz r with
      | true, some (b, y) => some (a :: b, x ++ y)
      | _, _ => none
    | none => none

/-- Has each row so many cells? -/
def szOK (n : Nat) : List (List PV) → Bool
  | [] => true
  | r :: s => match Nat.beq r.length n with
    | true => szOK n s
    | false => false

/-- The rows that an append takes: of a slice, or of a text. -/
def rowsIn (H : Heap) (esz : Nat) : PV → Option (List (List PV) × List Nat)
  | .nul => some ([], [])
  | .ro rows => match szOK esz rows with
    | true => some (rows, [])
    | false => none
  | .own id off len cl => match hget H id with
    | some (.arr sz rows) | some (.froz sz rows) => match Nat.beq rows.length cl, Nat.beq sz esz with
      | true, true => some ((rows.drop off).take len, [id])
      | _, _ => none
    | _ => none
  | .str s => some (s.map fun b => [.int .u8 b.toNat], [])
  | _ => none

def intsOf : List PV → Option (List Int)
  | [] => some []
  | .int .i64 n :: r => (intsOf r).map (n :: ·)
  | _ :: _ => none
def leastOf : Int → List Int → Int
  | x, [] => x
  | x, y :: r => leastOf (if y < x then y else x) r
def mostOf : Int → List Int → Int
  | x, [] => x
  | x, y :: r => mostOf (if y > x then y else x) r

def bytesOf : List (List PV) → Option (List UInt8)
  | [] => some []
  | [.int .u8 n] :: r => (bytesOf r).map (UInt8.ofNat n.toNat :: ·)
  | _ :: _ => none

def opds (cx : Cx) (env : Env) : List Opd → List PV
  | [] => []
  | x :: r => opd cx env x :: opds cx env r

/-- An index, within a bound. -/
def within (v : PV) (least most : Nat) : Option Nat :=
  match v with
  | .int _ n => if (least : Int) ≤ n then if n ≤ (most : Int) then some n.toNat else none else none
  | _ => none
def bound (ρ : Opd → PV) (x : Option Opd) (least most dflt : Nat) : Option Nat :=
  match x with
  | none => some dflt
  | some x => within (ρ x) least most

def lookF (t : TypeId) : List (TypeId × FuncId) → Option FuncId
  | [] => none
  | (u, f) :: r => match Nat.beq u t with | true => some f | false => lookF t r

def evCall (cx : Cx) (H : Heap) (f : FuncId) (a : Args) (pre post : List PV) (hints : List (Nat × Nat)) (base : Nat) : Option Eff :=
  match cx.call f (pre ++ a.vs ++ post) with
  | some (r, ios) => back H a hints base r ios
  | none => none

/-- Is a view of a block not older than the block's last growth? -/
def validO (H : Heap) (id cl : Nat) : Bool :=
  match hget H id with
  | some (.arr _ rows) | some (.froz _ rows) => Nat.beq rows.length cl
  | _ => false

/-- Where a slice expression has a lower bound: have the rows the cells that their type has? -/
def shifts (esz : Nat) (lo : Option Opd) (rows : List (List PV)) : Bool :=
  match lo with
  | none => true
  | some _ => szOK esz rows

def isStrV : PV → Bool
  | .str _ => true
  | _ => false

def evOp (cx : Cx) (env : Env) (H : Heap) : IOp → Option Eff
  | .mov x => some ⟨opd cx env x, [], []⟩
  | .pick c a b => match opd cx env c with
    | .bool c => match c with | true => some ⟨opd cx env a, [], []⟩ | false => some ⟨opd cx env b, [], []⟩
    | _ => none
  | .alloc id z => match hget H id with | none => some ⟨.ptr id 0, [(id, .box z)], []⟩ | _ => none
  | .box id x => match hget H id, mcells (opd cx env x) with
    | none, some cs => some ⟨.ptr id 0, [(id, .box cs)], []⟩
    | _, _ => none
  | .build z ps => match fillc (opd cx env) ps z with
    | some cs => some ⟨.agg cs, [], []⟩
    | none => none
  | .bslice id esz ps => match hget H id, rowsOf H esz (opds cx env ps) with
    | none, some (rows, x) => match frees H x with
      | some fr => match rows with
        | [] => some ⟨.nul, [], [id]⟩
        | rows => some ⟨.own id 0 rows.length rows.length, (id, .arr esz rows) :: fr, x⟩
      | none => none
    | _, _ => none
  | .load sz agg a => match opd cx env a with
    | .ptr id j => match hget H id with
      | some (.box cells) => match rdc cells j sz agg with | some v => some ⟨v, [], [id]⟩ | none => none
      | _ => none
    | .eptr id i j cl => match hget H id with
      | some (.arr _ rows) | some (.froz _ rows) => match Nat.beq rows.length cl, rows[i]? with
        | true, some row => match rdc row j sz agg with | some v => some ⟨v, [], [id]⟩ | none => none
        | _, _ => none
      | _ => none
    | .rptr cells => match rdc cells 0 sz agg with | some v => some ⟨v, [], []⟩ | none => none
    | _ => none
  | .store sz a x => match opd cx env a with
    | .ptr id j => match hget H id with
      | some (.box cells) => match mcells (opd cx env x) with
        | some cs => match Nat.beq cs.length sz, Nat.ble (j + sz) cells.length with
          | true, true => some ⟨.undef, [(id, .box (splice cells j cs))], []⟩
          | _, _ => none
        | none => none
      | _ => none
    | .eptr id i j cl => match hget H id with
      | some (.arr esz rows) => match Nat.beq rows.length cl, rows[i]?, rowOf H (opd cx env x) with
        | true, some row, some (cs, x) => match frees H x, memN id x, Nat.beq cs.length sz, Nat.ble (j + sz) row.length with
          | some fr, false, true, true => some ⟨.undef, (id, .arr esz (rows.set i (splice row j cs))) :: fr, x⟩
          | _, _, _, _ => none
        | _, _, _ => none
      | _ => none
    | _ => none
  | .nilchk x => match opd cx env x with
    | .ptr id j => some ⟨.ptr id j, [], []⟩
    | .eptr id i j cl => match validO H id cl with
      | true => some ⟨.eptr id i j cl, [], [id]⟩
      | false => none
    | .rptr cells => some ⟨.rptr cells, [], []⟩
    | .func f cs => some ⟨.func f cs, [], []⟩
    | .iface t v => some ⟨.iface t v, [], []⟩
    | _ => none
  | .bin op x y => match binv op (opd cx env x) (opd cx env y) with | some v => some ⟨v, [], []⟩ | none => none
  | .eq neg agg ks x y => match eqcells agg (opd cx env x), eqcells agg (opd cx env y) with
    | some p, some q => match eqk ks p q with
      | some b => some ⟨.bool (flip neg b), [], []⟩
      | none => none
    | _, _ => none
  | .eqn neg x => match isnil (opd cx env x) with
    | some b => some ⟨.bool (flip neg b), [], []⟩
    | none => none
  | .un op x => match unv op (opd cx env x) with | some v => some ⟨v, [], []⟩ | none => none
  | .toInt k x => match opd cx env x with | .int _ n => some ⟨.int k (k.wrap n), [], []⟩ | _ => none
  | .same x => match opd cx env x with | .str s => some ⟨.str s, [], []⟩ | _ => none
  | .toBytes x => match opd cx env x with
    | .str s => some ⟨.ro (s.map fun b => [.int .u8 b.toNat]), [], []⟩
    | _ => none
  | .toStr x => match isStrV (opd cx env x), rowsIn H 1 (opd cx env x) with
    | false, some (rows, ids) => match bytesOf rows with
      | some s => some ⟨.str s, [], ids⟩
      | none => none
    | _, _ => none
  | .mkf f caps => match allCell (opds cx env caps) with | true => some ⟨.func f (opds cx env caps), [], []⟩ | false => none
  | .mki t x => some ⟨.iface t (opd cx env x), [], []⟩
  | .mksl id esb z l c => match opd cx env l, opd cx env c, hget H id with
    | .int .i64 n, .int .i64 m, none =>
      if 0 < n then if n ≤ m then if m * esb ≤ 140737488355328 then
        some ⟨.own id 0 n.toNat n.toNat, [(id, .arr z.length (List.replicate n.toNat z))], []⟩ else none else none
      else if m = 0 then if n = 0 then some ⟨.nul, [], [id]⟩ else none else none
    | _, _, _ => none
  | .slcS x lo hi => match opd cx env x with
    | .str s => match bound (opd cx env) hi 0 s.length s.length with
      | some h => match bound (opd cx env) lo 0 h 0 with
        | some l => some ⟨.str ((s.take h).drop l), [], []⟩
        | none => none
      | none => none
    | _ => none
  | .slc esz x lo hi mx => match opd cx env x with
    | .nul => match bound (opd cx env) mx 0 0 0, bound (opd cx env) hi 0 0 0, bound (opd cx env) lo 0 0 0 with
      | some _, some _, some _ => some ⟨.nul, [], []⟩
      | _, _, _ => none
    | .ro rows => match shifts esz lo rows, bound (opd cx env) mx 0 rows.length rows.length with
      | true, some m => match bound (opd cx env) hi 0 m rows.length with
        | some h => match bound (opd cx env) lo 0 h 0 with
          | some l => match mx with
            | none => some ⟨.ro ((rows.take h).drop l), [], []⟩
            | some _ => match Nat.beq m l with
              | true => some ⟨.nul, [], []⟩
              | false => some ⟨.ro ((rows.take h).drop l), [], []⟩
          | none => none
        | none => none
      | _, _ => none
    | .own id off len cl => match hget H id with
      | some (.arr sz rows) | some (.froz sz rows) => match Nat.beq rows.length cl, Nat.beq sz esz, bound (opd cx env) mx 0 len len with
        | true, true, some m => match bound (opd cx env) hi 0 m len with
          | some h => match bound (opd cx env) lo 0 h 0 with
            | some l => match mx with
              | none => some ⟨.own id (off + l) (h - l) cl, [], [id]⟩
              | some _ => match Nat.beq m l with
                | true => some ⟨.nul, [], [id]⟩
                | false => some ⟨.any, [], [id]⟩
            | none => none
          | none => none
        | _, _, _ => none
      | _ => none
    | _ => none
  | .faddr off x => match opd cx env x with
    | .ptr id j => some ⟨.ptr id (j + off), [], []⟩
    | .eptr id i j cl => match validO H id cl with
      | true => some ⟨.eptr id i (j + off) cl, [], [id]⟩
      | false => none
    | .rptr cells => match Nat.ble off cells.length with | true => some ⟨.rptr (cells.drop off), [], []⟩ | false => none
    | _ => none
  | .field off sz agg x => match opd cx env x with
    | .agg cs => match rdc cs off sz agg with | some v => some ⟨v, [], []⟩ | none => none
    | _ => none
  | .iaddr esz x ix => match opd cx env x, opd cx env ix with
    | .ro rows, .int _ n => if 0 ≤ n then match rows[n.toNat]? with
        | some row => match Nat.beq row.length esz with | true => some ⟨.rptr row, [], []⟩ | false => none
        | none => none else none
    | .own id off len cl, .int _ n => if 0 ≤ n then if n < (len : Int) then match hget H id with
        | some (.arr sz rows) | some (.froz sz rows) => match Nat.beq rows.length cl, Nat.beq sz esz with
          | true, true => some ⟨.eptr id (off + n.toNat) 0 cl, [], [id]⟩
          | _, _ => none
        | _ => none else none else none
    | _, _ => none
  | .iaddrA n esz x ix => match opd cx env x, opd cx env ix with
    | .ptr id j, .int _ q => if 0 ≤ q then if q < (n : Int) then some ⟨.ptr id (j + q.toNat * esz), [], []⟩ else none else none
    | .eptr id i j cl, .int _ q => if 0 ≤ q then if q < (n : Int) then match validO H id cl with
        | true => some ⟨.eptr id i (j + q.toNat * esz) cl, [], [id]⟩
        | false => none else none else none
    | .rptr cells, .int _ q => if 0 ≤ q then if q < (n : Int) then match Nat.ble (q.toNat * esz) cells.length with
        | true => some ⟨.rptr (cells.drop (q.toNat * esz)), [], []⟩ | false => none else none else none
    | _, _ => none
  | .idxA n esz agg x ix => match opd cx env x, opd cx env ix with
    | .agg cs, .int _ q => if 0 ≤ q then if q < (n : Int) then match rdc cs (q.toNat * esz) esz agg with
        | some v => some ⟨v, [], []⟩ | none => none else none else none
    | _, _ => none
  | .idxS x ix => match opd cx env x, opd cx env ix with
    | .str s, .int _ n => if 0 ≤ n then match s[n.toNat]? with | some b => some ⟨.int .u8 b.toNat, [], []⟩ | none => none else none
    | _, _ => none
  | .ext x i => match opd cx env x with
    | .tuple vs => (match vs[i]? with | some v => some ⟨v, [], []⟩ | none => none)
    | _ => none
  | .len x => match opd cx env x with
    | .ro rows => some ⟨.int .i64 rows.length, [], []⟩
    | .own id _ n cl => match validO H id cl with
      | true => some ⟨.int .i64 n, [], [id]⟩
      | false => none
    | .nul => some ⟨.int .i64 0, [], []⟩
    | _ => none
  | .lenS x => match opd cx env x with
    | .str s => some ⟨.int .i64 s.length, [], []⟩
    | _ => none
  | .lenA n _ => some ⟨.int .i64 n, [], []⟩
  | .app id esz esb x y => match rowsIn H esz (opd cx env y) with
    | some (new, ids) => match opd cx env x with
      | .nul => match new with
        | [] => some ⟨.nul, [], ids⟩
        | new => if new.length * esb ≤ 140737488355328 then match hget H id, szOK esz new with
          | none, true => some ⟨.own id 0 new.length new.length, [(id, .arr esz new)], ids⟩
          | _, _ => none else none
      | .ro rows => match new with
        | [] => some ⟨.ro rows, [], ids⟩
        | _ => none
      | .own b off len cl => match hget H b with
        | some (.arr sz rows) => match Nat.beq rows.length cl && Nat.beq sz esz && szOK esz new with
          | true => if off + len + new.length ≤ cl then
              some ⟨.own b off (len + new.length) cl, [(b, .arr esz (rows.take (off + len) ++ new ++ rows.drop (off + len + new.length)))], ids⟩
            else match Nat.beq off 0, Nat.beq len cl with
              | true, true => if (len + new.length) * esb ≤ 140737488355328 then
                  some ⟨.own b 0 (len + new.length) (len + new.length), [(b, .arr esz (rows ++ new))], ids⟩ else none
              | _, _ => none
          | false => none
        | _ => none
      | _ => none
    | none => none
  | .copy esz x y => match rowsIn H esz (opd cx env y) with
    | some (new, ids) => match opd cx env x with
      | .nul => match szOK esz new with
        | true => some ⟨.int .i64 0, [], ids⟩
        | false => none
      | .own b off len cl => match hget H b with
        | some (.arr sz rows) => match Nat.beq rows.length cl && Nat.beq sz esz && szOK esz new with
          | true => let n := min new.length len
            some ⟨.int .i64 n, [(b, .arr esz (rows.take off ++ new.take n ++ rows.drop (off + n)))], ids⟩
          | false => none
        | _ => none
      | _ => none
    | none => none
  | .clear esz z x => match opd cx env x with
    | .nul => some ⟨.tuple [], [], []⟩
    | .own b off len cl => match hget H b with
      | some (.arr sz rows) => match Nat.beq rows.length cl && Nat.beq sz esz && Nat.beq z.length esz with
        | true => some ⟨.tuple [], [(b, .arr esz (rows.take off ++ List.replicate len z ++ rows.drop (off + len)))], []⟩
        | false => none
      | _ => none
    | _ => none
  | .least xs => match intsOf (opds cx env xs) with
    | some (x :: r) => some ⟨.int .i64 (leastOf x r), [], []⟩
    | _ => none
  | .most xs => match intsOf (opds cx env xs) with
    | some (x :: r) => some ⟨.int .i64 (mostOf x r), [], []⟩
    | _ => none
  | .call f as hints base => match args1 H (opd cx env) as with
    | some a => evCall cx H f a [] [] hints base
    | none => none
  | .callv fx as hints base => match clo2 H (opd cx env fx), args1 H (opd cx env) as with
    | some (.func f cs, x), some a => evCall cx H f { a with seen := x ++ a.seen } [] cs hints base
    | _, _ => none
  | .inv x tab as hints base => match clo2 H (opd cx env x), args1 H (opd cx env) as with
    | some (.iface t v, x), some a => match lookF t tab with
      | some f => evCall cx H f { a with seen := x ++ a.seen } [v] [] hints base
      | none => none
    | _, _ => none
  | .rng id x => match opd cx env x, hget H id with
    | .str s, none => some ⟨.ptr id 0, [(id, .iter s 0)], []⟩
    | _, _ => none
  | .nxt x => match opd cx env x with
    | .ptr id 0 => match hget H id with
      | some (.iter s pos) => if pos < s.length then
          let d := Utf8.decode ⟨s.toArray⟩ pos
          some ⟨.tuple [.bool true, .int .i64 pos, .int .i32 d.1], [(id, .iter s (pos + d.2))], []⟩
        else some ⟨.tuple [.bool false], [], [id]⟩
      | _ => none
    | _ => none
  | .tas t comma z x => match opd cx env x with
    | .iface u v => match Nat.beq u t with
      | true => match comma with | true => some ⟨.tuple [v, .bool true], [], []⟩ | false => some ⟨v, [], []⟩
      | false => match comma with | true => some ⟨.tuple [z, .bool false], [], []⟩ | false => none
    | .nili => match comma with | true => some ⟨.tuple [z, .bool false], [], []⟩ | false => none
    | _ => none
  | .stop => none

def put (env : Env) : Option Nat → PV → Env
  | some d, v => (d, v) :: env
  | none, _ => env

/-- Is an operation wanted? -/
def wants (env : Env) : Option (Nat × Bool) → Option Bool
  | none => some true
  | some (g, want) => match getT env g with
    | .bool b => match want with | true => some b | false => some (!b)
    | .undef => some false
    | _ => none

def evOps (cx : Cx) : List Opn → Env → Heap → Option (Env × Heap)
  | [], env, H => some (env, H)
  | o :: os, env, H => match wants env o.guard with
    | some b => match b with
      | true => match evOp cx env H o.op with
        | some e => evOps cx os (put env o.dst e.v) (hsets e.upd H)
        | none => none
      | false => evOps cx os (put env o.dst .undef) H
    | none => none

/-- The same, with what each operation looked at and set. -/
def keys : List (Nat × Blk) → List Nat
  | [] => []
  | (i, _) :: r => i :: keys r
def evOpsD (cx : Cx) : List Opn → Env → Heap → Option ((Env × Heap) × List (List Nat × List Nat))
  | [], env, H => some ((env, H), [])
  | o :: os, env, H => match wants env o.guard with
    | some b => match b with
      | true => match evOp cx env H o.op with
        | some e => match evOpsD cx os (put env o.dst e.v) (hsets e.upd H) with
          | some (st, l) => some (st, (e.rd, keys e.upd) :: l)
          | none => none
        | none => none
      | false => match evOpsD cx os (put env o.dst .undef) H with
        | some (st, l) => some (st, ([], []) :: l)
        | none => none
    | none => none
def apartFP (a b : List Nat × List Nat) : Bool :=
  match apartN a.2 b.1, apartN a.2 b.2, apartN b.2 a.1 with
  | true, true, true => true
  | _, _, _ => false
def apartAll (l : List (List Nat × List Nat)) : List (Nat × Nat) → Bool
  | [] => true
  | (i, j) :: r => match l[i]?, l[j]? with
    | some a, some b => match apartFP a b with | true => apartAll l r | false => false
    | _, _ => false

/-- What is kept at a place where the rest is forgotten. -/
def ment1 (ids : List Nat) : PV → Bool
  | .ptr id _ | .eptr id _ _ _ | .own id _ _ _ => memN id ids
  | .func _ _ | .iface _ _ | .agg _ | .tuple _ | .fresh _ _ | .io _ => false
  | _ => true
def mentL (ids : List Nat) : List PV → Bool
  | [] => true
  | v :: r => match ment1 ids v with | true => mentL ids r | false => false
def ment (ids : List Nat) : PV → Bool
  | .agg cs => mentL ids cs
  | .tuple cs => mentL ids cs
  | .func _ cs => mentL ids cs
  | .iface _ (.agg cs) => mentL ids cs
  | .iface _ v => ment1 ids v
  | v => ment1 ids v
def keepE (ids : List Nat) (env : Env) : List Nat → Option Env
  | [] => some []
  | t :: r => match ment ids (getT env t), keepE ids env r with
    | true, some e => some ((t, getT env t) :: e)
    | _, _ => none
def keepH (ids : List Nat) (H : Heap) : List Nat → Option Heap
  | [] => some []
  | i :: r => match hget H i, keepH ids H r with
    | some (.box cs), some h => match mentL ids cs with | true => some ((i, .box cs) :: h) | false => none
    | some b, some h => some ((i, b) :: h)
    | none, some h => some h
    | _, none => none

inductive Gh where
  /-- these temporaries and blocks are kept, the rest is forgotten -/
  | keep (ts ids : List Nat)
  /-- a slice without room in a temporary is a block -/
  | room (t id esz : Nat)
  /-- the slice in a variable's cell is the block of that number -/
  | roomC (b j id esz : Nat)

def evGh : Gh → Env → Heap → Option (Env × Heap)
  | .keep ts ids, env, H => match keepE ids env ts, keepH ids H ids with
    | some e, some h => match nodupN ids with | true => some (e, h) | false => none
    | _, _ => none
  | .room t id esz, env, H => match getT env t, hget H id with
    | .nul, none => some ((t, .own id 0 0 0) :: env, hset H id (.arr esz []))
    | _, _ => some (env, H)
  | .roomC b j id esz, env, H => match hget H b with
    | some (.box cells) => match cells[j]? with
      | some .nul => match hget H id with
        | none => some (env, hset (hset H b (.box (cells.set j (.own id 0 0 0)))) id (.arr esz []))
        | _ => none
      | some (.own x off len cl) => match Nat.beq x id with
        | true => some (env, H)
        | false => match hget H x, hget H id with
          | some (.arr sz rows), none => match Nat.beq rows.length cl, Nat.beq off 0, Nat.beq len cl with
            | true, true, true => some (env, hset (hset (hset H b (.box (cells.set j (.own id 0 len cl)))) x .dead) id (.arr sz rows))
            | _, _, _ => none
          | _, _ => none
      | _ => none
    | _ => none

inductive IC where
  | skip
  | reg (ops : List Opn)
  | dreg (ops : List Opn) (chk : List (Nat × Nat))
  | gh (g : Gh)
  | seq (a b : IC)
  | cond (c : Opd) (a b : IC)
  | block (id : Nat) (b : IC)
  | loop (b : IC)
  | exit (id : Nat)
  | ret
  | stop

inductive Ex where | nor | exit (id : Nat) | ret

abbrev Out := Option (Ex × Env × Heap)
abbrev Looper := (Env → Heap → Out) → Env → Heap → Out

def evCode (cx : Cx) (L : Looper) : IC → Env → Heap → Out
  | .skip, env, H => some (.nor, env, H)
  | .reg ops, env, H => match evOps cx ops env H with
    | some (env, H) => some (.nor, env, H)
    | none => none
  | .dreg ops chk, env, H => match evOpsD cx ops env H with
    | some ((env, H), l) => match apartAll l chk with | true => some (.nor, env, H) | false => none
    | none => none
  | .gh g, env, H => match evGh g env H with
    | some (env, H) => some (.nor, env, H)
    | none => none
  | .seq a b, env, H => match evCode cx L a env H with
    | some (.nor, env, H) => evCode cx L b env H
    | r => r
  | .cond c a b, env, H => match opd cx env c with
    | .bool c => match c with | true => evCode cx L a env H | false => evCode cx L b env H
    | _ => none
  | .block id b, env, H => match evCode cx L b env H with
    | some (.exit i, env, H) => match Nat.beq i id with | true => some (.nor, env, H) | false => some (.exit i, env, H)
    | r => r
  | .loop b, env, H => L (evCode cx L b) env H
  | .exit id, env, H => some (.exit id, env, H)
  | .ret, env, H => some (.ret, env, H)
  | .stop, _, _ => none

/-- So many rounds at most. -/
def iter : Nat → Looper
  | 0, _, _, _ => none
  | n + 1, f, env, H => match f env H with
    | some (.nor, env, H) => iter n f env H
    | r => r

/-- A function: its parameters, its results' temporaries; are its results read alone (an empty list), or handed over with their memory (rows of so many cells)? and for a variable that is lent, its slices' cells. -/
inductive Res where
  | t (i : Nat)
  | m (i sz : Nat) (agg : Bool)
structure IFn where
  np : Nat
  res : List Res
  gives : List Nat
  lent : List (List Nat)
  body : IC

/-- The arguments as they come in. -/
def enterC (base : Nat) : Nat → List PV → List PV × List (Nat × Blk)
  | _, [] => ([], [])
  | j, .fresh sz rows :: r => (.own (base + j) 0 rows.length rows.length :: (enterC base (j + 1) r).1, (base + j, .arr sz rows) :: (enterC base (j + 1) r).2)
  | j, v :: r => (v :: (enterC base (j + 1) r).1, (enterC base (j + 1) r).2)
def enter : Nat → List PV → Env × Heap
  | _, [] => ([], [])
  | p, .fresh sz rows :: r => ((p, .own p 0 rows.length rows.length) :: (enter (p + 1) r).1, (p, .arr sz rows) :: (enter (p + 1) r).2)
  | p, .io cs :: r => ((p, .ptr p 0) :: (enter (p + 1) r).1, (p, .box (enterC (100 * (p + 1)) 0 cs).1) :: (enterC (100 * (p + 1)) 0 cs).2 ++ (enter (p + 1) r).2)
  | p, v :: r => ((p, v) :: (enter (p + 1) r).1, (enter (p + 1) r).2)
def lentOf : Nat → List PV → List (List Nat) → List (Nat × List Nat)
  | _, [], _ => []
  | p, .io _ :: r, [] => (p, []) :: lentOf (p + 1) r []
  | p, .io _ :: r, z :: zs => (p, z) :: lentOf (p + 1) r zs
  | p, _ :: r, [] => lentOf (p + 1) r []
  | p, _ :: r, _ :: zs => lentOf (p + 1) r zs

/-- A result on its way out: the value, the blocks that go with it, the blocks that are shown. -/
def give1 (gives : Option Nat) (H : Heap) (v : PV) : Option (PV × List Nat × List Nat) :=
  match gives, v with
  | some esz, .nul => some (.fresh esz [], [], [])
  | some esz, .own id off len cl => match mov1 H esz (.own id off len cl) with
    | some (a, x) => some (a, x, [])
    | none => none
  | _, v => match clo2 H v with
    | some (a, x) => some (a, [], x)
    | none => none
def gives1 (H : Heap) : List Nat → List PV → Option (List PV × List Nat × List Nat)
  | _, [] => some ([], [], [])
  | [], v :: r => match give1 none H v with
    | some (a, x, s) => match gives1 H [] r with
      | some (b, y, t) => some (a :: b, x ++ y, s ++ t)
      | none => none
    | none => none
  | z :: zs, v :: r => match give1 (some z) H v with
    | some (a, x, s) => match gives1 H zs r with
      | some (b, y, t) => some (a :: b, x ++ y, s ++ t)
      | none => none
    | none => none
def lends (H : Heap) : List (Nat × List Nat) → Option (List (List PV) × List Nat × List Nat)
  | [] => some ([], [], [])
  | (i, zs) :: r => match hget H i with
    | some (.box cells) => match movCs H zs cells with
      | some (a, x, s) => match lends H r with
        | some (b, y, t) => some (a :: b, i :: x ++ y, s ++ t)
        | none => none
      | none => none
    | _ => none

def getR (env : Env) (H : Heap) : Res → PV
  | .t i => getT env i
  | .m i sz agg => match getT env i with
    | .ptr id j => match hget H id with
      | some (.box cells) => match rdc cells j sz agg with | some v => v | none => .io []
      | _ => .io []
    | _ => .io []

def leave (f : IFn) (args : List PV) (env : Env) (H : Heap) : Option (PV × List (List PV)) :=
  match gives1 H f.gives (f.res.map (getR env H)), lends H (lentOf 0 args f.lent) with
  | some (vs, x, s), some (ios, y, t) =>
    match nodupN (x ++ y), apartN (x ++ y) (s ++ t), hasAll H (x ++ y ++ (s ++ t)) with
    | true, true, true => match vs with
      | [v] => some (v, ios)
      | vs => some (.tuple vs, ios)
    | _, _, _ => none
  | _, _ => none

def evFn (cx : Cx) (L : Looper) (f : IFn) (args : List PV) : Option (PV × List (List PV)) :=
  match Nat.beq args.length f.np with
  | true => match evCode cx L f.body (enter 0 args).1 (enter 0 args).2 with
    | some (.nor, env, H) | some (.ret, env, H) => leave f args env H
    | _ => none
  | false => none

end Go.Ev
