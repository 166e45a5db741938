/-
  Part 1 of the proof.
-/
import GoSem.Core.View
import GoSem.Core.Utf8
import Derived.WalkKit
import Derived.Laws.CopyRow
import Derived.Laws.StructEq
import Derived.Great.BuildSlice
import Derived.Laws.AppendOwn
import Derived.Laws.RangeString
namespace Go.Ev
open Go
set_option linter.unusedSectionVars false
set_option linter.unusedSimpArgs false
set_option linter.unusedVariables false
inductive PV where
  | any
  | undef
  | bool (b : Bool)
  | int (k : IntKind) (n : Int)
  | str (s : List UInt8)
  | nilp
  | ptr (id j : Nat)
  | eptr (id i j cl : Nat)
  | rptr (cells : List PV)
  | nul
  | nils
  | emp
  | ro (rows : List (List PV))
  | own (id off len cl : Nat)
  | fresh (sz : Nat) (rows : List (List PV))
  | io (cells : List PV)
  | func (f : FuncId) (captured : List PV)
  | nilf
  | iface (t : TypeId) (v : PV)
  | nili
  | agg (cells : List PV)
  | tuple (vs : List PV)
  deriving Inhabited
inductive Blk where
  | box (cells : List PV)
  | arr (sz : Nat) (rows : List (List PV))
  | froz (sz : Nat) (rows : List (List PV))
  | iter (s : List UInt8) (pos : Nat)
  | dead
  deriving Inhabited
abbrev Heap := List (Nat × Blk)
abbrev Env := List (Nat × PV)
def hget : Heap → Nat → Option Blk
  | [], _ => none
  | (k, b) :: r, i => match Nat.beq k i with | true => some b | false => hget r i
def hset : Heap → Nat → Blk → Heap
  | [], i, b => [(i, b)]
  | (k, c) :: r, i, b => match Nat.beq k i with | true => (k, b) :: r | false => (k, c) :: hset r i b
def hsets : List (Nat × Blk) → Heap → Heap
  | [], H => H
  | (i, b) :: r, H => hsets r (hset H i b)
def getT : Env → Nat → PV
  | [], _ => .any
  | (k, v) :: r, i => match Nat.beq k i with | true => v | false => getT r i
inductive Opd where
  | t (i : Nat)
  | c (v : PV)
  | g (i : Nat)
structure Cx where
  call : FuncId → List PV → Option (PV × List (List PV))
  glob : Nat → List PV
def opd (cx : Cx) (env : Env) : Opd → PV
  | .t i => getT env i
  | .c v => v
  | .g i => .rptr (cx.glob i)
inductive EK where | i | b | s
  deriving DecidableEq
inductive Mode where
  | shut
  | move (esz : Nat)
  | lend (szs : List Nat)
inductive IOp where
  | mov (x : Opd)
  | pick (c a b : Opd)
  | alloc (id : Nat) (zero : List PV)
  | box (id : Nat) (x : Opd)
  | build (zero : List PV) (parts : List (Nat × Nat × Opd))
  | bslice (id esz : Nat) (parts : List Opd)
  | load (sz : Nat) (agg : Bool) (a : Opd)
  | store (sz : Nat) (a x : Opd)
  | nilchk (x : Opd)
  | bin (op : BinOp) (x y : Opd)
  | eq (neg agg : Bool) (ks : List EK) (x y : Opd)
  | eqn (neg : Bool) (x : Opd)
  | isnl (neg : Bool) (x : Opd)
  | un (op : UnOp) (x : Opd)
  | toInt (k : IntKind) (x : Opd)
  | same (x : Opd)
  | toBytes (x : Opd)
  | toStr (x : Opd)
  | mkf (f : FuncId) (caps : List Opd)
  | mki (t : TypeId) (x : Opd)
  | mksl (id esb : Nat) (zero : List PV) (l c : Opd)
  | slcS (x : Opd) (lo hi : Option Opd)
  | slc (esz : Nat) (x : Opd) (lo hi mx : Option Opd)
  | faddr (off : Nat) (x : Opd)
  | field (off sz : Nat) (agg : Bool) (x : Opd)
  | iaddr (esz : Nat) (x ix : Opd)
  | iaddrA (n esz : Nat) (x ix : Opd)
  | idxA (n esz : Nat) (agg : Bool) (x ix : Opd)
  | idxS (x ix : Opd)
  | ext (x : Opd) (i : Nat)
  | len (x : Opd)
  | lenS (x : Opd)
  | lenA (n : Nat) (x : Opd)
  | app (id esz esb : Nat) (x y : Opd)
  | copy (esz : Nat) (x y : Opd)
  | clear (esz : Nat) (zero : List PV) (x : Opd)
  | least (xs : List Opd)
  | most (xs : List Opd)
  | call (f : FuncId) (args : List (Mode × Opd)) (hints : List (Nat × Nat)) (base : Nat)
  | callv (fx : Opd) (args : List (Mode × Opd)) (hints : List (Nat × Nat)) (base : Nat)
  | inv (x : Opd) (tab : List (TypeId × FuncId)) (args : List (Mode × Opd)) (hints : List (Nat × Nat)) (base : Nat)
  | rng (id : Nat) (x : Opd)
  | nxt (x : Opd)
  | tas (t : TypeId) (comma : Bool) (zero : PV) (x : Opd)
  | stop
structure Opn where
  dst : Option Nat
  guard : Option (Nat × Bool)
  op : IOp
structure Eff where
  v : PV
  upd : List (Nat × Blk)
  rd : List Nat
def cellV : PV → Bool
  | .any | .undef | .agg _ | .tuple _ | .fresh _ _ | .io _ => false
  | _ => true
def allCell : List PV → Bool
  | [] => true
  | v :: r => match cellV v with | true => allCell r | false => false
def mcells : PV → Option (List PV)
  | .agg cs => some cs
  | v => match cellV v with | true => some [v] | false => none
def splice : List PV → Nat → List PV → List PV
  | cells, 0, new => new ++ cells.drop new.length
  | [], _ + 1, _ => []
  | c :: r, n + 1, new => c :: splice r n new
def rdc (cells : List PV) (j sz : Nat) (agg : Bool) : Option PV :=
  match agg with
  | true => match Nat.ble (j + sz) cells.length with
    | true => some (.agg ((cells.drop j).take sz))
    | false => none
  | false => cells[j]?
def fillc (ρ : Opd → PV) : List (Nat × Nat × Opd) → List PV → Option (List PV)
  | [], z => some z
  | (o, n, x) :: r, z => match mcells (ρ x) with
    | some cs => match Nat.beq cs.length n, Nat.ble (o + n) z.length with
      | true, true => fillc ρ r (splice z o cs)
      | _, _ => none
    | none => none
def eqk : List EK → List PV → List PV → Option Bool
  | [], [], [] => some true
  | .i :: ks, .int k a :: r, .int l b :: s => if k = l then match eqk ks r s with | some x => some (decide (a = b) && x) | none => none else none
  | .b :: ks, .bool a :: r, .bool b :: s => match eqk ks r s with | some x => some ((a == b) && x) | none => none
  | .s :: ks, .str a :: r, .str b :: s => match eqk ks r s with | some x => some (decide (a = b) && x) | none => none
  | _, _, _ => none
def eqcells (agg : Bool) (v : PV) : Option (List PV) :=
  match agg with
  | false => some [v]
  | true => match v with
    | .agg cs => some cs
    | _ => none
def flip (neg b : Bool) : Bool := match neg with | true => !b | false => b
def isnil : PV → Option Bool
  | .nilp => some true
  | .ptr _ _ => some false
  | .rptr _ => some false
  | .nili => some true
  | .iface _ _ => some false
  | _ => none
def intBin (op : BinOp) (k : IntKind) (a b : Int) : Option PV :=
  match op with
  | .add => some (.int k (k.wrap (a + b)))
  | .sub => some (.int k (k.wrap (a - b)))
  | .mul => some (.int k (k.wrap (a * b)))
  | .quo => if b = 0 then none else some (.int k (k.wrap (a.tdiv b)))
  | .rem => if b = 0 then none else some (.int k (a.tmod b))
  | .and => some (.int k (k.wrap (BitVec.ofInt k.bits a &&& BitVec.ofInt k.bits b).toNat))
  | .or => some (.int k (k.wrap (BitVec.ofInt k.bits a ||| BitVec.ofInt k.bits b).toNat))
  | .xor => some (.int k (k.wrap (BitVec.ofInt k.bits a ^^^ BitVec.ofInt k.bits b).toNat))
  | .andNot => some (.int k (k.wrap (BitVec.ofInt k.bits a &&& ~~~BitVec.ofInt k.bits b).toNat))
  | .lss => some (.bool (decide (a < b)))
  | .leq => some (.bool (decide (a ≤ b)))
  | .gtr => some (.bool (decide (a > b)))
  | .geq => some (.bool (decide (a ≥ b)))
  | _ => none
def binv (op : BinOp) (x y : PV) : Option PV :=
  match op with
  | .shl => match x, y with
    | .int k a, .int _ b => if b < 0 then none else some (.int k (k.wrap (a * 2 ^ (min b.toNat k.bits))))
    | _, _ => none
  | .shr => match x, y with
    | .int k a, .int _ b => if b < 0 then none else some (.int k (a.fdiv (2 ^ (min b.toNat k.bits))))
    | _, _ => none
  | op => match x, y with
    | .int k a, .int l b => if k = l then intBin op k a b else none
    | .str a, .str b => match op with
      | .add => if a.length + b.length ≤ 9223372036854775807 then some (.str (a ++ b)) else none
      | _ => none
    | _, _ => none
def unv : UnOp → PV → Option PV
  | .not, .bool b => some (.bool (!b))
  | .neg, .int k n => some (.int k (k.wrap (0 - n)))
  | .xor, .int k n => some (.int k (k.wrap (BitVec.ofInt k.bits (if k.signed then -1 else k.max) ^^^ BitVec.ofInt k.bits n).toNat))
  | _, _ => none
def clo1 (H : Heap) : PV → Option (PV × List Nat)
  | .nul => some (.ro [], [])
  | .own id off len cl => match hget H id with
    | some (.arr _ rows) | some (.froz _ rows) => match Nat.beq rows.length cl with
      | true => some (.ro ((rows.drop off).take len), [id])
      | false => none
    | _ => none
  | .ptr _ _ => none
  | .eptr _ _ _ _ => none
  | .fresh _ _ => none
  | .io _ => none
  | .func _ _ => none
  | .iface _ _ => none
  | .agg _ => none
  | .tuple _ => none
  | v => some (v, [])
def cloL (H : Heap) : List PV → Option (List PV × List Nat)
  | [] => some ([], [])
  | v :: r => match clo1 H v with
    | some (a, x) => match cloL H r with
      | some (b, y) => some (a :: b, x ++ y)
      | none => none
    | none => none
def cloP (H : Heap) : PV → Option (PV × List Nat)
  | .ptr id j => match hget H id with
    | some (.box cells) => match cloL H cells with
      | some (cs, x) => match Nat.ble j cs.length with
        | true => some (.rptr (cs.drop j), id :: x)
        | false => none
      | none => none
    | _ => none
  | v => clo1 H v
def cloPs (H : Heap) : List PV → Option (List PV × List Nat)
  | [] => some ([], [])
  | v :: r => match cloP H v with
    | some (a, x) => match cloPs H r with
      | some (b, y) => some (a :: b, x ++ y)
      | none => none
    | none => none
def clo2 (H : Heap) : PV → Option (PV × List Nat)
  | .agg cs => (cloL H cs).map fun (a, x) => (.agg a, x)
  | .func f cs => (cloPs H cs).map fun (a, x) => (.func f a, x)
  | .iface t (.agg cs) => (cloL H cs).map fun (a, x) => (.iface t (.agg a), x)
  | .iface t v => (clo1 H v).map fun (a, x) => (.iface t a, x)
  | v => cloP H v
def clo2s (H : Heap) : List PV → Option (List PV × List Nat)
  | [] => some ([], [])
  | v :: r => match clo2 H v with
    | some (a, x) => match clo2s H r with
      | some (b, y) => some (a :: b, x ++ y)
      | none => none
    | none => none
def clo (H : Heap) : PV → Option (PV × List Nat)
  | .tuple vs => (clo2s H vs).map fun (a, x) => (.tuple a, x)
  | v => clo2 H v
def mov1 (H : Heap) (esz : Nat) : PV → Option (PV × List Nat)
  | .nul => some (.fresh esz [], [])
  | .own id off len cl => match hget H id with
    | some (.arr sz rows) => match Nat.beq rows.length cl with
      | true => some (.fresh sz ((rows.drop off).take len), [id])
      | false => none
    | _ => none
  | _ => none
def movC (H : Heap) (esz : Nat) : PV → Option (PV × List Nat × List Nat)
  | .nul => some (.fresh esz [], [], [])
  | .own id off len cl => match mov1 H esz (.own id off len cl) with
    | some (a, x) => some (a, x, [])
    | none => none
  | v => match clo1 H v with
    | some (a, x) => some (a, [], x)
    | none => none
def movCs (H : Heap) : List Nat → List PV → Option (List PV × List Nat × List Nat)
  | _, [] => some ([], [], [])
  | [], v :: r => match movC H 0 v with
    | some (a, x, s) => match movCs H [] r with
      | some (b, y, t) => some (a :: b, x ++ y, s ++ t)
      | none => none
    | none => none
  | z :: zs, v :: r => match movC H z v with
    | some (a, x, s) => match movCs H zs r with
      | some (b, y, t) => some (a :: b, x ++ y, s ++ t)
      | none => none
    | none => none
structure Arg where
  v : PV
  gone : List Nat
  seen : List Nat
  lent : List Nat
def arg1 (H : Heap) : Mode → PV → Option Arg
  | .shut, v => (clo H v).map fun (a, x) => ⟨a, [], x, []⟩
  | .move esz, v => (mov1 H esz v).map fun (a, x) => ⟨a, x, [], []⟩
  | .lend szs, .ptr id 0 => match hget H id with
    | some (.box cells) => (movCs H szs cells).map fun (a, x, s) => ⟨.io a, x, s, [id]⟩
    | _ => none
  | .lend _, _ => none
structure Args where
  vs : List PV
  gone : List Nat
  seen : List Nat
  lent : List Nat
def args1 (H : Heap) (ρ : Opd → PV) : List (Mode × Opd) → Option Args
  | [] => some ⟨[], [], [], []⟩
  | (m, x) :: r => match arg1 H m (ρ x) with
    | some a => match args1 H ρ r with
      | some b => some ⟨a.v :: b.vs, a.gone ++ b.gone, a.seen ++ b.seen, a.lent ++ b.lent⟩
      | none => none
    | none => none
def memN (i : Nat) : List Nat → Bool
  | [] => false
  | k :: r => match Nat.beq k i with | true => true | false => memN i r
def apartN : List Nat → List Nat → Bool
  | [], _ => true
  | i :: r, l => match memN i l with | true => false | false => apartN r l
def nodupN : List Nat → Bool
  | [] => true
  | i :: r => match memN i r with | true => false | false => nodupN r
def flat1 : PV → Bool
  | .any | .undef | .bool _ | .int _ _ | .str _ | .nilp | .nul | .nils | .emp | .ro [] | .fresh _ [] | .nilf | .nili => true
  | _ => false
def flatL : List PV → Bool
  | [] => true
  | v :: r => match flat1 v with | true => flatL r | false => false
def flat2 : PV → Bool
  | .agg cs => flatL cs
  | v => flat1 v
def flat2L : List PV → Bool
  | [] => true
  | v :: r => match flat2 v with | true => flat2L r | false => false
def flatv : PV → Bool
  | .tuple vs => flat2L vs
  | v => flat2 v
def adopt (hints : List (Nat × Nat)) (i : Nat) : PV → PV × List (Nat × Blk)
  | .fresh sz rows => match hints with
    | [] => (.ro rows, [])
    | (j, id) :: r => match Nat.beq j i with
      | true => (.own id 0 rows.length rows.length, [(id, .arr sz rows)])
      | false => adopt r i (.fresh sz rows)
  | v => (v, [])
def adoptL (hints : List (Nat × Nat)) : Nat → List PV → List PV × List (Nat × Blk)
  | _, [] => ([], [])
  | i, v :: r => ((adopt hints i v).1 :: (adoptL hints (i + 1) r).1, (adopt hints i v).2 ++ (adoptL hints (i + 1) r).2)
def adoptR (hints : List (Nat × Nat)) : PV → PV × List (Nat × Blk)
  | .tuple vs => (.tuple (adoptL hints 0 vs).1, (adoptL hints 0 vs).2)
  | v => adopt hints 0 v
def takeC (base : Nat) : Nat → List PV → List PV × List (Nat × Blk)
  | _, [] => ([], [])
  | j, .fresh sz rows :: r => (.own (base + j) 0 rows.length rows.length :: (takeC base (j + 1) r).1, (base + j, .arr sz rows) :: (takeC base (j + 1) r).2)
  | j, v :: r => (v :: (takeC base (j + 1) r).1, (takeC base (j + 1) r).2)
def takeL (base : Nat) : List Nat → List (List PV) → List (Nat × Blk)
  | id :: r, cs :: s => (id, .box (takeC base 0 cs).1) :: (takeC base 0 cs).2 ++ takeL (base + 100) r s
  | _, _ => []
def deads : List Nat → List (Nat × Blk)
  | [] => []
  | i :: r => (i, .dead) :: deads r
def frees (H : Heap) : List Nat → Option (List (Nat × Blk))
  | [] => some []
  | i :: r => match hget H i, frees H r with
    | some (.arr sz rows), some u => some ((i, .froz sz rows) :: u)
    | some (.froz _ _), some u => some u
    | _, _ => none
def newIds (H : Heap) : List (Nat × Blk) → List Nat → Bool
  | [], _ => true
  | (i, _) :: r, seen => match hget H i with
    | some _ => false
    | none => match memN i seen with
      | true => false
      | false => newIds H r (i :: seen)
def sameLen (a : List Nat) (b : List (List PV)) : Bool := Nat.beq a.length b.length
def hasAll (H : Heap) : List Nat → Bool
  | [] => true
  | i :: r => match hget H i with
    | some .dead => false
    | some _ => hasAll H r
    | none => false
def frz (H : Heap) (seen : List Nat) (r : PV) (ios : List (List PV)) : Option (List (Nat × Blk)) :=
  match flatv r, ios with
  | true, [] => some []
  | _, _ => frees H seen
def back (H : Heap) (a : Args) (hints : List (Nat × Nat)) (base : Nat) (r : PV) (ios : List (List PV)) : Option Eff :=
  match apartN a.gone a.seen, apartN a.lent a.seen, nodupN (a.gone ++ a.lent), sameLen a.lent ios, hasAll H (a.gone ++ a.lent ++ a.seen) with
  | true, true, true, true, true =>
    match frz H a.seen r ios with
    | some fr =>
      let (v, u) := adoptR hints r
      let b := takeL base a.lent ios
      match newIds H (u ++ b.filter fun p => !memN p.1 a.lent) [] with
      | true => some ⟨v, deads a.gone ++ fr ++ u ++ b, a.gone ++ a.seen ++ a.lent⟩
      | false => none
    | none => none
  | _, _, _, _, _ => none
def cellOK : PV → Bool
  | .ptr _ _ | .eptr _ _ _ _ | .own _ _ _ _ | .fresh _ _ | .io _ | .func _ _ | .iface _ _ | .agg _ | .tuple _ | .nul => false
  | _ => true
def rowOf (H : Heap) (v : PV) : Option (List PV × List Nat) :=
  match mcells v with
  | some cs => cloL H cs
  | none => none
def rowsOf (H : Heap) (esz : Nat) : List PV → Option (List (List PV) × List Nat)
  | [] => some ([], [])
  | v :: r => match rowOf H v with
    | some (a, x) => match Nat.beq a.length esz, rowsOf H esz r with
      | true, some (b, y) => some (a :: b, x ++ y)
      | _, _ => none
    | none => none
def szOK (n : Nat) : List (List PV) → Bool
  | [] => true
  | r :: s => match Nat.beq r.length n with
    | true => szOK n s
    | false => false
def rowsIn (H : Heap) (esz : Nat) : PV → Option (List (List PV) × List Nat)
  | .nul | .nils | .emp => some ([], [])
  | .ro rows => match szOK esz rows with
    | true => some (rows, [])
    | false => none
  | .own id off len cl => match hget H id with
    | some (.arr sz rows) | some (.froz sz rows) => match Nat.beq rows.length cl, Nat.beq sz esz with
      | true, true => some ((rows.drop off).take len, [id])
      | _, _ => none
    | _ => none
  | .str s => some (s.map fun b => [.int .u8 b.toNat], [])
  | _ => none
def intsOf : List PV → Option (List Int)
  | [] => some []
  | .int .i64 n :: r => (intsOf r).map (n :: ·)
  | _ :: _ => none
def leastOf : Int → List Int → Int
  | x, [] => x
  | x, y :: r => leastOf (if y < x then y else x) r
def mostOf : Int → List Int → Int
  | x, [] => x
  | x, y :: r => mostOf (if y > x then y else x) r
def bytesOf : List (List PV) → Option (List UInt8)
  | [] => some []
  | [.int .u8 n] :: r => (bytesOf r).map (UInt8.ofNat n.toNat :: ·)
  | _ :: _ => none
def opds (cx : Cx) (env : Env) : List Opd → List PV
  | [] => []
  | x :: r => opd cx env x :: opds cx env r
def within (v : PV) (least most : Nat) : Option Nat :=
  match v with
  | .int _ n => if (least : Int) ≤ n then if n ≤ (most : Int) then some n.toNat else none else none
  | _ => none
def bound (ρ : Opd → PV) (x : Option Opd) (least most dflt : Nat) : Option Nat :=
  match x with
  | none => some dflt
  | some x => within (ρ x) least most
def lookF (t : TypeId) : List (TypeId × FuncId) → Option FuncId
  | [] => none
  | (u, f) :: r => match Nat.beq u t with | true => some f | false => lookF t r
def evCall (cx : Cx) (H : Heap) (f : FuncId) (a : Args) (pre post : List PV) (hints : List (Nat × Nat)) (base : Nat) : Option Eff :=
  match cx.call f (pre ++ a.vs ++ post) with
  | some (r, ios) => back H a hints base r ios
  | none => none
def validO (H : Heap) (id cl : Nat) : Bool :=
  match hget H id with
  | some (.arr _ rows) | some (.froz _ rows) => Nat.beq rows.length cl
  | _ => false
def shifts (esz : Nat) (lo : Option Opd) (rows : List (List PV)) : Bool :=
  match lo with
  | none => true
  | some _ => szOK esz rows
def isStrV : PV → Bool
  | .str _ => true
  | _ => false
def evOp (cx : Cx) (env : Env) (H : Heap) : IOp → Option Eff
  | .mov x => some ⟨opd cx env x, [], []⟩
  | .pick c a b => match opd cx env c with
    | .bool c => match c with | true => some ⟨opd cx env a, [], []⟩ | false => some ⟨opd cx env b, [], []⟩
    | _ => none
  | .alloc id z => match hget H id with | none => some ⟨.ptr id 0, [(id, .box z)], []⟩ | _ => none
  | .box id x => match hget H id, mcells (opd cx env x) with
    | none, some cs => some ⟨.ptr id 0, [(id, .box cs)], []⟩
    | _, _ => none
  | .build z ps => match fillc (opd cx env) ps z with
    | some cs => some ⟨.agg cs, [], []⟩
    | none => none
  | .bslice id esz ps => match hget H id, rowsOf H esz (opds cx env ps) with
    | none, some (rows, x) => match frees H x with
      | some fr => match rows with
        | [] => some ⟨.nul, [], [id]⟩
        | rows => some ⟨.own id 0 rows.length rows.length, (id, .arr esz rows) :: fr, x⟩
      | none => none
    | _, _ => none
  | .load sz agg a => match opd cx env a with
    | .ptr id j => match hget H id with
      | some (.box cells) => match rdc cells j sz agg with | some v => some ⟨v, [], [id]⟩ | none => none
      | _ => none
    | .eptr id i j cl => match hget H id with
      | some (.arr _ rows) | some (.froz _ rows) => match Nat.beq rows.length cl, rows[i]? with
        | true, some row => match rdc row j sz agg with | some v => some ⟨v, [], [id]⟩ | none => none
        | _, _ => none
      | _ => none
    | .rptr cells => match rdc cells 0 sz agg with | some v => some ⟨v, [], []⟩ | none => none
    | _ => none
  | .store sz a x => match opd cx env a with
    | .ptr id j => match hget H id with
      | some (.box cells) => match mcells (opd cx env x) with
        | some cs => match Nat.beq cs.length sz, Nat.ble (j + sz) cells.length with
          | true, true => some ⟨.undef, [(id, .box (splice cells j cs))], []⟩
          | _, _ => none
        | none => none
      | _ => none
    | .eptr id i j cl => match hget H id with
      | some (.arr esz rows) => match Nat.beq rows.length cl, rows[i]?, rowOf H (opd cx env x) with
        | true, some row, some (cs, x) => match frees H x, memN id x, Nat.beq cs.length sz, Nat.ble (j + sz) row.length with
          | some fr, false, true, true => some ⟨.undef, (id, .arr esz (rows.set i (splice row j cs))) :: fr, x⟩
          | _, _, _, _ => none
        | _, _, _ => none
      | _ => none
    | _ => none
  | .nilchk x => match opd cx env x with
    | .ptr id j => some ⟨.ptr id j, [], []⟩
    | .eptr id i j cl => match validO H id cl with
      | true => some ⟨.eptr id i j cl, [], [id]⟩
      | false => none
    | .rptr cells => some ⟨.rptr cells, [], []⟩
    | .func f cs => some ⟨.func f cs, [], []⟩
    | .iface t v => some ⟨.iface t v, [], []⟩
    | _ => none
  | .bin op x y => match binv op (opd cx env x) (opd cx env y) with | some v => some ⟨v, [], []⟩ | none => none
  | .eq neg agg ks x y => match eqcells agg (opd cx env x), eqcells agg (opd cx env y) with
    | some p, some q => match eqk ks p q with
      | some b => some ⟨.bool (flip neg b), [], []⟩
      | none => none
    | _, _ => none
  | .eqn neg x => match isnil (opd cx env x) with
    | some b => some ⟨.bool (flip neg b), [], []⟩
    | none => none
  | .isnl neg x => match opd cx env x with
    | .nils => some ⟨.bool (flip neg true), [], []⟩
    | .emp => some ⟨.bool (flip neg false), [], []⟩
    | .ro (_ :: _) => some ⟨.bool (flip neg false), [], []⟩
    | .own id _ (_ + 1) cl => match validO H id cl with
      | true => some ⟨.bool (flip neg false), [], [id]⟩
      | false => none
    | _ => none
  | .un op x => match unv op (opd cx env x) with | some v => some ⟨v, [], []⟩ | none => none
  | .toInt k x => match opd cx env x with | .int _ n => some ⟨.int k (k.wrap n), [], []⟩ | _ => none
  | .same x => match opd cx env x with | .str s => some ⟨.str s, [], []⟩ | _ => none
  | .toBytes x => match opd cx env x with
    | .str s => some ⟨.ro (s.map fun b => [.int .u8 b.toNat]), [], []⟩
    | _ => none
  | .toStr x => match isStrV (opd cx env x), rowsIn H 1 (opd cx env x) with
    | false, some (rows, ids) => match bytesOf rows with
      | some s => some ⟨.str s, [], ids⟩
      | none => none
    | _, _ => none
  | .mkf f caps => match allCell (opds cx env caps) with | true => some ⟨.func f (opds cx env caps), [], []⟩ | false => none
  | .mki t x => some ⟨.iface t (opd cx env x), [], []⟩
  | .mksl id esb z l c => match opd cx env l, opd cx env c, hget H id with
    | .int .i64 n, .int .i64 m, none =>
      if 0 < n then if n ≤ m then if m * esb ≤ 140737488355328 then
        some ⟨.own id 0 n.toNat n.toNat, [(id, .arr z.length (List.replicate n.toNat z))], []⟩ else none else none
      else if m = 0 then if n = 0 then some ⟨.nul, [], [id]⟩ else none else none
    | _, _, _ => none
  | .slcS x lo hi => match opd cx env x with
    | .str s => match bound (opd cx env) hi 0 s.length s.length with
      | some h => match bound (opd cx env) lo 0 h 0 with
        | some l => some ⟨.str ((s.take h).drop l), [], []⟩
        | none => none
      | none => none
    | _ => none
  | .slc esz x lo hi mx => match opd cx env x with
    | .nul => match bound (opd cx env) mx 0 0 0, bound (opd cx env) hi 0 0 0, bound (opd cx env) lo 0 0 0 with
      | some _, some _, some _ => some ⟨.nul, [], []⟩
      | _, _, _ => none
    | .ro rows => match shifts esz lo rows, bound (opd cx env) mx 0 rows.length rows.length with
      | true, some m => match bound (opd cx env) hi 0 m rows.length with
        | some h => match bound (opd cx env) lo 0 h 0 with
          | some l => match mx with
            | none => some ⟨.ro ((rows.take h).drop l), [], []⟩
            | some _ => match Nat.beq m l with
              | true => some ⟨.nul, [], []⟩
              | false => some ⟨.ro ((rows.take h).drop l), [], []⟩
          | none => none
        | none => none
      | _, _ => none
    | .own id off len cl => match hget H id with
      | some (.arr sz rows) | some (.froz sz rows) => match Nat.beq rows.length cl, Nat.beq sz esz, bound (opd cx env) mx 0 len (cl - off) with
        | true, true, some m => match bound (opd cx env) hi 0 m len with
          | some h => match bound (opd cx env) lo 0 h 0 with
            | some l => match mx with
              | none => some ⟨.own id (off + l) (h - l) cl, [], [id]⟩
              | some _ => match Nat.beq m l with
                | true => some ⟨.nul, [], [id]⟩
                | false => some ⟨.any, [], [id]⟩
            | none => none
          | none => none
        | _, _, _ => none
      | _ => none
    | _ => none
  | .faddr off x => match opd cx env x with
    | .ptr id j => some ⟨.ptr id (j + off), [], []⟩
    | .eptr id i j cl => match validO H id cl with
      | true => some ⟨.eptr id i (j + off) cl, [], [id]⟩
      | false => none
    | .rptr cells => match Nat.ble off cells.length with | true => some ⟨.rptr (cells.drop off), [], []⟩ | false => none
    | _ => none
  | .field off sz agg x => match opd cx env x with
    | .agg cs => match rdc cs off sz agg with | some v => some ⟨v, [], []⟩ | none => none
    | _ => none
  | .iaddr esz x ix => match opd cx env x, opd cx env ix with
    | .ro rows, .int _ n => if 0 ≤ n then match rows[n.toNat]? with
        | some row => match Nat.beq row.length esz with | true => some ⟨.rptr row, [], []⟩ | false => none
        | none => none else none
    | .own id off len cl, .int _ n => if 0 ≤ n then if n < (len : Int) then match hget H id with
        | some (.arr sz rows) | some (.froz sz rows) => match Nat.beq rows.length cl, Nat.beq sz esz with
          | true, true => some ⟨.eptr id (off + n.toNat) 0 cl, [], [id]⟩
          | _, _ => none
        | _ => none else none else none
    | _, _ => none
  | .iaddrA n esz x ix => match opd cx env x, opd cx env ix with
    | .ptr id j, .int _ q => if 0 ≤ q then if q < (n : Int) then some ⟨.ptr id (j + q.toNat * esz), [], []⟩ else none else none
    | .eptr id i j cl, .int _ q => if 0 ≤ q then if q < (n : Int) then match validO H id cl with
        | true => some ⟨.eptr id i (j + q.toNat * esz) cl, [], [id]⟩
        | false => none else none else none
    | .rptr cells, .int _ q => if 0 ≤ q then if q < (n : Int) then match Nat.ble (q.toNat * esz) cells.length with
        | true => some ⟨.rptr (cells.drop (q.toNat * esz)), [], []⟩ | false => none else none else none
    | _, _ => none
  | .idxA n esz agg x ix => match opd cx env x, opd cx env ix with
    | .agg cs, .int _ q => if 0 ≤ q then if q < (n : Int) then match rdc cs (q.toNat * esz) esz agg with
        | some v => some ⟨v, [], []⟩ | none => none else none else none
    | _, _ => none
  | .idxS x ix => match opd cx env x, opd cx env ix with
    | .str s, .int _ n => if 0 ≤ n then match s[n.toNat]? with | some b => some ⟨.int .u8 b.toNat, [], []⟩ | none => none else none
    | _, _ => none
  | .ext x i => match opd cx env x with
    | .tuple vs => (match vs[i]? with | some v => some ⟨v, [], []⟩ | none => none)
    | _ => none
  | .len x => match opd cx env x with
    | .ro rows => some ⟨.int .i64 rows.length, [], []⟩
    | .own id _ n cl => match validO H id cl with
      | true => some ⟨.int .i64 n, [], [id]⟩
      | false => none
    | .nul | .nils | .emp => some ⟨.int .i64 0, [], []⟩
    | _ => none
  | .lenS x => match opd cx env x with
    | .str s => some ⟨.int .i64 s.length, [], []⟩
    | _ => none
  | .lenA n _ => some ⟨.int .i64 n, [], []⟩
  | .app id esz esb x y => match rowsIn H esz (opd cx env y) with
    | some (new, ids) => match opd cx env x with
      | .nul => match new with
        | [] => some ⟨.nul, [], ids⟩
        | new => if new.length * esb ≤ 140737488355328 then match hget H id, szOK esz new with
          | none, true => some ⟨.own id 0 new.length new.length, [(id, .arr esz new)], ids⟩
          | _, _ => none else none
      | .ro rows => match new with
        | [] => some ⟨.ro rows, [], ids⟩
        | _ => none
      | .own b off len cl => match hget H b with
        | some (.arr sz rows) => match Nat.beq rows.length cl && Nat.beq sz esz && szOK esz new with
          | true => if off + len + new.length ≤ cl then
              some ⟨.own b off (len + new.length) cl, [(b, .arr esz (rows.take (off + len) ++ new ++ rows.drop (off + len + new.length)))], ids⟩
            else match Nat.beq off 0, Nat.beq len cl with
              | true, true => if (len + new.length) * esb ≤ 140737488355328 then
                  some ⟨.own b 0 (len + new.length) (len + new.length), [(b, .arr esz (rows ++ new))], ids⟩ else none
              | _, _ => none
          | false => none
        | _ => none
      | _ => none
    | none => none
  | .copy esz x y => match rowsIn H esz (opd cx env y) with
    | some (new, ids) => match opd cx env x with
      | .nul => match szOK esz new with
        | true => some ⟨.int .i64 0, [], ids⟩
        | false => none
      | .own b off len cl => match hget H b with
        | some (.arr sz rows) => match Nat.beq rows.length cl && Nat.beq sz esz && szOK esz new with
          | true => let n := min new.length len
            some ⟨.int .i64 n, [(b, .arr esz (rows.take off ++ new.take n ++ rows.drop (off + n)))], ids⟩
          | false => none
        | _ => none
      | _ => none
    | none => none
  | .clear esz z x => match opd cx env x with
    | .nul => some ⟨.tuple [], [], []⟩
    | .own b off len cl => match hget H b with
      | some (.arr sz rows) => match Nat.beq rows.length cl && Nat.beq sz esz && Nat.beq z.length esz with
        | true => some ⟨.tuple [], [(b, .arr esz (rows.take off ++ List.replicate len z ++ rows.drop (off + len)))], []⟩
        | false => none
      | _ => none
    | _ => none
  | .least xs => match intsOf (opds cx env xs) with
    | some (x :: r) => some ⟨.int .i64 (leastOf x r), [], []⟩
    | _ => none
  | .most xs => match intsOf (opds cx env xs) with
    | some (x :: r) => some ⟨.int .i64 (mostOf x r), [], []⟩
    | _ => none
  | .call f as hints base => match args1 H (opd cx env) as with
    | some a => evCall cx H f a [] [] hints base
    | none => none
  | .callv fx as hints base => match clo2 H (opd cx env fx), args1 H (opd cx env) as with
    | some (.func f cs, x), some a => evCall cx H f { a with seen := x ++ a.seen } [] cs hints base
    | _, _ => none
  | .inv x tab as hints base => match clo2 H (opd cx env x), args1 H (opd cx env) as with
    | some (.iface t v, x), some a => match lookF t tab with
      | some f => evCall cx H f { a with seen := x ++ a.seen } [v] [] hints base
      | none => none
    | _, _ => none
  | .rng id x => match opd cx env x, hget H id with
    | .str s, none => some ⟨.ptr id 0, [(id, .iter s 0)], []⟩
    | _, _ => none
  | .nxt x => match opd cx env x with
    | .ptr id 0 => match hget H id with
      | some (.iter s pos) => if pos < s.length then
          let d := Utf8.decode ⟨s.toArray⟩ pos
          some ⟨.tuple [.bool true, .int .i64 pos, .int .i32 d.1], [(id, .iter s (pos + d.2))], []⟩
        else some ⟨.tuple [.bool false], [], [id]⟩
      | _ => none
    | _ => none
  | .tas t comma z x => match opd cx env x with
    | .iface u v => match Nat.beq u t with
      | true => match comma with | true => some ⟨.tuple [v, .bool true], [], []⟩ | false => some ⟨v, [], []⟩
      | false => match comma with | true => some ⟨.tuple [z, .bool false], [], []⟩ | false => none
    | .nili => match comma with | true => some ⟨.tuple [z, .bool false], [], []⟩ | false => none
    | _ => none
  | .stop => none
def put (env : Env) : Option Nat → PV → Env
  | some d, v => (d, v) :: env
  | none, _ => env
def wants (env : Env) : Option (Nat × Bool) → Option Bool
  | none => some true
  | some (g, want) => match getT env g with
    | .bool b => match want with | true => some b | false => some (!b)
    | .undef => some false
    | _ => none
def evOps (cx : Cx) : List Opn → Env → Heap → Option (Env × Heap)
  | [], env, H => some (env, H)
  | o :: os, env, H => match wants env o.guard with
    | some b => match b with
      | true => match evOp cx env H o.op with
        | some e => evOps cx os (put env o.dst e.v) (hsets e.upd H)
        | none => none
      | false => evOps cx os (put env o.dst .undef) H
    | none => none
def keys : List (Nat × Blk) → List Nat
  | [] => []
  | (i, _) :: r => i :: keys r
def evOpsD (cx : Cx) : List Opn → Env → Heap → Option ((Env × Heap) × List (List Nat × List Nat))
  | [], env, H => some ((env, H), [])
  | o :: os, env, H => match wants env o.guard with
    | some b => match b with
      | true => match evOp cx env H o.op with
        | some e => match evOpsD cx os (put env o.dst e.v) (hsets e.upd H) with
          | some (st, l) => some (st, (e.rd, keys e.upd) :: l)
          | none => none
        | none => none
      | false => match evOpsD cx os (put env o.dst .undef) H with
        | some (st, l) => some (st, ([], []) :: l)
        | none => none
    | none => none
def apartFP (a b : List Nat × List Nat) : Bool :=
  match apartN a.2 b.1, apartN a.2 b.2, apartN b.2 a.1 with
  | true, true, true => true
  | _, _, _ => false
def apartAll (l : List (List Nat × List Nat)) : List (Nat × Nat) → Bool
  | [] => true
  | (i, j) :: r => match l[i]?, l[j]? with
    | some a, some b => match apartFP a b with | true => apartAll l r | false => false
    | _, _ => false
def ment1 (ids : List Nat) : PV → Bool
  | .ptr id _ | .eptr id _ _ _ | .own id _ _ _ => memN id ids
  | .func _ _ | .iface _ _ | .agg _ | .tuple _ | .fresh _ _ | .io _ => false
  | _ => true
def mentL (ids : List Nat) : List PV → Bool
  | [] => true
  | v :: r => match ment1 ids v with | true => mentL ids r | false => false
def ment (ids : List Nat) : PV → Bool
  | .agg cs => mentL ids cs
  | .tuple cs => mentL ids cs
  | .func _ cs => mentL ids cs
  | .iface _ (.agg cs) => mentL ids cs
  | .iface _ v => ment1 ids v
  | v => ment1 ids v
def keepE (ids : List Nat) (env : Env) : List Nat → Option Env
  | [] => some []
  | t :: r => match ment ids (getT env t), keepE ids env r with
    | true, some e => some ((t, getT env t) :: e)
    | _, _ => none
def keepH (ids : List Nat) (H : Heap) : List Nat → Option Heap
  | [] => some []
  | i :: r => match hget H i, keepH ids H r with
    | some (.box cs), some h => match mentL ids cs with | true => some ((i, .box cs) :: h) | false => none
    | some b, some h => some ((i, b) :: h)
    | none, some h => some h
    | _, none => none
inductive Gh where
  | keep (ts ids : List Nat)
  | room (t id esz : Nat)
  | roomC (b j id esz : Nat)
def evGh : Gh → Env → Heap → Option (Env × Heap)
  | .keep ts ids, env, H => match keepE ids env ts, keepH ids H ids with
    | some e, some h => match nodupN ids with | true => some (e, h) | false => none
    | _, _ => none
  | .room t id esz, env, H => match getT env t, hget H id with
    | .nul, none => some ((t, .own id 0 0 0) :: env, hset H id (.arr esz []))
    | _, _ => some (env, H)
  | .roomC b j id esz, env, H => match hget H b with
    | some (.box cells) => match cells[j]? with
      | some .nul => match hget H id with
        | none => some (env, hset (hset H b (.box (cells.set j (.own id 0 0 0)))) id (.arr esz []))
        | _ => none
      | some (.own x off len cl) => match Nat.beq x id with
        | true => some (env, H)
        | false => match hget H x, hget H id with
          | some (.arr sz rows), none => match Nat.beq rows.length cl, Nat.beq off 0, Nat.beq len cl with
            | true, true, true => some (env, hset (hset (hset H b (.box (cells.set j (.own id 0 len cl)))) x .dead) id (.arr sz rows))
            | _, _, _ => none
          | _, _ => none
      | _ => none
    | _ => none
inductive IC where
  | skip
  | reg (ops : List Opn)
  | dreg (ops : List Opn) (chk : List (Nat × Nat))
  | gh (g : Gh)
  | seq (a b : IC)
  | cond (c : Opd) (a b : IC)
  | block (id : Nat) (b : IC)
  | loop (b : IC)
  | exit (id : Nat)
  | ret
  | stop
inductive Ex where | nor | exit (id : Nat) | ret
abbrev Out := Option (Ex × Env × Heap)
abbrev Looper := (Env → Heap → Out) → Env → Heap → Out
def evCode (cx : Cx) (L : Looper) : IC → Env → Heap → Out
  | .skip, env, H => some (.nor, env, H)
  | .reg ops, env, H => match evOps cx ops env H with
    | some (env, H) => some (.nor, env, H)
    | none => none
  | .dreg ops chk, env, H => match evOpsD cx ops env H with
    | some ((env, H), l) => match apartAll l chk with | true => some (.nor, env, H) | false => none
    | none => none
  | .gh g, env, H => match evGh g env H with
    | some (env, H) => some (.nor, env, H)
    | none => none
  | .seq a b, env, H => match evCode cx L a env H with
    | some (.nor, env, H) => evCode cx L b env H
    | r => r
  | .cond c a b, env, H => match opd cx env c with
    | .bool c => match c with | true => evCode cx L a env H | false => evCode cx L b env H
    | _ => none
  | .block id b, env, H => match evCode cx L b env H with
    | some (.exit i, env, H) => match Nat.beq i id with | true => some (.nor, env, H) | false => some (.exit i, env, H)
    | r => r
  | .loop b, env, H => L (evCode cx L b) env H
  | .exit id, env, H => some (.exit id, env, H)
  | .ret, env, H => some (.ret, env, H)
  | .stop, _, _ => none
def iter : Nat → Looper
  | 0, _, _, _ => none
  | n + 1, f, env, H => match f env H with
    | some (.nor, env, H) => iter n f env H
    | r => r
inductive Res where
  | t (i : Nat)
  | m (i sz : Nat) (agg : Bool)
structure IFn where
  np : Nat
  res : List Res
  gives : List Nat
  lent : List (List Nat)
  body : IC
def enterC (base : Nat) : Nat → List PV → List PV × List (Nat × Blk)
  | _, [] => ([], [])
  | j, .fresh sz rows :: r => (.own (base + j) 0 rows.length rows.length :: (enterC base (j + 1) r).1, (base + j, .arr sz rows) :: (enterC base (j + 1) r).2)
  | j, v :: r => (v :: (enterC base (j + 1) r).1, (enterC base (j + 1) r).2)
def enter : Nat → List PV → Env × Heap
  | _, [] => ([], [])
  | p, .fresh sz rows :: r => ((p, .own p 0 rows.length rows.length) :: (enter (p + 1) r).1, (p, .arr sz rows) :: (enter (p + 1) r).2)
  | p, .io cs :: r => ((p, .ptr p 0) :: (enter (p + 1) r).1, (p, .box (enterC (100 * (p + 1)) 0 cs).1) :: (enterC (100 * (p + 1)) 0 cs).2 ++ (enter (p + 1) r).2)
  | p, v :: r => ((p, v) :: (enter (p + 1) r).1, (enter (p + 1) r).2)
def lentOf : Nat → List PV → List (List Nat) → List (Nat × List Nat)
  | _, [], _ => []
  | p, .io _ :: r, [] => (p, []) :: lentOf (p + 1) r []
  | p, .io _ :: r, z :: zs => (p, z) :: lentOf (p + 1) r zs
  | p, _ :: r, [] => lentOf (p + 1) r []
  | p, _ :: r, _ :: zs => lentOf (p + 1) r zs
def give1 (gives : Option Nat) (H : Heap) (v : PV) : Option (PV × List Nat × List Nat) :=
  match gives, v with
  | some esz, .nul => some (.fresh esz [], [], [])
  | some esz, .own id off len cl => match mov1 H esz (.own id off len cl) with
    | some (a, x) => some (a, x, [])
    | none => none
  | _, v => match clo2 H v with
    | some (a, x) => some (a, [], x)
    | none => none
def gives1 (H : Heap) : List Nat → List PV → Option (List PV × List Nat × List Nat)
  | _, [] => some ([], [], [])
  | [], v :: r => match give1 none H v with
    | some (a, x, s) => match gives1 H [] r with
      | some (b, y, t) => some (a :: b, x ++ y, s ++ t)
      | none => none
    | none => none
  | z :: zs, v :: r => match give1 (some z) H v with
    | some (a, x, s) => match gives1 H zs r with
      | some (b, y, t) => some (a :: b, x ++ y, s ++ t)
      | none => none
    | none => none
def lends (H : Heap) : List (Nat × List Nat) → Option (List (List PV) × List Nat × List Nat)
  | [] => some ([], [], [])
  | (i, zs) :: r => match hget H i with
    | some (.box cells) => match movCs H zs cells with
      | some (a, x, s) => match lends H r with
        | some (b, y, t) => some (a :: b, i :: x ++ y, s ++ t)
        | none => none
      | none => none
    | _ => none
def getR (env : Env) (H : Heap) : Res → PV
  | .t i => getT env i
  | .m i sz agg => match getT env i with
    | .ptr id j => match hget H id with
      | some (.box cells) => match rdc cells j sz agg with | some v => v | none => .io []
      | _ => .io []
    | _ => .io []
def leave (f : IFn) (args : List PV) (env : Env) (H : Heap) : Option (PV × List (List PV)) :=
  match gives1 H f.gives (f.res.map (getR env H)), lends H (lentOf 0 args f.lent) with
  | some (vs, x, s), some (ios, y, t) =>
    match nodupN (x ++ y), apartN (x ++ y) (s ++ t), hasAll H (x ++ y ++ (s ++ t)) with
    | true, true, true => match vs with
      | [v] => some (v, ios)
      | vs => some (.tuple vs, ios)
    | _, _, _ => none
  | _, _ => none
def evFn (cx : Cx) (L : Looper) (f : IFn) (args : List PV) : Option (PV × List (List PV)) :=
  match Nat.beq args.length f.np with
  | true => match evCode cx L f.body (enter 0 args).1 (enter 0 args).2 with
    | some (.nor, env, H) | some (.ret, env, H) => leave f args env H
    | _ => none
  | false => none
end Go.Ev
namespace Go.Ev
open Go
set_option linter.unusedSectionVars false
set_option linter.unusedSimpArgs false
set_option linter.unusedVariables false
structure RB where
  box : Bool
  blk : Option (Nat × Nat)
  sz : Nat
  cl : Nat
abbrev Refs := Nat → Option RB
def noRefs : Refs := fun _ => none
def cellAt (w : World) (k o : Nat) : Option Value :=
  match w.heap[k]? with
  | some (.cells c _ _) => c[o]?
  | _ => none
theorem cell?_eq (w : World) (k o : Nat) : w.cell? ⟨k, o, none⟩ = cellAt w k o := by
  unfold World.cell? cellAt
  cases w.heap[k]? with
  | none => rfl
  | some b => cases b <;> simp
inductive Rep (w : World) (X : Nat → Prop) : Refs → PV → Value → Prop where
  | any (R v) : Rep w X R .any v
  | undef (R) : Rep w X R .undef Go.undef
  | bool (R b) : Rep w X R (.bool b) (.bool b)
  | int (R k n) : Rep w X R (.int k n) (.int k n)
  | str (R s) : Rep w X R (.str s) (.string ⟨s.toArray⟩)
  | nilp (R) : Rep w X R .nilp (.pointer none)
  | nilf (R) : Rep w X R .nilf .nilFunc
  | nili (R) : Rep w X R .nili .nilIface
  | nul (R a) : Rep w X R .nul (.slice a 0 0)
  | nils (R c) : Rep w X R .nils (.slice none 0 c)
  | emp (R a c) : Rep w X R .emp (.slice (some a) 0 c)
  | rptr (R k o cells) (vs : Nat → Value) (hk : ¬ X k) (hs : k < w.heap.size)
      (hc : ∀ (i : Nat) (pv : PV), cells[i]? = some pv → cellAt w k (o + i) = some (vs i) ∧ (vs i).oneCell' = true)
      (hr : ∀ (i : Nat) (pv : PV), cells[i]? = some pv → Rep w X noRefs pv (vs i)) : Rep w X R (.rptr cells) (.pointer (some ⟨k, o, none⟩))
  | ro0 (R a c) : Rep w X R (.ro []) (.slice a 0 c)
  | ro (R k o sz rows c) (vs : Nat → Nat → Value) (hk : ¬ X k) (hs : k < w.heap.size) (hl : rows.length ≤ c)
      (hz : ∀ (i : Nat) (row : List PV), rows[i]? = some row → row.length = sz)
      (hc : ∀ (i : Nat) (row : List PV) (j : Nat) (pv : PV), rows[i]? = some row → row[j]? = some pv → cellAt w k (o + i * sz + j) = some (vs i j) ∧ (vs i j).oneCell' = true)
      (hr : ∀ (i : Nat) (row : List PV) (j : Nat) (pv : PV), rows[i]? = some row → row[j]? = some pv → Rep w X noRefs pv (vs i j)) :
      Rep w X R (.ro rows) (.slice (some ⟨k, o, none⟩) rows.length c)
  | ptr (R : Refs) (id b k base j) (h : R id = some b) (hb : b.box = true) (hk : b.blk = some (k, base)) :
      Rep w X R (.ptr id j) (.pointer (some ⟨k, base + j, none⟩))
  | eptr (R : Refs) (id b k base i j cl) (h : R id = some b) (hb : b.box = false) (hl : b.cl = cl) (hk : b.blk = some (k, base)) :
      Rep w X R (.eptr id i j cl) (.pointer (some ⟨k, base + i * b.sz + j, none⟩))
  | eptrS (R : Refs) (id b i j cl) (v : Value) (h : R id = some b) (hb : b.box = false) (hl : cl < b.cl) (h1 : v.oneCell' = true) : Rep w X R (.eptr id i j cl) v
  | own (R : Refs) (id b k base off len cl c) (cs : Array Value) (et : TypeId) (fr : Nat × Nat) (h : R id = some b) (hb : b.box = false) (hl : b.cl = cl) (hk : b.blk = some (k, base))
      (h1 : off + len ≤ cl) (h2 : len ≤ c) (h3 : cl ≤ off + c) (hw : w.heap[k]? = some (.cells cs et fr)) (h4 : base + (off + c) * b.sz ≤ cs.size) :
      Rep w X R (.own id off len cl) (.slice (some ⟨k, base + off * b.sz, none⟩) len c)
  | ownZ (R : Refs) (id b a cl) (h : R id = some b) (hb : b.box = false) (hl : b.cl = cl) : Rep w X R (.own id cl 0 cl) (.slice a 0 0)
  | ownS (R : Refs) (id b off len cl) (v : Value) (h : R id = some b) (hb : b.box = false) (hl : cl < b.cl) (h1 : v.oneCell' = true) : Rep w X R (.own id off len cl) v
  | func (R f caps) (arr : Array Value) (hl : arr.size = caps.length) (h1 : ∀ (i : Nat) (v : Value), arr[i]? = some v → v.oneCell' = true)
      (h : ∀ (i : Nat) (pv : PV) (v : Value), caps[i]? = some pv → arr[i]? = some v → Rep w X R pv v) : Rep w X R (.func f caps) (.func (.func f) #[] arr)
  | iface (R t pv v) (h : Rep w X R pv v) : Rep w X R (.iface t pv) (.iface t v)
  | agg (R cells) (arr : Array Value) (hl : arr.size = cells.length) (h1 : ∀ (i : Nat) (v : Value), arr[i]? = some v → v.oneCell' = true)
      (h : ∀ (i : Nat) (pv : PV) (v : Value), cells[i]? = some pv → arr[i]? = some v → Rep w X R pv v) : Rep w X R (.agg cells) (.agg arr)
  | tuple (R vs) (arr : Array Value) (hl : arr.size = vs.length)
      (h : ∀ (i : Nat) (pv : PV) (v : Value), vs[i]? = some pv → arr[i]? = some v → Rep w X R pv v) : Rep w X R (.tuple vs) (.tuple arr)
structure Grow (w : World) (X : Nat → Prop) (w' : World) : Prop where
  size : w.heap.size ≤ w'.heap.size
  same : ∀ k, k < w.heap.size → ¬ X k → w'.heap[k]? = w.heap[k]?
  shape : ∀ (k : Nat) (cs : Array Value) (et : TypeId) (fr : Nat × Nat), w.heap[k]? = some (.cells cs et fr) → ∃ cs' : Array Value, w'.heap[k]? = some (.cells cs' et fr) ∧ cs'.size = cs.size
  os : w'.os = w.os
  tape : w'.tape = w.tape
  output : w'.output = w.output
  froz : ∀ a : Addr, a.block < w.heap.size → w'.frozen? a = w.frozen? a
theorem Grow.refl (w : World) (X : Nat → Prop) : Grow w X w :=
  ⟨Nat.le_refl _, fun _ _ _ => rfl, fun _ cs _ _ h => ⟨cs, h, rfl⟩, rfl, rfl, rfl, fun _ _ => rfl⟩
theorem Grow.trans {w w' w'' : World} {X X' : Nat → Prop} (h : Grow w X w') (h' : Grow w' X' w'')
    (hx : ∀ k, k < w.heap.size → ¬ X k → ¬ X' k) : Grow w X w'' :=
  ⟨Nat.le_trans h.size h'.size,
   fun k hk hn => (h'.same k (Nat.lt_of_lt_of_le hk h.size) (hx k hk hn)).trans (h.same k hk hn),
   fun k cs et fr hc => by
     obtain ⟨c1, h1, s1⟩ := h.shape k cs et fr hc
     obtain ⟨c2, h2, s2⟩ := h'.shape k c1 et fr h1
     exact ⟨c2, h2, s2.trans s1⟩,
   h'.os.trans h.os, h'.tape.trans h.tape, h'.output.trans h.output, fun a ha => (h'.froz a (Nat.lt_of_lt_of_le ha h.size)).trans (h.froz a ha)⟩
theorem Grow.mono {w w' : World} {X X' : Nat → Prop} (h : Grow w X w') (hx : ∀ k, X k → X' k) : Grow w X' w' :=
  ⟨h.size, fun k hk hn => h.same k hk fun hX => hn (hx k hX), h.shape, h.os, h.tape, h.output, h.froz⟩
def RExt (R R' : Refs) : Prop :=
  ∀ id r, R id = some r → ∃ r', R' id = some r' ∧ (r' = r ∨ (r.box = false ∧ r'.box = false ∧ r.cl < r'.cl))
theorem RExt.refl (R : Refs) : RExt R R := fun _ r h => ⟨r, h, .inl rfl⟩
theorem RExt.no (R : Refs) : RExt noRefs R := fun _ _ h => by cases h
theorem RExt.trans {R R' R'' : Refs} (h : RExt R R') (h' : RExt R' R'') : RExt R R'' := by
  intro id r hr
  obtain ⟨r1, h1, e1⟩ := h id r hr
  obtain ⟨r2, h2, e2⟩ := h' id r1 h1
  refine ⟨r2, h2, ?_⟩
  rcases e1 with rfl | ⟨b1, b1', l1⟩
  · exact e2
  · rcases e2 with rfl | ⟨_, b2', l2⟩
    · exact .inr ⟨b1, b1', l1⟩
    · exact .inr ⟨b1, b2', Nat.lt_trans l1 l2⟩
theorem cellAt_same {w w' : World} {k o : Nat} (h : w'.heap[k]? = w.heap[k]?) : cellAt w' k o = cellAt w k o := by
  unfold cellAt; rw [h]
theorem Rep.mono {w w' : World} {X X' : Nat → Prop} (hG : Grow w X w') (hX : ∀ k, k < w.heap.size → ¬ X k → ¬ X' k)
    {R : Refs} {pv : PV} {v : Value} (h : Rep w X R pv v) : ∀ {R' : Refs}, RExt R R' → Rep w' X' R' pv v := by
  induction h with
  | any R v => intro R' _; exact .any R' v
  | undef R => intro R' _; exact .undef R'
  | bool R b => intro R' _; exact .bool R' b
  | int R k n => intro R' _; exact .int R' k n
  | str R s => intro R' _; exact .str R' s
  | nilp R => intro R' _; exact .nilp R'
  | nilf R => intro R' _; exact .nilf R'
  | nili R => intro R' _; exact .nili R'
  | nul R a => intro R' _; exact .nul R' a
  | nils R c => intro R' _; exact .nils R' c
  | emp R a c => intro R' _; exact .emp R' a c
  | rptr R k o cells vs hk hs hc hr ih =>
    intro R' _
    exact .rptr R' k o cells vs (hX k hs hk) (Nat.lt_of_lt_of_le hs hG.size)
      (fun i pv hi => ⟨(cellAt_same (hG.same k hs hk)).trans (hc i pv hi).1, (hc i pv hi).2⟩) (fun i pv hi => ih i pv hi (RExt.no _))
  | ro0 R a c => intro R' _; exact .ro0 R' a c
  | ro R k o sz rows c vs hk hs hl hz hc hr ih =>
    intro R' _
    exact .ro R' k o sz rows c vs (hX k hs hk) (Nat.lt_of_lt_of_le hs hG.size) hl hz
      (fun i row j pv hi hj => ⟨(cellAt_same (hG.same k hs hk)).trans (hc i row j pv hi hj).1, (hc i row j pv hi hj).2⟩)
      (fun i row j pv hi hj => ih i row j pv hi hj (RExt.no _))
  | ptr R id b k base j h hb hk =>
    intro R' hR
    obtain ⟨r', h', e⟩ := hR id b h
    rcases e with rfl | ⟨b1, _, _⟩
    · exact .ptr R' id r' k base j h' hb hk
    · rw [hb] at b1; cases b1
  | eptr R id b k base i j cl h hb hl hk =>
    intro R' hR
    obtain ⟨r', h', e⟩ := hR id b h
    rcases e with rfl | ⟨_, b2, l⟩
    · exact .eptr R' id r' k base i j cl h' hb hl hk
    · exact .eptrS R' id r' i j cl _ h' b2 (by omega) rfl
  | eptrS R id b i j cl v h hb hl h1 =>
    intro R' hR
    obtain ⟨r', h', e⟩ := hR id b h
    rcases e with rfl | ⟨_, b2, l⟩
    · exact .eptrS R' id r' i j cl v h' hb hl h1
    · exact .eptrS R' id r' i j cl v h' b2 (by omega) h1
  | own R id b k base off len cl c cs et fr h hb hl hk h1 h2 h3 hw h4 =>
    intro R' hR
    obtain ⟨r', h', e⟩ := hR id b h
    rcases e with rfl | ⟨_, b2, l⟩
    · obtain ⟨cs', hw', hs'⟩ := hG.shape k cs et fr hw
      exact .own R' id r' k base off len cl c cs' et fr h' hb hl hk h1 h2 h3 hw' (by omega)
    · exact .ownS R' id r' off len cl _ h' b2 (by omega) rfl
  | ownZ R id b a cl h hb hl =>
    intro R' hR
    obtain ⟨r', h', e⟩ := hR id b h
    rcases e with rfl | ⟨_, b2, l⟩
    · exact .ownZ R' id r' a cl h' hb hl
    · exact .ownS R' id r' _ _ cl _ h' b2 (by omega) rfl
  | ownS R id b off len cl v h hb hl h1 =>
    intro R' hR
    obtain ⟨r', h', e⟩ := hR id b h
    rcases e with rfl | ⟨_, b2, l⟩
    · exact .ownS R' id r' off len cl v h' hb hl h1
    · exact .ownS R' id r' off len cl v h' b2 (by omega) h1
  | func R f caps arr hl h1 h ih => intro R' hR; exact .func R' f caps arr hl h1 fun i pv v hi hv => ih i pv v hi hv hR
  | iface R t pv v h ih => intro R' hR; exact .iface R' t pv v (ih hR)
  | agg R cells arr hl h1 h ih => intro R' hR; exact .agg R' cells arr hl h1 fun i pv v hi hv => ih i pv v hi hv hR
  | tuple R vs arr hl h ih => intro R' hR; exact .tuple R' vs arr hl fun i pv v hi hv => ih i pv v hi hv hR
theorem Rep.up {w : World} {X : Nat → Prop} {R : Refs} {pv : PV} {v : Value} (h : Rep w X noRefs pv v) : Rep w X R pv v :=
  h.mono (Grow.refl w X) (fun _ _ h => h) (RExt.no R)
theorem Rep.oneCell {w : World} {X : Nat → Prop} {R : Refs} {pv : PV} {v : Value} (h : Rep w X R pv v) (hc : cellV pv = true) : v.oneCell' = true := by
  cases h <;> first | rfl | (simp [cellV] at hc; done) | assumption
end Go.Ev
namespace Go.Ev
open Go
set_option linter.unusedSectionVars false
set_option linter.unusedSimpArgs false
set_option linter.unusedVariables false
def liveB : Blk → Bool
  | .box _ | .arr _ _ | .iter _ _ => true
  | _ => false
def deadB : Blk → Bool
  | .dead => true
  | _ => false
class Frame where
  F : Nat → Prop
def Own (H : Heap) (R : Refs) : Nat → Prop :=
  fun k => ∃ id b r o, hget H id = some b ∧ liveB b = true ∧ R id = some r ∧ r.blk = some (k, o)
variable [Frame]
def Xof (H : Heap) (R : Refs) : Nat → Prop := fun k => Frame.F k ∨ Own H R k
def RowsAt (w : World) (X : Nat → Prop) (cs : Array Value) (base sz : Nat) (rows : List (List PV)) : Prop :=
  (∀ (i : Nat) (row : List PV), rows[i]? = some row → row.length = sz) ∧
  ∀ (i : Nat) (row : List PV) (j : Nat) (pv : PV), rows[i]? = some row → row[j]? = some pv →
    ∃ v, cs[base + i * sz + j]? = some v ∧ v.oneCell' = true ∧ Rep w X noRefs pv v
def BRel (w : World) (X : Nat → Prop) (R : Refs) (r : RB) : Blk → Prop
  | .box cells => r.box = true ∧ ∃ (k base : Nat) (cs : Array Value) (et : TypeId), r.blk = some (k, base) ∧ w.heap[k]? = some (.cells cs et (0, 0)) ∧
      base + cells.length ≤ cs.size ∧ ∀ (j : Nat) (pv : PV), cells[j]? = some pv → ∃ v, cs[base + j]? = some v ∧ v.oneCell' = true ∧ Rep w X R pv v
  | .arr sz rows => r.box = false ∧ r.cl = rows.length ∧ r.sz = sz ∧ ((r.blk = none ∧ rows = []) ∨
      ∃ (k base : Nat) (cs : Array Value) (et : TypeId), r.blk = some (k, base) ∧ w.heap[k]? = some (.cells cs et (0, 0)) ∧
        base + rows.length * r.sz ≤ cs.size ∧ RowsAt w X cs base r.sz rows)
  | .froz sz rows => r.box = false ∧ r.cl = rows.length ∧ r.sz = sz ∧ ((r.blk = none ∧ rows = []) ∨
      ∃ (k base : Nat) (cs : Array Value) (et : TypeId), r.blk = some (k, base) ∧ w.heap[k]? = some (.cells cs et (0, 0)) ∧
        base + rows.length * r.sz ≤ cs.size ∧ RowsAt w X cs base r.sz rows)
  | .iter s pos => r.box = true ∧ ∃ k, r.blk = some (k, 0) ∧ w.heap[k]? = some (.stringIter ⟨s.toArray⟩ pos)
  | .dead => True
structure HRel (w : World) (R : Refs) (H : Heap) : Prop where
  flt : ∀ k, Frame.F k → k < w.heap.size
  off : ∀ id b r k o, hget H id = some b → deadB b = false → R id = some r → r.blk = some (k, o) → ¬ Frame.F k
  dom : ∀ id, hget H id = none → R id = none
  has : ∀ id b, hget H id = some b → ∃ r, R id = some r ∧ BRel w (Xof H R) R r b
  inj : ∀ id id' b b' r r' k o o', hget H id = some b → hget H id' = some b' → deadB b = false → deadB b' = false →
    R id = some r → R id' = some r' → r.blk = some (k, o) → r'.blk = some (k, o') → id = id'
def ERel (w : World) (R : Refs) (H : Heap) (env : Env) (tmps : Array Value) : Prop :=
  ∀ t, Rep w (Xof H R) R (getT env t) (tmps.getD t undef)
theorem Grow.weak {w w' : World} {R : Refs} {H : Heap} (h : Grow w (Own H R) w') : Grow w (Xof H R) w' := h.mono fun _ => .inr
theorem HRel.lt {w : World} {R : Refs} {H : Heap} (h : HRel w R H) {id : Nat} {b : Blk} {r : RB} {k o : Nat}
    (hb : hget H id = some b) (hd : deadB b = false) (hr : R id = some r) (hk : r.blk = some (k, o)) : k < w.heap.size := by
  obtain ⟨r', hr', hB⟩ := h.has id b hb
  rw [hr] at hr'; cases hr'
  have lt_of : ∀ {k : Nat} {o : Obj}, w.heap[k]? = some o → k < w.heap.size := fun h => (Array.getElem?_eq_some_iff.1 h).1
  cases b with
  | box cells => obtain ⟨_, k', base, cs, et, h1, h2, _⟩ := hB; rw [hk] at h1; cases h1; exact lt_of h2
  | arr sz rows =>
    obtain ⟨_, _, _, h1 | ⟨k', base, cs, et, h1, h2, _⟩⟩ := hB
    · rw [hk] at h1; cases h1.1
    · rw [hk] at h1; cases h1; exact lt_of h2
  | froz sz rows =>
    obtain ⟨_, _, _, h1 | ⟨k', base, cs, et, h1, h2, _⟩⟩ := hB
    · rw [hk] at h1; cases h1.1
    · rw [hk] at h1; cases h1; exact lt_of h2
  | iter s pos => obtain ⟨_, k', h1, h2⟩ := hB; rw [hk] at h1; cases h1; exact lt_of h2
  | dead => cases hd
theorem live_dead {b : Blk} (h : liveB b = true) : deadB b = false := by cases b <;> first | rfl | cases h
theorem HRel.X_lt {w : World} {R : Refs} {H : Heap} (h : HRel w R H) {k : Nat} (hk : Xof H R k) : k < w.heap.size := by
  rcases hk with hk | ⟨id, b, r, o, hb, hl, hr, hk⟩
  · exact h.flt k hk
  exact h.lt hb (live_dead hl) hr hk
theorem RowsAt.mono {w w' : World} {X X' : Nat → Prop} (hG : Grow w X w') (hX : ∀ k, k < w.heap.size → ¬ X k → ¬ X' k)
    {cs : Array Value} {base sz : Nat} {rows : List (List PV)} (h : RowsAt w X cs base sz rows) : RowsAt w' X' cs base sz rows :=
  ⟨h.1, fun i row j pv hi hj => by
    obtain ⟨v, h1, h2, h3⟩ := h.2 i row j pv hi hj
    exact ⟨v, h1, h2, h3.mono hG hX (RExt.no _)⟩⟩
theorem BRel.mono {w w' : World} {X X' : Nat → Prop} {R R' : Refs} (hG : Grow w X w') (hX : ∀ k, k < w.heap.size → ¬ X k → ¬ X' k)
    (hR : RExt R R') {r : RB} {b : Blk} (hk : ∀ k o, r.blk = some (k, o) → w'.heap[k]? = w.heap[k]?) (h : BRel w X R r b) : BRel w' X' R' r b := by
  cases b with
  | box cells =>
    obtain ⟨hb, k, base, cs, et, h1, h2, h3, h4⟩ := h
    refine ⟨hb, k, base, cs, et, h1, (hk k base h1).trans h2, h3, fun j pv hj => ?_⟩
    obtain ⟨v, a1, a2, a3⟩ := h4 j pv hj
    exact ⟨v, a1, a2, a3.mono hG hX hR⟩
  | arr sz rows =>
    obtain ⟨hb, hl, hz, h1 | ⟨k, base, cs, et, h1, h2, h3, h4⟩⟩ := h
    · exact ⟨hb, hl, hz, .inl h1⟩
    · exact ⟨hb, hl, hz, .inr ⟨k, base, cs, et, h1, (hk k base h1).trans h2, h3, h4.mono hG hX⟩⟩
  | froz sz rows =>
    obtain ⟨hb, hl, hz, h1 | ⟨k, base, cs, et, h1, h2, h3, h4⟩⟩ := h
    · exact ⟨hb, hl, hz, .inl h1⟩
    · exact ⟨hb, hl, hz, .inr ⟨k, base, cs, et, h1, (hk k base h1).trans h2, h3, h4.mono hG hX⟩⟩
  | iter s pos =>
    obtain ⟨hb, k, h1, h2⟩ := h
    exact ⟨hb, k, h1, (hk k 0 h1).trans h2⟩
  | dead => trivial
theorem HRel.change {w w' : World} {R R' : Refs} {H H' : Heap} (h : HRel w R H) (hG : Grow w (Xof H R) w') (hR : RExt R R')
    (hX : ∀ k, k < w.heap.size → ¬ Xof H R k → ¬ Xof H' R' k)
    (hdom : ∀ id, hget H' id = none → R' id = none)
    (hb : ∀ id b, hget H' id = some b → (hget H id = some b ∧ R' id = R id ∧ (deadB b = true ∨ ∀ r k o, R id = some r → r.blk = some (k, o) → w'.heap[k]? = w.heap[k]?)) ∨
      ∃ r, R' id = some r ∧ BRel w' (Xof H' R') R' r b)
    (hinj : ∀ id id' b b' r r' k o o', hget H' id = some b → hget H' id' = some b' → deadB b = false → deadB b' = false →
      R' id = some r → R' id' = some r' → r.blk = some (k, o) → r'.blk = some (k, o') → id = id')
    (hoff : ∀ id b r k o, hget H' id = some b → deadB b = false → R' id = some r → r.blk = some (k, o) → ¬ Frame.F k) : HRel w' R' H' :=
  ⟨fun k hk => Nat.lt_of_lt_of_le (h.flt k hk) hG.size, hoff, hdom, fun id b hid => by
    rcases hb id b hid with ⟨h0, hr, hk⟩ | h1
    · obtain ⟨r, hr0, hB⟩ := h.has id b h0
      refine ⟨r, hr.trans hr0, ?_⟩
      rcases hk with hd | hk
      · cases b <;> first | trivial | cases hd
      · exact hB.mono hG hX hR (fun k o hb => hk r k o hr0 hb)
    · exact h1, hinj⟩
theorem hget_hset (H : Heap) (i : Nat) (b : Blk) (j : Nat) : hget (hset H i b) j = if j = i then some b else hget H j := by
  induction H with
  | nil =>
    simp only [hset, hget]
    by_cases h : j = i
    · subst h; simp
    · simp [h, show Nat.beq i j = false from by
        cases hb : Nat.beq i j
        · rfl
        · exact absurd (Nat.eq_of_beq_eq_true hb).symm h]
  | cons p r ih =>
    obtain ⟨k, c⟩ := p
    simp only [hset]
    cases hb : Nat.beq k i with
    | true =>
      have hk : k = i := Nat.eq_of_beq_eq_true hb
      subst hk
      simp only [hget]
      by_cases h : j = k
      · subst h; simp
      · simp [h, show Nat.beq k j = false from by
          cases hb : Nat.beq k j
          · rfl
          · exact absurd (Nat.eq_of_beq_eq_true hb).symm h]
    | false =>
      simp only [hget, ih]
      cases hj : Nat.beq k j with
      | true =>
        have hk : k = j := Nat.eq_of_beq_eq_true hj
        subst hk
        have hne : k ≠ i := fun e => by subst e; simp at hb
        simp [hne]
      | false => rfl
def upR (R : Refs) (id : Nat) (r : RB) : Refs := fun j => if j = id then some r else R j
theorem upR_same (R : Refs) (id : Nat) (r : RB) : upR R id r id = some r := by simp [upR]
theorem upR_ne (R : Refs) {id j : Nat} (r : RB) (h : j ≠ id) : upR R id r j = R j := by simp [upR, h]
theorem RExt.new {R : Refs} {id : Nat} (h : R id = none) (r : RB) : RExt R (upR R id r) := by
  intro j q hq
  have hne : j ≠ id := fun e => by subst e; rw [h] at hq; cases hq
  exact ⟨q, by rw [upR_ne R r hne]; exact hq, .inl rfl⟩
theorem HRel.alloc {w w' : World} {R : Refs} {H : Heap} (h : HRel w R H) {id : Nat} (hid : hget H id = none) (r : RB) (b : Blk)
    (hG : Grow w (Xof H R) w') (hold : ∀ k, k < w.heap.size → w'.heap[k]? = w.heap[k]?) (base : Nat) (hrk : r.blk = some (w.heap.size, base))
    (hB : BRel w' (Xof (hset H id b) (upR R id r)) (upR R id r) r b) :
    HRel w' (upR R id r) (hset H id b) ∧ (∀ k, k < w.heap.size → ¬ Xof H R k → ¬ Xof (hset H id b) (upR R id r) k) := by
  have hRid : R id = none := h.dom id hid
  have hX : ∀ k, k < w.heap.size → ¬ Xof H R k → ¬ Xof (hset H id b) (upR R id r) k := by
    rintro k hk hn (hF | ⟨j, c, q, o, hj, hl, hq, hb⟩)
    · exact hn (.inl hF)
    rw [hget_hset] at hj
    by_cases e : j = id
    · subst e; rw [upR_same] at hq; cases hq; rw [hrk] at hb; cases hb; omega
    · rw [if_neg e] at hj; rw [upR_ne R r e] at hq; exact hn (.inr ⟨j, c, q, o, hj, hl, hq, hb⟩)
  refine ⟨h.change hG (RExt.new hRid r) hX ?_ ?_ ?_ ?_, hX⟩
  · intro j hj
    rw [hget_hset] at hj
    by_cases e : j = id
    · rw [if_pos e] at hj; cases hj
    · rw [if_neg e] at hj; rw [upR_ne R r e]; exact h.dom j hj
  · intro j c hj
    rw [hget_hset] at hj
    by_cases e : j = id
    · rw [if_pos e] at hj; cases hj; subst e; exact .inr ⟨r, upR_same R _ r, hB⟩
    · rw [if_neg e] at hj
      refine .inl ⟨hj, upR_ne R r e, ?_⟩
      cases hd : deadB c with
      | true => exact .inl rfl
      | false => exact .inr fun q k o hq hb => hold k (h.lt hj hd hq hb)
  · intro j j' c c' q q' k o o' hj hj' hd hd' hq hq' hb hb'
    rw [hget_hset] at hj hj'
    by_cases e : j = id
    · by_cases e' : j' = id
      · rw [e, e']
      · rw [if_neg e'] at hj'; rw [upR_ne R r e'] at hq'
        have := h.lt hj' hd' hq' hb'
        subst e; rw [upR_same] at hq; cases hq; rw [hrk] at hb; cases hb; omega
    · rw [if_neg e] at hj; rw [upR_ne R r e] at hq
      by_cases e' : j' = id
      · have := h.lt hj hd hq hb
        subst e'; rw [upR_same] at hq'; cases hq'; rw [hrk] at hb'; cases hb'; omega
      · rw [if_neg e'] at hj'; rw [upR_ne R r e'] at hq'
        exact h.inj j j' c c' q q' k o o' hj hj' hd hd' hq hq' hb hb'
  · intro j c q k o hj hd hq hb hF
    rw [hget_hset] at hj
    by_cases e : j = id
    · subst e; rw [upR_same] at hq; cases hq; rw [hrk] at hb; cases hb
      have := h.flt _ hF; omega
    · rw [if_neg e] at hj; rw [upR_ne R r e] at hq
      exact h.off j c q k o hj hd hq hb hF
theorem HRel.write {w w' : World} {R : Refs} {H : Heap} (h : HRel w R H) {id : Nat} {b0 b : Blk} {r r' : RB} (hid : hget H id = some b0)
    (hr : R id = some r) (hlive0 : liveB b0 = true)
    (hG : Grow w (Xof H R) w') (hold : ∀ j, j < w.heap.size → (∀ o, r.blk ≠ some (j, o)) → w'.heap[j]? = w.heap[j]?)
    (hrk' : ∀ k' o, r'.blk = some (k', o) → (∃ o', r.blk = some (k', o')) ∨ w.heap.size ≤ k')
    (he : r' = r ∨ (r.box = false ∧ r'.box = false ∧ r.cl < r'.cl))
    (hB : BRel w' (Xof (hset H id b) (upR R id r')) (upR R id r') r' b) :
    HRel w' (upR R id r') (hset H id b) ∧ RExt R (upR R id r') ∧ (∀ k, k < w.heap.size → ¬ Xof H R k → ¬ Xof (hset H id b) (upR R id r') k) := by
  have hX : ∀ k, k < w.heap.size → ¬ Xof H R k → ¬ Xof (hset H id b) (upR R id r') k := by
    rintro k1 hk hn (hF | ⟨j, c, q, o, hj, hl, hq, hb⟩)
    · exact hn (.inl hF)
    rw [hget_hset] at hj
    by_cases e : j = id
    · subst e; rw [upR_same] at hq; cases hq
      rcases hrk' k1 o hb with ⟨o', ho⟩ | hge
      · exact hn (.inr ⟨j, b0, r, o', hid, hlive0, hr, ho⟩)
      · omega
    · rw [if_neg e] at hj; rw [upR_ne R r' e] at hq; exact hn (.inr ⟨j, c, q, o, hj, hl, hq, hb⟩)
  have hRE : RExt R (upR R id r') := by
    intro j q hq
    by_cases e : j = id
    · subst e; rw [hr] at hq; cases hq; exact ⟨r', upR_same R _ r', he⟩
    · exact ⟨q, by rw [upR_ne R r' e]; exact hq, .inl rfl⟩
  refine ⟨h.change hG hRE hX ?_ ?_ ?_ ?_, hRE, hX⟩
  · intro j hj
    rw [hget_hset] at hj
    by_cases e : j = id
    · rw [if_pos e] at hj; cases hj
    · rw [if_neg e] at hj; rw [upR_ne R r' e]; exact h.dom j hj
  · intro j c hj
    rw [hget_hset] at hj
    by_cases e : j = id
    · rw [if_pos e] at hj; cases hj; subst e; exact .inr ⟨r', upR_same R _ r', hB⟩
    · rw [if_neg e] at hj
      refine .inl ⟨hj, upR_ne R r' e, ?_⟩
      cases hd : deadB c with
      | true => exact .inl rfl
      | false =>
        refine .inr fun q k1 o hq hb => hold k1 (h.lt hj hd hq hb) fun o2 hrb => ?_
        exact e (h.inj j id c b0 q r k1 o o2 hj hid hd (live_dead hlive0) hq hr hb hrb)
  · intro j j' c c' q q' k1 o o' hj hj' hd hd' hq hq' hb hb'
    rw [hget_hset] at hj hj'
    by_cases e : j = id
    · by_cases e' : j' = id
      · rw [e, e']
      · rw [if_neg e'] at hj'; rw [upR_ne R r' e'] at hq'
        subst e; rw [upR_same] at hq; cases hq
        rcases hrk' k1 o hb with ⟨o2, ho⟩ | hge
        · exact (e' (h.inj j' j c' b0 q' r k1 o' o2 hj' hid hd' (live_dead hlive0) hq' hr hb' ho)).elim
        · have := h.lt hj' hd' hq' hb'; omega
    · rw [if_neg e] at hj; rw [upR_ne R r' e] at hq
      by_cases e' : j' = id
      · subst e'; rw [upR_same] at hq'; cases hq'
        rcases hrk' k1 o' hb' with ⟨o2, ho⟩ | hge
        · exact (e (h.inj j j' c b0 q r k1 o o2 hj hid hd (live_dead hlive0) hq hr hb ho)).elim
        · have := h.lt hj hd hq hb; omega
      · rw [if_neg e'] at hj'; rw [upR_ne R r' e'] at hq'
        exact h.inj j j' c c' q q' k1 o o' hj hj' hd hd' hq hq' hb hb'
  · intro j c q k1 o hj hd hq hb hF
    rw [hget_hset] at hj
    by_cases e : j = id
    · subst e; rw [upR_same] at hq; cases hq
      rcases hrk' k1 o hb with ⟨o', ho⟩ | hge
      · exact h.off j b0 r k1 o' hid (live_dead hlive0) hr ho hF
      · have := h.flt _ hF; omega
    · rw [if_neg e] at hj; rw [upR_ne R r' e] at hq
      exact h.off j c q k1 o hj hd hq hb hF
end Go.Ev
namespace Go.Ev
open Go
set_option linter.unusedSectionVars false
set_option linter.unusedSimpArgs false
set_option linter.unusedVariables false
variable [Frame]
def tySize (P : Program) (t : TypeId) : Option Nat := (P.info? t).map (·.size)
def tyAgg (P : Program) (t : TypeId) : Option Bool := (P.underlying t).map fun d => match d with | .struct _ | .array _ _ => true | _ => false
theorem run_sizeOf' {P : Program} {t : TypeId} {n : Nat} (h : tySize P t = some n) (w : World) : (sizeOf t).run P w = .ok n w := by
  unfold tySize at h
  cases hi : P.info? t with
  | none => rw [hi] at h; cases h
  | some i => rw [hi] at h; cases h; simp [sizeOf, typeInfo, hi]
theorem run_underlying' {P : Program} {t : TypeId} {d : TypeDesc} (h : P.underlying t = some d) (w : World) : (underlying t).run P w = .ok d w := by
  simp [underlying, h]
theorem run_isAgg' {P : Program} {t : TypeId} {b : Bool} (h : tyAgg P t = some b) (w : World) : (isAgg t).run P w = .ok b w := by
  unfold tyAgg at h
  cases hu : P.underlying t with
  | none => rw [hu] at h; cases h
  | some d => rw [hu] at h; cases h; cases d <;> simp [isAgg, underlying, hu]
def mConst1 : Value → PV → Bool
  | .int k n, .int l m => decide (k = l) && decide (n = m)
  | .bool a, .bool b => decide (a = b)
  | .string s, .str l => decide (s.data.toList = l)
  | .slice none 0 0, .nul => true
  | .pointer none, .nilp => true
  | .nilFunc, .nilf => true
  | .nilIface, .nili => true
  | _, _ => false
def mConstL : List Value → List PV → Bool
  | [], [] => true
  | v :: r, p :: s => mConst1 v p && mConstL r s
  | _, _ => false
def mConst : Value → PV → Bool
  | .agg arr, .agg cs => mConstL arr.toList cs
  | .tuple arr, .undef => arr.isEmpty
  | .func (.func f) a b, .func g c => decide (f = g) && a.isEmpty && b.isEmpty && c.isEmpty
  | v, p => mConst1 v p
def mOpd (gs : List Nat) : Operand → Opd → Bool
  | .tmp t, .t u => decide (t = u)
  | .const v, .c p => mConst v p
  | .func f, .c (.func g c) => decide (f = g) && c.isEmpty
  | .global g, .g h => decide (g = h) && decide (g ∈ gs)
  | _, _ => false
theorem bytes_eta (s : ByteArray) : (⟨s.data.toList.toArray⟩ : ByteArray) = s := by cases s; simp
theorem mConst1_rep {w : World} {X : Nat → Prop} {R : Refs} {v : Value} {p : PV} (h : mConst1 v p = true) : Rep w X R p v ∧ v.oneCell' = true := by
  unfold mConst1 at h
  split at h <;> first | (simp at h; done) | skip
  · simp at h; obtain ⟨rfl, rfl⟩ := h; exact ⟨.int R _ _, rfl⟩
  · simp at h; subst h; exact ⟨.bool R _, rfl⟩
  · rename_i s l
    have h := of_decide_eq_true h
    subst h
    refine ⟨?_, rfl⟩
    have := Rep.str (w := w) (X := X) R s.data.toList
    rwa [bytes_eta] at this
  · exact ⟨.nul R _, rfl⟩
  · exact ⟨.nilp R, rfl⟩
  · exact ⟨.nilf R, rfl⟩
  · exact ⟨.nili R, rfl⟩
theorem mConstL_rep {w : World} {X : Nat → Prop} {R : Refs} : ∀ {vs : List Value} {ps : List PV}, mConstL vs ps = true →
    vs.length = ps.length ∧ ∀ (i : Nat) (p : PV) (v : Value), ps[i]? = some p → vs[i]? = some v → Rep w X R p v ∧ v.oneCell' = true
  | [], [], _ => ⟨rfl, fun i p v hp => by simp at hp⟩
  | v :: r, p :: s, h => by
    simp [mConstL] at h
    obtain ⟨hl, ih⟩ := mConstL_rep (w := w) (X := X) (R := R) h.2
    refine ⟨by simp [hl], fun i p' v' hp hv => ?_⟩
    cases i with
    | zero => simp at hp hv; subst hp; subst hv; exact mConst1_rep h.1
    | succ i => simp at hp hv; exact ih i p' v' hp hv
  | [], _ :: _, h => by simp [mConstL] at h
  | _ :: _, [], h => by simp [mConstL] at h
theorem mConst_rep {w : World} {X : Nat → Prop} {R : Refs} {v : Value} {p : PV} (h : mConst v p = true) : Rep w X R p v := by
  unfold mConst at h
  split at h
  · rename_i arr cs
    obtain ⟨hl, hh⟩ := mConstL_rep (w := w) (X := X) (R := R) h
    have hl' : arr.size = cs.length := by simpa using hl
    refine .agg R cs arr hl' (fun i v hv => ?_) (fun i pv v hp hv => (hh i pv v hp (by simpa using hv)).1)
    have hi : i < arr.size := (Array.getElem?_eq_some_iff.1 hv).1
    exact (hh i cs[i] v (by simp) (by simpa using hv)).2
  · rename_i arr
    have : arr = #[] := by simpa using h
    subst this
    exact .undef R
  · rename_i f a b g c
    simp at h
    obtain ⟨⟨⟨rfl, rfl⟩, rfl⟩, rfl⟩ := h
    exact .func R f [] #[] rfl (fun i v hv => by simp at hv) (fun i pv v hp => by simp at hp)
  · exact (mConst1_rep h).1
def GlobOK (cx : Cx) (gs : List Nat) (w : World) (X : Nat → Prop) : Prop :=
  ∀ g ∈ gs, Rep w X noRefs (.rptr (cx.glob g)) (.pointer (some ⟨g, 0, none⟩))
theorem opd_rep {cx : Cx} {gs : List Nat} {w : World} {R : Refs} {H : Heap} {env : Env} {a : Act} (hE : ERel w R H env a.tmps)
    (hG : GlobOK cx gs w (Xof H R)) {x : Operand} {y : Opd} (h : mOpd gs x y = true) : Rep w (Xof H R) R (opd cx env y) (a.eval x) := by
  unfold mOpd at h
  split at h
  · have := of_decide_eq_true h; subst this; exact hE _
  · exact mConst_rep h
  · rename_i f g c
    simp at h
    obtain ⟨rfl, rfl⟩ := h
    exact .func R f [] #[] rfl (fun i v hv => by simp at hv) (fun i pv v hp => by simp at hp)
  · rename_i g h'
    simp at h
    obtain ⟨rfl, hg⟩ := h
    exact (hG g hg).up
  · cases h
structure Post (w : World) (R : Refs) (H : Heap) (e : Eff) (v : Value) (w' : World) (R' : Refs) : Prop where
  heap : HRel w' R' (hsets e.upd H)
  ext : RExt R R'
  grow : Grow w (Own H R) w'
  out : ∀ k, k < w.heap.size → ¬ Xof H R k → ¬ Xof (hsets e.upd H) R' k
  val : Rep w' (Xof (hsets e.upd H) R') R' e.v v
def OpOK (P : Program) (o : Oper) (a : Act) (w : World) (R : Refs) (H : Heap) (e : Eff) : Prop :=
  ∀ (next : Act → World → Prop) (Q : Exit → Act → World → Prop),
    (∀ v w' R', Post w R H e v w' R' → next (a.put o.dst v) w') → o.upon P a next Q ((execOp a.eval o).run P w)
theorem OpOK.of_run {P : Program} {o : Oper} {a : Act} {w w' : World} {R R' : Refs} {H : Heap} {e : Eff} {v : Value}
    (hr : (execOp a.eval o).run P w = .ok (.value v) w') (hp : Post w R H e v w' R') : OpOK P o a w R H e := by
  intro next Q h
  rw [hr]
  exact h v w' R' hp
theorem Post.pure {w : World} {R : Refs} {H : Heap} {pv : PV} {rd : List Nat} {v : Value} (hH : HRel w R H)
    (hv : Rep w (Xof H R) R pv v) : Post w R H ⟨pv, [], rd⟩ v w R :=
  ⟨hH, RExt.refl R, Grow.refl w _, fun _ _ h => h, hv⟩
theorem OpOK.pure {P : Program} {o : Oper} {a : Act} {w : World} {R : Refs} {H : Heap} {pv : PV} {rd : List Nat} {v : Value} (hH : HRel w R H)
    (hr : (execOp a.eval o).run P w = .ok (.value v) w) (hv : Rep w (Xof H R) R pv v) : OpOK P o a w R H ⟨pv, [], rd⟩ :=
  OpOK.of_run hr (Post.pure hH hv)
theorem mcells_rep {w : World} {X : Nat → Prop} {R : Refs} {pv : PV} {v : Value} {cs : List PV} (h : Rep w X R pv v) (hc : mcells pv = some cs) :
    v.cells.size = cs.length ∧ ∀ (j : Nat) (p : PV), cs[j]? = some p → ∃ u, v.cells[j]? = some u ∧ u.oneCell' = true ∧ Rep w X R p u := by
  have one : ∀ {pv : PV} {v : Value}, Rep w X R pv v → cellV pv = true → (∀ a, v ≠ .agg a) → mcells pv = some cs → (mcells pv = some [pv]) →
      v.cells.size = cs.length ∧ ∀ (j : Nat) (p : PV), cs[j]? = some p → ∃ u, v.cells[j]? = some u ∧ u.oneCell' = true ∧ Rep w X R p u := by
    intro pv v hr hcv hna h1 h2
    rw [h2] at h1; cases h1
    have hv : v.cells = #[v] := by cases v <;> first | rfl | exact absurd rfl (hna _)
    rw [hv]
    refine ⟨rfl, fun j p hj => ?_⟩
    cases j with
    | zero => simp at hj; subst hj; exact ⟨v, rfl, hr.oneCell hcv, hr⟩
    | succ j => simp at hj
  by_cases hcv : cellV pv = true
  · refine one h hcv ?_ hc ?_
    · intro a e; subst e
      cases h <;> first | (simp [cellV] at hcv; done) | (rename_i h1; simp [Value.oneCell'] at h1)
    · cases pv <;> first | (simp [mcells, cellV]; done) | (simp [cellV] at hcv)
  · cases pv <;> first | (simp [mcells, cellV] at hc; done) | (simp [cellV] at hcv; done) | skip
    rename_i cells
    simp [mcells] at hc; subst hc
    cases h with
    | agg _ _ arr hl h1 hh =>
      refine ⟨hl, fun j p hj => ?_⟩
      have hjl : j < cells.length := by
        rcases Nat.lt_or_ge j cells.length with h | h
        · exact h
        · rw [List.getElem?_eq_none h] at hj; cases hj
      have hja : j < arr.size := by omega
      exact ⟨arr[j], by simp [Value.cells, hja], h1 j _ (by simp [hja]), hh j p _ hj (by simp [hja])⟩
end Go.Ev
namespace Go.Ev
open Go
set_option linter.unusedSectionVars false
set_option linter.unusedSimpArgs false
set_option linter.unusedVariables false
variable [Frame]
section
variable {P : Program} {cx : Cx} {gs : List Nat} {w : World} {R : Refs} {H : Heap} {env : Env} {a : Act}
theorem ok_mov (hH : HRel w R H) (hE : ERel w R H env a.tmps) (hG : GlobOK cx gs w (Xof H R)) {o : Oper} {x : Operand} {y : Opd}
    (ho : o.op = .move x ∨ o.op = .assign x) (hm : mOpd gs x y = true) : OpOK P o a w R H ⟨opd cx env y, [], []⟩ := by
  refine OpOK.pure hH (v := a.eval x) ?_ (opd_rep hE hG hm)
  rcases ho with h | h <;> simp [execOp, h]
theorem ok_pick (hH : HRel w R H) (hE : ERel w R H env a.tmps) (hG : GlobOK cx gs w (Xof H R)) {o : Oper} {c x y : Operand} {c' x' y' : Opd} {e : Eff}
    (ho : o.op = .pick c x y) (hc : mOpd gs c c' = true) (hx : mOpd gs x x' = true) (hy : mOpd gs y y' = true)
    (he : evOp cx env H (.pick c' x' y') = some e) : OpOK P o a w R H e := by
  have rc := opd_rep hE hG hc
  have rx := opd_rep hE hG hx
  have ry := opd_rep hE hG hy
  simp only [evOp] at he
  cases hc' : opd cx env c' <;> rw [hc'] at he rc <;> simp only at he <;> first | (cases he; done) | skip
  rename_i b
  generalize hv : a.eval c = v at rc
  cases rc
  cases b <;> simp only at he <;> cases he
  · exact OpOK.pure hH (v := a.eval y) (by simp [execOp, ho, hv, asBool]) ry
  · exact OpOK.pure hH (v := a.eval x) (by simp [execOp, ho, hv, asBool]) rx
theorem ok_toInt (hH : HRel w R H) (hE : ERel w R H env a.tmps) (hG : GlobOK cx gs w (Xof H R)) {o : Oper} {src dst : TypeId} {x : Operand} {x' : Opd} {k k0 : IntKind} {e : Eff}
    (ho : o.op = .convert src dst x) (hs : P.underlying src = some (.int k0)) (ht : P.underlying dst = some (.int k)) (hx : mOpd gs x x' = true)
    (he : evOp cx env H (.toInt k x') = some e) : OpOK P o a w R H e := by
  have rx := opd_rep hE hG hx
  simp only [evOp] at he
  cases hx' : opd cx env x' <;> rw [hx'] at he rx <;> simp only at he <;> first | (cases he; done) | skip
  generalize hv : a.eval x = v at rx
  cases rx
  cases he
  exact OpOK.pure hH (v := .int k (k.wrap _)) (by simp [execOp, ho, hv, convert, underlying, hs, ht, Conv.intToInt]) (.int R k _)
theorem ok_same (hH : HRel w R H) (hE : ERel w R H env a.tmps) (hG : GlobOK cx gs w (Xof H R)) {o : Oper} {src dst : TypeId} {x : Operand} {x' : Opd} {e : Eff}
    (ho : o.op = .convert src dst x) (hs : P.underlying src = some .string) (ht : P.underlying dst = some .string) (hx : mOpd gs x x' = true)
    (he : evOp cx env H (.same x') = some e) : OpOK P o a w R H e := by
  have rx := opd_rep hE hG hx
  simp only [evOp] at he
  cases hx' : opd cx env x' <;> rw [hx'] at he rx <;> simp only at he <;> first | (cases he; done) | skip
  generalize hv : a.eval x = v at rx
  cases rx
  cases he
  exact OpOK.pure hH (v := .string ⟨_⟩) (by simp [execOp, ho, hv, convert, underlying, hs, ht]) (.str R _)
theorem ok_un (hH : HRel w R H) (hE : ERel w R H env a.tmps) (hG : GlobOK cx gs w (Xof H R)) {o : Oper} {op : UnOp} {t : TypeId} {x : Operand} {x' : Opd} {e : Eff}
    (ho : o.op = .unOp op t x) (hx : mOpd gs x x' = true) (he : evOp cx env H (.un op x') = some e) : OpOK P o a w R H e := by
  have rx := opd_rep hE hG hx
  simp only [evOp] at he
  cases hu : unv op (opd cx env x') with
  | none => rw [hu] at he; cases he
  | some p =>
    rw [hu] at he; cases he
    generalize opd cx env x' = pv at rx hu
    generalize hv : a.eval x = v at rx
    unfold unv at hu
    split at hu <;> first | (cases hu; done) | skip
    · cases rx; cases hu
      exact OpOK.pure hH (v := .bool _) (by simp [execOp, ho, hv, Op.unary]) (.bool R _)
    · cases rx; cases hu
      exact OpOK.pure hH (v := .int _ _) (by simp [execOp, ho, hv, Op.unary, Op.intArith]) (.int R _ _)
    · cases rx; cases hu
      exact OpOK.pure hH (v := .int _ _) (by simp [execOp, ho, hv, Op.unary, Op.intBits]) (.int R _ _)
theorem ok_ext (hH : HRel w R H) (hE : ERel w R H env a.tmps) (hG : GlobOK cx gs w (Xof H R)) {o : Oper} {i : Nat} {x : Operand} {x' : Opd} {e : Eff}
    (ho : o.op = .extract x i) (hx : mOpd gs x x' = true) (he : evOp cx env H (.ext x' i) = some e) : OpOK P o a w R H e := by
  have rx := opd_rep hE hG hx
  simp only [evOp] at he
  cases hx' : opd cx env x' <;> rw [hx'] at he rx <;> simp only at he <;> first | (cases he; done) | skip
  rename_i vs
  generalize hv : a.eval x = v at rx
  cases rx with
  | tuple _ _ arr hl h =>
    cases hi : vs[i]? with
    | none => rw [hi] at he; cases he
    | some p =>
      rw [hi] at he; cases he
      have hlt : i < vs.length := (List.getElem?_eq_some_iff.1 hi).1
      have hla : i < arr.size := by omega
      exact OpOK.pure hH (v := arr[i]) (by simp [execOp, ho, hv, Instr.extract, hla]) (h i p _ hi (by simp [hla]))
theorem ok_mki (hH : HRel w R H) (hE : ERel w R H env a.tmps) (hG : GlobOK cx gs w (Xof H R)) {o : Oper} {t : TypeId} {x : Operand} {x' : Opd}
    (ho : o.op = .makeInterface t x) (ht : ∃ d, P.underlying t = some d ∧ ∀ ms, d ≠ .interface ms) (hx : mOpd gs x x' = true) : OpOK P o a w R H ⟨.iface t (opd cx env x'), [], []⟩ := by
  obtain ⟨d, hd, hn⟩ := ht
  refine OpOK.pure hH (v := .iface t (a.eval x)) ?_ (.iface R t _ _ (opd_rep hE hG hx))
  cases d <;> first | (exact absurd rfl (hn _)) | simp [execOp, ho, Instr.makeInterface, underlying, hd]
theorem opds_rep (hE : ERel w R H env a.tmps) (hG : GlobOK cx gs w (Xof H R)) : ∀ {xs : List Operand} {ys : List Opd}, xs.length = ys.length → (∀ (i : Nat) x y, xs[i]? = some x → ys[i]? = some y → mOpd gs x y = true) →
    (opds cx env ys).length = xs.length ∧ ∀ (i : Nat) p v, (opds cx env ys)[i]? = some p → (xs.map a.eval)[i]? = some v → Rep w (Xof H R) R p v
  | [], [], _, _ => ⟨rfl, fun i p v hp => by simp [opds] at hp⟩
  | x :: xs, y :: ys, hl, h => by
    obtain ⟨l, ih⟩ := opds_rep hE hG (xs := xs) (ys := ys) (by simpa using hl) (fun i x' y' hx hy => h (i + 1) x' y' (by simpa using hx) (by simpa using hy))
    refine ⟨by simp [opds, l], fun i p v hp hv => ?_⟩
    cases i with
    | zero => simp [opds] at hp hv; subst hp; subst hv; exact opd_rep hE hG (h 0 x y rfl rfl)
    | succ i => simp [opds] at hp hv; exact ih i p v hp (by simpa using hv)
  | [], _ :: _, hl, _ => by simp at hl
  | _ :: _, [], hl, _ => by simp at hl
def mOpds (gs : List Nat) : List Operand → List Opd → Bool
  | [], [] => true
  | x :: r, y :: s => mOpd gs x y && mOpds gs r s
  | _, _ => false
theorem mOpds_spec {gs : List Nat} : ∀ {xs : List Operand} {ys : List Opd}, mOpds gs xs ys = true →
    xs.length = ys.length ∧ ∀ (i : Nat) x y, xs[i]? = some x → ys[i]? = some y → mOpd gs x y = true
  | [], [], _ => ⟨rfl, fun i x y hx => by simp at hx⟩
  | x :: r, y :: s, h => by
    simp [mOpds] at h
    obtain ⟨l, ih⟩ := mOpds_spec h.2
    refine ⟨by simp [l], fun i x' y' hx hy => ?_⟩
    cases i with
    | zero => simp at hx hy; subst hx; subst hy; exact h.1
    | succ i => simp at hx hy; exact ih i x' y' hx hy
  | [], _ :: _, h => by simp [mOpds] at h
  | _ :: _, [], h => by simp [mOpds] at h
theorem size_mk (s : List UInt8) : (⟨s.toArray⟩ : ByteArray).size = s.length := by simp [ByteArray.size]
theorem HRel.valid (hH : HRel w R H) {id cl : Nat} (hv : validO H id cl = true) {r : RB} (hr : R id = some r) : r.cl = cl ∧ r.box = false := by
  unfold validO at hv
  split at hv
  · rename_i rows hg
    obtain ⟨r', h1, h2⟩ := hH.has id _ hg
    rw [hr] at h1; cases h1
    exact ⟨h2.2.1.trans (Nat.eq_of_beq_eq_true hv), h2.1⟩
  · rename_i rows hg
    obtain ⟨r', h1, h2⟩ := hH.has id _ hg
    rw [hr] at h1; cases h1
    exact ⟨h2.2.1.trans (Nat.eq_of_beq_eq_true hv), h2.1⟩
  · cases hv
theorem own_real (hH : HRel w R H) {id off len cl : Nat} (hv : validO H id cl = true) {v : Value} (h : Rep w (Xof H R) R (.own id off len cl) v) :
    ∃ r, R id = some r ∧ r.cl = cl ∧ r.box = false ∧
      ((∃ k base c cs et fr, r.blk = some (k, base) ∧ off + len ≤ cl ∧ len ≤ c ∧ cl ≤ off + c ∧ w.heap[k]? = some (.cells cs et fr) ∧
          base + (off + c) * r.sz ≤ cs.size ∧ v = .slice (some ⟨k, base + off * r.sz, none⟩) len c) ∨
        (off = cl ∧ len = 0 ∧ ∃ ad, v = .slice ad 0 0)) := by
  cases h with
  | own _ _ b k base _ _ _ c cs et fr h hb hl hk h1 h2 h3 hw h4 => exact ⟨b, h, hl, hb, .inl ⟨k, base, c, cs, et, fr, hk, h1, h2, h3, hw, h4, rfl⟩⟩
  | ownZ _ _ b ad _ h hb hl => exact ⟨b, h, hl, hb, .inr ⟨rfl, rfl, ad, rfl⟩⟩
  | ownS _ _ b _ _ _ _ h hb hl h1 => have := (hH.valid hv h).1; omega
theorem own_len (hH : HRel w R H) {id off len cl : Nat} (hv : validO H id cl = true) {v : Value} (h : Rep w (Xof H R) R (.own id off len cl) v) :
    ∃ ad c, v = .slice ad len c := by
  obtain ⟨r, _, _, _, ⟨k, base, c, cs, et, fr, _, _, _, _, _, _, rfl⟩ | ⟨rfl, rfl, ad, rfl⟩⟩ := own_real hH hv h
  · exact ⟨_, _, rfl⟩
  · exact ⟨_, _, rfl⟩
theorem run_builtin {b : Builtin} {o : Oper} {c : Call} (ho : o.op = .call c) (hb : c.callee = .builtin b) :
    (execOp a.eval o).run P w = (builtin b c.argTypes o.type (c.args.map fun | .const _ => true | _ => false) (c.args.map a.eval)).run P w := by
  simp only [execOp, ho, resolve, hb, invoke, Sem.run_bind, Sem.run_pure, Result.andThen_ok]
  rfl
theorem extract_get {α : Type} {arr : Array α} {j sz i : Nat} {v : α} (h : (arr.extract j (j + sz))[i]? = some v) : arr[j + i]? = some v := by
  obtain ⟨h1, h2⟩ := Array.getElem?_eq_some_iff.1 h
  rw [Array.getElem_extract] at h2
  simp at h1
  exact Array.getElem?_eq_some_iff.2 ⟨by omega, h2⟩
theorem ok_len (hH : HRel w R H) (hE : ERel w R H env a.tmps) (hG : GlobOK cx gs w (Xof H R)) {o : Oper} {c : Call} {x : Operand} {t el : TypeId} {x' : Opd} {e : Eff}
    (ho : o.op = .call c) (hb : c.callee = .builtin .len) (ha : c.args = #[x]) (hat : c.argTypes[0]? = some t)
    (ht : P.underlying t = some (.slice el)) (hx : mOpd gs x x' = true) (he : evOp cx env H (.len x') = some e) : OpOK P o a w R H e := by
  have rx := opd_rep hE hG hx
  simp only [evOp] at he
  generalize hp : opd cx env x' = pv at rx he
  generalize hv : a.eval x = v at rx
  have key : ∀ (n : Nat) ad c', v = .slice ad n c' → ∀ rd, e = ⟨.int .i64 n, [], rd⟩ → OpOK P o a w R H e := by
    intro n ad c' h2 rd h1
    subst h1; subst h2
    refine OpOK.pure hH (v := .int .i64 n) ?_ (.int R _ _)
    rw [run_builtin ho hb]
    simp [ha, hv, builtin, Builtin.len_, hat, underlying, ht, goInt]
  cases pv <;> simp only at he <;> first | (cases he; done) | skip
  · cases rx; cases he; exact key 0 _ _ rfl _ rfl
  · cases rx; cases he; exact key 0 _ _ rfl _ rfl
  · cases rx; cases he; exact key 0 _ _ rfl _ rfl
  · cases rx <;> cases he
    · exact key 0 _ _ rfl _ rfl
    · exact key _ _ _ rfl _ rfl
  · rename_i id off len cl
    cases hvo : validO H id cl <;> rw [hvo] at he <;> cases he
    obtain ⟨ad, c', rfl⟩ := own_len hH hvo rx
    exact key len _ _ rfl _ rfl
theorem ok_lenS (hH : HRel w R H) (hE : ERel w R H env a.tmps) (hG : GlobOK cx gs w (Xof H R)) {o : Oper} {c : Call} {x : Operand} {t : TypeId} {x' : Opd} {e : Eff}
    (ho : o.op = .call c) (hb : c.callee = .builtin .len) (ha : c.args = #[x]) (hat : c.argTypes[0]? = some t)
    (ht : P.underlying t = some .string) (hx : mOpd gs x x' = true) (he : evOp cx env H (.lenS x') = some e) : OpOK P o a w R H e := by
  have rx := opd_rep hE hG hx
  simp only [evOp] at he
  generalize hp : opd cx env x' = pv at rx he
  generalize hv : a.eval x = v at rx
  cases pv <;> simp only at he <;> first | (cases he; done) | skip
  cases rx; cases he
  refine OpOK.pure hH (v := .int .i64 _) ?_ (.int R _ _)
  rw [run_builtin ho hb]
  simp [ha, hv, builtin, Builtin.len_, hat, underlying, ht, goInt, size_mk]
theorem ok_lenA (hH : HRel w R H) {o : Oper} {c : Call} {x : Operand} {t el : TypeId} {n : Nat} {x' : Opd}
    (ho : o.op = .call c) (hb : c.callee = .builtin .len) (ha : c.args = #[x]) (hat : c.argTypes[0]? = some t)
    (ht : P.underlying t = some (.array n el) ∨ ∃ q, P.underlying t = some (.pointer q) ∧ P.underlying q = some (.array n el)) :
    OpOK P o a w R H ⟨.int .i64 n, [], []⟩ := by
  refine OpOK.pure hH (v := .int .i64 n) ?_ (.int R _ _)
  rw [run_builtin ho hb]
  rcases ht with ht | ⟨q, ht, hq⟩
  · simp [ha, builtin, Builtin.len_, hat, underlying, ht, goInt]
  · simp [ha, builtin, Builtin.len_, hat, underlying, ht, hq, goInt]
theorem rdc_rep {X : Nat → Prop} {cells : List PV} {j sz : Nat} {agg : Bool} {p : PV} (hr : rdc cells j sz agg = some p) {arr : Array Value}
    (hl : cells.length ≤ arr.size) (h1 : ∀ (i : Nat) q v, cells[i]? = some q → arr[i]? = some v → v.oneCell' = true ∧ Rep w X R q v) :
    (agg = true → j + sz ≤ arr.size ∧ Rep w X R p (.agg (arr.extract j (j + sz)))) ∧ (agg = false → ∃ v, arr[j]? = some v ∧ Rep w X R p v) := by
  unfold rdc at hr
  cases agg with
  | true =>
    refine ⟨fun _ => ?_, fun h => by cases h⟩
    simp only at hr
    split at hr <;> cases hr
    rename_i hb
    have hb := Nat.le_of_ble_eq_true hb
    refine ⟨by omega, .agg R _ _ (by simp; omega) (fun i v hv => ?_) (fun i q v hq hv => ?_)⟩
    · have hi : i < (arr.extract j (j + sz)).size := (Array.getElem?_eq_some_iff.1 hv).1
      simp at hi
      have hjc : j + i < cells.length := by omega
      exact (h1 (j + i) cells[j + i] v (by simp) (extract_get hv)).1
    · have := extract_get hv
      have hq' : cells[j + i]? = some q := by
        rw [List.getElem?_take] at hq
        split at hq
        · simpa using hq
        · cases hq
      exact (h1 (j + i) q v hq' this).2
  | false =>
    refine ⟨fun h => (by cases h), fun _ => ?_⟩
    simp only at hr
    have hj : j < cells.length := (List.getElem?_eq_some_iff.1 hr).1
    have hja : j < arr.size := by omega
    exact ⟨arr[j], by simp [hja], (h1 j p _ hr (by simp [hja])).2⟩
theorem ok_field (hH : HRel w R H) (hE : ERel w R H env a.tmps) (hG : GlobOK cx gs w (Xof H R)) {o : Oper} {t : TypeId} {x : Operand} {i : Nat} {fs : Array Field} {f : Field} {x' : Opd} {sz : Nat} {agg : Bool} {e : Eff}
    (ho : o.op = .field t x i) (ht : P.underlying t = some (.struct fs)) (hf : fs[i]? = some f) (hsz : tySize P f.type = some sz) (hag : tyAgg P f.type = some agg)
    (hx : mOpd gs x x' = true) (he : evOp cx env H (.field f.offset sz agg x') = some e) : OpOK P o a w R H e := by
  have rx := opd_rep hE hG hx
  simp only [evOp] at he
  generalize hp : opd cx env x' = pv at rx he
  generalize hv : a.eval x = v at rx
  cases pv <;> simp only at he <;> first | (cases he; done) | skip
  rename_i cs
  cases rx with
  | agg _ _ arr hl h1 hh =>
    cases hr : rdc cs f.offset sz agg with
    | none => rw [hr] at he; cases he
    | some p =>
      rw [hr] at he; cases he
      obtain ⟨ra, rb⟩ := rdc_rep (w := w) (R := R) (X := Xof H R) hr (arr := arr) (by omega) (fun i q v hq hv => ⟨h1 i v hv, hh i q v hq hv⟩)
      cases agg with
      | true =>
        refine OpOK.pure hH (v := .agg (arr.extract f.offset (f.offset + sz))) ?_ (ra rfl).2
        simp [execOp, ho, hv, Instr.field, underlying, ht, hf, asAgg, part, run_isAgg' hag, run_sizeOf' hsz]
      | false =>
        obtain ⟨u, hu, hru⟩ := rb rfl
        refine OpOK.pure hH (v := u) ?_ hru
        simp [execOp, ho, hv, Instr.field, underlying, ht, hf, asAgg, part, run_isAgg' hag, hu]
end
end Go.Ev
namespace Go.Ev
open Go
set_option linter.unusedSectionVars false
set_option linter.unusedSimpArgs false
set_option linter.unusedVariables false
variable [Frame]
section
variable {P : Program} {cx : Cx} {gs : List Nat} {w : World} {R : Refs} {H : Heap} {env : Env} {a : Act}
theorem add_none (k o n : Nat) : (⟨k, o, none⟩ : Addr).add n = ⟨k, o + n, none⟩ := by
  unfold Addr.add
  split
  · subst_vars; rfl
  · rfl
theorem eptr_real (hH : HRel w R H) {id i j cl : Nat} (hv : validO H id cl = true) {v : Value} (h : Rep w (Xof H R) R (.eptr id i j cl) v) :
    ∃ r k base, R id = some r ∧ r.cl = cl ∧ r.box = false ∧ r.blk = some (k, base) ∧ v = .pointer (some ⟨k, base + i * r.sz + j, none⟩) := by
  cases h with
  | eptr _ _ b k base _ _ _ h hb hl hk => exact ⟨b, k, base, h, hl, hb, hk, rfl⟩
  | eptrS _ _ b _ _ _ _ h hb hl h1 => have := (hH.valid hv h).1; omega
theorem ok_nilchk (hH : HRel w R H) (hE : ERel w R H env a.tmps) (hG : GlobOK cx gs w (Xof H R)) {o : Oper} {x : Operand} {x' : Opd} {e : Eff}
    (ho : o.op = .nilCheck x) (hx : mOpd gs x x' = true) (he : evOp cx env H (.nilchk x') = some e) : OpOK P o a w R H e := by
  have rx := opd_rep hE hG hx
  simp only [evOp] at he
  generalize hp : opd cx env x' = pv at rx he
  generalize hv : a.eval x = v at rx
  cases pv <;> (try simp only at he) <;> first | (cases he; done) | skip
  · cases he
    have rx0 := rx
    cases rx
    exact OpOK.pure hH (by simp [execOp, ho, hv]) rx0
  · rename_i id i j cl
    cases hvo : validO H id cl <;> rw [hvo] at he <;> cases he
    obtain ⟨r, k, base, _, _, _, _, rfl⟩ := eptr_real hH hvo rx
    exact OpOK.pure hH (by simp [execOp, ho, hv]) rx
  · cases he
    have rx0 := rx
    cases rx
    exact OpOK.pure hH (by simp [execOp, ho, hv]) rx0
  · cases he
    have rx0 := rx
    cases rx
    exact OpOK.pure hH (by simp [execOp, ho, hv]) rx0
  · cases he
    have rx0 := rx
    cases rx
    exact OpOK.pure hH (by simp [execOp, ho, hv]) rx0
theorem rptr_drop {X : Nat → Prop} {cells : List PV} {k off : Nat} {o : Nat} (h : Rep w X R (.rptr cells) (.pointer (some ⟨k, o, none⟩))) :
    Rep w X R (.rptr (cells.drop off)) (.pointer (some ⟨k, o + off, none⟩)) := by
  cases h with
  | rptr _ _ _ _ vs hk hs hc hr =>
    refine .rptr R k (o + off) _ (fun i => vs (off + i)) hk hs (fun i pv hi => ?_) (fun i pv hi => ?_)
    · have := hc (off + i) pv (by simpa using hi)
      rwa [← Nat.add_assoc] at this
    · exact hr (off + i) pv (by simpa using hi)
theorem rptr_inv {X : Nat → Prop} {cells : List PV} {v : Value} (h : Rep w X R (.rptr cells) v) : ∃ k o, v = .pointer (some ⟨k, o, none⟩) := by
  cases h; exact ⟨_, _, rfl⟩
theorem ok_faddr (hH : HRel w R H) (hE : ERel w R H env a.tmps) (hG : GlobOK cx gs w (Xof H R)) {o : Oper} {t : TypeId} {x : Operand} {i : Nat} {fs : Array Field} {f : Field} {x' : Opd} {sz : Nat} {e : Eff}
    (ho : o.op = .fieldAddr t x i) (ht : P.underlying t = some (.struct fs)) (hf : fs[i]? = some f) (hsz : tySize P f.type = some sz) (hn : sz ≠ 0)
    (hx : mOpd gs x x' = true) (he : evOp cx env H (.faddr f.offset x') = some e) : OpOK P o a w R H e := by
  have rx := opd_rep hE hG hx
  simp only [evOp] at he
  generalize hp : opd cx env x' = pv at rx he
  generalize hv : a.eval x = v at rx
  have run : ∀ k q, v = .pointer (some ⟨k, q, none⟩) → (execOp a.eval o).run P w = .ok (.value (.pointer (some ⟨k, q + f.offset, none⟩))) w := by
    intro k q e
    subst e
    simp [execOp, ho, hv, Instr.fieldAt, underlying, ht, hf, Instr.sureAddr, fieldPlace, run_sizeOf' hsz, hn, add_none]
  cases pv <;> (try simp only at he) <;> first | (cases he; done) | skip
  · rename_i id j
    cases he
    cases rx with
    | ptr _ _ b k base _ h hb hk => exact OpOK.pure hH (run k (base + j) rfl) (by rw [Nat.add_assoc]; exact .ptr R id b k base (j + f.offset) h hb hk)
  · rename_i id i' j cl
    cases hvo : validO H id cl <;> rw [hvo] at he <;> cases he
    obtain ⟨r, k, base, h1, h2, h3, h4, rfl⟩ := eptr_real hH hvo rx
    exact OpOK.pure hH (run k _ rfl) (by rw [Nat.add_assoc]; exact .eptr R id r k base i' (j + f.offset) cl h1 h3 h2 h4)
  · rename_i cells
    cases hb : Nat.ble f.offset cells.length <;> rw [hb] at he <;> cases he
    obtain ⟨k, q, rfl⟩ := rptr_inv rx
    exact OpOK.pure hH (run k q rfl) (rptr_drop rx)
theorem ok_iaddr (hH : HRel w R H) (hE : ERel w R H env a.tmps) (hG : GlobOK cx gs w (Xof H R)) {o : Oper} {t el : TypeId} {x ix : Operand} {x' ix' : Opd} {esz : Nat} {e : Eff}
    (ho : o.op = .indexAddr t x ix) (ht : P.underlying t = some (.slice el)) (hsz : tySize P el = some esz)
    (hx : mOpd gs x x' = true) (hi : mOpd gs ix ix' = true) (he : evOp cx env H (.iaddr esz x' ix') = some e) : OpOK P o a w R H e := by
  have rx := opd_rep hE hG hx
  have ri := opd_rep hE hG hi
  simp only [evOp] at he
  generalize hp : opd cx env x' = pv at rx he
  generalize hv : a.eval x = v at rx
  generalize hpi : opd cx env ix' = pi at ri he
  generalize hvi : a.eval ix = vi at ri
  have run : ∀ k q len c kk (n : Int), v = .slice (some ⟨k, q, none⟩) len c → vi = .int kk n → 0 ≤ n → n < len →
      (execOp a.eval o).run P w = .ok (.value (.pointer (some ⟨k, q + n.toNat * esz, none⟩))) w := by
    intro k q len c kk n e1 e2 h0 h1
    subst e1; subst e2
    simp [execOp, ho, hv, hvi, Instr.indexAt, asIntOf, underlying, ht, h0, h1, run_sizeOf' hsz, add_none]
  cases pv <;> (try simp only at he) <;> first | (cases he; done) | skip
  · rename_i rows
    cases pi <;> (try simp only at he) <;> first | (cases he; done) | skip
    rename_i kk n
    split at he <;> first | (cases he; done) | skip
    rename_i h0
    cases hr : rows[n.toNat]? with
    | none => rw [hr] at he; cases he
    | some row =>
      rw [hr] at he
      simp only at he
      split at he <;> cases he
      rename_i hb
      have hb := Nat.eq_of_beq_eq_true hb
      have hlt : n.toNat < rows.length := (List.getElem?_eq_some_iff.1 hr).1
      cases ri
      cases rx with
      | ro0 => simp at hlt
      | ro _ k q sz _ c vs hk hs hl hz hc hrr =>
        have hsz' : sz = esz := (hz _ _ hr).symm.trans hb
        subst hsz'
        refine OpOK.pure hH (run k q rows.length c kk n rfl rfl h0 (by omega)) ?_
        exact .rptr R k _ row (fun j => vs n.toNat j) hk hs (fun j pv hj => hc _ row j pv hr hj) (fun j pv hj => hrr _ row j pv hr hj)
  · rename_i id off len cl
    cases pi <;> (try simp only at he) <;> first | (cases he; done) | skip
    rename_i kk n
    split at he <;> first | (cases he; done) | skip
    rename_i h0
    split at he <;> first | (cases he; done) | skip
    rename_i h1
    have key : ∀ (sz : Nat) (rows : List (List PV)), (hget H id = some (.arr sz rows) ∨ hget H id = some (.froz sz rows)) →
        (match Nat.beq rows.length cl, Nat.beq sz esz with
          | true, true => some (⟨.eptr id (off + n.toNat) 0 cl, [], [id]⟩ : Eff)
          | _, _ => none) = some e → OpOK P o a w R H e := by
      intro sz rows hg he
      split at he <;> cases he
      rename_i hb hbs
      have hvo : validO H id cl = true := by
        unfold validO
        rcases hg with hg | hg <;> rw [hg] <;> exact hb
      have hB : ∃ r, R id = some r ∧ r.sz = sz := by
        rcases hg with hg | hg
        · obtain ⟨r, h1, _, _, h2, _⟩ := hH.has id _ hg; exact ⟨r, h1, h2⟩
        · obtain ⟨r, h1, _, _, h2, _⟩ := hH.has id _ hg; exact ⟨r, h1, h2⟩
      obtain ⟨r0, hr0, hsz0⟩ := hB
      obtain ⟨r, hr1, hcl, hbx, hcase⟩ := own_real hH hvo rx
      rw [hr0] at hr1; cases hr1
      rcases hcase with ⟨k, base, c, cs, et, fr, hk, e1, e2, e3, hw, e4, rfl⟩ | ⟨_, rfl, _⟩
      · have hs : r0.sz = esz := hsz0.trans (Nat.eq_of_beq_eq_true hbs)
        cases ri
        refine OpOK.pure hH (run k _ len c kk n rfl rfl h0 h1) ?_
        have := Rep.eptr (w := w) (X := Xof H R) R id r0 k base (off + n.toNat) 0 cl hr0 hbx hcl hk
        rw [hs] at this ⊢
        rwa [Nat.add_mul, ← Nat.add_assoc] at this
      · omega
    split at he
    · rename_i sz rows hg; exact key sz rows (.inl hg) he
    · rename_i sz rows hg; exact key sz rows (.inr hg) he
    · cases he
theorem ok_iaddrA (hH : HRel w R H) (hE : ERel w R H env a.tmps) (hG : GlobOK cx gs w (Xof H R)) {o : Oper} {t el : TypeId} {x ix : Operand} {x' ix' : Opd} {n esz : Nat} {e : Eff}
    (ho : o.op = .indexAddr t x ix) (ht : P.underlying t = some (.array n el)) (hsz : tySize P el = some esz)
    (hx : mOpd gs x x' = true) (hi : mOpd gs ix ix' = true) (he : evOp cx env H (.iaddrA n esz x' ix') = some e) : OpOK P o a w R H e := by
  have rx := opd_rep hE hG hx
  have ri := opd_rep hE hG hi
  simp only [evOp] at he
  generalize hp : opd cx env x' = pv at rx he
  generalize hv : a.eval x = v at rx
  generalize hpi : opd cx env ix' = pi at ri he
  generalize hvi : a.eval ix = vi at ri
  have run : ∀ k q kk (m : Int), v = .pointer (some ⟨k, q, none⟩) → vi = .int kk m → 0 ≤ m → m < n →
      (execOp a.eval o).run P w = .ok (.value (.pointer (some ⟨k, q + m.toNat * esz, none⟩))) w := by
    intro k q kk m e1 e2 h0 h1
    subst e1; subst e2
    simp [execOp, ho, hv, hvi, Instr.indexAt, asIntOf, underlying, ht, h0, h1, run_sizeOf' hsz, add_none, Instr.sureAddr]
  cases pv <;> (try simp only at he) <;> first | (cases he; done) | skip
  · rename_i id j
    cases pi <;> (try simp only at he) <;> first | (cases he; done) | skip
    split at he <;> first | (cases he; done) | skip
    rename_i h0
    split at he <;> cases he
    rename_i h1
    cases ri
    cases rx with
    | ptr _ _ b k base _ h hb hk => exact OpOK.pure hH (run k (base + j) _ _ rfl rfl h0 h1) (by rw [Nat.add_assoc]; exact .ptr R id b k base _ h hb hk)
  · rename_i id i' j cl
    cases pi <;> (try simp only at he) <;> first | (cases he; done) | skip
    split at he <;> first | (cases he; done) | skip
    rename_i h0
    split at he <;> first | (cases he; done) | skip
    rename_i h1
    cases hvo : validO H id cl <;> rw [hvo] at he <;> cases he
    obtain ⟨r, k, base, e1, e2, e3, e4, rfl⟩ := eptr_real hH hvo rx
    cases ri
    exact OpOK.pure hH (run k _ _ _ rfl rfl h0 h1) (by rw [Nat.add_assoc]; exact .eptr R id r k base i' _ cl e1 e3 e2 e4)
  · rename_i cells
    cases pi <;> (try simp only at he) <;> first | (cases he; done) | skip
    split at he <;> first | (cases he; done) | skip
    rename_i h0
    split at he <;> first | (cases he; done) | skip
    rename_i h1
    split at he <;> cases he
    obtain ⟨k, q, rfl⟩ := rptr_inv rx
    cases ri
    exact OpOK.pure hH (run k q _ _ rfl rfl h0 h1) (rptr_drop rx)
theorem ok_idxS (hH : HRel w R H) (hE : ERel w R H env a.tmps) (hG : GlobOK cx gs w (Xof H R)) {o : Oper} {t : TypeId} {x ix : Operand} {x' ix' : Opd} {e : Eff}
    (ho : o.op = .index t x ix) (ht : P.underlying t = some .string)
    (hx : mOpd gs x x' = true) (hi : mOpd gs ix ix' = true) (he : evOp cx env H (.idxS x' ix') = some e) : OpOK P o a w R H e := by
  have rx := opd_rep hE hG hx
  have ri := opd_rep hE hG hi
  simp only [evOp] at he
  generalize hp : opd cx env x' = pv at rx he
  generalize hv : a.eval x = v at rx
  generalize hpi : opd cx env ix' = pi at ri he
  generalize hvi : a.eval ix = vi at ri
  cases pv <;> (try simp only at he) <;> first | (cases he; done) | skip
  cases pi <;> (try simp only at he) <;> first | (cases he; done) | skip
  rename_i s kk n
  split at he <;> first | (cases he; done) | skip
  rename_i h0
  cases hb : s[n.toNat]? with
  | none => rw [hb] at he; cases he
  | some b =>
    rw [hb] at he; cases he
    cases rx; cases ri
    have hlt : n.toNat < s.length := (List.getElem?_eq_some_iff.1 hb).1
    have hget : (⟨s.toArray⟩ : ByteArray)[n.toNat]? = some b := by
      rw [ByteArray.getElem?_lt' _ _ (by simpa [ByteArray.size] using hlt)]
      have := (List.getElem?_eq_some_iff.1 hb).2
      simp [← this]
      rfl
    exact OpOK.pure hH (v := .int .u8 b.toNat) (by simp [execOp, ho, hv, hvi, Instr.index, asIntOf, underlying, ht, h0, hget]) (.int R _ _)
end
end Go.Ev
namespace Go.Ev
open Go
set_option linter.unusedSectionVars false
set_option linter.unusedSimpArgs false
set_option linter.unusedVariables false
variable [Frame]
section
variable {P : Program} {cx : Cx} {gs : List Nat} {w : World} {R : Refs} {H : Heap} {env : Env} {a : Act}
def mOpt (gs : List Nat) : Option Operand → Option Opd → Bool
  | none, none => true
  | some x, some y => mOpd gs x y
  | _, _ => false
theorem within_spec {v : PV} {least most n : Nat} (h : within v least most = some n) : ∃ k m, v = .int k m ∧ (least : Int) ≤ m ∧ m ≤ most ∧ n = m.toNat := by
  unfold within at h
  split at h <;> first | (cases h; done) | skip
  split at h <;> first | (cases h; done) | skip
  split at h <;> cases h
  exact ⟨_, _, rfl, by assumption, by assumption, rfl⟩
theorem bound_run (hE : ERel w R H env a.tmps) (hG : GlobOK cx gs w (Xof H R)) {x : Option Operand} {x' : Option Opd} (hx : mOpt gs x x' = true)
    {most dflt n : Nat} (h : bound (opd cx env) x' 0 most dflt = some n) (code : BoundsCode) :
    (x = none ∧ x' = none ∧ n = dflt) ∨ (∃ y, x = some y ∧ x'.isSome = true ∧ n ≤ most ∧ ∀ big, most ≤ big → (Instr.sliceBound (a.eval y) big code).run P w = .ok n w) := by
  cases x with
  | none => cases x' with
    | none => simp [bound] at h; exact .inl ⟨rfl, rfl, h.symm⟩
    | some _ => simp [mOpt] at hx
  | some y => cases x' with
    | none => simp [mOpt] at hx
    | some y' =>
      simp only [bound] at h
      simp only [mOpt] at hx
      have ry := opd_rep hE hG hx
      obtain ⟨k, m, hv, h0, h1, rfl⟩ := within_spec h
      rw [hv] at ry
      generalize hy : a.eval y = v at ry
      cases ry
      refine .inr ⟨y, rfl, rfl, by omega, fun big hbig => ?_⟩
      rw [hy]
      exact run_sliceBound (P := P) (w := w) k m big code (by omega) (by omega)
theorem bytes_extract (s : List UInt8) (l h : Nat) : (⟨s.toArray⟩ : ByteArray).extract l h = ⟨((s.take h).drop l).toArray⟩ := by
  apply ByteArray.ext
  simp [ByteArray.data_extract, List.drop_take]
theorem ok_slcS (hH : HRel w R H) (hE : ERel w R H env a.tmps) (hG : GlobOK cx gs w (Xof H R)) {o : Oper} {t : TypeId} {x : Operand} {lo hi : Option Operand} {x' : Opd} {lo' hi' : Option Opd} {e : Eff}
    (ho : o.op = .slice t x lo hi none) (ht : P.underlying t = some .string)
    (hx : mOpd gs x x' = true) (hl : mOpt gs lo lo' = true) (hh : mOpt gs hi hi' = true) (he : evOp cx env H (.slcS x' lo' hi') = some e) : OpOK P o a w R H e := by
  have rx := opd_rep hE hG hx
  simp only [evOp] at he
  generalize hp : opd cx env x' = pv at rx he
  generalize hv : a.eval x = v at rx
  cases pv <;> (try simp only at he) <;> first | (cases he; done) | skip
  rename_i s
  cases rx
  cases hbh : bound (opd cx env) hi' 0 s.length s.length with
  | none => rw [hbh] at he; cases he
  | some h =>
    rw [hbh] at he
    simp only at he
    cases hbl : bound (opd cx env) lo' 0 h 0 with
    | none => rw [hbl] at he; cases he
    | some l =>
      rw [hbl] at he; cases he
      have r1 := bound_run (P := P) (a := a) hE hG hh hbh .sliceAlen
      have r2 := bound_run (P := P) (a := a) hE hG hl hbl .sliceB
      refine OpOK.pure hH (v := .string ⟨((s.take h).drop l).toArray⟩) ?_ (.str R _)
      rw [← bytes_extract]
      simp only [execOp, ho, Instr.sliceAt, Instr.slice, Instr.sliceBounds, hv, Sem.run_bind, run_underlying' ht, Result.andThen_ok]
      rcases r1 with ⟨rfl, rfl, rfl⟩ | ⟨y, rfl, _, _, hr1⟩ <;> rcases r2 with ⟨rfl, rfl, rfl⟩ | ⟨z, rfl, _, _, hr2⟩ <;> simp [size_mk, *]
theorem szOK_spec {n : Nat} : ∀ {rows : List (List PV)}, szOK n rows = true → ∀ (i : Nat) (row : List PV), rows[i]? = some row → row.length = n
  | [], _, i, row, hi => by simp at hi
  | r :: s, h, i, row, hi => by
    simp only [szOK] at h
    split at h <;> first | (cases h; done) | skip
    rename_i hb
    cases i with
    | zero => simp at hi; subst hi; exact Nat.eq_of_beq_eq_true hb
    | succ i => simp at hi; exact szOK_spec h i row hi
theorem ro_inv {X : Nat → Prop} {rows : List (List PV)} {v : Value} (h0 : Rep w X R (.ro rows) v) : ∃ ad c, v = .slice ad rows.length c ∧ rows.length ≤ c := by
  cases h0 with
  | ro0 _ ad c => exact ⟨ad, c, rfl, by simp⟩
  | ro _ k q sz' _ c vs hk hs hl hz hc hr => exact ⟨_, c, rfl, hl⟩
theorem ro_slice {X : Nat → Prop} {rows : List (List PV)} {ad : Option Addr} {c sz l h m : Nat} (h0 : Rep w X R (.ro rows) (.slice ad rows.length c))
    (hsz : l ≠ 0 → ∀ (i : Nat) (row : List PV), rows[i]? = some row → row.length = sz) (h1 : l ≤ h) (h2 : h ≤ rows.length) (h3 : h ≤ m) (h4 : m ≤ c) :
    Rep w X R (.ro ((rows.take h).drop l)) (.slice (if m = l then ad else ad.map (·.add (l * sz))) (h - l) (m - l)) := by
  by_cases hlh : l = h
  · have e1 : (rows.take h).drop l = [] := by apply List.drop_eq_nil_of_le; simp; omega
    rw [e1, show h - l = 0 by omega]
    exact .ro0 R _ _
  · rw [if_neg (by omega)]
    cases h0 with
    | ro0 => simp at h2; omega
    | ro _ k q sz' _ c vs hk hs hl hz hc hr =>
      have hlen : ((rows.take h).drop l).length = h - l := by simp; omega
      have hget : ∀ (i : Nat) (row : List PV), ((rows.take h).drop l)[i]? = some row → rows[l + i]? = some row := by
        intro i row hi
        rw [List.getElem?_drop, List.getElem?_take] at hi
        split at hi
        · exact hi
        · cases hi
      have hs0 : l * sz = l * sz' := by
        by_cases e : l = 0
        · subst e; simp
        · have hlt : 0 < rows.length := by omega
          have a1 := hsz e 0 rows[0] (by simp)
          have a2 := hz 0 rows[0] (by simp)
          rw [← a1, ← a2]
      rw [← hlen]
      simp only [Option.map_some, add_none, hs0]
      refine .ro R k (q + l * sz') sz' _ _ (fun i j => vs (l + i) j) hk hs (by rw [hlen]; omega) (fun i row hi => hz _ row (hget i row hi)) (fun i row j pv hi hj => ?_) (fun i row j pv hi hj => hr _ row j pv (hget i row hi) hj)
      have := hc _ row j pv (hget i row hi) hj
      rwa [show q + (l + i) * sz' + j = q + l * sz' + i * sz' + j by rw [Nat.add_mul]; omega] at this
theorem mOpt_isSome {x : Option Operand} {x' : Option Opd} (h : mOpt gs x x' = true) : x.isSome = x'.isSome := by
  cases x <;> cases x' <;> simp [mOpt] at h ⊢
theorem run_slc {o : Oper} {t el : TypeId} {x : Operand} {lo hi mx : Option Operand} {ad : Option Addr} {len cap esz : Nat}
    (ho : o.op = .slice t x lo hi mx) (ht : P.underlying t = some (.slice el)) (hsz : tySize P el = some esz) (hv : a.eval x = .slice ad len cap)
    {lo' hi' mx' : Option Opd} (hE : ERel w R H env a.tmps) (hG : GlobOK cx gs w (Xof H R))
    (hl : mOpt gs lo lo' = true) (hh : mOpt gs hi hi' = true) (hm : mOpt gs mx mx' = true) (hmh : mx'.isSome = true → hi'.isSome = true)
    {most m h l dm : Nat} (hmost : most ≤ cap) (hml : len ≤ most) (hdm : dm ≤ cap)
    (e1 : bound (opd cx env) mx' 0 most dm = some m) (e2 : bound (opd cx env) hi' 0 m len = some h) (e3 : bound (opd cx env) lo' 0 h 0 = some l) :
    ∃ M, (mx' = none → M = cap) ∧ (mx'.isSome = true → M = m) ∧ h ≤ M ∧ M ≤ cap ∧ l ≤ h ∧
      (execOp a.eval o).run P w = .ok (.value (.slice (if M = l then ad else ad.map (·.add (l * esz))) (h - l) (M - l))) w := by
  have r1 := bound_run (P := P) (a := a) hE hG hm e1
  have r2 := bound_run (P := P) (a := a) hE hG hh e2
  have r3 := bound_run (P := P) (a := a) hE hG hl e3
  have hsb : ∃ M, (mx' = none → M = cap) ∧ (mx'.isSome = true → M = m) ∧ h ≤ M ∧ M ≤ cap ∧ l ≤ h ∧
      (Instr.sliceBounds true len cap (lo.map a.eval) (hi.map a.eval) (mx.map a.eval)).run P w = .ok (l, h, M) w := by
    have hll : l ≤ h := by
      rcases r3 .sliceB with ⟨_, _, rfl⟩ | ⟨_, _, _, hle, _⟩
      · omega
      · exact hle
    cases hmx : mx' with
    | none =>
      have hmn : mx = none := by
        have := mOpt_isSome hm; rw [hmx] at this; cases mx <;> simp_all
      subst hmn
      have hmv : m = dm := by rw [hmx] at e1; simp [bound] at e1; exact e1.symm
      refine ⟨cap, fun _ => rfl, fun h => by simp at h, ?_, Nat.le_refl _, hll, ?_⟩
      · rcases r2 .sliceAcap with ⟨_, _, rfl⟩ | ⟨_, _, _, hle, _⟩ <;> omega
      · rcases r2 .sliceAcap with ⟨rfl, _, rfl⟩ | ⟨y, rfl, _, hle, hr2⟩ <;> rcases r3 .sliceB with ⟨rfl, _, rfl⟩ | ⟨z, rfl, _, hle3, hr3⟩ <;>
          simp only [Instr.sliceBounds, Option.map_none, Option.map_some, Sem.run_bind, Sem.run_pure, Result.andThen_ok, if_true, Option.isSome_none, Bool.false_eq_true, if_false]
        · rw [hr3 h (Nat.le_refl _)]; rfl
        · rw [hr2 cap (by omega)]; rfl
        · rw [hr2 cap (by omega)]; simp only [Result.andThen_ok]; rw [hr3 h (Nat.le_refl _)]; rfl
    | some mo =>
      rw [hmx] at hmh hm e1
      have hms : mx.isSome = true := by rw [mOpt_isSome hm]; rfl
      have hhs : hi.isSome = true := by rw [mOpt_isSome hh]; exact hmh rfl
      rcases r1 .slice3Acap with ⟨rfl, _, _⟩ | ⟨x1, rfl, _, hle1, hr1⟩
      · cases hms
      rcases r2 .slice3B with ⟨rfl, _, _⟩ | ⟨x2, rfl, _, hle2, hr2⟩
      · cases hhs
      refine ⟨m, fun h => (by cases h), fun _ => rfl, hle2, by omega, hll, ?_⟩
      rcases r3 .slice3C with ⟨rfl, _, rfl⟩ | ⟨z, rfl, _, hle3, hr3⟩ <;>
        simp only [Instr.sliceBounds, Option.map_none, Option.map_some, Sem.run_bind, Sem.run_pure, Result.andThen_ok, if_true, Option.isSome_some]
      · rw [hr1 cap hmost]; simp only [Result.andThen_ok]; rw [hr2 m (Nat.le_refl _)]; rfl
      · rw [hr1 cap hmost]; simp only [Result.andThen_ok]; rw [hr2 m (Nat.le_refl _)]; simp only [Result.andThen_ok]; rw [hr3 h (Nat.le_refl _)]; rfl
  obtain ⟨M, a1, a2, a3, a4, a5, hrun⟩ := hsb
  refine ⟨M, a1, a2, a3, a4, a5, ?_⟩
  simp only [execOp, ho, Instr.sliceAt, Instr.slice, hv, Sem.run_bind, run_underlying' ht, Result.andThen_ok, hrun, run_sizeOf' hsz, Sem.run_pure]
theorem ok_slc (hH : HRel w R H) (hE : ERel w R H env a.tmps) (hG : GlobOK cx gs w (Xof H R)) {o : Oper} {t el : TypeId} {x : Operand} {lo hi mx : Option Operand} {x' : Opd} {lo' hi' mx' : Option Opd} {esz : Nat} {e : Eff}
    (ho : o.op = .slice t x lo hi mx) (ht : P.underlying t = some (.slice el)) (hsz : tySize P el = some esz)
    (hx : mOpd gs x x' = true) (hl : mOpt gs lo lo' = true) (hh : mOpt gs hi hi' = true) (hm : mOpt gs mx mx' = true) (hmh : mx'.isSome = true → hi'.isSome = true)
    (he : evOp cx env H (.slc esz x' lo' hi' mx') = some e) : OpOK P o a w R H e := by
  have rx := opd_rep hE hG hx
  simp only [evOp] at he
  generalize hp : opd cx env x' = pv at rx he
  generalize hv : a.eval x = v at rx
  cases pv <;> (try simp only at he) <;> first | (cases he; done) | skip
  · cases rx
    rename_i ad
    split at he <;> cases he
    rename_i m h l e1 e2 e3
    have e2' : bound (opd cx env) hi' 0 m 0 = some h := by
      cases hi' with
      | none => exact e2
      | some y =>
        have b1 : m = 0 := by
          cases mx' with
          | none => simp [bound] at e1; exact e1.symm
          | some z => simp only [bound] at e1; obtain ⟨_, _, _, _, _, rfl⟩ := within_spec e1; omega
        rw [b1]; exact e2
    have b2 : h = 0 := by
      cases hi' with
      | none => simp [bound] at e2; exact e2.symm
      | some z => simp only [bound] at e2; obtain ⟨_, _, _, _, _, rfl⟩ := within_spec e2; omega
    obtain ⟨M, a1, a2, a3, a4, a5, hrun⟩ := run_slc ho ht hsz hv hE hG hl hh hm hmh (Nat.le_refl 0) (Nat.le_refl 0) (Nat.le_refl 0) e1 e2' (by rw [b2]; exact e3)
    have hM : M = 0 := by omega
    subst hM
    have hl0 : l = 0 := by omega
    subst hl0
    refine OpOK.pure hH hrun ?_
    rw [b2]
    exact .nul R _
  · rename_i rows
    obtain ⟨ad, c, rfl, hc⟩ := ro_inv rx
    split at he <;> first | (cases he; done) | skip
    rename_i m hsh e1
    cases e2 : bound (opd cx env) hi' 0 m rows.length with
    | none => rw [e2] at he; cases he
    | some h =>
      rw [e2] at he; simp only at he
      cases e3 : bound (opd cx env) lo' 0 h 0 with
      | none => rw [e3] at he; cases he
      | some l =>
        rw [e3] at he; simp only at he
        obtain ⟨M, a1, a2, a3, a4, a5, hrun⟩ := run_slc ho ht hsz hv hE hG hl hh hm hmh hc (Nat.le_refl _) hc e1 e2 e3
        have hmle : m ≤ rows.length := by
          cases mx' with
          | none => simp [bound] at e1; omega
          | some z => simp only [bound] at e1; obtain ⟨_, _, _, _, hle, rfl⟩ := within_spec e1; omega
        have hhle : h ≤ rows.length := by
          cases hi' with
          | none => simp [bound] at e2; omega
          | some z => simp only [bound] at e2; obtain ⟨_, _, _, _, hle, rfl⟩ := within_spec e2; omega
        have hrows : l ≠ 0 → ∀ (i : Nat) (row : List PV), rows[i]? = some row → row.length = esz := by
          intro hne
          cases lo' with
          | none => simp [bound] at e3; omega
          | some z => exact szOK_spec hsh
        have hro := ro_slice rx hrows a5 hhle a3 a4
        cases mx' with
        | none =>
          simp only at he; cases he
          exact OpOK.pure hH hrun hro
        | some z =>
          simp only at he
          have hMm := a2 rfl
          split at he <;> cases he
          · rename_i hb
            have hb := Nat.eq_of_beq_eq_true hb
            refine OpOK.pure hH hrun ?_
            rw [hMm, show h - l = 0 by omega, show m - l = 0 by omega]
            exact .nul R _
          · exact OpOK.pure hH hrun hro
  · rename_i id off len cl
    have key : ∀ (sz : Nat) (rows : List (List PV)), (hget H id = some (.arr sz rows) ∨ hget H id = some (.froz sz rows)) →
        (match Nat.beq rows.length cl, Nat.beq sz esz, bound (opd cx env) mx' 0 len (cl - off) with
        | true, true, some m => match bound (opd cx env) hi' 0 m len with
          | some h => match bound (opd cx env) lo' 0 h 0 with
            | some l => match (generalizing := false) mx' with
              | none => some (⟨.own id (off + l) (h - l) cl, [], [id]⟩ : Eff)
              | some _ => match Nat.beq m l with
                | true => some ⟨.nul, [], [id]⟩
                | false => some ⟨.any, [], [id]⟩
            | none => none
          | none => none
        | _, _, _ => none) = some e → OpOK P o a w R H e := by
      intro sz rows hg he
      split at he <;> first | (cases he; done) | skip
      rename_i m hb hsh e1
      have hvo : validO H id cl = true := by
        unfold validO
        rcases hg with hg | hg <;> rw [hg] <;> exact hb
      have hB : ∃ r, R id = some r ∧ r.sz = sz := by
        rcases hg with hg | hg
        · obtain ⟨r, h1, _, _, h2, _⟩ := hH.has id _ hg; exact ⟨r, h1, h2⟩
        · obtain ⟨r, h1, _, _, h2, _⟩ := hH.has id _ hg; exact ⟨r, h1, h2⟩
      cases e2 : bound (opd cx env) hi' 0 m len with
      | none => rw [e2] at he; cases he
      | some h =>
        rw [e2] at he; simp only at he
        cases e3 : bound (opd cx env) lo' 0 h 0 with
        | none => rw [e3] at he; cases he
        | some l =>
          rw [e3] at he; simp only at he
          obtain ⟨r0, hr0, hsz0⟩ := hB
          obtain ⟨r, hr1, hcl, hbx, hcase⟩ := own_real hH hvo rx
          rw [hr0] at hr1; cases hr1
          have hvl : len ≤ cl - off := by
            rcases hcase with ⟨_, _, _, _, _, _, _, b1, _, _, _, _, _⟩ | ⟨rfl, rfl, _, _⟩ <;> omega
          have hmle : m ≤ cl - off := by
            cases mx' with
            | none => simp [bound] at e1; omega
            | some z => simp only [bound] at e1; obtain ⟨_, _, _, _, hle, rfl⟩ := within_spec e1; omega
          have hhle : h ≤ cl - off := by
            cases hi' with
            | none => simp [bound] at e2; omega
            | some z => simp only [bound] at e2; obtain ⟨_, _, _, _, hle, rfl⟩ := within_spec e2; omega
          rcases hcase with ⟨k, base, c, cs, et, fr, hk, b1, b2, b3, hw, b4, rfl⟩ | ⟨rfl, rfl, ad, rfl⟩
          · obtain ⟨M, a1, a2, a3, a4, a5, hrun⟩ := run_slc ho ht hsz hv hE hG hl hh hm hmh b2 (Nat.le_refl _) (show cl - off ≤ c by omega) e1 e2 e3
            cases mx' with
            | none =>
              simp only at he; cases he
              have hM := a1 rfl
              subst hM
              refine OpOK.pure hH hrun ?_
              by_cases hz : M = l
              · have : h - l = 0 := by omega
                rw [if_pos hz, this, show M - l = 0 by omega, show off + l = cl by omega]
                exact .ownZ R id r0 _ cl hr0 hbx hcl
              · rw [if_neg hz]
                have hs : l * esz = l * r0.sz := by rw [hsz0, Nat.eq_of_beq_eq_true hsh]
                simp only [Option.map_some, add_none, hs]
                have := Rep.own (w := w) (X := Xof H R) R id r0 k base (off + l) (h - l) cl (M - l) cs et fr hr0 hbx hcl hk (by omega) (by omega) (by omega) hw
                  (by rw [show off + l + (M - l) = off + M by omega]; exact b4)
                rwa [Nat.add_mul, ← Nat.add_assoc] at this
            | some z =>
              simp only at he
              have hMm := a2 rfl
              split at he <;> cases he
              · rename_i hb
                have hb := Nat.eq_of_beq_eq_true hb
                refine OpOK.pure hH hrun ?_
                rw [hMm, show h - l = 0 by omega, show m - l = 0 by omega]
                exact .nul R _
              · exact OpOK.pure hH hrun (.any R _)
          · obtain ⟨M, a1, a2, a3, a4, a5, hrun⟩ := run_slc ho ht hsz hv hE hG hl hh hm hmh (Nat.le_refl 0) (Nat.le_refl 0) (show off - off ≤ 0 by omega) e1 e2 e3
            have hM : M = 0 := by omega
            subst hM
            have hl0 : l = 0 := by omega
            subst hl0
            have hh0 : h = 0 := by omega
            subst hh0
            cases mx' with
            | none =>
              simp only at he; cases he
              exact OpOK.pure hH hrun (.ownZ R id r0 _ off hr0 hbx hcl)
            | some z =>
              simp only at he
              split at he <;> cases he
              · exact OpOK.pure hH hrun (.nul R _)
              · exact OpOK.pure hH hrun (.any R _)
    split at he
    · rename_i sz rows hg; exact key sz rows (.inl hg) he
    · rename_i sz rows hg; exact key sz rows (.inr hg) he
    · cases he
theorem allCell_spec : ∀ {l : List PV}, allCell l = true → ∀ p ∈ l, cellV p = true
  | [], _, p, hp => by cases hp
  | v :: r, h, p, hp => by
    simp only [allCell] at h
    split at h <;> first | (cases h; done) | skip
    rename_i hv
    cases hp with
    | head => exact hv
    | tail _ hp => exact allCell_spec h p hp
theorem ok_mkf (hH : HRel w R H) (hE : ERel w R H env a.tmps) (hG : GlobOK cx gs w (Xof H R)) {o : Oper} {f : FuncId} {caps : Array Operand} {caps' : List Opd}
    (ho : o.op = .makeFunc (.func f) #[] caps) (hx : mOpds gs caps.toList caps' = true) (hcv : allCell (opds cx env caps') = true) :
    OpOK P o a w R H ⟨.func f (opds cx env caps'), [], []⟩ := by
  obtain ⟨hl, hh⟩ := mOpds_spec hx
  obtain ⟨hl2, hr⟩ := opds_rep hE hG hl hh
  have hcap : ∀ (i : Nat) p v, (opds cx env caps')[i]? = some p → (caps.map a.eval)[i]? = some v → Rep w (Xof H R) R p v := by
    intro i p v hp hv
    refine hr i p v hp ?_
    rw [← hv, ← Array.getElem?_toList, Array.toList_map]
  refine OpOK.pure hH (v := .func (.func f) #[] (caps.map a.eval)) (by simp [execOp, ho, Instr.makeFunc]) (.func R f _ _ (by simp [hl2]) (fun i v hv => ?_) hcap)
  have hi : i < (opds cx env caps').length := by
    have := (Array.getElem?_eq_some_iff.1 hv).1
    simp at this; simp [hl2]; exact this
  refine (hcap i _ v (List.getElem?_eq_getElem hi) hv).oneCell ?_
  exact allCell_spec hcv _ (List.getElem_mem hi)
end
end Go.Ev
namespace Go.Ev
open Go
set_option linter.unusedSectionVars false
set_option linter.unusedSimpArgs false
set_option linter.unusedVariables false
variable [Frame]
section
variable {P : Program} {cx : Cx} {gs : List Nat} {w : World} {R : Refs} {H : Heap} {env : Env} {a : Act}
theorem bytes_beq (s t : List UInt8) : ((⟨s.toArray⟩ : ByteArray) == (⟨t.toArray⟩ : ByteArray)) = decide (s = t) := by
  rw [beq_toListBytes, ByteArray.toList_eq, ByteArray.toList_eq]
  simp
  by_cases h : s = t <;> simp [h]
theorem int_bin {op : BinOp} {k : IntKind} {x y : Int} {p : PV} (h : intBin op k x y = some p) (t : TypeId) :
    ∃ v, (binOp op t (.int k x) (.int k y)).run P w = .ok v w ∧ Rep w (Xof H R) R p v := by
  cases op <;> simp only [intBin] at h <;> first | (cases h; done) | skip
  · cases h; exact ⟨_, by simp [binOp, Op.intArith], .int R _ _⟩
  · cases h; exact ⟨_, by simp [binOp, Op.intArith], .int R _ _⟩
  · cases h; exact ⟨_, by simp [binOp, Op.intArith], .int R _ _⟩
  · split at h <;> cases h
    rename_i hy
    exact ⟨_, by simp [binOp, Op.intDiv, hy], .int R _ _⟩
  · split at h <;> cases h
    rename_i hy
    exact ⟨_, by simp [binOp, Op.intDiv, hy], .int R _ _⟩
  · cases h; exact ⟨_, by simp [binOp, Op.intBits], .int R _ _⟩
  · cases h; exact ⟨_, by simp [binOp, Op.intBits], .int R _ _⟩
  · cases h; exact ⟨_, by simp [binOp, Op.intBits], .int R _ _⟩
  · cases h; exact ⟨_, by simp [binOp, Op.intBits], .int R _ _⟩
  · cases h; exact ⟨_, by simp [binOp, Op.intCmp], .bool R _⟩
  · cases h; exact ⟨_, by simp [binOp, Op.intCmp], .bool R _⟩
  · cases h; exact ⟨_, by simp [binOp, Op.intCmp], .bool R _⟩
  · cases h; exact ⟨_, by simp [binOp, Op.intCmp], .bool R _⟩
def eqFs (P : Program) (eq : TypeId → Option (List EK)) : List Field → Nat → Option (List EK)
  | [], _ => some []
  | f :: r, off =>
    if f.name = "_" then none else if f.offset = off then
      match eq f.type with
      | some ks => if tySize P f.type = some ks.length then
          match eqFs P eq r (off + ks.length) with
          | some l => some (ks ++ l)
          | none => none
        else none
      | none => none
    else none
def eqTy (P : Program) : Nat → TypeId → Option (List EK)
  | 0, _ => none
  | d + 1, t => match P.underlying t with
    | some .bool => some [.b]
    | some (.int _) => some [.i]
    | some .string => some [.s]
    | some (.struct fs) => if P.stoodInHeld t then none else eqFs P (eqTy P d) fs.toList 0
    | _ => none
def CellsOf (P : Program) (w : World) (X : Nat → Prop) (R : Refs) (t : TypeId) (v : Value) (cs : List PV) : Prop :=
  (tyAgg P t = some true ∧ ∃ arr, v = .agg arr ∧ arr.size = cs.length ∧ ∀ (i : Nat) p u, cs[i]? = some p → arr[i]? = some u → Rep w X R p u) ∨
  (tyAgg P t = some false ∧ ∃ p, cs = [p] ∧ Rep w X R p v)
theorem eqk_append : ∀ {k1 k2 : List EK} {a b : List PV} {r : Bool}, eqk (k1 ++ k2) a b = some r →
    ∃ x y, eqk k1 (a.take k1.length) (b.take k1.length) = some x ∧ eqk k2 (a.drop k1.length) (b.drop k1.length) = some y ∧ r = (x && y)
  | [], k2, a, b, r, h => ⟨true, r, by simp [eqk], by simpa using h, by simp⟩
  | k :: k1, k2, a, b, r, h => by
    rw [List.cons_append] at h
    unfold eqk at h
    split at h <;> first | (cases h; done) | skip
    · exact absurd (by assumption) (List.cons_ne_nil _ _)
    · rename_i k' l' _ _ _ _ _ _ _ heq
      cases heq
      split at h <;> first | (cases h; done) | skip
      rename_i hkl
      split at h <;> cases h
      rename_i x hx
      obtain ⟨u, v, e1, e2, rfl⟩ := eqk_append hx
      exact ⟨_, v, by simp [eqk, hkl, e1]; rfl, by simpa using e2, by simp [Bool.and_assoc]⟩
    · rename_i heq
      cases heq
      split at h <;> cases h
      rename_i x hx
      obtain ⟨u, v, e1, e2, rfl⟩ := eqk_append hx
      exact ⟨_, v, by simp [eqk, e1]; rfl, by simpa using e2, by simp [Bool.and_assoc]⟩
    · rename_i heq
      cases heq
      split at h <;> cases h
      rename_i x hx
      obtain ⟨u, v, e1, e2, rfl⟩ := eqk_append hx
      exact ⟨_, v, by simp [eqk, e1]; rfl, by simpa using e2, by simp [Bool.and_assoc]⟩
theorem eqk_len : ∀ {ks : List EK} {a b : List PV} {r : Bool}, eqk ks a b = some r → a.length = ks.length ∧ b.length = ks.length
  | [], a, b, r, h => by
    unfold eqk at h
    split at h <;> first | (cases h; done) | simp_all
  | k :: ks, a, b, r, h => by
    unfold eqk at h
    split at h <;> first | (cases h; done) | skip
    · exact absurd (by assumption) (List.cons_ne_nil _ _)
    · rename_i heq
      cases heq
      split at h <;> first | (cases h; done) | skip
      split at h <;> cases h
      rename_i hx
      have := eqk_len hx
      simp [this]
    · rename_i heq
      cases heq
      split at h <;> cases h
      rename_i hx
      have := eqk_len hx
      simp [this]
    · rename_i heq
      cases heq
      split at h <;> cases h
      rename_i hx
      have := eqk_len hx
      simp [this]
theorem list_beq (s t : List UInt8) : (s == t) = decide (s = t) := by by_cases h : s = t <;> simp [h]
theorem eqk_nil {ks : List EK} {z : Bool} (h : eqk ks [] [] = some z) : z = true := by
  cases ks with
  | nil => simp [eqk] at h; exact h
  | cons k ks => cases k <;> simp [eqk] at h
theorem tyAgg_eq {t : TypeId} {d : TypeDesc} (h : P.underlying t = some d) : tyAgg P t = some (match (generalizing := false) d with | .struct _ | .array _ _ => true | _ => false) := by
  unfold tyAgg; rw [h]; rfl
theorem part_cells {X : Nat → Prop} {t : TypeId} {arr : Array Value} {cs : List PV} {off n : Nat} (hsz : tySize P t = some n) {b : Bool} (hag : tyAgg P t = some b) (h1 : b = false → n = 1)
    (hl : arr.size = cs.length) (hn : off + n ≤ cs.length) (hr : ∀ (i : Nat) p u, cs[i]? = some p → arr[i]? = some u → Rep w X R p u) :
    ∃ v, (part t arr off).run P w = .ok v w ∧ CellsOf P w X R t v ((cs.drop off).take n) := by
  have hlen : ((cs.drop off).take n).length = n := by simp; omega
  cases b with
  | true =>
    refine ⟨.agg (arr.extract off (off + n)), by simp [part, run_isAgg' hag, run_sizeOf' hsz], .inl ⟨hag, _, rfl, by rw [hlen]; simp; omega, fun i p u hp hu => ?_⟩⟩
    have hp' : cs[off + i]? = some p := by
      rw [List.getElem?_take] at hp
      split at hp
      · simpa using hp
      · cases hp
    exact hr _ p u hp' (extract_get hu)
  | false =>
    have := h1 rfl
    subst this
    have hlt : off < arr.size := by omega
    have hlc : off < cs.length := by omega
    refine ⟨arr[off], by simp [part, run_isAgg' hag, hlt], .inr ⟨hag, cs[off], ?_, hr off _ _ (by simp) (by simp [hlt])⟩⟩
    rw [List.drop_eq_getElem_cons hlc]
    rfl
theorem eqTy_one {d : Nat} {t : TypeId} {ks : List EK} (h : eqTy P d t = some ks) (hag : tyAgg P t = some false) : ks.length = 1 := by
  cases d with
  | zero => simp [eqTy] at h
  | succ d =>
    simp only [eqTy] at h
    split at h <;> first | (cases h; done) | skip
    · cases h; rfl
    · cases h; rfl
    · cases h; rfl
    · rename_i hu; rw [tyAgg_eq hu] at hag; cases hag
theorem eqTy_agg {d : Nat} {t : TypeId} {ks : List EK} (h : eqTy P d t = some ks) : ∃ b, tyAgg P t = some b := by
  cases d with
  | zero => simp [eqTy] at h
  | succ d =>
    simp only [eqTy] at h
    split at h <;> first | (cases h; done) | skip
    all_goals (rename_i hu; exact ⟨_, tyAgg_eq hu⟩)
theorem equal_run {X : Nat → Prop} : ∀ (d D : Nat) (t : TypeId) (ks : List EK) (x y : Value) (p q : List PV) (r : Bool), d ≤ D → eqTy P d t = some ks →
    CellsOf P w X R t x p → CellsOf P w X R t y q → eqk ks p q = some r → (Op.equalIn D t x y).run P w = .ok r w
  | 0, _, _, _, _, _, _, _, _, _, h, _, _, _ => by simp [eqTy] at h
  | d + 1, 0, _, _, _, _, _, _, _, h, _, _, _, _ => by omega
  | d + 1, D + 1, t, ks, x, y, p, q, r, hd, h, hx, hy, he => by
    simp only [eqTy] at h
    split at h <;> first | (cases h; done) | skip
    · rename_i hu
      cases h
      have hag := tyAgg_eq hu
      rcases hx with ⟨h1, _⟩ | ⟨_, p0, rfl, hx⟩
      · rw [hag] at h1; cases h1
      rcases hy with ⟨h1, _⟩ | ⟨_, q0, rfl, hy⟩
      · rw [hag] at h1; cases h1
      cases p0 <;> cases q0 <;> simp [eqk] at he
      subst he
      cases hx; cases hy
      simp [Op.equalIn, underlying, hu]
    · rename_i hu
      cases h
      have hag := tyAgg_eq hu
      rcases hx with ⟨h1, _⟩ | ⟨_, p0, rfl, hx⟩
      · rw [hag] at h1; cases h1
      rcases hy with ⟨h1, _⟩ | ⟨_, q0, rfl, hy⟩
      · rw [hag] at h1; cases h1
      cases p0 <;> cases q0 <;> simp [eqk] at he
      obtain ⟨rfl, rfl⟩ := he
      cases hx; cases hy
      simp [Op.equalIn, underlying, hu]
      rfl
    · rename_i hu
      cases h
      have hag := tyAgg_eq hu
      rcases hx with ⟨h1, _⟩ | ⟨_, p0, rfl, hx⟩
      · rw [hag] at h1; cases h1
      rcases hy with ⟨h1, _⟩ | ⟨_, q0, rfl, hy⟩
      · rw [hag] at h1; cases h1
      cases p0 <;> cases q0 <;> simp [eqk] at he
      subst he
      cases hx; cases hy
      simp [Op.equalIn, underlying, hu, bytes_beq]
    · rename_i fs hu
      split at h <;> first | (cases h; done) | skip
      rename_i hst
      have hag := tyAgg_eq hu
      obtain ⟨_, xs, rfl, hxl, hxr⟩ := hx.resolve_right (fun h1 => by rw [hag] at h1; cases h1.1)
      obtain ⟨_, ys, rfl, hyl, hyr⟩ := hy.resolve_right (fun h1 => by rw [hag] at h1; cases h1.1)
      have hf : P.fieldsOf t = fs := by simp [Program.fieldsOf, hu]
      rw [run_equalIn_struct w D t xs ys (by rw [hf]; exact hu) (by simpa using hst), hf]
      have hlp := eqk_len he
      have go : ∀ (l : List Field) (off : Nat) (ks : List EK) (r : Bool), eqFs P (eqTy P d) l off = some ks → off + ks.length = p.length →
          eqk ks (p.drop off) (q.drop off) = some r → (Op.eqFields D xs ys l).run P w = .ok r w := by
        intro l
        induction l with
        | nil =>
          intro off ks r h1 h2 h3
          simp [eqFs] at h1
          subst h1
          simp at h2
          have e1 : p.drop off = [] := List.drop_eq_nil_of_le (by omega)
          have e2 : q.drop off = [] := List.drop_eq_nil_of_le (by omega)
          rw [e1, e2] at h3
          simp [eqk] at h3
          simp [Op.eqFields, h3]
        | cons f l ih =>
          intro off ks r h1 h2 h3
          simp only [eqFs] at h1
          split at h1 <;> first | (cases h1; done) | skip
          rename_i hn
          split at h1 <;> first | (cases h1; done) | skip
          rename_i hoff
          cases hk : eqTy P d f.type with
          | none => rw [hk] at h1; cases h1
          | some k1 =>
            rw [hk] at h1
            simp only at h1
            split at h1 <;> first | (cases h1; done) | skip
            rename_i hsz
            split at h1 <;> cases h1
            rename_i k2 hk2
            obtain ⟨u, v, e1, e2, rfl⟩ := eqk_append h3
            simp at h2
            obtain ⟨b, hb⟩ := eqTy_agg hk
            obtain ⟨vx, rx, cx'⟩ := part_cells (P := P) (w := w) (R := R) (X := X) (off := off) hsz hb (fun e => by subst e; exact eqTy_one hk hb) hxl (by omega) hxr
            obtain ⟨vy, ry, cy'⟩ := part_cells (P := P) (w := w) (R := R) (X := X) (off := off) hsz hb (fun e => by subst e; exact eqTy_one hk hb) hyl (by omega) hyr
            have hrun := equal_run d D f.type k1 vx vy _ _ u (by omega) hk cx' cy' e1
            have htail := ih (off + k1.length) k2 v hk2 (by omega) (by simpa only [List.drop_drop] using e2)
            simp only [Op.eqFields, if_pos hn, hoff, Sem.run_bind, rx, ry, hrun, Result.andThen_ok]
            cases u
            · simp
            · simp [htail]
      exact go fs.toList 0 ks r h (by simp [hlp.1]) (by simpa using he)
theorem eqGuard_plain {op : BinOp} {t : TypeId} {x y : Operand} {u v : Value} (h1 : ∀ a, u ≠ .agg a) (h2 : u ≠ .nilIface) : (eqGuard op t x y u v).run P w = .ok () w := by
  unfold eqGuard
  cases u <;> cases op <;> first | (exact absurd rfl (h1 _)) | (exact absurd rfl h2) | simp
theorem eqGuard_agg {op : BinOp} {t : TypeId} {x y : Operand} {p q : Array Value} (h : P.eqGuardType P.depth t = false) : (eqGuard op t x y (.agg p) (.agg q)).run P w = .ok () w := by
  unfold eqGuard
  cases op <;> simp [h]
theorem str_add {s1 s2 : List UInt8} (hlen : s1.length + s2.length ≤ 9223372036854775807) (t : TypeId) :
    (binOp .add t (.string ⟨s1.toArray⟩) (.string ⟨s2.toArray⟩)).run P w = .ok (.string ⟨(s1 ++ s2).toArray⟩) w := by
  have hmax : ¬ (IntKind.i64.max < (s1.length : Int) + s2.length) := by
    have : IntKind.i64.max = 9223372036854775807 := by decide
    rw [this]; omega
  have happ : (⟨s1.toArray⟩ : ByteArray) ++ ⟨s2.toArray⟩ = ⟨(s1 ++ s2).toArray⟩ := by
    apply ByteArray.ext; simp
  simp [binOp, Op.stringOp, size_mk, happ]
  omega
theorem ok_bin (hH : HRel w R H) (hE : ERel w R H env a.tmps) (hG : GlobOK cx gs w (Xof H R)) {o : Oper} {op : BinOp} {t u : TypeId} {x y : Operand} {x' y' : Opd} {e : Eff}
    (ho : o.op = .binOp op t x y u) (hx : mOpd gs x x' = true) (hy : mOpd gs y y' = true) (he : evOp cx env H (.bin op x' y') = some e) : OpOK P o a w R H e := by
  have rx := opd_rep hE hG hx
  have ry := opd_rep hE hG hy
  simp only [evOp] at he
  generalize hp : opd cx env x' = pv at rx he
  generalize hv : a.eval x = v at rx
  generalize hq : opd cx env y' = qv at ry he
  generalize hu : a.eval y = uv at ry
  cases hb : binv op pv qv with
  | none => rw [hb] at he; cases he
  | some p =>
    rw [hb] at he; cases he
    have fin : ∀ z, (∀ a, v ≠ .agg a) → v ≠ .nilIface → (binOp op t v uv).run P w = .ok z w → Rep w (Xof H R) R p z → OpOK P o a w R H ⟨p, [], []⟩ := by
      intro z h1 h2 h3 h4
      refine OpOK.pure hH (v := z) ?_ h4
      simp [execOp, ho, hv, hu, eqGuard_plain h1 h2, h3]
    unfold binv at hb
    split at hb
    · split at hb <;> first | (cases hb; done) | skip
      split at hb <;> cases hb
      rename_i hneg
      cases rx; cases ry
      exact fin _ (fun _ h => by cases h) (fun h => by cases h) (by simp [binOp, Op.shift, hneg]) (.int R _ _)
    · split at hb <;> first | (cases hb; done) | skip
      split at hb <;> cases hb
      rename_i hneg
      cases rx; cases ry
      exact fin _ (fun _ h => by cases h) (fun h => by cases h) (by simp [binOp, Op.shift, hneg]) (.int R _ _)
    · split at hb <;> first | (cases hb; done) | skip
      · split at hb <;> first | (cases hb; done) | skip
        rename_i hkl
        subst hkl
        cases rx; cases ry
        obtain ⟨z, h1, h2⟩ := int_bin (P := P) (w := w) (R := R) (H := H) hb t
        exact fin z (fun _ h => by cases h) (fun h => by cases h) h1 h2
      · split at hb <;> first | (cases hb; done) | skip
        split at hb <;> cases hb
        rename_i hlen
        cases rx; cases ry
        refine fin _ (fun _ h => by cases h) (fun h => by cases h) ?_ (.str R _)
        exact str_add (P := P) (w := w) hlen t
theorem ok_eq (hH : HRel w R H) (hE : ERel w R H env a.tmps) (hG : GlobOK cx gs w (Xof H R)) {o : Oper} {neg agg : Bool} {t u : TypeId} {x y : Operand} {x' y' : Opd} {ks : List EK} {e : Eff}
    (ho : o.op = .binOp (if neg then .neq else .eql) t x y u) (hks : eqTy P 100 t = some ks) (hag : tyAgg P t = some agg) (hgu : P.eqGuardType P.depth t = false)
    (hx : mOpd gs x x' = true) (hy : mOpd gs y y' = true) (he : evOp cx env H (.eq neg agg ks x' y') = some e) : OpOK P o a w R H e := by
  have rx := opd_rep hE hG hx
  have ry := opd_rep hE hG hy
  simp only [evOp] at he
  generalize hp : opd cx env x' = pv at rx he
  generalize hv : a.eval x = v at rx
  generalize hq : opd cx env y' = qv at ry he
  generalize hu : a.eval y = uv at ry
  split at he <;> first | (cases he; done) | skip
  rename_i p q h1 h2
  cases hk : eqk ks p q with
  | none => rw [hk] at he; cases he
  | some b =>
    rw [hk] at he; cases he
    have cells : ∀ {pv : PV} {v : Value} {p : List PV}, Rep w (Xof H R) R pv v → eqcells agg pv = some p → CellsOf P w (Xof H R) R t v p := by
      intro pv v p hr hc
      cases agg with
      | false => simp [eqcells] at hc; subst hc; exact .inr ⟨hag, _, rfl, hr⟩
      | true =>
        cases pv <;> simp [eqcells] at hc
        subst hc
        cases hr with
        | agg _ _ arr hl _ hh => exact .inl ⟨hag, arr, rfl, hl, hh⟩
    have cx1 := cells rx h1
    have cy1 := cells ry h2
    have hrun : (Op.equal t v uv).run P w = .ok b w := by
      unfold Op.equal
      exact equal_run 100 Op.maxDepth t ks v uv p q b (by decide) hks cx1 cy1 hk
    have hguard : (eqGuard (if neg then .neq else .eql) t x y v uv).run P w = .ok () w := by
      rcases cx1 with ⟨_, arr, rfl, _⟩ | ⟨_, p0, rfl, hr0⟩
      · rcases cy1 with ⟨_, arr', rfl, _⟩ | ⟨h3, _⟩
        · exact eqGuard_agg hgu
        · rename_i h4 _ _; rw [h4] at h3; cases h3
      · have : ∃ q0, q = [q0] := by
          have := (eqk_len hk)
          have h1 : ks.length = 1 := by simpa using this.1.symm
          rw [h1] at this
          exact List.length_eq_one_iff.1 this.2
        obtain ⟨q0, rfl⟩ := this
        refine eqGuard_plain ?_ ?_
        · intro arr e
          subst e
          cases hr0 <;> (unfold eqk at hk; split at hk <;> first | (cases hk; done) | (simp_all; done))
        · intro e
          subst e
          cases hr0 <;> (unfold eqk at hk; split at hk <;> first | (cases hk; done) | (simp_all; done))
    refine OpOK.pure hH (v := .bool (flip neg b)) ?_ (.bool R _)
    have hbin : (binOp (if neg then .neq else .eql) t v uv).run P w = .ok (.bool (flip neg b)) w := by
      have viaEqual : (∀ k n, v ≠ .int k n) → (∀ s, v ≠ .string s) → (∀ k f, v ≠ .float k f) → (∀ k r i, v ≠ .complex k r i) → (binOp (if neg then .neq else .eql) t v uv).run P w = .ok (.bool (flip neg b)) w := by
        intro n1 n2 n3 n4
        cases neg <;> (unfold binOp; split <;> first | (exact absurd rfl (n1 _ _)) | (exact absurd rfl (n2 _)) | (exact absurd rfl (n3 _ _)) | (exact absurd rfl (n4 _ _ _)) | (simp_all; done) | simp [hrun, flip])
      rcases cx1 with ⟨_, arr, rfl, _⟩ | ⟨_, p0, rfl, hr0⟩
      · exact viaEqual (fun _ _ h => by cases h) (fun _ h => by cases h) (fun _ _ h => by cases h) (fun _ _ _ h => by cases h)
      · have h1 : q.length = 1 := by
          have := (eqk_len hk)
          rw [this.2, ← this.1]; rfl
        obtain ⟨q0, rfl⟩ := List.length_eq_one_iff.1 h1
        rcases cy1 with ⟨h3, _⟩ | ⟨_, q1, e1, hr1⟩
        · rename_i h4 _ _; rw [h4] at h3; cases h3
        cases e1
        unfold eqk at hk
        split at hk <;> first | (cases hk; done) | skip
        · simp_all
        · rename_i e1 e2; cases e1; cases e2
          split at hk <;> first | (cases hk; done) | skip
          rename_i hkl
          subst hkl
          split at hk <;> cases hk
          rename_i z hz
          cases hr0; cases hr1
          obtain rfl := eqk_nil hz
          cases neg <;> simp [binOp, Op.intCmp, flip] <;> rfl
        · rename_i e1 e2; cases e1; cases e2
          cases hr0
          exact viaEqual (fun _ _ h => by cases h) (fun _ h => by cases h) (fun _ _ h => by cases h) (fun _ _ _ h => by cases h)
        · rename_i e1 e2; cases e1; cases e2
          split at hk <;> cases hk
          rename_i z hz
          cases hr0; cases hr1
          obtain rfl := eqk_nil hz
          cases neg <;> simp [binOp, Op.stringOp, ByteArray.toList_eq, flip, list_beq]
    simp [execOp, ho, hv, hu, hguard, hbin]
end
end Go.Ev
namespace Go.Ev
open Go
set_option linter.unusedSectionVars false
set_option linter.unusedSimpArgs false
set_option linter.unusedVariables false
variable [Frame]
section
variable {P : Program} {cx : Cx} {gs : List Nat} {w : World} {R : Refs} {H : Heap} {env : Env} {a : Act}
theorem run_loadCells_row {k off n : Nat} {cs : Array Value} {et : TypeId} {fr : Nat × Nat} (hw : w.heap[k]? = some (.cells cs et fr)) (hn : off + n ≤ cs.size) :
    (loadCells ⟨k, off, none⟩ n).run P w = .ok (cs.extract off (off + n)) w := by
  rw [run_loadCells w ⟨k, off, none⟩ n (fun j => cs.getD (off + j) undef)]
  · congr 1
    apply Array.ext
    · simp; omega
    · intro i h1 h2
      simp at h1
      have : off + i < cs.size := by omega
      simp [Array.getD, this]
  · intro j hj
    rw [add_none, cell?_eq]
    have : off + j < cs.size := by omega
    simp [cellAt, hw, this]
theorem extract_extract {cs : Array Value} {base j sz : Nat} (h : base + (j + sz) ≤ cs.size) : (cs.extract base cs.size).extract j (j + sz) = cs.extract (base + j) (base + j + sz) := by
  apply Array.ext
  · simp; omega
  · intro i h1 h2
    simp [Nat.add_assoc]
theorem load_from {X : Nat → Prop} {k base j sz : Nat} {agg : Bool} {cs : Array Value} {et t : TypeId} {fr : Nat × Nat} {cells : List PV} {p : PV}
    (hw : w.heap[k]? = some (.cells cs et fr)) (hb : base + cells.length ≤ cs.size)
    (hc : ∀ (j : Nat) (pv : PV), cells[j]? = some pv → ∃ v, cs[base + j]? = some v ∧ v.oneCell' = true ∧ Rep w X R pv v)
    (hr : rdc cells j sz agg = some p) (hsz : tySize P t = some sz) (hag : tyAgg P t = some agg) :
    ∃ v, (loadVar t ⟨k, base + j, none⟩).run P w = .ok v w ∧ Rep w X R p v := by
  have hget : ∀ (i : Nat) v, (cs.extract base cs.size)[i]? = some v → cs[base + i]? = some v := by
    intro i v hv
    obtain ⟨h1, h2⟩ := Array.getElem?_eq_some_iff.1 hv
    rw [Array.getElem_extract] at h2
    simp at h1
    exact Array.getElem?_eq_some_iff.2 ⟨by omega, h2⟩
  obtain ⟨ra, rb⟩ := rdc_rep (w := w) (R := R) (X := X) hr (arr := cs.extract base cs.size) (by simp; omega) (fun i q v hq hv => by
    obtain ⟨u, h1, h2, h3⟩ := hc i q hq
    have := hget i v hv
    rw [h1] at this; cases this
    exact ⟨h2, h3⟩)
  cases agg with
  | true =>
    obtain ⟨h1, h2⟩ := ra rfl
    simp at h1
    refine ⟨_, ?_, h2⟩
    rw [extract_extract (by omega)]
    simp [loadVar, run_isAgg' hag, run_sizeOf' hsz, run_loadCells_row hw (show base + j + sz ≤ cs.size by omega)]
  | false =>
    obtain ⟨v, hv, hrep⟩ := rb rfl
    have hv := hget j v hv
    refine ⟨v, ?_, hrep⟩
    have hc : w.cell? ⟨k, base + j, none⟩ = some v := by rw [cell?_eq]; simp [cellAt, hw, hv]
    simp [loadVar, run_isAgg' hag, hc]
theorem ok_load (hH : HRel w R H) (hE : ERel w R H env a.tmps) (hG : GlobOK cx gs w (Xof H R)) {o : Oper} {t : TypeId} {x : Operand} {x' : Opd} {sz : Nat} {agg : Bool} {e : Eff}
    (ho : o.op = .load t x) (hsz : tySize P t = some sz) (hag : tyAgg P t = some agg) (h1 : agg = false ∨ sz ≠ 0)
    (hx : mOpd gs x x' = true) (he : evOp cx env H (.load sz agg x') = some e) : OpOK P o a w R H e := by
  have rx := opd_rep hE hG hx
  simp only [evOp] at he
  generalize hp : opd cx env x' = pv at rx he
  generalize hv : a.eval x = v at rx
  have run : ∀ {ad : Addr} {u : Value} {p : PV} {rd : List Nat}, v = .pointer (some ad) → (loadVar t ad).run P w = .ok u w → Rep w (Xof H R) R p u → OpOK P o a w R H ⟨p, [], rd⟩ := by
    intro ad u p rd e1 h2 h3
    subst e1
    exact OpOK.pure hH (v := u) (by simp [execOp, ho, hv, Instr.loadAt, Instr.sureAddr, h2]) h3
  cases pv <;> (try simp only at he) <;> first | (cases he; done) | skip
  · rename_i id j
    split at he <;> first | (cases he; done) | skip
    rename_i cells hg
    split at he <;> cases he
    rename_i p hr
    cases rx with
    | ptr _ _ b k base _ h hb hk =>
      obtain ⟨r, hr1, _, k', base', cs, et, h2, h3, h4, h5⟩ := hH.has id _ hg
      rw [h] at hr1; cases hr1
      rw [hk] at h2; cases h2
      obtain ⟨u, h6, h7⟩ := load_from (P := P) h3 h4 h5 hr hsz hag
      exact run rfl h6 h7
  · rename_i id i j cl
    have key : ∀ (z : Nat) (rows : List (List PV)), (hget H id = some (.arr z rows) ∨ hget H id = some (.froz z rows)) →
        (match Nat.beq rows.length cl, rows[i]? with
        | true, some row => match rdc row j sz agg with | some v => some (⟨v, [], [id]⟩ : Eff) | none => none
        | _, _ => none) = some e → OpOK P o a w R H e := by
      intro z rows hg he
      split at he <;> first | (cases he; done) | skip
      rename_i row hb hrow
      split at he <;> cases he
      rename_i p hr
      have hvo : validO H id cl = true := by
        unfold validO
        rcases hg with hg | hg <;> rw [hg] <;> exact hb
      obtain ⟨r, k, base, e1, e2, e3, e4, rfl⟩ := eptr_real hH hvo rx
      have hB : ∃ cs et, w.heap[k]? = some (.cells cs et (0, 0)) ∧ base + rows.length * r.sz ≤ cs.size ∧ RowsAt w (Xof H R) cs base r.sz rows := by
        rcases hg with hg | hg
        · obtain ⟨r', q1, _, _, _, q2 | ⟨k', base', cs, et, q2, q3, q4, q5⟩⟩ := hH.has id _ hg
          · rw [e1] at q1; cases q1; rw [e4] at q2; cases q2.1
          · rw [e1] at q1; cases q1; rw [e4] at q2; cases q2; exact ⟨cs, et, q3, q4, q5⟩
        · obtain ⟨r', q1, _, _, _, q2 | ⟨k', base', cs, et, q2, q3, q4, q5⟩⟩ := hH.has id _ hg
          · rw [e1] at q1; cases q1; rw [e4] at q2; cases q2.1
          · rw [e1] at q1; cases q1; rw [e4] at q2; cases q2; exact ⟨cs, et, q3, q4, q5⟩
      obtain ⟨cs, et, q3, q4, q5⟩ := hB
      have hrl := q5.1 i row hrow
      have hil : i < rows.length := (List.getElem?_eq_some_iff.1 hrow).1
      have hmul : i * r.sz + r.sz ≤ rows.length * r.sz := by
        have := Nat.mul_le_mul_right r.sz (show i + 1 ≤ rows.length from hil)
        rwa [Nat.add_mul, Nat.one_mul] at this
      obtain ⟨u, h6, h7⟩ := load_from (P := P) (R := R) (base := base + i * r.sz) q3 (by rw [hrl]; omega) (fun j pv hj => by
        obtain ⟨v, a1, a2, a3⟩ := q5.2 i row j pv hrow hj
        exact ⟨v, a1, a2, a3.up⟩) hr hsz hag
      exact run rfl h6 h7
    split at he
    · rename_i z rows hg; exact key z rows (.inl hg) he
    · rename_i z rows hg; exact key z rows (.inr hg) he
    · cases he
  · rename_i cells
    split at he <;> cases he
    rename_i p hr
    cases rx with
    | rptr _ k q _ vs hk hs hc hrr =>
      have hne : 0 < cells.length := by
        unfold rdc at hr
        cases agg with
        | true =>
          simp only at hr
          split at hr <;> cases hr
          rename_i hb
          have := Nat.le_of_ble_eq_true hb
          rcases h1 with h1 | h1
          · cases h1
          · omega
        | false =>
          simp only at hr
          have := (List.getElem?_eq_some_iff.1 hr).1
          omega
      have h0 := hc 0 cells[0] (by simp)
      have : ∃ cs et fr, w.heap[k]? = some (.cells cs et fr) := by
        unfold cellAt at h0
        split at h0
        · exact ⟨_, _, _, by assumption⟩
        · simp at h0
      obtain ⟨cs, et, fr, hw⟩ := this
      have hca : ∀ i pv, cells[i]? = some pv → cs[q + i]? = some (vs i) := by
        intro i pv hi
        have := (hc i pv hi).1
        simpa [cellAt, hw] using this
      have hlen : q + cells.length ≤ cs.size := by
        have := hca (cells.length - 1) cells[cells.length - 1] (List.getElem?_eq_getElem (by omega))
        have := (Array.getElem?_eq_some_iff.1 this).1
        omega
      obtain ⟨u, h6, h7⟩ := load_from (P := P) (R := R) (j := 0) hw hlen (fun j pv hj => ⟨vs j, hca j pv hj, (hc j pv hj).2, (hrr j pv hj).up⟩) hr hsz hag
      exact run rfl h6 h7
theorem splice_get : ∀ {cells : List PV} {j : Nat} {new : List PV} (i : Nat), j + new.length ≤ cells.length →
    (splice cells j new)[i]? = if j ≤ i ∧ i < j + new.length then new[i - j]? else cells[i]?
  | cells, 0, new, i, h => by
    simp only [splice]
    rw [List.getElem?_append]
    by_cases hi : i < new.length
    · simp [hi]
    · rw [if_neg hi, if_neg (by omega), List.getElem?_drop]
      congr 1
      omega
  | [], j + 1, new, i, h => by simp at h
  | c :: r, j + 1, new, i, h => by
    simp only [splice]
    cases i with
    | zero => simp
    | succ i =>
      simp only [List.getElem?_cons_succ]
      rw [splice_get i (by simp at h; omega)]
      by_cases h1 : j ≤ i ∧ i < j + new.length
      · rw [if_pos h1, if_pos (by omega)]
        congr 1
        omega
      · rw [if_neg h1, if_neg (by omega)]
theorem splice_len : ∀ {cells : List PV} {j : Nat} {new : List PV}, j + new.length ≤ cells.length → (splice cells j new).length = cells.length
  | cells, 0, new, h => by simp [splice]; omega
  | [], j + 1, new, h => by simp at h
  | c :: r, j + 1, new, h => by simp only [splice, List.length_cons]; rw [splice_len (by simp at h; omega)]
def putRow (cur : Array Value) (off : Nat) (vs : List Value) : Array Value :=
  (cur.toList.take off ++ vs ++ cur.toList.drop (off + vs.length)).toArray
theorem putRow_size {cur : Array Value} {off : Nat} {vs : List Value} (h : off + vs.length ≤ cur.size) : (putRow cur off vs).size = cur.size := by
  simp [putRow]; omega
theorem putRow_get {cur : Array Value} {off : Nat} {vs : List Value} (h : off + vs.length ≤ cur.size) (i : Nat) :
    (putRow cur off vs)[i]? = if off ≤ i ∧ i < off + vs.length then vs[i - off]? else cur[i]? := by
  have h' : off + vs.length ≤ cur.toList.length := by simpa using h
  simp only [putRow, List.getElem?_toArray]
  rw [List.append_assoc, List.getElem?_append]
  have ht : (cur.toList.take off).length = off := by simp; omega
  rw [ht]
  by_cases h1 : i < off
  · rw [if_pos h1, if_neg (by omega), List.getElem?_take, if_pos h1]
    simp
  · rw [if_neg h1, List.getElem?_append]
    by_cases h2 : i - off < vs.length
    · rw [if_pos h2, if_pos (by omega)]
    · rw [if_neg h2, if_neg (by omega), List.getElem?_drop]
      rw [show off + vs.length + (i - off - vs.length) = i by omega]
      simp
theorem setRow_same {k : Nat} {cur new : Array Value} {et : TypeId} {fr : Nat × Nat} (hw : w.heap[k]? = some (.cells cur et fr)) : (w.setRow k new).heap[k]? = some (.cells new et fr) :=
  setRow_heap w k cur new et fr hw
theorem setRow_other {k j : Nat} {new : Array Value} (h : j ≠ k) : (w.setRow k new).heap[j]? = w.heap[j]? := by
  simp only [World.setRow, Array.getElem?_modify]
  rw [if_neg (by omega)]
theorem setRow_size {k : Nat} {new : Array Value} : (w.setRow k new).heap.size = w.heap.size := by simp [World.setRow]
theorem Grow.setRow {X : Nat → Prop} {k : Nat} {cur new : Array Value} {et : TypeId} {fr : Nat × Nat} (hw : w.heap[k]? = some (.cells cur et fr)) (hs : new.size = cur.size) (hX : X k) : Grow w X (w.setRow k new) :=
  ⟨by rw [setRow_size]; exact Nat.le_refl _,
   fun j _ hj => setRow_other fun e => hj (e ▸ hX),
   fun j cs et' fr' hj => by
     by_cases e : j = k
     · subst e; rw [hw] at hj; cases hj; exact ⟨new, setRow_same hw, hs⟩
     · exact ⟨cs, (setRow_other e).trans hj, rfl⟩,
   rfl, rfl, rfl, fun a _ => by
     unfold World.frozen?
     by_cases e : a.block = k
     · rw [e, setRow_same hw, hw]
     · rw [setRow_other e]⟩
theorem run_storeVar_at {k off sz : Nat} {cur : Array Value} {et t : TypeId} {v : Value} (hw : w.heap[k]? = some (.cells cur et (0, 0))) (hsz : tySize P t = some sz)
    (hv : v.cells.size = sz) (hl : off + sz ≤ cur.size) (h1 : ∀ u ∈ v.cells.toList, u.oneCell' = true) :
    (storeVar t ⟨k, off, none⟩ v).run P w = .ok () (w.setRow k (putRow cur off v.cells.toList)) := by
  have := run_storeCells_at (P := P) k off et v.cells.toList 0 cur w hw (by simp; omega) h1
  simp only [Nat.add_zero] at this
  simp [storeVar, run_sizeOf' hsz, hv, this, putRow]
theorem Xof_live {id : Nat} {b : Blk} {r : RB} {k o : Nat} (hb : hget H id = some b) (hl : liveB b = true) (hr : R id = some r) (hk : r.blk = some (k, o)) : Own H R k :=
  ⟨id, b, r, o, hb, hl, hr, hk⟩
theorem ok_storeBox (hH : HRel w R H) (hE : ERel w R H env a.tmps) (hG : GlobOK cx gs w (Xof H R)) {o : Oper} {t : TypeId} {x y : Operand} {x' y' : Opd} {sz id j : Nat} {cells cs : List PV}
    (ho : o.op = .store t x y) (hsz : tySize P t = some sz) (hx : mOpd gs x x' = true) (hy : mOpd gs y y' = true) (hdst : o.dst = none)
    (hp : opd cx env x' = .ptr id j) (hg : hget H id = some (.box cells)) (hc : mcells (opd cx env y') = some cs) (hcs : cs.length = sz) (hj : j + sz ≤ cells.length) :
    ∃ w' R', (execOp a.eval o).run P w = .ok .skip w' ∧ Post w R H ⟨.undef, [(id, .box (splice cells j cs))], []⟩ undef w' R' := by
  have rx := opd_rep hE hG hx
  have ry := opd_rep hE hG hy
  rw [hp] at rx
  generalize hv : a.eval x = v at rx
  cases rx with
  | ptr _ _ b k base _ h hb hk =>
    obtain ⟨r, hr1, _, k', base', cur, et, h2, h3, h4, h5⟩ := hH.has id _ hg
    rw [h] at hr1; cases hr1
    rw [hk] at h2; cases h2
    obtain ⟨m1, m2⟩ := mcells_rep ry hc
    have hsize : (a.eval y).cells.size = sz := m1.trans hcs
    have hXk : Own H R k := Xof_live hg rfl h hk
    have hone : ∀ u ∈ (a.eval y).cells.toList, u.oneCell' = true := by
      intro u hu
      obtain ⟨i, hi, rfl⟩ := List.getElem_of_mem hu
      simp at hi
      obtain ⟨u', q1, q2, _⟩ := m2 i cs[i] (List.getElem?_eq_getElem (by omega))
      rw [Array.getElem?_eq_getElem hi] at q1
      cases q1
      simpa using q2
    have hlen : base + j + ((a.eval y).cells.toList).length ≤ cur.size := by simp; omega
    let new := putRow cur (base + j) (a.eval y).cells.toList
    have hns : new.size = cur.size := putRow_size hlen
    have hG' : Grow w (Own H R) (w.setRow k new) := Grow.setRow h3 hns hXk
    have hst := run_storeVar_at (P := P) (k := k) (off := base + j) (t := t) (v := a.eval y) h3 hsz hsize (by omega) hone
    have hrun : (execOp a.eval o).run P w = .ok .skip (w.setRow k new) := by
      simp [execOp, ho, hv, Instr.storeAt, Instr.sureAddr, hst, new]
    have hsl : (splice cells j cs).length = cells.length := splice_len (by omega)
    have hRE : RExt R (upR R id b) := by
      intro i q hq
      by_cases e : i = id
      · subst e; rw [h] at hq; cases hq; exact ⟨_, upR_same R _ _, .inl rfl⟩
      · exact ⟨q, by rw [upR_ne R b e]; exact hq, .inl rfl⟩
    have hX' : ∀ k1, k1 < w.heap.size → ¬ Xof H R k1 → ¬ Xof (hset H id (.box (splice cells j cs))) (upR R id b) k1 := by
      rintro k1 _ hn (hF | ⟨i, c, q, o', hi, hl, hq, hb'⟩)
      · exact hn (.inl hF)
      rw [hget_hset] at hi
      by_cases e : i = id
      · subst e; rw [upR_same] at hq; cases hq; exact hn (.inr ⟨i, _, b, o', hg, rfl, h, hb'⟩)
      · rw [if_neg e] at hi; rw [upR_ne R b e] at hq; exact hn (.inr ⟨i, c, q, o', hi, hl, hq, hb'⟩)
    have hB : BRel (w.setRow k new) (Xof (hset H id (.box (splice cells j cs))) (upR R id b)) (upR R id b) b (.box (splice cells j cs)) := by
      refine ⟨hb, k, base, new, et, hk, setRow_same h3, by rw [hsl, hns]; exact h4, fun i pv hi => ?_⟩
      rw [splice_get i (by omega)] at hi
      have hnew := putRow_get hlen (base + i)
      by_cases hin : j ≤ i ∧ i < j + cs.length
      · rw [if_pos hin] at hi
        obtain ⟨u, a1, a2, a3⟩ := m2 _ pv hi
        refine ⟨u, ?_, a2, a3.mono hG'.weak hX' hRE⟩
        rw [show new = putRow cur (base + j) (a.eval y).cells.toList from rfl, hnew, if_pos (by simp; omega)]
        rw [show base + i - (base + j) = i - j by omega]
        simpa using a1
      · rw [if_neg hin] at hi
        obtain ⟨u, a1, a2, a3⟩ := h5 i pv hi
        refine ⟨u, ?_, a2, a3.mono hG'.weak hX' hRE⟩
        rw [show new = putRow cur (base + j) (a.eval y).cells.toList from rfl, hnew, if_neg (by simp; omega)]
        exact a1
    obtain ⟨q1, q2, q3⟩ := hH.write (w' := w.setRow k new) (b := .box (splice cells j cs)) (r' := b) hg h rfl hG'.weak
      (fun i _ hi => setRow_other fun e => hi base (by rw [e]; exact hk))
      (fun k' o' h' => .inl ⟨o', h'⟩) (.inl rfl) hB
    exact ⟨_, _, hrun, q1, q2, hG', q3, .undef _⟩
end
end Go.Ev
namespace Go.Ev
open Go
set_option linter.unusedSectionVars false
set_option linter.unusedSimpArgs false
set_option linter.unusedVariables false
variable [Frame]
section
variable {w : World} {R : Refs} {H : Heap}
theorem nbeq_iff {a b : Nat} : Nat.beq a b = true ↔ a = b := ⟨Nat.eq_of_beq_eq_true, fun h => by subst h; exact Nat.beq_refl _⟩
theorem nbeq_false {a b : Nat} (h : Nat.beq a b = false) : a ≠ b := fun e => by subst e; simp at h
theorem memN_iff {i : Nat} : ∀ {l : List Nat}, memN i l = true ↔ i ∈ l
  | [] => by simp [memN]
  | k :: r => by
    simp only [memN]
    cases hb : Nat.beq k i with
    | true => have := nbeq_iff.1 hb; subst this; simp
    | false => have := nbeq_false hb; rw [memN_iff (l := r)]; simp; intro e; exact absurd e.symm this
theorem memN_false {i : Nat} {l : List Nat} (h : memN i l = false) : i ∉ l := fun hm => by rw [memN_iff.2 hm] at h; cases h
theorem apartN_spec : ∀ {a b : List Nat}, apartN a b = true → ∀ i ∈ a, i ∉ b
  | [], _, _, i, hi => by cases hi
  | k :: r, b, h, i, hi => by
    simp only [apartN] at h
    split at h <;> first | (cases h; done) | skip
    rename_i hm
    cases hi with
    | head => exact memN_false hm
    | tail _ hi => exact apartN_spec h i hi
theorem nodupN_spec : ∀ {a : List Nat}, nodupN a = true → a.Nodup
  | [], _ => List.nodup_nil
  | k :: r, h => by
    simp only [nodupN] at h
    split at h <;> first | (cases h; done) | skip
    rename_i hm
    exact List.nodup_cons.2 ⟨memN_false hm, nodupN_spec h⟩
theorem HRel.freeze (h : HRel w R H) {id sz : Nat} {rows : List (List PV)} (hid : hget H id = some (.arr sz rows)) :
    HRel w R (hset H id (.froz sz rows)) ∧ (∀ k, Xof (hset H id (.froz sz rows)) R k → Xof H R k) := by
  have hsub : ∀ k, Xof (hset H id (.froz sz rows)) R k → Xof H R k := by
    rintro k (hF | ⟨i, b, r, o, hi, hl, hr, hk⟩)
    · exact .inl hF
    rw [hget_hset] at hi
    by_cases e : i = id
    · rw [if_pos e] at hi; cases hi; cases hl
    · rw [if_neg e] at hi; exact .inr ⟨i, b, r, o, hi, hl, hr, hk⟩
  refine ⟨h.change (Grow.refl w _) (RExt.refl R) (fun k _ hn hX => hn (hsub k hX)) ?_ ?_ ?_ ?_, hsub⟩
  · intro i hi
    rw [hget_hset] at hi
    by_cases e : i = id
    · rw [if_pos e] at hi; cases hi
    · rw [if_neg e] at hi; exact h.dom i hi
  · intro i b hi
    rw [hget_hset] at hi
    by_cases e : i = id
    · rw [if_pos e] at hi; cases hi; subst e
      obtain ⟨r, h1, h2⟩ := h.has _ _ hid
      exact .inr ⟨r, h1, BRel.mono (b := .froz sz rows) (Grow.refl w _) (fun k _ hn hX => hn (hsub k hX)) (RExt.refl R) (fun _ _ _ => rfl) (show BRel w _ R r (.froz sz rows) from h2)⟩
    · rw [if_neg e] at hi; exact .inl ⟨hi, rfl, .inr fun _ _ _ _ _ => rfl⟩
  · intro i i' b b' r r' k o o' hi hi' hd hd' hr hr' hk hk'
    rw [hget_hset] at hi hi'
    by_cases e : i = id <;> by_cases e' : i' = id
    · rw [e, e']
    · rw [if_neg e'] at hi'; subst e
      exact h.inj i i' (.arr sz rows) b' r r' k o o' hid hi' rfl hd' hr hr' hk hk'
    · rw [if_neg e] at hi; subst e'
      exact h.inj i i' b (.arr sz rows) r r' k o o' hi hid hd rfl hr hr' hk hk'
    · rw [if_neg e] at hi; rw [if_neg e'] at hi'
      exact h.inj i i' b b' r r' k o o' hi hi' hd hd' hr hr' hk hk'
  · intro i b r k o hi hd hr hk hF
    rw [hget_hset] at hi
    by_cases e : i = id
    · subst e; exact h.off i (.arr sz rows) r k o hid rfl hr hk hF
    · rw [if_neg e] at hi; exact h.off i b r k o hi hd hr hk hF
def Frozen (H : Heap) (id : Nat) : Prop := ∃ sz rows, hget H id = some (.froz sz rows)
theorem frees_keys : ∀ {ids : List Nat} {u : List (Nat × Blk)}, frees H ids = some u → ∀ p ∈ u, ∃ sz rows, p.2 = .froz sz rows ∧ hget H p.1 = some (.arr sz rows)
  | [], u, h, p, hp => by simp [frees] at h; subst h; cases hp
  | i :: r, u, h, p, hp => by
    simp only [frees] at h
    split at h <;> first | (cases h; done) | skip
    · rename_i sz rows u' hi hr
      cases h
      cases hp with
      | head => exact ⟨sz, rows, rfl, hi⟩
      | tail _ hp => exact frees_keys hr p hp
    · rename_i sz rows u' hi hr
      cases h
      exact frees_keys hr p hp
theorem frees_all : ∀ {ids : List Nat} {u : List (Nat × Blk)}, frees H ids = some u → ∀ i ∈ ids, ∃ sz rows, (hget H i = some (.arr sz rows) ∧ (i, Blk.froz sz rows) ∈ u) ∨ hget H i = some (.froz sz rows)
  | [], u, h, i, hi => by cases hi
  | j :: r, u, h, i, hi => by
    simp only [frees] at h
    split at h <;> first | (cases h; done) | skip
    · rename_i sz rows u' hj hr
      cases h
      cases hi with
      | head => exact ⟨sz, rows, .inl ⟨hj, .head _⟩⟩
      | tail _ hi =>
        obtain ⟨sz', rows', h1 | h1⟩ := frees_all hr i hi
        · exact ⟨sz', rows', .inl ⟨h1.1, .tail _ h1.2⟩⟩
        · exact ⟨sz', rows', .inr h1⟩
    · rename_i sz rows u' hj hr
      cases h
      cases hi with
      | head => exact ⟨sz, rows, .inr hj⟩
      | tail _ hi => exact frees_all hr i hi
theorem HRel.freezeAll : ∀ {u : List (Nat × Blk)} {H : Heap}, HRel w R H → (∀ p ∈ u, ∃ sz rows, p.2 = .froz sz rows ∧ (hget H p.1 = some (.arr sz rows) ∨ hget H p.1 = some (.froz sz rows))) →
    HRel w R (hsets u H) ∧ (∀ k, Xof (hsets u H) R k → Xof H R k) ∧ (∀ p ∈ u, hget (hsets u H) p.1 = some p.2) ∧ (∀ i, (∀ p ∈ u, p.1 ≠ i) → hget (hsets u H) i = hget H i) ∧
      (∀ i sz rows, hget H i = some (.froz sz rows) → hget (hsets u H) i = some (.froz sz rows))
  | [], H, h, _ => ⟨h, fun _ hk => hk, fun p hp => (by cases hp), fun _ _ => rfl, fun _ _ _ h => h⟩
  | (i, b) :: u, H, h, hu => by
    obtain ⟨sz, rows, e1, e2⟩ := hu (i, b) (.head _)
    simp only at e1 e2
    subst e1
    have step : HRel w R (hset H i (.froz sz rows)) ∧ (∀ k, Xof (hset H i (.froz sz rows)) R k → Xof H R k) := by
      rcases e2 with e2 | e2
      · exact h.freeze e2
      · have hsame : ∀ j, hget (hset H i (.froz sz rows)) j = hget H j := by
          intro j; rw [hget_hset]; split
          · subst_vars; exact e2.symm
          · rfl
        have hX : ∀ k, Xof (hset H i (.froz sz rows)) R k ↔ Xof H R k := by
          intro k
          constructor
          · rintro (hF | ⟨j, b, r, o, hj, rest⟩)
            · exact .inl hF
            · rw [hsame] at hj; exact .inr ⟨j, b, r, o, hj, rest⟩
          · rintro (hF | ⟨j, b, r, o, hj, rest⟩)
            · exact .inl hF
            · exact .inr ⟨j, b, r, o, by rw [hsame]; exact hj, rest⟩
        refine ⟨⟨h.flt, fun j b r k o hj => h.off j b r k o (by rw [hsame] at hj; exact hj), fun j hj => h.dom j (by rw [hsame] at hj; exact hj), fun j b hj => ?_, fun j j' b b' r r' k o o' hj hj' => ?_⟩, fun k hk => (hX k).1 hk⟩
        · rw [hsame] at hj
          obtain ⟨r, h1, h2⟩ := h.has j b hj
          exact ⟨r, h1, h2.mono (Grow.refl w _) (fun k _ hn hx => hn ((hX k).1 hx)) (RExt.refl R) (fun _ _ _ => rfl)⟩
        · rw [hsame] at hj hj'; exact h.inj j j' b b' r r' k o o' hj hj'
    have hu' : ∀ p ∈ u, ∃ sz' rows', p.2 = .froz sz' rows' ∧ (hget (hset H i (.froz sz rows)) p.1 = some (.arr sz' rows') ∨ hget (hset H i (.froz sz rows)) p.1 = some (.froz sz' rows')) := by
      intro p hp
      obtain ⟨sz', rows', f1, f2⟩ := hu p (.tail _ hp)
      refine ⟨sz', rows', f1, ?_⟩
      rw [hget_hset]
      by_cases e : p.1 = i
      · rw [if_pos e]; right
        rw [e] at f2
        rcases e2 with e2 | e2 <;> rcases f2 with f2 | f2 <;> rw [e2] at f2 <;> cases f2 <;> rfl
      · rw [if_neg e]; exact f2
    obtain ⟨a1, a2, a3, a4, a5⟩ := HRel.freezeAll step.1 hu'
    refine ⟨a1, fun k hk => step.2 k (a2 k hk), fun p hp => ?_, fun j hj => ?_, fun j sz' rows' hj => ?_⟩
    · cases hp with
      | head =>
        simp only [hsets]
        exact a5 i sz rows (by rw [hget_hset, if_pos rfl])
      | tail _ hp => exact a3 p hp
    · simp only [hsets]
      rw [a4 j (fun p hp => hj p (.tail _ hp)), hget_hset, if_neg (fun e => hj (i, _) (.head _) e.symm)]
    · simp only [hsets]
      refine a5 j sz' rows' ?_
      rw [hget_hset]
      split
      · subst_vars
        rcases e2 with e2 | e2 <;> rw [e2] at hj <;> cases hj
        rfl
      · exact hj
theorem Rep.pure {X : Nat → Prop} {pv : PV} {v : Value} (h : Rep w X R pv v)
    (hp : match pv with | .ptr _ _ | .eptr _ _ _ _ | .own _ _ _ _ | .func _ _ | .iface _ _ | .agg _ | .tuple _ => False | _ => True) : Rep w X noRefs pv v := by
  cases h with
  | any _ v => exact .any _ v
  | undef => exact .undef _
  | bool _ b => exact .bool _ b
  | int _ k n => exact .int _ k n
  | str _ s => exact .str _ s
  | nilp => exact .nilp _
  | nilf => exact .nilf _
  | nili => exact .nili _
  | nul _ ad => exact .nul _ ad
  | nils _ c => exact .nils _ c
  | emp _ a c => exact .emp _ a c
  | rptr _ k o cells vs hk hs hc hr => exact .rptr _ k o cells vs hk hs hc hr
  | ro0 _ ad c => exact .ro0 _ ad c
  | ro _ k o sz rows c vs hk hs hl hz hc hr => exact .ro _ k o sz rows c vs hk hs hl hz hc hr
  | ptr => exact hp.elim
  | eptr => exact hp.elim
  | eptrS => exact hp.elim
  | own => exact hp.elim
  | ownZ => exact hp.elim
  | ownS => exact hp.elim
  | func => exact hp.elim
  | iface => exact hp.elim
  | agg => exact hp.elim
  | tuple => exact hp.elim
theorem ro_view {X : Nat → Prop} {k base sz off len c : Nat} {cs : Array Value} {et : TypeId} {fr : Nat × Nat} {rows : List (List PV)} (hk : ¬ X k) (hw : w.heap[k]? = some (.cells cs et fr))
    (hr : RowsAt w X cs base sz rows) (h1 : off + len ≤ rows.length) (h2 : len ≤ c) :
    Rep w X noRefs (.ro ((rows.drop off).take len)) (.slice (some ⟨k, base + off * sz, none⟩) len c) := by
  have hlen : ((rows.drop off).take len).length = len := by simp; omega
  have hget : ∀ (i : Nat) (row : List PV), ((rows.drop off).take len)[i]? = some row → rows[off + i]? = some row := by
    intro i row hi
    rw [List.getElem?_take] at hi
    split at hi
    · simpa using hi
    · cases hi
  have hcell : ∀ (i : Nat) (row : List PV) (j : Nat) (pv : PV), ((rows.drop off).take len)[i]? = some row → row[j]? = some pv →
      ∃ v, cs[base + off * sz + i * sz + j]? = some v ∧ v.oneCell' = true ∧ Rep w X noRefs pv v := by
    intro i row j pv hi hj
    have := hr.2 (off + i) row j pv (hget i row hi) hj
    rwa [show base + (off + i) * sz + j = base + off * sz + i * sz + j by rw [Nat.add_mul]; omega] at this
  have := Rep.ro (w := w) (X := X) noRefs k (base + off * sz) sz ((rows.drop off).take len) c (fun i j => cs.getD (base + off * sz + i * sz + j) undef) hk
    ((Array.getElem?_eq_some_iff.1 hw).1) (by rw [hlen]; exact h2) (fun i row hi => hr.1 _ row (hget i row hi))
    (fun i row j pv hi hj => by
      obtain ⟨v, a1, a2, a3⟩ := hcell i row j pv hi hj
      have : cs.getD (base + off * sz + i * sz + j) undef = v := by simp [Array.getD_eq_getD_getElem?, a1]
      rw [this]
      exact ⟨by simp [cellAt, hw, a1], a2⟩)
    (fun i row j pv hi hj => by
      obtain ⟨v, a1, a2, a3⟩ := hcell i row j pv hi hj
      have : cs.getD (base + off * sz + i * sz + j) undef = v := by simp [Array.getD_eq_getD_getElem?, a1]
      rw [this]; exact a3)
  rwa [hlen] at this
structure Shown (w : World) (R : Refs) (H : Heap) (X' : Nat → Prop) (ids : List Nat) : Prop where
  sub : ∀ k, X' k → Xof H R k ∨ w.heap.size ≤ k
  off : ∀ i ∈ ids, ∀ r k o, R i = some r → r.blk = some (k, o) → ¬ X' k
theorem Shown.mono {X' : Nat → Prop} {ids ids' : List Nat} (h : Shown w R H X' ids) (hs : ∀ i ∈ ids', i ∈ ids) : Shown w R H X' ids' :=
  ⟨h.sub, fun i hi => h.off i (hs i hi)⟩
theorem Rep.shown {X' : Nat → Prop} {ids : List Nat} (hS : Shown w R H X' ids) {R0 : Refs} {pv : PV} {v : Value} (h : Rep w (Xof H R) R0 pv v) : Rep w X' R0 pv v :=
  h.mono (Grow.refl w _) (fun k hk hn hX => by rcases hS.sub k hX with h | h; exact hn h; omega) (RExt.refl _)
theorem clo1_rep (hH : HRel w R H) {X' : Nat → Prop} {p q : PV} {ids : List Nat} (hc : clo1 H p = some (q, ids)) (hS : Shown w R H X' ids) {v : Value}
    (h : Rep w (Xof H R) R p v) : Rep w X' noRefs q v := by
  unfold clo1 at hc
  split at hc <;> first | (cases hc; done) | skip
  · cases hc; cases h; exact .ro0 _ _ _
  · rename_i id off len cl
    have key : ∀ (z : Nat) (rows : List (List PV)), (hget H id = some (.arr z rows) ∨ hget H id = some (.froz z rows)) →
        (match Nat.beq rows.length cl with | true => some (PV.ro ((rows.drop off).take len), [id]) | false => none) = some (q, ids) → Rep w X' noRefs q v := by
      intro z rows hg hc
      split at hc <;> cases hc
      rename_i hb
      have hvo : validO H id cl = true := by
        unfold validO
        rcases hg with hg | hg <;> rw [hg] <;> exact hb
      have hlen : rows.length = cl := nbeq_iff.1 hb
      obtain ⟨r, hr, hcl, hbx, hcase⟩ := own_real hH hvo h
      rcases hcase with ⟨k, base, c, cs, et, fr, hk, b1, b2, b3, hw, b4, rfl⟩ | ⟨rfl, rfl, ad, rfl⟩
      · have hB : ∃ cs et, w.heap[k]? = some (.cells cs et (0, 0)) ∧ RowsAt w (Xof H R) cs base r.sz rows := by
          rcases hg with hg | hg
          · obtain ⟨r', q1, _, _, _, q2 | ⟨k', base', cs, et, q2, q3, q4, q5⟩⟩ := hH.has id _ hg
            · rw [hr] at q1; cases q1; rw [hk] at q2; cases q2.1
            · rw [hr] at q1; cases q1; rw [hk] at q2; cases q2; exact ⟨cs, et, q3, q5⟩
          · obtain ⟨r', q1, _, _, _, q2 | ⟨k', base', cs, et, q2, q3, q4, q5⟩⟩ := hH.has id _ hg
            · rw [hr] at q1; cases q1; rw [hk] at q2; cases q2.1
            · rw [hr] at q1; cases q1; rw [hk] at q2; cases q2; exact ⟨cs, et, q3, q5⟩
        obtain ⟨cs', et', q3, q5⟩ := hB
        have hrows : RowsAt w X' cs' base r.sz rows := q5.mono (Grow.refl w _) (fun k hk hn hX => by rcases hS.sub k hX with h | h; exact hn h; omega)
        exact ro_view (hS.off id (.head _) r k base hr hk) q3 hrows (by omega) b2
      · have : (rows.drop off).take 0 = [] := by simp
        rw [this]
        exact .ro0 _ _ _
    split at hc
    · rename_i z rows hg; exact key z rows (.inl hg) hc
    · rename_i z rows hg; exact key z rows (.inr hg) hc
    · cases hc
  · cases hc
    refine (h.pure ?_).shown hS
    cases p <;> first | trivial | (simp_all; done) | (simp_all; rename_i hx; exact hx _ _ _ _ rfl rfl rfl rfl)
end
end Go.Ev
namespace Go.Ev
open Go
set_option linter.unusedSectionVars false
set_option linter.unusedSimpArgs false
set_option linter.unusedVariables false
variable [Frame]
section
variable {w : World} {R : Refs} {H : Heap}
theorem cloL_rep (hH : HRel w R H) {X' : Nat → Prop} : ∀ {ps qs : List PV} {ids : List Nat}, cloL H ps = some (qs, ids) → Shown w R H X' ids →
    qs.length = ps.length ∧ ∀ (i : Nat) p q v, ps[i]? = some p → qs[i]? = some q → Rep w (Xof H R) R p v → Rep w X' noRefs q v
  | [], qs, ids, h, _ => by simp [cloL] at h; obtain ⟨rfl, rfl⟩ := h; exact ⟨rfl, fun i p q v hp => by simp at hp⟩
  | p :: ps, qs, ids, h, hS => by
    simp only [cloL] at h
    split at h <;> first | (cases h; done) | skip
    rename_i a x h1
    split at h <;> cases h
    rename_i b y h2
    obtain ⟨hl, ih⟩ := cloL_rep hH h2 (hS.mono fun i hi => List.mem_append_right _ hi)
    refine ⟨by simp [hl], fun i p' q' v hp hq hr => ?_⟩
    cases i with
    | zero => simp at hp hq; subst hp; subst hq; exact clo1_rep hH h1 (hS.mono fun i hi => List.mem_append_left _ hi) hr
    | succ i => simp at hp hq; exact ih i p' q' v hp hq hr
theorem cloP_rep (hH : HRel w R H) {X' : Nat → Prop} {p q : PV} {ids : List Nat} (hc : cloP H p = some (q, ids)) (hS : Shown w R H X' ids) {v : Value}
    (h : Rep w (Xof H R) R p v) : Rep w X' noRefs q v := by
  unfold cloP at hc
  split at hc
  · rename_i id j
    split at hc <;> first | (cases hc; done) | skip
    rename_i cells hg
    split at hc <;> first | (cases hc; done) | skip
    rename_i cs x h1
    split at hc <;> cases hc
    rename_i hb
    cases h with
    | ptr _ _ b k base _ h hbx hk =>
      obtain ⟨r, hr1, _, k', base', cur, et, h2, h3, h4, h5⟩ := hH.has id _ hg
      rw [h] at hr1; cases hr1
      rw [hk] at h2; cases h2
      obtain ⟨hl, hh⟩ := cloL_rep hH h1 (hS.mono fun i hi => List.mem_cons_of_mem _ hi)
      have hcell : ∀ (i : Nat) q, cs[i]? = some q → ∃ v, cur[base + i]? = some v ∧ v.oneCell' = true ∧ Rep w X' noRefs q v := by
        intro i q hq
        have hi : i < cells.length := by rw [← hl]; exact (List.getElem?_eq_some_iff.1 hq).1
        obtain ⟨v, a1, a2, a3⟩ := h5 i cells[i] (by simp)
        exact ⟨v, a1, a2, hh i cells[i] q v (by simp) hq a3⟩
      refine .rptr _ k (base + j) _ (fun i => cur.getD (base + (j + i)) undef) (hS.off id (.head _) b k base h hk) ((Array.getElem?_eq_some_iff.1 h3).1) (fun i q hq => ?_) (fun i q hq => ?_)
      · obtain ⟨v, a1, a2, a3⟩ := hcell (j + i) q (by simpa using hq)
        have e : cur.getD (base + (j + i)) undef = v := by simp [Array.getD_eq_getD_getElem?, a1]
        rw [e]
        exact ⟨by simp [cellAt, h3, Nat.add_assoc, a1], a2⟩
      · obtain ⟨v, a1, a2, a3⟩ := hcell (j + i) q (by simpa using hq)
        have e : cur.getD (base + (j + i)) undef = v := by simp [Array.getD_eq_getD_getElem?, a1]
        rw [e]; exact a3
  · exact clo1_rep hH hc hS h
theorem cloPs_rep (hH : HRel w R H) {X' : Nat → Prop} : ∀ {ps qs : List PV} {ids : List Nat}, cloPs H ps = some (qs, ids) → Shown w R H X' ids →
    qs.length = ps.length ∧ ∀ (i : Nat) p q v, ps[i]? = some p → qs[i]? = some q → Rep w (Xof H R) R p v → Rep w X' noRefs q v
  | [], qs, ids, h, _ => by simp [cloPs] at h; obtain ⟨rfl, rfl⟩ := h; exact ⟨rfl, fun i p q v hp => by simp at hp⟩
  | p :: ps, qs, ids, h, hS => by
    simp only [cloPs] at h
    split at h <;> first | (cases h; done) | skip
    rename_i a x h1
    split at h <;> cases h
    rename_i b y h2
    obtain ⟨hl, ih⟩ := cloPs_rep hH h2 (hS.mono fun i hi => List.mem_append_right _ hi)
    refine ⟨by simp [hl], fun i p' q' v hp hq hr => ?_⟩
    cases i with
    | zero => simp at hp hq; subst hp; subst hq; exact cloP_rep hH h1 (hS.mono fun i hi => List.mem_append_left _ hi) hr
    | succ i => simp at hp hq; exact ih i p' q' v hp hq hr
theorem agg_rep (hH : HRel w R H) {X' : Nat → Prop} {cs qs : List PV} {ids : List Nat} (hc : cloL H cs = some (qs, ids)) (hS : Shown w R H X' ids) {v : Value}
    (h : Rep w (Xof H R) R (.agg cs) v) : Rep w X' noRefs (.agg qs) v := by
  cases h with
  | agg _ _ arr hl h1 hh =>
    obtain ⟨hl2, h2⟩ := cloL_rep hH hc hS
    refine .agg _ qs arr (by omega) h1 fun i q v hq hv => ?_
    have hi : i < cs.length := by rw [← hl2]; exact (List.getElem?_eq_some_iff.1 hq).1
    exact h2 i cs[i] q v (by simp) hq (hh i _ v (by simp) hv)
theorem clo2_rep (hH : HRel w R H) {X' : Nat → Prop} {p q : PV} {ids : List Nat} (hc : clo2 H p = some (q, ids)) (hS : Shown w R H X' ids) {v : Value}
    (h : Rep w (Xof H R) R p v) : Rep w X' noRefs q v := by
  unfold clo2 at hc
  split at hc
  · cases hl : cloL H ‹_› with
    | none => rw [hl] at hc; cases hc
    | some z => obtain ⟨qs, x⟩ := z; rw [hl] at hc; cases hc; exact agg_rep hH hl hS h
  · rename_i f cs
    cases hl : cloPs H cs with
    | none => rw [hl] at hc; cases hc
    | some z =>
      obtain ⟨qs, x⟩ := z; rw [hl] at hc; cases hc
      cases h with
      | func _ _ _ arr hl1 h1 hh =>
        obtain ⟨hl2, h2⟩ := cloPs_rep hH hl hS
        refine .func _ f qs arr (by omega) h1 fun i q v hq hv => ?_
        have hi : i < cs.length := by rw [← hl2]; exact (List.getElem?_eq_some_iff.1 hq).1
        exact h2 i cs[i] q v (by simp) hq (hh i _ v (by simp) hv)
  · rename_i t cs
    cases hl : cloL H cs with
    | none => rw [hl] at hc; cases hc
    | some z =>
      obtain ⟨qs, x⟩ := z; rw [hl] at hc; cases hc
      cases h with
      | iface _ _ _ u h => exact .iface _ t _ _ (agg_rep hH hl hS h)
  · rename_i t p' _
    cases hl : clo1 H p' with
    | none => rw [hl] at hc; cases hc
    | some z =>
      obtain ⟨q', x⟩ := z; rw [hl] at hc; cases hc
      cases h with
      | iface _ _ _ u h => exact .iface _ t _ _ (clo1_rep hH hl hS h)
  · exact cloP_rep hH hc hS h
theorem clo2s_rep (hH : HRel w R H) {X' : Nat → Prop} : ∀ {ps qs : List PV} {ids : List Nat}, clo2s H ps = some (qs, ids) → Shown w R H X' ids →
    qs.length = ps.length ∧ ∀ (i : Nat) p q v, ps[i]? = some p → qs[i]? = some q → Rep w (Xof H R) R p v → Rep w X' noRefs q v
  | [], qs, ids, h, _ => by simp [clo2s] at h; obtain ⟨rfl, rfl⟩ := h; exact ⟨rfl, fun i p q v hp => by simp at hp⟩
  | p :: ps, qs, ids, h, hS => by
    simp only [clo2s] at h
    split at h <;> first | (cases h; done) | skip
    rename_i a x h1
    split at h <;> cases h
    rename_i b y h2
    obtain ⟨hl, ih⟩ := clo2s_rep hH h2 (hS.mono fun i hi => List.mem_append_right _ hi)
    refine ⟨by simp [hl], fun i p' q' v hp hq hr => ?_⟩
    cases i with
    | zero => simp at hp hq; subst hp; subst hq; exact clo2_rep hH h1 (hS.mono fun i hi => List.mem_append_left _ hi) hr
    | succ i => simp at hp hq; exact ih i p' q' v hp hq hr
theorem clo_rep (hH : HRel w R H) {X' : Nat → Prop} {p q : PV} {ids : List Nat} (hc : clo H p = some (q, ids)) (hS : Shown w R H X' ids) {v : Value}
    (h : Rep w (Xof H R) R p v) : Rep w X' noRefs q v := by
  unfold clo at hc
  split at hc
  · rename_i vs
    cases hl : clo2s H vs with
    | none => rw [hl] at hc; cases hc
    | some z =>
      obtain ⟨qs, x⟩ := z; rw [hl] at hc; cases hc
      cases h with
      | tuple _ _ arr hl1 hh =>
        obtain ⟨hl2, h2⟩ := clo2s_rep hH hl hS
        refine .tuple _ qs arr (by omega) fun i q v hq hv => ?_
        have hi : i < vs.length := by rw [← hl2]; exact (List.getElem?_eq_some_iff.1 hq).1
        exact h2 i vs[i] q v (by simp) hq (hh i _ v (by simp) hv)
  · exact clo2_rep hH hc hS h
end
end Go.Ev
namespace Go.Ev
open Go
set_option linter.unusedSectionVars false
set_option linter.unusedSimpArgs false
set_option linter.unusedVariables false
variable [Frame]
section
variable {P : Program} {cx : Cx} {gs : List Nat} {w : World} {R : Refs} {H : Heap} {env : Env} {a : Act}
def pushed (w : World) (o : Obj) (n : Nat) : World := { w with heap := w.heap.push o, drawn := w.drawn + n }
theorem pushed_old {o : Obj} {n k : Nat} (h : k < w.heap.size) : (pushed w o n).heap[k]? = w.heap[k]? := by
  show (w.heap.push o)[k]? = _
  rw [Array.getElem?_push, if_neg (by omega)]
theorem pushed_new {o : Obj} {n : Nat} : (pushed w o n).heap[w.heap.size]? = some o := by
  show (w.heap.push o)[w.heap.size]? = _
  simp
def openO : Obj → Bool
  | .cells _ _ (lo, hi) => Nat.ble hi lo
  | _ => true
theorem pushed_froz {o : Obj} (ho : openO o = true) (n : Nat) (a : Addr) : (pushed w o n).frozen? a = w.frozen? a := by
  unfold World.frozen?
  rcases Nat.lt_trichotomy a.block w.heap.size with h | h | h
  · rw [pushed_old h]
  · rw [h, pushed_new, show w.heap[w.heap.size]? = none by simp]
    unfold openO at ho
    split at ho
    · rename_i lo hi
      have := Nat.le_of_ble_eq_true ho
      simp only
      rw [Bool.and_eq_false_iff]
      by_cases hl : lo ≤ a.off
      · right; simp; omega
      · left; simpa using hl
    · rename_i hne
      split
      · rename_i lo hi e
        cases e
        exact absurd rfl (hne _ _ _ _)
      · rfl
  · have h1 : (pushed w o n).heap[a.block]? = none := by
      show (w.heap.push o)[a.block]? = none
      simp; omega
    have h2 : w.heap[a.block]? = none := by simp; omega
    rw [h1, h2]
theorem Grow.pushed {X : Nat → Prop} (o : Obj) (n : Nat) (ho : openO o = true) : Grow w X (pushed w o n) :=
  ⟨by show _ ≤ (w.heap.push o).size; simp, fun k hk _ => pushed_old hk,
   fun k cs et fr hk => ⟨cs, (pushed_old (Array.getElem?_eq_some_iff.1 hk).1).trans hk, rfl⟩, rfl, rfl, rfl, fun a _ => pushed_froz ho n a⟩
theorem OpOK.of_skip {o : Oper} {w' : World} {R' : Refs} {e : Eff}
    (hr : (execOp a.eval o).run P w = .ok .skip w') (hp : Post w R H e Go.undef w' R') : OpOK P o a w R H e := by
  intro next Q h
  rw [hr]
  exact h Go.undef w' R' hp
theorem post_box (hH : HRel w R H) {id : Nat} (hid : hget H id = none) {cells : List PV} {arr : Array Value} {et : TypeId} (hl : cells.length ≤ arr.size)
    (hc : ∀ (j : Nat) (pv : PV), cells[j]? = some pv → ∃ v, arr[j]? = some v ∧ v.oneCell' = true ∧ Rep w (Xof H R) R pv v) :
    ∃ R', Post w R H ⟨.ptr id 0, [(id, .box cells)], []⟩ (.pointer (some ⟨w.heap.size, 0, none⟩)) (pushed w (.cells arr et) 0) R' := by
  let r : RB := ⟨true, some (w.heap.size, 0), cells.length, 1⟩
  have hG : ∀ X, Grow w X (pushed w (.cells arr et) 0) := fun _ => Grow.pushed _ _ rfl
  have hX : ∀ k, k < w.heap.size → ¬ Xof H R k → ¬ Xof (hset H id (.box cells)) (upR R id r) k := by
    rintro k hk hn (hF | ⟨j, c, q, o, hj, hl, hq, hb⟩)
    · exact hn (.inl hF)
    rw [hget_hset] at hj
    by_cases e : j = id
    · subst e; rw [upR_same] at hq; cases hq; cases hb; omega
    · rw [if_neg e] at hj; rw [upR_ne R r e] at hq; exact hn (.inr ⟨j, c, q, o, hj, hl, hq, hb⟩)
  have hB : BRel (pushed w (.cells arr et) 0) (Xof (hset H id (.box cells)) (upR R id r)) (upR R id r) r (.box cells) := by
    refine ⟨rfl, w.heap.size, 0, arr, et, rfl, pushed_new, by omega, fun j pv hj => ?_⟩
    obtain ⟨v, a1, a2, a3⟩ := hc j pv hj
    exact ⟨v, by simpa using a1, a2, a3.mono (hG _) hX (RExt.new (hH.dom id hid) r)⟩
  obtain ⟨q1, q2⟩ := hH.alloc hid r (.box cells) (hG _) (fun k hk => pushed_old hk) 0 rfl hB
  exact ⟨upR R id r, q1, RExt.new (hH.dom id hid) r, hG _, q2, .ptr _ id r w.heap.size 0 0 (upR_same R id r) rfl rfl⟩
theorem ok_box (hH : HRel w R H) (hE : ERel w R H env a.tmps) (hG : GlobOK cx gs w (Xof H R)) {o : Oper} {t : TypeId} {x : Operand} {x' : Opd} {id : Nat} {e : Eff}
    (ho : o.op = .box t x) (hx : mOpd gs x x' = true) (he : evOp cx env H (.box id x') = some e) : OpOK P o a w R H e := by
  have rx := opd_rep hE hG hx
  simp only [evOp] at he
  split at he <;> cases he
  rename_i cs hid hc
  obtain ⟨m1, m2⟩ := mcells_rep rx hc
  obtain ⟨R', hp⟩ := post_box hH hid (arr := (a.eval x).cells) (et := t) (by omega) m2
  exact OpOK.of_run (by simp [execOp, ho, Instr.box, newVar, newRow]; rfl) hp
theorem ok_alloc (hH : HRel w R H) {o : Oper} {t : TypeId} {id : Nat} {z : List PV} {i : TypeInfo} {v : Value} {e : Eff}
    (ho : o.op = .alloc t) (hi : P.info? t = some i) (hz : i.zero = some v) (hm : mConstL v.cells.toList z = true)
    (he : evOp cx env H (.alloc id z) = some e) : OpOK P o a w R H e := by
  simp only [evOp] at he
  split at he <;> cases he
  rename_i hid
  obtain ⟨hl, hh⟩ := mConstL_rep (w := w) (X := Xof H R) (R := R) hm
  obtain ⟨R', hp⟩ := post_box hH hid (cells := z) (arr := v.cells) (et := t) (by simp at hl; omega) (fun j pv hj => by
    have hjl : j < z.length := (List.getElem?_eq_some_iff.1 hj).1
    have hjv : j < v.cells.size := by simp at hl; omega
    obtain ⟨h1, h2⟩ := hh j pv v.cells[j] hj (by simp [hjv])
    exact ⟨_, by simp [hjv], h2, h1⟩)
  refine OpOK.of_run (v := .pointer (some ⟨w.heap.size, 0, none⟩)) ?_ hp
  simp [execOp, ho, Instr.alloc, zeroValue, typeInfo, hi, hz, newVar, newRow]
  rfl
def ArrAt (w : World) (X : Nat → Prop) (arr : Array Value) (sz : Nat) (rows : List (List PV)) : Prop :=
  rows.length * sz ≤ arr.size ∧ RowsAt w X arr 0 sz rows
theorem hget_congr_hset {H1 H2 : Heap} (h : ∀ i, hget H1 i = hget H2 i) (id : Nat) (b : Blk) (i : Nat) : hget (hset H1 id b) i = hget (hset H2 id b) i := by
  rw [hget_hset, hget_hset, h]
theorem hget_congr_hsets : ∀ (u : List (Nat × Blk)) {H1 H2 : Heap}, (∀ i, hget H1 i = hget H2 i) → ∀ i, hget (hsets u H1) i = hget (hsets u H2) i
  | [], _, _, h, i => h i
  | (j, c) :: u, _, _, h, i => hget_congr_hsets u (hget_congr_hset h j c) i
theorem hget_hsets_hset : ∀ (u : List (Nat × Blk)) {H : Heap} {id : Nat} {b : Blk}, (∀ p ∈ u, p.1 ≠ id) → ∀ i, hget (hsets u (hset H id b)) i = if i = id then some b else hget (hsets u H) i
  | [], H, id, b, _, i => hget_hset H id b i
  | (j, c) :: u, H, id, b, hu, i => by
    simp only [hsets]
    have hj : j ≠ id := hu (j, c) (.head _)
    rw [← hget_hsets_hset u (fun p hp => hu p (.tail _ hp)) i]
    refine hget_congr_hsets u (fun l => ?_) i
    rw [hget_hset, hget_hset, hget_hset, hget_hset]
    by_cases e1 : l = j
    · subst e1; rw [if_pos rfl, if_neg hj, if_pos rfl]
    · by_cases e2 : l = id
      · rw [if_neg e1, if_pos e2, if_pos e2]
      · rw [if_neg e1, if_neg e2, if_neg e2, if_neg e1]
theorem Xof_congr {H1 H2 : Heap} (h : ∀ i, hget H1 i = hget H2 i) (k : Nat) : Xof H1 R k ↔ Xof H2 R k := by
  constructor
  · rintro (hF | ⟨i, b, r, o, hi, rest⟩)
    · exact .inl hF
    · exact .inr ⟨i, b, r, o, by rw [← h]; exact hi, rest⟩
  · rintro (hF | ⟨i, b, r, o, hi, rest⟩)
    · exact .inl hF
    · exact .inr ⟨i, b, r, o, by rw [h]; exact hi, rest⟩
theorem HRel.congr {H1 H2 : Heap} (hH : HRel w R H1) (h : ∀ i, hget H1 i = hget H2 i) : HRel w R H2 := by
  refine ⟨hH.flt, fun i b r k o hi => hH.off i b r k o (by rw [h]; exact hi), fun i hi => hH.dom i (by rw [h]; exact hi), fun i b hi => ?_, fun i i' b b' r r' k o o' hi hi' => hH.inj i i' b b' r r' k o o' (by rw [h]; exact hi) (by rw [h]; exact hi')⟩
  obtain ⟨r, h1, h2⟩ := hH.has i b (by rw [h]; exact hi)
  exact ⟨r, h1, h2.mono (Grow.refl w _) (fun k _ hn hx => hn ((Xof_congr h k).2 hx)) (RExt.refl R) (fun _ _ _ => rfl)⟩
theorem shown_frozen {R : Refs} {H1 : Heap} {X' : Nat → Prop} {ids : List Nat} (h1 : HRel w R H1) (hsub : ∀ k, X' k → Xof H R k ∨ w.heap.size ≤ k)
    (hX : ∀ k, k < w.heap.size → X' k → Xof H1 R k) (hf : ∀ i ∈ ids, ∃ z rows, hget H1 i = some (.froz z rows)) : Shown w R H X' ids := by
  refine ⟨hsub, fun i hi r k o hr hk hx => ?_⟩
  obtain ⟨z, rows, e2⟩ := hf i hi
  have hlt : k < w.heap.size := h1.lt e2 rfl hr hk
  rcases hX k hlt hx with hF | ⟨j, c, q, o', hj, hl, hq, hb⟩
  · exact h1.off i _ r k o e2 rfl hr hk hF
  have : i = j := h1.inj i j _ c r q k o o' e2 hj rfl (live_dead hl) hr hq hk hb
  subst this
  rw [hj] at e2; cases e2; cases hl
theorem post_arr (hH : HRel w R H) {id : Nat} (hid : hget H id = none) {rows : List (List PV)} {arr : Array Value} {et : TypeId} {sz n c : Nat} {ids : List Nat} {fr : List (Nat × Blk)} {rd : List Nat}
    (hfr : frees H ids = some fr) (hc : rows.length ≤ c) (hcap : c * sz ≤ arr.size)
    (hrows : ∀ X' : Nat → Prop, Shown w R H X' ids → RowsAt w X' arr 0 sz rows) :
    ∃ R', Post w R H ⟨.own id 0 rows.length rows.length, (id, .arr sz rows) :: fr, rd⟩ (.slice (some ⟨w.heap.size, 0, none⟩) rows.length c) (pushed w (.cells arr et) n) R' := by
  let r : RB := ⟨false, some (w.heap.size, 0), sz, rows.length⟩
  have hRid : R id = none := hH.dom id hid
  have hk := frees_keys hfr
  obtain ⟨f1, f2, f3, f4, f5⟩ := hH.freezeAll (u := fr) (fun p hp => by obtain ⟨z', rows', e1, e2⟩ := hk p hp; exact ⟨z', rows', e1, .inl e2⟩)
  have hidf : ∀ p ∈ fr, p.1 ≠ id := by
    intro p hp e
    obtain ⟨_, rows', _, e2⟩ := hk p hp
    rw [e, hid] at e2; cases e2
  have hid' : hget (hsets fr H) id = none := by rw [f4 id hidf]; exact hid
  have hfz : ∀ i ∈ ids, ∃ z rows, hget (hsets fr H) i = some (.froz z rows) := by
    intro i hi
    obtain ⟨z', rows', h1 | h1⟩ := frees_all hfr i hi
    · exact ⟨z', rows', f3 _ h1.2⟩
    · exact ⟨z', rows', f5 i z' rows' h1⟩
  have hX1 : ∀ k, Xof (hset (hsets fr H) id (.arr sz rows)) (upR R id r) k → Xof (hsets fr H) R k ∨ k = w.heap.size := by
    rintro k (hF | ⟨j, c, q, o, hj, hl, hq, hb⟩)
    · exact .inl (.inl hF)
    rw [hget_hset] at hj
    by_cases e : j = id
    · subst e; rw [upR_same] at hq; cases hq; cases hb; exact .inr rfl
    · rw [if_neg e] at hj; rw [upR_ne R r e] at hq; exact .inl (.inr ⟨j, c, q, o, hj, hl, hq, hb⟩)
  have hSh : Shown w R H (Xof (hset (hsets fr H) id (.arr sz rows)) (upR R id r)) ids :=
    shown_frozen f1 (fun k hk => by rcases hX1 k hk with h | h; exact .inl (f2 k h); exact .inr (by omega))
      (fun k hlt hk => by rcases hX1 k hk with h | h; exact h; omega) hfz
  have hra := hrows _ hSh
  have hG : ∀ X, Grow w X (pushed w (.cells arr et) n) := fun X => Grow.pushed _ _ rfl
  have hB : BRel (pushed w (.cells arr et) n) (Xof (hset (hsets fr H) id (.arr sz rows)) (upR R id r)) (upR R id r) r (.arr sz rows) := by
    refine ⟨rfl, rfl, rfl, .inr ⟨w.heap.size, 0, arr, et, rfl, pushed_new, ?_, hra.mono (hG _) (fun _ _ h => h)⟩⟩
    have := Nat.mul_le_mul_right sz hc
    show 0 + rows.length * sz ≤ _
    omega
  obtain ⟨q1, q2⟩ := f1.alloc hid' r (.arr sz rows) (hG _) (fun k hk => pushed_old hk) 0 rfl hB
  have hcong : ∀ i, hget (hset (hsets fr H) id (.arr sz rows)) i = hget (hsets ((id, .arr sz rows) :: fr) H) i := by
    intro i
    simp only [hsets]
    rw [hget_hsets_hset fr hidf i, hget_hset]
  refine ⟨upR R id r, q1.congr hcong, RExt.new hRid r, hG _, fun k hlt hn hx => ?_, ?_⟩
  · have hx := (Xof_congr hcong k).2 hx
    rcases hX1 k hx with h | h
    · exact hn (f2 k h)
    · omega
  · have hz : rows.length ≤ 0 + c := by omega
    have := Rep.own (w := pushed w (.cells arr et) n) (X := Xof (hsets ((id, .arr sz rows) :: fr) H) (upR R id r)) (upR R id r) id r w.heap.size 0 0 rows.length rows.length c arr et (0, 0)
      (upR_same R id r) rfl rfl rfl (by omega) hc hz pushed_new (by simpa using hcap)
    simpa using this
theorem post_arr0 (hH : HRel w R H) {id : Nat} (hid : hget H id = none) {rows : List (List PV)} {arr : Array Value} {et : TypeId} {sz n c : Nat} {rd : List Nat}
    (hc : rows.length ≤ c) (hcap : c * sz ≤ arr.size)
    (hrows : ∀ X' : Nat → Prop, Shown w R H X' [] → RowsAt w X' arr 0 sz rows) :
    ∃ R', Post w R H ⟨.own id 0 rows.length rows.length, [(id, .arr sz rows)], rd⟩ (.slice (some ⟨w.heap.size, 0, none⟩) rows.length c) (pushed w (.cells arr et) n) R' :=
  post_arr (ids := []) (fr := []) hH hid rfl hc hcap hrows
theorem zeros_get {zero : Array Value} {n i : Nat} (hz : 0 < zero.size) (hi : i < n) : ((Array.range n).map (zero[· % zero.size]!))[i]? = zero[i % zero.size]? := by
  have : i % zero.size < zero.size := Nat.mod_lt _ hz
  simp [hi, this]
theorem ok_mksl (hH : HRel w R H) (hE : ERel w R H env a.tmps) (hG : GlobOK cx gs w (Xof H R)) {o : Oper} {t el : TypeId} {l c : Operand} {l' c' : Opd} {id : Nat} {z : List PV} {i : TypeInfo} {v : Value} {e : Eff}
    (ho : o.op = .makeSlice t l c) (ht : P.underlying t = some (.slice el)) (hi : P.info? el = some i) (hz : i.zero = some v) (hm : mConstL v.cells.toList z = true) (hs : i.size = z.length) (hs0 : z ≠ []) (hb0 : 0 < i.bytes)
    (hl : mOpd gs l l' = true) (hc : mOpd gs c c' = true)
    (he : evOp cx env H (.mksl id i.bytes z l' c') = some e) : OpOK P o a w R H e := by
  have rl := opd_rep hE hG hl
  have rc := opd_rep hE hG hc
  simp only [evOp] at he
  split at he <;> first | (cases he; done) | skip
  rename_i n m hln hcm hid
  rw [hln] at rl; rw [hcm] at rc
  generalize hvl : a.eval l = vl at rl
  generalize hvc : a.eval c = vc at rc
  cases rl; cases rc
  have ho' : execOp a.eval o = .value <$> Instr.makeSlice t (.int .i64 n) (.int .i64 m) := by simp [execOp, ho, hvl, hvc]
  split at he
  case isFalse =>
    split at he <;> first | (cases he; done) | skip
    rename_i hm0
    split at he <;> cases he
    rename_i hn0
    subst hm0; subst hn0
    have hr := run_make (P := P) w t el i v ht hi hz .i64 .i64 0 0 (by omega) (by omega) (by omega) (by omega)
    have hpu : ∀ o : Obj, openO o = true → Post w R H ⟨.nul, [], [id]⟩ (.slice (some ⟨w.heap.size, 0, none⟩) 0 0) (pushed w o 0) R := by
      intro ob hob
      have hG' : ∀ X, Grow w X (pushed w ob 0) := fun X => Grow.pushed _ _ hob
      refine ⟨hH.change (hG' _) (RExt.refl R) (fun k _ hn => hn) (fun i h => hH.dom i h) (fun i b hb => .inl ⟨hb, rfl, ?_⟩) (fun i i' b b' r r' k o o' => hH.inj i i' b b' r r' k o o') hH.off, RExt.refl R, hG' _, fun k _ hn => hn, .nul _ _⟩
      cases hd : deadB b with
      | true => exact .inl rfl
      | false => exact .inr fun r k o hr hk => pushed_old (hH.lt hb hd hr hk)
    refine OpOK.of_run (v := .slice (some ⟨w.heap.size, 0, none⟩) 0 0) ?_ (hpu (.cells (madeCells v.cells 0) el) rfl)
    rw [ho']
    simp [hr]
    rfl
  rename_i h0
  split at he <;> first | (cases he; done) | skip
  rename_i h1
  split at he <;> cases he
  rename_i h2
  obtain ⟨hcl, hcc⟩ := mConstL_rep (w := w) (X := fun _ => True) (R := noRefs) hm
  have hzs : v.cells.size = z.length := by simpa using hcl
  have hz0 : 0 < z.length := List.length_pos_iff.2 hs0
  have hmn : (i.bytes : Int) * m ≤ 281474976710656 := by
    have : m * (i.bytes : Int) = (i.bytes : Int) * m := Int.mul_comm _ _
    omega
  have h63 : m ≤ 9223372036854775807 := by
    have : m * 1 ≤ m * (i.bytes : Int) := Int.mul_le_mul_of_nonneg_left (by omega) (by omega)
    omega
  have hr := run_make (P := P) w t el i v ht hi hz .i64 .i64 n m (by omega) h1 hmn h63
  have hrows : ∀ X' : Nat → Prop, Shown w R H X' [] → RowsAt w X' (madeCells v.cells (m.toNat * i.size)) 0 z.length (List.replicate n.toNat z) := by
    intro X' _
    refine ⟨fun k row hk => ?_, fun k row j pv hk hj => ?_⟩
    · rw [List.getElem?_replicate] at hk
      split at hk <;> cases hk
      rfl
    · rw [List.getElem?_replicate] at hk
      split at hk <;> cases hk
      rename_i hkl
      have hjl : j < z.length := (List.getElem?_eq_some_iff.1 hj).1
      obtain ⟨_, hcc'⟩ := mConstL_rep (w := w) (X := X') (R := noRefs) hm
      have hjv : j < v.cells.size := by omega
      obtain ⟨c1, c2⟩ := hcc' j pv v.cells[j] hj (by simp [hjv])
      refine ⟨_, ?_, c2, c1⟩
      have hk1 : (k + 1) * z.length ≤ m.toNat * z.length := Nat.mul_le_mul_right _ (by omega)
      rw [Nat.add_mul] at hk1
      rw [madeCells, hs, zeros_get (by omega) (by omega), Nat.zero_add, hzs, Nat.mul_comm k, Nat.mul_add_mod, Nat.mod_eq_of_lt hjl]
      simp [hjv]
  obtain ⟨R', hp⟩ := post_arr0 (w := w) (R := R) (rd := []) (n := 0) (et := el) (sz := z.length) (c := m.toNat) (rows := List.replicate n.toNat z) (arr := madeCells v.cells (m.toNat * i.size)) hH hid
    (by simp; omega) (by rw [size_madeCells, hs]; exact Nat.le_refl _) hrows
  refine OpOK.of_run (v := .slice (some ⟨w.heap.size, 0, none⟩) n.toNat m.toNat) ?_ (by simpa using hp)
  rw [ho']
  simp [hr]
  rfl
end
end Go.Ev
namespace Go.Ev
open Go
set_option linter.unusedSectionVars false
set_option linter.unusedSimpArgs false
set_option linter.unusedVariables false
variable [Frame]
def CellsAt (w : World) (X : Nat → Prop) (R : Refs) (cells : List PV) (arr : Array Value) : Prop :=
  cells.length = arr.size ∧ ∀ (j : Nat) (p : PV), cells[j]? = some p → ∃ v, arr[j]? = some v ∧ v.oneCell' = true ∧ Rep w X R p v
theorem mConstL_cells {w : World} {X : Nat → Prop} {R : Refs} {v : Array Value} {z : List PV} (h : mConstL v.toList z = true) : CellsAt w X R z v := by
  obtain ⟨hl, hh⟩ := mConstL_rep (w := w) (X := X) (R := R) h
  have hl' : v.size = z.length := by simpa using hl
  refine ⟨hl'.symm, fun j p hj => ?_⟩
  have hjl : j < z.length := (List.getElem?_eq_some_iff.1 hj).1
  have hjv : j < v.size := by omega
  obtain ⟨h1, h2⟩ := hh j p v[j] hj (by simp [hjv])
  exact ⟨_, by simp [hjv], h2, h1⟩
theorem CellsAt.agg {w : World} {X : Nat → Prop} {R : Refs} {cells : List PV} {arr : Array Value} (h : CellsAt w X R cells arr) : Rep w X R (.agg cells) (.agg arr) := by
  refine .agg R cells arr h.1.symm (fun i v hv => ?_) (fun i pv v hp hv => ?_)
  · have hi : i < arr.size := (Array.getElem?_eq_some_iff.1 hv).1
    have hi' : i < cells.length := by rw [h.1]; exact hi
    obtain ⟨u, h1, h2, _⟩ := h.2 i cells[i] (by simp)
    rw [hv] at h1; cases h1; exact h2
  · obtain ⟨u, h1, _, h3⟩ := h.2 i pv hp
    rw [hv] at h1; cases h1; exact h3
theorem flat_len {s : Nat} : ∀ {vs : List Value}, (∀ v ∈ vs, v.cells.size = s) → (vs.flatMap fun v => v.cells.toList).length = vs.length * s
  | [], _ => by simp
  | v :: vs, h => by
    have h1 : v.cells.toList.length = s := by simpa using h v (.head _)
    rw [List.flatMap_cons, List.length_append, flat_len (fun u hu => h u (.tail _ hu)), h1, List.length_cons, Nat.add_mul]
    omega
section
variable {P : Program} {cx : Cx} {gs : List Nat} {w : World} {R : Refs} {H : Heap} {env : Env} {a : Act}
def mParts (gs : List Nat) (place : Nat → Option (Nat × Nat)) : List (Nat × Operand) → List (Nat × Nat × Opd) → Bool
  | [], [] => true
  | (i, x) :: r, (o, n, y) :: s => decide (place i = some (o, n)) && mOpd gs x y && mParts gs place r s
  | _, _ => false
theorem fill_rep {X : Nat → Prop} (place : Nat → Option (Nat × Nat)) : ∀ {xs : List (Nat × Operand)} {ps : List (Nat × Nat × Opd)} {z cs : List PV} {arr : Array Value},
    mParts gs place xs ps = true → (∀ (x : Operand) (y : Opd), mOpd gs x y = true → Rep w X R (opd cx env y) (a.eval x)) → fillc (opd cx env) ps z = some cs → CellsAt w X R z arr →
    ∃ arr', Instr.fill place arr (xs.map fun p => (p.1, a.eval p.2)) = some arr' ∧ CellsAt w X R cs arr'
  | [], [], z, cs, arr, _, _, hf, hz => by
    simp only [fillc] at hf; cases hf
    exact ⟨arr, rfl, hz⟩
  | [], _ :: _, _, _, _, h, _, _, _ => by simp [mParts] at h
  | _ :: _, [], _, _, _, h, _, _, _ => by simp [mParts] at h
  | (i, x) :: xs, (o, n, y) :: ps, z, cs, arr, h, hR, hf, hz => by
    simp only [mParts, Bool.and_eq_true, decide_eq_true_eq] at h
    obtain ⟨⟨hp, hx⟩, hr⟩ := h
    simp only [fillc] at hf
    split at hf <;> first | (cases hf; done) | skip
    rename_i c hc
    split at hf <;> first | (cases hf; done) | skip
    rename_i hb1 hb2
    have hcn : c.length = n := nbeq_iff.1 hb1
    have hon : o + n ≤ z.length := Nat.le_of_ble_eq_true hb2
    obtain ⟨m1, m2⟩ := mcells_rep (hR x y hx) hc
    obtain ⟨g1, g2⟩ := Go.Great.foldl_set o (a.eval x).cells.toList 0 arr
    have hcell : CellsAt w X R (splice z o c) (((a.eval x).cells.toList.zipIdx 0).foldl (fun cs (p : Value × Nat) => cs.setIfInBounds (o + p.2) p.1) arr) := by
      refine ⟨by rw [g1, splice_len (by omega)]; exact hz.1, fun j p hj => ?_⟩
      rw [splice_get j (by omega)] at hj
      rw [g2 j]
      by_cases hin : o ≤ j ∧ j < o + c.length
      · rw [if_pos hin] at hj
        rw [if_pos (by have := hz.1; simp; omega)]
        obtain ⟨u, u1, u2, u3⟩ := m2 _ p hj
        exact ⟨u, by simpa using u1, u2, u3⟩
      · rw [if_neg hin] at hj
        rw [if_neg (by simp; omega)]
        exact hz.2 j p hj
    obtain ⟨arr', f1, f2⟩ := fill_rep place hr hR hf hcell
    refine ⟨arr', ?_, f2⟩
    simp only [List.map_cons]
    unfold Instr.fill
    simp only [hp]
    rw [if_neg (by have := hz.1; simp; omega), ← f1]
    congr 1
    rw [← Array.foldl_toList, Array.toList_zipIdx]
theorem ok_build (hH : HRel w R H) (hE : ERel w R H env a.tmps) (hG : GlobOK cx gs w (Xof H R)) {o : Oper} {t : TypeId} {xs : Array (Nat × Operand)} {ps : List (Nat × Nat × Opd)} {z : List PV} {zv : Value} {e : Eff}
    (place : Nat → Option (Nat × Nat)) (ho : o.op = .build t xs) (hb : ∀ vs, P.built t vs = Instr.fill place zv.cells vs) (hz : mConstL zv.cells.toList z = true) (hx : mParts gs place xs.toList ps = true)
    (he : evOp cx env H (.build z ps) = some e) : OpOK P o a w R H e := by
  simp only [evOp] at he
  split at he <;> cases he
  rename_i cs hf
  obtain ⟨arr', f1, f2⟩ := fill_rep (w := w) (X := Xof H R) (R := R) (a := a) place hx (fun x y h => opd_rep hE hG h) hf (mConstL_cells hz)
  have hr := run_build w t (xs.map fun (p : Nat × Operand) => (p.1, a.eval p.2)) arr' (by rw [hb, ← f1]; simp) (P := P)
  exact OpOK.pure hH (v := .agg arr') (by simp [execOp, ho, hr]) f2.agg
theorem run_buildSlice0 (w : World) (t e : TypeId) (ie : TypeInfo) (hu : P.underlying t = some (.slice e)) (hie : P.info? e = some ie) :
    (Instr.buildSlice t 0 #[]).run P w = .ok (.slice (some ⟨w.heap.size, 0, none⟩) 0 0) (w.alloc (.cells #[] e)) := by
  simp [Instr.buildSlice, run_underlying hu, sizeOf, typeInfo, hie, newRow, Instr.fill, Array.range_zero']
theorem rowOf_rep (hH : HRel w R H) {p : PV} {cs : List PV} {ids : List Nat} {v : Value} (h : rowOf H p = some (cs, ids)) (hv : Rep w (Xof H R) R p v) :
    v.cells.size = cs.length ∧ ∀ X' : Nat → Prop, Shown w R H X' ids → CellsAt w X' noRefs cs v.cells := by
  unfold rowOf at h
  split at h <;> first | (cases h; done) | skip
  rename_i c hc
  obtain ⟨m1, m2⟩ := mcells_rep hv hc
  have hlen : cs.length = c.length := by
    have : ∀ {ps qs : List PV} {ids : List Nat}, cloL H ps = some (qs, ids) → qs.length = ps.length := by
      intro ps
      induction ps with
      | nil => intro qs ids h; simp [cloL] at h; simp [h.1.symm]
      | cons p ps ih =>
        intro qs ids h
        simp only [cloL] at h
        split at h <;> first | (cases h; done) | skip
        split at h <;> cases h
        rename_i hb
        simp [ih hb]
    exact this h
  refine ⟨by omega, fun X' hS => ⟨by omega, fun j p hj => ?_⟩⟩
  obtain ⟨_, hh⟩ := cloL_rep hH h hS
  have hjc : j < c.length := by rw [← hlen]; exact (List.getElem?_eq_some_iff.1 hj).1
  obtain ⟨u, u1, u2, u3⟩ := m2 j c[j] (by simp)
  exact ⟨u, u1, u2, hh j c[j] p u (by simp) hj u3⟩
def mElems (gs : List Nat) : Nat → List (Nat × Operand) → List Opd → Bool
  | _, [], [] => true
  | k, (i, x) :: r, y :: s => Nat.beq i k && mOpd gs x y && mElems gs (k + 1) r s
  | _, _, _ => false
theorem elems_rep (hH : HRel w R H) {esz : Nat} : ∀ {k : Nat} {xs : List (Nat × Operand)} {ys : List Opd} {rows : List (List PV)} {ids : List Nat},
    mElems gs k xs ys = true → (∀ (x : Operand) (y : Opd), mOpd gs x y = true → Rep w (Xof H R) R (opd cx env y) (a.eval x)) → rowsOf H esz (opds cx env ys) = some (rows, ids) →
    (xs.map fun p => (p.1, a.eval p.2)) = ((xs.map fun p => a.eval p.2).zipIdx k).map (fun p => (p.2, p.1)) ∧ xs.length = rows.length ∧ (∀ v ∈ (xs.map fun p => a.eval p.2), v.cells.size = esz) ∧
      ∀ (i : Nat) (row : List PV), rows[i]? = some row → ∃ v, (xs.map fun p => a.eval p.2)[i]? = some v ∧ ∀ X' : Nat → Prop, Shown w R H X' ids → CellsAt w X' noRefs row v.cells
  | k, [], [], rows, ids, _, _, h => by
    simp [opds, rowsOf] at h
    obtain ⟨rfl, rfl⟩ := h
    exact ⟨rfl, rfl, fun v hv => by simp at hv, fun i row hi => by simp at hi⟩
  | _, [], _ :: _, _, _, h, _, _ => by simp [mElems] at h
  | _, _ :: _, [], _, _, h, _, _ => by simp [mElems] at h
  | k, (i, x) :: xs, y :: ys, rows, ids, h, hR, hr => by
    simp only [mElems, Bool.and_eq_true] at h
    obtain ⟨⟨hk, hx⟩, hrest⟩ := h
    have hk := nbeq_iff.1 hk
    subst hk
    simp only [opds, rowsOf] at hr
    split at hr <;> first | (cases hr; done) | skip
    rename_i c xid hc
    split at hr <;> cases hr
    rename_i rows' yid hb hr'
    obtain ⟨e1, e2, e3, e4⟩ := elems_rep hH hrest hR hr'
    obtain ⟨r1, r2⟩ := rowOf_rep hH hc (hR x y hx)
    have hcl := nbeq_iff.1 hb
    refine ⟨by simp [e1, List.zipIdx_cons], by simp [e2], fun v hv => ?_, fun j row hj => ?_⟩
    · simp only [List.map_cons, List.mem_cons] at hv
      rcases hv with rfl | hv
      · omega
      · exact e3 v hv
    · cases j with
      | zero => simp at hj; subst hj; exact ⟨_, by simp, fun X' hS => r2 X' (hS.mono fun i hi => List.mem_append_left _ hi)⟩
      | succ j =>
        simp at hj
        obtain ⟨v, v1, v2⟩ := e4 j row hj
        exact ⟨v, by simpa using v1, fun X' hS => v2 X' (hS.mono fun i hi => List.mem_append_right _ hi)⟩
theorem ok_bslice (hH : HRel w R H) (hE : ERel w R H env a.tmps) (hG : GlobOK cx gs w (Xof H R)) {o : Oper} {t el : TypeId} {n : Nat} {xs : Array (Nat × Operand)} {ys : List Opd} {id esz : Nat} {i : TypeInfo} {z : Value} {e : Eff}
    (ho : o.op = .buildSlice t n xs) (ht : P.underlying t = some (.slice el)) (hi : P.info? el = some i) (hz : i.zero = some z) (hs : i.size = esz) (hs0 : 0 < esz) (hn : n = xs.size) (hn2 : n * esz ≤ 2 ^ 24)
    (hx : mElems gs 0 xs.toList ys = true) (he : evOp cx env H (.bslice id esz ys) = some e) : OpOK P o a w R H e := by
  simp only [evOp] at he
  split at he <;> first | (cases he; done) | skip
  rename_i rows ids hid hrows
  split at he <;> first | (cases he; done) | skip
  rename_i fr hfr
  obtain ⟨e1, e2, e3, e4⟩ := elems_rep hH hx (fun x y h => opd_rep hE hG h) hrows
  have ho' : execOp a.eval o = .value <$> Instr.buildSlice t n (xs.map fun (p : Nat × Operand) => (p.1, a.eval p.2)) := by simp [execOp, ho]
  subst hn hs
  split at he
  · cases he
    have hx0 : xs = #[] := by
      have : xs.toList.length = 0 := by simp_all
      simpa using this
    subst hx0
    obtain ⟨R', hp⟩ := post_arr0 (w := w) (R := R) (rd := []) (n := 0) (et := el) (sz := i.size) (c := 0) (rows := []) (arr := #[]) hH hid (Nat.le_refl _) (by simp) (fun X' _ => ⟨fun _ _ h => by simp at h, fun _ _ _ _ h => by simp at h⟩)
    have hr := run_buildSlice0 w t el i ht hi
    have hpu : Post w R H ⟨.nul, [], [id]⟩ (.slice (some ⟨w.heap.size, 0, none⟩) 0 0) (pushed w (.cells #[] el) 0) R := by
      have hG' : ∀ X, Grow w X (pushed w (.cells #[] el) 0) := fun X => Grow.pushed _ _ rfl
      refine ⟨hH.change (hG' _) (RExt.refl R) (fun k _ hn => hn) (fun i h => hH.dom i h) (fun i b hb => .inl ⟨hb, rfl, ?_⟩) (fun i i' b b' r r' k o o' => hH.inj i i' b b' r r' k o o') hH.off, RExt.refl R, hG' _, fun k _ hn => hn, .nul _ _⟩
      cases hd : deadB b with
      | true => exact .inl rfl
      | false => exact .inr fun r k o hr hk => pushed_old (hH.lt hb hd hr hk)
    refine OpOK.of_run (v := .slice (some ⟨w.heap.size, 0, none⟩) 0 0) ?_ hpu
    rw [ho']
    simp [hr]
    rfl
  · rename_i hne
    cases he
    have hpos : 0 < xs.size := by
      have : xs.toList.length = rows.length := e2
      cases rows with
      | nil => exact absurd rfl hne
      | cons => simp at this; omega
    obtain ⟨hzl, _⟩ := (⟨rfl, trivial⟩ : xs.size = xs.size ∧ True)
    have hfw := Go.Great.fill_whole hs0 (xs.toList.map fun p => a.eval p.2) ((Array.range (xs.size * i.size)).map (z.cells[· % z.cells.size]!)) e3 (by simp)
    have hr := run_buildSlice w t el xs.size (xs.map fun (p : Nat × Operand) => (p.1, a.eval p.2)) _ i z ht hi hz (by omega) (by have := Nat.mul_pos hpos hs0; omega) (P := P) (by rw [← hfw, ← e1]; simp)
    have hlen : rows.length = xs.size := by simpa using e2.symm
    have hfl := Go.Great.flat_get hs0 (xs.toList.map fun p => a.eval p.2) e3
    have hra : ∀ X' : Nat → Prop, Shown w R H X' ids → RowsAt w X' ((xs.toList.map fun p => a.eval p.2).flatMap fun v => v.cells.toList).toArray 0 i.size rows := by
      intro X' hS
      refine ⟨fun k row hk => ?_, fun k row j pv hk hj => ?_⟩
      · obtain ⟨v, v1, v2⟩ := e4 k row hk
        rw [(v2 X' hS).1]
        exact e3 v (List.mem_of_getElem? v1)
      · obtain ⟨v, v1, v2⟩ := e4 k row hk
        obtain ⟨u, u1, u2, u3⟩ := (v2 X' hS).2 j pv hj
        refine ⟨u, ?_, u2, u3⟩
        have hjl : j < i.size := by
          rw [← e3 v (List.mem_of_getElem? v1)]
          exact (Array.getElem?_eq_some_iff.1 u1).1
        rw [List.getElem?_toArray, hfl, Nat.zero_add, Nat.mul_comm k, Nat.mul_add_div hs0, Nat.mul_add_mod, Nat.div_eq_of_lt hjl, Nat.mod_eq_of_lt hjl, Nat.add_zero, v1]
        exact u1
    obtain ⟨R', hp⟩ := post_arr (w := w) (R := R) (rd := ids) (n := 0) (et := el) (c := rows.length) hH hid hfr (Nat.le_refl _) (by
      have : ((xs.toList.map fun p => a.eval p.2).flatMap fun v => v.cells.toList).length = rows.length * i.size := by
        rw [flat_len e3]
        simp [hlen]
      simp only [List.size_toArray]
      omega) hra
    refine OpOK.of_run (v := .slice (some ⟨w.heap.size, 0, none⟩) rows.length rows.length) ?_ hp
    rw [ho']
    simp [hr, hlen]
    rfl
end
end Go.Ev
namespace Go.Ev
open Go
set_option linter.unusedSectionVars false
set_option linter.unusedSimpArgs false
set_option linter.unusedVariables false
variable [Frame]
section
variable {P : Program} {cx : Cx} {gs : List Nat} {w : World} {R : Refs} {H : Heap} {env : Env} {a : Act}
structure Reads (P : Program) (w : World) (X : Nat → Prop) (esz : Nat) (rows : List (List PV)) (v : Value) : Prop where
  len : ∀ w' : World, (Builtin.lenOf v).run P w' = .ok rows.length w'
  first : ∀ m, m ≤ rows.length → ∃ arr : Array Value, (∀ w' : World, w'.heap = w.heap → (Builtin.firstCells esz m v).run P w' = .ok arr w') ∧ arr.size = m * esz ∧ RowsAt w X arr 0 esz (rows.take m)
theorem loadCells_zero {ad : Addr} (w : World) : (loadCells ad 0).run P w = .ok #[] w := by simp [loadCells, loadCellsFrom]
theorem reads_empty {X : Nat → Prop} {esz : Nat} {ad : Option Addr} {c : Nat} : Reads P w X esz [] (.slice ad 0 c) := by
  refine ⟨fun w' => by simp [Builtin.lenOf], fun m hm => ⟨#[], fun w' _ => ?_, ?_, fun i row h => by simp at h, fun i row j pv h => by simp at h⟩⟩
  · have hm : m = 0 := by simpa using hm
    subst hm
    cases ad <;> simp [Builtin.firstCells, loadCells_zero]
  · have hm : m = 0 := by simpa using hm
    subst hm; simp
theorem reads_rows {X : Nat → Prop} {esz : Nat} {rows : List (List PV)} {k o c : Nat} (hz : ∀ (i : Nat) (row : List PV), rows[i]? = some row → row.length = esz)
    (hc : ∀ (i : Nat) (row : List PV) (j : Nat) (pv : PV), rows[i]? = some row → row[j]? = some pv → ∃ u, cellAt w k (o + i * esz + j) = some u ∧ u.oneCell' = true ∧ Rep w X noRefs pv u) :
    Reads P w X esz rows (.slice (some ⟨k, o, none⟩) rows.length c) := by
  refine ⟨fun w' => by simp [Builtin.lenOf], fun m hm => ?_⟩
  have hcell : ∀ i, i < m → ∀ j, j < esz → ∃ row pv, rows[i]? = some row ∧ row[j]? = some pv := by
    intro i hi j hj
    have hil : i < rows.length := by omega
    have := hz i rows[i] (by simp)
    exact ⟨rows[i], (rows[i])[j], by simp, by simp⟩
  refine ⟨((List.range (m * esz)).map fun q => (cellAt w k (o + q)).getD undef).toArray, fun w' hw' => ?_, by simp, fun i row hi => ?_, fun i row j pv hi hj => ?_⟩
  · simp only [Builtin.firstCells]
    refine run_loadCells w' ⟨k, o, none⟩ (m * esz) (fun q => (cellAt w k (o + q)).getD undef) fun q hq => ?_
    have he : 0 < esz := by
      rcases Nat.eq_zero_or_pos esz with h | h
      · subst h; omega
      · exact h
    have h1 : q / esz < m := (Nat.div_lt_iff_lt_mul he).2 hq
    obtain ⟨row, pv, h2, h3⟩ := hcell (q / esz) h1 (q % esz) (Nat.mod_lt _ he)
    obtain ⟨u, h4, _, _⟩ := hc _ _ _ _ h2 h3
    have h5 : q / esz * esz + q % esz = q := by rw [Nat.mul_comm]; exact Nat.div_add_mod q esz
    rw [Nat.add_assoc, h5] at h4
    rw [add_none, cell?_eq]
    have : cellAt w' k (o + q) = cellAt w k (o + q) := by simp [cellAt, hw']
    rw [this, h4]; rfl
  · rw [List.getElem?_take] at hi
    split at hi
    · exact hz i row hi
    · cases hi
  · rw [List.getElem?_take] at hi
    split at hi
    · rename_i him
      obtain ⟨u, h4, h5, h6⟩ := hc i row j pv hi hj
      refine ⟨u, ?_, h5, h6⟩
      have hj' : j < esz := by rw [← hz i row hi]; exact (List.getElem?_eq_some_iff.1 hj).1
      have hlt : i * esz + j < m * esz := by
        have := Nat.mul_le_mul_right esz (show i + 1 ≤ m by omega)
        rw [Nat.add_mul] at this
        omega
      simp only [List.getElem?_toArray, Nat.zero_add, List.getElem?_map, List.getElem?_range hlt, Option.map_some]
      rw [← Nat.add_assoc, h4]; rfl
    · cases hi
theorem reads_str {X : Nat → Prop} {esz : Nat} {s : List UInt8} (hz : szOK esz (s.map fun b => [PV.int .u8 b.toNat]) = true) :
    Reads P w X esz (s.map fun b => [PV.int .u8 b.toNat]) (.string ⟨s.toArray⟩) := by
  refine ⟨fun w' => by simp [Builtin.lenOf]; rfl, fun m hm => ?_⟩
  have hm' : m ≤ s.length := by simpa using hm
  refine ⟨((s.take m).map fun b => Value.int .u8 b.toNat).toArray, fun w' _ => ?_, ?_, fun i row hi => ?_, fun i row j pv hi hj => ?_⟩
  · simp [Builtin.firstCells]
  · rcases Nat.eq_zero_or_pos m with h | h
    · subst h; simp
    · have := szOK_spec hz 0 [PV.int .u8 (s[0]'(by omega)).toNat] (by
        have h0 : 0 < s.length := by omega
        simp [h0])
      simp at this
      subst this
      simp; omega
  · rw [List.getElem?_take] at hi
    split at hi
    · exact szOK_spec hz i row hi
    · cases hi
  · rw [List.getElem?_take] at hi
    split at hi
    · rename_i him
      have hl := szOK_spec hz i row hi
      simp only [List.getElem?_map, Option.map_eq_some_iff] at hi
      obtain ⟨b, hb, rfl⟩ := hi
      simp at hl
      subst hl
      have hj0 : j = 0 := by
        have := (List.getElem?_eq_some_iff.1 hj).1
        simp at this; exact this
      subst hj0
      simp at hj
      subst hj
      refine ⟨.int .u8 b.toNat, ?_, rfl, .int _ _ _⟩
      simp [him, hb]
    · cases hi
theorem rowsIn_rep (hH : HRel w R H) {esz : Nat} {p : PV} {rows : List (List PV)} {ids : List Nat} {v : Value} (h : rowsIn H esz p = some (rows, ids)) (hz : szOK esz rows = true)
    (hv : Rep w (Xof H R) R p v) : Reads P w (Xof H R) esz rows v := by
  have hzs := fun i row => szOK_spec hz i row
  unfold rowsIn at h
  split at h
  · cases h; cases hv; exact reads_empty
  · cases h; cases hv; exact reads_empty
  · cases h; cases hv; exact reads_empty
  · split at h <;> cases h
    rename_i hb
    cases hv with
    | ro0 => exact reads_empty
    | ro _ k o sz _ c vs hk hs hl hz' hc hr =>
      cases hrow : rows with
      | nil => exact reads_empty
      | cons r0 rs =>
        rw [← hrow]
        have hse : sz = esz := by
          rw [← hz' 0 r0 (by rw [hrow]; rfl), hzs 0 r0 (by rw [hrow]; rfl)]
        subst hse
        exact reads_rows hzs fun i row j pv hi hj => ⟨_, (hc i row j pv hi hj).1, (hc i row j pv hi hj).2, hr i row j pv hi hj⟩
  · rename_i id off len cl
    have key : ∀ (sz : Nat) (rs : List (List PV)), (hget H id = some (.arr sz rs) ∨ hget H id = some (.froz sz rs)) →
        (match Nat.beq rs.length cl, Nat.beq sz esz with | true, true => some ((rs.drop off).take len, [id]) | _, _ => none) = some (rows, ids) → Reads P w (Xof H R) esz rows v := by
      intro sz rs hg hh
      split at hh <;> cases hh
      rename_i hb1 hb2
      have hcl := nbeq_iff.1 hb1
      have hsz := nbeq_iff.1 hb2
      have hvo : validO H id cl = true := by
        unfold validO
        rcases hg with hg | hg <;> rw [hg] <;> exact hb1
      obtain ⟨r, hr, hcl', hbx, hcase⟩ := own_real hH hvo hv
      rcases hcase with ⟨k, base, c, cs, et, fr, hk, b1, b2, b3, hw, b4, rfl⟩ | ⟨rfl, rfl, ad, rfl⟩
      · have hB : ∃ cs et, w.heap[k]? = some (.cells cs et (0, 0)) ∧ RowsAt w (Xof H R) cs base r.sz rs ∧ r.sz = sz := by
          rcases hg with hg | hg
          · obtain ⟨r', q1, _, _, q0, q2 | ⟨k', base', cs, et, q2, q3, q4, q5⟩⟩ := hH.has id _ hg
            · rw [hr] at q1; cases q1; rw [hk] at q2; cases q2.1
            · rw [hr] at q1; cases q1; rw [hk] at q2; cases q2; exact ⟨cs, et, q3, q5, q0⟩
          · obtain ⟨r', q1, _, _, q0, q2 | ⟨k', base', cs, et, q2, q3, q4, q5⟩⟩ := hH.has id _ hg
            · rw [hr] at q1; cases q1; rw [hk] at q2; cases q2.1
            · rw [hr] at q1; cases q1; rw [hk] at q2; cases q2; exact ⟨cs, et, q3, q5, q0⟩
        obtain ⟨cs', et', q3, q5, q6⟩ := hB
        have q7 := q6.trans hsz
        subst q7
        have hlen : ((rs.drop off).take len).length = len := by simp; omega
        have := reads_rows (P := P) (w := w) (X := Xof H R) (k := k) (o := base + off * r.sz) (c := c) hzs (fun i row j pv hi hj => by
          rw [List.getElem?_take] at hi
          split at hi
          · rw [List.getElem?_drop] at hi
            obtain ⟨u, h1, h2, h3⟩ := q5.2 (off + i) row j pv hi hj
            refine ⟨u, ?_, h2, h3⟩
            rw [show base + (off + i) * r.sz + j = base + off * r.sz + i * r.sz + j by rw [Nat.add_mul]; omega] at h1
            simp [cellAt, q3, h1]
          · cases hi)
        rwa [hlen] at this
      · have : (rs.drop off).take 0 = [] := by simp
        rw [this]
        exact reads_empty
    split at h
    · rename_i sz rs hg; exact key sz rs (.inl hg) h
    · rename_i sz rs hg; exact key sz rs (.inr hg) h
    · cases h
  · cases h; cases hv
    exact reads_str hz
  · cases h
end
end Go.Ev
namespace Go.Ev
open Go
set_option linter.unusedSectionVars false
set_option linter.unusedSimpArgs false
set_option linter.unusedVariables false
variable [Frame]
section
variable {P : Program} {cx : Cx} {gs : List Nat} {w : World} {R : Refs} {H : Heap} {env : Env} {a : Act}
theorem Xof_write {id : Nat} {b0 b : Blk} {r r' : RB} (hid : hget H id = some b0) (hr : R id = some r) (hl0 : liveB b0 = true)
    (hrk' : ∀ k' o, r'.blk = some (k', o) → (∃ o', r.blk = some (k', o')) ∨ w.heap.size ≤ k') :
    ∀ k, k < w.heap.size → ¬ Xof H R k → ¬ Xof (hset H id b) (upR R id r') k := by
  rintro k1 hk hn (hF | ⟨j, c, q, o, hj, hl, hq, hb⟩)
  · exact hn (.inl hF)
  rw [hget_hset] at hj
  by_cases e : j = id
  · subst e; rw [upR_same] at hq; cases hq
    rcases hrk' k1 o hb with ⟨o', ho⟩ | hge
    · exact hn (.inr ⟨j, b0, r, o', hid, hl0, hr, ho⟩)
    · omega
  · rw [if_neg e] at hj; rw [upR_ne R r' e] at hq; exact hn (.inr ⟨j, c, q, o, hj, hl, hq, hb⟩)
theorem arr_real (hH : HRel w R H) {id sz : Nat} {rows : List (List PV)} {r : RB} {k base : Nat} (hid : hget H id = some (.arr sz rows)) (hr : R id = some r) (hk : r.blk = some (k, base)) :
    r.box = false ∧ r.cl = rows.length ∧ r.sz = sz ∧ ∃ cs et, w.heap[k]? = some (.cells cs et (0, 0)) ∧ base + rows.length * sz ≤ cs.size ∧ RowsAt w (Xof H R) cs base sz rows := by
  obtain ⟨r', q1, b1, b2, b3, q2 | ⟨k', base', cs, et, q2, q3, q4, q5⟩⟩ := hH.has id _ hid
  · rw [hr] at q1; cases q1; rw [hk] at q2; cases q2.1
  · rw [hr] at q1; cases q1; rw [hk] at q2; cases q2
    rw [b3] at q4 q5
    exact ⟨b1, b2, b3, cs, et, q3, q4, q5⟩
theorem arr_write (hH : HRel w R H) {id sz : Nat} {rows rows' : List (List PV)} {r : RB} {k base : Nat} {cur cur' : Array Value} {et : TypeId}
    (hid : hget H id = some (.arr sz rows)) (hr : R id = some r) (hk : r.blk = some (k, base)) (hw : w.heap[k]? = some (.cells cur et (0, 0)))
    (hs : cur'.size = cur.size) (hl : rows.length ≤ rows'.length) (hb : base + rows'.length * sz ≤ cur.size) (hra : RowsAt w (Xof H R) cur' base sz rows') :
    HRel (w.setRow k cur') (upR R id { r with cl := rows'.length }) (hset H id (.arr sz rows')) ∧ RExt R (upR R id { r with cl := rows'.length }) ∧ Grow w (Own H R) (w.setRow k cur') ∧
      (∀ k', k' < w.heap.size → ¬ Xof H R k' → ¬ Xof (hset H id (.arr sz rows')) (upR R id { r with cl := rows'.length }) k') := by
  obtain ⟨b1, b2, b3, _⟩ := arr_real hH hid hr hk
  subst b3
  have hXk : Own H R k := Xof_live hid rfl hr hk
  have hG : Grow w (Own H R) (w.setRow k cur') := Grow.setRow hw hs hXk
  have hX := Xof_write (w := w) (H := H) (R := R) (b := .arr r.sz rows') (r' := { r with cl := rows'.length }) hid hr rfl (fun k' o h' => .inl ⟨o, h'⟩)
  have hB : BRel (w.setRow k cur') (Xof (hset H id (.arr r.sz rows')) (upR R id { r with cl := rows'.length })) (upR R id { r with cl := rows'.length }) { r with cl := rows'.length } (.arr r.sz rows') := by
    refine ⟨b1, rfl, rfl, .inr ⟨k, base, cur', et, hk, setRow_same hw, ?_, hra.mono hG.weak hX⟩⟩
    rw [hs]; exact hb
  obtain ⟨q1, q2, q3⟩ := hH.write (w' := w.setRow k cur') (b := .arr r.sz rows') (r' := { r with cl := rows'.length }) hid hr rfl hG.weak
    (fun i _ hi => setRow_other fun e => hi base (by rw [e]; exact hk)) (fun k' o h' => .inl ⟨o, h'⟩) (by
      rcases Nat.eq_or_lt_of_le hl with h | h
      · left; cases r; simp_all
      · right; exact ⟨b1, b1, by show r.cl < rows'.length; omega⟩) hB
  exact ⟨q1, q2, hG, q3⟩
theorem arr_move (hH : HRel w R H) {id sz : Nat} {rows rows' : List (List PV)} {r : RB} {cur' : Array Value} {et : TypeId} {n : Nat}
    (hid : hget H id = some (.arr sz rows)) (hr : R id = some r) (hl : rows.length < rows'.length) (hb : rows'.length * sz ≤ cur'.size) (hra : RowsAt w (Xof H R) cur' 0 sz rows') :
    HRel (pushed w (.cells cur' et) n) (upR R id { r with cl := rows'.length, blk := some (w.heap.size, 0) }) (hset H id (.arr sz rows')) ∧ RExt R (upR R id { r with cl := rows'.length, blk := some (w.heap.size, 0) }) ∧
      Grow w (Own H R) (pushed w (.cells cur' et) n) ∧
      (∀ k', k' < w.heap.size → ¬ Xof H R k' → ¬ Xof (hset H id (.arr sz rows')) (upR R id { r with cl := rows'.length, blk := some (w.heap.size, 0) }) k') := by
  obtain ⟨r', q1, b1, b2, b3, _⟩ := hH.has id _ hid
  rw [hr] at q1; cases q1
  subst b3
  have hG : Grow w (Own H R) (pushed w (.cells cur' et) n) := Grow.pushed _ _ rfl
  have hrk : ∀ k' o, (some (w.heap.size, 0) : Option (Nat × Nat)) = some (k', o) → (∃ o', r.blk = some (k', o')) ∨ w.heap.size ≤ k' := fun k' o h' => by cases h'; exact .inr (Nat.le_refl _)
  have hX := Xof_write (w := w) (H := H) (R := R) (b := .arr r.sz rows') (r' := { r with cl := rows'.length, blk := some (w.heap.size, 0) }) hid hr rfl hrk
  have hB : BRel (pushed w (.cells cur' et) n) (Xof (hset H id (.arr r.sz rows')) (upR R id { r with cl := rows'.length, blk := some (w.heap.size, 0) })) (upR R id { r with cl := rows'.length, blk := some (w.heap.size, 0) })
      { r with cl := rows'.length, blk := some (w.heap.size, 0) } (.arr r.sz rows') := by
    refine ⟨b1, rfl, rfl, .inr ⟨w.heap.size, 0, cur', et, rfl, pushed_new, ?_, hra.mono hG.weak hX⟩⟩
    show 0 + rows'.length * r.sz ≤ _
    omega
  obtain ⟨q1, q2, q3⟩ := hH.write (w' := pushed w (.cells cur' et) n) (b := .arr r.sz rows') (r' := { r with cl := rows'.length, blk := some (w.heap.size, 0) }) hid hr rfl hG.weak
    (fun i hi _ => pushed_old hi) hrk (.inr ⟨b1, b1, by show r.cl < rows'.length; omega⟩) hB
  exact ⟨q1, q2, hG, q3⟩
theorem putRow_rows {X : Nat → Prop} {cur new : Array Value} {base sz p : Nat} {rows rs : List (List PV)} (h : RowsAt w X cur base sz rows) (hn : RowsAt w X new 0 sz rs) (hsz : new.size = rs.length * sz)
    (hp : p ≤ rows.length) (hb : base + (p + rs.length) * sz ≤ cur.size) :
    RowsAt w X (putRow cur (base + p * sz) new.toList) base sz (rows.take p ++ rs ++ rows.drop (p + rs.length)) := by
  have hfit : base + p * sz + new.toList.length ≤ cur.size := by
    rw [Nat.add_mul] at hb
    simp; omega
  have hget : ∀ (i : Nat) (row : List PV), (rows.take p ++ rs ++ rows.drop (p + rs.length))[i]? = some row →
      ((¬ (p ≤ i ∧ i < p + rs.length)) ∧ rows[i]? = some row) ∨ (p ≤ i ∧ i < p + rs.length ∧ rs[i - p]? = some row) := by
    intro i row hi
    rw [List.append_assoc, List.getElem?_append] at hi
    have ht : (rows.take p).length = p := by simp; omega
    rw [ht] at hi
    split at hi
    · rename_i hlt
      rw [List.getElem?_take, if_pos hlt] at hi
      exact .inl ⟨by omega, hi⟩
    · rw [List.getElem?_append] at hi
      split at hi
      · exact .inr ⟨by omega, by omega, hi⟩
      · rw [List.getElem?_drop] at hi
        rw [show p + rs.length + (i - p - rs.length) = i by omega] at hi
        exact .inl ⟨by omega, hi⟩
  refine ⟨fun i row hi => ?_, fun i row j pv hi hj => ?_⟩
  · rcases hget i row hi with ⟨_, h1⟩ | ⟨_, _, h1⟩
    · exact h.1 i row h1
    · exact hn.1 _ row h1
  · have hnew := putRow_get hfit (base + i * sz + j)
    rw [hnew]
    simp only [Array.length_toList, hsz]
    rcases hget i row hi with ⟨hni, h1⟩ | ⟨h2, h3, h1⟩
    · have hjl : j < sz := by rw [← h.1 i row h1]; exact (List.getElem?_eq_some_iff.1 hj).1
      obtain ⟨u, u1, u2, u3⟩ := h.2 i row j pv h1 hj
      refine ⟨u, ?_, u2, u3⟩
      rw [if_neg ?_]
      · exact u1
      · rintro ⟨c1, c2⟩
        rcases Nat.lt_or_ge i p with hlt | hge
        · have := Nat.mul_le_mul_right sz (show i + 1 ≤ p by omega)
          rw [Nat.add_mul] at this; omega
        · have := Nat.mul_le_mul_right sz (show p + rs.length ≤ i by omega)
          rw [Nat.add_mul] at this; omega
    · have hjl : j < sz := by rw [← hn.1 _ row h1]; exact (List.getElem?_eq_some_iff.1 hj).1
      obtain ⟨u, u1, u2, u3⟩ := hn.2 _ row j pv h1 hj
      refine ⟨u, ?_, u2, u3⟩
      have e1 : i * sz = p * sz + (i - p) * sz := by rw [← Nat.add_mul]; congr 1; omega
      have e2 := Nat.mul_le_mul_right sz (show (i - p) + 1 ≤ rs.length by omega)
      rw [Nat.add_mul] at e2
      rw [if_pos (by omega)]
      rw [show base + i * sz + j - (base + p * sz) = 0 + (i - p) * sz + j by omega]
      simpa using u1
theorem RowsAt.ones {X : Nat → Prop} {new : Array Value} {sz : Nat} {rs : List (List PV)} (hn : RowsAt w X new 0 sz rs) (hsz : new.size = rs.length * sz) : ∀ v ∈ new.toList, v.oneCell' = true := by
  intro v hv
  obtain ⟨q, hq, rfl⟩ := List.getElem_of_mem hv
  simp at hq
  have hs0 : 0 < sz := by
    rcases Nat.eq_zero_or_pos sz with h | h
    · subst h; omega
    · exact h
  have h1 : q / sz < rs.length := (Nat.div_lt_iff_lt_mul hs0).2 (by omega)
  have h2 : q % sz < (rs[q / sz]).length := by rw [hn.1 (q / sz) rs[q / sz] (by simp)]; exact Nat.mod_lt _ hs0
  obtain ⟨u, u1, u2, _⟩ := hn.2 (q / sz) rs[q / sz] (q % sz) (rs[q / sz])[q % sz] (by simp) (by simp)
  have h5 : q / sz * sz + q % sz = q := by rw [Nat.mul_comm]; exact Nat.div_add_mod q sz
  rw [Nat.zero_add, h5] at u1
  rw [Array.getElem?_eq_getElem hq] at u1
  cases u1
  simpa using u2
theorem RowsAt.head {X : Nat → Prop} {new rest : Array Value} {sz : Nat} {rs : List (List PV)} (hn : RowsAt w X new 0 sz rs) : RowsAt w X (new ++ rest) 0 sz rs := by
  refine ⟨hn.1, fun i row j pv hi hj => ?_⟩
  obtain ⟨u, u1, u2, u3⟩ := hn.2 i row j pv hi hj
  refine ⟨u, ?_, u2, u3⟩
  rw [Array.getElem?_append_left (Array.getElem?_eq_some_iff.1 u1).1]
  exact u1
theorem RowsAt.append {X : Nat → Prop} {old new : Array Value} {sz : Nat} {rows rs : List (List PV)} (ho : RowsAt w X old 0 sz rows) (hso : old.size = rows.length * sz) (hn : RowsAt w X new 0 sz rs) :
    RowsAt w X (old ++ new) 0 sz (rows ++ rs) := by
  refine ⟨fun i row hi => ?_, fun i row j pv hi hj => ?_⟩
  · rw [List.getElem?_append] at hi
    split at hi
    · exact ho.1 i row hi
    · exact hn.1 _ row hi
  · rw [List.getElem?_append] at hi
    split at hi
    · obtain ⟨u, u1, u2, u3⟩ := ho.2 i row j pv hi hj
      refine ⟨u, ?_, u2, u3⟩
      rw [Array.getElem?_append_left (Array.getElem?_eq_some_iff.1 u1).1]
      exact u1
    · rename_i hge
      obtain ⟨u, u1, u2, u3⟩ := hn.2 _ row j pv hi hj
      refine ⟨u, ?_, u2, u3⟩
      have e1 : i * sz = rows.length * sz + (i - rows.length) * sz := by rw [← Nat.add_mul]; congr 1; omega
      rw [Array.getElem?_append_right (by omega)]
      rw [show 0 + i * sz + j - old.size = 0 + (i - rows.length) * sz + j by omega]
      exact u1
end
end Go.Ev
namespace Go.Ev
open Go
set_option linter.unusedSectionVars false
set_option linter.unusedSimpArgs false
set_option linter.unusedVariables false
variable [Frame]
section
variable {P : Program} {cx : Cx} {gs : List Nat} {w : World} {R : Refs} {H : Heap} {env : Env} {a : Act}
theorem run_app_in {tys : Array TypeId} {ty t u el : TypeId} {el2 : TypeId} {i : TypeInfo} {base : Option Addr} {len c n : Nat} {x : Value} {arr : Array Value}
    (h0 : tys[0]? = some t) (ht : P.underlying t = some (.slice el)) (hi : P.info? el = some i) (h1 : tys[1]? = some u) (hu : P.underlying u = some (.slice el2) ∨ P.underlying u = some .string)
    (hlen : (Builtin.lenOf x).run P w = .ok n w) (hfirst : (Builtin.firstCells i.size n x).run P w = .ok arr w) (hfit : len + n ≤ c) :
    (Builtin.append_ tys ty #[.slice base len c, x]).run P w =
      match base with
      | none => .ok (.slice none (len + n) c) w
      | some ad => ((storeCells (ad.add (len * i.size)) arr.toList).run P w).andThen fun _ w' => .ok (.slice (some ad) (len + n) c) w' := by
  rcases hu with hu | hu <;> cases base <;> simp [Builtin.append_, h0, h1, run_underlying ht, run_underlying hu, sizeOf, typeInfo, hi, hlen, hfirst, hfit]
theorem run_app_grow {tys : Array TypeId} {ty t u el : TypeId} {el2 : TypeId} {i : TypeInfo} {z : Value} {base : Option Addr} {len c n : Nat} {x : Value} {arr old : Array Value}
    (h0 : tys[0]? = some t) (ht : P.underlying t = some (.slice el)) (hi : P.info? el = some i) (hz : i.zero = some z) (h1 : tys[1]? = some u) (hu : P.underlying u = some (.slice el2) ∨ P.underlying u = some .string)
    (hlen : (Builtin.lenOf x).run P w = .ok n w) (hfirst : (Builtin.firstCells i.size n x).run P w.drew = .ok arr w.drew) (hold : (Builtin.firstCells i.size len (.slice base len c)).run P w.drew = .ok old w.drew)
    (hfit : c < len + n) (hb0 : 0 < i.bytes) (h47 : (len + n) * i.bytes ≤ 140737488355328) :
    (Builtin.append_ tys ty #[.slice base len c, x]).run P w =
      .ok (.slice (some ⟨w.heap.size, 0, none⟩) (len + n) (grownCap w (len + n) c el))
        (pushed w (.cells (old ++ arr ++ Builtin.zeroCells z.cells (grownCap w (len + n) c el - (len + n))) el) 1) := by
  have hn : ¬ (len + n ≤ c) := by omega
  have hle : len + n ≤ (len + n) * i.bytes := Nat.le_mul_of_pos_right _ hb0
  have h63' : ¬ (9223372036854775807 < ((len : Int) + (n : Int))) := by omega
  have h48' : ¬ (281474976710656 < Builtin.nextslicecap (len + n) c * i.bytes) := by
    have := growslice_fits hfit h47
    omega
  rcases hu with hu | hu
  all_goals
    simp [Builtin.append_, h0, h1, run_underlying ht, run_underlying hu, sizeOf, typeInfo, zeroValue, hi, hz, hlen, hn, h63', h48', Question.forced, hfirst, hold, newRow, grownCap]
    rfl
theorem size_zeroCells (z : Array Value) (n : Nat) : (Builtin.zeroCells z n).size = n * z.size := by simp [Builtin.zeroCells]
theorem take_mid {rows new : List (List PV)} {p : Nat} (hp : p ≤ rows.length) (hn : p + new.length ≤ rows.length) : (rows.take p ++ new ++ rows.drop (p + new.length)).length = rows.length := by
  simp; omega
theorem hsets_one {H : Heap} {id : Nat} {b : Blk} : hsets [(id, b)] H = hset H id b := rfl
theorem hget_hset_self {H : Heap} {id : Nat} {b : Blk} (h : hget H id = some b) (j : Nat) : hget (hset H id b) j = hget H j := by
  rw [hget_hset]
  split
  · subst_vars; exact h.symm
  · rfl
theorem Post.congr {e : Eff} {u : List (Nat × Blk)} {v : Value} {w' : World} {R' : Refs} (h : Post w R H e v w' R') (hu : ∀ j, hget (hsets e.upd H) j = hget (hsets u H) j) (rd : List Nat) :
    Post w R H ⟨e.v, u, rd⟩ v w' R' :=
  ⟨h.heap.congr hu, h.ext, h.grow, fun k hk hn hx => h.out k hk hn ((Xof_congr hu k).2 hx), h.val.mono (Grow.refl w' _) (fun _ _ hn hx => hn ((Xof_congr hu _).2 hx)) (RExt.refl _)⟩
theorem OpOK.congr {o : Oper} {e : Eff} {u : List (Nat × Blk)} {rd : List Nat} (h : OpOK P o a w R H e) (hu : ∀ j, hget (hsets e.upd H) j = hget (hsets u H) j) : OpOK P o a w R H ⟨e.v, u, rd⟩ :=
  fun next Q hn => h next Q fun v w' R' hp => hn v w' R' (hp.congr hu rd)
theorem szOK_of {n : Nat} : ∀ {rows : List (List PV)}, (∀ (i : Nat) (row : List PV), rows[i]? = some row → row.length = n) → szOK n rows = true
  | [], _ => rfl
  | r :: s, h => by
    simp only [szOK]
    rw [nbeq_iff.2 (h 0 r rfl)]
    exact szOK_of fun i row hi => h (i + 1) row (by simpa using hi)
theorem ok_app (hH : HRel w R H) (hE : ERel w R H env a.tmps) (hG : GlobOK cx gs w (Xof H R)) {o : Oper} {c : Call} {x y : Operand} {t u el el2 : TypeId} {x' y' : Opd} {id esz : Nat} {i : TypeInfo} {z : Value} {e : Eff}
    (ho : o.op = .call c) (hb : c.callee = .builtin .append) (ha : c.args = #[x, y]) (h0 : c.argTypes[0]? = some t) (ht : P.underlying t = some (.slice el)) (hi : P.info? el = some i) (hz : i.zero = some z)
    (h1 : c.argTypes[1]? = some u) (hu : P.underlying u = some (.slice el2) ∨ P.underlying u = some .string) (hs : i.size = esz) (hzs : z.cells.size = esz) (hb0 : 0 < i.bytes)
    (hx : mOpd gs x x' = true) (hy : mOpd gs y y' = true) (he : evOp cx env H (.app id esz i.bytes x' y') = some e) : OpOK P o a w R H e := by
  subst hs
  have rx := opd_rep hE hG hx
  have ry := opd_rep hE hG hy
  simp only [evOp] at he
  split at he <;> first | (cases he; done) | skip
  rename_i new ids hnew
  generalize opd cx env x' = px at rx he
  generalize opd cx env y' = py at ry he hnew
  generalize hvx : a.eval x = vx at rx
  generalize hvy : a.eval y = vy at ry
  have hrun : ∀ {r : Value} {w' : World}, (Builtin.append_ c.argTypes o.type #[vx, vy]).run P w = .ok r w' → (execOp a.eval o).run P w = .ok (.value r) w' := by
    intro r w' h
    rw [run_builtin ho hb]
    simp [ha, hvx, hvy, builtin, h]
  have nothing : new = [] → ∀ {pv : PV} {ad : Option Addr} {n c' : Nat}, vx = .slice ad n c' → n ≤ c' → Rep w (Xof H R) R pv vx → OpOK P o a w R H ⟨pv, [], ids⟩ := by
    rintro rfl pv ad n c' rfl hn hr
    have hR := rowsIn_rep (P := P) hH hnew (by rfl) ry
    obtain ⟨arr, f1, f2, _⟩ := hR.first 0 (Nat.le_refl _)
    have harr : arr = #[] := by
      have : arr.size = 0 := by rw [f2]; simp
      simpa using this
    subst harr
    have := run_app_in (P := P) (w := w) (ty := o.type) (base := ad) (len := n) (c := c') (x := vy) (n := 0) h0 ht hi h1 hu (hR.len w) (f1 w rfl) (by omega)
    refine OpOK.pure hH (hrun (r := .slice ad n c') ?_) hr
    rw [this]
    cases ad <;> simp [storeCells]
  have grown : ∀ {rows : List (List PV)} {ad : Option Addr} {n c' : Nat}, vx = .slice ad n c' → n = rows.length → (∃ old : Array Value, (∀ w' : World, w'.heap = w.heap → (Builtin.firstCells i.size n vx).run P w' = .ok old w') ∧ old.size = n * i.size ∧ RowsAt w (Xof H R) old 0 i.size rows) →
      szOK i.size new = true → c' < n + new.length → (n + new.length) * i.bytes ≤ 140737488355328 →
      ∃ (cur' : Array Value) (cap : Nat), (execOp a.eval o).run P w = .ok (.value (.slice (some ⟨w.heap.size, 0, none⟩) (n + new.length) cap)) (pushed w (.cells cur' el) 1) ∧ n + new.length ≤ cap ∧
        cap * i.size ≤ cur'.size ∧ RowsAt w (Xof H R) cur' 0 i.size (rows ++ new) := by
    rintro rows ad n c' rfl hn ⟨old, o1, o2, o3⟩ hz' hlt h47
    have hR := rowsIn_rep (P := P) hH hnew hz' ry
    obtain ⟨arr, f1, f2, f3⟩ := hR.first new.length (Nat.le_refl _)
    have h := run_app_grow (P := P) (w := w) (ty := o.type) (base := ad) (len := n) (c := c') (x := vy) (n := new.length) h0 ht hi hz h1 hu (hR.len w) (f1 w.drew rfl) (o1 w.drew rfl) hlt hb0 h47
    refine ⟨_, _, hrun h, grownCap_ge w _ _ _, ?_, ?_⟩
    · have := grownCap_ge w (n + new.length) c' el
      simp only [Array.size_append, size_zeroCells, o2, f2, hzs]
      rw [← Nat.add_mul, ← Nat.add_mul]
      exact Nat.mul_le_mul_right _ (by omega)
    · refine RowsAt.head (RowsAt.append o3 (by rw [o2, hn]) ?_)
      rwa [List.take_length] at f3
  split at he
  ·
    cases rx with
    | nul _ ad =>
      split at he
      · cases he
        exact nothing rfl rfl (Nat.le_refl _) (.nul _ _)
      · rename_i hne
        split at he <;> first | (cases he; done) | skip
        rename_i h47
        split at he <;> cases he
        rename_i hid hz'
        have hpos : 0 < new.length := List.length_pos_iff.2 hne
        obtain ⟨cur', cap, g1, g2, g3, g4⟩ := grown (rows := []) (ad := ad) (n := 0) (c' := 0) rfl rfl
          (by obtain ⟨old, o1, o2, o3⟩ := (reads_empty (P := P) (w := w) (X := Xof H R) (esz := i.size) (ad := ad) (c := 0)).first 0 (Nat.le_refl _); exact ⟨old, o1, o2, o3⟩) hz' (by omega) (by simpa using h47)
        obtain ⟨R', hp⟩ := post_arr0 (w := w) (R := R) (rd := ids) (n := 1) (et := el) (sz := i.size) (c := cap) (rows := new) (arr := cur') hH hid (by omega) g3 (fun X' hS => by
          have g4' : RowsAt w (Xof H R) cur' 0 i.size new := by simpa using g4
          exact g4'.mono (Grow.refl w _) (fun k hk hn hX => by rcases hS.sub k hX with h | h; exact hn h; omega))
        simp only [Nat.zero_add] at g1
        exact OpOK.of_run g1 hp
  ·
    split at he <;> cases he
    cases rx with
    | ro0 _ ad c' => exact nothing rfl rfl (Nat.zero_le _) (.ro0 _ _ _)
    | ro _ k o' sz rows c' vs hk hs hl hz' hc hr => exact nothing rfl rfl hl (.ro _ k o' sz _ c' vs hk hs hl hz' hc hr)
  ·
    rename_i b off len cl
    split at he <;> first | (cases he; done) | skip
    rename_i sz rows hg
    split at he <;> first | (cases he; done) | skip
    rename_i hchk
    simp only [Bool.and_eq_true] at hchk
    obtain ⟨⟨k1, k2⟩, hz'⟩ := hchk
    have hcl := nbeq_iff.1 k1
    have hsz := nbeq_iff.1 k2
    subst hsz
    have hvo : validO H b cl = true := by unfold validO; rw [hg]; exact k1
    obtain ⟨r, hr, hrcl, hbx, hcase⟩ := own_real hH hvo rx
    have hR := rowsIn_rep (P := P) hH hnew hz' ry
    obtain ⟨arr, f1, f2, f3⟩ := hR.first new.length (Nat.le_refl _)
    rw [List.take_length] at f3
    have inplace : ∀ (k base c' : Nat) (cs : Array Value) (et : TypeId) (fr : Nat × Nat), r.blk = some (k, base) → vx = .slice (some ⟨k, base + off * r.sz, none⟩) len c' → w.heap[k]? = some (.cells cs et fr) →
        off + len ≤ cl → cl ≤ off + c' → base + (off + c') * r.sz ≤ cs.size → len + new.length ≤ c' → (off + len + new.length ≤ cl ∨ off + len = cl) →
        OpOK P o a w R H ⟨.own b off (len + new.length) (rows.take (off + len) ++ new ++ rows.drop (off + len + new.length)).length, [(b, .arr i.size (rows.take (off + len) ++ new ++ rows.drop (off + len + new.length)))], ids⟩ := by
      intro k base c' cs et fr hk hvx' hw b1 b3 b4 hfit hwhere
      obtain ⟨a1, a2, a3, cs', et', hw', a4, a5⟩ := arr_real hH hg hr hk
      rw [hw] at hw'; cases hw'
      have hb' : base + (off + len + new.length) * i.size ≤ cs.size := by
        rw [a3] at b4
        have := Nat.mul_le_mul_right i.size (show off + len + new.length ≤ off + c' by omega)
        omega
      have hrows := putRow_rows a5 f3 f2 (p := off + len) (by omega) hb'
      have hone := f3.ones f2
      have hfits : base + (off + len) * i.size + arr.toList.length ≤ cs.size := by
        rw [Nat.add_mul (off + len)] at hb'
        simp; omega
      have hpl : (rows.take (off + len) ++ new ++ rows.drop (off + len + new.length)).length = max rows.length (off + len + new.length) := by
        simp; omega
      obtain ⟨q1, q2, q3, q4⟩ := arr_write hH hg hr hk hw (cur' := putRow cs (base + (off + len) * i.size) arr.toList) (putRow_size hfits) (by rw [hpl]; omega) (by
        rw [hpl]
        rcases hwhere with h | h
        · rw [Nat.max_eq_left (by omega)]; exact a4
        · rw [Nat.max_eq_right (by omega)]; exact hb') hrows
      have hrun1 := run_app_in (P := P) (w := w) (ty := o.type) (base := some ⟨k, base + off * r.sz, none⟩) (len := len) (c := c') (x := vy) (n := new.length) h0 ht hi h1 hu (hR.len w) (f1 w rfl) hfit
      have hst := run_storeCells_at (P := P) k (base + (off + len) * i.size) el arr.toList 0
      have hst := run_storeCells_at (P := P) k (base + (off + len) * i.size) et arr.toList 0 cs w hw (by omega) hone
      have hrun2 := hrun (r := .slice (some ⟨k, base + off * r.sz, none⟩) (len + new.length) c') (w' := w.setRow k (putRow cs (base + (off + len) * i.size) arr.toList)) (by
        rw [hvx', hrun1]
        simp only [add_none]
        rw [show base + off * r.sz + len * i.size = base + (off + len) * i.size by rw [a3, Nat.add_mul]; omega]
        simp only [Nat.add_zero] at hst
        rw [hst]
        rfl)
      refine OpOK.of_run hrun2 ⟨q1, q2, q3, q4, ?_⟩
      exact .own _ b { r with cl := (rows.take (off + len) ++ new ++ rows.drop (off + len + new.length)).length } k base off (len + new.length) _ c' (putRow cs (base + (off + len) * i.size) arr.toList) et (0, 0) (upR_same R b _) a1 rfl hk (by rw [hpl]; omega) hfit (by rw [hpl]; omega) (setRow_same hw) (by
        rw [putRow_size hfits]; exact b4)
    by_cases hnew0 : new = []
    · have hsame : rows.take (off + len) ++ new ++ rows.drop (off + len + new.length) = rows := by subst hnew0; simp
      have hle : off + len + new.length ≤ cl := by
        subst hnew0
        rcases hcase with ⟨k, base, c', cs, et, fr, hk, b1, b2, b3, hw, b4, rfl⟩ | ⟨rfl, rfl, ad, rfl⟩ <;> simp <;> omega
      rw [if_pos hle] at he
      cases he
      obtain ⟨ad, c', hvx'⟩ := own_len hH hvo rx
      have hn2 : len ≤ c' := by
        rcases hcase with ⟨k, base, c2, cs, et, fr, hk, b1, b2, b3, hw, b4, h⟩ | ⟨_, rfl, ad2, h⟩
        · rw [hvx'] at h; cases h; exact b2
        · exact Nat.zero_le _
      have := nothing hnew0 hvx' hn2 rx
      have hlen0 : len + new.length = len := by subst hnew0; rfl
      rw [hsame, hlen0]
      exact this.congr fun j => (hget_hset_self hg j).symm
    · have hpos : 0 < new.length := List.length_pos_iff.2 hnew0
      split at he
      · rename_i hle
        cases he
        rcases hcase with ⟨k, base, c', cs, et, fr, hk, b1, b2, b3, hw, b4, hv⟩ | ⟨rfl, rfl, ad, rfl⟩
        · have := inplace k base c' cs et fr hk hv hw b1 b3 b4 (by omega) (.inl hle)
          rwa [show (rows.take (off + len) ++ new ++ rows.drop (off + len + new.length)).length = cl by rw [take_mid (by omega) (by omega)]; exact hcl] at this
        · omega
      · rename_i hle
        split at he <;> first | (cases he; done) | skip
        rename_i e1 e2
        split at he <;> cases he
        rename_i h47
        have hoff := nbeq_iff.1 e1
        have hlen := nbeq_iff.1 e2
        subst hoff
        obtain ⟨ad, c', hvx'⟩ := own_len hH hvo rx
        have hrl : rows.length = len := by omega
        by_cases hc' : len + new.length ≤ c'
        · rcases hcase with ⟨k, base, c2, cs, et, fr, hk, b1, b2, b3, hw, b4, hv⟩ | ⟨_, hl0, ad2, hv⟩
          · rw [hvx'] at hv
            cases hv
            have := inplace k base c' cs et fr hk hvx' hw b1 b3 b4 hc' (.inr (by omega))
            have hsame : rows.take (0 + len) ++ new ++ rows.drop (0 + len + new.length) = rows ++ new := by
              rw [List.take_of_length_le (by omega), List.drop_eq_nil_of_le (by omega), List.append_nil]
            rw [hsame, List.length_append, hrl] at this
            exact this
          · rw [hvx'] at hv; cases hv; omega
        · have hzr : szOK i.size rows = true := by
            obtain ⟨r', q1, _, _, q0, q2 | ⟨k', base', cs, et, q2, q3, q4, q5⟩⟩ := hH.has b _ hg
            · rw [q2.2]; rfl
            · rw [q0] at q5; exact szOK_of q5.1
          have hself : rowsIn H i.size (.own b 0 len cl) = some (rows, [b]) := by
            simp only [rowsIn, hg, k1, nbeq_iff.2 rfl]
            rw [List.drop_zero, List.take_of_length_le (by omega)]
          have hRs := rowsIn_rep (P := P) hH hself hzr rx
          obtain ⟨cur', cap, g1, g2, g3, g4⟩ := grown (rows := rows) (ad := ad) (n := len) (c' := c') hvx' hrl.symm (by
            obtain ⟨old, o1, o2, o3⟩ := hRs.first len (by omega)
            rw [List.take_of_length_le (by omega)] at o3
            exact ⟨old, o1, o2, o3⟩) hz' (by omega) h47
          have hcap : (rows ++ new).length * i.size ≤ cur'.size := by
            rw [List.length_append, hrl]
            exact Nat.le_trans (Nat.mul_le_mul_right _ g2) g3
          obtain ⟨m1, m2, m3, m4⟩ := arr_move (et := el) (n := 1) hH hg hr (rows' := rows ++ new) (by simp; omega) hcap g4
          refine OpOK.of_run g1 ⟨m1, m2, m3, m4, ?_⟩
          have := Rep.own (w := pushed w (.cells cur' el) 1) (X := Xof (hset H b (.arr i.size (rows ++ new))) (upR R b { r with cl := (rows ++ new).length, blk := some (w.heap.size, 0) })) _ b { r with cl := (rows ++ new).length, blk := some (w.heap.size, 0) } w.heap.size 0 0 (len + new.length) (len + new.length) cap cur' el (0, 0)
            (upR_same R b _) hbx (by show (rows ++ new).length = _; rw [List.length_append, hrl]) rfl (by omega) g2 (by omega) pushed_new (by
              obtain ⟨r', q1, _, _, q0, _⟩ := hH.has b _ hg
              rw [hr] at q1; cases q1
              show 0 + (0 + cap) * r.sz ≤ _
              rw [q0]; simpa using g3)
          rw [show 0 + 0 * (RB.sz _) = 0 by simp] at this
          exact this
  · cases he
theorem ok_copy (hH : HRel w R H) (hE : ERel w R H env a.tmps) (hG : GlobOK cx gs w (Xof H R)) {o : Oper} {c : Call} {x y : Operand} {t el : TypeId} {x' y' : Opd} {esz : Nat} {e : Eff}
    (ho : o.op = .call c) (hb : c.callee = .builtin .copy) (ha : c.args = #[x, y]) (h0 : c.argTypes[0]? = some t) (ht : P.underlying t = some (.slice el)) (hs : tySize P el = some esz)
    (hx : mOpd gs x x' = true) (hy : mOpd gs y y' = true)
    (he : evOp cx env H (.copy esz x' y') = some e) : OpOK P o a w R H e := by
  have rx := opd_rep hE hG hx
  have ry := opd_rep hE hG hy
  simp only [evOp] at he
  generalize opd cx env x' = px at rx he
  generalize opd cx env y' = py at ry he
  split at he <;> first | (cases he; done) | skip
  rename_i new ids hnew
  have hz' : szOK esz new = true := by
    split at he
    · split at he <;> first | (cases he; done) | assumption
    · split at he <;> first | (cases he; done) | skip
      split at he <;> cases he
      rename_i hchk
      simp only [Bool.and_eq_true] at hchk
      exact hchk.2
    · cases he
  have hR := rowsIn_rep (P := P) hH hnew hz' ry
  generalize hvx : a.eval x = vx at rx
  generalize hvy : a.eval y = vy at ry hR
  have hrun : ∀ {r : Value} {w' : World}, (Builtin.copy_ c.argTypes o.type #[vx, vy]).run P w = .ok r w' → (execOp a.eval o).run P w = .ok (.value r) w' := by
    intro r w' h
    rw [run_builtin ho hb]
    simp [ha, hvx, hvy, builtin, h]
  have key : ∀ {ad : Option Addr} {len c' : Nat} {arr : Array Value}, vx = .slice ad len c' → (Builtin.firstCells esz (min new.length len) vy).run P w = .ok arr w →
      (Builtin.copy_ c.argTypes o.type #[vx, vy]).run P w = match ad with
        | none => .ok (.int .i64 (min new.length len : Nat)) w
        | some a => ((storeCells a arr.toList).run P w).andThen fun _ w' => .ok (.int .i64 (min new.length len : Nat)) w' := by
    rintro ad len c' arr rfl hf
    cases ad <;> simp [Builtin.copy_, h0, run_underlying ht, run_sizeOf' hs, hR.len w, hf, goInt]
  split at he
  · rw [hz'] at he
    cases he
    cases rx with
    | nul _ ad =>
      obtain ⟨arr, f1, f2, _⟩ := hR.first 0 (Nat.zero_le _)
      have harr : arr = #[] := by
        have : arr.size = 0 := by rw [f2]; simp
        simpa using this
      subst harr
      have := key rfl (arr := #[]) (by simpa using f1 w rfl)
      refine OpOK.pure hH (hrun (r := .int .i64 0) ?_) (.int _ _ _)
      rw [this]
      cases ad <;> simp [storeCells]
  · rename_i b off len cl
    split at he <;> first | (cases he; done) | skip
    rename_i sz rows hg
    split at he <;> cases he
    rename_i hchk
    simp only [Bool.and_eq_true] at hchk
    obtain ⟨⟨k1, k2⟩, _⟩ := hchk
    have hcl := nbeq_iff.1 k1
    have hsz := nbeq_iff.1 k2
    subst hsz
    have hvo : validO H b cl = true := by unfold validO; rw [hg]; exact k1
    obtain ⟨r, hr, hrcl, hbx, hcase⟩ := own_real hH hvo rx
    obtain ⟨arr, f1, f2, f3⟩ := hR.first (min new.length len) (Nat.min_le_left _ _)
    have hln : (new.take (min new.length len)).length = min new.length len := by simp
    rcases hcase with ⟨k, base, c', cs, et, fr, hk, b1, b2, b3, hw, b4, rfl⟩ | ⟨rfl, rfl, ad, rfl⟩
    · obtain ⟨a1, a2, a3, cs', et', hw', a4, a5⟩ := arr_real hH hg hr hk
      rw [hw] at hw'; cases hw'
      have hb' : base + (off + (new.take (min new.length len)).length) * sz ≤ cs.size := by
        rw [hln]
        have := Nat.mul_le_mul_right sz (show off + min new.length len ≤ rows.length by omega)
        omega
      have hrows := putRow_rows a5 f3 (by rw [hln]; exact f2) (p := off) (by omega) hb'
      have hone := f3.ones (by rw [hln]; exact f2)
      rw [hln] at hrows hb'
      have hfits : base + off * sz + arr.toList.length ≤ cs.size := by
        rw [Nat.add_mul off] at hb'
        simp; omega
      have hpl : (rows.take off ++ new.take (min new.length len) ++ rows.drop (off + min new.length len)).length = rows.length := by
        have := take_mid (rows := rows) (new := new.take (min new.length len)) (p := off) (by omega) (by rw [hln]; omega)
        rwa [hln] at this
      obtain ⟨q1, q2, q3, q4⟩ := arr_write hH hg hr hk hw (cur' := putRow cs (base + off * sz) arr.toList) (putRow_size hfits) (by rw [hpl]; exact Nat.le_refl _) (by rw [hpl]; exact a4) hrows
      have hst := run_storeCells_at (P := P) k (base + off * sz) et arr.toList 0 cs w hw (by omega) hone
      simp only [Nat.add_zero] at hst
      refine OpOK.of_run (hrun (r := .int .i64 (min new.length len : Nat)) (w' := w.setRow k (putRow cs (base + off * sz) arr.toList)) ?_) ⟨q1, q2, q3, q4, .int _ _ _⟩
      rw [key rfl (f1 w rfl)]
      simp only [a3]
      rw [hst]
      rfl
    · have e0 : min new.length 0 = 0 := by omega
      simp only [e0] at f1 f2 ⊢
      have harr : arr = #[] := by
        have : arr.size = 0 := by rw [f2]; simp
        simpa using this
      subst harr
      have h := key rfl (arr := #[]) (by rw [e0]; exact f1 w rfl)
      have hp : OpOK P o a w R H ⟨.int .i64 0, [], ids⟩ := by
        refine OpOK.pure hH (hrun (r := .int .i64 0) ?_) (.int _ _ _)
        rw [h]
        cases ad <;> simp [storeCells]
      refine hp.congr fun j => ?_
      simp only [hsets, List.take_zero, Nat.add_zero, List.append_nil, List.take_append_drop]
      exact (hget_hset_self hg j).symm
  · cases he
end
end Go.Ev
namespace Go.Ev
open Go
set_option linter.unusedSectionVars false
set_option linter.unusedSimpArgs false
set_option linter.unusedVariables false
variable [Frame]
section
variable {P : Program} {cx : Cx} {gs : List Nat} {w : World} {R : Refs} {H : Heap} {env : Env} {a : Act}
theorem zeroCells_rows {X : Nat → Prop} {v : Array Value} {z : List PV} (hm : mConstL v.toList z = true) (n : Nat) :
    (Builtin.zeroCells v n).size = n * z.length ∧ RowsAt w X (Builtin.zeroCells v n) 0 z.length (List.replicate n z) := by
  have hc := mConstL_cells (w := w) (X := X) (R := noRefs) hm
  have hzs : v.size = z.length := hc.1.symm
  refine ⟨by rw [size_zeroCells, hzs], fun k row hk => ?_, fun k row j pv hk hj => ?_⟩
  · rw [List.getElem?_replicate] at hk
    split at hk <;> cases hk
    rfl
  · rw [List.getElem?_replicate] at hk
    split at hk <;> cases hk
    rename_i hkl
    have hjl : j < z.length := (List.getElem?_eq_some_iff.1 hj).1
    obtain ⟨u, u1, u2, u3⟩ := hc.2 j pv hj
    refine ⟨u, ?_, u2, u3⟩
    have hk1 : (k + 1) * z.length ≤ n * z.length := Nat.mul_le_mul_right _ (by omega)
    rw [Nat.add_mul] at hk1
    have := zeros_get (zero := v) (n := n * v.size) (i := 0 + k * z.length + j) (by omega) (by rw [hzs]; omega)
    unfold Builtin.zeroCells
    rw [this, Nat.zero_add, hzs, Nat.mul_comm k, Nat.mul_add_mod, Nat.mod_eq_of_lt hjl]
    exact u1
theorem ok_clear (hH : HRel w R H) (hE : ERel w R H env a.tmps) (hG : GlobOK cx gs w (Xof H R)) {o : Oper} {c : Call} {x : Operand} {t el : TypeId} {x' : Opd} {esz : Nat} {z : List PV} {i : TypeInfo} {v : Value} {e : Eff}
    (ho : o.op = .call c) (hb : c.callee = .builtin .clear) (ha : c.args = #[x]) (h0 : c.argTypes[0]? = some t) (ht : P.underlying t = some (.slice el)) (hi : P.info? el = some i) (hz : i.zero = some v)
    (hm : mConstL v.cells.toList z = true) (hx : mOpd gs x x' = true) (he : evOp cx env H (.clear esz z x') = some e) : OpOK P o a w R H e := by
  have rx := opd_rep hE hG hx
  simp only [evOp] at he
  generalize opd cx env x' = px at rx he
  generalize hvx : a.eval x = vx at rx
  have hrun : ∀ {r : Value} {w' : World}, (Builtin.clear_ c.argTypes o.type #[vx]).run P w = .ok r w' → (execOp a.eval o).run P w = .ok (.value r) w' := by
    intro r w' h
    rw [run_builtin ho hb]
    simp [ha, hvx, builtin, h]
  have none_ : ∀ {ad : Option Addr} {c' : Nat}, vx = .slice ad 0 c' → (Builtin.clear_ c.argTypes o.type #[vx]).run P w = .ok (.tuple #[]) w := by
    rintro ad c' rfl
    cases ad <;> simp [Builtin.clear_, h0, run_underlying ht]
  have rt : ∀ {w' : World} {X : Nat → Prop} {R : Refs}, Rep w' X R (.tuple []) (.tuple #[]) := .tuple _ [] #[] rfl (fun i pv v hp => by simp at hp)
  split at he
  · cases he
    cases rx with
    | nul _ ad => exact OpOK.pure hH (hrun (none_ rfl)) rt
  · rename_i b off len cl
    split at he <;> first | (cases he; done) | skip
    rename_i sz rows hg
    split at he <;> cases he
    rename_i hchk
    simp only [Bool.and_eq_true] at hchk
    obtain ⟨⟨k1, k2⟩, k3⟩ := hchk
    have hcl := nbeq_iff.1 k1
    have hsz := nbeq_iff.1 k2
    have hzl := nbeq_iff.1 k3
    subst hsz
    have hvo : validO H b cl = true := by unfold validO; rw [hg]; exact k1
    obtain ⟨r, hr, hrcl, hbx, hcase⟩ := own_real hH hvo rx
    have hsame0 : len = 0 → rows.take off ++ List.replicate len z ++ rows.drop (off + len) = rows := by rintro rfl; simp
    by_cases hl0 : len = 0
    · have : ∃ ad c', vx = .slice ad 0 c' := by
        obtain ⟨ad, c', h⟩ := own_len hH hvo rx
        exact ⟨ad, c', by rw [h, hl0]⟩
      obtain ⟨ad, c', hv⟩ := this
      have hp : OpOK P o a w R H ⟨.tuple [], [], []⟩ := OpOK.pure hH (hrun (none_ hv)) rt
      rw [hsame0 hl0]
      exact hp.congr fun j => (hget_hset_self hg j).symm
    · rcases hcase with ⟨k, base, c', cs, et, fr, hk, b1, b2, b3, hw, b4, rfl⟩ | ⟨rfl, rfl, ad, rfl⟩
      · obtain ⟨a1, a2, a3, cs', et', hw', a4, a5⟩ := arr_real hH hg hr hk
        rw [hw] at hw'; cases hw'
        obtain ⟨s1, s2⟩ := zeroCells_rows (w := w) (X := Xof H R) hm len
        rw [hzl] at s1 s2
        have hb' : base + (off + (List.replicate len z).length) * sz ≤ cs.size := by
          rw [List.length_replicate]
          have := Nat.mul_le_mul_right sz (show off + len ≤ rows.length by omega)
          omega
        have hrows := putRow_rows a5 s2 (by rw [List.length_replicate]; exact s1) (p := off) (by omega) hb'
        have hone := s2.ones (by rw [List.length_replicate]; exact s1)
        rw [List.length_replicate] at hrows hb'
        have hfits : base + off * sz + (Builtin.zeroCells v.cells len).toList.length ≤ cs.size := by
          rw [Nat.add_mul off] at hb'
          simp only [Array.length_toList, s1]; omega
        have hpl : (rows.take off ++ List.replicate len z ++ rows.drop (off + len)).length = rows.length := by
          have := take_mid (rows := rows) (new := List.replicate len z) (p := off) (by omega) (by rw [List.length_replicate]; omega)
          rwa [List.length_replicate] at this
        obtain ⟨q1, q2, q3, q4⟩ := arr_write hH hg hr hk hw (cur' := putRow cs (base + off * sz) (Builtin.zeroCells v.cells len).toList) (putRow_size hfits) (by rw [hpl]; exact Nat.le_refl _) (by rw [hpl]; exact a4) hrows
        have hst := run_storeCells_at (P := P) k (base + off * sz) et (Builtin.zeroCells v.cells len).toList 0 cs w hw (by omega) hone
        simp only [Nat.add_zero] at hst
        refine OpOK.of_run (hrun (r := .tuple #[]) (w' := w.setRow k (putRow cs (base + off * sz) (Builtin.zeroCells v.cells len).toList)) ?_) ⟨q1, q2, q3, q4, rt⟩
        cases len with
        | zero => exact absurd rfl hl0
        | succ len =>
          simp only [a3]
          simp [Builtin.clear_, h0, run_underlying ht, zeroValue, typeInfo, hi, hz, hst, putRow]
      · exact absurd rfl hl0
  · cases he
theorem frees_in : ∀ {ids : List Nat} {u : List (Nat × Blk)}, frees H ids = some u → ∀ p ∈ u, p.1 ∈ ids
  | [], u, h, p, hp => by simp [frees] at h; subst h; cases hp
  | i :: r, u, h, p, hp => by
    simp only [frees] at h
    split at h <;> first | (cases h; done) | skip
    · rename_i sz rows u' hi hr
      cases h
      cases hp with
      | head => exact .head _
      | tail _ hp => exact .tail _ (frees_in hr p hp)
    · rename_i sz rows u' hi hr
      cases h
      exact .tail _ (frees_in hr p hp)
theorem putRow_elt {X : Nat → Prop} {cur arr : Array Value} {base sz i j : Nat} {rows : List (List PV)} {row cs : List PV} (h : RowsAt w X cur base sz rows) (hi : rows[i]? = some row) (hc : CellsAt w X noRefs cs arr)
    (hj : j + cs.length ≤ row.length) (hb : base + rows.length * sz ≤ cur.size) :
    base + i * sz + j + arr.toList.length ≤ cur.size ∧ RowsAt w X (putRow cur (base + i * sz + j) arr.toList) base sz (rows.set i (splice row j cs)) := by
  have hil : i < rows.length := (List.getElem?_eq_some_iff.1 hi).1
  have hrl : row.length = sz := h.1 i row hi
  have h1 := Nat.mul_le_mul_right sz (show i + 1 ≤ rows.length by omega)
  rw [Nat.add_mul] at h1
  have hfit : base + i * sz + j + arr.toList.length ≤ cur.size := by
    have := hc.1
    simp; omega
  refine ⟨hfit, fun q rw' hq => ?_, fun q rw' p pv hq hp => ?_⟩
  · rw [List.getElem?_set] at hq
    split at hq
    · cases hq
      rw [splice_len hj]; exact hrl
    · exact h.1 q rw' hq
  · rw [putRow_get hfit]
    simp only [Array.length_toList, ← hc.1]
    rw [List.getElem?_set] at hq
    split at hq
    · rename_i e
      subst e
      cases hq
      rw [splice_get p hj] at hp
      by_cases hin : j ≤ p ∧ p < j + cs.length
      · rw [if_pos hin] at hp
        obtain ⟨u, u1, u2, u3⟩ := hc.2 _ pv hp
        refine ⟨u, ?_, u2, u3⟩
        rw [if_pos (by omega), show base + i * sz + p - (base + i * sz + j) = p - j by omega]
        simpa using u1
      · rw [if_neg hin] at hp
        obtain ⟨u, u1, u2, u3⟩ := h.2 i row p pv hi hp
        refine ⟨u, ?_, u2, u3⟩
        rw [if_neg (by omega)]
        exact u1
    · rename_i hne
      obtain ⟨u, u1, u2, u3⟩ := h.2 q rw' p pv hq hp
      refine ⟨u, ?_, u2, u3⟩
      have hpl : p < sz := by rw [← h.1 q rw' hq]; exact (List.getElem?_eq_some_iff.1 hp).1
      rw [if_neg ?_]
      · exact u1
      · rintro ⟨c1, c2⟩
        rcases Nat.lt_or_ge q i with hlt | hge
        · have := Nat.mul_le_mul_right sz (show q + 1 ≤ i by omega)
          rw [Nat.add_mul] at this; omega
        · have := Nat.mul_le_mul_right sz (show i + 1 ≤ q by omega)
          rw [Nat.add_mul] at this; omega
theorem ok_store (hH : HRel w R H) (hE : ERel w R H env a.tmps) (hG : GlobOK cx gs w (Xof H R)) {o : Oper} {t : TypeId} {x y : Operand} {x' y' : Opd} {sz : Nat} {e : Eff}
    (ho : o.op = .store t x y) (hsz : tySize P t = some sz) (hx : mOpd gs x x' = true) (hy : mOpd gs y y' = true) (hdst : o.dst = none)
    (he : evOp cx env H (.store sz x' y') = some e) : OpOK P o a w R H e := by
  simp only [evOp] at he
  split at he
  · rename_i id j hp
    split at he <;> first | (cases he; done) | skip
    rename_i cells hg
    split at he <;> first | (cases he; done) | skip
    rename_i cs hc
    split at he <;> cases he
    rename_i b1 b2
    obtain ⟨w', R', h1, h2⟩ := ok_storeBox hH hE hG ho hsz hx hy hdst hp hg hc (nbeq_iff.1 b1) (Nat.le_of_ble_eq_true b2)
    exact OpOK.of_skip h1 h2
  · rename_i id i j cl hp
    split at he <;> first | (cases he; done) | skip
    rename_i esz rows hg
    split at he <;> first | (cases he; done) | skip
    rename_i row cs ids hcl hrow hro
    split at he <;> cases he
    rename_i fr hfr hm b1 b2
    have hcl := nbeq_iff.1 hcl
    have hcs := nbeq_iff.1 b1
    have hjl := Nat.le_of_ble_eq_true b2
    have rx := opd_rep hE hG hx
    have ry := opd_rep hE hG hy
    rw [hp] at rx
    generalize hv : a.eval x = v at rx
    obtain ⟨m1, m2⟩ := rowOf_rep hH hro ry
    have hk := frees_keys hfr
    obtain ⟨f1, f2, f3, f4, f5⟩ := hH.freezeAll (u := fr) (fun p hp => by obtain ⟨z', rows', e1, e2⟩ := hk p hp; exact ⟨z', rows', e1, .inl e2⟩)
    have f2' : ∀ k, Own (hsets fr H) R k → Own H R k := fun k hk => (f2 k (.inr hk)).resolve_left (by
      obtain ⟨i, b, r, o, h1, h2, h3, h4⟩ := hk
      exact f1.off i b r k o h1 (live_dead h2) h3 h4)
    have hidf : ∀ p ∈ fr, p.1 ≠ id := fun p hp e => memN_false hm (by rw [← e]; exact frees_in hfr p hp)
    have hg1 : hget (hsets fr H) id = some (.arr esz rows) := by rw [f4 id hidf]; exact hg
    have hfz : ∀ i ∈ ids, ∃ z rows, hget (hsets fr H) i = some (.froz z rows) := by
      intro i hi
      obtain ⟨z', rows', h1 | h1⟩ := frees_all hfr i hi
      · exact ⟨z', rows', f3 _ h1.2⟩
      · exact ⟨z', rows', f5 i z' rows' h1⟩
    have hca := m2 (Xof (hsets fr H) R) (shown_frozen f1 (fun k hk => .inl (f2 k hk)) (fun k _ hk => hk) hfz)
    cases rx with
    | eptr _ _ b k base _ _ _ hr hb hbl hbk =>
      obtain ⟨a1, a2, a3, cur, et, hw, a4, a5⟩ := arr_real f1 hg1 hr hbk
      obtain ⟨hfit, hrows⟩ := putRow_elt (j := j) a5 hrow hca (by omega) a4
      have hone : ∀ u ∈ (a.eval y).cells.toList, u.oneCell' = true := by
        intro u hu
        obtain ⟨q, hq, rfl⟩ := List.getElem_of_mem hu
        simp at hq
        obtain ⟨u', q1, q2, _⟩ := hca.2 q cs[q] (List.getElem?_eq_getElem (by omega))
        rw [Array.getElem?_eq_getElem hq] at q1
        cases q1
        simpa using q2
      have hst := run_storeVar_at (P := P) (k := k) (off := base + i * esz + j) (t := t) (v := a.eval y) hw hsz (by omega) (by rw [Array.length_toList, m1, hcs] at hfit; exact hfit) hone
      have hrun : (execOp a.eval o).run P w = .ok .skip (w.setRow k (putRow cur (base + i * esz + j) (a.eval y).cells.toList)) := by
        rw [a3] at hv
        simp [execOp, ho, hv, Instr.storeAt, Instr.sureAddr, hst]
      have hsl : (rows.set i (splice row j cs)).length = rows.length := by simp
      obtain ⟨q1, q2, q3, q4⟩ := arr_write f1 hg1 hr hbk hw (cur' := putRow cur (base + i * esz + j) (a.eval y).cells.toList) (putRow_size hfit) (by rw [hsl]; exact Nat.le_refl _) (by rw [hsl]; exact a4) hrows
      have hcong : ∀ q, hget (hset (hsets fr H) id (.arr esz (rows.set i (splice row j cs)))) q = hget (hsets ((id, .arr esz (rows.set i (splice row j cs))) :: fr) H) q := by
        intro q
        simp only [hsets]
        rw [hget_hsets_hset fr hidf q, hget_hset]
      refine OpOK.of_skip hrun ⟨q1.congr hcong, q2, q3.mono f2', fun k hk hn hx => q4 k hk (fun h => hn (f2 k h)) ((Xof_congr hcong k).2 hx), .undef _⟩
    | eptrS _ _ b _ _ _ _ hr hb hbl h1 =>
      obtain ⟨r', q1, _, q2, _⟩ := hH.has id _ hg
      rw [hr] at q1; cases q1
      omega
  · cases he
theorem ok_rng (hH : HRel w R H) (hE : ERel w R H env a.tmps) (hG : GlobOK cx gs w (Xof H R)) {o : Oper} {t : TypeId} {x : Operand} {x' : Opd} {id : Nat} {e : Eff}
    (ho : o.op = .range t x) (ht : P.underlying t = some .string) (hx : mOpd gs x x' = true) (he : evOp cx env H (.rng id x') = some e) : OpOK P o a w R H e := by
  have rx := opd_rep hE hG hx
  simp only [evOp] at he
  generalize opd cx env x' = px at rx he
  generalize hvx : a.eval x = vx at rx
  split at he <;> cases he
  rename_i s hid
  cases rx with
  | str _ _ =>
    let r : RB := ⟨true, some (w.heap.size, 0), 0, 1⟩
    have hG' : ∀ X, Grow w X (pushed w (.stringIter ⟨s.toArray⟩ 0) 0) := fun X => Grow.pushed _ _ rfl
    obtain ⟨q1, q2⟩ := hH.alloc hid r (.iter s 0) (hG' _) (fun k hk => pushed_old hk) 0 rfl ⟨rfl, w.heap.size, rfl, pushed_new⟩
    refine OpOK.of_run (v := .pointer (some ⟨w.heap.size, 0, none⟩)) (w' := pushed w (.stringIter ⟨s.toArray⟩ 0) 0) ?_ ⟨q1, RExt.new (hH.dom id hid) r, hG' _, q2, .ptr _ id r w.heap.size 0 0 (upR_same R id r) rfl rfl⟩
    have := run_range_string (P := P) w t ⟨s.toArray⟩ ht
    simp [execOp, ho, hvx, this]
    rfl
def putObj (w : World) (k : Nat) (o : Obj) : World := { w with heap := w.heap.setIfInBounds k o }
theorem ok_nxt (hH : HRel w R H) (hE : ERel w R H env a.tmps) (hG : GlobOK cx gs w (Xof H R)) {o : Oper} {x : Operand} {x' : Opd} {e : Eff}
    (ho : o.op = .next x true) (hx : mOpd gs x x' = true) (he : evOp cx env H (.nxt x') = some e) : OpOK P o a w R H e := by
  have rx := opd_rep hE hG hx
  simp only [evOp] at he
  generalize opd cx env x' = px at rx he
  generalize hvx : a.eval x = vx at rx
  split at he <;> first | (cases he; done) | skip
  rename_i id
  split at he <;> first | (cases he; done) | skip
  rename_i s pos hg
  cases rx with
  | ptr _ _ b k base _ hr hb hbk =>
    obtain ⟨r', q1, _, k', q2, hw⟩ := hH.has id _ hg
    rw [hr] at q1; cases q1
    rw [hbk] at q2; cases q2
    have hkl : k < w.heap.size := (Array.getElem?_eq_some_iff.1 hw).1
    have hXk : Own H R k := Xof_live hg rfl hr hbk
    have hsz : (⟨s.toArray⟩ : ByteArray).size = s.length := by simp [ByteArray.size]
    split at he <;> cases he
    · rename_i hlt
      let w' := putObj w k (.stringIter ⟨s.toArray⟩ (pos + (Utf8.decode ⟨s.toArray⟩ pos).2))
      have hnew : w'.heap[k]? = some (.stringIter ⟨s.toArray⟩ (pos + (Utf8.decode ⟨s.toArray⟩ pos).2)) := by simp [w', putObj, hkl]
      have hold : ∀ j, j ≠ k → w'.heap[j]? = w.heap[j]? := fun j hj => by simp [w', putObj, Ne.symm hj]
      have hG' : Grow w (Own H R) w' := by
        refine ⟨by simp [w', putObj], fun j hj hn => hold j fun e => hn (by rw [e]; exact hXk), fun j cs et fr hc => ?_, rfl, rfl, rfl, fun a _ => ?_⟩
        · by_cases e : j = k
          · subst e; rw [hw] at hc; cases hc
          · exact ⟨cs, (hold j e).trans hc, rfl⟩
        · unfold World.frozen?
          by_cases e : a.block = k
          · rw [e, hnew, hw]
          · rw [hold _ e]
      obtain ⟨q1, q2, q3⟩ := hH.write (w' := w') (b := .iter s (pos + (Utf8.decode ⟨s.toArray⟩ pos).2)) (r' := b) hg hr rfl hG'.weak
        (fun j _ hj => hold j fun e => hj 0 (by rw [e]; exact hbk)) (fun k' o h' => .inl ⟨o, h'⟩) (.inl rfl) ⟨hb, k, hbk, hnew⟩
      refine OpOK.of_run (v := .tuple #[.bool true, .int .i64 pos, .int .i32 (Utf8.decode ⟨s.toArray⟩ pos).1]) (w' := w') ?_ ⟨q1, q2, hG', q3, ?_⟩
      · simp [execOp, ho, hvx, Instr.next, getObj, setObj, Sem.run, hw, hsz, hlt, goInt, w', putObj]
      · refine .tuple _ _ _ rfl fun i pv v h1 h2 => ?_
        match i with
        | 0 => simp at h1 h2; subst h1 h2; exact .bool _ _
        | 1 => simp at h1 h2; subst h1 h2; exact .int _ _ _
        | 2 => simp at h1 h2; subst h1 h2; exact .int _ _ _
        | n + 3 => simp at h1
    · rename_i hge
      refine OpOK.pure hH (v := .tuple #[.bool false]) ?_ ?_
      · simp [execOp, ho, hvx, Instr.next, getObj, Sem.run, hw, hsz, hge]
      · refine .tuple _ _ _ rfl fun i pv v h1 h2 => ?_
        match i with
        | 0 => simp at h1 h2; subst h1 h2; exact .bool _ _
        | n + 1 => simp at h1
end
end Go.Ev
namespace Go.Ev
open Go
set_option linter.unusedSectionVars false
set_option linter.unusedSimpArgs false
set_option linter.unusedVariables false
inductive FreshR (w : World) (Z : Nat → Prop) (sz : Nat) (rows : List (List PV)) : Value → List Nat → Prop
  | none (ad : Option Addr) (h : rows = []) : FreshR w Z sz rows (.slice ad 0 0) []
  | some (k base c : Nat) (cs : Array Value) (et : TypeId) (hw : w.heap[k]? = some (.cells cs et (0, 0))) (hc : rows.length ≤ c) (hs : base + c * sz ≤ cs.size) (hr : RowsAt w Z cs base sz rows) :
      FreshR w Z sz rows (.slice (some ⟨k, base, none⟩) rows.length c) [k]
def isBorder : PV → Bool
  | .fresh _ _ | .io _ => true
  | _ => false
inductive CellR (w : World) (Z : Nat → Prop) : PV → Value → List Nat → Prop
  | plain (pv : PV) (v : Value) (hn : isBorder pv = false) (h : Rep w Z noRefs pv v) : CellR w Z pv v []
  | fresh (sz : Nat) (rows : List (List PV)) (v : Value) (ks : List Nat) (h : FreshR w Z sz rows v ks) : CellR w Z (.fresh sz rows) v ks
inductive ListR (w : World) (Z : Nat → Prop) : List PV → List Value → List Nat → Prop
  | nil : ListR w Z [] [] []
  | cons (p : PV) (v : Value) (k1 : List Nat) (ps : List PV) (vs : List Value) (k2 : List Nat) (h : CellR w Z p v k1) (hr : ListR w Z ps vs k2) : ListR w Z (p :: ps) (v :: vs) (k1 ++ k2)
inductive RetR (w : World) (Z : Nat → Prop) : PV → Value → List Nat → Prop
  | one (p : PV) (v : Value) (ks : List Nat) (hn : ∀ vs, p ≠ .tuple vs) (h : CellR w Z p v ks) : RetR w Z p v ks
  | tuple (ps : List PV) (arr : Array Value) (ks : List Nat) (h : ListR w Z ps arr.toList ks) : RetR w Z (.tuple ps) (.tuple arr) ks
def AnsOK (P : Program) (glob : Nat → List PV) (gs : List Nat) (f : FuncId) (args : List PV) (r : PV) : Prop :=
  ∀ (Z : Nat → Prop) (w : World) (vs : Array Value) (ks : List Nat),
    (∀ k, Z k → k < w.heap.size) → (∀ k ∈ ks, Z k) → ks.Nodup → (∀ g ∈ gs, Rep w Z noRefs (.rptr (glob g)) (.pointer (some ⟨g, 0, none⟩))) → ListR w Z args vs.toList ks →
    Calls P f vs w fun e w' => ∃ v, e = .returned v ∧ Grow w (fun k => k ∈ ks) w' ∧
      ∃ (Z' : Nat → Prop) (ks' : List Nat), (∀ k, Z k → k ∉ ks → Z' k) ∧ (∀ k ∈ ks', Z' k ∧ (k ∈ ks ∨ w.heap.size ≤ k)) ∧ (∀ k, Z' k → k < w'.heap.size) ∧ ks'.Nodup ∧ RetR w' Z' r v ks'
def ownFn (P : Program) (f : FuncId) : Bool :=
  match P.funcs[f]? with
  | some fn => fn.body.isSome && !(fn.name == "runtime.NumGoroutine")
  | none => false
def FnOK (P : Program) (glob : Nat → List PV) (gs : List Nat) (call : FuncId → List PV → Option (PV × List (List PV))) (f : FuncId) : Prop :=
  ∀ (args : List PV) (r : PV), call f args = some (r, []) → ownFn P f = true ∧ AnsOK P glob gs f args r
variable [Frame]
theorem FreshR.mono {w w' : World} {Z Z' : Nat → Prop} {sz : Nat} {rows : List (List PV)} {v : Value} {ks : List Nat} (h : FreshR w Z sz rows v ks) (hk : ∀ k ∈ ks, w'.heap[k]? = w.heap[k]?)
    (hG : Grow w Z w') (hX : ∀ k, k < w.heap.size → ¬ Z k → ¬ Z' k) : FreshR w' Z' sz rows v ks := by
  cases h with
  | none ad h => exact .none ad h
  | some k base c cs et hw hc hs hr => exact .some k base c cs et ((hk k (.head _)).trans hw) hc hs (hr.mono hG hX)
theorem hasAll_spec {H : Heap} : ∀ {l : List Nat}, hasAll H l = true → ∀ i ∈ l, ∃ b, hget H i = some b ∧ deadB b = false
  | [], _, i, hi => by cases hi
  | j :: r, h, i, hi => by
    simp only [hasAll] at h
    split at h <;> first | (cases h; done) | skip
    rename_i b hne hj
    cases hi with
    | head => exact ⟨b, hj, by cases b <;> first | rfl | exact absurd rfl hne⟩
    | tail _ hi => exact hasAll_spec h i hi
section
variable {w : World} {R : Refs} {H : Heap}
def ShownK (R : Refs) (ids : List Nat) : Nat → Prop := fun k => ∃ i ∈ ids, ∃ r o, R i = some r ∧ r.blk = some (k, o)
def Zof (H : Heap) (R : Refs) (seen : List Nat) : Nat → Prop := fun k => Xof H R k ∧ ¬ ShownK R seen k
theorem shown_Z (seen : List Nat) : Shown w R H (Zof H R seen) seen :=
  ⟨fun _ hk => .inl hk.1, fun i hi r k o hr hk hx => hx.2 ⟨i, hi, r, o, hr, hk⟩⟩
theorem clo_border {p q : PV} {ids : List Nat} (h : clo H p = some (q, ids)) : isBorder q = false := by
  have h1 : ∀ {p q : PV} {ids : List Nat}, clo1 H p = some (q, ids) → isBorder q = false := by
    intro p q ids h
    unfold clo1 at h
    split at h <;> first | (cases h; done) | (cases h; rfl) | skip
    · split at h <;> first | (cases h; done) | skip
      · split at h <;> cases h; rfl
      · split at h <;> cases h; rfl
    · cases h
      cases p <;> first | rfl | (simp_all; done)
  have hP : ∀ {p q : PV} {ids : List Nat}, cloP H p = some (q, ids) → isBorder q = false := by
    intro p q ids h
    unfold cloP at h
    split at h
    · split at h <;> first | (cases h; done) | skip
      split at h <;> first | (cases h; done) | skip
      split at h <;> cases h
      rfl
    · exact h1 h
  have h2 : ∀ {p q : PV} {ids : List Nat}, clo2 H p = some (q, ids) → isBorder q = false := by
    intro p q ids h
    unfold clo2 at h
    split at h
    · cases hl : cloL H ‹_› <;> rw [hl] at h <;> cases h; rfl
    · cases hl : cloPs H ‹_› <;> rw [hl] at h <;> cases h; rfl
    · cases hl : cloL H ‹_› <;> rw [hl] at h <;> cases h; rfl
    · cases hl : clo1 H ‹_› <;> rw [hl] at h <;> cases h; rfl
    · exact hP h
  unfold clo at h
  split at h
  · cases hl : clo2s H ‹_› <;> rw [hl] at h <;> cases h; rfl
  · exact h2 h
inductive KsOf (R : Refs) : List Nat → List Nat → Prop
  | nil : KsOf R [] []
  | skip (i : Nat) (ids ks : List Nat) (h : KsOf R ids ks) : KsOf R (i :: ids) ks
  | take (i : Nat) (ids : List Nat) (r : RB) (k o : Nat) (ks : List Nat) (hr : R i = some r) (hk : r.blk = some (k, o)) (h : KsOf R ids ks) : KsOf R (i :: ids) (k :: ks)
theorem KsOf.append {a b x y : List Nat} (h : KsOf R a x) (h' : KsOf R b y) : KsOf R (a ++ b) (x ++ y) := by
  induction h with
  | nil => exact h'
  | skip i ids ks _ ih => exact .skip i _ _ ih
  | take i ids r k o ks hr hk _ ih => exact .take i _ r k o _ hr hk ih
theorem KsOf.mem {ids ks : List Nat} (h : KsOf R ids ks) : ∀ k ∈ ks, ∃ i ∈ ids, ∃ r o, R i = some r ∧ r.blk = some (k, o) := by
  induction h with
  | nil => intro k hk; cases hk
  | skip i ids ks _ ih => intro k hk; obtain ⟨j, hj, rest⟩ := ih k hk; exact ⟨j, .tail _ hj, rest⟩
  | take i ids r k o ks hr hk _ ih =>
    intro k' hk'
    cases hk' with
    | head => exact ⟨i, .head _, r, o, hr, hk⟩
    | tail _ hk' => obtain ⟨j, hj, rest⟩ := ih k' hk'; exact ⟨j, .tail _ hj, rest⟩
theorem KsOf.nodup (hH : HRel w R H) {ids ks : List Nat} (h : KsOf R ids ks) (hn : ids.Nodup) (hl : ∀ i ∈ ids, ∃ b, hget H i = some b ∧ deadB b = false) : ks.Nodup := by
  induction h with
  | nil => exact List.nodup_nil
  | skip i ids ks _ ih => exact ih (List.nodup_cons.1 hn).2 fun j hj => hl j (.tail _ hj)
  | take i ids r k o ks hr hk h ih =>
    obtain ⟨h1, h2⟩ := List.nodup_cons.1 hn
    refine List.nodup_cons.2 ⟨fun hm => ?_, ih h2 fun j hj => hl j (.tail _ hj)⟩
    obtain ⟨j, hj, r', o', hr', hk'⟩ := h.mem k hm
    obtain ⟨b, hb, hd⟩ := hl i (.head _)
    obtain ⟨b', hb', hd'⟩ := hl j (.tail _ hj)
    have := hH.inj i j b b' r r' k o o' hb hb' hd hd' hr hr' hk hk'
    subst this
    exact h1 hj
theorem RowsAt.sub {Z Z' : Nat → Prop} {cs : Array Value} {base sz : Nat} {rows : List (List PV)} (h : RowsAt w Z cs base sz rows) (hs : ∀ k, Z' k → Z k) : RowsAt w Z' cs base sz rows :=
  h.mono (Grow.refl w _) fun k _ hn hz => hn (hs k hz)
theorem mov1_rep (hH : HRel w R H) {esz : Nat} {p q : PV} {ids : List Nat} {v : Value} {Z : Nat → Prop} (hZ : ∀ k, Z k → Xof H R k) (h : mov1 H esz p = some (q, ids)) (hv : Rep w (Xof H R) R p v) :
    ∃ ks, CellR w Z q v ks ∧ KsOf R ids ks ∧ ∀ i ∈ ids, ∃ sz rows, hget H i = some (.arr sz rows) := by
  unfold mov1 at h
  split at h <;> first | (cases h; done) | skip
  · cases h; cases hv
    exact ⟨[], .fresh _ _ _ _ (.none _ rfl), .nil, fun i hi => by cases hi⟩
  · rename_i id off len cl
    split at h <;> first | (cases h; done) | skip
    rename_i sz rows hg
    split at h <;> cases h
    rename_i hb
    have hcl := nbeq_iff.1 hb
    have hvo : validO H id cl = true := by unfold validO; rw [hg]; exact hb
    have hids : ∀ i ∈ [id], ∃ sz rows, hget H i = some (.arr sz rows) := fun i hi => by
      cases hi with
      | head => exact ⟨_, _, hg⟩
      | tail _ hi => cases hi
    obtain ⟨r, hr, hrcl, hbx, ⟨k, base, c, cs, et, fr, hk, b1, b2, b3, hw, b4, rfl⟩ | ⟨rfl, rfl, ad, rfl⟩⟩ := own_real hH hvo hv
    · obtain ⟨a1, a2, a3, cs', et', hw', a4, a5⟩ := arr_real hH hg hr hk
      rw [hw] at hw'; cases hw'
      subst a3
      have hlen : ((rows.drop off).take len).length = len := by simp; omega
      have hsub : RowsAt w (Xof H R) cs (base + off * r.sz) r.sz ((rows.drop off).take len) := by
        refine ⟨fun i row hi => ?_, fun i row j pv hi hj => ?_⟩
        · rw [List.getElem?_take] at hi
          split at hi
          · rw [List.getElem?_drop] at hi; exact a5.1 _ row hi
          · cases hi
        · rw [List.getElem?_take] at hi
          split at hi
          · rw [List.getElem?_drop] at hi
            obtain ⟨u, u1, u2, u3⟩ := a5.2 _ row j pv hi hj
            refine ⟨u, ?_, u2, u3⟩
            rw [show base + off * r.sz + i * r.sz + j = base + (off + i) * r.sz + j by rw [Nat.add_mul]; omega]
            exact u1
          · cases hi
      refine ⟨[k], .fresh _ _ _ _ ?_, .take id [] r k base [] hr hk .nil, hids⟩
      have := FreshR.some (w := w) (Z := Z) (sz := r.sz) (rows := (rows.drop off).take len) k (base + off * r.sz) c cs et hw (by omega) (by rw [Nat.add_mul] at b4; omega)
        (RowsAt.sub hsub hZ)
      rwa [hlen] at this
    · refine ⟨[], .fresh _ _ _ _ ?_, .skip id [] [] .nil, hids⟩
      simp only [List.take_zero]
      exact .none ad rfl
def plainMode : Mode → Bool
  | .lend _ => false
  | _ => true
def plainModes : List (Mode × Opd) → Bool
  | [] => true
  | (m, _) :: r => match plainMode m with | true => plainModes r | false => false
theorem args_rep (hH : HRel w R H) {ρ : Opd → PV} {seen : List Nat} : ∀ {as : List (Mode × Opd)} {A : Args} {vs : List Value}, plainModes as = true → args1 H ρ as = some A → (∀ i ∈ A.seen, i ∈ seen) → as.length = vs.length →
    (∀ (i : Nat) (m : Mode) (x : Opd) (v : Value), as[i]? = some (m, x) → vs[i]? = some v → Rep w (Xof H R) R (ρ x) v) →
    A.lent = [] ∧ ∃ ks, ListR w (Zof H R seen) A.vs vs ks ∧ KsOf R A.gone ks ∧ (∀ i ∈ A.gone, ∃ sz rows, hget H i = some (.arr sz rows))
  | [], A, vs, _, h, _, hl, _ => by
    simp [args1] at h; subst h
    have : vs = [] := by simpa using hl.symm
    subst this
    exact ⟨rfl, [], .nil, .nil, fun i hi => by cases hi⟩
  | (m, x) :: as, A, [], _, _, _, hl, _ => by simp at hl
  | (m, x) :: as, A, v :: vs, hm, h, hs, hl, hv => by
    simp only [plainModes] at hm
    split at hm <;> first | (cases hm; done) | skip
    rename_i hm1
    simp only [args1] at h
    split at h <;> first | (cases h; done) | skip
    rename_i a1 ha
    split at h <;> cases h
    rename_i b hb
    obtain ⟨hl2, ks, i1, i2, i3⟩ := args_rep hH (seen := seen) hm hb (fun i hi => hs i (List.mem_append_right _ hi)) (by simpa using hl) (fun i m' x' v' h1 h2 => hv (i + 1) m' x' v' (by simpa using h1) (by simpa using h2))
    have hv0 := hv 0 m x v rfl rfl
    cases m with
    | lend szs => cases hm1
    | shut =>
      simp only [arg1] at ha
      cases hc : clo H (ρ x) with
      | none => rw [hc] at ha; cases ha
      | some q =>
        obtain ⟨q, ids⟩ := q
        rw [hc] at ha; cases ha
        refine ⟨by simpa using hl2, ks, ?_, by simpa using i2, by simpa using i3⟩
        exact .cons q v [] _ _ ks (.plain q v (clo_border hc) (clo_rep hH hc ((shown_Z (w := w) (H := H) seen).mono fun i hi => hs i (List.mem_append_left _ hi)) hv0)) i1
    | move esz =>
      simp only [arg1] at ha
      cases hc : mov1 H esz (ρ x) with
      | none => rw [hc] at ha; cases ha
      | some q =>
        obtain ⟨q, ids⟩ := q
        rw [hc] at ha; cases ha
        obtain ⟨k1, j1, j2, j3⟩ := mov1_rep hH (Z := Zof H R seen) (fun _ hk => hk.1) hc hv0
        refine ⟨by simpa using hl2, k1 ++ ks, .cons q v k1 _ _ ks j1 i1, j2.append i2, fun i hi => ?_⟩
        rcases List.mem_append.1 hi with hi | hi
        · exact j3 i hi
        · exact i3 i hi
end
end Go.Ev
