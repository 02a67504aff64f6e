/- Several texts of this proof in one file: E1, E2, E3, E4, E5, E6, E7, E8, E9, E10, E11. -/
import Derived.Below
import Derived.KernelRfl
import Derived.WalkKit
import Derived.Laws.Strings
import Derived.Laws.Slices
import Derived.Laws.Cells
import Derived.Laws.Rows
import Derived.Laws.Tables
import Derived.Laws.MakeOwn
import Derived.Laws.AppendOwnNone
import Derived.Laws.StructEq
import Derived.Deep.Slices
import Derived.MapKept
import Derived.Laws.OwnMore
/- The engine, part 1: abstract values, frames, and the deterministic evaluator over a function's code. No memory, no orders, no tape: what is proved of it in the later parts carries its answers over to every run. -/
set_option linter.unusedVariables false
namespace Go.Proofs.YtbkhmkcmbaffoaaGreatDoor.Eng
open Go

inductive AV where
  | junk
  | und
  | bool (b : Bool)
  | int (k : IntKind) (n : Int)
  | str (s : ByteArray)
  | nilp | nilf | nili | nils | nilm
  | ifc
  | list (sz : Nat) (xs : List AV)
  | own (r : Nat)
  | ownp (r : Nat) (n : Nat)
  | loc (r off : Nat)
  | rloc (r i off : Nat)
  | eptr (cs : List AV) (off : Nat)
  | agg (cs : List AV)
  | tup (vs : List AV)
  | func (fn : Fn) (first captured : List AV)
  | itr (r : Nat)
  | fresh (e : TypeId) (xs : List AV)
  | mref (r : Nat)
  | opq (r : Nat)
  | hold
  | lent (cs : List AV)
  | lmap (kvs : List (ByteArray × AV))
  | lrow (e : TypeId) (xs : List AV)
  | lback (r : AV) (ls : List AV)
  deriving Inhabited

inductive Ob where
  | box (cs : List AV)
  | row (e : TypeId) (xs : List AV) (fz : Bool)
  | it (s : ByteArray) (pos : Nat)
  | map (kvs : List (ByteArray × AV))
  | opq
  | fbox (cs : List AV)
  deriving Inhabited

abbrev Upd := List (Nat × Option Ob)
abbrev New := List (Nat × Ob)

structure Fr where
  sl : List AV
  ob : List (Option Ob)
  deriving Inhabited

inductive Md where
  | keep
  | own (e : TypeId) (fz : Bool)
  | frz
  deriving Inhabited
/-- A cell of a box that holds a row of one's own: the box, the cell, the row's elements, the name under which it is to stand. -/
structure CellRow where
  r : Nat
  i : Nat
  e : TypeId
  t : Nat
structure Dir where
  slots : List (Nat × Md)
  boxes : List Nat
  rows : List CellRow := []
  gate : Bool := false
  deriving Inhabited

structure Cfg where
  P : Program
  kap : FuncId → List AV → Option AV
  fl : FuncId → List Bool
  /-- How a function takes its arguments: 0 as they stay, 1 lent, 2 given. -/
  ln : FuncId → List Nat
  /-- The cells of what is lent that the function does not look at. -/
  hd : FuncId → List Nat
  /-- The names that are lent to this very call. -/
  rs : List Nat
  glob : Nat → Option (List AV)
  dirs : Nat → Option Dir
  k : Nat

def AV.cells : AV → List AV
  | .agg cs => cs
  | v => [v]
def AV.leaf : AV → Bool
  | .agg _ | .tup _ | .junk | .und | .hold | .lent _ | .lmap _ | .lrow .. | .lback .. => false
  | _ => true
/-- A value that has cells of its own. -/
def AV.solid : AV → Bool
  | .tup _ | .junk | .und | .fresh .. | .hold | .lent _ | .lmap _ | .lrow .. | .lback .. => false
  | _ => true
def AV.isFresh : AV → Bool
  | .fresh .. | .lmap _ => true
  | _ => false
def AV.isTup : AV → Bool
  | .tup _ | .lback .. => true
  | _ => false
/-- A leaf that names nothing of the call's own. -/
def AV.pure1 : AV → Bool
  | .agg _ | .tup _ | .junk | .und | .own _ | .ownp .. | .loc .. | .rloc .. | .itr _ | .fresh .. | .mref _ | .opq _ | .hold | .lent _ | .lmap _ | .lrow .. | .lback .. => false
  | _ => true
/-- The names that a value mentions. -/
def AV.name1 : AV → List Nat
  | .own r | .ownp r _ | .loc r _ | .rloc r _ _ | .itr r | .mref r | .opq r => [r]
  | _ => []
def names1 : List AV → List Nat
  | [] => []
  | v :: l => v.name1 ++ names1 l
def AV.names : AV → List Nat
  | .agg cs => names1 cs
  | .tup vs => names1 vs
  | v => v.name1
def namesL : List AV → List Nat
  | [] => []
  | v :: l => v.names ++ namesL l

def ofConst1 : Value → AV
  | .bool b => .bool b
  | .int k n => .int k n
  | .string s => .str s
  | .pointer none => .nilp
  | .slice none 0 0 => .nils
  | .nilFunc => .nilf
  | .nilIface => .nili
  | .map none => .nilm
  | _ => .junk
def ofConst : Value → AV
  | .agg cs => bif cs.toList.all Value.oneCell' then .agg (cs.toList.map ofConst1) else .junk
  | v => ofConst1 v

def Fr.get (fr : Fr) (t : Nat) : AV := fr.sl.getD t .junk
def Fr.obj (fr : Fr) (r : Nat) : Option Ob := fr.ob.getD r none
def Fr.val (C : Cfg) (fr : Fr) : Operand → AV
  | .tmp t => fr.get t
  | .const v => ofConst v
  | .global g => match C.glob g with | some cs => .eptr cs 0 | none => .junk
  | .func f => .func (.func f) [] []

def isAggT (P : Program) (T : TypeId) : Bool :=
  match P.underlying T with
  | some (.struct _) | some (.array ..) => true
  | _ => false
def leaves (P : Program) : Nat → TypeId → List TypeId
  | 0, T => [T]
  | d + 1, T => match P.underlying T with
    | some (.struct fs) => (fs.toList.map fun f => leaves P d f.type).flatten
    | some (.array n e) => (List.replicate n (leaves P d e)).flatten
    | _ => [T]
abbrev leavesT (P : Program) (T : TypeId) : List TypeId := leaves P 8 T
def zeroAV (P : Program) (T : TypeId) : AV :=
  match (P.info? T).bind (·.zero) with
  | some z => ofConst z
  | none => .junk

/-- Is the zero value of a type known, each of its cells a leaf? -/
def zeroOk (P : Program) (T : TypeId) : Bool := (zeroAV P T).solid && (zeroAV P T).cells.all AV.leaf && (zeroAV P T).cells.length == P.cellsOf T

section
variable {β : Type}
/-- A value at a type: taken apart, so that what comes behind knows its make. -/
def cast1 (P : Program) (T : TypeId) (v : AV) (K : AV → Option β) : Option β :=
  match P.underlying T with
  | some .bool => (match v with | .bool b => K (.bool b) | _ => none)
  | some (.int k) => (match v with | .int k' n => bif decide (k' = k) then K (.int k n) else none | _ => none)
  | some .string => (match v with | .str s => K (.str s) | _ => none)
  | some (.slice e) => (match v with
    | .list sz xs => bif sz == P.cellsOf e then K (.list (P.cellsOf e) xs) else none
    | .nils => K .nils
    | .own r => K (.own r)
    | .ownp r n => K (.ownp r n)
    | _ => none)
  | some _ => K v
  | none => none
def castPre (P : Program) : List TypeId → List AV → (List AV → Option β) → Option β
  | [], _, K => K []
  | _ :: _, [], _ => none
  | t :: ts, c :: cs, K => cast1 P t c fun c' => castPre P ts cs fun l => K (c' :: l)
def castAll (P : Program) : List TypeId → List AV → (List AV → Option β) → Option β
  | [], [], K => K []
  | t :: ts, c :: cs, K => cast1 P t c fun c' => castAll P ts cs fun l => K (c' :: l)
  | _, _, _ => none
def castT (P : Program) (T : TypeId) (v : AV) (K : AV → Option β) : Option β :=
  bif isAggT P T then (match v with | .agg cs => castAll P (leavesT P T) cs fun l => K (.agg l) | _ => none) else cast1 P T v K
/-- A value of type T out of cells. -/
def loadT (P : Program) (T : TypeId) (cs : List AV) (K : AV → Option β) : Option β :=
  bif isAggT P T then (bif (leavesT P T).length == P.cellsOf T then castPre P (leavesT P T) cs fun l => K (.agg l) else none)
  else (match cs with | c :: _ => cast1 P T c K | [] => none)

/-- What a value that comes from elsewhere is, by its type. -/
def atBool (v : AV) (K : Bool → Option β) : Option β := match v with | .bool b => K b | _ => none
def atInt (k : IntKind) (v : AV) (K : Int → Option β) : Option β := match v with | .int k' n => bif decide (k' = k) then K n else none | _ => none
def atStr (v : AV) (K : ByteArray → Option β) : Option β := match v with | .str s => K s | _ => none
def atList (sz : Nat) (v : AV) (K : List AV → Option β) : Option β := match v with | .list sz' xs => bif sz' == sz then K xs else none | _ => none
def atAgg (n : Nat) (v : AV) (K : List AV → Option β) : Option β := match v with | .agg cs => bif cs.length == n then K cs else none | _ => none
def cellAt (cs : List AV) (off : Nat) (K : AV → Option β) : Option β := match cs.drop off with | c :: _ => K c | [] => none
def castP1 (P : Program) (T : TypeId) (v : AV) (K : AV → Option β) : Option β :=
  match P.underlying T with
  | some .bool => atBool v fun b => K (.bool b)
  | some (.int k) => atInt k v fun n => K (.int k n)
  | some .string => atStr v fun s => K (.str s)
  | some (.slice e) => atList (P.cellsOf e) v fun xs => K (.list (P.cellsOf e) xs)
  | some _ => K v
  | none => none
def castPreAt (P : Program) : List TypeId → List AV → Nat → (List AV → Option β) → Option β
  | [], _, _, K => K []
  | t :: ts, cs, off, K => cellAt cs off fun c => castP1 P t c fun c' => castPreAt P ts cs (off + 1) fun l => K (c' :: l)
def castTP (P : Program) (T : TypeId) (v : AV) (K : AV → Option β) : Option β :=
  bif isAggT P T then atAgg (leavesT P T).length v fun cs => castPreAt P (leavesT P T) cs 0 fun l => K (.agg l) else castP1 P T v K
def loadTP (P : Program) (T : TypeId) (cs : List AV) (off : Nat) (K : AV → Option β) : Option β :=
  bif isAggT P T then (bif (leavesT P T).length == P.cellsOf T then castPreAt P (leavesT P T) cs off fun l => K (.agg l) else none) else cellAt cs off fun c => castP1 P T c K

/-- What goes out of the call's own hands: rows of its own become lists that stay as they are. -/
def frz1 (P : Program) (σ : Nat → Option Ob) (T : TypeId) (v : AV) (K : AV → Upd → Option β) : Option β :=
  match v with
  | .own r => (match σ r with | some (.row e xs _) => K (.list (P.cellsOf e) xs) [(r, some (.row e xs true))] | _ => none)
  | .ownp r n => (match σ r with | some (.row e xs _) => K (.list (P.cellsOf e) (xs.take n)) [(r, some (.row e xs true))] | _ => none)
  | .nils => (match P.underlying T with | some (.slice e) => K (.list (P.cellsOf e) []) [] | _ => none)
  | .junk | .und | .loc .. | .rloc .. | .itr _ | .tup _ | .fresh .. | .agg _ | .mref _ | .opq _ | .hold | .lent _ | .lmap _ | .lrow .. | .lback .. => none
  | v => K v []
def frzCs (P : Program) (σ : Nat → Option Ob) : List TypeId → List AV → (List AV → Upd → Option β) → Option β
  | [], [], K => K [] []
  | t :: ts, c :: cs, K => frz1 P σ t c fun c' u => frzCs P σ ts cs fun l us => K (c' :: l) (u ++ us)
  | _, _, _ => none
def frz (P : Program) (σ : Nat → Option Ob) (T : TypeId) (v : AV) (K : AV → Upd → Option β) : Option β :=
  bif isAggT P T then (match v with | .agg cs => frzCs P σ (leavesT P T) cs fun l u => K (.agg l) u | _ => none) else frz1 P σ T v K
def frzL (P : Program) (σ : Nat → Option Ob) : List TypeId → List AV → (List AV → Upd → Option β) → Option β
  | [], [], K => K [] []
  | t :: ts, c :: cs, K => frz P σ t c fun c' u => frzL P σ ts cs fun l us => K (c' :: l) (u ++ us)
  | _, _, _ => none

def intOp (op : BinOp) (k : IntKind) (a b : Int) (K : AV → Option β) : Option β :=
  match op with
  | .add => K (.int k (k.wrap (a + b)))
  | .sub => K (.int k (k.wrap (a - b)))
  | .mul => K (.int k (k.wrap (a * b)))
  | .quo => bif decide (b = 0) then none else K (.int k (k.wrap (a.tdiv b)))
  | .rem => bif decide (b = 0) then none else K (.int k (a.tmod b))
  | .and => K (.int k (k.wrap (BitVec.ofInt k.bits a &&& BitVec.ofInt k.bits b).toNat))
  | .or => K (.int k (k.wrap (BitVec.ofInt k.bits a ||| BitVec.ofInt k.bits b).toNat))
  | .xor => K (.int k (k.wrap (BitVec.ofInt k.bits a ^^^ BitVec.ofInt k.bits b).toNat))
  | .andNot => K (.int k (k.wrap (BitVec.ofInt k.bits a &&& ~~~(BitVec.ofInt k.bits b)).toNat))
  | .eql => K (.bool (decide (a = b)))
  | .neq => K (.bool (!decide (a = b)))
  | .lss => K (.bool (decide (a < b)))
  | .leq => K (.bool (decide (a ≤ b)))
  | .gtr => K (.bool (decide (a > b)))
  | .geq => K (.bool (decide (a ≥ b)))
  | _ => none
def strOp (op : BinOp) (a b : ByteArray) (K : AV → Option β) : Option β :=
  match op with
  | .add => bif decide (a.size + b.size ≤ 9223372036854775807) then K (.str (a ++ b)) else none
  | .eql => K (.bool (decide (a = b)))
  | .neq => K (.bool (!decide (a = b)))
  | .lss => K (.bool (Op.bytesLess a.toList b.toList))
  | .gtr => K (.bool (!(Op.bytesLess a.toList b.toList || decide (a = b))))
  | .leq => K (.bool (Op.bytesLess a.toList b.toList || decide (a = b)))
  | .geq => K (.bool (!Op.bytesLess a.toList b.toList))
  | _ => none
def leafEq (P : Program) (T : TypeId) (a b : AV) : Option Bool :=
  match P.underlying T with
  | some .bool => (match a, b with | .bool a, .bool b => some (a == b) | _, _ => none)
  | some (.int _) => (match a, b with | .int k a, .int k' b => bif decide (k = k') then some (decide (a = b)) else none | _, _ => none)
  | some .string => (match a, b with | .str a, .str b => some (decide (a = b)) | _, _ => none)
  | _ => none
/-- A struct of scalar fields alone, against another one. -/
def fieldsEq (P : Program) : Nat → List Field → List AV → List AV → Option Bool
  | _, [], [], [] => some true
  | k, f :: fs, a :: as, b :: bs => bif f.name != "_" && f.offset == k then (leafEq P f.type a b).bind fun q => (fieldsEq P (k + 1) fs as bs).bind fun q' => some (q && q') else none
  | _, _, _, _ => none
def aggEq (P : Program) (T : TypeId) (as bs : List AV) : Option Bool :=
  match P.underlying T with
  | some (.struct fs) => bif P.stoodInHeld T || P.eqGuardType P.depth T then none else fieldsEq P 0 fs.toList as bs
  | _ => none
def nilB (x : AV) (K : Bool → Option β) : Option β := match x with | .nili => K true | .ifc => K false | _ => none
/-- A value of an interface's type against the literal nil. -/
def nilOp (P : Program) (op : BinOp) (T : TypeId) (yo : Operand) (x : AV) (K : AV → Option β) : Option β :=
  match P.underlying T with
  | some (.interface _) => (match yo with
    | .const _ => (match op with
      | .eql => nilB x fun q => K (.bool q)
      | .neq => nilB x fun q => K (.bool !q)
      | _ => none)
    | _ => none)
  | _ => none
def bop (P : Program) (op : BinOp) (T : TypeId) (xo yo : Operand) (x y : AV) (K : AV → Option β) : Option β :=
  match y with
  | .nili => nilOp P op T yo x K
  | y => match x, y with
  | .int k a, .int k' b =>
    (match op with
    | .shl => bif decide (b < 0) then none else K (.int k (k.wrap (a * 2 ^ (min b.toNat k.bits))))
    | .shr => bif decide (b < 0) then none else K (.int k (a.fdiv (2 ^ (min b.toNat k.bits))))
    | op => bif decide (k = k') then intOp op k a b K else none)
  | .str a, .str b => strOp op a b K
  | .bool a, .bool b => (match P.underlying T with
    | some .bool => (match op with
      | .eql => K (.bool (a == b))
      | .neq => K (.bool (!(a == b)))
      | _ => none)
    | _ => none)
  | .agg xs, .agg ys => (match op with
    | .eql => (aggEq P T xs ys).bind fun q => K (.bool q)
    | .neq => (aggEq P T xs ys).bind fun q => K (.bool !q)
    | _ => none)
  | _, _ => none
def uop (op : UnOp) (x : AV) (K : AV → Option β) : Option β :=
  match op, x with
  | .neg, .int k n => K (.int k (k.wrap (0 - n)))
  | .xor, .int k n => K (.int k (k.wrap (BitVec.ofInt k.bits (if k.signed then -1 else k.max) ^^^ BitVec.ofInt k.bits n).toNat))
  | .not, .bool b => K (.bool !b)
  | _, _ => none
def byteAV (b : UInt8) : AV := .int .u8 b.toNat
def bytesAV (s : ByteArray) : List AV := s.toList.map byteAV
def toBytes : List AV → Option (List UInt8)
  | [] => some []
  | .int .u8 n :: l => (toBytes l).bind fun r => some (UInt8.ofNat n.toNat :: r)
  | _ => none
def Ob.isB : Ob → Bool
  | .box _ | .fbox _ => true
  | _ => false
def isBox (σ : Nat → Option Ob) (r : Nat) : Bool := match σ r with | some o => o.isB | none => false
def isRow (σ : Nat → Option Ob) (r : Nat) : Bool := match σ r with | some (.row ..) => true | _ => false
def lenAV (P : Program) (σ : Nat → Option Ob) (T : TypeId) (v : AV) (K : Nat → Option β) : Option β :=
  match P.underlying T with
  | some .string => (match v with | .str s => K s.size | _ => none)
  | some (.slice _) => (match v with
    | .list _ xs => K xs.length
    | .nils => K 0
    | .own r => (match σ r with | some (.row _ xs _) => K xs.length | _ => none)
    | .ownp r n => bif isRow σ r then K n else none
    | _ => none)
  | some (.map ..) => (match v with
    | .mref r => (match σ r with | some (.map kvs) => K kvs.length | _ => none)
    | .nilm => K 0
    | _ => none)
  | _ => none
/-- A map's entries, in the order in which they came. -/
def mapGet : List (ByteArray × AV) → ByteArray → Option AV
  | [], _ => none
  | p :: l, s => bif decide (p.1 = s) then some p.2 else mapGet l s
def mapSet : List (ByteArray × AV) → ByteArray → AV → List (ByteArray × AV)
  | [], s, v => [(s, v)]
  | p :: l, s, v => bif decide (p.1 = s) then (s, v) :: l else p :: mapSet l s v
def mapDel : List (ByteArray × AV) → ByteArray → List (ByteArray × AV)
  | [], _ => []
  | p :: l, s => bif decide (p.1 = s) then l else p :: mapDel l s
/-- A bound, as a place. -/
def bound1 (x : Option AV) (d y : Nat) (K : Nat → Option β) : Option β :=
  match x with
  | none => K d
  | some (.int _ i) => bif decide (0 ≤ i) && decide (i ≤ (y : Int)) then K i.toNat else none
  | _ => none
def sliceL (sz : Nat) (xs : List AV) (lo hi : Option AV) (u : Upd) (K : AV → Upd → Option β) : Option β :=
  bound1 hi xs.length xs.length fun h => bound1 lo 0 h fun l => K (.list sz ((xs.take h).drop l)) u
def sliceK (P : Program) (σ : Nat → Option Ob) (T : TypeId) (x : AV) (lo hi : Option AV) (K : AV → Upd → Option β) : Option β :=
  match P.underlying T with
  | some .string => (match x with
    | .str s => bound1 hi s.size s.size fun h => bound1 lo 0 h fun l => K (.str (s.extract l h)) []
    | _ => none)
  | some (.slice e) => bif P.cellsOf e == 0 then none else (match x with
    | .list sz xs => bif sz == P.cellsOf e then sliceL (P.cellsOf e) xs lo hi [] K else none
    | .nils => bound1 hi 0 0 fun h => bound1 lo 0 h fun l => K .nils []
    | .own r => (match σ r with
      | some (.row e' xs _) => bif e' == e then (match lo with
        | none => bound1 hi xs.length xs.length fun h => K (.ownp r h) []
        | some _ => sliceL (P.cellsOf e) xs lo hi [(r, some (.row e xs true))] K) else none
      | _ => none)
    | .ownp r n => (match σ r with
      | some (.row e' xs _) => bif e' == e then (match lo with
        | none => bound1 hi n n fun h => K (.ownp r h) []
        | some _ => sliceL (P.cellsOf e) (xs.take n) lo hi [(r, some (.row e xs true))] K) else none
      | _ => none)
    | _ => none)
  | _ => none
def fieldOf (P : Program) (S : TypeId) (f : Nat) : Option Field :=
  match P.underlying S with
  | some (.struct fs) => fs.toList[f]?
  | _ => none
def fieldAddrK (P : Program) (σ : Nat → Option Ob) (S : TypeId) (x : AV) (f : Nat) (K : AV → Option β) : Option β :=
  match fieldOf P S f with
  | some fd => bif P.cellsOf fd.type == 0 then none else (match x with
    | .loc r off => bif isBox σ r then K (.loc r (off + fd.offset)) else none
    | .rloc r i off => bif isRow σ r then K (.rloc r i (off + fd.offset)) else none
    | .eptr cs off => K (.eptr cs (off + fd.offset))
    | _ => none)
  | none => none
def idxOf (i : AV) (n : Nat) (K : Nat → Option β) : Option β :=
  match i with
  | .int _ i => bif decide (0 ≤ i) && decide (i < (n : Int)) then K i.toNat else none
  | _ => none
def indexAddrK (P : Program) (σ : Nat → Option Ob) (T : TypeId) (x i : AV) (K : AV → Option β) : Option β :=
  match P.underlying T with
  | some (.slice e) => (match x with
    | .list sz xs => bif (sz == P.cellsOf e) && !(P.cellsOf e == 0) then idxOf i xs.length fun j => (xs[j]?).bind fun y => K (.eptr y.cells 0) else none
    | .own r => (match σ r with | some (.row e' xs _) => bif e' == e then idxOf i xs.length fun j => K (.rloc r j 0) else none | _ => none)
    | .ownp r n => (match σ r with | some (.row e' xs _) => bif e' == e then idxOf i n fun j => K (.rloc r j 0) else none | _ => none)
    | _ => none)
  | some (.array n e) => bif P.cellsOf e == 0 then none else idxOf i n fun j => (match x with
    | .loc r off => bif isBox σ r then K (.loc r (off + j * P.cellsOf e)) else none
    | .eptr cs off => K (.eptr cs (off + j * P.cellsOf e))
    | _ => none)
  | _ => none
def indexK (P : Program) (T : TypeId) (x i : AV) (K : AV → Option β) : Option β :=
  match x with
  | .str s => (match P.underlying T with | some .string => idxOf i s.size fun j => K (.int .u8 (s.data.toList.getD j 0).toNat) | _ => none)
  | .agg cs => (match P.underlying T with | some (.array n e) => bif isAggT P e || !(P.cellsOf e == 1) || !(P.info? e).isSome then none else idxOf i n fun j => cellAt cs j fun c => castP1 P e c K | _ => none)
  | _ => none
def scalarT (P : Program) (T : TypeId) : Bool :=
  match P.underlying T with
  | some .bool | some (.int _) | some .string => true
  | _ => false
def loadK (P : Program) (σ : Nat → Option Ob) (T : TypeId) (p : AV) (K : AV → Option β) : Option β :=
  match p with
  | .loc r off => (match σ r with | some (.box cs) => bif scalarT P T then loadTP P T cs off K else loadT P T (cs.drop off) K | some (.fbox cs) => loadTP P T cs off K | _ => none)
  | .rloc r i off => (match σ r with | some (.row _ xs _) => (xs[i]?).bind fun x => loadTP P T x.cells off K | _ => none)
  | .eptr cs off => loadTP P T cs off K
  | _ => none
/-- Cells put over others, from a place on. -/
def splice (cs : List AV) (off : Nat) (new : List AV) : List AV := cs.take off ++ new ++ cs.drop (off + new.length)
def mkElem (sz : Nat) (cs : List AV) (v : AV) : AV := match v with | .agg _ => .agg cs | _ => (match cs with | [c] => c | _ => .agg cs)
def storeK (P : Program) (σ : Nat → Option Ob) (T : TypeId) (p x : AV) (K : AV → Upd → Option β) : Option β :=
  match p with
  | .loc r off => (match σ r with
    | some (.box cs) => bif (x.cells.length == P.cellsOf T) && decide (0 < P.cellsOf T) && decide (off + x.cells.length ≤ cs.length) then K .junk [(r, some (.box (splice cs off x.cells)))] else none
    | _ => none)
  | .rloc r i off => (match σ r with
    | some (.row e xs false) => frz P σ T x fun x u => (xs[i]?).bind fun y =>
        bif (x.cells.length == P.cellsOf T) && decide (0 < P.cellsOf T) && decide (off + x.cells.length ≤ y.cells.length) && !(u.map (·.1)).contains r then K .junk (u ++ [(r, some (.row e (xs.set i (mkElem (P.cellsOf e) (splice y.cells off x.cells) y)) false))]) else none
    | _ => none)
  | _ => none
/-- The parts of a struct's literal laid over its zero cells. -/
def fillK (place : Nat → Option (Nat × Nat)) (cs : List AV) : List (Nat × AV) → Option (List AV)
  | [] => some cs
  | (i, v) :: l => match place i with
    | some (off, size) => bif (v.cells.length == size) && decide (off + v.cells.length ≤ cs.length) then fillK place (splice cs off v.cells) l else none
    | none => none
def zipParts : List (Nat × Operand) → List AV → List (Nat × AV)
  | (i, _) :: ps, v :: vs => (i, v) :: zipParts ps vs
  | _, _ => []
def fieldPlaces (P : Program) (T : TypeId) : Nat → Option (Nat × Nat) := fun i =>
  match fieldOf P T i with
  | some f => some (f.offset, P.cellsOf f.type)
  | none => none
def arrPlaces (P : Program) (e : TypeId) : Nat → Option (Nat × Nat) := fun i => some (i * P.cellsOf e, P.cellsOf e)
def buildK (P : Program) (T : TypeId) (ps : List (Nat × AV)) (K : AV → Option β) : Option β :=
  match P.underlying T with
  | some (.struct fs) => bif zeroOk P T && (fs.toList.all fun f => (P.info? f.type).isSome) && (ps.all fun p => p.2.solid) then (fillK (fieldPlaces P T) (zeroAV P T).cells ps).bind fun cs => K (.agg cs) else none
  | some (.array _ e) => bif zeroOk P T && (P.info? e).isSome && (ps.all fun p => p.2.solid) then (fillK (arrPlaces P e) (zeroAV P T).cells ps).bind fun cs => K (.agg cs) else none
  | _ => none
def setParts (xs : List AV) : List (Nat × AV) → Option (List AV)
  | [] => some xs
  | (i, v) :: l => bif decide (i < xs.length) then setParts (xs.set i v) l else none
def frzParts (P : Program) (σ : Nat → Option Ob) (e : TypeId) : List (Nat × AV) → (List (Nat × AV) → Upd → Option β) → Option β
  | [], K => K [] []
  | (i, v) :: l, K => frz P σ e v fun v' u => bif v'.cells.length == P.cellsOf e then frzParts P σ e l fun l' us => K ((i, v') :: l') (u ++ us) else none
/-- What is put behind. -/
def srcK (P : Program) (σ : Nat → Option Ob) (e : TypeId) (x : AV) (K : List AV → Option β) : Option β :=
  match x with
  | .list sz ys => bif sz == P.cellsOf e then K ys else none
  | .nils => K []
  | .own r => (match σ r with | some (.row e' ys _) => bif e' == e then K ys else none | _ => none)
  | .ownp r n => (match σ r with | some (.row e' ys _) => bif e' == e then K (ys.take n) else none | _ => none)
  | _ => none
def conv (P : Program) (σ : Nat → Option Ob) (src dst : TypeId) (x : AV) (K : AV → Option β) : Option β :=
  match P.underlying dst with
  | some (.int k) => (match x with | .int _ n => bif (P.underlying src).isSome then K (.int k (k.wrap n)) else none | _ => none)
  | some .string => (match P.underlying src with
    | some (.slice e) => (match P.underlying e with
      | some (.int .u8) => bif P.cellsOf e == 1 then srcK P σ e x fun ys => (toBytes ys).bind fun l => K (.str ⟨l.toArray⟩) else none
      | _ => none)
    | some (.int _) => (match x with | .int _ n => K (.str (Utf8.encode n)) | _ => none)
    | some .string => (match x with | .str s => K (.str s) | _ => none)
    | _ => none)
  | some (.slice e) => (match P.underlying src with
    | some .string => (match P.underlying e with
      | some (.int .u8) => (match x with | .str s => bif P.cellsOf e == 1 then K (.list 1 (bytesAV s)) else none | _ => none)
      | _ => none)
    | _ => none)
  | _ => none
/-- A constant text's bytes: the row that was laid for them stays as it is. -/
def convOwn (P : Program) (σ : Nat → Option Ob) (T : TypeId) (x : AV) (K : AV → Upd → Option β) : Option β :=
  match P.underlying T with
  | some (.slice e) => (match P.underlying e with
    | some (.int .u8) => (match x with
      | .own r => (match σ r with | some (.row e' xs _) => bif e' == e && P.cellsOf e == 1 && decide (0 < xs.length) then K (.list 1 xs) [(r, none)] else none | _ => none)
      | _ => none)
    | _ => none)
  | _ => none
def isSliceT (P : Program) (T : TypeId) : Bool := match P.underlying T with | some (.slice _) => true | _ => false
def growK (P : Program) (dst : Nat) (e : TypeId) (u : Upd) (xs : List AV) (fz : Bool) (ys : List AV) (K : AV → Upd → New → Option β) : Option β :=
  bif decide ((xs.length + ys.length) * P.bytesOf e ≤ 140737488355328) && decide (xs.length + ys.length ≤ 9223372036854775807) then K (.own dst) u [(dst, .row e (xs ++ ys) fz)] else none
/-- Elements behind a row's. -/
def appendK (P : Program) (σ : Nat → Option Ob) (dst : Nat) (T : TypeId) (s x : AV) (K : AV → Upd → New → Option β) : Option β :=
  match P.underlying T with
  | some (.slice e) => bif zeroOk P e && !(P.cellsOf e == 0) then srcK P σ e x fun ys => (match s with
    | .nils => growK P dst e [] [] false ys K
    | .own r => (match σ r with | some (.row e' xs fz) => bif e' == e then growK P dst e [(r, none)] xs fz ys K else none | _ => none)
    | .ownp r n => (match σ r with | some (.row e' xs false) => bif e' == e then growK P dst e [(r, none)] (xs.take n) false ys K else none | _ => none)
    | _ => none) else none
  | _ => none
def makeK (P : Program) (dst : Nat) (T : TypeId) (l c : AV) (K : AV → Upd → New → Option β) : Option β :=
  match P.underlying T with
  | some (.slice e) => (match l, c with
    | .int _ l, .int _ c => bif decide (0 ≤ l) && decide (l ≤ c) && decide (c * P.bytesOf e ≤ 140737488355328) && decide (c ≤ 9223372036854775807) && zeroOk P e && decide (0 < P.cellsOf e) then K (.own dst) [] [(dst, .row e (List.replicate l.toNat (zeroAV P e)) false)] else none
    | _, _ => none)
  | _ => none

/-- What a function value captures: a variable of the call's own stays as it is from here on. -/
def cap1 (σ : Nat → Option Ob) (c : AV) (K : AV → Upd → Option β) : Option β :=
  match c with
  | .loc r 0 => (match σ r with
    | some (.box bs) => bif bs.all fun b => b.pure1 && b.leaf then K (.eptr bs 0) [(r, some (.fbox bs))] else none
    | some (.fbox bs) => K (.eptr bs 0) []
    | _ => none)
  | c => bif c.pure1 then K c [] else none
def capK (σ : Nat → Option Ob) : List AV → (List AV → Upd → Option β) → Option β
  | [], K => K [] []
  | c :: cs, K => cap1 σ c fun c' u => capK σ cs fun l us => K (c' :: l) (u ++ us)

/-- What a call hands back, taken in. -/
def atTup (v : AV) (K : List AV → Option β) : Option β := match v with | .tup l => K l | _ => none
def atCons (l : List AV) (K : AV → List AV → Option β) : Option β := match l with | a :: l => K a l | [] => none
def atNil (l : List AV) (x : Option β) : Option β := match l with | [] => x | _ :: _ => none
def atFresh (e : TypeId) (v : AV) (K : List AV → Option β) : Option β := match v with | .fresh e' xs => bif e' == e then K xs else none | _ => none
def recv1 (P : Program) (fl : Bool) (nm : Nat) (T : TypeId) (r : AV) (K : AV → New → Option β) : Option β :=
  bif fl then (match P.underlying T, r with
    | some (.slice e), .fresh e' xs => bif e' == e then K (.own nm) [(nm, .row e xs false)] else none
    | some (.map ..), .lmap kvs => K (.mref nm) [(nm, .map kvs)]
    | _, _ => none)
  else bif r.isFresh then none else castTP P T r fun v => K v []
def recvL (P : Program) (nt : Nat) : Nat → List Bool → List TypeId → List AV → (List AV → New → Option β) → Option β
  | _, _, [], rs, K => atNil rs (K [] [])
  | nm, fl, t :: ts, rs, K => atCons rs fun r rs => recv1 P (fl.headD false) nm t r fun v u => recvL P nt (nm + nt) fl.tail ts rs fun l us => K (v :: l) (u ++ us)
def recv (P : Program) (nt : Nat) (fl : List Bool) (dst : Nat) (T : TypeId) (r : AV) (K : AV → New → Option β) : Option β :=
  match P.underlying T with
  | some (.tuple ts) => atTup r fun rs => recvL P nt dst fl ts.toList rs fun l u => bif decide (u.length ≤ 1) && decide (0 < nt) then K (.tup l) u else none
  | some .invalid => atTup r fun rs => atNil rs (K .junk [])
  | _ => bif r.isTup then none else recv1 P (fl.headD false) dst T r K

/-- A string's map: what a key has, what it is turned to. -/
def strMap (P : Program) (T : TypeId) : Option TypeId :=
  match P.underlying T with
  | some (.map k e) => (match P.underlying k with | some .string => some e | _ => none)
  | _ => none
/-- The zero value, its nil rows as lists that hold nothing. -/
def unNil (P : Program) (t : TypeId) (c : AV) : AV := match c with | .nils => (match P.underlying t with | some (.slice e) => .list (P.cellsOf e) [] | _ => .nils) | c => c
def unNils (P : Program) : List TypeId → List AV → List AV
  | t :: ts, c :: cs => unNil P t c :: unNils P ts cs
  | _, cs => cs
def zeroL (P : Program) (T : TypeId) : AV := match zeroAV P T with | .agg cs => .agg (unNils P (leavesT P T) cs) | v => unNil P T v
def lookV (P : Program) (e : TypeId) (o : Option AV) (ok : Bool) (K : AV → Option β) : Option β :=
  bif ok then castTP P e (o.getD (zeroL P e)) fun v => K (.tup [v, .bool o.isSome]) else castTP P e (o.getD (zeroL P e)) K
def lookupK (P : Program) (σ : Nat → Option Ob) (T : TypeId) (x i : AV) (ok : Bool) (K : AV → Option β) : Option β :=
  match strMap P T with
  | some e => bif zeroOk P e then (match i with
    | .str s => (match x with
      | .mref r => (match σ r with | some (.map kvs) => lookV P e (mapGet kvs s) ok K | _ => none)
      | .nilm => lookV P e none ok K
      | _ => none)
    | _ => none) else none
  | none => none
def mapPutK (P : Program) (σ : Nat → Option Ob) (T : TypeId) (m i v : AV) (K : AV → Upd → Option β) : Option β :=
  match strMap P T with
  | some e => (match i with
    | .str s => (match m with
      | .mref r => (match σ r with
        | some (.map kvs) => bif v.solid then frz P σ e v fun v' u => bif !(u.map (·.1)).contains r then K .junk (u ++ [(r, some (.map (mapSet kvs s v')))]) else none else none
        | _ => none)
      | _ => none)
    | _ => none)
  | none => none
def mapDelK (P : Program) (σ : Nat → Option Ob) (T : TypeId) (m i : AV) (K : AV → Upd → Option β) : Option β :=
  match strMap P T with
  | some _ => (match i with
    | .str s => (match m with
      | .mref r => (match σ r with | some (.map kvs) => K (.tup []) [(r, some (.map (mapDel kvs s)))] | _ => none)
      | _ => none)
    | _ => none)
  | none => none

/-- What is lent or given to a call: under which name, and how it is to come back. -/
inductive Lk where
  | box (r : Nat) (ts : List TypeId) (cs : List AV)
  | map (r : Nat)
  | row (r : Nat) (e : TypeId) (n : Nat)
  | give (r : Nat)
  | none
def Lk.name : Lk → List Nat
  | .box r .. | .map r | .row r .. | .give r => [r]
  | .none => []
def Lk.names : List Lk → List Nat
  | [] => []
  | l :: ls => l.name ++ Lk.names ls
def nodupN : List Nat → Bool
  | [] => true
  | x :: l => !l.contains x && nodupN l
def lendCs (P : Program) (σ : Nat → Option Ob) (hd : List Nat) : Nat → List TypeId → List AV → (List AV → Upd → Option β) → Option β
  | _, [], [], K => K [] []
  | i, t :: ts, c :: cs, K => bif hd.contains i then lendCs P σ hd (i + 1) ts cs fun l us => K (.hold :: l) us
    else frz1 P σ t c fun c' u => lendCs P σ hd (i + 1) ts cs fun l us => K (c' :: l) (u ++ us)
  | _, _, _, _ => none
/-- What a receiver points to: its type stands at a call as a pointer's, or as the thing's own. -/
def ptrT (P : Program) (T : TypeId) : Option TypeId := match P.underlying T with | some (.pointer E) => some E | some (.struct _) => some T | _ => none
def lend1 (P : Program) (σ : Nat → Option Ob) (hd : List Nat) (T : TypeId) (v : AV) (K : AV → Upd → Lk → Option β) : Option β :=
  match v with
  | .loc r 0 => (match σ r, ptrT P T with
    | some (.box cs), some E => lendCs P σ hd 0 (leavesT P E) cs fun l u => K (.lent l) u (.box r (leavesT P E) cs)
    | _, _ => none)
  | .mref r => (match σ r with | some (.map kvs) => K (.lmap kvs) [] (.map r) | _ => none)
  | .own r => (match σ r with | some (.row e xs false) => K (.lrow e xs) [] (.row r e xs.length) | _ => none)
  | _ => none
def give1 (P : Program) (σ : Nat → Option Ob) (T : TypeId) (v : AV) (K : AV → Upd → Lk → Option β) : Option β :=
  match v with
  | .own r => (match σ r with | some (.row e xs false) => K (.fresh e xs) [] (.give r) | _ => none)
  | .ownp r n => (match σ r with | some (.row e xs false) => K (.fresh e (xs.take n)) [] (.give r) | _ => none)
  | .nils => (match P.underlying T with | some (.slice e) => bif P.cellsOf e == 0 then none else K (.fresh e []) [] .none | _ => none)
  | _ => none
def lendL (P : Program) (σ : Nat → Option Ob) (hd : List Nat) : List Nat → List TypeId → List AV → (List AV → Upd → List Lk → Option β) → Option β
  | _, [], [], K => K [] [] []
  | ln, t :: ts, c :: cs, K => match ln.headD 0 with
    | 0 => frz P σ t c fun c' u => lendL P σ hd ln.tail ts cs fun l us ks => K (c' :: l) (u ++ us) (.none :: ks)
    | 1 => lend1 P σ hd t c fun c' u k => lendL P σ hd ln.tail ts cs fun l us ks => K (c' :: l) (u ++ us) (k :: ks)
    | _ => give1 P σ t c fun c' u k => lendL P σ hd ln.tail ts cs fun l us ks => K (c' :: l) (u ++ us) (k :: ks)
  | _, _, _, _ => none
def atBack (v : AV) (K : AV → List AV → Option β) : Option β := match v with | .lback r ls => K r ls | _ => none
def atLent (v : AV) (K : List AV → Option β) : Option β := match v with | .lent cs => K cs | _ => none
def atLmap (v : AV) (K : List (ByteArray × AV) → Option β) : Option β := match v with | .lmap kvs => K kvs | _ => none
def atLrow (e : TypeId) (v : AV) (K : List AV → Option β) : Option β := match v with | .lrow e' xs => bif e' == e then K xs else none | _ => none
def atHold (v : AV) (x : Option β) : Option β := match v with | .hold => x | _ => none
/-- The cells of a box that comes back: what was not looked at is what it was. -/
def backCs (P : Program) (hd : List Nat) : Nat → List TypeId → List AV → List AV → (List AV → Option β) → Option β
  | _, [], [], ls, K => atNil ls (K [])
  | i, t :: ts, c :: cs, ls, K => atCons ls fun x ls => bif hd.contains i then atHold x (backCs P hd (i + 1) ts cs ls fun l => K (c :: l)) else castP1 P t x fun x' => backCs P hd (i + 1) ts cs ls fun l => K (x' :: l)
  | _, _, _, _, _ => none
def backL (P : Program) (hd : List Nat) : List Lk → List AV → (Upd → Option β) → Option β
  | [], ls, K => atNil ls (K [])
  | .box r ts cs :: ks, ls, K => atCons ls fun x ls => atLent x fun xs => backCs P hd 0 ts cs xs fun cs' => backL P hd ks ls fun u => K ((r, some (.box cs')) :: u)
  | .map r :: ks, ls, K => atCons ls fun x ls => atLmap x fun kvs => backL P hd ks ls fun u => K ((r, some (.map kvs)) :: u)
  | .row r e n :: ks, ls, K => atCons ls fun x ls => atLrow e x fun xs => bif xs.length == n then backL P hd ks ls fun u => K ((r, some (.row e xs false)) :: u) else none
  | .give r :: ks, ls, K => backL P hd ks ls fun u => K ((r, .none) :: u)
  | .none :: ks, ls, K => backL P hd ks ls K
def callK (C : Cfg) (nt : Nat) (σ : Nat → Option Ob) (dst : Nat) (T : TypeId) (f : FuncId) (ts : List TypeId) (vs : List AV) (cap : List AV) (K : AV → Upd → New → Option β) : Option β :=
  match C.ln f with
  | [] => frzL C.P σ ts vs fun as u => (C.kap f (as ++ cap)).bind fun r => recv C.P nt (C.fl f) dst T r fun v n => K v u n
  | ln => lendL C.P σ (C.hd f) ln ts vs fun as u ks => bif nodupN (Lk.names ks) && (Lk.names ks).all (fun x => !(u.map (·.1)).contains x) then
      (C.kap f (as ++ cap)).bind fun r => atBack r fun r0 ls => backL C.P (C.hd f) ks ls fun ub => recv C.P nt (C.fl f) dst T r0 fun v n => K v (u ++ ub) n else none
def builtinK (C : Cfg) (σ : Nat → Option Ob) (dst : Nat) (b : Builtin) (ts : List TypeId) (vs : List AV) (K : AV → Upd → New → Option β) : Option β :=
  match b, ts, vs with
  | .len, [t], [v] => lenAV C.P σ t v fun n => K (.int .i64 (n : Int)) [] []
  | .append, [t, t'], [s, x] => bif t == t' then appendK C.P σ dst t s x K else none
  | .delete, [t, _], [m, i] => mapDelK C.P σ t m i fun v u => K v u []
  | .max, _, [.int k x, .int k' y] => bif decide (k = k') then K (.int k (if y > x then y else x)) [] [] else none
  | .min, _, [.int k x, .int k' y] => bif decide (k = k') then K (.int k (if y < x then y else x)) [] [] else none
  | _, _, _ => none

def rangeK (P : Program) (dst : Nat) (T : TypeId) (x : AV) (K : AV → Upd → New → Option β) : Option β :=
  match P.underlying T with
  | some .string => (match x with | .str s => K (.itr dst) [] [(dst, .it s 0)] | _ => none)
  | _ => none
def nextK (σ : Nat → Option Ob) (x : AV) (K : AV → Upd → Option β) : Option β :=
  match x with
  | .itr r => (match σ r with
    | some (.it s pos) => bif decide (pos < s.size) then K (.tup [.bool true, .int .i64 pos, .int .i32 (Utf8.decode s pos).1]) [(r, some (.it s (pos + (Utf8.decode s pos).2)))] else K (.tup [.bool false]) []
    | _ => none)
  | _ => none
end

def opnds : Op → List Operand
  | .move x | .assign x | .box _ x | .load _ x | .nilCheck x | .unOp _ _ x | .convert _ _ x | .makeInterface _ x | .fieldAddr _ x _ | .field _ x _ | .range _ x | .next x _ | .extract x _ => [x]
  | .pick c a b => [c, a, b]
  | .build _ ps | .buildSlice _ _ ps => ps.toList.map (·.2)
  | .store _ a v | .binOp _ _ a v _ | .makeSlice _ a v | .indexAddr _ a v | .index _ a v | .lookup _ a v _ => [a, v]
  | .mapUpdate _ m k v | .insert _ m k v => [m, k, v]
  | .makeFunc _ first captured => first.toList ++ captured.toList
  | .slice _ x l h _ => x :: ((match l with | some y => [y] | none => []) ++ (match h with | some y => [y] | none => []))
  | .call c => (match c.callee with | .value f => [f] | _ => []) ++ c.args.toList
  | _ => []

section
variable {β : Type}
/-- One operation, on the values of its operands. -/
def opk (C : Cfg) (nt : Nat) (o : Oper) (vs : List AV) (σ : Nat → Option Ob) (K : AV → Upd → New → Option β) : Option β :=
  let dst := o.dst.getD nt
  match o.op, vs with
  | .move _, [v] => K v [] []
  | .assign _, [v] => K v [] []
  | .pick _ _ _, [.bool q, a, b] => (match a, b with
    | .bool x, .bool y => K (.bool (bif q then x else y)) [] []
    | a, b => bif q then K a [] [] else K b [] [])
  | .alloc e, [] => bif zeroOk C.P e then K (.loc dst 0) [] [(dst, .box (zeroAV C.P e).cells)] else none
  | .box e _, [v] => bif (v.cells.length == C.P.cellsOf e) && v.solid && v.names.isEmpty then K (.loc dst 0) [] [(dst, .box v.cells)] else none
  | .build t ps, vs => buildK C.P t (zipParts ps.toList vs) fun v => K v [] []
  | .buildSlice t n ps, vs => (match C.P.underlying t with
    | some (.slice e) => bif decide (n * C.P.cellsOf e ≤ 16777216) && zeroOk C.P e && decide (0 < C.P.cellsOf e) && decide (n ≤ 16777216) then frzParts C.P σ e (zipParts ps.toList vs) fun l u => (setParts (List.replicate n (zeroAV C.P e)) l).bind fun xs => K (.own dst) u [(dst, .row e xs false)] else none
    | _ => none)
  | .load t _, [p] => loadK C.P σ t p fun v => K v [] []
  | .store t _ _, [p, x] => bif x.solid then storeK C.P σ t p x fun v u => K v u [] else none
  | .nilCheck _, [p] => (match p with
    | .loc r off => bif isBox σ r then K (.loc r off) [] [] else none
    | .rloc r i off => bif isRow σ r then K (.rloc r i off) [] [] else none
    | .eptr cs off => K (.eptr cs off) [] []
    | .func (.func f) a b => K (.func (.func f) a b) [] []
    | _ => none)
  | .binOp op t xo yo _, [x, y] => bop C.P op t xo yo x y fun v => K v [] []
  | .unOp op _ _, [x] => uop op x fun v => K v [] []
  | .convert s d _, [x] => bif s == d && isSliceT C.P s then convOwn C.P σ d x fun v u => K v u [] else conv C.P σ s d x fun v => K v [] []
  | .makeFunc (.func f) first captured, vs => capK σ vs fun l u => K (.func (.func f) (l.take first.size) (l.drop first.size)) u []
  | .makeSlice t _ _, [l, c] => makeK C.P dst t l c K
  | .makeMap t none, [] => (match C.P.underlying t with | some (.map ..) => K (.mref dst) [] [(dst, .map [])] | _ => none)
  | .lookup t _ _ ok, [x, i] => lookupK C.P σ t x i ok fun v => K v [] []
  | .mapUpdate t _ _ _, [m, i, v] => mapPutK C.P σ t m i v fun v u => K v u []
  | .insert t _ _ _, [m, i, v] => mapPutK C.P σ t m i v fun v u => K v u []
  | .slice t _ lo hi none, vs => (match lo, hi, vs with
    | none, none, [x] => sliceK C.P σ t x none none fun v u => K v u []
    | some _, none, [x, l] => sliceK C.P σ t x (some l) none fun v u => K v u []
    | none, some _, [x, h] => sliceK C.P σ t x none (some h) fun v u => K v u []
    | some _, some _, [x, l, h] => sliceK C.P σ t x (some l) (some h) fun v u => K v u []
    | _, _, _ => none)
  | .fieldAddr s _ f, [x] => fieldAddrK C.P σ s x f fun v => K v [] []
  | .indexAddr t _ _, [x, i] => indexAddrK C.P σ t x i fun v => K v [] []
  | .index t _ _, [x, i] => indexK C.P t x i fun v => K v [] []
  | .extract _ i, [.tup l] => (match l[i]? with | some v => K v [] [] | none => none)
  | .range t _, [x] => rangeK C.P dst t x K
  | .next _ true, [x] => nextK σ x fun v u => K v u []
  | .call c, vs => (match c.callee, vs with
    | .value _, .func (.func f) first cap :: as => bif first.isEmpty then callK C nt σ dst o.type f c.argTypes.toList as cap K else none
    | .builtin b, vs => builtinK C σ dst b c.argTypes.toList vs K
    | _, _ => none)
  | _, _ => none

def restr (l : List Nat) (σ : Nat → Option Ob) (r : Nat) : Option Ob := bif l.contains r then σ r else none
def applyU : List (Option Ob) → Upd → List (Option Ob)
  | ob, [] => ob
  | ob, (r, x) :: u => applyU (ob.set r x) u
def purge (ns : List Nat) (v : AV) : AV := bif v.names.any fun r => ns.contains r then .junk else v
def purgeOb (ns : List Nat) : Option Ob → Option Ob
  | some (.box cs) => some (.box (cs.map (purge ns)))
  | o => o
def addN : List (Option Ob) → New → List (Option Ob)
  | ob, [] => ob
  | ob, (r, x) :: n => addN (ob.set r (some x)) n
def setD (sl : List AV) (dst : Option Tmp) (v : AV) : List AV := match dst with | some t => sl.set t v | none => sl
/-- What an operation leaves: what was there is turned; of what is new every elder mention goes; the value goes to its place. -/
def Fr.put (fr : Fr) (dst : Option Tmp) (v : AV) (u : Upd) : New → Fr
  | [] => { sl := setD fr.sl dst v, ob := applyU fr.ob u }
  | x :: n => { sl := setD (fr.sl.map (purge (x.1 :: n.map (·.1)))) dst v, ob := addN ((applyU fr.ob u).map (purgeOb (x.1 :: n.map (·.1)))) (x :: n) }
/-- The objects that an operation looks at: what only moves a value looks at none. -/
def lookN (o : Oper) (vs : List AV) : List Nat := match o.op with | .move _ | .assign _ => [] | _ => namesL vs
/-- What an operation looked at, and what it left. -/
abbrev Tr := List Nat × AV × Upd × New
def stepU (C : Cfg) (o : Oper) (fr : Fr) (K : Fr → Tr → Option β) : Option β :=
  let vs := (opnds o.op).map (fr.val C)
  let ns := lookN o vs
  opk C fr.sl.length o vs (restr ns fr.obj) fun v u n => bif n.all fun x => decide (x.1 < 4 * fr.sl.length) && !C.rs.contains x.1 then K (fr.put o.dst v u n) (ns, v, u, n) else none
/-- One operation; a guard that isn't met leaves it out. -/
def step (C : Cfg) (all : List Oper) (o : Oper) (fr : Fr) (K : Fr → Tr → Option β) : Option β :=
  match o.guard with
  | none => stepU C o fr K
  | some (j, want) => (match (all[j]?).bind (·.dst) with
    | some t => (match fr.get t with
      | .bool q => bif q then (bif want then stepU C o { fr with sl := fr.sl.set t (.bool true) } K else K (Fr.put { fr with sl := fr.sl.set t (.bool true) } o.dst .und [] []) ([], .und, [], []))
                   else (bif want then K (Fr.put { fr with sl := fr.sl.set t (.bool false) } o.dst .und [] []) ([], .und, [], []) else stepU C o { fr with sl := fr.sl.set t (.bool false) } K)
      | .und => K (Fr.put { fr with sl := fr.sl.set t .und } o.dst .und [] []) ([], .und, [], [])
      | _ => none)
    | none => none)
def ops (C : Cfg) (all : List Oper) : List Oper → Fr → List Tr → (Fr → List Tr → Option β) → Option β
  | [], fr, tr, K => K fr tr
  | o :: l, fr, tr, K => step C all o fr fun fr' t => ops C all l fr' (tr ++ [t]) K

def befores (l : List Oper) : List Nat :=
  l.foldl (fun acc o => acc ++ [o.after.toList.foldl (fun s e => bif Region.binds .any e then s ||| 2 ^ e.on ||| acc.getD e.on 0 else s) 0]) []
def looks (all : List Oper) (o : Oper) : List Nat :=
  ((opnds o.op).filterMap fun | .tmp t => some t | _ => none) ++ (match o.guard with | some (j, _) => ((all[j]?).bind (·.dst)).toList | none => [])
def disj (a b : List Nat) : Bool := a.all fun x => !b.contains x
def obNames : Option Ob → List Nat
  | some (.box cs) => namesL cs
  | _ => []
def uNames : Upd → List Nat
  | [] => []
  | x :: u => obNames x.2 ++ uNames u
def nNames : New → List Nat
  | [] => []
  | x :: n => obNames (some x.2) ++ nNames n
def obsNames : List (Option Ob) → List Nat
  | [] => []
  | x :: l => obNames x ++ obsNames l
def frNames (fr : Fr) : List Nat := namesL fr.sl ++ obsNames fr.ob
def trNew (t : Tr) : List Nat := t.2.2.2.map (·.1)
def trKeys (t : Tr) : List Nat := t.2.2.1.map (·.1) ++ t.2.2.2.map (·.1)
def trNames (t : Tr) : List Nat := t.2.1.names ++ (uNames t.2.2.1 ++ nNames t.2.2.2)
def dstIn (d : Option Tmp) (l : List Nat) : Bool := match d with | some d => l.contains d | none => false
def dstEq (d d' : Option Tmp) : Bool := match d, d' with | some d, some d' => d == d' | _, _ => false
/-- Two operations that may stand in either order. -/
def apart (all : List Oper) (x y : Oper) (a b : Tr) : Bool :=
  !dstIn x.dst (looks all y) && !dstIn y.dst (looks all x) && !dstEq x.dst y.dst && disj (trKeys a) b.1 && disj (trKeys b) a.1 && disj (trKeys a) (trKeys b) && disj (trNew a) (trNames b)
def pairs (l : List Oper) (o : Oper) (t : Tr) (b : Nat) : Nat → List Oper → List Tr → Bool
  | i, x :: xs, s :: ss => disj (trNew t) (trNames s) && (Nat.testBit b i || apart l x o s t) && pairs l o t b (i + 1) xs ss
  | _, _, _ => true
def drawGo (fr : Fr) (l : List Oper) (tr : List Tr) (bs : List Nat) : Nat → List Oper → List Tr → Bool
  | j, o :: os, t :: ts => (o.after.toList.all fun e => !Region.binds .any e || decide (e.on < j)) && disj (trNew t) (frNames fr) && disj (trNew t) (uNames t.2.2.1) && pairs l o t (bs.getD j 0) 0 (l.take j) (tr.take j) && drawGo fr l tr bs (j + 1) os ts
  | _, _, _ => true
def drawOk (fr : Fr) (l : List Oper) (tr : List Tr) : Bool := drawGo fr l tr (befores l) 0 l tr

/-- A frame in order: what is told stays, all else is let go. The first frame is what is left to take from. -/
def canonSlot (P : Program) (rs : List Nat) (d : Dir) (t : Nat) (md : Md) (fr new : Fr) : Fr × Fr :=
  match md with
  | .keep => (fr, bif (fr.get t).names.all fun r => d.boxes.contains r then { new with sl := new.sl.set t (fr.get t) } else new)
  | .frz => (match fr.get t with
    | .own r => (match fr.obj r with | some (.row e xs true) => (fr, { new with sl := new.sl.set t (.list (P.cellsOf e) xs) }) | _ => (fr, new))
    | .ownp r n => (match fr.obj r with | some (.row e xs true) => (fr, { new with sl := new.sl.set t (.list (P.cellsOf e) (xs.take n)) }) | _ => (fr, new))
    | .list sz xs => (fr, { new with sl := new.sl.set t (.list sz xs) })
    | _ => (fr, new))
  | .own e fz => bif d.boxes.contains t || rs.contains t || decide (new.ob.length ≤ t) || (new.obj t).isSome then (fr, new) else (match fr.get t with
    | .nils => bif P.cellsOf e == 0 then (fr, new) else (fr, { sl := new.sl.set t (.own t), ob := new.ob.set t (some (.row e [] fz)) })
    | .own r => (match fr.obj r with | some (.row e' xs fz') => bif e' == e then ({ fr with ob := fr.ob.set r none }, { sl := new.sl.set t (.own t), ob := new.ob.set t (some (.row e xs (fz || fz'))) }) else (fr, new) | _ => (fr, new))
    | .ownp r n => (match fr.obj r with | some (.row e' xs false) => bif e' == e then ({ fr with ob := fr.ob.set r none }, { sl := new.sl.set t (.own t), ob := new.ob.set t (some (.row e (xs.take n) fz)) }) else (fr, new) | _ => (fr, new))
    | _ => (fr, new))
def canonFold (P : Program) (rs : List Nat) (d : Dir) : List (Nat × Md) → Fr × Fr → Fr × Fr
  | [], x => x
  | (t, md) :: l, x => canonFold P rs d l (canonSlot P rs d t md x.1 x.2)
def keepOb (d : Dir) : Option Ob → Option Ob
  | some (.box cs) => some (.box (cs.map fun c => bif c.names.all fun r => d.boxes.contains r then c else .junk))
  | o => o
def keepBoxes (d : Dir) : List Nat → Fr → Fr → Fr
  | [], fr, new => new
  | r :: l, fr, new => keepBoxes d l fr { new with ob := new.ob.set r (keepOb d (fr.obj r)) }
def Md.isFrz : Md → Bool
  | .frz => true
  | _ => false
def weakOb : Option Ob → Option Ob
  | some (.row e xs _) => some (.row e xs true)
  | o => o
def cellPut (fr : Fr) (r i t : Nat) (o : Ob) : Fr :=
  match (fr.put none .junk [] [(t, o)]).obj r with
  | some (.box cs) => { (fr.put none .junk [] [(t, o)]) with ob := (fr.put none .junk [] [(t, o)]).ob.set r (some (.box (cs.set i (.own t)))) }
  | _ => fr
/-- A nil row in a box's cell, as one that holds nothing. -/
def cellNil (fr : Fr) (r i sz : Nat) : Fr :=
  match fr.obj r with
  | some (.box cs) => { fr with ob := fr.ob.set r (some (.box (cs.set i (.list sz [])))) }
  | _ => fr
def cellFree (P : Program) (rs : List Nat) (c : CellRow) (fr : Fr) : Bool := !rs.contains c.t && decide (c.t < fr.ob.length) && (fr.obj c.t).isNone && !(P.cellsOf c.e == 0) && !(c.t == c.r)
/-- A row in a box's cell, under its name. -/
def cellRow (P : Program) (rs : List Nat) (c : CellRow) (fr : Fr) : Fr :=
  match fr.obj c.r with
  | some (.box cs) => (match cs[c.i]? with
    | some .nils => bif c.t == c.r then cellNil fr c.r c.i (P.cellsOf c.e) else bif cellFree P rs c fr then cellPut fr c.r c.i c.t (.row c.e [] false) else fr
    | some (.own q) => (match fr.obj q with
      | some (.row e xs fz) => bif e == c.e && cellFree P rs c fr then cellPut { fr with ob := fr.ob.set q none } c.r c.i c.t (.row e xs fz) else fr
      | _ => fr)
    | _ => fr)
  | _ => fr
def cellRows (P : Program) (rs : List Nat) : List CellRow → Fr → Fr
  | [], fr => fr
  | c :: l, fr => cellRows P rs l (cellRow P rs c fr)
def canonD (P : Program) (rs : List Nat) (d : Dir) (fr : Fr) : Fr :=
  let fr := cellRows P rs d.rows (bif d.slots.any fun x => x.2.isFrz then { fr with ob := fr.ob.map weakOb } else fr)
  let x := canonFold P rs d d.slots (fr, { sl := List.replicate fr.sl.length .junk, ob := List.replicate fr.ob.length none })
  keepBoxes d d.boxes x.1 x.2
def canon (C : Cfg) (id : Option Nat) (fr : Fr) : Fr :=
  match id.bind C.dirs with
  | some d => canonD C.P C.rs d fr
  | none => fr

inductive EX where
  | normal
  | exit (id : Nat)
  | ret
  deriving Inhabited
abbrev Kont (β : Type) := EX → Fr → Option β
def seqK (k : Fr → Option β) (K : Kont β) : Kont β
  | .normal, fr => k fr
  | e, fr => K e fr
def blkK (id : Nat) (K : Kont β) : Kont β
  | .exit j, fr => bif j == id then K .normal fr else K (.exit j) fr
  | e, fr => K e fr
def loop (body : Fr → Kont β → Option β) (can : Fr → Fr) : Nat → Fr → Kont β → Option β
  | 0, _, _ => none
  | n + 1, fr, K => body fr (seqK (fun fr' => loop body can n (can fr') K) K)
def firstReg : Code → Option Nat
  | .region id _ _ => some id
  | .seq a b => (match firstReg a with | some i => some i | none => firstReg b)
  | .block _ c | .loop c | .scope c => firstReg c
  | _ => none
/-- A place where ways meet: what comes behind is looked at by itself. -/
def gate : Nat → (Unit → Option β) → Option β
  | 0, _ => none
  | _ + 1, x => x ()
def isGate (C : Cfg) (id : Option Nat) : Bool := match id.bind C.dirs with | some d => d.gate | none => false
def stop (C : Cfg) (id : Option Nat) (x : Fr → Option β) (fr : Fr) : Option β := bif isGate C id then gate C.k (fun _ => x fr) else x fr
def region (C : Cfg) (id : Nat) (os : List Oper) (draw : Bool) (fr : Fr) (K : Kont β) : Option β :=
  bif draw then ops C os os (canon C (some id) fr) [] (fun fr' tr => bif drawOk (canon C (some id) fr) os tr then K .normal fr' else none)
  else ops C os os (canon C (some id) fr) [] (fun fr _ => K .normal fr)
def code (C : Cfg) : Code → Fr → Kont β → Option β
  | .skip, fr, K => K .normal fr
  | .region id os draw, fr, K => region C id os.toList draw fr K
  | .seq a b, fr, K => code C a fr (seqK (fun fr' => stop C (firstReg b) (fun f => code C b f K) (canon C (firstReg b) fr')) K)
  | .cond c x y, fr, K => (match fr.val C c with | .bool q => bif q then code C x fr K else code C y fr K | _ => none)
  | .block id c, fr, K => code C c fr (blkK id K)
  | .loop c, fr, K => loop (fun fr K => code C c fr K) (canon C (firstReg c)) C.k (canon C (firstReg c) fr) K
  | .exit id, fr, K => K (.exit id) fr
  | .label _, fr, K => K .normal fr
  | .ret, fr, K => K .ret fr
  | .scope c, fr, K => code C c fr K
  | _, _, _ => none

/-- Results, made ready to be handed back: a row of one's own goes as new, all else is frozen. -/
def resL (P : Program) : List Bool → List TypeId → List AV → Fr → (List AV → Fr → Option β) → Option β
  | _, [], [], fr, K => K [] fr
  | fl, t :: ts, v :: vs, fr, K => bif fl.headD false then (match v with
      | .own r => (match fr.obj r with | some (.row e xs false) => resL P fl.tail ts vs { fr with ob := fr.ob.set r none } fun l fr' => K (.fresh e xs :: l) fr' | _ => none)
      | .ownp r n => (match fr.obj r with | some (.row e xs false) => resL P fl.tail ts vs { fr with ob := fr.ob.set r none } fun l fr' => K (.fresh e (xs.take n) :: l) fr' | _ => none)
      | .nils => (match P.underlying t with | some (.slice e) => bif P.cellsOf e == 0 then none else resL P fl.tail ts vs fr fun l fr' => K (.fresh e [] :: l) fr' | _ => none)
      | .mref r => (match fr.obj r with | some (.map kvs) => resL P fl.tail ts vs { fr with ob := fr.ob.set r none } fun l fr' => K (.lmap kvs :: l) fr' | _ => none)
      | _ => none)
    else frz P fr.obj t v fun v' u => resL P fl.tail ts vs { fr with ob := applyU fr.ob u } fun l fr' => K (v' :: l) fr'
  | _, _, _, _, _ => none
def resVal (P : Program) (fr : Fr) : List ResultVar → (List AV → Option β) → Option β
  | [], K => K []
  | .tmp t :: l, K => resVal P fr l fun vs => K (fr.get t :: vs)
  | .cell a T :: l, K => loadK P fr.obj T (fr.get a) fun v => resVal P fr l fun vs => K (v :: vs)
/-- The names under which the cells that are not looked at stand. -/
def holdN (nt i : Nat) : Nat := nt + i
def holdCs (nt : Nat) : Nat → List AV → List AV
  | _, [] => []
  | i, .hold :: cs => .opq (holdN nt i) :: holdCs nt (i + 1) cs
  | i, c :: cs => c :: holdCs nt (i + 1) cs
def holdOs (nt : Nat) : Nat → List AV → New
  | _, [] => []
  | i, .hold :: cs => (holdN nt i, .opq) :: holdOs nt (i + 1) cs
  | i, _ :: cs => holdOs nt (i + 1) cs
/-- What a call finds in its own hands, out of its arguments. -/
def entrySl : Nat → List AV → List AV
  | _, [] => []
  | j, .lent _ :: as => .loc j 0 :: entrySl (j + 1) as
  | j, .lmap _ :: as => .mref j :: entrySl (j + 1) as
  | j, .lrow .. :: as => .own j :: entrySl (j + 1) as
  | j, .fresh .. :: as => .own j :: entrySl (j + 1) as
  | j, a :: as => a :: entrySl (j + 1) as
def entryOs (nt : Nat) : Nat → List AV → New
  | _, [] => []
  | j, .lent cs :: as => (j, .box (holdCs nt 0 cs)) :: (holdOs nt 0 cs ++ entryOs nt (j + 1) as)
  | j, .lmap kvs :: as => (j, .map kvs) :: entryOs nt (j + 1) as
  | j, .lrow e xs :: as => (j, .row e xs false) :: entryOs nt (j + 1) as
  | j, .fresh e xs :: as => (j, .row e xs false) :: entryOs nt (j + 1) as
  | j, _ :: as => entryOs nt (j + 1) as
/-- The names of what is lent. -/
def lentNs (nt : Nat) : Nat → List AV → List Nat
  | _, [] => []
  | j, .lent cs :: as => j :: ((holdOs nt 0 cs).map (·.1) ++ lentNs nt (j + 1) as)
  | j, .lmap _ :: as => j :: lentNs nt (j + 1) as
  | j, .lrow .. :: as => j :: lentNs nt (j + 1) as
  | j, _ :: as => lentNs nt (j + 1) as
/-- Of the arguments, what the way back wants to know. -/
def shapeC : AV → AV
  | .hold => .hold
  | _ => .junk
def shape1 : AV → AV
  | .lent cs => .lent (cs.map shapeC)
  | .lmap _ => .lmap []
  | .lrow .. => .lrow 0 []
  | _ => .junk
def AV.isRes : AV → Bool
  | .lent _ | .lmap _ | .lrow .. | .fresh .. => true
  | _ => false
def shape (args : List AV) : List AV := bif args.any AV.isRes then args.map shape1 else []
def isOpq (σ : Nat → Option Ob) (r : Nat) : Bool := match σ r with | some .opq => true | _ => false
/-- A box's cells, handed back. -/
def outCs (P : Program) (σ : Nat → Option Ob) (nt : Nat) : Nat → List TypeId → List AV → List AV → (List AV → Upd → Option β) → Option β
  | _, [], [], [], K => K [] []
  | i, t :: ts, c0 :: cs0, c :: cs, K => (match c with
    | .opq r => (match c0 with | .hold => bif r == holdN nt i && isOpq σ r then outCs P σ nt (i + 1) ts cs0 cs fun l us => K (.hold :: l) us else none | _ => none)
    | c => frz1 P σ t c fun c' u => outCs P σ nt (i + 1) ts cs0 cs fun l us => K (c' :: l) (u ++ us))
  | _, _, _, _, _ => none
/-- What was lent, as it is at the end. -/
def outL (P : Program) (nt : Nat) (fr : Fr) : Nat → List TypeId → List AV → (List AV → Option β) → Option β
  | _, _, [], K => K []
  | j, ts, a :: as, K => match a with
    | .lent cs0 => (match fr.obj j, (ts.head?).bind P.underlying with
      | some (.box cs), some (.pointer E) => outCs P fr.obj nt 0 (leavesT P E) cs0 cs fun l u => outL P nt { fr with ob := (applyU fr.ob u).set j none } (j + 1) ts.tail as fun ls => K (.lent l :: ls)
      | _, _ => none)
    | .lmap _ => (match fr.obj j with | some (.map kvs) => outL P nt { fr with ob := fr.ob.set j none } (j + 1) ts.tail as fun ls => K (.lmap kvs :: ls) | _ => none)
    | .lrow .. => (match fr.obj j with | some (.row e xs false) => outL P nt { fr with ob := fr.ob.set j none } (j + 1) ts.tail as fun ls => K (.lrow e xs :: ls) | _ => none)
    | _ => outL P nt fr (j + 1) ts.tail as K
def oneOr (rs : List AV) (K : AV → Option β) : Option β := match rs with | [r] => K r | rs => K (.tup rs)
def retK (C : Cfg) (fl : List Bool) (fn : Func) (sh : List AV) (K : AV → Option β) : Kont β
  | .exit _, _ => none
  | _, fr => resVal C.P fr fn.results.toList fun vs => resL C.P fl fn.resultTypes.toList vs fr fun rs fr' =>
      bif sh.isEmpty then oneOr rs K else outL C.P fn.ntmps fr' 0 fn.params.toList sh fun ls => oneOr rs fun r => K (.lback r ls)
def entry (fn : Func) (args : List AV) : Fr :=
  { sl := entrySl 0 args ++ List.replicate (fn.ntmps - args.length) .junk, ob := addN (List.replicate (4 * fn.ntmps) none) (entryOs fn.ntmps 0 args) }

inductive Cx where
  | seqR (c : Code)
  | blk (id : Nat)
  | lp (c : Code) (n : Nat)
def plug (C : Cfg) (K : Kont β) : List Cx → Kont β
  | [] => K
  | .seqR c :: l => seqK (fun fr => stop C (firstReg c) (fun f => code C c f (plug C K l)) (canon C (firstReg c) fr)) (plug C K l)
  | .blk id :: l => blkK id (plug C K l)
  | .lp c n :: l => seqK (fun fr' => loop (fun fr K => code C c fr K) (canon C (firstReg c)) n (canon C (firstReg c) fr') (plug C K l)) (plug C K l)
end
/-- A part of a code. -/
def sel : Code → List Nat → Code
  | c, [] => c
  | .seq a b, i :: l => if i = 0 then sel a l else sel b l
  | .cond _ a b, i :: l => if i = 0 then sel a l else sel b l
  | .block _ c, _ :: l => sel c l
  | .loop c, _ :: l => sel c l
  | .scope c, _ :: l => sel c l
  | c, _ => c
/-- What a function answers, at these values. -/
def body (C : Cfg) (fl : List Bool) (fn : Func) (args : List AV) : Option AV :=
  match fn.body with
  | some c => bif args.length == fn.params.size + fn.nfree && decide (args.length ≤ fn.ntmps) then (bif nodupN ((entryOs fn.ntmps 0 args).map (·.1)) && (entryOs fn.ntmps 0 args).all (fun x => decide (x.1 < 4 * fn.ntmps)) then code { C with rs := lentNs fn.ntmps 0 args } c (entry fn args) (retK { C with rs := lentNs fn.ntmps 0 args } fl fn (shape args) some) else none) else none
  | none => none
end Go.Proofs.YtbkhmkcmbaffoaaGreatDoor.Eng


/- The engine, part 2: what an abstract value, an object, a frame says of memory. -/
set_option linter.unusedVariables false
set_option linter.unusedSimpArgs false
namespace Go.Proofs.YtbkhmkcmbaffoaaGreatDoor.Eng
open Go Go.RowKit

/-- Cells that hold what they hold for good. -/
abbrev Stab := Addr → Option Value
def Stab.le (S S' : Stab) : Prop := ∀ x v, S x = some v → S' x = some v
def Agree (S : Stab) (w : World) : Prop := ∀ x v, S x = some v → w.cell? x = some v

inductive V (S : Stab) : AV → Value → Prop
  | bool (b : Bool) : V S (.bool b) (.bool b)
  | int (k : IntKind) (n : Int) : V S (.int k n) (.int k n)
  | str (s : ByteArray) : V S (.str s) (.string s)
  | nilp : V S .nilp (.pointer none)
  | nilf : V S .nilf .nilFunc
  | nili : V S .nili .nilIface
  | nils : V S .nils (.slice none 0 0)
  | nilm : V S .nilm (.map none)
  | ifc (t : TypeId) (v : Value) : V S .ifc (.iface t v)
  | list0 (sz : Nat) (a : Addr) (cap : Nat) : V S (.list sz []) (.slice (some a) 0 cap)
  | listn (sz : Nat) : V S (.list sz []) (.slice none 0 0)
  | list (sz : Nat) (xs : List AV) (a : Addr) (cap : Nat) (f : Nat → Nat → Value) (h0 : xs.length ≤ cap)
      (h1 : ∀ (i : Nat) (x : AV), xs[i]? = some x → x.cells.length = sz)
      (h2 : ∀ (i : Nat) (x : AV) (j : Nat) (c : AV), xs[i]? = some x → x.cells[j]? = some c → c.leaf = true)
      (h3 : ∀ (i : Nat) (x : AV) (j : Nat) (c : AV), xs[i]? = some x → x.cells[j]? = some c → S (a.add (i * sz + j)) = some (f i j))
      (h4 : ∀ (i : Nat) (x : AV) (j : Nat) (c : AV), xs[i]? = some x → x.cells[j]? = some c → V S c (f i j)) : V S (.list sz xs) (.slice (some a) xs.length cap)
  | eptr (cs : List AV) (off : Nat) (a : Addr) (f : Nat → Value)
      (h2 : ∀ (j : Nat) (c : AV), cs[j]? = some c → c.leaf = true)
      (h3 : ∀ (j : Nat) (c : AV), cs[j]? = some c → S (a.add j) = some (f j))
      (h4 : ∀ (j : Nat) (c : AV), cs[j]? = some c → V S c (f j)) : V S (.eptr cs off) (.pointer (some (a.add off)))
  | agg (cs : List AV) (vs : List Value) (h1 : cs.length = vs.length)
      (h2 : ∀ (j : Nat) (c : AV), cs[j]? = some c → c.leaf = true)
      (h4 : ∀ (j : Nat) (c : AV) (v : Value), cs[j]? = some c → vs[j]? = some v → V S c v) : V S (.agg cs) (.agg vs.toArray)
  | func (fn : Fn) (first cap : List AV) (fv cv : List Value) (h1 : first.length = fv.length) (h2 : cap.length = cv.length)
      (h3 : ∀ (j : Nat) (c : AV) (v : Value), first[j]? = some c → fv[j]? = some v → V S c v)
      (h4 : ∀ (j : Nat) (c : AV) (v : Value), cap[j]? = some c → cv[j]? = some v → V S c v) : V S (.func fn first cap) (.func fn fv.toArray cv.toArray)

theorem V.mono {S S' : Stab} (h : S.le S') {x : AV} {v : Value} (hv : V S x v) : V S' x v := by
  induction hv with
  | bool b => exact .bool b
  | int k n => exact .int k n
  | str s => exact .str s
  | nilp => exact .nilp
  | nilf => exact .nilf
  | nili => exact .nili
  | nils => exact .nils
  | nilm => exact .nilm
  | ifc t v => exact .ifc t v
  | list0 sz a cap => exact .list0 sz a cap
  | listn sz => exact .listn sz
  | list sz xs a cap f h0 h1 h2 h3 h4 ih => exact .list sz xs a cap f h0 h1 h2 (fun i x j c hi hj => h _ _ (h3 i x j c hi hj)) ih
  | eptr cs off a f h2 h3 h4 ih => exact .eptr cs off a f h2 (fun j c hj => h _ _ (h3 j c hj)) ih
  | agg cs vs h1 h2 h4 ih => exact .agg cs vs h1 h2 ih
  | func fn first cap fv cv h1 h2 h3 h4 ih3 ih4 => exact .func fn first cap fv cv h1 h2 ih3 ih4

theorem V.one {S : Stab} {x : AV} {v : Value} (hv : V S x v) (hl : x.leaf = true) : v.oneCell' = true := by
  cases hv <;> first | rfl | (simp [AV.leaf] at hl)

/-- A slot's or a cell's value: pure, or one of the call's own names. -/
def cutV (n : Nat) : Value → Value
  | .slice a _ c => .slice a n c
  | v => v
def SV1 (P : Program) (S : Stab) (gv : Nat → Value) (ob : Nat → Option Ob) : AV → Value → Prop
  | .junk, v => True
  | .und, v => v = undef
  | .own r, v => v.oneCell' = true ∧ ∀ e xs fz, ob r = some (.row e xs fz) → v = gv r
  | .ownp r n, v => v.oneCell' = true ∧ ∀ e xs fz, ob r = some (.row e xs fz) → n ≤ xs.length ∧ v = cutV n (gv r)
  | .loc r off, v => v.oneCell' = true ∧ ∀ o, ob r = some o → o.isB = true → ∃ g, gv r = .pointer (some ⟨g, 0, none⟩) ∧ v = .pointer (some ⟨g, off, none⟩)
  | .rloc r i off, v => v.oneCell' = true ∧ ∀ e xs fz, ob r = some (.row e xs fz) → i < xs.length ∧ ∃ g m c, gv r = .slice (some ⟨g, 0, none⟩) m c ∧ v = .pointer (some ⟨g, i * P.cellsOf e + off, none⟩)
  | .itr r, v => v.oneCell' = true ∧ ∀ s pos, ob r = some (.it s pos) → v = gv r
  | .mref r, v => v.oneCell' = true ∧ ∀ kvs, ob r = some (.map kvs) → v = gv r
  | .opq r, v => v.oneCell' = true ∧ (ob r = some .opq → gv r = .tuple #[v])
  | x, v => V S x v
def SV (P : Program) (S : Stab) (gv : Nat → Value) (ob : Nat → Option Ob) : AV → Value → Prop
  | .agg cs, v => ∃ vs : List Value, v = .agg vs.toArray ∧ cs.length = vs.length ∧ (∀ u ∈ vs, u.oneCell' = true) ∧ ∀ (j : Nat) (c : AV) (u : Value), cs[j]? = some c → vs[j]? = some u → SV1 P S gv ob c u
  | .tup cs, v => ∃ vs : List Value, v = .tuple vs.toArray ∧ cs.length = vs.length ∧ ∀ (j : Nat) (c : AV) (u : Value), cs[j]? = some c → vs[j]? = some u → SV1 P S gv ob c u
  | x, v => SV1 P S gv ob x v

def hblk : Value → Option Nat
  | .pointer (some a) => some a.block
  | .slice (some a) _ _ => some a.block
  | .map (some b) => some b
  | _ => none

/-- Where a call began: the memory that it found; the blocks that were lent or given to it; the names of what was lent, with their values. -/
structure Ent where
  w : World
  x : List Nat
  held : Nat → Option Value
/-- A block of the call's own: laid by it, or handed to it. -/
def Ent.own (W : Ent) (g : Nat) : Prop := W.w.heap.size ≤ g ∨ g ∈ W.x
/-- What the call has turned: nothing but what is its own. -/
structure BelX (W : Ent) (w : World) : Prop where
  os : w.os = W.w.os
  tape : w.tape = W.w.tape
  output : w.output = W.w.output
  size : W.w.heap.size ≤ w.heap.size
  block : ∀ k, k < W.w.heap.size → k ∉ W.x → w.heap[k]? = W.w.heap[k]?
theorem BelX.refl (W : Ent) : BelX W W.w := ⟨rfl, rfl, rfl, Nat.le_refl _, fun _ _ _ => rfl⟩
/-- Behind it, what turns nothing but the call's own blocks. -/
theorem BelX.trans {W : Ent} {w w' : World} (h : BelX W w) (h1 : w'.os = w.os) (h2 : w'.tape = w.tape) (h3 : w'.output = w.output) (h4 : w.heap.size ≤ w'.heap.size) (h5 : ∀ k, k < W.w.heap.size → k ∉ W.x → w'.heap[k]? = w.heap[k]?) : BelX W w' :=
  ⟨h1.trans h.os, h2.trans h.tape, h3.trans h.output, Nat.le_trans h.size h4, fun k hk hx => (h5 k hk hx).trans (h.block k hk hx)⟩
theorem BelX.below {W : Ent} {w w' : World} (h : BelX W w) (hb : Below w.heap.size w w') : BelX W w' :=
  h.trans hb.os hb.tape hb.output hb.size fun k hk _ => hb.block k (by have := h.size; omega)
theorem BelX.alloc {W : Ent} {w : World} (h : BelX W w) (o : Obj) : BelX W (w.alloc o) :=
  h.below ((Below.refl _ _).alloc (Nat.le_refl _) o)
theorem BelX.setRow {W : Ent} {w : World} (h : BelX W w) {g : Nat} (hg : W.own g) (cs : Array Value) : BelX W (w.setRow g cs) :=
  h.trans rfl rfl rfl (by simp [World.setRow]) fun k hk hx => setRow_other w g k cs fun e => by
    subst e
    rcases hg with hg | hg
    · omega
    · exact hx hg
theorem BelX.grown {W : Ent} {w w' : World} {row : Option Nat} (h : BelX W w) (hg : w.grownBy w' row) (hr : ∀ k, row = some k → W.own k) : BelX W w' :=
  h.trans hg.os hg.tape hg.output hg.size fun k hk hx => hg.block k (by have := h.size; omega) fun e => by
    rcases hr k e.symm with hr | hr
    · omega
    · exact hx hr

/-- A map in memory: its entries, in the order in which they came. -/
def MapR (S : Stab) (w : World) (b : Nat) (kvs : List (ByteArray × AV)) : Prop :=
  ∃ (es : Array MapEntry) (clock : Nat), w.heap[b]? = some (.map es clock) ∧ MapKept.Stamped es clock ∧ es.size = kvs.length ∧
    ∀ (i : Nat) (p : ByteArray × AV) (e : MapEntry), kvs[i]? = some p → es[i]? = some e → e.key = .string p.1 ∧ V S p.2 e.val

def ObR (P : Program) (W : Ent) (S : Stab) (gv : Nat → Value) (ob : Nat → Option Ob) (w : World) (r : Nat) : Ob → Prop
  | .box cs => ∃ (g : Nat) (u : Array Value) (T : TypeId), gv r = .pointer (some ⟨g, 0, none⟩) ∧ W.own g ∧ w.heap[g]? = some (.cells u T (0, 0)) ∧ u.size = cs.length ∧
      (∀ (j : Nat) (v : Value), u[j]? = some v → v.oneCell' = true) ∧ (∀ (j : Nat) (c : AV) (v : Value), cs[j]? = some c → u[j]? = some v → SV1 P S gv ob c v) ∧ (∀ x v, S x = some v → x.block ≠ g)
  | .row e xs fz => ∃ us : List Value, w.ownsRow 0 e (P.cellsOf e) (gv r) xs.length us ∧ 0 < P.cellsOf e ∧ (∀ u ∈ us, u.oneCell' = true) ∧
      (∀ (i : Nat) (x : AV), xs[i]? = some x → x.cells.length = P.cellsOf e ∧ ∀ (j : Nat) (c : AV), x.cells[j]? = some c → c.leaf = true ∧ ∀ v, us[i * P.cellsOf e + j]? = some v → V S c v) ∧
      (∀ g, hblk (gv r) = some g → W.own g ∧ ∀ x v, S x = some v → x.block = g → fz = true ∧ x.spot = none ∧ x.off < xs.length * P.cellsOf e)
  | .it s pos => ∃ g : Nat, gv r = .pointer (some ⟨g, 0, none⟩) ∧ W.own g ∧ w.heap[g]? = some (.stringIter s pos)
  | .map kvs => ∃ b : Nat, gv r = .map (some b) ∧ W.own b ∧ MapR S w b kvs
  | .opq => hblk (gv r) = none
  | .fbox cs => ∃ (g : Nat) (u : Array Value) (T : TypeId), gv r = .pointer (some ⟨g, 0, none⟩) ∧ W.own g ∧ w.heap[g]? = some (.cells u T (0, 0)) ∧ V S (.eptr cs 0) (gv r)

structure Rel (P : Program) (S0 : Stab) (W : Ent) (S : Stab) (gv : Nat → Value) (fr : Fr) (a : Act) (w : World) : Prop where
  below : BelX W w
  agree : Agree S w
  ext : S0.le S
  fresh : ∀ x v, S x = some v → S0 x = some v ∨ W.own x.block
  held : ∀ r v, W.held r = some v → ∀ o, fr.obj r = some o → gv r = v
  len : a.tmps.size = fr.sl.length
  obl : 4 * fr.sl.length ≤ fr.ob.length
  defers : a.defers = []
  slot : ∀ t, t < fr.sl.length → SV P S gv fr.obj (fr.get t) (a.tmps.getD t undef)
  objs : ∀ r o, fr.obj r = some o → ObR P W S gv fr.obj w r o
  dis : ∀ r r' o o' g, fr.obj r = some o → fr.obj r' = some o' → hblk (gv r) = some g → hblk (gv r') = some g → r = r'

variable {P : Program} {S0 S S' : Stab} {W : Ent} {w w' : World} {gv gv' : Nat → Value} {fr : Fr} {a : Act} {ob ob' : Nat → Option Ob}

/-- Two lists of objects under which whatever names of the one live in the other alike. -/
def Kin : Option Ob → Option Ob → Prop
  | _, none => True
  | some (.box _), some (.box _) => True
  | some (.row e xs _), some (.row e' xs' _) => e = e' ∧ xs.length = xs'.length
  | some (.it _ _), some (.it _ _) => True
  | some (.map _), some (.map _) => True
  | some .opq, some .opq => True
  | some (.box _), some (.fbox _) => True
  | some (.fbox _), some (.fbox _) => True
  | _, _ => False

theorem SV1.mono (hS : S.le S') {x : AV} {v : Value} (hg : ∀ r ∈ x.name1, Kin (ob r) (ob' r) ∧ (ob' r ≠ none → gv' r = gv r)) (h : SV1 P S gv ob x v) : SV1 P S' gv' ob' x v := by
  cases x with
  | junk => trivial
  | und => exact h
  | own r =>
    obtain ⟨h1, h2⟩ := h
    obtain ⟨hk, he⟩ := hg r (by simp [AV.name1])
    refine ⟨h1, fun e xs fz ho => ?_⟩
    rw [ho] at hk he
    rw [he (by simp)]
    cases hr : ob r with
    | none => rw [hr] at hk; exact hk.elim
    | some o => cases o with
      | row e' xs' fz' => exact h2 _ _ _ hr
      | _ => rw [hr] at hk; exact hk.elim
  | ownp r n =>
    obtain ⟨h1, h2⟩ := h
    obtain ⟨hk, he⟩ := hg r (by simp [AV.name1])
    refine ⟨h1, fun e xs fz ho => ?_⟩
    rw [ho] at hk he
    rw [he (by simp)]
    cases hr : ob r with
    | none => rw [hr] at hk; exact hk.elim
    | some o => cases o with
      | row e' xs' fz' =>
        rw [hr] at hk
        obtain ⟨q1, q2⟩ := h2 _ _ _ hr
        exact ⟨by rw [← hk.2]; exact q1, q2⟩
      | _ => rw [hr] at hk; exact hk.elim
  | loc r off =>
    obtain ⟨h1, h2⟩ := h
    obtain ⟨hk, he⟩ := hg r (by simp [AV.name1])
    refine ⟨h1, fun o' ho hB => ?_⟩
    rw [ho] at hk he
    rw [he (by simp)]
    cases hr : ob r with
    | none => rw [hr] at hk; cases o' <;> first | (cases hB; done) | exact hk.elim
    | some o => cases o with
      | box cs' => exact h2 _ hr rfl
      | fbox cs' => exact h2 _ hr rfl
      | _ => rw [hr] at hk; cases o' <;> first | (cases hB; done) | exact hk.elim
  | rloc r i off =>
    obtain ⟨h1, h2⟩ := h
    obtain ⟨hk, he⟩ := hg r (by simp [AV.name1])
    refine ⟨h1, fun e xs fz ho => ?_⟩
    rw [ho] at hk he
    rw [he (by simp)]
    cases hr : ob r with
    | none => rw [hr] at hk; exact hk.elim
    | some o => cases o with
      | row e' xs' fz' =>
        rw [hr] at hk
        obtain ⟨q1, q2⟩ := h2 _ _ _ hr
        exact ⟨by rw [← hk.2]; exact q1, by rw [← hk.1]; exact q2⟩
      | _ => rw [hr] at hk; exact hk.elim
  | itr r =>
    obtain ⟨h1, h2⟩ := h
    obtain ⟨hk, he⟩ := hg r (by simp [AV.name1])
    refine ⟨h1, fun s pos ho => ?_⟩
    rw [ho] at hk he
    rw [he (by simp)]
    cases hr : ob r with
    | none => rw [hr] at hk; exact hk.elim
    | some o => cases o with
      | it s' pos' => exact h2 _ _ hr
      | _ => rw [hr] at hk; exact hk.elim
  | mref r =>
    obtain ⟨h1, h2⟩ := h
    obtain ⟨hk, he⟩ := hg r (by simp [AV.name1])
    refine ⟨h1, fun kvs ho => ?_⟩
    rw [ho] at hk he
    rw [he (by simp)]
    cases hr : ob r with
    | none => rw [hr] at hk; exact hk.elim
    | some o => cases o with
      | map kvs' => exact h2 _ hr
      | _ => rw [hr] at hk; exact hk.elim
  | opq r =>
    obtain ⟨h1, h2⟩ := h
    obtain ⟨hk, he⟩ := hg r (by simp [AV.name1])
    refine ⟨h1, fun ho => ?_⟩
    rw [ho] at hk he
    rw [he (by simp)]
    cases hr : ob r with
    | none => rw [hr] at hk; exact hk.elim
    | some o => cases o with
      | opq => exact h2 hr
      | _ => rw [hr] at hk; exact hk.elim
  | _ => exact V.mono hS h

theorem name1_mem {c : AV} : ∀ {cs : List AV} {j : Nat}, cs[j]? = some c → ∀ r ∈ c.name1, r ∈ names1 cs
  | [], j, h, _, _ => by simp at h
  | x :: cs, 0, h, r, hr => by
    simp only [List.getElem?_cons_zero, Option.some.injEq] at h
    subst h
    simp only [names1, List.mem_append]
    exact .inl hr
  | x :: cs, j + 1, h, r, hr => by
    simp only [names1, List.mem_append]
    exact .inr (name1_mem (by simpa using h) r hr)

def AV.isC : AV → Bool
  | .agg _ | .tup _ => true
  | _ => false
theorem SV_eq {x : AV} (h : x.isC = false) (v : Value) : SV P S gv ob x v = SV1 P S gv ob x v := by cases x <;> first | rfl | (simp [AV.isC] at h)
theorem names_eq {x : AV} (h : x.isC = false) : x.names = x.name1 := by cases x <;> first | rfl | (simp [AV.isC] at h)
theorem SV.mono (hS : S.le S') {x : AV} {v : Value} (hg : ∀ r ∈ x.names, Kin (ob r) (ob' r) ∧ (ob' r ≠ none → gv' r = gv r)) (h : SV P S gv ob x v) : SV P S' gv' ob' x v := by
  by_cases hc : x.isC = true
  · cases x <;> first | (simp [AV.isC] at hc; done) | skip
    · obtain ⟨vs, e, hl, h1, h2⟩ := h
      exact ⟨vs, e, hl, h1, fun j c u hc hu => (h2 j c u hc hu).mono hS fun r hr => hg r (name1_mem hc r hr)⟩
    · obtain ⟨vs, e, hl, h2⟩ := h
      exact ⟨vs, e, hl, fun j c u hc hu => (h2 j c u hc hu).mono hS fun r hr => hg r (name1_mem hc r hr)⟩
  · have hc : x.isC = false := by simpa using hc
    rw [SV_eq hc] at h ⊢
    rw [names_eq hc] at hg
    exact h.mono hS hg

/-- A pure value is a slot's. -/
theorem V.toSV1 {x : AV} {v : Value} (h : V S x v) : SV1 P S gv ob x v := by
  cases h <;> first | (constructor; done) | skip
  all_goals first | exact .bool _ | exact .int _ _ | exact .str _ | exact .nilp | exact .nilf | exact .nili | exact .nils | exact .nilm | exact .ifc _ _ | exact .list0 _ _ _ | exact .listn _ | skip
  · rename_i h0 h1 h2 h3 h4; exact .list _ _ _ _ _ h0 h1 h2 h3 h4
  · rename_i h1 h2 h3; exact .eptr _ _ _ _ h1 h2 h3
  · rename_i h1 h2 h3; exact .agg _ _ h1 h2 h3
  · rename_i h1 h2 h3 h4; exact .func _ _ _ _ _ h1 h2 h3 h4
theorem V.toSV {x : AV} {v : Value} (h : V S x v) : SV P S gv ob x v := by
  cases x with
  | agg cs =>
    cases h with
    | agg _ vs h1 h2 h4 =>
      refine ⟨vs, rfl, h1, fun u hu => ?_, fun j c u hc hu => (h4 j c u hc hu).toSV1⟩
      obtain ⟨j, hj⟩ := List.getElem?_of_mem hu
      have hlt : j < cs.length := by rw [h1]; exact (List.getElem?_eq_some_iff.1 hj).1
      exact (h4 j cs[j] u (List.getElem?_eq_getElem hlt) hj).one (h2 j _ (List.getElem?_eq_getElem hlt))
  | tup cs => cases h
  | _ => exact V.toSV1 (P := P) (gv := gv) (ob := ob) (by assumption)
theorem V.pure {x : AV} {v : Value} (h : V S x v) : x.names = [] := by
  cases h with
  | agg cs vs h1 h2 h4 =>
    have : ∀ (l : List AV), (∀ c ∈ l, ∃ v, V S c v ∧ c.leaf = true) → names1 l = [] := by
      intro l
      induction l with
      | nil => intro _; rfl
      | cons c l ih =>
        intro hl
        obtain ⟨v, hv, hcl⟩ := hl c (by simp)
        simp only [names1, ih (fun c hc => hl c (by simp [hc])), List.append_nil]
        cases hv <;> first | rfl | (simp [AV.leaf] at hcl)
    refine this cs fun c hc => ?_
    obtain ⟨j, hj⟩ := List.getElem?_of_mem hc
    have hlt : j < vs.length := by rw [← h1]; exact (List.getElem?_eq_some_iff.1 hj).1
    exact ⟨vs[j], h4 j c _ hj (List.getElem?_eq_getElem hlt), h2 j c hj⟩
  | _ => rfl
/-- A slot's value that mentions nothing, and is no junk, is pure. -/
theorem SV1.toV {x : AV} {v : Value} (h : SV1 P S gv ob x v) (hp : x.pure1 = true) : V S x v := by
  cases x <;> first | exact h | (simp [AV.pure1] at hp)

theorem Fr.get_set (sl : List AV) (ob : List (Option Ob)) (t s : Nat) (v : AV) (hs : s < sl.length) : ({ sl := sl.set t v, ob := ob } : Fr).get s = if t = s then v else (sl.getD s .junk) := by
  simp only [Fr.get, List.getD_eq_getElem?_getD, List.getElem?_set]
  by_cases h : t = s
  · subst h; simp [hs]
  · simp [h]
theorem tmps_put (a : Act) (t s : Nat) (v : Value) (hs : s < a.tmps.size) : (a.put (some t) v).tmps.getD s undef = if t = s then v else a.tmps.getD s undef := by
  simp only [Act.put, Array.getD_eq_getD_getElem?, Array.getElem?_setIfInBounds]
  by_cases h : t = s
  · subst h; simp [hs]
  · simp [h]
end Go.Proofs.YtbkhmkcmbaffoaaGreatDoor.Eng


/- The engine, part 3: operations that only compute. -/
set_option linter.unusedVariables false
set_option linter.unusedSimpArgs false
namespace Go.Proofs.YtbkhmkcmbaffoaaGreatDoor.Eng
open Go Go.RowKit
variable {P : Program} {S0 S S' : Stab} {W : Ent} {w w' : World} {gv gv' : Nat → Value} {fr : Fr} {a : Act} {ob ob' : Nat → Option Ob} {β : Type}

theorem setD_length (sl : List AV) (dst : Option Tmp) (v : AV) : (setD sl dst v).length = sl.length := by cases dst <;> simp [setD]
theorem put_tmps_size (a : Act) (dst : Option Tmp) (v : Value) : (a.put dst v).tmps.size = a.tmps.size := by cases dst <;> simp [Act.put]
theorem put_defers (a : Act) (dst : Option Tmp) (v : Value) : (a.put dst v).defers = a.defers := by cases dst <;> rfl

theorem slot_put {sl : List AV} {dst : Option Tmp} {v : AV} {val : Value} (hl : a.tmps.size = sl.length) (hs : ∀ t, t < sl.length → SV P S gv ob (sl.getD t .junk) (a.tmps.getD t undef)) (hv : SV P S gv ob v val) :
    ∀ t, t < (setD sl dst v).length → SV P S gv ob ((setD sl dst v).getD t .junk) ((a.put dst val).tmps.getD t undef) := by
  intro t ht
  rw [setD_length] at ht
  cases dst with
  | none => exact hs t ht
  | some d =>
    rw [tmps_put a d t val (by rw [hl]; exact ht)]
    have := Fr.get_set sl [] d t v ht
    simp only [Fr.get] at this
    simp only [setD]
    rw [this]
    by_cases h : d = t
    · rw [if_pos h, if_pos h]; exact hv
    · rw [if_neg h, if_neg h]; exact hs t ht

theorem Rel.put0 (h : Rel P S0 W S gv fr a w) {v : AV} {val : Value} (hv : SV P S gv fr.obj v val) (dst : Option Tmp) : Rel P S0 W S gv (fr.put dst v [] []) (a.put dst val) w where
  below := h.below
  agree := h.agree
  ext := h.ext
  fresh := h.fresh
  held := h.held
  len := by rw [put_tmps_size, h.len]; simp [Fr.put, setD_length]
  obl := by simpa [Fr.put, setD_length, applyU] using h.obl
  defers := by rw [put_defers]; exact h.defers
  slot := slot_put h.len h.slot hv
  objs := h.objs
  dis := h.dis

/-- The variables that functions read as tables: what their cells hold, and that there are no more of them. -/
def GlobOk (G : Nat → Option (List AV)) (S : Stab) (w : World) : Prop := ∀ g cs, G g = some cs → V S (.eptr cs 0) (.pointer (some ⟨g, 0, none⟩)) ∧ ∃ arr t f, w.heap[g]? = some (.cells arr t f) ∧ arr.size = cs.length
theorem GlobOk.mono {G : Nat → Option (List AV)} {S S' : Stab} {w w' : World} (h : GlobOk G S w) (hle : S.le S') (hb : Below w.heap.size w w') : GlobOk G S' w' := fun g cs hg => by
  obtain ⟨h1, arr, t, f, h2, h3⟩ := h g cs hg
  refine ⟨h1.mono hle, arr, t, f, ?_, h3⟩
  rw [hb.block g (Array.getElem?_eq_some_iff.1 h2).1]
  exact h2

/-- The same, of a call's beginning: no such variable was handed to it. -/
def GlobE (G : Nat → Option (List AV)) (S : Stab) (W : Ent) : Prop := GlobOk G S W.w ∧ ∀ g cs, G g = some cs → g ∉ W.x
theorem GlobE.mono {G : Nat → Option (List AV)} (h : GlobE G S0 W) (hle : S0.le S) (hb : BelX W w) : GlobOk G S w := fun g cs hg => by
  obtain ⟨h1, arr, t, f, h2, h3⟩ := h.1 g cs hg
  refine ⟨h1.mono hle, arr, t, f, ?_, h3⟩
  rw [hb.block g (Array.getElem?_eq_some_iff.1 h2).1 (h.2 g cs hg)]
  exact h2
theorem GlobE.lt {G : Nat → Option (List AV)} (h : GlobE G S0 W) {g : Nat} {cs : List AV} (hg : G g = some cs) : ¬ W.own g := by
  obtain ⟨h1, arr, t, f, h2, h3⟩ := h.1 g cs hg
  have := (Array.getElem?_eq_some_iff.1 h2).1
  rintro (h | h')
  · omega
  · exact h.2 g cs hg h'

theorem ofConst1_ok (v : Value) : SV1 P S gv ob (ofConst1 v) v := by
  cases v with
  | bool b => exact V.bool b
  | int k n => exact V.int k n
  | string s => exact V.str s
  | pointer q => cases q with
    | none => exact V.nilp
    | some _ => trivial
  | slice q l c => cases q with
    | none =>
      cases l with
      | zero => cases c with
        | zero => exact V.nils
        | succ _ => trivial
      | succ _ => trivial
    | some _ => trivial
  | nilFunc => exact V.nilf
  | nilIface => exact V.nili
  | map q => cases q with
    | none => exact V.nilm
    | some _ => trivial
  | _ => trivial
theorem ofConst1_isC (v : Value) : (ofConst1 v).isC = false := by
  unfold ofConst1; split <;> rfl
theorem ofConst_ok (v : Value) : SV P S gv ob (ofConst v) v := by
  by_cases hv : ∃ cs, v = .agg cs
  · obtain ⟨cs, rfl⟩ := hv
    simp only [ofConst]
    cases hc : cs.toList.all Value.oneCell' with
    | false => trivial
    | true =>
      refine ⟨cs.toList, rfl, by simp, fun u hu => List.all_eq_true.1 hc u hu, fun j c u h1 h2 => ?_⟩
      rw [List.getElem?_map, h2] at h1
      simp only [Option.map_some, Option.some.injEq] at h1
      subst h1
      exact ofConst1_ok u
  · have : ofConst v = ofConst1 v := by cases v <;> first | rfl | (exact absurd ⟨_, rfl⟩ hv)
    rw [this, SV_eq (ofConst1_isC v)]
    exact ofConst1_ok v

theorem val_ok {C : Cfg} (h : Rel P S0 W S gv fr a w) (hg : GlobE C.glob S0 W) (x : Operand) : SV P S gv fr.obj (fr.val C x) (a.eval x) := by
  cases x with
  | tmp t =>
    by_cases ht : t < fr.sl.length
    · exact h.slot t ht
    · have : fr.val C (.tmp t) = .junk := by simp [Fr.val, Fr.get, List.getD_eq_getElem?_getD, List.getElem?_eq_none (Nat.le_of_not_lt ht)]
      rw [this]; trivial
  | const v => exact ofConst_ok v
  | global g =>
    simp only [Fr.val, Act.eval]
    cases hc : C.glob g with
    | none => trivial
    | some cs => exact ((hg.1 g cs hc).1.mono h.ext).toSV
  | func f => exact (V.func _ [] [] [] [] rfl rfl (fun j c v hc => by simp at hc) (fun j c v hc => by simp at hc)).toSV

theorem restr_some {l : List Nat} {σ : Nat → Option Ob} {r : Nat} {o : Ob} (h : restr l σ r = some o) : σ r = some o := by
  unfold restr at h
  cases hc : l.contains r
  · rw [hc] at h; cases h
  · rw [hc] at h; exact h

/-- An operation that only computes. -/
theorem wp_value {o : Oper} {next : Act → World → Prop} {Q : Exit → Act → World → Prop} {val : Value} (hrun : (execOp a.eval o).run P w = .ok (.value val) w') (hn : next (a.put o.dst val) w') : o.wp P a w next Q := by
  unfold Oper.wp
  rw [hrun]
  exact hn
theorem wp_skip' {o : Oper} {next : Act → World → Prop} {Q : Exit → Act → World → Prop} (hrun : (execOp a.eval o).run P w = .ok .skip w') (hn : next (a.put o.dst undef) w') : o.wp P a w next Q := by
  unfold Oper.wp
  rw [hrun]
  exact hn

/-! Scalars out of the relation. -/
theorem SV.bool {b : Bool} {v : Value} (h : SV P S gv ob (.bool b) v) : v = .bool b := by cases (show V S _ _ from h); rfl
theorem SV.int {k : IntKind} {n : Int} {v : Value} (h : SV P S gv ob (.int k n) v) : v = .int k n := by cases (show V S _ _ from h); rfl
theorem SV.str {s : ByteArray} {v : Value} (h : SV P S gv ob (.str s) v) : v = .string s := by cases (show V S _ _ from h); rfl

theorem run_eqGuard_int (op : BinOp) (t : TypeId) (x y : Operand) (k k' : IntKind) (m n : Int) : (eqGuard op t x y (.int k m) (.int k' n)).run P w = .ok () w := by
  unfold eqGuard; cases op <;> rfl
theorem run_eqGuard_str (op : BinOp) (t : TypeId) (x y : Operand) (s s' : ByteArray) : (eqGuard op t x y (.string s) (.string s')).run P w = .ok () w := by
  unfold eqGuard; cases op <;> rfl
theorem run_eqGuard_bool (op : BinOp) (t : TypeId) (x y : Operand) (s s' : Bool) : (eqGuard op t x y (.bool s) (.bool s')).run P w = .ok () w := by
  unfold eqGuard; cases op <;> rfl

theorem beq_int (a b : Int) : (a == b) = decide (a = b) := by rw [Bool.eq_iff_iff]; simp
theorem toList_beq (a b : ByteArray) : (a.toList == b.toList) = decide (a = b) := by
  rw [Bool.eq_iff_iff]
  simp only [beq_iff_eq, decide_eq_true_eq]
  constructor
  · intro h
    rw [ByteArray.toList_eq, ByteArray.toList_eq] at h
    cases a; cases b; simpa using h
  · rintro rfl; rfl
theorem some_of_bif {c : Bool} {x : Option β} {r : β} (h : (bif c then x else none) = some r) : c = true ∧ x = some r := by
  cases c
  · cases h
  · exact ⟨rfl, h⟩
theorem some_of_bif' {c : Bool} {x : Option β} {r : β} (h : (bif c then none else x) = some r) : c = false ∧ x = some r := by
  cases c
  · exact ⟨rfl, h⟩
  · cases h

theorem intOp_ok {op : BinOp} {k : IntKind} {m n : Int} {K : AV → Option β} {r : β} (h : intOp op k m n K = some r) (t : TypeId) (hs : op ≠ .shl ∧ op ≠ .shr) :
    ∃ v val, (binOp op t (.int k m) (.int k n)).run P w = .ok val w ∧ V S v val ∧ K v = some r := by
  cases op <;> simp only [intOp] at h <;> first | (cases h; done) | skip
  case quo =>
    obtain ⟨h0, h⟩ := some_of_bif' h
    exact ⟨_, _, by simp [binOp, Op.intDiv, of_decide_eq_false h0], .int _ _, h⟩
  case rem =>
    obtain ⟨h0, h⟩ := some_of_bif' h
    exact ⟨_, _, by simp [binOp, Op.intDiv, of_decide_eq_false h0], .int _ _, h⟩
  case eql => exact ⟨_, _, by simp only [binOp, Op.intCmp, beq_int, ne_eq, not_true_eq_false, if_false]; rfl, .bool _, h⟩
  case neq => exact ⟨_, _, by simp only [binOp, Op.intCmp, bne, beq_int, ne_eq, not_true_eq_false, if_false]; rfl, .bool _, h⟩
  all_goals first
    | exact ⟨_, _, by simp only [binOp, Op.intArith, Op.intBits, Op.intCmp, ne_eq, not_true_eq_false, if_false]; rfl, .int _ _, h⟩
    | exact ⟨_, _, by simp only [binOp, Op.intArith, Op.intBits, Op.intCmp, ne_eq, not_true_eq_false, if_false]; rfl, .bool _, h⟩
theorem strOp_ok {op : BinOp} {m n : ByteArray} {K : AV → Option β} {r : β} (h : strOp op m n K = some r) (t : TypeId) :
    ∃ v val, (binOp op t (.string m) (.string n)).run P w = .ok val w ∧ V S v val ∧ K v = some r := by
  cases op <;> simp only [strOp] at h <;> first | (cases h; done) | skip
  case add =>
    obtain ⟨h0, h⟩ := some_of_bif h
    have h0 := of_decide_eq_true h0
    refine ⟨_, _, ?_, .str _, h⟩
    have : ¬ (((m.size + n.size : Nat) : Int) > IntKind.i64.max) := by simp [IntKind.max, IntKind.signed, IntKind.bits]; omega
    simp only [binOp, Op.stringOp, if_neg this]
    rfl
  all_goals exact ⟨_, _, by simp only [binOp, Op.stringOp, toList_beq]; rfl, .bool _, h⟩

theorem run_isAgg (T : TypeId) {d : TypeDesc} (h : P.underlying T = some d) : (isAgg T).run P w = .ok (isAggT P T) w := by
  unfold isAgg isAggT
  rw [Sem.run_bind, run_underlying h w, h]
  cases d <;> rfl
theorem leafEq_ok {T : TypeId} {x y : AV} {q : Bool} (h : leafEq P T x y = some q) {xv yv : Value} (hx : SV1 P S gv ob x xv) (hy : SV1 P S gv ob y yv) (d : Nat) :
    (Op.equalIn (d + 1) T xv yv).run P w = .ok q w ∧ isAggT P T = false := by
  unfold leafEq at h
  unfold isAggT
  split at h
  · rename_i hu
    split at h
    · cases (show V S _ _ from hx); cases (show V S _ _ from hy)
      cases h
      exact ⟨run_equalIn_bool w d T _ _ hu, by rw [hu]⟩
    · cases h
  · rename_i hu
    split at h
    · cases (show V S _ _ from hx); cases (show V S _ _ from hy)
      obtain ⟨h0, h'⟩ := some_of_bif h
      have h0 := of_decide_eq_true h0
      subst h0
      cases h'
      exact ⟨by rw [run_equalIn_int w d T _ _ _ _ hu, beq_int], by rw [hu]⟩
    · cases h
  · rename_i hu
    split at h
    · cases (show V S _ _ from hx); cases (show V S _ _ from hy)
      cases h
      exact ⟨by rw [run_equalIn_string w d T _ _ hu, toList_beq], by rw [hu]⟩
    · cases h
  · cases h
theorem fieldsEq_ok (d : Nat) (xv yv : List Value) : ∀ {k : Nat} {fs : List Field} {xs ys : List AV} {q : Bool}, fieldsEq P k fs xs ys = some q →
    (∀ (j : Nat) (c : AV), xs[j]? = some c → ∃ u, xv[k + j]? = some u ∧ SV1 P S gv ob c u) → (∀ (j : Nat) (c : AV), ys[j]? = some c → ∃ u, yv[k + j]? = some u ∧ SV1 P S gv ob c u) →
    (Op.eqFields (d + 1) xv.toArray yv.toArray fs).run P w = .ok q w
  | k, [], [], [], q, h, _, _ => by cases h; rfl
  | k, f :: fs, x :: xs, y :: ys, q, h, hx, hy => by
    simp only [fieldsEq] at h
    obtain ⟨h0, h⟩ := some_of_bif h
    simp only [Bool.and_eq_true, bne_iff_ne, beq_iff_eq] at h0
    obtain ⟨q1, e1, h⟩ := Option.bind_eq_some_iff.1 h
    obtain ⟨q2, e2, h⟩ := Option.bind_eq_some_iff.1 h
    cases h
    obtain ⟨u, hu, su⟩ := hx 0 x rfl
    obtain ⟨v, hv, sv⟩ := hy 0 y rfl
    obtain ⟨r1, hag⟩ := leafEq_ok (w := w) e1 su sv d
    have ih := fieldsEq_ok d xv yv e2 (fun j c hc => by have := hx (j + 1) c (by simpa using hc); rw [show k + 1 + j = k + (j + 1) from by omega]; exact this) (fun j c hc => by have := hy (j + 1) c (by simpa using hc); rw [show k + 1 + j = k + (j + 1) from by omega]; exact this)
    have hud : ∃ dd, P.underlying f.type = some dd := by
      cases hh : P.underlying f.type with
      | none => simp [leafEq, hh] at e1
      | some dd => exact ⟨dd, rfl⟩
    obtain ⟨dd, hud⟩ := hud
    have hp : ∀ (cs : List Value) (z : Value), cs[k]? = some z → (part f.type cs.toArray f.offset).run P w = .ok z w := by
      intro cs z hz
      simp only [part, Sem.run_bind, run_isAgg f.type hud, hag, Result.andThen_ok, Bool.false_eq_true, if_false, h0.2, List.getElem?_toArray, hz]
      rfl
    simp only [Op.eqFields, h0.1, ne_eq, not_false_eq_true, if_true, Sem.run_bind, hp xv u (by simpa using hu), hp yv v (by simpa using hv), Result.andThen_ok, r1]
    cases q1 with
    | true => simpa using ih
    | false => simp
theorem aggEq_ok {T : TypeId} {xs ys : List AV} {q : Bool} (h : aggEq P T xs ys = some q) {xv yv : Value} (hx : SV P S gv ob (.agg xs) xv) (hy : SV P S gv ob (.agg ys) yv) (op : BinOp) (xo yo : Operand) :
    ∃ xa ya, xv = .agg xa ∧ yv = .agg ya ∧ (Op.equalIn 10000 T (.agg xa) (.agg ya)).run P w = .ok q w ∧ (eqGuard op T xo yo (.agg xa) (.agg ya)).run P w = .ok () w := by
  obtain ⟨xl, rfl, hl, -, hx⟩ := hx
  obtain ⟨yl, rfl, hl', -, hy⟩ := hy
  unfold aggEq at h
  split at h
  · rename_i fs hu
    obtain ⟨h0, h⟩ := some_of_bif' h
    simp only [Bool.or_eq_false_iff] at h0
    have hf : P.fieldsOf T = fs := by simp [Program.fieldsOf, hu]
    refine ⟨_, _, rfl, rfl, ?_, ?_⟩
    · rw [run_equalIn_struct w 9999 T _ _ (by rw [hf]; exact hu) h0.1, hf]
      refine fieldsEq_ok (S := S) (gv := gv) (ob := ob) 9998 xl yl h (fun j c hc => ?_) (fun j c hc => ?_)
      · have hlt : j < xl.length := by rw [← hl]; exact (List.getElem?_eq_some_iff.1 hc).1
        exact ⟨xl[j], by simp [List.getElem?_eq_getElem hlt], hx j c _ hc (List.getElem?_eq_getElem hlt)⟩
      · have hlt : j < yl.length := by rw [← hl']; exact (List.getElem?_eq_some_iff.1 hc).1
        exact ⟨yl[j], by simp [List.getElem?_eq_getElem hlt], hy j c _ hc (List.getElem?_eq_getElem hlt)⟩
    · unfold eqGuard
      cases op <;> first | rfl | simp [h0.2]
  · cases h
theorem nilOp_ok {op : BinOp} {T : TypeId} {xo yo : Operand} {x : AV} {K : AV → Option β} {r : β} (h : nilOp P op T yo x K = some r) {xv : Value} (hx : SV P S gv ob x xv) :
    ∃ v val, (do eqGuard op T xo yo xv .nilIface; binOp op T xv .nilIface : Sem Value).run P w = .ok val w ∧ SV P S gv ob v val ∧ K v = some r := by
  unfold nilOp at h
  split at h
  · rename_i ms hu
    have hm : P.underlying T = some (.interface (P.methodsAt T)) := by rw [hu]; simp [Program.methodsAt, hu]
    split at h
    · rename_i c
      have go : ∀ (q : Bool), (∀ w : World, (Op.equal T xv .nilIface).run P w = .ok q w) → (∀ w : World, (eqGuard op T xo (.const c) xv .nilIface).run P w = .ok () w) → (op = .eql ∧ K (.bool q) = some r ∨ op = .neq ∧ K (.bool !q) = some r) → ∃ v val, (do eqGuard op T xo (.const c) xv .nilIface; binOp op T xv .nilIface : Sem Value).run P w = .ok val w ∧ SV P S gv ob v val ∧ K v = some r := by
        intro q he hg h
        simp only [Sem.run_bind, hg, Result.andThen_ok]
        rcases h with ⟨rfl, hh⟩ | ⟨rfl, hh⟩
        · exact ⟨_, _, by simp only [binOp, Sem.run_bind, he, Result.andThen_ok]; rfl, (V.bool _).toSV, hh⟩
        · exact ⟨_, _, by simp only [binOp, Sem.run_bind, he, Result.andThen_ok]; rfl, (V.bool _).toSV, hh⟩
      cases op <;> first | (cases h; done) | skip
      · cases x <;> first | (cases h; done) | skip
        · cases (show V S _ _ from hx)
          exact go true (fun w => run_equal_nil_nil w T hm) (fun w => by unfold eqGuard; cases xo <;> rfl) (.inl ⟨rfl, h⟩)
        · cases (show V S _ _ from hx)
          exact go false (fun w => run_equal_held_nil w T _ _ hm) (fun w => by unfold eqGuard; rfl) (.inl ⟨rfl, h⟩)
      · cases x <;> first | (cases h; done) | skip
        · cases (show V S _ _ from hx)
          exact go true (fun w => run_equal_nil_nil w T hm) (fun w => by unfold eqGuard; cases xo <;> rfl) (.inr ⟨rfl, h⟩)
        · cases (show V S _ _ from hx)
          exact go false (fun w => run_equal_held_nil w T _ _ hm) (fun w => by unfold eqGuard; rfl) (.inr ⟨rfl, h⟩)
    · cases h
  · cases h
theorem bop_ok {op : BinOp} {T : TypeId} {xo yo : Operand} {x y : AV} {K : AV → Option β} {r : β} (h : bop P op T xo yo x y K = some r) {xv yv : Value} (hx : SV P S gv ob x xv) (hy : SV P S gv ob y yv) :
    ∃ v val, (do eqGuard op T xo yo xv yv; binOp op T xv yv : Sem Value).run P w = .ok val w ∧ SV P S gv ob v val ∧ K v = some r := by
  unfold bop at h
  split at h
  · cases (show V S _ _ from hy)
    exact nilOp_ok h hx
  split at h
  · rename_i k m k' n _
    rw [hx.int, hy.int]
    simp only [Sem.run_bind, run_eqGuard_int, Result.andThen_ok]
    split at h
    · obtain ⟨h0, h⟩ := some_of_bif' h
      exact ⟨_, _, by simp only [binOp, Op.shift, if_neg (of_decide_eq_false h0)]; rfl, (V.int _ _).toSV, h⟩
    · obtain ⟨h0, h⟩ := some_of_bif' h
      exact ⟨_, _, by simp only [binOp, Op.shift, if_neg (of_decide_eq_false h0)]; rfl, (V.int _ _).toSV, h⟩
    · rename_i n1 n2
      obtain ⟨h0, h'⟩ := some_of_bif h
      clear h
      have h0 := of_decide_eq_true h0
      subst h0
      obtain ⟨v, val, h1, h2, h3⟩ := intOp_ok (P := P) (w := w) (S := S) h' T ⟨n1, n2⟩
      exact ⟨v, val, h1, h2.toSV, h3⟩
  · rename_i m n _
    rw [hx.str, hy.str]
    simp only [Sem.run_bind, run_eqGuard_str, Result.andThen_ok]
    obtain ⟨v, val, h1, h2, h3⟩ := strOp_ok (P := P) (w := w) (S := S) h T
    exact ⟨v, val, h1, h2.toSV, h3⟩
  · rename_i m n _
    rw [hx.bool, hy.bool]
    simp only [Sem.run_bind, run_eqGuard_bool, Result.andThen_ok]
    cases hu : P.underlying T with
    | none => rw [hu] at h; cases h
    | some d =>
      rw [hu] at h
      cases d <;> first | (cases h; done) | skip
      have he : ∀ w : World, (Op.equal T (.bool m) (.bool n)).run P w = .ok (m == n) w := fun w => run_equal_bool w T m n hu
      cases op <;> first | (cases h; done) | skip
      · exact ⟨_, _, by simp only [binOp, Sem.run_bind, he, Result.andThen_ok]; rfl, (V.bool _).toSV, h⟩
      · exact ⟨_, _, by simp only [binOp, Sem.run_bind, he, Result.andThen_ok]; rfl, (V.bool _).toSV, h⟩
  · split at h
    · obtain ⟨q, e, h⟩ := Option.bind_eq_some_iff.1 h
      obtain ⟨xa, ya, rfl, rfl, h1, h2⟩ := aggEq_ok (w := w) e hx hy .eql xo yo
      exact ⟨_, _, by simp only [Sem.run_bind, h2, Result.andThen_ok, run_eql_struct, h1], (V.bool _).toSV, h⟩
    · obtain ⟨q, e, h⟩ := Option.bind_eq_some_iff.1 h
      obtain ⟨xa, ya, rfl, rfl, h1, h2⟩ := aggEq_ok (w := w) e hx hy .neq xo yo
      exact ⟨_, _, by simp only [Sem.run_bind, h2, Result.andThen_ok, run_neq_struct, h1], (V.bool _).toSV, h⟩
    · cases h
  · cases h
theorem uop_ok {op : UnOp} {x : AV} {K : AV → Option β} {r : β} (h : uop op x K = some r) {xv : Value} (hx : SV P S gv ob x xv) :
    ∃ v val, (Op.unary op xv).run P w = .ok val w ∧ SV P S gv ob v val ∧ K v = some r := by
  unfold uop at h
  split at h
  · rw [hx.int]; exact ⟨_, _, by simp only [Op.unary, Op.intArith]; rfl, (V.int _ _).toSV, h⟩
  · rw [hx.int]; exact ⟨_, _, by simp only [Op.unary, Op.intBits]; rfl, (V.int _ _).toSV, h⟩
  · rw [hx.bool]; exact ⟨_, _, by simp only [Op.unary]; rfl, (V.bool _).toSV, h⟩
  · cases h

/-! Values at types. -/
theorem SV1.notC {c : AV} {u : Value} (h : SV1 P S gv ob c u) (h1 : u.oneCell' = true) : c.isC = false := by
  cases c <;> first | rfl | skip
  · cases (show V S _ _ from h); simp [Value.oneCell'] at h1
  · cases (show V S _ _ from h)
theorem cast1_ok {T : TypeId} {v : AV} {K : AV → Option β} {r : β} (h : cast1 P T v K = some r) {val : Value} (hv : SV1 P S gv ob v val) :
    (∃ d, P.underlying T = some d) ∧ ∃ v', K v' = some r ∧ SV1 P S gv ob v' val ∧ v'.names = v.names ∧ (v.isC = false → v'.isC = false) ∧ (v.leaf = true → v'.leaf = true) := by
  unfold cast1 at h
  split at h
  · rename_i hu
    refine ⟨⟨_, hu⟩, ?_⟩
    split at h
    · exact ⟨_, h, hv, rfl, fun h => h, fun h => h⟩
    · cases h
  · rename_i hu
    refine ⟨⟨_, hu⟩, ?_⟩
    split at h
    · obtain ⟨h0, h'⟩ := some_of_bif h
      clear h
      have h0 := of_decide_eq_true h0
      subst h0
      exact ⟨_, h', hv, rfl, fun h => h, fun h => h⟩
    · cases h
  · rename_i hu
    refine ⟨⟨_, hu⟩, ?_⟩
    split at h
    · exact ⟨_, h, hv, rfl, fun h => h, fun h => h⟩
    · cases h
  · rename_i hu
    refine ⟨⟨_, hu⟩, ?_⟩
    split at h
    · obtain ⟨h0, h'⟩ := some_of_bif h
      clear h
      have h0 := beq_iff_eq.1 h0
      subst h0
      exact ⟨_, h', hv, rfl, fun h => h, fun h => h⟩
    · exact ⟨_, h, hv, rfl, fun h => h, fun h => h⟩
    · exact ⟨_, h, hv, rfl, fun h => h, fun h => h⟩
    · exact ⟨_, h, hv, rfl, fun h => h, fun h => h⟩
    · cases h
  · rename_i hu
    exact ⟨⟨_, hu⟩, _, h, hv, rfl, fun h => h, fun h => h⟩
  · cases h

theorem castPre_ok : ∀ {ts : List TypeId} {cs : List AV} {K : List AV → Option β} {r : β}, castPre P ts cs K = some r → ∀ {f : Nat → Value}, (∀ (j : Nat) (c : AV), cs[j]? = some c → SV1 P S gv ob c (f j)) →
    ∃ l, K l = some r ∧ l.length = ts.length ∧ ts.length ≤ cs.length ∧ (∀ (j : Nat) (c : AV), l[j]? = some c → SV1 P S gv ob c (f j))
  | [], cs, K, r, h, f, hm => ⟨[], h, rfl, Nat.zero_le _, by simp⟩
  | t :: ts, [], K, r, h, f, hm => by cases h
  | t :: ts, c :: cs, K, r, h, f, hm => by
    simp only [castPre] at h
    obtain ⟨_, c', h, sc, _⟩ := cast1_ok h (hm 0 c rfl)
    obtain ⟨l, h, hl, hle, hs⟩ := castPre_ok h (f := fun j => f (j + 1)) (fun j c hc => hm (j + 1) c (by simpa using hc))
    refine ⟨c' :: l, h, by simp [hl], by simp [hle], fun j c'' hc => ?_⟩
    cases j with
    | zero =>
      simp only [List.getElem?_cons_zero, Option.some.injEq] at hc
      subst hc; exact sc
    | succ j => exact hs j c'' (by simpa using hc)
theorem run_sizeOf {T : TypeId} {d : TypeDesc} (h : P.underlying T = some d) : (sizeOf T).run P w = .ok (P.cellsOf T) w := by
  unfold Program.underlying at h
  unfold Program.cellsOf
  cases hi : P.info? T with
  | none => rw [hi] at h; cases h
  | some i => simp [sizeOf, typeInfo, hi]
/-- A variable's value out of its cells. -/
theorem loadT_ok {T : TypeId} {cs : List AV} {K : AV → Option β} {r : β} (h : loadT P T cs K = some r) (p : Addr)
    (hm : ∀ (j : Nat) (c : AV), cs[j]? = some c → ∃ u, w.cell? (p.add j) = some u ∧ u.oneCell' = true ∧ SV1 P S gv ob c u) :
    ∃ v val, (loadVar T p).run P w = .ok val w ∧ SV P S gv ob v val ∧ K v = some r := by
  unfold loadT at h
  have hf : ∀ (j : Nat) (c : AV), cs[j]? = some c → w.cell? (p.add j) = some ((w.cell? (p.add j)).getD undef) ∧ ((w.cell? (p.add j)).getD undef).oneCell' = true ∧ SV1 P S gv ob c ((w.cell? (p.add j)).getD undef) := by
    intro j c hc
    obtain ⟨u, h1, h2, h3⟩ := hm j c hc
    rw [h1]; exact ⟨rfl, h2, h3⟩
  cases ha : isAggT P T with
  | true =>
    rw [ha] at h
    obtain ⟨h0, h⟩ := some_of_bif h
    have h0 := beq_iff_eq.1 h0
    obtain ⟨l, h, hl, hle, hs⟩ := castPre_ok h (fun j c hc => (hf j c hc).2.2)
    have hu : ∃ d, P.underlying T = some d := by
      unfold isAggT at ha
      cases hh : P.underlying T with
      | none => rw [hh] at ha; cases ha
      | some d => exact ⟨d, rfl⟩
    obtain ⟨d, hu⟩ := hu
    have hlt : ∀ j, j < P.cellsOf T → j < cs.length := fun j hj => by omega
    refine ⟨.agg l, .agg ((List.range (P.cellsOf T)).map fun j => (w.cell? (p.add j)).getD undef).toArray, ?_, ⟨_, rfl, by simp [hl, h0], fun u hu => ?_, fun j c u hc hu => ?_⟩, h⟩
    · simp only [loadVar, Sem.run_bind, run_isAgg T hu, ha, Result.andThen_ok, if_true, run_sizeOf hu]
      rw [run_loadCells w p (P.cellsOf T) _ (fun j hj => (hf j cs[j] (List.getElem?_eq_getElem (hlt j hj))).1)]
      rfl
    · obtain ⟨j, hj, rfl⟩ := List.mem_map.1 hu
      have hj := hlt j (List.mem_range.1 hj)
      exact (hf j cs[j] (List.getElem?_eq_getElem hj)).2.1
    · rw [List.getElem?_map] at hu
      obtain ⟨i, hi, rfl⟩ := Option.map_eq_some_iff.1 hu
      obtain ⟨_, rfl⟩ := List.getElem?_eq_some_iff.1 hi
      simp only [List.getElem_range]
      exact hs _ c hc
  | false =>
    rw [ha] at h
    simp only [cond_false] at h
    cases cs with
    | nil => cases h
    | cons c cs =>
      obtain ⟨u, e1, e2, e3⟩ := hm 0 c rfl
      obtain ⟨⟨d, hu⟩, v', h, sv, hn, hC, _⟩ := cast1_ok h e3
      have hz : p.add 0 = p := by simp [Addr.add]
      rw [hz] at e1
      refine ⟨v', u, ?_, ?_, h⟩
      · simp only [loadVar, Sem.run_bind, run_isAgg T hu, ha, Result.andThen_ok, Bool.false_eq_true, if_false, run_load, e1]
      · rw [SV_eq (hC (e3.notC e2))]; exact sv

/-! Places. -/
theorem add_lit' (g o n : Nat) : (⟨g, o, none⟩ : Addr).add n = ⟨g, o + n, none⟩ := Addr.add_lit g o n
theorem fieldOf_some {T : TypeId} {f : Nat} {fd : Field} (h : fieldOf P T f = some fd) : ∃ fs, P.underlying T = some (.struct fs) ∧ fs[f]? = some fd := by
  unfold fieldOf at h
  split at h
  · rename_i fs hu; exact ⟨fs, hu, by simpa using h⟩
  · cases h
theorem run_fieldPlace {fd : Field} (hz : (P.cellsOf fd.type == 0) = false) (hi : ∃ i, P.info? fd.type = some i) (p : Addr) : (fieldPlace p fd).run P w = .ok (p.add fd.offset) w := by
  obtain ⟨i, hi⟩ := hi
  have : (i.size = 0) = False := by
    have h := beq_eq_false_iff_ne.1 hz
    simp [Program.cellsOf, hi] at h
    simp [h]
  simp [fieldPlace, sizeOf, typeInfo, hi, this]
theorem info_of_cells {T : TypeId} (h : (P.cellsOf T == 0) = false) : ∃ i, P.info? T = some i := by
  cases hi : P.info? T with
  | none => simp [Program.cellsOf, hi] at h
  | some i => exact ⟨i, rfl⟩
theorem fieldAddrK_ok {σ : Nat → Option Ob} (hσ : ∀ r o, σ r = some o → ob r = some o) {T : TypeId} {f : Nat} {x : AV} {K : AV → Option β} {r : β} (h : fieldAddrK P σ T x f K = some r) {xv : Value} (hx : SV P S gv ob x xv) :
    ∃ v val, (Instr.fieldAt T xv f).run P w = .ok val w ∧ SV P S gv ob v val ∧ K v = some r := by
  unfold fieldAddrK at h
  cases hf : fieldOf P T f with
  | none => rw [hf] at h; cases h
  | some fd =>
    rw [hf] at h
    obtain ⟨h0, h⟩ := some_of_bif' h
    obtain ⟨fs, hu, hfs⟩ := fieldOf_some hf
    have hrun : ∀ p : Addr, (Instr.fieldAt T (.pointer (some p)) f).run P w = .ok (.pointer (some (p.add fd.offset))) w := by
      intro p
      simp only [Instr.fieldAt, Sem.run_bind, run_underlying hu, Result.andThen_ok, hfs, Instr.sureAddr, Sem.run_pure, run_fieldPlace h0 (info_of_cells h0)]
    cases x with
    | loc r off =>
      obtain ⟨h1, h⟩ := some_of_bif h
      unfold isBox at h1
      split at h1
      · rename_i o hb
        obtain ⟨_, hx⟩ := (show SV1 P S gv ob (.loc r off) xv from hx)
        obtain ⟨g, hg, rfl⟩ := hx o (hσ _ _ hb) h1
        refine ⟨.loc r (off + fd.offset), _, hrun _, ⟨rfl, fun o' hc hB => ⟨g, hg, by rw [add_lit']⟩⟩, h⟩
      · cases h1
    | rloc r i off =>
      obtain ⟨h1, h⟩ := some_of_bif h
      unfold isRow at h1
      split at h1
      · rename_i e xs fz hb
        obtain ⟨_, hx⟩ := (show SV1 P S gv ob (.rloc r i off) xv from hx)
        obtain ⟨hi, g, m, c, hg, rfl⟩ := hx e xs fz (hσ _ _ hb)
        refine ⟨.rloc r i (off + fd.offset), _, hrun _, ⟨rfl, fun e' xs' fz' hc => ?_⟩, h⟩
        obtain ⟨hi', g', m', c', hg', hv'⟩ := hx e' xs' fz' hc
        refine ⟨hi', g', m', c', hg', ?_⟩
        rw [hg] at hg'
        cases hg'
        rw [hσ _ _ hb] at hc
        cases hc
        rw [add_lit', Nat.add_assoc]
      · cases h1
    | eptr cs off =>
      cases (show V S _ _ from hx) with
      | eptr _ _ p f h2 h3 h4 =>
        refine ⟨_, _, hrun _, ?_, h⟩
        rw [Go.Deep.add_add]
        exact (V.eptr cs (off + fd.offset) p f h2 h3 h4).toSV
    | _ => cases h
theorem idxOf_ok {i : AV} {n : Nat} {K : Nat → Option β} {r : β} (h : idxOf i n K = some r) {iv : Value} (hi : SV P S gv ob i iv) : ∃ (k : IntKind) (z : Int), iv = .int k z ∧ 0 ≤ z ∧ z < n ∧ K z.toNat = some r := by
  unfold idxOf at h
  split at h
  · obtain ⟨h0, h⟩ := some_of_bif h
    simp only [Bool.and_eq_true, decide_eq_true_eq] at h0
    exact ⟨_, _, hi.int, h0.1, h0.2, h⟩
  · cases h
theorem run_indexAt_slice' {t e : TypeId} (hu : P.underlying t = some (.slice e)) (hi : ∃ i, P.info? e = some i) (a : Addr) (len cap : Nat) (k : IntKind) (z : Int) (h0 : 0 ≤ z) (h1 : z < len) :
    (Instr.indexAt t (.slice (some a) len cap) (.int k z)).run P w = .ok (.pointer (some (a.add (z.toNat * P.cellsOf e)))) w := by
  obtain ⟨i, hi⟩ := hi
  simp [Instr.indexAt, asIntOf, run_underlying hu, h0, h1, sizeOf, typeInfo, hi, Program.cellsOf]
theorem run_indexAt_array' {t e : TypeId} {n : Nat} (hu : P.underlying t = some (.array n e)) (hi : ∃ i, P.info? e = some i) (a : Addr) (k : IntKind) (z : Int) (h0 : 0 ≤ z) (h1 : z < n) :
    (Instr.indexAt t (.pointer (some a)) (.int k z)).run P w = .ok (.pointer (some (a.add (z.toNat * P.cellsOf e)))) w := by
  obtain ⟨i, hi⟩ := hi
  simp [Instr.indexAt, asIntOf, run_underlying hu, h0, h1, sizeOf, typeInfo, hi, Program.cellsOf, Instr.sureAddr]
theorem castP1_id {T : TypeId} {v : AV} {K : AV → Option β} {r : β} (h : castP1 P T v K = some r) : K v = some r := by
  unfold castP1 at h
  split at h
  · unfold atBool at h; split at h
    · exact h
    · cases h
  · unfold atInt at h; split at h
    · have h0 := of_decide_eq_true (some_of_bif h).1
      subst h0
      exact (some_of_bif h).2
    · cases h
  · unfold atStr at h; split at h
    · exact h
    · cases h
  · unfold atList at h; split at h
    · have h0 := beq_iff_eq.1 (some_of_bif h).1
      subst h0
      exact (some_of_bif h).2
    · cases h
  · exact h
  · cases h
theorem run_index_agg {T e : TypeId} {n : Nat} (hu : P.underlying T = some (.array n e)) (hi : ∃ i, P.info? e = some i) (ha : isAggT P e = false) (he : (P.underlying e).isSome = true) (us : Array Value) (k : IntKind) (z : Int) (h0 : 0 ≤ z) (h1 : z < n) (hc : P.cellsOf e = 1) {u : Value} (hz : us[z.toNat]? = some u) :
    (Instr.index T (.agg us) (.int k z)).run P w = .ok u w := by
  obtain ⟨i, hi⟩ := hi
  obtain ⟨d, hd⟩ := Option.isSome_iff_exists.1 he
  have hs : i.size = 1 := by simpa [Program.cellsOf, hi] using hc
  have hz' : us[z.toNat * 1]? = some u := by rw [Nat.mul_one]; exact hz
  unfold isAggT at ha
  rw [hd] at ha
  cases d <;> first
    | (cases ha; done)
    | (simp [Instr.index, asIntOf, run_underlying hu, h0, h1, part, isAgg, run_underlying hd, sizeOf, typeInfo, hi, hs, hz])
theorem indexK_ok {T : TypeId} {x i : AV} {K : AV → Option β} {r : β} (h : indexK P T x i K = some r) {xv iv : Value} (hx : SV P S gv ob x xv) (hi : SV P S gv ob i iv) :
    ∃ v val, (Instr.index T xv iv).run P w = .ok val w ∧ SV P S gv ob v val ∧ K v = some r := by
  unfold indexK at h
  split at h
  · rename_i s
    cases hu : P.underlying T with
    | none => rw [hu] at h; cases h
    | some d =>
      rw [hu] at h
      cases d <;> first | (cases h; done) | skip
      obtain ⟨k, z, rfl, h0, h1, h⟩ := idxOf_ok h hi
      rw [hx.str]
      refine ⟨_, _, ?_, (V.int _ _).toSV, h⟩
      rw [run_index_string w T s k z hu, dif_pos ⟨h0, h1⟩]
      congr 2
      have hs : s.size = s.data.toList.length := by rw [Array.length_toList]; rfl
      have hlt : z.toNat < s.data.toList.length := by omega
      simp only [List.getD_eq_getElem?_getD, List.getElem?_eq_getElem hlt, Option.getD_some]
      rfl
  · rename_i cs
    cases hu : P.underlying T with
    | none => rw [hu] at h; cases h
    | some d =>
      rw [hu] at h
      cases d <;> first | (cases h; done) | skip
      rename_i n e
      dsimp only at h
      cases hg : (isAggT P e || !(P.cellsOf e == 1) || !(P.info? e).isSome) with
      | true => rw [hg] at h; cases h
      | false =>
        rw [hg, cond_false] at h
        simp only [Bool.or_eq_false_iff, Bool.not_eq_false', beq_iff_eq] at hg
        obtain ⟨⟨g1, g2⟩, g3⟩ := hg
        obtain ⟨k, z, rfl, h0, h1, h⟩ := idxOf_ok h hi
        obtain ⟨us, rfl, q1, q2, q3⟩ := hx
        unfold cellAt at h
        split at h
        · rename_i c rest hd
          have hc : cs[z.toNat]? = some c := by
            have := congrArg (fun x => x[0]?) hd
            simpa using this
          have hlt : z.toNat < us.length := by rw [← q1]; exact (List.getElem?_eq_some_iff.1 hc).1
          have hiu : (P.underlying e).isSome = true := by
            cases hue : P.underlying e with
            | none => unfold castP1 at h; rw [hue] at h; cases h
            | some _ => rfl
          have s1 := q3 z.toNat c _ hc (List.getElem?_eq_getElem hlt)
          exact ⟨c, us[z.toNat], run_index_agg hu (Option.isSome_iff_exists.1 g3) g1 hiu us.toArray k z h0 h1 g2 (by simp [hlt]), (by rw [SV_eq (s1.notC (q2 _ (List.getElem_mem hlt)))]; exact s1), castP1_id h⟩
        · cases h
  · cases h

theorem cast1_imp {T : TypeId} {v : AV} {K K' : AV → Option β} {r : β} (h : cast1 P T v K = some r) (hK : ∀ v', K v' = some r → K' v' = some r) : cast1 P T v K' = some r := by
  unfold cast1 at h ⊢
  repeat' split at h
  all_goals first | exact hK _ h | (cases h; done) | skip
  all_goals (obtain ⟨hc, h⟩ := some_of_bif h; rw [hc]; exact hK _ h)
theorem castP1_cast1 {T : TypeId} {v : AV} {K : AV → Option β} {r : β} (h : castP1 P T v K = some r) : cast1 P T v K = some r := by
  unfold castP1 at h
  unfold cast1
  split at h
  · rename_i hu
    cases v <;> simp only [atBool] at h <;> first | (cases h; done) | exact h
  · rename_i k hu
    cases v <;> simp only [atInt] at h <;> first | (cases h; done) | skip
    rename_i k' n
    by_cases hk : k' = k
    · subst hk
      simpa using h
    · simp [hk] at h
  · cases v <;> simp only [atStr] at h <;> first | (cases h; done) | exact h
  · rename_i e hu
    cases v <;> simp only [atList] at h <;> first | (cases h; done) | exact h
  · rename_i d hd1 hd2 hd3 hd4 hu
    cases d <;> first | (exact absurd rfl hd1; done) | (exact absurd rfl (hd2 _); done) | (exact absurd rfl hd3; done) | (exact absurd rfl (hd4 _); done) | exact h
  · cases h
theorem castPreAt_castPre : ∀ {ts : List TypeId} {cs : List AV} {off : Nat} {K : List AV → Option β} {r : β}, castPreAt P ts cs off K = some r → castPre P ts (cs.drop off) K = some r
  | [], cs, off, K, r, h => by simpa [castPreAt, castPre] using h
  | t :: ts, cs, off, K, r, h => by
    simp only [castPreAt, cellAt] at h
    split at h
    · rename_i c l hd
      rw [hd]
      have := castP1_cast1 h
      simp only [castPre]
      refine cast1_imp this fun c' h' => ?_
      have := castPreAt_castPre h'
      have e : cs.drop (off + 1) = l := by rw [← List.drop_drop, hd]; rfl
      rwa [e] at this
    · cases h
theorem castPre_castAll : ∀ {ts : List TypeId} {cs : List AV} {K : List AV → Option β} {r : β}, cs.length = ts.length → castPre P ts cs K = some r → castAll P ts cs K = some r
  | [], [], K, r, hl, h => by simpa [castAll, castPre] using h
  | t :: ts, c :: cs, K, r, hl, h => by
    simp only [castPre] at h
    simp only [castAll]
    exact cast1_imp h fun c' h' => castPre_castAll (by simpa using hl) h'
  | [], _ :: _, K, r, hl, h => by simp at hl
  | _ :: _, [], K, r, hl, h => by simp at hl
theorem castTP_castT {T : TypeId} {v : AV} {K : AV → Option β} {r : β} (h : castTP P T v K = some r) : castT P T v K = some r := by
  unfold castTP at h
  unfold castT
  cases hA : isAggT P T <;> rw [hA] at h <;> simp only [cond_true, cond_false] at h ⊢
  · exact castP1_cast1 h
  · cases v <;> simp only [atAgg] at h <;> first | (cases h; done) | skip
    obtain ⟨hl, h⟩ := some_of_bif h
    exact castPre_castAll (beq_iff_eq.1 hl) (by simpa using castPreAt_castPre h)
theorem loadTP_loadT {T : TypeId} {cs : List AV} {off : Nat} {K : AV → Option β} {r : β} (h : loadTP P T cs off K = some r) : loadT P T (cs.drop off) K = some r := by
  unfold loadTP at h
  unfold loadT
  cases hA : isAggT P T <;> rw [hA] at h <;> simp only [cond_true, cond_false] at h ⊢
  · unfold cellAt at h
    split at h
    · rename_i c l hd
      exact castP1_cast1 h
    · cases h
  · obtain ⟨hl, h⟩ := some_of_bif h
    rw [hl]
    exact castPreAt_castPre h
end Go.Proofs.YtbkhmkcmbaffoaaGreatDoor.Eng


/- The engine, part 4: objects of the call's own: laid, turned, let go, frozen. -/
set_option linter.unusedVariables false
set_option linter.unusedSimpArgs false
namespace Go.Proofs.YtbkhmkcmbaffoaaGreatDoor.Eng
open Go Go.RowKit
variable {P : Program} {S0 S S' : Stab} {W : Ent} {w w' : World} {gv gv' : Nat → Value} {fr : Fr} {a : Act} {ob ob' : Nat → Option Ob} {β : Type}

theorem getD_set (l : List (Option Ob)) (t s : Nat) (v : Option Ob) : (l.set t v).getD s none = if t = s ∧ s < l.length then v else l.getD s none := by
  simp only [List.getD_eq_getElem?_getD, List.getElem?_set]
  by_cases h : t = s
  · subst h
    by_cases hs : t < l.length
    · simp [hs]
    · simp [hs, List.getElem?_eq_none (Nat.le_of_not_lt hs)]
  · simp [h]
theorem obj_lt {r : Nat} {o : Ob} (h : fr.obj r = some o) : r < fr.ob.length := by
  unfold Fr.obj at h
  rw [List.getD_eq_getElem?_getD] at h
  cases hh : fr.ob[r]? with
  | none => rw [hh] at h; cases h
  | some _ => exact (List.getElem?_eq_some_iff.1 hh).1
def upd (gv : Nat → Value) (t : Nat) (v : Value) : Nat → Value := fun r => if r = t then v else gv r

theorem ObR.mono {r : Nat} {o : Ob} (h : ObR P W S gv ob w r o) (hblock : ∀ g, hblk (gv r) = some g → w'.heap[g]? = w.heap[g]?) (hg : gv' r = gv r) (hS : S.le S')
    (hnew : ∀ g, hblk (gv r) = some g → ∀ x v, S' x = some v → x.block = g → S x = some v)
    (hc : ∀ cs, o = .box cs → ∀ (j : Nat) (c : AV) (v : Value), cs[j]? = some c → SV1 P S gv ob c v → SV1 P S' gv' ob' c v) : ObR P W S' gv' ob' w' r o := by
  cases o with
  | box cs =>
    obtain ⟨g, u, T, h1, h2, h3, h4, h5, h6, h7⟩ := h
    have hb : hblk (gv r) = some g := by rw [h1]; rfl
    exact ⟨g, u, T, by rw [hg]; exact h1, h2, by rw [hblock g hb]; exact h3, h4, h5, fun j c v hj hv => hc cs rfl j c v hj (h6 j c v hj hv), fun x v hx e => h7 x v (hnew g hb x v hx e) e⟩
  | row e xs fz =>
    obtain ⟨us, h1, h2, h3, h4, h5⟩ := h
    refine ⟨us, ?_, h2, h3, fun i x hx => ⟨(h4 i x hx).1, fun j c hj => ⟨((h4 i x hx).2 j c hj).1, fun v hv => (((h4 i x hx).2 j c hj).2 v hv).mono hS⟩⟩, fun g hgg => ?_⟩
    · obtain ⟨hl, hown⟩ := h1
      refine ⟨hl, ?_⟩
      rw [hg]
      rcases hown with hn | ⟨g, cap, cur, hv, hb, hh, rest⟩
      · exact .inl hn
      · exact .inr ⟨g, cap, cur, hv, hb, by rw [hblock g (by rw [hv]; rfl)]; exact hh, rest⟩
    · rw [hg] at hgg
      exact ⟨(h5 g hgg).1, fun x v hx hxb => (h5 g hgg).2 x v (hnew g hgg x v hx hxb) hxb⟩
  | it s pos =>
    obtain ⟨g, h1, h2, h3⟩ := h
    exact ⟨g, by rw [hg]; exact h1, h2, by rw [hblock g (by rw [h1]; rfl)]; exact h3⟩
  | map kvs =>
    obtain ⟨b, h1, h2, es, clock, h3, h4, h5, h6⟩ := h
    exact ⟨b, by rw [hg]; exact h1, h2, es, clock, by rw [hblock b (by rw [h1]; rfl)]; exact h3, h4, h5, fun i p e hp he => ⟨(h6 i p e hp he).1, (h6 i p e hp he).2.mono hS⟩⟩
  | opq =>
    show hblk (gv' r) = none
    rw [hg]
    exact h
  | fbox cs =>
    obtain ⟨g, u, T, h1, h2, h3, h4⟩ := h
    exact ⟨g, u, T, by rw [hg]; exact h1, h2, by rw [hblock g (by rw [h1]; rfl)]; exact h3, by rw [hg]; exact h4.mono hS⟩

/-- An object is let go. -/
theorem Rel.kill (h : Rel P S0 W S gv fr a w) (r : Nat) : Rel P S0 W S gv { fr with ob := fr.ob.set r none } a w := by
  have ho : ∀ s, ({ fr with ob := fr.ob.set r none } : Fr).obj s = if r = s ∧ s < fr.ob.length then none else fr.obj s := fun s => getD_set fr.ob r s none
  have hk : ∀ s, Kin (fr.obj s) (({ fr with ob := fr.ob.set r none } : Fr).obj s) := by
    intro s
    rw [ho s]
    split
    · unfold Kin; split <;> simp_all
    · cases hs : fr.obj s with
      | none => trivial
      | some o => cases o <;> simp [Kin]
  have hm : ∀ s o, ({ fr with ob := fr.ob.set r none } : Fr).obj s = some o → fr.obj s = some o := by
    intro s o hs
    rw [ho s] at hs
    split at hs
    · cases hs
    · exact hs
  exact {
    below := h.below, agree := h.agree, ext := h.ext, fresh := h.fresh, held := fun s v hv o hs => h.held s v hv o (hm s o hs), len := h.len, obl := by simpa using h.obl, defers := h.defers
    slot := fun t ht => (h.slot t ht).mono (fun _ _ h => h) fun s _ => ⟨hk s, fun _ => rfl⟩
    objs := fun s o hs => (h.objs s o (hm s o hs)).mono (fun _ _ => rfl) rfl (fun _ _ h => h) (fun _ _ _ _ hx _ => hx) fun cs _ j c v hc hv => hv.mono (fun _ _ h => h) fun s _ => ⟨hk s, fun _ => rfl⟩
    dis := fun s s' o o' g hs hs' => h.dis s s' o o' g (hm s o hs) (hm s' o' hs') }

theorem purge_names {ns : List Nat} {v : AV} : ∀ r ∈ (purge ns v).names, r ∈ v.names ∧ r ∉ ns := by
  intro r hr
  unfold purge at hr
  cases hc : v.names.any fun r => ns.contains r with
  | true => rw [hc] at hr; simp [AV.names, AV.name1] at hr
  | false =>
    rw [hc] at hr
    simp only [cond_false] at hr
    refine ⟨hr, fun hm => ?_⟩
    have := List.any_eq_false.1 hc r hr
    simp [hm] at this
theorem purge_SV {ns : List Nat} {v : AV} {val : Value} (h : SV P S gv ob v val) : SV P S gv ob (purge ns v) val := by
  unfold purge
  cases v.names.any fun r => ns.contains r with
  | true => trivial
  | false => exact h
theorem purge_SV1 {ns : List Nat} {v : AV} {val : Value} (h : SV1 P S gv ob v val) : SV1 P S gv ob (purge ns v) val := by
  unfold purge
  cases v.names.any fun r => ns.contains r with
  | true => trivial
  | false => exact h
theorem name1_sub {v : AV} : ∀ r ∈ v.name1, r ∈ v.names := by
  intro r hr
  cases v <;> first | exact hr | (simp [AV.name1] at hr)

/-- A new object, under a name of its own. -/
theorem Rel.new (h : Rel P S0 W S gv fr a w) {t : Nat} {o : Ob} {hv : Value} {dst : Option Tmp} {v : AV} {val : Value}
    (hw : BelX W w') (hag : Agree S w') (hth : t < fr.ob.length ∧ W.held t = none)
    (hoth : ∀ r o' g, fr.obj r = some o' → r ≠ t → hblk (gv r) = some g → w'.heap[g]? = w.heap[g]?)
    (hdis : ∀ r o' g, fr.obj r = some o' → r ≠ t → hblk hv = some g → hblk (gv r) ≠ some g)
    (hnew : ∀ ob', ObR P W S (upd gv t hv) ob' w' t o)
    (hval : ∀ ob', ob' t = some o → SV P S (upd gv t hv) ob' v val) :
    Rel P S0 W S (upd gv t hv) (fr.put dst v [] [(t, o)]) (a.put dst val) w' := by
  have ht := hth.1
  have hob : ∀ s, (fr.put dst v [] [(t, o)]).obj s = if t = s then some o else purgeOb [t] (fr.obj s) := by
    intro s
    show ((fr.ob.map (purgeOb [t])).set t (some o)).getD s none = _
    rw [getD_set]
    by_cases hs : t = s
    · subst hs; simp [ht]
    · rw [if_neg (by simp [hs]), if_neg hs]
      simp only [List.getD_eq_getElem?_getD, List.getElem?_map, Fr.obj]
      cases fr.ob[s]? with
      | none => rfl
      | some x => rfl
  have hkin : ∀ s, s ≠ t → Kin (fr.obj s) ((fr.put dst v [] [(t, o)]).obj s) := by
    intro s hs
    rw [hob s, if_neg (fun e => hs e.symm)]
    cases fr.obj s with
    | none => trivial
    | some x => cases x <;> simp [Kin, purgeOb]
  have hgv : ∀ s, s ≠ t → upd gv t hv s = gv s := fun s hs => by simp [upd, hs]
  have hm : ∀ s o', (fr.put dst v [] [(t, o)]).obj s = some o' → s ≠ t → ∃ o1, fr.obj s = some o1 ∧ purgeOb [t] (some o1) = some o' := by
    intro s o' hs hst
    rw [hob s, if_neg (fun e => hst e.symm)] at hs
    cases hh : fr.obj s with
    | none => rw [hh] at hs; cases hs
    | some o1 => rw [hh] at hs; exact ⟨o1, rfl, hs⟩
  have hsv1 : ∀ (c : AV) (u : Value), SV1 P S gv fr.obj c u → SV1 P S (upd gv t hv) (fr.put dst v [] [(t, o)]).obj (purge [t] c) u := by
    intro c u hc
    refine (purge_SV1 hc).mono (fun _ _ h => h) fun r hr => ?_
    have := (purge_names r (name1_sub r hr)).2
    have hrt : r ≠ t := by simpa using this
    exact ⟨hkin r hrt, fun _ => hgv r hrt⟩
  have hsv : ∀ (c : AV) (u : Value), SV P S gv fr.obj c u → SV P S (upd gv t hv) (fr.put dst v [] [(t, o)]).obj (purge [t] c) u := by
    intro c u hc
    refine (purge_SV hc).mono (fun _ _ h => h) fun r hr => ?_
    have hrt : r ≠ t := by simpa using (purge_names r hr).2
    exact ⟨hkin r hrt, fun _ => hgv r hrt⟩
  refine { below := hw, agree := hag, ext := h.ext, fresh := h.fresh, held := ?_, len := ?_, obl := by simpa [Fr.put, setD_length, applyU, addN] using h.obl, defers := by rw [put_defers]; exact h.defers, slot := ?_, objs := ?_, dis := ?_ }
  · intro s v' hv' o' hs
    have hst : s ≠ t := fun e => by subst e; rw [hth.2] at hv'; cases hv'
    obtain ⟨o1, e1, _⟩ := hm s o' hs hst
    rw [hgv s hst]
    exact h.held s v' hv' o1 e1
  · rw [put_tmps_size, h.len]; simp [Fr.put, setD_length]
  · refine slot_put (sl := fr.sl.map (purge [t])) (by simp [h.len]) (fun s hs => ?_) (hval _ (by rw [hob t, if_pos rfl]))
    have hs' : s < fr.sl.length := by simpa using hs
    have e : (fr.sl.map (purge [t])).getD s .junk = purge [t] (fr.sl.getD s .junk) := by
      simp [List.getD_eq_getElem?_getD, List.getElem?_eq_getElem hs']
    rw [e]
    exact hsv _ _ (h.slot s hs')
  · intro s o' hs
    by_cases hst : s = t
    · subst hst
      rw [hob s, if_pos rfl] at hs
      cases hs
      exact hnew _
    · obtain ⟨o1, e1, e2⟩ := hm s o' hs hst
      have h1 := h.objs s o1 e1
      cases o1 with
      | box cs =>
        cases e2
        obtain ⟨g, u, T, a1, a2, a3, a4, a5, a6, a7⟩ := h1
        refine ⟨g, u, T, by rw [hgv s hst]; exact a1, a2, by rw [hoth s _ g e1 hst (by rw [a1]; rfl)]; exact a3, by simp [a4], a5, fun j c v' hc hv' => ?_, a7⟩
        rw [List.getElem?_map] at hc
        obtain ⟨c1, hc1, rfl⟩ := Option.map_eq_some_iff.1 hc
        exact hsv1 c1 v' (a6 j c1 v' hc1 hv')
      | row e xs fz =>
        cases e2
        exact h1.mono (hoth s _ · e1 hst) (hgv s hst) (fun _ _ h => h) (fun _ _ _ _ hx _ => hx) (fun cs hcs => by cases hcs)
      | it q pos =>
        cases e2
        exact h1.mono (hoth s _ · e1 hst) (hgv s hst) (fun _ _ h => h) (fun _ _ _ _ hx _ => hx) (fun cs hcs => by cases hcs)
      | map kvs =>
        cases e2
        exact h1.mono (hoth s _ · e1 hst) (hgv s hst) (fun _ _ h => h) (fun _ _ _ _ hx _ => hx) (fun cs hcs => by cases hcs)
      | opq =>
        cases e2
        exact h1.mono (hoth s _ · e1 hst) (hgv s hst) (fun _ _ h => h) (fun _ _ _ _ hx _ => hx) (fun cs hcs => by cases hcs)
      | fbox cs =>
        cases e2
        exact h1.mono (hoth s _ · e1 hst) (hgv s hst) (fun _ _ h => h) (fun _ _ _ _ hx _ => hx) (fun cs hcs => by cases hcs)
  · intro s s' o1 o2 g hs hs' hb hb'
    by_cases hst : s = t
    · by_cases hst' : s' = t
      · rw [hst, hst']
      · obtain ⟨o3, e3, _⟩ := hm s' o2 hs' hst'
        rw [hst] at hb
        simp only [upd, if_pos] at hb
        rw [hgv s' hst'] at hb'
        exact absurd hb' (hdis s' o3 g e3 hst' hb)
    · obtain ⟨o4, e4, _⟩ := hm s o1 hs hst
      by_cases hst' : s' = t
      · rw [hst'] at hb'
        simp only [upd, if_pos] at hb'
        rw [hgv s hst] at hb
        exact absurd hb (hdis s o4 g e4 hst hb')
      · obtain ⟨o3, e3, _⟩ := hm s' o2 hs' hst'
        rw [hgv s hst] at hb
        rw [hgv s' hst'] at hb'
        exact h.dis s s' o4 o3 g e4 e3 hb hb'
theorem put_split (fr : Fr) (dst : Option Tmp) (v : AV) (u : Upd) (n : New) : fr.put dst v u n = ({ fr with ob := applyU fr.ob u } : Fr).put dst v [] n := by cases n <;> rfl

/-- An object is turned in its place. -/
theorem Rel.turn (h : Rel P S0 W S gv fr a w) {r : Nat} {o o' : Ob} (hr : fr.obj r = some o) (hS : S.le S') (hk : Kin (some o) (some o'))
    (hw : BelX W w') (hag : Agree S' w')
    (hoth : ∀ s o1 g, fr.obj s = some o1 → s ≠ r → hblk (gv s) = some g → w'.heap[g]? = w.heap[g]? ∧ ∀ x v, S' x = some v → x.block = g → S x = some v)
    (hfr : ∀ x v, S' x = some v → S x = some v ∨ W.own x.block)
    (hnew : ∀ ob', (∀ s, Kin (fr.obj s) (ob' s)) → ObR P W S' gv ob' w' r o') :
    Rel P S0 W S' gv { fr with ob := fr.ob.set r (some o') } a w' := by
  have hrl := obj_lt hr
  have ho : ∀ s, ({ fr with ob := fr.ob.set r (some o') } : Fr).obj s = if r = s then some o' else fr.obj s := by
    intro s
    show (fr.ob.set r (some o')).getD s none = _
    rw [getD_set]
    by_cases hs : r = s
    · subst hs; simp [hrl]
    · simp [hs, Fr.obj]
  have hkin : ∀ s, Kin (fr.obj s) (({ fr with ob := fr.ob.set r (some o') } : Fr).obj s) := by
    intro s
    rw [ho s]
    by_cases hs : r = s
    · subst hs; rw [if_pos rfl, hr]; exact hk
    · rw [if_neg hs]
      cases fr.obj s with
      | none => trivial
      | some x => cases x <;> simp [Kin]
  have hpre : ∀ s o1, ({ fr with ob := fr.ob.set r (some o') } : Fr).obj s = some o1 → ∃ o2, fr.obj s = some o2 := by
    intro s o1 hs
    rw [ho s] at hs
    by_cases hsr : r = s
    · subst hsr; exact ⟨o, hr⟩
    · rw [if_neg hsr] at hs; exact ⟨_, hs⟩
  refine { below := hw, agree := hag, ext := fun x v hx => hS _ _ (h.ext x v hx), fresh := fun x v hx => (hfr x v hx).elim (h.fresh x v) .inr, held := fun s v hv o1 hs => (hpre s o1 hs).elim fun o2 h2 => h.held s v hv o2 h2, len := h.len, obl := by simpa using h.obl, defers := h.defers, slot := fun t ht => (h.slot t ht).mono hS fun s _ => ⟨hkin s, fun _ => rfl⟩, objs := ?_, dis := ?_ }
  · intro s o1 hs
    rw [ho s] at hs
    by_cases hsr : r = s
    · subst hsr
      rw [if_pos rfl] at hs
      cases hs
      exact hnew _ hkin
    · rw [if_neg hsr] at hs
      have hsr' : s ≠ r := fun e => hsr e.symm
      exact (h.objs s o1 hs).mono (fun g hg => (hoth s o1 g hs hsr' hg).1) rfl hS (fun g hg => (hoth s o1 g hs hsr' hg).2) fun cs _ j c v hc hv => hv.mono hS fun s _ => ⟨hkin s, fun _ => rfl⟩
  · intro s s' o1 o2 g hs hs' hb hb'
    have : ∀ s o1, ({ fr with ob := fr.ob.set r (some o') } : Fr).obj s = some o1 → ∃ o2, fr.obj s = some o2 := by
      intro s o1 hs
      rw [ho s] at hs
      by_cases hsr : r = s
      · subst hsr; exact ⟨o, hr⟩
      · rw [if_neg hsr] at hs; exact ⟨_, hs⟩
    obtain ⟨o3, e3⟩ := this s o1 hs
    obtain ⟨o4, e4⟩ := this s' o2 hs'
    exact h.dis s s' o3 o4 g e3 e4 hb hb'

theorem cell_of_us {B e sz n : Nat} {v : Value} {us : List Value} {g m c : Nat} (hown : w.ownsRow B e sz v n us) (hv : v = .slice (some ⟨g, 0, none⟩) m c) {k : Nat} {u : Value} (hu : us[k]? = some u) : w.cell? ⟨g, k, none⟩ = some u := by
  have := hown.cells (g := g) (by rw [hv]; rfl) k u hu
  rw [add_lit', Nat.zero_add] at this
  exact this
theorem ownsRow_form {B e sz n : Nat} {v : Value} {us : List Value} (hown : w.ownsRow B e sz v n us) : (v = .slice none 0 0 ∧ n = 0) ∨ ∃ g cap, v = .slice (some ⟨g, 0, none⟩) n cap ∧ B ≤ g := by
  rcases hown.2 with h | ⟨g, cap, cur, hv, hb, _⟩
  · exact .inl h
  · exact .inr ⟨g, cap, hv, hb⟩
theorem flat_lt {i j n sz : Nat} (hi : i < n) (hj : j < sz) : i * sz + j < n * sz := by
  have : (i + 1) * sz ≤ n * sz := Nat.mul_le_mul_right _ hi
  rw [Nat.add_mul, Nat.one_mul] at this
  omega

/-- A row of one's own, frozen: from here on its cells stay. -/
theorem Rel.freeze (h : Rel P S0 W S gv fr a w) {r : Nat} {e : TypeId} {xs : List AV} {fz : Bool} (hr : fr.obj r = some (.row e xs fz)) :
    ∃ S', S.le S' ∧ Rel P S0 W S' gv { fr with ob := fr.ob.set r (some (.row e xs true)) } a w ∧ (∀ x v, S' x = some v → S x = some v ∨ hblk (gv r) = some x.block) ∧ ∀ n, n ≤ xs.length → V S' (.list (P.cellsOf e) (xs.take n)) (cutV n (gv r)) := by
  obtain ⟨us, hown, hsz, hone, hel, hSb⟩ := h.objs r _ hr
  have hul : us.length = xs.length * P.cellsOf e := hown.1
  rcases ownsRow_form hown with ⟨hv, hn⟩ | ⟨g, cap, hv, hb⟩
  · have hx : xs = [] := List.eq_nil_of_length_eq_zero hn
    subst hx
    refine ⟨S, fun _ _ h => h, h.turn hr (fun _ _ h => h) (by simp [Kin]) h.below h.agree (fun _ _ _ _ _ _ => ⟨rfl, fun _ _ hx _ => hx⟩) (fun _ _ hx => .inl hx) (fun ob' _ => ⟨us, hown, hsz, hone, by simp, fun g hg => by rw [hv] at hg; simp [hblk] at hg⟩), fun _ _ hx => .inl hx, fun n hn => ?_⟩
    obtain rfl : n = 0 := by simpa using hn
    rw [hv]
    exact .listn _
  · have hbl : hblk (gv r) = some g := by rw [hv]; rfl
    let S' : Stab := fun x => if x.block = g ∧ x.spot = none ∧ x.off < xs.length * P.cellsOf e then w.cell? x else S x
    have hle : S.le S' := by
      intro x v hx
      show (if _ then _ else _) = _
      split
      · exact h.agree x v hx
      · exact hx
    have hS'g : ∀ k u, us[k]? = some u → S' ⟨g, k, none⟩ = some u := by
      intro k u hu
      have hk : k < xs.length * P.cellsOf e := by rw [← hul]; exact (List.getElem?_eq_some_iff.1 hu).1
      show (if _ then _ else _) = _
      rw [if_pos ⟨rfl, rfl, hk⟩]
      exact cell_of_us hown hv hu
    refine ⟨S', hle, ?_, fun x v hx => ?_, fun n hn => ?_⟩
    · refine h.turn hr hle (by simp [Kin]) h.below (fun x v hx => ?_) (fun s o1 g' hs hsr hg' => ⟨rfl, fun x v hx hxb => ?_⟩) (fun x v hx => ?_) (fun ob' _ => ⟨us, hown, hsz, hone, fun i x hx => ⟨(hel i x hx).1, fun j c hj => ⟨((hel i x hx).2 j c hj).1, fun v hv => (((hel i x hx).2 j c hj).2 v hv).mono hle⟩⟩, fun g' hg' => ⟨(hSb g' hg').1, fun x v hx hxb => ?_⟩⟩)
      · have hx : (if x.block = g ∧ x.spot = none ∧ x.off < xs.length * P.cellsOf e then w.cell? x else S x) = some v := hx
        split at hx
        · exact hx
        · exact h.agree x v hx
      · have hne : g' ≠ g := fun e => hsr (h.dis s r o1 _ g' hs hr hg' (by rw [e]; exact hbl))
        have hx : (if x.block = g ∧ x.spot = none ∧ x.off < xs.length * P.cellsOf e then w.cell? x else S x) = some v := hx
        rw [if_neg (fun hh => hne (hxb.symm.trans hh.1))] at hx
        exact hx
      · have hx : (if x.block = g ∧ x.spot = none ∧ x.off < xs.length * P.cellsOf e then w.cell? x else S x) = some v := hx
        split at hx
        · rename_i hh; exact .inr (by rw [hh.1]; exact (hSb g hbl).1)
        · exact .inl hx
      · rw [hbl] at hg'
        cases hg'
        have hx : (if x.block = g ∧ x.spot = none ∧ x.off < xs.length * P.cellsOf e then w.cell? x else S x) = some v := hx
        split at hx
        · rename_i hh; exact ⟨rfl, hh.2⟩
        · exact ⟨rfl, ((hSb g hbl).2 x v hx hxb).2⟩
    · have hx : (if x.block = g ∧ x.spot = none ∧ x.off < xs.length * P.cellsOf e then w.cell? x else S x) = some v := hx
      split at hx
      · rename_i hh; exact .inr (by rw [hbl, hh.1])
      · exact .inl hx
    · rw [hv]
      have hc : cutV n (.slice (some ⟨g, 0, none⟩) xs.length cap) = .slice (some ⟨g, 0, none⟩) (xs.take n).length cap := by
        simp [cutV, Nat.min_eq_left hn]
      rw [hc]
      have hcle : xs.length ≤ cap := by
        rcases hown.2 with ⟨hv2, _⟩ | ⟨g2, cap2, cur2, hv2, _, _, hnc, _⟩
        · rw [hv] at hv2; cases hv2
        · rw [hv] at hv2; cases hv2; exact hnc
      have hin : ∀ (i : Nat) (x : AV), (xs.take n)[i]? = some x → xs[i]? = some x := by
        intro i x hx
        rw [List.getElem?_take] at hx
        split at hx
        · exact hx
        · cases hx
      have hval : ∀ (i : Nat) (x : AV) (j : Nat) (c : AV), (xs.take n)[i]? = some x → x.cells[j]? = some c → us[i * P.cellsOf e + j]? = some (us.getD (i * P.cellsOf e + j) undef) := by
        intro i x j c hx hj
        have hx := hin i x hx
        have hi : i < xs.length := (List.getElem?_eq_some_iff.1 hx).1
        have hj' : j < P.cellsOf e := by rw [← (hel i x hx).1]; exact (List.getElem?_eq_some_iff.1 hj).1
        have hlt : i * P.cellsOf e + j < us.length := by rw [hul]; exact flat_lt hi hj'
        rw [List.getD_eq_getElem?_getD, List.getElem?_eq_getElem hlt]; rfl
      exact .list _ _ _ _ (fun i j => us.getD (i * P.cellsOf e + j) undef) (by simp; omega) (fun i x hx => (hel i x (hin i x hx)).1) (fun i x j c hx hj => ((hel i x (hin i x hx)).2 j c hj).1)
        (fun i x j c hx hj => by rw [add_lit', Nat.zero_add]; exact hS'g _ _ (hval i x j c hx hj))
        (fun i x j c hx hj => ((((hel i x (hin i x hx)).2 j c hj).2 _ (hval i x j c hx hj))).mono hle)

/-- A variable of one's own, frozen. -/
theorem Rel.freezeBox (h : Rel P S0 W S gv fr a w) {r : Nat} {cs : List AV} (hr : fr.obj r = some (.box cs)) (hp : ∀ c ∈ cs, c.pure1 = true ∧ c.leaf = true) :
    ∃ S', S.le S' ∧ Rel P S0 W S' gv { fr with ob := fr.ob.set r (some (.fbox cs)) } a w ∧ (∀ x v, S' x = some v → S x = some v ∨ hblk (gv r) = some x.block) ∧ V S' (.eptr cs 0) (gv r) := by
  obtain ⟨g, u, T, h1, h2, h3, h4, h5, h6, h7⟩ := h.objs r _ hr
  have hbl : hblk (gv r) = some g := by rw [h1]; rfl
  let S' : Stab := fun x => if x.block = g ∧ x.spot = none ∧ x.off < cs.length then w.cell? x else S x
  have hle : S.le S' := by
    intro x v hx
    show (if _ then _ else _) = _
    split
    · exact h.agree x v hx
    · exact hx
  have hcell : ∀ j, j < cs.length → w.cell? ⟨g, j, none⟩ = some (u.getD j undef) := by
    intro j hj
    rw [← h4] at hj
    simp only [World.cell?, h3]
    simp [hj]
  have hin : ∀ (j : Nat) (c : AV), cs[j]? = some c → j < cs.length := fun j c hc => (List.getElem?_eq_some_iff.1 hc).1
  have hV : V S' (.eptr cs 0) (gv r) := by
    rw [h1]
    have := V.eptr (S := S') cs 0 ⟨g, 0, none⟩ (fun j => u.getD j undef) (fun j c hc => (hp c (List.mem_of_getElem? hc)).2) (fun j c hc => by
      rw [add_lit', Nat.zero_add]
      show (if _ then _ else _) = _
      rw [if_pos ⟨rfl, rfl, hin j c hc⟩]
      exact hcell j (hin j c hc)) (fun j c hc => by
      have hj : j < u.size := by rw [h4]; exact hin j c hc
      have hu : u[j]? = some (u.getD j undef) := by simp [hj]
      exact ((h6 j c _ hc hu).toV (hp c (List.mem_of_getElem? hc)).1).mono hle)
    rwa [add_lit'] at this
  refine ⟨S', hle, ?_, fun x v hx => ?_, hV⟩
  · refine h.turn hr hle (by simp [Kin]) h.below (fun x v hx => ?_) (fun s o1 g' hs hsr hg' => ⟨rfl, fun x v hx hxb => ?_⟩) (fun x v hx => ?_) (fun ob' _ => ⟨g, u, T, h1, h2, h3, hV⟩)
    · have hx : (if x.block = g ∧ x.spot = none ∧ x.off < cs.length then w.cell? x else S x) = some v := hx
      split at hx
      · exact hx
      · exact h.agree x v hx
    · have hne : g' ≠ g := fun e => hsr (h.dis s r o1 _ g' hs hr hg' (by rw [e]; exact hbl))
      have hx : (if x.block = g ∧ x.spot = none ∧ x.off < cs.length then w.cell? x else S x) = some v := hx
      rw [if_neg (fun hh => hne (hxb.symm.trans hh.1))] at hx
      exact hx
    · have hx : (if x.block = g ∧ x.spot = none ∧ x.off < cs.length then w.cell? x else S x) = some v := hx
      split at hx
      · rename_i hh; exact .inr (by rw [hh.1]; exact h2)
      · exact .inl hx
  · have hx : (if x.block = g ∧ x.spot = none ∧ x.off < cs.length then w.cell? x else S x) = some v := hx
    split at hx
    · rename_i hh; exact .inr (by rw [hbl, hh.1])
    · exact .inl hx

/-- The world grows; cells of new blocks stay from here on. -/
theorem Rel.grow (h : Rel P S0 W S gv fr a w) (hS : S.le S') (hw : BelX W w') (hb : ∀ k, k < w.heap.size → w'.heap[k]? = w.heap[k]?) (hag : Agree S' w') (hfr : ∀ x v, S' x = some v → S x = some v ∨ w.heap.size ≤ x.block) : Rel P S0 W S' gv fr a w' where
  below := hw
  agree := hag
  ext := fun x v hx => hS _ _ (h.ext x v hx)
  fresh := fun x v hx => (hfr x v hx).elim (h.fresh x v) (fun hl => .inr (.inl (Nat.le_trans h.below.size hl)))
  held := h.held
  len := h.len
  obl := h.obl
  defers := h.defers
  slot := fun t ht => (h.slot t ht).mono hS fun r _ => ⟨by cases fr.obj r with | none => trivial | some x => cases x <;> simp [Kin], fun _ => rfl⟩
  objs := fun r o hr => by
    have hlt : ∀ g, hblk (gv r) = some g → g < w.heap.size := by
      intro g hg
      have := h.objs r o hr
      cases o with
      | box cs =>
        obtain ⟨g', u, T, h1, h2, h3, _⟩ := this
        rw [h1] at hg; cases hg
        exact (Array.getElem?_eq_some_iff.1 h3).1
      | row e xs fz =>
        obtain ⟨us, h1, _⟩ := this
        rcases h1.2 with ⟨hv, _⟩ | ⟨g', cap, cur, hv, hb, hh, _⟩
        · rw [hv] at hg; cases hg
        · rw [hv] at hg; cases hg
          exact (Array.getElem?_eq_some_iff.1 hh).1
      | it s pos =>
        obtain ⟨g', h1, h2, h3⟩ := this
        rw [h1] at hg; cases hg
        exact (Array.getElem?_eq_some_iff.1 h3).1
      | map kvs =>
        obtain ⟨b, h1, h2, es, clock, h3, _⟩ := this
        rw [h1] at hg; cases hg
        exact (Array.getElem?_eq_some_iff.1 h3).1
      | opq =>
        have hn : hblk (gv r) = none := this
        rw [hn] at hg; cases hg
      | fbox cs =>
        obtain ⟨g', u, T, h1, h2, h3, _⟩ := this
        rw [h1] at hg; cases hg
        exact (Array.getElem?_eq_some_iff.1 h3).1
    exact (h.objs r o hr).mono (fun g hg => hb g (hlt g hg)) rfl hS (fun g hg x v hx hxb => (hfr x v hx).resolve_right (by have := hlt g hg; omega)) fun cs _ j c v hc hv => hv.mono hS fun s _ => ⟨by cases fr.obj s with | none => trivial | some x => cases x <;> simp [Kin], fun _ => rfl⟩
  dis := h.dis
end Go.Proofs.YtbkhmkcmbaffoaaGreatDoor.Eng


/- The engine, part 5: what goes out of the call's own hands. -/
set_option linter.unusedVariables false
set_option linter.unusedSimpArgs false
namespace Go.Proofs.YtbkhmkcmbaffoaaGreatDoor.Eng
open Go Go.RowKit
variable {P : Program} {S0 S S' : Stab} {W : Ent} {w w' : World} {gv gv' : Nat → Value} {fr : Fr} {a : Act} {ob ob' : Nat → Option Ob} {β : Type}

/-- What is looked at is there: rows may have been frozen since. -/
def Sim (σ ob : Nat → Option Ob) : Prop := ∀ r e xs fz, σ r = some (.row e xs fz) → ∃ fz', ob r = some (.row e xs fz')
theorem Sim.of (h : ∀ r o, ob r = some o → ob' r = some o) : Sim ob ob' := fun r e xs fz hr => ⟨fz, h r _ hr⟩
theorem Stab.le_refl (S : Stab) : S.le S := fun _ _ h => h
theorem Stab.le_trans {A B C : Stab} (h : A.le B) (k : B.le C) : A.le C := fun x v hx => k x v (h x v hx)
theorem Kin.refl (o : Option Ob) : Kin o o := by
  cases o with
  | none => trivial
  | some x => cases x <;> simp [Kin]
theorem Kin.trans {x y z : Option Ob} (h : Kin x y) (k : Kin y z) : Kin x z := by
  cases z with
  | none => cases x with
    | none => trivial
    | some x => cases x <;> trivial
  | some z =>
    cases y with
    | none => cases z <;> exact k.elim
    | some y =>
      cases x with
      | none => cases y <;> exact h.elim
      | some x => cases x <;> cases y <;> cases z <;> simp_all [Kin]

/-- A frame behind freezing. -/
structure Frz (P : Program) (S0 : Stab) (W : Ent) (S : Stab) (gv : Nat → Value) (fr : Fr) (a : Act) (w : World) (σ : Nat → Option Ob) (S' : Stab) (u : Upd) : Prop where
  le : S.le S'
  rel : Rel P S0 W S' gv { fr with ob := applyU fr.ob u } a w
  sim : Sim σ ({ fr with ob := applyU fr.ob u } : Fr).obj
  kin : ∀ s, Kin (fr.obj s) (({ fr with ob := applyU fr.ob u } : Fr).obj s)
  add : ∀ x v, S' x = some v → S x = some v ∨ ∃ q o, fr.obj q = some o ∧ hblk (gv q) = some x.block
  rows : ∀ q ∈ u.map (·.1), ∃ e xs fz, σ q = some (.row e xs fz)
theorem Frz.nil (h : Rel P S0 W S gv fr a w) {σ : Nat → Option Ob} (hs : Sim σ fr.obj) : Frz P S0 W S gv fr a w σ S [] := ⟨Stab.le_refl S, h, hs, fun s => Kin.refl _, fun _ _ hx => .inl hx, by simp⟩
theorem applyU_append (l : List (Option Ob)) : ∀ (u v : Upd), applyU l (u ++ v) = applyU (applyU l u) v
  | [], v => rfl
  | (r, x) :: u, v => by
    simp only [List.cons_append, applyU]
    exact applyU_append _ u v
theorem Frz.trans {S'' : Stab} {σ : Nat → Option Ob} {u v : Upd} (h : Frz P S0 W S gv fr a w σ S' u) (k : Frz P S0 W S' gv { fr with ob := applyU fr.ob u } a w σ S'' v) : Frz P S0 W S gv fr a w σ S'' (u ++ v) := by
  have e : ({ fr with ob := applyU fr.ob (u ++ v) } : Fr) = { ({ fr with ob := applyU fr.ob u } : Fr) with ob := applyU (applyU fr.ob u) v } := by rw [applyU_append]
  refine ⟨Stab.le_trans h.le k.le, by rw [e]; exact k.rel, by rw [e]; exact k.sim, fun s => by rw [e]; exact (h.kin s).trans (k.kin s), fun x v hx => ?_, fun q hq => ?_⟩
  · rcases k.add x v hx with hx | ⟨q, o, hq, hb⟩
    · exact h.add x v hx
    · have := h.kin q
      rw [hq] at this
      cases hq0 : fr.obj q with
      | none => rw [hq0] at this; cases o <;> exact this.elim
      | some o0 => exact .inr ⟨q, o0, hq0, hb⟩
  · rw [List.map_append, List.mem_append] at hq
    exact hq.elim (h.rows q) (k.rows q)
theorem Frz.sv1 {σ : Nat → Option Ob} {u : Upd} (h : Frz P S0 W S gv fr a w σ S' u) {x : AV} {v : Value} (hx : SV1 P S gv fr.obj x v) : SV1 P S' gv ({ fr with ob := applyU fr.ob u } : Fr).obj x v :=
  hx.mono h.le fun r _ => ⟨h.kin r, fun _ => rfl⟩
theorem Frz.sv {σ : Nat → Option Ob} {u : Upd} (h : Frz P S0 W S gv fr a w σ S' u) {x : AV} {v : Value} (hx : SV P S gv fr.obj x v) : SV P S' gv ({ fr with ob := applyU fr.ob u } : Fr).obj x v :=
  hx.mono h.le fun r _ => ⟨h.kin r, fun _ => rfl⟩

theorem frz_row (h : Rel P S0 W S gv fr a w) {σ : Nat → Option Ob} (hs : Sim σ fr.obj) {r : Nat} {e : TypeId} {xs : List AV} {fz : Bool} (hr : σ r = some (.row e xs fz)) :
    ∃ S', Frz P S0 W S gv fr a w σ S' [(r, some (.row e xs true))] ∧ (∀ n, n ≤ xs.length → V S' (.list (P.cellsOf e) (xs.take n)) (cutV n (gv r))) ∧ (∃ fz', fr.obj r = some (.row e xs fz')) ∧ cutV xs.length (gv r) = gv r := by
  obtain ⟨fz', hr'⟩ := hs r e xs fz hr
  obtain ⟨S', hle, hrel, hadd, hV⟩ := h.freeze hr'
  have hrl := obj_lt hr'
  have ho : ∀ s, ({ fr with ob := fr.ob.set r (some (.row e xs true)) } : Fr).obj s = if r = s then some (.row e xs true) else fr.obj s := by
    intro s
    show (fr.ob.set r _).getD s none = _
    rw [getD_set]
    by_cases hs : r = s
    · subst hs; simp [hrl]
    · simp [hs, Fr.obj]
  refine ⟨S', ⟨hle, hrel, fun s e' xs' fz'' hs' => ?_, fun s => ?_, fun x v hx => (hadd x v hx).imp (fun q => q) fun q => ⟨r, _, hr', q⟩, fun q hq => ⟨e, xs, fz, by simp at hq; subst hq; exact hr⟩⟩, hV, ⟨fz', hr'⟩, ?_⟩
  · show ∃ _, ({ fr with ob := fr.ob.set r (some (.row e xs true)) } : Fr).obj s = _
    rw [ho s]
    by_cases hsr : r = s
    · subst hsr
      rw [hr] at hs'
      cases hs'
      exact ⟨true, by rw [if_pos rfl]⟩
    · rw [if_neg hsr]; exact hs s e' xs' fz'' hs'
  · show Kin _ (({ fr with ob := fr.ob.set r (some (.row e xs true)) } : Fr).obj s)
    rw [ho s]
    by_cases hsr : r = s
    · subst hsr; rw [if_pos rfl, hr']; simp [Kin]
    · rw [if_neg hsr]; exact Kin.refl _
  · obtain ⟨us, hown, _⟩ := h.objs r _ hr'
    rcases ownsRow_form hown with ⟨hv, hn⟩ | ⟨g, cap, hv, _⟩
    · rw [hv, hn]; rfl
    · rw [hv]; rfl

theorem frz1_ok (h : Rel P S0 W S gv fr a w) {σ : Nat → Option Ob} (hs : Sim σ fr.obj) {T : TypeId} {v : AV} {K : AV → Upd → Option β} {r : β} (hk : frz1 P σ T v K = some r) {val : Value} (hv : SV1 P S gv fr.obj v val) :
    ∃ v' u S', K v' u = some r ∧ Frz P S0 W S gv fr a w σ S' u ∧ V S' v' val ∧ v'.leaf = true := by
  cases v <;> simp only [frz1] at hk <;> first | (cases hk; done) | skip
  case own q =>
    split at hk
    · rename_i e xs fz hq
      obtain ⟨S', hF, hV, ⟨fz', ho⟩, hcut⟩ := frz_row h hs hq
      have := hV xs.length (Nat.le_refl _)
      rw [List.take_length, hcut] at this
      obtain ⟨_, hv⟩ := hv
      rw [hv e xs fz' ho]
      exact ⟨_, _, S', hk, hF, this, rfl⟩
    · cases hk
  case ownp q n =>
    split at hk
    · rename_i e xs fz hq
      obtain ⟨S', hF, hV, ⟨fz', ho⟩, hcut⟩ := frz_row h hs hq
      obtain ⟨_, hv⟩ := hv
      obtain ⟨hn, rfl⟩ := hv e xs fz' ho
      exact ⟨_, _, S', hk, hF, hV n hn, rfl⟩
    · cases hk
  case nils =>
    split at hk
    · cases (show V S _ _ from hv)
      exact ⟨_, _, S, hk, Frz.nil h hs, .listn _, rfl⟩
    · cases hk
  all_goals exact ⟨_, _, S, hk, Frz.nil h hs, hv, rfl⟩

theorem frzCs_ok : ∀ {ts : List TypeId} {cs : List AV} {K : List AV → Upd → Option β} {r : β} {S : Stab} {fr : Fr}, Rel P S0 W S gv fr a w → ∀ {σ : Nat → Option Ob}, Sim σ fr.obj → frzCs P σ ts cs K = some r → ∀ {us : List Value}, cs.length = us.length →
    (∀ (j : Nat) (c : AV) (u : Value), cs[j]? = some c → us[j]? = some u → SV1 P S gv fr.obj c u) →
    ∃ l u S', K l u = some r ∧ Frz P S0 W S gv fr a w σ S' u ∧ l.length = us.length ∧ (∀ (j : Nat) (c : AV), l[j]? = some c → c.leaf = true) ∧ (∀ (j : Nat) (c : AV) (x : Value), l[j]? = some c → us[j]? = some x → V S' c x)
  | [], [], K, r, S, fr, h, σ, hs, hk, us, hl, hm => ⟨[], [], S, hk, Frz.nil h hs, hl, by simp, by simp⟩
  | [], _ :: _, K, r, S, fr, h, σ, hs, hk, us, hl, hm => by cases hk
  | t :: ts, [], K, r, S, fr, h, σ, hs, hk, us, hl, hm => by cases hk
  | t :: ts, c :: cs, K, r, S, fr, h, σ, hs, hk, [], hl, hm => by cases hl
  | t :: ts, c :: cs, K, r, S, fr, h, σ, hs, hk, x :: us, hl, hm => by
    simp only [frzCs] at hk
    obtain ⟨c', u, S1, hk, hF, hV, hlf⟩ := frz1_ok h hs hk (hm 0 c x rfl rfl)
    obtain ⟨l, u', S2, hk, hF', hl', hlfs, hVs⟩ := frzCs_ok hF.rel hF.sim hk (us := us) (by simpa using hl) (fun j c u hc hu => hF.sv1 (hm (j + 1) c u (by simpa using hc) (by simpa using hu)))
    refine ⟨c' :: l, u ++ u', S2, hk, hF.trans hF', by simp [hl'], fun j d hd => ?_, fun j d y hd hy => ?_⟩
    · cases j with
      | zero => simp only [List.getElem?_cons_zero, Option.some.injEq] at hd; subst hd; exact hlf
      | succ j => exact hlfs j d (by simpa using hd)
    · cases j with
      | zero =>
        simp only [List.getElem?_cons_zero, Option.some.injEq] at hd hy
        subst hd; subst hy
        exact hV.mono hF'.le
      | succ j => exact hVs j d y (by simpa using hd) (by simpa using hy)

theorem frz_ok (h : Rel P S0 W S gv fr a w) {σ : Nat → Option Ob} (hs : Sim σ fr.obj) {T : TypeId} {v : AV} {K : AV → Upd → Option β} {r : β} (hk : frz P σ T v K = some r) {val : Value} (hv : SV P S gv fr.obj v val) :
    ∃ v' u S', K v' u = some r ∧ Frz P S0 W S gv fr a w σ S' u ∧ V S' v' val := by
  unfold frz at hk
  cases ha : isAggT P T with
  | true =>
    rw [ha] at hk
    simp only [cond_true] at hk
    split at hk
    · obtain ⟨us, rfl, hl, h1, hm⟩ := hv
      obtain ⟨l, u, S', hk, hF, hl', hlf, hVs⟩ := frzCs_ok h hs hk hl hm
      exact ⟨_, u, S', hk, hF, .agg l us hl' hlf hVs⟩
    · cases hk
  | false =>
    rw [ha] at hk
    simp only [cond_false] at hk
    by_cases hc : v.isC = true
    · cases v <;> first | (simp [AV.isC] at hc; done) | (simp [frz1] at hk)
    · have hc : v.isC = false := by simpa using hc
      rw [SV_eq hc] at hv
      obtain ⟨v', u, S', hk, hF, hV, _⟩ := frz1_ok h hs hk hv
      exact ⟨v', u, S', hk, hF, hV⟩

/-- Values in a row, each pure. -/
def VL (S : Stab) (l : List AV) (us : List Value) : Prop := l.length = us.length ∧ ∀ (j : Nat) (c : AV) (x : Value), l[j]? = some c → us[j]? = some x → V S c x
theorem VL.mono {l : List AV} {us : List Value} (h : VL S l us) (hS : S.le S') : VL S' l us := ⟨h.1, fun j c x hc hx => (h.2 j c x hc hx).mono hS⟩
theorem VL.cons {c : AV} {x : Value} {l : List AV} {us : List Value} (h : V S c x) (hl : VL S l us) : VL S (c :: l) (x :: us) := by
  refine ⟨by simp [hl.1], fun j d y hd hy => ?_⟩
  cases j with
  | zero => simp only [List.getElem?_cons_zero, Option.some.injEq] at hd hy; subst hd; subst hy; exact h
  | succ j => exact hl.2 j d y (by simpa using hd) (by simpa using hy)
theorem frzL_ok : ∀ {ts : List TypeId} {cs : List AV} {K : List AV → Upd → Option β} {r : β} {S : Stab} {fr : Fr}, Rel P S0 W S gv fr a w → ∀ {σ : Nat → Option Ob}, Sim σ fr.obj → frzL P σ ts cs K = some r → ∀ {us : List Value}, cs.length = us.length →
    (∀ (j : Nat) (c : AV) (u : Value), cs[j]? = some c → us[j]? = some u → SV P S gv fr.obj c u) →
    ∃ l u S', K l u = some r ∧ Frz P S0 W S gv fr a w σ S' u ∧ VL S' l us
  | [], [], K, r, S, fr, h, σ, hs, hk, us, hl, hm => ⟨[], [], S, hk, Frz.nil h hs, hl, by simp⟩
  | [], _ :: _, K, r, S, fr, h, σ, hs, hk, us, hl, hm => by cases hk
  | t :: ts, [], K, r, S, fr, h, σ, hs, hk, us, hl, hm => by cases hk
  | t :: ts, c :: cs, K, r, S, fr, h, σ, hs, hk, [], hl, hm => by cases hl
  | t :: ts, c :: cs, K, r, S, fr, h, σ, hs, hk, x :: us, hl, hm => by
    simp only [frzL] at hk
    obtain ⟨c', u, S1, hk, hF, hV⟩ := frz_ok h hs hk (hm 0 c x rfl rfl)
    obtain ⟨l, u', S2, hk, hF', hVs⟩ := frzL_ok hF.rel hF.sim hk (us := us) (by simpa using hl) (fun j c u hc hu => hF.sv (hm (j + 1) c u (by simpa using hc) (by simpa using hu)))
    exact ⟨c' :: l, u ++ u', S2, hk, hF.trans hF', VL.cons (hV.mono hF'.le) hVs⟩
end Go.Proofs.YtbkhmkcmbaffoaaGreatDoor.Eng


/- The engine, part 6: operations on memory. -/
set_option linter.unusedVariables false
set_option linter.unusedSimpArgs false
namespace Go.Proofs.YtbkhmkcmbaffoaaGreatDoor.Eng
open Go Go.RowKit
variable {P : Program} {S0 S S' : Stab} {W : Ent} {w w' : World} {gv gv' : Nat → Value} {fr : Fr} {a : Act} {ob ob' : Nat → Option Ob} {β : Type}

/-- What an operation owes: whatever value, turns and new objects it hands on, the frame that they make is the run's. -/
def Fin (P : Program) (S0 : Stab) (W : Ent) (fr : Fr) (o : Oper) (K : AV → Upd → New → Option β) (r : β) (next : Act → World → Prop) : Prop :=
  ∀ v u n S' gv' a' w', K v u n = some r → Rel P S0 W S' gv' (fr.put o.dst v u n) a' w' → next a' w'

theorem ofConst1_V {v : Value} (h : (ofConst1 v).leaf = true) : V S (ofConst1 v) v ∧ v.oneCell' = true := by
  have h1 : SV1 default S (fun _ => undef) (fun _ => none) (ofConst1 v) v := ofConst1_ok v
  have : V S (ofConst1 v) v := by
    unfold ofConst1 at h h1 ⊢
    split at h <;> first | exact h1 | (simp [AV.leaf] at h)
  exact ⟨this, this.one h⟩
theorem cells_notC {x : AV} (h : x.isC = false) : x.cells = [x] := by cases x <;> first | rfl | (simp [AV.isC] at h)
theorem zero_ok {T : TypeId} (h : zeroOk P T = true) : ∃ i z, P.info? T = some i ∧ i.zero = some z ∧ i.size = P.cellsOf T ∧ (zeroAV P T).cells.length = P.cellsOf T ∧ z.cells.size = P.cellsOf T ∧
    (∀ (j : Nat) (u : Value), z.cells[j]? = some u → u.oneCell' = true) ∧ (∀ (j : Nat) (c : AV), (zeroAV P T).cells[j]? = some c → c.leaf = true) ∧ ∀ (S : Stab) (j : Nat) (c : AV) (u : Value), (zeroAV P T).cells[j]? = some c → z.cells[j]? = some u → V S c u := by
  simp only [zeroOk, Bool.and_eq_true, beq_iff_eq] at h
  obtain ⟨⟨h1, h2⟩, h3⟩ := h
  unfold zeroAV at h1 h2 h3 ⊢
  cases hi : P.info? T with
  | none => rw [hi] at h1; simp [AV.solid] at h1
  | some i =>
    rw [hi] at h1 h2 h3
    simp only [Option.bind_some] at h1 h2 h3 ⊢
    cases hz : i.zero with
    | none => rw [hz] at h1; simp [AV.solid] at h1
    | some z =>
      rw [hz] at h1 h2 h3
      simp only at h1 h2 h3 ⊢
      have key : (ofConst z).cells = z.cells.toList.map ofConst1 := by
        by_cases hz' : ∃ cs, z = .agg cs
        · obtain ⟨cs, rfl⟩ := hz'
          simp only [ofConst] at h1 ⊢
          cases hc : cs.toList.all Value.oneCell' with
          | true => rfl
          | false => rw [hc] at h1; simp [AV.solid] at h1
        · have e1 : ofConst z = ofConst1 z := by cases z <;> first | rfl | (exact absurd ⟨_, rfl⟩ hz')
          have e2 : z.cells = #[z] := by cases z <;> first | rfl | (exact absurd ⟨_, rfl⟩ hz')
          rw [e1, e2, cells_notC (ofConst1_isC z)]
          rfl
      rw [key] at h2 h3 ⊢
      have hl : ∀ (j : Nat) (c : AV) (u : Value), (z.cells.toList.map ofConst1)[j]? = some c → z.cells[j]? = some u → c = ofConst1 u ∧ c.leaf = true := by
        intro j c u hc hu
        have hm := List.all_eq_true.1 h2 c (List.mem_of_getElem? hc)
        rw [List.getElem?_map] at hc
        obtain ⟨u', hu', rfl⟩ := Option.map_eq_some_iff.1 hc
        rw [Array.getElem?_toList, hu] at hu'
        cases hu'
        exact ⟨rfl, hm⟩
      refine ⟨i, z, rfl, hz, by simp [Program.cellsOf, hi], h3, by simpa using h3, fun j u hu => ?_, fun j c hc => List.all_eq_true.1 h2 c (List.mem_of_getElem? hc), fun S j c u hc hu => ?_⟩
      · have hc : (z.cells.toList.map ofConst1)[j]? = some (ofConst1 u) := by rw [List.getElem?_map, Array.getElem?_toList, hu]; rfl
        exact (ofConst1_V (S := fun _ => none) (by rw [← (hl j _ u hc hu).1]; exact (hl j _ u hc hu).2)).2
      · obtain ⟨rfl, hlf⟩ := hl j c u hc hu
        exact (ofConst1_V hlf).1
theorem agree_alloc (h : Agree S w) (o : Obj) : Agree S (w.alloc o) := by
  intro x v hx
  have := h x v hx
  exact (World.cell?_of_block (Below.heap_alloc w o _ (World.block_lt_of_cell? w x this))).trans this
theorem agree_lt (h : Agree S w) {x : Addr} {v : Value} (hx : S x = some v) : x.block < w.heap.size := World.block_lt_of_cell? w x (h x v hx)
theorem hblk_lt (h : Rel P S0 W S gv fr a w) {r : Nat} {o : Ob} (hr : fr.obj r = some o) {g : Nat} (hg : hblk (gv r) = some g) : g < w.heap.size := by
  have := h.objs r o hr
  cases o with
  | box cs =>
    obtain ⟨g', u, T, h1, h2, h3, _⟩ := this
    rw [h1] at hg; cases hg
    exact (Array.getElem?_eq_some_iff.1 h3).1
  | row e xs fz =>
    obtain ⟨us, h1, _⟩ := this
    rcases h1.2 with ⟨hv, _⟩ | ⟨g', cap, cur, hv, hb, hh, _⟩
    · rw [hv] at hg; cases hg
    · rw [hv] at hg; cases hg
      exact (Array.getElem?_eq_some_iff.1 hh).1
  | it s pos =>
    obtain ⟨g', h1, h2, h3⟩ := this
    rw [h1] at hg; cases hg
    exact (Array.getElem?_eq_some_iff.1 h3).1
  | map kvs =>
    obtain ⟨b, h1, h2, es, clock, h3, _⟩ := this
    rw [h1] at hg; cases hg
    exact (Array.getElem?_eq_some_iff.1 h3).1
  | opq =>
    have hn : hblk (gv r) = none := this
    rw [hn] at hg; cases hg
  | fbox cs =>
    obtain ⟨g', u, T, h1, h2, h3, _⟩ := this
    rw [h1] at hg; cases hg
    exact (Array.getElem?_eq_some_iff.1 h3).1
theorem Rel.own (h : Rel P S0 W S gv fr a w) {r : Nat} {o : Ob} (hr : fr.obj r = some o) {g : Nat} (hg : hblk (gv r) = some g) : W.own g := by
  have := h.objs r o hr
  cases o with
  | box cs =>
    obtain ⟨g', u, T, h1, h2, _⟩ := this
    rw [h1] at hg; cases hg
    exact h2
  | row e xs fz =>
    obtain ⟨us, _, _, _, _, h5⟩ := this
    exact (h5 g hg).1
  | it s pos =>
    obtain ⟨g', h1, h2, _⟩ := this
    rw [h1] at hg; cases hg
    exact h2
  | map kvs =>
    obtain ⟨b, h1, h2, _⟩ := this
    rw [h1] at hg; cases hg
    exact h2
  | opq =>
    have hn : hblk (gv r) = none := this
    rw [hn] at hg; cases hg
  | fbox cs =>
    obtain ⟨g', u, T, h1, h2, _⟩ := this
    rw [h1] at hg; cases hg
    exact h2
/-- A new block is laid and named. -/
theorem Rel.newBox (h : Rel P S0 W S gv fr a w) {t : Nat} {cs : List AV} {u : Array Value} {T : TypeId} {dst : Option Tmp} (ht : t < fr.ob.length ∧ W.held t = none) (hl : u.size = cs.length)
    (h1 : ∀ (j : Nat) (v : Value), u[j]? = some v → v.oneCell' = true) (h2 : ∀ (gv' : Nat → Value) (ob' : Nat → Option Ob) (j : Nat) (c : AV) (v : Value), cs[j]? = some c → u[j]? = some v → SV1 P S gv' ob' c v) :
    Rel P S0 W S (upd gv t (.pointer (some ⟨w.heap.size, 0, none⟩))) (fr.put dst (.loc t 0) [] [(t, .box cs)]) (a.put dst (.pointer (some ⟨w.heap.size, 0, none⟩))) (w.alloc (.cells u T)) := by
  refine h.new (h.below.alloc _) (agree_alloc h.agree _) ht (fun r o' g hr hrt hg => Below.heap_alloc w _ g (hblk_lt h hr hg)) (fun r o' g hr hrt hg hg' => ?_) (fun ob' => ?_) (fun ob' ho => ?_)
  · cases hg
    exact absurd (hblk_lt h hr hg') (Nat.lt_irrefl _)
  · refine ⟨w.heap.size, u, T, by simp [upd], .inl h.below.size, heap_alloc_new w _, hl, h1, h2 _ _, fun x v hx e => ?_⟩
    have := agree_lt h.agree hx
    omega
  · exact ⟨rfl, fun o' hc hB => ⟨w.heap.size, by simp [upd], rfl⟩⟩

theorem cells_one {v : Value} (h : v.oneCell' = true) : v.cells = #[v] := by cases v <;> first | rfl | (simp [Value.oneCell'] at h)
theorem SV1.one {x : AV} {v : Value} (h : SV1 P S gv ob x v) (hc : x.isC = false) (hs : x.solid = true) : v.oneCell' = true := by
  cases x <;> first | exact h.1 | exact V.one (show V S _ _ from h) rfl | (simp [AV.isC] at hc; done) | (simp [AV.solid] at hs)
theorem SV.cells {v : AV} {val : Value} (hv : SV P S gv ob v val) (hsol : v.solid = true) :
    val.cells.size = v.cells.length ∧ (∀ u ∈ val.cells.toList, u.oneCell' = true) ∧ ∀ (j : Nat) (c : AV) (u : Value), v.cells[j]? = some c → val.cells[j]? = some u → SV1 P S gv ob c u := by
  by_cases hc : v.isC = true
  · cases v <;> first | (simp [AV.isC] at hc; done) | (simp [AV.solid] at hsol; done) | skip
    obtain ⟨us, rfl, hl, h1, h2⟩ := hv
    exact ⟨by simp [Value.cells, AV.cells, hl], fun u hu => h1 u (by simpa [Value.cells] using hu), fun j c u hc hu => h2 j c u hc (by simpa [Value.cells] using hu)⟩
  · have hc : v.isC = false := by simpa using hc
    rw [SV_eq hc] at hv
    rw [cells_one (hv.one hc hsol), cells_notC hc]
    refine ⟨rfl, fun u hu => ?_, fun j c u hc' hu => ?_⟩
    · simp at hu; subst hu; exact hv.one hc hsol
    · cases j with
      | zero => simp at hc' hu; subst hc'; subst hu; exact hv
      | succ j => simp at hc'
theorem V.cells {v : AV} {val : Value} (hv : V S v val) : val.cells.size = v.cells.length ∧ (∀ u ∈ val.cells.toList, u.oneCell' = true) ∧ (∀ (j : Nat) (c : AV), v.cells[j]? = some c → c.leaf = true) ∧ ∀ (j : Nat) (c : AV) (u : Value), v.cells[j]? = some c → val.cells[j]? = some u → V S c u := by
  by_cases hc : v.isC = true
  · cases v <;> first | (simp [AV.isC] at hc; done) | skip
    · cases hv with
      | agg _ vs h1 h2 h4 =>
        refine ⟨by simp [Value.cells, AV.cells, h1], fun u hu => ?_, fun j c hc => h2 j c hc, fun j c u hc hu => h4 j c u hc (by simpa [Value.cells] using hu)⟩
        obtain ⟨j, hj⟩ := List.getElem?_of_mem hu
        have hj : vs[j]? = some u := by simpa [Value.cells] using hj
        rename_i cs _
        have hlt : j < cs.length := by rw [h1]; exact (List.getElem?_eq_some_iff.1 hj).1
        exact (h4 j _ u (List.getElem?_eq_getElem hlt) hj).one (h2 j _ (List.getElem?_eq_getElem hlt))
    · cases hv
  · have hc : v.isC = false := by simpa using hc
    have hl : v.leaf = true := by
      cases v <;> first | rfl | (simp [AV.isC] at hc; done) | cases hv
    rw [cells_one (hv.one hl), cells_notC hc]
    refine ⟨rfl, fun u hu => ?_, fun j c hc' => ?_, fun j c u hc' hu => ?_⟩
    · simp at hu; subst hu; exact hv.one hl
    · cases j with
      | zero => simp at hc'; subst hc'; exact hl
      | succ j => simp at hc'
    · cases j with
      | zero => simp at hc' hu; subst hc'; subst hu; exact hv
      | succ j => simp at hc'

theorem loadK_ok (h : Rel P S0 W S gv fr a w) {σ : Nat → Option Ob} (hσ : ∀ r o, σ r = some o → fr.obj r = some o) {T : TypeId} {p : AV} {K : AV → Option β} {r : β} (hk : loadK P σ T p K = some r) {pv : Value} (hp : SV P S gv fr.obj p pv) :
    ∃ q v val, pv = .pointer (some q) ∧ (loadVar T q).run P w = .ok val w ∧ SV P S gv fr.obj v val ∧ K v = some r := by
  cases p <;> simp only [loadK] at hk <;> first | (cases hk; done) | skip
  case loc s off =>
    split at hk
    · rename_i cs hs
      have hs := hσ _ _ hs
      obtain ⟨g, u, T', h1, h2, h3, h4, h5, h6, h7⟩ := h.objs s _ hs
      obtain ⟨_, hp⟩ := hp
      obtain ⟨g', hg', rfl⟩ := hp _ hs rfl
      rw [h1] at hg'
      cases hg'
      have hk : loadT P T (cs.drop off) K = some r := by
        cases hsc : scalarT P T with
        | true => rw [hsc, cond_true] at hk; exact loadTP_loadT hk
        | false => rw [hsc, cond_false] at hk; exact hk
      obtain ⟨v, val, e1, e2, e3⟩ := loadT_ok (w := w) (S := S) (gv := gv) (ob := fr.obj) hk ⟨g, off, none⟩ (fun j c hc => by
        rw [List.getElem?_drop] at hc
        have hlt : off + j < u.size := by rw [h4]; exact (List.getElem?_eq_some_iff.1 hc).1
        refine ⟨u[off + j], ?_, h5 _ _ (Array.getElem?_eq_getElem hlt), h6 _ c _ hc (Array.getElem?_eq_getElem hlt)⟩
        rw [add_lit', cell_of_row w g (off + j) u T' (0, 0) h3]
        exact Array.getElem?_eq_getElem hlt)
      exact ⟨_, v, val, rfl, e1, e2, e3⟩
    · rename_i cs hs
      have hs := hσ _ _ hs
      obtain ⟨g, u, T', h1, h2, h3, hV⟩ := h.objs s _ hs
      obtain ⟨_, hp⟩ := hp
      obtain ⟨g', hg', rfl⟩ := hp _ hs rfl
      rw [h1] at hg' hV
      cases hg'
      generalize hq : Value.pointer (some ⟨g, 0, none⟩) = pv at hV
      cases hV with
      | eptr _ _ q f q2 q3 q4 =>
        have hq : (⟨g, 0, none⟩ : Addr) = q.add 0 := by injection hq with hq; exact Option.some.inj hq
        obtain ⟨v, val, e1, e2, e3⟩ := loadT_ok (w := w) (S := S) (gv := gv) (ob := fr.obj) (loadTP_loadT hk) ⟨g, off, none⟩ (fun j c hc => by
          rw [List.getElem?_drop] at hc
          refine ⟨f (off + j), ?_, (q4 _ c hc).one (q2 _ c hc), (q4 _ c hc).toSV1⟩
          have e : (⟨g, off, none⟩ : Addr).add j = q.add (off + j) := by
            have : q.add (off + j) = (q.add 0).add (off + j) := by rw [Go.Deep.add_add, Nat.zero_add]
            rw [this, ← hq, add_lit', add_lit', Nat.zero_add]
          rw [e]
          exact h.agree _ _ (q3 _ c hc))
        exact ⟨_, v, val, rfl, e1, e2, e3⟩
    · cases hk
  case rloc s i off =>
    split at hk
    · rename_i e xs fz hs
      have hs := hσ _ _ hs
      obtain ⟨us, hown, hsz, hone, hel, hSb⟩ := h.objs s _ hs
      obtain ⟨_, hp⟩ := hp
      obtain ⟨hi, g, m, c, hg, rfl⟩ := hp e xs fz hs
      obtain ⟨x, hx, hk⟩ := Option.bind_eq_some_iff.1 hk
      obtain ⟨v, val, e1, e2, e3⟩ := loadT_ok (w := w) (S := S) (gv := gv) (ob := fr.obj) (loadTP_loadT hk) ⟨g, i * P.cellsOf e + off, none⟩ (fun j c hc => by
        rw [List.getElem?_drop] at hc
        have hj : off + j < P.cellsOf e := by rw [← (hel i x hx).1]; exact (List.getElem?_eq_some_iff.1 hc).1
        have hlt : i * P.cellsOf e + (off + j) < us.length := by rw [hown.1]; exact flat_lt hi hj
        obtain ⟨hlf, hV⟩ := (hel i x hx).2 (off + j) c hc
        have hu := List.getElem?_eq_getElem hlt
        refine ⟨us[i * P.cellsOf e + (off + j)], ?_, hone _ (List.getElem_mem hlt), (hV _ hu).toSV1⟩
        rw [add_lit', Nat.add_assoc]
        exact cell_of_us hown hg hu)
      exact ⟨_, v, val, rfl, e1, e2, e3⟩
    · cases hk
  case eptr cs off =>
    cases (show V S _ _ from hp) with
    | eptr _ _ q f h2 h3 h4 =>
      obtain ⟨v, val, e1, e2, e3⟩ := loadT_ok (w := w) (S := S) (gv := gv) (ob := fr.obj) (loadTP_loadT hk) (q.add off) (fun j c hc => by
        rw [List.getElem?_drop] at hc
        refine ⟨f (off + j), ?_, (h4 _ c hc).one (h2 _ c hc), (h4 _ c hc).toSV1⟩
        rw [Go.Deep.add_add]
        exact h.agree _ _ (h3 _ c hc))
      exact ⟨_, v, val, rfl, e1, e2, e3⟩

section ops
variable {C : Cfg} {o : Oper} {K : AV → Upd → New → Option β} {r : β} {next : Act → World → Prop} {Q : Exit → Act → World → Prop}

theorem alloc_ok (h : Rel C.P S0 W S gv fr a w) {e : TypeId} {t : Nat} (ho : o.op = .alloc e) (ht : t < fr.ob.length ∧ W.held t = none) (hz : zeroOk C.P e = true) (hk : K (.loc t 0) [] [(t, .box (zeroAV C.P e).cells)] = some r)
    (hn : Fin C.P S0 W fr o K r next) : o.wp C.P a w next Q := by
  obtain ⟨i, z, hi, hz, hs, hl, hsz, h1, h2, h3⟩ := zero_ok hz
  refine wp_value (w' := w.alloc (.cells z.cells e)) (val := .pointer (some ⟨w.heap.size, 0, none⟩)) ?_ (hn _ _ _ _ _ _ _ hk (h.newBox ht (by rw [hl, hsz]) h1 fun gv' ob' j c v hc hv => (h3 S j c v hc hv).toSV1))
  unfold execOp
  simp only [ho, Instr.alloc, Sem.run_bind, zeroValue, typeInfo, run_program, hi, hz, Sem.run_pure, Result.andThen_ok, newVar, newRow, run_newObj]
  rfl
theorem box_ok (h : Rel C.P S0 W S gv fr a w) {e : TypeId} {x : Operand} {t : Nat} {v : AV} (ho : o.op = .box e x) (ht : t < fr.ob.length ∧ W.held t = none) (hv : SV C.P S gv fr.obj v (a.eval x)) (hsol : v.solid = true) (hk : K (.loc t 0) [] [(t, .box v.cells)] = some r) (hpure : v.names = [])
    (hn : Fin C.P S0 W fr o K r next) : o.wp C.P a w next Q := by
  obtain ⟨h1, h2, h3⟩ := hv.cells hsol
  refine wp_value (w' := w.alloc (.cells (a.eval x).cells e)) (val := .pointer (some ⟨w.heap.size, 0, none⟩)) ?_ (hn _ _ _ _ _ _ _ hk (h.newBox ht h1 (fun j u hu => h2 u (List.mem_of_getElem? (by simpa using hu))) fun gv' ob' j c u hc hu => ?_))
  · unfold execOp
    simp only [ho, Instr.box, Sem.run_bind, newVar, newRow, run_newObj, Sem.run_pure, Result.andThen_ok]
    rfl
  · refine (h3 j c u hc hu).mono (fun _ _ h => h) fun s hs => ?_
    have : s ∈ v.names := by
      by_cases hcc : v.isC = true
      · cases v <;> first | (simp [AV.isC] at hcc; done) | (simp [AV.solid] at hsol; done) | exact name1_mem hc s hs
      · have hcc : v.isC = false := by simpa using hcc
        rw [cells_notC hcc] at hc
        cases j with
        | zero => simp at hc; subst hc; rw [names_eq hcc]; exact hs
        | succ j => simp at hc
    rw [hpure] at this
    simp at this
theorem load_ok (h : Rel C.P S0 W S gv fr a w) {σ : Nat → Option Ob} (hσ : ∀ r o, σ r = some o → fr.obj r = some o) {T : TypeId} {x : Operand} {p : AV} (ho : o.op = .load T x) (hp : SV C.P S gv fr.obj p (a.eval x)) (hk : loadK C.P σ T p (fun v => K v [] []) = some r)
    (hn : Fin C.P S0 W fr o K r next) : o.wp C.P a w next Q := by
  obtain ⟨q, v, val, e0, e1, e2, e3⟩ := loadK_ok h hσ hk hp
  refine wp_value (w' := w) (val := val) ?_ (hn _ _ _ _ _ _ _ e3 (h.put0 e2 o.dst))
  unfold execOp
  simp only [ho, Instr.loadAt, Instr.sureAddr, e0, Sem.run_bind, e1, Sem.run_pure, Result.andThen_ok]
end ops
end Go.Proofs.YtbkhmkcmbaffoaaGreatDoor.Eng


/- The engine, part 7: stores, slices, rows. -/
set_option linter.unusedVariables false
set_option linter.unusedSimpArgs false
namespace Go.Proofs.YtbkhmkcmbaffoaaGreatDoor.Eng
open Go Go.RowKit
variable {P : Program} {S0 S S' : Stab} {W : Ent} {w w' : World} {gv gv' : Nat → Value} {fr : Fr} {a : Act} {ob ob' : Nat → Option Ob} {β : Type}

theorem cell_setRow {g : Nat} {x : Addr} (hx : x.block ≠ g) (cs : Array Value) : (w.setRow g cs).cell? x = w.cell? x := World.cell?_of_block (setRow_other w g x.block cs hx)
theorem splice_length {cs new : List AV} {off : Nat} (h : off + new.length ≤ cs.length) : (splice cs off new).length = cs.length := by
  simp [splice]; omega
theorem splice_get {α : Type} {cs new : List α} {off : Nat} (h : off + new.length ≤ cs.length) (j : Nat) : (cs.take off ++ new ++ cs.drop (off + new.length))[j]? = if off ≤ j ∧ j < off + new.length then new[j - off]? else cs[j]? := by
  by_cases h1 : j < off
  · rw [List.append_assoc, List.getElem?_append_left (by simp; omega), List.getElem?_take, if_pos h1, if_neg (by omega)]
  · by_cases h2 : j < off + new.length
    · rw [List.append_assoc, List.getElem?_append_right (by simp; omega), if_pos ⟨by omega, h2⟩, List.getElem?_append_left (by simp; omega)]
      simp [Nat.min_eq_left (show off ≤ cs.length by omega)]
    · rw [if_neg (by omega), List.getElem?_append_right (by simp; omega), List.getElem?_drop]
      congr 1
      simp; omega
theorem run_storeVar {T : TypeId} {g off : Nat} {cur : Array Value} {T' : TypeId} {val : Value} (hg : w.heap[g]? = some (.cells cur T' (0, 0))) (hs : val.cells.size = P.cellsOf T) (h0 : 0 < P.cellsOf T) (hfit : off + val.cells.size ≤ cur.size) (h1 : ∀ u ∈ val.cells.toList, u.oneCell' = true) :
    (storeVar T ⟨g, off, none⟩ val).run P w = .ok () (w.setRow g (cur.toList.take off ++ val.cells.toList ++ cur.toList.drop (off + val.cells.size)).toArray) := by
  have hi : ∃ i, P.info? T = some i := info_of_cells (by simp; omega)
  obtain ⟨i, hi⟩ := hi
  have hsz : val.cells.size = i.size := by rw [hs]; simp [Program.cellsOf, hi]
  have hst := run_storeCells_at P g off T' val.cells.toList 0 cur w hg (by simpa using hfit) h1
  simp only [Nat.add_zero, Array.length_toList] at hst
  simp [storeVar, sizeOf, typeInfo, hi, hsz, hst]

section ops
variable {C : Cfg} {o : Oper} {K : AV → Upd → New → Option β} {r : β} {next : Act → World → Prop} {Q : Exit → Act → World → Prop}

theorem store_loc (h : Rel C.P S0 W S gv fr a w) {T : TypeId} {po xo : Operand} {s off : Nat} {x : AV} {cs : List AV} (ho : o.op = .store T po xo) (hp : SV C.P S gv fr.obj (.loc s off) (a.eval po)) (hx : SV C.P S gv fr.obj x (a.eval xo)) (hsol : x.solid = true)
    (hs : fr.obj s = some (.box cs)) (hl : x.cells.length = C.P.cellsOf T) (h0 : 0 < C.P.cellsOf T) (hfit : off + x.cells.length ≤ cs.length) (hk : K .junk [(s, some (.box (splice cs off x.cells)))] [] = some r)
    (hn : Fin C.P S0 W fr o K r next) : o.wp C.P a w next Q := by
  obtain ⟨g, u, T', h1, h2, h3, h4, h5, h6, h7⟩ := h.objs s _ hs
  obtain ⟨_, hp⟩ := hp
  obtain ⟨g', hg', e⟩ := hp _ hs rfl
  rw [h1] at hg'
  cases hg'
  obtain ⟨c1, c2, c3⟩ := hx.cells hsol
  have hrun := run_storeVar (P := C.P) (T := T) (off := off) h3 (by rw [c1, hl]) h0 (by rw [c1, h4]; exact hfit) c2
  have hbl : hblk (gv s) = some g := by rw [h1]; rfl
  have hgl := (Array.getElem?_eq_some_iff.1 h3).1
  have hrel := h.turn (S' := S) (o' := .box (splice cs off x.cells)) (w' := w.setRow g (u.toList.take off ++ (a.eval xo).cells.toList ++ u.toList.drop (off + (a.eval xo).cells.size)).toArray) hs (Stab.le_refl S) (by simp [Kin]) (h.below.setRow h2 _)
    (fun y v hy => by rw [cell_setRow (fun e => h7 y v hy e)]; exact h.agree y v hy)
    (fun s' o1 g' hs' hne hg' => ⟨setRow_other w g g' _ (fun e => hne (h.dis s' s o1 _ g' hs' hs hg' (by rw [e]; exact hbl))), fun _ _ hx _ => hx⟩) (fun _ _ hx => .inl hx)
    (fun ob' hkin => by
      refine ⟨g, _, T', h1, h2, setRow_heap w g u _ T' _ h3, ?_, ?_, ?_, h7⟩
      · rw [splice_length hfit, ← h4]
        simp; omega
      · intro j v hv
        rw [List.getElem?_toArray, show off + (a.eval xo).cells.size = off + (a.eval xo).cells.toList.length from by simp, splice_get (by simp; omega)] at hv
        split at hv
        · exact c2 v (List.mem_of_getElem? hv)
        · exact h5 j v (by simpa using hv)
      · intro j c v hc hv
        rw [List.getElem?_toArray, show off + (a.eval xo).cells.size = off + (a.eval xo).cells.toList.length from by simp, splice_get (by simp; omega)] at hv
        rw [splice, splice_get hfit] at hc
        simp only [Array.length_toList, c1] at hv
        split at hc
        · rename_i hj
          rw [if_pos hj] at hv
          exact (c3 _ c v hc (by simpa using hv)).mono (Stab.le_refl S) fun q _ => ⟨hkin q, fun _ => rfl⟩
        · rename_i hj
          rw [if_neg hj] at hv
          exact (h6 j c v hc (by simpa using hv)).mono (Stab.le_refl S) fun q _ => ⟨hkin q, fun _ => rfl⟩)
  refine wp_skip' (w' := w.setRow g (u.toList.take off ++ (a.eval xo).cells.toList ++ u.toList.drop (off + (a.eval xo).cells.size)).toArray) ?_ (hn _ _ _ _ _ _ _ hk (by rw [put_split]; exact hrel.put0 (v := .junk) trivial o.dst))
  unfold execOp
  simp only [ho, Instr.storeAt, Instr.sureAddr, e, Sem.run_bind, Sem.run_pure, Result.andThen_ok, hrun]

theorem mkElem_cells {sz : Nat} {cs : List AV} {y : AV} (hl : cs.length = y.cells.length) (hlf : ∀ (j : Nat) (c : AV), cs[j]? = some c → c.leaf = true) : (mkElem sz cs y).cells = cs := by
  unfold mkElem
  split
  · rfl
  · rename_i hy
    have : y.cells = [y] := by cases y <;> first | rfl | (exact absurd rfl (hy _))
    rw [this] at hl
    match cs, hl with
    | [c], _ =>
      have := hlf 0 c rfl
      cases c <;> first | rfl | (simp [AV.leaf] at this)
theorem applyU_other {r : Nat} : ∀ (u : Upd) (l : List (Option Ob)), (u.map (·.1)).contains r = false → (applyU l u).getD r none = l.getD r none
  | [], l, _ => rfl
  | (q, x) :: u, l, h => by
    simp only [List.map_cons, List.contains_cons, Bool.or_eq_false_iff, beq_eq_false_iff_ne] at h
    rw [applyU, applyU_other u _ h.2, getD_set, if_neg (fun e => h.1 e.1.symm)]

theorem store_rloc (h : Rel C.P S0 W S gv fr a w) {σ : Nat → Option Ob} (hσ : ∀ r o, σ r = some o → fr.obj r = some o) {T : TypeId} {po xo : Operand} {s i off : Nat} {x : AV} {e : TypeId} {xs : List AV} (ho : o.op = .store T po xo) (hp : SV C.P S gv fr.obj (.rloc s i off) (a.eval po)) (hx : SV C.P S gv fr.obj x (a.eval xo))
    (hs : σ s = some (.row e xs false))
    (hk : (frz C.P σ T x fun x u => (xs[i]?).bind fun y => bif (x.cells.length == C.P.cellsOf T) && decide (0 < C.P.cellsOf T) && decide (off + x.cells.length ≤ y.cells.length) && !(u.map (·.1)).contains s then K .junk (u ++ [(s, some (.row e (xs.set i (mkElem (C.P.cellsOf e) (splice y.cells off x.cells) y)) false))]) [] else none) = some r)
    (hn : Fin C.P S0 W fr o K r next) : o.wp C.P a w next Q := by
  obtain ⟨x', u, S1, hk, hF, hV⟩ := frz_ok h (Sim.of fun r o h => hσ r o h) hk hx
  obtain ⟨y, hy, hk⟩ := Option.bind_eq_some_iff.1 hk
  obtain ⟨hc, hk⟩ := some_of_bif hk
  simp only [Bool.and_eq_true, beq_iff_eq, decide_eq_true_eq, Bool.not_eq_true', Bool.not_eq_eq_eq_not, Bool.not_true] at hc
  obtain ⟨⟨⟨hl, h0⟩, hfit⟩, hnc⟩ := hc
  have hs0 := hσ _ _ hs
  have hs1 : ({ fr with ob := applyU fr.ob u } : Fr).obj s = some (.row e xs false) := by
    show (applyU fr.ob u).getD s none = _
    rw [applyU_other u fr.ob hnc]
    exact hs0
  have hR := hF.rel
  obtain ⟨us, hown, hsz, hone, hel, hSb⟩ := hR.objs s _ hs1
  obtain ⟨_, hp⟩ := hp
  obtain ⟨hi, g, m, c, hg, ep⟩ := hp e xs false hs0
  have hnoS : ∀ z v, S1 z = some v → z.block ≠ g := fun z v hz hb => by
    have := ((hSb g (by rw [hg]; rfl)).2 z v hz hb).1
    cases this
  obtain ⟨hul, hown'⟩ := hown
  rcases hown' with ⟨hv, _⟩ | ⟨g', cap, cur, hv, hb, hh, hnc', hcm, hcs, htk⟩
  · rw [hg] at hv; cases hv
  rw [hg] at hv
  cases hv
  obtain ⟨c1, c2, c3, c4⟩ := hV.cells
  have hylen := (hel i y hy).1
  have hspan : i * C.P.cellsOf e + (off + x'.cells.length) ≤ xs.length * C.P.cellsOf e := by
    have : (i + 1) * C.P.cellsOf e ≤ xs.length * C.P.cellsOf e := Nat.mul_le_mul_right _ hi
    rw [Nat.add_mul, Nat.one_mul] at this
    omega
  have hcur : xs.length * C.P.cellsOf e ≤ cur.size := by rw [hcs]; exact Nat.mul_le_mul_right _ hnc'
  have hrun := run_storeVar (P := C.P) (T := T) (off := i * C.P.cellsOf e + off) hh (by rw [c1, hl]) h0 (by rw [c1]; omega) c2
  have hbl : hblk (gv s) = some g := by rw [hg]; rfl
  have hsp : (splice y.cells off x'.cells).length = y.cells.length := splice_length hfit
  have hspg : ∀ (j : Nat) (d : AV), (splice y.cells off x'.cells)[j]? = some d → (if off ≤ j ∧ j < off + x'.cells.length then x'.cells[j - off]? else y.cells[j]?) = some d := fun j d hd => by rw [splice, splice_get hfit] at hd; exact hd
  have hsplf : ∀ (j : Nat) (d : AV), (splice y.cells off x'.cells)[j]? = some d → d.leaf = true := by
    intro j d hd
    have := hspg j d hd
    split at this
    · exact c3 _ d this
    · exact ((hel i y hy).2 j d this).1
  have hmk : (mkElem (C.P.cellsOf e) (splice y.cells off x'.cells) y).cells = splice y.cells off x'.cells := mkElem_cells hsp hsplf
  have hrel := hR.turn (S' := S1) (o' := .row e (xs.set i (mkElem (C.P.cellsOf e) (splice y.cells off x'.cells) y)) false) (w' := w.setRow g (cur.toList.take (i * C.P.cellsOf e + off) ++ (a.eval xo).cells.toList ++ cur.toList.drop (i * C.P.cellsOf e + off + (a.eval xo).cells.size)).toArray) hs1 (Stab.le_refl S1) (by simp [Kin]) (hR.below.setRow (hSb g hbl).1 _)
    (fun z v hz => by rw [cell_setRow (hnoS z v hz)]; exact hR.agree z v hz)
    (fun s' o1 g' hs' hne hg' => ⟨setRow_other w g g' _ (fun e => hne (hR.dis s' s o1 _ g' hs' hs1 hg' (by rw [e]; exact hbl))), fun _ _ hx _ => hx⟩) (fun _ _ hx => .inl hx)
    (fun ob' hkin => by
      have hget : ∀ k, (cur.toList.take (i * C.P.cellsOf e + off) ++ (a.eval xo).cells.toList ++ cur.toList.drop (i * C.P.cellsOf e + off + (a.eval xo).cells.size))[k]? = if i * C.P.cellsOf e + off ≤ k ∧ k < i * C.P.cellsOf e + off + x'.cells.length then (a.eval xo).cells.toList[k - (i * C.P.cellsOf e + off)]? else cur.toList[k]? := by
        intro k
        rw [show i * C.P.cellsOf e + off + (a.eval xo).cells.size = i * C.P.cellsOf e + off + (a.eval xo).cells.toList.length from by simp, splice_get (by simp; omega)]
        simp only [Array.length_toList, c1]
      have hlen : (cur.toList.take (i * C.P.cellsOf e + off) ++ (a.eval xo).cells.toList ++ cur.toList.drop (i * C.P.cellsOf e + off + (a.eval xo).cells.size)).length = cur.size := by simp; omega
      refine ⟨(cur.toList.take (i * C.P.cellsOf e + off) ++ (a.eval xo).cells.toList ++ cur.toList.drop (i * C.P.cellsOf e + off + (a.eval xo).cells.size)).take (xs.length * C.P.cellsOf e), ⟨?_, .inr ⟨g, c, _, ?_, hb, setRow_heap w g cur _ e _ hh, by simpa using hnc', hcm, ?_, ?_⟩⟩, hsz, ?_, ?_, ?_⟩
      · rw [List.length_take, hlen]; simp; omega
      · rw [hg, List.length_set]
      · rw [List.size_toArray, hlen]; exact hcs
      · simp
      · intro z hz
        obtain ⟨k, hk⟩ := List.getElem?_of_mem hz
        rw [List.getElem?_take] at hk
        split at hk
        · rename_i hkl
          rw [hget k] at hk
          split at hk
          · exact c2 z (List.mem_of_getElem? hk)
          · refine hone z ?_
            rw [← htk]
            refine List.mem_of_getElem? (i := k) ?_
            rw [List.getElem?_take, if_pos hkl]
            exact hk
        · cases hk
      · intro i' z hz
        rw [List.getElem?_set] at hz
        have hcurus : ∀ k v, k < xs.length * C.P.cellsOf e → cur.toList[k]? = some v → us[k]? = some v := by
          intro k v hkl hkv
          rw [← htk, List.getElem?_take, if_pos hkl]; exact hkv
        by_cases hii : i = i'
        · subst hii
          rw [if_pos rfl, if_pos hi] at hz
          cases hz
          rw [hmk]
          refine ⟨by rw [hsp, hylen], fun j d hd => ⟨hsplf j d hd, fun v hv => ?_⟩⟩
          have hjl : j < C.P.cellsOf e := by rw [← hylen, ← hsp]; exact (List.getElem?_eq_some_iff.1 hd).1
          rw [List.getElem?_take, if_pos (flat_lt hi hjl), hget] at hv
          have hd' := hspg j d hd
          by_cases hj : off ≤ j ∧ j < off + x'.cells.length
          · rw [if_pos (by omega)] at hv
            rw [if_pos hj] at hd'
            refine c4 (j - off) d v hd' ?_
            rw [show i * C.P.cellsOf e + j - (i * C.P.cellsOf e + off) = j - off from by omega] at hv
            simpa using hv
          · rw [if_neg (by omega)] at hv
            rw [if_neg hj] at hd'
            exact ((hel i y hy).2 j d hd').2 v (hcurus _ v (flat_lt hi hjl) hv)
        · rw [if_neg hii] at hz
          refine ⟨(hel i' z hz).1, fun j d hd => ⟨((hel i' z hz).2 j d hd).1, fun v hv => ?_⟩⟩
          have hi' : i' < xs.length := (List.getElem?_eq_some_iff.1 hz).1
          have hjl : j < C.P.cellsOf e := by rw [← (hel i' z hz).1]; exact (List.getElem?_eq_some_iff.1 hd).1
          rw [List.getElem?_take, if_pos (flat_lt hi' hjl), hget] at hv
          have hne : ¬ (i * C.P.cellsOf e + off ≤ i' * C.P.cellsOf e + j ∧ i' * C.P.cellsOf e + j < i * C.P.cellsOf e + off + x'.cells.length) := by
            rintro ⟨q1, q2⟩
            rcases Nat.lt_or_gt_of_ne hii with hlt | hlt
            · have : (i + 1) * C.P.cellsOf e ≤ i' * C.P.cellsOf e := Nat.mul_le_mul_right _ hlt
              rw [Nat.add_mul, Nat.one_mul] at this
              omega
            · have : (i' + 1) * C.P.cellsOf e ≤ i * C.P.cellsOf e := Nat.mul_le_mul_right _ hlt
              rw [Nat.add_mul, Nat.one_mul] at this
              omega
          rw [if_neg hne] at hv
          exact ((hel i' z hz).2 j d hd).2 v (hcurus _ v (flat_lt hi' hjl) hv)
      · intro g' hg'
        refine ⟨(hSb g' hg').1, fun z v hz hb' => ?_⟩
        rw [hg] at hg'; cases hg'
        exact absurd hb' (hnoS z v hz))
  refine wp_skip' (w' := w.setRow g (cur.toList.take (i * C.P.cellsOf e + off) ++ (a.eval xo).cells.toList ++ cur.toList.drop (i * C.P.cellsOf e + off + (a.eval xo).cells.size)).toArray) ?_ (hn .junk _ [] S1 gv _ _ hk (by rw [put_split, applyU_append]; exact hrel.put0 (v := .junk) trivial o.dst))
  unfold execOp
  simp only [ho, Instr.storeAt, Instr.sureAddr, ep, Sem.run_bind, Sem.run_pure, Result.andThen_ok, hrun]
end ops
end Go.Proofs.YtbkhmkcmbaffoaaGreatDoor.Eng


/- The engine, part 8: slices, places, rows that grow. -/
set_option linter.unusedVariables false
set_option linter.unusedSimpArgs false
namespace Go.Proofs.YtbkhmkcmbaffoaaGreatDoor.Eng
open Go Go.RowKit
variable {P : Program} {S0 S S' : Stab} {W : Ent} {w w' : World} {gv gv' : Nat → Value} {fr : Fr} {a : Act} {ob ob' : Nat → Option Ob} {β : Type}

theorem bound1_ok {x : Option AV} {d y : Nat} {K : Nat → Option β} {r : β} (h : bound1 x d y K = some r) {xv : Option Value} (hx : ∀ v, x = some v → ∃ u, xv = some u ∧ SV P S gv ob v u) (hn : x = none → xv = none) :
    ∃ n, K n = some r ∧ ((xv = none ∧ n = d) ∨ ∃ (k : IntKind) (z : Int), xv = some (.int k z) ∧ 0 ≤ z ∧ z ≤ y ∧ n = z.toNat) := by
  unfold bound1 at h
  split at h
  · exact ⟨d, h, .inl ⟨hn rfl, rfl⟩⟩
  · rename_i k i
    obtain ⟨hc, h⟩ := some_of_bif h
    simp only [Bool.and_eq_true, decide_eq_true_eq] at hc
    obtain ⟨u, hu, sv⟩ := hx _ rfl
    rw [sv.int] at hu
    exact ⟨_, h, .inr ⟨_, _, hu, hc.1, hc.2, rfl⟩⟩
  · cases h
/-- The bounds of a cut, run. -/
theorem run_bounds (isSlice : Bool) (len cap h l : Nat) {lo hi : Option Value} (hh : (hi = none ∧ h = len) ∨ ∃ (k : IntKind) (z : Int), hi = some (.int k z) ∧ 0 ≤ z ∧ z ≤ len ∧ h = z.toNat)
    (hl : (lo = none ∧ l = 0) ∨ ∃ (k : IntKind) (z : Int), lo = some (.int k z) ∧ 0 ≤ z ∧ z ≤ h ∧ l = z.toNat) (hc : len ≤ cap) :
    (Instr.sliceBounds isSlice len cap lo hi none).run P w = .ok (l, h, cap) w := by
  rcases hh with ⟨rfl, rfl⟩ | ⟨k, z, rfl, z0, z1, rfl⟩
  · rcases hl with ⟨rfl, rfl⟩ | ⟨k', y, rfl, y0, y1, rfl⟩
    · simp [Instr.sliceBounds]
    · simp [Instr.sliceBounds, run_sliceBound w k' y _ _ y0 y1]
  · have hz : (z.toNat : Int) = z := Int.toNat_of_nonneg z0
    rcases hl with ⟨rfl, rfl⟩ | ⟨k', y, rfl, y0, y1, rfl⟩
    · simp [Instr.sliceBounds, run_sliceBound w k z cap _ z0 (by omega)]
    · simp [Instr.sliceBounds, run_sliceBound w k z cap _ z0 (by omega), run_sliceBound w k' y z.toNat _ y0 y1]
theorem elem_of {T e : TypeId} (h : P.underlying T = some (.slice e)) : P.elem T = e := by simp [Program.elem, h]
theorem run_sliceAt_gen {T e : TypeId} (hu : P.underlying T = some (.slice e)) (hz : (P.cellsOf e == 0) = false) {a : Option Addr} {len cap h l : Nat} {lo hi : Option Value} (hh : (hi = none ∧ h = len) ∨ ∃ (k : IntKind) (z : Int), hi = some (.int k z) ∧ 0 ≤ z ∧ z ≤ len ∧ h = z.toNat)
    (hl : (lo = none ∧ l = 0) ∨ ∃ (k : IntKind) (z : Int), lo = some (.int k z) ∧ 0 ≤ z ∧ z ≤ h ∧ l = z.toNat) (hc : len ≤ cap) :
    (Instr.sliceAt T (.slice a len cap) lo hi none).run P w = .ok (.slice (if cap = l then a else a.map (·.add (l * P.cellsOf e))) (h - l) (cap - l)) w := by
  obtain ⟨i, hi'⟩ := info_of_cells hz
  rw [run_sliceAt_slice w T _ lo hi none (by rw [elem_of hu]; exact hu), run_slice_any w T a len cap (by rw [elem_of hu]; exact hu) lo hi none, run_bounds true len cap h l hh hl hc]
  simp [sizeOf, typeInfo, elem_of hu, hi', sliced, Program.cellsOf]
theorem le_of_bound {h len : Nat} {hi : Option Value} (hh : (hi = none ∧ h = len) ∨ ∃ (k : IntKind) (z : Int), hi = some (.int k z) ∧ 0 ≤ z ∧ z ≤ (len : Int) ∧ h = z.toNat) : h ≤ len := by
  rcases hh with ⟨_, rfl⟩ | ⟨k, z, _, z0, z1, rfl⟩ <;> omega
theorem le_of_bound0 {l h : Nat} {lo : Option Value} (hl : (lo = none ∧ l = 0) ∨ ∃ (k : IntKind) (z : Int), lo = some (.int k z) ∧ 0 ≤ z ∧ z ≤ (h : Int) ∧ l = z.toNat) : l ≤ h := by
  rcases hl with ⟨_, rfl⟩ | ⟨k, z, _, z0, z1, rfl⟩ <;> omega
/-- A part of a list that stays. -/
theorem V.cut {sz : Nat} {xs : List AV} {v : Value} (h : V S (.list sz xs) v) {l hh : Nat} (hl : l ≤ hh) (hx : hh ≤ xs.length) :
    ∃ a cap, v = .slice a xs.length cap ∧ xs.length ≤ cap ∧ V S (.list sz ((xs.take hh).drop l)) (.slice (if cap = l then a else a.map (·.add (l * sz))) (hh - l) (cap - l)) := by
  cases h with
  | list0 _ a cap =>
    refine ⟨some a, cap, rfl, Nat.zero_le _, ?_⟩
    obtain rfl : hh = 0 := by simpa using hx
    obtain rfl : l = 0 := by omega
    simp only [List.take_nil, List.drop_nil, Nat.sub_self, Nat.zero_mul]
    split <;> exact .list0 _ _ _
  | listn _ =>
    refine ⟨none, 0, rfl, Nat.zero_le _, ?_⟩
    obtain rfl : hh = 0 := by simpa using hx
    obtain rfl : l = 0 := by omega
    simp only [List.take_nil, List.drop_nil, Nat.sub_self, if_true]
    exact .listn _
  | list _ _ a cap f h0 h1 h2 h3 h4 =>
    refine ⟨some a, cap, rfl, h0, ?_⟩
    by_cases he : hh = l
    · subst he
      have : (xs.take hh).drop hh = [] := by simp
      rw [this, Nat.sub_self]
      split <;> exact .list0 _ _ _
    · have hcl : cap ≠ l := by omega
      have hlen : hh - l = ((xs.take hh).drop l).length := by simp; omega
      rw [if_neg hcl, hlen]
      have hin : ∀ (i : Nat) (x : AV), ((xs.take hh).drop l)[i]? = some x → xs[l + i]? = some x := by
        intro i x hi
        rw [List.getElem?_drop, List.getElem?_take] at hi
        split at hi
        · exact hi
        · cases hi
      refine .list _ _ _ _ (fun i j => f (l + i) j) (by rw [← hlen]; omega) (fun i x hi => h1 _ x (hin i x hi)) (fun i x j c hi hj => h2 _ x j c (hin i x hi) hj) (fun i x j c hi hj => ?_) (fun i x j c hi hj => h4 _ x j c (hin i x hi) hj)
      have := h3 _ x j c (hin i x hi) hj
      rw [Go.Deep.add_add]
      rw [Nat.add_mul, Nat.add_assoc] at this
      exact this

section ops
variable {C : Cfg} {o : Oper} {K : AV → Upd → New → Option β} {r : β} {next : Act → World → Prop} {Q : Exit → Act → World → Prop}

theorem slice_run {T : TypeId} {x : Operand} {lo hi : Option Operand} (ho : o.op = .slice T x lo hi none) {val : Value} (hrun : (Instr.sliceAt T (a.eval x) (lo.map a.eval) (hi.map a.eval) none).run C.P w = .ok val w)
    (hn : next (a.put o.dst val) w) : o.wp C.P a w next Q := by
  refine wp_value (w' := w) (val := val) ?_ hn
  unfold execOp
  simp only [ho, Sem.run_bind, Option.map_none, hrun, Sem.run_pure, Result.andThen_ok]

theorem slice_ok (h : Rel C.P S0 W S gv fr a w) {σ : Nat → Option Ob} (hσ : ∀ r o, σ r = some o → fr.obj r = some o) {T : TypeId} {xo : Operand} {lo hi : Option Operand} {x : AV} {l hh : Option AV} (ho : o.op = .slice T xo lo hi none) (hx : SV C.P S gv fr.obj x (a.eval xo))
    (hlo : ∀ v, l = some v → ∃ u, lo.map a.eval = some u ∧ SV C.P S gv fr.obj v u) (hlo' : l = none → lo.map a.eval = none)
    (hhi : ∀ v, hh = some v → ∃ u, hi.map a.eval = some u ∧ SV C.P S gv fr.obj v u) (hhi' : hh = none → hi.map a.eval = none)
    (hk : sliceK C.P σ T x l hh (fun v u => K v u []) = some r) (hn : Fin C.P S0 W fr o K r next) : o.wp C.P a w next Q := by
  unfold sliceK at hk
  split at hk
  · rename_i hu
    split at hk
    · rename_i s
      obtain ⟨n, hk, hb⟩ := bound1_ok hk hhi hhi'
      obtain ⟨m, hk, hb'⟩ := bound1_ok hk hlo hlo'
      refine slice_run ho (val := .string (s.extract m n)) ?_ (hn _ _ _ _ _ _ _ hk (h.put0 (V.str _).toSV o.dst))
      rw [hx.str, run_sliceAt_string w T _ _ _ none hu]
      simp [Instr.slice, run_underlying hu, run_bounds false s.size s.size n m hb hb' (Nat.le_refl _)]
    · cases hk
  · rename_i e hu
    have hz := (some_of_bif' hk).1
    replace hk := (some_of_bif' hk).2
    have hlist : ∀ {S' : Stab} {u : Upd} (sz : Nat) (xs : List AV), S.le S' → sz = C.P.cellsOf e → Rel C.P S0 W S' gv { fr with ob := applyU fr.ob u } a w → V S' (.list sz xs) (a.eval xo) → sliceL sz xs l hh u (fun v u => K v u []) = some r → o.wp C.P a w next Q := by
      intro S' u sz xs hle hsz hR hV hk
      obtain ⟨n, hk, hb⟩ := bound1_ok hk hhi hhi'
      obtain ⟨m, hk, hb'⟩ := bound1_ok hk hlo hlo'
      obtain ⟨ad, cap, e1, e2, e3⟩ := hV.cut (le_of_bound0 hb') (le_of_bound hb)
      refine slice_run ho ?_ (hn _ u [] S' gv _ _ hk (by rw [put_split]; exact hR.put0 e3.toSV o.dst))
      rw [e1, run_sliceAt_gen hu hz hb hb' e2, hsz]
    cases x with
    | list sz xs =>
      have hsz := beq_iff_eq.1 (some_of_bif hk).1
      replace hk := (some_of_bif hk).2
      subst hsz
      exact hlist (u := []) _ xs (Stab.le_refl S) rfl h hx hk
    | nils =>
      obtain ⟨n, hk1, hb⟩ := bound1_ok hk hhi hhi'
      obtain ⟨m, hk2, hb'⟩ := bound1_ok hk1 hlo hlo'
      have hxv : a.eval xo = .slice none 0 0 := by
        have hx' : V S .nils (a.eval xo) := hx
        generalize a.eval xo = xv at hx'
        cases hx'; rfl
      have hn0 : n = 0 := by have := le_of_bound hb; omega
      have hm0 : m = 0 := by have := le_of_bound0 hb'; omega
      subst hn0; subst hm0
      refine slice_run ho (val := .slice none 0 0) ?_ (hn _ _ _ _ _ _ _ hk2 (h.put0 V.nils.toSV o.dst))
      rw [hxv, run_sliceAt_gen hu hz hb hb' (Nat.le_refl _)]
      simp
    | own q =>
      simp only at hk
      split at hk
      · rename_i e' xs fz hq
        have he := beq_iff_eq.1 (some_of_bif hk).1
        replace hk := (some_of_bif hk).2
        subst he
        have hq' := hσ _ _ hq
        obtain ⟨_, hxv⟩ := hx
        have hxv := hxv _ _ _ hq'
        obtain ⟨us, hown, _⟩ := h.objs q _ hq'
        split at hk
        · obtain ⟨n, hk, hb⟩ := bound1_ok hk hhi hhi'
          have hn' := le_of_bound hb
          refine slice_run ho (val := cutV n (gv q)) ?_ (hn _ _ _ _ _ _ _ hk (h.put0 (v := .ownp q n) ⟨?_, fun e2 xs2 fz2 h2 => ?_⟩ o.dst))
          · rw [hxv, hlo' rfl]
            rcases hown.2 with ⟨hv, hn0⟩ | ⟨g, cap, cur, hv, _, _, hnc, _⟩
            · rw [hv, run_sliceAt_gen hu hz (len := 0) (cap := 0) (h := n) (l := 0) (by rw [hn0] at hb; exact hb) (.inl ⟨rfl, rfl⟩) (Nat.le_refl _)]
              obtain rfl : n = 0 := by omega
              rfl
            · rw [hv, run_sliceAt_gen hu hz hb (.inl ⟨rfl, rfl⟩) hnc]
              simp [cutV, Addr.add]
          · rcases hown.2 with ⟨hv, hn0⟩ | ⟨g, cap, cur, hv, _⟩ <;> rw [hv] <;> rfl
          · rw [hq'] at h2; cases h2; exact ⟨hn', rfl⟩
        · obtain ⟨S', hF, hV, ⟨fz', ho'⟩, hcut⟩ := frz_row h (Sim.of fun r o h => hσ r o h) hq
          have := hV xs.length (Nat.le_refl _)
          rw [List.take_length, hcut, ← hxv] at this
          exact hlist (u := [(q, some (.row _ xs true))]) _ xs hF.le rfl hF.rel this hk
      · cases hk
    | ownp q m =>
      simp only at hk
      split at hk
      · rename_i e' xs fz hq
        have he := beq_iff_eq.1 (some_of_bif hk).1
        replace hk := (some_of_bif hk).2
        subst he
        have hq' := hσ _ _ hq
        obtain ⟨_, hxv⟩ := hx
        obtain ⟨hm, hxv⟩ := hxv _ _ _ hq'
        obtain ⟨us, hown, _⟩ := h.objs q _ hq'
        split at hk
        · obtain ⟨n, hk, hb⟩ := bound1_ok hk hhi hhi'
          have hn' := le_of_bound hb
          refine slice_run ho (val := cutV n (gv q)) ?_ (hn _ _ _ _ _ _ _ hk (h.put0 (v := .ownp q n) ⟨?_, fun e2 xs2 fz2 h2 => ?_⟩ o.dst))
          · rw [hxv, hlo' rfl]
            rcases hown.2 with ⟨hv, hn0⟩ | ⟨g, cap, cur, hv, _, _, hnc, _⟩
            · obtain rfl : m = 0 := by omega
              rw [hv]
              show (Instr.sliceAt T (.slice none 0 0) none _ none).run C.P w = _
              rw [run_sliceAt_gen hu hz (len := 0) (cap := 0) (h := n) (l := 0) hb (.inl ⟨rfl, rfl⟩) (Nat.le_refl _)]
              obtain rfl : n = 0 := by omega
              rfl
            · rw [hv]
              show (Instr.sliceAt T (.slice (some ⟨g, 0, none⟩) m cap) none _ none).run C.P w = _
              rw [run_sliceAt_gen hu hz hb (.inl ⟨rfl, rfl⟩) (by omega)]
              simp [cutV, Addr.add]
          · rcases hown.2 with ⟨hv, hn0⟩ | ⟨g, cap, cur, hv, _⟩ <;> rw [hv] <;> rfl
          · rw [hq'] at h2; cases h2; exact ⟨by omega, rfl⟩
        · obtain ⟨S', hF, hV, ⟨fz', ho'⟩, hcut⟩ := frz_row h (Sim.of fun r o h => hσ r o h) hq
          have := hV m hm
          rw [← hxv] at this
          exact hlist (u := [(q, some (.row _ xs true))]) _ (xs.take m) hF.le rfl hF.rel this hk
      · cases hk
    | _ => cases hk
  · cases hk
end ops
end Go.Proofs.YtbkhmkcmbaffoaaGreatDoor.Eng


/- The engine, part 9: places of elements; rows that are laid and that grow. -/
set_option linter.unusedVariables false
set_option linter.unusedSimpArgs false
namespace Go.Proofs.YtbkhmkcmbaffoaaGreatDoor.Eng
open Go Go.RowKit
variable {P : Program} {S0 S S' : Stab} {W : Ent} {w w' : World} {gv gv' : Nat → Value} {fr : Fr} {a : Act} {ob ob' : Nat → Option Ob} {β : Type}

theorem indexAddrK_ok (h : Rel P S0 W S gv fr a w) {σ : Nat → Option Ob} (hσ : ∀ r o, σ r = some o → fr.obj r = some o) {T : TypeId} {x i : AV} {K : AV → Option β} {r : β} (hk : indexAddrK P σ T x i K = some r) {xv iv : Value} (hx : SV P S gv fr.obj x xv) (hi : SV P S gv fr.obj i iv) :
    ∃ v val, (Instr.indexAt T xv iv).run P w = .ok val w ∧ SV P S gv fr.obj v val ∧ K v = some r := by
  unfold indexAddrK at hk
  split at hk
  · rename_i e hu
    cases x with
    | list sz xs =>
      have hc := (some_of_bif hk).1
      replace hk := (some_of_bif hk).2
      simp only [Bool.and_eq_true, beq_iff_eq, Bool.not_eq_true', beq_eq_false_iff_ne] at hc
      obtain ⟨rfl, hz⟩ := hc
      obtain ⟨k, z, rfl, z0, z1, hk⟩ := idxOf_ok hk hi
      obtain ⟨y, hy, hk⟩ := Option.bind_eq_some_iff.1 hk
      have hV : V S (.list (P.cellsOf e) xs) xv := hx
      cases hV with
      | list0 _ a cap => simp at hy
      | listn _ => simp at hy
      | list _ _ ad cap f h0 h1 h2 h3 h4 =>
        refine ⟨_, _, run_indexAt_slice' hu (info_of_cells (by simpa using hz)) ad xs.length cap k z z0 z1, ?_, hk⟩
        have := V.eptr (S := S) y.cells 0 (ad.add (z.toNat * P.cellsOf e)) (f z.toNat) (fun j c hc => h2 _ y j c hy hc) (fun j c hc => by rw [Go.Deep.add_add]; exact h3 _ y j c hy hc) (fun j c hc => h4 _ y j c hy hc)
        rw [show (ad.add (z.toNat * P.cellsOf e)).add 0 = ad.add (z.toNat * P.cellsOf e) from rfl] at this
        exact this.toSV
    | own q =>
      simp only at hk
      split at hk
      · rename_i e' xs fz hq
        have he := beq_iff_eq.1 (some_of_bif hk).1
        replace hk := (some_of_bif hk).2
        subst he
        obtain ⟨k, z, rfl, z0, z1, hk⟩ := idxOf_ok hk hi
        have hq' := hσ _ _ hq
        obtain ⟨_, hxv⟩ := hx
        have hxv := hxv _ _ _ hq'
        obtain ⟨us, hown, hsz, _⟩ := h.objs q _ hq'
        rcases ownsRow_form hown with ⟨hv, hn⟩ | ⟨g, cap, hv, hb⟩
        · omega
        · rw [hxv, hv]
          refine ⟨.rloc q z.toNat 0, _, run_indexAt_slice' hu (info_of_cells (by simp; omega)) _ _ cap k z z0 z1, ⟨rfl, fun e2 xs2 fz2 h2 => ?_⟩, hk⟩
          rw [hq'] at h2; cases h2
          exact ⟨by omega, g, _, cap, hv, by rw [add_lit']; simp⟩
      · cases hk
    | ownp q n =>
      simp only at hk
      split at hk
      · rename_i e' xs fz hq
        have he := beq_iff_eq.1 (some_of_bif hk).1
        replace hk := (some_of_bif hk).2
        subst he
        obtain ⟨k, z, rfl, z0, z1, hk⟩ := idxOf_ok hk hi
        have hq' := hσ _ _ hq
        obtain ⟨_, hxv⟩ := hx
        obtain ⟨hn, hxv⟩ := hxv _ _ _ hq'
        obtain ⟨us, hown, hsz, _⟩ := h.objs q _ hq'
        rcases ownsRow_form hown with ⟨hv, hn0⟩ | ⟨g, cap, hv, hb⟩
        · omega
        · rw [hxv, hv]
          refine ⟨.rloc q z.toNat 0, _, run_indexAt_slice' hu (info_of_cells (by simp; omega)) _ n cap k z z0 z1, ⟨rfl, fun e2 xs2 fz2 h2 => ?_⟩, hk⟩
          rw [hq'] at h2; cases h2
          exact ⟨by omega, g, _, cap, hv, by rw [add_lit']; simp⟩
      · cases hk
    | _ => cases hk
  · rename_i n e hu
    have hz := (some_of_bif' hk).1
    replace hk := (some_of_bif' hk).2
    obtain ⟨k, z, rfl, z0, z1, hk⟩ := idxOf_ok hk hi
    cases x with
    | loc q off =>
      have hb := (some_of_bif hk).1
      replace hk := (some_of_bif hk).2
      unfold isBox at hb
      split at hb
      · rename_i o' hq
        obtain ⟨_, hxv⟩ := hx
        obtain ⟨g, hg, rfl⟩ := hxv o' (hσ _ _ hq) hb
        refine ⟨.loc q (off + z.toNat * P.cellsOf e), _, run_indexAt_array' hu (info_of_cells hz) _ k z z0 z1, ⟨rfl, fun o' hc hB => ⟨g, hg, by rw [add_lit']⟩⟩, hk⟩
      · cases hb
    | eptr cs off =>
      have hV : V S (.eptr cs off) xv := hx
      cases hV with
      | eptr _ _ q f h2 h3 h4 =>
        refine ⟨_, _, run_indexAt_array' hu (info_of_cells hz) _ k z z0 z1, ?_, hk⟩
        rw [Go.Deep.add_add]
        exact (V.eptr cs (off + z.toNat * P.cellsOf e) q f h2 h3 h4).toSV
    | _ => cases hk
  · cases hk

/-- append onto a row of one's own: where the new row lies, and what the old one still holds. -/
theorem run_append_mine (base : Nat) (t ty e : TypeId) (i : TypeInfo) (z : Value) (ht : P.underlying t = some (.slice e)) (hi : P.info? e = some i) (hz : i.zero = some z) (hzs : z.cells.size = i.size) (hsz : 0 < i.size)
    (v : Value) (n : Nat) (xs : List Value) (hown : w.ownsRow base e i.size v n xs) (x : Value) (m : Nat) (news : List Value)
    (hx : (x = .slice none 0 0 ∧ m = 0) ∨ ∃ a c, x = .slice (some a) m c ∧ ∀ j u, news[j]? = some u → w.cell? (a.add j) = some u) (hl : news.length = m * i.size) (h1 : ∀ u ∈ news, u.oneCell' = true)
    (h63 : n + m ≤ maxLen) (hbytes : (n + m) * i.bytes ≤ 140737488355328) (hbase : base ≤ w.heap.size) :
    ∃ v' w', (Builtin.append_ #[t, t] ty #[v, x]).run P w = .ok v' w' ∧ w'.ownsRow base e i.size v' (n + m) (xs ++ news) ∧ w.grownBy w' v.ownBlock ∧
      (∀ g, hblk v' = some g → some g = hblk v ∨ w.heap.size ≤ g) ∧ (∀ g j u, hblk v = some g → xs[j]? = some u → w'.cell? ⟨g, j, none⟩ = some u) := by
  have hob : ∀ v : Value, v.oneCell' = true → (∃ a l c, v = .slice a l c) → v.ownBlock = hblk v := by
    rintro v _ ⟨a, l, c, rfl⟩; cases a <;> rfl
  have hold : ∀ g j u, hblk v = some g → xs[j]? = some u → w.cell? ⟨g, j, none⟩ = some u := by
    intro g j u hg hu
    rcases ownsRow_form hown with ⟨hv, _⟩ | ⟨g', cap, hv, _⟩
    · rw [hv] at hg; cases hg
    · rw [hv] at hg; cases hg
      exact cell_of_us hown hv hu
  rcases hx with ⟨rfl, rfl⟩ | ⟨ad, c, rfl, hnews⟩
  · have hn : news = [] := List.eq_nil_of_length_eq_zero (by simpa using hl)
    subst hn
    refine ⟨v, w, run_append_owned_none (P := P) (w := w) base t ty e i i.size ht hi v n xs hown, by simpa using hown, ⟨rfl, rfl, rfl, Nat.le_refl _, fun _ _ _ => rfl⟩, fun g hg => .inl hg.symm, hold⟩
  · have hnew : ∀ old, old < n + m → (w.drew.alloc (.cells (xs.toArray ++ news.toArray ++ Builtin.zeroCells z.cells (grownCap w (n + m) old e - (n + m))) e)).ownsRow base e i.size
        (.slice (some ⟨w.heap.size, 0, none⟩) (n + m) (grownCap w (n + m) old e)) (n + m) (xs ++ news) := by
      intro old ho
      refine ⟨by rw [List.length_append, hown.1, hl, Nat.add_mul], .inr ⟨w.heap.size, _, _, rfl, hbase, heap_alloc_new w.drew _, grownCap_ge w _ _ e, grownCap_le_maxLen w _ _ e h63, ?_, ?_⟩⟩
      · have hge := grownCap_ge w (n + m) old e
        simp only [Array.size_append, List.size_toArray, size_zeroCells, hzs, hown.1, hl, ← Nat.add_mul]
        congr 1
        omega
      · have : (xs ++ news).length = (n + m) * i.size := by rw [List.length_append, hown.1, hl, Nat.add_mul]
        simp only [Array.toList_append, List.append_assoc]
        rw [← List.append_assoc, ← this]
        exact List.take_left
    have hgrown : ∀ o, w.grownBy (w.drew.alloc o) v.ownBlock := fun o => ⟨rfl, rfl, rfl, by simp, fun k hk _ => Below.heap_alloc w.drew o k hk⟩
    have hkeep : ∀ o g j u, hblk v = some g → xs[j]? = some u → (w.drew.alloc o).cell? ⟨g, j, none⟩ = some u := by
      intro o g j u hg hu
      have := hold g j u hg hu
      exact (World.cell?_of_block (Below.heap_alloc w.drew o g (World.block_lt_of_cell? w ⟨g, j, none⟩ this))).trans this
    rcases hown.2 with ⟨hv, hn⟩ | ⟨g, cap, cur, hv, hbg, hg, hnc, hcm, hcs, htake⟩
    · subst hv; subst hn
      have hx : xs = [] := List.eq_nil_of_length_eq_zero (by simpa using hown.1)
      subst hx
      by_cases hm : m = 0
      · subst hm
        have hn : news = [] := List.eq_nil_of_length_eq_zero (by simpa using hl)
        subst hn
        obtain ⟨v', w', q1, q2, q3, q4⟩ := run_append_own (P := P) w base t ty e i z i.size i.bytes ht hi hz rfl rfl hzs hsz (.slice none 0 0) 0 [] hown ad 0 c [] (by simp) (by simp) (by simp) h63 hbytes hbase
        have hv' : v' = .slice none 0 0 := q4.2 ⟨rfl, rfl⟩
        subst hv'
        exact ⟨_, w', q1, q2, q3, fun g hg => (by simp [hblk] at hg), fun g j u hg _ => (by simp [hblk] at hg)⟩
      · have hr := run_append_nil (P := P) w t ty e i z ht hi hz ad m c news hl hnews (by omega) (by simp [maxLen] at h63; omega) (by have := hbytes; simp only [Nat.zero_add] at this; omega)
        have h2 := hnew 0 (by omega)
        simp only [Nat.zero_add, List.nil_append, Array.empty_append] at h2 ⊢
        exact ⟨_, _, hr, h2, hgrown _, fun g hg => (by cases hg; exact .inr (Nat.le_refl _)), fun g j u hg _ => (by simp [hblk] at hg)⟩
    · subst hv
      by_cases hroom : n + m ≤ cap
      · have hfit : n * i.size + news.length ≤ cur.size := by rw [hl, hcs, ← Nat.add_mul]; exact Nat.mul_le_mul_right _ hroom
        have hr := run_append_room (P := P) w t ty e i ht hi g n cap cur hg ad m c news hl hnews h1 hroom hfit
        have hlen : (xs ++ news).length = (n + m) * i.size := by rw [List.length_append, hown.1, hl, Nat.add_mul]
        refine ⟨_, _, hr, ⟨hlen, .inr ⟨g, cap, _, rfl, hbg, setRow_heap w g cur _ e _ hg, hroom, hcm, ?_, ?_⟩⟩, ⟨rfl, rfl, rfl, by simp, fun k _ hk => setRow_other w g k _ (fun e => hk (by simp [Value.ownBlock, e]))⟩, fun g' hg' => .inl hg'.symm, fun g' j u hg' hu => ?_⟩
        · simp only [List.size_toArray, List.length_append, List.length_take, List.length_drop, Array.length_toList]
          omega
        · rw [htake, ← hlen]
          exact List.take_left
        · cases hg'
          rw [cell_of_row _ g j _ e (0, 0) (setRow_heap w g cur _ e _ hg), List.getElem?_toArray, htake, List.append_assoc, List.getElem?_append_left (List.getElem?_eq_some_iff.1 hu).1]
          exact hu
      · have hr := run_append_grow (P := P) w t ty e i z ht hi hz ⟨g, 0, none⟩ n cap xs hown.1 (fun j u hu => hown.cells (g := g) rfl j u hu) ad m c news hl hnews (by omega) (by simp [maxLen] at h63; omega) (growslice_fits (by omega) hbytes)
        exact ⟨_, _, hr, hnew cap (by omega), hgrown _, fun g' hg' => (by cases hg'; exact .inr (Nat.le_refl _)), hkeep _⟩
end Go.Proofs.YtbkhmkcmbaffoaaGreatDoor.Eng


/- The engine, part 10: append, make, a slice's literal. -/
set_option linter.unusedVariables false
set_option linter.unusedSimpArgs false
namespace Go.Proofs.YtbkhmkcmbaffoaaGreatDoor.Eng
open Go Go.RowKit
variable {P : Program} {S0 S S' : Stab} {W : Ent} {w w' : World} {gv gv' : Nat → Value} {fr : Fr} {a : Act} {ob ob' : Nat → Option Ob} {β : Type}

/-- Elements, and the cells that hold them. -/
def Els (P : Program) (S : Stab) (e : TypeId) (ys : List AV) (news : List Value) : Prop :=
  news.length = ys.length * P.cellsOf e ∧ (∀ u ∈ news, u.oneCell' = true) ∧
  ∀ (i : Nat) (y : AV), ys[i]? = some y → y.cells.length = P.cellsOf e ∧ ∀ (j : Nat) (c : AV), y.cells[j]? = some c → c.leaf = true ∧ ∀ v, news[i * P.cellsOf e + j]? = some v → V S c v
theorem Els.append {e : TypeId} {xs ys : List AV} {us vs : List Value} (h : Els P S e xs us) (k : Els P S e ys vs) : Els P S e (xs ++ ys) (us ++ vs) := by
  obtain ⟨h1, h2, h3⟩ := h
  obtain ⟨k1, k2, k3⟩ := k
  refine ⟨by rw [List.length_append, h1, k1, List.length_append, Nat.add_mul], fun u hu => (List.mem_append.1 hu).elim (h2 u) (k2 u), fun i y hy => ?_⟩
  by_cases hi : i < xs.length
  · rw [List.getElem?_append_left hi] at hy
    obtain ⟨q1, q2⟩ := h3 i y hy
    refine ⟨q1, fun j c hc => ⟨(q2 j c hc).1, fun v hv => (q2 j c hc).2 v ?_⟩⟩
    have hj : j < P.cellsOf e := by rw [← q1]; exact (List.getElem?_eq_some_iff.1 hc).1
    rwa [List.getElem?_append_left (by rw [h1]; exact flat_lt hi hj)] at hv
  · rw [List.getElem?_append_right (by omega)] at hy
    obtain ⟨q1, q2⟩ := k3 (i - xs.length) y hy
    refine ⟨q1, fun j c hc => ⟨(q2 j c hc).1, fun v hv => (q2 j c hc).2 v ?_⟩⟩
    have hle : xs.length * P.cellsOf e ≤ i * P.cellsOf e := Nat.mul_le_mul_right _ (by omega)
    rw [List.getElem?_append_right (by rw [h1]; omega), h1] at hv
    rwa [show i * P.cellsOf e + j - xs.length * P.cellsOf e = (i - xs.length) * P.cellsOf e + j from by rw [Nat.sub_mul]; omega] at hv
theorem Els.take {e : TypeId} {xs : List AV} {us : List Value} (h : Els P S e xs us) (n : Nat) : Els P S e (xs.take n) (us.take ((xs.take n).length * P.cellsOf e)) := by
  obtain ⟨h1, h2, h3⟩ := h
  have hle : (xs.take n).length * P.cellsOf e ≤ us.length := by rw [h1]; exact Nat.mul_le_mul_right _ (by simp; omega)
  refine ⟨by rw [List.length_take]; omega, fun u hu => h2 u (List.mem_of_mem_take hu), fun i y hy => ?_⟩
  have hi : i < (xs.take n).length := (List.getElem?_eq_some_iff.1 hy).1
  have hy' : xs[i]? = some y := by
    rw [List.getElem?_take] at hy
    split at hy
    · exact hy
    · cases hy
  obtain ⟨q1, q2⟩ := h3 i y hy'
  refine ⟨q1, fun j c hc => ⟨(q2 j c hc).1, fun v hv => (q2 j c hc).2 v ?_⟩⟩
  rw [List.getElem?_take] at hv
  split at hv
  · exact hv
  · cases hv
theorem Els.mono {e : TypeId} {xs : List AV} {us : List Value} (h : Els P S e xs us) (hS : S.le S') : Els P S' e xs us :=
  ⟨h.1, h.2.1, fun i y hy => ⟨(h.2.2 i y hy).1, fun j c hc => ⟨((h.2.2 i y hy).2 j c hc).1, fun v hv => (((h.2.2 i y hy).2 j c hc).2 v hv).mono hS⟩⟩⟩
theorem row_els {r : Nat} {e : TypeId} {xs : List AV} {fz : Bool} (h : ObR P W S gv ob w r (.row e xs fz)) : ∃ us, w.ownsRow 0 e (P.cellsOf e) (gv r) xs.length us ∧ 0 < P.cellsOf e ∧ Els P S e xs us ∧ (∀ g, hblk (gv r) = some g → W.own g ∧ ∀ x v, S x = some v → x.block = g → fz = true ∧ x.spot = none ∧ x.off < xs.length * P.cellsOf e) := by
  obtain ⟨us, h1, h2, h3, h4, h5⟩ := h
  exact ⟨us, h1, h2, ⟨h1.1, h3, h4⟩, h5⟩

theorem srcK_ok (h : Rel P S0 W S gv fr a w) {σ : Nat → Option Ob} (hσ : ∀ r o, σ r = some o → fr.obj r = some o) {e : TypeId} (hz : 0 < P.cellsOf e) {x : AV} {K : List AV → Option β} {r : β} (hk : srcK P σ e x K = some r) {xv : Value} (hx : SV P S gv fr.obj x xv) :
    ∃ ys news, K ys = some r ∧ Els P S e ys news ∧ ((xv = .slice none 0 0 ∧ ys.length = 0) ∨ ∃ a c, xv = .slice (some a) ys.length c ∧ ∀ j u, news[j]? = some u → w.cell? (a.add j) = some u) := by
  cases x <;> simp only [srcK] at hk <;> first | (cases hk; done) | skip
  case nils =>
    have hV : V S .nils xv := hx
    cases hV
    exact ⟨[], [], hk, ⟨by simp, by simp, by simp⟩, .inl ⟨rfl, rfl⟩⟩
  case list sz ys =>
    have he := beq_iff_eq.1 (some_of_bif hk).1
    replace hk := (some_of_bif hk).2
    subst he
    have hV : V S (.list (P.cellsOf e) ys) xv := hx
    cases hV with
    | list0 _ ad cap => exact ⟨[], [], hk, ⟨by simp, by simp, by simp⟩, .inr ⟨ad, cap, rfl, by simp⟩⟩
    | listn _ => exact ⟨[], [], hk, ⟨by simp, by simp, by simp⟩, .inl ⟨rfl, rfl⟩⟩
    | list _ _ ad cap f h0 h1 h2 h3 h4 =>
      have key : ∀ k, k < ys.length * P.cellsOf e → ∃ y c, ys[k / P.cellsOf e]? = some y ∧ y.cells[k % P.cellsOf e]? = some c ∧ k / P.cellsOf e * P.cellsOf e + k % P.cellsOf e = k := by
        intro k hk
        have hd : k / P.cellsOf e < ys.length := Nat.div_lt_of_lt_mul (by rw [Nat.mul_comm]; exact hk)
        have hm : k % P.cellsOf e < P.cellsOf e := Nat.mod_lt _ hz
        have hl := h1 _ _ (List.getElem?_eq_getElem hd)
        have hm' : k % P.cellsOf e < (ys[k / P.cellsOf e]).cells.length := by rw [hl]; exact hm
        exact ⟨_, _, List.getElem?_eq_getElem hd, List.getElem?_eq_getElem hm', by rw [Nat.mul_comm]; exact Nat.div_add_mod _ _⟩
      have hget : ∀ k u, ((List.range (ys.length * P.cellsOf e)).map fun k => f (k / P.cellsOf e) (k % P.cellsOf e))[k]? = some u → k < ys.length * P.cellsOf e ∧ u = f (k / P.cellsOf e) (k % P.cellsOf e) := by
        intro k u hu
        rw [List.getElem?_map] at hu
        obtain ⟨i, hi, rfl⟩ := Option.map_eq_some_iff.1 hu
        obtain ⟨hlt, rfl⟩ := List.getElem?_eq_some_iff.1 hi
        rw [List.length_range] at hlt
        rw [List.getElem_range]
        exact ⟨hlt, rfl⟩
      refine ⟨ys, (List.range (ys.length * P.cellsOf e)).map fun k => f (k / P.cellsOf e) (k % P.cellsOf e), hk, ⟨by simp, fun u hu => ?_, fun i y hy => ⟨h1 i y hy, fun j c hc => ⟨h2 i y j c hy hc, fun v hv => ?_⟩⟩⟩, .inr ⟨ad, cap, rfl, fun k u hu => ?_⟩⟩
      · obtain ⟨k, hk⟩ := List.getElem?_of_mem hu
        obtain ⟨hlt, rfl⟩ := hget k u hk
        obtain ⟨y, c, hy, hc, _⟩ := key k hlt
        exact (h4 _ y _ c hy hc).one (h2 _ y _ c hy hc)
      · obtain ⟨_, rfl⟩ := hget _ v hv
        have hj : j < P.cellsOf e := by rw [← h1 i y hy]; exact (List.getElem?_eq_some_iff.1 hc).1
        rw [show (i * P.cellsOf e + j) / P.cellsOf e = i from by rw [Nat.mul_comm, Nat.mul_add_div hz, Nat.div_eq_of_lt hj]; omega, show (i * P.cellsOf e + j) % P.cellsOf e = j from by rw [Nat.mul_comm, Nat.mul_add_mod, Nat.mod_eq_of_lt hj]]
        exact h4 i y j c hy hc
      · obtain ⟨hlt, rfl⟩ := hget k u hu
        obtain ⟨y, c, hy, hc, hkk⟩ := key k hlt
        have := h3 _ y _ c hy hc
        rw [hkk] at this
        exact h.agree _ _ this
  case own q =>
    split at hk
    · rename_i e' ys fz hq
      have he := beq_iff_eq.1 (some_of_bif hk).1
      replace hk := (some_of_bif hk).2
      subst he
      have hq' := hσ _ _ hq
      obtain ⟨us, hown, hsz, hE, _⟩ := row_els (h.objs q _ hq')
      obtain ⟨_, hxv⟩ := hx
      have hxv := hxv _ _ _ hq'
      refine ⟨ys, us, hk, hE, ?_⟩
      rcases ownsRow_form hown with ⟨hv, hn⟩ | ⟨g, cap, hv, hb⟩
      · exact .inl ⟨by rw [hxv, hv], hn⟩
      · exact .inr ⟨_, cap, by rw [hxv, hv], fun j u hu => by rw [add_lit', Nat.zero_add]; exact cell_of_us hown hv hu⟩
    · cases hk
  case ownp q n =>
    split at hk
    · rename_i e' ys fz hq
      have he := beq_iff_eq.1 (some_of_bif hk).1
      replace hk := (some_of_bif hk).2
      subst he
      have hq' := hσ _ _ hq
      obtain ⟨us, hown, hsz, hE, _⟩ := row_els (h.objs q _ hq')
      obtain ⟨_, hxv⟩ := hx
      obtain ⟨hn', hxv⟩ := hxv _ _ _ hq'
      refine ⟨ys.take n, _, hk, hE.take n, ?_⟩
      rcases ownsRow_form hown with ⟨hv, hn⟩ | ⟨g, cap, hv, hb⟩
      · have : n = 0 := by omega
        subst this
        exact .inl ⟨by rw [hxv, hv]; rfl, by simp⟩
      · refine .inr ⟨_, cap, by rw [hxv, hv]; simp [cutV, Nat.min_eq_left hn']; rfl, fun j u hu => ?_⟩
        rw [add_lit', Nat.zero_add]
        rw [List.getElem?_take] at hu
        split at hu
        · exact cell_of_us hown hv hu
        · cases hu
    · cases hk

section ops
variable {C : Cfg} {o : Oper} {K : AV → Upd → New → Option β} {r : β} {next : Act → World → Prop} {Q : Exit → Act → World → Prop}

/-- A new row, under its name: laid, or grown out of one that is let go. -/
theorem Rel.newRow (h : Rel P S0 W S gv fr a w) {t : Nat} {e : TypeId} {xs : List AV} {fz : Bool} {us : List Value} {hv : Value} {dst : Option Tmp} (ht : t < fr.ob.length ∧ W.held t = none) (hw : BelX W w') (hag : Agree S w')
    (hoth : ∀ r o' g, fr.obj r = some o' → r ≠ t → hblk (gv r) = some g → w'.heap[g]? = w.heap[g]? ∧ hblk hv ≠ some g)
    (hown : w'.ownsRow 0 e (P.cellsOf e) hv xs.length us) (hsz : 0 < P.cellsOf e) (hE : Els P S e xs us)
    (hS : ∀ g, hblk hv = some g → W.own g ∧ ∀ x v, S x = some v → x.block = g → fz = true ∧ x.spot = none ∧ x.off < xs.length * P.cellsOf e) (hone : hv.oneCell' = true) :
    Rel P S0 W S (upd gv t hv) (fr.put dst (.own t) [] [(t, .row e xs fz)]) (a.put dst hv) w' := by
  have hu : upd gv t hv t = hv := by simp [upd]
  refine h.new hw hag ht (fun r o' g hr hrt hg => (hoth r o' g hr hrt hg).1) (fun r o' g hr hrt hg hg' => (hoth r o' g hr hrt hg').2 hg) (fun ob' => ⟨us, by rw [hu]; exact hown, hsz, hE.2.1, hE.2.2, by rw [hu]; exact hS⟩) (fun ob' ho => ⟨hone, fun e' xs' fz' h' => ?_⟩)
  rw [hu]

theorem append_ok (h : Rel C.P S0 W S gv fr a w) {σ : Nat → Option Ob} (hσ : ∀ r o, σ r = some o → fr.obj r = some o) {T : TypeId} {so xo : Operand} {s x : AV} {t : Nat} (ho : o.op = .call { callee := .builtin .append, args := #[so, xo], argTypes := #[T, T] })
    (ht : ∀ v u n, K v u n = some r → ∀ y ∈ n, y.1 < fr.ob.length ∧ W.held y.1 = none) (hs : SV C.P S gv fr.obj s (a.eval so)) (hx : SV C.P S gv fr.obj x (a.eval xo)) (hk : appendK C.P σ t T s x K = some r) (hn : Fin C.P S0 W fr o K r next) : o.wp C.P a w next Q := by
  unfold appendK at hk
  split at hk
  · rename_i e hu
    have hz := (some_of_bif hk).1
    replace hk := (some_of_bif hk).2
    simp only [Bool.and_eq_true, Bool.not_eq_true', beq_eq_false_iff_ne] at hz
    obtain ⟨hzo, hz0⟩ := hz
    have hsz : 0 < C.P.cellsOf e := by omega
    obtain ⟨i, z, hi, hiz, his, _, hzs, _⟩ := zero_ok hzo
    obtain ⟨ys, news, hk, hE, hxv⟩ := srcK_ok h hσ hsz hk hx
    have hby : C.P.bytesOf e = i.bytes := by simp [Program.bytesOf, hi]
    have go : ∀ {u : Upd} {xs : List AV} {fz : Bool} {us : List Value}, w.ownsRow 0 e (C.P.cellsOf e) (a.eval so) xs.length us → (∀ g, hblk (a.eval so) = some g → W.own g) → Els C.P S e xs us → Rel C.P S0 W S gv { fr with ob := applyU fr.ob u } a w →
        (∀ g, hblk (a.eval so) = some g → (∀ q o' , ({ fr with ob := applyU fr.ob u } : Fr).obj q = some o' → hblk (gv q) ≠ some g) ∧ ∀ x v, S x = some v → x.block = g → fz = true ∧ x.spot = none ∧ x.off < xs.length * C.P.cellsOf e) →
        growK C.P t e u xs fz ys K = some r → o.wp C.P a w next Q := by
      intro u xs fz us hown hsome hEx hR hfree hk
      unfold growK at hk
      have hc := (some_of_bif hk).1
      replace hk := (some_of_bif hk).2
      simp only [Bool.and_eq_true, decide_eq_true_eq] at hc
      obtain ⟨v', w', hrun, hown', hgr, hblk', hkeep⟩ := run_append_mine (P := C.P) 0 T o.type e i z hu hi hiz (by rw [hzs, his]) (by rw [his]; exact hsz) (a.eval so) xs.length us (by rw [his]; exact hown) (a.eval xo) ys.length news
        (hxv.imp (fun q => ⟨q.1, by rw [q.2]⟩) (fun q => q)) (by rw [his]; exact hE.1) hE.2.1 (by simp [maxLen]; omega) (by rw [← hby]; exact hc.1) (Nat.zero_le _)
      rw [his] at hown'
      have hobk : (a.eval so).ownBlock = hblk (a.eval so) := by
        rcases ownsRow_form hown with ⟨hv, _⟩ | ⟨g', cap, hv, hb⟩ <;> rw [hv] <;> rfl
      rw [hobk] at hgr
      have hbel : BelX W w' := h.below.grown hgr hsome
      have hag : Agree S w' := by
        intro y v hy
        have hc := h.agree y v hy
        by_cases hyb : hblk (a.eval so) = some y.block
        · obtain ⟨_, hsp, hoff⟩ := (hfree _ hyb).2 y v hy rfl
          have hyy : y = ⟨y.block, y.off, none⟩ := by cases y; simp at hsp; subst hsp; rfl
          have hlt : y.off < us.length := by rw [hown.1]; exact hoff
          have hcell : w.cell? ⟨y.block, y.off, none⟩ = some us[y.off] := by
            rcases ownsRow_form hown with ⟨hv, _⟩ | ⟨g', cap, hv, hb⟩
            · rw [hv] at hyb; cases hyb
            · rw [hv] at hyb; cases hyb
              exact cell_of_us hown hv (List.getElem?_eq_getElem hlt)
          rw [hyy] at hc ⊢
          rw [hcell] at hc
          cases hc
          exact hkeep y.block y.off _ hyb (List.getElem?_eq_getElem hlt)
        · exact (World.cell?_of_block (hgr.block y.block (World.block_lt_of_cell? w y hc) (fun e => hyb e.symm))).trans hc
      have htl : t < (applyU fr.ob u).length ∧ W.held t = none := by
        have := ht _ _ _ hk (t, .row e (xs ++ ys) fz) (by simp)
        have hl : ∀ (u : Upd) (l : List (Option Ob)), (applyU l u).length = l.length := by
          intro u
          induction u with
          | nil => intro l; rfl
          | cons x u ih => intro l; rw [show applyU l (x :: u) = applyU (l.set x.1 x.2) u from rfl, ih]; simp
        exact ⟨by rw [hl]; exact this.1, this.2⟩
      refine wp_value (w' := w') (val := v') ?_ (hn (.own t) u [(t, .row e (xs ++ ys) fz)] S (upd gv t v') _ _ hk (by
        rw [put_split]
        refine hR.newRow htl hbel hag (fun q o' g hq hqt hg => ?_) (by rw [List.length_append]; exact hown') hsz (hEx.append hE) (fun g hg => ⟨?_, fun y v hy hyb => ?_⟩) ?_
        · have hlt := hblk_lt hR hq hg
          have hne : hblk (a.eval so) ≠ some g := fun e => (hfree g e).1 q o' hq hg
          refine ⟨hgr.block g hlt (fun e => hne e.symm), fun e => ?_⟩
          rcases hblk' g e with e' | e'
          · exact hne e'.symm
          · omega
        · rcases hblk' g hg with e' | e'
          · exact hsome g e'.symm
          · exact .inl (Nat.le_trans h.below.size e')
        · have hlt := agree_lt h.agree hy
          rcases hblk' g hg with e' | e'
          · obtain ⟨q1, q2, q3⟩ := (hfree g e'.symm).2 y v hy hyb
            refine ⟨q1, q2, ?_⟩
            rw [List.length_append, Nat.add_mul]; omega
          · omega
        · rcases ownsRow_form hown' with ⟨hv, _⟩ | ⟨g', cap, hv, hb⟩ <;> rw [hv] <;> rfl))
      unfold execOp
      simp only [ho, resolve, invoke, builtin, Sem.run_bind, Sem.run_pure, Result.andThen_ok, List.map_toArray, List.map_cons, List.map_nil, hrun]
    cases s with
    | nils =>
      simp only at hk
      have hV : V S .nils (a.eval so) := hs
      have hv : a.eval so = .slice none 0 0 := by generalize a.eval so = v at hV; cases hV; rfl
      refine go (u := []) (xs := []) (us := []) (by rw [hv]; exact World.ownsRow_nil w _ e _) (fun g hg => by rw [hv] at hg; cases hg) ⟨by simp, by simp, by simp⟩ h (fun g hg => by rw [hv] at hg; cases hg) hk
    | own q =>
      simp only at hk
      split at hk
      · rename_i e' xs fz hq
        have he := beq_iff_eq.1 (some_of_bif hk).1
        replace hk := (some_of_bif hk).2
        subst he
        have hq' := hσ _ _ hq
        obtain ⟨us, hown, hsz, hEx, hSb⟩ := row_els (h.objs q _ hq')
        obtain ⟨_, hxv'⟩ := hs
        have hv := hxv' _ _ _ hq'
        rw [← hv] at hown hSb
        refine go (u := [(q, none)]) hown (fun g hg => (hSb g hg).1) hEx (h.kill q) (fun g hg => ⟨fun q' o' hq2 hg2 => ?_, (hSb g hg).2⟩) hk
        have hq3 : (fr.ob.set q none).getD q' none = some o' := hq2
        rw [getD_set] at hq3
        split at hq3
        · cases hq3
        · rename_i hne
          have hqq : q = q' := h.dis q q' _ o' g hq' hq3 (by rw [← hv]; exact hg) hg2
          exact hne ⟨hqq, obj_lt hq3⟩
      · cases hk
    | ownp q n =>
      simp only at hk
      split at hk
      · rename_i e' xs hq
        have he := beq_iff_eq.1 (some_of_bif hk).1
        replace hk := (some_of_bif hk).2
        subst he
        have hq' := hσ _ _ hq
        obtain ⟨us, hown, hsz, hEx, hSb⟩ := row_els (h.objs q _ hq')
        obtain ⟨_, hxv'⟩ := hs
        obtain ⟨hnx, hv⟩ := hxv' _ _ _ hq'
        have hlen : (xs.take n).length = n := by simp [Nat.min_eq_left hnx]
        have hown2 : w.ownsRow 0 e' (C.P.cellsOf e') (a.eval so) (xs.take n).length (us.take ((xs.take n).length * C.P.cellsOf e')) := by
          refine ⟨(hEx.take n).1, ?_⟩
          rw [hv, hlen]
          rcases hown.2 with ⟨hv', hn0⟩ | ⟨g, cap, cur, hv', hb, hh, hnc, hcm, hcs, htk⟩
          · rw [hv']
            have : n = 0 := by omega
            subst this
            exact .inl ⟨rfl, rfl⟩
          · rw [hv']
            refine .inr ⟨g, cap, cur, rfl, hb, hh, by omega, hcm, hcs, ?_⟩
            rw [← htk, List.take_take, Nat.min_eq_left (Nat.mul_le_mul_right _ hnx)]
        have hbb : hblk (a.eval so) = hblk (gv q) := by
          rw [hv]
          rcases ownsRow_form hown with ⟨hv', _⟩ | ⟨g', cap, hv', hb⟩ <;> rw [hv'] <;> rfl
        refine go (u := [(q, none)]) hown2 (fun g hg => (hSb g (by rw [← hbb]; exact hg)).1) (hEx.take n) (h.kill q) (fun g hg => ⟨fun q' o' hq2 hg2 => ?_, fun y v hy hyb => ?_⟩) hk
        · have hq3 : (fr.ob.set q none).getD q' none = some o' := hq2
          rw [getD_set] at hq3
          split at hq3
          · cases hq3
          · rename_i hne
            have hqq : q = q' := h.dis q q' _ o' g hq' hq3 (by rw [← hbb]; exact hg) hg2
            exact hne ⟨hqq, obj_lt hq3⟩
        · have := ((hSb g (by rw [← hbb]; exact hg)).2 y v hy hyb).1
          cases this
      · cases hk
    | _ => cases hk
  · cases hk
end ops
end Go.Proofs.YtbkhmkcmbaffoaaGreatDoor.Eng


/- The engine, part 11: make, literals of slices and structs. -/
set_option linter.unusedVariables false
set_option linter.unusedSimpArgs false
namespace Go.Proofs.YtbkhmkcmbaffoaaGreatDoor.Eng
open Go Go.RowKit
variable {P : Program} {S0 S S' : Stab} {W : Ent} {w w' : World} {gv gv' : Nat → Value} {fr : Fr} {a : Act} {ob ob' : Nat → Option Ob} {β : Type}

/-- A row of zero values. -/
theorem zero_els {e : TypeId} {z : Value} (hsz : 0 < P.cellsOf e) (hzc : z.cells.size = P.cellsOf e) (hl : (zeroAV P e).cells.length = P.cellsOf e) (h1 : ∀ (j : Nat) (u : Value), z.cells[j]? = some u → u.oneCell' = true)
    (h2 : ∀ (j : Nat) (c : AV), (zeroAV P e).cells[j]? = some c → c.leaf = true) (h3 : ∀ (S : Stab) (j : Nat) (c : AV) (u : Value), (zeroAV P e).cells[j]? = some c → z.cells[j]? = some u → V S c u) (n m : Nat) (hm : n * P.cellsOf e ≤ m) :
    Els P S e (List.replicate n (zeroAV P e)) ((madeCells z.cells m).toList.take (n * P.cellsOf e)) := by
  have hget : ∀ k, k < m → (madeCells z.cells m).toList[k]? = z.cells[k % P.cellsOf e]? := by
    intro k hk
    have hlt : k % z.cells.size < z.cells.size := Nat.mod_lt _ (by omega)
    simp only [madeCells, Array.getElem?_toList, Array.getElem?_map, Array.getElem?_range, hk, if_true, Option.map_some]
    rw [← hzc, getElem!_pos z.cells (k % z.cells.size) hlt, Array.getElem?_eq_getElem hlt]
  refine ⟨by simp [size_madeCells, Nat.min_eq_left hm], fun u hu => ?_, fun i y hy => ?_⟩
  · obtain ⟨k, hk⟩ := List.getElem?_of_mem hu
    rw [List.getElem?_take] at hk
    split at hk
    · rw [hget k (by omega)] at hk
      exact h1 _ u hk
    · cases hk
  · obtain ⟨hi, rfl⟩ := List.getElem?_eq_some_iff.1 hy
    simp only [List.length_replicate] at hi
    simp only [List.getElem_replicate]
    refine ⟨hl, fun j c hc => ⟨h2 j c hc, fun v hv => ?_⟩⟩
    have hj : j < P.cellsOf e := by rw [← hl]; exact (List.getElem?_eq_some_iff.1 hc).1
    have hlt := flat_lt hi hj
    rw [List.getElem?_take, if_pos hlt, hget _ (by omega), Nat.mul_comm, Nat.mul_add_mod, Nat.mod_eq_of_lt hj] at hv
    exact h3 S j c v hc hv

section ops
variable {C : Cfg} {o : Oper} {K : AV → Upd → New → Option β} {r : β} {next : Act → World → Prop} {Q : Exit → Act → World → Prop}

theorem make_ok (h : Rel C.P S0 W S gv fr a w) {T : TypeId} {lo co : Operand} {l c : AV} {t : Nat} (ho : o.op = .makeSlice T lo co) (ht : ∀ v u n, K v u n = some r → ∀ y ∈ n, y.1 < fr.ob.length ∧ W.held y.1 = none) (hl : SV C.P S gv fr.obj l (a.eval lo)) (hc : SV C.P S gv fr.obj c (a.eval co))
    (hk : makeK C.P t T l c K = some r) (hn : Fin C.P S0 W fr o K r next) : o.wp C.P a w next Q := by
  unfold makeK at hk
  split at hk
  · rename_i e hu
    cases l <;> cases c <;> first | (cases hk; done) | skip
    rename_i kl l kc c
    have hcnd := (some_of_bif hk).1
    replace hk := (some_of_bif hk).2
    simp only [Bool.and_eq_true, decide_eq_true_eq] at hcnd
    obtain ⟨⟨⟨⟨⟨c1, c2⟩, c3⟩, c4⟩, hzo⟩, hsz⟩ := hcnd
    obtain ⟨i, z, hi, hiz, his, hzl, hzs, z1, z2, z3⟩ := zero_ok hzo
    have hby : C.P.bytesOf e = i.bytes := by simp [Program.bytesOf, hi]
    rw [hby] at c3
    have hrun := run_make (P := C.P) w T e i z hu hi hiz kl kc l c c1 c2 (by rw [Int.mul_comm]; omega) c4
    have hle : l.toNat ≤ c.toNat := by omega
    have hrow : (w.alloc (.cells (madeCells z.cells (c.toNat * i.size)) e)).ownsRow 0 e (C.P.cellsOf e) (.slice (some ⟨w.heap.size, 0, none⟩) l.toNat c.toNat) (List.replicate l.toNat (zeroAV C.P e)).length ((madeCells z.cells (c.toNat * i.size)).toList.take (l.toNat * C.P.cellsOf e)) := by
      rw [List.length_replicate]
      refine ⟨by simp only [List.length_take, Array.length_toList, size_madeCells, his]; exact Nat.min_eq_left (Nat.mul_le_mul_right _ hle), .inr ⟨w.heap.size, c.toNat, _, rfl, Nat.zero_le _, heap_alloc_new w _, hle, by simp [maxLen]; omega, by rw [size_madeCells, his], rfl⟩⟩
    refine wp_value (w' := w.alloc (.cells (madeCells z.cells (c.toNat * i.size)) e)) (val := .slice (some ⟨w.heap.size, 0, none⟩) l.toNat c.toNat) ?_ (hn _ _ _ _ _ _ _ hk (h.newRow (ht _ _ _ hk (t, _) (List.mem_singleton.2 rfl)) (h.below.alloc _) (agree_alloc h.agree _) (fun q o' g hq hqt hg => ⟨Below.heap_alloc w _ g (hblk_lt h hq hg), fun e => ?_⟩) hrow hsz
      (zero_els hsz hzs hzl z1 z2 z3 _ _ (by rw [his]; exact Nat.mul_le_mul_right _ hle)) (fun g hg => ⟨?_, fun y v hy hyb => ?_⟩) rfl))
    · unfold execOp
      simp only [ho, hl.int, hc.int, Sem.run_bind, hrun, Sem.run_pure, Result.andThen_ok]
    · cases e
      exact absurd (hblk_lt h hq hg) (Nat.lt_irrefl _)
    · have hg' : w.heap.size = g := by simpa [hblk] using hg
      exact .inl (by rw [← hg']; exact h.below.size)
    · have hg' : w.heap.size = g := by simpa [hblk] using hg
      have := agree_lt h.agree hy
      omega
  · cases hk

theorem foldl_set : ∀ (vs : List Value) (off k0 : Nat) (cs : Array Value), off + k0 + vs.length ≤ cs.size → ∀ k, ((vs.zipIdx k0).foldl (fun cs (x : Value × Nat) => cs.setIfInBounds (off + x.2) x.1) cs)[k]? = if off + k0 ≤ k ∧ k < off + k0 + vs.length then vs[k - (off + k0)]? else cs[k]?
  | [], off, k0, cs, hl, k => by simp; omega
  | v :: vs, off, k0, cs, hl, k => by
    simp only [List.zipIdx_cons, List.foldl_cons]
    rw [foldl_set vs off (k0 + 1) _ (by simp at hl ⊢; omega) k]
    by_cases h1 : k = off + k0
    · subst h1
      rw [if_neg (by omega), if_pos ⟨Nat.le_refl _, by simp⟩]
      simp at hl
      simp [Array.getElem?_setIfInBounds]
      omega
    · by_cases h2 : off + (k0 + 1) ≤ k ∧ k < off + (k0 + 1) + vs.length
      · rw [if_pos h2, if_pos ⟨by omega, by simp; omega⟩]
        rw [show k - (off + k0) = (k - (off + (k0 + 1))) + 1 from by omega, List.getElem?_cons_succ]
      · rw [if_neg h2, if_neg (by simp; omega)]
        simp [Array.getElem?_setIfInBounds, Ne.symm h1]
theorem foldl_size : ∀ (vs : List (Value × Nat)) (off : Nat) (cs : Array Value), (vs.foldl (fun cs (x : Value × Nat) => cs.setIfInBounds (off + x.2) x.1) cs).size = cs.size
  | [], off, cs => rfl
  | v :: vs, off, cs => by
    rw [List.foldl_cons, foldl_size vs off]
    simp
/-- One part laid into a row. -/
theorem Els.set {e : TypeId} {xs : List AV} {us : Array Value} (h : Els P S e xs us.toList) {i : Nat} {x : AV} {v : Value} (hi : i < xs.length) (hx : V S x v) (hl : x.cells.length = P.cellsOf e) :
    v.cells.size = P.cellsOf e ∧ i * P.cellsOf e + v.cells.size ≤ us.size ∧ Els P S e (xs.set i x) (v.cells.zipIdx.foldl (fun cs (y : Value × Nat) => cs.setIfInBounds (i * P.cellsOf e + y.2) y.1) us).toList := by
  obtain ⟨c1, c2, c3, c4⟩ := hx.cells
  obtain ⟨h1, h2, h3⟩ := h
  have hs : v.cells.size = P.cellsOf e := by rw [c1, hl]
  have hus : us.size = xs.length * P.cellsOf e := by simpa using h1
  have hfit : i * P.cellsOf e + v.cells.size ≤ us.size := by
    rw [hus, hs]
    have : (i + 1) * P.cellsOf e ≤ xs.length * P.cellsOf e := Nat.mul_le_mul_right _ hi
    rw [Nat.add_mul, Nat.one_mul] at this
    exact this
  have hz : v.cells.zipIdx.foldl (fun cs (y : Value × Nat) => cs.setIfInBounds (i * P.cellsOf e + y.2) y.1) us = (v.cells.toList.zipIdx 0).foldl (fun cs (y : Value × Nat) => cs.setIfInBounds (i * P.cellsOf e + y.2) y.1) us := by
    rw [← Array.foldl_toList, Array.toList_zipIdx]
  have hget : ∀ k, (v.cells.zipIdx.foldl (fun cs (y : Value × Nat) => cs.setIfInBounds (i * P.cellsOf e + y.2) y.1) us).toList[k]? = if i * P.cellsOf e ≤ k ∧ k < i * P.cellsOf e + P.cellsOf e then v.cells[k - i * P.cellsOf e]? else us.toList[k]? := by
    intro k
    rw [Array.getElem?_toList, hz, foldl_set _ _ _ _ (by simpa using hfit) k]
    simp only [Nat.add_zero, Array.length_toList, hs, Array.getElem?_toList]
  refine ⟨hs, hfit, by rw [hz]; simp [foldl_size, hus], fun u hu => ?_, fun i' y hy => ?_⟩
  · obtain ⟨k, hk⟩ := List.getElem?_of_mem hu
    rw [hget k] at hk
    split at hk
    · exact c2 u (List.mem_of_getElem? (by simpa using hk))
    · exact h2 u (List.mem_of_getElem? hk)
  · rw [List.getElem?_set] at hy
    by_cases hii : i = i'
    · subst hii
      rw [if_pos rfl, if_pos hi] at hy
      cases hy
      refine ⟨hl, fun j c hc => ⟨c3 j c hc, fun u hu => ?_⟩⟩
      have hj : j < P.cellsOf e := by rw [← hl]; exact (List.getElem?_eq_some_iff.1 hc).1
      rw [hget, if_pos (by omega), show i * P.cellsOf e + j - i * P.cellsOf e = j from by omega] at hu
      exact c4 j c u hc hu
    · rw [if_neg hii] at hy
      obtain ⟨q1, q2⟩ := h3 i' y hy
      refine ⟨q1, fun j c hc => ⟨(q2 j c hc).1, fun u hu => (q2 j c hc).2 u ?_⟩⟩
      have hj : j < P.cellsOf e := by rw [← q1]; exact (List.getElem?_eq_some_iff.1 hc).1
      rw [hget, if_neg] at hu
      · exact hu
      · rintro ⟨r1, r2⟩
        rcases Nat.lt_or_gt_of_ne hii with hlt | hlt
        · have : (i + 1) * P.cellsOf e ≤ i' * P.cellsOf e := Nat.mul_le_mul_right _ hlt
          rw [Nat.add_mul, Nat.one_mul] at this
          omega
        · have : (i' + 1) * P.cellsOf e ≤ i * P.cellsOf e := Nat.mul_le_mul_right _ hlt
          rw [Nat.add_mul, Nat.one_mul] at this
          omega
theorem setParts_ok {e : TypeId} : ∀ {l : List (Nat × AV)} {vs : List (Nat × Value)} {xs out : List AV} {us : Array Value}, setParts xs l = some out → Els P S e xs us.toList → l.map (·.1) = vs.map (·.1) →
    (∀ (j : Nat) (x : Nat × AV) (v : Nat × Value), l[j]? = some x → vs[j]? = some v → V S x.2 v.2 ∧ x.2.cells.length = P.cellsOf e) →
    out.length = xs.length ∧ ∃ us', Instr.fill (fun i => some (i * P.cellsOf e, P.cellsOf e)) us vs = some us' ∧ us'.size = us.size ∧ Els P S e out us'.toList
  | [], [], xs, out, us, h, hE, hm, hv => by
    cases h
    exact ⟨rfl, us, rfl, rfl, hE⟩
  | [], v :: vs, xs, out, us, h, hE, hm, hv => by cases hm
  | x :: l, [], xs, out, us, h, hE, hm, hv => by cases hm
  | (i, x) :: l, (i', v) :: vs, xs, out, us, h, hE, hm, hv => by
    simp only [List.map_cons, List.cons.injEq] at hm
    obtain ⟨rfl, hm⟩ := hm
    simp only [setParts] at h
    obtain ⟨hi, h⟩ := some_of_bif h
    have hi := of_decide_eq_true hi
    obtain ⟨hx, hl⟩ := hv 0 (i, x) (i, v) rfl rfl
    obtain ⟨q1, q2, q3⟩ := hE.set hi hx hl
    obtain ⟨r1, us', r2, r3, r4⟩ := setParts_ok h q3 hm (fun j y z hy hz => hv (j + 1) y z (by simpa using hy) (by simpa using hz))
    refine ⟨by rw [r1]; simp, us', ?_, ?_, r4⟩
    · have q1' : v.cells.size = P.cellsOf e := q1
      have q2' : i * P.cellsOf e + v.cells.size ≤ us.size := q2
      have hc : ¬ ((decide (v.cells.size ≠ P.cellsOf e) || decide (i * P.cellsOf e + v.cells.size > us.size)) = true) := by simp; omega
      simp only [Instr.fill]
      rw [if_neg hc]
      exact r2
    · rw [r3, ← Array.foldl_toList, foldl_size]

theorem frzParts_ok {e : TypeId} : ∀ {l : List (Nat × AV)} {K : List (Nat × AV) → Upd → Option β} {r : β} {S : Stab} {fr : Fr}, Rel P S0 W S gv fr a w → ∀ {σ : Nat → Option Ob}, Sim σ fr.obj → frzParts P σ e l K = some r → ∀ {vs : List (Nat × Value)}, l.map (·.1) = vs.map (·.1) →
    (∀ (j : Nat) (x : Nat × AV) (v : Nat × Value), l[j]? = some x → vs[j]? = some v → SV P S gv fr.obj x.2 v.2) →
    ∃ l' u S', K l' u = some r ∧ Frz P S0 W S gv fr a w σ S' u ∧ l'.map (·.1) = vs.map (·.1) ∧ ∀ (j : Nat) (x : Nat × AV) (v : Nat × Value), l'[j]? = some x → vs[j]? = some v → V S' x.2 v.2 ∧ x.2.cells.length = P.cellsOf e
  | [], K, r, S, fr, h, σ, hs, hk, vs, hm, hv => ⟨[], [], S, hk, Frz.nil h hs, hm, by simp⟩
  | x :: l, K, r, S, fr, h, σ, hs, hk, [], hm, hv => by cases hm
  | (i, x) :: l, K, r, S, fr, h, σ, hs, hk, (i', v) :: vs, hm, hv => by
    simp only [List.map_cons, List.cons.injEq] at hm
    obtain ⟨rfl, hm⟩ := hm
    simp only [frzParts] at hk
    obtain ⟨x', u, S1, hk, hF, hV⟩ := frz_ok h hs hk (hv 0 (i, x) (i, v) rfl rfl)
    have hl := beq_iff_eq.1 (some_of_bif hk).1
    replace hk := (some_of_bif hk).2
    obtain ⟨l', u', S2, hk, hF', hm', hVs⟩ := frzParts_ok hF.rel hF.sim hk hm (fun j y z hy hz => hF.sv (hv (j + 1) y z (by simpa using hy) (by simpa using hz)))
    refine ⟨(i, x') :: l', u ++ u', S2, hk, hF.trans hF', by simp [hm'], fun j y z hy hz => ?_⟩
    cases j with
    | zero =>
      simp only [List.getElem?_cons_zero, Option.some.injEq] at hy hz
      subst hy; subst hz
      exact ⟨hV.mono hF'.le, hl⟩
    | succ j => exact hVs j y z (by simpa using hy) (by simpa using hz)

theorem zipParts_ok : ∀ {ps : List (Nat × Operand)} {vs : List AV} (f : Operand → Value), vs.length = ps.length → (zipParts ps vs).map (·.1) = (ps.map fun p => (p.1, f p.2)).map (·.1) ∧
    ∀ (j : Nat) (x : Nat × AV) (v : Nat × Value), (zipParts ps vs)[j]? = some x → (ps.map fun p => (p.1, f p.2))[j]? = some v → ∃ q, ps[j]? = some q ∧ vs[j]? = some x.2 ∧ v.2 = f q.2
  | [], [], f, h => ⟨rfl, by simp [zipParts]⟩
  | [], _ :: _, f, h => by cases h
  | _ :: _, [], f, h => by cases h
  | (i, q) :: ps, v :: vs, f, h => by
    obtain ⟨h1, h2⟩ := zipParts_ok (ps := ps) (vs := vs) f (by simpa using h)
    refine ⟨by simp [zipParts, h1], fun j x y hx hy => ?_⟩
    cases j with
    | zero =>
      simp only [zipParts, List.getElem?_cons_zero, Option.some.injEq, List.map_cons] at hx hy
      subst hx; subst hy
      exact ⟨_, rfl, rfl, rfl⟩
    | succ j => exact h2 j x y (by simpa [zipParts] using hx) (by simpa using hy)

theorem buildSlice_ok (h : Rel C.P S0 W S gv fr a w) {σ : Nat → Option Ob} (hσ : ∀ r o, σ r = some o → fr.obj r = some o) {T e : TypeId} {n t : Nat} {ps : Array (Nat × Operand)} {vs : List AV} (ho : o.op = .buildSlice T n ps) (hu : C.P.underlying T = some (.slice e))
    (ht : ∀ v u n, K v u n = some r → ∀ y ∈ n, y.1 < fr.ob.length ∧ W.held y.1 = none) (hvl : vs.length = ps.toList.length) (hvs : ∀ (j : Nat) (q : Nat × Operand) (v : AV), ps.toList[j]? = some q → vs[j]? = some v → SV C.P S gv fr.obj v (a.eval q.2))
    (h0 : n * C.P.cellsOf e ≤ 16777216) (hzo : zeroOk C.P e = true) (hsz : 0 < C.P.cellsOf e) (hnn : n ≤ 16777216)
    (hk : (frzParts C.P σ e (zipParts ps.toList vs) fun l u => (setParts (List.replicate n (zeroAV C.P e)) l).bind fun xs => K (.own t) u [(t, .row e xs false)]) = some r) (hn : Fin C.P S0 W fr o K r next) : o.wp C.P a w next Q := by
  obtain ⟨i, z, hi, hiz, his, hzl, hzs, z1, z2, z3⟩ := zero_ok hzo
  obtain ⟨m1, m2⟩ := zipParts_ok a.eval hvl
  obtain ⟨l, u, S1, hk, hF, hm, hV⟩ := frzParts_ok h (Sim.of fun r o h => hσ r o h) hk m1 (fun j x v hx hv => by
    obtain ⟨q, hq, hx', hv'⟩ := m2 j x v hx hv
    rw [hv']
    exact hvs j q x.2 hq hx')
  obtain ⟨xs, hset, hk⟩ := Option.bind_eq_some_iff.1 hk
  have hE0 : Els C.P S1 e (List.replicate n (zeroAV C.P e)) (madeCells z.cells (n * C.P.cellsOf e)).toList := by
    have := zero_els (S := S1) hsz hzs hzl z1 z2 z3 n (n * C.P.cellsOf e) (Nat.le_refl _)
    rwa [List.take_of_length_le (by simp [size_madeCells])] at this
  obtain ⟨hlen, us, hfill, hus, hE⟩ := setParts_ok hset hE0 hm hV
  rw [List.length_replicate] at hlen
  rw [size_madeCells] at hus
  have hR := hF.rel
  refine wp_value (w' := w.alloc (.cells us e)) (val := .slice (some ⟨w.heap.size, 0, none⟩) n n) ?_ (hn (.own t) u [(t, .row e xs false)] S1 _ _ _ hk (by
    rw [put_split]
    refine hR.newRow (us := us.toList) ?_ (hR.below.alloc _) (agree_alloc hR.agree _) (fun q o' g hq hqt hg => ⟨Below.heap_alloc w _ g (hblk_lt hR hq hg), fun e => ?_⟩) ?_ hsz hE (fun g hg => ⟨?_, fun y v hy hyb => ?_⟩) rfl
    · have hl : ∀ (u : Upd) (l : List (Option Ob)), (applyU l u).length = l.length := by
        intro u
        induction u with
        | nil => intro l; rfl
        | cons x u ih => intro l; rw [show applyU l (x :: u) = applyU (l.set x.1 x.2) u from rfl, ih]; simp
      have := ht _ _ _ hk (t, _) (List.mem_singleton.2 rfl)
      exact ⟨by rw [hl]; exact this.1, this.2⟩
    · cases e
      exact absurd (hblk_lt hR hq hg) (Nat.lt_irrefl _)
    · rw [hlen]
      exact ⟨by simp [hus], .inr ⟨w.heap.size, n, us, rfl, Nat.zero_le _, heap_alloc_new w _, Nat.le_refl _, by simp [maxLen]; omega, hus, by rw [List.take_of_length_le (by simp [hus])]⟩⟩
    · have hg' : w.heap.size = g := by simpa [hblk] using hg
      exact .inl (by rw [← hg']; exact hR.below.size)
    · have hg' : w.heap.size = g := by simpa [hblk] using hg
      have := agree_lt hR.agree hy
      omega))
  unfold execOp
  have hsm : ¬ (n * i.size > 2 ^ 24) := by rw [his]; omega
  have hpl : (ps.map fun p => (p.1, a.eval p.2)).toList = ps.toList.map fun p => (p.1, a.eval p.2) := by simp
  have e0 : ∀ f : Nat → Value, (Array.range 0).map f = #[] := fun f => by apply Array.ext'; simp
  by_cases hz0 : n * i.size = 0
  · have hn0 : n = 0 := by
      rcases Nat.mul_eq_zero.1 hz0 with h | h
      · exact h
      · omega
    subst hn0
    simp only [madeCells, Nat.zero_mul, e0] at hfill
    simp only [ho, Instr.buildSlice, Sem.run_bind, run_underlying hu, sizeOf, typeInfo, run_program, hi, Sem.run_pure, Result.andThen_ok, Nat.zero_mul, his, hpl]
    simp [e0, hfill, newRow]
  · have hz0' : ¬ (n = 0 ∨ i.size = 0) := fun h => hz0 (by rcases h with h | h <;> simp [h])
    have hc : (Array.range (n * C.P.cellsOf e)).map (fun k => z.cells[k % z.cells.size]!) = madeCells z.cells (n * C.P.cellsOf e) := rfl
    simp only [ho, Instr.buildSlice, Sem.run_bind, run_underlying hu, sizeOf, typeInfo, run_program, hi, Sem.run_pure, Result.andThen_ok, hpl, if_neg hsm, if_neg hz0, zeroValue, hiz]
    simp only [his, hc, hfill]
    simp [newRow]
end ops
end Go.Proofs.YtbkhmkcmbaffoaaGreatDoor.Eng

