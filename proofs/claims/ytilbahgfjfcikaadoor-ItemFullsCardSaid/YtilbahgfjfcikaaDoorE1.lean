/- The engine, part 1: abstract values, frames, and the deterministic evaluator over a function's code. No memory, no orders, no tape: what is proved of it in the later parts carries its answers over to every run. -/
import Derived.Below
import Derived.KernelRfl
set_option linter.unusedVariables false
namespace Go.Proofs.YtilbahgfjfcikaaDoor.Eng
open Go

inductive AV where
  | junk
  | und
  | bool (b : Bool)
  | int (k : IntKind) (n : Int)
  | str (s : ByteArray)
  | nilp | nilf | nili | nils | nilm
  | ifc
  | list (sz : Nat) (xs : List AV)
  | own (r : Nat)
  | ownp (r : Nat) (n : Nat)
  | loc (r off : Nat)
  | rloc (r i off : Nat)
  | eptr (cs : List AV) (off : Nat)
  | agg (cs : List AV)
  | tup (vs : List AV)
  | func (fn : Fn) (first captured : List AV)
  | itr (r : Nat)
  | fresh (e : TypeId) (xs : List AV)
  deriving Inhabited

inductive Ob where
  | box (cs : List AV)
  | row (e : TypeId) (xs : List AV) (fz : Bool)
  | it (s : ByteArray) (pos : Nat)
  deriving Inhabited

abbrev Upd := List (Nat × Option Ob)
abbrev New := List (Nat × Ob)

structure Fr where
  sl : List AV
  ob : List (Option Ob)
  deriving Inhabited

inductive Md where
  | keep
  | own (e : TypeId) (fz : Bool)
  | frz
  deriving Inhabited
structure Dir where
  slots : List (Nat × Md)
  boxes : List Nat
  deriving Inhabited

structure Cfg where
  P : Program
  kap : FuncId → List AV → Option AV
  fl : FuncId → List Bool
  glob : Nat → Option (List AV)
  dirs : Nat → Option Dir
  k : Nat

def AV.cells : AV → List AV
  | .agg cs => cs
  | v => [v]
def AV.leaf : AV → Bool
  | .agg _ | .tup _ | .junk | .und => false
  | _ => true
/-- A value that has cells of its own. -/
def AV.solid : AV → Bool
  | .tup _ | .junk | .und | .fresh .. => false
  | _ => true
def AV.isFresh : AV → Bool
  | .fresh .. => true
  | _ => false
def AV.isTup : AV → Bool
  | .tup _ => true
  | _ => false
/-- A leaf that names nothing of the call's own. -/
def AV.pure1 : AV → Bool
  | .agg _ | .tup _ | .junk | .und | .own _ | .ownp .. | .loc .. | .rloc .. | .itr _ | .fresh .. => false
  | _ => true
/-- The names that a value mentions. -/
def AV.name1 : AV → List Nat
  | .own r | .ownp r _ | .loc r _ | .rloc r _ _ | .itr r => [r]
  | _ => []
def names1 : List AV → List Nat
  | [] => []
  | v :: l => v.name1 ++ names1 l
def AV.names : AV → List Nat
  | .agg cs => names1 cs
  | .tup vs => names1 vs
  | v => v.name1
def namesL : List AV → List Nat
  | [] => []
  | v :: l => v.names ++ namesL l

def ofConst1 : Value → AV
  | .bool b => .bool b
  | .int k n => .int k n
  | .string s => .str s
  | .pointer none => .nilp
  | .slice none 0 0 => .nils
  | .nilFunc => .nilf
  | .nilIface => .nili
  | .map none => .nilm
  | _ => .junk
def ofConst : Value → AV
  | .agg cs => bif cs.toList.all Value.oneCell' then .agg (cs.toList.map ofConst1) else .junk
  | v => ofConst1 v

def Fr.get (fr : Fr) (t : Nat) : AV := fr.sl.getD t .junk
def Fr.obj (fr : Fr) (r : Nat) : Option Ob := fr.ob.getD r none
def Fr.val (C : Cfg) (fr : Fr) : Operand → AV
  | .tmp t => fr.get t
  | .const v => ofConst v
  | .global g => match C.glob g with | some cs => .eptr cs 0 | none => .junk
  | .func f => .func (.func f) [] []

def isAggT (P : Program) (T : TypeId) : Bool :=
  match P.underlying T with
  | some (.struct _) | some (.array ..) => true
  | _ => false
def leaves (P : Program) : Nat → TypeId → List TypeId
  | 0, T => [T]
  | d + 1, T => match P.underlying T with
    | some (.struct fs) => (fs.toList.map fun f => leaves P d f.type).flatten
    | some (.array n e) => (List.replicate n (leaves P d e)).flatten
    | _ => [T]
abbrev leavesT (P : Program) (T : TypeId) : List TypeId := leaves P 8 T
def zeroAV (P : Program) (T : TypeId) : AV :=
  match (P.info? T).bind (·.zero) with
  | some z => ofConst z
  | none => .junk

/-- Is the zero value of a type known, each of its cells a leaf? -/
def zeroOk (P : Program) (T : TypeId) : Bool := (zeroAV P T).solid && (zeroAV P T).cells.all AV.leaf && (zeroAV P T).cells.length == P.cellsOf T

section
variable {β : Type}
/-- A value at a type: taken apart, so that what comes behind knows its make. -/
def cast1 (P : Program) (T : TypeId) (v : AV) (K : AV → Option β) : Option β :=
  match P.underlying T with
  | some .bool => (match v with | .bool b => K (.bool b) | _ => none)
  | some (.int k) => (match v with | .int k' n => bif decide (k' = k) then K (.int k n) else none | _ => none)
  | some .string => (match v with | .str s => K (.str s) | _ => none)
  | some (.slice e) => (match v with
    | .list sz xs => bif sz == P.cellsOf e then K (.list (P.cellsOf e) xs) else none
    | .nils => K .nils
    | .own r => K (.own r)
    | .ownp r n => K (.ownp r n)
    | _ => none)
  | some _ => K v
  | none => none
def castPre (P : Program) : List TypeId → List AV → (List AV → Option β) → Option β
  | [], _, K => K []
  | _ :: _, [], _ => none
  | t :: ts, c :: cs, K => cast1 P t c fun c' => castPre P ts cs fun l => K (c' :: l)
def castAll (P : Program) : List TypeId → List AV → (List AV → Option β) → Option β
  | [], [], K => K []
  | t :: ts, c :: cs, K => cast1 P t c fun c' => castAll P ts cs fun l => K (c' :: l)
  | _, _, _ => none
def castT (P : Program) (T : TypeId) (v : AV) (K : AV → Option β) : Option β :=
  bif isAggT P T then (match v with | .agg cs => castAll P (leavesT P T) cs fun l => K (.agg l) | _ => none) else cast1 P T v K
/-- A value of type T out of cells. -/
def loadT (P : Program) (T : TypeId) (cs : List AV) (K : AV → Option β) : Option β :=
  bif isAggT P T then (bif (leavesT P T).length == P.cellsOf T then castPre P (leavesT P T) cs fun l => K (.agg l) else none)
  else (match cs with | c :: _ => cast1 P T c K | [] => none)

/-- What a value that comes from elsewhere is, by its type. -/
def atBool (v : AV) (K : Bool → Option β) : Option β := match v with | .bool b => K b | _ => none
def atInt (k : IntKind) (v : AV) (K : Int → Option β) : Option β := match v with | .int k' n => bif decide (k' = k) then K n else none | _ => none
def atStr (v : AV) (K : ByteArray → Option β) : Option β := match v with | .str s => K s | _ => none
def atList (sz : Nat) (v : AV) (K : List AV → Option β) : Option β := match v with | .list sz' xs => bif sz' == sz then K xs else none | _ => none
def atAgg (n : Nat) (v : AV) (K : List AV → Option β) : Option β := match v with | .agg cs => bif cs.length == n then K cs else none | _ => none
def cellAt (cs : List AV) (off : Nat) (K : AV → Option β) : Option β := match cs.drop off with | c :: _ => K c | [] => none
def castP1 (P : Program) (T : TypeId) (v : AV) (K : AV → Option β) : Option β :=
  match P.underlying T with
  | some .bool => atBool v fun b => K (.bool b)
  | some (.int k) => atInt k v fun n => K (.int k n)
  | some .string => atStr v fun s => K (.str s)
  | some (.slice e) => atList (P.cellsOf e) v fun xs => K (.list (P.cellsOf e) xs)
  | some _ => K v
  | none => none
def castPreAt (P : Program) : List TypeId → List AV → Nat → (List AV → Option β) → Option β
  | [], _, _, K => K []
  | t :: ts, cs, off, K => cellAt cs off fun c => castP1 P t c fun c' => castPreAt P ts cs (off + 1) fun l => K (c' :: l)
def castTP (P : Program) (T : TypeId) (v : AV) (K : AV → Option β) : Option β :=
  bif isAggT P T then atAgg (leavesT P T).length v fun cs => castPreAt P (leavesT P T) cs 0 fun l => K (.agg l) else castP1 P T v K
def loadTP (P : Program) (T : TypeId) (cs : List AV) (off : Nat) (K : AV → Option β) : Option β :=
  bif isAggT P T then (bif (leavesT P T).length == P.cellsOf T then castPreAt P (leavesT P T) cs off fun l => K (.agg l) else none) else cellAt cs off fun c => castP1 P T c K

/-- What goes out of the call's own hands: rows of its own become lists that stay as they are. -/
def frz1 (P : Program) (σ : Nat → Option Ob) (T : TypeId) (v : AV) (K : AV → Upd → Option β) : Option β :=
  match v with
  | .own r => (match σ r with | some (.row e xs _) => K (.list (P.cellsOf e) xs) [(r, some (.row e xs true))] | _ => none)
  | .ownp r n => (match σ r with | some (.row e xs _) => K (.list (P.cellsOf e) (xs.take n)) [(r, some (.row e xs true))] | _ => none)
  | .nils => (match P.underlying T with | some (.slice e) => K (.list (P.cellsOf e) []) [] | _ => none)
  | .junk | .und | .loc .. | .rloc .. | .itr _ | .tup _ | .fresh .. | .agg _ => none
  | v => K v []
def frzCs (P : Program) (σ : Nat → Option Ob) : List TypeId → List AV → (List AV → Upd → Option β) → Option β
  | [], [], K => K [] []
  | t :: ts, c :: cs, K => frz1 P σ t c fun c' u => frzCs P σ ts cs fun l us => K (c' :: l) (u ++ us)
  | _, _, _ => none
def frz (P : Program) (σ : Nat → Option Ob) (T : TypeId) (v : AV) (K : AV → Upd → Option β) : Option β :=
  bif isAggT P T then (match v with | .agg cs => frzCs P σ (leavesT P T) cs fun l u => K (.agg l) u | _ => none) else frz1 P σ T v K
def frzL (P : Program) (σ : Nat → Option Ob) : List TypeId → List AV → (List AV → Upd → Option β) → Option β
  | [], [], K => K [] []
  | t :: ts, c :: cs, K => frz P σ t c fun c' u => frzL P σ ts cs fun l us => K (c' :: l) (u ++ us)
  | _, _, _ => none

def intOp (op : BinOp) (k : IntKind) (a b : Int) (K : AV → Option β) : Option β :=
  match op with
  | .add => K (.int k (k.wrap (a + b)))
  | .sub => K (.int k (k.wrap (a - b)))
  | .mul => K (.int k (k.wrap (a * b)))
  | .quo => bif decide (b = 0) then none else K (.int k (k.wrap (a.tdiv b)))
  | .rem => bif decide (b = 0) then none else K (.int k (a.tmod b))
  | .and => K (.int k (k.wrap (BitVec.ofInt k.bits a &&& BitVec.ofInt k.bits b).toNat))
  | .or => K (.int k (k.wrap (BitVec.ofInt k.bits a ||| BitVec.ofInt k.bits b).toNat))
  | .xor => K (.int k (k.wrap (BitVec.ofInt k.bits a ^^^ BitVec.ofInt k.bits b).toNat))
  | .andNot => K (.int k (k.wrap (BitVec.ofInt k.bits a &&& ~~~(BitVec.ofInt k.bits b)).toNat))
  | .eql => K (.bool (decide (a = b)))
  | .neq => K (.bool (!decide (a = b)))
  | .lss => K (.bool (decide (a < b)))
  | .leq => K (.bool (decide (a ≤ b)))
  | .gtr => K (.bool (decide (a > b)))
  | .geq => K (.bool (decide (a ≥ b)))
  | _ => none
def strOp (op : BinOp) (a b : ByteArray) (K : AV → Option β) : Option β :=
  match op with
  | .add => bif decide (a.size + b.size ≤ 9223372036854775807) then K (.str (a ++ b)) else none
  | .eql => K (.bool (decide (a = b)))
  | .neq => K (.bool (!decide (a = b)))
  | .lss => K (.bool (Op.bytesLess a.toList b.toList))
  | .gtr => K (.bool (!(Op.bytesLess a.toList b.toList || decide (a = b))))
  | .leq => K (.bool (Op.bytesLess a.toList b.toList || decide (a = b)))
  | .geq => K (.bool (!Op.bytesLess a.toList b.toList))
  | _ => none
def leafEq (P : Program) (T : TypeId) (a b : AV) : Option Bool :=
  match P.underlying T with
  | some .bool => (match a, b with | .bool a, .bool b => some (a == b) | _, _ => none)
  | some (.int _) => (match a, b with | .int k a, .int k' b => bif decide (k = k') then some (decide (a = b)) else none | _, _ => none)
  | some .string => (match a, b with | .str a, .str b => some (decide (a = b)) | _, _ => none)
  | _ => none
/-- A struct of scalar fields alone, against another one. -/
def fieldsEq (P : Program) : Nat → List Field → List AV → List AV → Option Bool
  | _, [], [], [] => some true
  | k, f :: fs, a :: as, b :: bs => bif f.name != "_" && f.offset == k then (leafEq P f.type a b).bind fun q => (fieldsEq P (k + 1) fs as bs).bind fun q' => some (q && q') else none
  | _, _, _, _ => none
def aggEq (P : Program) (T : TypeId) (as bs : List AV) : Option Bool :=
  match P.underlying T with
  | some (.struct fs) => bif P.stoodInHeld T || P.eqGuardType P.depth T then none else fieldsEq P 0 fs.toList as bs
  | _ => none
def isNilK : AV → Option Bool
  | .nilp | .nilf | .nili | .nils | .nilm => some true
  | .loc .. | .rloc .. | .eptr .. | .func .. | .ifc => some false
  | _ => none
def nilB (x : AV) (K : Bool → Option β) : Option β := match x with | .nili => K true | .ifc => K false | _ => none
/-- A value of an interface's type against the literal nil. -/
def nilOp (P : Program) (op : BinOp) (T : TypeId) (yo : Operand) (x : AV) (K : AV → Option β) : Option β :=
  match P.underlying T with
  | some (.interface _) => (match yo with
    | .const _ => (match op with
      | .eql => nilB x fun q => K (.bool q)
      | .neq => nilB x fun q => K (.bool !q)
      | _ => none)
    | _ => none)
  | _ => none
def bop (P : Program) (op : BinOp) (T : TypeId) (xo yo : Operand) (x y : AV) (K : AV → Option β) : Option β :=
  match y with
  | .nili => nilOp P op T yo x K
  | y => match x, y with
  | .int k a, .int k' b =>
    (match op with
    | .shl => bif decide (b < 0) then none else K (.int k (k.wrap (a * 2 ^ (min b.toNat k.bits))))
    | .shr => bif decide (b < 0) then none else K (.int k (a.fdiv (2 ^ (min b.toNat k.bits))))
    | op => bif decide (k = k') then intOp op k a b K else none)
  | .str a, .str b => strOp op a b K
  | .bool a, .bool b => (match P.underlying T with
    | some .bool => (match op with
      | .eql => K (.bool (a == b))
      | .neq => K (.bool (!(a == b)))
      | _ => none)
    | _ => none)
  | .agg xs, .agg ys => (match op with
    | .eql => (aggEq P T xs ys).bind fun q => K (.bool q)
    | .neq => (aggEq P T xs ys).bind fun q => K (.bool !q)
    | _ => none)
  | _, _ => none
def uop (op : UnOp) (x : AV) (K : AV → Option β) : Option β :=
  match op, x with
  | .neg, .int k n => K (.int k (k.wrap (0 - n)))
  | .xor, .int k n => K (.int k (k.wrap (BitVec.ofInt k.bits (if k.signed then -1 else k.max) ^^^ BitVec.ofInt k.bits n).toNat))
  | .not, .bool b => K (.bool !b)
  | _, _ => none
def byteAV (b : UInt8) : AV := .int .u8 b.toNat
def bytesAV (s : ByteArray) : List AV := s.toList.map byteAV
def toBytes : List AV → Option (List UInt8)
  | [] => some []
  | .int .u8 n :: l => (toBytes l).bind fun r => some (UInt8.ofNat n.toNat :: r)
  | _ => none
def isBox (σ : Nat → Option Ob) (r : Nat) : Bool := match σ r with | some (.box _) => true | _ => false
def isRow (σ : Nat → Option Ob) (r : Nat) : Bool := match σ r with | some (.row ..) => true | _ => false
def lenAV (P : Program) (σ : Nat → Option Ob) (T : TypeId) (v : AV) (K : Nat → Option β) : Option β :=
  match P.underlying T with
  | some .string => (match v with | .str s => K s.size | _ => none)
  | some (.slice _) => (match v with
    | .list _ xs => K xs.length
    | .nils => K 0
    | .own r => (match σ r with | some (.row _ xs _) => K xs.length | _ => none)
    | .ownp r n => bif isRow σ r then K n else none
    | _ => none)
  | _ => none
/-- A bound, as a place. -/
def bound1 (x : Option AV) (d y : Nat) (K : Nat → Option β) : Option β :=
  match x with
  | none => K d
  | some (.int _ i) => bif decide (0 ≤ i) && decide (i ≤ (y : Int)) then K i.toNat else none
  | _ => none
def sliceL (sz : Nat) (xs : List AV) (lo hi : Option AV) (u : Upd) (K : AV → Upd → Option β) : Option β :=
  bound1 hi xs.length xs.length fun h => bound1 lo 0 h fun l => K (.list sz ((xs.take h).drop l)) u
def sliceK (P : Program) (σ : Nat → Option Ob) (T : TypeId) (x : AV) (lo hi : Option AV) (K : AV → Upd → Option β) : Option β :=
  match P.underlying T with
  | some .string => (match x with
    | .str s => bound1 hi s.size s.size fun h => bound1 lo 0 h fun l => K (.str (s.extract l h)) []
    | _ => none)
  | some (.slice e) => bif P.cellsOf e == 0 then none else (match x with
    | .list sz xs => bif sz == P.cellsOf e then sliceL (P.cellsOf e) xs lo hi [] K else none
    | .nils => bound1 hi 0 0 fun h => bound1 lo 0 h fun l => K .nils []
    | .own r => (match σ r with
      | some (.row e' xs _) => bif e' == e then (match lo with
        | none => bound1 hi xs.length xs.length fun h => K (.ownp r h) []
        | some _ => sliceL (P.cellsOf e) xs lo hi [(r, some (.row e xs true))] K) else none
      | _ => none)
    | .ownp r n => (match σ r with
      | some (.row e' xs _) => bif e' == e then (match lo with
        | none => bound1 hi n n fun h => K (.ownp r h) []
        | some _ => sliceL (P.cellsOf e) (xs.take n) lo hi [(r, some (.row e xs true))] K) else none
      | _ => none)
    | _ => none)
  | _ => none
def fieldOf (P : Program) (S : TypeId) (f : Nat) : Option Field :=
  match P.underlying S with
  | some (.struct fs) => fs.toList[f]?
  | _ => none
def fieldAddrK (P : Program) (σ : Nat → Option Ob) (S : TypeId) (x : AV) (f : Nat) (K : AV → Option β) : Option β :=
  match fieldOf P S f with
  | some fd => bif P.cellsOf fd.type == 0 then none else (match x with
    | .loc r off => bif isBox σ r then K (.loc r (off + fd.offset)) else none
    | .rloc r i off => bif isRow σ r then K (.rloc r i (off + fd.offset)) else none
    | .eptr cs off => K (.eptr cs (off + fd.offset))
    | _ => none)
  | none => none
def idxOf (i : AV) (n : Nat) (K : Nat → Option β) : Option β :=
  match i with
  | .int _ i => bif decide (0 ≤ i) && decide (i < (n : Int)) then K i.toNat else none
  | _ => none
def indexAddrK (P : Program) (σ : Nat → Option Ob) (T : TypeId) (x i : AV) (K : AV → Option β) : Option β :=
  match P.underlying T with
  | some (.slice e) => (match x with
    | .list sz xs => bif (sz == P.cellsOf e) && !(P.cellsOf e == 0) then idxOf i xs.length fun j => (xs[j]?).bind fun y => K (.eptr y.cells 0) else none
    | .own r => (match σ r with | some (.row e' xs _) => bif e' == e then idxOf i xs.length fun j => K (.rloc r j 0) else none | _ => none)
    | .ownp r n => (match σ r with | some (.row e' xs _) => bif e' == e then idxOf i n fun j => K (.rloc r j 0) else none | _ => none)
    | _ => none)
  | some (.array n e) => bif P.cellsOf e == 0 then none else idxOf i n fun j => (match x with
    | .loc r off => bif isBox σ r then K (.loc r (off + j * P.cellsOf e)) else none
    | .eptr cs off => K (.eptr cs (off + j * P.cellsOf e))
    | _ => none)
  | _ => none
def indexK (P : Program) (T : TypeId) (x i : AV) (K : AV → Option β) : Option β :=
  match x with
  | .str s => (match P.underlying T with | some .string => idxOf i s.size fun j => K (.int .u8 (s.data.toList.getD j 0).toNat) | _ => none)
  | _ => none
def loadK (P : Program) (σ : Nat → Option Ob) (T : TypeId) (p : AV) (K : AV → Option β) : Option β :=
  match p with
  | .loc r off => (match σ r with | some (.box cs) => loadT P T (cs.drop off) K | _ => none)
  | .rloc r i off => (match σ r with | some (.row _ xs _) => (xs[i]?).bind fun x => loadTP P T x.cells off K | _ => none)
  | .eptr cs off => loadTP P T cs off K
  | _ => none
/-- Cells put over others, from a place on. -/
def splice (cs : List AV) (off : Nat) (new : List AV) : List AV := cs.take off ++ new ++ cs.drop (off + new.length)
def mkElem (sz : Nat) (cs : List AV) (v : AV) : AV := match v with | .agg _ => .agg cs | _ => (match cs with | [c] => c | _ => .agg cs)
def storeK (P : Program) (σ : Nat → Option Ob) (T : TypeId) (p x : AV) (K : AV → Upd → Option β) : Option β :=
  match p with
  | .loc r off => (match σ r with
    | some (.box cs) => bif (x.cells.length == P.cellsOf T) && decide (0 < P.cellsOf T) && decide (off + x.cells.length ≤ cs.length) then K .junk [(r, some (.box (splice cs off x.cells)))] else none
    | _ => none)
  | .rloc r i off => (match σ r with
    | some (.row e xs false) => frz P σ T x fun x u => (xs[i]?).bind fun y =>
        bif (x.cells.length == P.cellsOf T) && decide (0 < P.cellsOf T) && decide (off + x.cells.length ≤ y.cells.length) && !(u.map (·.1)).contains r then K .junk (u ++ [(r, some (.row e (xs.set i (mkElem (P.cellsOf e) (splice y.cells off x.cells) y)) false))]) else none
    | _ => none)
  | _ => none
/-- The parts of a struct's literal laid over its zero cells. -/
def fillK (place : Nat → Option (Nat × Nat)) (cs : List AV) : List (Nat × AV) → Option (List AV)
  | [] => some cs
  | (i, v) :: l => match place i with
    | some (off, size) => bif (v.cells.length == size) && decide (off + v.cells.length ≤ cs.length) then fillK place (splice cs off v.cells) l else none
    | none => none
def zipParts : List (Nat × Operand) → List AV → List (Nat × AV)
  | (i, _) :: ps, v :: vs => (i, v) :: zipParts ps vs
  | _, _ => []
def fieldPlaces (P : Program) (T : TypeId) : Nat → Option (Nat × Nat) := fun i =>
  match fieldOf P T i with
  | some f => some (f.offset, P.cellsOf f.type)
  | none => none
def buildK (P : Program) (T : TypeId) (ps : List (Nat × AV)) (K : AV → Option β) : Option β :=
  match P.underlying T with
  | some (.struct fs) => bif zeroOk P T && (fs.toList.all fun f => (P.info? f.type).isSome) && (ps.all fun p => p.2.solid) then (fillK (fieldPlaces P T) (zeroAV P T).cells ps).bind fun cs => K (.agg cs) else none
  | _ => none
def setParts (xs : List AV) : List (Nat × AV) → Option (List AV)
  | [] => some xs
  | (i, v) :: l => bif decide (i < xs.length) then setParts (xs.set i v) l else none
def frzParts (P : Program) (σ : Nat → Option Ob) (e : TypeId) : List (Nat × AV) → (List (Nat × AV) → Upd → Option β) → Option β
  | [], K => K [] []
  | (i, v) :: l, K => frz P σ e v fun v' u => bif v'.cells.length == P.cellsOf e then frzParts P σ e l fun l' us => K ((i, v') :: l') (u ++ us) else none
/-- What is put behind. -/
def srcK (P : Program) (σ : Nat → Option Ob) (e : TypeId) (x : AV) (K : List AV → Option β) : Option β :=
  match x with
  | .list sz ys => bif sz == P.cellsOf e then K ys else none
  | .nils => K []
  | .own r => (match σ r with | some (.row e' ys _) => bif e' == e then K ys else none | _ => none)
  | .ownp r n => (match σ r with | some (.row e' ys _) => bif e' == e then K (ys.take n) else none | _ => none)
  | _ => none
def conv (P : Program) (σ : Nat → Option Ob) (src dst : TypeId) (x : AV) (K : AV → Option β) : Option β :=
  match P.underlying dst with
  | some (.int k) => (match x with | .int _ n => bif (P.underlying src).isSome then K (.int k (k.wrap n)) else none | _ => none)
  | some .string => (match P.underlying src with
    | some (.slice e) => (match P.underlying e with
      | some (.int .u8) => bif P.cellsOf e == 1 then srcK P σ e x fun ys => (toBytes ys).bind fun l => K (.str ⟨l.toArray⟩) else none
      | _ => none)
    | some (.int _) => (match x with | .int _ n => K (.str (Utf8.encode n)) | _ => none)
    | some .string => (match x with | .str s => K (.str s) | _ => none)
    | _ => none)
  | some (.slice e) => (match P.underlying src with
    | some .string => (match P.underlying e with
      | some (.int .u8) => (match x with | .str s => bif P.cellsOf e == 1 then K (.list 1 (bytesAV s)) else none | _ => none)
      | _ => none)
    | _ => none)
  | _ => none
def growK (P : Program) (dst : Nat) (e : TypeId) (u : Upd) (xs : List AV) (fz : Bool) (ys : List AV) (K : AV → Upd → New → Option β) : Option β :=
  bif decide ((xs.length + ys.length) * P.bytesOf e ≤ 140737488355328) && decide (xs.length + ys.length ≤ 9223372036854775807) then K (.own dst) u [(dst, .row e (xs ++ ys) fz)] else none
/-- Elements behind a row's. -/
def appendK (P : Program) (σ : Nat → Option Ob) (dst : Nat) (T : TypeId) (s x : AV) (K : AV → Upd → New → Option β) : Option β :=
  match P.underlying T with
  | some (.slice e) => bif zeroOk P e && !(P.cellsOf e == 0) then srcK P σ e x fun ys => (match s with
    | .nils => growK P dst e [] [] false ys K
    | .own r => (match σ r with | some (.row e' xs fz) => bif e' == e then growK P dst e [(r, none)] xs fz ys K else none | _ => none)
    | .ownp r n => (match σ r with | some (.row e' xs false) => bif e' == e then growK P dst e [(r, none)] (xs.take n) false ys K else none | _ => none)
    | _ => none) else none
  | _ => none
def makeK (P : Program) (dst : Nat) (T : TypeId) (l c : AV) (K : AV → Upd → New → Option β) : Option β :=
  match P.underlying T with
  | some (.slice e) => (match l, c with
    | .int _ l, .int _ c => bif decide (0 ≤ l) && decide (l ≤ c) && decide (c * P.bytesOf e ≤ 140737488355328) && decide (c ≤ 9223372036854775807) && zeroOk P e && decide (0 < P.cellsOf e) then K (.own dst) [] [(dst, .row e (List.replicate l.toNat (zeroAV P e)) false)] else none
    | _, _ => none)
  | _ => none

/-- What a call hands back, taken in. -/
def atTup (v : AV) (K : List AV → Option β) : Option β := match v with | .tup l => K l | _ => none
def atCons (l : List AV) (K : AV → List AV → Option β) : Option β := match l with | a :: l => K a l | [] => none
def atNil (l : List AV) (x : Option β) : Option β := match l with | [] => x | _ :: _ => none
def atFresh (e : TypeId) (v : AV) (K : List AV → Option β) : Option β := match v with | .fresh e' xs => bif e' == e then K xs else none | _ => none
def recv1 (P : Program) (fl : Bool) (nm : Nat) (T : TypeId) (r : AV) (K : AV → New → Option β) : Option β :=
  bif fl then (match P.underlying T, r with
    | some (.slice e), .fresh e' xs => bif e' == e then K (.own nm) [(nm, .row e xs false)] else none
    | _, _ => none)
  else bif r.isFresh then none else castTP P T r fun v => K v []
def recvL (P : Program) (nt : Nat) : Nat → List Bool → List TypeId → List AV → (List AV → New → Option β) → Option β
  | _, _, [], rs, K => atNil rs (K [] [])
  | nm, fl, t :: ts, rs, K => atCons rs fun r rs => recv1 P (fl.headD false) nm t r fun v u => recvL P nt (nm + nt) fl.tail ts rs fun l us => K (v :: l) (u ++ us)
def recv (P : Program) (nt : Nat) (fl : List Bool) (dst : Nat) (T : TypeId) (r : AV) (K : AV → New → Option β) : Option β :=
  match P.underlying T with
  | some (.tuple ts) => atTup r fun rs => recvL P nt dst fl ts.toList rs fun l u => bif decide (u.length ≤ 1) && decide (0 < nt) then K (.tup l) u else none
  | some .invalid => atTup r fun rs => atNil rs (K .junk [])
  | _ => bif r.isTup then none else recv1 P (fl.headD false) dst T r K

def callK (C : Cfg) (nt : Nat) (σ : Nat → Option Ob) (dst : Nat) (T : TypeId) (f : FuncId) (ts : List TypeId) (vs : List AV) (cap : List AV) (K : AV → Upd → New → Option β) : Option β :=
  frzL C.P σ ts vs fun as u => (C.kap f (as ++ cap)).bind fun r => recv C.P nt (C.fl f) dst T r fun v n => K v u n
def builtinK (C : Cfg) (σ : Nat → Option Ob) (dst : Nat) (b : Builtin) (ts : List TypeId) (vs : List AV) (K : AV → Upd → New → Option β) : Option β :=
  match b, ts, vs with
  | .len, [t], [v] => lenAV C.P σ t v fun n => K (.int .i64 (n : Int)) [] []
  | .append, [t, t'], [s, x] => bif t == t' then appendK C.P σ dst t s x K else none
  | .max, _, [.int k x, .int k' y] => bif decide (k = k') then K (.int k (if y > x then y else x)) [] [] else none
  | .min, _, [.int k x, .int k' y] => bif decide (k = k') then K (.int k (if y < x then y else x)) [] [] else none
  | _, _, _ => none

def rangeK (P : Program) (dst : Nat) (T : TypeId) (x : AV) (K : AV → Upd → New → Option β) : Option β :=
  match P.underlying T with
  | some .string => (match x with | .str s => K (.itr dst) [] [(dst, .it s 0)] | _ => none)
  | _ => none
def nextK (σ : Nat → Option Ob) (x : AV) (K : AV → Upd → Option β) : Option β :=
  match x with
  | .itr r => (match σ r with
    | some (.it s pos) => bif decide (pos < s.size) then K (.tup [.bool true, .int .i64 pos, .int .i32 (Utf8.decode s pos).1]) [(r, some (.it s (pos + (Utf8.decode s pos).2)))] else K (.tup [.bool false]) []
    | _ => none)
  | _ => none
end

def opnds : Op → List Operand
  | .move x | .assign x | .box _ x | .load _ x | .nilCheck x | .unOp _ _ x | .convert _ _ x | .makeInterface _ x | .fieldAddr _ x _ | .field _ x _ | .range _ x | .next x _ | .extract x _ => [x]
  | .pick c a b => [c, a, b]
  | .build _ ps | .buildSlice _ _ ps => ps.toList.map (·.2)
  | .store _ a v | .binOp _ _ a v _ | .makeSlice _ a v | .indexAddr _ a v | .index _ a v => [a, v]
  | .makeFunc _ first captured => first.toList ++ captured.toList
  | .slice _ x l h _ => x :: ((match l with | some y => [y] | none => []) ++ (match h with | some y => [y] | none => []))
  | .call c => (match c.callee with | .value f => [f] | _ => []) ++ c.args.toList
  | _ => []

section
variable {β : Type}
/-- One operation, on the values of its operands. -/
def opk (C : Cfg) (nt : Nat) (o : Oper) (vs : List AV) (σ : Nat → Option Ob) (K : AV → Upd → New → Option β) : Option β :=
  let dst := o.dst.getD nt
  match o.op, vs with
  | .move _, [v] => K v [] []
  | .assign _, [v] => K v [] []
  | .pick _ _ _, [.bool q, a, b] => (match a, b with
    | .bool x, .bool y => K (.bool (bif q then x else y)) [] []
    | a, b => bif q then K a [] [] else K b [] [])
  | .alloc e, [] => bif zeroOk C.P e then K (.loc dst 0) [] [(dst, .box (zeroAV C.P e).cells)] else none
  | .box e _, [v] => bif (v.cells.length == C.P.cellsOf e) && v.solid && v.names.isEmpty then K (.loc dst 0) [] [(dst, .box v.cells)] else none
  | .build t ps, vs => buildK C.P t (zipParts ps.toList vs) fun v => K v [] []
  | .buildSlice t n ps, vs => (match C.P.underlying t with
    | some (.slice e) => bif decide (n * C.P.cellsOf e ≤ 16777216) && zeroOk C.P e && decide (0 < C.P.cellsOf e) && decide (n ≤ 16777216) then frzParts C.P σ e (zipParts ps.toList vs) fun l u => (setParts (List.replicate n (zeroAV C.P e)) l).bind fun xs => K (.own dst) u [(dst, .row e xs false)] else none
    | _ => none)
  | .load t _, [p] => loadK C.P σ t p fun v => K v [] []
  | .store t _ _, [p, x] => bif x.solid then storeK C.P σ t p x fun v u => K v u [] else none
  | .nilCheck _, [p] => (match p with
    | .loc r off => bif isBox σ r then K (.loc r off) [] [] else none
    | .rloc r i off => bif isRow σ r then K (.rloc r i off) [] [] else none
    | .eptr cs off => K (.eptr cs off) [] []
    | .func (.func f) a b => K (.func (.func f) a b) [] []
    | _ => none)
  | .binOp op t xo yo _, [x, y] => bop C.P op t xo yo x y fun v => K v [] []
  | .unOp op _ _, [x] => uop op x fun v => K v [] []
  | .convert s d _, [x] => conv C.P σ s d x fun v => K v [] []
  | .makeFunc (.func f) first captured, vs => bif vs.all AV.pure1 then K (.func (.func f) (vs.take first.size) (vs.drop first.size)) [] [] else none
  | .makeSlice t _ _, [l, c] => makeK C.P dst t l c K
  | .slice t _ lo hi none, vs => (match lo, hi, vs with
    | none, none, [x] => sliceK C.P σ t x none none fun v u => K v u []
    | some _, none, [x, l] => sliceK C.P σ t x (some l) none fun v u => K v u []
    | none, some _, [x, h] => sliceK C.P σ t x none (some h) fun v u => K v u []
    | some _, some _, [x, l, h] => sliceK C.P σ t x (some l) (some h) fun v u => K v u []
    | _, _, _ => none)
  | .fieldAddr s _ f, [x] => fieldAddrK C.P σ s x f fun v => K v [] []
  | .indexAddr t _ _, [x, i] => indexAddrK C.P σ t x i fun v => K v [] []
  | .index t _ _, [x, i] => indexK C.P t x i fun v => K v [] []
  | .extract _ i, [.tup l] => (match l[i]? with | some v => K v [] [] | none => none)
  | .range t _, [x] => rangeK C.P dst t x K
  | .next _ true, [x] => nextK σ x fun v u => K v u []
  | .call c, vs => (match c.callee, vs with
    | .value _, .func (.func f) first cap :: as => bif first.isEmpty then callK C nt σ dst o.type f c.argTypes.toList as cap K else none
    | .builtin b, vs => builtinK C σ dst b c.argTypes.toList vs K
    | _, _ => none)
  | _, _ => none

def restr (l : List Nat) (σ : Nat → Option Ob) (r : Nat) : Option Ob := bif l.contains r then σ r else none
def applyU : List (Option Ob) → Upd → List (Option Ob)
  | ob, [] => ob
  | ob, (r, x) :: u => applyU (ob.set r x) u
def purge (ns : List Nat) (v : AV) : AV := bif v.names.any fun r => ns.contains r then .junk else v
def purgeOb (ns : List Nat) : Option Ob → Option Ob
  | some (.box cs) => some (.box (cs.map (purge ns)))
  | o => o
def addN : List (Option Ob) → New → List (Option Ob)
  | ob, [] => ob
  | ob, (r, x) :: n => addN (ob.set r (some x)) n
def setD (sl : List AV) (dst : Option Tmp) (v : AV) : List AV := match dst with | some t => sl.set t v | none => sl
/-- What an operation leaves: what was there is turned; of what is new every elder mention goes; the value goes to its place. -/
def Fr.put (fr : Fr) (dst : Option Tmp) (v : AV) (u : Upd) : New → Fr
  | [] => { sl := setD fr.sl dst v, ob := applyU fr.ob u }
  | x :: n => { sl := setD (fr.sl.map (purge (x.1 :: n.map (·.1)))) dst v, ob := addN ((applyU fr.ob u).map (purgeOb (x.1 :: n.map (·.1)))) (x :: n) }
/-- What an operation looked at, and what it left. -/
abbrev Tr := List Nat × AV × Upd × New
def stepU (C : Cfg) (o : Oper) (fr : Fr) (K : Fr → Tr → Option β) : Option β :=
  let vs := (opnds o.op).map (fr.val C)
  let ns := namesL vs
  opk C fr.sl.length o vs (restr ns fr.obj) fun v u n => bif n.all fun x => decide (x.1 < 4 * fr.sl.length) then K (fr.put o.dst v u n) (ns, v, u, n) else none
/-- One operation; a guard that isn't met leaves it out. -/
def step (C : Cfg) (all : List Oper) (o : Oper) (fr : Fr) (K : Fr → Tr → Option β) : Option β :=
  match o.guard with
  | none => stepU C o fr K
  | some (j, want) => (match (all[j]?).bind (·.dst) with
    | some t => (match fr.get t with
      | .bool q => bif q then (bif want then stepU C o { fr with sl := fr.sl.set t (.bool true) } K else K (Fr.put { fr with sl := fr.sl.set t (.bool true) } o.dst .und [] []) ([], .und, [], []))
                   else (bif want then K (Fr.put { fr with sl := fr.sl.set t (.bool false) } o.dst .und [] []) ([], .und, [], []) else stepU C o { fr with sl := fr.sl.set t (.bool false) } K)
      | .und => K (Fr.put { fr with sl := fr.sl.set t .und } o.dst .und [] []) ([], .und, [], [])
      | _ => none)
    | none => none)
def ops (C : Cfg) (all : List Oper) : List Oper → Fr → List Tr → (Fr → List Tr → Option β) → Option β
  | [], fr, tr, K => K fr tr
  | o :: l, fr, tr, K => step C all o fr fun fr' t => ops C all l fr' (tr ++ [t]) K

def befores (l : List Oper) : List Nat :=
  l.foldl (fun acc o => acc ++ [o.after.toList.foldl (fun s e => bif Region.binds .any e then s ||| 2 ^ e.on ||| acc.getD e.on 0 else s) 0]) []
def looks (all : List Oper) (o : Oper) : List Nat :=
  ((opnds o.op).filterMap fun | .tmp t => some t | _ => none) ++ (match o.guard with | some (j, _) => ((all[j]?).bind (·.dst)).toList | none => [])
def disj (a b : List Nat) : Bool := a.all fun x => !b.contains x
def obNames : Option Ob → List Nat
  | some (.box cs) => namesL cs
  | _ => []
def uNames : Upd → List Nat
  | [] => []
  | x :: u => obNames x.2 ++ uNames u
def nNames : New → List Nat
  | [] => []
  | x :: n => obNames (some x.2) ++ nNames n
def obsNames : List (Option Ob) → List Nat
  | [] => []
  | x :: l => obNames x ++ obsNames l
def frNames (fr : Fr) : List Nat := namesL fr.sl ++ obsNames fr.ob
def trNew (t : Tr) : List Nat := t.2.2.2.map (·.1)
def trKeys (t : Tr) : List Nat := t.2.2.1.map (·.1) ++ t.2.2.2.map (·.1)
def trNames (t : Tr) : List Nat := t.2.1.names ++ (uNames t.2.2.1 ++ nNames t.2.2.2)
def dstIn (d : Option Tmp) (l : List Nat) : Bool := match d with | some d => l.contains d | none => false
def dstEq (d d' : Option Tmp) : Bool := match d, d' with | some d, some d' => d == d' | _, _ => false
/-- Two operations that may stand in either order. -/
def apart (all : List Oper) (x y : Oper) (a b : Tr) : Bool :=
  !dstIn x.dst (looks all y) && !dstIn y.dst (looks all x) && !dstEq x.dst y.dst && disj (trKeys a) b.1 && disj (trKeys b) a.1 && disj (trKeys a) (trKeys b) && disj (trNew a) (trNames b)
def pairs (l : List Oper) (o : Oper) (t : Tr) (b : Nat) : Nat → List Oper → List Tr → Bool
  | i, x :: xs, s :: ss => disj (trNew t) (trNames s) && (Nat.testBit b i || apart l x o s t) && pairs l o t b (i + 1) xs ss
  | _, _, _ => true
def drawGo (fr : Fr) (l : List Oper) (tr : List Tr) (bs : List Nat) : Nat → List Oper → List Tr → Bool
  | j, o :: os, t :: ts => (o.after.toList.all fun e => !Region.binds .any e || decide (e.on < j)) && disj (trNew t) (frNames fr) && disj (trNew t) (uNames t.2.2.1) && pairs l o t (bs.getD j 0) 0 (l.take j) (tr.take j) && drawGo fr l tr bs (j + 1) os ts
  | _, _, _ => true
def drawOk (fr : Fr) (l : List Oper) (tr : List Tr) : Bool := drawGo fr l tr (befores l) 0 l tr

/-- A frame in order: what is told stays, all else is let go. The first frame is what is left to take from. -/
def canonSlot (P : Program) (d : Dir) (t : Nat) (md : Md) (fr new : Fr) : Fr × Fr :=
  match md with
  | .keep => (fr, bif (fr.get t).names.all fun r => d.boxes.contains r then { new with sl := new.sl.set t (fr.get t) } else new)
  | .frz => (match fr.get t with
    | .own r => (match fr.obj r with | some (.row e xs true) => (fr, { new with sl := new.sl.set t (.list (P.cellsOf e) xs) }) | _ => (fr, new))
    | .ownp r n => (match fr.obj r with | some (.row e xs true) => (fr, { new with sl := new.sl.set t (.list (P.cellsOf e) (xs.take n)) }) | _ => (fr, new))
    | .list sz xs => (fr, { new with sl := new.sl.set t (.list sz xs) })
    | _ => (fr, new))
  | .own e fz => bif d.boxes.contains t || decide (new.ob.length ≤ t) || (new.obj t).isSome then (fr, new) else (match fr.get t with
    | .nils => bif P.cellsOf e == 0 then (fr, new) else (fr, { sl := new.sl.set t (.own t), ob := new.ob.set t (some (.row e [] fz)) })
    | .own r => (match fr.obj r with | some (.row e' xs fz') => bif e' == e then ({ fr with ob := fr.ob.set r none }, { sl := new.sl.set t (.own t), ob := new.ob.set t (some (.row e xs (fz || fz'))) }) else (fr, new) | _ => (fr, new))
    | .ownp r n => (match fr.obj r with | some (.row e' xs false) => bif e' == e then ({ fr with ob := fr.ob.set r none }, { sl := new.sl.set t (.own t), ob := new.ob.set t (some (.row e (xs.take n) fz)) }) else (fr, new) | _ => (fr, new))
    | _ => (fr, new))
def canonFold (P : Program) (d : Dir) : List (Nat × Md) → Fr × Fr → Fr × Fr
  | [], x => x
  | (t, md) :: l, x => canonFold P d l (canonSlot P d t md x.1 x.2)
def keepOb (d : Dir) : Option Ob → Option Ob
  | some (.box cs) => some (.box (cs.map fun c => bif c.names.all fun r => d.boxes.contains r then c else .junk))
  | o => o
def keepBoxes (d : Dir) : List Nat → Fr → Fr → Fr
  | [], fr, new => new
  | r :: l, fr, new => keepBoxes d l fr { new with ob := new.ob.set r (keepOb d (fr.obj r)) }
def Md.isFrz : Md → Bool
  | .frz => true
  | _ => false
def weakOb : Option Ob → Option Ob
  | some (.row e xs _) => some (.row e xs true)
  | o => o
def canonD (P : Program) (d : Dir) (fr : Fr) : Fr :=
  let fr := bif d.slots.any fun x => x.2.isFrz then { fr with ob := fr.ob.map weakOb } else fr
  let x := canonFold P d d.slots (fr, { sl := List.replicate fr.sl.length .junk, ob := List.replicate fr.ob.length none })
  keepBoxes d d.boxes x.1 x.2
def canon (C : Cfg) (id : Option Nat) (fr : Fr) : Fr :=
  match id.bind C.dirs with
  | some d => canonD C.P d fr
  | none => fr

inductive EX where
  | normal
  | exit (id : Nat)
  | ret
  deriving Inhabited
abbrev Kont (β : Type) := EX → Fr → Option β
def seqK (k : Fr → Option β) (K : Kont β) : Kont β
  | .normal, fr => k fr
  | e, fr => K e fr
def blkK (id : Nat) (K : Kont β) : Kont β
  | .exit j, fr => bif j == id then K .normal fr else K (.exit j) fr
  | e, fr => K e fr
def loop (body : Fr → Kont β → Option β) (can : Fr → Fr) : Nat → Fr → Kont β → Option β
  | 0, _, _ => none
  | n + 1, fr, K => body fr (seqK (fun fr' => loop body can n (can fr') K) K)
def firstReg : Code → Option Nat
  | .region id _ _ => some id
  | .seq a b => (match firstReg a with | some i => some i | none => firstReg b)
  | .block _ c | .loop c | .scope c => firstReg c
  | _ => none
def region (C : Cfg) (id : Nat) (os : List Oper) (draw : Bool) (fr : Fr) (K : Kont β) : Option β :=
  bif draw then ops C os os (canon C (some id) fr) [] (fun fr' tr => bif drawOk (canon C (some id) fr) os tr then K .normal fr' else none)
  else ops C os os (canon C (some id) fr) [] (fun fr _ => K .normal fr)
def code (C : Cfg) : Code → Fr → Kont β → Option β
  | .skip, fr, K => K .normal fr
  | .region id os draw, fr, K => region C id os.toList draw fr K
  | .seq a b, fr, K => code C a fr (seqK (fun fr' => code C b fr' K) K)
  | .cond c x y, fr, K => (match fr.val C c with | .bool q => bif q then code C x fr K else code C y fr K | _ => none)
  | .block id c, fr, K => code C c fr (blkK id K)
  | .loop c, fr, K => loop (fun fr K => code C c fr K) (canon C (firstReg c)) C.k (canon C (firstReg c) fr) K
  | .exit id, fr, K => K (.exit id) fr
  | .label _, fr, K => K .normal fr
  | .ret, fr, K => K .ret fr
  | .scope c, fr, K => code C c fr K
  | _, _, _ => none

/-- Results, made ready to be handed back: a row of one's own goes as new, all else is frozen. -/
def resL (P : Program) : List Bool → List TypeId → List AV → Fr → (List AV → Option β) → Option β
  | _, [], [], _, K => K []
  | fl, t :: ts, v :: vs, fr, K => bif fl.headD false then (match v with
      | .own r => (match fr.obj r with | some (.row e xs false) => resL P fl.tail ts vs { fr with ob := fr.ob.set r none } fun l => K (.fresh e xs :: l) | _ => none)
      | .ownp r n => (match fr.obj r with | some (.row e xs false) => resL P fl.tail ts vs { fr with ob := fr.ob.set r none } fun l => K (.fresh e (xs.take n) :: l) | _ => none)
      | .nils => (match P.underlying t with | some (.slice e) => bif P.cellsOf e == 0 then none else resL P fl.tail ts vs fr fun l => K (.fresh e [] :: l) | _ => none)
      | _ => none)
    else frz P fr.obj t v fun v' u => resL P fl.tail ts vs { fr with ob := applyU fr.ob u } fun l => K (v' :: l)
  | _, _, _, _, _ => none
def resVal (P : Program) (fr : Fr) : List ResultVar → (List AV → Option β) → Option β
  | [], K => K []
  | .tmp t :: l, K => resVal P fr l fun vs => K (fr.get t :: vs)
  | .cell a T :: l, K => loadK P fr.obj T (fr.get a) fun v => resVal P fr l fun vs => K (v :: vs)
def retK (C : Cfg) (fl : List Bool) (fn : Func) (K : AV → Option β) : Kont β
  | .exit _, _ => none
  | _, fr => resVal C.P fr fn.results.toList fun vs => resL C.P fl fn.resultTypes.toList vs fr fun rs => (match rs with | [r] => K r | rs => K (.tup rs))
def entry (fn : Func) (args : List AV) : Fr :=
  { sl := args ++ List.replicate (fn.ntmps - args.length) .junk, ob := List.replicate (4 * fn.ntmps) none }

inductive Cx where
  | seqR (c : Code)
  | blk (id : Nat)
  | lp (c : Code) (n : Nat)
def plug (C : Cfg) (K : Kont β) : List Cx → Kont β
  | [] => K
  | .seqR c :: l => seqK (fun fr => code C c fr (plug C K l)) (plug C K l)
  | .blk id :: l => blkK id (plug C K l)
  | .lp c n :: l => seqK (fun fr' => loop (fun fr K => code C c fr K) (canon C (firstReg c)) n (canon C (firstReg c) fr') (plug C K l)) (plug C K l)
end
/-- A part of a code. -/
def sel : Code → List Nat → Code
  | c, [] => c
  | .seq a b, i :: l => if i = 0 then sel a l else sel b l
  | .cond _ a b, i :: l => if i = 0 then sel a l else sel b l
  | .block _ c, _ :: l => sel c l
  | .loop c, _ :: l => sel c l
  | .scope c, _ :: l => sel c l
  | c, _ => c
/-- What a function answers, at these values. -/
def body (C : Cfg) (fl : List Bool) (fn : Func) (args : List AV) : Option AV :=
  match fn.body with
  | some c => bif args.length == fn.params.size + fn.nfree && decide (args.length ≤ fn.ntmps) then code C c (entry fn args) (retK C fl fn some) else none
  | none => none
end Go.Proofs.YtilbahgfjfcikaaDoor.Eng
