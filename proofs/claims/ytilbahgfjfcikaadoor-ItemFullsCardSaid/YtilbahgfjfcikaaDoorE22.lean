/- The engine, part 22: short words in which the printer of equations writes; a base that is open at its given functions. -/
import Derived.Test.YtilbahgfjfcikaaDoorE21
import Derived.IntWalk
set_option linter.unusedVariables false
namespace Go.Proofs.YtilbahgfjfcikaaDoor.Eng
open Go

def str (l : List UInt8) : ByteArray := ⟨l.toArray⟩
/-- The byte at a place, as a number. -/
def byteAt (s : ByteArray) (i : Nat) : Int := ((UInt8.toNat (List.getD (Array.toList (ByteArray.data s)) i 0) : Nat) : Int)
section
variable {β : Type}
def callB (x : Option AV) (K : Bool → Option β) : Option β := x.bind fun r => bif AV.isTup r then none else bif AV.isFresh r then none else atBool r K
def callI (k : IntKind) (x : Option AV) (K : Int → Option β) : Option β := x.bind fun r => bif AV.isTup r then none else bif AV.isFresh r then none else atInt k r K
def callS (x : Option AV) (K : ByteArray → Option β) : Option β := x.bind fun r => bif AV.isTup r then none else bif AV.isFresh r then none else atStr r K
def callL (sz : Nat) (x : Option AV) (K : List AV → Option β) : Option β := x.bind fun r => bif AV.isTup r then none else bif AV.isFresh r then none else atList sz r K
def callG (n : Nat) (x : Option AV) (K : List AV → Option β) : Option β := x.bind fun r => bif AV.isTup r then none else bif AV.isFresh r then none else atAgg n r K
def callV (x : Option AV) (K : AV → Option β) : Option β := x.bind fun r => bif AV.isTup r then none else bif AV.isFresh r then none else K r
def callF (e : TypeId) (x : Option AV) (K : List AV → Option β) : Option β := x.bind fun r => bif AV.isTup r then none else atFresh e r K
def callT (x : Option AV) (K : List AV → Option β) : Option β := x.bind fun r => atTup r K
def tupB (rs : List AV) (K : Bool → List AV → Option β) : Option β := atCons rs fun r t => bif AV.isFresh r then none else atBool r fun b => K b t
def tupI (k : IntKind) (rs : List AV) (K : Int → List AV → Option β) : Option β := atCons rs fun r t => bif AV.isFresh r then none else atInt k r fun b => K b t
def tupS (rs : List AV) (K : ByteArray → List AV → Option β) : Option β := atCons rs fun r t => bif AV.isFresh r then none else atStr r fun b => K b t
def tupL (sz : Nat) (rs : List AV) (K : List AV → List AV → Option β) : Option β := atCons rs fun r t => bif AV.isFresh r then none else atList sz r fun b => K b t
def tupG (n : Nat) (rs : List AV) (K : List AV → List AV → Option β) : Option β := atCons rs fun r t => bif AV.isFresh r then none else atAgg n r fun b => K b t
def tupV (rs : List AV) (K : AV → List AV → Option β) : Option β := atCons rs fun r t => bif AV.isFresh r then none else K r t
def tupF (e : TypeId) (rs : List AV) (K : List AV → List AV → Option β) : Option β := atCons rs fun r t => atFresh e r fun b => K b t
def cellB (cs : List AV) (off : Nat) (K : Bool → Option β) : Option β := cellAt cs off fun c => atBool c K
def cellI (k : IntKind) (cs : List AV) (off : Nat) (K : Int → Option β) : Option β := cellAt cs off fun c => atInt k c K
def cellS (cs : List AV) (off : Nat) (K : ByteArray → Option β) : Option β := cellAt cs off fun c => atStr c K
def cellL (sz : Nat) (cs : List AV) (off : Nat) (K : List AV → Option β) : Option β := cellAt cs off fun c => atList sz c K

variable {K1 : Bool → Option β} {K2 : Int → Option β} {K3 : ByteArray → Option β} {K4 : List AV → Option β} {K5 : AV → Option β}
variable {J1 : Bool → List AV → Option β} {J2 : Int → List AV → Option β} {J3 : ByteArray → List AV → Option β} {J4 : List AV → List AV → Option β} {J5 : AV → List AV → Option β}
theorem callB_ok (b : Bool) : callB (some (.bool b)) K1 = K1 b := rfl
theorem callI_ok (k : IntKind) (n : Int) : callI k (some (.int k n)) K2 = K2 n := by simp [callI, AV.isTup, AV.isFresh, atInt]
theorem callS_ok (s : ByteArray) : callS (some (.str s)) K3 = K3 s := rfl
theorem callL_ok (sz : Nat) (l : List AV) : callL sz (some (.list sz l)) K4 = K4 l := by simp [callL, AV.isTup, AV.isFresh, atList]
theorem callF_ok (e : TypeId) (l : List AV) : callF e (some (.fresh e l)) K4 = K4 l := by simp [callF, AV.isTup, atFresh]
theorem callT_ok (l : List AV) : callT (some (.tup l)) K4 = K4 l := rfl
theorem tupB_ok (b : Bool) (t : List AV) : tupB (.bool b :: t) J1 = J1 b t := rfl
theorem tupI_ok (k : IntKind) (n : Int) (t : List AV) : tupI k (.int k n :: t) J2 = J2 n t := by simp [tupI, atCons, AV.isFresh, atInt]
theorem tupS_ok (s : ByteArray) (t : List AV) : tupS (.str s :: t) J3 = J3 s t := rfl
theorem tupL_ok (sz : Nat) (l t : List AV) : tupL sz (.list sz l :: t) J4 = J4 l t := by simp [tupL, atCons, AV.isFresh, atList]
theorem tupF_ok (e : TypeId) (l t : List AV) : tupF e (.fresh e l :: t) J4 = J4 l t := by simp [tupF, atCons, atFresh]
theorem atNil_ok (x : Option β) : atNil [] x = x := rfl
theorem cellB_0 (b : Bool) (cs : List AV) : cellB (.bool b :: cs) 0 K1 = K1 b := rfl
theorem cellI_0 (k : IntKind) (n : Int) (cs : List AV) : cellI k (.int k n :: cs) 0 K2 = K2 n := by simp [cellI, cellAt, atInt]
theorem cellS_0 (s : ByteArray) (cs : List AV) : cellS (.str s :: cs) 0 K3 = K3 s := rfl
theorem cellL_0 (sz : Nat) (l cs : List AV) : cellL sz (.list sz l :: cs) 0 K4 = K4 l := by simp [cellL, cellAt, atList]
theorem cellB_s (c : AV) (cs : List AV) (n : Nat) : cellB (c :: cs) (n + 1) K1 = cellB cs n K1 := rfl
theorem cellI_s (k : IntKind) (c : AV) (cs : List AV) (n : Nat) : cellI k (c :: cs) (n + 1) K2 = cellI k cs n K2 := rfl
theorem cellS_s (c : AV) (cs : List AV) (n : Nat) : cellS (c :: cs) (n + 1) K3 = cellS cs n K3 := rfl
theorem cellL_s (sz : Nat) (c : AV) (cs : List AV) (n : Nat) : cellL sz (c :: cs) (n + 1) K4 = cellL sz cs n K4 := rfl
end
def fillS : List (Nat × AV) → List AV → List AV
  | [], l => l
  | (t, v) :: r, l => fillS r (l.set t v)
def fillO : List (Nat × Ob) → List (Option Ob) → List (Option Ob)
  | [], l => l
  | (t, v) :: r, l => fillO r (l.set t (some v))
/-- A frame, told by what is in it. -/
def mkFr (n : Nat) (sl : List (Nat × AV)) (ob : List (Nat × Ob)) : Fr := { sl := fillS sl (List.replicate n .junk), ob := fillO ob (List.replicate (4 * n) none) }

/-- What a claim brings of its own: the functions that are evaluated by their code, and those that are given. -/
structure Ext where
  fs : List FuncId
  isBase : FuncId → Bool
  base : FuncId → List AV → Option AV
theorem Base.kap_at {B : Base} {n : Nat} {f : FuncId} (h1 : B.isBase f = false) (h2 : B.fs.contains f = true) (args : List AV) : B.kap (n + 1) f args = B.at (B.kap n) f args := by
  show (bif B.isBase f then B.base f args else bif B.fs.contains f then B.at (B.kap n) f args else none) = _
  rw [h1, h2]
  rfl
theorem Base.kap_base {B : Base} {n : Nat} {f : FuncId} (h1 : B.isBase f = true) (args : List AV) : B.kap n f args = B.base f args := by
  cases n with
  | zero => show (bif B.isBase f then B.base f args else none) = _; rw [h1]; rfl
  | succ n => show (bif B.isBase f then B.base f args else bif B.fs.contains f then B.at (B.kap n) f args else none) = _; rw [h1]; rfl

/-! Texts and bytes. -/
theorem str_size (l : List UInt8) : (str l).size = l.length := (rfl)
theorem str_inj {l m : List UInt8} : str l = str m ↔ l = m := by simp [str]
theorem str_dec (l m : List UInt8) : decide (str l = str m) = decide (l = m) := by rw [Bool.eq_iff_iff]; simp [str_inj]
theorem str_app (l m : List UInt8) : str l ++ str m = str (l ++ m) := by
  apply ByteArray.ext
  simp [str]
theorem str_ext (l : List UInt8) (a b : Nat) : (str l).extract a b = str ((l.take b).drop a) := by
  apply ByteArray.ext
  simp only [str, ByteArray.data_extract, List.extract_toArray, List.extract_eq_take_drop]
  congr 1
  rw [List.drop_take]
theorem str_byte (l : List UInt8) (i : Nat) : byteAt (str l) i = ((l.getD i 0).toNat : Int) := (rfl)
theorem str_list (l : List UInt8) : (str l).toList = l := by rw [ByteArray.toList_eq]; rfl
theorem str_of (s : ByteArray) : ∃ l, s = str l := ⟨s.data.toList, by cases s; simp [str]⟩
theorem str_bytes (l : List UInt8) : bytesAV (str l) = l.map byteAV := by unfold bytesAV; rw [str_list]
theorem toBytes_map : ∀ l : List UInt8, toBytes (l.map byteAV) = some l
  | [] => rfl
  | b :: l => by
    show (toBytes (l.map byteAV)).bind (fun r => some (UInt8.ofNat ((b.toNat : Int)).toNat :: r)) = _
    rw [toBytes_map l]
    simp
theorem bif_dec {α : Type} (p : Prop) [Decidable p] (x y : α) : (bif decide p then x else y) = if p then x else y := by by_cases h : p <;> simp [h]
theorem i64w {x : Int} (h : -9223372036854775808 ≤ x ∧ x ≤ 9223372036854775807) : IntKind.wrap .i64 x = x := IntWalk.i64_in x h
/-- A place of a list that was mapped. -/
theorem get_map {α β : Type} (f : α → AV) (l : List α) (i : Nat) (K : AV → Option β) : ((l.map f)[i]?).bind K = (l[i]?).bind fun x => K (f x) := by
  rw [List.getElem?_map]
  cases l[i]? <;> rfl
end Go.Proofs.YtilbahgfjfcikaaDoor.Eng
